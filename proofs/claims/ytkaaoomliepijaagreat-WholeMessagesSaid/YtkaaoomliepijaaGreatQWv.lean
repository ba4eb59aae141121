/-
  The post's deliver.
  The post's take.
  The post's travel.
-/
import Derived.Test.YtkaaoomliepijaaGreatQWp
namespace Go.Proofs.YtkaaoomliepijaaGreat
open Go.RowKit
set_option linter.unusedVariables false

theorem deliv_rd (t : Wt) (pl o n : Nat) : (t.deliv pl o n).rd = t.rd := by
  unfold Wt.deliv
  repeat' split
  all_goals rfl
theorem fl_cells (w : World) (pl : Int) (a : Option Addr) (n c : Nat) : Blk (w.alloc (.cells #[.int .i64 pl, .slice a n c] 38)) w.heap.size 38 [.int .i64 pl, .slice a n c] := Blk.new w 38 [.int .i64 pl, .slice a n c]
set_option maxHeartbeats 8000000 in
set_option maxRecDepth 100000 in
theorem deliver_w (w : World) (B pb tick L o n : Nat) (col : Nat → Nat) (T : Nat → Int) (x : PoV) (f : Fl) (h : PoS w B col T x pb tick) (I : WtI L x.t) (hL : L ≤ 1900) (hT : IsT T) (hf : Rw (Value.int .u8) 5 w B (.slice f.a f.d.length f.c) f.d) (hd : f.d = encH o n ++ segT T o n) (hn1 : 1 ≤ n) (hn2 : n ≤ 24) (hon : o + n ≤ x.t.tp) (hpl : f.pl ≤ 1) :
    Calls Tryz.prog 10 #[.pointer (some ⟨pb, 0, none⟩), .agg #[.int .i64 f.pl, .slice f.a f.d.length f.c]] w fun e w' => e = .returned (.tuple #[]) ∧ ∃ col', PoS w' B col' T { x with t := x.t.deliv f.pl o n } pb tick := by
  have a3 := I.a3; have a4 := I.a4
  have B1 := alloc_belQ w (.cells #[.int .i64 f.pl, .slice f.a f.d.length f.c] 38)
  have DC := decode_any (w.alloc (.cells #[.int .i64 f.pl, .slice f.a f.d.length f.c] 38)) o B (.slice f.a f.d.length f.c) (segT T o n) (by rw [segT_len, ← hd]; exact hf.below B1) (segT_isB hT o n) (by omega) (by rw [segT_len]; omega) (by rw [segT_len]; omega)
  replace DC := Lib.hid DC
  obtain ⟨colA, hcA⟩ : ∃ colA, colA = paint w col 40 := ⟨_, rfl⟩
  have hA0 : colA w.heap.size = 40 := by rw [hcA]; exact paint_new (Nat.le_refl _)
  have P1 := Lib.hid (PoF.bel (col' := colA) h B1 (fun k hk => by rw [hcA]; exact paint_old hk))
  have F1 := Lib.hid (fl_cells w f.pl f.a f.d.length f.c)
  have II := Lib.hid I
  have hpz := h.p.lt
  have f1 : (w.alloc (.cells #[.int .i64 f.pl, .slice f.a f.d.length f.c] 38)).cell? ⟨w.heap.size, 1, none⟩ = some (.slice f.a f.d.length f.c) := F1.out.cell rfl
  clear h hf hd B1 I
  generalize f.d.length = fn at *
  go_enter Tryz.func10, Tryz.ntmps10
  go_wp2_with fail
  refine DC.out.mono ?_
  rintro e w2 ⟨cv, rfl, hr, hB⟩
  obtain ⟨ca, cc, rfl, -⟩ := id hr
  rw [segT_len] at hr ⊢
  have hz1 : (w.alloc (.cells #[.int .i64 f.pl, .slice f.a fn f.c] 38)).heap.size = w.heap.size + 1 := by simp
  have hz2 := hB.size
  rw [hz1] at hz2
  obtain ⟨col2, hc2⟩ : ∃ col2, col2 = paint (w.alloc (.cells #[.int .i64 f.pl, .slice f.a fn f.c] 38)) colA 40 := ⟨_, rfl⟩
  have P2 := P1.out.bel (col' := col2) hB (fun k hk => by rw [hc2]; exact paint_old hk)
  have F2 := F1.out.bel hB
  have C2 : col2 (ca.getD default).block = 40 := by
    obtain ⟨g, sp, c', e1, e2, e3⟩ := Rw.pos hr (by intro e; have := segT_len T o n; rw [e] at this; simp at this; omega)
    injection e1 with e1 _ _
    rw [e1, hc2, paint_new (by show _ ≤ g; exact e2)]
  have A3 := alloc_belQ w2 (.cells #[.int .i64 o, .slice ca n cc, .bool false] 67)
  have P3 := Lib.hid (P2.bel0 A3)
  have F3 := Lib.hid (F2.bel A3)
  have G3 := Lib.hid (sg_cells3 w2 o ca n cc)
  have D3 := Lib.hid ((hr.sl).below A3)
  have pz2 := P2.p.lt
  have pf2 := P3.out.p.free
  have c10 : (w2.alloc (.cells #[.int .i64 o, .slice ca n cc, .bool false] 67)).cell? ⟨pb, 10, none⟩ = some (.bool true) := P3.out.p.cell rfl
  have hA1 : col2 w.heap.size = 40 := by rw [hc2, paint_old (by omega)]; exact hA0
  have hA2 : col2 w2.heap.size = 40 := by rw [hc2]; exact paint_new (by omega)
  clear hr hB P2 F2 A3 DC P1 F1 f1
  go_upto_region 2 with (fail)
  generalize hw3 : w2.alloc (.cells #[.int .i64 o, .slice ca n cc, .bool false] 67) = w3 at *
  have hz3 : w3.heap.size = w2.heap.size + 1 := by rw [← hw3]; simp
  have pz3 := P3.out.p.lt
  replace hw3 := Lib.hid hw3
  have P4 := Lib.hid (P3.out.set 10 (.bool true))
  have F4 := Lib.hid (F3.out.setO (.bool true) (a := ⟨pb, 10, none⟩) (by dsimp only; omega))
  have G4 := Lib.hid (G3.out.setO (.bool true) (a := ⟨pb, 10, none⟩) (by dsimp only; omega))
  have D4 := Lib.hid (D3.out.set ⟨pb, 10, none⟩ (.bool true) (fun hne e => by
    dsimp only at e
    have := P3.out.c
    rw [← e, C2] at this
    omega))
  replace C2 := Lib.hid C2
  clear P3 F3 G3 D3 hc2
  go_upto_region 3 with (fail)
  generalize w3.setCell ⟨pb, 10, none⟩ (.bool true) = w4 at *
  have RV := Lib.hid (fun w' (q : Below w4.heap.size w4 w') => receive_po (P4.out.bel0 q) II.out hL hT f.pl o n cc ca hpl hon (by omega) (D4.out.below q) (fun _ => by rw [C2.out]; decide))
  have z2 : w4.cell? ⟨pb, 2, none⟩ = some (.pointer (some ⟨x.eb, 0, none⟩)) := P4.out.p.cell rfl
  have z0 := F4.out.cell (i := 0) rfl
  have y0 := G4.out.cell (i := 0) rfl
  have y1 := G4.out.cell (i := 1) rfl
  have y2 := G4.out.cell (i := 2) rfl
  refine wp_region_allH (fun wx => wx.cell? ⟨pb, 2, none⟩ = some (.pointer (some ⟨x.eb, 0, none⟩)) ∧ wx.cell? ⟨w.heap.size, 0, none⟩ = some (.int .i64 f.pl) ∧ wx.cell? ⟨w2.heap.size, 0, none⟩ = some (.int .i64 o) ∧ wx.cell? ⟨w2.heap.size, 1, none⟩ = some (.slice ca n cc) ∧ wx.cell? ⟨w2.heap.size, 2, none⟩ = some (.bool false)) 9 (by kernel_rfl) rfl ?_ (fun hHeld => ?_)
  · (exact ⟨z2, z0, y0, y1, y2⟩)
  refine wpAnyH_takeG (i := 0) (v := ?_) rfl (by kernel_rfl) (by kernel_rfl) (by kernel_rfl) (fun _ _ _ h => h) rfl ?_ hHeld ?_
  rotate_left
  · intro w hSw
    try dsimp only at hSw
    go_simp
    all_goals with_reducible rfl
  try simp only [Act.put, List.setIfInBounds_toArray, List.set_cons_zero, List.set_cons_succ]
  refine wpAnyH_takeG (i := 1) (v := ?_) rfl (by kernel_rfl) (by kernel_rfl) (by kernel_rfl) (fun _ _ _ h => h) rfl ?_ hHeld ?_
  rotate_left
  · intro w hSw
    try dsimp only at hSw
    go_simp
    all_goals with_reducible rfl
  try simp only [Act.put, List.setIfInBounds_toArray, List.set_cons_zero, List.set_cons_succ]
  refine wpAnyH_takeG (i := 2) (v := ?_) rfl (by kernel_rfl) (by kernel_rfl) (by kernel_rfl) (fun _ _ _ h => h) rfl ?_ hHeld ?_
  rotate_left
  · intro w hSw
    try dsimp only at hSw
    go_simp
    all_goals with_reducible rfl
  try simp only [Act.put, List.setIfInBounds_toArray, List.set_cons_zero, List.set_cons_succ]
  refine wpAnyH_takeG (i := 3) (v := ?_) rfl (by kernel_rfl) (by kernel_rfl) (by kernel_rfl) (fun _ _ _ h => h) rfl ?_ hHeld ?_
  rotate_left
  · intro w hSw
    try dsimp only at hSw
    go_simp
    all_goals with_reducible rfl
  try simp only [Act.put, List.setIfInBounds_toArray, List.set_cons_zero, List.set_cons_succ]
  refine wpAnyH_takeG (i := 4) (v := ?_) rfl (by kernel_rfl) (by kernel_rfl) (by kernel_rfl) (fun _ _ _ h => h) rfl ?_ hHeld ?_
  rotate_left
  · intro w hSw
    try dsimp only at hSw
    go_simp
    all_goals with_reducible rfl
  try simp only [Act.put, List.setIfInBounds_toArray, List.set_cons_zero, List.set_cons_succ]
  refine wpAnyH_takeG (i := 5) (v := ?_) rfl (by kernel_rfl) (by kernel_rfl) (by kernel_rfl) (fun _ _ _ h => h) rfl ?_ hHeld ?_
  rotate_left
  · intro w hSw
    try dsimp only at hSw
    go_simp
    all_goals with_reducible rfl
  try simp only [Act.put, List.setIfInBounds_toArray, List.set_cons_zero, List.set_cons_succ]
  refine wpAnyH_takeG (i := 6) (v := ?_) rfl (by kernel_rfl) (by kernel_rfl) (by kernel_rfl) (fun _ _ _ h => h) rfl ?_ hHeld ?_
  rotate_left
  · intro w hSw
    try dsimp only at hSw
    go_simp
    all_goals with_reducible rfl
  try simp only [Act.put, List.setIfInBounds_toArray, List.set_cons_zero, List.set_cons_succ]
  refine wpAnyH_step (i := 7) (by kernel_rfl) rfl (fun KK hK => ?_)
  (go_simp; refine (RV.out _ (Below.drewQ (Below.refl _ _))).mono ?_; rintro e w5 ⟨he, col5, hc5, hP5, hU5⟩; obtain ⟨v5, rfl, hv5⟩ : ∃ v5 : Int, e = .returned (.int .i64 v5) ∧ (v5 = 0 ∨ v5 = 6) := (by rcases he with he | he; exact ⟨0, he, .inl rfl⟩; exact ⟨6, he, .inr rfl⟩); have F5 := F4.out.drew.upd hU5 (by rw [hA1]; decide); have G5 := G4.out.drew.upd hU5 (by rw [hA2]; decide); have K5 := Lib.hid ((⟨hP5.p.cell rfl, F5.cell rfl, G5.cell rfl, G5.cell rfl, G5.cell rfl⟩ : w5.cell? ⟨pb, 2, none⟩ = some (.pointer (some ⟨x.eb, 0, none⟩)) ∧ w5.cell? ⟨w.heap.size, 0, none⟩ = some (.int .i64 f.pl) ∧ w5.cell? ⟨w2.heap.size, 0, none⟩ = some (.int .i64 o) ∧ w5.cell? ⟨w2.heap.size, 1, none⟩ = some (.slice ca n cc) ∧ w5.cell? ⟨w2.heap.size, 2, none⟩ = some (.bool false))); have P5 := Lib.hid hP5; clear hP5 hU5 he F5 G5; go_wp2_with fail)
  refine hK.out _ _ ?_ (fun hHeld => ?_)
  · (first | exact ⟨z2, z0, y0, y1, y2⟩ | exact K5.out)
  clear hK KK
  try simp only [Act.put, List.setIfInBounds_toArray, List.set_cons_zero, List.set_cons_succ]
  refine wpAnyH_takeG (i := 8) (v := ?_) rfl (by kernel_rfl) (by kernel_rfl) (by kernel_rfl) (fun _ _ _ h => h) rfl ?_ hHeld ?_
  rotate_left
  · intro w hSw
    try dsimp only at hSw
    go_simp
    all_goals with_reducible rfl
  try simp only [Act.put, List.setIfInBounds_toArray, List.set_cons_zero, List.set_cons_succ]
  refine wpAnyH_done (by kernel_rfl) ?_ _
  clear K5 RV hHeld z2 z0 y0 y1 y2
  rcases hv5 with rfl | rfl
  all_goals
    go_wp2_with fail
    go_end0
    refine ⟨rfl, col5, ?_⟩
    unfold PoS
    dsimp only
    rw [deliv_rd]
    exact P5.out
end Go.Proofs.YtkaaoomliepijaaGreat
namespace Go.Proofs.YtkaaoomliepijaaGreat
open Go.RowKit
set_option linter.unusedVariables false

theorem taken_eq (t : Wt) : t.taken.tk = t.tk ∧ t.taken.ba = t.ba ∧ t.taken.nx = t.nx ∧ t.taken.tp = t.tp := by
  unfold Wt.taken
  split <;> exact ⟨rfl, rfl, rfl, rfl⟩
theorem ack_rd (t : Wt) : t.ack.rd = t.rd := by
  unfold Wt.ack
  split <;> rfl
set_option maxHeartbeats 8000000 in
set_option maxRecDepth 100000 in
theorem take_w (w : World) (B pb tick L n : Nat) (col : Nat → Nat) (T : Nat → Int) (x : PoV) (fin : GS) (h : PoS w B col T x pb tick) (I : WtI L x.t) (hL : L ≤ 1900) (hT : IsT T) (hk : x.ks.length = x.t.tk - x.t.ba) (hB : IsB x.gr) (hgr : x.gr.length ≤ 10000) (hl0 : -1 ≤ x.gl) (hl1 : x.gl ≤ 16777215)
    (hol : x.ol.length ≤ 10000) (hn : x.t.taken.rd - x.t.rd = n) (hf : pushO x.gr (segT T x.t.rd n) x.gl = fin) (hbad : fin.bad = false) (hfo : fin.out.length ≤ 10000) :
    Calls Tryz.prog 11 #[.pointer (some ⟨pb, 0, none⟩)] w fun e w' => e = .returned (.tuple #[]) ∧ ∃ (x' : PoV) (col' : Nat → Nat) (gv kv ov : Value) (rs : List RwB), rs.map RwB.d = fin.out ∧
      x' = { x with t := x.t.take, gv := gv, gr := fin.rest, gl := fin.last, kv := kv, ks := x.ks.drop (x.t.taken.rd - x.t.ba), ov := ov, ol := x.ol ++ rs } ∧ PoS w' B col' T x' pb tick := by
  have RD := Lib.hid (read_po h I hL)
  have It := I.taken
  have a3 := It.a3; have a4 := It.a4; have a7 := It.a7; have a8 := It.a8
  obtain ⟨b1, b2, b3, b4⟩ := taken_eq x.t
  have hrr : x.t.rd ≤ x.t.taken.rd := by
    have hr := I.r
    have hle := I.iR.le
    unfold Wt.R at hr hle
    unfold Wt.taken
    split
    · rename_i e; rw [if_pos e] at hr hle; show x.t.rd ≤ x.t.s0.nxt; omega
    · rename_i e; rw [if_neg e] at hr hle; show x.t.rd ≤ x.t.s1.nxt; omega
  have q2 : w.cell? ⟨pb, 2, none⟩ = some (.pointer (some ⟨x.eb, 0, none⟩)) := h.p.cell rfl
  have pbz := h.p.lt
  have hbs := h.m.bs
  obtain ⟨i1, hi, hz0, hz1, hz2⟩ := info_parts Tryz.infoRw
  have JI := Lib.hid hi; have JZ0 := Lib.hid hz0; have JZ1 := Lib.hid hz1; have JZ2 := Lib.hid hz2
  have II := Lib.hid It
  have erd : (x.t.rd : Int) + (n : Int) = (x.t.taken.rd : Int) := by omega
  have HK := Lib.hid hk
  replace hrr := Lib.hid hrr
  rw [hn] at RD
  clear h hi hz0 hz1 hz2 hk It
  go_enter Tryz.func11, Tryz.ntmps11
  go_wp2_with fail
  refine RD.out.mono ?_
  rintro e w1 ⟨v, rfl, hr, hP1⟩
  obtain ⟨va, vc, rfl, hva⟩ := id hr
  rw [segT_len] at hr ⊢
  have P1 := Lib.hid hP1
  have p9 : w1.cell? ⟨pb, 9, none⟩ = some (.int .i64 x.t.rd) := hP1.p.cell rfl
  have pz := hP1.p.lt
  have pf := hP1.p.free
  have C1 : segT T x.t.rd n ≠ [] → paint w col 40 (va.getD default).block = 40 := fun hne => by
    obtain ⟨g, sp, c', e1, e2, e3⟩ := Rw.pos hr hne
    injection e1 with e1 _ _
    rw [e1]
    exact paint_new e2
  have D1 := Lib.hid hr.sl
  clear hP1 RD q2 hva
  have P2 := Lib.hid (P1.out.set 9 (.int .i64 x.t.taken.rd))
  have D2 := Lib.hid (D1.out.set ⟨pb, 9, none⟩ (.int .i64 x.t.taken.rd) (fun hne e => by
    dsimp only at e
    have h1 := C1 hne
    rw [e] at h1
    have := P1.out.c
    omega))
  have p3 : (w1.setCell ⟨pb, 9, none⟩ (.int .i64 x.t.taken.rd)).cell? ⟨pb, 3, none⟩ = some (.pointer (some ⟨x.gb, 0, none⟩)) := P2.out.p.cell rfl
  have PU := push_po P2.out hB hgr hl0 hl1 va vc (segT T x.t.rd n) D2.out (segT_isB hT _ _) (by rw [segT_len]; omega) (fun hne => by rw [C1 hne]; decide) fin hf hbad
  rw [segT_len] at PU
  replace PU := Lib.hid PU
  have ew : IntKind.i64.wrap ((x.t.rd : Int) + (n : Int)) = (x.t.taken.rd : Int) := by rw [IntWalk.i64_in _ (by omega)]; exact erd
  clear P1 D1 hr erd
  go_upto_region 2 with (fail)
  generalize w1.setCell ⟨pb, 9, none⟩ (.int .i64 x.t.taken.rd) = w2 at *
  go_wp2_with fail
  refine PU.out.mono ?_
  rintro e w3 ⟨lv, rs, gv, col3, rfl, hrs, P3, N3⟩
  obtain ⟨la, lm, lc, elv⟩ : ∃ a m c, lv = .slice a m c := by obtain ⟨a, c, e⟩ := N3.v.shape; exact ⟨a, _, c, e⟩
  have HM : Hid (rs.length = lm) := by
    obtain ⟨a, c, e⟩ := N3.v.shape
    rw [elv] at e
    injection e with _ e _
    exact e.symm
  subst elv
  obtain ⟨oa, om, oc, eov⟩ : ∃ a m c, x.ov = .slice a m c := by obtain ⟨a, c, e⟩ := P3.m.ou.h.shape; exact ⟨a, _, c, e⟩
  have EOV := Lib.hid eov
  have hrl : rs.length ≤ 10000 := by have := len_map hrs; omega
  have HRS := Lib.hid hrs
  replace P3 := Lib.hid P3
  replace N3 := Lib.hid N3
  have r7 : w3.cell? ⟨pb, 7, none⟩ = some x.ov := P3.out.p.cell rfl
  rw [eov] at r7
  clear PU P2 D2 C1 p3 eov hrs
  go_wp2_with (at_builtin; refine wpList_append_vw rfl _ _ 31 rfl B 22 i1 _ 24 Tryz.underlying31 JI.out JZ0.out JZ1.out JZ2.out rfl RwB.val (fun _ => rfl) x.ov x.ol EOV.out.symm P3.out.m.ou.h la lc rs (by rw [HM.out]; simp [Act.eval, Act.put]) N3.out.v.sl ?c1 ?c2 ?c3 ?_)
  case c1 => unfold maxLen; omega
  case c2 => omega
  case c3 => exact P3.out.m.bs
  intro v6 w6 g1 g2 g3
  obtain ⟨va6, m6, vc6, rfl⟩ : ∃ a m c, v6 = .slice a m c := by obtain ⟨a, c, e⟩ := g1.shape; exact ⟨a, _, c, e⟩
  have P6 := Lib.hid (out_po P3.out N3.out g1 g2 g3)
  have y6 := P6.out.p.lt
  have y7 := P6.out.p.free
  have y8 : w6.cell? ⟨pb, 7, none⟩ = some x.ov := P6.out.p.cell rfl
  rw [EOV.out] at y8
  have P7 := Lib.hid (P6.out.set 7 (.slice va6 m6 vc6))
  clear g1 g2 g3 P3 N3 r7
  go_upto_region 4 with (fail)
  generalize w6.setCell ⟨pb, 7, none⟩ (.slice va6 m6 vc6) = w7 at *
  have AK := Lib.hid (fun w' (q : Below w7.heap.size w7 w') => ack_po (P7.out.bel0 q) II.out (Nat.le_trans hL (by decide)) (by show x.ks.length = x.t.taken.tk - x.t.taken.ba; rw [b1, b2]; exact HK.out))
  have z1 : w7.cell? ⟨pb, 1, none⟩ = some (.pointer (some ⟨x.wb, 0, none⟩)) := P7.out.p.cell rfl
  have z9 : w7.cell? ⟨pb, 9, none⟩ = some (.int .i64 x.t.taken.rd) := P7.out.p.cell rfl
  have z10 : w7.cell? ⟨pb, 10, none⟩ = some (.bool true) := P7.out.p.cell rfl
  clear P6 y8 HM
  refine wp_region_allH (fun wx => wx.cell? ⟨pb, 1, none⟩ = some (.pointer (some ⟨x.wb, 0, none⟩)) ∧ wx.cell? ⟨pb, 9, none⟩ = some (.int .i64 x.t.taken.rd) ∧ wx.cell? ⟨pb, 10, none⟩ = some (.bool true)) 24 (by kernel_rfl) rfl ?_ (fun hHeld => ?_)
  · (exact ⟨z1, z9, z10⟩)
  refine wpAnyH_takeG (i := 0) (v := ?_) rfl (by kernel_rfl) (by kernel_rfl) (by kernel_rfl) (fun _ _ _ h => h) rfl ?_ hHeld ?_
  rotate_left
  · intro w hSw
    try dsimp only at hSw
    go_simp
    all_goals with_reducible rfl
  try simp only [Act.put, List.setIfInBounds_toArray, List.set_cons_zero, List.set_cons_succ]
  refine wpAnyH_takeG (i := 1) (v := ?_) rfl (by kernel_rfl) (by kernel_rfl) (by kernel_rfl) (fun _ _ _ h => h) rfl ?_ hHeld ?_
  rotate_left
  · intro w hSw
    try dsimp only at hSw
    go_simp
    all_goals with_reducible rfl
  try simp only [Act.put, List.setIfInBounds_toArray, List.set_cons_zero, List.set_cons_succ]
  refine wpAnyH_takeG (i := 2) (v := ?_) rfl (by kernel_rfl) (by kernel_rfl) (by kernel_rfl) (fun _ _ _ h => h) rfl ?_ hHeld ?_
  rotate_left
  · intro w hSw
    try dsimp only at hSw
    go_simp
    all_goals with_reducible rfl
  try simp only [Act.put, List.setIfInBounds_toArray, List.set_cons_zero, List.set_cons_succ]
  refine wpAnyH_takeG (i := 3) (v := ?_) rfl (by kernel_rfl) (by kernel_rfl) (by kernel_rfl) (fun _ _ _ h => h) rfl ?_ hHeld ?_
  rotate_left
  · intro w hSw
    try dsimp only at hSw
    go_simp
    all_goals with_reducible rfl
  try simp only [Act.put, List.setIfInBounds_toArray, List.set_cons_zero, List.set_cons_succ]
  refine wpAnyH_takeG (i := 4) (v := ?_) rfl (by kernel_rfl) (by kernel_rfl) (by kernel_rfl) (fun _ _ _ h => h) rfl ?_ hHeld ?_
  rotate_left
  · intro w hSw
    try dsimp only at hSw
    go_simp
    all_goals with_reducible rfl
  try simp only [Act.put, List.setIfInBounds_toArray, List.set_cons_zero, List.set_cons_succ]
  refine wpAnyH_takeG (i := 5) (v := ?_) rfl (by kernel_rfl) (by kernel_rfl) (by kernel_rfl) (fun _ _ _ h => h) rfl ?_ hHeld ?_
  rotate_left
  · intro w hSw
    try dsimp only at hSw
    go_simp
    all_goals with_reducible rfl
  try simp only [Act.put, List.setIfInBounds_toArray, List.set_cons_zero, List.set_cons_succ]
  refine wpAnyH_takeG (i := 6) (v := ?_) rfl (by kernel_rfl) (by kernel_rfl) (by kernel_rfl) (fun _ _ _ h => h) rfl ?_ hHeld ?_
  rotate_left
  · intro w hSw
    try dsimp only at hSw
    go_simp
    all_goals with_reducible rfl
  try simp only [Act.put, List.setIfInBounds_toArray, List.set_cons_zero, List.set_cons_succ]
  refine wpAnyH_takeG (i := 7) (v := ?_) rfl (by kernel_rfl) (by kernel_rfl) (by kernel_rfl) (fun _ _ _ h => h) rfl ?_ hHeld ?_
  rotate_left
  · intro w hSw
    try dsimp only at hSw
    go_simp
    all_goals with_reducible rfl
  try simp only [Act.put, List.setIfInBounds_toArray, List.set_cons_zero, List.set_cons_succ]
  refine wpAnyH_takeG (i := 8) (v := ?_) rfl (by kernel_rfl) (by kernel_rfl) (by kernel_rfl) (fun _ _ _ h => h) rfl ?_ hHeld ?_
  rotate_left
  · intro w hSw
    try dsimp only at hSw
    go_simp
    all_goals with_reducible rfl
  try simp only [Act.put, List.setIfInBounds_toArray, List.set_cons_zero, List.set_cons_succ]
  refine wpAnyH_takeG (i := 9) (v := ?_) rfl (by kernel_rfl) (by kernel_rfl) (by kernel_rfl) (fun _ _ _ h => h) rfl ?_ hHeld ?_
  rotate_left
  · intro w hSw
    try dsimp only at hSw
    go_simp
    all_goals with_reducible rfl
  try simp only [Act.put, List.setIfInBounds_toArray, List.set_cons_zero, List.set_cons_succ]
  refine wpAnyH_takeG (i := 10) (v := ?_) rfl (by kernel_rfl) (by kernel_rfl) (by kernel_rfl) (fun _ _ _ h => h) rfl ?_ hHeld ?_
  rotate_left
  · intro w hSw
    try dsimp only at hSw
    go_simp
    all_goals with_reducible rfl
  try simp only [Act.put, List.setIfInBounds_toArray, List.set_cons_zero, List.set_cons_succ]
  refine wpAnyH_takeG (i := 11) (v := ?_) rfl (by kernel_rfl) (by kernel_rfl) (by kernel_rfl) (fun _ _ _ h => h) rfl ?_ hHeld ?_
  rotate_left
  · intro w hSw
    try dsimp only at hSw
    go_simp
    all_goals with_reducible rfl
  try simp only [Act.put, List.setIfInBounds_toArray, List.set_cons_zero, List.set_cons_succ]
  refine wpAnyH_takeG (i := 12) (v := ?_) rfl (by kernel_rfl) (by kernel_rfl) (by kernel_rfl) (fun _ _ _ h => h) rfl ?_ hHeld ?_
  rotate_left
  · intro w hSw
    try dsimp only at hSw
    go_simp
    all_goals with_reducible rfl
  try simp only [Act.put, List.setIfInBounds_toArray, List.set_cons_zero, List.set_cons_succ]
  refine wpAnyH_takeG (i := 13) (v := ?_) rfl (by kernel_rfl) (by kernel_rfl) (by kernel_rfl) (fun _ _ _ h => h) rfl ?_ hHeld ?_
  rotate_left
  · intro w hSw
    try dsimp only at hSw
    go_simp
    all_goals with_reducible rfl
  try simp only [Act.put, List.setIfInBounds_toArray, List.set_cons_zero, List.set_cons_succ]
  refine wpAnyH_takeG (i := 14) (v := ?_) rfl (by kernel_rfl) (by kernel_rfl) (by kernel_rfl) (fun _ _ _ h => h) rfl ?_ hHeld ?_
  rotate_left
  · intro w hSw
    try dsimp only at hSw
    go_simp
    all_goals with_reducible rfl
  try simp only [Act.put, List.setIfInBounds_toArray, List.set_cons_zero, List.set_cons_succ]
  refine wpAnyH_takeG (i := 15) (v := ?_) rfl (by kernel_rfl) (by kernel_rfl) (by kernel_rfl) (fun _ _ _ h => h) rfl ?_ hHeld ?_
  rotate_left
  · intro w hSw
    try dsimp only at hSw
    go_simp
    all_goals with_reducible rfl
  try simp only [Act.put, List.setIfInBounds_toArray, List.set_cons_zero, List.set_cons_succ]
  refine wpAnyH_takeG (i := 16) (v := ?_) rfl (by kernel_rfl) (by kernel_rfl) (by kernel_rfl) (fun _ _ _ h => h) rfl ?_ hHeld ?_
  rotate_left
  · intro w hSw
    try dsimp only at hSw
    go_simp
    all_goals with_reducible rfl
  try simp only [Act.put, List.setIfInBounds_toArray, List.set_cons_zero, List.set_cons_succ]
  refine wpAnyH_takeG (i := 17) (v := ?_) rfl (by kernel_rfl) (by kernel_rfl) (by kernel_rfl) (fun _ _ _ h => h) rfl ?_ hHeld ?_
  rotate_left
  · intro w hSw
    try dsimp only at hSw
    go_simp
    all_goals with_reducible rfl
  try simp only [Act.put, List.setIfInBounds_toArray, List.set_cons_zero, List.set_cons_succ]
  refine wpAnyH_step (i := 18) (by kernel_rfl) rfl (fun KK hK => ?_)
  (go_simp; refine (AK.out _ (Below.drewQ (Below.refl _ _))).mono ?_; rintro e w8 ⟨kv8, rfl, hP8, -⟩; have K8 := Lib.hid ((⟨hP8.p.cell rfl, hP8.p.cell rfl, hP8.p.cell rfl⟩ : w8.cell? ⟨pb, 1, none⟩ = some (.pointer (some ⟨x.wb, 0, none⟩)) ∧ w8.cell? ⟨pb, 9, none⟩ = some (.int .i64 x.t.taken.rd) ∧ w8.cell? ⟨pb, 10, none⟩ = some (.bool true))); have P9 := Lib.hid (hP8.set 10 (.bool true)); have K9 := Lib.hid ((⟨P9.out.p.cell rfl, P9.out.p.cell rfl, P9.out.p.cell rfl⟩ : (w8.setCell ⟨pb, 10, none⟩ (.bool true)).cell? ⟨pb, 1, none⟩ = some (.pointer (some ⟨x.wb, 0, none⟩)) ∧ (w8.setCell ⟨pb, 10, none⟩ (.bool true)).cell? ⟨pb, 9, none⟩ = some (.int .i64 x.t.taken.rd) ∧ (w8.setCell ⟨pb, 10, none⟩ (.bool true)).cell? ⟨pb, 10, none⟩ = some (.bool true))); have v6 := hP8.p.lt; have v7 := hP8.p.free; have v8 := K8.out.2.2; clear hP8; go_wp2_with fail)
  refine hK.out _ _ ?_ (fun hHeld => ?_)
  · (first | exact ⟨z1, z9, z10⟩ | exact K8.out | exact K9.out)
  clear hK KK
  try simp only [Act.put, List.setIfInBounds_toArray, List.set_cons_zero, List.set_cons_succ]
  refine wpAnyH_takeG (i := 19) (v := ?_) rfl (by kernel_rfl) (by kernel_rfl) (by kernel_rfl) (fun _ _ _ h => h) rfl ?_ hHeld ?_
  rotate_left
  · intro w hSw
    try dsimp only at hSw
    go_simp
    all_goals with_reducible rfl
  try simp only [Act.put, List.setIfInBounds_toArray, List.set_cons_zero, List.set_cons_succ]
  refine wpAnyH_takeG (i := 20) (v := ?_) rfl (by kernel_rfl) (by kernel_rfl) (by kernel_rfl) (fun _ _ _ h => h) rfl ?_ hHeld ?_
  rotate_left
  · intro w hSw
    try dsimp only at hSw
    go_simp
    all_goals with_reducible rfl
  try simp only [Act.put, List.setIfInBounds_toArray, List.set_cons_zero, List.set_cons_succ]
  refine wpAnyH_takeG (i := 21) (v := ?_) rfl (by kernel_rfl) (by kernel_rfl) (by kernel_rfl) (fun _ _ _ h => h) rfl ?_ hHeld ?_
  rotate_left
  · intro w hSw
    try dsimp only at hSw
    go_simp
    all_goals with_reducible rfl
  try simp only [Act.put, List.setIfInBounds_toArray, List.set_cons_zero, List.set_cons_succ]
  refine wpAnyH_takeG (i := 22) (v := ?_) rfl (by kernel_rfl) (by kernel_rfl) (by kernel_rfl) (fun _ _ _ h => h) rfl ?_ hHeld ?_
  rotate_left
  · intro w hSw
    try dsimp only at hSw
    go_simp
    all_goals with_reducible rfl
  try simp only [Act.put, List.setIfInBounds_toArray, List.set_cons_zero, List.set_cons_succ]
  refine wpAnyH_step (i := 23) (by kernel_rfl) rfl (fun KK hK => ?_)
  (go_simp)
  refine hK.out _ _ ?_ (fun hHeld => ?_)
  · (first | exact ⟨z1, z9, z10⟩ | exact K8.out | exact K9.out)
  clear hK KK
  try simp only [Act.put, List.setIfInBounds_toArray, List.set_cons_zero, List.set_cons_succ]
  refine wpAnyH_done (by kernel_rfl) ?_ _
  clear K8 K9 AK hHeld
  go_end0
  refine ⟨rfl, _, paint w3 col3 32, gv, kv8, .slice va6 m6 vc6, rs, HRS.out, rfl, ?_⟩
  have e9 : x.t.take.rd = x.t.taken.rd := ack_rd _
  have P := P9.out
  rw [b2] at P
  unfold PoS
  dsimp only
  rw [e9]
  exact P
end Go.Proofs.YtkaaoomliepijaaGreat
namespace Go.Proofs.YtkaaoomliepijaaGreat
open Go.RowKit
set_option linter.unusedVariables false

/-- What travel makes of the end. -/
def TrvA (x x' : PoV) : Prop :=
  (x.t.ph = 0 ∧ ∃ (p1 : Value) (s1 m1 : Nat), x' = { x with p1 := p1, s1 := s1, m1 := m1, t := x.t.start }) ∨ (x.t.ph = 1 ∧ ∃ s, SrI s x.t.tp ∧ s.off = x.t.s1.off ∧ x' = { x with p0 := .pointer none, t := x.t.fin s }) ∨ (x.t.ph = 2 ∧ x' = x)
set_option maxHeartbeats 8000000 in
set_option maxRecDepth 100000 in
theorem travel_w (w : World) (B pb tick L : Nat) (col : Nat → Nat) (T : Nat → Int) (x : PoV) (h : PoS w B col T x pb tick) (I : WtI L x.t) (hL : L ≤ 1900) (hT : IsT T) :
    Calls Tryz.prog 22 #[.pointer (some ⟨pb, 0, none⟩)] w fun e w' => e = .returned (.tuple #[]) ∧ ∃ (x' : PoV) (col' : Nat → Nat), TrvA x x' ∧ PoS w' B col' T x' pb tick := by
  have q2 : w.cell? ⟨pb, 2, none⟩ = some (.pointer (some ⟨x.eb, 0, none⟩)) := h.p.cell rfl
  have pbz := h.p.lt
  have h9 := I.a9
  have PH := phase_po h
  rcases (show x.t.ph = 0 ∨ x.t.ph = 1 ∨ x.t.ph = 2 by omega) with e0 | e0 | e0
  all_goals rw [e0] at PH
  all_goals replace PH := Lib.hid PH
  · have ST := Lib.hid (start_po h I hL e0)
    have H := Lib.hid h
    clear h I
    go_enter Tryz.func22, Tryz.ntmps22
    go_wp2_with fail
    refine PH.out.mono ?_
    rintro e w1 ⟨rfl, hw⟩
    subst hw
    go_wp2_with fail
    refine ST.out.mono ?_
    rintro e w2 ⟨rfl, x', col', hx, hP⟩
    have P2 := Lib.hid hP
    have z9 : w2.cell? ⟨pb, 9, none⟩ = some (.int .i64 x.t.rd) := hP.p.cell rfl
    have z10 : w2.cell? ⟨pb, 10, none⟩ = some (.bool true) := hP.p.cell rfl
    have zz := hP.p.lt
    have zf := hP.p.free
    replace hx := Lib.hid hx
    replace e0 := Lib.hid e0
    clear hP ST PH q2
    go_wp2_with fail
    go_end0
    refine ⟨rfl, x', col', .inl ⟨e0.out, _, _, _, hx.out⟩, ?_⟩
    have P := P2.out.set 10 (.bool true)
    rw [hx.out] at P ⊢
    exact P
  · have HD := Lib.hid (hand_po h I hL e0 hT)
    have H := Lib.hid h
    clear h I
    replace e0 := Lib.hid e0
    go_enter Tryz.func22, Tryz.ntmps22
    go_wp2_with fail
    refine PH.out.mono ?_
    rintro e w1 ⟨rfl, hw⟩
    subst hw
    go_wp2_with fail
    refine HD.out.mono ?_
    rintro e w2 ⟨v, p0, s, col', rfl, hs, hso, hQ⟩
    have FN := Lib.hid (fin_po hQ)
    have z2 : w2.cell? ⟨pb, 2, none⟩ = some (.pointer (some ⟨x.eb, 0, none⟩)) := hQ.p.cell rfl
    have z10 : w2.cell? ⟨pb, 10, none⟩ = some (.bool true) := hQ.p.cell rfl
    have zz := hQ.p.lt
    replace hs := Lib.hid hs
    replace hso := Lib.hid hso
    clear hQ HD PH q2
    go_wp2_with fail
    refine FN.out.mono ?_
    rintro e w3 ⟨rfl, hP, -⟩
    have P3 := Lib.hid hP
    have y10 : w3.cell? ⟨pb, 10, none⟩ = some (.bool true) := hP.p.cell rfl
    have yz := hP.p.lt
    have yf := hP.p.free
    clear hP FN z2 z10
    go_wp2_with fail
    go_end0
    exact ⟨rfl, _, col', .inr (.inl ⟨e0.out, s, hs.out, hso.out, rfl⟩), P3.out.set 10 (.bool true)⟩
  · have H := Lib.hid h
    clear h I
    replace e0 := Lib.hid e0
    go_enter Tryz.func22, Tryz.ntmps22
    go_wp2_with fail
    refine PH.out.mono ?_
    rintro e w1 ⟨rfl, hw⟩
    subst hw
    go_wp2_with fail
    go_end0
    exact ⟨rfl, x, col, .inr (.inr ⟨e0.out, rfl⟩), H.out⟩
end Go.Proofs.YtkaaoomliepijaaGreat
