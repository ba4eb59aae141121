/-
  newPost.
  The post's put.
-/
import Derived.Test.YtkaaoomliepijaaGreatQPz
namespace Go.Proofs.YtkaaoomliepijaaGreat
open Go.RowKit
set_option linter.unusedVariables false

def nilS : Value := .slice none 0 0
def Wt.zero : Wt := ⟨0, 0, 0, 0, 0, 0, 0, Sr.new 0, Sr.new 0⟩
/-- The post with its own lists in its block. -/
def PoS (w : World) (B : Nat) (col : Nat → Nat) (T : Nat → Int) (x : PoV) (pb tick : Nat) : Prop := PoF w B col T x pb (poC x x.pv x.fv x.dv x.ov tick x.t.rd true)
def New0 (w : World) (x : PoV) : Prop := x.kv = nilS ∧ x.ks = [] ∧ x.gr = [] ∧ x.gl = -1 ∧ x.pv = nilS ∧ x.pl = [] ∧ x.fv = nilS ∧ x.fl = [] ∧ x.dv = nilS ∧ x.dl = [] ∧ x.ov = nilS ∧ x.ol = [] ∧ x.ms = [] ∧ x.t = Wt.zero
theorem new_state {w w1 w2 w3 w4 : World} {B eb : Nat} {T : Nat → Int} (hB : w.heap.size = B) (M : BoxM w1 B B 1000 [] (fun k => k = B)) (b1 : Below B w w1) (W : WrAt w2 w1.heap.size w1.heap.size nilS [] 0 0 0 0 0) (b2 : Below w1.heap.size w1 w2)
    (hlt : w2.heap.size + 1 < eb) (S : StAt w3 (w2.heap.size + 1) w2.heap.size 0 0 (fun _ => none)) (E : Blk w3 eb 62 (mvC 0 (spV (w2.heap.size + 1)) (.pointer none))) (b3 : Below w2.heap.size w2 w3)
    (G : GateAt w4 w3.heap.size w3.heap.size nilS [] (-1) false) (b4 : Below w3.heap.size w3 w4) :
    ∃ (x : PoV) (col : Nat → Nat), x.b = B ∧ x.wb = w1.heap.size ∧ x.eb = eb ∧ x.gb = w3.heap.size ∧ x.bg = w ∧ New0 w x ∧ PoS (w4.alloc (.cells (poC x nilS nilS nilS nilS 0 0 true).toArray 33)) B col T x w4.heap.size 0 := by
  obtain ⟨x, hx⟩ : ∃ x : PoV, x = { b := B, wb := w1.heap.size, eb := eb, gb := w3.heap.size, kv := nilS, ks := [], p0 := spV (w2.heap.size + 1), p1 := .pointer none, s0 := w2.heap.size + 1, m0 := w2.heap.size, s1 := 0, m1 := 0, gv := nilS, gr := [], gl := -1, pv := nilS, pl := [], fv := nilS, fl := [], dv := nilS, dl := [], ov := nilS, ol := [], ms := [], t := Wt.zero, bg := w } := ⟨_, rfl⟩
  obtain ⟨col, hcol⟩ : ∃ col : Nat → Nat, col = fun k => if k < B then 99 else if k = B then 4 else if k = w1.heap.size then 8 else if k = w2.heap.size then 13 else if k = w2.heap.size + 1 then 13 else if k = eb then 12 else if k = w3.heap.size then 16 else 0 := ⟨_, rfl⟩
  have z1 : B < w1.heap.size := (M.lt B rfl).2
  have z2 : w1.heap.size < w2.heap.size := W.b.lt
  have z3 : eb < w3.heap.size := E.lt
  have z4 : w3.heap.size < w4.heap.size := G.hb.lt
  have q5 := alloc_belQ w4 (.cells (poC x nilS nilS nilS nilS 0 0 true).toArray 33)
  have q4 := b4.trans (q5.mono (by omega))
  have q3 := b3.trans (q4.mono (by omega))
  have q2 := b2.trans (q3.mono (by omega))
  have hs5 := q5.size
  have bl : Below B w (w4.alloc (.cells (poC x nilS nilS nilS nilS 0 0 true).toArray 33)) := (((b1.trans (b2.mono (by omega))).trans (b3.mono (by omega))).trans (b4.mono (by omega))).trans (q5.mono (by omega))
  have c0 : col B = 4 := by rw [hcol]; dsimp only; rw [if_neg (by omega), if_pos rfl]
  have c1 : col w1.heap.size = 8 := by rw [hcol]; dsimp only; rw [if_neg (by omega), if_neg (by omega), if_pos rfl]
  have c2 : col w2.heap.size = 13 := by rw [hcol]; dsimp only; rw [if_neg (by omega), if_neg (by omega), if_neg (by omega), if_pos rfl]
  have c3 : col (w2.heap.size + 1) = 13 := by rw [hcol]; dsimp only; rw [if_neg (by omega), if_neg (by omega), if_neg (by omega), if_neg (by omega), if_pos rfl]
  have c4 : col eb = 12 := by rw [hcol]; dsimp only; rw [if_neg (by omega), if_neg (by omega), if_neg (by omega), if_neg (by omega), if_neg (by omega), if_pos rfl]
  have c5 : col w3.heap.size = 16 := by rw [hcol]; dsimp only; rw [if_neg (by omega), if_neg (by omega), if_neg (by omega), if_neg (by omega), if_neg (by omega), if_neg (by omega), if_pos rfl]
  have c6 : col w4.heap.size = 0 := by rw [hcol]; dsimp only; rw [if_neg (by omega), if_neg (by omega), if_neg (by omega), if_neg (by omega), if_neg (by omega), if_neg (by omega), if_neg (by omega)]
  refine ⟨x, col, by rw [hx], by rw [hx], by rw [hx], by rw [hx], by rw [hx], by rw [hx]; exact ⟨rfl, rfl, rfl, rfl, rfl, rfl, rfl, rfl, rfl, rfl, rfl, rfl, rfl, rfl⟩, ?_⟩
  subst hx
  refine ⟨⟨?_, ⟨?_, ?_⟩, ⟨E.bel q4, by dsimp only; omega, c4, fun _ => ⟨rfl, ?_, ?_⟩, fun hp => absurd hp (by show ¬ 1 ≤ 0; omega)⟩, ⟨?_, ?_⟩, ⟨Vw.nil _ _ _ _, fun k hk => by cases hk⟩, ⟨World.ownsRow_nil _ _ _ _, (fun k hk => by cases hk), fun f hf => by cases hf⟩, ⟨Vw.nil _ _ _ _, (fun k hk => by cases hk), fun r hr => by cases hr⟩, ⟨Vw.nil _ _ _ _, (fun k hk => by cases hk), fun r hr => by cases hr⟩, by omega, bl, fun k hk => by rw [hcol]; exact if_pos hk⟩, Blk.new w4 _ _, c6, by omega⟩
  · exact (M.below q2).mono (fun k hk => ⟨by omega, by omega, by rw [hk]; exact c0⟩) (fun k hk => ⟨hk.1, hk.2.1⟩)
  · have h := W.below q3
    exact ⟨h.b, h.k.rebase (fun g hg => by cases hg), h.ne, by dsimp only; omega⟩
  · intro k hk
    rcases hk with hk | hk
    · rw [hk]; exact c1
    · cases hk
  · show StAt _ (w2.heap.size + 1) w2.heap.size 0 0 (Fs (Sr.new 0) T)
    rw [Fs_new]
    exact S.below q4
  · intro k hk
    rcases hk with hk | hk
    · have hk : k = w2.heap.size + 1 := hk
      rw [hk]; exact ⟨by omega, c3⟩
    · have hk : k = w2.heap.size := hk
      rw [hk]; exact ⟨by omega, c2⟩
  · have h := G.below q5
    exact ⟨h.hb, h.hr.rebase (fun g hg => by cases hg), h.ne, by dsimp only; omega⟩
  · intro k hk
    rcases hk with hk | hk
    · rw [hk]; exact c5
    · cases hk
set_option maxHeartbeats 4000000 in
set_option maxRecDepth 100000 in
theorem newPost_ok (w : World) (T : Nat → Int) : Calls Tryz.prog 5 #[] w fun e w' => ∃ (x : PoV) (col : Nat → Nat) (pb : Nat), e = .returned (.pointer (some ⟨pb, 0, none⟩)) ∧ x.bg = w ∧ New0 w x ∧ PoS w' w.heap.size col T x pb 0 := by
  have NB := Lib.hid (mnew_ok w 1000 (by decide) (by decide))
  have NW := Lib.hid (fun w' => newWriter_ok w')
  have NM := Lib.hid (fun w' => newMv_ok w')
  have NG := Lib.hid (fun w' => newGate_ok w')
  go_enter Tryz.func5, Tryz.ntmps5
  go_wp2_with fail
  refine NB.out.mono ?_
  rintro e w1 ⟨rfl, M1, b1⟩
  replace M1 := Lib.hid M1; replace b1 := Lib.hid b1
  go_wp2_with fail
  refine (NW.out w1).mono ?_
  rintro e w2 ⟨rfl, M2, b2⟩
  replace M2 := Lib.hid M2; replace b2 := Lib.hid b2
  go_wp2_with fail
  refine (NM.out w2).mono ?_
  rintro e w3 ⟨eb, rfl, hlt, M3, M3b, b3⟩
  replace M3 := Lib.hid M3; replace M3b := Lib.hid M3b; replace b3 := Lib.hid b3
  go_wp2_with fail
  refine (NG.out w3).mono ?_
  rintro e w4 ⟨rfl, M4, b4⟩
  obtain ⟨x, col, e1, e2, e3, e4, hbg, hN, hP⟩ := new_state (T := T) rfl M1.out b1.out M2.out b2.out hlt M3.out M3b.out b3.out M4 b4
  unfold poC at hP
  rw [e1, e2, e3, e4] at hP
  replace hP := Lib.hid hP; replace hbg := Lib.hid hbg; replace hN := Lib.hid hN
  clear M4 b4 e1 e2 e3 e4
  go_wp2_with fail
  go_ret
  exact ⟨x, col, w4.heap.size, rfl, hbg.out, hN.out, hP.out⟩
end Go.Proofs.YtkaaoomliepijaaGreat
namespace Go.Proofs.YtkaaoomliepijaaGreat
open Go.RowKit
set_option linter.unusedVariables false

theorem Tryz.infoRw : (Tryz.prog.info? 22).map (fun i => (i.zero, i.size, i.bytes)) = some (some (.slice none 0 0), 1, 24) := by kernel_rfl
theorem len_map {α β : Type} {f : α → β} {g : List β} {l : List α} (h : l.map f = g) : l.length = g.length := by rw [← h, List.length_map]
theorem dat_isB {n : Nat} (h : n ≤ 255) : IsB (dat n) := fun y hy => by
  unfold dat at hy
  obtain ⟨_, rfl⟩ := List.mem_replicate.1 hy
  omega
theorem dat_len (n : Nat) : (dat n).length = 1 + n % 7 := by unfold dat; rw [List.length_replicate]
theorem rw_sl {w : World} {b m : Nat} {x : Int} {sp : List Value} (h : Blk w b 5 ((List.replicate m x).map (Value.int .u8) ++ sp)) : Sl (Value.int .u8) w (some ⟨b, 0, none⟩) (List.replicate m x) := h.sub
theorem slb_one (w : World) (n : Int) : Sl (Value.int .u8) (w.alloc (.cells #[.int .u8 n] 5)).drew (some ⟨w.heap.size, 0, none⟩) [n] := by
  have h := rw_sl (sp := []) (m := 1) (x := n) (Blk.new w 5 [.int .u8 n])
  exact fun j y hj => h j y hj
set_option maxHeartbeats 8000000 in
set_option maxRecDepth 100000 in
theorem put_w (w : World) (B pb tick j : Nat) (col : Nat → Nat) (T : Nat → Int) (x : PoV) (dl : Int) (h : PoS w B col T x pb tick) (mi : MI j x.ms) (hj : j ≤ 200) (hdl : -1 ≤ dl) (hd : x.dl.map RwB.d = x.ms.map Msg.data) :
    Calls Tryz.prog 20 #[.pointer (some ⟨pb, 0, none⟩), .int .i64 dl] w fun e w' => e = .returned (.tuple #[]) ∧ ∃ (x' : PoV) (col' : Nat → Nat) (dv : Value) (r : RwB), r.d = dat x.ms.length ∧ x' = { x with ms := x.ms ++ [⟨dat x.ms.length, dl, 1, 0⟩], dv := dv, dl := x.dl ++ [r] } ∧ PoS w' B col' T x' pb tick := by
  obtain ⟨n, hn⟩ : ∃ n, x.ms.length = n := ⟨_, rfl⟩
  have hdn : x.dl.length = n := by have := len_map hd; rw [List.length_map, hn] at this; exact this
  have hn2 : n ≤ 200 := by have := mi.l; omega
  obtain ⟨m, hm⟩ : ∃ m, 1 + n % 7 = m := ⟨_, rfl⟩
  have hm17 : 1 ≤ m ∧ m ≤ 7 := by omega
  have MP := mi.put (by omega) dl hdl
  rw [hn] at MP
  replace MP := Lib.hid MP
  have H := Lib.hid h
  have q0 : w.cell? ⟨pb, 0, none⟩ = some (.pointer (some ⟨x.b, 0, none⟩)) := h.p.cell rfl
  have q6 : w.cell? ⟨pb, 6, none⟩ = some x.dv := h.p.cell rfl
  have q10 : w.cell? ⟨pb, 10, none⟩ = some (.bool true) := h.p.cell rfl
  have pbz := h.p.lt
  obtain ⟨da, dc, edv⟩ := h.m.da.h.shape
  rw [hdn] at edv
  have EDV := Lib.hid edv
  rw [edv] at q6
  obtain ⟨i1, hi, hz0, hz1, hz2⟩ := info_parts Tryz.infoRw
  have JI := Lib.hid hi; have JZ0 := Lib.hid hz0; have JZ1 := Lib.hid hz1; have JZ2 := Lib.hid hz2
  have RP := Lib.hid (fun w' (b : Nat) (hs : Sl (Value.int .u8) w' (some ⟨b, 0, none⟩) [(n : Int)]) => rep_any w' (some ⟨b, 0, none⟩) 1 m n hm17.1 hm17.2 hs)
  have wn : IntKind.u8.wrap (n : Int) = n := by unfold IntKind.wrap; simp [IntKind.signed, IntKind.bits]; omega
  have em : IntKind.i64.wrap (1 + (n : Int).tmod 7) = (m : Int) := by
    have ht : (n : Int).tmod 7 = ((n % 7 : Nat) : Int) := by rw [Int.tmod_eq_emod_of_nonneg (by omega)]; omega
    rw [ht, IntWalk.i64_in _ (by omega)]; omega
  have Q6 := Lib.hid (fun w' (q : Below w.heap.size w w') => (q.cell (p := ⟨pb, 6, none⟩) pbz).trans q6)
  have HN := Lib.hid hn; have HDN := Lib.hid hdn; have HM := Lib.hid hm
  clear h mi hd hi hz0 hz1 hz2 hn hdn edv
  go_enter Tryz.func20, Tryz.ntmps20
  go_wp2_with fail
  refine wp_region_allH (fun wx => wx.cell? ⟨pb, 6, none⟩ = some (.slice da n dc)) 16 (by kernel_rfl) rfl ?_ (fun hHeld => ?_)
  · (exact q6)
  refine wpAnyH_takeG (i := 0) (v := ?_) rfl (by kernel_rfl) (by kernel_rfl) (by kernel_rfl) (fun _ _ _ h => h) rfl ?_ hHeld ?_
  rotate_left
  · intro w hSw
    try dsimp only at hSw
    go_simp
    all_goals with_reducible rfl
  try simp only [Act.put, List.setIfInBounds_toArray, List.set_cons_zero, List.set_cons_succ]
  refine wpAnyH_takeG (i := 1) (v := ?_) rfl (by kernel_rfl) (by kernel_rfl) (by kernel_rfl) (fun _ _ _ h => h) rfl ?_ hHeld ?_
  rotate_left
  · intro w hSw
    try dsimp only at hSw
    go_simp
    all_goals with_reducible rfl
  try simp only [Act.put, List.setIfInBounds_toArray, List.set_cons_zero, List.set_cons_succ]
  refine wpAnyH_takeG (i := 2) (v := ?_) rfl (by kernel_rfl) (by kernel_rfl) (by kernel_rfl) (fun _ _ _ h => h) rfl ?_ hHeld ?_
  rotate_left
  · intro w hSw
    try dsimp only at hSw
    go_simp
    all_goals with_reducible rfl
  try simp only [Act.put, List.setIfInBounds_toArray, List.set_cons_zero, List.set_cons_succ]
  refine wpAnyH_takeG (i := 3) (v := ?_) rfl (by kernel_rfl) (by kernel_rfl) (by kernel_rfl) (fun _ _ _ h => h) rfl ?_ hHeld ?_
  rotate_left
  · intro w hSw
    try dsimp only at hSw
    go_simp
    all_goals with_reducible rfl
  try simp only [Act.put, List.setIfInBounds_toArray, List.set_cons_zero, List.set_cons_succ]
  refine wpAnyH_takeG (i := 4) (v := ?_) rfl (by kernel_rfl) (by kernel_rfl) (by kernel_rfl) (fun _ _ _ h => h) rfl ?_ hHeld ?_
  rotate_left
  · intro w hSw
    try dsimp only at hSw
    go_simp
    all_goals with_reducible rfl
  try simp only [Act.put, List.setIfInBounds_toArray, List.set_cons_zero, List.set_cons_succ]
  refine wpAnyH_takeG (i := 5) (v := ?_) rfl (by kernel_rfl) (by kernel_rfl) (by kernel_rfl) (fun _ _ _ h => h) rfl ?_ hHeld ?_
  rotate_left
  · intro w hSw
    try dsimp only at hSw
    go_simp
    all_goals with_reducible rfl
  try simp only [Act.put, List.setIfInBounds_toArray, List.set_cons_zero, List.set_cons_succ]
  refine wpAnyH_takeG (i := 7) (v := ?_) rfl (by kernel_rfl) (by kernel_rfl) (by kernel_rfl) (fun _ _ _ h => h) rfl ?_ hHeld ?_
  rotate_left
  · intro w hSw
    try dsimp only at hSw
    go_simp
    all_goals with_reducible rfl
  try simp only [Act.put, List.setIfInBounds_toArray, List.set_cons_zero, List.set_cons_succ]
  refine wpAnyH_takeG (i := 8) (v := ?_) rfl (by kernel_rfl) (by kernel_rfl) (by kernel_rfl) (fun _ _ _ h => h) rfl ?_ hHeld ?_
  rotate_left
  · intro w hSw
    try dsimp only at hSw
    go_simp
    all_goals with_reducible rfl
  try simp only [Act.put, List.setIfInBounds_toArray, List.set_cons_zero, List.set_cons_succ]
  refine wpAnyH_takeG (i := 9) (v := ?_) rfl (by kernel_rfl) (by kernel_rfl) (by kernel_rfl) (fun _ _ _ h => h) rfl ?_ hHeld ?_
  rotate_left
  · intro w hSw
    try dsimp only at hSw
    go_simp
    all_goals with_reducible rfl
  try simp only [Act.put, List.setIfInBounds_toArray, List.set_cons_zero, List.set_cons_succ]
  refine wpAnyH_takeG (i := 10) (v := ?_) rfl (by kernel_rfl) (by kernel_rfl) (by kernel_rfl) (fun _ _ _ h => h) rfl ?_ hHeld ?_
  rotate_left
  · intro w hSw
    try dsimp only at hSw
    go_simp
    all_goals with_reducible rfl
  try simp only [Act.put, List.setIfInBounds_toArray, List.set_cons_zero, List.set_cons_succ]
  refine wpAnyH_takeG (i := 11) (v := ?_) rfl (by kernel_rfl) (by kernel_rfl) (by kernel_rfl) (fun _ _ _ h => h) rfl ?_ hHeld ?_
  rotate_left
  · intro w hSw
    try dsimp only at hSw
    go_simp
    all_goals with_reducible rfl
  try simp only [Act.put, List.setIfInBounds_toArray, List.set_cons_zero, List.set_cons_succ]
  refine wpAnyH_takeG (i := 12) (v := ?_) rfl (by kernel_rfl) (by kernel_rfl) (by kernel_rfl) (fun _ _ _ h => h) rfl ?_ hHeld ?_
  rotate_left
  · intro w hSw
    try dsimp only at hSw
    go_simp
    all_goals with_reducible rfl
  try simp only [Act.put, List.setIfInBounds_toArray, List.set_cons_zero, List.set_cons_succ]
  refine wpAnyH_takeG (i := 13) (v := ?_) rfl (by kernel_rfl) (by kernel_rfl) (by kernel_rfl) (fun _ _ _ h => h) rfl ?_ hHeld ?_
  rotate_left
  · intro w hSw
    try dsimp only at hSw
    go_simp
    all_goals with_reducible rfl
  try simp only [Act.put, List.setIfInBounds_toArray, List.set_cons_zero, List.set_cons_succ]
  refine wpAnyH_step (i := 6) (by kernel_rfl) rfl (fun KK hK => ?_)
  (go_simp)
  refine hK.out _ _ ?_ (fun hHeld => ?_)
  · (first | exact q6 | exact Q6.out _ (below_then (alloc_belQ _ _) (Qt.below (Qt.refl _).drew _) (by simp)) | exact q62)
  clear hK KK
  try simp only [Act.put, List.setIfInBounds_toArray, List.set_cons_zero, List.set_cons_succ]
  refine wpAnyH_step (i := 14) (by kernel_rfl) rfl (fun KK hK => ?_)
  (go_simp; refine (RP.out _ _ (slb_one _ _)).mono ?_; rintro e w2 ⟨rfl, ⟨sp, hb⟩, hB⟩; have hz2 : (w.alloc (.cells #[.int .u8 (n : Int)] 5)).drew.heap.size = w.heap.size + 1 := (by simp); rw [hz2] at hb hB; have B2 := Lib.hid (below_then (Below.drewQ (alloc_belQ w (.cells #[.int .u8 (n : Int)] 5))) (hB.mono (by simp)) (by simp)); have q62 := Q6.out _ B2.out; have XB := Lib.hid hb; clear hb hB; go_wp2_with fail)
  refine hK.out _ _ ?_ (fun hHeld => ?_)
  · (first | exact q6 | exact Q6.out _ (below_then (alloc_belQ _ _) (Qt.below (Qt.refl _).drew _) (by simp)) | exact q62)
  clear hK KK
  try simp only [Act.put, List.setIfInBounds_toArray, List.set_cons_zero, List.set_cons_succ]
  refine wpAnyH_takeG (i := 15) (v := ?_) rfl (by kernel_rfl) (by kernel_rfl) (by kernel_rfl) (fun _ _ _ h => h) rfl ?_ hHeld ?_
  rotate_left
  · intro w hSw
    try dsimp only at hSw
    go_simp
    all_goals with_reducible rfl
  try simp only [Act.put, List.setIfInBounds_toArray, List.set_cons_zero, List.set_cons_succ]
  refine wpAnyH_done (by kernel_rfl) ?_ _
  have edat : dat n = List.replicate m (n : Int) := by unfold dat; rw [HM.out]
  have hml : (dat n).length = m := by rw [edat, List.length_replicate]
  have P2 := Lib.hid (H.out.bel B2.out (fun k hk => paint_old (col := col) (c := 29) hk))
  have SB := rw_sl XB.out
  rw [← edat] at SB
  have hbz := XB.out.lt
  have hcb : paint w col 29 (w.heap.size + 1) = 29 := paint_new (by omega)
  obtain ⟨mp1, mp2, mp3, mp4, mp5⟩ := MP.out
  have PB := bput_po P2.out (by rw [HN.out]; omega) (some ⟨w.heap.size + 1, 0, none⟩) m (dat n) SB (by omega) dl (fun _ => by show paint w col 29 (w.heap.size + 1) ≠ 4; rw [hcb]; decide)
  rw [mp1, mp2, mp3, hml] at PB
  replace PB := Lib.hid PB
  replace SB := Lib.hid SB
  have r0 : w2.cell? ⟨pb, 0, none⟩ = some (.pointer (some ⟨x.b, 0, none⟩)) := P2.out.p.cell rfl
  clear RP Q6 hHeld edat mp1 mp2 mp3 mp4 mp5 MP q0 q6 q10
  go_wp2_with fail
  refine PB.out.mono ?_
  rintro e w3 ⟨rfl, hP3, hU3⟩
  have P3 := Lib.hid hP3
  have t6 : w3.cell? ⟨pb, 6, none⟩ = some x.dv := hP3.p.cell rfl
  rw [EDV.out] at t6
  have t10 : w3.cell? ⟨pb, 10, none⟩ = some (.bool true) := hP3.p.cell rfl
  have tz := hP3.p.lt
  have tf := hP3.p.free
  have S3 := Lib.hid (SB.out.upd hU3 (fun _ e => by have := e.2.2; change paint w col 29 (w.heap.size + 1) = 4 at this; rw [hcb] at this; omega))
  have hz3 := hU3.size
  clear hP3 hU3 PB SB q62 r0
  have P4 := Lib.hid (P3.out.set 10 (.bool true))
  have u6 : (w3.setCell ⟨pb, 10, none⟩ (.bool true)).cell? ⟨pb, 6, none⟩ = some x.dv := P4.out.p.cell rfl
  rw [EDV.out] at u6
  have S4 := Lib.hid (S3.out.set ⟨pb, 10, none⟩ (.bool true) (fun _ => by show w.heap.size + 1 ≠ pb; omega))
  obtain ⟨rr, hrr⟩ : ∃ rr : RwB, rr = ⟨some ⟨w.heap.size + 1, 0, none⟩, m, dat n⟩ := ⟨_, rfl⟩
  have er : rr.val = .slice (some ⟨w.heap.size + 1, 0, none⟩) m m := by rw [hrr]; unfold RwB.val; rw [hml]
  clear P3 S3
  go_upto_region 4 with (fail)
  generalize w3.setCell ⟨pb, 10, none⟩ (.bool true) = w4 at *
  have A4 := alloc_belQ w4 (.cells #[.slice (some ⟨w.heap.size + 1, 0, none⟩) m m] 22)
  have P5 := Lib.hid (P4.out.bel0 A4)
  have S5 := Lib.hid (S4.out.below A4)
  have SR : Hid (Sl RwB.val (w4.alloc (.cells #[.slice (some ⟨w.heap.size + 1, 0, none⟩) m m] 22)) (some ⟨w4.heap.size, 0, none⟩) [rr]) := fun k y hk => by
    cases k with
    | zero =>
      have : rr = y := by simpa using hk
      subst this
      rw [er]
      exact ⟨rfl, (Blk.new w4 22 [.slice (some ⟨w.heap.size + 1, 0, none⟩) m m]).cell rfl⟩
    | succ k => simp at hk
  have hzz : B ≤ w4.heap.size := P4.out.m.bs
  replace er := Lib.hid er
  replace hrr := Lib.hid hrr
  clear P4 S4
  go_wp2_with (at_builtin; refine wpList_append_vw rfl _ _ 31 rfl B 22 i1 _ 24 Tryz.underlying31 JI.out JZ0.out JZ1.out JZ2.out rfl RwB.val (fun _ => rfl) x.dv x.dl EDV.out.symm P5.out.m.da.h (some ⟨w4.heap.size, 0, none⟩) 1 [rr] (by simp [Act.eval, Act.put]) SR.out ?c1 ?c2 ?c3 ?_)
  case c1 => rw [HDN.out]; unfold maxLen; simp; omega
  case c2 => rw [HDN.out]; simp; omega
  case c3 => simp; omega
  intro v6 w6 g1 g2 g3
  obtain ⟨va6, m6, vc6, rfl⟩ : ∃ a m c, v6 = .slice a m c := by obtain ⟨a, c, e⟩ := g1.shape; exact ⟨a, _, c, e⟩
  have P6 := Lib.hid (data_po P5.out (r := rr) (by rw [hrr.out]; exact S5.out) (by rw [hrr.out]; show dat n ≠ []; intro e; rw [e] at hml; simp at hml; omega) (by rw [hrr.out]; show B ≤ w.heap.size + 1; have := H.out.m.bs; omega) (by rw [hrr.out]; show paint w2 (fun k => paint w col 29 k) 4 (w.heap.size + 1) = 29; rw [paint_old (by omega)]; exact hcb) g1 g2 (by simpa using g3))
  have y6 := P6.out.p.lt
  have y7 := P6.out.p.free
  have y8 : w6.cell? ⟨pb, 6, none⟩ = some x.dv := P6.out.p.cell rfl
  rw [EDV.out] at y8
  clear g1 g2 g3 P5 S5 SR u6
  go_wp2_with fail
  go_end0
  rw [HN.out]
  exact ⟨rfl, _, _, _, rr, by rw [hrr.out], rfl, P6.out.set 6 _⟩
end Go.Proofs.YtkaaoomliepijaaGreat
