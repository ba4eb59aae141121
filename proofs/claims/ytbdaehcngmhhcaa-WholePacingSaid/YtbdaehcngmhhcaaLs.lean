/-
  Contract of waterfill.Levels.
-/
import Derived.Test.YtbdaehcngmhhcaaLsM
import Derived.Test.YtbdaehcngmhhcaaLevel
import Derived.Test.YtbdaehcngmhhcaaDem
namespace Go.Proofs.Ytbdaehcngmhhcaa
open Go.RowKit
set_option linter.unusedVariables false

/-- A net in whole units, valid. -/
structure NtPk (N : Nt) (caps : List Rq) (fls : List Fw) : Prop where
  is : NtIs N caps fls
  ok : NtOk N
  v : netB caps fls = true
  ic : ∀ c ∈ caps, I64 c.n ∧ I64 c.d
  jf : ∀ f ∈ fls, I64 (Fw.dm f).n ∧ I64 f.dm.d
section
variable {N : Nt} {caps : List Rq} {fls : List Fw}
theorem NtPk.K (h : NtPk N caps fls) (i : Nat) (f : Fw) (hf : fls[i]? = some f) (x : Int) (hx : x ∈ f.lk) : 0 ≤ x ∧ x < caps.length := by
  have h1 := h.v
  unfold netB at h1
  rw [Bool.and_eq_true] at h1
  have h2 := List.all_eq_true.1 h1.2 f (List.mem_of_getElem? hf)
  unfold flB at h2
  simp only [Bool.and_eq_true] at h2
  obtain ⟨j, hj⟩ := List.getElem?_of_mem hx
  have h3 := List.all_eq_true.1 h2.1.2 j (List.mem_range.2 (get_lt hj))
  unfold lkAt at h3
  simp only [Bool.and_eq_true, decide_eq_true_eq] at h3
  rw [List.getD_eq_getElem?_getD, hj] at h3
  exact h3.1
theorem NtPk.cl (h : NtPk N caps fls) : caps.length ≤ 4 := by have := h.ok.L; have := h.is.L; omega
theorem NtPk.ml (h : NtPk N caps fls) : fls.length ≤ 5 := by have := h.ok.m; have := h.is.m; omega
theorem NtPk.D (h : NtPk N caps fls) (i : Nat) (hi : i < fls.length) : (N.dm i).natAbs ≤ 1000000000 := by
  have h1 := h.ok.dm i (by have := h.is.m; omega)
  have : uU = 1244160 := rfl
  omega
theorem NtPk.R (h : NtPk N caps fls) {lvs : List Lw} {r : Nat → Int} (hl : Lps N fls.length lvs r) (i : Nat) (hi : i < fls.length) (hz : fzL lvs i = true) : Rp1 uU (RL lvs i) (r i) ∧ 0 ≤ r i ∧ r i ≤ uU := by
  have h1 := hl.f.rt i (by have := h.is.m; omega) hz
  exact ⟨hl.r i hi hz, h1.1, h1.2.1⟩
end
def LsPost (w : World) (N : Nt) (m : Nat) (e : Ending) (w' : World) : Prop :=
  ∃ (lvs : List Lw) (r : Nat → Int) (a : Option Addr) (c : Nat), e = .returned (.tuple #[.slice a lvs.length c, .int .i64 0]) ∧ LwsAt w' w.heap.size (.slice a lvs.length c) lvs ∧ Lps N m lvs r ∧ (∀ i < m, fzL lvs i = true) ∧ Below w.heap.size w w'
def LsRel (w : World) (b0 fb rb zb : Nat) (ca fa : Option Addr) (cc fc n m : Nat) (N : Nt) (v : Value) (wr : World) : Prop :=
  ∃ (lvs : List Lw) (r : Nat → Int) (a : Option Addr) (c : Nat), v = .slice a lvs.length c ∧ Hid (LsAt w wr fb rb zb ca fa cc fc n m (RL lvs) (fzL lvs)) ∧ Hid (LwsAt wr b0 v lvs) ∧ Hid (Lps N m lvs r) ∧ b0 ≤ wr.heap.size
def Ls2Rel (w w2 : World) (fb rb zb : Nat) (ca fa : Option Addr) (cc fc n m : Nat) (R : Nat → Rq) (z : Nat → Bool) (rt : Rq) (fl : List Nat) (ix : Value) (wr : World) : Prop :=
  ∃ k : Nat, k ≤ fl.length ∧ ix = .int .i64 k ∧ Hid (LsAt w wr fb rb zb ca fa cc fc n m (setR (fl.take k) rt R) (setZ (fl.take k) z)) ∧ Hid (Upd (fun i => i = rb ∨ i = zb) w2 wr)
def LsCut (w : World) (ca fa : Option Addr) (cc fc n m : Nat) (v : Value) (wx : World) : Prop :=
  ∃ fb rb zb, v = .pointer (some ⟨fb, 0, none⟩) ∧ fb < wx.heap.size ∧ rb < wx.heap.size ∧ zb < wx.heap.size ∧ LsAt w wx fb rb zb ca fa cc fc n m (RL []) (fzL [])
/-- What the operations that make the filling leave. -/
def LsV (w0 : World) (x0 x1 : Value) (m : Nat) (i : Nat) (v : Value) (w : World) : Prop :=
  if i = 4 then ∃ b, v = .slice (some ⟨b, 0, none⟩) m m ∧ w0.heap.size < b ∧ Blk w b 29 (flC rC ((List.range m).map fun _ => (⟨0, 0⟩ : Rq)))
  else if i = 8 then ∃ b, v = .slice (some ⟨b, 0, none⟩) m m ∧ w0.heap.size < b ∧ Blk w b 4 ((List.range m).map fun _ => Value.bool false)
  else if i = 9 then ∃ rb zb, v = .agg #[x0, x1, .slice (some ⟨rb, 0, none⟩) m m, .slice (some ⟨zb, 0, none⟩) m m] ∧ w0.heap.size < rb ∧ w0.heap.size < zb ∧ Blk w rb 29 (flC rC ((List.range m).map fun _ => (⟨0, 0⟩ : Rq))) ∧ Blk w zb 4 ((List.range m).map fun _ => Value.bool false)
  else ∃ b, v = .pointer (some ⟨b, 0, none⟩) ∧ w0.heap.size < b ∧ Blk w b 80 [.slice none 0 0, .slice none 0 0, .slice none 0 0, .slice none 0 0]
theorem LsV.ext {w0 : World} {x0 x1 : Value} {m i : Nat} {v : Value} {w w' : World} (hb : Below w.heap.size w w') (h : LsV w0 x0 x1 m i v w) : LsV w0 x0 x1 m i v w' := by
  unfold LsV at *
  repeat' split
  all_goals simp only [*, if_true, if_false] at h
  all_goals first | (obtain ⟨b, c, h1, h2, h3, h4, h5⟩ := h; exact ⟨b, c, h1, h2, h3, h4.bel hb, h5.bel hb⟩) | (obtain ⟨b, h1, h2, h3⟩ := h; exact ⟨b, h1, h2, h3.bel hb⟩)
theorem LsV.apt {w0 : World} {x0 x1 : Value} {m i : Nat} {v : Value} {w : World} (h : LsV w0 x0 x1 m i v w) : Apt (.pointer (some ⟨w.heap.size, 0, none⟩)) v := by
  intro b c hb hc
  injection hb with hb; injection hb with hb; injection hb with hb
  subst hb
  subst hc
  unfold LsV at h
  by_cases e4 : i = 4
  · rw [if_pos e4] at h
    obtain ⟨b, h1, _⟩ := h
    cases h1
  by_cases e8 : i = 8
  · rw [if_neg e4, if_pos e8] at h
    obtain ⟨b, h1, _⟩ := h
    cases h1
  by_cases e9 : i = 9
  · rw [if_neg e4, if_neg e8, if_pos e9] at h
    obtain ⟨b, c, h1, _⟩ := h
    cases h1
  rw [if_neg e4, if_neg e8, if_neg e9] at h
  obtain ⟨x, h1, h2, h3⟩ := h
  injection h1 with h1; injection h1 with h1; injection h1 with h1
  have := h3.lt
  omega
theorem Blk.ty {w : World} {b : Nat} {T T' : TypeId} {xs ys : List Value} (h : Blk w b T xs) (h' : Blk w b T' ys) : T = T' := by
  unfold Blk at h h'
  rw [h] at h'
  simp at h'
  exact h'.2
theorem lsS {w wx : World} {b : Nat} {T : TypeId} {c0 c1 : Value} (h : Blk wx b T [c0, c1]) (u : Below w.heap.size w wx) : wx.cell? ⟨b, 0, none⟩ = some c0 ∧ wx.cell? ⟨b, 1, none⟩ = some c1 ∧ Blk wx b T [c0, c1] ∧ Below w.heap.size w wx :=
  ⟨h.cell rfl, h.cell rfl, h, u⟩
theorem op_makeQ {P : Program} {Q : Exit → Act → World → Prop} {o : Oper} {a : Act} {w w' : World} {K : Act → World → Prop} {t : TypeId} {l c : Operand} {vl vc v : Value} (ho : o.op = .makeSlice t l c) (hl : a.eval l = vl) (hc : a.eval c = vc)
    (hr : (Instr.makeSlice t vl vc).run P w = .ok v w') (hk : K (a.put o.dst v) w') : Oper.wp P o a w K Q := by
  unfold Oper.wp
  simp [execOp, ho, hl, hc, hr, Result.andThen]
  exact hk
theorem op_build3 {P : Program} {Q : Exit → Act → World → Prop} {o : Oper} {a : Act} {w : World} {K : Act → World → Prop} {t : TypeId} {x0 x1 x2 : Operand} {v0 v1 v2 v : Value} (ho : o.op = .build t #[(0, x0), (1, x1), (2, x2)]) (h0 : a.eval x0 = v0) (h1 : a.eval x1 = v1) (h2 : a.eval x2 = v2)
    (hr : (Instr.build t #[(0, v0), (1, v1), (2, v2)]).run P w = .ok v w) (hk : K (a.put o.dst v) w) : Oper.wp P o a w K Q := by
  unfold Oper.wp
  simp [execOp, ho, h0, h1, h2, hr, Result.andThen]
  exact hk
theorem ls_build (w : World) (a0 a1 a2 a3 : Option Addr) (n0 n1 n2 n3 c0 c1 c2 c3 : Nat) : (Instr.build 80 #[(0, .agg #[.slice a0 n0 c0, .slice a1 n1 c1]), (1, .slice a2 n2 c2), (2, .slice a3 n3 c3)]).run Try.prog w =
    .ok (.agg #[.slice a0 n0 c0, .slice a1 n1 c1, .slice a2 n2 c2, .slice a3 n3 c3]) w := by
  go_simp
theorem ls_start {w wp : World} {fb rb zb n m cc fc : Nat} {ca fa : Option Addr} (l4 : w.heap.size < fb) (lr : w.heap.size < rb) (lz : w.heap.size < zb) (u : Below w.heap.size w wp)
    (F : Blk wp fb 80 [.slice none 0 0, .slice none 0 0, .slice none 0 0, .slice none 0 0]) (R : Blk wp rb 29 (flC rC ((List.range m).map fun _ => (⟨0, 0⟩ : Rq)))) (Z : Blk wp zb 4 ((List.range m).map fun _ => Value.bool false)) :
    LsAt w ((((wp.setCell ⟨fb, 0, none⟩ (.slice ca n cc)).setCell ⟨fb, 1, none⟩ (.slice fa m fc)).setCell ⟨fb, 2, none⟩ (.slice (some ⟨rb, 0, none⟩) m m)).setCell ⟨fb, 3, none⟩ (.slice (some ⟨zb, 0, none⟩) m m)) fb rb zb ca fa cc fc n m (RL []) (fzL []) := by
  have e1 : fb ≠ rb := fun e => by subst e; exact absurd (F.ty R) (by decide)
  have e2 : fb ≠ zb := fun e => by subst e; exact absurd (F.ty Z) (by decide)
  have e3 : rb ≠ zb := fun e => by subst e; exact absurd (R.ty Z) (by decide)
  refine ⟨by omega, by omega, by omega, e1, e2, e3, ?_, ?_, ?_, ?_⟩
  · exact (((F.set 0 _).set 1 _).set 2 _).set 3 _
  · exact (((R.setO _ e1.symm).setO _ e1.symm).setO _ e1.symm).setO _ e1.symm
  · exact (((Z.setO _ e2.symm).setO _ e2.symm).setO _ e2.symm).setO _ e2.symm
  · exact (((u.setCell (by dsimp only; omega) _).setCell (by dsimp only; omega) _).setCell (by dsimp only; omega) _).setCell (by dsimp only; omega) _
set_option maxRecDepth 100000 in
set_option maxHeartbeats 4000000 in
theorem levels_any (w : World) (ca fa : Option Addr) (cc fc : Nat) (caps : List Rq) (fls : List Fw) (N : Nt) (h : NetAt w ca fa caps fls) (hP : NtPk N caps fls) :
    Calls Try.prog 21 #[netV ca fa cc fc caps fls] w (LsPost w N fls.length) := by
  have H := Lib.hid h
  have HP := Lib.hid hP
  have hcl := hP.cl
  have hml := hP.ml
  have VN := fun w' (q : Below w.heap.size w w') => valid_net w' ca fa cc fc caps fls (h.below q) (by omega) (by omega) hP.ic hP.jf (fun f hf => by
    obtain ⟨i, hi⟩ := List.getElem?_of_mem hf
    exact (hP.is.f i f hi).2.2.2)
  rw [hP.v] at VN
  clear h hP
  unfold netV at VN ⊢
  replace VN := Lib.hid VN
  generalize hnn : caps.length = n at *
  generalize hmm : fls.length = m at *
  have HNN := Lib.hid hnn
  have HMM := Lib.hid hmm
  clear hnn hmm
  have mk1 := fun w => make_rats w m (by omega)
  have mk2 := fun w => make_bools w m (by omega)
  go_enter Try.func21, Try.ntmps21
  go_wp2_with fail
  refine (VN.out _ (alloc_belQ _ _)).mono ?_
  rintro e w1 ⟨rfl, hb⟩
  have X := (Blk.new w 25 [.slice ca n cc, .slice fa m fc]).bel hb
  have x0 := X.cell (i := 0) rfl
  have x1 := X.cell (i := 1) rfl
  have xz := X.lt
  have B1 := Lib.hid ((alloc_belQ w (.cells #[.slice ca n cc, .slice fa m fc] 25)).trans (hb.mono (by simp)))
  clear hb VN
  replace X := Lib.hid X
  go_upto_region 3 with (fail)
  go_cut [4] (fun v wx => LsCut w ca fa cc fc n m v wx)
  case first =>
    have XB := Lib.hid (X.out.drew)
    refine wp_region_allH (fun wx => wx.cell? ⟨w.heap.size, 0, none⟩ = some (.slice ca n cc) ∧ wx.cell? ⟨w.heap.size, 1, none⟩ = some (.slice fa m fc) ∧ Blk wx w.heap.size 25 [.slice ca n cc, .slice fa m fc] ∧ Below w.heap.size w wx) 12 (by kernel_rfl) rfl ?_ (fun hHeld => ?_)
    · (exact lsS XB.out (B1.out.trans (Qt.below (Qt.refl w1).drew _)))
    refine wpAnyH_takeG (i := 0) (v := ?_) rfl (by kernel_rfl) (by kernel_rfl) (by kernel_rfl) (fun _ _ _ h => h) rfl ?_ hHeld ?_
    rotate_left
    · intro w hSw
      try dsimp only at hSw
      go_simp
      all_goals with_reducible rfl
    try simp only [Act.put, List.setIfInBounds_toArray, List.set_cons_zero, List.set_cons_succ]
    refine wpAnyH_takeG (i := 1) (v := ?_) rfl (by kernel_rfl) (by kernel_rfl) (by kernel_rfl) (fun _ _ _ h => h) rfl ?_ hHeld ?_
    rotate_left
    · intro w hSw
      try dsimp only at hSw
      go_simp
      all_goals with_reducible rfl
    try simp only [Act.put, List.setIfInBounds_toArray, List.set_cons_zero, List.set_cons_succ]
    refine wpAnyH_takeG (i := 2) (v := ?_) rfl (by kernel_rfl) (by kernel_rfl) (by kernel_rfl) (fun _ _ _ h => h) rfl ?_ hHeld ?_
    rotate_left
    · intro w hSw
      try dsimp only at hSw
      go_simp
      all_goals with_reducible rfl
    try simp only [Act.put, List.setIfInBounds_toArray, List.set_cons_zero, List.set_cons_succ]
    refine wpAnyH_takeG (i := 3) (v := ?_) rfl (by kernel_rfl) (by kernel_rfl) (by kernel_rfl) (fun _ _ _ h => h) rfl ?_ hHeld ?_
    rotate_left
    · intro w hSw
      try dsimp only at hSw
      go_simp
      all_goals with_reducible rfl
    try simp only [Act.put, List.setIfInBounds_toArray, List.set_cons_zero, List.set_cons_succ]
    refine wpAnyH_takeG (i := 5) (v := ?_) rfl (by kernel_rfl) (by kernel_rfl) (by kernel_rfl) (fun _ _ _ h => h) rfl ?_ hHeld ?_
    rotate_left
    · intro w hSw
      try dsimp only at hSw
      go_simp
      all_goals with_reducible rfl
    try simp only [Act.put, List.setIfInBounds_toArray, List.set_cons_zero, List.set_cons_succ]
    refine wpAnyH_takeG (i := 6) (v := ?_) rfl (by kernel_rfl) (by kernel_rfl) (by kernel_rfl) (fun _ _ _ h => h) rfl ?_ hHeld ?_
    rotate_left
    · intro w hSw
      try dsimp only at hSw
      go_simp
      all_goals with_reducible rfl
    try simp only [Act.put, List.setIfInBounds_toArray, List.set_cons_zero, List.set_cons_succ]
    refine wpAnyH_takeG (i := 7) (v := ?_) rfl (by kernel_rfl) (by kernel_rfl) (by kernel_rfl) (fun _ _ _ h => h) rfl ?_ hHeld ?_
    rotate_left
    · intro w hSw
      try dsimp only at hSw
      go_simp
      all_goals with_reducible rfl
    try simp only [Act.put, List.setIfInBounds_toArray, List.set_cons_zero, List.set_cons_succ]
    refine par_go (I := [4, 8, 9, 10]) (d := fun i => ([0, 0, 0, 0, 17, 0, 0, 0, 21, 22, 4] : List Nat).getD i 0) (dep := fun i => ([[], [], [], [], [], [], [], [], [], [4, 8], []] : List (List Nat)).getD i []) (V := LsV w (.slice ca n cc) (.slice fa m fc) m) (Ext := CmpE) (fin := #[true, true, true, true, true, true, true, true, true, true, true, false]) 4 1 #[true, true, true, true, false, true, true, true, false, false, false, false] rfl (by kernel_rfl) (by kernel_rfl) (by kernel_rfl) ?_ ?_ ?_ hHeld ?_
    · intro i hi; simp only [List.mem_cons, List.not_mem_nil, or_false] at hi; rcases hi with rfl | rfl | rfl | rfl <;> simp
    · (exact fun i _ v w w' hb h => h.ext hb)
    · intro i hi; simp only [List.mem_cons, List.not_mem_nil, or_false] at hi
      rcases hi with rfl | rfl | rfl | rfl
      · intro a w hS hfr hdp K hK
        (exact op_makeQ rfl ((hfr 16 (by decide)).trans rfl) ((hfr 16 (by decide)).trans rfl) (mk1 w) (hK _ _ (lsS (hS.2.2.1.alloc _) (hS.2.2.2.alloc hS.2.2.2.size _)) ⟨_, rfl, hS.2.2.1.lt, Blk.new _ _ _⟩ (alloc_belQ _ _) (fun _ _ _ _ _ b c hb _ => by cases hb)))
      · intro a w hS hfr hdp K hK
        (exact op_makeQ rfl ((hfr 20 (by decide)).trans rfl) ((hfr 20 (by decide)).trans rfl) (mk2 w) (hK _ _ (lsS (hS.2.2.1.alloc _) (hS.2.2.2.alloc hS.2.2.2.size _)) ⟨_, rfl, hS.2.2.1.lt, Blk.new _ _ _⟩ (alloc_belQ _ _) (fun _ _ _ _ _ b c hb _ => by cases hb)))
      · intro a w hS hfr hdp K hK
        (obtain ⟨rb, er, lr, RB⟩ := hdp 4 (by simp); obtain ⟨zb, ez, lz, ZB⟩ := hdp 8 (by simp); exact op_build3 rfl ((hfr 13 (by decide)).trans rfl) er ez (ls_build _ _ _ _ _ _ _ _ _ _ _ _ _) (hK _ _ hS ⟨rb, zb, rfl, lr, lz, RB, ZB⟩ (Below.refl _ _) (fun _ _ _ _ _ b c hb _ => by cases hb)))
      · intro a w hS hfr hdp K hK
        (exact op_valueQ (w' := w.alloc (.cells #[.slice none 0 0, .slice none 0 0, .slice none 0 0, .slice none 0 0] 80)) (by first | kernel_rfl | rfl | go_simp) (hK _ _ (lsS (hS.2.2.1.alloc _) (hS.2.2.2.alloc hS.2.2.2.size _)) ⟨_, rfl, hS.2.2.1.lt, Blk.new _ _ _⟩ (alloc_belQ _ _) (fun _ _ _ _ hu => hu.apt)))
    intro x wp hHeld hV hA
    have hV4 := hV 4 (by simp)
    have hV8 := hV 8 (by simp)
    have hV9 := hV 9 (by simp)
    have hV10 := hV 10 (by simp)
    ((obtain ⟨_, er, _⟩ : ∃ b, x 17 = .slice (some ⟨b, 0, none⟩) m m ∧ w.heap.size < b ∧ Blk wp b 29 (flC rC ((List.range m).map fun _ => (⟨0, 0⟩ : Rq))) := hV4); (obtain ⟨_, ez, _⟩ : ∃ b, x 21 = .slice (some ⟨b, 0, none⟩) m m ∧ w.heap.size < b ∧ Blk wp b 4 ((List.range m).map fun _ => Value.bool false) := hV8); (obtain ⟨rb, zb, e9, lr, lz, RB, ZB⟩ : ∃ rb zb, x 22 = .agg #[.slice ca n cc, .slice fa m fc, .slice (some ⟨rb, 0, none⟩) m m, .slice (some ⟨zb, 0, none⟩) m m] ∧ w.heap.size < rb ∧ w.heap.size < zb ∧ Blk wp rb 29 (flC rC ((List.range m).map fun _ => (⟨0, 0⟩ : Rq))) ∧ Blk wp zb 4 ((List.range m).map fun _ => Value.bool false) := hV9); (obtain ⟨fb, ef, lf, FB⟩ : ∃ b, x 4 = .pointer (some ⟨b, 0, none⟩) ∧ w.heap.size < b ∧ Blk wp b 80 [.slice none 0 0, .slice none 0 0, .slice none 0 0, .slice none 0 0] := hV10); simp only [List.map, List.getD_cons_zero, List.getD_cons_succ, putsD, er, ez, e9, ef]; clear hV hA er ez e9 ef; have ff := FB.free; have f0 := FB.cell (i := 0) rfl; have f1 := FB.cell (i := 1) rfl; have f2 := FB.cell (i := 2) rfl; have f3 := FB.cell (i := 3) rfl; have lf2 := FB.lt; have UW := hHeld.2.2.2)
    try simp only [List.map, List.getD_cons_zero, List.getD_cons_succ, putsD]
    try simp only [Act.put, List.setIfInBounds_toArray, List.set_cons_zero, List.set_cons_succ]
    refine wpAnyH_step (i := 11) (by kernel_rfl) rfl (fun KK hK => ?_)
    (go_simp)
    refine hK.out _ _ ?_ (fun hHeld => ?_)
    · (exact lsS ((((hHeld.2.2.1.setO _ (by dsimp only; omega)).setO _ (by dsimp only; omega)).setO _ (by dsimp only; omega)).setO _ (by dsimp only; omega)) ((((hHeld.2.2.2.setCell (by dsimp only; omega) _).setCell (by dsimp only; omega) _).setCell (by dsimp only; omega) _).setCell (by dsimp only; omega) _))
    clear hK KK
    try simp only [Act.put, List.setIfInBounds_toArray, List.set_cons_zero, List.set_cons_succ]
    refine wpAnyH_done (by kernel_rfl) ?_ _
    have LS := Lib.hid (ls_start (ca := ca) (fa := fa) (n := n) (cc := cc) (fc := fc) lf lr lz UW FB RB ZB)
    have g1 := RB.lt
    have g2 := ZB.lt
    go_wp2_with fail
    go_meet
    exact ⟨fb, rb, zb, rfl, by simp; omega, by simp; omega, by simp; omega, LS.out⟩
  case rest =>
    obtain ⟨fb, rb, zb, rfl, q1, q2, q3, T⟩ := hcut
    replace T := Lib.hid T
    clear mk1 mk2 x0 x1 xz X B1
    have LN := Lib.hid (Lps.nil (N := N) HP.out.ok m)
    go_wp2_with fail
    obtain ⟨b0, hb0⟩ : ∃ b0, b0 = wc.heap.size := ⟨_, rfl⟩
    go_loopw [5] (fun v wr => LsRel w b0 fb rb zb ca fa cc fc n m N v wr) (fun v _ => 6 - lenV v)
    case atStart => exact ⟨[], _, none, 0, rfl, T, LwsAt.nil _ _, LN, by omega⟩
    case round =>
      rw [← hb0] at q1 q2 q3
      clear T hb0
      obtain ⟨lvs, r, a, c, rfl, T, L, K, hb⟩ := hrel
      have c2 := T.out.b.cell (i := 2) rfl
      have c3 := T.out.b.cell (i := 3) rfl
      have zf := T.out.b.lt
      have hlv : lvs.length ≤ 5 := by
        have h1 := K.out.o
        have h2 : 0 ≤ nOpen N (fzL lvs) := sI_nonneg fun i _ => by split <;> omega
        omega
      have SZ : Sl Value.bool wr (some ⟨zb, 0, none⟩) ((List.range m).map (fzL lvs)) := Blk.sl (T := 4) (by rw [List.map_map]; exact T.out.z)
      have CB := containsBool_any wr (some ⟨zb, 0, none⟩) m ((List.range m).map (fzL lvs)) false SZ (by rw [List.length_map, List.length_range]; unfold maxLen; omega)
      rw [List.length_map, List.length_range] at CB
      replace CB := Lib.hid CB
      clear SZ
      obtain ⟨op, hop⟩ : ∃ op, op = decide (false ∈ (List.range m).map (fzL lvs)) := ⟨_, rfl⟩
      rw [← hop] at CB
      go_wp2_with fail
      refine CB.out.mono ?_
      rintro e w2 ⟨rfl, hw⟩
      subst w2
      have hfw := T.out.f
      cases op with
      | false =>
        have hall : Hid (∀ i < m, fzL lvs i = true) := fun i hi => by
          have h1 := of_decide_eq_false hop.symm
          cases hz : fzL lvs i with
          | true => rfl
          | false => exact absurd (List.mem_map.2 ⟨i, List.mem_range.2 hi, hz⟩) h1
        clear hop CB
        go_wp2_with fail
        exact bodyPost_ret (v := .tuple #[.slice a lvs.length c, .int .i64 0]) (by simp [results, Try.results21, go_sem]) rfl ⟨lvs, r, a, c, rfl, L.out.rebase (by omega), K.out, hall.out, T.out.u⟩
      | true =>
        obtain ⟨i0, hi0, hz0⟩ : ∃ i, i < m ∧ fzL lvs i = false := by
          have h1 := of_decide_eq_true hop.symm
          obtain ⟨i, h2, h3⟩ := List.mem_map.1 h1
          exact ⟨i, List.mem_range.1 h2, h3⟩
        have FA : FlAt wr fb ca fa cc fc rb zb caps fls (RL lvs) (fzL lvs) := LsAt.fill (by rw [HNN.out, HMM.out]; exact T.out) H.out
        obtain ⟨q, hq⟩ := exists_q HP.out.ok K.out.f K.out.o
        have KK : Lps N fls.length lvs r := by rw [HMM.out]; exact K.out
        have LV := Lib.hid (level_any wr fb ca fa cc fc rb zb caps fls (RL lvs) (fzL lvs) N r q FA HP.out.is (by rw [HMM.out]; omega) (by rw [HNN.out]; omega) (HP.out.R KK) (fun l hl => (HP.out.ok.C l hl).2) hq (fun i hi _ => HP.out.D i hi) HP.out.K)
        have LPN := Lib.hid (fun ql us fnd least k rate hus hS hr => lev_plain (ql := ql) (us := us) (fnd := fnd) (least := least) (k := k) (rate := rate) HP.out.ok HP.out.is K.out.f K.out.o HP.out.K (fun l hl ho => (hq l hl ho).1) (by rw [HP.out.is.m, HMM.out]; exact hi0) hz0 hus hS hr)
        replace KK := Lib.hid KK
        have ov := Lib.hid (fun g hg => own_lt L.out.own (g := g) hg)
        clear FA hq hz0 hi0 hop CB
        go_wp2_with fail
        refine LV.out.mono ?_
        rintro e w3 ⟨ql, us, fnd, least, k, rate, va, kr, vc, rfl, hus, hS, hr, hown, hb3⟩
        obtain ⟨hL, h0, hU, hd, hi, hrt⟩ := LPN.out ql us fnd least k rate hus hS hr
        have K2 := KK.out.step HP.out.is hL h0 hU hd hi hrt va vc
        rw [rowH_lvS] at hown
        have hfm : ∀ i ∈ (List.range fls.length).filter (lvS fls (fzL lvs) ql us least), i < m := fun i hi => by
          rw [← HMM.out]; exact List.mem_range.1 (List.mem_filter.1 hi).1
        have hfn : (List.range fls.length).filter (lvS fls (fzL lvs) ql us least) ≠ [] := by
          obtain ⟨i, _, hs⟩ := hi
          intro e
          have := (mem_lvS (fls := fls) (ql := ql) (us := us) (least := least) (fz := fzL lvs) i).2 hs
          rw [e] at this
          simp at this
        have hfl : ((List.range fls.length).filter (lvS fls (fzL lvs) ql us least)).length ≤ m := by
          exact Nat.le_trans (List.length_filter_le _ _) (by rw [List.length_range]; exact Nat.le_of_eq HMM.out)
        generalize rS (lvS fls (fzL lvs) ql us least) k r = r2 at *
        generalize (List.range fls.length).filter (lvS fls (fzL lvs) ql us least) = fl at *
        obtain ⟨g, sp, rfl, hg, hgb, -, -, rfl, -⟩ := own_blk hown hfn
        have S3 : SlI w3 (some ⟨g, 0, none⟩) (flI fl) := Blk.sub (T := 3) (sp := sp) (by unfold flI; rw [List.map_map]; exact hgb)
        have T3 := T.out.below hb3
        have L3 := L.out.below hb3
        have hg2 := hgb.lt
        have hs3 := hb3.size
        have T4 := Lib.hid (T3.below (alloc_belQ w3 (.cells #[.int .i64 rate.n, .int .i64 rate.d, .slice (some ⟨g, 0, none⟩) fl.length vc] 57)))
        have L4 := Lib.hid (L3.below (alloc_belQ w3 (.cells #[.int .i64 rate.n, .int .i64 rate.d, .slice (some ⟨g, 0, none⟩) fl.length vc] 57)))
        have S4 := Lib.hid (S3.below (alloc_belQ w3 (.cells #[.int .i64 rate.n, .int .i64 rate.d, .slice (some ⟨g, 0, none⟩) fl.length vc] 57)))
        have B4 := Lib.hid (Blk.new w3 57 [.int .i64 rate.n, .int .i64 rate.d, .slice (some ⟨g, 0, none⟩) fl.length vc])
        have z4 : (w3.alloc (.cells #[.int .i64 rate.n, .int .i64 rate.d, .slice (some ⟨g, 0, none⟩) fl.length vc] 57)).heap.size = w3.heap.size + 1 := by simp
        replace K2 := Lib.hid K2
        replace hfm := Lib.hid hfm
        clear hL h0 hU hd hi hrt hus hS hr hown hgb S3 T3 L3 LV LPN hfn hb3
        go_wp2_with fail
        have hkb : b0 ≤ w3.heap.size ∧ g < w3.heap.size ∧ b0 ≤ g := by omega
        have hgw : Hid (wr.heap.size ≤ g) := hg
        clear hg hg2 hs3 c2 c3
        generalize w3.alloc (.cells #[.int .i64 rate.n, .int .i64 rate.d, .slice (some ⟨g, 0, none⟩) fl.length vc] 57) = w4 at *
        generalize w3.heap.size = kb at *
        go_loopw [36] (fun ix wr' => Ls2Rel w w4 fb rb zb ca fa cc fc n m (RL lvs) (fzL lvs) rate fl ix wr') (fun ix _ => fl.length - (intOf ix).toNat)
        case atStart => exact ⟨0, Nat.zero_le _, rfl, by rw [List.take_zero, setR_nil, setZ_nil]; exact T4, Upd.refl _ _⟩
        case round =>
          obtain ⟨j, hj, rfl, T5, U5⟩ := hrel
          have B5 := B4.out.upd U5.out (fun e => by omega)
          have S5 := S4.out.upd U5.out (fun _ e => by dsimp only [Option.getD] at e; omega)
          have c1 := T5.out.b.cell (i := 1) rfl
          have c2 := T5.out.b.cell (i := 2) rfl
          have c3 := T5.out.b.cell (i := 3) rfl
          have d0 := B5.cell (i := 0) rfl
          have d1 := B5.cell (i := 1) rfl
          have d2 := B5.cell (i := 2) rfl
          have z5 := T5.out.b.lt
          have zr := T5.out.r.lt
          have zz := T5.out.z.lt
          have zk := B5.lt
          by_cases hjl : j < fl.length
          · have ei : fl[j]? = some fl[j] := by simp [hjl]
            obtain ⟨okx, fx⟩ := S5 j (fl[j] : Int) (by unfold flI; rw [List.getElem?_map, ei]; rfl)
            rw [adr_mk, Nat.zero_add] at fx
            have him := hfm.out fl[j] (List.mem_of_getElem? ei)
            have E1 := Lib.hid (setR_step ei rate (RL lvs))
            have E2 := Lib.hid (setZ_step ei (fzL lvs))
            clear ei S5 B5
            generalize fl[j] = i at *
            have fr := T5.out.r.free
            have fz := T5.out.z.free
            obtain ⟨e0, e1⟩ := T5.out.rc him
            have e2 := T5.out.zc him
            have hrz := T5.out.rz
            go_wp2_with fail
            go_roundw
            case rel => exact ⟨j + 1, by omega, by go_num, by rw [← E1.out, ← E2.out]; exact T5.out.put him rate, ((U5.out.setCell _ _ (fun _ => .inl rfl)).setCell _ _ (fun _ => .inl rfl)).setCell _ _ (fun _ => .inr rfl)⟩
            case measure => simp [intOf]; omega
          · have hjL : j = fl.length := by omega
            subst hjL
            rw [List.take_length] at T5
            clear c1 c2 c3 zr zz
            have L5 := Lib.hid ((L4.out.upd U5.out (fun k hk => by omega)))
            have L6 := Lib.hid (L5.out.below (alloc_belQ wr (.cells #[.int .i64 rate.n, .int .i64 rate.d, .slice (some ⟨g, 0, none⟩) fl.length vc] 57)))
            have S6 := Lib.hid ((S4.out.upd U5.out (fun _ e => by dsimp only [Option.getD] at e; omega)).below (alloc_belQ wr (.cells #[.int .i64 rate.n, .int .i64 rate.d, .slice (some ⟨g, 0, none⟩) fl.length vc] 57)))
            have T6 := Lib.hid (T5.out.below (alloc_belQ wr (.cells #[.int .i64 rate.n, .int .i64 rate.d, .slice (some ⟨g, 0, none⟩) fl.length vc] 57)))
            have z6 : (wr.alloc (.cells #[.int .i64 rate.n, .int .i64 rate.d, .slice (some ⟨g, 0, none⟩) fl.length vc] 57)).heap.size = wr.heap.size + 1 := by simp
            have zg := B4.out.lt
            have zu := U5.out.size
            obtain ⟨i1, hi, hz0, hz1, hz2⟩ := info_parts Try.infoLv
            have JI := Lib.hid hi; have JZ0 := Lib.hid hz0; have JZ1 := Lib.hid hz1; have JZ2 := Lib.hid hz2
            have SL := Lib.hid (fun j u (hj : [Value.int .i64 rate.n, .int .i64 rate.d, .slice (some ⟨g, 0, none⟩) fl.length vc][j]? = some u) => (⟨rfl, by rw [adr_mk, Nat.zero_add]; exact (Blk.new wr 57 [.int .i64 rate.n, .int .i64 rate.d, .slice (some ⟨g, 0, none⟩) fl.length vc]).cell hj⟩ : okAd (some ⟨wr.heap.size, 0, none⟩) = true ∧ (wr.alloc (.cells #[.int .i64 rate.n, .int .i64 rate.d, .slice (some ⟨g, 0, none⟩) fl.length vc] 57)).cell? (adr (some ⟨wr.heap.size, 0, none⟩) j) = some u))
            clear hi hz0 hz1 hz2 B4
            go_wp2_with (at_builtin; refine wpList_append_cells rfl _ _ 53 rfl b0 57 i1 _ 3 40 Try.underlying53 JI.out JZ0.out JZ1.out JZ2.out rfl (by decide) (.slice a lvs.length c) lvs.length (flC lvC lvs) rfl L6.out.own (some ⟨wr.heap.size, 0, none⟩) 1 1 [.int .i64 rate.n, .int .i64 rate.d, .slice (some ⟨g, 0, none⟩) fl.length vc] rfl rfl SL.out (by intro u hu; simp at hu; rcases hu with rfl | rfl | rfl <;> rfl) ?c1 ?c2 ?c3 ?_)
            case c1 => unfold maxLen; omega
            case c2 => omega
            case c3 => simp; omega
            intro v' w7 hown hgr hat
            have LP := Lib.hid (L6.out.push ⟨rate, some ⟨g, 0, none⟩, vc, fl⟩ rfl hkb.2.2 (by omega) (fun e => by have := (ov.out g e).1; have := hgw.out; omega) S6.out hown hgr (by rw [z6]; exact hat))
            have T7 := Lib.hid (T6.out.upd (Upd.of_grownV hgr) (fun k hk => by have := (ov.out k hk).2; have := T6.out.f; omega))
            have z7 := hgr.size
            obtain ⟨a', c', rfl, _⟩ := own_shape hown
            clear hown hgr hat SL S6 T6 L6
            go_wp2_with fail
            go_roundw
            case rel => exact ⟨lvs ++ [⟨rate, some ⟨g, 0, none⟩, vc, fl⟩], r2, a', c', by rw [List.length_append]; rfl, by rw [RL_snoc, fzL_snoc]; exact T7, LP, by rw [HMM.out] at K2; exact K2, by omega⟩
            case measure => simp [lenV]; omega
end Go.Proofs.Ytbdaehcngmhhcaa
