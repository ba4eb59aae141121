/-
  The walk of the law CreditRaises.
-/
import Derived.Test.YtdfmahedhadfoaaAwake
import Derived.Test.YtdfmahedhadfoaaTak
namespace Go.Proofs.Ytdfmahedhadfoaa
open Go.RowKit
set_option linter.unusedVariables false

/-- The greatest permitted number. -/
def vstep (m x : Int) : Int := if x < 0 ∨ 1099511627776 < x then m else max m x
theorem fold_le : ∀ (l : List Int) (m K : Int), l.foldl vstep m ≤ K ↔ m ≤ K ∧ ∀ x ∈ l, ¬ (x < 0 ∨ 1099511627776 < x) → x ≤ K
  | [], m, K => by simp
  | x :: l, m, K => by
    rw [List.foldl_cons, fold_le l]
    constructor
    · rintro ⟨h1, h2⟩
      unfold vstep at h1
      split at h1
      · rename_i hx
        refine ⟨h1, fun y hy hv => ?_⟩
        rcases List.mem_cons.1 hy with rfl | hy
        · exact absurd hx hv
        · exact h2 y hy hv
      · refine ⟨by omega, fun y hy hv => ?_⟩
        rcases List.mem_cons.1 hy with rfl | hy
        · omega
        · exact h2 y hy hv
    · rintro ⟨h1, h2⟩
      refine ⟨?_, fun y hy hv => h2 y (List.mem_cons_of_mem _ hy) hv⟩
      unfold vstep
      split
      · exact h1
      · rename_i hx
        have := h2 x (List.mem_cons_self) hx
        omega
def vmax (l : List Int) : Int := l.foldl vstep 0
theorem vmax_ge (l : List Int) : 0 ≤ vmax l := ((fold_le l 0 _).1 (Int.le_refl _)).1
theorem vmax_mem {l : List Int} {x : Int} (hx : x ∈ l) (hv : ¬ (x < 0 ∨ 1099511627776 < x)) : x ≤ vmax l := ((fold_le l 0 _).1 (Int.le_refl _)).2 x hx hv
theorem vmax_le {l : List Int} {K : Int} (h0 : 0 ≤ K) (h : ∀ x ∈ l, ¬ (x < 0 ∨ 1099511627776 < x) → x ≤ K) : vmax l ≤ K := (fold_le l 0 K).2 ⟨h0, h⟩
theorem vmax_bd (l : List Int) : vmax l ≤ 1099511627776 := vmax_le (by decide) fun x _ hx => by omega
theorem vmax_rev (l : List Int) : vmax l.reverse = vmax l :=
  Int.le_antisymm (vmax_le (vmax_ge _) fun x hx hv => vmax_mem (List.mem_reverse.1 hx) hv) (vmax_le (vmax_ge _) fun x hx hv => vmax_mem (List.mem_reverse.2 hx) hv)
theorem vmax_take {l : List Int} {k : Nat} {x : Int} (h : l[k]? = some x) : vmax (l.take (k + 1)) = vstep (vmax (l.take k)) x := by
  unfold vmax
  rw [List.take_add_one, h, List.foldl_append]
  rfl
theorem rev_get {l : List Int} {k m : Nat} {x : Int} (h : l[m]? = some x) (e : m + k + 1 = l.length) : l.reverse[k]? = some x := by
  rw [List.getElem?_reverse (by omega)]
  have : l.length - 1 - k = m := by omega
  rw [this, h]
theorem vstep_mono {m m' x : Int} (h : m ≤ m') : vstep m x ≤ vstep m' x := by unfold vstep; split <;> omega
theorem vstep_ge (m x : Int) : m ≤ vstep m x := by unfold vstep; split <;> omega
theorem vstep_le {m x K : Int} (h : m ≤ K) (hx : ¬ (x < 0 ∨ 1099511627776 < x) → x ≤ K) : vstep m x ≤ K := by
  unfold vstep
  split
  · exact h
  · rename_i hv; have := hx hv; omega
theorem raiX_v (m x : Int) : raiX ⟨0, m⟩ x = ⟨0, vstep m x⟩ := by unfold raiX vstep; split <;> rfl

/-- Two takers of one class that share no block. -/
structure T2 (W : World) (ga ca gb cb : Nat) (ma mb : Int) (w : World) : Prop where
  hA : TAt w W.heap.size ga ca [⟨0, ma⟩]
  hB : TAt w W.heap.size gb cb [⟨0, mb⟩]
  n1 : gb ≠ ca
  n2 : cb ≠ ca
  n3 : ga ≠ cb
  bel : Below W.heap.size W w
  oa : 0 ≤ ma
  ob : 0 ≤ mb
  ua : ma ≤ 1099511627776
  ub : mb ≤ 1099511627776
theorem T2.below {W : World} {ga ca gb cb : Nat} {ma mb : Int} {w w' : World} (h : T2 W ga ca gb cb ma mb w) (b : Below w.heap.size w w') : T2 W ga ca gb cb ma mb w' :=
  ⟨h.hA.below b, h.hB.below b, h.n1, h.n2, h.n3, h.bel.trans (b.mono h.bel.size), h.oa, h.ob, h.ua, h.ub⟩
def T2Post (W : World) (ga ca gb cb : Nat) (ma mb : Int) (res : Value) (e : Ending) (w : World) : Prop := e = .returned res ∧ T2 W ga ca gb cb ma mb w
theorem vst_bd {m x : Int} (h : 0 ≤ m) (h2 : m ≤ 1099511627776) : 0 ≤ vstep m x ∧ vstep m x ≤ 1099511627776 := by unfold vstep; split <;> omega
theorem raiA {W : World} {ga ca gb cb : Nat} {ma mb : Int} {w : World} (h : T2 W ga ca gb cb ma mb w) (x : Int) :
    Calls Try.prog 24 #[.pointer (some ⟨ga, 0, none⟩), .int .i64 0, .int .i64 x] w (T2Post W ga ca gb cb (vstep ma x) mb (.int .i64 (raiE ⟨0, ma⟩ x))) :=
  (rai_ok w _ ga ca 0 x _ ⟨0, ma⟩ h.hA rfl ⟨Int.le_refl _, h.oa, h.ua⟩ (by simp)).mono fun e w' ⟨h1, h2, h3⟩ => by
    rw [raiX_v] at h2
    exact ⟨h1, h2, h.hB.upd h3 h.n1 h.n2, h.n1, h.n2, h.n3, Upd.below h.bel h3 h.bel.size fun i hi => by have := h.hA.b2; omega, (vst_bd h.oa h.ua).1, h.ob, (vst_bd h.oa h.ua).2, h.ub⟩
theorem raiB {W : World} {ga ca gb cb : Nat} {ma mb : Int} {w : World} (h : T2 W ga ca gb cb ma mb w) (x : Int) :
    Calls Try.prog 24 #[.pointer (some ⟨gb, 0, none⟩), .int .i64 0, .int .i64 x] w (T2Post W ga ca gb cb ma (vstep mb x) (.int .i64 (raiE ⟨0, mb⟩ x))) :=
  (rai_ok w _ gb cb 0 x _ ⟨0, mb⟩ h.hB rfl ⟨Int.le_refl _, h.ob, h.ub⟩ (by simp)).mono fun e w' ⟨h1, h2, h3⟩ => by
    rw [raiX_v] at h2
    exact ⟨h1, h.hA.upd h3 h.n3 (Ne.symm h.n2), h2, h.n1, h.n2, h.n3, Upd.below h.bel h3 h.bel.size fun i hi => by have := h.hB.b2; omega, h.oa, (vst_bd h.ob h.ub).1, h.ua, (vst_bd h.ob h.ub).2⟩
theorem vcase (m x : Int) : (x < 0 ∧ decide (x < 0) = true ∧ Hid (raiE ⟨0, m⟩ x = 2)) ∨ (¬ x < 0 ∧ 1099511627776 < x ∧ (decide (x < 0) = false ∧ decide (1099511627776 < x) = true) ∧ Hid (raiE ⟨0, m⟩ x = 2)) ∨
    (¬ x < 0 ∧ ¬ 1099511627776 < x ∧ (decide (x < 0) = false ∧ decide (1099511627776 < x) = false) ∧ Hid (raiE ⟨0, m⟩ x = 0)) := by
  by_cases h1 : x < 0
  · exact .inl ⟨h1, by simpa using h1, by show _ = _; unfold raiE; rw [if_pos (.inl h1)]⟩
  · by_cases h2 : 1099511627776 < x
    · exact .inr (.inl ⟨h1, h2, ⟨by simpa using h1, by simpa using h2⟩, by show _ = _; unfold raiE; rw [if_pos (.inr h2)]⟩)
    · exact .inr (.inr ⟨h1, h2, ⟨by simpa using h1, by simpa using h2⟩, by show _ = _; unfold raiE; rw [if_neg (by omega)]⟩)
theorem vcase4 (m x bs : Int) : (x < 0 ∧ decide (x < 0) = true ∧ Hid (raiE ⟨0, m⟩ x = 2)) ∨ (¬ x < 0 ∧ 1099511627776 < x ∧ (decide (x < 0) = false ∧ decide (1099511627776 < x) = true) ∧ Hid (raiE ⟨0, m⟩ x = 2)) ∨
    (¬ x < 0 ∧ (¬ 1099511627776 < x ∧ bs < x) ∧ (decide (x < 0) = false ∧ decide (1099511627776 < x) = false) ∧ Hid (raiE ⟨0, m⟩ x = 0)) ∨
    (¬ x < 0 ∧ (¬ 1099511627776 < x ∧ ¬ bs < x) ∧ (decide (x < 0) = false ∧ decide (1099511627776 < x) = false) ∧ Hid (raiE ⟨0, m⟩ x = 0)) := by
  rcases vcase m x with h | h | ⟨h1, h2, h3, h4⟩
  · exact .inl h
  · exact .inr (.inl h)
  · by_cases hb : bs < x
    · exact .inr (.inr (.inl ⟨h1, ⟨h2, hb⟩, h3, h4⟩))
    · exact .inr (.inr (.inr ⟨h1, ⟨h2, hb⟩, h3, h4⟩))

def RaRel (W : World) (ga ca gb cb : Nat) (l : List Int) (v i : Value) (w : World) : Prop :=
  ∃ (k : Nat) (bs ma : Int), k ≤ l.length ∧ i = .int .i64 k ∧ v = .int .i64 bs ∧ bs = vmax (l.take k) ∧ bs ≤ ma ∧ ma ≤ vmax l ∧ T2 W ga ca gb cb ma (vmax (l.reverse.take k)) w

set_option maxHeartbeats 8000000 in
set_option maxRecDepth 100000 in
theorem creditRaises_walk (W : World) (a0 : Option Addr) (c0 : Nat) (l : List Int) (s0 : SlI W a0 l) (g0 : ∀ y ∈ l, IntOk .i64 y) (m0 : l.length ≤ maxLen) :
    Calls Try.prog 6 #[.slice a0 l.length c0] W fun e W' => e = .returned (.bool true) ∧ Below W.heap.size W W' := by
  have HAW := Lib.hid (awake_ok W)
  have S0 := Lib.hid s0
  clear s0 g0
  unfold maxLen at m0
  by_cases h20 : (20 : Int) < (l.length : Int)
  · go_enter Try.func6, Try.ntmps6
    go_wp2_with fail
    refine HAW.out.mono ?_
    rintro e w1 ⟨rfl, hb⟩
    have B1 := Lib.hid hb; clear hb
    go_wp2_with fail
    go_ret
    exact ⟨rfl, B1.out⟩
  have NT := Lib.hid fun w => newT_ok w 1 (by decide) (by decide)
  go_enter Try.func6, Try.ntmps6
  go_wp2_with fail
  refine HAW.out.mono ?_
  rintro e w1 ⟨rfl, hb⟩
  have B1 := Lib.hid hb; clear hb
  have N1 := Lib.hid (NT.out w1)
  go_wp2_with fail
  refine N1.out.mono ?_
  rintro e w2 ⟨rfl, hT, hB, hz⟩
  have TA := Lib.hid hT; have B2 := Lib.hid (B1.out.trans (hB.mono B1.out.size)); have Z2 := Lib.hid hz
  clear hT hB hz
  have N2 := Lib.hid (NT.out w2)
  go_wp2_with fail
  refine N2.out.mono ?_
  rintro e w3 ⟨rfl, hT, hB, hz⟩
  have T0 : Hid (T2 W (w1.heap.size + 1) w1.heap.size (w2.heap.size + 1) w2.heap.size 0 0 w3) := by
    have h1 := B1.out.size
    have h2 := Z2.out
    refine ⟨?_, ?_, by omega, by omega, by omega, B2.out.trans (hB.mono B2.out.size), by decide, by decide, by decide, by decide⟩
    · have := TA.out.below hB
      exact ⟨this.hg, this.hc, this.ne, by omega, h1⟩
    · exact ⟨hT.hg, hT.hc, hT.ne, by omega, by omega⟩
  clear hT hB hz TA
  generalize w1.heap.size + 1 = ga at *
  generalize w2.heap.size + 1 = gb at *
  generalize w1.heap.size = ca at *
  generalize w2.heap.size = cb at *
  clear N1 N2
  go_wp2_with fail
  go_loopw [7, 41] (fun v i w => RaRel W ga ca gb cb l v i w) (fun _ i _ => l.length - (intOf i).toNat)
  case atStart => exact ⟨0, 0, 0, Nat.zero_le _, rfl, rfl, rfl, Int.le_refl _, vmax_ge _, T0.out⟩
  case round =>
    obtain ⟨k, bs, ma, hk, rfl, rfl, hbs, hbm, hmv, hT⟩ := hrel
    have HT := Lib.hid hT; have HBS := Lib.hid hbs; have HBM := Lib.hid hbm; have HMV := Lib.hid hmv
    clear hT hbs hbm hmv
    generalize hmb : vmax (l.reverse.take k) = mb at *
    have HMB := Lib.hid hmb; clear hmb
    by_cases hlt : k < l.length
    · obtain ⟨x, ex, okx, cx⟩ := (S0.out.below HT.out.bel).get (k := k) hlt
      obtain ⟨m, hm⟩ : ∃ m : Nat, (l.length : Int) - 1 - k = m := ⟨((l.length : Int) - 1 - k).toNat, by omega⟩
      have hml : m < l.length := by omega
      obtain ⟨y, ey, oky, cy⟩ := (S0.out.below HT.out.bel).get (k := m) hml
      have HM := Lib.hid hm
      have A1 := Lib.hid (raiA HT.out x)
      have A2 := Lib.hid fun w h => raiA (W := W) (ga := ga) (ca := ca) (gb := gb) (cb := cb) (ma := vstep ma x) (mb := mb) (w := w) h y
      have A3 := Lib.hid fun w h => raiB (W := W) (ga := ga) (ca := ca) (gb := gb) (cb := cb) (ma := vstep (vstep ma x) y) (mb := mb) (w := w) h y
      have FIN : Hid (∀ (bs' : Int) (w : World), bs' = vstep bs x → T2 W ga ca gb cb (vstep (vstep ma x) y) (vstep mb y) w → RaRel W ga ca gb cb l (.int .i64 bs') (.int .i64 ((k + 1 : Nat) : Int)) w) := by
        intro bs' w e h
        have h1 : vmax (l.take (k + 1)) = vstep bs x := by rw [vmax_take ex.out, ← HBS.out]
        have h2 : vmax (l.reverse.take (k + 1)) = vstep mb y := by rw [vmax_take (rev_get ey.out (by have := HM.out; omega)), HMB.out]
        refine ⟨k + 1, bs', vstep (vstep ma x) y, by omega, rfl, rfl, by rw [h1, e], ?_, ?_, by rw [h2]; exact h⟩
        · rw [e]; exact Int.le_trans (vstep_mono HBM.out) (vstep_ge _ _)
        · exact vstep_le (vstep_le HMV.out fun hv => vmax_mem (List.mem_of_getElem? ex.out) hv) fun hv => vmax_mem (List.mem_of_getElem? ey.out) hv
      have VX := Lib.hid (vcase4 ma x bs)
      have VY := Lib.hid (vcase mb y)
      have hl20 : l.length ≤ 20 := by omega
      rcases VX.out with ⟨hx1, hd1, ex1⟩ | ⟨hx1, hx2, ⟨hd1, hd2⟩, ex1⟩ | ⟨hx1, ⟨hx2, hb0⟩, ⟨hd1, hd2⟩, ex1⟩ | ⟨hx1, ⟨hx2, hb0⟩, ⟨hd1, hd2⟩, ex1⟩
      all_goals rw [ex1.out] at A1
      all_goals rcases VY.out with ⟨hy1, he1, ey1⟩ | ⟨hy1, hy2, ⟨he1, he2⟩, ey1⟩ | ⟨hy1, hy2, ⟨he1, he2⟩, ey1⟩
      all_goals rw [ey1.out] at A3
      all_goals as_aux_lemma =>
        clear VX VY
        go_wp2_with fail
        refine A1.out.mono ?_
        rintro e w4 ⟨rfl, hT⟩
        have T4 := Lib.hid hT; clear hT
        have cx4 := ((S0.out.below T4.out.bel) k x ex.out).2
        have cy4 := ((S0.out.below T4.out.bel) m y ey.out).2
        clear cx cy
        go_wp2_with fail
        refine (A2.out _ T4.out).mono ?_
        rintro e w5 ⟨rfl, hT⟩
        have T5 := Lib.hid hT; clear hT
        have cx5 := ((S0.out.below T5.out.bel) k x ex.out).2
        have cy5 := ((S0.out.below T5.out.bel) m y ey.out).2
        clear cx4 cy4
        go_wp2_with fail
        refine (A3.out _ T5.out).mono ?_
        rintro e w6 ⟨rfl, hT⟩
        have T6 := Lib.hid hT; clear hT
        have cx6 := ((S0.out.below T6.out.bel) k x ex.out).2
        have cy6 := ((S0.out.below T6.out.bel) m y ey.out).2
        clear cx5 cy5
        go_wp2_with fail
        go_roundw
        case rel => exact FIN.out _ _ (by unfold vstep; split <;> omega) T6.out
        case measure => simp [intOf]; omega
    · obtain rfl : k = l.length := by omega
      have e1 : Hid (bs = vmax l) := by show _ = _; rw [HBS.out, List.take_length]
      have e2 : Hid (mb = vmax l) := by show _ = _; rw [← HMB.out, List.take_of_length_le (by simp)]; exact vmax_rev l
      have e3 : Hid (ma = vmax l) := Int.le_antisymm HMV.out (by rw [← e1.out]; exact HBM.out)
      rw [e2.out, e3.out] at HT
      rw [e1.out]
      generalize vmax l = V at *
      have LA := Lib.hid fun w (h : T2 W ga ca gb cb V V w) => (left_ok w _ ga ca 0 _ ⟨0, V⟩ h.hA rfl ⟨Int.le_refl _, h.oa, h.ua⟩ (by simp)).mono fun e w' ⟨h1, h2⟩ => (⟨h1, h.below h2⟩ : T2Post W ga ca gb cb V V (.int .i64 (V - 0)) e w')
      have LB := Lib.hid fun w (h : T2 W ga ca gb cb V V w) => (left_ok w _ gb cb 0 _ ⟨0, V⟩ h.hB rfl ⟨Int.le_refl _, h.ob, h.ub⟩ (by simp)).mono fun e w' ⟨h1, h2⟩ => (⟨h1, h.below h2⟩ : T2Post W ga ca gb cb V V (.int .i64 (V - 0)) e w')
      have SA := Lib.hid fun w (h : T2 W ga ca gb cb V V w) => (sent_ok w _ ga ca 0 _ ⟨0, V⟩ h.hA rfl ⟨Int.le_refl _, h.oa, h.ua⟩ (by simp)).mono fun e w' ⟨h1, h2⟩ => (⟨h1, h.below h2⟩ : T2Post W ga ca gb cb V V (.int .i64 0) e w')
      rw [Int.sub_zero] at LA LB
      have t1 : (V == V) = true := by simp
      clear e1 e2 e3
      go_wp2_with fail
      refine (LA.out _ HT.out).mono ?_
      rintro e w4 ⟨rfl, hT⟩
      have T4 := Lib.hid hT; clear hT
      go_wp2_with fail
      refine (LB.out _ T4.out).mono ?_
      rintro e w5 ⟨rfl, hT⟩
      have T5 := Lib.hid hT; clear hT
      go_wp2_with fail
      refine (SA.out _ T5.out).mono ?_
      rintro e w6 ⟨rfl, hT⟩
      have T6 := Lib.hid hT; clear hT
      go_wp2_with fail
      go_ret
      exact ⟨rfl, T6.out.bel⟩
end Go.Proofs.Ytdfmahedhadfoaa
