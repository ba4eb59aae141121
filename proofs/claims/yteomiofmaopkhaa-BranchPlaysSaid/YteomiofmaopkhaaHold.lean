/-
  What is held: the plain law of BranchHolds, and of draining.
-/
import Derived.Test.YteomiofmaopkhaaOrdS
namespace Go.Proofs.Yteomiofmaopkhaa
open Go.RowKit

/-- The frames that are held are ascending, and each waits at an output. -/
structure HoldSt (o : Nat) (fs : List Fr) : Prop where
  asc : (hIds fs).Pairwise (· < ·)
  nz : ∀ x ∈ fs, x.bits ≠ 0 ∧ ∀ j, hasB x.bits j = true → j < o
theorem HoldSt.nil (o : Nat) : HoldSt o [] := ⟨by simp [hIds], by simp⟩
theorem clrB_sub {m k j : Nat} (h : hasB (clrB m k) j = true) : hasB m j = true := by
  unfold clrB at h
  rw [hasB_testBit, Nat.testBit_and] at h
  rw [hasB_testBit]
  simp at h
  exact h.1
theorem hasB_some {m : Nat} (h : m ≠ 0) : ∃ j, hasB m j = true := by
  obtain ⟨j, hj⟩ := Nat.exists_testBit_of_ne_zero h
  exact ⟨j, by rw [hasB_testBit]; exact hj⟩
theorem takeK_ids {k : Nat} : ∀ {fs : List Fr} {p : Int × List Fr}, takeK k fs = some p → hIds p.2 = hIds fs ∧ ∀ x ∈ p.2, ∃ y ∈ fs, ∀ j, hasB x.bits j = true → hasB y.bits j = true
  | [], p, h => by simp [takeK] at h
  | a :: l, p, h => by
    unfold takeK at h
    split at h
    · simp at h
      subst h
      refine ⟨rfl, fun x hx => ?_⟩
      rcases List.mem_cons.1 hx with rfl | hx
      · exact ⟨a, List.mem_cons_self, fun j hj => clrB_sub hj⟩
      · exact ⟨x, List.mem_cons_of_mem _ hx, fun _ h => h⟩
    · cases e : takeK k l with
      | none => rw [e] at h; simp at h
      | some q =>
        rw [e] at h
        simp at h
        subst h
        obtain ⟨h1, h2⟩ := takeK_ids e
        refine ⟨by show a.id :: hIds q.2 = a.id :: hIds l; rw [h1], fun x hx => ?_⟩
        rcases List.mem_cons.1 hx with rfl | hx
        · exact ⟨x, List.mem_cons_self, fun _ h => h⟩
        · obtain ⟨y, hy, h3⟩ := h2 x hx
          exact ⟨y, List.mem_cons_of_mem _ hy, h3⟩
theorem stepK_ids (k : Nat) (rd : Bool) (fs : List Fr) : hIds (stepK k rd fs).2 = hIds fs ∧ ∀ x ∈ (stepK k rd fs).2, ∃ y ∈ fs, ∀ j, hasB x.bits j = true → hasB y.bits j = true := by
  unfold stepK
  split
  · cases e : takeK k fs with
    | none => exact ⟨rfl, fun x hx => ⟨x, hx, fun _ h => h⟩⟩
    | some p => exact takeK_ids e
  · exact ⟨rfl, fun x hx => ⟨x, hx, fun _ h => h⟩⟩
theorem stepAll_ids : ∀ (rs : List Bool) (k : Nat) (fs : List Fr), hIds (stepAll rs k fs).2 = hIds fs ∧ ∀ x ∈ (stepAll rs k fs).2, ∃ y ∈ fs, ∀ j, hasB x.bits j = true → hasB y.bits j = true
  | [], _, fs => ⟨rfl, fun x hx => ⟨x, hx, fun _ h => h⟩⟩
  | r :: rs, k, fs => by
    obtain ⟨h1, h2⟩ := stepAll_ids rs (k + 1) (stepK k r fs).2
    obtain ⟨h3, h4⟩ := stepK_ids k r fs
    refine ⟨h1.trans h3, fun x hx => ?_⟩
    obtain ⟨y, hy, h5⟩ := h2 x hx
    obtain ⟨z, hz, h6⟩ := h4 y hy
    exact ⟨z, hz, fun j h => h6 j (h5 j h)⟩
theorem HoldSt.step {o : Nat} {fs : List Fr} (h : HoldSt o fs) (rs : List Bool) : HoldSt o (keepF (stepAll rs 0 fs).2) := by
  obtain ⟨h1, h2⟩ := stepAll_ids rs 0 fs
  refine ⟨?_, fun x hx => ?_⟩
  · refine List.Pairwise.sublist ?_ (by rw [h1]; exact h.asc : (hIds (stepAll rs 0 fs).2).Pairwise (· < ·))
    exact List.Sublist.map _ List.filter_sublist
  · have hx1 := (List.mem_filter.1 hx)
    refine ⟨by simpa using hx1.2, fun j hj => ?_⟩
    obtain ⟨y, hy, h3⟩ := h2 x hx1.1
    exact (h.nz y hy).2 j (h3 j hj)
theorem putMask_out {o : Int} : ∀ (l : List Int) (m r : Nat), putMask o l m = some r → ∀ z ∈ l, 0 ≤ z ∧ z < o
  | [], _, _, _, z, hz => by simp at hz
  | a :: l, m, r, h, z, hz => by
    unfold putMask at h
    split at h
    · simp at h
    · rename_i hc
      rcases List.mem_cons.1 hz with rfl | hz
      · omega
      · exact putMask_out l _ r h z hz
theorem HoldSt.put {o : Nat} {st : RunSt} (h : HoldSt o st.fs) (hid : ∀ x ∈ st.fs, x.id < st.put.length) (room : Int) (outs : List Int) (hn : 0 < outs.length) : HoldSt o (putSt o room outs st).fs := by
  unfold putSt
  split
  · exact h
  · rename_i m hm
    split
    · have hb := putMask_bits _ _ _ hm
      have ho := putMask_out _ _ _ hm
      have h0 : ∀ j, hasB 0 j = false := fun j => by unfold hasB; simp
      refine ⟨?_, fun x hx => ?_⟩
      · show (hIds (st.fs ++ [⟨st.put.length, m⟩])).Pairwise (· < ·)
        unfold hIds
        rw [List.map_append, List.pairwise_append]
        refine ⟨h.asc, by simp, fun a ha b hb => ?_⟩
        obtain ⟨x, hx, rfl⟩ := List.mem_map.1 ha
        simp at hb
        subst hb
        exact hid x hx
      · rcases List.mem_append.1 hx with hx | hx
        · exact h.nz x hx
        · rw [List.mem_singleton.1 hx]
          refine ⟨fun e => ?_, fun j hj => ?_⟩
          · match outs, hn with
            | z :: zs, _ =>
              have hz := ho z List.mem_cons_self
              have h1 := hb z.toNat
              change m = 0 at e
              rw [e, h0, Bool.false_or] at h1
              have : ((z.toNat : Nat) : Int) = z := by omega
              rw [this] at h1
              simp at h1
          · have h1 := hb j
            change hasB m j = true at hj
            rw [hj, h0, Bool.false_or] at h1
            have h2 : (j : Int) ∈ outs := by simpa using h1.symm
            have := ho _ h2
            omega
    · exact h
theorem HoldSt.op {o : Nat} {room : Int} {k : Nat} {st : RunSt} (h : HoldSt o st.fs) (hi : RunInv o room k st) (x : OpR) : HoldSt o (runOp o room st x).fs := by
  unfold runOp
  split
  · rename_i hn
    exact h.put (fun y hy => (hi.ids y hy).2) room x.outs hn
  · split
    · exact h.step x.rdy
    · exact h
theorem runAll_hold {o : Nat} {room : Int} (ho : o ≤ 8) (hr : 0 ≤ room) (xs : List OpR) : ∀ n, n ≤ xs.length → HoldSt o (runAll o room (xs.take n)).fs ∧ RunInv o room n (runAll o room (xs.take n))
  | 0, _ => ⟨HoldSt.nil o, RunInv.init o room (by omega)⟩
  | n + 1, hn => by
    obtain ⟨h1, h2⟩ := runAll_hold ho hr xs n (by omega)
    obtain ⟨x, hx⟩ : ∃ x, xs[n]? = some x := ⟨_, List.getElem?_eq_getElem (by omega)⟩
    rw [runAll_step hx]
    exact ⟨h1.op h2 x, h2.op ho x⟩
theorem runAll_held {o : Nat} {room : Int} (ho : o ≤ 8) (hr : 0 ≤ room) (xs : List OpR) : HoldSt o (runAll o room xs).fs := by
  have := (runAll_hold ho hr xs xs.length (Nat.le_refl _)).1
  rwa [List.take_length] at this
theorem runAll_order {o : Nat} {room : Int} (ho : o ≤ 8) (hr : 0 ≤ room) (xs : List OpR) : OrdSt o (runAll o room xs) := by
  have := (runAll_ord ho hr xs xs.length (Nat.le_refl _)).1
  rwa [List.take_length] at this

/-- Frame n waits somewhere. -/
def waitsB (o : Nat) (fs : List Fr) (n : Nat) : Bool := (List.range o).any fun k => decide ((n : Int) ∈ wIds fs k)
def waitL (o : Nat) (fs : List Fr) (n : Nat) : List Int := ((List.range n).filter (waitsB o fs)).map fun i : Nat => (i : Int)
theorem waitL_succ (o : Nat) (fs : List Fr) (n : Nat) : waitL o fs (n + 1) = waitL o fs n ++ if waitsB o fs n = true then [(n : Int)] else [] := by
  unfold waitL
  rw [List.range_succ, List.filter_append, List.map_append]
  congr 1
  rw [List.filter_cons]
  split <;> simp
theorem waitsB_iff {o : Nat} {fs : List Fr} (h : HoldSt o fs) (n : Nat) : waitsB o fs n = true ↔ (n : Int) ∈ hIds fs := by
  unfold waitsB
  rw [List.any_eq_true]
  constructor
  · rintro ⟨k, _, hk⟩
    have hk := of_decide_eq_true hk
    unfold wIds at hk
    obtain ⟨x, hx, e⟩ := List.mem_map.1 hk
    exact List.mem_map.2 ⟨x, (List.mem_filter.1 hx).1, e⟩
  · intro hm
    obtain ⟨x, hx, e⟩ := List.mem_map.1 hm
    obtain ⟨h1, h2⟩ := h.nz x hx
    obtain ⟨j, hj⟩ := hasB_some h1
    refine ⟨j, List.mem_range.2 (h2 j hj), decide_eq_true ?_⟩
    exact List.mem_map.2 ⟨x, List.mem_filter.2 ⟨hx, hj⟩, e⟩
theorem asc_filter : ∀ (l : List Int) (n : Int), l.Pairwise (· < ·) → l.filter (fun z => decide (z < n + 1)) = l.filter (fun z => decide (z < n)) ++ if n ∈ l then [n] else []
  | [], n, _ => by simp
  | a :: l, n, h => by
    obtain ⟨h1, h2⟩ := List.pairwise_cons.1 h
    have ih := asc_filter l n h2
    rw [List.filter_cons, List.filter_cons, ih]
    by_cases e : a = n
    · subst e
      have hno : ¬ a ∈ l := fun hm => by have := h1 a hm; omega
      have hf : l.filter (fun z => decide (z < a)) = [] := by
        rw [List.filter_eq_nil_iff]
        intro z hz
        have := h1 z hz
        simp; omega
      simp [hno, hf]
      omega
    · by_cases hlt : a < n
      · have : a < n + 1 := by omega
        have e2 : (n ∈ a :: l) = (n ∈ l) := by simp [Ne.symm e]
        simp only [hlt, this, decide_true, if_true, List.cons_append, e2]
      · have h3 : ¬ a < n + 1 := by omega
        have e2 : (n ∈ a :: l) = (n ∈ l) := by simp [Ne.symm e]
        simp [hlt, h3, e2]
theorem waitL_filter {o : Nat} {fs : List Fr} (h : HoldSt o fs) (h0 : ∀ x ∈ fs, 0 ≤ x.id) : ∀ n : Nat, waitL o fs n = (hIds fs).filter (fun z => decide (z < (n : Int)))
  | 0 => by
    have : (hIds fs).filter (fun z => decide (z < ((0 : Nat) : Int))) = [] := by
      rw [List.filter_eq_nil_iff]
      intro z hz
      obtain ⟨x, hx, rfl⟩ := List.mem_map.1 hz
      have := h0 x hx
      simp; omega
    rw [this]; rfl
  | n + 1 => by
    rw [waitL_succ, waitL_filter h h0 n]
    have := asc_filter (hIds fs) (n : Int) h.asc
    rw [show ((n + 1 : Nat) : Int) = (n : Int) + 1 from by omega, this]
    congr 1
    by_cases hb : waitsB o fs n = true
    · rw [if_pos hb, if_pos ((waitsB_iff h n).1 hb)]
    · rw [if_neg hb, if_neg (fun hm => hb ((waitsB_iff h n).2 hm))]
theorem waitL_all {o : Nat} {fs : List Fr} (h : HoldSt o fs) {n : Nat} (h0 : ∀ x ∈ fs, 0 ≤ x.id ∧ x.id < (n : Int)) : waitL o fs n = hIds fs := by
  rw [waitL_filter h (fun x hx => (h0 x hx).1), List.filter_eq_self]
  intro z hz
  obtain ⟨x, hx, rfl⟩ := List.mem_map.1 hz
  have := (h0 x hx).2
  simpa using this

/-- The first frame gives all of the copies that a range of outputs asks. -/
theorem stepAll_head {x : Fr} : ∀ (m k : Nat) (y : Fr) (xs : List Fr), k + m ≤ 8 → (∀ j, j < 8 → hasB y.bits j = (hasB x.bits j && decide (k ≤ j))) → (∀ j, hasB y.bits j = true → hasB x.bits j = true) →
    ∃ z zs, (stepAll (List.replicate m true) k (y :: xs)).2 = z :: zs ∧ zs.length = xs.length ∧ (∀ j, j < 8 → hasB z.bits j = (hasB x.bits j && decide (k + m ≤ j))) ∧ ∀ j, hasB z.bits j = true → hasB x.bits j = true
  | 0, k, y, xs, _, h, hs => ⟨y, xs, rfl, rfl, h, hs⟩
  | m + 1, k, y, xs, hm, h, hs => by
    have hk : k < 8 := by omega
    have hst : ∃ y2 xs2, (stepK k true (y :: xs)).2 = y2 :: xs2 ∧ xs2.length = xs.length ∧ (∀ j, j < 8 → hasB y2.bits j = (hasB x.bits j && decide (k + 1 ≤ j))) ∧ ∀ j, hasB y2.bits j = true → hasB x.bits j = true := by
      unfold stepK takeK
      by_cases hb : hasB y.bits k = true
      · refine ⟨⟨y.id, clrB y.bits k⟩, xs, by simp [hb], rfl, fun j hj => ?_, fun j hj => hs j (clrB_sub hj)⟩
        show hasB (clrB y.bits k) j = _
        rw [hasB_clrB _ _ _ hk hj, h j hj]
        by_cases e : k = j
        · subst e; simp
        · have : decide (k ≤ j) = decide (k + 1 ≤ j) := by rw [decide_eq_decide]; omega
          simp [e, this]
      · have hy : ∀ j, j < 8 → hasB y.bits j = (hasB x.bits j && decide (k + 1 ≤ j)) := fun j hj => by
          by_cases e : k = j
          · subst e
            have : hasB y.bits k = false := by simpa using hb
            rw [this]; simp
          · rw [h j hj]
            have : decide (k ≤ j) = decide (k + 1 ≤ j) := by rw [decide_eq_decide]; omega
            rw [this]
        cases e : takeK k xs with
        | none => exact ⟨y, xs, by simp [hb], rfl, hy, hs⟩
        | some p => exact ⟨y, p.2, by simp [hb], takeK_len e, hy, hs⟩
    obtain ⟨y2, xs2, e1, e2, e3, e4⟩ := hst
    obtain ⟨z, zs, f1, f2, f3, f4⟩ := stepAll_head m (k + 1) y2 xs2 (by omega) e3 e4
    refine ⟨z, zs, ?_, f2.trans e2, fun j hj => ?_, f4⟩
    · show (stepAll (List.replicate m true) (k + 1) (stepK k true (y :: xs)).2).2 = _
      rw [e1]; exact f1
    · rw [f3 j hj]
      have : k + 1 + m = k + (m + 1) := by omega
      rw [this]
theorem drain_len {o : Nat} {fs : List Fr} (h : HoldSt o fs) (ho : o ≤ 8) : (keepF (stepAll (List.replicate o true) 0 fs).2).length ≤ fs.length - 1 := by
  cases fs with
  | nil =>
    have := keepF_len_le (stepAll (List.replicate o true) 0 []).2
    rw [(stepAll_len _ _ _).1] at this
    simpa using this
  | cons x xs =>
    obtain ⟨z, zs, e1, e2, e3, e4⟩ := stepAll_head (x := x) o 0 x xs (by omega) (fun j _ => by simp) (fun _ h => h)
    have hz : z.bits = 0 := by
      rcases Nat.eq_zero_or_pos z.bits with h0 | h0
      · exact h0
      · obtain ⟨j, hj⟩ := hasB_some (m := z.bits) (by omega)
        have hjo := (h.nz x List.mem_cons_self).2 j (e4 j hj)
        have := e3 j (by omega)
        rw [hj] at this
        simp at this
        omega
    rw [e1]
    unfold keepF
    rw [List.filter_cons, if_neg (by simp [hz])]
    have := List.length_filter_le (fun x : Fr => decide (x.bits ≠ 0)) zs
    simp only [List.length_cons]
    have h3 := keepF_len_le zs
    unfold keepF at h3
    omega
/-- A step without ready outputs changes nothing. -/
theorem stepAll_none : ∀ (m k : Nat) (fs : List Fr), stepAll (List.replicate m false) k fs = (List.replicate m (-1), fs)
  | 0, _, _ => rfl
  | m + 1, k, fs => by
    have := stepAll_none m (k + 1) fs
    show ((stepK k false fs).1 :: (stepAll (List.replicate m false) (k + 1) (stepK k false fs).2).1, (stepAll (List.replicate m false) (k + 1) (stepK k false fs).2).2) = _
    have e : stepK k false fs = (-1, fs) := rfl
    rw [e, this]
    rfl
theorem HoldSt.keep {o : Nat} {fs : List Fr} (h : HoldSt o fs) : keepF fs = fs := by
  unfold keepF
  rw [List.filter_eq_self]
  intro x hx
  have := (h.nz x hx).1
  simpa using this
end Go.Proofs.Yteomiofmaopkhaa
