/-
  What run computes, in plain lists.
-/
import Derived.Test.YteomiofmaopkhaaRunM
namespace Go.Proofs.Yteomiofmaopkhaa
open Go.RowKit
set_option linter.unusedVariables false

structure RunSt where
  put : List (List Int)
  left : List (List Int)
  fs : List Fr
  freed : Int
def addLeft : List (List Int) → List Int → List (List Int)
  | l :: ls, i :: is => (if 0 ≤ i then l ++ [i] else l) :: addLeft ls is
  | ls, _ => ls
def stepSt (rs : List Bool) (st : RunSt) : RunSt :=
  { st with left := addLeft st.left (stepAll rs 0 st.fs).1, fs := keepF (stepAll rs 0 st.fs).2, freed := st.freed + ((st.fs.length : Int) - (keepF (stepAll rs 0 st.fs).2).length) }
def putSt (o : Int) (room : Int) (outs : List Int) (st : RunSt) : RunSt :=
  match putMask o outs 0 with
  | none => st
  | some m => if (st.fs.length : Int) < room then { st with put := st.put ++ [outs], fs := st.fs ++ [⟨st.put.length, m⟩] } else st
def runOp (o : Nat) (room : Int) (st : RunSt) (x : OpR) : RunSt :=
  if 0 < x.outs.length then putSt o room x.outs st else if x.rdy.length = o then stepSt x.rdy st else st
def runAll (o : Nat) (room : Int) (xs : List OpR) : RunSt := xs.foldl (runOp o room) ⟨[], List.replicate o [], [], 0⟩
theorem runAll_step {o : Nat} {room : Int} {xs : List OpR} {k : Nat} {x : OpR} (h : xs[k]? = some x) : runAll o room (xs.take (k + 1)) = runOp o room (runAll o room (xs.take k)) x := by
  unfold runAll
  rw [List.take_add_one, h, List.foldl_append]
  rfl
/-- What a run keeps. -/
structure RunInv (o : Nat) (room : Int) (k : Nat) (st : RunSt) : Prop where
  ids : ∀ x ∈ st.fs, 0 ≤ x.id ∧ x.id < st.put.length
  b8 : ∀ x ∈ st.fs, x.bits < 256
  fr : (st.fs.length : Int) ≤ room
  pk : st.put.length ≤ k
  cnt : st.freed + st.fs.length = st.put.length
  f0 : 0 ≤ st.freed
  lo : st.left.length = o
  lk : ∀ l ∈ st.left, l.length ≤ k
theorem stepK_mem {k : Nat} {rd : Bool} {fs : List Fr} : ∀ x ∈ (stepK k rd fs).2, ∃ y ∈ fs, y.id = x.id ∧ (y.bits < 256 → x.bits < 256) := by
  have key : ∀ (fs : List Fr) (p : Int × List Fr), takeK k fs = some p → ∀ x ∈ p.2, ∃ y ∈ fs, y.id = x.id ∧ (y.bits < 256 → x.bits < 256) := by
    intro fs
    induction fs with
    | nil => intro p h; simp [takeK] at h
    | cons a l ih =>
      intro p h x hx
      unfold takeK at h
      split at h
      · simp at h
        subst h
        rcases List.mem_cons.1 hx with rfl | hx
        · exact ⟨a, List.mem_cons_self, rfl, fun h => clrB_lt h⟩
        · exact ⟨x, List.mem_cons_of_mem _ hx, rfl, id⟩
      · cases e : takeK k l with
        | none => rw [e] at h; simp at h
        | some q =>
          rw [e] at h
          simp at h
          subst h
          rcases List.mem_cons.1 hx with rfl | hx
          · exact ⟨x, List.mem_cons_self, rfl, id⟩
          · obtain ⟨y, hy, h1⟩ := ih q e x hx
            exact ⟨y, List.mem_cons_of_mem _ hy, h1⟩
  intro x hx
  unfold stepK at hx
  split at hx
  · cases e : takeK k fs with
    | none => rw [e] at hx; exact ⟨x, hx, rfl, id⟩
    | some p => rw [e] at hx; exact key fs p e x hx
  · exact ⟨x, hx, rfl, id⟩
theorem stepAll_mem : ∀ (rs : List Bool) (k : Nat) (fs : List Fr), ∀ x ∈ (stepAll rs k fs).2, ∃ y ∈ fs, y.id = x.id ∧ (y.bits < 256 → x.bits < 256)
  | [], _, fs, x, hx => ⟨x, hx, rfl, id⟩
  | r :: rs, k, fs, x, hx => by
    obtain ⟨y, hy, h1, h2⟩ := stepAll_mem rs (k + 1) (stepK k r fs).2 x hx
    obtain ⟨z, hz, h3, h4⟩ := stepK_mem y hy
    exact ⟨z, hz, h3.trans h1, fun h => h2 (h4 h)⟩
theorem stepK_no (k : Nat) (fs : List Fr) : (stepK k false fs).1 = -1 := rfl
theorem stepAll_rdy : ∀ (rs : List Bool) (k : Nat) (fs : List Fr) (j : Nat) (i : Int), (stepAll rs k fs).1[j]? = some i → 0 ≤ i → rs[j]? = some true
  | [], _, _, j, i, h, _ => by simp [stepAll] at h
  | r :: rs, k, fs, 0, i, h, h0 => by
    simp [stepAll] at h
    cases r with
    | true => rfl
    | false => rw [stepK_no] at h; omega
  | r :: rs, k, fs, j + 1, i, h, h0 => by
    have := stepAll_rdy rs (k + 1) (stepK k r fs).2 j i (by simpa [stepAll] using h) h0
    simpa using this
theorem addLeft_len : ∀ (ls : List (List Int)) (is : List Int), (addLeft ls is).length = ls.length
  | [], [] => rfl
  | [], _ :: _ => rfl
  | _ :: _, [] => rfl
  | l :: ls, i :: is => by simp [addLeft, addLeft_len ls is]
theorem addLeft_mem : ∀ (ls : List (List Int)) (is : List Int) (k : Nat), (∀ l ∈ ls, l.length ≤ k) → ∀ l ∈ addLeft ls is, l.length ≤ k + 1
  | [], [], _, _, l, hl => by simp [addLeft] at hl
  | [], _ :: _, _, _, l, hl => by simp [addLeft] at hl
  | a :: ls, [], k, h, l, hl => Nat.le_succ_of_le (h l hl)
  | a :: ls, i :: is, k, h, l, hl => by
    rcases List.mem_cons.1 hl with rfl | hl
    · have := h a List.mem_cons_self
      split
      · simp; omega
      · omega
    · exact addLeft_mem ls is k (fun l hl => h l (List.mem_cons_of_mem _ hl)) l hl
theorem keepF_mem {x : Fr} {l : List Fr} (h : x ∈ keepF l) : x ∈ l := (List.mem_filter.1 h).1
theorem keepF_len_le (l : List Fr) : (keepF l).length ≤ l.length := List.length_filter_le _ _
theorem RunInv.step {o : Nat} {room : Int} {k : Nat} {st : RunSt} (h : RunInv o room k st) (rs : List Bool) : RunInv o room (k + 1) (stepSt rs st) := by
  have hl := (stepAll_len rs 0 st.fs).1
  have hk := keepF_len_le (stepAll rs 0 st.fs).2
  obtain ⟨h1, h2, h3, h4, h5, h6, h7, h8⟩ := h
  refine ⟨?_, ?_, ?_, ?_, ?_, ?_, ?_, ?_⟩
  · intro x hx
    obtain ⟨y, hy, e, _⟩ := stepAll_mem rs 0 st.fs x (keepF_mem hx)
    have := h1 y hy
    show 0 ≤ x.id ∧ x.id < st.put.length
    rw [← e]; exact this
  · intro x hx
    obtain ⟨y, hy, _, hb⟩ := stepAll_mem rs 0 st.fs x (keepF_mem hx)
    exact hb (h2 y hy)
  · show ((keepF (stepAll rs 0 st.fs).2).length : Int) ≤ room; omega
  · show st.put.length ≤ k + 1; omega
  · show st.freed + ((st.fs.length : Int) - (keepF (stepAll rs 0 st.fs).2).length) + (keepF (stepAll rs 0 st.fs).2).length = st.put.length; omega
  · show 0 ≤ st.freed + ((st.fs.length : Int) - (keepF (stepAll rs 0 st.fs).2).length); omega
  · show (addLeft st.left _).length = o; rw [addLeft_len]; exact h7
  · exact addLeft_mem _ _ _ h8
theorem RunInv.put {o : Nat} {room : Int} {k : Nat} {st : RunSt} (h : RunInv o room k st) (ho : o ≤ 8) (outs : List Int) : RunInv o room (k + 1) (putSt o room outs st) := by
  have hk : RunInv o room (k + 1) st := ⟨h.ids, h.b8, h.fr, by have := h.pk; omega, h.cnt, h.f0, h.lo, fun l hl => by have := h.lk l hl; omega⟩
  unfold putSt
  split
  · exact hk
  · rename_i m hm
    split
    · rename_i hlt
      obtain ⟨h1, h2, h3, h4, h5, h6, h7, h8⟩ := h
      refine ⟨?_, ?_, ?_, ?_, ?_, h6, h7, hk.lk⟩
      · intro x hx
        show 0 ≤ x.id ∧ x.id < ((st.put ++ [outs]).length : Int)
        rcases List.mem_append.1 hx with hx | hx
        · have := h1 x hx; simp; omega
        · rw [List.mem_singleton.1 hx]; simp; omega
      · intro x hx
        rcases List.mem_append.1 hx with hx | hx
        · exact h2 x hx
        · rw [List.mem_singleton.1 hx]; exact putMask_lt (by omega) _ _ _ (by decide) hm
      · show ((st.fs ++ [_]).length : Int) ≤ room; simp; omega
      · show (st.put ++ [outs]).length ≤ k + 1; simp; omega
      · show st.freed + ((st.fs ++ [_]).length : Int) = ((st.put ++ [outs]).length : Int); simp; omega
    · exact hk
theorem RunInv.op {o : Nat} {room : Int} {k : Nat} {st : RunSt} (h : RunInv o room k st) (ho : o ≤ 8) (x : OpR) : RunInv o room (k + 1) (runOp o room st x) := by
  unfold runOp
  split
  · exact h.put ho _
  · split
    · exact h.step _
    · exact ⟨h.ids, h.b8, h.fr, by have := h.pk; omega, h.cnt, h.f0, h.lo, fun l hl => by have := h.lk l hl; omega⟩
theorem RunInv.none {o : Nat} {room : Int} {k : Nat} {st : RunSt} (h : RunInv o room k st) : st.fs.any (fun y => y.id == (st.put.length : Int)) = false := by
  rw [List.any_eq_false]
  intro y hy
  have := h.ids y hy
  simp
  omega
theorem RunInv.init (o : Nat) (room : Int) (hr : 0 ≤ room) : RunInv o room 0 ⟨[], List.replicate o [], [], 0⟩ :=
  ⟨by simp, by simp, by simpa using hr, by simp, by simp, by simp, by simp, fun l hl => by rw [List.eq_of_mem_replicate hl]; simp⟩
end Go.Proofs.Yteomiofmaopkhaa
