/-
  Greatest matchings: half of one, and the search for augmenting paths. Plain Lean: no program in sight.
-/
import Derived.Test.YtldgpdgoccccpaaBarC
namespace Go.Proofs.Ytldgpdgoccccpaa.Bar
set_option linter.unusedVariables false

/-- f matches inputs with outputs that they request, each with another one. -/
structure Mat (req : Nat → Nat → Bool) (n : Nat) (f : Nat → Int) : Prop where
  m : ∀ i < n, f i < 0 ∨ ∃ k, k < n ∧ f i = (k : Int) ∧ req i k = true
  inj : ∀ i < n, ∀ j < n, ∀ k : Nat, f i = (k : Int) → f j = (k : Int) → i = j
def fsz (n : Nat) (f : Nat → Int) : Nat := cnt n fun i => decide (0 ≤ f i)
/-- r is the greatest size of a matching. -/
def Great (req : Nat → Nat → Bool) (n r : Nat) : Prop := (∃ f, Mat req n f ∧ fsz n f = r) ∧ ∀ f, Mat req n f → fsz n f ≤ r
theorem Great.uniq {req : Nat → Nat → Bool} {n r q : Nat} (h : Great req n r) (k : Great req n q) : r = q := by
  obtain ⟨⟨f, h1, h2⟩, h3⟩ := h
  obtain ⟨⟨e, k1, k2⟩, k3⟩ := k
  have := h3 e k1
  have := k3 f h1
  omega
theorem Ok.mat {req : Nat → Nat → Bool} {n : Nat} {s : St} (h : Ok req n s) : Mat req n s.m :=
  ⟨fun i hi => (h.m i hi).imp (fun e => by omega) id, h.inj⟩

theorem filter_map_len {α : Type} (l : List α) (p : α → Bool) (q : α → Bool) : (l.filter p).length + (l.filter fun x => !p x).length = l.length := by
  induction l with
  | nil => rfl
  | cons x l ih => cases h : p x <;> simp [h] <;> omega

/-- A maximal matching matches at least half as many inputs. -/
theorem half {req : Nat → Nat → Bool} {n : Nat} {s : St} (h : Ok req n s) (hx : Maxi req n s) {f : Nat → Int} (hf : Mat req n f) : fsz n f ≤ 2 * msz n s := by
  -- each matched input of f is matched by s, or its output is
  have h1 := sub_len ((List.range n).filter fun i => decide (0 ≤ f i)) (((List.range n).filter fun i => decide (0 ≤ s.m i)) ++ ((List.range n).filter fun i => decide (0 ≤ s.m i)).map fun j => ((List.range n).find? fun i => decide (f i = s.m j)).getD 0) (cnt_nodup _ _) (fun i hi => by
    obtain ⟨hi, hp⟩ := cnt_mem.1 hi
    have hp : 0 ≤ f i := by simpa using hp
    rcases hf.m i hi with h0 | ⟨k, hk, e, hr⟩
    · omega
    · rw [List.mem_append]
      rcases hx i hi k hk hr with h1 | h1
      · exact .inl (cnt_mem.2 ⟨hi, by simpa using h1⟩)
      · obtain ⟨j, hj, ej⟩ := (h.t k hk).1 h1
        refine .inr (List.mem_map.2 ⟨j, cnt_mem.2 ⟨hj, by simp; omega⟩, ?_⟩)
        cases hfd : (List.range n).find? fun i => decide (f i = s.m j) with
        | none =>
          have := List.find?_eq_none.1 hfd i (by simpa using hi)
          simp [e, ej] at this
        | some z =>
          have hz := List.find?_some hfd
          have hz' : f z = s.m j := by simpa using hz
          have hzn : z < n := by simpa using List.mem_of_find?_eq_some hfd
          exact hf.inj z hzn i hi k (by omega) e)
  rw [List.length_append, List.length_map] at h1
  show (List.filter _ _).length ≤ 2 * (List.filter _ _).length
  omega

/-! The search for augmenting paths. h: for each output the input that holds it, or -1; t: the outputs that were tried. -/

/-- T is closed: each of its outputs is held, by an input that requests outputs of T alone. -/
def Closed (req : Nat → Nat → Bool) (n : Nat) (h : Nat → Int) (T : Nat → Prop) : Prop := ∀ k < n, T k → ∃ i, i < n ∧ h k = (i : Int) ∧ ∀ q < n, req i q = true → T q
/-- What a state asks before input i is augmented: outputs are held by inputs that request them, the outputs that were not tried each by another one, none of them by i. -/
structure Pre (req : Nat → Nat → Bool) (n : Nat) (i : Nat) (t : Nat → Bool) (h : Nat → Int) : Prop where
  v : ∀ k < n, h k < 0 ∨ ∃ j, j < n ∧ h k = (j : Int) ∧ req j k = true
  inj : ∀ k < n, ∀ q < n, t k = false → t q = false → ∀ j : Nat, h k = (j : Int) → h q = (j : Int) → k = q
  free : ∀ k < n, t k = false → h k ≠ (i : Int)
/-- No path was found: nothing has turned; all that can be reached was tried, and leads back. -/
structure Fail (req : Nat → Nat → Bool) (n : Nat) (i : Nat) (t : Nat → Bool) (h : Nat → Int) (t' : Nat → Bool) : Prop where
  sub : ∀ k < n, t k = true → t' k = true
  nb : ∀ k < n, req i k = true → t' k = true
  cl : ∀ k < n, t k = false → t' k = true → ∃ j, j < n ∧ h k = (j : Int) ∧ ∀ q < n, req j q = true → t' q = true
/-- A path was found. -/
structure Succ (req : Nat → Nat → Bool) (n : Nat) (i : Nat) (t : Nat → Bool) (h : Nat → Int) (h' : Nat → Int) : Prop where
  old : ∀ k < n, t k = true → h' k = h k
  v : ∀ k < n, h' k < 0 ∨ ∃ j, j < n ∧ h' k = (j : Int) ∧ req j k = true
  inj : ∀ k < n, ∀ q < n, t k = false → t q = false → ∀ j : Nat, h' k = (j : Int) → h' q = (j : Int) → k = q
  img : ∀ k < n, t k = false → ∀ j : Nat, h' k = (j : Int) → j = i ∨ ∃ q, q < n ∧ t q = false ∧ h q = (j : Int)
  dom : ∃ f, f < n ∧ t f = false ∧ h f < 0 ∧ ∀ k < n, 0 ≤ h' k ↔ (k = f ∨ 0 ≤ h k)
  keep : ∀ T, Closed req n h T → (∃ q, q < n ∧ req i q = true ∧ ¬ T q) ∧ ∀ k < n, T k → h' k = h k

/-- One neighbour after the other has failed. -/
structure Look (req : Nat → Nat → Bool) (n : Nat) (i : Nat) (t : Nat → Bool) (h : Nat → Int) (j : Nat) (t' : Nat → Bool) : Prop where
  sub : ∀ k < n, t k = true → t' k = true
  nb : ∀ k < j, k < n → req i k = true → t' k = true
  cl : ∀ k < n, t k = false → t' k = true → ∃ x, x < n ∧ h k = (x : Int) ∧ ∀ q < n, req x q = true → t' q = true
theorem Look.start (req : Nat → Nat → Bool) (n : Nat) (i : Nat) (t : Nat → Bool) (h : Nat → Int) : Look req n i t h 0 t := ⟨fun _ _ e => e, fun k hk => by omega, fun k _ h1 h2 => by rw [h1] at h2; exact absurd h2 (by simp)⟩
theorem Look.fail {req : Nat → Nat → Bool} {n i : Nat} {t t' : Nat → Bool} {h : Nat → Int} (l : Look req n i t h n t') : Fail req n i t h t' := ⟨l.sub, fun k hk hr => l.nb k hk hk hr, l.cl⟩
theorem Look.skip {req : Nat → Nat → Bool} {n i j : Nat} {t t' : Nat → Bool} {h : Nat → Int} (l : Look req n i t h j t') (hs : req i j = false ∨ t' j = true) : Look req n i t h (j + 1) t' :=
  ⟨l.sub, fun k hk hn hr => by
    by_cases e : k = j
    · subst e
      rcases hs with hs | hs
      · rw [hr] at hs; exact absurd hs (by simp)
      · exact hs
    · exact l.nb k (by omega) hn hr, l.cl⟩
/-- The state in which a neighbour's holder is augmented. -/
theorem Look.pre {req : Nat → Nat → Bool} {n i j x : Nat} {t t' : Nat → Bool} {h : Nat → Int} (P : Pre req n i t h) (l : Look req n i t h j t') (hj : j < n) (hr : req i j = true) (ht : t' j = false) (hx : h j = (x : Int)) :
    Pre req n x (upd t' j true) h := by
  have sub : ∀ k < n, upd t' j true k = false → t k = false ∧ k ≠ j := by
    intro k hk e
    by_cases ek : k = j
    · subst ek; rw [upd_same] at e; exact absurd e (by simp)
    · rw [upd_ne _ _ ek] at e
      refine ⟨?_, ek⟩
      cases h1 : t k with
      | false => rfl
      | true => rw [l.sub k hk h1] at e; exact absurd e (by simp)
  have htj : t j = false := by
    cases h1 : t j with
    | false => rfl
    | true => rw [l.sub j hj h1] at ht; exact absurd ht (by simp)
  exact ⟨P.v, fun k hk q hq h1 h2 => P.inj k hk q hq (sub k hk h1).1 (sub q hq h2).1, fun k hk h1 e => (sub k hk h1).2 (P.inj k hk j hj (sub k hk h1).1 htj x e hx)⟩
/-- The neighbour's holder has failed. -/
theorem Look.step {req : Nat → Nat → Bool} {n i j x : Nat} {t t' t2 : Nat → Bool} {h : Nat → Int} (P : Pre req n i t h) (l : Look req n i t h j t') (hj : j < n) (hr : req i j = true) (ht : t' j = false) (hx : h j = (x : Int))
    (f : Fail req n x (upd t' j true) h t2) : Look req n i t h (j + 1) t2 := by
  have hxn : x < n := by
    rcases P.v j hj with h1 | ⟨y, h1, h2, _⟩
    · omega
    · omega
  have up : ∀ k < n, t' k = true → t2 k = true := fun k hk e => f.sub k hk (by
    by_cases ek : k = j
    · subst ek; rw [upd_same]
    · rw [upd_ne _ _ ek]; exact e)
  have hj2 : t2 j = true := f.sub j hj (upd_same _ _ _)
  refine ⟨fun k hk e => up k hk (l.sub k hk e), fun k hk hn hr' => ?_, fun k hk h1 h2 => ?_⟩
  · by_cases e : k = j
    · subst e; exact hj2
    · exact up k hn (l.nb k (by omega) hn hr')
  · by_cases e : k = j
    · subst e
      exact ⟨x, hxn, hx, f.nb⟩
    · cases h3 : t' k with
      | true =>
        obtain ⟨y, hy1, hy2, hy3⟩ := l.cl k hk h1 h3
        exact ⟨y, hy1, hy2, fun q hq hq' => up q hq (hy3 q hq hq')⟩
      | false => exact f.cl k hk (by rw [upd_ne _ _ e]; exact h3) h2
/-- The neighbour is free. -/
theorem Look.take {req : Nat → Nat → Bool} {n i j : Nat} {t t' : Nat → Bool} {h : Nat → Int} (hi : i < n) (P : Pre req n i t h) (l : Look req n i t h j t') (hj : j < n) (hr : req i j = true) (ht : t' j = false) (hx : h j < 0) :
    Succ req n i t h (upd h j (i : Int)) := by
  have htj : t j = false := by
    cases h1 : t j with
    | false => rfl
    | true => rw [l.sub j hj h1] at ht; exact absurd ht (by simp)
  refine ⟨fun k hk e => ?_, fun k hk => ?_, fun k hk q hq h1 h2 y e1 e2 => ?_, fun k hk h1 y e => ?_, ⟨j, hj, htj, hx, fun k hk => ?_⟩, fun T hT => ⟨⟨j, hj, hr, fun hT' => ?_⟩, fun k hk hTk => ?_⟩⟩
  · rw [upd_ne]; rintro rfl; rw [htj] at e; exact absurd e (by simp)
  · by_cases e : k = j
    · subst e; rw [upd_same]; exact .inr ⟨i, hi, rfl, hr⟩
    · rw [upd_ne _ _ e]; exact P.v k hk
  · by_cases a : k = j <;> by_cases b : q = j
    · omega
    · subst a
      rw [upd_same] at e1; rw [upd_ne _ _ b] at e2
      exact absurd (by omega : h q = (i : Int)) (P.free q hq h2)
    · subst b
      rw [upd_same] at e2; rw [upd_ne _ _ a] at e1
      exact absurd (by omega : h k = (i : Int)) (P.free k hk h1)
    · rw [upd_ne _ _ a] at e1; rw [upd_ne _ _ b] at e2
      exact P.inj k hk q hq h1 h2 y e1 e2
  · by_cases a : k = j
    · subst a; rw [upd_same] at e; exact .inl (by omega)
    · rw [upd_ne _ _ a] at e; exact .inr ⟨k, hk, h1, e⟩
  · by_cases a : k = j
    · subst a; rw [upd_same]; exact ⟨fun _ => .inl rfl, fun _ => by omega⟩
    · rw [upd_ne _ _ a]; exact ⟨fun h => .inr h, fun h => h.resolve_left a⟩
  · obtain ⟨y, _, h1, _⟩ := hT j hj hT'; omega
  · rw [upd_ne]; rintro rfl; obtain ⟨y, _, h1, _⟩ := hT k hk hTk; omega
/-- The neighbour's holder has found a path. -/
theorem Look.hand {req : Nat → Nat → Bool} {n i j x : Nat} {t t' : Nat → Bool} {h h2 : Nat → Int} (hi : i < n) (P : Pre req n i t h) (l : Look req n i t h j t') (hj : j < n) (hr : req i j = true) (ht : t' j = false) (hx : h j = (x : Int))
    (f : Succ req n x (upd t' j true) h h2) : Succ req n i t h (upd h2 j (i : Int)) := by
  have htj : t j = false := by
    cases h1 : t j with
    | false => rfl
    | true => rw [l.sub j hj h1] at ht; exact absurd ht (by simp)
  have up : ∀ k < n, t k = true → upd t' j true k = true := fun k hk e => by
    by_cases ek : k = j
    · subst ek; rw [upd_same]
    · rw [upd_ne _ _ ek]; exact l.sub k hk e
  -- what an output outside t holds behind the path
  have old : ∀ k < n, k ≠ j → upd t' j true k = true → h2 k = h k := fun k hk _ e => f.old k hk e
  have im : ∀ k < n, k ≠ j → t k = false → ∀ y : Nat, h2 k = (y : Int) → (y = x ∧ upd t' j true k = false) ∨ ∃ q, q < n ∧ q ≠ j ∧ t q = false ∧ h q = (y : Int) := by
    intro k hk hkj hk' y e
    cases hu : upd t' j true k with
    | true => exact .inr ⟨k, hk, hkj, hk', by rw [← f.old k hk hu, e]⟩
    | false =>
      rcases f.img k hk hu y e with h1 | ⟨q, hq, h1, h2⟩
      · exact .inl ⟨h1, rfl⟩
      · have hqj : q ≠ j := by rintro rfl; rw [upd_same] at h1; exact absurd h1 (by simp)
        refine .inr ⟨q, hq, hqj, ?_, h2⟩
        cases h3 : t q with
        | false => rfl
        | true => rw [up q hq h3] at h1; exact absurd h1 (by simp)
  have hxi : x ≠ i := fun e => P.free j hj htj (by rw [hx, e])
  have noti : ∀ k < n, k ≠ j → t k = false → h2 k ≠ (i : Int) := by
    intro k hk hkj hk' e
    rcases im k hk hkj hk' i e with ⟨h1, _⟩ | ⟨q, hq, hqj, h1, h2⟩
    · omega
    · exact P.free q hq h1 h2
  refine ⟨fun k hk e => ?_, fun k hk => ?_, fun k hk q hq h1 h3 y e1 e2 => ?_, fun k hk h1 y e => ?_, ?_, fun T hT => ?_⟩
  · rw [upd_ne]
    · exact f.old k hk (up k hk e)
    · rintro rfl; rw [htj] at e; exact absurd e (by simp)
  · by_cases e : k = j
    · subst e; rw [upd_same]; exact .inr ⟨i, hi, rfl, hr⟩
    · rw [upd_ne _ _ e]; exact f.v k hk
  · by_cases a : k = j <;> by_cases b : q = j
    · omega
    · subst a
      rw [upd_same] at e1; rw [upd_ne _ _ b] at e2
      exact absurd (by omega : h2 q = (i : Int)) (noti q hq b h3)
    · subst b
      rw [upd_same] at e2; rw [upd_ne _ _ a] at e1
      exact absurd (by omega : h2 k = (i : Int)) (noti k hk a h1)
    · rw [upd_ne _ _ a] at e1; rw [upd_ne _ _ b] at e2
      cases hu : upd t' j true k with
      | false =>
        cases hv : upd t' j true q with
        | false => exact f.inj k hk q hq hu hv y e1 e2
        | true =>
          have e2' : h q = (y : Int) := by rw [← f.old q hq hv, e2]
          rcases f.img k hk hu y e1 with h4 | ⟨z, hz, h4, h5⟩
          · exact absurd (P.inj q hq j hj h3 htj y e2' (by omega)) b
          · have htz : t z = false := by
              cases h6 : t z with
              | false => rfl
              | true => rw [up z hz h6] at h4; exact absurd h4 (by simp)
            have := P.inj q hq z hz h3 htz y e2' h5
            subst this
            rw [h4] at hv; exact absurd hv (by simp)
      | true =>
        have e1' : h k = (y : Int) := by rw [← f.old k hk hu, e1]
        cases hv : upd t' j true q with
        | true => exact P.inj k hk q hq h1 h3 y e1' (by rw [← f.old q hq hv, e2])
        | false =>
          rcases f.img q hq hv y e2 with h4 | ⟨z, hz, h4, h5⟩
          · exact absurd (P.inj k hk j hj h1 htj y e1' (by omega)) a
          · have htz : t z = false := by
              cases h6 : t z with
              | false => rfl
              | true => rw [up z hz h6] at h4; exact absurd h4 (by simp)
            have := P.inj k hk z hz h1 htz y e1' h5
            subst this
            rw [h4] at hu; exact absurd hu (by simp)
  · by_cases a : k = j
    · subst a; rw [upd_same] at e; exact .inl (by omega)
    · rw [upd_ne _ _ a] at e
      rcases im k hk a h1 y e with ⟨h3, _⟩ | ⟨q, hq, _, h3, h4⟩
      · exact .inr ⟨j, hj, htj, by omega⟩
      · exact .inr ⟨q, hq, h3, h4⟩
  · obtain ⟨w, hw, h1, h3, h4⟩ := f.dom
    have hwt : t w = false := by
      cases h6 : t w with
      | false => rfl
      | true => rw [up w hw h6] at h1; exact absurd h1 (by simp)
    refine ⟨w, hw, hwt, h3, fun k hk => ?_⟩
    by_cases a : k = j
    · subst a; rw [upd_same]; exact ⟨fun _ => .inr (by omega), fun _ => by omega⟩
    · rw [upd_ne _ _ a]; exact h4 k hk
  · obtain ⟨⟨q, hq, h1, h3⟩, h4⟩ := f.keep T hT
    have hTj : ¬ T j := fun hTj => by
      obtain ⟨y, hy, h5, h6⟩ := hT j hj hTj
      obtain rfl : x = y := by omega
      exact h3 (h6 q hq h1)
    refine ⟨⟨j, hj, hr, hTj⟩, fun k hk hTk => ?_⟩
    rw [upd_ne]
    · exact h4 k hk hTk
    · rintro rfl; exact hTj hTk

/-- What holds after the first i inputs were augmented, c of them with success. -/
structure Kuhn (req : Nat → Nat → Bool) (n : Nat) (i c : Nat) (h : Nat → Int) : Prop where
  v : ∀ k < n, h k < 0 ∨ ∃ j, j < i ∧ h k = (j : Int) ∧ req j k = true
  inj : ∀ k < n, ∀ q < n, ∀ j : Nat, h k = (j : Int) → h q = (j : Int) → k = q
  size : cnt n (fun k => decide (0 ≤ h k)) = c
  cut : ∃ T : Nat → Prop, Closed req n h T ∧ ∀ j < i, (∃ k, k < n ∧ h k = (j : Int)) ∨ ∀ q < n, req j q = true → T q
theorem Kuhn.start (req : Nat → Nat → Bool) (n : Nat) : Kuhn req n 0 0 fun _ => -1 :=
  ⟨fun k _ => .inl (by simp), fun k _ q _ j h => by omega, by simp [cnt], fun _ => False, fun k _ h => h.elim, fun j hj => by omega⟩
theorem Kuhn.pre {req : Nat → Nat → Bool} {n i c : Nat} {h : Nat → Int} (K : Kuhn req n i c h) (hi : i < n) : Pre req n i (fun _ => false) h :=
  ⟨fun k hk => (K.v k hk).imp id fun ⟨j, h1, h2⟩ => ⟨j, by omega, h2⟩, fun k hk q hq _ _ => K.inj k hk q hq, fun k hk _ e => by
    rcases K.v k hk with h1 | ⟨j, h1, h2, _⟩ <;> omega⟩
theorem Kuhn.fail {req : Nat → Nat → Bool} {n i c : Nat} {h : Nat → Int} {t' : Nat → Bool} (K : Kuhn req n i c h) (hi : i < n) (f : Fail req n i (fun _ => false) h t') : Kuhn req n (i + 1) c h := by
  obtain ⟨T, hT, hc⟩ := K.cut
  refine ⟨fun k hk => (K.v k hk).imp id fun ⟨j, h1, h2⟩ => ⟨j, by omega, h2⟩, K.inj, K.size, fun k => T k ∨ t' k = true, fun k hk hk' => ?_, fun j hj => ?_⟩
  · rcases hk' with h1 | h1
    · obtain ⟨x, hx, h2, h3⟩ := hT k hk h1
      exact ⟨x, hx, h2, fun q hq hr => .inl (h3 q hq hr)⟩
    · obtain ⟨x, hx, h2, h3⟩ := f.cl k hk rfl h1
      exact ⟨x, hx, h2, fun q hq hr => .inr (h3 q hq hr)⟩
  · by_cases e : j = i
    · subst e; exact .inr fun q hq hr => .inr (f.nb q hq hr)
    · rcases hc j (by omega) with h1 | h1
      · exact .inl h1
      · exact .inr fun q hq hr => .inl (h1 q hq hr)
theorem Kuhn.succ {req : Nat → Nat → Bool} {n i c : Nat} {h h' : Nat → Int} (K : Kuhn req n i c h) (hi : i < n) (f : Succ req n i (fun _ => false) h h') : Kuhn req n (i + 1) (c + 1) h' := by
  obtain ⟨T, hT, hc⟩ := K.cut
  obtain ⟨w, hw, _, h1, h2⟩ := f.dom
  have hle : ∀ k < n, ∀ j : Nat, h' k = (j : Int) → j < i + 1 := by
    intro k hk j e
    rcases f.img k hk rfl j e with h3 | ⟨q, hq, _, h3⟩
    · omega
    · rcases K.v q hq with h4 | ⟨y, h4, h5, _⟩ <;> omega
  refine ⟨fun k hk => (f.v k hk).imp id fun ⟨j, h3, h4, h5⟩ => ⟨j, hle k hk j h4, h4, h5⟩, fun k hk q hq j => f.inj k hk q hq rfl rfl j, ?_, T, fun k hk hTk => ?_, fun j hj => ?_⟩
  · have s := K.size
    have a1 : cnt n (fun k => decide (0 ≤ h k)) < cnt n (fun k => decide (0 ≤ h' k)) :=
      cnt_lt (fun x hx hp => by simp at hp ⊢; exact (h2 x hx).2 (.inr hp)) hw (by simpa using h1) (by simpa using (h2 w hw).2 (.inl rfl))
    have a2 : cnt n (fun k => decide (0 ≤ h' k)) ≤ cnt n (fun k => decide (0 ≤ h k)) + 1 := by
      have := sub_len ((List.range n).filter fun k => decide (0 ≤ h' k)) (w :: (List.range n).filter fun k => decide (0 ≤ h k)) (cnt_nodup _ _) (fun x hx => by
        obtain ⟨hx, hp⟩ := cnt_mem.1 hx
        have hp : 0 ≤ h' x := by simpa using hp
        rcases (h2 x hx).1 hp with h3 | h3
        · simp [h3]
        · exact List.mem_cons_of_mem _ (cnt_mem.2 ⟨hx, by simpa using h3⟩))
      simp at this
      unfold cnt; omega
    omega
  · rw [(f.keep T hT).2 k hk hTk]; exact hT k hk hTk
  · -- who was held stays held: as many are held as have succeeded
    by_cases e : ∀ q < n, req j q = true → T q
    · exact .inr e
    · refine .inl ?_
      refine Classical.byContradiction fun hno => ?_
      -- the holders behind the path are those before it and i; there is one more output
      have held : ∀ y : Nat, (∃ k, k < n ∧ h' k = (y : Int)) → y = i ∨ ∃ k, k < n ∧ h k = (y : Int) := by
        rintro y ⟨k, hk, e'⟩
        rcases f.img k hk rfl y e' with h3 | ⟨q, hq, _, h3⟩
        · exact .inl h3
        · exact .inr ⟨q, hq, h3⟩
      have hj' : j = i ∨ ∃ k, k < n ∧ h k = (j : Int) := by
        by_cases ej : j = i
        · exact .inl ej
        · rcases hc j (by omega) with h3 | h3
          · exact .inr h3
          · exact absurd h3 e
      have cn : cnt n (fun k => decide (0 ≤ h' k)) ≤ cnt n (fun k => decide (0 ≤ h k)) := by
        have inj' : ∀ x ∈ (List.range n).filter (fun k => decide (0 ≤ h' k)), ∀ y ∈ (List.range n).filter (fun k => decide (0 ≤ h' k)), (h' x).toNat = (h' y).toNat → x = y := by
          intro x hx y hy e'
          obtain ⟨hx, hp⟩ := cnt_mem.1 hx
          obtain ⟨hy, hq⟩ := cnt_mem.1 hy
          have hp : 0 ≤ h' x := by simpa using hp
          have hq : 0 ≤ h' y := by simpa using hq
          exact f.inj x hx y hy rfl rfl (h' x).toNat (by omega) (by omega)
        have := sub_len (((List.range n).filter fun k => decide (0 ≤ h' k)).map fun k => (h' k).toNat) ((i :: ((List.range n).filter fun k => decide (0 ≤ h k)).map fun k => (h k).toNat).erase j) (map_nodup _ _ (cnt_nodup _ _) inj') (fun y hy => by
          obtain ⟨k, hk, rfl⟩ := List.mem_map.1 hy
          obtain ⟨hk, hp⟩ := cnt_mem.1 hk
          have hp : 0 ≤ h' k := by simpa using hp
          refine (List.mem_erase_of_ne (fun ej => hno ⟨k, hk, by omega⟩)).2 ?_
          rcases held _ ⟨k, hk, (by omega : h' k = ((h' k).toNat : Int))⟩ with h3 | ⟨q, hq, h3⟩
          · rw [h3]; exact List.mem_cons_self
          · exact List.mem_cons_of_mem _ (List.mem_map.2 ⟨q, cnt_mem.2 ⟨hq, by simp; omega⟩, by omega⟩))
        rw [List.length_map, List.length_erase_of_mem (by
          rcases hj' with h3 | ⟨q, hq, h3⟩
          · rw [h3]; exact List.mem_cons_self
          · exact List.mem_cons_of_mem _ (List.mem_map.2 ⟨q, cnt_mem.2 ⟨hq, by simp; omega⟩, by omega⟩))] at this
        simp at this
        unfold cnt; omega
      have a1 : cnt n (fun k => decide (0 ≤ h k)) < cnt n (fun k => decide (0 ≤ h' k)) :=
        cnt_lt (fun x hx hp => by simp at hp ⊢; exact (h2 x hx).2 (.inr hp)) hw (by simpa using h1) (by simpa using (h2 w hw).2 (.inl rfl))
      omega

/-- The number of successes is the greatest size. -/
theorem Kuhn.great {req : Nat → Nat → Bool} {n c : Nat} {h : Nat → Int} (K : Kuhn req n n c h) : Great req n c := by
  obtain ⟨T, hT, hc⟩ := K.cut
  -- the matching from the inputs' side
  have hold : ∀ i : Nat, ∃ z : Int, (z = -1 ∧ ∀ k < n, h k ≠ (i : Int)) ∨ ∃ k, k < n ∧ z = (k : Int) ∧ h k = (i : Int) := fun i =>
    Classical.byCases (p := ∃ k, k < n ∧ h k = (i : Int)) (fun ⟨k, hk, e⟩ => ⟨k, .inr ⟨k, hk, rfl, e⟩⟩) (fun hno => ⟨-1, .inl ⟨rfl, fun k hk e => hno ⟨k, hk, e⟩⟩⟩)
  obtain ⟨F, hF⟩ : ∃ F : Nat → Int, ∀ i : Nat, (F i = -1 ∧ ∀ k < n, h k ≠ (i : Int)) ∨ ∃ k, k < n ∧ F i = (k : Int) ∧ h k = (i : Int) := ⟨fun i => Classical.choose (hold i), fun i => Classical.choose_spec (hold i)⟩
  refine ⟨⟨F, ⟨fun i hi => ?_, fun i hi j hj k h1 h2 => ?_⟩, ?_⟩, fun f hf => ?_⟩
  · rcases hF i with ⟨h1, _⟩ | ⟨k, hk, h1, h2⟩
    · left; omega
    · right
      refine ⟨k, hk, h1, ?_⟩
      rcases K.v k hk with h3 | ⟨j, _, h4, h5⟩
      · omega
      · obtain rfl : i = j := by omega
        exact h5
  · rcases hF i with ⟨h3, _⟩ | ⟨x, hx, h3, h4⟩
    · omega
    · rcases hF j with ⟨h5, _⟩ | ⟨y, hy, h5, h6⟩
      · omega
      · obtain rfl : x = y := by omega
        omega
  · rw [← K.size]
    have a1 := sub_len ((List.range n).filter fun i => decide (0 ≤ F i)) (((List.range n).filter fun k => decide (0 ≤ h k)).map fun k => (h k).toNat) (cnt_nodup _ _) (fun i hi => by
      obtain ⟨hi, hp⟩ := cnt_mem.1 hi
      have hp : 0 ≤ F i := by simpa using hp
      rcases hF i with ⟨h3, _⟩ | ⟨x, hx, h3, h4⟩
      · omega
      · exact List.mem_map.2 ⟨x, cnt_mem.2 ⟨hx, by simp; omega⟩, by omega⟩)
    have a2 := sub_len (((List.range n).filter fun k => decide (0 ≤ h k)).map fun k => (h k).toNat) ((List.range n).filter fun i => decide (0 ≤ F i)) (map_nodup _ _ (cnt_nodup _ _) (fun x hx y hy e => by
      obtain ⟨hx, hp⟩ := cnt_mem.1 hx
      obtain ⟨hy, hq⟩ := cnt_mem.1 hy
      have hp : 0 ≤ h x := by simpa using hp
      have hq : 0 ≤ h y := by simpa using hq
      exact K.inj x hx y hy (h x).toNat (by omega) (by omega))) (fun i hi => by
      obtain ⟨k, hk, rfl⟩ := List.mem_map.1 hi
      obtain ⟨hk, hp⟩ := cnt_mem.1 hk
      have hp : 0 ≤ h k := by simpa using hp
      rcases K.v k hk with h3 | ⟨j, hj, h4, h5⟩
      · omega
      · refine cnt_mem.2 ⟨by omega, ?_⟩
        rcases hF (h k).toNat with ⟨h6, h7⟩ | ⟨x, hx, h6, h7⟩
        · exact absurd (by omega) (h7 k hk)
        · simp; omega)
    rw [List.length_map] at a1 a2
    show (List.filter _ _).length = (List.filter _ _).length
    omega
  · -- outputs of T, and inputs that hold an output outside T, cover all requests
    rw [← K.size]
    have hsome : ∀ i : Nat, ∃ z : Nat, (∃ k, k < n ∧ ¬ T k ∧ z = k ∧ h k = (i : Int)) ∨ ((∀ k < n, h k = (i : Int) → T k) ∧ z = (f i).toNat) := fun i =>
      Classical.byCases (p := ∃ k, k < n ∧ ¬ T k ∧ h k = (i : Int)) (fun ⟨k, hk, h1, e⟩ => ⟨k, .inl ⟨k, hk, h1, rfl, e⟩⟩) (fun hno => ⟨(f i).toNat, .inr ⟨fun k hk e => Classical.byContradiction fun h1 => hno ⟨k, hk, h1, e⟩, rfl⟩⟩)
    obtain ⟨Z, hZ⟩ : ∃ Z : Nat → Nat, ∀ i : Nat, (∃ k, k < n ∧ ¬ T k ∧ Z i = k ∧ h k = (i : Int)) ∨ ((∀ k < n, h k = (i : Int) → T k) ∧ Z i = (f i).toNat) := ⟨fun i => Classical.choose (hsome i), fun i => Classical.choose_spec (hsome i)⟩
    -- an input goes to the output that it holds outside T, or to its partner in T
    have inT : ∀ i < n, (∀ k < n, h k = (i : Int) → T k) → ∀ k < n, req i k = true → T k := by
      intro i hi hh k hk hr
      rcases hc i hi with ⟨q, hq, e⟩ | h1
      · obtain ⟨j, _, h2, h3⟩ := hT q hq (hh q hq e)
        obtain rfl : i = j := by omega
        exact h3 k hk hr
      · exact h1 k hk hr
    have tgt : ∀ i < n, 0 ≤ f i → Z i < n ∧ 0 ≤ h (Z i) ∧ ((¬ T (Z i) ∧ h (Z i) = (i : Int)) ∨ (T (Z i) ∧ f i = (Z i : Int))) := by
      intro i hi hp
      rcases hZ i with ⟨k, hk, h1, e, h2⟩ | ⟨h1, e⟩
      · rw [e]; exact ⟨hk, by omega, .inl ⟨h1, h2⟩⟩
      · rcases hf.m i hi with h0 | ⟨k, hk, h2, h3⟩
        · omega
        · have hk' : Z i = k := by rw [e]; omega
          rw [hk']
          have hTk := inT i hi h1 k hk h3
          obtain ⟨j, _, h4, _⟩ := hT k hk hTk
          exact ⟨hk, by omega, .inr ⟨hTk, h2⟩⟩
    have a1 := sub_len (((List.range n).filter fun i => decide (0 ≤ f i)).map fun i => Z i) ((List.range n).filter fun k => decide (0 ≤ h k)) (map_nodup _ _ (cnt_nodup _ _) (fun x hx y hy e => by
      obtain ⟨hx, hp⟩ := cnt_mem.1 hx
      obtain ⟨hy, hq⟩ := cnt_mem.1 hy
      obtain ⟨hb, _, t1⟩ := tgt x hx (by simpa using hp)
      obtain ⟨_, _, t2⟩ := tgt y hy (by simpa using hq)
      rw [← e] at t2
      rcases t1 with ⟨u1, u2⟩ | ⟨u1, u2⟩
      · rcases t2 with ⟨v1, v2⟩ | ⟨v1, v2⟩
        · omega
        · exact absurd v1 u1
      · rcases t2 with ⟨v1, v2⟩ | ⟨v1, v2⟩
        · exact absurd u1 v1
        · exact hf.inj x hx y hy _ u2 v2)) (fun k hk => by
      obtain ⟨i, hi, rfl⟩ := List.mem_map.1 hk
      obtain ⟨hi, hp⟩ := cnt_mem.1 hi
      obtain ⟨h1, h2, _⟩ := tgt i hi (by simpa using hp)
      exact cnt_mem.2 ⟨h1, by simpa using h2⟩)
    rw [List.length_map] at a1
    exact a1
end Go.Proofs.Ytldgpdgoccccpaa.Bar
