/-
  switchbox: what a Step leaves and takes. Plain Lean.
  switchbox: a whole Step: what left, what was sent, that nothing more could be sent. Plain Lean.
  play: what holds of the counts, plainly.
-/
import Derived.Test.YtkooihniieepcaaSwT
import Derived.Test.YtkooihniieepcaaSwU
namespace Go.Proofs.Ytkooihniieepcaa
open Go.RowKit
set_option linter.unusedVariables false

/-- The frames of input p and class c among those that left. -/
def outF (p c : Nat) : List Mv → List Fr → List Fr
  | m :: ms, f :: fs => if m.p = (p : Int) ∧ m.c = (c : Int) then f :: outF p c ms fs else outF p c ms fs
  | _, _ => []
theorem outF_snoc (p c : Nat) (m : Mv) (f : Fr) : ∀ (ms : List Mv) (fs : List Fr), ms.length = fs.length → outF p c (ms ++ [m]) (fs ++ [f]) = outF p c ms fs ++ (if m.p = (p : Int) ∧ m.c = (c : Int) then [f] else [])
  | [], [], _ => rfl
  | [], _ :: _, h => by simp at h
  | _ :: _, [], h => by simp at h
  | m' :: ms, f' :: fs, h => by
    have ih := outF_snoc p c m f ms fs (by simpa using h)
    show (if m'.p = (p : Int) ∧ m'.c = (c : Int) then f' :: outF p c (ms ++ [m]) (fs ++ [f]) else outF p c (ms ++ [m]) (fs ++ [f])) = (if m'.p = (p : Int) ∧ m'.c = (c : Int) then f' :: outF p c ms fs else outF p c ms fs) ++ _
    rw [ih]
    split <;> rfl
/-- How many of the moves go to output k in class c. -/
def cntO (k c : Nat) : List Mv → Nat
  | [] => 0
  | m :: ms => (if m.o = (k : Int) ∧ m.c = (c : Int) then 1 else 0) + cntO k c ms
theorem cntO_snoc (k c : Nat) (m : Mv) : ∀ ms, cntO k c (ms ++ [m]) = cntO k c ms + if m.o = (k : Int) ∧ m.c = (c : Int) then 1 else 0
  | [] => by show _ + 0 = 0 + _; omega
  | m' :: ms => by
    show _ + cntO k c (ms ++ [m]) = _ + cntO k c ms + _
    rw [cntO_snoc k c m ms]
    omega
/-- What holds of the moves so far; n: the inputs below n have had their turn; m: the matching. -/
structure StF (P K : Nat) (rt : Nat → Fr → Int) (M0 : Md) (m : Nat → Int) (n : Nat) (s : SS) : Prop where
  len : s.mv.length = s.fr.length
  qs : ∀ p c, M0.q p c = outF p c s.mv s.fr ++ s.M.q p c
  ga : ∀ p c, (s.M.gv p c).a = (M0.gv p c).a ∧ (s.M.gv p c).b = (M0.gv p c).b
  tk : ∀ k c, (s.M.tk k c).a = (M0.tk k c).a + (cntO k c s.mv : Nat) ∧ (s.M.tk k c).b = (M0.tk k c).b
  mem : ∀ (j : Nat) mm f, s.mv[j]? = some mm → s.fr[j]? = some f → ∃ p c, mm.p = ((p : Nat) : Int) ∧ mm.c = ((c : Nat) : Int) ∧ p < P ∧ c < K ∧ f ∈ M0.q p c ∧ (mm.o = -1 → noRt P rt p f = true) ∧ (mm.o ≠ -1 → p < n ∧ mm.o = m p ∧ rt p f = mm.o ∧ 0 ≤ mm.o ∧ mm.o < P)
  pw : List.Pairwise (fun a b : Mv => a.o ≠ -1 → b.o ≠ -1 → a.p ≠ b.p ∧ a.o ≠ b.o) s.mv
section
variable {P K n : Nat} {rt : Nat → Fr → Int} {M0 : Md} {m : Nat → Int} {s : SS}
theorem StF.start (P K : Nat) (rt : Nat → Fr → Int) (M0 : Md) (m : Nat → Int) (n : Nat) : StF P K rt M0 m n ⟨M0, [], []⟩ :=
  ⟨rfl, fun _ _ => rfl, fun _ _ => ⟨rfl, rfl⟩, fun k c => ⟨by show (M0.tk k c).a = (M0.tk k c).a + ((0 : Nat) : Int); omega, rfl⟩, fun j mm f h => by simp at h, List.Pairwise.nil⟩
theorem fre_ab (x : I3) : (freX x).a = x.a ∧ (freX x).b = x.b := by
  unfold freX
  split <;> exact ⟨rfl, rfl⟩
theorem pop_ab (M : Md) (p c p' c' : Nat) : ((popM M p c).gv p' c').a = (M.gv p' c').a ∧ ((popM M p c).gv p' c').b = (M.gv p' c').b := by
  show ((upd2 M.gv p c (freX (M.gv p c))) p' c').a = _ ∧ ((upd2 M.gv p c (freX (M.gv p c))) p' c').b = _
  by_cases e : p' = p ∧ c' = c
  · rw [e.1, e.2, upd2_same]; exact fre_ab _
  · rw [upd2_ne _ _ e]; exact ⟨rfl, rfl⟩
theorem StF.drop (h : StF P K rt M0 m n s) {p c : Nat} (hp : p < P) (hc : c < K) {f : Fr} {r : List Fr} (hq : s.M.q p c = f :: r) (hn : noRt P rt p f = true) : StF P K rt M0 m n (dOne p c s) := by
  have ef : (s.M.q p c).headD default = f := by rw [hq]; rfl
  have emv : (dOne p c s).mv = s.mv ++ [⟨p, c, -1⟩] := rfl
  have efr : (dOne p c s).fr = s.fr ++ [f] := by show s.fr ++ [(s.M.q p c).headD default] = _; rw [ef]
  refine ⟨by rw [emv, efr, List.length_append, List.length_append, h.len]; rfl, fun p' c' => ?_, fun p' c' => ?_, fun k c' => ?_, fun j mm f' h1 h2 => ?_, ?_⟩
  · rw [emv, efr, outF_snoc p' c' _ _ _ _ h.len]
    show _ = _ ++ upd2 s.M.q p c (s.M.q p c).tail p' c'
    rw [h.qs p' c', List.append_assoc]
    congr 1
    by_cases e : p' = p ∧ c' = c
    · rw [e.1, e.2, upd2_same, if_pos ⟨rfl, rfl⟩, hq]
      rfl
    · rw [upd2_ne _ _ e, if_neg (fun x => e ⟨by have := x.1; simp at this; omega, by have := x.2; simp at this; omega⟩)]
      rfl
  · obtain ⟨h1, h2⟩ := pop_ab s.M p c p' c'
    exact ⟨h1.trans (h.ga p' c').1, h2.trans (h.ga p' c').2⟩
  · rw [emv, cntO_snoc, if_neg (fun x => by have : (-1 : Int) = (k : Int) := x.1; omega), Nat.add_zero]
    exact h.tk k c'
  · rw [emv, List.getElem?_append] at h1
    rw [efr, List.getElem?_append] at h2
    by_cases hj : j < s.mv.length
    · rw [if_pos hj] at h1
      rw [if_pos (by rw [← h.len]; exact hj)] at h2
      exact h.mem j mm f' h1 h2
    · rw [if_neg hj] at h1
      rw [if_neg (by rw [← h.len]; exact hj)] at h2
      have e1 : mm = ⟨p, c, -1⟩ := by
        have := List.mem_of_getElem? h1
        simpa using this
      have e2 : f' = f := by
        have := List.mem_of_getElem? h2
        simpa using this
      subst e1 e2
      refine ⟨p, c, rfl, rfl, hp, hc, ?_, fun _ => hn, fun x => absurd rfl x⟩
      rw [h.qs p c, hq]
      exact List.mem_append_right _ (List.mem_cons_self ..)
  · rw [emv, List.pairwise_append]
    refine ⟨h.pw, List.pairwise_singleton _ _, fun a _ b hb h1 h2 => ?_⟩
    rw [List.mem_singleton.1 hb] at h2
    exact absurd rfl h2
theorem StF.itr (h : StF P K rt M0 m n s) {p c : Nat} (hp : p < P) (hc : c < K) : ∀ k, (∀ f ∈ (s.M.q p c).take k, noRt P rt p f = true) → k ≤ (s.M.q p c).length → StF P K rt M0 m n (itr (dOne p c) k s)
  | 0, _, _ => h
  | k + 1, hk, hl => by
    have ih := StF.itr h hp hc k (fun f hf => hk f (List.mem_of_mem_take (i := k) (by rw [List.take_take, Nat.min_eq_left (by omega)]; exact hf))) (by omega)
    have e : (Go.Proofs.Ytkooihniieepcaa.itr (dOne p c) k s).M.q p c = (s.M.q p c).drop k := by rw [itr_q, upd2_same]
    rw [List.drop_eq_getElem_cons (by omega)] at e
    refine ih.drop hp hc e (hk _ ?_)
    rw [List.mem_take_iff_getElem]
    exact ⟨k, by omega, rfl⟩
theorem drN_all (P : Nat) (rt : Nat → Fr → Int) (p : Nat) : ∀ (l : List Fr), ∀ f ∈ l.take (drN P rt p l), noRt P rt p f = true
  | [], f, hf => by simp at hf
  | g :: l, f, hf => by
    unfold drN at hf
    rw [List.takeWhile_cons] at hf
    by_cases e : noRt P rt p g = true
    · rw [if_pos e, List.length_cons, List.take_succ_cons] at hf
      rcases List.mem_cons.1 hf with rfl | hf
      · exact e
      · exact drN_all P rt p l f hf
    · rw [if_neg e] at hf
      simp at hf
theorem StF.cls (h : StF P K rt M0 m n s) {p : Nat} (hp : p < P) (hd : ∀ c < K, s.M.q p c = M0.q p c) : ∀ k ≤ K, StF P K rt M0 m n (dCls (fun p c => drN P rt p (M0.q p c)) p k s)
  | 0, _ => h
  | k + 1, hk => by
    rw [dCls_succ]
    have e : (dCls (fun p c => drN P rt p (M0.q p c)) p k s).M.q p k = M0.q p k := by rw [dCls_q, if_neg (by omega)]; exact hd k (by omega)
    refine (StF.cls h hp hd k (by omega)).itr hp (by omega) _ (fun f hf => ?_) ?_
    · rw [e] at hf; exact drN_all P rt p _ f hf
    · rw [e]; exact drN_le P rt p _
theorem StF.prt : ∀ k ≤ P, StF P K rt M0 m n (dPrt (fun p c => drN P rt p (M0.q p c)) K k ⟨M0, [], []⟩)
  | 0, _ => StF.start P K rt M0 m n
  | k + 1, hk => by
    rw [dPrt_succ]
    refine (StF.prt k (by omega)).cls (by omega) (fun c hc => ?_) K (Nat.le_refl _)
    rw [dPrt_q, if_neg (by omega)]
/-- A send. -/
theorem StF.send (h : StF P K rt M0 m n s) {c k : Nat} (hn : n < P) (hc : c < K) (hk : k < P) (hm : m n = (k : Int)) {f : Fr} {r : List Fr} (hq : s.M.q n c = f :: r) (hr : rt n f = (k : Int)) (hl : (s.M.tk k c).a < (s.M.tk k c).b)
    (inj : ∀ i < P, m i = (k : Int) → i = n) : StF P K rt M0 m (n + 1) (sOne K n k c s) := by
  have ef : (s.M.q n c).headD default = f := by rw [hq]; rfl
  have emv : (sOne K n k c s).mv = s.mv ++ [⟨n, c, k⟩] := rfl
  have efr : (sOne K n k c s).fr = s.fr ++ [f] := by show s.fr ++ [(s.M.q n c).headD default] = _; rw [ef]
  refine ⟨by rw [emv, efr, List.length_append, List.length_append, h.len]; rfl, fun p' c' => ?_, fun p' c' => ?_, fun k' c' => ?_, fun j mm f' h1 h2 => ?_, ?_⟩
  · rw [emv, efr, outF_snoc p' c' _ _ _ _ h.len]
    show _ = _ ++ upd2 s.M.q n c (s.M.q n c).tail p' c'
    rw [h.qs p' c', List.append_assoc]
    congr 1
    by_cases e : p' = n ∧ c' = c
    · rw [e.1, e.2, upd2_same, if_pos ⟨rfl, rfl⟩, hq]
      rfl
    · rw [upd2_ne _ _ e, if_neg (fun x => e ⟨by have := x.1; simp at this; omega, by have := x.2; simp at this; omega⟩)]
      rfl
  · obtain ⟨h1, h2⟩ := pop_ab s.M n c p' c'
    exact ⟨h1.trans (h.ga p' c').1, h2.trans (h.ga p' c').2⟩
  · rw [emv, cntO_snoc]
    show (upd2 s.M.tk k c (takX (s.M.tk k c)) k' c').a = _ ∧ (upd2 s.M.tk k c (takX (s.M.tk k c)) k' c').b = _
    by_cases e : k' = k ∧ c' = c
    · rw [e.1, e.2, upd2_same, if_pos ⟨rfl, rfl⟩]
      have h3 := h.tk k c
      unfold takX
      rw [if_neg (by omega)]
      refine ⟨?_, h3.2⟩
      show (s.M.tk k c).a + 1 = _
      rw [h3.1]
      omega
    · rw [upd2_ne _ _ e, if_neg (fun x => e ⟨by have := x.1; simp at this; omega, by have := x.2; simp at this; omega⟩), Nat.add_zero]
      exact h.tk k' c'
  · rw [emv, List.getElem?_append] at h1
    rw [efr, List.getElem?_append] at h2
    by_cases hj : j < s.mv.length
    · rw [if_pos hj] at h1
      rw [if_pos (by rw [← h.len]; exact hj)] at h2
      obtain ⟨p, c', g1, g2, g3, g4, g5, g6, g7⟩ := h.mem j mm f' h1 h2
      exact ⟨p, c', g1, g2, g3, g4, g5, g6, fun x => ⟨by have := (g7 x).1; omega, (g7 x).2⟩⟩
    · rw [if_neg hj] at h1
      rw [if_neg (by rw [← h.len]; exact hj)] at h2
      have e1 : mm = ⟨n, c, k⟩ := by
        have := List.mem_of_getElem? h1
        simpa using this
      have e2 : f' = f := by
        have := List.mem_of_getElem? h2
        simpa using this
      subst e1 e2
      refine ⟨n, c, rfl, rfl, hn, hc, ?_, fun x => absurd x (by show ¬ (k : Int) = -1; omega), fun _ => ⟨by omega, hm.symm, hr, by show (0 : Int) ≤ k; omega, by show (k : Int) < P; omega⟩⟩
      rw [h.qs n c, hq]
      exact List.mem_append_right _ (List.mem_cons_self ..)
  · rw [emv, List.pairwise_append]
    refine ⟨h.pw, List.pairwise_singleton _ _, fun a ha b hb h1 h2 => ?_⟩
    rw [List.mem_singleton.1 hb]
    obtain ⟨j, hj⟩ := List.mem_iff_getElem?.1 ha
    obtain ⟨f', hf'⟩ : ∃ f', s.fr[j]? = some f' := ⟨s.fr[j]'(by rw [← h.len]; exact get_lt hj), by simp [show j < s.fr.length by rw [← h.len]; exact get_lt hj]⟩
    obtain ⟨p, c', g1, g2, g3, g4, g5, g6, g7⟩ := h.mem j a f' hj hf'
    obtain ⟨g8, g9, g10, g11, g12⟩ := g7 h1
    refine ⟨by rw [g1]; show (p : Int) ≠ n; omega, fun x => ?_⟩
    have x : a.o = (k : Int) := x
    rw [g9] at x
    have := inj p g3 x
    omega
theorem StF.next (h : StF P K rt M0 m n s) : StF P K rt M0 m (n + 1) s :=
  ⟨h.len, h.qs, h.ga, h.tk, fun j mm f h1 h2 => by
    obtain ⟨p, c', g1, g2, g3, g4, g5, g6, g7⟩ := h.mem j mm f h1 h2
    exact ⟨p, c', g1, g2, g3, g4, g5, g6, fun x => ⟨by have := (g7 x).1; omega, (g7 x).2⟩⟩, h.pw⟩
end
end Go.Proofs.Ytkooihniieepcaa
namespace Go.Proofs.Ytkooihniieepcaa
open Go.RowKit
set_option linter.unusedVariables false
/-- The outcome of a Step, as StepPost says it. -/
def StepIs (P K : Nat) (rt : Nat → Fr → Int) (M : Md) (s : SS) : Prop :=
  ∃ b s1, s1 = dPrt (fun p c => drN P rt p (M.q p c)) K P ⟨M, [], []⟩ ∧ Matched P (rqFull K s1.M fun p c => ouN P rt p (M.q p c)) b ∧
    s = sAll K (fun p c => ouN P rt p (M.q p c)) b.m P ⟨{ s1.M with g := b.g, a := b.a }, s1.mv, s1.fr⟩
section
variable {P K n : Nat} {rt : Nat → Fr → Int} {M : Md} {b : Bar.St} {s1 s : SS}
theorem cls_ex {M' : Md} {o : Nat → Nat → Int} {i k c : Nat} (hc : c < K) (hp : M'.ptr i < K) (hr : rdyB M' o i k c = true) : ∃ c', clsOf K M' o i k = some c' := by
  cases h : clsOf K M' o i k with
  | some c' => exact ⟨c', rfl⟩
  | none =>
    exfalso
    unfold clsOf at h
    rw [List.find?_eq_none] at h
    have := h c (List.mem_map.2 ⟨Bar.dist K (M'.ptr i) c, List.mem_range.2 (Bar.dist_lt (by omega)), Bar.add_dist hp hc⟩)
    rw [hr] at this
    exact this rfl
/-- The outputs' counters of an output that no input so far was matched with are as they were. -/
theorem sAll_tk {K : Nat} {o : Nat → Nat → Int} {m : Nat → Int} {s : SS} : ∀ (n k : Nat), (∀ i < n, m i ≠ (k : Int)) → ∀ c, (sAll K o m n s).M.tk k c = s.M.tk k c
  | 0, _, _, _ => rfl
  | n + 1, k, h, c => by
    rw [sAll_succ]
    have ih := sAll_tk (K := K) (o := o) (m := m) (s := s) n k (fun i hi => h i (by omega)) c
    rcases sIn_cases K o (m n) n (sAll K o m n s) with e | ⟨c', h0, _, e⟩
    · rw [e]; exact ih
    · rw [e]
      show upd2 (sAll K o m n s).M.tk (m n).toNat c' _ k c = _
      rw [upd2_ne _ _ (fun x => h n (Nat.lt_succ_self n) (by have := x.1; omega))]
      exact ih
theorem inj_of (hm : Matched P (rqFull K s1.M fun p c => ouN P rt p (M.q p c)) b) {i j k : Nat} (hi : i < P) (hj : j < P) (h1 : b.m i = (k : Int)) (h2 : b.m j = (k : Int)) : i = j := hm.1.inj i hi j hj k h1 h2
theorem step_all (hP : P ≤ 8) (hptr : ∀ i < P, M.ptr i < K) (h1 : s1 = dPrt (fun p c => drN P rt p (M.q p c)) K P ⟨M, [], []⟩) (hm : Matched P (rqFull K s1.M fun p c => ouN P rt p (M.q p c)) b) : ∀ n ≤ P,
    StF P K rt M b.m n (sAll K (fun p c => ouN P rt p (M.q p c)) b.m n ⟨{ s1.M with g := b.g, a := b.a }, s1.mv, s1.fr⟩) ∧
    ∀ i < n, 0 ≤ b.m i → ∃ mm ∈ (sAll K (fun p c => ouN P rt p (M.q p c)) b.m n ⟨{ s1.M with g := b.g, a := b.a }, s1.mv, s1.fr⟩).mv, mm.p = (i : Int) ∧ mm.o = b.m i
  | 0, _ => by
    have h := StF.prt (K := K) (rt := rt) (M0 := M) (m := b.m) (n := 0) P (Nat.le_refl _)
    rw [← h1] at h
    exact ⟨⟨h.len, h.qs, h.ga, h.tk, h.mem, h.pw⟩, fun i hi => absurd hi (Nat.not_lt_zero _)⟩
  | n + 1, hn => by
    obtain ⟨ih, ih2⟩ := step_all hP hptr h1 hm n (by omega)
    have hq : ∀ c < K, (sAll K (fun p c => ouN P rt p (M.q p c)) b.m n ⟨{ s1.M with g := b.g, a := b.a }, s1.mv, s1.fr⟩).M.q n c = (M.q n c).drop (drN P rt n (M.q n c)) := fun c hc => by
      rw [(sAll_later K _ b.m _ n n (Nat.le_refl _) c).1]
      show s1.M.q n c = _
      rw [h1, dPrt_q, if_pos ⟨by omega, hc⟩]
    have hpt : (sAll K (fun p c => ouN P rt p (M.q p c)) b.m n ⟨{ s1.M with g := b.g, a := b.a }, s1.mv, s1.fr⟩).M.ptr n = M.ptr n := by
      rw [(sAll_later K _ b.m _ n n (Nat.le_refl _) 0).2]
      show s1.M.ptr n = _
      rw [h1, (dPrt_tk _ _ _ _).2.1]
    have htk : ∀ k : Nat, (∀ i < n, b.m i ≠ (k : Int)) → ∀ c, (sAll K (fun p c => ouN P rt p (M.q p c)) b.m n ⟨{ s1.M with g := b.g, a := b.a }, s1.mv, s1.fr⟩).M.tk k c = s1.M.tk k c := fun k hk c => sAll_tk n k hk c
    rw [sAll_succ]
    generalize sAll K (fun p c => ouN P rt p (M.q p c)) b.m n ⟨{ s1.M with g := b.g, a := b.a }, s1.mv, s1.fr⟩ = s at *
    rcases hm.1.m n (by omega) with hneg | ⟨k, hk, hmk, hrq⟩
    · rw [sIn_neg (by omega)]
      refine ⟨ih.next, fun i hi h0 => ?_⟩
      by_cases e : i = n
      · rw [e, hneg] at h0; omega
      · exact ih2 i (by omega) h0
    · have hother : ∀ i < n, b.m i ≠ (k : Int) := fun i hi e => by
        have := inj_of hm (by omega) (by omega) e hmk
        omega
      unfold rqFull at hrq
      rw [List.any_eq_true] at hrq
      obtain ⟨c0, hc0, hr0⟩ := hrq
      have hc0 := List.mem_range.1 hc0
      have hr1 : rdyB s.M (fun p c => ouN P rt p (M.q p c)) n k c0 = true := by
        unfold rdyB at hr0 ⊢
        rw [htk k hother c0]
        exact hr0
      obtain ⟨c, hcls⟩ := cls_ex hc0 (by rw [hpt]; exact hptr n (by omega)) hr1
      obtain ⟨hc, hr⟩ := cls_lt hcls
      have ek : (b.m n).toNat = k := by rw [hmk]; exact Int.toNat_natCast k
      rw [sIn_some (c := c) (by omega) (by rw [ek]; exact hcls), ek]
      unfold rdyB at hr
      rw [Bool.and_eq_true] at hr
      have ho : ouN P rt n (M.q n c) = (k : Int) := of_decide_eq_true hr.1
      have hlft : 0 < (s.M.tk k c).b - (s.M.tk k c).a := of_decide_eq_true hr.2
      obtain ⟨f, r, hd, hrt, _⟩ := ouN_head (P := P) (rt := rt) (p := n) (l := M.q n c) (by omega)
      refine ⟨ih.send (by omega) hc hk hmk ((hq c hc).trans hd) (hrt.trans ho) (by omega) (fun i hi e => inj_of hm hi (by omega) e hmk), fun i hi h0 => ?_⟩
      by_cases e : i = n
      · subst e
        exact ⟨⟨i, c, k⟩, List.mem_append_right _ (List.mem_cons_self ..), rfl, by show (k : Int) = _; rw [hmk]⟩
      · obtain ⟨mm, g1, g2, g3⟩ := ih2 i (by omega) h0
        exact ⟨mm, List.mem_append_left _ g1, g2, g3⟩
/-- A Step: what left and was taken; no input that sent nothing has a first frame that could go to an output that received nothing. -/
theorem step_facts (hP : P ≤ 8) (hptr : ∀ i < P, M.ptr i < K) (hs : StepIs P K rt M s) :
    ∃ m, StF P K rt M m P s ∧ ∀ p < P, ∀ c < K, ∀ f r, s.M.q p c = f :: r →
      (noRt P rt p f = true → ∃ mm ∈ s.mv, mm.p = (p : Int) ∧ 0 ≤ mm.o) ∧
      (noRt P rt p f = false → 0 < (s.M.tk (rt p f).toNat c).b - (s.M.tk (rt p f).toNat c).a → ∃ mm ∈ s.mv, 0 ≤ mm.o ∧ (mm.p = (p : Int) ∨ mm.o = rt p f)) := by
  obtain ⟨b, s1, h1, hm, rfl⟩ := hs
  obtain ⟨hf, hsnt⟩ := step_all hP hptr h1 hm P (Nat.le_refl _)
  refine ⟨b.m, hf, fun p hp c hc f r hq => ?_⟩
  have key : (∀ mm ∈ (sAll K (fun p c => ouN P rt p (M.q p c)) b.m P ⟨{ s1.M with g := b.g, a := b.a }, s1.mv, s1.fr⟩).mv, ¬ (mm.p = (p : Int) ∧ 0 ≤ mm.o)) → b.m p < 0 ∧ ouN P rt p (M.q p c) = rt p f ∧ noRt P rt p f = false := by
    intro hno
    have hneg : b.m p < 0 := by
      rcases hm.1.m p hp with h | ⟨k, hk, h, _⟩
      · omega
      · exfalso
        obtain ⟨mm, g1, g2, g3⟩ := hsnt p hp (by omega)
        exact hno mm g1 ⟨g2, by omega⟩
    have hq1 : ∀ n ≤ P, (sAll K (fun p c => ouN P rt p (M.q p c)) b.m n ⟨{ s1.M with g := b.g, a := b.a }, s1.mv, s1.fr⟩).M.q p c = s1.M.q p c := by
      intro n hn
      induction n with
      | zero => rfl
      | succ n ih =>
        rw [sAll_succ]
        by_cases e : p = n
        · subst e
          rw [sIn_neg hneg]
          exact ih (by omega)
        · rw [(sIn_other e c).1]
          exact ih (by omega)
    rw [hq1 P (Nat.le_refl _), h1, dPrt_q, if_pos ⟨hp, hc⟩] at hq
    dsimp only at hq
    rw [drop_drN] at hq
    refine ⟨hneg, by unfold ouN; rw [hq], ?_⟩
    have := List.head?_dropWhile_not (noRt P rt p) (M.q p c)
    rw [hq] at this
    simpa using this
  refine ⟨fun hn => ?_, fun hn hl => ?_⟩
  · refine Classical.byContradiction fun hno => ?_
    have := (key fun mm hmm hx => hno ⟨mm, hmm, hx.1, hx.2⟩).2.2
    rw [hn] at this
    cases this
  · refine Classical.byContradiction fun hno => ?_
    obtain ⟨hneg, ho, _⟩ := key fun mm hmm hx => hno ⟨mm, hmm, hx.2, .inl hx.1⟩
    have hway : 0 ≤ rt p f ∧ rt p f < P := by
      unfold noRt at hn
      simp at hn
      exact hn
    obtain ⟨k, hk⟩ : ∃ k : Nat, rt p f = (k : Int) := ⟨(rt p f).toNat, by omega⟩
    have hkP : k < P := by omega
    rw [hk, Int.toNat_natCast] at hl
    have ht := hf.tk k c
    have ht1 : (s1.M.tk k c).a = (M.tk k c).a ∧ (s1.M.tk k c).b = (M.tk k c).b := by rw [h1, (dPrt_tk _ _ _ _).1]; exact ⟨rfl, rfl⟩
    have hrq : rqFull K s1.M (fun p c => ouN P rt p (M.q p c)) p k = true := by
      unfold rqFull
      rw [List.any_eq_true]
      refine ⟨c, List.mem_range.2 hc, ?_⟩
      unfold rdyB
      rw [Bool.and_eq_true]
      refine ⟨decide_eq_true (by show ouN P rt p (M.q p c) = _; rw [ho, hk]), decide_eq_true ?_⟩
      omega
    rcases hm.2 p hp k hkP hrq with h | h
    · omega
    · obtain ⟨i, hi, e⟩ := (hm.1.t k hkP).1 h
      obtain ⟨mm, g1, g2, g3⟩ := hsnt i hi (by omega)
      exact hno ⟨mm, g1, by omega, .inr (by rw [g3, e, hk])⟩
end
end Go.Proofs.Ytkooihniieepcaa
namespace Go.Proofs.Ytkooihniieepcaa
open Go.RowKit
set_option linter.unusedVariables false

/-- Sums over ports and classes. -/
def sumL (f : Nat → Nat) : Nat → Nat
  | 0 => 0
  | n + 1 => sumL f n + f n
def sumPK (P K : Nat) (g : Nat → Nat → Nat) : Nat := sumL (fun p => sumL (g p) K) P
theorem sumL_congr {f g : Nat → Nat} : ∀ n, (∀ i < n, f i = g i) → sumL f n = sumL g n
  | 0, _ => rfl
  | n + 1, h => by
    show sumL f n + f n = sumL g n + g n
    rw [sumL_congr n fun i hi => h i (by omega), h n (Nat.lt_succ_self n)]
theorem sumL_add (f g : Nat → Nat) : ∀ n, sumL (fun i => f i + g i) n = sumL f n + sumL g n
  | 0 => rfl
  | n + 1 => by
    show sumL (fun i => f i + g i) n + (f n + g n) = sumL f n + f n + (sumL g n + g n)
    rw [sumL_add f g n]
    omega
theorem sumL_zero : ∀ n, sumL (fun _ => 0) n = 0
  | 0 => rfl
  | n + 1 => by show sumL (fun _ => 0) n + 0 = 0; rw [sumL_zero n]
theorem sumL_one (k v : Nat) : ∀ n, sumL (fun i => if i = k then v else 0) n = if k < n then v else 0
  | 0 => by rw [if_neg (by omega)]; rfl
  | n + 1 => by
    show sumL (fun i => if i = k then v else 0) n + (if n = k then v else 0) = _
    rw [sumL_one k v n]
    by_cases h : k < n
    · rw [if_pos h, if_neg (by omega), if_pos (by omega)]; rfl
    · rw [if_neg h]
      by_cases h2 : n = k
      · rw [if_pos h2, if_pos (by omega)]; omega
      · rw [if_neg h2, if_neg (by omega)]
theorem sumPK_congr {P K : Nat} {f g : Nat → Nat → Nat} (h : ∀ p < P, ∀ c < K, f p c = g p c) : sumPK P K f = sumPK P K g := sumL_congr P fun p hp => sumL_congr K fun c hc => h p hp c hc
theorem sumPK_add (P K : Nat) (f g : Nat → Nat → Nat) : sumPK P K (fun p c => f p c + g p c) = sumPK P K f + sumPK P K g := by
  unfold sumPK
  rw [← sumL_add]
  exact sumL_congr P fun p _ => sumL_add _ _ K
theorem sumPK_zero (P K : Nat) : sumPK P K (fun _ _ => 0) = 0 := by
  show sumL (fun _ => sumL (fun _ => 0) K) P = 0
  rw [sumL_zero K]
  exact sumL_zero P
theorem sumPK_one {P K p c : Nat} (hp : p < P) (hc : c < K) : sumPK P K (fun i j => if i = p ∧ j = c then 1 else 0) = 1 := by
  unfold sumPK
  have e : sumL (fun i => sumL (fun j => if i = p ∧ j = c then 1 else 0) K) P = sumL (fun i => if i = p then 1 else 0) P := by
    refine sumL_congr P fun i _ => ?_
    by_cases h : i = p
    · rw [if_pos h]
      have h1 := sumL_one c 1 K
      rw [if_pos hc] at h1
      refine (sumL_congr K fun j _ => ?_).trans h1
      simp [h]
    · rw [if_neg h]
      refine (sumL_congr K fun j _ => ?_).trans (sumL_zero K)
      simp [h]
  rw [e, sumL_one, if_pos hp]
/-- Every frame that left counts once. -/
theorem sum_out {P K : Nat} : ∀ (mv : List Mv) (fr : List Fr), mv.length = fr.length → (∀ m ∈ mv, ∃ p c, m.p = ((p : Nat) : Int) ∧ m.c = ((c : Nat) : Int) ∧ p < P ∧ c < K) → sumPK P K (fun p c => (outF p c mv fr).length) = mv.length
  | [], fr, _, _ => by
    have : (fun p c => (outF p c [] fr).length) = fun _ _ => 0 := by funext p c; cases fr <;> rfl
    rw [this]
    exact sumPK_zero P K
  | m :: mv, [], h, _ => by simp at h
  | m :: mv, f :: fr, h, hm => by
    obtain ⟨p, c, e1, e2, hp, hc⟩ := hm m (List.mem_cons_self ..)
    have ih := sum_out mv fr (by simpa using h) fun x hx => hm x (List.mem_cons_of_mem _ hx)
    have e : ∀ p' < P, ∀ c' < K, (outF p' c' (m :: mv) (f :: fr)).length = (outF p' c' mv fr).length + if p' = p ∧ c' = c then 1 else 0 := fun p' _ c' _ => by
      show (if m.p = (p' : Int) ∧ m.c = (c' : Int) then f :: outF p' c' mv fr else outF p' c' mv fr).length = _
      by_cases h1 : p' = p ∧ c' = c
      · rw [if_pos h1, if_pos ⟨by rw [e1, h1.1], by rw [e2, h1.2]⟩]
        rfl
      · rw [if_neg h1, if_neg (fun x => h1 ⟨by have := x.1; omega, by have := x.2; omega⟩)]
        rfl
    rw [sumPK_congr e, sumPK_add, ih, sumPK_one hp hc]
    rfl
def sumQ (P K : Nat) (M : Md) : Nat := sumPK P K fun p c => (M.q p c).length
/-- The counts of play behind i calls. -/
structure PlI (P K : Nat) (zs : List Int) (i ar gn : Nat) (M : Md) (x : Nat → Nat → Nat → Int) : Prop where
  lim : ∀ p < P, ∀ c < K, x 0 p c = (M.tk p c).b ∧ (M.tk p c).b ≤ 3 * (i : Int)
  lft : ∀ p < P, ∀ c < K, x 1 p c = (M.tk p c).b - (M.tk p c).a
  cam : ∀ p < P, ∀ c < K, x 2 p c = (M.gv p c).b ∧ (M.gv p c).b ≤ (i : Int)
  rm : ∀ p < P, ∀ c < K, (M.gv p c).a = zs[c]?.getD 0
  fr : ∀ p < P, ∀ c < K, ∀ f ∈ M.q p c, f.cls = (c : Int) ∧ 0 ≤ f.id ∧ f.id < (i : Int)
  srt : ∀ p < P, ∀ c < K, List.Pairwise (fun a b : Fr => a.id < b.id) (M.q p c)
  sum : ar = gn + sumQ P K M
  ari : ar ≤ i
section
variable {P K : Nat} {zs : List Int} {i ar gn : Nat} {M : Md} {x : Nat → Nat → Nat → Int}
theorem PlI.start (P K : Nat) (zs : List Int) : PlI P K zs 0 0 0 (mdNew zs) (fun _ _ _ => 0) := by
  refine ⟨fun _ _ _ _ => ⟨rfl, Int.le_refl _⟩, fun _ _ _ _ => rfl, fun _ _ _ _ => ⟨rfl, Int.le_refl _⟩, fun _ _ _ _ => rfl, fun _ _ _ _ f hf => (by cases hf), fun _ _ _ _ => List.Pairwise.nil, ?_, Nat.le_refl _⟩
  show 0 = 0 + sumPK P K (fun _ _ => 0)
  rw [sumPK_zero P K]
theorem PlI.next (h : PlI P K zs i ar gn M x) : PlI P K zs (i + 1) ar gn M x :=
  ⟨fun p hp c hc => ⟨(h.lim p hp c hc).1, by have := (h.lim p hp c hc).2; omega⟩, h.lft, fun p hp c hc => ⟨(h.cam p hp c hc).1, by have := (h.cam p hp c hc).2; omega⟩, h.rm, fun p hp c hc f hf => by have := h.fr p hp c hc f hf; exact ⟨this.1, this.2.1, by omega⟩, h.srt, h.sum, by have := h.ari; omega⟩
theorem upd3_same {α : Type} (f : Nat → Nat → Nat → α) (t i c : Nat) (y : α) : upd3 f t i c y t i c = y := by unfold upd3; rw [if_pos ⟨rfl, rfl, rfl⟩]
theorem upd3_ne {α : Type} (f : Nat → Nat → Nat → α) {t i c t' i' c' : Nat} (y : α) (h : ¬ (t' = t ∧ i' = i ∧ c' = c)) : upd3 f t i c y t' i' c' = f t' i' c' := by unfold upd3; rw [if_neg h]
theorem PlI.arr (h : PlI P K zs i ar gn M x) {p c : Nat} (hp : p < P) (hc : c < K) {f : Fr} (hid : f.id = (i : Int)) (hcl : f.cls = (c : Int)) (hr : (M.gv p c).b < (M.gv p c).a + (M.gv p c).c) :
    PlI P K zs (i + 1) (ar + 1) gn (mdQ M p c (M.q p c ++ [f]) (recX (M.gv p c))) (upd3 x 2 p c (x 2 p c + 1)) := by
  have hrec : (recX (M.gv p c)).b = (M.gv p c).b + 1 ∧ (recX (M.gv p c)).a = (M.gv p c).a := by
    unfold recX
    rw [if_neg (by omega)]
    exact ⟨rfl, rfl⟩
  refine ⟨fun p' hp' c' hc' => ?_, fun p' hp' c' hc' => ?_, fun p' hp' c' hc' => ?_, fun p' hp' c' hc' => ?_, fun p' hp' c' hc' g hg => ?_, fun p' hp' c' hc' => ?_, ?_, by have := h.ari; omega⟩
  · rw [upd3_ne _ _ (by omega)]
    exact ⟨(h.lim p' hp' c' hc').1, by have : (M.tk p' c').b ≤ _ := (h.lim p' hp' c' hc').2; show (M.tk p' c').b ≤ _; omega⟩
  · rw [upd3_ne _ _ (by omega)]
    exact h.lft p' hp' c' hc'
  · show upd3 x 2 p c _ 2 p' c' = (upd2 M.gv p c _ p' c').b ∧ (upd2 M.gv p c _ p' c').b ≤ _
    by_cases e : p' = p ∧ c' = c
    · rw [e.1, e.2, upd3_same, upd2_same, hrec.1, (h.cam p hp c hc).1]
      have := (h.cam p hp c hc).2
      exact ⟨rfl, by omega⟩
    · rw [upd3_ne _ _ (fun y => e ⟨y.2.1, y.2.2⟩), upd2_ne _ _ e]
      exact ⟨(h.cam p' hp' c' hc').1, by have := (h.cam p' hp' c' hc').2; omega⟩
  · show (upd2 M.gv p c _ p' c').a = _
    by_cases e : p' = p ∧ c' = c
    · rw [e.1, e.2, upd2_same, hrec.2]; exact h.rm p hp c hc
    · rw [upd2_ne _ _ e]; exact h.rm p' hp' c' hc'
  · have hg : g ∈ upd2 M.q p c (M.q p c ++ [f]) p' c' := hg
    by_cases e : p' = p ∧ c' = c
    · rw [e.1, e.2, upd2_same] at hg
      rcases List.mem_append.1 hg with hg | hg
      · have := h.fr p hp c hc g hg
        rw [e.2]
        exact ⟨this.1, this.2.1, by omega⟩
      · rw [List.mem_singleton.1 hg, e.2]
        exact ⟨hcl, by omega, by omega⟩
    · rw [upd2_ne _ _ e] at hg
      have := h.fr p' hp' c' hc' g hg
      exact ⟨this.1, this.2.1, by omega⟩
  · show List.Pairwise _ (upd2 M.q p c (M.q p c ++ [f]) p' c')
    by_cases e : p' = p ∧ c' = c
    · rw [e.1, e.2, upd2_same, List.pairwise_append]
      refine ⟨h.srt p hp c hc, List.pairwise_singleton _ _, fun a ha b hb => ?_⟩
      rw [List.mem_singleton.1 hb, hid]
      exact (h.fr p hp c hc a ha).2.2
    · rw [upd2_ne _ _ e]; exact h.srt p' hp' c' hc'
  · have e : sumQ P K (mdQ M p c (M.q p c ++ [f]) (recX (M.gv p c))) = sumQ P K M + 1 := by
      unfold sumQ
      rw [← sumPK_one hp hc, ← sumPK_add]
      refine sumPK_congr fun p' _ c' _ => ?_
      show (upd2 M.q p c (M.q p c ++ [f]) p' c').length = _
      by_cases e : p' = p ∧ c' = c
      · rw [if_pos e, e.1, e.2, upd2_same, List.length_append]; rfl
      · rw [if_neg e, upd2_ne _ _ e, Nat.add_zero]
    rw [e]
    have := h.sum
    omega
theorem PlI.rai (h : PlI P K zs i ar gn M x) {p c : Nat} (hp : p < P) (hc : c < K) {n : Int} (hn0 : 0 ≤ n) (hn3 : n ≤ 3) (hT : TOk (M.tk p c)) (hi : i ≤ 60) :
    raiE (M.tk p c) (x 0 p c + n) = 0 ∧ PlI P K zs (i + 1) ar gn { M with tk := upd2 M.tk p c (raiX (M.tk p c) (x 0 p c + n)) } (upd3 (upd3 x 0 p c (x 0 p c + n)) 1 p c (x 1 p c + n)) := by
  have h0 := h.lim p hp c hc
  have ha := hT.h1
  have hb := hT.h2
  have hx : ¬ (x 0 p c + n < 0 ∨ 1099511627776 < x 0 p c + n) := by omega
  have hr : raiX (M.tk p c) (x 0 p c + n) = ⟨(M.tk p c).a, (M.tk p c).b + n⟩ := by
    unfold raiX
    rw [if_neg hx, h0.1]
    congr 1
    omega
  refine ⟨by unfold raiE; rw [if_neg hx], fun p' hp' c' hc' => ?_, fun p' hp' c' hc' => ?_, fun p' hp' c' hc' => ?_, h.rm, fun p' hp' c' hc' g hg => ?_, h.srt, h.sum, by have := h.ari; omega⟩
  · rw [upd3_ne _ _ (by omega)]
    show _ = (upd2 M.tk p c _ p' c').b ∧ (upd2 M.tk p c _ p' c').b ≤ _
    by_cases e : p' = p ∧ c' = c
    · rw [e.1, e.2, upd3_same, upd2_same, hr]
      exact ⟨by show _ = (M.tk p c).b + n; omega, by show (M.tk p c).b + n ≤ _; omega⟩
    · rw [upd3_ne _ _ (fun y => e ⟨y.2.1, y.2.2⟩), upd2_ne _ _ e]
      have := h.lim p' hp' c' hc'
      exact ⟨this.1, by omega⟩
  · show _ = (upd2 M.tk p c _ p' c').b - (upd2 M.tk p c _ p' c').a
    by_cases e : p' = p ∧ c' = c
    · rw [e.1, e.2, upd3_same, upd2_same, hr]
      have := h.lft p hp c hc
      show _ = (M.tk p c).b + n - (M.tk p c).a
      omega
    · rw [upd3_ne _ _ (fun y => e ⟨y.2.1, y.2.2⟩), upd3_ne _ _ (by omega), upd2_ne _ _ e]
      exact h.lft p' hp' c' hc'
  · rw [upd3_ne _ _ (by omega), upd3_ne _ _ (by omega)]
    exact ⟨(h.cam p' hp' c' hc').1, by have : (M.gv p' c').b ≤ _ := (h.cam p' hp' c' hc').2; show (M.gv p' c').b ≤ _; omega⟩
  · have := h.fr p' hp' c' hc' g hg
    exact ⟨this.1, this.2.1, by omega⟩
theorem PlI.step (h : PlI P K zs i ar gn M x) {rt : Nat → Fr → Int} {m : Nat → Int} {s : SS} (hf : StF P K rt M m P s) {x' : Nat → Nat → Nat → Int} (hx0 : ∀ p < P, ∀ c < K, x' 0 p c = x 0 p c) (hx1 : ∀ p < P, ∀ c < K, x' 1 p c = x 1 p c - (cntO p c s.mv : Nat)) (hx2 : ∀ p < P, ∀ c < K, x' 2 p c = x 2 p c) :
    PlI P K zs (i + 1) ar (gn + s.mv.length) s.M x' := by
  have hsub : ∀ p c f, f ∈ s.M.q p c → f ∈ M.q p c := fun p c f hm => by
    rw [hf.qs p c]
    exact List.mem_append_right _ hm
  refine ⟨fun p hp c hc => ?_, fun p hp c hc => ?_, fun p hp c hc => ?_, fun p hp c hc => ?_, fun p hp c hc f hm => ?_, fun p hp c hc => ?_, ?_, by have := h.ari; omega⟩
  · rw [hx0 p hp c hc, (hf.tk p c).2]
    have := h.lim p hp c hc
    exact ⟨this.1, by omega⟩
  · rw [hx1 p hp c hc, (hf.tk p c).2, (hf.tk p c).1]
    have := h.lft p hp c hc
    omega
  · rw [hx2 p hp c hc, (hf.ga p c).2]
    have := h.cam p hp c hc
    exact ⟨this.1, by omega⟩
  · rw [(hf.ga p c).1]; exact h.rm p hp c hc
  · have := h.fr p hp c hc f (hsub p c f hm)
    exact ⟨this.1, this.2.1, by omega⟩
  · have := h.srt p hp c hc
    rw [hf.qs p c, List.pairwise_append] at this
    exact this.2.1
  · have e : sumQ P K M = s.mv.length + sumQ P K s.M := by
      unfold sumQ
      rw [← sum_out s.mv s.fr hf.len (fun mm hm => ?_), ← sumPK_add]
      · refine sumPK_congr fun p _ c _ => ?_
        rw [← List.length_append, ← hf.qs p c]
      · obtain ⟨j, hj⟩ := List.mem_iff_getElem?.1 hm
        obtain ⟨f, hfj⟩ : ∃ f, s.fr[j]? = some f := ⟨s.fr[j]'(by rw [← hf.len]; exact get_lt hj), by simp [show j < s.fr.length by rw [← hf.len]; exact get_lt hj]⟩
        obtain ⟨p, c, g1, g2, g3, g4, _⟩ := hf.mem j mm f hj hfj
        exact ⟨p, c, g1, g2, g3, g4⟩
    have := h.sum
    omega
end
end Go.Proofs.Ytkooihniieepcaa
