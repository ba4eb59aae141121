/-
  switchbox: a box beside its client's memory; the turns of a single input.
-/
import Derived.Test.YtkooihniieepcaaSwAw
namespace Go.Proofs.Ytkooihniieepcaa
open Go.RowKit
set_option linter.unusedVariables false

/-- A box, and memory of its client apart from it. -/
structure CliAt {ρ : Type} (w : World) (base P K : Nat) (L : Loc) (M : Md) (B : Nat) (C : ρ → Option Pc) : Prop where
  bx : BoxAt w base P K L M
  st : St w B C
  ap : ∀ k, boxS P K L M k → ¬ ftC C k
section
variable {ρ : Type} {w w' : World} {base P K B : Nat} {L L' : Loc} {M M' : Md} {C C' : ρ → Option Pc}
theorem CliAt.below (h : CliAt w base P K L M B C) (q : Below w.heap.size w w') : CliAt w' base P K L M B C := ⟨h.bx.below q, h.st.below q, h.ap⟩
/-- The box has turned. -/
theorem CliAt.box (h : CliAt w base P K L M B C) (q : BxPost w base P K L M L' M' w') : CliAt w' base P K L' M' B C :=
  ⟨q.1, h.st.upd q.2.1 fun k hk hs => h.ap k hs hk, fun k hk hf => by
    rcases q.2.2 k hk with h1 | h1
    · exact h.ap k h1 hf
    · have := (h.st.lt hf).2
      omega⟩
/-- The client's memory has turned. -/
theorem CliAt.cli {S : Nat → Prop} (h : CliAt w base P K L M B C) (u : Upd S w w') (hS : ∀ k, S k → ftC C k ∨ w.heap.size ≤ k) (hl : St w' B C') (hf : ∀ k, ftC C' k → ftC C k ∨ w.heap.size ≤ k) : CliAt w' base P K L M B C' :=
  ⟨h.bx.upd u fun k hk hs => (hS k hs).elim (h.ap k hk) fun e => by have := (h.bx.lt hk).2; omega, hl, fun k hk h2 => (hf k h2).elim (h.ap k hk) fun e => by have := (h.bx.lt hk).2; omega⟩
theorem CliAt.sub (h : CliAt w base P K L M B C) (e : ∀ r p, C' r = some p → C r = some p) : CliAt w base P K L M B C' :=
  ⟨h.bx, h.st.sub e, fun k hk ⟨r, p, h1, h2⟩ => h.ap k hk ⟨r, p, e r p h1, h2⟩⟩
/-- A new block of the client's. -/
theorem CliAt.new [DecidableEq ρ] (h : CliAt w base P K L M B C) (r : ρ) (hr : C r = none) (T : TypeId) (l : List Value) (hB : B ≤ w.heap.size) : CliAt (w.alloc (.cells l.toArray T)) base P K L M B (setC C r (.blk w.heap.size T l)) := by
  have q : Below w.heap.size w (w.alloc (.cells l.toArray T)) := (Below.refl _ _).alloc (Nat.le_refl _) _
  refine h.cli (S := fun _ => False) (Upd.of_below q) (fun _ h => h.elim) (h.st.add r _ hr (Upd.of_below (S := fun _ => False) q) (fun _ _ => id) ⟨Blk.new w T l, hB⟩ fun k hk => ?_) fun k hk => ?_
  · have : w.heap.size = k := Option.some.inj hk
    omega
  · rcases ftC_set hk with h1 | h1
    · exact .inl h1
    · have : w.heap.size = k := Option.some.inj h1
      exact .inr (by omega)
/-- A store into a block of the client's. -/
theorem CliAt.store [DecidableEq ρ] (h : CliAt w base P K L M B C) {r : ρ} {k : Nat} {T : TypeId} {l l' : List Value} {i : Nat} {v : Value} (hr : C r = some (.blk k T l)) (hl : l.set i v = l') : CliAt (w.setCell ⟨k, i, none⟩ v) base P K L M B (setC C r (.blk k T l')) :=
  h.cli ((Upd.refl (fun j => j = k) w).setCell ⟨k, i, none⟩ v fun _ => rfl) (fun j hj => .inl ⟨r, _, hr, by rw [hj]; rfl⟩) (h.st.store hr hl) fun j hj => by
    rcases ftC_set hj with h1 | h1
    · exact .inl h1
    · exact .inl ⟨r, _, hr, h1⟩
theorem CliAt.congr (h : CliAt w base P K L M B C) (e : ∀ r, C r = C' r) : CliAt w base P K L M B C' := by
  have : C = C' := funext e
  rw [← this]
  exact h
end

/-- The classes below j have had R + 1 turns, the others R. -/
def cntT (R j c : Nat) : Nat := R + if c < j then 1 else 0
def frT (c : Nat) : Fr := ⟨0, 0, 0, c, 0⟩
structure TrnI (P K i t r R j : Nat) (M : Md) : Prop where
  q0 : ∀ i' < P, i' ≠ i → ∀ c < K, M.q i' c = []
  q1 : ∀ c < K, M.q i c = List.replicate (r - cntT R j c) (frT c)
  tk : ∀ c < K, M.tk t c = ⟨(cntT R j c : Nat), 4⟩
  gv : ∀ c < K, M.gv i c = ⟨4, r, (cntT R j c : Nat)⟩
  pt : M.ptr i = j % K
section
variable {P K i t r R j : Nat} {M : Md}
theorem TrnI.ga (h : TrnI P K i t r R j M) (g a : Nat → Nat) : TrnI P K i t r R j { M with g := g, a := a } := ⟨h.q0, h.q1, h.tk, h.gv, h.pt⟩
theorem TrnI.roll (h : TrnI P K i t r R K M) (hK : 0 < K) : TrnI P K i t r (R + 1) 0 M := by
  have e : ∀ c < K, cntT R K c = cntT (R + 1) 0 c := fun c hc => by unfold cntT; rw [if_pos hc, if_neg (by omega)]
  refine ⟨h.q0, fun c hc => ?_, fun c hc => ?_, fun c hc => ?_, ?_⟩
  · rw [← e c hc]; exact h.q1 c hc
  · rw [← e c hc]; exact h.tk c hc
  · rw [← e c hc]; exact h.gv c hc
  · rw [h.pt, Nat.mod_self, Nat.zero_mod]
theorem TrnI.first (h : TrnI P K i t r R j M) (hj : j < K) (hR : R < r) : ∃ f l, M.q i j = f :: l := by
  rw [h.q1 j hj]
  have : r - cntT R j j = (r - R - 1) + 1 := by unfold cntT; rw [if_neg (by omega)]; omega
  rw [this]
  exact ⟨_, _, rfl⟩
theorem TrnI.left (h : TrnI P K i t r R j M) (hj : j < K) (hR : R < r) (hr : r ≤ 4) : 0 < (M.tk t j).b - (M.tk t j).a := by
  rw [h.tk j hj]
  show (0 : Int) < 4 - (cntT R j j : Nat)
  unfold cntT
  rw [if_neg (by omega)]
  omega
theorem TrnI.cls (h : TrnI P K i t r R j M) (ht : t < P) (hj : j < K) (hR : R < r) (hr : r ≤ 4) : clsOf K M (fun p c => ouN P (fun _ _ => (t : Int)) p (M.q p c)) i t = some j := by
  have e : (M.ptr i + 0) % K = j := by rw [h.pt, Nat.add_zero, Nat.mod_mod, Nat.mod_eq_of_lt hj]
  have := cls_some (K := K) (i := i) (k := t) (n := 0) (o := fun p c => ouN P (fun _ _ => (t : Int)) p (M.q p c)) (M := M) (by omega) (fun x hx => absurd hx (Nat.not_lt_zero _)) (by
    rw [e, rdy_const ht]
    obtain ⟨f, l, h1⟩ := h.first hj hR
    have h2 := h.left hj hR hr
    simp [h1]
    omega)
  rw [e] at this
  exact this
theorem TrnI.step (h : TrnI P K i t r R j M) (hi : i < P) (hj : j < K) (hR : R < r) (hr : r ≤ 4) : TrnI P K i t r R (j + 1) (sOne K i t j ⟨M, [], []⟩).M := by
  have ec : ∀ c, c ≠ j → cntT R (j + 1) c = cntT R j c := fun c hc => by
    unfold cntT
    by_cases h1 : c < j
    · rw [if_pos h1, if_pos (by omega)]
    · rw [if_neg h1, if_neg (by omega)]
  have e0 : cntT R j j = R := by unfold cntT; rw [if_neg (by omega)]; rfl
  have e1 : cntT R (j + 1) j = R + 1 := by unfold cntT; rw [if_pos (by omega)]
  refine ⟨fun i' hi' hne c hc => ?_, fun c hc => ?_, fun c hc => ?_, fun c hc => ?_, ?_⟩
  · show upd2 M.q i j _ i' c = []
    rw [upd2_ne _ _ (fun x => hne x.1)]
    exact h.q0 i' hi' hne c hc
  · show upd2 M.q i j (M.q i j).tail i c = _
    by_cases e : c = j
    · rw [e, upd2_same, h.q1 j hj, e0, e1, List.tail_replicate]
      congr 1
    · rw [upd2_ne _ _ (fun x => e x.2), ec c e]
      exact h.q1 c hc
  · show upd2 M.tk t j (takX (M.tk t j)) t c = _
    by_cases e : c = j
    · rw [e, upd2_same, h.tk j hj, e0, e1]
      unfold takX
      rw [if_neg (by show ¬ (4 : Int) ≤ (R : Nat); omega)]
      show (⟨((R : Nat) : Int) + 1, 4⟩ : I2) = ⟨((R + 1 : Nat) : Int), 4⟩
      rw [Int.natCast_add]
      rfl
    · rw [upd2_ne _ _ (fun x => e x.2), ec c e]
      exact h.tk c hc
  · show upd2 M.gv i j (freX (M.gv i j)) i c = _
    by_cases e : c = j
    · rw [e, upd2_same, h.gv j hj, e0, e1]
      unfold freX
      rw [if_neg (by show ¬ ((r : Nat) : Int) ≤ (R : Nat); omega)]
      show (⟨4, (r : Nat), ((R : Nat) : Int) + 1⟩ : I3) = ⟨4, (r : Nat), ((R + 1 : Nat) : Int)⟩
      rw [Int.natCast_add]
      rfl
    · rw [upd2_ne _ _ (fun x => e x.2), ec c e]
      exact h.gv c hc
  · show Bar.upd M.ptr i ((j + 1) % K) i = _
    rw [Bar.upd_same]
theorem TrnI.done (h : TrnI P K i t r r 0 M) : ∀ i' < P, ∀ c < K, M.q i' c = [] ∨ (M.tk t c).b - (M.tk t c).a ≤ 0 := by
  intro i' hi' c hc
  left
  by_cases e : i' = i
  · rw [e, h.q1 c hc]
    have : r - cntT r 0 c = 0 := by unfold cntT; omega
    rw [this]
    rfl
  · exact h.q0 i' hi' e c hc
end
/-- While the frames arrive: classes below c have r frames and their limit, class c has q. -/
structure ArrI (P K i t r c q : Nat) (M : Md) : Prop where
  q0 : ∀ i' < P, i' ≠ i → ∀ c' < K, M.q i' c' = []
  q1 : ∀ c' < K, M.q i c' = List.replicate (if c' < c then r else if c' = c then q else 0) (frT c')
  tk : ∀ c' < K, M.tk t c' = ⟨0, if c' < c then 4 else 0⟩
  gv : ∀ c' < K, M.gv i c' = ⟨4, ((if c' < c then r else if c' = c then q else 0 : Nat) : Int), 0⟩
  pt : M.ptr i = 0
section
variable {P K i t r c q : Nat} {M : Md}
theorem ArrI.start (P K i t r : Nat) {zs : List Int} (hz : ∀ c < K, zs[c]? = some 4) : ArrI P K i t r 0 0 (mdNew zs) := by
  refine ⟨fun _ _ _ _ _ => rfl, fun c hc => ?_, fun c hc => ?_, fun c hc => ?_, rfl⟩
  · rw [if_neg (by omega)]
    split <;> rfl
  · rw [if_neg (by omega)]; rfl
  · show newG (zs[c]?.getD 0) = _
    rw [hz c hc, if_neg (by omega)]
    split <;> rfl
theorem ArrI.arr (h : ArrI P K i t r c q M) (hi : i < P) (hc : c < K) (hq : q < r) (hr : r ≤ 4) : ArrI P K i t r c (q + 1) (mdQ M i c (M.q i c ++ [frT c]) (recX (M.gv i c))) := by
  have e1 : M.q i c = List.replicate q (frT c) := by rw [h.q1 c hc, if_neg (by omega), if_pos rfl]
  have e2 : M.gv i c = ⟨4, (q : Nat), 0⟩ := by rw [h.gv c hc, if_neg (by omega), if_pos rfl]
  refine ⟨fun i' hi' hne c' hc' => ?_, fun c' hc' => ?_, h.tk, fun c' hc' => ?_, h.pt⟩
  · show upd2 M.q i c _ i' c' = []
    rw [upd2_ne _ _ (fun x => hne x.1)]
    exact h.q0 i' hi' hne c' hc'
  · show upd2 M.q i c _ i c' = _
    by_cases e : c' = c
    · rw [e, upd2_same, e1, if_neg (by omega), if_pos rfl, List.replicate_succ']
    · rw [upd2_ne _ _ (fun x => e x.2), h.q1 c' hc']
      by_cases e3 : c' < c
      · rw [if_pos e3, if_pos e3]
      · rw [if_neg e3, if_neg e3, if_neg e, if_neg e]
  · show upd2 M.gv i c _ i c' = _
    by_cases e : c' = c
    · rw [e, upd2_same, e2, if_neg (by omega), if_pos rfl]
      unfold recX
      rw [if_neg (by show ¬ (4 : Int) + 0 ≤ (q : Nat); omega)]
      show (⟨4, ((q : Nat) : Int) + 1, 0⟩ : I3) = ⟨4, ((q + 1 : Nat) : Int), 0⟩
      rw [Int.natCast_add]
      rfl
    · rw [upd2_ne _ _ (fun x => e x.2), h.gv c' hc']
      by_cases e3 : c' < c
      · rw [if_pos e3, if_pos e3]
      · rw [if_neg e3, if_neg e3, if_neg e, if_neg e]
theorem ArrI.room (h : ArrI P K i t r c q M) (hc : c < K) (hq : q < r) (hr : r ≤ 4) : (M.gv i c).b < (M.gv i c).a + (M.gv i c).c ∧ (M.gv i c).b < 1000 := by
  have e2 : M.gv i c = ⟨4, (q : Nat), 0⟩ := by rw [h.gv c hc, if_neg (by omega), if_pos rfl]
  rw [e2]
  show ((q : Nat) : Int) < 4 + 0 ∧ ((q : Nat) : Int) < 1000
  omega
theorem ArrI.rai (h : ArrI P K i t r c r M) (hc : c < K) : raiE (M.tk t c) 4 = 0 ∧ ArrI P K i t r (c + 1) 0 { M with tk := upd2 M.tk t c (raiX (M.tk t c) 4) } := by
  have e1 : M.tk t c = ⟨0, 0⟩ := by rw [h.tk c hc, if_neg (by omega)]
  rw [e1]
  have ee : ∀ c', (if c' < c + 1 then r else if c' = c + 1 then 0 else 0) = if c' < c then r else if c' = c then r else 0 := fun c' => by
    by_cases h1 : c' < c
    · rw [if_pos h1, if_pos (by omega)]
    · rw [if_neg h1]
      by_cases h2 : c' = c
      · rw [if_pos h2, if_pos (by omega)]
      · rw [if_neg h2, if_neg (by omega)]
        split <;> rfl
  refine ⟨rfl, h.q0, fun c' hc' => ?_, fun c' hc' => ?_, fun c' hc' => ?_, h.pt⟩
  · rw [ee]; exact h.q1 c' hc'
  · show upd2 M.tk t c _ t c' = _
    by_cases e : c' = c
    · rw [e, upd2_same, if_pos (by omega)]
      rfl
    · rw [upd2_ne _ _ (fun x => e x.2), h.tk c' hc']
      by_cases e3 : c' < c
      · rw [if_pos e3, if_pos (by omega)]
      · rw [if_neg e3, if_neg (by omega)]
  · rw [ee]; exact h.gv c' hc'
theorem ArrI.done (h : ArrI P K i t r K 0 M) (hK : 0 < K) : TrnI P K i t r 0 0 M := by
  have e : ∀ c, cntT 0 0 c = 0 := fun c => by unfold cntT; rw [if_neg (by omega)]
  refine ⟨h.q0, fun c hc => ?_, fun c hc => ?_, fun c hc => ?_, ?_⟩
  · rw [h.q1 c hc, if_pos hc, e]; rfl
  · rw [h.tk c hc, if_pos hc, e]; rfl
  · rw [h.gv c hc, if_pos hc, e]; rfl
  · rw [h.pt, Nat.zero_mod]
end
end Go.Proofs.Ytkooihniieepcaa
