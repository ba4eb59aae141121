/-
  A level of the filling, plainly: the flows that the code takes are those that lie on the least value.
  The memory of waterfill's Levels: the filling, the levels so far.
-/
import Derived.Test.YtbdaehcngmhhcaaLvB
namespace Go.Proofs.Ytbdaehcngmhhcaa
set_option linter.unusedVariables false

section
variable {N : Nt} {caps : List Rq} {fls : List Fw} {fz : Nat → Bool} {r q : Nat → Int} {ql : Nat → Rq} {us : Nat → Bool} {fnd : Bool} {least rate : Rq} {k : Int} {j : Nat}
theorem hereB_iff (hN : NtIs N caps fls) {i : Nat} {f : Fw} (hf : fls[i]? = some f) (hi : fz i = false) (hK : ∀ x ∈ f.lk, 0 ≤ x ∧ x < caps.length)
    (hus : ∀ l < caps.length, us l = decide (0 < opF N fz l) ∧ (us l = true → Rp1 uU (ql l) (q l))) (hk : Rp1 uU least k) :
    hereB fls ql us least i = true ↔ (N.bd i = true ∧ N.dm i = k) ∨ ∃ l < N.L, N.on l i = true ∧ q l = k := by
  obtain ⟨g1, g2, g3, g4⟩ := hN.f i f hf
  have him : i < N.m := by rw [hN.m]; exact get_lt hf
  have hL := hN.L
  unfold hereB
  rw [hf]
  simp only [Bool.or_eq_true, Bool.and_eq_true, beq_iff_eq, List.any_eq_true, hereL]
  rw [cmp_eq_iff uU_pos g3.rp hk.rp, g2]
  constructor
  · rintro (h | ⟨x, hx, h1, h2⟩)
    · exact .inl h
    · obtain ⟨h3, h4⟩ := hK x hx
      have h5 := (hus x.toNat (by omega)).2 h1
      rw [cmp_eq_iff uU_pos h5.rp hk.rp] at h2
      refine .inr ⟨x.toNat, by omega, ?_, h2⟩
      rw [g1 _ (by omega)]
      simpa [Int.toNat_of_nonneg h3] using hx
  · rintro (h | ⟨l, h1, h2, h3⟩)
    · exact .inl h
    · have h4 := op_pos him hi h2
      rw [g1 l h1, decide_eq_true_eq] at h2
      obtain ⟨h5, h6⟩ := hus l (by omega)
      rw [decide_eq_true h4] at h5
      refine .inr ⟨(l : Int), h2, ?_, ?_⟩
      · simpa using h5
      · rw [Int.toNat_natCast, cmp_eq_iff uU_pos (h6 h5).rp hk.rp]; exact h3
/-- The flows of a level. -/
def lvS (fls : List Fw) (fz : Nat → Bool) (ql : Nat → Rq) (us : Nat → Bool) (least : Rq) : Nat → Bool := fun i => decide (i < fls.length) && (!fz i && hereB fls ql us least i)
theorem Rp1.zero_of (h : Rp1 uU least k) (h0 : least.n = 0) : k = 0 := by
  have h1 := h.rp.2
  rw [h0, Int.zero_mul] at h1
  have hd : least.D ≠ 0 := by unfold Rq.D; have := h.d1; split <;> omega
  rcases Int.mul_eq_zero.1 h1.symm with h2 | h2
  · exact h2
  · omega
theorem lev_plain (hO : NtOk N) (hN : NtIs N caps fls) (hF : Fill N (uV j) uU fz r) (hj : nOpen N fz + j ≤ 5) (hK : ∀ (i : Nat) f, fls[i]? = some f → ∀ x ∈ f.lk, 0 ≤ x ∧ x < caps.length)
    (hq : ∀ l < N.L, 0 < opF N fz l → q l * opF N fz l = N.C l - ldF N fz r l) {i0 : Nat} (hi0 : i0 < N.m) (hf0 : fz i0 = false)
    (hus : ∀ l < caps.length, us l = decide (0 < opF N fz l) ∧ (us l = true → Rp1 uU (ql l) (q l))) (hS : Lst (Sv N fz q caps.length fls.length) fnd least k) (hr : rate = (if least.n = 0 then ⟨0, 1⟩ else least)) :
    Lev N fz r k (lvS fls fz ql us least) ∧ 0 ≤ k ∧ k ≤ uU ∧ uV (j + 1) ∣ k ∧ (∃ i < N.m, lvS fls fz ql us least i = true) ∧ Rp1 uU rate k := by
  have hL := hN.L
  have hm := hN.m
  have hfnd : fnd = true := by
    cases hb : fnd with
    | true => rfl
    | false =>
      obtain ⟨l, h1, h2⟩ := hO.has i0 hi0
      exact absurd (.inl ⟨l, by omega, op_pos hi0 hf0 h2, rfl⟩) (hS.no hb (q l))
  have hk := hS.rp hfnd
  have key := lev_of (lam := k) (S := lvS fls fz ql us least) hO hF hj hq (fun l hl ho => hS.le hfnd _ (.inl ⟨l, by omega, ho, rfl⟩)) (fun i hi h1 h2 => hS.le hfnd _ (.inr ⟨i, by omega, h1, h2, rfl⟩))
    (by
      rcases hS.mem hfnd with ⟨l, h1, h2, h3⟩ | ⟨i, h1, h2, h3, h4⟩
      · exact .inl ⟨l, by omega, h2, h3⟩
      · exact .inr ⟨i, by omega, h2, h3, h4⟩)
    (fun i hi => by
      have hil : i < fls.length := by omega
      have e : fls[i]? = some fls[i] := by simp [hil]
      unfold lvS
      rw [decide_eq_true hil, Bool.true_and, Bool.and_eq_true, Bool.not_eq_true']
      constructor
      · rintro ⟨h1, h2⟩
        exact ⟨h1, (hereB_iff hN e h1 (hK i _ e) hus hk).1 h2⟩
      · rintro ⟨h1, h2⟩
        exact ⟨h1, (hereB_iff hN e h1 (hK i _ e) hus hk).2 h2⟩)
  refine ⟨key.1, key.2.1, key.2.2.1, key.2.2.2.1, key.2.2.2.2, ?_⟩
  rw [hr]
  split
  · rename_i h0
    have := hk.zero_of h0
    subst this
    exact ⟨⟨.inr ⟨by decide, by decide⟩, by decide⟩, by decide⟩
  · exact hk
end
end Go.Proofs.Ytbdaehcngmhhcaa
namespace Go.Proofs.Ytbdaehcngmhhcaa
open Go.RowKit
set_option linter.unusedVariables false

/-- A level as it is returned. -/
structure Lw where
  rt : Rq
  va : Option Addr
  vc : Nat
  fl : List Nat
def lvC (x : Lw) : List Value := [.int .i64 x.rt.n, .int .i64 x.rt.d, .slice x.va x.fl.length x.vc]
theorem lvC_len (x : Lw) : (lvC x).length = 3 := rfl
def setR (fl : List Nat) (rt : Rq) (R : Nat → Rq) : Nat → Rq := fun i => if i ∈ fl then rt else R i
def setZ (fl : List Nat) (z : Nat → Bool) : Nat → Bool := fun i => decide (i ∈ fl) || z i
def RL (l : List Lw) : Nat → Rq := l.foldl (fun R x => setR x.fl x.rt R) (fun _ => ⟨0, 0⟩)
def fzL (l : List Lw) : Nat → Bool := l.foldl (fun z x => setZ x.fl z) (fun _ => false)
theorem RL_snoc (l : List Lw) (x : Lw) : RL (l ++ [x]) = setR x.fl x.rt (RL l) := by unfold RL; rw [List.foldl_append]; rfl
theorem fzL_snoc (l : List Lw) (x : Lw) : fzL (l ++ [x]) = setZ x.fl (fzL l) := by unfold fzL; rw [List.foldl_append]; rfl
theorem setR_nil (rt : Rq) (R : Nat → Rq) : setR [] rt R = R := by funext i; simp [setR]
theorem setZ_nil (z : Nat → Bool) : setZ [] z = z := by funext i; simp [setZ]
theorem setR_step {fl : List Nat} {k i : Nat} (h : fl[k]? = some i) (rt : Rq) (R : Nat → Rq) : updQ (setR (fl.take k) rt R) i rt = setR (fl.take (k + 1)) rt R := by
  funext j
  unfold updQ setR
  rw [List.take_add_one, h]
  by_cases e : j = i
  · subst e; simp
  · simp [e]
theorem setZ_step {fl : List Nat} {k i : Nat} (h : fl[k]? = some i) (z : Nat → Bool) : updQ (setZ (fl.take k) z) i true = setZ (fl.take (k + 1)) z := by
  funext j
  unfold updQ setZ
  rw [List.take_add_one, h]
  by_cases e : j = i
  · subst e; simp
  · simp [e]
/-- The filling, made by the call. -/
structure LsAt (w wr : World) (fb rb zb : Nat) (ca fa : Option Addr) (cc fc n m : Nat) (R : Nat → Rq) (z : Nat → Bool) : Prop where
  f : w.heap.size ≤ fb
  r_ : w.heap.size ≤ rb
  z_ : w.heap.size ≤ zb
  fr : fb ≠ rb
  fz : fb ≠ zb
  rz : rb ≠ zb
  b : Blk wr fb 80 [.slice ca n cc, .slice fa m fc, .slice (some ⟨rb, 0, none⟩) m m, .slice (some ⟨zb, 0, none⟩) m m]
  r : Blk wr rb 29 (flC rC ((List.range m).map R))
  z : Blk wr zb 4 ((List.range m).map (bZ z))
  u : Below w.heap.size w wr
section
variable {w wr w' : World} {fb rb zb : Nat} {ca fa : Option Addr} {cc fc n m : Nat} {R : Nat → Rq} {z : Nat → Bool} {caps : List Rq} {fls : List Fw}
theorem LsAt.fill (h : LsAt w wr fb rb zb ca fa cc fc caps.length fls.length R z) (hn : NetAt w ca fa caps fls) : FlAt wr fb ca fa cc fc rb zb caps fls R z := ⟨h.b, hn.below h.u, h.r, h.z⟩
theorem LsAt.upd (h : LsAt w wr fb rb zb ca fa cc fc n m R z) {S : Nat → Prop} (q : Upd S wr w') (hS : ∀ k, S k → w.heap.size ≤ k ∧ k ≠ fb ∧ k ≠ rb ∧ k ≠ zb) : LsAt w w' fb rb zb ca fa cc fc n m R z :=
  ⟨h.f, h.r_, h.z_, h.fr, h.fz, h.rz, h.b.upd q (fun x => (hS _ x).2.1 rfl), h.r.upd q (fun x => (hS _ x).2.2.1 rfl), h.z.upd q (fun x => (hS _ x).2.2.2 rfl), Upd.below h.u q (by have := h.f; have := h.b.lt; omega) (fun i hi => (hS i hi).1)⟩
theorem LsAt.below (h : LsAt w wr fb rb zb ca fa cc fc n m R z) (q : Below wr.heap.size wr w') : LsAt w w' fb rb zb ca fa cc fc n m R z := h.upd (S := fun _ => False) (Upd.of_below q) (fun _ => False.elim)
theorem LsAt.rc (h : LsAt w wr fb rb zb ca fa cc fc n m R z) {i : Nat} (hi : i < m) : wr.cell? ⟨rb, i * 2, none⟩ = some (.int .i64 (R i).n) ∧ wr.cell? ⟨rb, i * 2 + 1, none⟩ = some (.int .i64 (R i).d) := by
  have e : ((List.range m).map R)[i]? = some (R i) := by simp [hi]
  exact ⟨h.r.cell (i := i * 2 + 0) (by rw [flC_get rC_len e 0 (by omega)]; rfl), h.r.cell (by rw [flC_get rC_len e 1 (by omega)]; rfl)⟩
theorem LsAt.zc (h : LsAt w wr fb rb zb ca fa cc fc n m R z) {i : Nat} (hi : i < m) : wr.cell? ⟨zb, i, none⟩ = some (.bool (z i)) := h.z.cell (by simp [hi, bZ])
/-- A flow's rate is set, and it is frozen. -/
theorem LsAt.put (h : LsAt w wr fb rb zb ca fa cc fc n m R z) {i : Nat} (hi : i < m) (r : Rq) :
    LsAt w (((wr.setCell ⟨rb, i * 2, none⟩ (.int .i64 r.n)).setCell ⟨rb, i * 2 + 1, none⟩ (.int .i64 r.d)).setCell ⟨zb, i, none⟩ (.bool true)) fb rb zb ca fa cc fc n m (updQ R i r) (updQ z i true) := by
  have h1 := h.fr; have h2 := h.fz; have h3 := h.rz
  refine ⟨h.f, h.r_, h.z_, h.fr, h.fz, h.rz, ((h.b.setO _ h1).setO _ h1).setO _ h2, ?_, ?_, ((h.u.setCell h.r_ _).setCell h.r_ _).setCell h.z_ _⟩
  · rw [← flC_set R hi r]
    exact ((h.r.set _ _).set _ _).setO _ h3
  · have e : (List.range m).map (bZ (updQ z i true)) = ((List.range m).map (bZ z)).set i (.bool true) := by
      rw [← range_updQ (bZ z) (.bool true) hi]
      refine List.map_congr_left fun j _ => ?_
      unfold bZ updQ
      by_cases c : j = i <;> simp [c]
    rw [e]
    exact ((h.z.setO _ h3.symm).setO _ h3.symm).set _ _
end
def flI (fl : List Nat) : List Int := fl.map fun (i : Nat) => (i : Int)
theorem Try.infoLv : (Try.prog.info? 57).map (fun i => (i.zero, i.size, i.bytes)) = some (some (.agg #[.int .i64 0, .int .i64 0, .slice none 0 0]), 3, 40) := by kernel_rfl
/-- The levels so far, in blocks from b0 on. -/
structure LwsAt (wr : World) (b0 : Nat) (v : Value) (lvs : List Lw) : Prop where
  own : wr.ownsRow b0 57 3 v lvs.length (flC lvC lvs)
  rd : ∀ x ∈ lvs, ∃ g, Lw.va x = some ⟨g, 0, none⟩ ∧ b0 ≤ g ∧ g < wr.heap.size ∧ v.ownBlock ≠ some g ∧ SlI wr (some ⟨g, 0, none⟩) (flI x.fl)
section
variable {wr w' : World} {b0 : Nat} {v v' : Value} {lvs : List Lw}
theorem LwsAt.nil (wr : World) (b0 : Nat) : LwsAt wr b0 (.slice none 0 0) [] := ⟨⟨rfl, .inl ⟨rfl, rfl⟩⟩, fun x hx => by simp at hx⟩
theorem LwsAt.upd (h : LwsAt wr b0 v lvs) {S : Nat → Prop} (q : Upd S wr w') (hS : ∀ k, S k → k < b0) : LwsAt w' b0 v lvs :=
  ⟨own_upd h.own q (fun g hg hs => by have := (own_lt h.own hg).2; have := hS g hs; omega), fun x hx => by
    obtain ⟨g, h1, h2, h3, h4, h5⟩ := h.rd x hx
    exact ⟨g, h1, h2, by have := q.size; omega, h4, h5.upd q (fun _ hs => by have := hS _ hs; simp at this; omega)⟩⟩
theorem LwsAt.below (h : LwsAt wr b0 v lvs) (q : Below wr.heap.size wr w') : LwsAt w' b0 v lvs := h.upd (S := fun _ => False) (Upd.of_below q) (fun _ => False.elim)
/-- One more level is appended. -/
theorem LwsAt.push (h : LwsAt wr b0 v lvs) (x : Lw) {g : Nat} (hx : x.va = some ⟨g, 0, none⟩) (hg : b0 ≤ g) (hg2 : g < wr.heap.size) (hv : v.ownBlock ≠ some g) (hs : SlI wr (some ⟨g, 0, none⟩) (flI x.fl))
    (hown : w'.ownsRow b0 57 3 v' (lvs.length + 1) (flC lvC lvs ++ lvC x)) (hgr : wr.grownBy w' v.ownBlock) (hat : v'.ownBlock = v.ownBlock ∨ v'.ownBlock = some wr.heap.size) : LwsAt w' b0 v' (lvs ++ [x]) := by
  have q := Upd.of_grownV hgr
  refine ⟨?_, fun y hy => ?_⟩
  · rw [flC_append, flC_one, List.length_append]
    exact hown
  · have key : ∀ k : Nat, k < wr.heap.size → v.ownBlock ≠ some k → v'.ownBlock ≠ some k := fun k hk hne e => by
      rcases hat with e' | e'
      · exact hne (e' ▸ e)
      · rw [e'] at e; cases e; omega
    rcases List.mem_append.1 hy with hy | hy
    · obtain ⟨k, h1, h2, h3, h4, h5⟩ := h.rd y hy
      exact ⟨k, h1, h2, by have := q.size; omega, key k h3 h4, h5.upd q (fun _ e => h4 e)⟩
    · obtain rfl := List.mem_singleton.1 hy
      exact ⟨g, hx, hg, by have := q.size; omega, key g hg2 hv, hs.upd q (fun _ e => hv e)⟩
end
/-- What is known of the levels so far, in whole units. -/
structure Lps (N : Nt) (m : Nat) (lvs : List Lw) (r : Nat → Int) : Prop where
  f : Fill N (uV lvs.length) uU (fzL lvs) r
  o : nOpen N (fzL lvs) + lvs.length ≤ 5
  r : ∀ i < m, fzL lvs i = true → Rp1 uU (RL lvs i) (r i)
  i : ∀ x ∈ lvs, ∀ i ∈ Lw.fl x, i < m
  n : ∀ x ∈ lvs, (Lw.fl x).length ≤ m
section
variable {N : Nt} {caps : List Rq} {fls : List Fw} {r q : Nat → Int} {ql : Nat → Rq} {us : Nat → Bool} {least rate : Rq} {k : Int} {lvs : List Lw}
theorem Lps.nil (hO : NtOk N) (m : Nat) : Lps N m [] (fun _ => 0) := by
  refine ⟨⟨fun l hl => ?_, fun i hi h => (by cases h), fun i hi h => (by cases h)⟩, ?_, fun i hi h => (by cases h), fun x hx => (by simp at hx), fun x hx => by simp at hx⟩
  · have : ldF N (fzL []) (fun _ => 0) l = 0 := sI_zero fun i _ => by split <;> rfl
    rw [this]
    exact (hO.C l hl).2.1
  · have : nOpen N (fzL []) ≤ N.m := by
      have key : ∀ n : Nat, sI (fun _ => (1 : Int)) n = n := fun n => by
        induction n with
        | zero => rfl
        | succ n ih => simp only [sI, ih]; omega
      show sI (fun i => if fzL [] i = true then (0 : Int) else 1) N.m ≤ N.m
      have e : sI (fun i => if fzL [] i = true then (0 : Int) else 1) N.m = N.m := (sI_congr (g := fun _ => (1 : Int)) (fun i _ => rfl)).trans (key N.m)
      omega
    have := hO.m
    show _ + ((0 : Nat) : Int) ≤ 5
    omega
theorem mem_lvS {fz : Nat → Bool} (i : Nat) : i ∈ (List.range fls.length).filter (lvS fls fz ql us least) ↔ lvS fls fz ql us least i = true := by
  rw [List.mem_filter, List.mem_range]
  constructor
  · exact fun h => h.2
  · intro h
    refine ⟨?_, h⟩
    unfold lvS at h
    rw [Bool.and_eq_true, decide_eq_true_eq] at h
    exact h.1
theorem rowH_lvS (fz : Nat → Bool) : rowH fz (hereB fls ql us least) fls.length = ((List.range fls.length).filter (lvS fls fz ql us least)).map fun (i : Nat) => Value.int .i64 (i : Int) := by
  unfold rowH
  congr 1
  refine List.filter_congr fun i hi => ?_
  unfold lvS
  rw [decide_eq_true (List.mem_range.1 hi), Bool.true_and]
theorem Lps.step (h : Lps N fls.length lvs r) (hN : NtIs N caps fls) (hL : Lev N (fzL lvs) r k (lvS fls (fzL lvs) ql us least)) (h0 : 0 ≤ k) (hU : k ≤ uU) (hd : uV (lvs.length + 1) ∣ k) (hi : ∃ i < N.m, lvS fls (fzL lvs) ql us least i = true)
    (hr : Rp1 uU rate k) (va : Option Addr) (vc : Nat) :
    Lps N fls.length (lvs ++ [⟨rate, va, vc, (List.range fls.length).filter (lvS fls (fzL lvs) ql us least)⟩]) (rS (lvS fls (fzL lvs) ql us least) k r) := by
  have ez : fzL (lvs ++ [⟨rate, va, vc, (List.range fls.length).filter (lvS fls (fzL lvs) ql us least)⟩]) = fzS (fzL lvs) (lvS fls (fzL lvs) ql us least) := by
    rw [fzL_snoc]
    funext i
    unfold setZ fzS
    rw [Bool.or_comm]
    congr 1
    dsimp only
    rw [Bool.eq_iff_iff, decide_eq_true_eq]
    exact mem_lvS i
  refine ⟨?_, ?_, ?_, ?_, ?_⟩
  · rw [ez, List.length_append]
    exact h.f.step hL h0 hU hd (uV_dvd _)
  · obtain ⟨i, hi, hs⟩ := hi
    have h1 := nOpen_step hL hi hs
    have h2 := h.o
    rw [ez, List.length_append]
    simp only [List.length_singleton]
    omega
  · intro i hi hz
    rw [RL_snoc]
    unfold setR rS
    dsimp only
    by_cases hs : lvS fls (fzL lvs) ql us least i = true
    · rw [if_pos ((mem_lvS i).2 hs), if_pos hs]; exact hr
    · rw [if_neg (fun x => hs ((mem_lvS i).1 x)), if_neg hs]
      rw [ez] at hz
      unfold fzS at hz
      have : lvS fls (fzL lvs) ql us least i = false := by simpa using hs
      rw [this, Bool.or_false] at hz
      exact h.r i hi hz
  · intro x hx i hi
    rcases List.mem_append.1 hx with hx | hx
    · exact h.i x hx i hi
    · obtain rfl := List.mem_singleton.1 hx
      exact List.mem_range.1 (List.mem_filter.1 hi).1
  · intro x hx
    rcases List.mem_append.1 hx with hx | hx
    · exact h.n x hx
    · obtain rfl := List.mem_singleton.1 hx
      exact Nat.le_trans (List.length_filter_le _ _) (by rw [List.length_range]; exact Nat.le_refl _)
theorem exists_q (hO : NtOk N) {fz : Nat → Bool} {j : Nat} (hF : Fill N (uV j) uU fz r) (hj : nOpen N fz + j ≤ 5) : ∃ q : Nat → Int, ∀ l < N.L, 0 < opF N fz l → q l * opF N fz l = N.C l - ldF N fz r l ∧ 0 ≤ q l ∧ q l ≤ uU := by
  have h : ∀ l, ∃ x : Int, l < N.L → 0 < opF N fz l → x * opF N fz l = N.C l - ldF N fz r l ∧ 0 ≤ x ∧ x ≤ uU := fun l => by
    by_cases h1 : l < N.L
    · by_cases h2 : 0 < opF N fz l
      · obtain ⟨x, a, b, c, d⟩ := cand_ok hO hF hj h1 h2
        exact ⟨x, fun _ _ => ⟨a, c, d⟩⟩
      · exact ⟨0, fun _ x => absurd x h2⟩
    · exact ⟨0, fun x => absurd x h1⟩
  exact ⟨fun l => Classical.choose (h l), fun l hl ho => Classical.choose_spec (h l) hl ho⟩
end
theorem LwsAt.rebase {wr : World} {b0 b1 : Nat} {v : Value} {lvs : List Lw} (h : LwsAt wr b0 v lvs) (hb : b1 ≤ b0) : LwsAt wr b1 v lvs :=
  ⟨own_rebase h.own hb, fun x hx => by
    obtain ⟨g, h1, h2, h3⟩ := h.rd x hx
    exact ⟨g, h1, Nat.le_trans hb h2, h3⟩⟩
def lenV : Value → Nat
  | .slice _ n _ => n
  | _ => 0
end Go.Proofs.Ytbdaehcngmhhcaa
