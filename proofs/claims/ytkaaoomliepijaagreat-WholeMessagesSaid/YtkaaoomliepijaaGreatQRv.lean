/-
  Gaps plainly: the list of gaps of what a store keeps, and how its pieces lie.
  move's runs: what a store keeps as runs of consecutive bytes.
  move's runs: the walk.
-/
import Derived.Test.YtkaaoomliepijaaGreatQRo
import Derived.Test.YtkaaoomliepijaaGreatQCells
namespace Go.Proofs.YtkaaoomliepijaaGreat
open Go.RowKit
set_option linter.unusedVariables false

/-- What is kept from o on. -/
def fF (F : Nat → Option Int) (o : Nat) : Nat → Option Int := fun x => if x < o then none else F x
theorem fF_all {F : Nat → Option Int} {o : Nat} (h : ∀ x, x < o → F x = none) : fF F o = F := by
  funext x
  unfold fF
  split
  · rename_i c; exact (h x c).symm
  · rfl
theorem fF_at {F : Nat → Option Int} {o x : Nat} (h : o ≤ x) : fF F o x = F x := by unfold fF; rw [if_neg (by omega)]
theorem fF_rm (F : Nat → Option Int) (o n : Nat) : rmF (fF F o) o n = fF F (o + n) := by
  funext x
  unfold rmF fF
  by_cases c1 : o ≤ x ∧ x < o + n
  · rw [if_pos c1, if_pos (by omega)]
  · rw [if_neg c1]
    by_cases c2 : x < o
    · rw [if_pos c2, if_pos (by omega)]
    · rw [if_neg c2, if_neg (by omega)]
theorem rdL_fF (F : Nat → Option Int) (o n : Nat) : rdL (fF F o) o n = rdL F o n := by
  unfold rdL
  refine List.map_congr_left fun i _ => ?_
  rw [fF_at (by omega)]
theorem rdL_get {F : Nat → Option Int} {o n i : Nat} (h : i < n) : (rdL F o n).getD i 0 = (F (o + i)).getD 0 := by
  unfold rdL
  rw [List.getD_eq_getElem?_getD, List.getElem?_map, List.getElem?_range h]
  rfl
/-- The gaps l before kept bytes, from o on; what is kept ends at e. -/
def gOk (F : Nat → Option Int) : Nat → List (Int × Int) → Nat → Prop
  | o, [], e => o ≤ e ∧ ∀ x, o ≤ x → ((F x).isSome = true ↔ x < e)
  | o, pq :: l, e => ∃ P Q : Nat, pq = ((P : Int), (Q : Int)) ∧ o ≤ P ∧ P < Q ∧ (∀ x, o ≤ x → x < P → (F x).isSome = true) ∧ (∀ x, P ≤ x → x < Q → F x = none) ∧ (F Q).isSome = true ∧ gOk F Q l e
def gStep (s : List (Int × Int) × Nat) (x : Int) : List (Int × Int) × Nat := (gpL s.1 s.2 x.toNat, x.toNat + 1)
theorem gFold : ∀ (l : List Int) (ps : List (Int × Int)) (fr : Nat), l.foldl gStep (ps, fr) = (ps ++ (l.foldl gStep ([], fr)).1, (l.foldl gStep ([], fr)).2)
  | [], ps, fr => by simp
  | x :: l, ps, fr => by
    have e1 : gpL ps fr x.toNat = ps ++ gpL [] fr x.toNat := by unfold gpL; split <;> simp
    simp only [List.foldl_cons]
    show l.foldl gStep (gpL ps fr x.toNat, x.toNat + 1) = (ps ++ (l.foldl gStep (gpL [] fr x.toNat, x.toNat + 1)).1, (l.foldl gStep (gpL [] fr x.toNat, x.toNat + 1)).2)
    rw [gFold l (gpL ps fr x.toNat), gFold l (gpL [] fr x.toNat), e1, List.append_assoc]
theorem gOk_of {F : Nat → Option Int} : ∀ (l : List Int) (fr o : Nat), o ≤ fr → (∀ x, o ≤ x → x < fr → (F x).isSome = true) → (∀ x : Nat, fr ≤ x → ((F x).isSome = true ↔ (x : Int) ∈ l)) → l.Pairwise (fun a b : Int => a < b) → (∀ y ∈ l, ∃ i : Nat, y = (i : Int) ∧ fr ≤ i) →
    gOk F o (l.foldl gStep ([], fr)).1 (l.foldl gStep ([], fr)).2
  | [], fr, o, h1, h2, h3, _, _ => ⟨h1, fun x hx => by
    by_cases c : x < fr
    · exact ⟨fun _ => c, fun _ => h2 x hx c⟩
    · have := h3 x (by omega)
      simp only [List.not_mem_nil, iff_false] at this
      exact ⟨fun h => absurd h this, fun h => absurd h c⟩⟩
  | y :: l, fr, o, h1, h2, h3, h4, h5 => by
    obtain ⟨i, rfl, hi⟩ := h5 y (by simp)
    obtain ⟨hy, h4'⟩ := List.pairwise_cons.1 h4
    have hsi : (F i).isSome = true := (h3 i hi).2 (by simp)
    have h5' : ∀ y ∈ l, ∃ j : Nat, y = (j : Int) ∧ i + 1 ≤ j := fun y hm => by
      obtain ⟨j, rfl, -⟩ := h5 y (by simp [hm])
      exact ⟨j, rfl, by have := hy _ hm; omega⟩
    have h3' : ∀ x : Nat, i + 1 ≤ x → ((F x).isSome = true ↔ (x : Int) ∈ l) := fun x hx => by
      rw [h3 x (by omega), List.mem_cons]
      exact ⟨fun h => h.resolve_left (by omega), .inr⟩
    have hno : ∀ x, fr ≤ x → x < i → F x = none := fun x hx hxi => by
      have h := h3 x hx
      cases hf : F x with
      | none => rfl
      | some z =>
        rw [hf] at h
        rcases List.mem_cons.1 (h.1 rfl) with e | e
        · omega
        · have := hy _ e; omega
    simp only [List.foldl_cons]
    show gOk F o (l.foldl gStep (gpL [] fr (i : Int).toNat, (i : Int).toNat + 1)).1 (l.foldl gStep (gpL [] fr (i : Int).toNat, (i : Int).toNat + 1)).2
    rw [Int.toNat_natCast]
    by_cases c : fr < i
    · have e : gpL [] fr i = [((fr : Int), (i : Int))] := by unfold gpL; rw [if_pos c]; rfl
      rw [e, gFold]
      refine ⟨fr, i, rfl, h1, c, h2, hno, hsi, gOk_of l (i + 1) i (by omega) (fun x hx hx2 => ?_) h3' h4' h5'⟩
      rw [show x = i by omega]; exact hsi
    · have e : gpL [] fr i = [] := by unfold gpL; rw [if_neg c]
      rw [e]
      refine gOk_of l (i + 1) o (by omega) (fun x hx hx2 => ?_) h3' h4' h5'
      by_cases c2 : x < fr
      · exact h2 x hx c2
      · rw [show x = i by omega]; exact hsi
theorem gpR_fold (off : Nat) (l : List Int) : gpR off l = l.foldl gStep ([], off) := rfl
theorem gOk_gaps {F : Nat → Option Int} {off : Nat} (h1 : ∀ x, x < off → F x = none) (h2 : ∀ x, (F x).isSome = true → x < 4096) : gOk F off (gpR off (offs F)).1 (gpR off (offs F)).2 := by
  have hp := offs_lt F
  have hm := fun x : Int => offs_mem (F := F) (x := x)
  rw [gpR_fold]
  generalize offs F = l at *
  refine gOk_of l off off (Nat.le_refl _) (fun x a b => by omega) (fun x hx => ?_) hp (fun y hy => ?_)
  · rw [hm]
    constructor
    · intro h; exact ⟨x, h2 x h, h, rfl⟩
    · rintro ⟨i, _, h, e⟩
      have : x = i := by omega
      rw [this]; exact h
  · obtain ⟨i, _, hs, rfl⟩ := (hm y).1 hy
    refine ⟨i, rfl, ?_⟩
    by_cases c : i < off
    · rw [h1 i c] at hs; cases hs
    · omega
theorem gOk_le {F : Nat → Option Int} : ∀ {l : List (Int × Int)} {o e : Nat}, gOk F o l e → o ≤ e
  | [], o, e, h => h.1
  | pq :: l, o, e, ⟨P, Q, _, h1, h2, _, _, _, h⟩ => by have := gOk_le h; omega
theorem cntR_run {G : Nat → Option Int} {o nx : Nat} (h : ∀ x, (G x).isSome = true ↔ o ≤ x ∧ x < nx) (hle : o ≤ nx) : ∀ n, cntR G n + min n o = min n nx
  | 0 => by simp [cntR]
  | n + 1 => by
    have ih := cntR_run h hle n
    unfold cntR
    by_cases c : (G n).isSome = true
    · rw [if_pos c]
      have := (h n).1 c
      omega
    · rw [if_neg c]
      have : ¬ (o ≤ n ∧ n < nx) := fun e => c ((h n).2 e)
      omega
theorem cntR_pos {G : Nat → Option Int} {n x : Nat} (h : (G x).isSome = true) (hx : x < n) : 0 < cntR G n := by
  by_cases c : cntR G n = 0
  · rw [cntR_zero c x hx] at h; cases h
  · omega
/-- After a put of zeros over a gap and its read, what is kept begins behind the gap. -/
theorem putF_gap (F : Nat → Option Int) (d : List Int) (P Q nx : Nat) : rmF (putF (fF F P) P d P Q) P (Q - P) = (if P ≤ Q then fF F Q else rmF (putF (fF F P) P d P Q) P (Q - P)) := by
  by_cases c : P ≤ Q
  · rw [if_pos c]
    funext x
    unfold rmF
    by_cases c1 : P ≤ x ∧ x < P + (Q - P)
    · rw [if_pos c1]; unfold fF; rw [if_pos (by omega)]
    · rw [if_neg c1]
      unfold putF
      rw [if_neg (by omega)]
      unfold fF
      by_cases c2 : x < P
      · rw [if_pos c2, if_pos (by omega)]
      · rw [if_neg c2, if_neg (by omega)]
  · rw [if_neg c]
end Go.Proofs.YtkaaoomliepijaaGreat
namespace Go.Proofs.YtkaaoomliepijaaGreat
open Go.RowKit
set_option linter.unusedVariables false

/-- Within runs: base = the first block after the gaps' row, o = the store's offset, ss = the runs so far. -/
structure RuAt (w wr : World) (base sb mb o nxt : Nat) (F : Nat → Option Int) (v : Value) (ss : List Sgm) (gv : Value) (ps : List (Int × Int)) : Prop where
  r : RnAt wr base (w.heap.size + 1) w.heap.size sb v ss
  s : StAt wr sb mb o nxt (fF F o)
  g : wr.ownsRow (w.heap.size + 2) 145 2 gv ps.length (flP ps)
  gl : ∀ k, gv.ownBlock = some k → k < base
  bb : w.heap.size + 2 ≤ base
  u : Upd (stS sb mb) w wr
  le : o ≤ nxt
  sm : ∀ x, o ≤ x → x < nxt → (F x).isSome = true
  nn : F nxt = none
  tl : ∀ s ∈ ss, 1 ≤ s.d.length ∧ ∀ i, i < s.d.length → F (s.o + i) = some (s.d.getD i 0)
  tc : ∀ x, x < o → (F x).isSome = true → ∃ s ∈ ss, s.o ≤ x ∧ x < s.o + s.d.length
section
variable {w wr w' : World} {base lb tb sb mb o nxt : Nat} {F : Nat → Option Int} {v gv : Value} {ss : List Sgm} {ps : List (Int × Int)} {S : Nat → Prop}
theorem RnAt.upd (h : RnAt w base lb tb sb v ss) (u : Upd S w w') (hs : ∀ k, S k → k < base ∧ k ≠ lb ∧ k ≠ tb) : RnAt w' base lb tb sb v ss :=
  ⟨h.l.upd u (fun e => (hs _ e).2.1 rfl), h.t.upd u (fun e => (hs _ e).2.2 rfl), own_upd h.o u (fun g hg e => by have := own_base h.o hg; have := (hs _ e).1; omega),
    fun s hm => ⟨(h.d s hm).1.upd u (fun k hk e => by have := ((h.d s hm).1.lt hk).1; have := (hs _ e).1; omega), (h.d s hm).2⟩, h.n1, h.n2, h.n3, by have := u.size; have := h.bs; omega⟩
theorem RuAt.bel (h : RuAt w wr base sb mb o nxt F v ss gv ps) (q : Below wr.heap.size wr w') : RuAt w w' base sb mb o nxt F v ss gv ps :=
  ⟨h.r.upd (S := fun _ => False) (Upd.of_below q) (fun _ => False.elim), h.s.below q, own_upd h.g (Upd.of_below (S := fun _ => False) q) (fun _ _ => id), h.gl, h.bb, h.u.then (Upd.of_below (S := fun _ => False) q) (fun _ _ => False.elim), h.le, h.sm, h.nn, h.tl, h.tc⟩
end
theorem run_all (w wr : World) (base sb mb o nxt : Nat) (n : Int) (F : Nat → Option Int) (v gv : Value) (ss : List Sgm) (ps : List (Int × Int)) (h : RuAt w wr base sb mb o nxt F v ss gv ps) (hn : n + o = nxt) (hnx : nxt ≤ 2000) (hsl : ss.length ≤ 5000) (hst : ∀ k, stS sb mb k → k < w.heap.size) :
    Calls Tryz.prog 79 #[.int .i64 n, .pointer (some ⟨w.heap.size + 1, 0, none⟩), .pointer (some ⟨w.heap.size, 0, none⟩)] wr fun e w' => e = .returned (.tuple #[]) ∧ ∃ (v' : Value) (ss' : List Sgm), RuAt w w' base sb mb nxt nxt F v' ss' gv ps ∧ ss'.length ≤ ss.length + 1 ∧
      Upd (fun k => stS sb mb k ∨ k = w.heap.size + 1 ∨ v.ownBlock = some k) wr w' := by
  by_cases c : n = 0
  · subst c
    refine (run_none wr _ _ 0 (by omega)).mono ?_
    rintro e w' ⟨rfl, rfl⟩
    have e1 : o = nxt := by omega
    subst e1
    exact ⟨rfl, v, ss, h, by omega, Upd.refl _ _⟩
  · have hle := h.le
    obtain ⟨m, rfl⟩ : ∃ m : Nat, n = (m : Int) := ⟨n.toNat, by omega⟩
    have hbb := h.bb
    refine (run_some wr base _ _ sb mb o nxt m v ss (fF F o) h.r h.s h.le hnx (by omega) (by omega) hsl (fun k hk => by have := hst k hk; omega)).mono ?_
    rintro e w' ⟨rfl, v', a, cc, h1, h2, h3, h4⟩
    have e1 : min m (nxt - o) = nxt - o := by omega
    rw [e1] at h1 h2
    rw [fF_rm, show o + (nxt - o) = nxt by omega] at h2
    rw [rdL_fF] at h1
    refine ⟨rfl, v', _, ⟨h1, h2, own_upd h.g h3 (fun g hg e => ?_), h.gl, h.bb, h.u.then h3 (fun i hi e => ?_), Nat.le_refl _, fun x h1 h2 => by omega, h.nn, ?_, ?_⟩, by simp, h3⟩
    · have b1 := own_base h.g hg
      have b2 := h.gl g hg
      rcases e with e | e | e
      · have := hst g e; omega
      · omega
      · have := own_base h.r.o e; omega
    · rcases e with e | e | e
      · exact e
      · omega
      · have := own_base h.r.o e; omega
    · intro s hs
      rcases List.mem_append.1 hs with hs | hs
      · exact h.tl s hs
      · simp only [List.mem_cons, List.not_mem_nil, or_false] at hs
        subst hs
        refine ⟨by rw [rdL_len]; omega, fun i hi => ?_⟩
        rw [rdL_len] at hi
        rw [rdL_get hi]
        have := h.sm (o + i) (by omega) (by omega)
        show F (o + i) = _
        cases hf : F (o + i) with
        | none => rw [hf] at this; cases this
        | some z => rfl
    · intro x hx hs
      by_cases c2 : x < o
      · obtain ⟨s, hm, h5⟩ := h.tc x c2 hs
        exact ⟨s, List.mem_append_left _ hm, h5⟩
      · exact ⟨⟨o, a, cc, rdL F o (nxt - o)⟩, List.mem_append_right _ (by simp), by show o ≤ x; omega, by show x < o + (rdL F o (nxt - o)).length; rw [rdL_len]; omega⟩
/-- Between the put of zeros over a gap and its read. -/
structure RpAt (w wr : World) (base sb mb P Q nx : Nat) (F : Nat → Option Int) (v : Value) (ss : List Sgm) (gv : Value) (ps : List (Int × Int)) : Prop where
  r : RnAt wr base (w.heap.size + 1) w.heap.size sb v ss
  s : ∃ d, StAt wr sb mb P nx (putF (fF F P) P d P Q)
  g : wr.ownsRow (w.heap.size + 2) 145 2 gv ps.length (flP ps)
  gl : ∀ k, gv.ownBlock = some k → k < base
  bb : w.heap.size + 2 ≤ base
  u : Upd (stS sb mb) w wr
  le : Q ≤ nx
  pq : P < Q
  sm : ∀ x, Q ≤ x → x < nx → (F x).isSome = true
  nn : F nx = none
  gap : ∀ x, P ≤ x → x < Q → F x = none
  tl : ∀ s ∈ ss, 1 ≤ s.d.length ∧ ∀ i, i < s.d.length → F (s.o + i) = some (s.d.getD i 0)
  tc : ∀ x, x < P → (F x).isSome = true → ∃ s ∈ ss, s.o ≤ x ∧ x < s.o + s.d.length
theorem ru_put (w wr : World) (base sb mb P Q c : Nat) (a : Option Addr) (F : Nat → Option Int) (v gv : Value) (ss : List Sgm) (ps : List (Int × Int)) (h : RuAt w wr base sb mb P P F v ss gv ps) (hpq : P < Q) (hq : Q ≤ 2000) (hq2 : Q ≤ P + 24) (hgap : ∀ x, P ≤ x → x < Q → F x = none) (hF : ∀ x, (F x).isSome = true → x < 2000) (hst : ∀ k, stS sb mb k → k < w.heap.size)
    (hd : Sl (Value.int .u8) wr a (List.replicate (Q - P) (0 : Int))) (hda : w.heap.size ≤ (a.getD default).block) :
    Calls Tryz.prog 57 #[.pointer (some ⟨sb, 0, none⟩), .agg #[.int .i64 P, .slice a (Q - P : Nat) c, .bool false]] wr fun e w' => ∃ x : Int, e = .returned (.tuple #[.int .i64 x, .int .i64 0]) ∧ (∃ nx, nx ≤ 2000 ∧ RpAt w w' base sb mb P Q nx F v ss gv ps) ∧ Upd (stS sb mb) wr w' := by
  have hFn : ∀ x, 2000 ≤ x → F x = none := fun x hx => by
    cases hf : F x with
    | none => rfl
    | some z => have := hF x (by rw [hf]; rfl); omega
  have Pt := put_st wr sb mb P P P c a (fF F P) (List.replicate (Q - P) (0 : Int)) h.s hd (fun x hx => by obtain ⟨_, rfl⟩ := List.mem_replicate.1 hx; omega) (by omega) (by rw [List.length_replicate]; omega) (by omega) (by omega)
    (fun x hx => by
      unfold fF at hx
      by_cases c1 : x < P
      · omega
      · rw [if_neg c1] at hx; have := hF x hx; omega)
    (fun x y hxy h1 h2 h3 => by rw [List.length_replicate] at h2; rw [fF_at h1, hgap x h1 (by omega)] at hxy; cases hxy)
    (fun k' hk' _ e => by have := hst k' hk'; omega)
  rw [List.length_replicate] at Pt
  refine Pt.mono ?_
  rintro e w' ⟨x, he, nx, h1, h2, h3, h4, h5⟩
  rw [List.length_replicate, show max P P = P by omega, show min (P + (Q - P)) (P + 24) = Q by omega] at h1 h3 h4
  have hbb := h.bb
  have hQn : Q ≤ nx := by
    by_cases c1 : nx < Q
    · unfold putF at h3; rw [if_pos ⟨h2, c1⟩] at h3; cases h3
    · omega
  have hput : ∀ x, Q ≤ x → putF (fF F P) P (List.replicate (Q - P) (0 : Int)) P Q x = F x := fun x hx => by
    unfold putF; rw [if_neg (by omega), fF_at (by omega)]
  refine ⟨x, he, ⟨nx, ?_, h.r.upd h5 (fun k hk => by have := hst k hk; omega), ⟨_, h1⟩, own_upd h.g h5 (fun g hg e => by have := own_base h.g hg; have := hst g e; omega), h.gl, h.bb, h.u.then h5 (fun _ _ e => e), hQn, hpq, fun x hx hx2 => ?_, ?_, hgap, h.tl, h.tc⟩, h5⟩
  · by_cases c1 : nx ≤ 2000
    · exact c1
    · have := h4 2000 (by omega) (by omega)
      rw [hput 2000 hq, hFn 2000 (by omega)] at this
      cases this
  · have := h4 x (by omega) hx2
    rwa [hput x hx] at this
  · have := hput nx hQn
    rw [← this]
    cases hf : putF (fF F P) P (List.replicate (Q - P) (0 : Int)) P Q nx with
    | none => rfl
    | some z => rw [hf] at h3; cases h3
theorem ru_read (w wr : World) (base sb mb P Q nx : Nat) (F : Nat → Option Int) (v gv : Value) (ss : List Sgm) (ps : List (Int × Int)) (h : RpAt w wr base sb mb P Q nx F v ss gv ps) (hnx : nx ≤ 2000) (hst : ∀ k, stS sb mb k → k < w.heap.size) :
    Calls Tryz.prog 58 #[.pointer (some ⟨sb, 0, none⟩), .int .i64 (Q - P : Nat)] wr fun e w' => ∃ x, e = .returned x ∧ RuAt w w' base sb mb Q nx F v ss gv ps ∧ Upd (stS sb mb) wr w' := by
  obtain ⟨d, hs⟩ := h.s
  have hpq := h.pq
  have hle := h.le
  have hbb := h.bb
  refine (read_st wr sb mb P nx (Q - P) _ hs (by omega) hnx (by omega) (by omega)).mono ?_
  rintro e w' ⟨x, rfl, -, h2, h3⟩
  rw [show min (Q - P) (nx - P) = Q - P by omega, putF_gap F d P Q nx, if_pos (by omega), show P + (Q - P) = Q by omega] at h2
  refine ⟨x, rfl, ⟨h.r.upd h3 (fun k hk => by have := hst k hk; omega), h2, own_upd h.g h3 (fun g hg e => by have := own_base h.g hg; have := hst g e; omega), h.gl, h.bb, h.u.then h3 (fun _ _ e => e), hle, h.sm, h.nn, h.tl, fun x hx hs => ?_⟩, h3⟩
  by_cases c1 : x < P
  · exact h.tc x c1 hs
  · rw [h.gap x (by omega) hx] at hs; cases hs
theorem ru_held (w wr : World) (base sb mb o nxt : Nat) (F : Nat → Option Int) (v gv : Value) (ss : List Sgm) (ps : List (Int × Int)) (h : RuAt w wr base sb mb o nxt F v ss gv ps) (hF : ∀ x, (F x).isSome = true → x < 2000) :
    Calls Tryz.prog 81 #[.pointer (some ⟨sb, 0, none⟩)] wr fun e w' => ∃ n : Nat, e = .returned (.int .i64 n) ∧ wr = w' ∧ ((∃ x, o ≤ x ∧ (F x).isSome = true) → 0 < n) ∧ ((∀ x, nxt ≤ x → F x = none) → nxt ≤ 4096 → n = nxt - o) := by
  refine (held_any wr sb mb o nxt _ h.s).mono ?_
  rintro e w' ⟨rfl, rfl⟩
  refine ⟨_, rfl, rfl, fun ⟨x, h1, h2⟩ => ?_, fun hn hnx => ?_⟩
  · exact cntR_pos (x := x) (by rw [fF_at h1]; exact h2) (by have := hF x h2; omega)
  · have := cntR_run (G := fF F o) (o := o) (nx := nxt) (fun x => ?_) h.le 4096
    · have := h.le; omega
    · unfold fF
      by_cases c1 : x < o
      · rw [if_pos c1]; constructor
        · intro h; cases h
        · omega
      · rw [if_neg c1]
        constructor
        · intro hx
          refine ⟨by omega, ?_⟩
          by_cases c2 : x < nxt
          · exact c2
          · rw [hn x (by omega)] at hx; cases hx
        · rintro ⟨a, b⟩; exact h.sm x a b
end Go.Proofs.YtkaaoomliepijaaGreat
namespace Go.Proofs.YtkaaoomliepijaaGreat
open Go.RowKit
set_option linter.unusedVariables false

def RvRel (w : World) (base sb mb : Nat) (F : Nat → Option Int) (gv : Value) (ps : List (Int × Int)) (e off : Nat) (ix : Value) (wr : World) : Prop :=
  ∃ (k o nxt : Nat) (v : Value) (ss : List Sgm), k ≤ ps.length ∧ ix = .int .i64 k ∧ ss.length ≤ k ∧ nxt ≤ 2000 ∧ off ≤ o ∧ Hid (gOk F o (ps.drop k) e) ∧ Hid (RuAt w wr base sb mb o nxt F v ss gv ps)
/-- A round's gap. -/
theorem rv_gap {w wr : World} {base sb mb o nxt k e g c : Nat} {F : Nat → Option Int} {v : Value} {ss : List Sgm} {ps : List (Int × Int)} (hk : k < ps.length) (G : gOk F o (ps.drop k) e) (T : RuAt w wr base sb mb o nxt F v ss (.slice (some ⟨g, 0, none⟩) ps.length c) ps) :
    ∃ Q : Nat, nxt < Q ∧ (∀ x, nxt ≤ x → x < Q → F x = none) ∧ (F Q).isSome = true ∧ gOk F Q (ps.drop (k + 1)) e ∧ wr.cell? ⟨g, k * 2, none⟩ = some (.int .i64 nxt) ∧ wr.cell? ⟨g, k * 2 + 1, none⟩ = some (.int .i64 Q) := by
  have hd : ps.drop k = ps[k] :: ps.drop (k + 1) := List.drop_eq_getElem_cons hk
  rw [hd] at G
  obtain ⟨P, Q, hp, h1, h2, h3, h4, h5, h6⟩ := G
  have e1 : P = nxt := by
    have hle := T.le
    by_cases c1 : P < nxt
    · have := T.sm P h1 c1; rw [h4 P (Nat.le_refl _) h2] at this; cases this
    · by_cases c2 : nxt < P
      · have := h3 nxt hle c2; rw [T.nn] at this; cases this
      · omega
  subst e1
  have hg : ps[k]? = some ((P : Int), (Q : Int)) := by rw [List.getElem?_eq_getElem hk, hp]
  obtain ⟨f1, f2⟩ := flP_get hg
  have A := ownC_all T.g
  have a1 := (A _ _ f1).2
  have a2 := (A _ _ f2).2
  rw [adr_mk, Nat.zero_add] at a1 a2
  exact ⟨Q, h2, h4, h5, h6, a1, a2⟩
theorem gap_cells (w : World) (P Q : Int) : Blk (w.alloc (.cells #[.int .i64 P, .int .i64 Q] 145)) w.heap.size 145 [.int .i64 P, .int .i64 Q] := Blk.new w 145 [.int .i64 P, .int .i64 Q]
set_option maxHeartbeats 8000000 in
set_option maxRecDepth 100000 in
theorem runs_any (w : World) (sb mb off nxt : Nat) (F : Nat → Option Int) (h : StAt w sb mb off nxt F) (hle : off ≤ nxt) (hsm : ∀ x, off ≤ x → x < nxt → (F x).isSome = true) (hnn : F nxt = none) (hF : ∀ x, (F x).isSome = true → x < 2000) (hF2 : ∀ x, (F x).isSome = true → x < off + 24) (hlo : ∀ x, x < off → F x = none) (hoff : off ≤ 1976) :
    Calls Tryz.prog 72 #[.pointer (some ⟨sb, 0, none⟩)] w fun e w' => ∃ (v : Value) (ss : List Sgm), e = .returned v ∧ ss.length ≤ 4100 ∧ w'.ownsRow (w.heap.size + 2) 67 3 v ss.length (flS ss) ∧
      (∀ s ∈ ss, Rw (Value.int .u8) 5 w' (w.heap.size + 2) (.slice s.a s.d.length s.c) s.d) ∧
      (∀ s ∈ ss, 1 ≤ s.d.length ∧ ∀ i, i < s.d.length → F (s.o + i) = some (s.d.getD i 0)) ∧ (∀ x, (F x).isSome = true → ∃ s ∈ ss, s.o ≤ x ∧ x < s.o + s.d.length) ∧ Upd (stS sb mb) w w' := by
  have H := Lib.hid h
  have hst : Hid (∀ k, stS sb mb k → k < w.heap.size) := fun k hk => h.lt hk
  have GA := Lib.hid (fun w' (q : Below w.heap.size w w') => gaps_any w' sb mb off nxt F (h.below q))
  have G0 := Lib.hid (gOk_gaps (F := F) (off := off) hlo (fun x hx => by have := hF x hx; omega))
  have HF := Lib.hid hF
  have HF2 := Lib.hid hF2
  have HS := Lib.hid hsm
  have HN := Lib.hid hnn
  have HL := Lib.hid hlo
  have hnx : nxt ≤ off + 24 := by
    by_cases c : off + 24 < nxt
    · have := hF2 (off + 24) (hsm _ (by omega) c); omega
    · omega
  have hgl : (gpR off (offs F)).1.length ≤ 4096 := Nat.le_trans (gpR_len off (offs F)) (offs_len F)
  generalize (gpR off (offs F)).1 = ps at *
  generalize (gpR off (offs F)).2 = en at *
  clear h hF hF2 hsm hnn hlo
  go_enter Tryz.func72, Tryz.ntmps72
  go_wp2_with fail
  have B2 : Hid (Below w.heap.size w ((w.alloc (.cells #[.pointer (some ⟨sb, 0, none⟩)] 59)).alloc (.cells #[.slice none 0 0] 106))) := below_then (alloc_belQ _ _) (alloc_belQ _ _) (by simp)
  have T2 : Hid (Blk ((w.alloc (.cells #[.pointer (some ⟨sb, 0, none⟩)] 59)).alloc (.cells #[.slice none 0 0] 106)) w.heap.size 59 [.pointer (some ⟨sb, 0, none⟩)]) := (Blk.new w 59 [.pointer (some ⟨sb, 0, none⟩)]).bel (alloc_belQ _ _)
  have L2 : Hid (Blk ((w.alloc (.cells #[.pointer (some ⟨sb, 0, none⟩)] 59)).alloc (.cells #[.slice none 0 0] 106)) (w.heap.size + 1) 106 [.slice none 0 0]) := by
    have := Blk.new (w.alloc (.cells #[.pointer (some ⟨sb, 0, none⟩)] 59)) 106 [.slice none 0 0]
    rwa [show (w.alloc (.cells #[.pointer (some ⟨sb, 0, none⟩)] 59)).heap.size = w.heap.size + 1 by simp] at this
  have Z2 : Hid (((w.alloc (.cells #[.pointer (some ⟨sb, 0, none⟩)] 59)).alloc (.cells #[.slice none 0 0] 106)).heap.size = w.heap.size + 2) := by show _ = _; simp
  generalize (w.alloc (.cells #[.pointer (some ⟨sb, 0, none⟩)] 59)).alloc (.cells #[.slice none 0 0] 106) = w2 at *
  refine (GA.out _ B2.out).mono ?_
  rintro e w3 ⟨gv, rfl, hrow, hB3⟩
  rw [Z2.out] at hrow
  have hz3 : w.heap.size + 2 ≤ w3.heap.size := by rw [← Z2.out]; exact hB3.size
  have T0 : Hid (RuAt w w3 w3.heap.size sb mb off nxt F (.slice none 0 0) [] gv ps) := ⟨⟨L2.out.bel hB3, T2.out.bel hB3, World.ownsRow_nil _ _ _ _, (fun s hs => by cases hs), by omega, by omega, by omega, Nat.le_refl _⟩,
    by rw [fF_all HL.out]; exact (H.out.below B2.out).below hB3, own_rebase hrow (by omega), fun k hk => (own_lt hrow hk).1, hz3, (Upd.of_below B2.out).then (Upd.of_below (S := fun _ => False) hB3) (fun _ _ => False.elim), hle, HS.out, HN.out, (fun s hs => by cases hs), fun x hx hs => by rw [HL.out x hx] at hs; cases hs⟩
  obtain ⟨ga, gc, rfl, hg0⟩ := own_shape hrow
  generalize hbs : w3.heap.size = base at *
  have c3 := T0.out.r.t.cell (i := 0) rfl
  clear hrow hB3 GA B2 T2 L2 Z2 H HS HN hbs
  go_wp2_with fail
  go_loopw [12] (fun ix wr => RvRel w base sb mb F (.slice ga ps.length gc) ps en off ix wr) (fun ix _ => ps.length - (intOf ix).toNat)
  case atStart => exact ⟨0, off, nxt, _, [], Nat.zero_le _, rfl, Nat.le_refl _, by omega, Nat.le_refl _, G0, T0⟩
  case round =>
    clear T0 G0 c3
    obtain ⟨k, o, nx, v, ss, hk, rfl, hsl, hnx2, hoo, G, T⟩ := hrel
    by_cases hkn : k < ps.length
    · rcases hg0 with e0 | ⟨g, rfl⟩
      · omega
      obtain ⟨Q, hnQ, hgap, hsQ, G2, cg1, cg2⟩ := rv_gap hkn G.out T.out
      have cT := T.out.r.t.cell (i := 0) rfl
      have OF := Lib.hid (fun w' (q : Below wr.heap.size wr w') => offset_any w' sb mb o nx _ (T.out.s.below q))
      have RN := Lib.hid (fun w' (q : Below wr.heap.size wr w') => run_all w w' base sb mb o nx ((nx : Int) - o) F v _ ss ps (T.out.bel q) (by omega) hnx2 (by omega) hst.out)
      replace G := Lib.hid G2
      replace hgap := Lib.hid hgap
      replace hsQ := Lib.hid hsQ
      clear G2
      have T6 := Lib.hid (T.out.bel (alloc_belQ wr (.cells #[.int .i64 nx, .int .i64 Q] 145)))
      have cT6 := T6.out.r.t.cell (i := 0) rfl
      have G6 := Lib.hid (gap_cells wr nx Q)
      have c6 := G6.out.cell (i := 0) rfl
      have hvb := Lib.hid (fun k' (hk' : v.ownBlock = some k') => (own_lt T.out.r.o hk').1)
      have hbz := T.out.r.bs
      have hwb := T.out.bb
      have hrz := T.out.r.t.lt
      have hle6 := T.out.le
      have ew6 : IntKind.i64.wrap ((nx : Int) - (o : Int)) = (nx : Int) - (o : Int) := IntWalk.i64_in _ (by omega)
      clear T T6
      go_upto_region 6 with (fail)
      refine wp_region_allH (fun wx => wx.cell? ⟨w.heap.size, 0, none⟩ = some (.pointer (some ⟨sb, 0, none⟩)) ∧ wx.cell? ⟨wr.heap.size, 0, none⟩ = some (.int .i64 nx)) 7 (by kernel_rfl) rfl ?_ (fun hHeld => ?_)
      · (exact ⟨cT6, c6⟩)
      refine wpAnyH_takeG (i := 0) (v := ?_) rfl (by kernel_rfl) (by kernel_rfl) (by kernel_rfl) (fun _ _ _ h => h) rfl ?_ hHeld ?_
      rotate_left
      · intro w hSw
        try dsimp only at hSw
        go_simp
        all_goals with_reducible rfl
      try simp only [Act.put, List.setIfInBounds_toArray, List.set_cons_zero, List.set_cons_succ]
      refine wpAnyH_takeG (i := 1) (v := ?_) rfl (by kernel_rfl) (by kernel_rfl) (by kernel_rfl) (fun _ _ _ h => h) rfl ?_ hHeld ?_
      rotate_left
      · intro w hSw
        try dsimp only at hSw
        go_simp
        all_goals with_reducible rfl
      try simp only [Act.put, List.setIfInBounds_toArray, List.set_cons_zero, List.set_cons_succ]
      refine wpAnyH_takeG (i := 2) (v := ?_) rfl (by kernel_rfl) (by kernel_rfl) (by kernel_rfl) (fun _ _ _ h => h) rfl ?_ hHeld ?_
      rotate_left
      · intro w hSw
        try dsimp only at hSw
        go_simp
        all_goals with_reducible rfl
      try simp only [Act.put, List.setIfInBounds_toArray, List.set_cons_zero, List.set_cons_succ]
      refine wpAnyH_takeG (i := 3) (v := ?_) rfl (by kernel_rfl) (by kernel_rfl) (by kernel_rfl) (fun _ _ _ h => h) rfl ?_ hHeld ?_
      rotate_left
      · intro w hSw
        try dsimp only at hSw
        go_simp
        all_goals with_reducible rfl
      try simp only [Act.put, List.setIfInBounds_toArray, List.set_cons_zero, List.set_cons_succ]
      refine wpAnyH_step (i := 4) (by kernel_rfl) rfl (fun KK hK => ?_)
      (go_simp; refine (OF.out _ ?_).mono ?_; (· (repeat' (first | with_reducible assumption | with_reducible exact Below.refl _ _ | with_reducible refine Below.drewQ ?_ | with_reducible refine Below.drewNQ ?_ _ | with_reducible refine Below.setCell ?_ (by dsimp only; omega) _ | with_reducible refine Below.alloc ?_ (by first | omega | (simp; done) | (simp; omega)) _))); rintro e w5 ⟨rfl, hw⟩; subst hw; go_wp2_with fail)
      refine hK.out _ _ ?_ (fun hHeld => ?_)
      · (first | exact ⟨cT6, c6⟩ | exact ⟨cT7, c70⟩)
      clear hK KK
      try simp only [Act.put, List.setIfInBounds_toArray, List.set_cons_zero, List.set_cons_succ]
      refine wpAnyH_takeG (i := 5) (v := ?_) rfl (by kernel_rfl) (by kernel_rfl) (by kernel_rfl) (fun _ _ _ h => h) rfl ?_ hHeld ?_
      rotate_left
      · intro w hSw
        try dsimp only at hSw
        go_simp
        all_goals with_reducible rfl
      try simp only [Act.put, List.setIfInBounds_toArray, List.set_cons_zero, List.set_cons_succ]
      refine wpAnyH_step (i := 6) (by kernel_rfl) rfl (fun KK hK => ?_)
      (go_simp; refine (RN.out _ ?_).mono ?_; (· (repeat' (first | with_reducible assumption | with_reducible exact Below.refl _ _ | with_reducible refine Below.drewQ ?_ | with_reducible refine Below.drewNQ ?_ _ | with_reducible refine Below.setCell ?_ (by dsimp only; omega) _ | with_reducible refine Below.alloc ?_ (by first | omega | (simp; done) | (simp; omega)) _))); rintro e w7 ⟨rfl, v7, ss7, hT7, hl7, hU7⟩; have B7 := Lib.hid (Blk.upd G6.out.drew hU7 (fun e => by rcases e with e | e | e; (have := hst.out _ e; omega); omega; (have := hvb.out _ e; omega))); have T7 := Lib.hid hT7; have cT7 := hT7.r.t.cell (i := 0) rfl; have c70 := B7.out.cell (i := 0) rfl; have c71 := B7.out.cell (i := 1) rfl; have hz7 := hU7.size; clear hT7 hU7; go_wp2_with fail)
      refine hK.out _ _ ?_ (fun hHeld => ?_)
      · (first | exact ⟨cT6, c6⟩ | exact ⟨cT7, c70⟩)
      clear hK KK
      try simp only [Act.put, List.setIfInBounds_toArray, List.set_cons_zero, List.set_cons_succ]
      refine wpAnyH_done (by kernel_rfl) ?_ _
      have HE := Lib.hid (fun w' (q : Below w7.heap.size w7 w') => ru_held w w' base sb mb nx nx F v7 _ ss7 ps (T7.out.bel q) HF.out)
      have h0 : Hid (∃ x, nx ≤ x ∧ (F x).isSome = true) := ⟨Q, by omega, hsQ.out⟩
      have hQ : Q ≤ off + 24 ∧ Q < 2000 ∧ off ≤ o := ⟨by have := HF2.out Q hsQ.out; omega, HF.out Q hsQ.out, hoo⟩
      have hz8 : w.heap.size ≤ w7.heap.size := by have := T7.out.r.bs; omega
      have MK := fun w' => make_zeros w' (Q - nx) (by omega)
      have PT := Lib.hid (fun w' b (q : Below w7.heap.size w7 w') (hb : w7.heap.size ≤ b) (hd : Sl (Value.int .u8) w' (some ⟨b, 0, none⟩) (List.replicate (Q - nx) (0 : Int))) => ru_put w w' base sb mb nx Q (Q - nx) (some ⟨b, 0, none⟩) F v7 _ ss7 ps (T7.out.bel q) hnQ (by omega) (by omega) hgap.out HF.out hst.out hd (by simp; omega))
      have eQ : IntKind.i64.wrap ((Q : Int) - (nx : Int)) = ((Q - nx : Nat) : Int) := by rw [IntWalk.i64_in _ (by omega)]; omega
      clear OF RN cT6 c6 G6
      go_wp2_with fail
      refine (HE.out _ (Below.refl _ _)).mono ?_
      rintro e w8 ⟨n8, rfl, hw8, hn8, -⟩
      subst hw8
      have e8 : ¬ (n8 : Int) = 0 := by have := hn8 h0.out; omega
      clear hn8 HE
      go_wp2_with fail
      go_upto_region 9 with (fail)
      refine wp_region_allH (fun wx => wx.cell? ⟨w.heap.size, 0, none⟩ = some (.pointer (some ⟨sb, 0, none⟩)) ∧ wx.cell? ⟨wr.heap.size, 0, none⟩ = some (.int .i64 nx)) 7 (by kernel_rfl) rfl ?_ (fun hHeld => ?_)
      · (exact ⟨cT7, c70⟩)
      refine wpAnyH_takeG (i := 0) (v := ?_) rfl (by kernel_rfl) (by kernel_rfl) (by kernel_rfl) (fun _ _ _ h => h) rfl ?_ hHeld ?_
      rotate_left
      · intro w hSw
        try dsimp only at hSw
        go_simp
        all_goals with_reducible rfl
      try simp only [Act.put, List.setIfInBounds_toArray, List.set_cons_zero, List.set_cons_succ]
      refine wpAnyH_takeG (i := 1) (v := ?_) rfl (by kernel_rfl) (by kernel_rfl) (by kernel_rfl) (fun _ _ _ h => h) rfl ?_ hHeld ?_
      rotate_left
      · intro w hSw
        try dsimp only at hSw
        go_simp
        all_goals with_reducible rfl
      try simp only [Act.put, List.setIfInBounds_toArray, List.set_cons_zero, List.set_cons_succ]
      refine wpAnyH_takeG (i := 2) (v := ?_) rfl (by kernel_rfl) (by kernel_rfl) (by kernel_rfl) (fun _ _ _ h => h) rfl ?_ hHeld ?_
      rotate_left
      · intro w hSw
        try dsimp only at hSw
        go_simp
        all_goals with_reducible rfl
      try simp only [Act.put, List.setIfInBounds_toArray, List.set_cons_zero, List.set_cons_succ]
      refine wpAnyH_takeG (i := 3) (v := ?_) rfl (by kernel_rfl) (by kernel_rfl) (by kernel_rfl) (fun _ _ _ h => h) rfl ?_ hHeld ?_
      rotate_left
      · intro w hSw
        try dsimp only at hSw
        go_simp
        all_goals with_reducible rfl
      try simp only [Act.put, List.setIfInBounds_toArray, List.set_cons_zero, List.set_cons_succ]
      refine wpAnyH_step (i := 4) (by kernel_rfl) rfl (fun KK hK => ?_)
      (go_simp)
      refine hK.out _ _ ?_ (fun hHeld => ?_)
      · (first | exact ⟨cT7, c70⟩ | exact ⟨(T7.out.r.t.bel (alloc_belQ _ _)).cell rfl, (B7.out.bel (alloc_belQ _ _)).cell rfl⟩ | exact ⟨cT9, c90⟩)
      clear hK KK
      try simp only [Act.put, List.setIfInBounds_toArray, List.set_cons_zero, List.set_cons_succ]
      refine wpAnyH_takeG (i := 5) (v := ?_) rfl (by kernel_rfl) (by kernel_rfl) (by kernel_rfl) (fun _ _ _ h => h) rfl ?_ hHeld ?_
      rotate_left
      · intro w hSw
        try dsimp only at hSw
        go_simp
        all_goals with_reducible rfl
      try simp only [Act.put, List.setIfInBounds_toArray, List.set_cons_zero, List.set_cons_succ]
      refine wpAnyH_step (i := 6) (by kernel_rfl) rfl (fun KK hK => ?_)
      (go_simp; refine (PT.out _ _ ?_ ?_ (zeros_slQ _ _)).mono ?_; (· (repeat' (first | with_reducible assumption | with_reducible exact Below.refl _ _ | with_reducible refine Below.drewQ ?_ | with_reducible refine Below.drewNQ ?_ _ | with_reducible refine Below.setCell ?_ (by dsimp only; omega) _ | with_reducible refine Below.alloc ?_ (by first | omega | (simp; done) | (simp; omega)) _))); (· simp); rintro e w9 ⟨x9, rfl, ⟨nx9, hn9, hT9⟩, hU9⟩; have T9 := Lib.hid hT9; have cT9 := hT9.r.t.cell (i := 0) rfl; have B9 := Lib.hid ((Blk.bel B7.out (by (repeat' (first | with_reducible assumption | with_reducible exact Below.refl _ _ | with_reducible refine Below.drewQ ?_ | with_reducible refine Below.drewNQ ?_ _ | with_reducible refine Below.setCell ?_ (by dsimp only; omega) _ | with_reducible refine Below.alloc ?_ (by first | omega | (simp; done) | (simp; omega)) _)))).upd hU9 (fun e => by have := hst.out _ e; omega)); have c90 := B9.out.cell (i := 0) rfl; clear hT9 hU9; go_wp2_with fail)
      refine hK.out _ _ ?_ (fun hHeld => ?_)
      · (first | exact ⟨cT7, c70⟩ | exact ⟨(T7.out.r.t.bel (alloc_belQ _ _)).cell rfl, (B7.out.bel (alloc_belQ _ _)).cell rfl⟩ | exact ⟨cT9, c90⟩)
      clear hK KK
      try simp only [Act.put, List.setIfInBounds_toArray, List.set_cons_zero, List.set_cons_succ]
      refine wpAnyH_done (by kernel_rfl) ?_ _
      have RD := Lib.hid (ru_read w w9 base sb mb nx Q nx9 F v7 _ ss7 ps T9.out hn9 hst.out)
      clear PT MK B7 B9 cT7 c70 c71 c90 T7
      go_wp2_with fail
      refine RD.out.mono ?_
      rintro e w10 ⟨x10, rfl, hT10, -⟩
      have T10 := Lib.hid hT10
      clear hT10 RD T9 cT9
      go_wp2_with fail
      go_roundw
      case rel => exact ⟨k + 1, Q, nx9, v7, ss7, by omega, by go_num, by omega, hn9, by omega, G, T10⟩
      case measure => simp [intOf]; omega
    · have hk2 : k = ps.length := by omega
      subst hk2
      have hle7 := T.out.le
      have Gd := G.out
      rw [List.drop_length] at Gd
      have hn9 : Hid (∀ x, nx ≤ x → F x = none) := fun x hx => by
        have h1 := (Gd.2 nx hle7)
        have h2 := (Gd.2 x (by omega))
        rw [T.out.nn] at h1
        cases hf : F x with
        | none => rfl
        | some z => rw [hf] at h2; have h3 := h2.1 rfl; have h4 := h1.2 (by omega); cases h4
      have cT := T.out.r.t.cell (i := 0) rfl
      have HE := Lib.hid (ru_held w wr base sb mb o nx F v _ ss ps T.out HF.out)
      have RN := Lib.hid (fun (n : Nat) (hn : n = nx - o) => run_all w wr base sb mb o nx (n : Int) F v _ ss ps T.out (by omega) hnx2 (by omega) hst.out)
      clear Gd G
      go_wp2_with fail
      refine HE.out.mono ?_
      rintro e w8 ⟨n8, rfl, hw8, -, hn8⟩
      subst hw8
      replace hn8 := Lib.hid (hn8 hn9.out (by omega))
      clear HE
      go_wp2_with fail
      refine (RN.out n8 hn8.out).mono ?_
      rintro e w9 ⟨rfl, v9, ss9, hT9, hl9, -⟩
      have T9 := Lib.hid hT9
      have cL := hT9.r.l.cell (i := 0) rfl
      clear hT9 RN cT T
      go_wp2_with fail
      go_ret
      have hbb := T9.out.bb
      exact ⟨v9, ss9, rfl, by omega, own_rebase T9.out.r.o hbb, fun s hs => (T9.out.r.d s hs).1.low hbb, T9.out.tl, fun x hx => T9.out.tc x (by
        by_cases c : x < nx
        · exact c
        · rw [hn9.out x (by omega)] at hx; cases hx) hx, T9.out.u⟩
end Go.Proofs.YtkaaoomliepijaaGreat
