/-
  What CrossbarSaturates asks: rounds on requests that are alike, the list of all requests in memory, the set of the pairs.
-/
import Derived.Test.YtldgpdgoccccpaaBarNo
import Derived.Test.YtldgpdgoccccpaaLawFills
import Derived.Maps.OwnSet
import Derived.Maps.Views
import Derived.DeepKeys4
import Derived.Carry
namespace Go.Proofs.Ytldgpdgoccccpaa
open Go.RowKit
set_option linter.unusedVariables false

theorem accN_congr {n : Nat} (adv : Bool) {gr gr' : Nat → Int} {s : Bar.St} (h : ∀ k < n, gr k = gr' k) (ha : ∀ i < n, s.a i < n) : ∀ j ≤ n, Bar.accN n adv gr s j = Bar.accN n adv gr' s j
  | 0, _ => rfl
  | j + 1, hj => by
    have ih := accN_congr adv h ha j (by omega)
    have e : Bar.kkv n gr (Bar.accN n adv gr' s j).a j = Bar.kkv n gr' (Bar.accN n adv gr' s j).a j := by
      refine fst_congr (fun x hx => by rw [h x hx]) ?_
      rw [(Bar.accN_spec n adv gr' s ha j (by omega)).a j]
      simp only [Nat.lt_irrefl, false_and, and_false, if_false]
      exact ha j (by omega)
    show Bar.accS n adv gr (Bar.accN n adv gr s j) j = Bar.accS n adv gr' (Bar.accN n adv gr' s j) j
    rw [ih]
    unfold Bar.accS
    rw [e]
theorem round_congr {req req' : Nat → Nat → Bool} {n : Nat} (adv : Bool) {s : Bar.St} (h : ∀ i < n, ∀ k < n, req i k = req' i k) (hg : ∀ k < n, s.g k < n) (ha : ∀ i < n, s.a i < n) : Bar.round req n adv s = Bar.round req' n adv s :=
  accN_congr adv (fun k hk => by
    unfold Bar.grv
    rw [fst_congr (p := fun i => decide (s.m i < 0) && req i k) (q := fun i => decide (s.m i < 0) && req' i k) (fun x hx => by rw [h x hx k hk]) (hg k hk)]) ha n (Nat.le_refl _)
theorem rounds_congr {req req' : Nat → Nat → Bool} {n : Nat} {s : Bar.St} (h : ∀ i < n, ∀ k < n, req i k = req' i k) (o : Bar.Ok req n s) : ∀ r, Bar.rounds req n s r = Bar.rounds req' n s r
  | 0 => rfl
  | r + 1 => by
    have ih := rounds_congr h o r
    have o' := Bar.rounds_ok o r
    show Bar.round req n (r == 0) (Bar.rounds req n s r) = Bar.round req' n (r == 0) (Bar.rounds req' n s r)
    rw [← ih]
    exact round_congr _ h o'.g o'.a
theorem rounds_ptr' {req : Nat → Nat → Bool} {n : Nat} {s : Bar.St} (h : Bar.Ok req n s) : ∀ r, (Bar.rounds req n s (r + 1)).g = (Bar.round req n true s).g ∧ (Bar.rounds req n s (r + 1)).a = (Bar.round req n true s).a
  | 0 => ⟨rfl, rfl⟩
  | r + 1 => by
    have ih := rounds_ptr' h r
    have A := Bar.round_acc (Bar.rounds_ok h (r + 1)) false
    refine ⟨funext fun k => ?_, funext fun k => ?_⟩
    · rw [← ih.1]
      show (Bar.round req n false (Bar.rounds req n s (r + 1))).g k = _
      by_cases hx : ∃ x, x < n ∧ Bar.kkv n (Bar.grv req n (Bar.rounds req n s (r + 1))) (Bar.rounds req n s (r + 1)).a x = (k : Int)
      · obtain ⟨x, hx, e⟩ := hx
        rw [A.g1 x k hx e]; simp
      · exact A.g0 k fun x hx' e => hx ⟨x, hx', e⟩
    · rw [← ih.2]
      show (Bar.round req n false (Bar.rounds req n s (r + 1))).a k = _
      rw [A.a k]; simp

/-- All inputs request all outputs. -/
def AllR (rs : List (RowOf Bool)) (n : Nat) : Prop := sqB rs n = true ∧ ∀ i < n, ∀ k < n, reqF rs i k = true
theorem sat_ptr {rs : List (RowOf Bool)} {n : Nat} (h : AllR rs n) {p : (Nat → Nat) × (Nat → Nat)} (hp : Bar.Rg n p) (r : Nat) : ((Bar.rounds (reqF rs) n (Bar.start p.1 p.2) (r + 1)).g, (Bar.rounds (reqF rs) n (Bar.start p.1 p.2) (r + 1)).a) = Bar.nxt n p := by
  have o := Bar.start_ok (req := reqF rs) hp.g hp.a
  have e := round_congr (req := reqF rs) (req' := Bar.all) true (s := Bar.start p.1 p.2) (fun i hi k hk => by rw [h.2 i hi k hk]; rfl) hp.g hp.a
  rw [(rounds_ptr' o r).1, (rounds_ptr' o r).2, e]
  rfl
theorem sat_full {rs : List (RowOf Bool)} {n : Nat} (h : AllR rs n) {p : (Nat → Nat) × (Nat → Nat)} (hp : Bar.Rg n p) : ∀ i < n, 0 ≤ (Bar.rounds (reqF rs) n (Bar.start p.1 p.2) n).m i := by
  have o := Bar.start_ok (req := reqF rs) hp.g hp.a
  have o' := Bar.start_ok (req := Bar.all) hp.g hp.a
  rw [rounds_congr (req := reqF rs) (req' := Bar.all) (fun i hi k hk => by rw [h.2 i hi k hk]; rfl) o n]
  exact Bar.all_full (Bar.rounds_ok o' n) (Bar.rounds_maxi o')
theorem sat_one {rs : List (RowOf Bool)} {n : Nat} (h : AllR rs n) {p : (Nat → Nat) × (Nat → Nat)} (hp : Bar.Rg n p) : Bar.rounds (reqF rs) n (Bar.start p.1 p.2) 1 = Bar.round Bar.all n true (Bar.start p.1 p.2) :=
  round_congr (req := reqF rs) (req' := Bar.all) true (s := Bar.start p.1 p.2) (fun i hi k hk => by rw [h.2 i hi k hk]; rfl) hp.g hp.a

theorem sat_pairs {n : Nat} {p : (Nat → Nat) × (Nat → Nat)} (h : Bar.Rg n p) (hi : ∀ k < n, ∀ q < n, p.1 k = p.1 q → k = q) (t : Nat) : ∀ i < n, ∃ o : Nat, o < n ∧ (Bar.round Bar.all n true (Bar.start (Bar.iter n p t).1 (Bar.iter n p t).2)).m i = (o : Int) ∧ (p.1 o + t) % n = i ∧ p.1 o < n := by
  intro i hin
  obtain ⟨o, ho, e⟩ := Bar.inj_surj n (fun k => (p.1 k + t) % n) (fun k hk => Nat.mod_lt _ (by omega)) (fun k hk q hq e => by
    refine hi k hk q hq ?_
    have a1 := Bar.dist_add (n := n) (f := t % n) (s := p.1 k) (Nat.mod_lt _ (by omega)) (h.g k hk)
    have a2 := Bar.dist_add (n := n) (f := t % n) (s := p.1 q) (Nat.mod_lt _ (by omega)) (h.g q hq)
    rw [Nat.mod_add_mod, Nat.add_comm] at a1 a2
    rw [← a1, ← a2, e]) i hin
  exact ⟨o, ho, by rw [← e]; exact Bar.sat_match h hi t ho, e, h.g o ho⟩

/-- The rows of all requests, as far as they are made. -/
structure AllS (W : World) (ca n : Nat) (p : (Nat → Nat) × (Nat → Nat)) (v : Value) (rows : List (RowOf Bool)) (w : World) : Prop where
  sgl : Sgl W ca n p w
  own : w.ownsRow W.heap.size 27 1 v rows.length (rows.map RowOf.val)
  row : ∀ r ∈ rows, Sl Value.bool w (RowOf.a r) r.xs ∧ r.xs = List.replicate n true ∧ ((RowOf.a r).getD default).block ≠ ca ∧ ∀ g, v.ownBlock = some g → ((RowOf.a r).getD default).block ≠ g
  nv : ∀ g, v.ownBlock = some g → g ≠ ca
theorem AllS.below {W : World} {ca n : Nat} {p : (Nat → Nat) × (Nat → Nat)} {v : Value} {rows : List (RowOf Bool)} {w w' : World} (h : AllS W ca n p v rows w) (b : Below w.heap.size w w') : AllS W ca n p v rows w' :=
  ⟨h.sgl.below b, own_upd (S := fun _ => False) h.own (Upd.of_below b) fun _ _ => id, fun r hr => ⟨(h.row r hr).1.below b, (h.row r hr).2⟩, h.nv⟩
/-- The pointers have turned. -/
theorem AllS.turn {W : World} {ca n : Nat} {p q : (Nat → Nat) × (Nat → Nat)} {v : Value} {rows : List (RowOf Bool)} {w w' : World} (h : AllS W ca n p v rows w) (u : Upd (fun j => j = ca) w w') (hW : W.heap.size ≤ ca) (hb : BarAt w' ca n q.1 q.2) (hq : Bar.Rg n q) : AllS W ca n q v rows w' :=
  ⟨⟨hb, hq, Upd.below h.sgl.bel u h.sgl.bel.size fun i hi => by omega⟩, own_upd h.own u fun g hg e => h.nv g hg e, fun r hr => ⟨(h.row r hr).1.upd u fun _ e => (h.row r hr).2.2.1 e, (h.row r hr).2⟩, h.nv⟩
/-- Something else has been written. -/
theorem AllS.upd {W : World} {ca n : Nat} {p : (Nat → Nat) × (Nat → Nat)} {v : Value} {rows : List (RowOf Bool)} {w w' : World} {S : Nat → Prop} (h : AllS W ca n p v rows w) (u : Upd S w w') (h1 : ¬ S ca) (h2 : ∀ g, v.ownBlock = some g → ¬ S g) (h3 : ∀ r ∈ rows, ¬ S ((RowOf.a r).getD default).block) (h4 : ∀ i, S i → W.heap.size ≤ i) : AllS W ca n p v rows w' :=
  ⟨⟨h.sgl.a.upd u h1, h.sgl.rg, Upd.below h.sgl.bel u h.sgl.bel.size h4⟩, own_upd h.own u h2, fun r hr => ⟨(h.row r hr).1.upd u fun _ => h3 r hr, (h.row r hr).2⟩, h.nv⟩
theorem AllS.req {W : World} {ca n : Nat} {p : (Nat → Nat) × (Nat → Nat)} {a : Option Addr} {m c : Nat} {rows : List (RowOf Bool)} {w : World} (h : AllS W ca n p (.slice a m c) rows w) (hl : rows.length = n) (hn : 1 ≤ n) (h8 : n ≤ 8) :
    m = n ∧ Req w a rows ∧ AllR rows n ∧ Lens rows ∧ Off a rows (fun j => j = ca) := by
  have hne : rows ≠ [] := by intro e; rw [e] at hl; simp at hl; omega
  obtain ⟨g, sp, rfl, hg, hbk, _, _, h6, h7⟩ := own_blk h.own hne
  refine ⟨by omega, ⟨hbk.sub, fun r hr => (h.row r hr).1⟩, ⟨?_, fun i hi k hk => ?_⟩, ⟨by unfold maxLen; omega, fun r hr => ?_⟩, fun _ => ?_, fun r hr _ => (h.row r hr).2.2.1⟩
  · simp only [sqB, decide_eq_true_eq]
    exact ⟨hl, fun r hr => by rw [(h.row r hr).2.1]; simp⟩
  · have hi' : i < rows.length := by omega
    have e : rows[i]? = some (rows[i]'hi') := by simp
    unfold reqF
    rw [e]
    dsimp only
    rw [(h.row _ (List.getElem_mem hi')).2.1]
    simp [hk]
  · rw [(h.row r hr).2.1]; simp [maxLen]; omega
  · exact h.nv g rfl

/-- One row more. -/
theorem AllS.snoc {W : World} {ca n k : Nat} {p : (Nat → Nat) × (Nat → Nat)} {v : Value} {rows : List (RowOf Bool)} {w w' : World} {o : Obj} {lb g cap : Nat} (h : AllS W ca n p v rows w) (hk : rows.length = k) (hn : 1 ≤ n) (F : Sl Value.bool w (some ⟨lb, 0, none⟩) (List.replicate n true)) (l1 : lb ≠ ca) (l2 : ∀ g, v.ownBlock = some g → lb ≠ g) (l3 : lb < w.heap.size)
    (hgr : (w.alloc o).grownBy w' v.ownBlock) (ho : w'.ownsRow W.heap.size 27 1 (.slice (some ⟨g, 0, none⟩) (k + 1) cap) (k + 1) (rows.map RowOf.val ++ [.slice (some ⟨lb, 0, none⟩) n n])) (hat : v.ownBlock = some g ∨ g = w.heap.size + 1) :
    AllS W ca n p (.slice (some ⟨g, 0, none⟩) (k + 1) cap) (rows ++ [⟨some ⟨lb, 0, none⟩, n, List.replicate n true⟩]) w' := by
  have b1 : Below w.heap.size w (w.alloc o) := (Below.refl _ _).alloc (Nat.le_refl _) _
  have u : Upd (fun j => v.ownBlock = some j) (w.alloc o) w' := ⟨hgr.os, hgr.tape, hgr.output, hgr.size, fun j hj hs => hgr.block j hj fun e => hs e.symm⟩
  have hca := h.sgl.a.lt
  have hrn : List.replicate n true ≠ [] := by intro e; have := congrArg List.length e; simp at this; omega
  refine ⟨⟨(h.sgl.a.below b1).upd u (fun e => h.nv ca e rfl), h.sgl.rg, Upd.below (h.sgl.bel.trans (b1.mono h.sgl.bel.size)) u (by have := h.sgl.bel.size; have := b1.size; omega) (fun i hi => (own_lt h.own hi).2)⟩, ?_, fun r hr => ?_, fun g' hg' => ?_⟩
  · have e : ((rows ++ [(⟨some ⟨lb, 0, none⟩, n, List.replicate n true⟩ : RowOf Bool)]).map RowOf.val : List Value) = rows.map RowOf.val ++ [.slice (some ⟨lb, 0, none⟩) n n] := by simp [RowOf.val]
    rw [e, List.length_append, hk]
    exact ho
  · have hg : ∀ g', (Value.slice (some ⟨g, 0, none⟩) (k + 1) cap).ownBlock = some g' → g' = g := fun g' e => by simp [Value.ownBlock] at e; exact e.symm
    rcases List.mem_append.1 hr with h1 | h1
    · obtain ⟨r1, r2, r3, r4⟩ := h.row r h1
      have hold := r1.old (by rw [r2]; exact hrn)
      refine ⟨(r1.below b1).upd u fun _ e => r4 _ e rfl, r2, r3, fun g' hg' => ?_⟩
      rw [hg g' hg']
      rcases hat with e | e
      · exact r4 g e
      · omega
    · simp at h1
      subst h1
      refine ⟨(F.below b1).upd u fun _ e => l2 _ e rfl, rfl, l1, fun g' hg' => ?_⟩
      rw [hg g' hg']
      rcases hat with e | e
      · exact l2 g e
      · show lb ≠ g; omega
  · simp [Value.ownBlock] at hg'
    subst hg'
    rcases hat with e | e
    · exact h.nv g e
    · omega

/-! ### the set of the pairs -/
theorem Try.widePair : (match Try.prog.underlying 44 with | some (.array _ _) | some (.struct _) => true | _ => false) = true := by kernel_rfl
theorem Try.lawPair : Maps.Keyed Try.prog 44 := Maps.Keyed.of_law (deep_law_laid Try.laidOut (m := 2) (by omega) (of_decide_eq_true (by kernel_rfl)) (by kernel_rfl) Try.widePair)
theorem key_any (i o : Int) (hi : 0 ≤ i ∧ i < 8) (ho : 0 ≤ o ∧ o < 8) : ∃ l, keyOf Try.prog 44 (.agg #[.int .i64 i, .int .i64 o]) = some l := by
  have h1 : Try.prog.underlying 44 = some (.array 2 3) := by kernel_rfl
  have h2 : Try.prog.keyType 44 = true := by kernel_rfl
  have h3 : Try.prog.cellsOf 44 = 2 := by kernel_rfl
  have h4 : Try.prog.underlying 3 = some (.int .i64) := by kernel_rfl
  have h5 : Try.prog.cellsOf 3 = 1 := by kernel_rfl
  have w1 : (Lit.int .i64 i).wf = true := by simp [Lit.wf, IntKind.min, IntKind.max, IntKind.signed, IntKind.bits]; omega
  have w2 : (Lit.int .i64 o).wf = true := by simp [Lit.wf, IntKind.min, IntKind.max, IntKind.signed, IntKind.bits]; omega
  have hr : List.range 2 = [0, 1] := rfl
  obtain ⟨d, hs⟩ : ∃ d, Try.prog.types.size + 1 = d + 1 + 1 := ⟨Try.prog.types.size - 1, by kernel_rfl⟩
  unfold keyOf
  rw [h1]
  simp only [h2, Value.formed, h1, h3]
  rw [hs]
  simp [Program.keyLits, Value.cells, h1, h3, h4, h5, hr, w1, w2]
/-- kl is the key that a pair reads as. -/
def KlOk (kl : Nat × Nat → Lit) : Prop := ∀ i o : Nat, i < 8 → o < 8 → keyOf Try.prog 44 (.agg #[.int .i64 (i : Int), .int .i64 (o : Int)]) = some (kl (i, o))
theorem kl_ex : ∃ kl, KlOk kl :=
  ⟨fun q => (keyOf Try.prog 44 (.agg #[.int .i64 (q.1 : Int), .int .i64 (q.2 : Int)])).getD (.bool false), fun i o hi ho => by
    obtain ⟨l, hl⟩ := key_any i o ⟨by omega, by omega⟩ ⟨by omega, by omega⟩
    dsimp only
    rw [hl]; rfl⟩
theorem kl_inj {kl : Nat × Nat → Lit} (K : KlOk kl) {p q : Nat × Nat} (hp : p.1 < 8 ∧ p.2 < 8) (hq : q.1 < 8 ∧ q.2 < 8) (h : kl p = kl q) : p = q := by
  obtain ⟨i, o⟩ := p
  obtain ⟨j, u⟩ := q
  have h1 := K i o hp.1 hp.2
  have h2 := K j u hq.1 hq.2
  rw [← h] at h2
  have := Try.lawPair.inj h1 h2
  simp at this
  obtain ⟨e1, e2⟩ := this
  have e1' : i = j := by omega
  have e2' : o = u := by omega
  rw [e1', e2']
theorem addKey_all : ∀ (xs L : List Lit), (∀ x ∈ xs, ∀ y ∈ L, y.sameKey x = false) → xs.Pairwise (fun a b => a.sameKey b = false) → xs.foldl Maps.addKey L = L ++ xs
  | [], L, _, _ => by simp
  | x :: xs, L, h, hp => by
    rw [List.pairwise_cons] at hp
    have e : Maps.addKey L x = L ++ [x] := by
      unfold Maps.addKey
      rw [if_neg]
      rw [List.any_eq_true]
      rintro ⟨y, hy, hs⟩
      rw [h x (by simp) y hy] at hs
      exact absurd hs (by simp)
    rw [List.foldl_cons, e, addKey_all xs (L ++ [x]) (fun z hz y hy => by
      rcases List.mem_append.1 hy with h1 | h1
      · exact h z (by simp [hz]) y h1
      · simp at h1; subst h1; exact hp.1 z hz) hp.2]
    simp
theorem set_size {kl : Nat × Nat → Lit} (K : KlOk kl) (u : DataW Unit) (ps : List (Nat × Nat)) (hb : ∀ q ∈ ps, q.1 < 8 ∧ q.2 < 8) (hn : ps.Nodup) : Maps.size (Maps.setOf u (ps.map kl)) = ps.length := by
  rw [Maps.size_setOf u _ (fun x hx => by
    obtain ⟨q, hq, rfl⟩ := List.mem_map.1 hx
    exact Try.lawPair.key (K q.1 q.2 (hb q hq).1 (hb q hq).2)), addKey_all _ _ (by simp) ?_]
  · simp
  · rw [List.pairwise_map]
    refine hn.imp_of_mem fun {a b} ha hb' hne => ?_
    exact Maps.sameKey_ne fun e => hne (kl_inj K (hb a ha) (hb b hb') e)
/-- Block mb is the set of the pairs ps. -/
def MpAt (kl : Nat × Nat → Lit) (w : World) (mb : Nat) (ps : List (Nat × Nat)) : Prop := w.ownsMap Try.prog 44 (plainElem Try.prog 4) mb ps.length (Maps.setOf (DataW.lit (H := Unit) (.bool true)) (ps.map kl))
theorem MpAt.heap {kl : Nat × Nat → Lit} {w w' : World} {mb : Nat} {ps : List (Nat × Nat)} (h : MpAt kl w mb ps) (e : w'.heap[mb]? = w.heap[mb]?) : MpAt kl w' mb ps := by
  obtain ⟨es, clock, h1, h2⟩ := h
  exact ⟨es, clock, by rw [e]; exact h1, h2⟩
theorem MpAt.lt {kl : Nat × Nat → Lit} {w : World} {mb : Nat} {ps : List (Nat × Nat)} (h : MpAt kl w mb ps) : mb < w.heap.size := by
  obtain ⟨es, clock, h1, h2⟩ := h
  rcases Nat.lt_or_ge mb w.heap.size with h3 | h3
  · exact h3
  · simp [Array.getElem?_eq_none h3] at h1
theorem MpAt.upd {S : Nat → Prop} {kl : Nat × Nat → Lit} {w w' : World} {mb : Nat} {ps : List (Nat × Nat)} (h : MpAt kl w mb ps) (u : Upd S w w') (hs : ¬ S mb) : MpAt kl w' mb ps := h.heap (u.block mb h.lt hs)
end Go.Proofs.Ytldgpdgoccccpaa
