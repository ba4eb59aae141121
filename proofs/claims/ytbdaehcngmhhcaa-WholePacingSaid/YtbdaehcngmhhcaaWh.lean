/-
  A modest net, its numbers divided by twelve: the net in whole units, plainly; the memory in which the law makes it.
  WholePacing returns true: its walk.
-/
import Derived.Test.YtbdaehcngmhhcaaRsd
import Derived.Test.YtbdaehcngmhhcaaRsvM
import Derived.Test.YtbdaehcngmhhcaaModest
namespace Go.Proofs.Ytbdaehcngmhhcaa
open Go.RowKit
set_option linter.unusedVariables false

def c12 (c : Rq) : Rq := c.mul ⟨1, 12⟩
def sFl (f : Fw) : Fw := ⟨f.la, f.lc, f.lk, f.bd, c12 f.dm⟩
/-- A number that is small enough. -/
structure Q12 (c : Rq) : Prop where
  v : c.V
  n0 : 0 ≤ c.n
  n1 : c.n ≤ 12
  d0 : 0 ≤ c.d
  d1 : c.d ≤ 4
theorem Q12.sm {c : Rq} (h : Q12 c) : Sm0 c := ⟨h.v, h.d0, by have := h.d1; omega, by have := h.n0; omega, by have := h.n1; omega⟩
theorem twelfth : Sm0 ⟨1, 12⟩ := ⟨.inr ⟨by decide, by decide⟩, by decide, by decide, by decide, by decide⟩
theorem Q12.rp {c : Rq} (h : Q12 c) : ∃ K, Rp1 uU (c12 c) K ∧ uV 0 ∣ K ∧ 0 ≤ K ∧ K ≤ uU := by
  obtain ⟨K, h1, h2, h3, h4⟩ := scale12 h.v h.n0 h.n1 h.d1
  exact ⟨K, ⟨h1, Rq.mul_d h.v twelfth.v⟩, h2, h3, h4⟩
theorem Q12.of {c : Rq} (h1 : c.ok = true) (h2 : 0 ≤ c.n) (h3 : fitsB c = true) : Q12 c := by
  unfold fitsB at h3
  simp only [Bool.and_eq_true, decide_eq_true_eq] at h3
  exact ⟨Rq.ok_V h1, h2, h3.1, (Rq.ok_bd h1).1, h3.2⟩
/-- What a modest net is. -/
structure Md12 (caps : List Rq) (fls : List Fw) : Prop where
  L : caps.length ≤ 4
  m : fls.length ≤ 5
  c : ∀ c ∈ caps, Q12 c
  f : ∀ f ∈ fls, Q12 (Fw.dm f)
  v : netB caps fls = true
theorem Md12.of {caps : List Rq} {fls : List Fw} (h : modB caps fls = true) : Md12 caps fls := by
  unfold modB at h
  simp only [Bool.and_eq_true, decide_eq_true_eq] at h
  obtain ⟨⟨⟨⟨h1, h2⟩, h3⟩, h4⟩, h5⟩ := h
  have h6 := h3
  unfold netB at h6
  rw [Bool.and_eq_true] at h6
  refine ⟨h1, h2, fun c hc => ?_, fun f hf => ?_, h3⟩
  · have h7 := List.all_eq_true.1 h6.1 c hc
    unfold capB at h7
    simp only [Bool.and_eq_true, decide_eq_true_eq] at h7
    exact Q12.of h7.1.1 h7.1.2 (List.all_eq_true.1 h4 c hc)
  · have h7 := List.all_eq_true.1 h6.2 f hf
    unfold flB dmB at h7
    simp only [Bool.and_eq_true, decide_eq_true_eq] at h7
    exact Q12.of h7.2.1.1 h7.2.1.2 (List.all_eq_true.1 h5 f hf)
theorem exists_k : ∃ K : Rq → Int, ∀ c, Q12 c → Rp1 uU (c12 c) (K c) ∧ uV 0 ∣ K c ∧ 0 ≤ K c ∧ K c ≤ uU := by
  have h : ∀ c : Rq, ∃ K : Int, Q12 c → Rp1 uU (c12 c) K ∧ uV 0 ∣ K ∧ 0 ≤ K ∧ K ≤ uU := fun c => by
    by_cases h : Q12 c
    · obtain ⟨K, hK⟩ := h.rp
      exact ⟨K, fun _ => hK⟩
    · exact ⟨0, fun x => absurd x h⟩
  exact ⟨fun c => Classical.choose (h c), fun c hc => Classical.choose_spec (h c) hc⟩
theorem rp_i64 {r : Rq} {k : Int} (h : Rp1 uU r k) (h0 : 0 ≤ k) (h1 : k ≤ uU) : I64 r.n ∧ I64 r.d := by
  have e : uU = 1244160 := rfl
  have s := h.sm (by decide) (by decide) (by omega)
  have := s.d1; have := s.d2; have := s.n1; have := s.n2
  unfold I64
  omega
theorem rp_ok {r : Rq} {k : Int} (h : Rp1 uU r k) (h0 : 0 ≤ k) (h1 : k ≤ uU) : r.ok = true := by
  have e : uU = 1244160 := rfl
  exact h.rp.ok (by decide) (by decide) (by omega)
theorem net_pk {caps : List Rq} {fls : List Fw} (h : Md12 caps fls) (hk : ∀ f ∈ fls, (Fw.lk f).length ≤ maxLen) : ∃ N : Nt, NtPk N (caps.map c12) (fls.map sFl) := by
  obtain ⟨K, hK⟩ := exists_k
  have e : uU = 1244160 := rfl
  have hv := h.v
  unfold netB at hv
  rw [Bool.and_eq_true] at hv
  have gc : ∀ (l : Nat), l < caps.length → Q12 (caps.getD l default) := fun l hl => by
    refine h.c _ ?_
    rw [List.getD_eq_getElem?_getD, List.getElem?_eq_getElem hl]
    exact List.getElem_mem hl
  have gf : ∀ (i : Nat), i < fls.length → fls.getD i default ∈ fls := fun l hl => by
    rw [List.getD_eq_getElem?_getD, List.getElem?_eq_getElem hl]
    exact List.getElem_mem hl
  refine ⟨⟨caps.length, fls.length, fun l => K (caps.getD l default), fun l i => decide ((l : Int) ∈ (fls.getD i default).lk), fun i => (fls.getD i default).bd, fun i => K (fls.getD i default).dm⟩, ⟨by simp, by simp, ?_, ?_⟩, ⟨h.L, h.m, ?_, ?_, ?_⟩, ?_, ?_, ?_⟩
  · intro l r hr
    rw [List.getElem?_map] at hr
    obtain ⟨c, hc, rfl⟩ := Option.map_eq_some_iff.1 hr
    have := hK c (h.c c (List.mem_of_getElem? hc))
    dsimp only
    rw [List.getD_eq_getElem?_getD, hc]
    exact this.1
  · intro i f hf
    rw [List.getElem?_map] at hf
    obtain ⟨g, hg, rfl⟩ := Option.map_eq_some_iff.1 hf
    have hm := List.mem_of_getElem? hg
    dsimp only
    rw [List.getD_eq_getElem?_getD, hg]
    exact ⟨fun l hl => rfl, rfl, (hK _ (h.f g hm)).1, hk g hm⟩
  · intro l hl
    have := hK _ (gc l hl)
    exact this.2
  · intro i hi
    have := hK _ (h.f _ (gf i hi))
    exact this.2
  · intro i hi
    have h7 := List.all_eq_true.1 hv.2 _ (gf i hi)
    unfold flB at h7
    simp only [Bool.and_eq_true, decide_eq_true_eq] at h7
    obtain ⟨⟨h8, h9⟩, _⟩ := h7
    dsimp only
    generalize (fls.getD i default).lk = lk at *
    cases lk with
    | nil => exact absurd rfl h8
    | cons x l =>
      have h10 := List.all_eq_true.1 h9 0 (List.mem_range.2 (by simp))
      unfold lkAt at h10
      simp only [Bool.and_eq_true, decide_eq_true_eq, List.getD_cons_zero] at h10
      exact ⟨x.toNat, by omega, by rw [Int.toNat_of_nonneg h10.1.1]; simp⟩
  · unfold netB
    rw [Bool.and_eq_true, List.all_eq_true, List.all_eq_true]
    constructor
    · intro r hr
      obtain ⟨c, hc, rfl⟩ := List.mem_map.1 hr
      obtain ⟨h1, h2, h3, h4⟩ := hK c (h.c c hc)
      unfold capB
      simp only [Bool.and_eq_true, decide_eq_true_eq]
      exact ⟨⟨rp_ok h1 h3 h4, (h1.rp.n_nonneg (by decide)).2 h3⟩, cmp_le (U := uU) (by decide) h1.rp (k := 1000 * uU) ⟨.inr ⟨by decide, by decide⟩, by decide⟩ (by omega)⟩
    · intro r hr
      obtain ⟨f, hf, rfl⟩ := List.mem_map.1 hr
      obtain ⟨h1, h2, h3, h4⟩ := hK _ (h.f f hf)
      have h7 := List.all_eq_true.1 hv.2 f hf
      unfold flB dmB at *
      simp only [Bool.and_eq_true, decide_eq_true_eq, Bool.or_eq_true] at h7 ⊢
      obtain ⟨h8, h9, h10⟩ := h7
      rw [List.length_map]
      refine ⟨h8, ⟨rp_ok h1 h3 h4, (h1.rp.n_nonneg (by decide)).2 h3⟩, ?_⟩
      rcases h10 with h10 | h10
      · exact .inl h10
      · refine .inr ?_
        show (c12 f.dm).n = 0
        unfold c12 Rq.mul
        rw [if_pos (.inl h10)]
  · intro r hr
    obtain ⟨c, hc, rfl⟩ := List.mem_map.1 hr
    obtain ⟨h1, h2, h3, h4⟩ := hK c (h.c c hc)
    exact rp_i64 h1 h3 h4
  · intro r hr
    obtain ⟨f, hf, rfl⟩ := List.mem_map.1 hr
    obtain ⟨h1, h2, h3, h4⟩ := hK _ (h.f f hf)
    exact rp_i64 h1 h3 h4
/-- The small net, under way. -/
structure WhA (w wr : World) (ca fa : Option Addr) (cc fc n m tb sb : Nat) (v1 v2 : Value) (cs : List Rq) (fs : List Fw) : Prop where
  lt : w.heap.size < tb
  ts : tb < sb
  b0 : Blk wr w.heap.size 25 [.slice ca n cc, .slice fa m fc]
  b1 : Blk wr tb 29 [.int .i64 1, .int .i64 12]
  b2 : Blk wr sb 25 [v1, v2]
  o1 : wr.ownsRow (sb + 1) 29 2 v1 cs.length (flC rC cs)
  o2 : wr.ownsRow (sb + 1) 35 4 v2 fs.length (flC fC fs)
  ap : ∀ g, v1.ownBlock = some g → v2.ownBlock ≠ some g
  u : Below w.heap.size w wr
section
variable {w wr w' : World} {ca fa : Option Addr} {cc fc n m tb sb : Nat} {v1 v2 v' : Value} {cs : List Rq} {fs : List Fw}
theorem WhA.below (h : WhA w wr ca fa cc fc n m tb sb v1 v2 cs fs) (q : Below wr.heap.size wr w') : WhA w w' ca fa cc fc n m tb sb v1 v2 cs fs :=
  ⟨h.lt, h.ts, h.b0.bel q, h.b1.bel q, h.b2.bel q, own_upd h.o1 (S := fun _ => False) (Upd.of_below q) (fun _ _ => id), own_upd h.o2 (S := fun _ => False) (Upd.of_below q) (fun _ _ => id), h.ap, below_then h.u q (by have := h.b0.lt; omega)⟩
theorem WhA.upd (h : WhA w wr ca fa cc fc n m tb sb v1 v2 cs fs) {S : Nat → Prop} (q : Upd S wr w') (hS : ∀ k, S k → sb < k ∧ v1.ownBlock ≠ some k ∧ v2.ownBlock ≠ some k) : WhA w w' ca fa cc fc n m tb sb v1 v2 cs fs := by
  have hlt := h.lt; have hts := h.ts
  exact ⟨h.lt, h.ts, h.b0.upd q (fun e => by have := (hS _ e).1; omega), h.b1.upd q (fun e => by have := (hS _ e).1; omega), h.b2.upd q (fun e => by have := (hS _ e).1; omega), own_upd h.o1 q (fun g hg e => (hS g e).2.1 hg), own_upd h.o2 q (fun g hg e => (hS g e).2.2 hg), h.ap, Upd.below h.u q (by have := h.b0.lt; omega) (fun i hi => by have := (hS i hi).1; omega)⟩
theorem WhA.new (h : WhA w wr ca fa cc fc n m tb sb v1 v2 cs fs) {k : Nat} (hk : wr.heap.size ≤ k) : sb < k ∧ v1.ownBlock ≠ some k ∧ v2.ownBlock ≠ some k :=
  ⟨by have := h.b2.lt; omega, fun e => by have := (own_lt h.o1 e).1; omega, fun e => by have := (own_lt h.o2 e).1; omega⟩
theorem WhA.push1 (h : WhA w wr ca fa cc fc n m tb sb v1 v2 cs fs) (x : Rq) (hown : w'.ownsRow (sb + 1) 29 2 v' (cs.length + 1) (flC rC cs ++ rC x)) (hgr : wr.grownBy w' v1.ownBlock) (hat : v'.ownBlock = v1.ownBlock ∨ v'.ownBlock = some wr.heap.size) :
    WhA w (w'.setCell ⟨sb, 0, none⟩ v') ca fa cc fc n m tb sb v' v2 (cs ++ [x]) fs := by
  have q := Upd.of_grownV hgr
  have l1 := fun g (hg : v1.ownBlock = some g) => own_lt h.o1 hg
  have l2 := fun g (hg : v2.ownBlock = some g) => own_lt h.o2 hg
  have hlt := h.lt; have hts := h.ts
  have U : Upd (fun k => k = sb) w' (w'.setCell ⟨sb, 0, none⟩ v') := (Upd.refl _ _).setCell _ _ (fun _ => rfl)
  refine ⟨h.lt, h.ts, (h.b0.upd q (fun e => by have := (l1 _ e).2; omega)).setO _ (by dsimp only; omega), (h.b1.upd q (fun e => by have := (l1 _ e).2; omega)).setO _ (by dsimp only; omega), (h.b2.upd q (fun e => by have := (l1 _ e).2; omega)).set 0 _, ?_, ?_, ?_, ?_⟩
  · rw [flC_append, flC_one, List.length_append]
    exact own_upd hown U (fun g hg e => by have := (own_lt hown hg).2; omega)
  · exact own_upd (own_upd h.o2 q (fun g hg e => h.ap g e hg)) U (fun g hg e => by have := (l2 g hg).2; omega)
  · intro g hg e
    rcases hat with a | a
    · exact h.ap g (a ▸ hg) e
    · rw [a] at hg; cases hg; have := (l2 _ e).1; omega
  · exact Upd.below (Upd.below h.u q (by have := h.b0.lt; omega) (fun i hi => by have := (l1 i hi).2; omega)) U (by have := q.size; have := h.b0.lt; omega) (fun i hi => by omega)
theorem WhA.push2 (h : WhA w wr ca fa cc fc n m tb sb v1 v2 cs fs) (x : Fw) (hown : w'.ownsRow (sb + 1) 35 4 v' (fs.length + 1) (flC fC fs ++ fC x)) (hgr : wr.grownBy w' v2.ownBlock) (hat : v'.ownBlock = v2.ownBlock ∨ v'.ownBlock = some wr.heap.size) :
    WhA w (w'.setCell ⟨sb, 1, none⟩ v') ca fa cc fc n m tb sb v1 v' cs (fs ++ [x]) := by
  have q := Upd.of_grownV hgr
  have l1 := fun g (hg : v1.ownBlock = some g) => own_lt h.o1 hg
  have l2 := fun g (hg : v2.ownBlock = some g) => own_lt h.o2 hg
  have hlt := h.lt; have hts := h.ts
  have U : Upd (fun k => k = sb) w' (w'.setCell ⟨sb, 1, none⟩ v') := (Upd.refl _ _).setCell _ _ (fun _ => rfl)
  refine ⟨h.lt, h.ts, (h.b0.upd q (fun e => by have := (l2 _ e).2; omega)).setO _ (by dsimp only; omega), (h.b1.upd q (fun e => by have := (l2 _ e).2; omega)).setO _ (by dsimp only; omega), (h.b2.upd q (fun e => by have := (l2 _ e).2; omega)).set 1 _, ?_, ?_, ?_, ?_⟩
  · exact own_upd (own_upd h.o1 q (fun g hg e => h.ap g hg e)) U (fun g hg e => by have := (l1 g hg).2; omega)
  · rw [flC_append, flC_one, List.length_append]
    exact own_upd hown U (fun g hg e => by have := (own_lt hown hg).2; omega)
  · intro g hg e
    rcases hat with a | a
    · exact h.ap g hg (a ▸ e)
    · rw [a] at e; cases e; have := (l1 _ hg).1; omega
  · exact Upd.below (Upd.below h.u q (by have := h.b0.lt; omega) (fun i hi => by have := (l2 i hi).2; omega)) U (by have := q.size; have := h.b0.lt; omega) (fun i hi => by omega)
theorem WhA.net {a1 a2 : Option Addr} {n1 n2 c1 c2 : Nat} (h : WhA w wr ca fa cc fc n m tb sb (.slice a1 n1 c1) (.slice a2 n2 c2) cs fs) (hl : ∀ x ∈ fs, SlI wr (Fw.la x) x.lk) (hk : ∀ x ∈ fs, (Fw.lk x).length ≤ x.lc) : NetAt wr a1 a2 cs fs :=
  ⟨SlC.own rC_len (by decide) h.o1, SlC.own fC_len (by decide) h.o2, hl, hk⟩
end
/-- What one round over a flow's links adds. -/
def addR (on : Bool) (R : Rq) (rs : List Rq) : List Rq := if on then rs ++ [R] else rs
theorem addR_pick (on : Nat → Bool) (R : Nat → Rq) (i : Nat) : addR (on i) (R i) (pickR on R i) = pickR on R (i + 1) := rfl
end Go.Proofs.Ytbdaehcngmhhcaa
namespace Go.Proofs.Ytbdaehcngmhhcaa
open Go.RowKit
set_option linter.unusedVariables false

theorem Try.infoFl : (Try.prog.info? 35).map (fun i => (i.zero, i.size, i.bytes)) = some (some (.agg #[.slice none 0 0, .bool false, .int .i64 0, .int .i64 0]), 4, 48) := by kernel_rfl
def Wh1Rel (w : World) (ca fa : Option Addr) (cc fc n m tb sb : Nat) (caps : List Rq) (ix : Value) (wr : World) : Prop :=
  ∃ (p : Nat) (a1 : Option Addr) (c1 : Nat), p ≤ n ∧ ix = .int .i64 p ∧ Hid (WhA w wr ca fa cc fc n m tb sb (.slice a1 p c1) (.slice none 0 0) ((caps.take p).map c12) [])
def Wh2Rel (w : World) (ca fa : Option Addr) (cc fc n m tb sb : Nat) (caps : List Rq) (fls : List Fw) (ix : Value) (wr : World) : Prop :=
  ∃ (p : Nat) (a1 a2 : Option Addr) (c1 c2 : Nat), p ≤ m ∧ ix = .int .i64 p ∧ Hid (WhA w wr ca fa cc fc n m tb sb (.slice a1 n c1) (.slice a2 p c2) (caps.map c12) ((fls.take p).map sFl))
def Wh3Rel (w : World) (n : Nat) (ix : Value) (wr : World) : Prop := ∃ p : Nat, p ≤ n ∧ ix = .int .i64 p ∧ Hid (Below w.heap.size w wr)
def Wh4Rel (w : World) (m : Nat) (on : Nat → Bool) (R : Nat → Rq) (own ix : Value) (wr : World) : Prop :=
  ∃ (i : Nat) (a : Option Addr) (c : Nat) (rs : List Rq), i ≤ m ∧ ix = .int .i64 i ∧ own = .slice a rs.length c ∧ Hid (rs = pickR on R i) ∧ rs.length ≤ i ∧ Hid (wr.ownsRow w.heap.size 29 2 own rs.length (flC rC rs)) ∧ Hid (Below w.heap.size w wr)
def Wh5Rel (w : World) (l : Nat) (lk : List Int) (r : Rq) (r0 : List Rq) (own ix : Value) (wr : World) : Prop :=
  ∃ (j : Nat) (a : Option Addr) (c : Nat) (rs : List Rq), j ≤ lk.length ∧ ix = .int .i64 j ∧ own = .slice a rs.length c ∧ Hid (rs = addR (decide ((l : Int) ∈ lk.take j)) r r0) ∧ rs.length ≤ r0.length + 1 ∧ Hid (wr.ownsRow w.heap.size 29 2 own rs.length (flC rC rs)) ∧ Hid (Below w.heap.size w wr)
theorem take_map {α β : Type} (f : α → β) {l : List α} {p : Nat} {x : α} (h : l[p]? = some x) : (l.take (p + 1)).map f = (l.take p).map f ++ [f x] := by
  rw [List.take_add_one, h, List.map_append]
  rfl
set_option maxRecDepth 100000 in
set_option maxHeartbeats 4000000 in
theorem whole_true (w : World) (ca fa : Option Addr) (cc fc : Nat) (caps : List Rq) (fls : List Fw) (h : NetAt w ca fa caps fls) (hM : Md12 caps fls) (hk : ∀ f ∈ fls, (Fw.lk f).length ≤ maxLen)
    (tk : Nat) (htk : tk ≤ 255) (MD : ∀ w', Below w.heap.size w w' → Calls Try.prog 5 #[netV ca fa cc fc caps fls] w' fun e w2 => e = .returned (.bool true) ∧ Below w'.heap.size w' w2) :
    Calls Try.prog 3 #[netV ca fa cc fc caps fls, .int .u8 tk] w fun e w' => e = .returned (.bool true) ∧ Below w.heap.size w w' := by
  have hcl := hM.L
  have hml := hM.m
  obtain ⟨N, hP⟩ := net_pk hM hk
  have H := Lib.hid h
  have HM := Lib.hid hM
  have HK := Lib.hid hk
  have HP := Lib.hid hP
  clear h hM hk hP
  have AW := Lib.hid awake_any
  unfold netV at MD ⊢
  replace MD := Lib.hid MD
  generalize hnn : caps.length = n at *
  generalize hmm : fls.length = m at *
  have HNN := Lib.hid hnn
  have HMM := Lib.hid hmm
  clear hnn hmm
  obtain ⟨i1, hi, hz0, hz1, hz2⟩ := info_parts Try.infoRat
  have JI := Lib.hid hi; have JZ0 := Lib.hid hz0; have JZ1 := Lib.hid hz1; have JZ2 := Lib.hid hz2
  clear hi hz0 hz1 hz2
  obtain ⟨i2, hi, hz0, hz1, hz2⟩ := info_parts Try.infoFl
  have FI := Lib.hid hi; have FZ0 := Lib.hid hz0; have FZ1 := Lib.hid hz1; have FZ2 := Lib.hid hz2
  clear hi hz0 hz1 hz2
  go_enter Try.func3, Try.ntmps3
  go_wp2_with fail
  refine (AW.out _).mono ?_
  rintro e w1 ⟨rfl, hb⟩
  have B1 := Lib.hid (below_then (alloc_belQ w (.cells #[.slice ca n cc, .slice fa m fc] 25)) hb (by simp))
  have X1 := (Blk.new w 25 [.slice ca n cc, .slice fa m fc]).bel hb
  have x0 := X1.cell (i := 0) rfl
  have x1 := X1.cell (i := 1) rfl
  have xz := X1.lt
  replace X1 := Lib.hid X1
  clear hb
  go_wp2_with fail
  refine (MD.out _ B1.out).mono ?_
  rintro e w2 ⟨rfl, hb⟩
  have B2 := Lib.hid (below_then B1.out hb B1.out.size)
  have X2 := X1.out.bel hb
  clear x0 x1 xz X1 B1 hb MD
  have x0 := X2.cell (i := 0) rfl
  have x1 := X2.cell (i := 1) rfl
  have xz := X2.lt
  have T0 : Hid (WhA w ((w2.alloc (.cells #[.int .i64 1, .int .i64 12] 29)).alloc (.cells #[.slice none 0 0, .slice none 0 0] 25)) ca fa cc fc n m w2.heap.size (w2.heap.size + 1) (.slice none 0 0) (.slice none 0 0) [] []) := by
    refine ⟨xz, by omega, (X2.alloc _).alloc _, (Blk.new _ _ _).alloc _, ?_, ⟨rfl, .inl ⟨rfl, rfl⟩⟩, ⟨rfl, .inl ⟨rfl, rfl⟩⟩, (fun g hg => by cases hg), (B2.out.alloc (by have := B2.out.size; omega) _).alloc (by have := B2.out.size; simp; omega) _⟩
    have := Blk.new (w2.alloc (.cells #[.int .i64 1, .int .i64 12] 29)) 25 [.slice none 0 0, .slice none 0 0]
    simpa using this
  clear X2 B2
  go_wp2_with fail
  clear x0 x1 xz
  obtain ⟨tb, htb⟩ : ∃ tb, tb = w2.heap.size := ⟨_, rfl⟩
  rw [← htb]
  rw [← htb] at T0
  replace htb := Lib.hid htb
  go_loopw [31] (fun ix wr => Wh1Rel w ca fa cc fc n m tb (tb + 1) caps ix wr) (fun ix _ => n - (intOf ix).toNat)
  case atStart => exact ⟨0, none, 0, Nat.zero_le _, rfl, T0⟩
  case round =>
    clear T0
    obtain ⟨p, a1, c1, hp, rfl, T⟩ := hrel
    by_cases hpn : p < n
    · obtain ⟨c, ec, okc, cn, cd⟩ := (H.out.below T.out.u).c.r (k := p) (by rw [HNN.out]; exact hpn)
      have hc := HM.out.c c (List.mem_of_getElem? ec.out)
      have MU := fun w => mul_any c ⟨1, 12⟩ w hc.sm twelfth
      have ET := take_map c12 ec.out
      have hr : c12 c = c.mul ⟨1, 12⟩ := rfl
      rw [hr] at ET
      clear hc ec hr
      generalize c.mul ⟨1, 12⟩ = r at *
      have hlen : ((caps.take p).map c12).length = p := by rw [List.length_map, List.length_take, HNN.out]; omega
      generalize (caps.take p).map c12 = L0 at *
      replace hlen := Lib.hid hlen
      unfold rV at MU
      obtain ⟨n0, d0⟩ := c
      obtain ⟨rn, rd⟩ := r
      dsimp only at *
      replace MU := Lib.hid MU
      replace ET := Lib.hid ET
      have T1 := Lib.hid (T.out.below (alloc_belQ wr (.cells #[.int .i64 n0, .int .i64 d0] 29)))
      have X1 := Lib.hid (Blk.new wr 29 [.int .i64 n0, .int .i64 d0])
      have y0 := T.out.b1.cell (i := 0) rfl
      have y1 := T.out.b1.cell (i := 1) rfl
      have yz := T.out.b1.lt
      go_wp2_with fail
      refine (MU.out _).mono ?_
      rintro e w3 ⟨rfl, hb⟩
      have T3 := T1.out.below hb
      have T5 := (T3.below (alloc_belQ w3 (.cells #[.int .i64 rn, .int .i64 rd] 29))).below (alloc_belQ _ (.cells #[.int .i64 rn, .int .i64 rd] 29))
      have s0 := T3.b2.cell (i := 0) rfl
      have sz := T3.b2.lt
      have SL := Lib.hid (fun j u (hj : [Value.int .i64 rn, .int .i64 rd][j]? = some u) => (⟨rfl, by rw [adr_mk, Nat.zero_add]; have := (Blk.new (w3.alloc (.cells #[.int .i64 rn, .int .i64 rd] 29)) 29 [.int .i64 rn, .int .i64 rd]).cell hj; simpa using this⟩ : okAd (some ⟨w3.heap.size + 1, 0, none⟩) = true ∧ ((w3.alloc (.cells #[.int .i64 rn, .int .i64 rd] 29)).alloc (.cells #[.int .i64 rn, .int .i64 rd] 29)).cell? (adr (some ⟨w3.heap.size + 1, 0, none⟩) j) = some u))
      have z5 : ((w3.alloc (.cells #[.int .i64 rn, .int .i64 rd] 29)).alloc (.cells #[.int .i64 rn, .int .i64 rd] 29)).heap.size = w3.heap.size + 2 := by simp
      have o1 := T5.o1
      rw [hlen.out] at o1
      replace o1 := Lib.hid o1
      replace T5 := Lib.hid T5
      clear T T1 T3 X1 y0 y1 yz hb
      go_wp2_with (at_builtin; refine wpList_append_cells rfl _ _ 22 rfl (tb + 1 + 1) 29 i1 _ 2 16 Try.underlying22 JI.out JZ0.out JZ1.out JZ2.out rfl (by decide) (.slice a1 p c1) p (flC rC L0) rfl o1.out (some ⟨w3.heap.size + 1, 0, none⟩) 1 1 [.int .i64 rn, .int .i64 rd] rfl rfl SL.out (by intro u hu; simp at hu; rcases hu with rfl | rfl <;> rfl) ?c1 ?c2 ?c3 ?_)
      case c1 => unfold maxLen; omega
      case c2 => omega
      case c3 => simp; omega
      intro v' w7 hown hgr hat
      have LP := T5.out.push1 ⟨rn, rd⟩ (by rw [hlen.out]; exact hown) hgr (by rw [z5]; exact hat)
      have b7 := T5.out.b2.upd (Upd.of_grownV hgr) (fun e => by have := (own_lt T5.out.o1 e).2; omega)
      have s7 := b7.cell (i := 0) rfl
      have f7 := b7.free
      rw [← ET.out] at LP
      replace LP := Lib.hid LP
      obtain ⟨a', c', rfl, _⟩ := own_shape hown
      clear hown hgr hat SL o1 T5 s0 sz b7
      go_wp2_with fail
      go_roundw
      case rel => exact ⟨p + 1, a', c', by omega, by go_num, LP⟩
      case measure => simp [intOf]; omega
    · obtain rfl : n = p := by omega
      rw [List.take_of_length_le (by rw [HNN.out]; omega)] at T
      have x0 := T.out.b0.cell (i := 0) rfl
      have x1 := T.out.b0.cell (i := 1) rfl
      have xz := T.out.b0.lt
      go_wp2_with fail
      go_loopw [51] (fun ix wr => Wh2Rel w ca fa cc fc n m tb (tb + 1) caps fls ix wr) (fun ix _ => m - (intOf ix).toNat)
      case atStart => exact ⟨0, a1, none, c1, 0, Nat.zero_le _, rfl, T⟩
      case round =>
        clear T x0 x1 xz
        obtain ⟨p, a1, a2, c1, c2, hp, rfl, T⟩ := hrel
        by_cases hpm : p < m
        · obtain ⟨f, ef, okf, f0, f1, f2, f3⟩ := (H.out.below T.out.u).f.f (k := p) (by rw [HMM.out]; exact hpm)
          have hc := HM.out.f f (List.mem_of_getElem? ef.out)
          have MU := fun w => mul_any f.dm ⟨1, 12⟩ w hc.sm twelfth
          have ET := take_map sFl ef.out
          have hr : sFl f = ⟨f.la, f.lc, f.lk, f.bd, f.dm.mul ⟨1, 12⟩⟩ := rfl
          rw [hr] at ET
          clear hc ef hr
          obtain ⟨la, lc, lk, bd, ⟨n0, d0⟩⟩ := f
          dsimp only at *
          generalize Rq.mul ⟨n0, d0⟩ ⟨1, 12⟩ = r at *
          have hlen : ((fls.take p).map sFl).length = p := by rw [List.length_map, List.length_take, HMM.out]; omega
          generalize (fls.take p).map sFl = L0 at *
          replace hlen := Lib.hid hlen
          unfold rV at MU
          obtain ⟨rn, rd⟩ := r
          dsimp only at *
          replace MU := Lib.hid MU
          replace ET := Lib.hid ET
          have FX : Hid (∀ y : Fw, y = ⟨la, lc, lk, bd, ⟨rn, rd⟩⟩ → fC y = [.slice la lk.length lc, .bool bd, .int .i64 rn, .int .i64 rd]) := fun y e => by subst e; rfl
          generalize lk.length = L at *
          have T1 := Lib.hid (T.out.below (alloc_belQ wr (.cells #[.slice la L lc, .bool bd, .int .i64 n0, .int .i64 d0] 35)))
          have X1 := Lib.hid (Blk.new wr 35 [.slice la L lc, .bool bd, .int .i64 n0, .int .i64 d0])
          have y0 := T.out.b1.cell (i := 0) rfl
          have y1 := T.out.b1.cell (i := 1) rfl
          have yz := T.out.b1.lt
          go_wp2_with fail
          refine (MU.out _).mono ?_
          rintro e w3 ⟨rfl, hb⟩
          have X3 := X1.out.bel hb
          have T3 := T1.out.below hb
          have k0 := X3.cell (i := 0) rfl
          have k1 := X3.cell (i := 1) rfl
          have k2 := X3.cell (i := 2) rfl
          have k3 := X3.cell (i := 3) rfl
          have kf := X3.free
          have kz := X3.lt
          have T4 := T3.upd (S := fun k => k = wr.heap.size) (((Upd.refl (fun k => k = wr.heap.size) w3).setCell ⟨wr.heap.size, 2, none⟩ (.int .i64 rn) (fun _ => rfl)).setCell ⟨wr.heap.size, 3, none⟩ (.int .i64 rd) (fun _ => rfl)) (fun k e => by subst e; exact T.out.new (Nat.le_refl _))
          have T5 := T4.below (alloc_belQ _ (.cells #[.slice la L lc, .bool bd, .int .i64 rn, .int .i64 rd] 35))
          have s0 := T3.b2.cell (i := 1) rfl
          have sz := T3.b2.lt
          have hne : tb + 1 ≠ wr.heap.size := by have := T.out.b2.lt; omega
          have SL := Lib.hid (fun j u (hj : [Value.slice la L lc, .bool bd, .int .i64 rn, .int .i64 rd][j]? = some u) => (⟨rfl, by rw [adr_mk, Nat.zero_add]; have := (Blk.new ((w3.setCell ⟨wr.heap.size, 2, none⟩ (.int .i64 rn)).setCell ⟨wr.heap.size, 3, none⟩ (.int .i64 rd)) 35 [.slice la L lc, .bool bd, .int .i64 rn, .int .i64 rd]).cell hj; simpa using this⟩ : okAd (some ⟨w3.heap.size, 0, none⟩) = true ∧ (((w3.setCell ⟨wr.heap.size, 2, none⟩ (.int .i64 rn)).setCell ⟨wr.heap.size, 3, none⟩ (.int .i64 rd)).alloc (.cells #[.slice la L lc, .bool bd, .int .i64 rn, .int .i64 rd] 35)).cell? (adr (some ⟨w3.heap.size, 0, none⟩) j) = some u))
          have z5 : (((w3.setCell ⟨wr.heap.size, 2, none⟩ (.int .i64 rn)).setCell ⟨wr.heap.size, 3, none⟩ (.int .i64 rd)).alloc (.cells #[.slice la L lc, .bool bd, .int .i64 rn, .int .i64 rd] 35)).heap.size = w3.heap.size + 1 := by simp
          have o2 := T5.o2
          rw [hlen.out] at o2
          replace o2 := Lib.hid o2
          replace T5 := Lib.hid T5
          clear T T1 T3 T4 X1 X3 y0 y1 yz hb
          go_wp2_with (at_builtin; refine wpList_append_cells rfl _ _ 23 rfl (tb + 1 + 1) 35 i2 _ 4 48 Try.underlying23 FI.out FZ0.out FZ1.out FZ2.out rfl (by decide) (.slice a2 p c2) p (flC fC L0) rfl o2.out (some ⟨w3.heap.size, 0, none⟩) 1 1 [.slice la L lc, .bool bd, .int .i64 rn, .int .i64 rd] rfl rfl SL.out (by intro u hu; simp at hu; rcases hu with rfl | rfl | rfl | rfl <;> rfl) ?c1 ?c2 ?c3 ?_)
          case c1 => unfold maxLen; omega
          case c2 => omega
          case c3 => simp; omega
          intro v' w7 hown hgr hat
          have LP := T5.out.push2 ⟨la, lc, lk, bd, ⟨rn, rd⟩⟩ (by rw [hlen.out, FX.out _ rfl]; exact hown) hgr (by rw [z5]; exact hat)
          have b7 := T5.out.b2.upd (Upd.of_grownV hgr) (fun e => by have := (own_lt T5.out.o2 e).2; omega)
          have s7 := b7.cell (i := 1) rfl
          have f7 := b7.free
          rw [← ET.out] at LP
          replace LP := Lib.hid LP
          obtain ⟨a', c', rfl, _⟩ := own_shape hown
          clear hown hgr hat SL o2 T5 s0 sz b7 k0 k1 k2 k3 kf kz FX
          go_wp2_with fail
          go_roundw
          case rel => exact ⟨p + 1, a1, a', c1, c', by omega, by go_num, LP⟩
          case measure => simp [intOf]; omega
        · obtain rfl : m = p := by omega
          rw [List.take_of_length_le (by rw [HMM.out]; omega)] at T
          have hsf : (fls.map sFl).length = m := by rw [List.length_map, HMM.out]
          have hsc : (caps.map c12).length = n := by rw [List.length_map, HNN.out]
          have NT : NetAt wr a1 a2 (caps.map c12) (fls.map sFl) := T.out.net (fun x hx => by
            obtain ⟨f, hf, rfl⟩ := List.mem_map.1 hx
            exact (H.out.below T.out.u).l f hf) (fun x hx => by
            obtain ⟨f, hf, rfl⟩ := List.mem_map.1 hx
            exact H.out.k f hf)
          have RT := rates_any wr a1 a2 c1 c2 (caps.map c12) (fls.map sFl) N NT HP.out
          have RS := fun w5 (q : Below wr.heap.size wr w5) rb R r fz V => reserved_any w5 a1 a2 c1 c2 (caps.map c12) (fls.map sFl) N (NT.below q) HP.out rb R r fz V
          unfold netV at RT RS
          rw [hsf, hsc] at RT RS
          replace NT := Lib.hid NT
          replace RT := Lib.hid RT
          replace RS := Lib.hid RS
          have HPm : Hid (N.m = m) := by have := HP.out.is.m; rw [hsf] at this; exact this
          have HPL : Hid (N.L = n) := by have := HP.out.is.L; rw [hsc] at this; exact this
          have HSF := Lib.hid hsf
          have HSC := Lib.hid hsc
          clear hsf hsc
          generalize caps.map c12 = cs at *
          generalize fls.map sFl = fs at *
          have x0 := T.out.b2.cell (i := 0) rfl
          have x1 := T.out.b2.cell (i := 1) rfl
          have xz := T.out.b2.lt
          go_wp2_with fail
          refine RT.out.mono ?_
          rintro e w5 ⟨rb, R, r, fz, V, rfl, hrb, RB, hR, hF, hfz, hb⟩
          have T5 := Lib.hid (T.out.below hb)
          have RSv := RS.out w5 hb rb R r fz V RB hR hF hfz
          replace NT := Lib.hid (NT.out.below hb)
          replace RSv := Lib.hid RSv
          replace RB := Lib.hid RB
          replace hR := Lib.hid hR
          replace hF := Lib.hid hF
          replace hfz := Lib.hid hfz
          clear x0 x1 xz T RT RS hb
          have x0 := T5.out.b2.cell (i := 0) rfl
          have x1 := T5.out.b2.cell (i := 1) rfl
          have xz := T5.out.b2.lt
          have y0 := T5.out.b0.cell (i := 0) rfl
          have y1 := T5.out.b0.cell (i := 1) rfl
          have yz := T5.out.b0.lt
          go_wp2_with fail
          refine RSv.out.mono ?_
          rintro e w6 ⟨rfl, hb⟩
          have T6 := Lib.hid (T5.out.below hb)
          replace NT := Lib.hid (NT.out.below hb)
          replace RB := Lib.hid (RB.out.bel hb)
          clear x0 x1 xz y0 y1 yz T5 RSv hb
          have x0 := T6.out.b2.cell (i := 0) rfl
          have x1 := T6.out.b2.cell (i := 1) rfl
          have xz := T6.out.b2.lt
          go_wp2_with fail
          clear x0 x1 xz
          go_loopw [94] (fun ix wr => Wh3Rel w6 n ix wr) (fun ix _ => n - (intOf ix).toNat)
          case atStart => exact ⟨0, Nat.zero_le _, rfl, Below.refl _ _⟩
          case round =>
            obtain ⟨p, hp, rfl, hB⟩ := hrel
            by_cases hpn : p < n
            · have T7 := T6.out.below hB.out
              have x0 := T7.b2.cell (i := 0) rfl
              have x1 := T7.b2.cell (i := 1) rfl
              have xz := T7.b2.lt
              clear T7
              go_wp2_with fail
              clear x0 x1 xz
              go_loopw [16, 100] (fun own ix wr => Wh4Rel w6 m (fun i => N.on p i) R own ix wr) (fun _ ix _ => m - (intOf ix).toNat)
              case atStart => exact ⟨0, none, 0, [], Nat.zero_le _, rfl, rfl, rfl, Nat.zero_le _, ⟨rfl, .inl ⟨rfl, rfl⟩⟩, hB⟩
              case round =>
                clear hB
                obtain ⟨i, a, c, rs, hi, rfl, rfl, hrs, hln, own, hB⟩ := hrel
                by_cases him : i < m
                · obtain ⟨f, ef, okf, f0, f1, f2, f3⟩ := (NT.out.below hB.out).f.f (k := i) (by rw [HSF.out]; exact him)
                  have LK := Lib.hid (NT.out.l f (List.mem_of_getElem? ef.out))
                  have ON := (HP.out.is.f i f ef.out).1 p (by rw [HPL.out]; exact hpn)
                  have LN := HP.out.lnk NT.out ef.out
                  have hlm := LN.l
                  have LD := Lib.hid LN.d
                  clear LN ef
                  obtain ⟨la, lc, lk, bd, ⟨n0, d0⟩⟩ := f
                  dsimp only at *
                  replace ON := Lib.hid ON
                  generalize hL : lk.length = L at *
                  have HL := Lib.hid hL
                  clear hL
                  have B5 : Hid (Below w6.heap.size w6 (wr.alloc (.cells #[.slice la L lc, .bool bd, .int .i64 n0, .int .i64 d0] 35))) := hB.out.alloc hB.out.size _
                  have own5 := Lib.hid (own_upd own.out (S := fun _ => False) (Upd.of_below (alloc_belQ wr (.cells #[.slice la L lc, .bool bd, .int .i64 n0, .int .i64 d0] 35))) (fun _ _ => id))
                  go_wp2_with fail
                  clear own hB
                  go_loopw [16, 108] (fun own' ix wr' => Wh5Rel w6 p lk (R i) rs own' ix wr') (fun _ ix _ => L - (intOf ix).toNat)
                  case atStart => exact ⟨0, a, c, rs, Nat.zero_le _, rfl, rfl, (by show _ = _; simp [addR]), by omega, own5, B5⟩
                  case round =>
                    clear B5 own5
                    obtain ⟨j, a', c', rs', hj, rfl, rfl, hrs', hln', own', hB'⟩ := hrel
                    rw [HL.out] at hj
                    by_cases hjL : j < L
                    · obtain ⟨x, ex, okx, fx⟩ := (LK.out.below hB'.out).get (k := j) (by rw [HL.out]; exact hjL)
                      have hnx := LD.out j x ex.out
                      have TK : lk.take (j + 1) = lk.take j ++ [x] := by rw [List.take_add_one, ex.out]; rfl
                      replace TK := Lib.hid TK
                      clear ex
                      by_cases hx : x = (p : Int)
                      · subst hx
                        have hrs2 : rs' = rs := by rw [hrs'.out, decide_eq_false hnx]; rfl
                        have hrs3 : Hid (rs' ++ [R i] = addR (decide ((p : Int) ∈ lk.take (j + 1))) (R i) rs) := by
                          show _ = _
                          rw [TK.out, decide_eq_true (List.mem_append_right _ (List.mem_singleton.2 rfl)), hrs2]; rfl
                        have hln3 : rs'.length ≤ i := by rw [hrs2]; exact hln
                        have hln4 : rs'.length ≤ rs.length := by rw [hrs2]; exact Nat.le_refl _
                        clear hrs2 hnx TK hrs'
                        have RB' := RB.out.bel hB'.out
                        have ge : ((List.range m).map R)[i]? = some (R i) := by simp [him]
                        have r0 : wr.cell? ⟨rb, i * 2, none⟩ = some (.int .i64 (R i).n) := RB'.cell (i := i * 2 + 0) (by rw [flC_get rC_len ge 0 (by omega)]; rfl)
                        have r1 : wr.cell? ⟨rb, i * 2 + 1, none⟩ = some (.int .i64 (R i).d) := RB'.cell (by rw [flC_get rC_len ge 1 (by omega)]; rfl)
                        clear ge RB'
                        have FX : rC (R i) = [.int .i64 (R i).n, .int .i64 (R i).d] := rfl
                        generalize R i = ri at *
                        obtain ⟨rn, rd⟩ := ri
                        dsimp only at *
                        replace FX := Lib.hid FX
                        have SL := Lib.hid (fun j u (hj : [Value.int .i64 rn, .int .i64 rd][j]? = some u) => (⟨rfl, by rw [adr_mk, Nat.zero_add]; exact (Blk.new wr 29 [.int .i64 rn, .int .i64 rd]).cell hj⟩ : okAd (some ⟨wr.heap.size, 0, none⟩) = true ∧ (wr.alloc (.cells #[.int .i64 rn, .int .i64 rd] 29)).cell? (adr (some ⟨wr.heap.size, 0, none⟩) j) = some u))
                        have B6 := Lib.hid (hB'.out.alloc hB'.out.size (.cells #[.int .i64 rn, .int .i64 rd] 29))
                        have own6 := Lib.hid (own_upd own'.out (S := fun _ => False) (Upd.of_below (alloc_belQ wr (.cells #[.int .i64 rn, .int .i64 rd] 29))) (fun _ _ => id))
                        have hz6 := hB'.out.size
                        clear own' hB'
                        generalize hll : rs'.length = ll at *
                        replace hll := Lib.hid hll
                        go_wp2_with (at_builtin; refine wpList_append_cells rfl _ _ 22 rfl w6.heap.size 29 i1 _ 2 16 Try.underlying22 JI.out JZ0.out JZ1.out JZ2.out rfl (by decide) (.slice a' ll c') ll (flC rC rs') rfl own6.out (some ⟨wr.heap.size, 0, none⟩) 1 1 [.int .i64 rn, .int .i64 rd] rfl rfl SL.out (by intro u hu; simp at hu; rcases hu with rfl | rfl <;> rfl) ?c1 ?c2 ?c3 ?_)
                        case c1 => unfold maxLen; omega
                        case c2 => omega
                        case c3 => simp; omega
                        intro v' w9 hown hgr hat
                        have B9 := Lib.hid (Upd.below B6.out (Upd.of_grownV hgr) (by have := B6.out.size; omega) (fun k hk => (own_lt own6.out hk).2))
                        have O9 : w9.ownsRow w6.heap.size 29 2 v' (rs' ++ [(⟨rn, rd⟩ : Rq)]).length (flC rC (rs' ++ [(⟨rn, rd⟩ : Rq)])) := by
                          rw [List.length_append, flC_append, flC_one, hll.out, FX.out]; exact hown
                        replace O9 := Lib.hid O9
                        obtain ⟨a'', c'', rfl, _⟩ := own_shape hown
                        clear hown hgr hat SL B6 own6
                        go_wp2_with fail
                        go_roundw
                        case rel => exact ⟨j + 1, a'', c'', rs' ++ [⟨rn, rd⟩], by rw [HL.out]; omega, by go_num, by rw [List.length_append, hll.out]; rfl, hrs3, by rw [List.length_append, hll.out, List.length_singleton]; omega, O9, B9⟩
                        case measure => simp [intOf]; omega
                      · have hrs3 : Hid (rs' = addR (decide ((p : Int) ∈ lk.take (j + 1))) (R i) rs) := by
                          show _ = _
                          rw [TK.out, hrs'.out]
                          congr 1
                          rw [decide_eq_decide, List.mem_append, List.mem_singleton]
                          exact ⟨.inl, fun h => h.elim id fun e => absurd e.symm hx⟩
                        clear TK hnx hrs'
                        go_wp2_with fail
                        go_roundw
                        case rel => exact ⟨j + 1, a', c', rs', by rw [HL.out]; omega, by go_num, rfl, hrs3, hln', own', hB'⟩
                        case measure => simp [intOf]; omega
                    · have hrs3 : Hid (rs' = pickR (fun i => N.on p i) R (i + 1)) := by
                        show _ = _
                        rw [hrs'.out, List.take_of_length_le (by rw [HL.out]; omega), hrs.out, ← ON.out]
                        exact addR_pick (fun i => N.on p i) R i
                      clear hrs'
                      go_wp2_with fail
                      go_roundw
                      case rel => exact ⟨i + 1, a', c', rs', by omega, by go_num, rfl, hrs3, by omega, own', hB'⟩
                      case measure => simp [intOf]; omega
                · obtain rfl : m = i := by omega
                  have e1 : uU = 1244160 := rfl
                  have hRts : Rts rs (fun j => (pick (fun i => N.on p i) r m).getD j 0) := by
                    rw [hrs.out]
                    refine pick_rts (fun i hi ho => ⟨hR.out i hi, ?_⟩) ?_
                    · have := hF.out.rt i (by rw [HPm.out]; exact hi) (hfz.out i hi)
                      exact ⟨this.1, this.2.1⟩
                    · have h1 := link_sum hF.out (fun i hi => hfz.out i (by rw [HPm.out] at hi; exact hi)) (l := p) (by rw [HPL.out]; exact hpn)
                      rw [HPm.out] at h1
                      have h2 := (HP.out.ok.C p (by rw [HPL.out]; exact hpn)).2.2
                      omega
                  have PC := paced_any wr a c rs _ (tk % 201) (SlC.own rC_len (by decide) own.out) hRts (by omega) (by omega) hRts.sN
                  replace PC := Lib.hid PC
                  clear hRts own hrs
                  go_wp2_with fail
                  refine PC.out.mono ?_
                  rintro e w8 ⟨rfl, hb⟩
                  have B8 := Lib.hid (below_then hB.out hb hB.out.size)
                  clear hb hB
                  go_wp2_with fail
                  go_roundw
                  case rel => exact ⟨p + 1, by omega, by go_num, B8⟩
                  case measure => simp [intOf]; omega
            · obtain rfl : n = p := by omega
              have UF := Lib.hid (below_then T6.out.u hB.out T6.out.u.size)
              go_wp2_with fail
              go_ret
              exact ⟨rfl, UF.out⟩
end Go.Proofs.Ytbdaehcngmhhcaa
