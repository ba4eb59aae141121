/-
  Contract of (*Crossbar).round.
-/
import Derived.Test.YtkooihniieepcaaBarFst
import Derived.BigRegion
namespace Go.Proofs.Ytkooihniieepcaa
open Go.RowKit
set_option linter.unusedVariables false

theorem Qt.drewN' (w : World) (n : Nat) : Qt w (w.drewN n) := ⟨n, rfl⟩
theorem fst_congr {p q : Nat → Bool} {n f : Nat} (h : ∀ x < n, p x = q x) (hf : f < n) : Bar.fst p n f = Bar.fst q n f := by
  have : ∀ k, Bar.fv p n f k = Bar.fv q n f k := by
    intro k
    induction k with
    | zero => rfl
    | succ k ih =>
      unfold Bar.fv
      rw [ih, h _ (Nat.mod_lt _ (by omega))]
  exact this n
/-- The grants after the first k outputs. -/
def grK (req : Nat → Nat → Bool) (n : Nat) (s : Bar.St) (k : Nat) (j : Nat) : Int := if j < k then Bar.grv req n s j else 0
theorem grK_zero (req : Nat → Nat → Bool) (n : Nat) (s : Bar.St) : grK req n s 0 = fun _ => 0 := by funext j; simp [grK]
theorem grK_succ (req : Nat → Nat → Bool) (n : Nat) (s : Bar.St) (k : Nat) : Bar.upd (grK req n s k) k (Bar.grv req n s k) = grK req n s (k + 1) := by
  funext j
  unfold Bar.upd grK
  by_cases e : j = k
  · subst e; simp
  · rw [if_neg e]
    by_cases h : j < k
    · rw [if_pos h, if_pos (by omega)]
    · rw [if_neg h, if_neg (by omega)]
theorem upd_upd {α : Type} (f : Nat → α) (k : Nat) (x y : α) : Bar.upd (Bar.upd f k x) k y = Bar.upd f k y := by
  funext j; by_cases e : j = k <;> simp [Bar.upd, e]
theorem kkv_grK {req : Nat → Nat → Bool} {n : Nat} {s : Bar.St} {a : Nat → Nat} {i : Nat} (h : a i < n) : Bar.fst (fun k => grK req n s n k == (i : Int)) n (a i) = Bar.kkv n (Bar.grv req n s) a i :=
  fst_congr (fun x hx => by unfold grK; rw [if_pos hx]) h

/-- The memory of a round: requests at a0 (n of n), the matching at block mb, the taken outputs at tb, the crossbar at cb. -/
structure RndAt (w : World) (cb mb tb : Nat) (a0 : Option Addr) (rs : List (RowOf Bool)) (n : Nat) (s : Bar.St) : Prop where
  bar : BarAt w cb n s.g s.a
  m : Fun w mb 3 n (iF s.m)
  t : Fun w tb 113 8 (bF s.t)
  rq : Req w a0 rs
theorem RndAt.below {w w' : World} {cb mb tb : Nat} {a0 : Option Addr} {rs : List (RowOf Bool)} {n : Nat} {s : Bar.St} (h : RndAt w cb mb tb a0 rs n s) (b : Below w.heap.size w w') : RndAt w' cb mb tb a0 rs n s :=
  ⟨h.bar.below b, h.m.below b, h.t.below b, h.rq.below b⟩

/-- What the first loop keeps. -/
structure RL1 (W : World) (mb n : Nat) (a0 : Option Addr) (c0 : Nat) (gr : Nat → Int) (w : World) : Prop where
  hr : Blk w W.heap.size 92 [.slice a0 n c0]
  hm : Blk w (W.heap.size + 1) 22 [.slice (some ⟨mb, 0, none⟩) n n]
  hg : Fun w (W.heap.size + 1 + 1) 71 8 (iF gr)
  bel : Below W.heap.size W w
theorem RL1.below {W : World} {mb n : Nat} {a0 : Option Addr} {c0 : Nat} {gr : Nat → Int} {w w' : World} (h : RL1 W mb n a0 c0 gr w) (b : Below w.heap.size w w') : RL1 W mb n a0 c0 gr w' :=
  have u : Upd (fun _ => False) w w' := Upd.of_below b
  ⟨h.hr.upd u id, h.hm.upd u id, h.hg.upd u id, h.bel.trans (b.mono h.bel.size)⟩
theorem RL1.set {W : World} {mb n : Nat} {a0 : Option Addr} {c0 : Nat} {gr : Nat → Int} {w : World} (h : RL1 W mb n a0 c0 gr w) {k : Nat} (hk : k < 8) (x : Int) : RL1 W mb n a0 c0 (Bar.upd gr k x) (w.setCell ⟨W.heap.size + 1 + 1, k, none⟩ (.int .i64 x)) :=
  ⟨h.hr.setO _ (by simp; omega), h.hm.setO _ (by simp), by rw [← iF_upd]; exact h.hg.set hk _, h.bel.setCell (by simp; omega) _⟩
def RR1 (W : World) (mb n : Nat) (a0 : Option Addr) (c0 : Nat) (req : Nat → Nat → Bool) (s : Bar.St) (i : Value) (w : World) : Prop :=
  ∃ k : Nat, k ≤ n ∧ i = .int .i64 k ∧ RL1 W mb n a0 c0 (grK req n s k) w
def RndPost (w : World) (cb mb tb : Nat) (a0 : Option Addr) (rs : List (RowOf Bool)) (n : Nat) (s : Bar.St) (e : Ending) (w' : World) : Prop :=
  e = .returned (.tuple #[]) ∧ RndAt w' cb mb tb a0 rs n s ∧ Upd (fun j => j = cb ∨ j = mb ∨ j = tb) w w'

/-- What the region of the grant may load: one block alone is written. -/
def R7 (gb : Nat) (w3 w : World) : Prop := Upd (fun j => j = gb) w3 w
theorem R7.drew {gb : Nat} {w3 w : World} (h : R7 gb w3 w) : R7 gb w3 w.drew := Upd.drew h
theorem R7.drewN {gb : Nat} {w3 w : World} (h : R7 gb w3 w) (n : Nat) : R7 gb w3 (w.drewN n) := Upd.drewN h n
theorem R7.qt {gb : Nat} {w3 w : World} (h : Qt w3 w) : R7 gb w3 w := Upd.qt (Upd.refl _ _) h
theorem R7.set {gb : Nat} {w3 w : World} (h : R7 gb w3 w) (k : Nat) (v : Value) : R7 gb w3 (w.setCell ⟨gb, k, none⟩ v) := Upd.setCell h _ _ fun _ => rfl
def S7 (gb kb cb k n : Nat) (g : Nat → Nat) (w3 w : World) : Prop :=
  w.cell? ⟨kb, 0, none⟩ = some (.int .i64 k) ∧ w.cell? ⟨cb, 0, none⟩ = some (.int .i64 n) ∧ w.cell? ⟨cb, 1 + k, none⟩ = some (.int .i64 (g k)) ∧ R7 gb w3 w
theorem R7.s {gb kb cb k n : Nat} {g a : Nat → Nat} {w3 w : World} (h : R7 gb w3 w) (hk : k < 8) (d : Hid (Blk w3 kb 3 [.int .i64 k] ∧ BarAt w3 cb n g a ∧ kb ≠ gb ∧ cb ≠ gb)) : S7 gb kb cb k n g w3 w := by
  obtain ⟨d1, d2, d3, d4⟩ := d.out
  have e1 := d1.upd h (fun e => d3 e)
  have e2 := d2.upd h (fun e => d4 e)
  exact ⟨e1.cell (i := 0) rfl, e2.n, e2.g hk, h⟩

/-- What the second loop keeps. -/
structure RL2 (W : World) (cb mb tb : Nat) (a0 : Option Addr) (rs : List (RowOf Bool)) (n : Nat) (gr : Nat → Int) (s : Bar.St) (w : World) : Prop where
  hm : Blk w (W.heap.size + 1) 22 [.slice (some ⟨mb, 0, none⟩) n n]
  hg : Fun w (W.heap.size + 1 + 1) 71 8 (iF gr)
  at_ : RndAt w cb mb tb a0 rs n s
  upd : Upd (fun j => j = cb ∨ j = mb ∨ j = tb) W w
theorem RL2.below {W : World} {cb mb tb n : Nat} {a0 : Option Addr} {rs : List (RowOf Bool)} {gr : Nat → Int} {s : Bar.St} {w w' : World} (h : RL2 W cb mb tb a0 rs n gr s w) (b : Below w.heap.size w w') : RL2 W cb mb tb a0 rs n gr s w' :=
  have u : Upd (fun _ => False) w w' := Upd.of_below b
  ⟨h.hm.upd u id, h.hg.upd u id, h.at_.below b, h.upd.then u fun _ _ e => e.elim⟩
def RR2 (W : World) (cb mb tb : Nat) (a0 : Option Addr) (rs : List (RowOf Bool)) (n : Nat) (gr : Nat → Int) (adv : Bool) (grv : Nat → Int) (s : Bar.St) (i : Value) (w : World) : Prop :=
  ∃ j : Nat, j ≤ n ∧ i = .int .i64 j ∧ RL2 W cb mb tb a0 rs n gr (Bar.accN n adv grv s j) w

set_option maxHeartbeats 4000000 in
set_option maxRecDepth 100000 in
theorem round_any (W : World) (cb mb tb : Nat) (a0 : Option Addr) (c0 n : Nat) (rs : List (RowOf Bool)) (s : Bar.St) (adv : Bool) (h : RndAt W cb mb tb a0 rs n s)
    (hn : rs.length = n) (hr : ∀ r ∈ rs, r.xs.length = n) (h1 : 1 ≤ n) (h8 : n ≤ 8) (hg : ∀ k < n, s.g k < n) (ha : ∀ i < n, s.a i < n) (n1 : cb ≠ mb) (n2 : cb ≠ tb) (n3 : mb ≠ tb) (off : Off a0 rs (fun j => j = cb ∨ j = mb ∨ j = tb)) :
    Calls Try.prog 55 #[.pointer (some ⟨cb, 0, none⟩), .slice a0 n c0, .slice (some ⟨mb, 0, none⟩) n n, .pointer (some ⟨tb, 0, none⟩), .bool adv] W
      (RndPost W cb mb tb a0 rs n (Bar.round (reqF rs) n adv s)) := by
  have OFF := Lib.hid off; clear off
  have H := Lib.hid h; have HN := Lib.hid hn; have HR := Lib.hid hr; have HG := Lib.hid hg; have HA := Lib.hid ha
  have l1 := h.bar.lt
  have l2 := h.m.lt
  have l3 := h.t.lt
  have L0 : Hid (RL1 W mb n a0 c0 (grK (reqF rs) n s 0) (((W.alloc (.cells #[.slice a0 n c0] 92)).alloc (.cells #[.slice (some ⟨mb, 0, none⟩) n n] 22)).alloc (.cells #[.int .i64 0, .int .i64 0, .int .i64 0, .int .i64 0, .int .i64 0, .int .i64 0, .int .i64 0, .int .i64 0] 71))) := by
    refine ⟨((Blk.new W _ [.slice a0 n c0]).alloc _).alloc _, ?_, ?_, ((((Below.refl _ W).alloc (Nat.le_refl _) _).alloc (by simp) _).alloc (by simp; omega) _)⟩
    · have := (Blk.new (W.alloc (.cells #[.slice a0 n c0] 92)) 22 [.slice (some ⟨mb, 0, none⟩) n n]).alloc (.cells #[.int .i64 0, .int .i64 0, .int .i64 0, .int .i64 0, .int .i64 0, .int .i64 0, .int .i64 0, .int .i64 0] 71)
      rw [World.size_alloc] at this
      exact this
    · have := Blk.new ((W.alloc (.cells #[.slice a0 n c0] 92)).alloc (.cells #[.slice (some ⟨mb, 0, none⟩) n n] 22)) 71 [.int .i64 0, .int .i64 0, .int .i64 0, .int .i64 0, .int .i64 0, .int .i64 0, .int .i64 0, .int .i64 0]
      rw [World.size_alloc, World.size_alloc] at this
      rw [grK_zero]
      exact this
  have N0 := (H.out.below L0.out.bel).bar.n
  clear h hn hr hg ha
  go_enter Try.func55, Try.ntmps55
  go_wp2_with fail
  go_loopw [18] (fun i wr => RR1 W mb n a0 c0 (reqF rs) s i wr) (fun i _ => n - (intOf i).toNat)
  case atStart => exact ⟨0, Nat.zero_le _, rfl, L0.out⟩
  case round =>
    clear N0 L0
    obtain ⟨k, hk, rfl, hL⟩ := hrel
    have L := Lib.hid hL; clear hL
    by_cases hlt : k < n
    · -- the variable of the round
      have Q := Lib.hid (H.out.below L.out.bel)
      have hsz := L.out.bel.size
      have b1 : Below wr.heap.size wr (wr.alloc (.cells #[.int .i64 k] 3)) := (Below.refl _ _).alloc (Nat.le_refl _) _
      have LA := Lib.hid ((L.out.below b1).set (k := k) (by omega) (-1))
      have KB : Hid (Blk ((wr.alloc (.cells #[.int .i64 k] 3)).setCell ⟨W.heap.size + 1 + 1, k, none⟩ (.int .i64 (-1))) wr.heap.size 3 [.int .i64 k]) := (Blk.new wr 3 [.int .i64 k]).setO _ (by have := L.out.hg.lt; simp; omega)
      have QA := Lib.hid (H.out.below LA.out.bel)
      have g0 : (wr.alloc (.cells #[.int .i64 k] 3)).cell? ⟨W.heap.size + 1 + 1, k, none⟩ = some (iF (grK (reqF rs) n s k) k) := (L.out.below b1).hg.cell (by omega)
      have g1 := (L.out.below b1).hg.free k
      have kc := KB.out.cell (i := 0) rfl
      have tc : ((wr.alloc (.cells #[.int .i64 k] 3)).setCell ⟨W.heap.size + 1 + 1, k, none⟩ (.int .i64 (-1))).cell? ⟨tb, k, none⟩ = some (.bool (s.t k)) := QA.out.t.cell (by omega)
      have k8 : (k : Int) < 8 := by omega
      have kn : (k : Int) < (n : Int) := by omega
      have N1 := (H.out.below L.out.bel).bar.n
      clear b1
      cases ht : s.t k with
      | true =>
        rw [ht] at tc
        have FIN : Hid (RL1 W mb n a0 c0 (grK (reqF rs) n s (k + 1)) ((wr.alloc (.cells #[.int .i64 k] 3)).setCell ⟨W.heap.size + 1 + 1, k, none⟩ (.int .i64 (-1)))) := by
          have e := grK_succ (reqF rs) n s k
          have e2 : Bar.grv (reqF rs) n s k = -1 := by simp [Bar.grv, ht]
          rw [e2] at e
          rw [← e]
          exact LA.out
        clear ht
        go_wp2_with fail
        go_quiet (fail)
        go_wp2_with fail
        go_roundw
        case rel => exact ⟨k + 1, by omega, by go_num, FIN.out.below (Qt.drewN' _ _).bel⟩
        case measure => simp [intOf]; omega
      | false =>
        rw [ht] at tc
        have gv : Hid (Bar.grv (reqF rs) n s k = Bar.fst (fun i => decide (s.m i < 0) && reqF rs i k) n (s.g k)) := by show _ = _; simp [Bar.grv, ht]
        clear ht
        go_wp2_with fail
        go_quiet (fail)
        go_wp2_with fail
        rename_i nq
        have q3 : Qt ((wr.alloc (.cells #[.int .i64 k] 3)).setCell ⟨W.heap.size + 1 + 1, k, none⟩ (.int .i64 (-1))) (((wr.alloc (.cells #[.int .i64 k] 3)).setCell ⟨W.heap.size + 1 + 1, k, none⟩ (.int .i64 (-1))).drewN nq) := Qt.drewN' _ _
        have L3 := Lib.hid (LA.out.below q3.bel)
        have K3 := Lib.hid (KB.out.qt q3)
        have Q3 := Lib.hid (QA.out.below q3.bel)
        generalize (((wr.alloc (.cells #[.int .i64 k] 3)).setCell ⟨W.heap.size + 1 + 1, k, none⟩ (.int .i64 (-1))).drewN nq) = w3 at *
        generalize hkb : wr.heap.size = kb at *
        have C7 : Hid (∀ w', Qt w3 w' → Calls Try.prog 59 #[.int .i64 n, .int .i64 (s.g k), .func (.func 60) #[] #[.pointer (some ⟨W.heap.size + 1, 0, none⟩), .pointer (some ⟨W.heap.size, 0, none⟩), .pointer (some ⟨kb, 0, none⟩)]] w' fun e w'' =>
            e = .returned (.int .i64 (Bar.grv (reqF rs) n s k)) ∧ Qt w3 w'') := by
          intro w' hq
          have := first1_any w' (W.heap.size + 1) W.heap.size kb mb a0 c0 n k (s.g k) rs s.m (Clo1.below ⟨L3.out.hm, L3.out.hr, K3.out, Q3.out.m, Q3.out.rq⟩ hq.bel) HN.out HR.out hlt (HG.out k hlt) h8
          rw [gv.out]
          exact this.mono fun e w'' h => ⟨h.1, hq.trans h.2⟩
        have D7 : Hid (Blk w3 kb 3 [.int .i64 k] ∧ BarAt w3 cb n s.g s.a ∧ kb ≠ W.heap.size + 1 + 1 ∧ cb ≠ W.heap.size + 1 + 1) := ⟨K3.out, Q3.out.bar, by have := L.out.hg.lt; omega, by omega⟩
        have R0 : Hid (S7 (W.heap.size + 1 + 1) kb cb k n s.g w3 w3) := R7.s (R7.qt (Qt.refl _)) (by omega) D7
        have s0 := R0.out
        unfold S7 at s0
        obtain ⟨s1, s2, s3, s4⟩ := s0
        have G3 : Hid (∀ w', Qt w3 w' → w'.cell? ⟨W.heap.size + 1 + 1, k, none⟩ = some (.int .i64 (-1)) ∧ w'.frozen? ⟨W.heap.size + 1 + 1, k, none⟩ = false) := fun w' hq => by
          have h := (L3.out.below hq.bel).hg
          exact ⟨by rw [h.cell (by omega), iF, Bar.upd_same], h.free k⟩
        generalize hgv : Bar.grv (reqF rs) n s k = gv0 at C7
        have HGV := Lib.hid hgv
        clear hgv g0 g1 kc tc N1 KB LA QA Q q3 hkb
        have k8b : k < 8 := by omega
        go_region_held3 (fun w' => w'.cell? ⟨kb, 0, none⟩ = some (.int .i64 k) ∧ w'.cell? ⟨cb, 0, none⟩ = some (.int .i64 n) ∧ w'.cell? ⟨cb, 1 + k, none⟩ = some (.int .i64 (s.g k)) ∧ R7 (W.heap.size + 1 + 1) w3 w')
          ((go_split_ands; first | exact R7.s (R7.qt (by assumption)) k8b D7 | exact R7.s (R7.drew (by assumption)) k8b D7 | exact R7.s (R7.set (by assumption) _ _) k8b D7 | exact R7.s (by assumption) k8b D7 | go_keep))
          (first
            | (go_at_call 59; go_split_ands; refine (C7.out _ (by first | exact Qt.refl _ | exact (Qt.refl _).drew)).mono ?_; rintro e w5 ⟨rfl, hq5⟩; have g5 := G3.out _ hq5; obtain ⟨g5a, g5b⟩ := g5))
        have FIN : Hid (RL1 W mb n a0 c0 (grK (reqF rs) n s (k + 1)) (w5.setCell ⟨W.heap.size + 1 + 1, k, none⟩ (.int .i64 gv0))) := by
          have h := (L3.out.below hq5.bel).set (k := k) (by omega) gv0
          rw [upd_upd, ← HGV.out, grK_succ] at h
          rw [← HGV.out]
          exact h
        clear hq5 g5a g5b
        rename_i hHeld
        clear hHeld s1 s2 s3 s4
        go_wp2_with fail
        go_roundw
        case rel => exact ⟨k + 1, by omega, by go_num, FIN.out⟩
        case measure => simp [intOf]; omega
    · obtain rfl : n = k := by omega
      have N1 := (H.out.below L.out.bel).bar.n
      have I0 : Hid (RL2 W cb mb tb a0 rs n (grK (reqF rs) n s n) s wr) := ⟨L.out.hm, L.out.hg, H.out.below L.out.bel, Upd.of_below L.out.bel⟩
      clear L
      go_wp2_with fail
      go_loopw [48] (fun i wr => RR2 W cb mb tb a0 rs n (grK (reqF rs) n s n) adv (Bar.grv (reqF rs) n s) s i wr) (fun i _ => n - (intOf i).toNat)
      case atStart => exact ⟨0, Nat.zero_le _, rfl, I0.out⟩
      case round =>
        clear N1 I0 hlt hk
        obtain ⟨i, hi, rfl, hL⟩ := hrel
        have hai : (Bar.accN n adv (Bar.grv (reqF rs) n s) s i).a i = s.a i := by
          rw [(Bar.accN_spec n adv (Bar.grv (reqF rs) n s) s HA.out i hi).a i]; simp
        have hac : Hid (Bar.accN n adv (Bar.grv (reqF rs) n s) s (i + 1) = Bar.accS n adv (Bar.grv (reqF rs) n s) (Bar.accN n adv (Bar.grv (reqF rs) n s) s i) i) := rfl
        generalize hsi : Bar.accN n adv (Bar.grv (reqF rs) n s) s i = si at hL hai hac
        have HSI := Lib.hid hsi; clear hsi
        have HAI := Lib.hid hai; have L := Lib.hid hL
        clear hL hai
        by_cases hlt : i < n
        · have b1 : Below wr.heap.size wr (wr.alloc (.cells #[.int .i64 i] 3)) := (Below.refl _ _).alloc (Nat.le_refl _) _
          have LA := Lib.hid (L.out.below b1)
          have IB := Lib.hid (Blk.new wr 3 [.int .i64 i])
          have hl := LA.out.hg.lt
          have hw := L.out.upd.size
          have hib : W.heap.size + 1 + 1 < wr.heap.size := L.out.hg.lt
          have hsia : si.a i < n := by rw [HAI.out]; exact HA.out i hlt
          have kkr := fun y e => Bar.kk_gr (n := n) (gr := Bar.grv (reqF rs) n s) (a := si.a) (i := i) (y := y) hsia e
          have KKR := Lib.hid kkr
          have C12 : Hid (∀ w', Qt (wr.alloc (.cells #[.int .i64 i] 3)) w' → Calls Try.prog 59 #[.int .i64 n, .int .i64 (si.a i), .func (.func 61) #[] #[.pointer (some ⟨W.heap.size + 1 + 1, 0, none⟩), .pointer (some ⟨wr.heap.size, 0, none⟩)]] w' fun e w'' =>
              e = .returned (.int .i64 (Bar.kkv n (Bar.grv (reqF rs) n s) si.a i)) ∧ Qt (wr.alloc (.cells #[.int .i64 i] 3)) w'') := by
            intro w' hq
            have := first2_any w' (W.heap.size + 1 + 1) wr.heap.size i n (si.a i) (grK (reqF rs) n s n) (Clo2.below ⟨LA.out.hg, IB.out⟩ hq.bel) hsia h8
            rw [← kkv_grK hsia]
            exact this.mono fun e w'' h => ⟨h.1, hq.trans h.2⟩
          have hac2 : Hid (Bar.accN n adv (Bar.grv (reqF rs) n s) s (i + 1) = if Bar.kkv n (Bar.grv (reqF rs) n s) si.a i < 0 then si else ⟨Bar.upd si.m i (Bar.kkv n (Bar.grv (reqF rs) n s) si.a i), Bar.upd si.t (Bar.kkv n (Bar.grv (reqF rs) n s) si.a i).toNat true, if adv then Bar.upd si.g (Bar.kkv n (Bar.grv (reqF rs) n s) si.a i).toNat ((i + 1) % n) else si.g, if adv then Bar.upd si.a i (((Bar.kkv n (Bar.grv (reqF rs) n s) si.a i).toNat + 1) % n) else si.a⟩) := hac.out
          generalize hkk : Bar.kkv n (Bar.grv (reqF rs) n s) si.a i = kk at *
          have x1 := LA.out.at_.bar.n
          have x2 := LA.out.at_.bar.a (k := i) (by omega)
          have x3 := IB.out.cell (i := 0) rfl
          have i8 : (i : Int) < 8 := by omega
          clear hkk kkr b1 hac hsia
          by_cases hk : kk < 0
          · have E : Hid (Bar.accN n adv (Bar.grv (reqF rs) n s) s (i + 1) = si) := by show _ = _; rw [hac2.out, if_pos hk]
            clear hac2
            go_wp2_with fail
            go_quiet ((go_at_call 59; exact C12.out _ (Qt.drewN' _ _)))
            go_wp2_with fail
            go_roundw
            case rel => exact ⟨i + 1, by omega, by go_num, by rw [E.out]; exact LA.out.below (Qt.drewN' _ _).bel⟩
            case measure => simp [intOf]; omega
          · obtain ⟨c, rfl⟩ := Int.eq_ofNat_of_zero_le (show 0 ≤ kk by omega)
            have hcn : c < n := (KKR.out c rfl).1
            have c8 : (c : Int) < 8 := by omega
            have i_n : (i : Int) < (n : Int) := by omega
            have E : Hid (Bar.accN n adv (Bar.grv (reqF rs) n s) s (i + 1) = ⟨Bar.upd si.m i (c : Int), Bar.upd si.t c true, if adv then Bar.upd si.g c ((i + 1) % n) else si.g, if adv then Bar.upd si.a i ((c + 1) % n) else si.a⟩) := by show _ = _; rw [hac2.out, if_neg hk]; rfl
            clear hac2 hk
            go_wp2_with fail
            go_quiet ((go_at_call 59; exact C12.out _ (Qt.drewN' _ _)))
            rename_i nq
            have q3 : Qt (wr.alloc (.cells #[.int .i64 i] 3)) ((wr.alloc (.cells #[.int .i64 i] 3)).drewN nq) := Qt.drewN' _ _
            have LB := Lib.hid (LA.out.below q3.bel)
            have IB3 := Lib.hid (IB.out.qt q3)
            clear q3 C12 LA IB x1 x2 x3
            generalize ((wr.alloc (.cells #[.int .i64 i] 3)).drewN nq) = wB at *
            generalize hib' : wr.heap.size = ib at *
            clear hib'
            -- the stores
            have y1 := LB.out.hm.cell (i := 0) rfl
            have y2 := IB3.out.cell (i := 0) rfl
            have y3 : wB.cell? ⟨mb, i, none⟩ = some (iF si.m i) := LB.out.at_.m.cell hlt
            have y4 := LB.out.at_.m.free i
            have T1 : Hid (Fun (wB.setCell ⟨mb, i, none⟩ (.int .i64 c)) tb 113 8 (bF si.t)) := LB.out.at_.t.setO _ (fun e => n3 e.symm)
            have z1 : (wB.setCell ⟨mb, i, none⟩ (.int .i64 c)).cell? ⟨tb, c, none⟩ = some (bF si.t c) := T1.out.cell (by omega)
            have z2 := T1.out.free c
            have M2 : Hid (Fun ((wB.setCell ⟨mb, i, none⟩ (.int .i64 c)).setCell ⟨tb, c, none⟩ (.bool true)) mb 3 n (iF (Bar.upd si.m i (c : Int)))) := by
              rw [← iF_upd]
              exact (LB.out.at_.m.set hlt _).setO _ n3
            have T2 : Hid (Fun ((wB.setCell ⟨mb, i, none⟩ (.int .i64 c)).setCell ⟨tb, c, none⟩ (.bool true)) tb 113 8 (bF (Bar.upd si.t c true))) := by
              rw [← bF_upd]
              exact T1.out.set (by omega) _
            have B2 : Hid (BarAt ((wB.setCell ⟨mb, i, none⟩ (.int .i64 c)).setCell ⟨tb, c, none⟩ (.bool true)) cb n si.g si.a) := (Fun.setO LB.out.at_.bar (a := ⟨mb, i, none⟩) _ n1).setO _ n2
            have U2 : Hid (Upd (fun j => j = cb ∨ j = mb ∨ j = tb) wB ((wB.setCell ⟨mb, i, none⟩ (.int .i64 c)).setCell ⟨tb, c, none⟩ (.bool true))) :=
              ((Upd.refl _ _).setCell _ _ fun _ => .inr (.inl rfl)).setCell _ _ fun _ => .inr (.inr rfl)
            have R2 : Hid (Req ((wB.setCell ⟨mb, i, none⟩ (.int .i64 c)).setCell ⟨tb, c, none⟩ (.bool true)) a0 rs) := LB.out.at_.rq.upd U2.out OFF.out
            have b0 := B2.out.n
            have b1 := B2.out.g (k := c) (by omega)
            have b2 := B2.out.free (1 + c)
            have b3 : ((wB.setCell ⟨mb, i, none⟩ (.int .i64 c)).setCell ⟨tb, c, none⟩ (.bool true)).cell? ⟨ib, 0, none⟩ = some (.int .i64 i) := (IB3.out.setO _ (by have := LB.out.at_.m.lt; simp; omega)).setO _ (by simp; omega) |>.cell (i := 0) rfl
            cases adv with
            | false =>
              have FIN : Hid (RL2 W cb mb tb a0 rs n (grK (reqF rs) n s n) (Bar.accN n false (Bar.grv (reqF rs) n s) s (i + 1)) ((wB.setCell ⟨mb, i, none⟩ (.int .i64 c)).setCell ⟨tb, c, none⟩ (.bool true))) := by
                rw [E.out]
                exact ⟨LB.out.hm.upd U2.out (by omega), LB.out.hg.upd U2.out (by omega), ⟨B2.out, M2.out, T2.out, R2.out⟩, LB.out.upd.trans (U2.out.mono fun _ _ h => h)⟩
              go_wp2_with fail
              go_roundw
              case rel => exact ⟨i + 1, by omega, by go_num, FIN.out⟩
              case measure => simp [intOf]; omega
            | true =>
              go_wp2_with fail
              have hm1 : ((i : Int) + 1) % (n : Int) = (((i + 1) % n : Nat) : Int) := by simp
              have hm2 : ((c : Int) + 1) % (n : Int) = (((c + 1) % n : Nat) : Int) := by simp
              have HM1 := Lib.hid hm1; have HM2 := Lib.hid hm2
              clear hm1 hm2
              generalize ((wB.setCell ⟨mb, i, none⟩ (.int .i64 c)).setCell ⟨tb, c, none⟩ (.bool true)) = wC at *
              clear y1 y2 y3 y4 z1 z2 T1
              have B3 : Hid (BarAt (wC.setCell ⟨cb, 1 + c, none⟩ (.int .i64 (((i : Int) + 1) % (n : Int)))).drew cb n (Bar.upd si.g c ((i + 1) % n)) si.a) := by
                rw [HM1.out]; exact (B2.out.setG (k := c) (by omega) ((i + 1) % n)).below (Qt.refl _).drew.bel
              have U3 : Hid (Upd (fun j => j = cb) wC (wC.setCell ⟨cb, 1 + c, none⟩ (.int .i64 (((i : Int) + 1) % (n : Int)))).drew) := ((Upd.refl (fun j => j = cb) wC).setCell ⟨cb, 1 + c, none⟩ _ fun _ => rfl).drew
              have hicb : ib ≠ cb := by omega
              have b7 : ((wC.setCell ⟨cb, 1 + c, none⟩ (.int .i64 (((i : Int) + 1) % (n : Int)))).drew).cell? ⟨ib, 0, none⟩ = some (.int .i64 i) := (U3.out.cell (p := ⟨ib, 0, none⟩) (World.block_lt_of_cell? _ _ b3) hicb).trans b3
              have b4 := B3.out.n
              have b5 := B3.out.a (k := i) (by omega)
              have b6 := B3.out.free (9 + i)
              go_region
              clear b0 b1 b2 b3
              generalize (wC.setCell ⟨cb, 1 + c, none⟩ (.int .i64 (((i : Int) + 1) % (n : Int)))).drew = wD at *
              have B4 : Hid (BarAt (wD.setCell ⟨cb, 9 + i, none⟩ (.int .i64 (((c : Int) + 1) % (n : Int)))).drew cb n (Bar.upd si.g c ((i + 1) % n)) (Bar.upd si.a i ((c + 1) % n))) := by
                rw [HM2.out]; exact (B3.out.setA (k := i) (by omega) ((c + 1) % n)).below (Qt.refl _).drew.bel
              have U4 : Hid (Upd (fun j => j = cb ∨ j = mb ∨ j = tb) wB (wD.setCell ⟨cb, 9 + i, none⟩ (.int .i64 (((c : Int) + 1) % (n : Int)))).drew) :=
                (U2.out.trans (U3.out.mono fun _ _ h => .inl h)).trans (((Upd.refl _ _).setCell _ _ fun _ => .inl rfl).drew)
              have FIN : Hid (RL2 W cb mb tb a0 rs n (grK (reqF rs) n s n) (Bar.accN n true (Bar.grv (reqF rs) n s) s (i + 1)) (wD.setCell ⟨cb, 9 + i, none⟩ (.int .i64 (((c : Int) + 1) % (n : Int)))).drew) := by
                rw [E.out]
                have V : Upd (fun j => j = cb) wC (wD.setCell ⟨cb, 9 + i, none⟩ (.int .i64 (((c : Int) + 1) % (n : Int)))).drew := U3.out.trans (((Upd.refl (fun j => j = cb) wD).setCell ⟨cb, 9 + i, none⟩ _ fun _ => rfl).drew)
                exact ⟨LB.out.hm.upd U4.out (by omega), LB.out.hg.upd U4.out (by omega), ⟨B4.out, M2.out.upd V (fun e => n1 e.symm), T2.out.upd V (fun e => n2 e.symm), LB.out.at_.rq.upd U4.out OFF.out⟩, LB.out.upd.trans U4.out⟩
              go_wp2_with fail
              go_region
              clear b4 b5 b6 b7
              go_wp2_with fail
              go_roundw
              case rel => exact ⟨i + 1, by omega, by go_num, FIN.out⟩
              case measure => simp [intOf]; omega
        · obtain rfl : n = i := by omega
          go_wp2_with fail
          go_end0
          have F := L.out.at_
          rw [← HSI.out] at F
          exact ⟨rfl, F, L.out.upd⟩
end Go.Proofs.Ytkooihniieepcaa
