/-
  admit: has.
  Contract of admit's check: a reservation whose arguments are fine.
-/
import Derived.Test.YtbdaehcngmhhcaaNet
import Derived.Test.YtbdaehcngmhhcaaBkN
namespace Go.Proofs.Ytbdaehcngmhhcaa
open Go.RowKit
set_option linter.unusedVariables false

set_option maxHeartbeats 1000000 in
theorem has_yes (w : World) (bb : Nat) (la : Option Addr) (n c : Nat) (l : Nat) (h0 : w.cell? ⟨bb, 0, none⟩ = some (.slice la n c)) (hl : l < n) :
    Calls Try.prog 58 #[.pointer (some ⟨bb, 0, none⟩), .int .i64 l] w fun e w' => e = .returned (.bool true) ∧ w = w' := by
  have h1 : (l : Int) < (n : Int) := by omega
  have h2 : (0 : Int) ≤ (l : Int) := by omega
  go_enter Try.func58, Try.ntmps58
  go_wp2_with fail
  go_ret
  exact ⟨rfl, rfl⟩
end Go.Proofs.Ytbdaehcngmhhcaa
namespace Go.Proofs.Ytbdaehcngmhhcaa
open Go.RowKit
set_option linter.unusedVariables false

/-- The links of a flow, as a reservation takes them. -/
structure LnkOk (w : World) (n : Nat) (a : Option Addr) (c : Nat) (lk : List Int) : Prop where
  s : SlI w a lk
  k : lk.length ≤ c
  l : lk.length ≤ 1000
  ne : lk ≠ []
  r : ∀ x ∈ lk, 0 ≤ x ∧ x < n
  d : ∀ (j : Nat) x, lk[j]? = some x → x ∉ lk.take j
theorem LnkOk.below {w w' : World} {n : Nat} {a : Option Addr} {c : Nat} {lk : List Int} (h : LnkOk w n a c lk) (q : Below w.heap.size w w') : LnkOk w' n a c lk := ⟨h.s.below q, h.k, h.l, h.ne, h.r, h.d⟩
structure Bk2 (w : World) (bb mb n : Nat) (la : Option Addr) (lc k : Nat) (F : Nat → Option Rs) : Prop where
  b : Blk w bb 87 [.slice la n lc, .map (some mb)]
  m : RsAt w mb k F
theorem Bk2.below {w w' : World} {bb mb n : Nat} {la : Option Addr} {lc k : Nat} {F : Nat → Option Rs} (h : Bk2 w bb mb n la lc k F) (q : Below w.heap.size w w') : Bk2 w' bb mb n la lc k F := ⟨h.b.bel q, h.m.below q⟩
def Ck1Rel (w : World) (n : Nat) (ix : Value) (wr : World) : Prop := ∃ p : Nat, p ≤ n ∧ ix = .int .i64 p ∧ Hid (Below w.heap.size w wr)
set_option maxRecDepth 100000 in
set_option maxHeartbeats 4000000 in
theorem check_ok (w : World) (bb mb n k : Nat) (la : Option Addr) (lc : Nat) (F : Nat → Option Rs) (hB : Bk2 w bb mb n la lc k F) (hn : n ≤ 1000) (a : Option Addr) (c : Nat) (lk : List Int) (hL : LnkOk w n a c lk)
    (i : Nat) (hi : i ≤ 1000) (hF : F i = none) (rt : Rq) (hok : rt.ok = true) (h0 : 0 ≤ rt.n) (hd : I64 rt.d) :
    Calls Try.prog 39 #[.pointer (some ⟨bb, 0, none⟩), .int .i64 i, .slice a lk.length c, rV rt] w fun e w' => e = .returned (.int .i64 0) ∧ Below w.heap.size w w' := by
  have HB := Lib.hid hB
  have HL := Lib.hid hL
  have hbd := Rq.ok_bd hok
  unfold maxN at hbd
  obtain ⟨r1, r2⟩ := rt
  have V := fun w => valid_any r1 r2 w (by dsimp only at *; omega) (by unfold I64 at hd; dsimp only at *; omega)
  simp only [hok] at V
  replace V := Lib.hid V
  have hl1 := hL.l
  have hlc := hL.k
  have hlne : lk.length ≠ 0 := fun e => hL.ne (List.eq_nil_of_length_eq_zero e)
  have b0 := hB.b.cell (i := 0) rfl
  have b1 := hB.b.cell (i := 1) rfl
  have bz := hB.b.lt
  unfold rV
  dsimp only at *
  clear hok hbd hB hL
  obtain ⟨L, hLL⟩ : ∃ L, lk.length = L := ⟨_, rfl⟩
  have HLL := Lib.hid hLL
  rw [hLL] at hl1 hlc hlne ⊢
  clear hLL
  have hneg : ¬ r1 < 0 := by omega
  have hL0 : ((L : Int) == 0) = false := by simp [hlne]
  have hi1 : (0 : Int) ≤ i ∧ (i : Int) ≤ 1099511627776 ∧ ¬ (i : Int) < 0 ∧ ¬ (1099511627776 : Int) < i := by omega
  obtain ⟨hi1, hi2, hi3, hi4⟩ := hi1
  go_enter Try.func39, Try.ntmps39
  go_wp2_with fail
  refine (V.out _).mono ?_
  rintro e w1 ⟨rfl, hb⟩
  have X := (Blk.new w 29 [.int .i64 r1, .int .i64 r2]).bel hb
  have x0 := X.cell (i := 0) rfl
  have x1 := X.cell (i := 1) rfl
  have xz := X.lt
  have U1 := Lib.hid ((alloc_belQ w (.cells #[.int .i64 r1, .int .i64 r2] 29)).trans (hb.mono (by simp)))
  clear hb V X b0 b1
  go_wp2_with fail
  clear x0 x1 xz bz
  go_loopw [40] (fun ix wr => Ck1Rel w L ix wr) (fun ix _ => L - (intOf ix).toNat)
  case atStart => exact ⟨0, Nat.zero_le _, rfl, U1⟩
  case round =>
    clear U1
    obtain ⟨p, hp, rfl, T⟩ := hrel
    have B := HB.out.below T.out
    by_cases hpl : p < L
    · obtain ⟨x, ex, okx, fx⟩ := (HL.out.below T.out).s.get (k := p) (by rw [HLL.out]; exact hpl)
      obtain ⟨hx0, hx1⟩ := HL.out.r x (List.mem_of_getElem? ex.out)
      obtain ⟨xl, rfl⟩ := Int.eq_ofNat_of_zero_le hx0
      have HS := Lib.hid (has_yes wr bb la n lc xl (B.b.cell rfl) (by omega))
      clear ex B
      go_wp2_with fail
      refine HS.out.mono ?_
      rintro e w2 ⟨rfl, hw⟩
      subst w2
      clear HS
      go_wp2_with fail
      go_roundw
      case rel => exact ⟨p + 1, by omega, by go_num, T⟩
      case measure => simp [intOf]; omega
    · obtain rfl : L = p := by omega
      clear B
      go_wp2_with fail
      go_loopw [51] (fun ix wr => Ck1Rel w L ix wr) (fun ix _ => L - (intOf ix).toNat)
      case atStart => exact ⟨0, Nat.zero_le _, rfl, T⟩
      case round =>
        clear T
        obtain ⟨p, hp, rfl, T⟩ := hrel
        have B := HB.out.below T.out
        by_cases hpl : p < L
        · have LS := (HL.out.below T.out).s
          obtain ⟨x, ex, okx, fx⟩ := LS.get (k := p) (by rw [HLL.out]; exact hpl)
          have hxm := HL.out.d p x ex.out
          have CT := containsInt_any wr a c (lk.take p) x (LS.takeQ p) (by rw [List.length_take]; unfold maxLen; have := HLL.out; omega)
          rw [List.length_take_of_le (by rw [HLL.out]; omega), decide_eq_false hxm] at CT
          have hplc : (p : Int) ≤ (c : Int) := by omega
          replace CT := Lib.hid CT
          clear ex B LS hxm
          go_wp2_with fail
          refine CT.out.mono ?_
          rintro e w2 ⟨rfl, hw⟩
          subst w2
          clear CT
          go_wp2_with fail
          go_roundw
          case rel => exact ⟨p + 1, by omega, by go_num, T⟩
          case measure => simp [intOf]; omega
        · obtain rfl : L = p := by omega
          have b1 := B.b.cell (i := 1) rfl
          have bz := B.b.lt
          have LK := B.m.look hi
          have e1 : rsW F i = rsZ := by unfold rsW; rw [hF]
          rw [e1, hF] at LK
          unfold rsZ at LK
          have UB := T.out
          have hsz := UB.size
          clear B e1
          go_wp2_with fail
          go_ret
          exact ⟨rfl, by (repeat' (first | with_reducible assumption | with_reducible exact Below.refl _ _ | with_reducible refine Below.drewQ ?_ | with_reducible refine Below.drewNQ ?_ _ | with_reducible refine Below.setCell ?_ (by dsimp only; omega) _ | with_reducible refine Below.alloc ?_ (by first | omega | (simp; done) | (simp; omega)) _))⟩
end Go.Proofs.Ytbdaehcngmhhcaa
