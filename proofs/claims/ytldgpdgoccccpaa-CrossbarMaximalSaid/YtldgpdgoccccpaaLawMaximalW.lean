/-
  The walk of the law CrossbarMaximal.
-/
import Derived.Test.YtldgpdgoccccpaaLawMaximal
namespace Go.Proofs.Ytldgpdgoccccpaa
open Go.RowKit
set_option linter.unusedVariables false

def Cnd (rs : List (RowOf Bool)) (ms : List Int) (n i k : Nat) : Prop := 0 ≤ msF ms i ∨ (k : Int) ∈ ms ∨ reqF rs i k = false
def Biff (b : Bool) (P : Prop) : Prop := b = true ↔ P
theorem Biff.iff {b : Bool} {P : Prop} (h : Biff b P) : b = true ↔ P := h
def LmRel (rs : List (RowOf Bool)) (ms : List Int) (n : Nat) (W : World) (v i : Value) (w : World) : Prop :=
  ∃ (k : Nat) (b : Bool), k ≤ n ∧ i = .int .i64 k ∧ v = .bool b ∧ Biff b (∀ j < k, ∀ q < n, Cnd rs ms n j q) ∧ Below W.heap.size W w
def LmRel2 (rs : List (RowOf Bool)) (ms : List Int) (n i : Nat) (W : World) (v k : Value) (w : World) : Prop :=
  ∃ (q : Nat) (b : Bool), q ≤ n ∧ k = .int .i64 q ∧ v = .bool b ∧ Biff b (∀ p < q, Cnd rs ms n i p) ∧ Below W.heap.size W w
def LfRel (W : World) (v : Value) (w : World) : Prop := v = .bool false ∧ Below W.heap.size W w

theorem maxok_iff {rs : List (RowOf Bool)} {ms : List Int} (hfm : fmB rs = true) (hl : ms.length = rs.length) (hm : MatI (reqF rs) rs.length (msF ms) rs.length) : MaxOk rs ms ↔ ∀ j < rs.length, ∀ q < rs.length, Cnd rs ms rs.length j q := by
  have mem : ∀ (k : Nat), (k : Int) ∈ ms ↔ ∃ j, j < rs.length ∧ msF ms j = (k : Int) := by
    intro k
    rw [List.mem_iff_getElem?]
    constructor
    · rintro ⟨j, hj⟩
      refine ⟨j, ?_, msF_get hj⟩
      rcases Nat.lt_or_ge j ms.length with h | h
      · omega
      · simp [List.getElem?_eq_none h] at hj
    · rintro ⟨j, hj, e⟩
      refine ⟨j, ?_⟩
      have : ms[j]? = some (ms[j]'(by omega)) := by simp
      rw [this, ← msF_get this, e]
  constructor
  · intro h j hj q hq
    cases hr : reqF rs j q with
    | false => exact .inr (.inr hr)
    | true =>
      rcases hm.v j hj with h1 | ⟨k, _, h1, _⟩
      · exact .inr (.inl ((mem q).2 (h.full j hj q hq hr h1)))
      · exact .inl (by omega)
  · intro h
    refine ⟨hfm, hl, hm, fun i hi k hk hr he => ?_⟩
    rcases h i hi k hk with h1 | h1 | h1
    · omega
    · exact (mem k).1 h1
    · rw [hr] at h1; exact absurd h1 (by simp)

set_option maxHeartbeats 8000000 in
set_option maxRecDepth 100000 in
theorem crossbarMaximal_walk (W : World) (a0 : Option Addr) (c0 : Nat) (x0 : List (RowOf Bool)) (s0 : Sl RowOf.val W a0 x0) (g0 : ∀ r ∈ x0, Sl Value.bool W (RowOf.a r) r.xs ∧ (∀ y ∈ r.xs, True) ∧ r.xs.length ≤ maxLen) (m0 : x0.length ≤ maxLen)
    (a1 : Option Addr) (c1 : Nat) (x1 : List Int) (s1 : Sl (Value.int .i64) W a1 x1) (g1 : ∀ y ∈ x1, IntOk .i64 y) (m1 : x1.length ≤ maxLen) :
    Calls Try.prog 8 #[.slice a0 x0.length c0, .slice a1 x1.length c1] W fun e W' => e = .returned (.bool true) ∧ Below W.heap.size W W' := by
  obtain ⟨rq, ln⟩ := req_of s0 g0 m0
  have RQ := Lib.hid rq; have LN := Lib.hid ln; have S := Lib.hid s1; have M1 := Lib.hid m1
  have HAW := Lib.hid (awake_ok W)
  have mm0 := m0
  unfold maxLen at mm0 m1
  clear s0 g0 g1 rq ln s1 m0
  cases hgr : grB x0 with
  | true =>
    have HGR := Lib.hid hgr; clear hgr
    go_enter Try.func8, Try.ntmps8
    go_wp2_with fail
    go_fit HAW.out
    rintro e w1 ⟨rfl, hb⟩
    have B1 := Lib.hid hb; clear hb
    have G := great_any w1 a0 c0 x0 (RQ.out.below B1.out) LN.out
    rw [HGR.out] at G
    have G1 := Lib.hid G; clear G
    go_wp2_with fail
    go_fit G1.out
    rintro e w2 ⟨rfl, rfl⟩
    go_wp2_with fail
    go_ret
    exact ⟨rfl, B1.out⟩
  | false =>
    have HGR := Lib.hid hgr
    obtain ⟨h10, _⟩ := grB_false hgr
    clear hgr
    by_cases h20 : 20 < x1.length
    · have i20 : (20 : Int) < (x1.length : Int) := by omega
      go_enter Try.func8, Try.ntmps8
      go_wp2_with fail
      go_fit HAW.out
      rintro e w1 ⟨rfl, hb⟩
      have B1 := Lib.hid hb; clear hb
      have G := great_any w1 a0 c0 x0 (RQ.out.below B1.out) LN.out
      rw [HGR.out] at G
      have G1 := Lib.hid G; clear G
      go_wp2_with fail
      go_fit G1.out
      rintro e w2 ⟨rfl, rfl⟩
      go_wp2_with fail
      go_ret
      exact ⟨rfl, B1.out⟩
    · have i20 : ¬ (20 : Int) < (x1.length : Int) := by omega
      cases hfm : fmB x0 with
      | false =>
        have NO : Hid (¬ MaxOk x0 x1) := fun h => by have := h.fm; rw [hfm] at this; exact absurd this (by simp)
        by_cases h8 : x0.length ≤ 8
        · have hsq : sqB x0 x0.length = false := by
            have hd : decide (x0.length ≤ 8) = true := by simpa using h8
            rw [fmB, hd, Bool.true_and] at hfm; exact hfm
          have HSQ := Lib.hid hsq
          have i8 : (x0.length : Int) ≤ 8 := by omega
          clear hfm hsq
          go_enter Try.func8, Try.ntmps8
          go_wp2_with fail
          go_fit HAW.out
          rintro e w1 ⟨rfl, hb⟩
          have B1 := Lib.hid hb; clear hb
          have G := great_any w1 a0 c0 x0 (RQ.out.below B1.out) LN.out
          rw [HGR.out] at G
          have G1 := Lib.hid G; clear G
          go_wp2_with fail
          go_fit G1.out
          rintro e w2 ⟨rfl, rfl⟩
          have Q := refsq_any w1 a0 c0 x0.length x0 (RQ.out.below B1.out) LN.out.1 LN.out.2
          rw [HSQ.out] at Q
          have Q1 := Lib.hid Q; clear Q
          go_wp2_with fail
          go_fit Q1.out
          rintro e w2 ⟨rfl, rfl⟩
          go_wp2_with fail
          go_loopw [6] (fun v w => LfRel W v w) (fun _ _ => 0)
          case atStart => exact ⟨rfl, B1.out⟩
          case round =>
            obtain ⟨rfl, hb⟩ := hrel
            have B2 := Lib.hid hb; clear hb
            have MX := Lib.hid (maximal_any wr a0 a1 c0 c1 x0 x1 (RQ.out.below B2.out) (S.out.below B2.out) LN.out.1 LN.out.2 M1.out)
            go_wp2_with fail
            go_fit MX.out
            rintro e w3 ⟨b, rfl, hbm, hb3⟩
            have hbf : b = false := by
              cases b with
              | false => rfl
              | true => exact absurd (hbm.1 rfl) NO.out
            subst hbf
            have B3 := Lib.hid (B2.out.trans (hb3.mono B2.out.size))
            clear hbm hb3
            go_wp2_with fail
            go_ret
            exact ⟨rfl, B3.out⟩
        · have i8 : ¬ (x0.length : Int) ≤ 8 := by omega
          clear hfm
          go_enter Try.func8, Try.ntmps8
          go_wp2_with fail
          go_fit HAW.out
          rintro e w1 ⟨rfl, hb⟩
          have B1 := Lib.hid hb; clear hb
          have G := great_any w1 a0 c0 x0 (RQ.out.below B1.out) LN.out
          rw [HGR.out] at G
          have G1 := Lib.hid G; clear G
          go_wp2_with fail
          go_fit G1.out
          rintro e w2 ⟨rfl, rfl⟩
          go_wp2_with fail
          go_loopw [6] (fun v w => LfRel W v w) (fun _ _ => 0)
          case atStart => exact ⟨rfl, B1.out⟩
          case round =>
            obtain ⟨rfl, hb⟩ := hrel
            have B2 := Lib.hid hb; clear hb
            have MX := Lib.hid (maximal_any wr a0 a1 c0 c1 x0 x1 (RQ.out.below B2.out) (S.out.below B2.out) LN.out.1 LN.out.2 M1.out)
            go_wp2_with fail
            go_fit MX.out
            rintro e w3 ⟨b, rfl, hbm, hb3⟩
            have hbf : b = false := by
              cases b with
              | false => rfl
              | true => exact absurd (hbm.1 rfl) NO.out
            subst hbf
            have B3 := Lib.hid (B2.out.trans (hb3.mono B2.out.size))
            clear hbm hb3
            go_wp2_with fail
            go_ret
            exact ⟨rfl, B3.out⟩
      | true =>
        have HFM := Lib.hid hfm
        obtain ⟨h8, hrow⟩ := fmB_true hfm
        have HROW := Lib.hid hrow
        have i8 : (x0.length : Int) ≤ 8 := by omega
        have HSQ : Hid (sqB x0 x0.length = true) := by show _ = _; simp only [fmB, Bool.and_eq_true] at hfm; exact hfm.2
        clear hfm hrow
        go_enter Try.func8, Try.ntmps8
        go_wp2_with fail
        go_fit HAW.out
        rintro e w1 ⟨rfl, hb⟩
        have B1 := Lib.hid hb; clear hb
        have G := great_any w1 a0 c0 x0 (RQ.out.below B1.out) LN.out
        rw [HGR.out] at G
        have G1 := Lib.hid G; clear G
        go_wp2_with fail
        go_fit G1.out
        rintro e w2 ⟨rfl, rfl⟩
        have Q := refsq_any w1 a0 c0 x0.length x0 (RQ.out.below B1.out) LN.out.1 LN.out.2
        rw [HSQ.out] at Q
        have Q1 := Lib.hid Q; clear Q
        have MT := Lib.hid (matching_any w1 a0 a1 c0 c1 x0 x1 (RQ.out.below B1.out) (S.out.below B1.out) HFM.out M1.out)
        go_wp2_with fail
        go_fit Q1.out
        rintro e w2 ⟨rfl, rfl⟩
        go_wp2_with fail
        go_fit MT.out
        rintro e w2 ⟨b0, rfl, hb0, hq⟩
        have B1' := Lib.hid (B1.out.trans (hq.below _))
        clear B1
        have B1 := B1'
        clear B1' hq MT Q1 G1
        cases b0 with
        | false =>
          have NO : Hid (¬ MaxOk x0 x1) := fun h => by
            have := hb0.2 ⟨h.len, h.mat⟩
            exact absurd this (by simp)
          clear hb0
          go_wp2_with fail
          go_loopw [6] (fun v w => LfRel W v w) (fun _ _ => 0)
          case atStart => exact ⟨rfl, B1.out⟩
          case round =>
            obtain ⟨rfl, hb⟩ := hrel
            have B2 := Lib.hid hb; clear hb
            have MX := Lib.hid (maximal_any wr a0 a1 c0 c1 x0 x1 (RQ.out.below B2.out) (S.out.below B2.out) LN.out.1 LN.out.2 M1.out)
            go_wp2_with fail
            go_fit MX.out
            rintro e w3 ⟨b, rfl, hbm, hb3⟩
            have hbf : b = false := by
              cases b with
              | false => rfl
              | true => exact absurd (hbm.1 rfl) NO.out
            subst hbf
            have B3 := Lib.hid (B2.out.trans (hb3.mono B2.out.size))
            clear hbm hb3
            go_wp2_with fail
            go_ret
            exact ⟨rfl, B3.out⟩
        | true =>
          have IFF := Lib.hid (maxok_iff HFM.out (hb0.1 rfl).1 (hb0.1 rfl).2)
          have hl := (hb0.1 rfl).1
          clear hb0
          generalize hn : x0.length = n at *
          generalize hnm : x1.length = nm at *
          have hnm1 : nm ≤ n := by omega
          have hnm2 : n ≤ nm := by omega
          have HN := Lib.hid hn; have HNM := Lib.hid hnm
          clear hn hnm hl
          go_wp2_with fail
          go_loopw [6, 7] (fun v i w => LmRel x0 x1 n W v i w) (fun _ i _ => n - (intOf i).toNat)
          case atStart => exact ⟨0, true, Nat.zero_le _, rfl, rfl, ⟨fun _ j hj => by omega, fun _ => rfl⟩, B1.out⟩
          case round =>
            clear B1
            obtain ⟨i, b, hi, rfl, rfl, hbi, hb⟩ := hrel
            have BI := Lib.hid hbi; have B2 := Lib.hid hb
            clear hbi hb
            cases b with
            | false =>
              have NO : Hid (¬ MaxOk x0 x1) := fun h => by
                have := BI.out.iff.2 fun j hj q hq => IFF.out.1 h j (by omega) q hq
                exact absurd this (by simp)
              have MX := Lib.hid (maximal_any wr a0 a1 c0 c1 x0 x1 (RQ.out.below B2.out) (S.out.below B2.out) LN.out.1 LN.out.2 (by rw [HNM.out]; exact M1.out))
              rw [HN.out, HNM.out] at MX
              go_wp2_with fail
              go_fit MX.out
              rintro e w3 ⟨b, rfl, hbm, hb3⟩
              have hbf : b = false := by
                cases b with
                | false => rfl
                | true => exact absurd (hbm.1 rfl) NO.out
              subst hbf
              have B3 := Lib.hid (B2.out.trans (hb3.mono B2.out.size))
              clear hbm hb3
              go_wp2_with fail
              go_ret
              exact ⟨rfl, B3.out⟩
            | true =>
              by_cases hlt : i < n
              · go_wp2_with fail
                have HI := Lib.hid hi
                go_loopw [6, 41] (fun v k w => LmRel2 x0 x1 n i W v k w) (fun _ k _ => n - (intOf k).toNat)
                case atStart => exact ⟨0, true, Nat.zero_le _, rfl, rfl, ⟨fun _ j hj => by omega, fun _ => rfl⟩, B2.out⟩
                case round =>
                  clear B2
                  obtain ⟨k, b, hk, rfl, rfl, hbk, hb⟩ := hrel
                  have BK := Lib.hid hbk; have B3 := Lib.hid hb
                  clear hbk hb
                  by_cases hkt : k < n
                  · cases b with
                    | false =>
                      have NX : Hid (Biff false (∀ p < k + 1, Cnd x0 x1 n i p)) := ⟨fun h => absurd h (by simp), fun h => BK.out.iff.2 fun p hp => h p (by omega)⟩
                      go_wp2_with fail
                      go_roundw
                      case rel => exact ⟨k + 1, false, by omega, by go_num, rfl, NX.out, B3.out⟩
                      case measure => simp [intOf]; omega
                    | true =>
                      have BKt : Hid (∀ p < k, Cnd x0 x1 n i p) := BK.out.iff.1 rfl
                      have YS : Hid (Cnd x0 x1 n i k → Biff true (∀ p < k + 1, Cnd x0 x1 n i p)) := fun h => ⟨fun _ p hp => by
                        by_cases e : p = k
                        · subst e; exact h
                        · exact BKt.out p (by omega), fun _ => rfl⟩
                      obtain ⟨x, ex, okx, cx⟩ := (S.out.below B3.out).get (k := i) (by rw [HNM.out]; omega)
                      have EX := Lib.hid (msF_get ex.out)
                      have iln : (i : Int) < (nm : Int) := by omega
                      have kln : (k : Int) < (n : Int) := by omega
                      obtain ⟨r, er, o1, r1, o2, r2⟩ := (RQ.out.below B3.out).get (n := n) HN.out HROW.out hlt hkt
                      have CT := containsInt_any wr a1 c1 x1 (k : Int) (S.out.below B3.out) (by rw [HNM.out]; exact M1.out)
                      rw [HNM.out] at CT
                      by_cases hx : 0 ≤ x
                      · have NX := Lib.hid (YS.out (.inl (by rw [EX.out]; exact hx)))
                        clear CT er
                        go_wp2_with fail
                        go_roundw
                        case rel => exact ⟨k + 1, true, by omega, by go_num, rfl, NX.out, B3.out⟩
                        case measure => simp [intOf]; omega
                      · by_cases hc : (k : Int) ∈ x1
                        · have NX := Lib.hid (YS.out (.inr (.inl hc)))
                          have hd : decide ((k : Int) ∈ x1) = true := by simpa using hc
                          rw [hd] at CT
                          have CT2 := Lib.hid CT
                          clear CT hd hc er
                          go_wp2_with fail
                          go_fit CT2.out
                          rintro e w4 ⟨rfl, rfl⟩
                          go_wp2_with fail
                          go_roundw
                          case rel => exact ⟨k + 1, true, by omega, by go_num, rfl, NX.out, B3.out⟩
                          case measure => simp [intOf]; omega
                        · have hd : decide ((k : Int) ∈ x1) = false := by simpa using hc
                          rw [hd] at CT
                          have CT2 := Lib.hid CT
                          clear CT hd
                          cases hr : reqF x0 i k with
                          | false =>
                            rw [hr] at r2
                            have NX := Lib.hid (YS.out (.inr (.inr hr)))
                            clear hr er hc
                            go_wp2_with fail
                            go_fit CT2.out
                            rintro e w4 ⟨rfl, rfl⟩
                            go_wp2_with fail
                            go_roundw
                            case rel => exact ⟨k + 1, true, by omega, by go_num, rfl, NX.out, B3.out⟩
                            case measure => simp [intOf]; omega
                          | true =>
                            rw [hr] at r2
                            have NX : Hid (Biff false (∀ p < k + 1, Cnd x0 x1 n i p)) := ⟨fun h => absurd h (by simp), fun h => by
                              rcases h k (by omega) with h1 | h1 | h1
                              · rw [EX.out] at h1; exact absurd h1 hx
                              · exact absurd h1 hc
                              · rw [hr] at h1; exact absurd h1 (by simp)⟩
                            clear hr er hc
                            go_wp2_with fail
                            go_fit CT2.out
                            rintro e w4 ⟨rfl, rfl⟩
                            go_wp2_with fail
                            go_roundw
                            case rel => exact ⟨k + 1, false, by omega, by go_num, rfl, NX.out, B3.out⟩
                            case measure => simp [intOf]; omega
                  · obtain rfl : n = k := by omega
                    have NX : Hid (Biff b (∀ j < i + 1, ∀ q < n, Cnd x0 x1 n j q)) := by
                      show _ ↔ _
                      rw [BK.out.iff]
                      exact ⟨fun h j hj => by
                        by_cases e : j = i
                        · subst e; exact h
                        · exact BI.out.iff.1 rfl j (by omega), fun h => h i (by omega)⟩
                    go_wp2_with fail
                    go_roundw
                    case rel => exact ⟨i + 1, b, by omega, by go_num, rfl, NX.out, B3.out⟩
                    case measure => simp [intOf]; omega
              · obtain rfl : n = i := by omega
                have YES : Hid (MaxOk x0 x1) := IFF.out.2 (BI.out.iff.1 rfl)
                have MX := Lib.hid (maximal_any wr a0 a1 c0 c1 x0 x1 (RQ.out.below B2.out) (S.out.below B2.out) LN.out.1 LN.out.2 (by rw [HNM.out]; exact M1.out))
                rw [HN.out, HNM.out] at MX
                go_wp2_with fail
                go_fit MX.out
                rintro e w3 ⟨b, rfl, hbm, hb3⟩
                have hbt : b = true := hbm.2 YES.out
                subst hbt
                have B3 := Lib.hid (B2.out.trans (hb3.mono B2.out.size))
                clear hbm hb3
                go_wp2_with fail
                go_ret
                exact ⟨rfl, B3.out⟩
end Go.Proofs.Ytldgpdgoccccpaa
