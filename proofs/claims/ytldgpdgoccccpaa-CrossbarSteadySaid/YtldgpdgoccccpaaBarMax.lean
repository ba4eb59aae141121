/-
  Contracts of the reference's Square, of formed, and of Maximal.
-/
import Derived.Test.YtldgpdgoccccpaaBarPtr
namespace Go.Proofs.Ytldgpdgoccccpaa
open Go.RowKit
set_option linter.unusedVariables false

set_option maxHeartbeats 1000000 in
theorem refsq_any (w : World) (a0 : Option Addr) (c0 n : Nat) (rs : List (RowOf Bool)) (h : Req w a0 rs) (hm : rs.length ≤ maxLen) (hmm : ∀ r ∈ rs, r.xs.length ≤ maxLen) :
    Calls Try.prog 21 #[.slice a0 rs.length c0, .int .i64 n] w fun e w' => e = .returned (.bool (sqB rs n)) ∧ w = w' := by
  unfold maxLen at hm
  generalize hR : sqB rs n = res
  have HR := Lib.hid hR; clear hR
  have S := Lib.hid h.hs; clear h
  have MM := Lib.hid hmm; clear hmm
  by_cases hn : rs.length = n
  · have hne : ((rs.length : Int) != (n : Int)) = false := by simp [hn]
    have HN := Lib.hid hn; clear hn
    have hln : Hid (rs.length = rs.length) := rfl
    generalize hl : rs.length = l at *
    have HL := Lib.hid hl; clear hl hln
    have hnl : n ≤ l ∧ l ≤ n := by have := HN.out; omega
    obtain ⟨hnl1, hnl2⟩ := hnl
    go_enter Try.func21, Try.ntmps21
    go_wp2_with fail
    go_loopw [5] (fun i wr => SqRel rs n w i wr) (fun i _ => l - (intOf i).toNat)
    case atStart => exact ⟨0, Nat.zero_le _, rfl, fun j hj => by omega, rfl⟩
    case round =>
      obtain ⟨k, hk, rfl, hv, rfl⟩ := hrel
      have HV := Lib.hid hv; clear hv
      have hk' : k ≤ l := by rw [HL.out] at hk; exact hk
      clear hk
      by_cases hlt : k < l
      · obtain ⟨r, er, o1, c1⟩ := S.out.get (k := k) (by rw [HL.out]; exact hlt)
        have hrm := MM.out r (List.mem_of_getElem? er.out)
        obtain ⟨ra, rc, rxs⟩ := r
        unfold RowOf.val at c1
        dsimp only at c1 hrm
        unfold maxLen at hrm
        have hkn : k < n := by omega
        by_cases hrl : rxs.length = n
        · have hb : ((rxs.length : Int) != (n : Int)) = false := by simp [hrl]
          have V2 : Hid (∀ j < k + 1, ∀ r, rs[j]? = some r → r.xs.length = n) := by
            intro j hj r hr
            by_cases e : j = k
            · subst e; rw [er.out] at hr; obtain rfl := Option.some.inj hr; exact hrl
            · exact HV.out j (by omega) r hr
          clear hrl
          go_wp2_with fail
          go_roundw
          case rel => exact ⟨k + 1, by rw [HL.out]; omega, by go_num, V2.out, rfl⟩
          case measure => simp [intOf]; omega
        · have hb : ((rxs.length : Int) != (n : Int)) = true := by simp; omega
          have R : Hid (res = false) := by show _ = _; rw [← HR.out]; exact sq_false er.out hrl
          clear hrl
          go_wp2_with fail
          go_ret
          exact ⟨ret_bool R.out.symm, rfl⟩
      · have hkn : ¬ k < n := by omega
        have R : Hid (res = true) := by
          show _ = _
          rw [← HR.out]
          exact sq_true (by rw [HL.out]; exact HN.out) (fun j hj r hr => HV.out j (by rw [HL.out] at hj; omega) r hr)
        go_wp2_with fail
        go_ret
        exact ⟨ret_bool R.out.symm, rfl⟩
  · have hne : ((rs.length : Int) != (n : Int)) = true := by simp; omega
    have R : Hid (res = false) := by
      show _ = _
      rw [← HR.out]
      simp only [sqB, decide_eq_false_iff_not]
      exact fun h => hn h.1
    clear hn
    go_enter Try.func21, Try.ntmps21
    go_wp2_with fail
    go_ret
    exact ⟨ret_bool R.out.symm, rfl⟩

/-- At most 8 lists of as many elements. -/
def fmB (rs : List (RowOf Bool)) : Bool := decide (rs.length ≤ 8) && sqB rs rs.length
theorem fmB_true {rs : List (RowOf Bool)} (h : fmB rs = true) : rs.length ≤ 8 ∧ ∀ r ∈ rs, r.xs.length = rs.length := by
  simp [fmB, sqB] at h; exact h
set_option maxHeartbeats 1000000 in
theorem formed_any (w : World) (a0 : Option Addr) (c0 : Nat) (rs : List (RowOf Bool)) (h : Req w a0 rs) (hm : rs.length ≤ maxLen) (hmm : ∀ r ∈ rs, r.xs.length ≤ maxLen) :
    Calls Try.prog 35 #[.slice a0 rs.length c0] w fun e w' => e = .returned (.bool (fmB rs)) ∧ w = w' := by
  have S := square_any w a0 c0 rs.length rs h hm hmm
  unfold maxLen at hm
  unfold fmB
  generalize sqB rs rs.length = r at *
  have SQ := Lib.hid S
  clear S h hmm
  by_cases h8 : rs.length ≤ 8
  · have hd : decide (rs.length ≤ 8) = true := by simpa using h8
    have hi : (rs.length : Int) ≤ 8 := by omega
    rw [hd, Bool.true_and]
    clear hd
    go_enter Try.func35, Try.ntmps35
    go_wp2_with fail
    go_fit SQ.out
    rintro e w1 ⟨rfl, rfl⟩
    go_wp2_with fail
    go_ret
    exact ⟨rfl, rfl⟩
  · have hd : decide (rs.length ≤ 8) = false := by simpa using h8
    have hi : ¬ (rs.length : Int) ≤ 8 := by omega
    rw [hd, Bool.false_and]
    clear hd
    go_enter Try.func35, Try.ntmps35
    go_wp2_with fail
    go_ret
    exact ⟨rfl, rfl⟩

def msF (ms : List Int) (i : Nat) : Int := ms.getD i 0
/-- The entries before i are a matching. -/
structure MatI (req : Nat → Nat → Bool) (n : Nat) (m : Nat → Int) (i : Nat) : Prop where
  v : ∀ j < i, m j = -1 ∨ ∃ k, k < n ∧ m j = (k : Int) ∧ req j k = true
  inj : ∀ j < i, ∀ q < i, ∀ k : Nat, m j = (k : Int) → m q = (k : Int) → j = q
structure MaxOk (rs : List (RowOf Bool)) (ms : List Int) : Prop where
  fm : fmB rs = true
  len : ms.length = rs.length
  mat : MatI (reqF rs) rs.length (msF ms) rs.length
  full : ∀ i < rs.length, ∀ k < rs.length, reqF rs i k = true → msF ms i = -1 → ∃ j, j < rs.length ∧ msF ms j = (k : Int)
def MaxPost (rs : List (RowOf Bool)) (ms : List Int) (w : World) (e : Ending) (w' : World) : Prop := ∃ b : Bool, e = .returned (.bool b) ∧ (b = true ↔ MaxOk rs ms) ∧ Below w.heap.size w w'
/-- Which outputs the first i entries take. -/
def tkF (m : Nat → Int) (i : Nat) (k : Nat) : Bool := (List.range i).any fun j => m j == (k : Int)
theorem tkF_iff (m : Nat → Int) (i k : Nat) : tkF m i k = true ↔ ∃ j, j < i ∧ m j = (k : Int) := by simp [tkF]
theorem tkF_succ_neg (m : Nat → Int) (i : Nat) (h : m i = -1) : tkF m (i + 1) = tkF m i := by
  funext k
  rw [Bool.eq_iff_iff, tkF_iff, tkF_iff]
  exact ⟨fun ⟨j, h1, h2⟩ => ⟨j, by rcases Nat.lt_or_ge j i with h3 | h3; exact h3; (have : j = i := by omega); subst this; omega, h2⟩, fun ⟨j, h1, h2⟩ => ⟨j, by omega, h2⟩⟩
theorem tkF_succ (m : Nat → Int) (i c : Nat) (h : m i = (c : Int)) : Bar.upd (tkF m i) c true = tkF m (i + 1) := by
  funext k
  rw [Bool.eq_iff_iff, tkF_iff]
  by_cases e : k = c
  · subst e
    rw [Bar.upd_same]
    exact ⟨fun _ => ⟨i, by omega, h⟩, fun _ => rfl⟩
  · rw [Bar.upd_ne _ _ e, tkF_iff]
    exact ⟨fun ⟨j, h1, h2⟩ => ⟨j, by omega, h2⟩, fun ⟨j, h1, h2⟩ => ⟨j, by rcases Nat.lt_or_ge j i with h3 | h3; exact h3; (have : j = i := by omega); subst this; omega, h2⟩⟩
structure MxSt (W : World) (n : Nat) (m : Nat → Int) (i : Nat) (w : World) : Prop where
  ht : Fun w W.heap.size 62 8 (bF (tkF m i))
  bel : Below W.heap.size W w
def MxRel (W : World) (rs : List (RowOf Bool)) (m : Nat → Int) (n : Nat) (i : Value) (w : World) : Prop := ∃ k : Nat, k ≤ n ∧ i = .int .i64 k ∧ MatI (reqF rs) n m k ∧ MxSt W n m k w
def MxRel2 (rs : List (RowOf Bool)) (m : Nat → Int) (n : Nat) (W : World) (i : Value) (w : World) : Prop := ∃ k : Nat, k ≤ n ∧ i = .int .i64 k ∧ (∀ j < k, ∀ q < n, reqF rs j q = true → m j = -1 → tkF m n q = true) ∧ W = w
def MxRel3 (rs : List (RowOf Bool)) (m : Nat → Int) (n i : Nat) (W : World) (k : Value) (w : World) : Prop := ∃ q : Nat, q ≤ n ∧ k = .int .i64 q ∧ (∀ p < q, reqF rs i p = true → m i = -1 → tkF m n p = true) ∧ W = w
theorem MatI.step_neg {req : Nat → Nat → Bool} {n i : Nat} {m : Nat → Int} (h : MatI req n m i) (e : m i = -1) : MatI req n m (i + 1) :=
  ⟨fun j hj => by
    by_cases ej : j = i
    · subst ej; exact .inl e
    · exact h.v j (by omega), fun j hj q hq k h1 h2 => by
    by_cases ej : j = i
    · subst ej; omega
    · by_cases eq : q = i
      · subst eq; omega
      · exact h.inj j (by omega) q (by omega) k h1 h2⟩
theorem MatI.step {req : Nat → Nat → Bool} {n i c : Nat} {m : Nat → Int} (h : MatI req n m i) (hc : c < n) (e : m i = (c : Int)) (ht : tkF m i c = false) (hr : req i c = true) : MatI req n m (i + 1) :=
  have no : ∀ j < i, m j ≠ (c : Int) := fun j hj e' => by have := (tkF_iff m i c).2 ⟨j, hj, e'⟩; rw [ht] at this; exact absurd this (by simp)
  ⟨fun j hj => by
    by_cases ej : j = i
    · subst ej; exact .inr ⟨c, hc, e, hr⟩
    · exact h.v j (by omega), fun j hj q hq k h1 h2 => by
    by_cases ej : j = i
    · by_cases eq : q = i
      · omega
      · subst ej; exact absurd (by omega) (no q (by omega))
    · by_cases eq : q = i
      · subst eq; exact absurd (by omega) (no j (by omega))
      · exact h.inj j (by omega) q (by omega) k h1 h2⟩
theorem msF_get {ms : List Int} {i : Nat} {x : Int} (h : ms[i]? = some x) : msF ms i = x := by simp [msF, h]

set_option maxHeartbeats 8000000 in
set_option maxRecDepth 100000 in
theorem maximal_any (W : World) (a0 b0 : Option Addr) (c0 d0 : Nat) (rs : List (RowOf Bool)) (ms : List Int) (h : Req W a0 rs) (hs : SlI W b0 ms) (hm : rs.length ≤ maxLen) (hmm : ∀ r ∈ rs, r.xs.length ≤ maxLen) (hms : ms.length ≤ maxLen) :
    Calls Try.prog 27 #[.slice a0 rs.length c0, .slice b0 ms.length d0] W (MaxPost rs ms W) := by
  have FM := formed_any W a0 c0 rs h hm hmm
  unfold maxLen at hm hms
  cases hfm : fmB rs with
  | false =>
    rw [hfm] at FM
    have F := Lib.hid FM
    have NO : Hid (¬ MaxOk rs ms) := fun h => by have := h.fm; rw [hfm] at this; exact absurd this (by simp)
    clear h hs hmm FM hfm
    go_enter Try.func27, Try.ntmps27
    go_wp2_with fail
    go_fit F.out
    rintro e w1 ⟨rfl, rfl⟩
    go_wp2_with fail
    go_ret
    exact ⟨false, rfl, ⟨fun h => absurd h (by simp), fun h => absurd h NO.out⟩, Below.refl _ _⟩
  | true =>
    rw [hfm] at FM
    have F := Lib.hid FM
    have HFM := Lib.hid hfm
    obtain ⟨h8, hrow⟩ := fmB_true hfm
    have HROW := Lib.hid hrow
    by_cases hlen : ms.length = rs.length
    rotate_left
    · have hne : ((ms.length : Int) != (rs.length : Int)) = true := by simp; omega
      have NO : Hid (¬ MaxOk rs ms) := fun h => hlen h.len
      clear h hs hmm FM hfm hrow hlen
      go_enter Try.func27, Try.ntmps27
      go_wp2_with fail
      go_fit F.out
      rintro e w1 ⟨rfl, rfl⟩
      go_wp2_with fail
      go_ret
      exact ⟨false, rfl, ⟨fun h => absurd h (by simp), fun h => absurd h NO.out⟩, Below.refl _ _⟩
    · have hne : ((ms.length : Int) != (rs.length : Int)) = false := by simp; omega
      have H := Lib.hid h; have S := Lib.hid hs; have HLEN := Lib.hid hlen
      have I0 : Hid (MxRel W rs (msF ms) rs.length (.int .i64 0) (W.alloc (.cells #[.bool false, .bool false, .bool false, .bool false, .bool false, .bool false, .bool false, .bool false] 62))) :=
        ⟨0, Nat.zero_le _, rfl, ⟨fun j hj => by omega, fun j hj => by omega⟩, ⟨Blk.new W 62 [.bool false, .bool false, .bool false, .bool false, .bool false, .bool false, .bool false, .bool false], (Below.refl _ _).alloc (Nat.le_refl _) _⟩⟩
      clear h hs hmm FM hfm hrow
      generalize hn : rs.length = n at *
      generalize hnm : ms.length = nm at *
      have hnm1 : nm ≤ n := by omega
      have hnm2 : n ≤ nm := by omega
      have HN := Lib.hid hn; have HNM := Lib.hid hnm
      have NOK : Hid (∀ (P : Prop), (MaxOk rs ms → P) → ¬ P → ((false : Bool) = true ↔ MaxOk rs ms)) := fun P h1 h2 => ⟨fun h => absurd h (by simp), fun h => absurd (h1 h) h2⟩
      clear hn hnm hlen
      go_enter Try.func27, Try.ntmps27
      go_wp2_with fail
      go_fit F.out
      rintro e w1 ⟨rfl, rfl⟩
      go_wp2_with fail
      go_loopw [24] (fun i wr => MxRel W rs (msF ms) n i wr) (fun i _ => n - (intOf i).toNat)
      case atStart => exact I0.out
      case round =>
        clear I0
        obtain ⟨i, hi, rfl, hmat, hst⟩ := hrel
        have MAT := Lib.hid hmat; have ST := Lib.hid hst
        clear hmat hst
        by_cases hlt : i < n
        · obtain ⟨x, ex, okx, cx⟩ := (S.out.below ST.out.bel).get (k := i) (by rw [HNM.out]; omega)
          have hex := msF_get ex.out
          have EX := Lib.hid hex
          have iln : i < nm := by omega
          have HI := Lib.hid hi
          by_cases x1 : x = -1
          · have xb : (x == -1) = true := by simp [x1]
            have FIN : Hid (MxSt W n (msF ms) (i + 1) wr) := ⟨by rw [tkF_succ_neg _ _ (by rw [hex, x1])]; exact ST.out.ht, ST.out.bel⟩
            have MAT2 := Lib.hid (MAT.out.step_neg (by rw [hex, x1]))
            clear hex x1
            go_wp2_with fail
            go_roundw
            case rel => exact ⟨i + 1, by omega, by go_num, MAT2.out, FIN.out⟩
            case measure => simp [intOf]; omega
          · have xb : (x == -1) = false := by simp [x1]
            by_cases x2 : x < 0
            · have NO : Hid ((false : Bool) = true ↔ MaxOk rs ms) := NOK.out (x = -1 ∨ 0 ≤ x) (fun h => by
                rcases h.mat.v i (by rw [HN.out]; exact hlt) with h1 | ⟨k, _, h1, _⟩ <;> rw [hex] at h1
                · exact .inl h1
                · exact .inr (by omega)) (by omega)
              clear hex
              go_wp2_with fail
              go_ret
              exact ⟨false, rfl, NO.out, ST.out.bel⟩
            · by_cases x3 : (n : Int) ≤ x
              · have NO : Hid ((false : Bool) = true ↔ MaxOk rs ms) := NOK.out (x < n) (fun h => by
                  rcases h.mat.v i (by rw [HN.out]; exact hlt) with h1 | ⟨k, h0, h1, _⟩ <;> rw [hex] at h1
                  · omega
                  · rw [HN.out] at h0; omega) (by omega)
                clear hex
                go_wp2_with fail
                go_ret
                exact ⟨false, rfl, NO.out, ST.out.bel⟩
              · obtain ⟨c, rfl⟩ := Int.eq_ofNat_of_zero_le (show 0 ≤ x by omega)
                have hc : c < n := by omega
                have tc : wr.cell? ⟨W.heap.size, c, none⟩ = some (bF (tkF (msF ms) i) c) := ST.out.ht.cell (by omega)
                have tf := ST.out.ht.free c
                obtain ⟨r, er, o1, c1, o2, c2⟩ := (H.out.below ST.out.bel).get (n := n) HN.out HROW.out hlt hc
                have c8 : (c : Int) < 8 := by omega
                unfold bF at tc
                cases ht : tkF (msF ms) i c with
                | true =>
                  rw [ht] at tc
                  have NO : Hid ((false : Bool) = true ↔ MaxOk rs ms) := NOK.out False (fun h => by
                    obtain ⟨j, hj, ej⟩ := (tkF_iff _ _ _).1 ht
                    have := h.mat.inj j (by rw [HN.out]; omega) i (by rw [HN.out]; exact hlt) c ej hex
                    omega) id
                  clear hex ht er c1 c2
                  go_wp2_with fail
                  go_ret
                  exact ⟨false, rfl, NO.out, ST.out.bel⟩
                | false =>
                  rw [ht] at tc
                  cases hr : reqF rs i c with
                  | false =>
                    rw [hr] at c2
                    have NO : Hid ((false : Bool) = true ↔ MaxOk rs ms) := NOK.out (reqF rs i c = true) (fun h => by
                      rcases h.mat.v i (by rw [HN.out]; exact hlt) with h1 | ⟨k, h0, h1, h2⟩ <;> rw [hex] at h1
                      · omega
                      · (obtain rfl : c = k := by omega); exact h2) (by simp [hr])
                    clear hex ht er hr
                    go_wp2_with fail
                    go_ret
                    exact ⟨false, rfl, NO.out, ST.out.bel⟩
                  | true =>
                    rw [hr] at c2
                    have FIN : Hid (MxSt W n (msF ms) (i + 1) (wr.setCell ⟨W.heap.size, c, none⟩ (.bool true))) := by
                      refine ⟨?_, ST.out.bel.setCell (p := ⟨W.heap.size, c, none⟩) (Nat.le_refl _) _⟩
                      rw [← tkF_succ _ _ c hex, ← bF_upd]
                      exact ST.out.ht.set (by omega) _
                    have MAT2 := Lib.hid (MAT.out.step hc hex ht hr)
                    clear hex ht er hr
                    go_wp2_with fail
                    go_roundw
                    case rel => exact ⟨i + 1, by omega, by go_num, MAT2.out, FIN.out⟩
                    case measure => simp [intOf]; omega
        · obtain rfl : n = i := by omega
          have hbl := ST.out.bel
          have TK := Lib.hid ST.out.ht
          have RQ := Lib.hid (H.out.below hbl)
          have SL := Lib.hid (S.out.below hbl)
          have BEL := Lib.hid hbl
          clear hbl ST hlt
          go_wp2_with fail
          go_loopw [59] (fun i w => MxRel2 rs (msF ms) n wr i w) (fun i _ => n - (intOf i).toNat)
          case atStart => exact ⟨0, Nat.zero_le _, rfl, fun j hj => by omega, rfl⟩
          case round =>
            clear hi
            obtain ⟨i, hi, rfl, hf, rfl⟩ := hrel
            have FU := Lib.hid hf
            clear hf
            by_cases hlt : i < n
            · obtain ⟨r, er, o1, c1⟩ := RQ.out.hs.get (k := i) (by rw [HN.out]; exact hlt)
              have hrl := HROW.out r (List.mem_of_getElem? er.out)
              have RR := Lib.hid (RQ.out.rows r (List.mem_of_getElem? er.out))
              have RF : Hid (∀ q x, r.xs[q]? = some x → reqF rs i q = x) := fun q x hx => by unfold reqF; rw [er.out]; simp [hx]
              obtain ⟨ra, rc, rxs⟩ := r
              unfold RowOf.val at c1
              dsimp only at c1 hrl RR RF
              obtain ⟨x, ex, okx, cx⟩ := SL.out.get (k := i) (by rw [HNM.out]; omega)
              have EX := Lib.hid (msF_get ex.out)
              have iln : (i : Int) < (nm : Int) := by omega
              have HRL := Lib.hid hrl
              have hrl1 : rxs.length ≤ n := by omega
              have hrl2 : n ≤ rxs.length := by omega
              generalize hrn : rxs.length = rn at *
              have HRN := Lib.hid hrn
              clear hrn hrl
              go_wp2_with fail
              go_loopw [66] (fun k w => MxRel3 rs (msF ms) n i wr k w) (fun k _ => n - (intOf k).toNat)
              case atStart => exact ⟨0, Nat.zero_le _, rfl, fun p hp => by omega, rfl⟩
              case round =>
                obtain ⟨k, hk, rfl, hg, rfl⟩ := hrel
                have GU := Lib.hid hg
                clear hg
                by_cases hkt : k < n
                · obtain ⟨y, ey, oky, cy⟩ := RR.out.get (k := k) (by rw [HRN.out]; omega)
                  have hry := RF.out k y ey.out
                  have krn : k < rn := by omega
                  have k8 : (k : Int) < 8 := by omega
                  have tc : wr.cell? ⟨W.heap.size, k, none⟩ = some (bF (tkF (msF ms) n) k) := TK.out.cell (by omega)
                  unfold bF at tc
                  have NEXT : Hid ((reqF rs i k = true → msF ms i = -1 → tkF (msF ms) n k = true) → ∀ p < k + 1, reqF rs i p = true → msF ms i = -1 → tkF (msF ms) n p = true) := fun h p hp => by
                    by_cases e : p = k
                    · subst e; exact h
                    · exact GU.out p (by omega)
                  cases y with
                  | false =>
                    have NX := Lib.hid (NEXT.out (fun h => by rw [hry] at h; exact absurd h (by simp)))
                    clear hry
                    go_wp2_with fail
                    go_roundw
                    case rel => exact ⟨k + 1, by omega, by go_num, NX.out, rfl⟩
                    case measure => simp [intOf]; omega
                  | true =>
                    by_cases x1 : x = -1
                    · have xb : (x == -1) = true := by simp [x1]
                      cases ht : tkF (msF ms) n k with
                      | true =>
                        rw [ht] at tc
                        have NX := Lib.hid (NEXT.out (fun _ _ => ht))
                        clear hry x1 ht
                        go_wp2_with fail
                        go_roundw
                        case rel => exact ⟨k + 1, by omega, by go_num, NX.out, rfl⟩
                        case measure => simp [intOf]; omega
                      | false =>
                        rw [ht] at tc
                        have NO : Hid ((false : Bool) = true ↔ MaxOk rs ms) := NOK.out (tkF (msF ms) n k = true) (fun h => by
                          obtain ⟨j, hj, e⟩ := h.full i (by rw [HN.out]; exact hlt) k (by rw [HN.out]; exact hkt) hry (by rw [EX.out, x1])
                          exact (tkF_iff _ _ _).2 ⟨j, by rw [HN.out] at hj; exact hj, e⟩) (by simp [ht])
                        clear hry x1 ht
                        go_wp2_with fail
                        go_ret
                        exact ⟨false, rfl, NO.out, BEL.out⟩
                    · have xb : (x == -1) = false := by simp [x1]
                      have NX := Lib.hid (NEXT.out (fun _ h => by rw [EX.out] at h; exact absurd h x1))
                      clear hry x1
                      go_wp2_with fail
                      go_roundw
                      case rel => exact ⟨k + 1, by omega, by go_num, NX.out, rfl⟩
                      case measure => simp [intOf]; omega
                · have krn : ¬ k < rn := by omega
                  obtain rfl : n = k := by omega
                  have NX : Hid (∀ j < i + 1, ∀ q < n, reqF rs j q = true → msF ms j = -1 → tkF (msF ms) n q = true) := fun j hj => by
                    by_cases e : j = i
                    · subst e; exact GU.out
                    · exact FU.out j (by omega)
                  go_wp2_with fail
                  go_roundw
                  case rel => exact ⟨i + 1, by omega, by go_num, NX.out, rfl⟩
                  case measure => simp [intOf]; omega
            · obtain rfl : n = i := by omega
              have YES : Hid (MaxOk rs ms) := by
                refine ⟨HFM.out, by rw [HN.out, HNM.out]; omega, by rw [HN.out]; exact MAT.out, fun i hi k hk hr he => ?_⟩
                rw [HN.out] at hi hk
                obtain ⟨j, hj, e⟩ := (tkF_iff _ _ _).1 (FU.out i hi k hk hr he)
                exact ⟨j, by rw [HN.out]; exact hj, e⟩
              go_wp2_with fail
              go_ret
              exact ⟨true, rfl, ⟨fun _ => YES.out, fun _ => rfl⟩, BEL.out⟩
end Go.Proofs.Ytldgpdgoccccpaa
