/-
  Contracts of the closures of a round, of first, and of square.
-/
import Derived.Test.YtkooihniieepcaaBarLib
namespace Go.Proofs.Ytkooihniieepcaa
open Go.RowKit
set_option linter.unusedVariables false

/-- What the first closure of a round reads. -/
structure Clo1 (w : World) (mbx rbx kb mb : Nat) (a0 : Option Addr) (c0 n k : Nat) (rs : List (RowOf Bool)) (m : Nat → Int) : Prop where
  hm : Blk w mbx 22 [.slice (some ⟨mb, 0, none⟩) n n]
  hr : Blk w rbx 92 [.slice a0 n c0]
  hk : Blk w kb 3 [.int .i64 k]
  hb : Fun w mb 3 n (iF m)
  rq : Req w a0 rs
theorem Clo1.below {w w' : World} {mbx rbx kb mb : Nat} {a0 : Option Addr} {c0 n k : Nat} {rs : List (RowOf Bool)} {m : Nat → Int} (h : Clo1 w mbx rbx kb mb a0 c0 n k rs m) (b : Below w.heap.size w w') : Clo1 w' mbx rbx kb mb a0 c0 n k rs m :=
  have u : Upd (fun _ => False) w w' := Upd.of_below b
  ⟨h.hm.upd u id, h.hr.upd u id, h.hk.upd u id, h.hb.upd u id, h.rq.below b⟩

set_option maxHeartbeats 1000000 in
theorem clo1_any (w : World) (mbx rbx kb mb : Nat) (a0 : Option Addr) (c0 n k i : Nat) (rs : List (RowOf Bool)) (m : Nat → Int) (h : Clo1 w mbx rbx kb mb a0 c0 n k rs m) (hn : rs.length = n) (hr : ∀ r ∈ rs, r.xs.length = n) (hi : i < n) (hk : k < n) (h8 : n ≤ 8) :
    Calls Try.prog 60 #[.int .i64 i, .pointer (some ⟨mbx, 0, none⟩), .pointer (some ⟨rbx, 0, none⟩), .pointer (some ⟨kb, 0, none⟩)] w fun e w' =>
      e = .returned (.bool (decide (m i < 0) && reqF rs i k)) ∧ Qt w w' := by
  obtain ⟨r, er, o1, c1, o2, c2⟩ := h.rq.get hn hr hi hk
  have x1 := h.hm.cell (i := 0) rfl
  have x2 := h.hr.cell (i := 0) rfl
  have x3 := h.hk.cell (i := 0) rfl
  have x4 : w.cell? ⟨mb, i, none⟩ = some (.int .i64 (m i)) := h.hb.cell hi
  have i0 : (i : Int) < (n : Int) := by omega
  have k0 : (k : Int) < (n : Int) := by omega
  generalize reqF rs i k = q at *
  generalize m i = x at *
  clear h hn hr er
  by_cases hx : x < 0
  · have hq : (decide (x < 0) && q) = q := by simp [hx]
    rw [hq]
    clear hq
    go_enter Try.func60, Try.ntmps60
    go_wp2
    go_quiet (fail)
    go_wp2
    go_ret
    exact ⟨rfl, (Qt.refl _).drewN _⟩
  · have hq : (decide (x < 0) && q) = false := by simp [hx]
    have hd : decide (x < 0) = false := by simp [hx]
    rw [hq]
    clear hq
    go_enter Try.func60, Try.ntmps60
    go_wp2
    go_quiet (fail)
    go_wp2
    go_ret
    exact ⟨rfl, (Qt.refl _).drewN _⟩

/-- What the second closure of a round reads. -/
structure Clo2 (w : World) (gb ib : Nat) (i : Nat) (gr : Nat → Int) : Prop where
  hg : Fun w gb 71 8 (iF gr)
  hi : Blk w ib 3 [.int .i64 i]
theorem Clo2.below {w w' : World} {gb ib i : Nat} {gr : Nat → Int} (h : Clo2 w gb ib i gr) (b : Below w.heap.size w w') : Clo2 w' gb ib i gr :=
  have u : Upd (fun _ => False) w w' := Upd.of_below b
  ⟨h.hg.upd u id, h.hi.upd u id⟩
set_option maxHeartbeats 1000000 in
theorem clo2_any (w : World) (gb ib i k : Nat) (gr : Nat → Int) (h : Clo2 w gb ib i gr) (hk : k < 8) :
    Calls Try.prog 61 #[.int .i64 k, .pointer (some ⟨gb, 0, none⟩), .pointer (some ⟨ib, 0, none⟩)] w fun e w' =>
      e = .returned (.bool (gr k == (i : Int))) ∧ Qt w w' := by
  have x1 : w.cell? ⟨gb, k, none⟩ = some (.int .i64 (gr k)) := h.hg.cell hk
  have x2 := h.hi.cell (i := 0) rfl
  have k0 : (k : Int) < 8 := by omega
  generalize gr k = x at *
  clear h
  go_enter Try.func61, Try.ntmps61
  go_wp2
  go_quiet (fail)
  go_wp2
  go_ret
  exact ⟨rfl, (Qt.refl _).drewN _⟩

theorem fv_step (p : Nat → Bool) (n f k : Nat) (hk : k < n) : Bar.fv p n f (n - k) = if p ((f + k) % n) then (((f + k) % n : Nat) : Int) else Bar.fv p n f (n - (k + 1)) := by
  rw [show n - k = (n - (k + 1)) + 1 by omega]
  show (if _ then _ else _) = _
  rw [show n - (n - (k + 1) + 1) = k by omega]

/-- At step k nothing suitable was found. -/
def FstRel (p : Nat → Bool) (n f : Nat) (w : World) (i : Value) (wr : World) : Prop := ∃ k : Nat, k ≤ n ∧ i = .int .i64 k ∧ Bar.fst p n f = Bar.fv p n f (n - k) ∧ Qt w wr
def FstPost (p : Nat → Bool) (n f : Nat) (w : World) (e : Ending) (w' : World) : Prop := e = .returned (.int .i64 (Bar.fst p n f)) ∧ Qt w w'

set_option maxHeartbeats 1000000 in
theorem first1_any (w : World) (mbx rbx kb mb : Nat) (a0 : Option Addr) (c0 n k f : Nat) (rs : List (RowOf Bool)) (m : Nat → Int) (h : Clo1 w mbx rbx kb mb a0 c0 n k rs m) (hn : rs.length = n) (hr : ∀ r ∈ rs, r.xs.length = n) (hk : k < n) (hf : f < n) (h8 : n ≤ 8) :
    Calls Try.prog 59 #[.int .i64 n, .int .i64 f, .func (.func 60) #[] #[.pointer (some ⟨mbx, 0, none⟩), .pointer (some ⟨rbx, 0, none⟩), .pointer (some ⟨kb, 0, none⟩)]] w
      (FstPost (fun i => decide (m i < 0) && reqF rs i k) n f w) := by
  have C : Hid (∀ i < n, ∀ wr, Qt w wr → Calls Try.prog 60 #[.int .i64 i, .pointer (some ⟨mbx, 0, none⟩), .pointer (some ⟨rbx, 0, none⟩), .pointer (some ⟨kb, 0, none⟩)] wr fun e w' =>
      e = .returned (.bool ((fun i => decide (m i < 0) && reqF rs i k) i)) ∧ Qt wr w') := fun i hi wr hq => clo1_any wr mbx rbx kb mb a0 c0 n k i rs m (h.below hq.bel) hn hr hi hk h8
  generalize hp : (fun i => decide (m i < 0) && reqF rs i k) = p at *
  clear hp h hn hr
  go_enter Try.func59, Try.ntmps59
  go_wp2_with fail
  go_loopw [10] (fun i wr => FstRel p n f w i wr) (fun i _ => n - (intOf i).toNat)
  case atStart => exact ⟨0, Nat.zero_le _, rfl, rfl, Qt.refl _⟩
  case round =>
    obtain ⟨s, hs, rfl, hv, hq⟩ := hrel
    have HV := Lib.hid hv; have HQ := Lib.hid hq
    clear hv hq
    by_cases hlt : s < n
    · have hx : ((f : Int) + (s : Int)) % (n : Int) = (((f + s) % n : Nat) : Int) := by simp
      have hxn : (f + s) % n < n := Nat.mod_lt _ (by omega)
      have CC := C.out ((f + s) % n) hxn wr HQ.out
      rw [← hx] at CC
      have st := fv_step p n f s hlt
      cases hpx : p ((f + s) % n) with
      | true =>
        rw [hpx] at CC
        have R : Hid (Bar.fst p n f = ((f : Int) + (s : Int)) % (n : Int)) := by show _ = _; rw [HV.out, st, hpx, if_pos rfl, hx]
        have C2 := Lib.hid CC
        clear CC st hpx hx
        go_wp2_with fail
        refine C2.out.mono ?_
        rintro e w1 ⟨rfl, hq⟩
        have HQ1 := Lib.hid (HQ.out.trans hq); clear hq
        go_wp2_with fail
        go_ret
        exact ⟨ret_int R.out.symm, HQ1.out⟩
      | false =>
        rw [hpx] at CC
        have R : Hid (Bar.fst p n f = Bar.fv p n f (n - (s + 1))) := by show _ = _; rw [HV.out, st, hpx, if_neg (by simp)]
        have C2 := Lib.hid CC
        clear CC st hpx hx
        go_wp2_with fail
        refine C2.out.mono ?_
        rintro e w1 ⟨rfl, hq⟩
        have HQ1 := Lib.hid (HQ.out.trans hq); clear hq
        go_wp2_with fail
        go_roundw
        case rel => exact ⟨s + 1, by omega, by go_num, R.out, HQ1.out⟩
        case measure => simp [intOf]; omega
    · have R : Hid (Bar.fst p n f = -1) := by show _ = _; rw [HV.out, show n - s = 0 by omega]; rfl
      go_wp2_with fail
      go_ret
      exact ⟨ret_int R.out.symm, HQ.out⟩

set_option maxHeartbeats 1000000 in
theorem first2_any (w : World) (gb ib i n f : Nat) (gr : Nat → Int) (h : Clo2 w gb ib i gr) (hf : f < n) (h8 : n ≤ 8) :
    Calls Try.prog 59 #[.int .i64 n, .int .i64 f, .func (.func 61) #[] #[.pointer (some ⟨gb, 0, none⟩), .pointer (some ⟨ib, 0, none⟩)]] w
      (FstPost (fun k => gr k == (i : Int)) n f w) := by
  have C : Hid (∀ k < n, ∀ wr, Qt w wr → Calls Try.prog 61 #[.int .i64 k, .pointer (some ⟨gb, 0, none⟩), .pointer (some ⟨ib, 0, none⟩)] wr fun e w' =>
      e = .returned (.bool ((fun k => gr k == (i : Int)) k)) ∧ Qt wr w') := fun k hk wr hq => clo2_any wr gb ib i k gr (h.below hq.bel) (by omega)
  generalize hp : (fun k => gr k == (i : Int)) = p at *
  clear hp h
  go_enter Try.func59, Try.ntmps59
  go_wp2_with fail
  go_loopw [10] (fun i wr => FstRel p n f w i wr) (fun i _ => n - (intOf i).toNat)
  case atStart => exact ⟨0, Nat.zero_le _, rfl, rfl, Qt.refl _⟩
  case round =>
    obtain ⟨s, hs, rfl, hv, hq⟩ := hrel
    have HV := Lib.hid hv; have HQ := Lib.hid hq
    clear hv hq
    by_cases hlt : s < n
    · have hx : ((f : Int) + (s : Int)) % (n : Int) = (((f + s) % n : Nat) : Int) := by simp
      have hxn : (f + s) % n < n := Nat.mod_lt _ (by omega)
      have CC := C.out ((f + s) % n) hxn wr HQ.out
      rw [← hx] at CC
      have st := fv_step p n f s hlt
      cases hpx : p ((f + s) % n) with
      | true =>
        rw [hpx] at CC
        have R : Hid (Bar.fst p n f = ((f : Int) + (s : Int)) % (n : Int)) := by show _ = _; rw [HV.out, st, hpx, if_pos rfl, hx]
        have C2 := Lib.hid CC
        clear CC st hpx hx
        go_wp2_with fail
        refine C2.out.mono ?_
        rintro e w1 ⟨rfl, hq⟩
        have HQ1 := Lib.hid (HQ.out.trans hq); clear hq
        go_wp2_with fail
        go_ret
        exact ⟨ret_int R.out.symm, HQ1.out⟩
      | false =>
        rw [hpx] at CC
        have R : Hid (Bar.fst p n f = Bar.fv p n f (n - (s + 1))) := by show _ = _; rw [HV.out, st, hpx, if_neg (by simp)]
        have C2 := Lib.hid CC
        clear CC st hpx hx
        go_wp2_with fail
        refine C2.out.mono ?_
        rintro e w1 ⟨rfl, hq⟩
        have HQ1 := Lib.hid (HQ.out.trans hq); clear hq
        go_wp2_with fail
        go_roundw
        case rel => exact ⟨s + 1, by omega, by go_num, R.out, HQ1.out⟩
        case measure => simp [intOf]; omega
    · have R : Hid (Bar.fst p n f = -1) := by show _ = _; rw [HV.out, show n - s = 0 by omega]; rfl
      go_wp2_with fail
      go_ret
      exact ⟨ret_int R.out.symm, HQ.out⟩

def SqRel (rs : List (RowOf Bool)) (n : Nat) (w : World) (i : Value) (wr : World) : Prop := ∃ k : Nat, k ≤ rs.length ∧ i = .int .i64 k ∧ (∀ j < k, ∀ r, rs[j]? = some r → r.xs.length = n) ∧ w = wr
theorem sq_false {rs : List (RowOf Bool)} {n k : Nat} {r : RowOf Bool} (h : rs[k]? = some r) (hl : r.xs.length ≠ n) : sqB rs n = false := by
  simp only [sqB, decide_eq_false_iff_not]
  rintro ⟨_, h2⟩
  exact hl (h2 r (List.mem_of_getElem? h))
theorem sq_true {rs : List (RowOf Bool)} {n : Nat} (hn : rs.length = n) (h : ∀ j < rs.length, ∀ r, rs[j]? = some r → r.xs.length = n) : sqB rs n = true := by
  simp only [sqB, decide_eq_true_eq]
  refine ⟨hn, fun r hr => ?_⟩
  obtain ⟨j, hj⟩ := List.mem_iff_getElem?.1 hr
  exact h j (by rcases Nat.lt_or_ge j rs.length with h | h; exact h; simp [List.getElem?_eq_none h] at hj) r hj
set_option maxHeartbeats 1000000 in
theorem square_any (w : World) (a0 : Option Addr) (c0 n : Nat) (rs : List (RowOf Bool)) (h : Req w a0 rs) (hm : rs.length ≤ maxLen) (hmm : ∀ r ∈ rs, r.xs.length ≤ maxLen) :
    Calls Try.prog 54 #[.slice a0 rs.length c0, .int .i64 n] w fun e w' => e = .returned (.bool (sqB rs n)) ∧ w = w' := by
  unfold maxLen at hm
  generalize hR : sqB rs n = res
  have HR := Lib.hid hR; clear hR
  have S := Lib.hid h.hs; clear h
  have MM := Lib.hid hmm; clear hmm
  by_cases hn : rs.length = n
  · have hne : ((rs.length : Int) != (n : Int)) = false := by simp [hn]
    have HN := Lib.hid hn; clear hn
    generalize hl : rs.length = l at *
    have HL := Lib.hid hl; clear hl
    go_enter Try.func54, Try.ntmps54
    go_wp2_with fail
    go_loopw [13] (fun i wr => SqRel rs n w i wr) (fun i _ => l - (intOf i).toNat)
    case atStart => exact ⟨0, Nat.zero_le _, rfl, fun j hj => by omega, rfl⟩
    case round =>
      obtain ⟨k, hk, rfl, hv, rfl⟩ := hrel
      have HV := Lib.hid hv; clear hv
      have hk' : k ≤ l := by rw [HL.out] at hk; exact hk
      clear hk
      by_cases hlt : k < l
      · obtain ⟨r, er, o1, c1⟩ := S.out.get (k := k) (by rw [HL.out]; exact hlt)
        have hrm := MM.out r (List.mem_of_getElem? er.out)
        obtain ⟨ra, rc, rxs⟩ := r
        unfold RowOf.val at c1
        dsimp only at c1 hrm
        unfold maxLen at hrm
        by_cases hrl : rxs.length = n
        · have hb : ((rxs.length : Int) != (n : Int)) = false := by simp [hrl]
          have V2 : Hid (∀ j < k + 1, ∀ r, rs[j]? = some r → r.xs.length = n) := by
            intro j hj r hr
            by_cases e : j = k
            · subst e; rw [er.out] at hr; obtain rfl := Option.some.inj hr; exact hrl
            · exact HV.out j (by omega) r hr
          clear hrl
          go_wp2_with fail
          go_roundw
          case rel => exact ⟨k + 1, by rw [HL.out]; omega, by go_num, V2.out, rfl⟩
          case measure => simp [intOf]; omega
        · have hb : ((rxs.length : Int) != (n : Int)) = true := by simp; omega
          have R : Hid (res = false) := by show _ = _; rw [← HR.out]; exact sq_false er.out hrl
          clear hrl
          go_wp2_with fail
          go_ret
          exact ⟨ret_bool R.out.symm, rfl⟩
      · have R : Hid (res = true) := by
          show _ = _
          rw [← HR.out]
          exact sq_true (by rw [HL.out]; exact HN.out) (fun j hj r hr => HV.out j (by rw [HL.out] at hj; omega) r hr)
        go_wp2_with fail
        go_ret
        exact ⟨ret_bool R.out.symm, rfl⟩
  · have hne : ((rs.length : Int) != (n : Int)) = true := by simp; omega
    have R : Hid (res = false) := by
      show _ = _
      rw [← HR.out]
      simp only [sqB, decide_eq_false_iff_not]
      exact fun h => hn h.1
    clear hn
    go_enter Try.func54, Try.ntmps54
    go_wp2_with fail
    go_ret
    exact ⟨ret_bool R.out.symm, rfl⟩
end Go.Proofs.Ytkooihniieepcaa
