/-
  Contracts of (*Crossbar).Match.
-/
import Derived.Test.YtkooihniieepcaaSlices
namespace Go.Proofs.Ytkooihniieepcaa
open Go.RowKit
set_option linter.unusedVariables false

theorem make_ints (w : World) (n : Nat) (h : n ≤ 1000000) : (Instr.makeSlice 22 (.int .i64 n) (.int .i64 n)).run Try.prog w =
    .ok (.slice (some ⟨w.heap.size, 0, none⟩) n n) (w.alloc (.cells ((List.replicate n 0).map (Value.int .i64)).toArray 3)) := by
  obtain ⟨i, hi, hz, hs, hb⟩ := info_parts Try.infoInt
  rw [run_make w 22 3 i _ Try.underlying22 hi hz .i64 .i64 n n (by omega) (by omega) (by rw [hb]; omega) (by omega)]
  have e : madeCells (Value.int .i64 0).cells (((n : Int).toNat) * i.size) = ((List.replicate n 0).map (Value.int .i64)).toArray := by
    rw [hs, Nat.mul_one, Int.toNat_natCast]
    apply Array.toList_inj.1
    rw [show (Value.int .i64 0).cells = #[Value.int .i64 0] from rfl, toList_madeCells_one]
    simp
  rw [e, Int.toNat_natCast]
theorem make_bools (w : World) (n : Nat) (h : n ≤ 1000000) : (Instr.makeSlice 32 (.int .i64 n) (.int .i64 n)).run Try.prog w =
    .ok (.slice (some ⟨w.heap.size, 0, none⟩) n n) (w.alloc (.cells ((List.replicate n false).map Value.bool).toArray 4)) := by
  obtain ⟨i, hi, hz, hs, hb⟩ := info_parts Try.infoBool
  rw [run_make w 32 4 i _ Try.underlying32 hi hz .i64 .i64 n n (by omega) (by omega) (by rw [hb]; omega) (by omega)]
  have e : madeCells (Value.bool false).cells (((n : Int).toNat) * i.size) = ((List.replicate n false).map Value.bool).toArray := by
    rw [hs, Nat.mul_one, Int.toNat_natCast]
    apply Array.toList_inj.1
    rw [show (Value.bool false).cells = #[Value.bool false] from rfl, toList_madeCells_one]
    simp
  rw [e, Int.toNat_natCast]
theorem fun_const {α : Type} (f : α → Value) (n : Nat) (x : α) : (List.replicate n x).map f = (List.range n).map fun _ => f x := by
  apply List.ext_getElem?
  intro i
  rw [List.getElem?_map, List.getElem?_map]
  by_cases h : i < n
  · rw [List.getElem?_replicate_of_lt h, List.getElem?_range h]; rfl
  · rw [List.getElem?_eq_none (by simpa using h), List.getElem?_eq_none (by simpa using h)]; rfl

set_option maxHeartbeats 400000 in
theorem match_nil (w : World) (a0 : Option Addr) (c0 l : Nat) (r : Int) :
    Calls Try.prog 42 #[.pointer none, .slice a0 l c0, .int .i64 r] w fun e w' => e = .returned (.tuple #[.slice none 0 0, .int .i64 1]) ∧ w = w' := by
  go_enter Try.func42, Try.ntmps42
  go_wp2_with fail
  go_ret2
  exact ⟨rfl, rfl⟩
set_option maxHeartbeats 400000 in
theorem match_arg (w : World) (cb n : Nat) (g a : Nat → Nat) (a0 : Option Addr) (c0 : Nat) (rs : List (RowOf Bool)) (r : Int) (h : BarAt w cb n g a) (hq : Req w a0 rs) (hm : rs.length ≤ maxLen) (hmm : ∀ r ∈ rs, r.xs.length ≤ maxLen) (hs : sqB rs n = false) :
    Calls Try.prog 42 #[.pointer (some ⟨cb, 0, none⟩), .slice a0 rs.length c0, .int .i64 r] w fun e w' => e = .returned (.tuple #[.slice none 0 0, .int .i64 1]) ∧ w = w' := by
  have N := h.n
  have S := square_any w a0 c0 n rs hq hm hmm
  rw [hs] at S
  have SQ := Lib.hid S
  clear h hq hs S hm hmm
  go_enter Try.func42, Try.ntmps42
  go_wp2_with fail
  refine SQ.out.mono ?_
  rintro e w1 ⟨rfl, rfl⟩
  go_wp2_with fail
  go_ret2
  exact ⟨rfl, rfl⟩
set_option maxHeartbeats 400000 in
theorem match_range (w : World) (cb n : Nat) (g a : Nat → Nat) (a0 : Option Addr) (c0 : Nat) (rs : List (RowOf Bool)) (r : Int) (h : BarAt w cb n g a) (hq : Req w a0 rs) (hm : rs.length ≤ maxLen) (hmm : ∀ r ∈ rs, r.xs.length ≤ maxLen) (hs : sqB rs n = true) (hr : r < 1 ∨ 8 < r) :
    Calls Try.prog 42 #[.pointer (some ⟨cb, 0, none⟩), .slice a0 rs.length c0, .int .i64 r] w fun e w' => e = .returned (.tuple #[.slice none 0 0, .int .i64 2]) ∧ w = w' := by
  have N := h.n
  have S := square_any w a0 c0 n rs hq hm hmm
  rw [hs] at S
  have SQ := Lib.hid S
  clear h hq hs S hm hmm
  rcases hr with h1 | h1
  · go_enter Try.func42, Try.ntmps42
    go_wp2_with fail
    refine SQ.out.mono ?_
    rintro e w1 ⟨rfl, rfl⟩
    go_wp2_with fail
    go_ret2
    exact ⟨rfl, rfl⟩
  · have h0 : ¬ r < 1 := by omega
    go_enter Try.func42, Try.ntmps42
    go_wp2_with fail
    refine SQ.out.mono ?_
    rintro e w1 ⟨rfl, rfl⟩
    go_wp2_with fail
    go_ret2
    exact ⟨rfl, rfl⟩

/-- The first k inputs have no match. -/
def mF (k : Nat) (j : Nat) : Int := if j < k then -1 else 0
theorem mF_succ (k : Nat) : Bar.upd (mF k) k (-1) = mF (k + 1) := by
  funext j
  unfold Bar.upd mF
  by_cases e : j = k
  · subst e; simp
  · rw [if_neg e]
    by_cases h : j < k
    · rw [if_pos h, if_pos (by omega)]
    · rw [if_neg h, if_neg (by omega)]
def MR1 (W : World) (n : Nat) (i : Value) (w : World) : Prop := ∃ k : Nat, k ≤ n ∧ i = .int .i64 k ∧ Fun w W.heap.size 3 n (iF (mF k)) ∧ Below W.heap.size W w
/-- The matching behind some rounds: at block mb. -/
def MatchAt (W : World) (cb n : Nat) (s : Bar.St) (w : World) : Prop := BarAt w cb n s.g s.a ∧ Fun w W.heap.size 3 n (iF s.m) ∧ Upd (fun j => j = cb) W w
def MatchPost (W : World) (cb n : Nat) (s : Bar.St) (e : Ending) (w : World) : Prop := e = .returned (.tuple #[.slice (some ⟨W.heap.size, 0, none⟩) n n, .int .i64 0]) ∧ MatchAt W cb n s w
structure ML2 (W : World) (cb tb n : Nat) (a0 : Option Addr) (rs : List (RowOf Bool)) (s : Bar.St) (w : World) : Prop where
  at_ : RndAt w cb W.heap.size tb a0 rs n s
  upd : Upd (fun j => j = cb) W w
def MR2 (W : World) (cb tb n : Nat) (a0 : Option Addr) (rs : List (RowOf Bool)) (r : Nat) (s : Bar.St) (i : Value) (w : World) : Prop :=
  ∃ k : Nat, k ≤ r ∧ i = .int .i64 k ∧ ML2 W cb tb n a0 rs (Bar.rounds (reqF rs) n s k) w

set_option maxHeartbeats 4000000 in
set_option maxRecDepth 100000 in
theorem match_ok (W : World) (cb n r : Nat) (g a : Nat → Nat) (a0 : Option Addr) (c0 : Nat) (rs : List (RowOf Bool)) (h : BarAt W cb n g a) (hq : Req W a0 rs) (hm : rs.length ≤ maxLen) (hmm : ∀ r ∈ rs, r.xs.length ≤ maxLen)
    (hs : sqB rs n = true) (hr1 : 1 ≤ r) (hr8 : r ≤ 8) (hn1 : 1 ≤ n) (hn8 : n ≤ 8) (hg : ∀ k < n, g k < n) (ha : ∀ i < n, a i < n) (off : Off a0 rs (fun j => j = cb)) :
    Calls Try.prog 42 #[.pointer (some ⟨cb, 0, none⟩), .slice a0 rs.length c0, .int .i64 r] W (MatchPost W cb n (Bar.rounds (reqF rs) n (Bar.start g a) r)) := by
  have SQ := Lib.hid (square_any W a0 c0 n rs hq hm hmm)
  rw [hs] at SQ
  obtain ⟨hl, hrow⟩ : rs.length = n ∧ ∀ r ∈ rs, r.xs.length = n := by simpa [sqB] using hs
  have HL := Lib.hid hl; have HROW := Lib.hid hrow
  have N := h.n
  have H := Lib.hid h; have HQ := Lib.hid hq; have OFF := Lib.hid off; have HG := Lib.hid hg; have HA := Lib.hid ha
  have lc := h.lt
  have hmk := fun w => make_ints w n (by omega)
  have OFF3 : Hid (∀ tb, W.heap.size ≤ tb → Off a0 rs (fun j => j = cb ∨ j = W.heap.size ∨ j = tb)) := fun tb htb => hq.off off fun j hj => by rcases hj with rfl | rfl | rfl; exact .inl rfl; exact .inr (Nat.le_refl _); exact .inr htb
  rw [hl] at SQ ⊢
  have I1 : Hid (MR1 W n (.int .i64 0) (W.alloc (.cells ((List.replicate n 0).map (Value.int .i64)).toArray 3))) := by
    refine ⟨0, Nat.zero_le _, rfl, ?_, (Below.refl _ _).alloc (Nat.le_refl _) _⟩
    have := Blk.new W 3 ((List.replicate n 0).map (Value.int .i64))
    rw [fun_const] at this ⊢
    exact this
  have h1 : ¬ (r : Int) < 1 := by omega
  have h2 : ¬ (8 : Int) < (r : Int) := by omega
  generalize hLL : (List.replicate n (0 : Int)).map (Value.int .i64) = LL at hmk I1
  clear hLL h hq hm hmm hs hl hrow off hg ha
  go_enter Try.func42, Try.ntmps42
  go_wp2_with fail
  refine SQ.out.mono ?_
  rintro e w1 ⟨rfl, rfl⟩
  go_wp2_with fail
  clear hmk
  go_loopw [36] (fun i wr => MR1 W n i wr) (fun i _ => n - (intOf i).toNat)
  case atStart => exact I1.out
  case round =>
    clear I1
    obtain ⟨k, hk, rfl, hF, hB⟩ := hrel
    have F := Lib.hid hF; have B := Lib.hid hB
    clear hF hB
    by_cases hlt : k < n
    · have y3 : wr.cell? ⟨W.heap.size, k, none⟩ = some (iF (mF k) k) := F.out.cell hlt
      have y4 := F.out.free k
      have kn : (k : Int) < (n : Int) := by omega
      have FIN : Hid (Fun (wr.setCell ⟨W.heap.size, k, none⟩ (.int .i64 (-1))) W.heap.size 3 n (iF (mF (k + 1))) ∧ Below W.heap.size W (wr.setCell ⟨W.heap.size, k, none⟩ (.int .i64 (-1)))) := by
        refine ⟨?_, B.out.setCell (p := ⟨W.heap.size, k, none⟩) (Nat.le_refl _) _⟩
        rw [← mF_succ, ← iF_upd]
        exact F.out.set hlt _
      go_wp2_with fail
      go_roundw
      case rel => exact ⟨k + 1, by omega, by go_num, FIN.out⟩
      case measure => simp [intOf]; omega
    · obtain rfl : n = k := by omega
      have B1 : Hid (Below W.heap.size W (wr.alloc (.cells #[.bool false, .bool false, .bool false, .bool false, .bool false, .bool false, .bool false, .bool false] 113))) := B.out.alloc B.out.size _
      have hlt1 := F.out.lt
      have I2 : Hid (ML2 W cb wr.heap.size n a0 rs (Bar.start g a) (wr.alloc (.cells #[.bool false, .bool false, .bool false, .bool false, .bool false, .bool false, .bool false, .bool false] 113))) := by
        refine ⟨⟨H.out.below B1.out, ?_, ?_, HQ.out.below B1.out⟩, Upd.of_below B1.out⟩
        · exact (F.out.congr fun j hj => by simp [iF, mF, hj, Bar.start]).below ((Below.refl _ _).alloc (Nat.le_refl _) _)
        · exact Blk.new wr 113 [.bool false, .bool false, .bool false, .bool false, .bool false, .bool false, .bool false, .bool false]
      clear B F
      clear B1
      go_wp2_with fail
      generalize htb : wr.heap.size = tb at *
      have O3 := Lib.hid (OFF3.out tb (by omega))
      clear htb
      go_loopw [44] (fun i wr => MR2 W cb tb n a0 rs r (Bar.start g a) i wr) (fun i _ => r - (intOf i).toNat)
      case atStart => exact ⟨0, Nat.zero_le _, rfl, I2.out⟩
      case round =>
        clear I2 hlt hk
        obtain ⟨k, hk, rfl, hL⟩ := hrel
        have L := Lib.hid hL; clear hL
        by_cases hlt : k < r
        · have O := Bar.rounds_ok (req := reqF rs) (Bar.start_ok HG.out HA.out) k
          have R := round_any wr cb W.heap.size tb a0 c0 n rs (Bar.rounds (reqF rs) n (Bar.start g a) k) (k == 0) L.out.at_ HL.out HROW.out hn1 hn8 O.g O.a (by omega) (by omega) (by omega) O3.out
          have es : Hid (Bar.rounds (reqF rs) n (Bar.start g a) (k + 1) = Bar.round (reqF rs) n (k == 0) (Bar.rounds (reqF rs) n (Bar.start g a) k)) := rfl
          have hb : ((k : Int) == 0) = (k == 0) := by cases k <;> rfl
          generalize hbb : (k == 0) = b at R es hb
          have R2 := Lib.hid R
          clear R O hbb
          go_wp2_with fail
          go_fit R2.out
          rintro e w2 ⟨rfl, hA, hU⟩
          have FIN : Hid (ML2 W cb tb n a0 rs (Bar.rounds (reqF rs) n (Bar.start g a) (k + 1)) w2) := by
            rw [es.out]
            exact ⟨hA, L.out.upd.then hU fun j hj hs => by rcases hs with e | e | e; exact e; omega; omega⟩
          clear hA hU
          go_wp2_with fail
          go_roundw
          case rel => exact ⟨k + 1, by omega, by go_num, FIN.out⟩
          case measure => simp [intOf]; omega
        · obtain rfl : r = k := by omega
          have M := Lib.hid (show MatchAt W cb n _ wr from ⟨L.out.at_.bar, L.out.at_.m, L.out.upd⟩)
          go_wp2_with fail
          go_ret2
          exact ⟨rfl, M.out⟩
end Go.Proofs.Ytkooihniieepcaa
