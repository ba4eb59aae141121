/-
  Contracts of the reference for a giver; NewGiver; the rooms.
-/
import Derived.Test.YtdfmahedhadfoaaCred
namespace Go.Proofs.Ytdfmahedhadfoaa
open Go.RowKit
set_option linter.unusedVariables false

def RefPost (w : World) (x' : I3) (e0 : Int) (e : Ending) (w' : World) : Prop :=
  e = .returned (.tuple #[.agg #[.int .i64 x'.a, .int .i64 x'.b, .int .i64 x'.c], .int .i64 e0]) ∧ Below w.heap.size w w'
def RefPost3 (w : World) (x' : I3) (n e0 : Int) (e : Ending) (w' : World) : Prop :=
  e = .returned (.tuple #[.agg #[.int .i64 x'.a, .int .i64 x'.b, .int .i64 x'.c], .int .i64 n, .int .i64 e0]) ∧ Below w.heap.size w w'

set_option maxHeartbeats 1000000 in
theorem rlimit_any (x : I3) (w : World) (h : GOk x) : Calls Try.prog 22 #[.agg #[.int .i64 x.a, .int .i64 x.b, .int .i64 x.c]] w
    fun e w' => e = .returned (.int .i64 (x.a + x.c)) ∧ Below w.heap.size w w' := by
  obtain ⟨a, b, c⟩ := x
  obtain ⟨h1, h2, h3, h4, h5, h6⟩ := h
  dsimp only at *
  go_enter Try.func22, Try.ntmps22
  go_wp2
  go_ret
  exact ⟨rfl, (Below.refl _ _).alloc (Nat.le_refl _) _⟩

set_option maxHeartbeats 2000000 in
theorem rrec_any (x : I3) (w : World) (h : GOk x) : Calls Try.prog 19 #[.agg #[.int .i64 x.a, .int .i64 x.b, .int .i64 x.c]] w (RefPost w (recX x) (recE x)) := by
  obtain ⟨a, b, c⟩ := x
  obtain ⟨h1, h2, h3, h4, h5, h6⟩ := h
  dsimp only at *
  by_cases hf : a + c ≤ b
  · have e1 : Hid (recX ⟨a, b, c⟩ = ⟨a, b, c⟩ ∧ recE ⟨a, b, c⟩ = 5) := by constructor <;> simp [recX, recE, hf]
    rw [e1.out.1, e1.out.2]
    have g : (b - c == a) = true := by rw [beq_iff_eq]; omega
    go_enter Try.func19, Try.ntmps19
    go_wp2
    exact bodyPost_ret (v := .tuple #[.agg #[.int .i64 a, .int .i64 b, .int .i64 c], .int .i64 5]) (by simp [results, Try.results19, go_sem]) rfl ⟨rfl, ((Below.refl _ _).alloc (Nat.le_refl _) _).alloc (by simp) _⟩
  · have e1 : Hid (recX ⟨a, b, c⟩ = ⟨a, b + 1, c⟩ ∧ recE ⟨a, b, c⟩ = 0) := by constructor <;> simp [recX, recE, hf]
    rw [e1.out.1, e1.out.2]
    have g : (b - c == a) = false := by rw [beq_eq_false_iff_ne]; omega
    go_enter Try.func19, Try.ntmps19
    go_wp2
    exact bodyPost_ret (v := .tuple #[.agg #[.int .i64 a, .int .i64 (b + 1), .int .i64 c], .int .i64 0]) (by simp [results, Try.results19, go_sem]) rfl ⟨rfl, ((Below.refl _ _).alloc (Nat.le_refl _) _).alloc (by simp) _⟩

set_option maxHeartbeats 2000000 in
theorem rfre_any (x : I3) (w : World) (h : GOk x) : Calls Try.prog 20 #[.agg #[.int .i64 x.a, .int .i64 x.b, .int .i64 x.c]] w (RefPost w (freX x) (freE x)) := by
  obtain ⟨a, b, c⟩ := x
  obtain ⟨h1, h2, h3, h4, h5, h6⟩ := h
  dsimp only at *
  by_cases hf : b ≤ c
  · have e1 : Hid (freX ⟨a, b, c⟩ = ⟨a, b, c⟩ ∧ freE ⟨a, b, c⟩ = 7) := by constructor <;> simp [freX, freE, hf]
    rw [e1.out.1, e1.out.2]
    have g : (b == c) = true := by rw [beq_iff_eq]; omega
    go_enter Try.func20, Try.ntmps20
    go_wp2
    exact bodyPost_ret (v := .tuple #[.agg #[.int .i64 a, .int .i64 b, .int .i64 c], .int .i64 7]) (by simp [results, Try.results20, go_sem]) rfl ⟨rfl, ((Below.refl _ _).alloc (Nat.le_refl _) _).alloc (by simp) _⟩
  · have e1 : Hid (freX ⟨a, b, c⟩ = ⟨a, b, c + 1⟩ ∧ freE ⟨a, b, c⟩ = 0) := by constructor <;> simp [freX, freE, hf]
    rw [e1.out.1, e1.out.2]
    have g : (b == c) = false := by rw [beq_eq_false_iff_ne]; omega
    go_enter Try.func20, Try.ntmps20
    go_wp2
    exact bodyPost_ret (v := .tuple #[.agg #[.int .i64 a, .int .i64 b, .int .i64 (c + 1)], .int .i64 0]) (by simp [results, Try.results20, go_sem]) rfl ⟨rfl, ((Below.refl _ _).alloc (Nat.le_refl _) _).alloc (by simp) _⟩

set_option maxHeartbeats 2000000 in
theorem raud_any (x : I3) (s : Int) (w : World) (h : GOk x) : Calls Try.prog 21 #[.agg #[.int .i64 x.a, .int .i64 x.b, .int .i64 x.c], .int .i64 s] w (RefPost3 w (audX x s) (audN x s) (audE x s)) := by
  have LIM := Lib.hid (rlimit_any x · h)
  obtain ⟨a, b, c⟩ := x
  obtain ⟨h1, h2, h3, h4, h5, h6⟩ := h
  dsimp only at *
  have B0 : Hid (Below w.heap.size w ((w.alloc (.cells #[.int .i64 a, .int .i64 b, .int .i64 c] 32)).alloc (.cells #[.int .i64 0, .int .i64 0, .int .i64 0] 32))) := ((Below.refl _ _).alloc (Nat.le_refl _) _).alloc (by simp) _
  have K1 : Hid (Blk ((w.alloc (.cells #[.int .i64 a, .int .i64 b, .int .i64 c] 32)).alloc (.cells #[.int .i64 0, .int .i64 0, .int .i64 0] 32)) w.heap.size 32 [.int .i64 a, .int .i64 b, .int .i64 c]) := (Blk.new w _ [.int .i64 a, .int .i64 b, .int .i64 c]).alloc _
  have K2 : Hid (Blk ((w.alloc (.cells #[.int .i64 a, .int .i64 b, .int .i64 c] 32)).alloc (.cells #[.int .i64 0, .int .i64 0, .int .i64 0] 32)) (w.heap.size + 1) 32 [.int .i64 0, .int .i64 0, .int .i64 0]) := by
    have := Blk.new (w.alloc (.cells #[.int .i64 a, .int .i64 b, .int .i64 c] 32)) 32 [.int .i64 0, .int .i64 0, .int .i64 0]
    rw [World.size_alloc] at this
    exact this
  by_cases hlo : s < b
  · have e1 : Hid (audX ⟨a, b, c⟩ s = ⟨a, b, c⟩ ∧ audE ⟨a, b, c⟩ s = 2 ∧ audN ⟨a, b, c⟩ s = 0) := by refine ⟨?_, ?_, ?_⟩ <;> simp [audX, audE, audN, hlo]
    rw [e1.out.1, e1.out.2.1, e1.out.2.2]
    go_enter Try.func21, Try.ntmps21
    go_wp2
    exact bodyPost_ret (v := .tuple #[.agg #[.int .i64 a, .int .i64 b, .int .i64 c], .int .i64 0, .int .i64 2]) (by simp [results, Try.results21, go_sem]) rfl ⟨rfl, ((Below.refl _ _).alloc (Nat.le_refl _) _).alloc (by simp) _⟩
  · by_cases hhi : a + c < s
    · have e1 : Hid (audX ⟨a, b, c⟩ s = ⟨a, b, c⟩ ∧ audE ⟨a, b, c⟩ s = 2 ∧ audN ⟨a, b, c⟩ s = 0) := by refine ⟨?_, ?_, ?_⟩ <;> simp [audX, audE, audN, hhi]
      rw [e1.out.1, e1.out.2.1, e1.out.2.2]
      go_enter Try.func21, Try.ntmps21
      go_wp2_with fail
      refine (LIM.out _).mono ?_
      rintro e w1 ⟨rfl, hb⟩
      have L1 := K1.out.upd (S := fun _ => False) (Upd.of_below hb) id
      have L2 := K2.out.upd (S := fun _ => False) (Upd.of_below hb) id
      have hz := hb.size
      simp at hz
      have c0 := L1.cell (i := 0) rfl
      have c1 := L1.cell (i := 1) rfl
      have c2 := L1.cell (i := 2) rfl
      have d0 := L2.cell (i := 0) rfl
      have d1 := L2.cell (i := 1) rfl
      have d2 := L2.cell (i := 2) rfl
      have f0 := L1.free 0
      have f1 := L1.free 1
      have f2 := L1.free 2
      have g0 := L2.free 0
      have g1 := L2.free 1
      have g2 := L2.free 2
      have HB : Hid (Below w.heap.size w w1) := B0.out.trans (hb.mono B0.out.size)
      clear hb L1 L2
      go_wp2_with fail
      refine bodyPost_ret (v := .tuple #[.agg #[.int .i64 a, .int .i64 b, .int .i64 c], .int .i64 0, .int .i64 2]) (by simp [results, Try.results21, go_sem, d0, d1, d2]) rfl ⟨rfl, ?_⟩
      exact ((HB.out.setCell (by simp) _).setCell (by simp) _).setCell (by simp) _
    · have hnot : ¬ (s < b ∨ a + c < s) := by omega
      have e1 : Hid (audX ⟨a, b, c⟩ s = ⟨a, s, c + (s - b)⟩ ∧ audE ⟨a, b, c⟩ s = 0 ∧ audN ⟨a, b, c⟩ s = s - b) := by refine ⟨?_, ?_, ?_⟩ <;> simp only [audX, audE, audN, if_neg hnot]
      rw [e1.out.1, e1.out.2.1, e1.out.2.2]
      clear hnot
      go_enter Try.func21, Try.ntmps21
      go_wp2_with fail
      refine (LIM.out _).mono ?_
      rintro e w1 ⟨rfl, hb⟩
      have L1 := K1.out.upd (S := fun _ => False) (Upd.of_below hb) id
      have L2 := K2.out.upd (S := fun _ => False) (Upd.of_below hb) id
      have hz := hb.size
      simp at hz
      have c0 := L1.cell (i := 0) rfl
      have c1 := L1.cell (i := 1) rfl
      have c2 := L1.cell (i := 2) rfl
      have d0 := L2.cell (i := 0) rfl
      have d1 := L2.cell (i := 1) rfl
      have d2 := L2.cell (i := 2) rfl
      have f0 := L1.free 0
      have f1 := L1.free 1
      have f2 := L1.free 2
      have g0 := L2.free 0
      have g1 := L2.free 1
      have g2 := L2.free 2
      have HB : Hid (Below w.heap.size w w1) := B0.out.trans (hb.mono B0.out.size)
      clear hb L1 L2
      go_wp2_with fail
      refine bodyPost_ret (v := .tuple #[.agg #[.int .i64 a, .int .i64 s, .int .i64 (c + (s - b))], .int .i64 (s - b), .int .i64 0]) (by simp [results, Try.results21, go_sem, d0, d1, d2]; omega) rfl ⟨rfl, ?_⟩
      exact ((((HB.out.setCell (by simp) _).setCell (by simp) _).setCell (by simp) _).setCell (by simp) _).setCell (by simp) _

theorem made3_list (a b c : Value) (n : Nat) : (madeCells #[a, b, c] (n * 3)).toList = (List.replicate n [a, b, c]).flatten := by
  induction n with
  | zero => simp [madeCells]
  | succ n ih =>
    rw [List.replicate_succ', List.flatten_append, ← ih]
    have e : (n + 1) * 3 = n * 3 + 1 + 1 + 1 := by omega
    simp only [madeCells, e, Array.range_succ, Array.toList_map, Array.toList_append, Array.map_append]
    simp [Nat.mul_mod_left, Nat.add_mod]
theorem Try.infoGiven : (Try.prog.info? 68).map (fun i => (i.zero, i.size, i.bytes)) = some (some (.agg #[.int .i64 0, .int .i64 0, .int .i64 0]), 3, 24) := by kernel_rfl
theorem make_given (w : World) (n : Nat) (h : n ≤ 1000) : (Instr.makeSlice 64 (.int .i64 n) (.int .i64 n)).run Try.prog w =
    .ok (.slice (some ⟨w.heap.size, 0, none⟩) n n) (w.alloc (.cells (cs3 (List.replicate n ⟨0, 0, 0⟩)).toArray 68)) := by
  obtain ⟨i, hi, hz, hs, hb⟩ := info_parts Try.infoGiven
  rw [run_make w 64 68 i _ Try.underlying64 hi hz .i64 .i64 n n (by omega) (by omega) (by rw [hb]; omega) (by omega)]
  have e : madeCells (Value.agg #[.int .i64 0, .int .i64 0, .int .i64 0]).cells (((n : Int).toNat) * i.size) = (cs3 (List.replicate n ⟨0, 0, 0⟩)).toArray := by
    rw [hs, Int.toNat_natCast]
    apply Array.toList_inj.1
    rw [show (Value.agg #[.int .i64 0, .int .i64 0, .int .i64 0]).cells = #[.int .i64 0, .int .i64 0, .int .i64 0] from rfl, made3_list]
    simp [cs3, List.flatMap, c3]
  rw [e, Int.toNat_natCast]
end Go.Proofs.Ytdfmahedhadfoaa
