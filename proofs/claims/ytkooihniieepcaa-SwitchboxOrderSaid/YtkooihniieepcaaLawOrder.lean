/-
  SwitchboxOrder: the walk.
-/
import Derived.Test.YtkooihniieepcaaPl
import Derived.Test.YtkooihniieepcaaPlC
import Derived.Test.YtkooihniieepcaaOrd
namespace Go.Proofs.Ytkooihniieepcaa
open Go.RowKit
set_option linter.unusedVariables false

/-- The variable's cell, the map; what it holds lies before all that is queued. -/
def OrCI (P K kl mb i : Nat) (M : Md) (w : World) : Prop :=
  Blk w kl 42 [.map (some mb)] ∧ kl ≠ mb ∧ ∃ F n, n ≤ 5000 * i ∧ LastAt w mb n F ∧ ∀ p < P, ∀ c < K, ∀ b, F p c = some b → b < (i : Int) ∧ ∀ f ∈ M.q p c, b < f.id
theorem ord_chk (P K : Nat) (zs os : List Int) (kl mb : Nat) :
    Chk P K zs (rtO os) 14 #[.pointer (some ⟨kl, 0, none⟩)] (fun k => k = mb) (fun k => k = kl ∨ k = mb) (fun i M w => OrCI P K kl mb i M w) := by
  refine ⟨?_, ?_, fun _ h => .inr h, ?_, ?_, ?_, ?_, fun args w => by
    simp [callFunc, go_sem, Try.f14]⟩
  · intro i M w w' S ⟨h1, h2, F, n, h3, h4, h5⟩ u hs
    exact ⟨h1.upd u (hs _ (.inl rfl)), h2, F, n, h3, h4.upd u (hs _ (.inr rfl)), h5⟩
  · rintro i M w k ⟨h1, h2, F, n, h3, h4, h5⟩ (rfl | rfl)
    · exact h1.lt
    · exact h4.lt
  · rintro i M w ⟨h1, h2, F, n, h3, h4, h5⟩
    exact ⟨h1, h2, F, n, by omega, h4, fun p hp c hc b hb => ⟨by have := (h5 p hp c hc b hb).1; omega, (h5 p hp c hc b hb).2⟩⟩
  · rintro i M w p c f x ⟨h1, h2, F, n, h3, h4, h5⟩ hf hp hc
    refine ⟨h1, h2, F, n, by omega, h4, fun p' hp' c' hc' b hb => ?_⟩
    have hb' := h5 p' hp' c' hc' b hb
    refine ⟨by omega, fun g hg => ?_⟩
    have hg : g ∈ upd2 M.q p c (M.q p c ++ [f]) p' c' := hg
    by_cases e : p' = p ∧ c' = c
    · obtain ⟨rfl, rfl⟩ := e
      rw [upd2_same] at hg
      rcases List.mem_append.1 hg with hg | hg
      · exact hb'.2 g hg
      · rw [List.mem_singleton.1 hg, hf]
        exact hb'.1
    · rw [upd2_ne _ _ e] at hg
      exact hb'.2 g hg
  · rintro i M w t ⟨h1, h2, F, n, h3, h4, h5⟩
    exact ⟨h1, h2, F, n, by omega, h4, fun p hp c hc b hb => ⟨by have := (h5 p hp c hc b hb).1; omega, (h5 p hp c hc b hb).2⟩⟩
  · intro i M w base L s B T ar gn gn0 B2 x0 mvv frv ⟨c1, c2, F, n0, c3, c4, c5⟩ h2 h3 h4 h5 h6 h7 h8 h9 h10 h11 h12
    obtain ⟨m, hf, -⟩ := step_facts h2.p8 h2.ptr h3
    obtain ⟨ma, mc, rfl, _⟩ := own_shape h8
    obtain ⟨fa, fc, rfl, _⟩ := own_shape h9
    rw [← hf.len] at h9 ⊢
    have key := ord1_any w P K B2 s.mv.length i n0 (.pointer (some ⟨L.bb, 0, none⟩)) (T.v 1) kl mb F s.mv s.fr s.M.q ma fa mc fc c1 c2 c4 c3 h12 h2.p8 h2.k8 rfl hf.len.symm h11 (h10 mb (.inr rfl)).2.2 h8 h9
      (fun j mm f e1 e2 => by
        obtain ⟨p, c, g1, g2, g3, g4, g5, g6, g7⟩ := hf.mem j mm f e1 e2
        have g8 := h4.fr p g3 c g4 f g5
        exact ⟨p, c, g1, g2, g3, g4, g8.2.1, g8.2.2⟩)
      (fun p hp c hc => by
        rw [← hf.qs p c]
        exact ⟨h4.srt p hp c hc, c5 p hp c hc⟩)
    refine key.mono ?_
    rintro e w' ⟨rfl, F', n', d1, d2, d3, d4⟩
    refine ⟨rfl, ⟨c1.upd d3 c2, c2, F', n', by omega, d2, fun p hp c hc b hb => ?_⟩, d3⟩
    have d5 := (d4 p hp c hc).2 b hb
    refine ⟨by have := d5.1; omega, fun f hf' => d5.2 f (List.mem_append_right _ hf')⟩
set_option maxHeartbeats 8000000 in
set_option maxRecDepth 100000 in
theorem switchboxOrder_walk (W : World) (z0 : Int) (w0 : IntOk .i64 z0) (a1 : Option Addr) (c1 : Nat) (x1 : List Int) (s1 : Sl (Value.int .i64) W a1 x1) (g1 : ∀ y ∈ x1, IntOk .i64 y) (m1 : x1.length ≤ maxLen) (a2 : Option Addr) (c2 : Nat) (x2 : List Int) (s2 : Sl (Value.int .i64) W a2 x2) (g2 : ∀ y ∈ x2, IntOk .i64 y) (m2 : x2.length ≤ maxLen)
    (a3 : Option Addr) (c3 : Nat) (x3 : List Ac) (s3 : AcS W a3 x3) (g3 : ∀ y ∈ x3, True) (m3 : x3.length ≤ maxLen) :
    Calls Try.prog 4 #[.int .i64 z0, .slice a1 x1.length c1, .slice a2 x2.length c2, .slice a3 x3.length c3] W fun e W' => e = .returned (.bool true) ∧ Below W.heap.size W W' := by
  have AW := Lib.hid (awake_any W)
  have FW : Hid (∀ w, Below W.heap.size W w → Calls Try.prog 10 #[.int .i64 z0, .slice a1 x1.length c1, .slice a2 x2.length c2, .slice a3 x3.length c3] w fun e w' => e = .returned (.int .i64 (if fewB z0 x1 x2 x3 = true then 1 else 0)) ∧ Below w.heap.size w w') := Lib.hid (fun w hw => few_any w z0 a1 c1 x1 a2 c2 x2 a3 c3 x3 (s1.below hw) m1 m2 (s3.below hw) m3)
  have S1 := Lib.hid s1; have S2 := Lib.hid s2; have S3 := Lib.hid s3
  clear s1 s2 s3 g1 g2 g3 w0
  have hmk : ∀ w : World, (Instr.makeMap 42 none).run Try.prog w = .ok (.map (some w.heap.size)) (w.alloc (.map #[] 0)) := fun _ => rfl
  have hmf : ∀ (fn : Fn) (first cap : Array Value) (w : World), (Instr.makeFunc fn first cap).run Try.prog w = .ok (.func fn first cap) w := fun _ _ _ _ => rfl
  cases hf : fewB z0 x1 x2 x3 with
  | false =>
    rw [hf] at FW
    clear hf
    go_enter Try.func4, Try.ntmps4
    go_wp2_with fail
    refine (AW.out).mono ?_
    rintro e w1 ⟨rfl, hb⟩
    have B1 := Lib.hid hb
    clear hb
    go_wp2_with fail
    refine (FW.out _ B1.out).mono ?_
    rintro e w2 ⟨rfl, hb⟩
    have B2 := Lib.hid (B1.out.trans (hb.mono B1.out.size))
    clear hb
    go_wp2_with fail
    go_ret
    exact ⟨rfl, B2.out⟩
  | true =>
    rw [hf] at FW
    unfold fewB at hf
    simp only [Bool.and_eq_true, decide_eq_true_eq] at hf
    obtain ⟨⟨hok, ho1, ho8, hl⟩, -⟩ := hf
    have hok := okBoxB_true.1 hok
    obtain ⟨P, rfl⟩ : ∃ P : Nat, z0 = (P : Int) := ⟨z0.toNat, by have := hok.p1; omega⟩
    have PL : Hid (∀ w2 wb, Below W.heap.size W w2 → wb = (w2.alloc (.map #[] 0)).alloc (.cells #[.map (some w2.heap.size)] 42) → Calls Try.prog 11 #[.int .i64 P, .slice a1 x1.length c1, .slice a2 x2.length c2, .slice a3 x3.length c3, .func (.func 14) #[] #[.pointer (some ⟨w2.heap.size + 1, 0, none⟩)]] wb
        (PlayPost wb P x1 (fun k => k = w2.heap.size) (fun i M w => OrCI P x1.length (w2.heap.size + 1) w2.heap.size i M w) x3.length)) := Lib.hid (fun w2 wb hb hwb => by
      have b1 : Below w2.heap.size w2 wb := by rw [hwb]; exact ((Below.refl _ _).alloc (Nat.le_refl _) _).alloc (by simp) _
      have b2 : Below W.heap.size W wb := hb.trans (b1.mono hb.size)
      have sz := hb.size
      refine play_ok wb P x1 a1 c1 x2 a2 c2 x3 a3 c3 (ord_chk P x1.length x1 x2 (w2.heap.size + 1) w2.heap.size) hok (fun w' hw' => ⟨(S1.out.below b2).upd hw' (fun hx => ?_), (S2.out.below b2).upd hw' (fun hx => ?_), ?_⟩) ho1 ho8 hl ?_
      · have := S1.out.old hx
        show ¬ _ = _
        omega
      · have := S2.out.old hx
        show ¬ _ = _
        omega
      · intro j x hj
        obtain ⟨g1, g2⟩ := S3.out j x hj
        refine ⟨g1, fun k v hv => ?_⟩
        have h1 := World.block_lt_of_cell? _ _ (g2 k v hv)
        rw [hw'.cell (by have := b2.size; omega) (by show ¬ _ = _; omega), b2.cell h1]
        exact g2 k v hv
      · refine ⟨?_, by omega, fun _ _ => none, 0, by omega, ?_, fun p hp c hc b hb => by cases hb⟩
        · have := Blk.new (w2.alloc (.map #[] 0)) 42 [.map (some w2.heap.size)]
          rw [World.size_alloc] at this
          rw [hwb]
          exact this
        · rw [hwb]
          exact (LastAt.made w2).below ((Below.refl _ _).alloc (Nat.le_refl _) _))
    clear hok ho1 ho8 hl
    go_enter Try.func4, Try.ntmps4
    go_wp2_with fail
    refine (AW.out).mono ?_
    rintro e w1 ⟨rfl, hb⟩
    have B1 := Lib.hid hb
    clear hb
    go_wp2_with fail
    refine (FW.out _ B1.out).mono ?_
    rintro e w2 ⟨rfl, hb⟩
    have B2 := Lib.hid (B1.out.trans (hb.mono B1.out.size))
    clear hb
    obtain ⟨wb, hwb⟩ : ∃ wb, wb = (w2.alloc (.map #[] 0)).alloc (.cells #[.map (some w2.heap.size)] 42) := ⟨_, rfl⟩
    have PLB := Lib.hid (PL.out w2 wb B2.out hwb)
    have BB : Hid (Below W.heap.size W wb) := Lib.hid (B2.out.trans (by rw [hwb]; exact ((Below.refl _ _).alloc B2.out.size _).alloc (by simp; have := B2.out.size; omega) _))
    clear PL
    go_upto_region 6 with (fail)
    rw [← hwb]
    have HSZ := Lib.hid B2.out.size
    clear hwb
    go_wp2_with fail
    refine (PLB.out).mono ?_
    rintro e w3 ⟨bb, ar, gn, rfl, L, M, x, -, -, -, -, hU⟩
    have B3 : Hid (Below W.heap.size W w3) := Lib.hid (Upd.below BB.out hU BB.out.size fun i hi => by have h1 := HSZ.out; have h2 : i = w2.heap.size := hi; omega)
    clear hU AW FW PLB
    go_wp2_with fail
    go_ret
    exact ⟨rfl, B3.out⟩
end Go.Proofs.Ytkooihniieepcaa
