/-
  SwitchboxMaximal: the walk.
-/
import Derived.Test.YtkooihniieepcaaPl
import Derived.Test.YtkooihniieepcaaPlC
import Derived.Test.YtkooihniieepcaaMaxi
namespace Go.Proofs.Ytkooihniieepcaa
open Go.RowKit
set_option linter.unusedVariables false

theorem tb_waysM {w : World} {base P K B : Nat} {L : Loc} {M : Md} {T : Tbs} (h : CliAt w base P K L M B (plC K T)) (hn : ∀ t < 3, T.n t = P) (p1 : 1 ≤ P) (k1 : 1 ≤ K) :
    ∃ ta tc, T.v 1 = .slice (some ⟨ta, 0, none⟩) P tc ∧ ∀ o < P, w.cell? ⟨ta, o, none⟩ = some (.slice (some ⟨T.b 1 o, 0, none⟩) K K) ∧ ∀ c < K, w.cell? ⟨T.b 1 o, c, none⟩ = some (.int .i64 (T.x 1 o c)) := by
  have hn1 : T.n 1 = P := hn 1 (by omega)
  obtain ⟨ta, tc, e1, _⟩ := tb_way h (t := 1) (by omega) (show 0 < T.n 1 by omega) (show 0 < K by omega)
  refine ⟨ta, tc, by rw [e1, hn1], fun o ho => ?_⟩
  have key : ∀ c < K, w.cell? ⟨ta, o, none⟩ = some (.slice (some ⟨T.b 1 o, 0, none⟩) K K) ∧ w.cell? ⟨T.b 1 o, c, none⟩ = some (.int .i64 (T.x 1 o c)) := fun c hc => by
    obtain ⟨tb, td, e2, e3, e4, _⟩ := tb_way h (t := 1) (by omega) (show o < T.n 1 by omega) hc
    rw [e1] at e2
    cases e2
    exact ⟨e3, e4⟩
  exact ⟨(key 0 (by omega)).1, fun c hc => (key c hc).2⟩
/-- What the closure of SwitchboxMaximal reads. -/
def MxCI (a : Option Addr) (c0 P K : Nat) (os : List Int) (ra : Option Addr) (rc kp kr ko : Nat) (w : World) : Prop := OnCI a c0 P os kp ko w ∧ Blk w kr 22 [.slice ra K rc]
def MxK (a : Option Addr) (kp kr ko : Nat) (k : Nat) : Prop := OnK a kp ko k ∨ k = kr
theorem maxi_chk (a : Option Addr) (c0 P K : Nat) (zs os : List Int) (ra : Option Addr) (rc kp kr ko : Nat) (ho1 : 1 ≤ os.length) (ho8 : os.length ≤ 8) :
    Chk P K zs (rtO os) 22 #[.pointer (some ⟨kp, 0, none⟩), .pointer (some ⟨kr, 0, none⟩), .pointer (some ⟨ko, 0, none⟩)] (fun _ => False) (MxK a kp kr ko) (fun _ _ w => MxCI a c0 P K os ra rc kp kr ko w) := by
  refine ⟨fun _ _ _ _ _ h u hs => ⟨h.1.upd u fun k hk => hs k (.inl hk), Blk.upd h.2 u (hs kr (.inr rfl))⟩, fun _ _ _ _ h hk => hk.elim (fun hk => h.1.lt ho1 hk) (fun e => by rw [e]; exact Blk.lt h.2), fun _ h => h.elim, fun _ _ _ h => h, fun _ _ _ _ _ _ _ h _ _ _ => h, fun _ _ _ _ h => h, ?_, fun args w => by
    simp [callFunc, go_sem, Try.f22]⟩
  intro i M w base L s B T ar gn gn0 B2 x0 mvv frv h1 h2 h3 h4 h5 h6 h7 h8 h9 h10 h11 h12
  obtain ⟨m, hf, hmx⟩ := step_facts h2.p8 h2.ptr h3
  obtain ⟨ma, mc, rfl, _⟩ := own_shape h8
  obtain ⟨ta, tc, et, hT⟩ := tb_waysM h6 h7 h2.p1 h2.k1
  rw [et]
  have key := maxi1_any w base P K B2 s.mv.length L s.M a c0 os ra rc kp kr ko s.mv ma mc frv ta tc (T.b 1) (T.x 1) h6.bx h1.1 h1.2 ho1 ho8 h2.p8 h2.k8 rfl h11 h8
    hT
    (fun j mm e1 => by
      obtain ⟨f, e2⟩ : ∃ f, s.fr[j]? = some f := ⟨s.fr[j]'(by rw [← hf.len]; exact get_lt e1), by simp [show j < s.fr.length by rw [← hf.len]; exact get_lt e1]⟩
      obtain ⟨p, c, g1, g2, g3, g4, g5, g6, g7⟩ := hf.mem j mm f e1 e2
      refine ⟨p, c, g1, g2, g3, g4, ?_⟩
      by_cases e : mm.o = -1
      · rw [e]; omega
      · exact (g7 e).2.2.2.2)
    (fun p hp c hc f r hq => by
      obtain ⟨q1, q2⟩ := hmx p hp c hc f r hq
      refine ⟨q1, fun hn hl => q2 hn ?_⟩
      have hw : 0 ≤ rtO os p f ∧ rtO os p f < P := by
        unfold noRt at hn
        simp at hn
        exact hn
      rw [h5.lft _ (by omega) c hc] at hl
      exact hl)
  refine key.mono ?_
  rintro e w' ⟨rfl, hb⟩
  exact ⟨rfl, ⟨h1.1.below hb, Blk.upd h1.2 (Upd.of_below (S := fun _ => False) hb) id⟩, Upd.of_below hb⟩
set_option maxHeartbeats 8000000 in
set_option maxRecDepth 100000 in
theorem switchboxMaximal_walk (W : World) (z0 : Int) (w0 : IntOk .i64 z0) (a1 : Option Addr) (c1 : Nat) (x1 : List Int) (s1 : Sl (Value.int .i64) W a1 x1) (g1 : ∀ y ∈ x1, IntOk .i64 y) (m1 : x1.length ≤ maxLen) (a2 : Option Addr) (c2 : Nat) (x2 : List Int) (s2 : Sl (Value.int .i64) W a2 x2) (g2 : ∀ y ∈ x2, IntOk .i64 y) (m2 : x2.length ≤ maxLen)
    (a3 : Option Addr) (c3 : Nat) (x3 : List Ac) (s3 : AcS W a3 x3) (g3 : ∀ y ∈ x3, True) (m3 : x3.length ≤ maxLen) :
    Calls Try.prog 6 #[.int .i64 z0, .slice a1 x1.length c1, .slice a2 x2.length c2, .slice a3 x3.length c3] W fun e W' => e = .returned (.bool true) ∧ Below W.heap.size W W' := by
  have AW := Lib.hid (fun w => awake_any w)
  have FW : Hid (∀ w, Below W.heap.size W w → Calls Try.prog 10 #[.int .i64 z0, .slice a1 x1.length c1, .slice a2 x2.length c2, .slice a3 x3.length c3] w fun e w' => e = .returned (.int .i64 (if fewB z0 x1 x2 x3 = true then 1 else 0)) ∧ Below w.heap.size w w') := Lib.hid (fun w hw => few_any w z0 a1 c1 x1 a2 c2 x2 a3 c3 x3 (s1.below hw) m1 m2 (s3.below hw) m3)
  have S1 := Lib.hid s1; have S2 := Lib.hid s2; have S3 := Lib.hid s3
  obtain ⟨wb, hwb⟩ : ∃ wb, wb = ((W.alloc (.cells #[.int .i64 z0] 3)).alloc (.cells #[.slice a1 x1.length c1] 22)).alloc (.cells #[.slice a2 x2.length c2] 22) := ⟨_, rfl⟩
  have BB : Hid (Below W.heap.size W wb) := Lib.hid (by rw [hwb]; exact (((Below.refl _ W).alloc (Nat.le_refl _) _).alloc (by simp) _).alloc (by simp; omega) _)
  have K1 : Hid (Blk wb W.heap.size 3 [.int .i64 z0]) := Lib.hid (by
    have := Blk.new W 3 [.int .i64 z0]
    rw [hwb]
    exact Blk.upd (Blk.upd this (Upd.of_below (S := fun _ => False) ((Below.refl _ _).alloc (Nat.le_refl _) _)) id) (Upd.of_below (S := fun _ => False) ((Below.refl _ _).alloc (Nat.le_refl _) _)) id)
  have K2 : Hid (Blk wb (W.heap.size + 1) 22 [.slice a1 x1.length c1]) := Lib.hid (by
    have := Blk.new (W.alloc (.cells #[.int .i64 z0] 3)) 22 [.slice a1 x1.length c1]
    rw [World.size_alloc] at this
    rw [hwb]
    exact Blk.upd this (Upd.of_below (S := fun _ => False) ((Below.refl _ _).alloc (Nat.le_refl _) _)) id)
  have K3 : Hid (Blk wb (W.heap.size + 1 + 1) 22 [.slice a2 x2.length c2]) := Lib.hid (by
    have := Blk.new ((W.alloc (.cells #[.int .i64 z0] 3)).alloc (.cells #[.slice a1 x1.length c1] 22)) 22 [.slice a2 x2.length c2]
    rw [World.size_alloc, World.size_alloc] at this
    rw [hwb]
    exact this)
  clear s1 s2 s3 g1 g2 g3 w0
  have hmf : ∀ (fn : Fn) (first cap : Array Value) (w : World), (Instr.makeFunc fn first cap).run Try.prog w = .ok (.func fn first cap) w := fun _ _ _ _ => rfl
  cases hf : fewB z0 x1 x2 x3 with
  | false =>
    rw [hf] at FW
    clear hf
    go_enter Try.func6, Try.ntmps6
    go_upto_region 1 with (fail)
    rw [← hwb]
    clear hwb
    go_wp2_with fail
    refine (AW.out _).mono ?_
    rintro e w1 ⟨rfl, hb⟩
    have q1 := Blk.cell (Blk.upd K1.out (Upd.of_below (S := fun _ => False) hb) id) (i := 0) rfl
    have q2 := Blk.cell (Blk.upd K2.out (Upd.of_below (S := fun _ => False) hb) id) (i := 0) rfl
    have q3 := Blk.cell (Blk.upd K3.out (Upd.of_below (S := fun _ => False) hb) id) (i := 0) rfl
    have B1 := Lib.hid (BB.out.trans (hb.mono BB.out.size))
    clear hb
    go_wp2_with fail
    refine (FW.out _ B1.out).mono ?_
    rintro e w2 ⟨rfl, hb⟩
    have B2 := Lib.hid (B1.out.trans (hb.mono B1.out.size))
    clear hb
    go_wp2_with fail
    go_ret
    exact ⟨rfl, B2.out⟩
  | true =>
    rw [hf] at FW
    unfold fewB at hf
    simp only [Bool.and_eq_true, decide_eq_true_eq] at hf
    obtain ⟨⟨hok, ho1, ho8, hl⟩, -⟩ := hf
    have hok := okBoxB_true.1 hok
    obtain ⟨P, rfl⟩ : ∃ P : Nat, z0 = (P : Int) := ⟨z0.toNat, by have := hok.p1; omega⟩
    have PL : Hid (∀ w, Below wb.heap.size wb w → Calls Try.prog 11 #[.int .i64 P, .slice a1 x1.length c1, .slice a2 x2.length c2, .slice a3 x3.length c3, .func (.func 22) #[] #[.pointer (some ⟨W.heap.size, 0, none⟩), .pointer (some ⟨W.heap.size + 1, 0, none⟩), .pointer (some ⟨W.heap.size + 1 + 1, 0, none⟩)]] w
        (PlayPost w P x1 (fun _ => False) (fun _ _ w => MxCI a2 c2 P x1.length x2 a1 c1 W.heap.size (W.heap.size + 1) (W.heap.size + 1 + 1) w) x3.length)) := Lib.hid (fun w hw =>
      have hb : Below W.heap.size W w := BB.out.trans (hw.mono BB.out.size)
      play_ok w P x1 a1 c1 x2 a2 c2 x3 a3 c3 (maxi_chk a2 c2 P x1.length x1 x2 a1 c1 W.heap.size (W.heap.size + 1) (W.heap.size + 1 + 1) ho1 ho8) hok (fun w' hw' => ⟨(S1.out.below hb).upd hw' (fun _ => id), (S2.out.below hb).upd hw' (fun _ => id), (S3.out.below hb).upd hw' (fun _ h => h.elim)⟩) ho1 ho8 hl
        ⟨OnCI.below ⟨K1.out, K3.out, S2.out.below BB.out⟩ hw, Blk.upd K2.out (Upd.of_below (S := fun _ => False) hw) id⟩)
    clear hok ho1 ho8 hl
    go_enter Try.func6, Try.ntmps6
    go_upto_region 1 with (fail)
    rw [← hwb]
    clear hwb
    go_wp2_with fail
    refine (AW.out _).mono ?_
    rintro e w1 ⟨rfl, hb⟩
    have q1 := Blk.cell (Blk.upd K1.out (Upd.of_below (S := fun _ => False) hb) id) (i := 0) rfl
    have q2 := Blk.cell (Blk.upd K2.out (Upd.of_below (S := fun _ => False) hb) id) (i := 0) rfl
    have q3 := Blk.cell (Blk.upd K3.out (Upd.of_below (S := fun _ => False) hb) id) (i := 0) rfl
    have C1 := Lib.hid hb
    have B1 := Lib.hid (BB.out.trans (hb.mono BB.out.size))
    clear hb
    go_wp2_with fail
    refine (FW.out _ B1.out).mono ?_
    rintro e w2 ⟨rfl, hb⟩
    have C2 := Lib.hid (C1.out.trans (hb.mono C1.out.size))
    have B2 := Lib.hid (B1.out.trans (hb.mono B1.out.size))
    clear hb q1 q2 q3
    have q1 := Blk.cell (Blk.upd K1.out (Upd.of_below (S := fun _ => False) C2.out) id) (i := 0) rfl
    have q2 := Blk.cell (Blk.upd K2.out (Upd.of_below (S := fun _ => False) C2.out) id) (i := 0) rfl
    have q3 := Blk.cell (Blk.upd K3.out (Upd.of_below (S := fun _ => False) C2.out) id) (i := 0) rfl
    go_wp2_with fail
    refine (PL.out _ C2.out).mono ?_
    rintro e w3 ⟨bb, ar, gn, rfl, L, M, x, -, -, -, -, hU⟩
    have B3 : Hid (Below W.heap.size W w3) := Lib.hid (Upd.below B2.out hU B2.out.size fun _ h => h.elim)
    clear hU AW FW PL
    go_wp2_with fail
    go_ret
    exact ⟨rfl, B3.out⟩
end Go.Proofs.Ytkooihniieepcaa
