/-
  SwitchboxSafe: the walk.
-/
import Derived.Test.YtkooihniieepcaaPl
import Derived.Test.YtkooihniieepcaaPlC
namespace Go.Proofs.Ytkooihniieepcaa
open Go.RowKit
set_option linter.unusedVariables false

set_option maxHeartbeats 1000000 in
theorem safe1_any (w : World) (a b c d : Value) : Calls Try.prog 24 #[a, b, c, d] w fun e w' => e = .returned (.bool true) ∧ w = w' := by
  go_enter Try.func24, Try.ntmps24
  go_wp2_with fail
  go_ret
  exact ⟨rfl, rfl⟩
theorem safe_chk (P K : Nat) (zs : List Int) (rt : Nat → Fr → Int) : Chk P K zs rt 24 #[] (fun _ => False) (fun _ _ _ => True) := by
  refine ⟨fun _ _ _ _ _ _ _ _ => trivial, fun _ _ _ _ _ h => h.elim, fun _ _ _ _ => trivial, fun _ _ _ _ _ _ _ _ _ _ _ => trivial, fun _ _ _ _ _ => trivial, ?_, fun args w => by
    simp [callFunc, go_sem, Try.f24]⟩
  intro i M w base L s B T ar gn gn0 B2 x0 mvv frv h1 h2 h3 h4 h5 h6 h7 h8 h9 h10 h11
  rw [Array.append_empty]
  refine (safe1_any w _ _ _ _).mono ?_
  rintro e w' ⟨rfl, rfl⟩
  exact ⟨rfl, trivial, Upd.refl _ _⟩
theorem sumL_le {f : Nat → Nat} {b : Nat} : ∀ n, (∀ i < n, f i ≤ b) → sumL f n ≤ b * n
  | 0, _ => Nat.le_refl _
  | n + 1, h => by
    have h1 := sumL_le n fun i hi => h i (by omega)
    have h2 := h n (Nat.lt_succ_self n)
    show sumL f n + f n ≤ b * (n + 1)
    rw [Nat.mul_add, Nat.mul_one]
    omega
def SoRel (w0 : World) (P : Nat) (g : Nat → Nat) (va iv : Value) (w : World) : Prop := ∃ p ≤ P, iv = .int .i64 p ∧ va = .int .i64 (sumL g p : Nat) ∧ Below w0.heap.size w0 w
def SiRel (w0 : World) (K s0 : Nat) (g : Nat → Nat) (va iv : Value) (w : World) : Prop := ∃ c ≤ K, iv = .int .i64 c ∧ va = .int .i64 (s0 + sumL g c : Nat) ∧ Below w0.heap.size w0 w
set_option maxHeartbeats 8000000 in
set_option maxRecDepth 100000 in
theorem switchboxSafe_walk (W : World) (z0 : Int) (w0 : IntOk .i64 z0) (a1 : Option Addr) (c1 : Nat) (x1 : List Int) (s1 : Sl (Value.int .i64) W a1 x1) (g1 : ∀ y ∈ x1, IntOk .i64 y) (m1 : x1.length ≤ maxLen) (a2 : Option Addr) (c2 : Nat) (x2 : List Int) (s2 : Sl (Value.int .i64) W a2 x2) (g2 : ∀ y ∈ x2, IntOk .i64 y) (m2 : x2.length ≤ maxLen)
    (a3 : Option Addr) (c3 : Nat) (x3 : List Ac) (s3 : AcS W a3 x3) (g3 : ∀ y ∈ x3, True) (m3 : x3.length ≤ maxLen) :
    Calls Try.prog 7 #[.int .i64 z0, .slice a1 x1.length c1, .slice a2 x2.length c2, .slice a3 x3.length c3] W fun e W' => e = .returned (.bool true) ∧ Below W.heap.size W W' := by
  have AW := Lib.hid (awake_any W)
  have FW : Hid (∀ w, Below W.heap.size W w → Calls Try.prog 10 #[.int .i64 z0, .slice a1 x1.length c1, .slice a2 x2.length c2, .slice a3 x3.length c3] w fun e w' => e = .returned (.int .i64 (if fewB z0 x1 x2 x3 = true then 1 else 0)) ∧ Below w.heap.size w w') := Lib.hid (fun w hw => few_any w z0 a1 c1 x1 a2 c2 x2 a3 c3 x3 (s1.below hw) m1 m2 (s3.below hw) m3)
  have S1 := Lib.hid s1; have S2 := Lib.hid s2; have S3 := Lib.hid s3
  clear s1 s2 s3 g1 g2 g3 w0
  cases hf : fewB z0 x1 x2 x3 with
  | false =>
    rw [hf] at FW
    clear hf
    go_enter Try.func7, Try.ntmps7
    go_wp2_with fail
    refine AW.out.mono ?_
    rintro e w1 ⟨rfl, hb⟩
    have B1 := Lib.hid hb
    clear hb
    go_wp2_with fail
    refine (FW.out _ B1.out).mono ?_
    rintro e w2 ⟨rfl, hb⟩
    have B2 := Lib.hid (B1.out.trans (hb.mono B1.out.size))
    clear hb
    go_wp2_with fail
    go_ret
    exact ⟨rfl, B2.out⟩
  | true =>
    rw [hf] at FW
    unfold fewB at hf
    simp only [Bool.and_eq_true, decide_eq_true_eq] at hf
    obtain ⟨⟨hok, ho1, ho8, hl⟩, -⟩ := hf
    have hok := okBoxB_true.1 hok
    obtain ⟨P, rfl⟩ : ∃ P : Nat, z0 = (P : Int) := ⟨z0.toNat, by have := hok.p1; omega⟩
    have p8 := hok.p8; have k8 := hok.k8
    have PL : Hid (∀ w, Below W.heap.size W w → Calls Try.prog 11 #[.int .i64 P, .slice a1 x1.length c1, .slice a2 x2.length c2, .slice a3 x3.length c3, .func (.func 24) #[] #[]] w (PlayPost w P x1 (fun _ => False) (fun _ _ _ => True) x3.length)) := Lib.hid (fun w hw =>
      play_ok w P x1 a1 c1 x2 a2 c2 x3 a3 c3 (safe_chk P x1.length x1 (rtO x2)) hok (fun w' hw' => ⟨(S1.out.below hw).upd hw' (fun _ => id), (S2.out.below hw).upd hw' (fun _ => id), (S3.out.below hw).upd hw' (fun _ h => h.elim)⟩) ho1 ho8 hl trivial)
    obtain ⟨K, hK⟩ : ∃ K, x1.length = K := ⟨_, rfl⟩
    rw [hK] at FW PL k8 ⊢
    have HK := Lib.hid hK
    clear hok ho1 ho8 hK
    go_enter Try.func7, Try.ntmps7
    go_wp2_with fail
    refine AW.out.mono ?_
    rintro e w1 ⟨rfl, hb⟩
    have B1 := Lib.hid hb
    clear hb
    go_wp2_with fail
    refine (FW.out _ B1.out).mono ?_
    rintro e w2 ⟨rfl, hb⟩
    have B2 := Lib.hid (B1.out.trans (hb.mono B1.out.size))
    clear hb
    go_wp2_with fail
    refine (PL.out _ B2.out).mono ?_
    rintro e w3 ⟨bb, ar, gn, rfl, L, M, x, hI, hX, hL, -, hU⟩
    rw [HK.out] at hI hX
    have B3 : Hid (Below W.heap.size W w3) := Lib.hid (Upd.below B2.out hU B2.out.size fun _ h => h.elim)
    have II := Lib.hid hI; have XX := Lib.hid hX; have LB := Lib.hid hL
    clear hI hX hL hU AW FW PL
    obtain ⟨G, hG⟩ : ∃ G : Nat → Nat → Nat, G = fun p c => (M.q p c).length := ⟨_, rfl⟩
    have HG := Lib.hid hG
    have g64 : ∀ p < P, ∀ c < K, G p c ≤ 64 := fun p hp c hc => by rw [hG]; exact XX.out.ok.qm p hp c hc
    clear hG
    have go : ∀ p < P, ∀ c ≤ K, sumL (G p) c ≤ 512 := fun p hp c hc => by
      have := sumL_le (f := G p) (b := 64) c fun j hj => g64 p hp j (by omega)
      omega
    have go2 : ∀ p ≤ P, sumL (fun p => sumL (G p) K) p ≤ 4096 := fun p hp => by
      have := sumL_le (f := fun p => sumL (G p) K) (b := 512) p fun j hj => go j (by omega) K (Nat.le_refl _)
      omega
    have GO := Lib.hid go; have GO2 := Lib.hid go2
    clear g64 go go2
    have har := II.out.ari
    have har6 : (ar : Int) ≤ 60 := by omega
    have hgn6 : gn ≤ ar := by have := II.out.sum; omega
    go_wp2_with fail
    go_loopw [13, 39] (fun va iv wr => SoRel w3 P (fun p => sumL (G p) K) va iv wr) (fun _ iv _ => P - (intOf iv).toNat)
    case atStart => exact ⟨0, Nat.zero_le _, rfl, rfl, Below.refl _ _⟩
    case round =>
      obtain ⟨p, hp, rfl, rfl, hB⟩ := hrel
      have BB := Lib.hid hB
      clear hB
      by_cases hlt : p < P
      · have hpi : (p : Int) < (P : Int) := by omega
        go_wp2_with fail
        go_loopw [13, 44] (fun va iv wr => SiRel w3 K (sumL (fun p => sumL (G p) K) p) (G p) va iv wr) (fun _ iv _ => K - (intOf iv).toNat)
        case atStart => exact ⟨0, Nat.zero_le _, rfl, rfl, BB.out⟩
        case round =>
          clear BB
          obtain ⟨c, hc, rfl, rfl, hB⟩ := hrel
          have BB := Lib.hid hB
          clear hB
          by_cases hlc : c < K
          · have hci : (c : Int) < (K : Int) := by omega
            obtain ⟨z, ez, okz, cz⟩ := (S1.out.below (B3.out.trans (BB.out.mono B3.out.size))).get (k := c) (by rw [HK.out]; exact hlc)
            have X4 := XX.out.below BB.out
            have QU := queue_yes p c X4 hlt hlc
            rw [LB.out] at QU
            have QC := Lib.hid QU
            obtain ⟨n, hn⟩ : ∃ n, n = (M.q p c).length := ⟨_, rfl⟩
            have hnz : (n : Int) ≤ z := by
              have h1 := XX.out.ok.ql p hlt c hlc
              have h2 := (XX.out.ok.gv p hlt c hlc).h5
              have h3 := II.out.rm p hlt c hlc
              rw [ez.out] at h3
              have h3 : (M.gv p c).a = z := h3
              omega
            have hn64 : n ≤ 64 := by rw [hn]; exact XX.out.ok.qm p hlt c hlc
            rw [← hn] at QC
            have hs1 : sumL (fun p => sumL (G p) K) p + sumL (G p) c ≤ 5000 := by
              have h1 := GO2.out p (by omega)
              have h2 := GO.out p hlt c (by omega)
              omega
            have HN : Hid (n = G p c) := Lib.hid (by rw [hn, HG.out])
            have hnz' : ¬ z < (n : Int) := by omega
            clear X4 QU hn hnz
            go_wp2_with fail
            refine QC.out.mono ?_
            rintro e w5 ⟨v, rfl, ho, hb⟩
            obtain ⟨va, vc, rfl, _⟩ := own_shape ho
            have B5 := Lib.hid (BB.out.trans (hb.mono BB.out.size))
            clear ho hb QC
            go_wp2_with fail
            go_roundw
            case rel =>
              refine ⟨c + 1, by omega, by go_num, ?_, B5.out⟩
              show _ = Value.int .i64 ((_ + (sumL (G p) c + G p c) : Nat) : Int)
              rw [← HN.out]
              go_num
            case measure => simp [intOf]; omega
          · obtain rfl : c = K := by omega
            go_wp2_with fail
            go_roundw
            case rel => exact ⟨p + 1, by omega, by go_num, rfl, BB.out⟩
            case measure => simp [intOf]; omega
      · obtain rfl : p = P := by omega
        have OV := over_ok (XX.out.below BB.out)
        rw [LB.out] at OV
        have OC := Lib.hid OV
        have hsum : sumL (fun p => sumL (G p) K) p = ar - gn := by
          have := II.out.sum
          unfold sumQ sumPK at this
          rw [HG.out]
          omega
        have e1 : ((sumL (fun p => sumL (G p) K) p : Nat) : Int) = (ar : Int) - (gn : Int) := by omega
        rw [e1]
        have B4 := Lib.hid (B3.out.trans (BB.out.mono B3.out.size))
        clear OV hsum e1
        go_wp2_with fail
        refine OC.out.mono ?_
        rintro e w' ⟨rfl, rfl⟩
        go_wp2_with fail
        go_ret
        exact ⟨ret_bool (by simp), B4.out⟩
end Go.Proofs.Ytkooihniieepcaa
