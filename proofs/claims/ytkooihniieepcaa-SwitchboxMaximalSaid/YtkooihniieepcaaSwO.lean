/-
  switchbox: Step.
-/
import Derived.Test.YtkooihniieepcaaSwN
import Derived.Test.YtkooihniieepcaaSwL
import Derived.Defers
namespace Go.Proofs.Ytkooihniieepcaa
open Go.RowKit
set_option linter.unusedVariables false

theorem eqIn_func_nil (w : World) (d : Nat) (f : Fn) (cs : Array Value) : (Op.equalIn (d + 1) 52 (.func f #[] cs) .nilFunc).run Try.prog w = .ok false w := by
  simp [Op.equalIn, run_underlying Try.underlying52]
theorem eq_func_nil (w : World) (f : Fn) (cs : Array Value) : (binOp .eql 52 (.func f #[] cs) .nilFunc).run Try.prog w = .ok (.bool false) w := by
  simp only [binOp]
  simp [Op.equal, Op.maxDepth, eqIn_func_nil w 9999 f cs]
/-- A body that does not panic. -/
def calmD (Q : Exit → Act → World → Prop) : Exit → Act → World → Prop
  | .panic _, _, _ => False
  | .normal, a, w => Q .normal a w
  | .ret, a, w => Q .ret a w
  | .outgrown, a, w => Q .outgrown a w
  | .exit i, a, w => Q (.exit i) a w
  | .goto i, a, w => Q (.goto i) a w
theorem calls_of_wp_calm {P : Program} {f : FuncId} {fn : Func} {c : Code} {args : Array Value} {w : World} {R : Ending → World → Prop}
    (hf : P.funcs[f]? = some fn) (hb : fn.body = some c)
    (h : c.wp P (calmD (bodyPostD P fn R)) { tmps := args ++ Array.replicate (fn.ntmps - args.size) undef, defers := [] } w) : Calls P f args w R :=
  calls_of_wp_defers hf hb (Code.wp_mono (fun e a w q => by cases e <;> first | exact q | exact q.elim) h)
/-- What Step leaves and returns. -/
def StepPost (w : World) (base P K : Nat) (L : Loc) (M : Md) (rt : Nat → Fr → Int) (e : Ending) (w' : World) : Prop :=
  ∃ L' l b s1 s, s1 = dPrt (fun p c => drN P rt p (M.q p c)) K P ⟨M, [], []⟩ ∧ Matched P (rqFull K s1.M fun p c => ouN P rt p (M.q p c)) b ∧
    s = sAll K (fun p c => ouN P rt p (M.q p c)) b.m P ⟨{ s1.M with g := b.g, a := b.a }, s1.mv, s1.fr⟩ ∧
    e = .returned (.tuple #[l.mvv, l.frv]) ∧ SkAt w base P K L M (xAt K (dOf P rt M) P 0) L' l s w'
section
variable {w w' : World} {base P K : Nat} {L : Loc} {M : Md}
set_option maxHeartbeats 8000000 in
set_option maxRecDepth 100000 in
theorem step_ok {fid : Nat} {caps : Array Value} {rt : Nat → Fr → Int} {RI : World → Prop} {N : Nat → Prop} (R : Route fid caps rt RI N) (h : BoxAt w base P K L M) (hr : RI w) (hbase : base ≤ w.heap.size) :
    Calls Try.prog 18 #[.pointer (some ⟨L.bb, 0, none⟩), .func (.func fid) #[] caps] w (StepPost w base P K L M rt) := by
  have H := Lib.hid h; have HR := Lib.hid hr; have RR := Lib.hid R
  have hmf : ∀ (fn : Fn) (first cap : Array Value) (w : World), (Instr.makeFunc fn first cap).run Try.prog w = .ok (.func fn first cap) w := fun _ _ _ _ => rfl
  clear h hr R
  refine calls_of_wp_calm Try.func18 rfl ?_
  simp only [Try.ntmps18, List.size_toArray, List.length_cons, List.length_nil, Nat.reduceAdd, Nat.reduceSub, Array.replicate_succ, Array.replicate_zero, List.push_toArray, List.append_toArray, List.nil_append, List.cons_append]
  have hqf := eq_func_nil
  go_upto_region 4 with (fail)
  clear hqf hmf
  obtain ⟨wA, hwA, BA, PH, PM, PF⟩ : ∃ wA, ((w.alloc (.cells #[.pointer (some ⟨L.bb, 0, none⟩)] 26)).alloc (.cells #[.slice none 0 0] 29)).alloc (.cells #[.slice none 0 0] 30) = wA ∧ Hid (Below w.heap.size w wA ∧ wA.heap.size = w.heap.size + 3) ∧ Hid (Blk wA w.heap.size 26 [.pointer (some ⟨L.bb, 0, none⟩)]) ∧ Hid (Blk wA (w.heap.size + 1) 29 [.slice none 0 0]) ∧ Hid (Blk wA (w.heap.size + 1 + 1) 30 [.slice none 0 0]) := by
    refine ⟨_, rfl, ⟨(((Below.refl _ _).alloc (Nat.le_refl _) _).alloc (by simp) _).alloc (by simp; omega) _, by simp⟩, ((Blk.new w _ [_]).alloc _).alloc _, ?_, ?_⟩
    · have := (Blk.new (w.alloc (.cells #[.pointer (some ⟨L.bb, 0, none⟩)] 26)) 29 [.slice none 0 0]).alloc (.cells #[.slice none 0 0] 30)
      simp at this
      exact this
    · have := Blk.new ((w.alloc (.cells #[.pointer (some ⟨L.bb, 0, none⟩)] 26)).alloc (.cells #[.slice none 0 0] 29)) 30 [.slice none 0 0]
      simp at this
      exact this
  rw [hwA]
  clear hwA
  have h0 := PH.out.cell (i := 0) rfl
  have LK := Lib.hid (look_ok RR.out (H.out.below BA.out.1) (RR.out.below HR.out BA.out.1))
  have EN : ∀ args w, (callFunc fid args).run Try.prog w = .ok (.enter fid args) w := RR.out.enter
  go_wp2_with fail
  refine LK.out.mono ?_
  rintro e w2 ⟨A, n, cc, rfl, hs, hb⟩
  have SL := Lib.hid hs; have BL := Lib.hid hb
  unfold lkV
  clear hs hb
  clear h0
  go_upto_region 5 with (fail)
  have SK := SkAt.start H.out BA.out.1 BA.out.2 PH.out PM.out PF.out SL.out BL.out
  obtain ⟨w3, hw3, S3⟩ : ∃ w3, (w2.alloc (.cells #[.slice (A false 0) (n false 0) (cc false 0), .slice (A false 1) (n false 1) (cc false 1), .slice (A false 2) (n false 2) (cc false 2), .slice (A false 3) (n false 3) (cc false 3), .slice (A false 4) (n false 4) (cc false 4), .slice (A false 5) (n false 5) (cc false 5), .slice (A false 6) (n false 6) (cc false 6), .slice (A false 7) (n false 7) (cc false 7)] 84)).alloc (.cells #[.slice (A true 0) (n true 0) (cc true 0), .slice (A true 1) (n true 1) (cc true 1), .slice (A true 2) (n true 2) (cc true 2), .slice (A true 3) (n true 3) (cc true 3), .slice (A true 4) (n true 4) (cc true 4), .slice (A true 5) (n true 5) (cc true 5), .slice (A true 6) (n true 6) (cc true 6), .slice (A true 7) (n true 7) (cc true 7)] 84) = w3 ∧ Hid (KSt w base P K L M (xAt K (dOf P rt M) P 0) w.heap.size (w.heap.size + 1) (w.heap.size + 1 + 1) (bT w2.heap.size) (lkF A n cc) none ⟨M, [], []⟩ w3) :=
    ⟨_, rfl, _, _, _, SK⟩
  rw [hw3]
  have hw2 := BL.out.size
  have hwA := BA.out.2
  clear hw3 SK SL LK
  have S4 := S3
  obtain ⟨tv, htv⟩ : ∃ tv, tv = lkF A n cc := ⟨_, rfl⟩
  rw [← htv] at S3
  clear S4 htv
  obtain ⟨d, hd⟩ : ∃ d : Nat → Nat → Nat, d = fun p c => drN P rt p (M.q p c) := ⟨_, rfl⟩
  obtain ⟨o, ho⟩ : ∃ o : Nat → Nat → Int, o = fun p c => ouN P rt p (M.q p c) := ⟨_, rfl⟩
  obtain ⟨KS, hKS⟩ : ∃ KS, KS = KSt w base P K L M (xAt K (dOf P rt M) P 0) w.heap.size (w.heap.size + 1) (w.heap.size + 1 + 1) (bT w2.heap.size) tv none := ⟨_, rfl⟩
  rw [← hKS] at S3
  have HD := Lib.hid hd; have HO := Lib.hid ho; have HKS := Lib.hid hKS
  clear hd ho hKS
  obtain ⟨i1, hi, hz0, hz1, hz2⟩ := info_parts Try.infoFr
  have JI := Lib.hid hi; have JZ0 := Lib.hid hz0; have JZ1 := Lib.hid hz1; have JZ2 := Lib.hid hz2
  clear hi hz0 hz1 hz2
  obtain ⟨i2, hi, hz0, hz1, hz2⟩ := info_parts Try.infoMv
  have KI := Lib.hid hi; have KZ0 := Lib.hid hz0; have KZ1 := Lib.hid hz1; have KZ2 := Lib.hid hz2
  clear hi hz0 hz1 hz2
  have h8 := H.out.ok.p8
  have hk8 := H.out.ok.k8
  have X0 : Hid (∀ p < P, xAt K (dOf P rt M) P 0 false p = (List.range K).map fun c => ((d p c : Nat) : Int)) := fun p hp => by rw [HD.out]; unfold xAt; rw [if_pos hp]; rfl
  have X1 : Hid (∀ p < P, xAt K (dOf P rt M) P 0 true p = (List.range K).map (o p)) := fun p hp => by rw [HO.out]; unfold xAt; rw [if_pos hp]; rfl
  have DR : Hid (∀ p < P, ∀ c < K, ∀ n < d p c, (∃ f l, (itr (dOne p c) n (dCls d p c (dPrt d K p ⟨M, [], []⟩))).M.q p c = f :: l) ∧ (itr (dOne p c) n (dCls d p c (dPrt d K p ⟨M, [], []⟩))).mv.length ≤ 5000 ∧ (itr (dOne p c) n (dCls d p c (dPrt d K p ⟨M, [], []⟩))).fr.length ≤ 5000) := fun p hp c hc n hn =>
    drop_at d h8 hk8 H.out.ok.qm (fun p _ c _ => by rw [HD.out]; exact drN_le _ _ _ _) hp hc hn
  have D64 : Hid (∀ p < P, ∀ c < K, d p c ≤ 64) := fun p hp c hc => by rw [HD.out]; exact Nat.le_trans (drN_le _ _ _ _) (H.out.ok.qm p hp c hc)
  have CB : Hid (∀ s wx, KS s wx → wx.cell? ⟨w.heap.size, 0, none⟩ = some (.pointer (some ⟨L.bb, 0, none⟩)) ∧ wx.cell? ⟨L.bb, 0, none⟩ = some (.int .i64 P) ∧ wx.cell? ⟨L.bb, 1, none⟩ = some (.int .i64 K) ∧ (∀ p < P, ∀ c < K, ∃ g m, wx.cell? ⟨w2.heap.size, p, none⟩ = some (.slice (some ⟨g, 0, none⟩) K m) ∧ wx.cell? ⟨g, c, none⟩ = some (.int .i64 (d p c)))) := fun s wx hx => by
    rw [HKS.out] at hx
    obtain ⟨L1, mvv, frv, SK⟩ := hx
    refine ⟨SK.chb, ?_, ?_, fun p hp c hc => SK.tab false X0.out hp hc⟩
    · rw [← SK.bbe]; exact SK.box_.cP
    · rw [← SK.bbe]; exact SK.box_.cK
  obtain ⟨b0, b1, -, -⟩ := CB.out _ _ S3.out
  go_wp2_with fail
  go_loopw [34] (fun iv wr => KnRel (fun p => dPrt d K p ⟨M, [], []⟩) P KS iv wr) (fun iv _ => P - (intOf iv).toNat)
  case atStart => exact ⟨0, Nat.zero_le _, rfl, S3.out⟩
  case round =>
    clear b0 b1 S3
    obtain ⟨p, hp, rfl, hS⟩ := hrel
    have SS1 := Lib.hid hS
    clear hS
    obtain ⟨b0, b1, b2, -⟩ := CB.out _ _ SS1.out
    by_cases hlt : p < P
    · have hpi : (p : Int) < (P : Int) := by omega
      go_wp2_with fail
      go_loopw [41] (fun iv wr => KnRel (fun c => dCls d p c (dPrt d K p ⟨M, [], []⟩)) K KS iv wr) (fun iv _ => K - (intOf iv).toNat)
      case atStart => exact ⟨0, Nat.zero_le _, rfl, SS1.out⟩
      case round =>
        clear b0 b1 b2 SS1
        obtain ⟨c, hc, rfl, hS⟩ := hrel
        have SS2 := Lib.hid hS
        clear hS
        obtain ⟨b0, b1, b2, b3⟩ := CB.out _ _ SS2.out
        by_cases hlc : c < K
        · have hci : (c : Int) < (K : Int) := by omega
          have hp0 : (0 : Int) ≤ (p : Int) := by omega
          have hp8 : (p : Int) < 8 := by omega
          have hc0 : (0 : Int) ≤ (c : Int) := by omega
          obtain ⟨g, m, b4, b5⟩ := b3 p hlt c hlc
          clear b3
          go_wp2_with fail
          go_loopw [50] (fun iv wr => KnRel (fun n => itr (dOne p c) n (dCls d p c (dPrt d K p ⟨M, [], []⟩))) (d p c) KS iv wr) (fun iv _ => d p c - (intOf iv).toNat)
          case atStart => exact ⟨0, Nat.zero_le _, rfl, SS2.out⟩
          case round =>
            clear b0 b1 b2 b4 b5 SS2
            obtain ⟨n, hn, rfl, hS⟩ := hrel
            have SS3 := Lib.hid hS
            clear hS
            have hd64 := D64.out p hlt c hlc
            by_cases hln : n < d p c
            · have hni : (n : Int) < (d p c : Int) := by omega
              obtain ⟨⟨f, r, hf⟩, hm1, hm2⟩ := DR.out p hlt c hlc n hln
              obtain ⟨s, hs⟩ : ∃ s, s = itr (dOne p c) n (dCls d p c (dPrt d K p ⟨M, [], []⟩)) := ⟨_, rfl⟩
              have NX : Hid (∀ w', KS (dOne p c s) w' → KS ((fun n => itr (dOne p c) n (dCls d p c (dPrt d K p ⟨M, [], []⟩))) (n + 1)) w') := Lib.hid (fun w' h => by rw [hs] at h; exact h)
              have S5 := SS3.out
              dsimp only at S5
              rw [HKS.out, ← hs] at S5
              rw [← hs] at hf hm1 hm2
              obtain ⟨L1, mvv, frv, SK⟩ := S5
              have HF := Lib.hid hf
              clear hs hf SS3
              obtain ⟨mva, mvc, rfl, _⟩ := own_shape (show wr.ownsRow w.heap.size 34 3 mvv s.mv.length (flC mvC s.mv) from SK.omv)
              obtain ⟨fra, frc, rfl, _⟩ := own_shape (show wr.ownsRow w.heap.size 39 6 frv s.fr.length (flC frC s.fr) from SK.ofr)
              obtain ⟨b1, b1f⟩ := SK.cmb
              have hsz := SK.size
              have SK1 := Lib.hid (SK.below ((Below.refl _ _).alloc (Nat.le_refl _) (.cells #[.int .i64 (p : Int), .int .i64 (c : Int), .int .i64 (-1)] 34)))
              have NB : Hid (Blk (wr.alloc (.cells #[.int .i64 (p : Int), .int .i64 (c : Int), .int .i64 (-1)] 34)) wr.heap.size 34 (mvC ⟨p, c, -1⟩)) := Blk.new wr _ [.int .i64 (p : Int), .int .i64 (c : Int), .int .i64 (-1)]
              clear SK
              go_wp2_with (at_builtin; refine wpList_append_cells rfl _ _ 29 rfl w.heap.size 34 i2 _ 3 24 Try.underlying29 KI.out KZ0.out KZ1.out KZ2.out rfl (by decide) (.slice mva s.mv.length mvc) s.mv.length (flC mvC s.mv) rfl SK1.out.omv (some ⟨wr.heap.size, 0, none⟩) 1 1 (mvC ⟨p, c, -1⟩) rfl rfl ?c1 ?c2 ?c3 ?c4 ?c5 ?_)
              case c1 => exact fun j u hj => ⟨rfl, hj⟩
              case c2 => exact mvC_one _
              case c3 => unfold maxLen; omega
              case c4 => omega
              case c5 => omega
              intro v' w5 g1 g2 g3
              obtain ⟨mva2, mvc2, rfl, _⟩ := own_shape g1
              obtain ⟨c1, c2⟩ := SK1.out.midM g2
              have SK2 := Lib.hid (SK1.out.pushM (m := ⟨p, c, -1⟩) g1 g2 (g3.imp id (fun e => e.trans (by simp))))
              clear g1 g2 g3 NB SK1 b1 b1f
              go_upto_region 14 with (fail)
              clear c1 c2
              obtain ⟨w6, hw6⟩ : ∃ w6, w6 = w5.setCell ⟨w.heap.size + 1, 0, none⟩ (.slice mva2 (s.mv.length + 1) mvc2) := ⟨_, rfl⟩
              rw [← hw6] at SK2 ⊢
              clear hw6
              have SK6 := Lib.hid (SK2.out.below (Qt.refl w6).drew.bel)
              obtain ⟨fid', ffr, fds, fcl, fep⟩ := f
              have PP := SK6.out.pop (p := p) (c := c) HF.out hlt hlc hbase
              unfold frV at PP
              have PO := Lib.hid PP
              clear PP
              have FX : Hid (∀ (L' : Loc) (l : KL) (s' : SS) (wx : World), l.hb = w.heap.size → l.fb = w.heap.size + 1 + 1 → l.frv = .slice fra s.fr.length frc → SkAt w base P K L M (xAt K (dOf P rt M) P 0) L' l s' wx → wx.cell? ⟨w.heap.size, 0, none⟩ = some (.pointer (some ⟨L.bb, 0, none⟩)) ∧ wx.cell? ⟨w.heap.size + 1 + 1, 0, none⟩ = some (.slice fra s.fr.length frc) ∧ wx.frozen? ⟨w.heap.size + 1 + 1, 0, none⟩ = false) := fun L' l s' wx e1 e2 e3 hx => by
                rw [← e2, ← e3, ← e1]
                exact ⟨hx.chb, hx.cfb.1, hx.cfb.2⟩
              clear SK2
              refine wp_region_lastH (fun wx => wx.cell? ⟨w.heap.size, 0, none⟩ = some (.pointer (some ⟨L.bb, 0, none⟩)) ∧ wx.cell? ⟨w.heap.size + 1 + 1, 0, none⟩ = some (.slice fra s.fr.length frc) ∧ wx.frozen? ⟨w.heap.size + 1 + 1, 0, none⟩ = false) 7 8 (by kernel_rfl) (by kernel_rfl) rfl rfl ?_ (fun hHeld => ?_)
              · (exact FX.out _ _ _ _ rfl rfl rfl SK6.out)
              simp only [nopFor, List.set_cons_succ, List.set_cons_zero]
              refine wpAnyH_takeL (i := 0) (v := ?_) rfl (by kernel_rfl) (by kernel_rfl) (by kernel_rfl) (fun _ _ _ h => h) rfl ?_ hHeld ?_
              rotate_left
              · intro w hSw
                try dsimp only at hSw
                go_simp
                all_goals with_reducible rfl
              try simp only [Act.put, List.setIfInBounds_toArray, List.set_cons_zero, List.set_cons_succ]
              refine wpAnyH_takeL (i := 1) (v := ?_) rfl (by kernel_rfl) (by kernel_rfl) (by kernel_rfl) (fun _ _ _ h => h) rfl ?_ hHeld ?_
              rotate_left
              · intro w hSw
                try dsimp only at hSw
                go_simp
                all_goals with_reducible rfl
              try simp only [Act.put, List.setIfInBounds_toArray, List.set_cons_zero, List.set_cons_succ]
              refine wpAnyH_takeL (i := 2) (v := ?_) rfl (by kernel_rfl) (by kernel_rfl) (by kernel_rfl) (fun _ _ _ h => h) rfl ?_ hHeld ?_
              rotate_left
              · intro w hSw
                try dsimp only at hSw
                go_simp
                all_goals with_reducible rfl
              try simp only [Act.put, List.setIfInBounds_toArray, List.set_cons_zero, List.set_cons_succ]
              refine wpAnyH_takeL (i := 3) (v := ?_) rfl (by kernel_rfl) (by kernel_rfl) (by kernel_rfl) (fun _ _ _ h => h) rfl ?_ hHeld ?_
              rotate_left
              · intro w hSw
                try dsimp only at hSw
                go_simp
                all_goals with_reducible rfl
              try simp only [Act.put, List.setIfInBounds_toArray, List.set_cons_zero, List.set_cons_succ]
              refine wpAnyH_step (i := 4) (by kernel_rfl) rfl (fun KK hK => ?_)
              (go_simp; (with_reducible refine PO.out.mono ?_); rintro e w7 ⟨rfl, L2, h7⟩; have A7 := Lib.hid h7; clear h7; go_wp2_with fail)
              refine hK.out _ _ ?_ (fun hHeld => ?_)
              · (first | exact FX.out _ _ _ _ rfl rfl rfl A8.out | exact FX.out _ _ _ _ rfl rfl rfl A7.out | exact M9.out)
              clear hK KK
              try simp only [Act.put, List.setIfInBounds_toArray, List.set_cons_zero, List.set_cons_succ]
              refine wpAnyH_step (i := 5) (by kernel_rfl) rfl (fun KK hK => ?_)
              (go_simp; have A8 := Lib.hid (A7.out.below ((Below.refl _ _).alloc (Nat.le_refl _) (.cells #[.int .i64 fid', .int .i64 ffr, .int .i64 fds, .int .i64 fcl, .int .i64 fep, .slice none 0 0] 39))))
              refine hK.out _ _ ?_ (fun hHeld => ?_)
              · (first | exact FX.out _ _ _ _ rfl rfl rfl A8.out | exact FX.out _ _ _ _ rfl rfl rfl A7.out | exact M9.out)
              clear hK KK
              try simp only [Act.put, List.setIfInBounds_toArray, List.set_cons_zero, List.set_cons_succ]
              refine wpAnyH_step (i := 6) (by kernel_rfl) rfl (fun KK hK => ?_)
              (refine step_append_cells (by rfl) _ _ 30 (by rfl) w.heap.size 39 i1 _ 6 64 Try.underlying30 JI.out JZ0.out JZ1.out JZ2.out rfl (by decide) (.slice fra s.fr.length frc) s.fr.length (flC frC s.fr) (by rfl) A8.out.ofr (some ⟨w7.heap.size, 0, none⟩) 1 1 (frC ⟨fid', ffr, fds, fcl, fep⟩) (by rfl) rfl (fun j u hj => ⟨rfl, by rw [adr_mk, Nat.zero_add]; exact (Blk.new w7 39 (frC ⟨fid', ffr, fds, fcl, fep⟩)).cell hj⟩) (frC_one _) (by unfold maxLen; omega) (by omega) (by have := A8.out.size; omega) ?_; intro v' w9 g1 g2 g3; obtain ⟨fra2, frc2, rfl, _⟩ := own_shape g1; have M9 := Lib.hid (A8.out.midF g2); have A9 := Lib.hid (A8.out.pushF (f := ⟨fid', ffr, fds, fcl, fep⟩) g1 g2 g3); clear g1 g2 g3; obtain ⟨z0, z1, z2⟩ := M9.out)
              refine hK.out _ _ ?_ (fun hHeld => ?_)
              · (first | exact FX.out _ _ _ _ rfl rfl rfl A8.out | exact FX.out _ _ _ _ rfl rfl rfl A7.out | exact M9.out)
              clear hK KK
              try simp only [Act.put, List.setIfInBounds_toArray, List.set_cons_zero, List.set_cons_succ]
              refine wpAnyH_takeL (i := 7) (v := ?_) rfl (by kernel_rfl) (by kernel_rfl) (by kernel_rfl) (fun _ _ _ h => h) rfl ?_ hHeld ?_
              rotate_left
              · intro w hSw
                try dsimp only at hSw
                go_simp
                all_goals with_reducible rfl
              try simp only [Act.put, List.setIfInBounds_toArray, List.set_cons_zero, List.set_cons_succ]
              refine wpAnyH_done (by kernel_rfl) ?_ _
              rw [LastQ_normal]
              clear hHeld
              have FN : Hid (KS (dOne p c s) (w9.setCell ⟨w.heap.size + 1 + 1, 0, none⟩ (.slice fra2 (s.fr.length + 1) frc2))) := Lib.hid (by
                rw [HKS.out]
                refine ⟨L2, .slice mva2 (s.mv.length + 1) mvc2, .slice fra2 (s.fr.length + 1) frc2, ?_⟩
                have e : dOne p c s = ⟨popM s.M p c, s.mv ++ [⟨p, c, -1⟩], s.fr ++ [⟨fid', ffr, fds, fcl, fep⟩]⟩ := by
                  unfold dOne
                  rw [HF.out]
                  rfl
                rw [e]
                exact A9.out)
              clear A7 A8 A9 M9 SK6
              go_wp2_with fail
              go_roundw
              case rel => exact ⟨n + 1, by omega, by go_num, NX.out _ FN.out⟩
              case measure => simp [intOf]; omega
            · obtain rfl : n = d p c := by omega
              go_wp2_with fail
              go_roundw
              case rel => exact ⟨c + 1, by omega, by go_num, by show KS (dCls d p (c + 1) _) _; rw [dCls_succ]; exact SS3.out⟩
              case measure => simp [intOf]; omega
        · obtain rfl : c = K := by omega
          go_wp2_with fail
          go_roundw
          case rel => exact ⟨p + 1, by omega, by go_num, by show KS (dPrt d c (p + 1) _) _; rw [dPrt_succ]; exact SS2.out⟩
          case measure => simp [intOf]; omega
    · obtain rfl : p = P := by omega
      go_upto_region 19 with (fail)
      obtain ⟨s1, hs1⟩ : ∃ s1, s1 = dPrt d K p ⟨M, [], []⟩ := ⟨_, rfl⟩
      have S1 := SS1.out
      dsimp only at S1
      rw [← hs1, HKS.out] at S1
      have HS1 := Lib.hid hs1
      clear SS1 hs1 b0 b1 b2 CB D64 DR
      obtain ⟨L1, mvv, frv, SK⟩ := S1
      have hbb := SK.bbe
      have SD := Lib.hid (SK.below (Qt.refl wr).drew.bel)
      have RC : Hid (Calls Try.prog 43 #[.pointer (some ⟨L.bb, 0, none⟩), .func (.func 40) #[] #[.pointer (some ⟨w2.heap.size + 1, 0, none⟩), .pointer (some ⟨w.heap.size, 0, none⟩)]] wr.drew fun e w' =>
          ∃ lb rb q, e = .returned (.slice (some ⟨lb, 0, none⟩) p p) ∧ St w' wr.drew.heap.size (rqC lb rb q p p) ∧ (∀ i < p, ∀ k < p, q i k = rqFull K s1.M o i k) ∧ Below wr.drew.heap.size wr.drew w') := by
        rw [← hbb]
        exact requests_ok (SD.out.rdy X1.out)
      have MC : Hid (∀ (lb : Nat) (rb : Nat → Nat) (q : Nat → Nat → Bool) (w1 : World), St w1 wr.drew.heap.size (rqC lb rb q p p) → (∀ i < p, ∀ k < p, q i k = rqFull K s1.M o i k) → Below wr.drew.heap.size wr.drew w1 → _) := fun lb rb q w1 h1 h2 h3 => SD.out.match_ rfl h1 h2 h3
      have FX : Hid (∀ wx, Below wr.heap.size wr wx → wx.cell? ⟨w.heap.size, 0, none⟩ = some (.pointer (some ⟨L.bb, 0, none⟩)) ∧ wx.cell? ⟨L.bb, 34, none⟩ = some (.pointer (some ⟨L1.xb, 0, none⟩)) ∧ wx.cell? ⟨L.bb, 0, none⟩ = some (.int .i64 p)) := fun wx hx => by
        have h := SK.below hx
        have e := h.box_.cX
        have e2 := h.box_.cP
        rw [h.bbe] at e e2
        exact ⟨h.chb, e, e2⟩
      have FX2 : Hid (∀ (L' : Loc) (l : KL) (s' : SS) (wx : World), l.hb = w.heap.size → L'.xb = L1.xb → SkAt w base p K L M (xAt K (dOf p rt M) p 0) L' l s' wx → wx.cell? ⟨w.heap.size, 0, none⟩ = some (.pointer (some ⟨L.bb, 0, none⟩)) ∧ wx.cell? ⟨L.bb, 34, none⟩ = some (.pointer (some ⟨L1.xb, 0, none⟩)) ∧ wx.cell? ⟨L.bb, 0, none⟩ = some (.int .i64 p)) := fun L' l s' wx e1 e3 h => by
        have e := h.box_.cX
        have e2 := h.box_.cP
        rw [h.bbe] at e e2
        rw [← e1, ← e3]
        exact ⟨h.chb, e, e2⟩
      clear hbb
      clear SK
      go_region_held3 (fun wx => wx.cell? ⟨w.heap.size, 0, none⟩ = some (.pointer (some ⟨L.bb, 0, none⟩)) ∧ wx.cell? ⟨L.bb, 34, none⟩ = some (.pointer (some ⟨L1.xb, 0, none⟩)) ∧ wx.cell? ⟨L.bb, 0, none⟩ = some (.int .i64 p))
        ((first | exact FX.out _ (Qt.refl _).drew.bel | exact FX2.out _ _ _ _ rfl rfl h5 | exact FX.out _ (((Qt.refl wr).drew.bel).trans h3) | go_keep))
        (first
          | (go_at_call 43; (with_reducible refine RC.out.mono ?_); rintro e w4 ⟨lb, rb, q, rfl, h1, h2, h3⟩)
          | (go_at_call 42; (refine (MC.out _ _ _ _ h1 h2 h3).mono ?_); rintro e w5 ⟨b, rfl, h4, h5⟩))
      rename_i hHeld
      clear hHeld
      obtain ⟨s2, hs2⟩ : ∃ s2 : SS, s2 = ⟨{ s1.M with g := b.g, a := b.a }, s1.mv, s1.fr⟩ := ⟨_, rfl⟩
      obtain ⟨mt0, hmt0⟩ : ∃ n, n = w4.heap.size := ⟨_, rfl⟩
      rw [← hs2, ← hmt0] at h5
      rw [← hmt0]
      clear hmt0
      obtain ⟨KS2, hKS2⟩ : ∃ KS2, KS2 = KSt w base p K L M (xAt K (dOf p rt M) p 0) w.heap.size (w.heap.size + 1) (w.heap.size + 1 + 1) (bT w2.heap.size) tv (some (mt0, (List.range p).map (iF b.m))) := ⟨_, rfl⟩
      have HK2 := Lib.hid hKS2
      have T0 : Hid (KS2 s2 w5) := by rw [HK2.out]; exact ⟨_, _, _, h5⟩
      have MO := Lib.hid h4
      have SA : Hid (∀ i < p, (∀ c < K, ∀ k : Nat, rdyB (sAll K o b.m i s2).M o i k c = true → ∃ f r, (sAll K o b.m i s2).M.q i c = f :: r) ∧ (sAll K o b.m i s2).mv.length ≤ 5000 ∧ (sAll K o b.m i s2).fr.length ≤ 5000) := fun i hi => by
        have := send_at (rt := rt) (M := M) (g := b.g) (a := b.a) (m := b.m) h8 hk8 H.out.ok.qm s1 (sAll K o b.m i s2) (by rw [HS1.out, HD.out]) hi (by rw [hs2, HO.out])
        rw [← HO.out] at this
        exact this
      have HS2 := Lib.hid hs2
      clear hs2 hKS2 h1 h2 h3 h4 h5 RC MC FX FX2 SD
      go_wp2_with fail
      go_loopw [86] (fun iv wr => KnRel (fun i => sAll K o b.m i s2) p KS2 iv wr) (fun iv _ => p - (intOf iv).toNat)
      case atStart => exact ⟨0, Nat.zero_le _, rfl, T0.out⟩
      case round =>
        clear T0
        obtain ⟨i, hi, rfl, hS⟩ := hrel
        have T1 := Lib.hid hS
        clear hS
        by_cases hlt : i < p
        · have hii : (i : Int) < (p : Int) := by omega
          have hi0 : (0 : Int) ≤ (i : Int) := by omega
          have hi8 : (i : Int) < 8 := by omega
          obtain ⟨sa1, sa2, sa3⟩ := SA.out i hlt
          obtain ⟨s, hs⟩ : ∃ s, s = sAll K o b.m i s2 := ⟨_, rfl⟩
          have T2 := T1.out
          dsimp only at T2
          have NX : Hid (∀ w', KS2 (sIn K o (b.m i) i s) w' → KS2 ((fun i => sAll K o b.m i s2) (i + 1)) w') := Lib.hid (fun w' h => by rw [hs] at h; show KS2 (sAll K o b.m (i + 1) s2) w'; rw [sAll_succ]; exact h)
          rw [← hs] at T2 sa1 sa2 sa3
          have SN := Lib.hid sa1
          have T3 := Lib.hid T2
          clear hs sa1 T1 T2
          have MM := MO.out.1.m i hlt
          have m0 : wr.cell? ⟨mt0, i, none⟩ = some (.int .i64 (b.m i)) := by
            have h := T3.out
            rw [HK2.out] at h
            obtain ⟨L3, mvv3, frv3, SK⟩ := h
            exact SK.cmt rfl hlt
          have CE : Hid (∀ s wx, KS2 s wx → wx.cell? ⟨w.heap.size, 0, none⟩ = some (.pointer (some ⟨L.bb, 0, none⟩)) ∧ wx.cell? ⟨L.bb, 0, none⟩ = some (.int .i64 p) ∧ wx.cell? ⟨L.bb, 1, none⟩ = some (.int .i64 K) ∧ wx.cell? ⟨L.bb, 26 + i, none⟩ = some (.int .i64 (s.M.ptr i)) ∧ s.M.ptr i < K) := Lib.hid (fun s wx h => by
            rw [HK2.out] at h
            obtain ⟨L3, mvv3, frv3, SK⟩ := h
            obtain ⟨e1, e2, e3, e4, e5⟩ := SK.cells hlt
            exact ⟨e1, e2, e3, e4, SK.box_.ok.ptr i hlt⟩)
          obtain ⟨b0, b1, b2, b3, hpt⟩ := CE.out _ _ T3.out
          go_upto_block 7 with (fail)
          go_cut [13, 14, 15, 16] from 88 to 155 (fun _ _ _ _ wx => KS2 (sIn K o (b.m i) i s) wx)
          case first =>
            rcases MM with hneg | ⟨k, hk, hmk, hrk⟩
            · rw [hneg] at m0
              have FN : Hid (KS2 (sIn K o (b.m i) i s) wr) := Lib.hid (by rw [sIn_neg (by omega)]; exact T3.out)
              clear hneg
              go_wp2_with fail
              go_meet
              exact FN.out
            · rw [hmk] at m0
              have HMK := Lib.hid hmk
              have hk0 : (0 : Int) ≤ (k : Int) := by omega
              have hk9 : ¬ (k : Int) < 0 := by omega
              clear hmk hrk
              go_wp2_with fail
              go_loopw [97] (fun iv wx => CnRel K o i k s KS2 iv wx) (fun iv _ => K - (intOf iv).toNat)
              case atStart => exact ⟨0, Nat.zero_le _, rfl, T3.out, fun j hj => absurd hj (Nat.not_lt_zero _)⟩
              case round =>
                clear T3 b0 b1 b2 b3 m0
                obtain ⟨n, hn, rfl, hS, hno⟩ := hrel
                have T4 := Lib.hid hS; have NO := Lib.hid hno
                clear hS hno
                obtain ⟨b0, b1, b2, b3, -⟩ := CE.out _ _ T4.out
                by_cases hln : n < K
                · have hni : (n : Int) < (K : Int) := by omega
                  go_upto_region 27 with (fail)
                  have w1 : IntKind.i64.wrap (((s.M.ptr i : Nat) : Int) + (n : Int)) = ((s.M.ptr i + n : Nat) : Int) := by rw [IntWalk.i64_in _ (by omega)]; omega
                  have hkn : ¬ K = 0 := by omega
                  go_quiet (fail)
                  clear w1
                  go_upto_region 28 with (fail)
                  obtain ⟨cv, hcv⟩ : ∃ cv, cv = (s.M.ptr i + n) % K := ⟨_, rfl⟩
                  have ecv : (((s.M.ptr i : Nat) : Int) + (n : Int)) % (K : Int) = (cv : Int) := by rw [hcv, Int.natCast_emod, Int.natCast_add]
                  rw [ecv]
                  have hck : cv < K := by rw [hcv]; exact Nat.mod_lt _ (by omega)
                  clear ecv
                  have HCV := Lib.hid hcv
                  clear hcv
                  have T5 : Hid (KS2 s (wr.drewN nq)) := Lib.hid (by
                    have h := T4.out
                    rw [HK2.out] at h ⊢
                    exact h.below (Qt.refl wr |>.drewN nq).bel)
                  have RD : Hid (Calls Try.prog 40 #[.int .i64 i, .int .i64 k, .int .i64 cv, .pointer (some ⟨w2.heap.size + 1, 0, none⟩), .pointer (some ⟨w.heap.size, 0, none⟩)] (wr.drewN nq) fun e w' => e = .returned (.bool (rdyB s.M o i k cv)) ∧ Below (wr.drewN nq).heap.size (wr.drewN nq) w') := Lib.hid (by
                    have h := T5.out
                    rw [HK2.out] at h
                    obtain ⟨L3, mvv3, frv3, SK⟩ := h
                    exact ready_ok (SK.rdy X1.out) i k cv hlt hk hck)
                  obtain ⟨rb, hrb⟩ : ∃ rb, rb = rdyB s.M o i k cv := ⟨_, rfl⟩
                  rw [← hrb] at RD
                  have HRB := Lib.hid hrb
                  clear hrb T4 b0 b1 b2 b3
                  cases rb with
                  | false =>
                    go_wp2_with fail
                    (with_reducible refine RD.out.mono ?_); rintro e w6 ⟨rfl, hb6⟩
                    have T6 : Hid (KS2 s w6) := Lib.hid (by
                      have h := T5.out
                      rw [HK2.out] at h ⊢
                      exact h.below hb6)
                    clear hb6 T5
                    go_wp2_with fail
                    go_roundw
                    case rel =>
                      refine ⟨n + 1, by omega, by go_num, T6.out, fun j hj => ?_⟩
                      by_cases ej : j = n
                      · rw [ej, ← HCV.out, ← HRB.out]
                      · exact NO.out j (by omega)
                    case measure => simp [intOf]; omega
                  | true =>
                    go_wp2_with fail
                    (with_reducible refine RD.out.mono ?_); rintro e w6 ⟨rfl, hb6⟩
                    have T6 : Hid (KS2 s w6) := Lib.hid (by
                      have h := T5.out
                      rw [HK2.out] at h ⊢
                      exact h.below hb6)
                    clear hb6 T5 RD
                    go_upto_region 29 with (fail)
                    obtain ⟨f, r, hf⟩ := SN.out cv hck k HRB.out.symm
                    have HF := Lib.hid hf
                    clear hf
                    have T7 := T6.out
                    rw [HK2.out] at T7
                    obtain ⟨L3, mvv, frv, SK⟩ := T7
                    obtain ⟨mva, mvc, rfl, _⟩ := own_shape (show w6.ownsRow w.heap.size 34 3 mvv s.mv.length (flC mvC s.mv) from SK.omv)
                    obtain ⟨fra, frc, rfl, _⟩ := own_shape (show w6.ownsRow w.heap.size 39 6 frv s.fr.length (flC frC s.fr) from SK.ofr)
                    obtain ⟨b1, b1f⟩ := SK.cmb
                    have hsz := SK.size
                    have SK1 := Lib.hid (SK.below ((Below.refl _ _).alloc (Nat.le_refl _) (.cells #[.int .i64 (i : Int), .int .i64 (cv : Int), .int .i64 (k : Int)] 34)))
                    clear SK T6
                    go_wp2_with (at_builtin; refine wpList_append_cells rfl _ _ 29 rfl w.heap.size 34 i2 _ 3 24 Try.underlying29 KI.out KZ0.out KZ1.out KZ2.out rfl (by decide) (.slice mva s.mv.length mvc) s.mv.length (flC mvC s.mv) rfl SK1.out.omv (some ⟨w6.heap.size, 0, none⟩) 1 1 (mvC ⟨i, cv, k⟩) rfl rfl ?c1 ?c2 ?c3 ?c4 ?c5 ?_)
                    case c1 => exact fun j u hj => ⟨rfl, hj⟩
                    case c2 => exact mvC_one _
                    case c3 => unfold maxLen; omega
                    case c4 => omega
                    case c5 => omega
                    intro v' w7 g1 g2 g3
                    obtain ⟨mva2, mvc2, rfl, _⟩ := own_shape g1
                    obtain ⟨c1, c2⟩ := SK1.out.midM g2
                    have SK2 := Lib.hid (SK1.out.pushM (m := ⟨i, cv, k⟩) g1 g2 (g3.imp id (fun e => e.trans (by simp))))
                    clear g1 g2 g3 SK1 b1 b1f
                    go_upto_region 30 with (fail)
                    clear c1 c2
                    obtain ⟨w8, hw8⟩ : ∃ w8, w8 = w7.setCell ⟨w.heap.size + 1, 0, none⟩ (.slice mva2 (s.mv.length + 1) mvc2) := ⟨_, rfl⟩
                    rw [← hw8] at SK2 ⊢
                    clear hw8
                    have SK6 := Lib.hid (SK2.out.below (Qt.refl w8).drew.bel)
                    obtain ⟨fid', ffr, fds, fcl, fep⟩ := f
                    have PP := SK6.out.pop (p := i) (c := cv) HF.out hlt hck hbase
                    unfold frV at PP
                    have PO := Lib.hid PP
                    clear PP
                    have FX : Hid (∀ (L' : Loc) (l : KL) (s' : SS) (wx : World), l.hb = w.heap.size → l.fb = w.heap.size + 1 + 1 → l.frv = .slice fra s.fr.length frc → SkAt w base p K L M (xAt K (dOf p rt M) p 0) L' l s' wx → wx.cell? ⟨w.heap.size, 0, none⟩ = some (.pointer (some ⟨L.bb, 0, none⟩)) ∧ wx.cell? ⟨w.heap.size + 1 + 1, 0, none⟩ = some (.slice fra s.fr.length frc) ∧ wx.frozen? ⟨w.heap.size + 1 + 1, 0, none⟩ = false) := fun L' l s' wx e1 e2 e3 hx => by
                      rw [← e2, ← e3, ← e1]
                      exact ⟨hx.chb, hx.cfb.1, hx.cfb.2⟩
                    clear SK2
                    refine wp_region_lastH (fun wx => wx.cell? ⟨w.heap.size, 0, none⟩ = some (.pointer (some ⟨L.bb, 0, none⟩)) ∧ wx.cell? ⟨w.heap.size + 1 + 1, 0, none⟩ = some (.slice fra s.fr.length frc) ∧ wx.frozen? ⟨w.heap.size + 1 + 1, 0, none⟩ = false) 7 8 (by kernel_rfl) (by kernel_rfl) rfl rfl ?_ (fun hHeld => ?_)
                    · (exact FX.out _ _ _ _ rfl rfl rfl SK6.out)
                    simp only [nopFor, List.set_cons_succ, List.set_cons_zero]
                    refine wpAnyH_takeL (i := 0) (v := ?_) rfl (by kernel_rfl) (by kernel_rfl) (by kernel_rfl) (fun _ _ _ h => h) rfl ?_ hHeld ?_
                    rotate_left
                    · intro w hSw
                      try dsimp only at hSw
                      go_simp
                      all_goals with_reducible rfl
                    try simp only [Act.put, List.setIfInBounds_toArray, List.set_cons_zero, List.set_cons_succ]
                    refine wpAnyH_takeL (i := 1) (v := ?_) rfl (by kernel_rfl) (by kernel_rfl) (by kernel_rfl) (fun _ _ _ h => h) rfl ?_ hHeld ?_
                    rotate_left
                    · intro w hSw
                      try dsimp only at hSw
                      go_simp
                      all_goals with_reducible rfl
                    try simp only [Act.put, List.setIfInBounds_toArray, List.set_cons_zero, List.set_cons_succ]
                    refine wpAnyH_takeL (i := 2) (v := ?_) rfl (by kernel_rfl) (by kernel_rfl) (by kernel_rfl) (fun _ _ _ h => h) rfl ?_ hHeld ?_
                    rotate_left
                    · intro w hSw
                      try dsimp only at hSw
                      go_simp
                      all_goals with_reducible rfl
                    try simp only [Act.put, List.setIfInBounds_toArray, List.set_cons_zero, List.set_cons_succ]
                    refine wpAnyH_takeL (i := 3) (v := ?_) rfl (by kernel_rfl) (by kernel_rfl) (by kernel_rfl) (fun _ _ _ h => h) rfl ?_ hHeld ?_
                    rotate_left
                    · intro w hSw
                      try dsimp only at hSw
                      go_simp
                      all_goals with_reducible rfl
                    try simp only [Act.put, List.setIfInBounds_toArray, List.set_cons_zero, List.set_cons_succ]
                    refine wpAnyH_step (i := 4) (by kernel_rfl) rfl (fun KK hK => ?_)
                    (go_simp; (with_reducible refine PO.out.mono ?_); rintro e w9 ⟨rfl, L2, h7⟩; have A7 := Lib.hid h7; clear h7; go_wp2_with fail)
                    refine hK.out _ _ ?_ (fun hHeld => ?_)
                    · (first | exact FX.out _ _ _ _ rfl rfl rfl A8.out | exact FX.out _ _ _ _ rfl rfl rfl A7.out | exact M9.out)
                    clear hK KK
                    try simp only [Act.put, List.setIfInBounds_toArray, List.set_cons_zero, List.set_cons_succ]
                    refine wpAnyH_step (i := 5) (by kernel_rfl) rfl (fun KK hK => ?_)
                    (go_simp; have A8 := Lib.hid (A7.out.below ((Below.refl _ _).alloc (Nat.le_refl _) (.cells #[.int .i64 fid', .int .i64 ffr, .int .i64 fds, .int .i64 fcl, .int .i64 fep, .slice none 0 0] 39))))
                    refine hK.out _ _ ?_ (fun hHeld => ?_)
                    · (first | exact FX.out _ _ _ _ rfl rfl rfl A8.out | exact FX.out _ _ _ _ rfl rfl rfl A7.out | exact M9.out)
                    clear hK KK
                    try simp only [Act.put, List.setIfInBounds_toArray, List.set_cons_zero, List.set_cons_succ]
                    refine wpAnyH_step (i := 6) (by kernel_rfl) rfl (fun KK hK => ?_)
                    (refine step_append_cells (by rfl) _ _ 30 (by rfl) w.heap.size 39 i1 _ 6 64 Try.underlying30 JI.out JZ0.out JZ1.out JZ2.out rfl (by decide) (.slice fra s.fr.length frc) s.fr.length (flC frC s.fr) (by rfl) A8.out.ofr (some ⟨w9.heap.size, 0, none⟩) 1 1 (frC ⟨fid', ffr, fds, fcl, fep⟩) (by rfl) rfl (fun j u hj => ⟨rfl, by rw [adr_mk, Nat.zero_add]; exact (Blk.new w9 39 (frC ⟨fid', ffr, fds, fcl, fep⟩)).cell hj⟩) (frC_one _) (by unfold maxLen; omega) (by omega) (by have := A8.out.size; omega) ?_; intro v' wa g1 g2 g3; obtain ⟨fra2, frc2, rfl, _⟩ := own_shape g1; have M9 := Lib.hid (A8.out.midF g2); have A9 := Lib.hid (A8.out.pushF (f := ⟨fid', ffr, fds, fcl, fep⟩) g1 g2 g3); clear g1 g2 g3; obtain ⟨z0, z1, z2⟩ := M9.out)
                    refine hK.out _ _ ?_ (fun hHeld => ?_)
                    · (first | exact FX.out _ _ _ _ rfl rfl rfl A8.out | exact FX.out _ _ _ _ rfl rfl rfl A7.out | exact M9.out)
                    clear hK KK
                    try simp only [Act.put, List.setIfInBounds_toArray, List.set_cons_zero, List.set_cons_succ]
                    refine wpAnyH_takeL (i := 7) (v := ?_) rfl (by kernel_rfl) (by kernel_rfl) (by kernel_rfl) (fun _ _ _ h => h) rfl ?_ hHeld ?_
                    rotate_left
                    · intro w hSw
                      try dsimp only at hSw
                      go_simp
                      all_goals with_reducible rfl
                    try simp only [Act.put, List.setIfInBounds_toArray, List.set_cons_zero, List.set_cons_succ]
                    refine wpAnyH_done (by kernel_rfl) ?_ _
                    rw [LastQ_normal]
                    clear hHeld A7 A8 M9 SK6 FX PO
                    go_upto_region 31 with (fail)
                    clear z0 z1 z2
                    obtain ⟨wb, hwb⟩ : ∃ wb, wb = wa.setCell ⟨w.heap.size + 1 + 1, 0, none⟩ (.slice fra2 (s.fr.length + 1) frc2) := ⟨_, rfl⟩
                    rw [← hwb] at A9 ⊢
                    clear hwb
                    have TK := Lib.hid (A9.out.take hk hck)
                    obtain ⟨t0, t1, t2, t3, -⟩ := A9.out.cells hlt
                    obtain ⟨gt, mt, t4, t5⟩ := A9.out.box_.wT hk hck
                    rw [A9.out.bbe] at t4
                    have hk8i : (k : Int) < 8 := by omega
                    have hc0i : (0 : Int) ≤ (cv : Int) := by omega
                    have hcki : (cv : Int) < (K : Int) := by omega
                    clear t1 t2 t3
                    go_wp2_with fail
                    (with_reducible refine TK.out.mono ?_); rintro e wc ⟨⟨tn, rfl⟩, hC⟩
                    have AC := Lib.hid hC
                    clear hC TK A9 t0 t4 t5
                    go_upto_region 32 with (fail)
                    have AD := Lib.hid (AC.out.below (Qt.refl wc).drew.bel)
                    obtain ⟨t0, t1, t2, t3, t4⟩ := AD.out.cells hlt
                    have w1 : IntKind.i64.wrap ((cv : Int) + 1) = (cv : Int) + 1 := by rw [IntWalk.i64_in _ (by omega)]
                    have hkn : ¬ K = 0 := by omega
                    refine wp_region_lastH (fun wx => wx.cell? ⟨w.heap.size, 0, none⟩ = some (.pointer (some ⟨L.bb, 0, none⟩)) ∧ wx.cell? ⟨L.bb, 1, none⟩ = some (.int .i64 K)) 12 13 (by kernel_rfl) (by kernel_rfl) rfl rfl ?_ (fun hHeld => ?_)
                    · (exact ⟨t0, t2⟩)
                    simp only [nopFor, List.set_cons_succ, List.set_cons_zero]
                    refine wpAnyH_takeL (i := 0) (v := ?_) rfl (by kernel_rfl) (by kernel_rfl) (by kernel_rfl) (fun _ _ _ h => h) rfl ?_ hHeld ?_
                    rotate_left
                    · intro w hSw
                      try dsimp only at hSw
                      go_simp
                      all_goals with_reducible rfl
                    try simp only [Act.put, List.setIfInBounds_toArray, List.set_cons_zero, List.set_cons_succ]
                    refine wpAnyH_takeL (i := 1) (v := ?_) rfl (by kernel_rfl) (by kernel_rfl) (by kernel_rfl) (fun _ _ _ h => h) rfl ?_ hHeld ?_
                    rotate_left
                    · intro w hSw
                      try dsimp only at hSw
                      go_simp
                      all_goals with_reducible rfl
                    try simp only [Act.put, List.setIfInBounds_toArray, List.set_cons_zero, List.set_cons_succ]
                    refine wpAnyH_takeL (i := 2) (v := ?_) rfl (by kernel_rfl) (by kernel_rfl) (by kernel_rfl) (fun _ _ _ h => h) rfl ?_ hHeld ?_
                    rotate_left
                    · intro w hSw
                      try dsimp only at hSw
                      go_simp
                      all_goals with_reducible rfl
                    try simp only [Act.put, List.setIfInBounds_toArray, List.set_cons_zero, List.set_cons_succ]
                    refine wpAnyH_takeL (i := 3) (v := ?_) rfl (by kernel_rfl) (by kernel_rfl) (by kernel_rfl) (fun _ _ _ h => h) rfl ?_ hHeld ?_
                    rotate_left
                    · intro w hSw
                      try dsimp only at hSw
                      go_simp
                      all_goals with_reducible rfl
                    try simp only [Act.put, List.setIfInBounds_toArray, List.set_cons_zero, List.set_cons_succ]
                    refine wpAnyH_takeL (i := 4) (v := ?_) rfl (by kernel_rfl) (by kernel_rfl) (by kernel_rfl) (fun _ _ _ h => h) rfl ?_ hHeld ?_
                    rotate_left
                    · intro w hSw
                      try dsimp only at hSw
                      go_simp
                      all_goals with_reducible rfl
                    try simp only [Act.put, List.setIfInBounds_toArray, List.set_cons_zero, List.set_cons_succ]
                    refine wpAnyH_takeL (i := 5) (v := ?_) rfl (by kernel_rfl) (by kernel_rfl) (by kernel_rfl) (fun _ _ _ h => h) rfl ?_ hHeld ?_
                    rotate_left
                    · intro w hSw
                      try dsimp only at hSw
                      go_simp
                      all_goals with_reducible rfl
                    try simp only [Act.put, List.setIfInBounds_toArray, List.set_cons_zero, List.set_cons_succ]
                    refine wpAnyH_takeL (i := 6) (v := ?_) rfl (by kernel_rfl) (by kernel_rfl) (by kernel_rfl) (fun _ _ _ h => h) rfl ?_ hHeld ?_
                    rotate_left
                    · intro w hSw
                      try dsimp only at hSw
                      go_simp
                      all_goals with_reducible rfl
                    try simp only [Act.put, List.setIfInBounds_toArray, List.set_cons_zero, List.set_cons_succ]
                    refine wpAnyH_takeL (i := 7) (v := ?_) rfl (by kernel_rfl) (by kernel_rfl) (by kernel_rfl) (fun _ _ _ h => h) rfl ?_ hHeld ?_
                    rotate_left
                    · intro w hSw
                      try dsimp only at hSw
                      go_simp
                      all_goals with_reducible rfl
                    try simp only [Act.put, List.setIfInBounds_toArray, List.set_cons_zero, List.set_cons_succ]
                    refine wpAnyH_takeL (i := 8) (v := ?_) rfl (by kernel_rfl) (by kernel_rfl) (by kernel_rfl) (fun _ _ _ h => h) rfl ?_ hHeld ?_
                    rotate_left
                    · intro w hSw
                      try dsimp only at hSw
                      go_simp
                      all_goals with_reducible rfl
                    try simp only [Act.put, List.setIfInBounds_toArray, List.set_cons_zero, List.set_cons_succ]
                    refine wpAnyH_takeL (i := 9) (v := ?_) rfl (by kernel_rfl) (by kernel_rfl) (by kernel_rfl) (fun _ _ _ h => h) rfl ?_ hHeld ?_
                    rotate_left
                    · intro w hSw
                      try dsimp only at hSw
                      go_simp
                      all_goals with_reducible rfl
                    try simp only [Act.put, List.setIfInBounds_toArray, List.set_cons_zero, List.set_cons_succ]
                    refine wpAnyH_takeL (i := 10) (v := ?_) rfl (by kernel_rfl) (by kernel_rfl) (by kernel_rfl) (fun _ _ _ h => h) rfl ?_ hHeld ?_
                    rotate_left
                    · intro w hSw
                      try dsimp only at hSw
                      go_simp
                      all_goals with_reducible rfl
                    try simp only [Act.put, List.setIfInBounds_toArray, List.set_cons_zero, List.set_cons_succ]
                    refine wpAnyH_takeL (i := 11) (v := ?_) rfl (by kernel_rfl) (by kernel_rfl) (by kernel_rfl) (fun _ _ _ h => h) rfl ?_ hHeld ?_
                    rotate_left
                    · intro w hSw
                      try dsimp only at hSw
                      go_simp
                      all_goals with_reducible rfl
                    try simp only [Act.put, List.setIfInBounds_toArray, List.set_cons_zero, List.set_cons_succ]
                    refine wpAnyH_takeL (i := 12) (v := ?_) rfl (by kernel_rfl) (by kernel_rfl) (by kernel_rfl) (fun _ _ _ h => h) rfl ?_ hHeld ?_
                    rotate_left
                    · intro w hSw
                      try dsimp only at hSw
                      go_simp
                      all_goals with_reducible rfl
                    try simp only [Act.put, List.setIfInBounds_toArray, List.set_cons_zero, List.set_cons_succ]
                    refine wpAnyH_done (by kernel_rfl) ?_ _
                    rw [LastQ_normal]
                    clear hHeld w1
                    have ecv : ((cv : Int) + 1) % (K : Int) = (((cv + 1) % K : Nat) : Int) := by rw [Int.natCast_emod, Int.natCast_add]; rfl
                    have FN : Hid (KS2 (sIn K o (b.m i) i s) (wc.drew.setCell ⟨L.bb, 26 + i, none⟩ (.int .i64 (((cv : Int) + 1) % (K : Int))))) := Lib.hid (by
                      rw [ecv, HK2.out]
                      have e1 : sIn K o (b.m i) i s = ⟨ptrM (takM (popM s.M i cv) k cv) i ((cv + 1) % K), s.mv ++ [⟨i, cv, k⟩], s.fr ++ [⟨fid', ffr, fds, fcl, fep⟩]⟩ := by
                        have ek : (b.m i).toNat = k := by rw [HMK.out]; exact Int.toNat_natCast k
                        rw [sIn_some (c := cv) (by rw [HMK.out]; omega) (by rw [ek, HCV.out]; exact cls_some hln NO.out (by rw [← HCV.out]; exact HRB.out.symm)), ek]
                        unfold sOne
                        rw [HF.out]
                        rfl
                      rw [e1]
                      exact ⟨L2, _, _, AD.out.setP hlt (Nat.mod_lt _ (by omega))⟩)
                    clear ecv AC AD
                    go_wp2_with fail
                    go_meet
                    exact FN.out
                · obtain rfl : n = K := by omega
                  have FN : Hid (KS2 (sIn n o (b.m i) i s) wr) := Lib.hid (by
                    rw [sIn_none (by rw [HMK.out]; omega) (by rw [HMK.out]; exact cls_none NO.out)]
                    exact T4.out)
                  go_wp2_with fail
                  go_meet
                  exact FN.out
          case rest =>
            have FN := Lib.hid hcut
            clear hcut b0 b1 b2 b3 m0
            go_wp2_with fail
            go_roundw
            case rel => exact ⟨i + 1, by omega, by go_num, NX.out _ FN.out⟩
            case measure => simp [intOf]; omega
        · obtain rfl : i = p := by omega
          go_upto_region 35 with (fail)
          have T2 := T1.out
          dsimp only at T2
          rw [HK2.out] at T2
          obtain ⟨L3, mvv, frv, SK⟩ := T2
          obtain ⟨s, hs⟩ : ∃ s, s = sAll K o b.m i s2 := ⟨_, rfl⟩
          rw [← hs] at SK
          have HS := Lib.hid hs
          obtain ⟨mva, mvc, rfl, _⟩ := own_shape (show wr.ownsRow w.heap.size 34 3 mvv s.mv.length (flC mvC s.mv) from SK.omv)
          obtain ⟨fra, frc, rfl, _⟩ := own_shape (show wr.ownsRow w.heap.size 39 6 frv s.fr.length (flC frC s.fr) from SK.ofr)
          clear hs T1
          have FX : Hid (∀ (wx : World), SkAt w base i K L M (xAt K (dOf i rt M) i 0) L3 ⟨w.heap.size, w.heap.size + 1, w.heap.size + 1 + 1, bT w2.heap.size, tv, .slice mva s.mv.length mvc, .slice fra s.fr.length frc, some (mt0, (List.range i).map (iF b.m))⟩ s wx → wx.cell? ⟨w.heap.size + 1, 0, none⟩ = some (.slice mva s.mv.length mvc) ∧ wx.frozen? ⟨w.heap.size + 1, 0, none⟩ = false ∧ wx.cell? ⟨w.heap.size + 1 + 1, 0, none⟩ = some (.slice fra s.fr.length frc) ∧ wx.frozen? ⟨w.heap.size + 1 + 1, 0, none⟩ = false) := fun wx hx =>
            ⟨hx.cmb.1, hx.cmb.2, hx.cfb.1, hx.cfb.2⟩
          have SD := Lib.hid (SK.below (Qt.refl wr).drew.bel)
          have S0 := Lib.hid SK
          have SE := Lib.hid (SK.sameM.below (Qt.refl _).drew.bel)
          have SF := Lib.hid (SK.sameM.sameF.below (Qt.refl _).drew.bel)
          have S1 := Lib.hid SK.sameM
          clear SK
          refine wp_region_lastH (fun wx => wx.cell? ⟨w.heap.size + 1, 0, none⟩ = some (.slice mva s.mv.length mvc) ∧ wx.frozen? ⟨w.heap.size + 1, 0, none⟩ = false ∧ wx.cell? ⟨w.heap.size + 1 + 1, 0, none⟩ = some (.slice fra s.fr.length frc) ∧ wx.frozen? ⟨w.heap.size + 1 + 1, 0, none⟩ = false) 3 4 (by kernel_rfl) (by kernel_rfl) rfl rfl ?_ (fun hHeld => ?_)
          · (exact FX.out _ SD.out)
          simp only [nopFor, List.set_cons_succ, List.set_cons_zero]
          refine wpAnyH_takeL (i := 0) (v := ?_) rfl (by kernel_rfl) (by kernel_rfl) (by kernel_rfl) (fun _ _ _ h => h) rfl ?_ hHeld ?_
          rotate_left
          · intro w hSw
            try dsimp only at hSw
            go_simp
            all_goals with_reducible rfl
          try simp only [Act.put, List.setIfInBounds_toArray, List.set_cons_zero, List.set_cons_succ]
          refine wpAnyH_takeL (i := 1) (v := ?_) rfl (by kernel_rfl) (by kernel_rfl) (by kernel_rfl) (fun _ _ _ h => h) rfl ?_ hHeld ?_
          rotate_left
          · intro w hSw
            try dsimp only at hSw
            go_simp
            all_goals with_reducible rfl
          try simp only [Act.put, List.setIfInBounds_toArray, List.set_cons_zero, List.set_cons_succ]
          refine wpAnyH_step (i := 2) (by kernel_rfl) rfl (fun KK hK => ?_)
          (obtain ⟨k0, k1, k2, k3⟩ := FX.out _ S0.out; go_simp)
          refine hK.out _ _ ?_ (fun hHeld => ?_)
          · (exact FX.out _ SE.out)
          clear hK KK
          try simp only [Act.put, List.setIfInBounds_toArray, List.set_cons_zero, List.set_cons_succ]
          refine wpAnyH_takeL (i := 3) (v := ?_) rfl (by kernel_rfl) (by kernel_rfl) (by kernel_rfl) (fun _ _ _ h => h) rfl ?_ hHeld ?_
          rotate_left
          · intro w hSw
            try dsimp only at hSw
            go_simp
            all_goals with_reducible rfl
          try simp only [Act.put, List.setIfInBounds_toArray, List.set_cons_zero, List.set_cons_succ]
          refine wpAnyH_done (by kernel_rfl) ?_ _
          rw [LastQ_normal]
          clear hHeld
          obtain ⟨k0, k1, k2, k3⟩ := FX.out _ S1.out
          go_wp2_with fail
          refine leaves_cons (f := 37) (args := #[.pointer (some ⟨w.heap.size + 1, 0, none⟩), .pointer (some ⟨w.heap.size + 1 + 1, 0, none⟩)]) (by simp) (by simp [go_sem]) ?_
          refine (catch_idle ⟨w.heap.size + 1, 0, none⟩ ⟨w.heap.size + 1 + 1, 0, none⟩ _).mono ?_
          rintro e u' w'' ⟨rfl, rfl, rfl⟩
          clear k0 k1 k2 k3
          obtain ⟨k0, k1, k2, k3⟩ := FX.out _ SF.out
          refine ⟨.tuple #[.slice mva s.mv.length mvc, .slice fra s.fr.length frc], ?_, ?_⟩
          · simp [results, Try.results18, go_sem, k0, k2]
          · refine ⟨L3, _, b, s1, s, by rw [HS1.out, HD.out], ?_, ?_, rfl, SF.out⟩
            · have h := MO.out
              rw [HO.out] at h
              exact h
            · rw [HS.out, HS2.out, HO.out]
end
end Go.Proofs.Ytkooihniieepcaa
