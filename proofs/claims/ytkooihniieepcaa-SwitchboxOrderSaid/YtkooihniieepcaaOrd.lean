/-
  SwitchboxOrder: the map of the last frames, and the closure that compares a Step's frames with it.
-/
import Derived.Test.YtkooihniieepcaaSwW
import Derived.Maps.OwnSet
import Derived.Maps.Views
import Derived.WideKeyPair
import Derived.DeepKeys4
namespace Go.Proofs.Ytkooihniieepcaa
open Go.RowKit
set_option linter.unusedVariables false

theorem or_arr : WideMaps.ArrKey Try.prog 43 3 2 := ⟨Try.underlying43, by kernel_rfl, by kernel_rfl, by kernel_rfl⟩
theorem or_keyed : Maps.Keyed Try.prog 43 := .of_law (deep_law_laid Try.laidOut (m := 2) (by omega) (of_decide_eq_true (by kernel_rfl)) (by kernel_rfl) (by rw [Try.underlying43]))
def orV (p c : Nat) : Value := .agg #[.int .i64 p, .int .i64 c]
def orK (p c : Nat) : Lit := .string (keyBytes [.int .i64 p, .int .i64 c])
theorem int_wf {x : Int} (h0 : 0 ≤ x) (h1 : x < 1000) : (Lit.int .i64 x).wf = true := by
  simp [Lit.wf, IntKind.min, IntKind.max, IntKind.signed, IntKind.bits]
  omega
theorem orK_of {p c : Nat} (hp : p < 8) (hc : c < 8) : keyOf Try.prog 43 (orV p c) = some (orK p c) :=
  WideMaps.keyOf_pair or_arr Try.underlying3 ⟨_, rfl⟩ (int_wf (by omega) (by omega)) (int_wf (by omega) (by omega))
theorem orK_ne {p c p' c' : Nat} (hp : p < 8) (hc : c < 8) (hp' : p' < 8) (hc' : c' < 8) (h : ¬ (p' = p ∧ c' = c)) : orK p' c' ≠ orK p c := fun e => by
  have h1 := orK_of hp' hc'
  rw [e] at h1
  have := or_keyed.inj h1 (orK_of hp hc)
  unfold orV at this
  simp at this
  exact h ⟨by omega, by omega⟩
/-- Block b is a map that holds F, of at most n entries. -/
def LastAt (w : World) (b n : Nat) (F : Nat → Nat → Option Int) : Prop :=
  ∃ D : DataW Unit, w.ownsMap Try.prog 43 (plainElem Try.prog 3) b n D ∧ ∀ p < 8, ∀ c < 8, Maps.has D (orK p c) = (F p c).isSome ∧ ∀ v, F p c = some v → D.atKey (orK p c) (.lit (.int .i64 0)) = .lit (.int .i64 v)
section
variable {w w' : World} {b n : Nat} {F : Nat → Nat → Option Int} {S : Nat → Prop}
theorem LastAt.lt (h : LastAt w b n F) : b < w.heap.size := by obtain ⟨D, h1, -⟩ := h; exact h1.lt
theorem LastAt.upd (h : LastAt w b n F) (u : Upd S w w') (hs : ¬ S b) : LastAt w' b n F := by
  obtain ⟨D, ⟨es, clock, hb, r⟩, h2⟩ := h
  exact ⟨D, ⟨es, clock, (u.block b (Array.getElem?_eq_some_iff.1 hb).1 hs).trans hb, r⟩, h2⟩
theorem LastAt.below (h : LastAt w b n F) (u : Below w.heap.size w w') : LastAt w' b n F := h.upd (Upd.of_below (S := fun _ => False) u) id
theorem LastAt.made (w : World) : LastAt (w.alloc (.map #[] 0)) w.heap.size 0 fun _ _ => none := by
  refine ⟨.map [], World.ownsMap_made _ _ _ _, fun p hp c hc => ⟨rfl, fun v hv => by cases hv⟩⟩
theorem LastAt.look (h : LastAt w b n F) {p c : Nat} (hp : p < 8) (hc : c < 8) : ∃ v : Int, (Instr.lookup 42 (.map (some b)) (.agg #[.int .i64 p, .int .i64 c]) true).run Try.prog w = .ok (.tuple #[.int .i64 v, .bool (F p c).isSome]) w ∧ ∀ x, F p c = some x → v = x := by
  obtain ⟨D, h1, h2⟩ := h
  have hz : (zeroValue 3).run Try.prog w = .ok (.int .i64 0) w := by simp [go_sem, Try.underlying3]
  obtain ⟨v, ps, hr, hv⟩ := h1.look_ok or_keyed Try.underlying42 hz (plainElem_int Try.underlying3 (int_wf (by decide) (by decide))) (orK_of hp hc)
  obtain ⟨x, rfl, hx, _⟩ := plainElem_int_inv Try.underlying3 hv
  obtain ⟨g1, g2⟩ := h2 p hp c hc
  rw [g1] at hr
  refine ⟨x, hr, fun y hy => ?_⟩
  have e1 := g2 y hy
  have e2 := congrArg Prod.fst hx
  dsimp only at e2
  rw [e1] at e2
  cases e2
  rfl
theorem LastAt.store (h : LastAt w b n F) (hn : n < maxLen) {p c : Nat} (hp : p < 8) (hc : c < 8) {x : Int} (x0 : 0 ≤ x) (x1 : x < 1000) : ∃ w', (Instr.mapUpdate 42 (.map (some b)) (.agg #[.int .i64 p, .int .i64 c]) (.int .i64 x)).run Try.prog w = .ok () w' ∧ LastAt w' b (n + 1) (upd2 F p c (some x)) ∧ Upd (fun k => k = b) w w' := by
  obtain ⟨D, h1, h2⟩ := h
  obtain ⟨w', hr, ho, ht⟩ := h1.store or_keyed Try.underlying42 hn (orK_of hp hc) (plainElem_int Try.underlying3 (int_wf x0 x1))
  refine ⟨w', hr, ⟨_, ho, fun p' hp' c' hc' => ?_⟩, ?_⟩
  · by_cases e : p' = p ∧ c' = c
    · rw [e.1, e.2, upd2_same]
      refine ⟨Maps.has_put_same h1.isMap (or_keyed.key (orK_of hp hc)) _, fun v hv => ?_⟩
      cases hv
      exact Maps.atKey_put_same h1.isMap (or_keyed.key (orK_of hp hc)) _ _
    · rw [upd2_ne _ _ e, Maps.has_put_other (orK_ne hp hc hp' hc' e)]
      refine ⟨(h2 p' hp' c' hc').1, fun v hv => ?_⟩
      rw [Maps.atKey_put_other (orK_ne hp hc hp' hc' e)]
      exact (h2 p' hp' c' hc').2 v hv
  · obtain ⟨es, clock, es', clock', hb, rfl⟩ := ht
    refine ⟨rfl, rfl, rfl, by simp [Go.ChangeMaps.setBlock], fun i hi hne => ?_⟩
    exact Go.ChangeMaps.heap_setBlock_other hb _ hne
end
/-- Behind k moves: what the map holds lies before all that still leaves or stays. -/
def OrSt (W : World) (P K i mb n0 : Nat) (mv : List Mv) (fr : List Fr) (Q : Nat → Nat → List Fr) (k : Nat) (w : World) : Prop :=
  ∃ F n, n ≤ n0 + k ∧ LastAt w mb n F ∧ Upd (fun k => k = mb) W w ∧ ∀ p < P, ∀ c < K, List.Pairwise (fun a b : Fr => a.id < b.id) (outF p c (mv.drop k) (fr.drop k) ++ Q p c) ∧
    ∀ b, F p c = some b → b < (i : Int) ∧ ∀ f ∈ outF p c (mv.drop k) (fr.drop k) ++ Q p c, b < f.id
def OrRel (W : World) (P K i mb n0 : Nat) (mv : List Mv) (fr : List Fr) (Q : Nat → Nat → List Fr) (n : Nat) (iv : Value) (w : World) : Prop := ∃ k ≤ n, iv = .int .i64 k ∧ OrSt W P K i mb n0 mv fr Q k w
theorem ord_drop {α : Type} {l : List α} {k : Nat} {x : α} (h : l[k]? = some x) : l.drop k = x :: l.drop (k + 1) := by
  obtain ⟨h1, e⟩ := List.getElem?_eq_some_iff.1 h
  rw [List.drop_eq_getElem_cons h1, e]
section
variable {W w : World} {P K i mb n0 n k : Nat} {mv : List Mv} {fr : List Fr} {Q : Nat → Nat → List Fr} {F : Nat → Nat → Option Int}
theorem or_before {q c : Nat} {o : Int} {f : Fr} (hm : mv[k]? = some ⟨q, c, o⟩) (hf : fr[k]? = some f) (hq : q < P) (hc : c < K)
    (h : ∀ p < P, ∀ c < K, List.Pairwise (fun a b : Fr => a.id < b.id) (outF p c (mv.drop k) (fr.drop k) ++ Q p c) ∧ ∀ b, F p c = some b → b < (i : Int) ∧ ∀ f ∈ outF p c (mv.drop k) (fr.drop k) ++ Q p c, b < f.id) :
    ∀ b, F q c = some b → b < f.id := by
  intro b hb
  refine ((h q hq c hc).2 b hb).2 f ?_
  rw [ord_drop hm, ord_drop hf]
  unfold outF
  rw [if_pos ⟨rfl, rfl⟩]
  exact List.mem_cons_self
theorem or_step {q c : Nat} {o : Int} {f : Fr} (hm : mv[k]? = some ⟨q, c, o⟩) (hf : fr[k]? = some f) (hq : q < P) (hc : c < K) (hi : f.id < (i : Int))
    (h : ∀ p < P, ∀ c < K, List.Pairwise (fun a b : Fr => a.id < b.id) (outF p c (mv.drop k) (fr.drop k) ++ Q p c) ∧ ∀ b, F p c = some b → b < (i : Int) ∧ ∀ f ∈ outF p c (mv.drop k) (fr.drop k) ++ Q p c, b < f.id) :
    ∀ p < P, ∀ c' < K, List.Pairwise (fun a b : Fr => a.id < b.id) (outF p c' (mv.drop (k + 1)) (fr.drop (k + 1)) ++ Q p c') ∧ ∀ b, upd2 F q c (some f.id) p c' = some b → b < (i : Int) ∧ ∀ f ∈ outF p c' (mv.drop (k + 1)) (fr.drop (k + 1)) ++ Q p c', b < f.id := by
  intro p hp c' hc'
  have h0 := h p hp c' hc'
  rw [ord_drop hm, ord_drop hf] at h0
  unfold outF at h0
  by_cases e : p = q ∧ c' = c
  · obtain ⟨rfl, rfl⟩ := e
    rw [if_pos ⟨rfl, rfl⟩, List.cons_append, List.pairwise_cons] at h0
    refine ⟨h0.1.2, fun b hb => ?_⟩
    rw [upd2_same] at hb
    cases hb
    exact ⟨hi, h0.1.1⟩
  · rw [if_neg (fun g => e ⟨by have h1 : (q : Int) = (p : Int) := g.1; omega, by have h1 : (c : Int) = (c' : Int) := g.2; omega⟩)] at h0
    rw [upd2_ne _ _ e]
    exact h0
end
theorem own_base {w : World} {base : Nat} {e : TypeId} {size : Nat} {v : Value} {n : Nat} {xs : List Value} (h : w.ownsRow base e size v n xs) {g : Nat} (hg : v.ownBlock = some g) : base ≤ g := by
  obtain ⟨h1, h | ⟨g', cap, cur, rfl, hb, -⟩⟩ := h
  · rw [h.1] at hg
    simp [Value.ownBlock] at hg
  · simp [Value.ownBlock] at hg
    omega
set_option maxHeartbeats 8000000 in
set_option maxRecDepth 100000 in
theorem ord1_any (W : World) (P K B2 n i n0 : Nat) (bv tv : Value) (kl mb : Nat) (F0 : Nat → Nat → Option Int) (mv : List Mv) (fr : List Fr) (Q : Nat → Nat → List Fr) (ma fa : Option Addr) (mc fc : Nat)
    (hC : Blk W kl 42 [.map (some mb)]) (hne : kl ≠ mb) (hL : LastAt W mb n0 F0) (hn0 : n0 ≤ 5000 * i) (hi : i < 60) (hP : P ≤ 8) (hK : K ≤ 8) (hn : mv.length = n) (hf : fr.length = n) (hn5 : n ≤ 5000) (hB : mb < B2)
    (hM : W.ownsRow B2 34 3 (.slice ma n mc) n (flC mvC mv)) (hF : W.ownsRow B2 39 6 (.slice fa n fc) n (flC frC fr))
    (hA : ∀ (j : Nat) m f, mv[j]? = some m → fr[j]? = some f → ∃ p c, m.p = ((p : Nat) : Int) ∧ m.c = ((c : Nat) : Int) ∧ p < P ∧ c < K ∧ 0 ≤ f.id ∧ f.id < (i : Int))
    (hS : ∀ p < P, ∀ c < K, List.Pairwise (fun a b : Fr => a.id < b.id) (outF p c mv fr ++ Q p c) ∧ ∀ b, F0 p c = some b → b < (i : Int) ∧ ∀ f ∈ outF p c mv fr ++ Q p c, b < f.id) :
    Calls Try.prog 14 #[bv, .slice ma n mc, .slice fa n fc, tv, .pointer (some ⟨kl, 0, none⟩)] W fun e w' => e = .returned (.bool true) ∧ OrSt W P K i mb n0 mv fr Q n w' := by
  have CC := Lib.hid hC; have MM := Lib.hid hM; have FF := Lib.hid hF; have AA := Lib.hid hA; have HB := Lib.hid hB; have HNE := Lib.hid hne
  have HN := Lib.hid hn; have HF := Lib.hid hf
  have HN0 := Lib.hid hn0; have HI := Lib.hid hi; have HP := Lib.hid hP; have HK := Lib.hid hK
  have R0 : Hid (OrRel W P K i mb n0 mv fr Q n (.int .i64 0) W) := Lib.hid ⟨0, Nat.zero_le _, rfl, F0, n0, Nat.le_refl _, hL, Upd.refl _ _, hS⟩
  clear hC hM hF hA hS hL hn hf hn0 hi hne hB hP hK
  go_enter Try.func14, Try.ntmps14
  go_wp2_with fail
  go_loopw [17] (fun iv wx => OrRel W P K i mb n0 mv fr Q n iv wx) (fun iv _ => n - (intOf iv).toNat)
  case atStart => exact R0.out
  case round =>
    clear R0
    obtain ⟨k, hk, rfl, F, nn, hnn, hla, hu, hst⟩ := hrel
    have LA := Lib.hid hla; have UU := Lib.hid hu; have ST := Lib.hid hst; have HNN := Lib.hid hnn
    clear hla hu hst hnn
    by_cases hlt : k < n
    · have hki : (k : Int) < (n : Int) := by omega
      obtain ⟨mm, hmm⟩ : ∃ mm, mv[k]? = some mm := ⟨mv[k]'(by rw [HN.out]; exact hlt), by simp [show k < mv.length by rw [HN.out]; exact hlt]⟩
      obtain ⟨ff, hff⟩ : ∃ ff, fr[k]? = some ff := ⟨fr[k]'(by rw [HF.out]; exact hlt), by simp [show k < fr.length by rw [HF.out]; exact hlt]⟩
      obtain ⟨q, c, eq, ec, hqP, hcK, hf0, hfi⟩ := AA.out k mm ff hmm hff
      obtain ⟨mp, mcl, mo⟩ := mm
      obtain rfl : mp = (q : Int) := eq
      obtain rfl : mcl = (c : Int) := ec
      obtain ⟨fid, ffr, fds, fcl, fep⟩ := ff
      have hf0 : 0 ≤ fid := hf0
      have hfi : fid < (i : Int) := hfi
      have BF := Lib.hid (or_before hmm hff hqP hcK ST.out)
      have SN := Lib.hid (or_step hmm hff hqP hcK hfi ST.out)
      have hq8 : q < 8 := Nat.lt_of_lt_of_le hqP HP.out
      have hc8 : c < 8 := Nat.lt_of_lt_of_le hcK HK.out
      obtain ⟨wq, hwq⟩ : ∃ wq, wq = (wr.alloc (.cells #[.int .i64 q, .int .i64 c, .int .i64 mo] 34)).alloc (.cells #[.int .i64 q, .int .i64 c] 43) := ⟨_, rfl⟩
      obtain ⟨ab, hab⟩ : ∃ ab, ab = wr.heap.size + 1 := ⟨_, rfl⟩
      have BQ : Hid (Below wr.heap.size wr wq) := Lib.hid (by rw [hwq]; exact ((Below.refl _ _).alloc (Nat.le_refl _) _).alloc (by simp) _)
      have AB : Hid (Blk wq ab 43 [.int .i64 q, .int .i64 c]) := Lib.hid (by
        have := Blk.new (wr.alloc (.cells #[.int .i64 q, .int .i64 c, .int .i64 mo] 34)) 43 [.int .i64 q, .int .i64 c]
        rw [World.size_alloc] at this
        rw [hwq, hab]
        exact this)
      have hrow := own_upd MM.out UU.out (fun g hg => by have h1 := own_base MM.out hg; have h2 := HB.out; show ¬ g = mb; omega)
      obtain ⟨ok1, m0⟩ := ownC_cell mvC_len (by decide) hrow hmm (k := 0) (by decide) rfl
      obtain ⟨_, m1⟩ := ownC_cell mvC_len (by decide) hrow hmm (k := 1) (by decide) rfl
      obtain ⟨_, m2⟩ := ownC_cell mvC_len (by decide) hrow hmm (k := 2) (by decide) rfl
      rw [Nat.add_zero] at m0
      have C0 : wq.cell? ⟨kl, 0, none⟩ = some (.map (some mb)) := ((CC.out.upd UU.out HNE.out).upd (Upd.of_below (S := fun _ => False) BQ.out) id).cell (i := 0) rfl
      have LQ := Lib.hid (LA.out.below BQ.out)
      have UQ : Hid (Upd (fun k => k = mb) W wq) := Lib.hid (UU.out.then (Upd.of_below (S := fun _ => False) BQ.out) fun _ _ h => h.elim)
      have hfr := own_upd FF.out UQ.out (fun g hg => by have h1 := own_base FF.out hg; have h2 := HB.out; show ¬ g = mb; omega)
      obtain ⟨okf, f0⟩ := ownC_cell frC_len (by decide) hfr hff (k := 0) (by decide) rfl
      rw [Nat.add_zero] at f0
      have a0 : wq.cell? ⟨ab, 0, none⟩ = some (.int .i64 q) := AB.out.cell (i := 0) rfl
      have a1 : wq.cell? ⟨ab, 1, none⟩ = some (.int .i64 c) := AB.out.cell (i := 1) rfl
      obtain ⟨v, hrun, hv⟩ := LQ.out.look hq8 hc8
      obtain ⟨w', hst, hl', hu'⟩ := (show LastAt wq.drew mb nn F from LQ.out.below (Qt.refl wq).drew.bel).store (by have h1 := HNN.out; have h2 := HN0.out; have h3 := HI.out; unfold maxLen; omega) hq8 hc8 (x := fid) hf0 (by have h3 := HI.out; omega)
      have NX : Hid (OrSt W P K i mb n0 mv fr Q (k + 1) w') := Lib.hid ⟨_, nn + 1, by have := HNN.out; omega, hl', (UQ.out.drew).then hu' (fun _ _ h => h), SN.out⟩
      obtain ⟨sb, hsb⟩ : ∃ sb, sb = (F q c).isSome := ⟨_, rfl⟩
      have HV : Hid (sb = true → v < fid) := Lib.hid (fun h => by
        rw [hsb] at h
        obtain ⟨x, hx⟩ := Option.isSome_iff_exists.1 h
        rw [hv x hx]
        exact BF.out x hx)
      rw [← hsb] at hrun
      clear hsb hv hl' hu' hrow hmm hff hfr
      go_upto_region 5 with (fail)
      rw [← hwq, ← hab]
      clear hwq hab m0 m1 m2 ok1
      cases sb
      case true =>
        have hvl := HV.out rfl
        clear HV
        go_upto_region 8 with (fail)
        refine wp_region_lastH (fun wx => wx = wq.drew) 7 8 (by kernel_rfl) (by kernel_rfl) rfl rfl ?_ (fun hHeld => ?_)
        · (rfl)
        simp only [nopFor, List.set_cons_succ, List.set_cons_zero]
        refine wpAnyH_takeL (i := 0) (v := ?_) rfl (by kernel_rfl) (by kernel_rfl) (by kernel_rfl) (fun _ _ _ h => h) rfl ?_ hHeld ?_
        rotate_left
        · intro w hSw
          try dsimp only at hSw
          go_simp
          all_goals with_reducible rfl
        try simp only [Act.put, List.setIfInBounds_toArray, List.set_cons_zero, List.set_cons_succ]
        refine wpAnyH_takeL (i := 1) (v := ?_) rfl (by kernel_rfl) (by kernel_rfl) (by kernel_rfl) (fun _ _ _ h => h) rfl ?_ hHeld ?_
        rotate_left
        · intro w hSw
          try dsimp only at hSw
          go_simp
          all_goals with_reducible rfl
        try simp only [Act.put, List.setIfInBounds_toArray, List.set_cons_zero, List.set_cons_succ]
        refine wpAnyH_takeL (i := 2) (v := ?_) rfl (by kernel_rfl) (by kernel_rfl) (by kernel_rfl) (fun _ _ _ h => h) rfl ?_ hHeld ?_
        rotate_left
        · intro w hSw
          try dsimp only at hSw
          go_simp
          all_goals with_reducible rfl
        try simp only [Act.put, List.setIfInBounds_toArray, List.set_cons_zero, List.set_cons_succ]
        refine wpAnyH_takeL (i := 3) (v := ?_) rfl (by kernel_rfl) (by kernel_rfl) (by kernel_rfl) (fun _ _ _ h => h) rfl ?_ hHeld ?_
        rotate_left
        · intro w hSw
          try dsimp only at hSw
          go_simp
          all_goals with_reducible rfl
        try simp only [Act.put, List.setIfInBounds_toArray, List.set_cons_zero, List.set_cons_succ]
        refine wpAnyH_takeL (i := 4) (v := ?_) rfl (by kernel_rfl) (by kernel_rfl) (by kernel_rfl) (fun _ _ _ h => h) rfl ?_ hHeld ?_
        rotate_left
        · intro w hSw
          try dsimp only at hSw
          go_simp
          all_goals with_reducible rfl
        try simp only [Act.put, List.setIfInBounds_toArray, List.set_cons_zero, List.set_cons_succ]
        refine wpAnyH_takeL (i := 5) (v := ?_) rfl (by kernel_rfl) (by kernel_rfl) (by kernel_rfl) (fun _ _ _ h => h) rfl ?_ hHeld ?_
        rotate_left
        · intro w hSw
          try dsimp only at hSw
          go_simp
          all_goals with_reducible rfl
        try simp only [Act.put, List.setIfInBounds_toArray, List.set_cons_zero, List.set_cons_succ]
        refine wpAnyH_takeL (i := 6) (v := ?_) rfl (by kernel_rfl) (by kernel_rfl) (by kernel_rfl) (fun _ _ _ h => h) rfl ?_ hHeld ?_
        rotate_left
        · intro w hSw
          try dsimp only at hSw
          go_simp
          all_goals with_reducible rfl
        try simp only [Act.put, List.setIfInBounds_toArray, List.set_cons_zero, List.set_cons_succ]
        refine wpAnyH_takeL (i := 7) (v := ?_) rfl (by kernel_rfl) (by kernel_rfl) (by kernel_rfl) (fun _ _ _ h => h) rfl ?_ hHeld ?_
        rotate_left
        · intro w hSw
          try dsimp only at hSw
          go_simp
          all_goals with_reducible rfl
        try simp only [Act.put, List.setIfInBounds_toArray, List.set_cons_zero, List.set_cons_succ]
        refine wpAnyH_done (by kernel_rfl) ?_ _
        rw [LastQ_normal]
        clear hHeld
        go_wp2_with fail
        go_roundw
        case rel => exact ⟨k + 1, by omega, by go_num, NX.out⟩
        case measure => simp [intOf]; omega
      case false =>
        clear HV
        go_upto_region 8 with (fail)
        refine wp_region_lastH (fun wx => wx = wq.drew) 7 8 (by kernel_rfl) (by kernel_rfl) rfl rfl ?_ (fun hHeld => ?_)
        · (rfl)
        simp only [nopFor, List.set_cons_succ, List.set_cons_zero]
        refine wpAnyH_takeL (i := 0) (v := ?_) rfl (by kernel_rfl) (by kernel_rfl) (by kernel_rfl) (fun _ _ _ h => h) rfl ?_ hHeld ?_
        rotate_left
        · intro w hSw
          try dsimp only at hSw
          go_simp
          all_goals with_reducible rfl
        try simp only [Act.put, List.setIfInBounds_toArray, List.set_cons_zero, List.set_cons_succ]
        refine wpAnyH_takeL (i := 1) (v := ?_) rfl (by kernel_rfl) (by kernel_rfl) (by kernel_rfl) (fun _ _ _ h => h) rfl ?_ hHeld ?_
        rotate_left
        · intro w hSw
          try dsimp only at hSw
          go_simp
          all_goals with_reducible rfl
        try simp only [Act.put, List.setIfInBounds_toArray, List.set_cons_zero, List.set_cons_succ]
        refine wpAnyH_takeL (i := 2) (v := ?_) rfl (by kernel_rfl) (by kernel_rfl) (by kernel_rfl) (fun _ _ _ h => h) rfl ?_ hHeld ?_
        rotate_left
        · intro w hSw
          try dsimp only at hSw
          go_simp
          all_goals with_reducible rfl
        try simp only [Act.put, List.setIfInBounds_toArray, List.set_cons_zero, List.set_cons_succ]
        refine wpAnyH_takeL (i := 3) (v := ?_) rfl (by kernel_rfl) (by kernel_rfl) (by kernel_rfl) (fun _ _ _ h => h) rfl ?_ hHeld ?_
        rotate_left
        · intro w hSw
          try dsimp only at hSw
          go_simp
          all_goals with_reducible rfl
        try simp only [Act.put, List.setIfInBounds_toArray, List.set_cons_zero, List.set_cons_succ]
        refine wpAnyH_takeL (i := 4) (v := ?_) rfl (by kernel_rfl) (by kernel_rfl) (by kernel_rfl) (fun _ _ _ h => h) rfl ?_ hHeld ?_
        rotate_left
        · intro w hSw
          try dsimp only at hSw
          go_simp
          all_goals with_reducible rfl
        try simp only [Act.put, List.setIfInBounds_toArray, List.set_cons_zero, List.set_cons_succ]
        refine wpAnyH_takeL (i := 5) (v := ?_) rfl (by kernel_rfl) (by kernel_rfl) (by kernel_rfl) (fun _ _ _ h => h) rfl ?_ hHeld ?_
        rotate_left
        · intro w hSw
          try dsimp only at hSw
          go_simp
          all_goals with_reducible rfl
        try simp only [Act.put, List.setIfInBounds_toArray, List.set_cons_zero, List.set_cons_succ]
        refine wpAnyH_takeL (i := 6) (v := ?_) rfl (by kernel_rfl) (by kernel_rfl) (by kernel_rfl) (fun _ _ _ h => h) rfl ?_ hHeld ?_
        rotate_left
        · intro w hSw
          try dsimp only at hSw
          go_simp
          all_goals with_reducible rfl
        try simp only [Act.put, List.setIfInBounds_toArray, List.set_cons_zero, List.set_cons_succ]
        refine wpAnyH_takeL (i := 7) (v := ?_) rfl (by kernel_rfl) (by kernel_rfl) (by kernel_rfl) (fun _ _ _ h => h) rfl ?_ hHeld ?_
        rotate_left
        · intro w hSw
          try dsimp only at hSw
          go_simp
          all_goals with_reducible rfl
        try simp only [Act.put, List.setIfInBounds_toArray, List.set_cons_zero, List.set_cons_succ]
        refine wpAnyH_done (by kernel_rfl) ?_ _
        rw [LastQ_normal]
        clear hHeld
        go_wp2_with fail
        go_roundw
        case rel => exact ⟨k + 1, by omega, by go_num, NX.out⟩
        case measure => simp [intOf]; omega
    · obtain rfl : k = n := by omega
      go_wp2_with fail
      go_ret
      exact ⟨rfl, F, nn, HNN.out, LA.out, UU.out, ST.out⟩
end Go.Proofs.Ytkooihniieepcaa
