/-
  switchbox: the matching of a Step.
-/
import Derived.Test.YtkooihniieepcaaSwLa
namespace Go.Proofs.Ytkooihniieepcaa
open Go.RowKit
set_option linter.unusedVariables false
theorem St.add {ρ : Type} [DecidableEq ρ] {w w' : World} {base : Nat} {C : ρ → Option Pc} {S : Nat → Prop} (h : St w base C) (r : ρ) (p' : Pc) (hr : C r = none) (u : Upd S w w') (hs : ∀ k, ftC C k → ¬ S k) (hp : p'.at w' base) (hf : ∀ k, p'.foot = some k → w.heap.size ≤ k) : St w' base (setC C r p') := by
  have h1 := h.upd u hs
  refine ⟨fun x p hx => ?_, fun x x' p p2 k h2 h3 h4 h5 => ?_⟩
  · by_cases e : x = r
    · subst e
      rw [setC_same] at hx
      cases hx
      exact hp
    · rw [setC_ne C p' e] at hx
      exact h1.at_ x p hx
  · have key : ∀ y q, y ≠ r → C y = some q → q.foot = some k → p'.foot = some k → False := fun y q hy hq hk hk' => by
      have a1 := (h.lt ⟨y, q, hq, hk⟩).2
      have a2 := hf k hk'
      omega
    by_cases e : x = r
    · by_cases e' : x' = r
      · rw [e, e']
      · subst e
        rw [setC_same] at h2
        cases h2
        rw [setC_ne C p' e'] at h3
        exact (key x' p2 e' h3 h5 h4).elim
    · rw [setC_ne C p' e] at h2
      by_cases e' : x' = r
      · subst e'
        rw [setC_same] at h3
        cases h3
        exact (key x p e h2 h4 h5).elim
      · rw [setC_ne C p' e'] at h3
        exact h.sep x x' p p2 k h2 h3 h4 h5
section
variable {r1 r2 : Nat → Nat → Bool} {n : Nat} {b : Bar.St}
theorem ok_congr (h : ∀ i < n, ∀ k < n, r1 i k = r2 i k) (o : Bar.Ok r1 n b) : Bar.Ok r2 n b :=
  ⟨o.g, o.a, fun i hi => (o.m i hi).imp id fun ⟨k, hk, e, hr⟩ => ⟨k, hk, e, by rw [← h i hi k hk]; exact hr⟩, o.t, o.inj⟩
theorem maxi_congr (h : ∀ i < n, ∀ k < n, r1 i k = r2 i k) (o : Bar.Maxi r1 n b) : Bar.Maxi r2 n b :=
  fun i hi k hk hr => o i hi k hk (by rw [h i hi k hk]; exact hr)
end
section
variable {W w w' w1 w2 : World} {base P K : Nat} {L0 L L' : Loc} {M0 M M' : Md} {x : Bool → Nat → List Int} {l : KL} {s : SS}
/-- The crossbar's pointers have changed. -/
theorem BoxAt.setX (h : BoxAt w base P K L M) {g a : Nat → Nat} (hg : ∀ k < P, g k < P) (ha : ∀ k < P, a k < P) (hb : Go.Proofs.Ytkooihniieepcaa.BarAt w' L.xb P g a) (u : Upd (fun k => k = L.xb) w w') : BxPost w base P K L M L { M with g := g, a := a } w' := by
  have hr : conf P K L M .bar = some (.blk L.xb 95 ((List.range 17).map (barF P M.g M.a))) := rfl
  have hs := h.st.put .bar (.blk L.xb 95 ((List.range 17).map (barF P g a))) u (fun k hk _ => ⟨_, hr, by rw [hk]; rfl⟩) ⟨hb, (h.st.at_ .bar _ hr).2⟩ (fun k hk => .inl ⟨_, hr, hk⟩)
  have hcf := conf_bar P K L M g a
  refine ⟨⟨hs.congr hcf, ⟨h.ok.p1, h.ok.p8, h.ok.k1, h.ok.k8, h.ok.gv, h.ok.gb, h.ok.tk, h.ok.ql, h.ok.qm, h.ok.ptr, hg, ha⟩⟩, u.mono fun k _ hk => ⟨_, _, hr, by rw [hk]; rfl⟩, fun k hk => ?_⟩
  rcases ftC_set (ftC_congr hcf hk) with e | e
  · exact .inl e
  · exact .inl ⟨_, _, hr, e⟩
/-- What a matching gives. -/
def Matched (P : Nat) (rq : Nat → Nat → Bool) (b : Bar.St) : Prop := Bar.Ok rq P b ∧ Bar.Maxi rq P b
theorem SkAt.match_ (h : SkAt W base P K L0 M0 x L l s w) (hm : l.mt = none) {lb : Nat} {rb : Nat → Nat} {q rq : Nat → Nat → Bool} (hq : St w1 w.heap.size (rqC lb rb q P P)) (e : ∀ i < P, ∀ k < P, q i k = rq i k) (hb : Below w.heap.size w w1) :
    Calls Try.prog 42 #[.pointer (some ⟨L.xb, 0, none⟩), .slice (some ⟨lb, 0, none⟩) P P, .int .i64 P] w1 fun e w2 =>
      ∃ b, e = .returned (.tuple #[.slice (some ⟨w1.heap.size, 0, none⟩) P P, .int .i64 0]) ∧ Matched P rq b ∧ SkAt W base P K L0 M0 x L { l with mt := some (w1.heap.size, (List.range P).map (iF b.m)) } ⟨{ s.M with g := b.g, a := b.a }, s.mv, s.fr⟩ w2 := by
  have h1 := h.below hb
  have p1 := h.box_.ok.p1
  have p8 := h.box_.ok.p8
  have hx : L.xb < w.heap.size := Blk.lt (h.box_.st.blk (r := .bar) rfl)
  have hl := rq_req hq
  have hlen : (rqRows rb q P).length = P := by simp [rqRows]
  have hrl : ∀ r ∈ rqRows rb q P, r.xs.length = P := by
    intro r hr
    obtain ⟨i, hi, rfl⟩ := List.mem_map.1 hr
    simp
  have hoff : Off (some ⟨lb, 0, none⟩) (rqRows rb q P) (fun j => j = L.xb) := by
    refine ⟨fun _ e => ?_, fun r hr _ e => ?_⟩
    · have := (hq.lt (k := lb) ⟨none, _, rfl, rfl⟩).1
      have e : lb = L.xb := e
      omega
    · obtain ⟨i, hi, rfl⟩ := List.mem_map.1 hr
      have hi := List.mem_range.1 hi
      have e : rb i = L.xb := e
      have := (rq_at hq hi (k := 0) (by omega)).2.2
      omega
  have hM := match_ok w1 L.xb P P s.M.g s.M.a (some ⟨lb, 0, none⟩) P (rqRows rb q P) h1.box_.barr hl (by unfold maxLen; omega) (fun r hr => by rw [hrl r hr]; unfold maxLen; omega) rq_sq p1 p8 p1 p8 h1.box_.ok.g h1.box_.ok.a hoff
  rw [hlen] at hM
  refine hM.mono ?_
  rintro e2 w2 ⟨rfl, hA, hF, hU⟩
  have hR : ∀ i < P, ∀ k < P, reqF (rqRows rb q P) i k = rq i k := fun i hi k hk => (rq_F hi hk).trans (e i hi k hk)
  have hs := Bar.start_ok (req := reqF (rqRows rb q P)) h1.box_.ok.g h1.box_.ok.a
  have hok := Bar.rounds_ok hs P
  have hmx := Bar.rounds_maxi hs
  generalize Bar.rounds (reqF (rqRows rb q P)) P (Bar.start s.M.g s.M.a) P = b at *
  refine ⟨b, rfl, ⟨ok_congr hR hok, maxi_congr hR hmx⟩, ?_⟩
  have hB := h1.box_.setX hok.g hok.a hA hU
  have hz : ∀ k, ftC (kC P K L.bb x l s) k → ¬ k = L.xb := fun k hk e => h1.ap k ⟨.bar, _, rfl, by rw [e]; rfl⟩ hk
  have hS := h1.lo.add .mt (.blk w1.heap.size 3 ((List.range P).map (iF b.m))) (by show l.mt.map _ = none; rw [hm]; rfl) hU hz ⟨hF, h1.size⟩ (fun k hk => by
    have : w1.heap.size = k := Option.some.inj hk
    omega)
  have ee : ∀ r, setC (kC P K L.bb x l s) .mt (.blk w1.heap.size 3 ((List.range P).map (iF b.m))) r = kC P K L.bb x { l with mt := some (w1.heap.size, (List.range P).map (iF b.m)) } ⟨{ s.M with g := b.g, a := b.a }, s.mv, s.fr⟩ r := fun r => by
    cases r <;> rfl
  refine ⟨h1.bx.trans hB, hS.congr ee, fun k hk hf => ?_, h1.bbe⟩
  have hk1 : boxS P K L s.M k := by
    rcases hB.2.2 k hk with h2 | h2
    · exact h2
    · exfalso
      rcases ftC_set (ftC_congr (conf_bar P K L s.M b.g b.a) hk) with h3 | h3
      · have := (h1.box_.lt h3).2; omega
      · have : L.xb = k := Option.some.inj h3
        have := hb.size
        omega
  rcases ftC_set (ftC_congr ee hf) with h2 | h2
  · exact h1.ap k hk1 h2
  · have e1 : w1.heap.size = k := Option.some.inj h2
    have := (h1.box_.lt hk1).2
    omega
/-- The pointer of an input has changed. -/
theorem BoxAt.setP (h : BoxAt w base P K L M) {i y : Nat} (hi : i < P) (hy : y < K) : BxPost w base P K L M L (ptrM M i y) (w.setCell ⟨L.bb, 26 + i, none⟩ (.int .i64 (y : Int))) := by
  have h8 := h.ok.p8
  have hr : conf P K L M .box = some (.blk L.bb 73 ((List.range 36).map (boxF P K L M.ptr))) := rfl
  have hs := h.st.store (r := .box) (k := L.bb) (T := 73) (i := 26 + i) (v := .int .i64 (y : Int)) hr rfl
  have hcf := conf_ptr P K L M i y (by omega)
  refine ⟨⟨hs.congr hcf, ⟨h.ok.p1, h.ok.p8, h.ok.k1, h.ok.k8, h.ok.gv, h.ok.gb, h.ok.tk, h.ok.ql, h.ok.qm, fun p hp => ?_, h.ok.g, h.ok.a⟩⟩, (Upd.refl _ _).setCell ⟨L.bb, 26 + i, none⟩ _ fun _ => ⟨_, _, hr, rfl⟩, fun k hk => ?_⟩
  · show Bar.upd M.ptr i y p < K
    by_cases e : p = i
    · rw [e, Bar.upd_same]; exact hy
    · rw [Bar.upd_ne _ _ e]; exact h.ok.ptr p hp
  · rcases ftC_set (ftC_congr hcf hk) with e | e
    · exact .inl e
    · exact .inl ⟨_, _, hr, e⟩
theorem SkAt.setP (h : SkAt W base P K L0 M0 x L l s w) {i y : Nat} (hi : i < P) (hy : y < K) : SkAt W base P K L0 M0 x L l ⟨ptrM s.M i y, s.mv, s.fr⟩ (w.setCell ⟨L0.bb, 26 + i, none⟩ (.int .i64 (y : Int))) := by
  rw [← h.bbe]
  exact h.box rfl (h.box_.setP hi hy)
theorem SkAt.take (h : SkAt W base P K L0 M0 x L l s w) {k c : Nat} (hk : k < P) (hc : c < K) :
    Calls Try.prog 44 #[.pointer (some ⟨L.tk k c, 0, none⟩), .int .i64 0] w fun e w' => (∃ n, e = .returned (.int .i64 n)) ∧ SkAt W base P K L0 M0 x L l ⟨takM s.M k c, s.mv, s.fr⟩ w' := by
  refine (tak_ok w base _ _ 0 _ _ (h.box_.taker hk hc) rfl (h.box_.ok.tk k hk c hc) (by simp)).mono ?_
  rintro e w' ⟨rfl, h1, h2⟩
  exact ⟨⟨_, rfl⟩, h.box rfl (h.box_.setT hk hc (tak_tok (h.box_.ok.tk k hk c hc)) h1 h2)⟩
/-- What a round of the second loop reads: in any world of the same state. -/
theorem SkAt.cells (h : SkAt W base P K L0 M0 x L l s w) {i : Nat} (hi : i < P) : w.cell? ⟨l.hb, 0, none⟩ = some (.pointer (some ⟨L0.bb, 0, none⟩)) ∧ w.cell? ⟨L0.bb, 0, none⟩ = some (.int .i64 P) ∧ w.cell? ⟨L0.bb, 1, none⟩ = some (.int .i64 K) ∧ w.cell? ⟨L0.bb, 26 + i, none⟩ = some (.int .i64 (s.M.ptr i)) ∧ w.frozen? ⟨L0.bb, 26 + i, none⟩ = false := by
  have h8 := h.box_.ok.p8
  refine ⟨h.chb, ?_⟩
  rw [← h.bbe]
  exact ⟨h.box_.cP, h.box_.cK, h.box_.cI (by omega), h.box_.hbox.free _⟩
theorem SkAt.cmt (h : SkAt W base P K L0 M0 x L l s w) {b : Nat} {m : Nat → Int} (hm : l.mt = some (b, (List.range P).map (iF m))) {i : Nat} (hi : i < P) : w.cell? ⟨b, i, none⟩ = some (.int .i64 (m i)) := by
  have hr : kC P K L.bb x l s .mt = some (.blk b 3 ((List.range P).map (iF m))) := by
    show l.mt.map _ = _
    rw [hm]
    rfl
  exact (show Fun w b 3 P (iF m) from h.lo.blk (r := .mt) hr).cell hi
theorem KSt.below {hb mb fb : Nat} {tb : Bool → Nat} {tv : Bool → Nat → Value} {mt : Option (Nat × List Value)} (h : KSt W base P K L0 M0 x hb mb fb tb tv mt s w) (q : Below w.heap.size w w') : KSt W base P K L0 M0 x hb mb fb tb tv mt s w' := by
  obtain ⟨L, mvv, frv, h⟩ := h
  exact ⟨L, mvv, frv, h.below q⟩
theorem SkAt.sameM (h : SkAt W base P K L0 M0 x L l s w) : SkAt W base P K L0 M0 x L l s (w.setCell ⟨l.mb, 0, none⟩ l.mvv) := by
  have hr2 : kC P K L.bb x l s .mb = some (.blk l.mb 29 [l.mvv]) := rfl
  have s2 := h.lo.store (r := .mb) (k := l.mb) (T := 29) (l := [l.mvv]) (i := 0) (v := l.mvv) (l' := [l.mvv]) rfl rfl
  have ee : ∀ r, setC (kC P K L.bb x l s) .mb (.blk l.mb 29 [l.mvv]) r = kC P K L.bb x l s r := fun r => by cases r <;> rfl
  exact h.loc rfl ((Upd.refl (fun k => k = l.mb) w).setCell ⟨l.mb, 0, none⟩ l.mvv fun _ => rfl) (fun k hk => .inl ⟨_, _, hr2, by rw [hk]; rfl⟩) (s2.congr ee) fun k hk => .inl hk
theorem SkAt.sameF (h : SkAt W base P K L0 M0 x L l s w) : SkAt W base P K L0 M0 x L l s (w.setCell ⟨l.fb, 0, none⟩ l.frv) := by
  have hr2 : kC P K L.bb x l s .fb = some (.blk l.fb 30 [l.frv]) := rfl
  have s2 := h.lo.store (r := .fb) (k := l.fb) (T := 30) (l := [l.frv]) (i := 0) (v := l.frv) (l' := [l.frv]) rfl rfl
  have ee : ∀ r, setC (kC P K L.bb x l s) .fb (.blk l.fb 30 [l.frv]) r = kC P K L.bb x l s r := fun r => by cases r <;> rfl
  exact h.loc rfl ((Upd.refl (fun k => k = l.fb) w).setCell ⟨l.fb, 0, none⟩ l.frv fun _ => rfl) (fun k hk => .inl ⟨_, _, hr2, by rw [hk]; rfl⟩) (s2.congr ee) fun k hk => .inl hk
def CnRel (K : Nat) (o : Nat → Nat → Int) (i k : Nat) (s : SS) (KS : SS → World → Prop) (iv : Value) (w : World) : Prop :=
  ∃ n ≤ K, iv = .int .i64 n ∧ KS s w ∧ ∀ j < n, rdyB s.M o i k ((s.M.ptr i + j) % K) = false
end
end Go.Proofs.Ytkooihniieepcaa
