/-
  switchbox: Raise, Queue.
-/
import Derived.Test.YtkooihniieepcaaSwA
namespace Go.Proofs.Ytkooihniieepcaa
open Go.RowKit
set_option linter.unusedVariables false

theorem ftC_set {ρ : Type} [DecidableEq ρ] {C : ρ → Option Pc} {r : ρ} {p : Pc} {k : Nat} (h : ftC (setC C r p) k) : ftC C k ∨ p.foot = some k := by
  obtain ⟨x, q, h1, h2⟩ := h
  by_cases e : x = r
  · subst e
    rw [setC_same] at h1
    cases h1
    exact .inr h2
  · rw [setC_ne C p e] at h1
    exact .inl ⟨x, q, h1, h2⟩
theorem ftC_congr {ρ : Type} {C C' : ρ → Option Pc} (e : ∀ r, C r = C' r) {k : Nat} (h : ftC C' k) : ftC C k := by
  obtain ⟨x, q, h1, h2⟩ := h
  exact ⟨x, q, by rw [e]; exact h1, h2⟩
/-- The box has changed; what it takes was its own, or is new. -/
def BxPost (w : World) (base P K : Nat) (L : Loc) (M : Md) (L' : Loc) (M' : Md) (w' : World) : Prop :=
  BoxAt w' base P K L' M' ∧ Upd (boxS P K L M) w w' ∧ ∀ k, boxS P K L' M' k → boxS P K L M k ∨ w.heap.size ≤ k
section
variable {w w' : World} {base P K : Nat} {L : Loc} {M : Md}
theorem BxPost.pre {wa : World} {L' : Loc} {M' : Md} (q : Below w.heap.size w wa) (h : BxPost wa base P K L M L' M' w') : BxPost w base P K L M L' M' w' :=
  ⟨h.1, Upd.then (Upd.of_below q) h.2.1 (fun _ _ h => h), fun k hk => (h.2.2 k hk).imp id (fun e => Nat.le_trans q.size e)⟩
theorem BxPost.post {w1 : World} {L' : Loc} {M' : Md} (h : BxPost w base P K L M L' M' w1) (q : Below w1.heap.size w1 w') : BxPost w base P K L M L' M' w' :=
  ⟨h.1.below q, Upd.then h.2.1 (Upd.of_below (S := fun _ => False) q) (fun _ _ h => h.elim), h.2.2⟩
theorem BxPost.trans {w1 : World} {L1 L2 : Loc} {M1 M2 : Md} (h : BxPost w base P K L M L1 M1 w1) (h2 : BxPost w1 base P K L1 M1 L2 M2 w') : BxPost w base P K L M L2 M2 w' :=
  ⟨h2.1, Upd.then h.2.1 h2.2.1 (fun k hk h3 => (h.2.2 k h3).elim id (fun e => absurd hk (by omega))), fun k hk => (h2.2.2 k hk).elim (fun h3 => h.2.2 k h3) (fun e => .inr (Nat.le_trans h.2.1.size e))⟩
theorem BxPost.upd {w1 : World} {L' : Loc} {M' : Md} {S : Nat → Prop} (h : BxPost w base P K L M L' M' w1) (u : Upd S w1 w') (hs : ∀ k, S k → w.heap.size ≤ k ∧ ¬ boxS P K L' M' k) : BxPost w base P K L M L' M' w' :=
  ⟨h.1.upd u (fun k hk h2 => (hs k h2).2 hk), Upd.then h.2.1 u (fun k hk h2 => absurd hk (by have := (hs k h2).1; omega)), h.2.2⟩
theorem BxPost.refl (h : BoxAt w base P K L M) : BxPost w base P K L M L M w := ⟨h, Upd.of_below (Below.refl _ _), fun k hk => .inl hk⟩
/-- One taker's counters have changed. -/
theorem BoxAt.setT (h : BoxAt w base P K L M) {p c : Nat} (hp : p < P) (hc : c < K) {x : I2} (hx : TOk x) (ht : TAt w' base (L.tk p c) (L.tc p c) [x]) (u : Upd (fun k => k = L.tc p c) w w') : BxPost w base P K L M L { M with tk := upd2 M.tk p c x } w' := by
  have hr : conf P K L M (.tc p c) = some (.blk (L.tc p c) 110 (cs2 [M.tk p c])) := if_pos ⟨hp, hc⟩
  have hs := h.st.put (.tc p c) (.blk (L.tc p c) 110 (cs2 [x])) u (fun k hk _ => ⟨_, hr, by rw [hk]; rfl⟩) ⟨ht.hc, ht.b2⟩ (fun k hk => .inl ⟨_, hr, hk⟩)
  have hcf := conf_tc P K L M p c x hp hc
  refine ⟨⟨hs.congr hcf, ⟨h.ok.p1, h.ok.p8, h.ok.k1, h.ok.k8, h.ok.gv, h.ok.gb, fun i hi j hj => ?_, h.ok.ql, h.ok.qm, h.ok.ptr, h.ok.g, h.ok.a⟩⟩, u.mono fun k _ hk => ⟨_, _, hr, by rw [hk]; rfl⟩, fun k hk => ?_⟩
  · show TOk (upd2 M.tk p c x i j)
    by_cases e : i = p ∧ j = c
    · rw [e.1, e.2, upd2_same]; exact hx
    · rw [upd2_ne _ _ e]; exact h.ok.tk i hi j hj
  · rcases ftC_set (ftC_congr hcf hk) with e | e
    · exact .inl e
    · exact .inl ⟨_, _, hr, e⟩
theorem rai_tok {x : I2} (h : TOk x) (n : Int) : TOk (raiX x n) := by
  unfold raiX
  split
  · exact h
  · have := h.h1; have := h.h2; have := h.h3
    refine ⟨h.h1, ?_, ?_⟩
    · show x.a ≤ max x.b n; omega
    · show max x.b n ≤ 1099511627776; omega
theorem tak_tok {x : I2} (h : TOk x) : TOk (takX x) := by
  unfold takX
  split
  · exact h
  · have := h.h1; have := h.h2; have := h.h3
    exact ⟨by show 0 ≤ x.a + 1; omega, by show x.a + 1 ≤ x.b; omega, h.h3⟩
set_option maxHeartbeats 2000000 in
theorem raise_yes (p c : Nat) (n : Int) (h : BoxAt w base P K L M) (hp : p < P) (hc : c < K) : Calls Try.prog 17 #[.pointer (some ⟨L.bb, 0, none⟩), .int .i64 p, .int .i64 c, .int .i64 n] w fun e w' =>
    e = .returned (.int .i64 (raiE (M.tk p c) n)) ∧ BxPost w base P K L M L { M with tk := upd2 M.tk p c (raiX (M.tk p c) n) } w' := by
  have HY := Lib.hid (has_yes p c h hp hc)
  have HL := Lib.hid (rai_ok w base _ _ 0 n _ _ (h.taker hp hc) rfl (h.ok.tk p hp c hc) (by simp))
  have HT : Hid (∀ w', TAt w' base (L.tk p c) (L.tc p c) ([M.tk p c].set 0 (raiX (M.tk p c) n)) → Upd (fun k => k = L.tc p c) w w' → BxPost w base P K L M L { M with tk := upd2 M.tk p c (raiX (M.tk p c) n) } w') := fun w' h1 h2 => h.setT hp hc (rai_tok (h.ok.tk p hp c hc) n) h1 h2
  obtain ⟨g, m, q0, q1⟩ := h.wT hp hc
  have h8 := h.ok.p8
  have p0 : (0 : Int) ≤ (p : Int) := by omega
  have p1 : (p : Int) < 8 := by omega
  have p2 : (0 : Int) ≤ (c : Int) := by omega
  have p3 : (c : Int) < (K : Int) := by omega
  clear h
  generalize raiE (M.tk p c) n = er at *
  go_enter Try.func17, Try.ntmps17
  go_wp2_with fail
  refine HY.out.mono ?_
  rintro e w1 ⟨rfl, rfl⟩
  go_wp2_with fail
  refine HL.out.mono ?_
  rintro e w1 ⟨rfl, h1, h2⟩
  have B := Lib.hid (HT.out _ h1 h2)
  clear h1 h2
  go_wp2_with fail
  go_ret
  exact ⟨rfl, B.out⟩
set_option maxHeartbeats 2000000 in
theorem raise_no (p c n : Int) (h : BoxAt w base P K L M) (hn : ¬ (0 ≤ p ∧ p < P ∧ 0 ≤ c ∧ c < K)) : Calls Try.prog 17 #[.pointer (some ⟨L.bb, 0, none⟩), .int .i64 p, .int .i64 c, .int .i64 n] w fun e w' => e = .returned (.int .i64 2) ∧ w = w' := by
  have HN := Lib.hid (has_no p c h hn)
  clear h hn
  go_enter Try.func17, Try.ntmps17
  go_wp2_with fail
  refine HN.out.mono ?_
  rintro e w1 ⟨rfl, rfl⟩
  go_wp2_with fail
  go_ret
  exact ⟨rfl, rfl⟩
def QuRel (W : World) (l : List Fr) (v iv : Value) (w : World) : Prop := ∃ k : Nat, k ≤ l.length ∧ iv = .int .i64 k ∧ w.ownsRow W.heap.size 39 6 v k (flC frC (l.take k)) ∧ Below W.heap.size W w
set_option maxHeartbeats 4000000 in
set_option maxRecDepth 100000 in
theorem queue_yes (p c : Nat) (h : BoxAt w base P K L M) (hp : p < P) (hc : c < K) : Calls Try.prog 23 #[.pointer (some ⟨L.bb, 0, none⟩), .int .i64 p, .int .i64 c] w fun e w' =>
    ∃ v, e = .returned v ∧ w'.ownsRow w.heap.size 39 6 v (M.q p c).length (flC frC (M.q p c)) ∧ Below w.heap.size w w' := by
  have HY := Lib.hid (has_yes p c h hp hc)
  have q0 := h.cQ hp
  have q1 := (h.rQ hp).cell hc
  have HO := h.queue hp hc
  obtain ⟨qa, qc, hq, _⟩ := own_shape HO
  rw [hq] at HO q1
  have OO := Lib.hid HO
  have h8 := h.ok.p8
  have hqm := h.ok.qm p hp c hc
  have p0 : (0 : Int) ≤ (p : Int) := by omega
  have p1 : (p : Int) < 8 := by omega
  have p2 : (0 : Int) ≤ (c : Int) := by omega
  have p3 : (c : Int) < (K : Int) := by omega
  obtain ⟨i1, hi, hz0, hz1, hz2⟩ := info_parts Try.infoFr
  have JI := Lib.hid hi; have JZ0 := Lib.hid hz0; have JZ1 := Lib.hid hz1; have JZ2 := Lib.hid hz2
  have O0 : Hid (w.ownsRow w.heap.size 39 6 (.slice none 0 0) 0 (flC frC ((M.q p c).take 0))) := World.ownsRow_nil _ _ _ _
  clear h HO hq hi hz0 hz1 hz2
  generalize M.q p c = l at *
  go_enter Try.func23, Try.ntmps23
  go_wp2_with fail
  refine HY.out.mono ?_
  rintro e w1 ⟨rfl, rfl⟩
  go_wp2_with fail
  go_loopw [7, 29] (fun v iv wr => QuRel w l v iv wr) (fun _ iv _ => l.length - (intOf iv).toNat)
  case atStart => exact ⟨0, Nat.zero_le _, rfl, O0.out, Below.refl _ _⟩
  case round =>
    clear O0
    obtain ⟨k, hk, rfl, hO, hB⟩ := hrel
    have OV := Lib.hid hO; have BB := Lib.hid hB
    obtain ⟨va, vc, rfl, _⟩ := own_shape hO
    clear hO hB
    by_cases hlt : k < l.length
    · obtain ⟨f, hf⟩ : ∃ f, l[k]? = some f := ⟨l[k], by simp [hlt]⟩
      have OQ := own_upd OO.out (Upd.of_below (S := fun _ => False) BB.out) (fun _ _ => id)
      obtain ⟨oka, d0⟩ := ownC_cell frC_len (by decide) OQ hf (k := 0) (by decide) rfl
      obtain ⟨_, d1⟩ := ownC_cell frC_len (by decide) OQ hf (k := 1) (by decide) rfl
      obtain ⟨_, d2⟩ := ownC_cell frC_len (by decide) OQ hf (k := 2) (by decide) rfl
      obtain ⟨_, d3⟩ := ownC_cell frC_len (by decide) OQ hf (k := 3) (by decide) rfl
      obtain ⟨_, d4⟩ := ownC_cell frC_len (by decide) OQ hf (k := 4) (by decide) rfl
      obtain ⟨_, d5⟩ := ownC_cell frC_len (by decide) OQ hf (k := 5) (by decide) rfl
      rw [Nat.add_zero] at d0
      have hki : (k : Int) < (l.length : Int) := by omega
      have hbs := BB.out.size
      have HT : Hid (flC frC (l.take k) ++ frC f = flC frC (l.take (k + 1))) := by
        show _ = _
        rw [List.take_add_one, hf, flC_append]
        show _ = _ ++ flC frC [f]
        rw [flC_one]
      have CP := Lib.hid (fun w => copied_any f w)
      unfold frV at CP
      clear OQ hf
      go_wp2_with fail
      refine (CP.out _).mono ?_
      rintro e w3 ⟨rfl, hb⟩
      have B3 : Below wr.heap.size wr w3 := ((Below.refl _ _).alloc (Nat.le_refl _) _).trans (hb.mono (by simp))
      have hw3 := B3.size
      have OV3 := Lib.hid (own_upd (own_upd OV.out (Upd.of_below (S := fun _ => False) B3) (fun _ _ => id)) (Upd.of_below (S := fun _ => False) ((Below.refl _ w3).alloc (Nat.le_refl _) (.cells #[.int .i64 f.id, .int .i64 f.frm, .int .i64 f.dst, .int .i64 f.cls, .int .i64 f.ep, .slice none 0 0] 39))) (fun _ _ => id))
      have NB : Hid (Blk (w3.alloc (.cells #[.int .i64 f.id, .int .i64 f.frm, .int .i64 f.dst, .int .i64 f.cls, .int .i64 f.ep, .slice none 0 0] 39)) w3.heap.size 39 (frC f)) := Blk.new w3 _ [.int .i64 f.id, .int .i64 f.frm, .int .i64 f.dst, .int .i64 f.cls, .int .i64 f.ep, .slice none 0 0]
      have BF := Lib.hid (BB.out.trans (B3.mono hbs))
      clear hb B3 d0 d1 d2 d3 d4 d5 q0 q1
      go_wp2_with (at_builtin; refine wpList_append_cells rfl _ _ 30 rfl w.heap.size 39 i1 _ 6 64 Try.underlying30 JI.out JZ0.out JZ1.out JZ2.out rfl (by decide) (.slice va k vc) k (flC frC (l.take k)) rfl OV3.out (some ⟨w3.heap.size, 0, none⟩) 1 1 (frC f) rfl rfl ?c1 ?c2 ?c3 ?c4 ?c5 ?_)
      case c1 => exact fun j u hj => ⟨rfl, by rw [adr_mk, Nat.zero_add]; exact NB.out.cell hj⟩
      case c2 => exact frC_one f
      case c3 => unfold maxLen; omega
      case c4 => omega
      case c5 => simp; omega
      intro v' w5 g1 g2 g3
      rw [HT.out] at g1
      have O5 := Lib.hid g1
      have B5 : Hid (Below w.heap.size w w5) := Upd.below (BF.out.trans (((Below.refl _ w3).alloc (Nat.le_refl _) _).mono (by omega))) (Upd.of_grownV g2) (by simp; omega) fun j hj => (own_lt OV3.out hj).2
      clear g1 g2 g3 OV3 NB
      go_wp2_with fail
      go_roundw
      case rel => exact ⟨k + 1, by omega, by go_num, O5.out, B5.out⟩
      case measure => simp [intOf]; omega
    · obtain rfl : k = l.length := by omega
      have hO := OV.out
      rw [List.take_length] at hO
      have OF := Lib.hid hO
      clear hO
      go_wp2_with fail
      go_ret
      exact ⟨_, rfl, OF.out, BB.out⟩
end
end Go.Proofs.Ytkooihniieepcaa
