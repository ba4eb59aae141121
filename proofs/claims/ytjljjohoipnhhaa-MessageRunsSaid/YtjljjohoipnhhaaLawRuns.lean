/-
  MessageRuns: the walk.
-/
import Derived.Test.YtjljjohoipnhhaaRefX
namespace Go.Proofs.Ytjljjohoipnhhaa
open Go.RowKit
set_option linter.unusedVariables false

theorem ru_i64 {n : Int} (h : (Lit.int .i64 n).wf = true) : -9223372036854775808 ≤ n ∧ n ≤ 9223372036854775807 := by simpa [Lit.wf, IntKind.min, IntKind.max, IntKind.signed, IntKind.bits] using h
theorem ru_clen (ms : List Msg) (n : Int) : (cancelM ms n).length = ms.length := by unfold cancelM; split <;> simp [dropM_len]
theorem ru_nlen (ms : List Msg) (t m : Int) : (nextM ms t m).length = ms.length := by unfold nextM finOf; rw [sendL_len, dropM_len]
theorem put_noN {ms : List Msg} {room : Int} {data : List Int} {dl : Int} (h : putE ms room data dl ≠ 0) : putN ms room data dl = -1 := by
  unfold putE at h
  unfold putN
  by_cases hb : putBad data dl = true
  · rw [if_pos hb]
  · rw [if_neg hb] at h ⊢
    by_cases hr : room ≤ (openN ms : Int)
    · rw [if_pos hr]
    · rw [if_neg hr] at h; exact absurd rfl h
structure RuM (W : World) (B : Nat) (room : Int) (ms : List Msg) (F D : Nat → Prop) (sv : Value) (ps : List RM) (w : World) : Prop where
  m : BoxM w B B room ms F
  r : RefAt w B D sv ps
  sep : ∀ k, F k → ¬ D k
  bel : Below W.heap.size W w
  hB : W.heap.size ≤ B
  hw : B ≤ w.heap.size
section
variable {W w w' : World} {B cb : Nat} {room : Int} {ms ms' : List Msg} {F F' D : Nat → Prop} {sv v' : Value} {ps ps' : List RM}
theorem RuM.below (h : RuM W B room ms F D sv ps w) (q : Below w.heap.size w w') : RuM W B room ms F D sv ps w' :=
  ⟨h.m.below q, h.r.below q, h.sep, h.bel.trans (q.mono h.bel.size), h.hB, Nat.le_trans h.hw q.size⟩
theorem RuM.box (h : RuM W B room ms F D sv ps w) (hm : BoxM w' B B room ms' F') (u : Upd F w w') (hF : ∀ k, F' k → F k ∨ w.heap.size ≤ k) : RuM W B room ms' F' D sv ps w' := by
  refine ⟨hm, h.r.upd u fun k hk hf => h.sep k hf hk, fun k hk hd => ?_, Upd.below h.bel u h.bel.size fun k hk => Nat.le_trans h.hB (h.m.lt k hk).1, h.hB, Nat.le_trans h.hw u.size⟩
  rcases hF k hk with e | e
  · exact h.sep k e hd
  · have := (h.r.lt k hd).2; omega
theorem RuM.ref (h : RuM W B room ms F D sv ps w) (hr : RefAt w' B (newD w w' D) v' ps') (q : Below w.heap.size w w') : RuM W B room ms F (newD w w' D) v' ps' w' := by
  refine ⟨h.m.below q, hr, fun k hk hd => ?_, h.bel.trans (q.mono h.bel.size), h.hB, Nat.le_trans h.hw q.size⟩
  rcases hd with e | e
  · exact h.sep k hk e
  · have := (h.m.lt k hk).2; omega
/-- With an array of counts. -/
structure RuC (W : World) (B : Nat) (room : Int) (ms : List Msg) (F D : Nat → Prop) (sv : Value) (ps : List RM) (cb : Nat) (st : List Nat) (w : World) : Prop where
  u : RuM W B room ms F D sv ps w
  hc : Blk w cb 45 (cnts st)
  nf : ¬ F cb
  nd : ¬ D cb
  hcb : B ≤ cb
variable {st st' : List Nat}
theorem RuC.below (h : RuC W B room ms F D sv ps cb st w) (q : Below w.heap.size w w') : RuC W B room ms F D sv ps cb st w' := ⟨h.u.below q, h.hc.upd (Upd.of_below (S := fun _ => False) q) id, h.nf, h.nd, h.hcb⟩
theorem RuC.set (h : RuC W B room ms F D sv ps cb st w) {i : Nat} {v : Value} (he : (cnts st).set i v = cnts st') : RuC W B room ms F D sv ps cb st' (w.setCell ⟨cb, i, none⟩ v) := by
  have u := (Upd.refl (fun j => j = cb) w).setCell ⟨cb, i, none⟩ v (fun _ => rfl)
  refine ⟨⟨h.u.m.upd u fun k hk e => h.nf (by rw [← e]; exact hk), h.u.r.upd u fun k hk e => h.nd (by rw [← e]; exact hk), h.u.sep, Upd.below h.u.bel u h.u.bel.size (fun k hk => by rw [hk]; exact Nat.le_trans h.u.hB h.hcb), h.u.hB, by simpa using h.u.hw⟩, ?_, h.nf, h.nd, h.hcb⟩
  rw [← he]
  exact h.hc.set i v
theorem RuC.s (h : RuC W B room ms F D sv ps cb st w) : w.cell? ⟨cb, 0, none⟩ = some (.int .i64 (cnt st 0)) ∧ w.cell? ⟨cb, 1, none⟩ = some (.int .i64 (cnt st 1)) ∧ w.cell? ⟨cb, 2, none⟩ = some (.int .i64 (cnt st 2)) ∧ w.cell? ⟨cb, 3, none⟩ = some (.int .i64 (cnt st 3)) ∧ w.cell? ⟨cb, 4, none⟩ = some (.int .i64 (cnt st 4)) ∧ w.cell? ⟨cb, 5, none⟩ = some (.int .i64 (cnt st 5)) ∧ RuC W B room ms F D sv ps cb st w :=
  ⟨h.hc.cell rfl, h.hc.cell rfl, h.hc.cell rfl, h.hc.cell rfl, h.hc.cell rfl, h.hc.cell rfl, h⟩
end
theorem cnts_add (l : List Nat) (s : Nat) (h : s ≤ 5) : (cnts l).set s (.int .i64 ((cnt l s : Int) + 1)) = cnts (l ++ [s]) := by
  have e : ∀ j, cnt (l ++ [s]) j = cnt l j + (if s = j then 1 else 0) := fun j => by
    rw [cnt_append]
    congr 1
    unfold cnt
    by_cases h : s = j <;> simp [h]
  unfold cnts
  rw [e 0, e 1, e 2, e 3, e 4, e 5]
  rcases (show s = 0 ∨ s = 1 ∨ s = 2 ∨ s = 3 ∨ s = 4 ∨ s = 5 by omega) with rfl | rfl | rfl | rfl | rfl | rfl <;> simp
theorem eqArr6 (c : Nat → Nat) (w : World) : (Op.equalIn 10000 45 (.agg #[.int .i64 (c 0), .int .i64 (c 1), .int .i64 (c 2), .int .i64 (c 3), .int .i64 (c 4), .int .i64 (c 5)]) (.agg #[.int .i64 (c 0), .int .i64 (c 1), .int .i64 (c 2), .int .i64 (c 3), .int .i64 (c 4), .int .i64 (c 5)])).run Try.prog w = .ok true w := by
  have u3 := Try.underlying3
  have a3 := Try.isAgg3
  have z3 := Try.sizeOf3
  rw [show (10000 : Nat) = 9999 + 1 from rfl, Op.equalIn]
  simp only [Sem.run_bind, run_underlying Try.underlying45, Result.andThen_ok]
  simp only [Std.Legacy.Range.forIn_eq_forIn_range', Std.Legacy.Range.size, Nat.sub_zero, Nat.add_sub_cancel, Nat.div_one, List.range'_succ, List.range'_zero, List.forIn_cons, List.forIn_nil]
  go_simp
def RuRel (W : World) (B : Nat) (room : Int) (n : Nat) (sv tv iv : Value) (w : World) : Prop :=
  ∃ (j : Nat) (t : Int) (F D : Nat → Prop) (ps : List RM), j ≤ n ∧ iv = .int .i64 j ∧ tv = .int .i64 t ∧ 0 ≤ t ∧ t ≤ 1073741824 * (j : Int) ∧ RuM W B room (rmS ps) F D sv ps w ∧ MInv room (rmS ps) ∧ ps.length ≤ j
def RuCut (W : World) (B : Nat) (room : Int) (j : Nat) (sv tv : Value) (w : World) : Prop :=
  ∃ (t : Int) (F D : Nat → Prop) (ps : List RM), tv = .int .i64 t ∧ 0 ≤ t ∧ t ≤ 1073741824 * ((j + 1 : Nat) : Int) ∧ RuM W B room (rmS ps) F D sv ps w ∧ MInv room (rmS ps) ∧ ps.length ≤ j + 1
def RuIn (W : World) (B : Nat) (room : Int) (F D : Nat → Prop) (sv : Value) (ps : List RM) (cb : Nat) (i : Value) (w : World) : Prop :=
  ∃ q : Nat, q ≤ ps.length ∧ i = .int .i64 q ∧ RuC W B room (rmS ps) F D sv ps cb (((rmS ps).map Msg.st).take q) w

set_option maxHeartbeats 32000000 in
set_option maxRecDepth 100000 in
theorem messageRuns_walk (W : World) (room : Int) (w0 : IntOk .i64 room) (a1 : Option Addr) (c1 : Nat) (l : List OpM) (s1 : SlOp W a1 l) (g1 : ∀ x ∈ l, OpOk W x) (m1 : l.length ≤ maxLen) :
    Calls Try.prog 4 #[.int .i64 room, .slice a1 l.length c1] W fun e W' => e = .returned (.bool true) ∧ Below W.heap.size W W' := by
  have HAW := Lib.hid awake_ok
  have S1 := Lib.hid s1; have G1 := Lib.hid g1
  have FW := Lib.hid fun w (h : Below W.heap.size W w) => few_any w a1 c1 l (s1.below h) (fun x hx => (g1 x hx).below h) m1
  have MX := Lib.hid m1
  clear w0 s1 g1 m1
  cases hfew : fewB l with
  | false =>
    rw [hfew] at FW
    clear hfew
    go_enter Try.func4, Try.ntmps4
    go_wp2_with fail
    refine (HAW.out W).mono ?_
    rintro e w1 ⟨rfl, hb⟩
    have B1 := Lib.hid hb; clear hb
    go_wp2_with fail
    refine (FW.out w1 B1.out).mono ?_
    rintro e w2 ⟨rfl, hb⟩
    have B2 := Lib.hid (B1.out.trans (hb.mono B1.out.size)); clear hb
    go_wp2_with fail
    refine (HAW.out w2).mono ?_
    rintro e w3 ⟨rfl, hb⟩
    have B3 := Lib.hid (B2.out.trans (hb.mono B2.out.size)); clear hb
    go_wp2_with fail
    go_ret
    exact ⟨rfl, B3.out⟩
  | true =>
    rw [hfew] at FW
    obtain ⟨hl, hops⟩ := few_ok hfew
    have OPS := Lib.hid hops
    clear hfew hops
    by_cases hroom : room < 1 ∨ (1 ≤ room ∧ 1000 < room)
    · have NB := Lib.hid fun w => new_bad w room (by omega)
      rcases hroom with hr | ⟨hr0, hr⟩
      all_goals
        go_enter Try.func4, Try.ntmps4
        go_wp2_with fail
        refine (HAW.out W).mono ?_
        rintro e w1 ⟨rfl, hb⟩
        have B1 := Lib.hid hb; clear hb
        go_wp2_with fail
        refine (FW.out w1 B1.out).mono ?_
        rintro e w2 ⟨rfl, hb⟩
        have B2 := Lib.hid (B1.out.trans (hb.mono B1.out.size)); clear hb
        go_wp2_with fail
        refine (NB.out w2).mono ?_
        rintro e w3 ⟨rfl, rfl⟩
        go_wp2_with fail
        go_ret
        exact ⟨rfl, B2.out⟩
    · have hr0 : 1 ≤ room := by omega
      have hr1 : room ≤ 1000 := by omega
      clear hroom
      go_enter Try.func4, Try.ntmps4
      go_wp2_with fail
      refine (HAW.out W).mono ?_
      rintro e w1 ⟨rfl, hb⟩
      have B1 := Lib.hid hb; clear hb
      go_wp2_with fail
      refine (FW.out w1 B1.out).mono ?_
      rintro e w2 ⟨rfl, hb⟩
      have B2 := Lib.hid (B1.out.trans (hb.mono B1.out.size)); clear hb
      have NW := Lib.hid (mnew_ok w2 room hr0 hr1)
      go_wp2_with fail
      refine NW.out.mono ?_
      rintro e w3 ⟨rfl, hM, hB⟩
      have hs2 := B2.out.size
      have M0 : Hid (RuM W w2.heap.size room [] (fun k => k = w2.heap.size) (fun _ => False) (.slice none 0 0) [] w3) := ⟨hM, RefAt.nil, (fun k _ h => h), B2.out.trans (hB.mono B2.out.size), hs2, hB.size⟩
      have I0 := Lib.hid (MInv.nil room (by omega))
      clear hM hB NW FW HAW B1 B2
      generalize w2.heap.size = B at *
      go_wp2_with fail
      go_loopw [7, 8, 49] (fun sv tv iv w => RuRel W B room l.length sv tv iv w) (fun _ _ i _ => l.length - (intOf i).toNat)
      case atStart => exact ⟨0, 0, _, _, [], Nat.zero_le _, rfl, rfl, Int.le_refl _, by omega, M0.out, I0.out, Nat.le_refl _⟩
      case round =>
        clear M0 I0
        obtain ⟨j, t, F, D, ps, hj, rfl, rfl, ht0, ht1, hS, hI, hml⟩ := hrel
        have SM := Lib.hid hS; have II := Lib.hid hI
        clear hS hI
        obtain ⟨va, vc, rfl⟩ := SM.out.r.shape
        have hrl : (rmS ps).length = ps.length := by unfold rmS; rw [List.length_map]
        have HRL := Lib.hid hrl
        clear hrl
        by_cases hlt : j < l.length
        · obtain ⟨x, ex, okx, cx0, cx1, cx2, cx3⟩ := (S1.out.below SM.out.bel).get (k := j) hlt
          have hmem := Lib.hid (List.mem_of_getElem? ex.out)
          obtain ⟨hxl, hxt0, hxt1⟩ := OPS.out x hmem.out
          obtain ⟨hxd, hxm, hxn, hxk, hxt⟩ := G1.out x hmem.out
          have HXD := Lib.hid hxd
          obtain ⟨_, hxn1⟩ := ru_i64 hxn
          have BA : Hid (Below wr.heap.size wr (wr.alloc (.cells #[.int .i64 x.kind, .int .i64 x.n, .int .i64 x.ticks, .slice x.da x.data.length x.dc] 37))) := (Below.refl _ _).alloc (Nat.le_refl _) _
          have SA := Lib.hid (SM.out.below BA.out)
          have BX : Hid (Blk (wr.alloc (.cells #[.int .i64 x.kind, .int .i64 x.n, .int .i64 x.ticks, .slice x.da x.data.length x.dc] 37)) wr.heap.size 37 [.int .i64 x.kind, .int .i64 x.n, .int .i64 x.ticks, .slice x.da x.data.length x.dc]) := Blk.new wr _ [.int .i64 x.kind, .int .i64 x.n, .int .i64 x.ticks, .slice x.da x.data.length x.dc]
          have hbxF : Hid (∀ k, F k → wr.heap.size ≠ k) := fun k hk e => by have := (SM.out.m.lt k hk).2; omega
          have ce0 := BX.out.cell (i := 0) rfl
          have ce1 := BX.out.cell (i := 1) rfl
          have ce2 := BX.out.cell (i := 2) rfl
          have ce3 := BX.out.cell (i := 3) rfl
          have hDA : Hid (∀ k, F k → (x.da.getD default).block ≠ k ∨ x.data = []) := fun k hk => by
            by_cases he : x.data = []
            · exact .inr he
            · left
              have h1 := HXD.out.old he
              have h2 := (SM.out.m.lt k hk).1
              have h3 := SM.out.hB
              omega
          clear ex hxd hxm hxn hxk hxt
          go_upto_block 2 with (fail)
          go_cut [7, 8] (fun sv tv w => RuCut W B room j sv tv w)
          case first =>
            generalize hwa : wr.alloc (.cells #[.int .i64 x.kind, .int .i64 x.n, .int .i64 x.ticks, .slice x.da x.data.length x.dc] 37) = wa at *
            have hwB := SA.out.hw
            clear hwa
            by_cases k0 : x.kind = 0
            · have f0 : (x.kind == 0) = true := by simpa using k0
              clear k0
              have PT := Lib.hid (mput_any wa B B room (rmS ps) F SA.out.m (by rw [HRL.out]; omega) x.da x.dc x.data (HXD.out.below SA.out.bel) (by unfold maxLen; omega) x.n (fun hne k hk => (hDA.out k hk).resolve_right hne) hwB)
              have PI := Lib.hid (II.out.put x.data x.n)
              go_wp2_with fail
              refine PT.out.mono ?_
              rintro e w5 ⟨rfl, hM, hU⟩
              have S5 := Lib.hid (SA.out.box hM hU (fun k hk => hk.imp id fun h => h.1))
              have hb5 := S5.out.hw
              have v1 : w5.cell? ⟨wr.heap.size, 1, none⟩ = some (.int .i64 x.n) := by rw [hU.cell (p := ⟨wr.heap.size, 1, none⟩) BX.out.lt (fun hk => hbxF.out _ hk rfl)]; exact ce1
              have v3 : w5.cell? ⟨wr.heap.size, 3, none⟩ = some (.slice x.da x.data.length x.dc) := by rw [hU.cell (p := ⟨wr.heap.size, 3, none⟩) BX.out.lt (fun hk => hbxF.out _ hk rfl)]; exact ce3
              clear hM hU PT ce0 ce1 ce2 ce3
              have RP := Lib.hid (refPut_any w5 B D va vc ps S5.out.r (by omega) room x.da x.dc x.data (HXD.out.below S5.out.bel) (by omega) x.n hb5)
              have hpn : Hid (putE (rmS ps) room x.data x.n = 0 → putN (rmS ps) room x.data x.n = (ps.length : Int)) := fun e => by rw [(put_yes e).2, HRL.out]
              have hpm : Hid (putE (rmS ps) room x.data x.n ≠ 0 → putN (rmS ps) room x.data x.n = -1) := put_noN
              have hlen : Hid (∀ ps' : List RM, rmS ps' = putM (rmS ps) room x.data x.n → ps'.length ≤ j + 1) := fun ps' e => by
                have h1 := congrArg List.length e
                have h2 : (putM (rmS ps) room x.data x.n).length ≤ (rmS ps).length + 1 := by
                  unfold putM
                  split
                  · omega
                  · split
                    · omega
                    · simp
                have h3 : (rmS ps').length = ps'.length := by unfold rmS; rw [List.length_map]
                have := HRL.out
                omega
              generalize hpE : putE (rmS ps) room x.data x.n = pe at *
              generalize hpN : putN (rmS ps) room x.data x.n = pn at *
              clear hpE hpN
              go_wp2_with fail
              refine RP.out.mono ?_
              rintro e w6 ⟨v', ps', rfl, hps, hR, hb⟩
              have S6 := Lib.hid (S5.out.ref hR hb)
              rw [← hps] at S6 PI
              have HPS := Lib.hid hps
              clear hR hb RP hps
              by_cases e0 : pe = 0
              · have e1 := hpn.out e0
                subst e0 e1
                go_wp2_with fail
                go_meet
                exact ⟨t, _, _, ps', rfl, ht0, by omega, S6.out, PI.out.1, hlen.out ps' HPS.out⟩
              · have e1 := hpm.out e0
                subst e1
                have f3 : (pe == 0) = false := by simpa using e0
                have f4 : (pe != 0) = true := by simpa using e0
                have f5 : (pe != pe) = false := by simp
                clear e0
                go_wp2_with fail
                go_meet
                exact ⟨t, _, _, ps', rfl, ht0, by omega, S6.out, PI.out.1, hlen.out ps' HPS.out⟩
            · have f0 : (x.kind == 0) = false := by simpa using k0
              by_cases k1 : x.kind = 1
              · have f1 : (x.kind == 1) = true := by simpa using k1
                clear k0 k1
                have RC := Lib.hid (refCancel_any wa B D va vc ps SA.out.r (by omega) (fun m hm => (II.out.ok m hm).s1) x.n hwB)
                have CI := Lib.hid (II.out.cancel x.n)
                have hlen : Hid (∀ ps' : List RM, rmS ps' = cancelM (rmS ps) x.n → ps'.length = ps.length) := fun ps' e => by
                  have h1 := congrArg List.length e
                  rw [ru_clen] at h1
                  unfold rmS at h1
                  rw [List.length_map, List.length_map] at h1
                  exact h1
                have hpE : Hid (∀ w, BoxM w B B room (rmS ps) F → B ≤ w.heap.size → Calls Try.prog 17 #[.pointer (some ⟨B, 0, none⟩), .int .i64 x.n] w (MCancel w B B room (rmS ps) F x.n)) := fun w h hb => mcancel_any w B B room (rmS ps) F h (by rw [HRL.out]; omega) x.n hb
                unfold MCancel at hpE
                generalize hpe : cancelE (rmS ps) x.n = pe at *
                clear hpe
                go_wp2_with fail
                refine RC.out.mono ?_
                rintro e w5 ⟨v', ps', rfl, hps, hR, hb⟩
                have S5 := Lib.hid (SA.out.ref hR hb)
                have v1 : w5.cell? ⟨wr.heap.size, 1, none⟩ = some (.int .i64 x.n) := by rw [hb.cell (p := ⟨wr.heap.size, 1, none⟩) BX.out.lt]; exact ce1
                have CT := Lib.hid (hpE.out w5 S5.out.m S5.out.hw)
                have HPS := Lib.hid hps
                have f5 : (pe != pe) = false := by simp
                clear hR hb RC hps ce0 ce1 ce2 ce3
                go_wp2_with fail
                refine CT.out.mono ?_
                rintro e w6 ⟨rfl, hM, hU⟩
                have S6 := Lib.hid (S5.out.box hM hU (fun k hk => .inl hk))
                rw [← HPS.out] at S6 CI
                have hl2 := hlen.out ps' HPS.out
                clear hM hU CT
                go_wp2_with fail
                go_meet
                exact ⟨t, _, _, ps', rfl, ht0, by omega, S6.out, CI.out.1, by omega⟩
              · have f1 : (x.kind == 1) = false := by simpa using k1
                by_cases k2 : x.kind = 2
                · have f2 : (x.kind == 2) = true := by simpa using k2
                  clear k0 k1 k2
                  have RN := Lib.hid (refNext_any wa B D va vc ps SA.out.r (by omega) II.out.ok (t + x.ticks) x.n hxn1 hwB)
                  have NI := Lib.hid (II.out.next (t + x.ticks) x.n)
                  have hlen : Hid (∀ ps' : List RM, rmS ps' = nextM (rmS ps) (t + x.ticks) x.n → ps'.length = ps.length) := fun ps' e => by
                    have h1 := congrArg List.length e
                    rw [ru_nlen] at h1
                    unfold rmS at h1
                    rw [List.length_map, List.length_map] at h1
                    exact h1
                  have NT := Lib.hid fun w (h : BoxM w B B room (rmS ps) F) (hb : B ≤ w.heap.size) => mnext_any w B B room (rmS ps) F h (by rw [HRL.out]; omega) (t + x.ticks) x.n hxn1 hb
                  go_wp2_with fail
                  refine RN.out.mono ?_
                  rintro e w5 ⟨v', bv, ps', rfl, hps, hR, hv, hb⟩
                  have S5 := Lib.hid (SA.out.ref hR hb)
                  have v1 : w5.cell? ⟨wr.heap.size, 1, none⟩ = some (.int .i64 x.n) := by rw [hb.cell (p := ⟨wr.heap.size, 1, none⟩) BX.out.lt]; exact ce1
                  have NT5 := Lib.hid (NT.out w5 S5.out.m S5.out.hw)
                  have HPS := Lib.hid hps
                  have BV := Lib.hid hv
                  have hbf : Hid (∀ k, F k → bv.ownBlock ≠ some k) := fun k hk e => by
                    have h1 := (hv.lt e).1
                    have h2 := (SA.out.m.lt k hk).2
                    omega
                  clear hR hb RN hps hv NT ce0 ce1 ce2 ce3
                  obtain ⟨ba, bc, rfl⟩ := BV.out.shape
                  go_wp2_with fail
                  refine NT5.out.mono ?_
                  rintro e w6 ⟨ov, rfl, hv, hM, hU⟩
                  have S6 := Lib.hid (S5.out.box hM hU (fun k hk => .inl hk))
                  rw [← HPS.out] at S6 NI
                  obtain ⟨oa, oc, rfl⟩ := hv.shape
                  have EQ := equalByte_any w6 oa ba oc bc (nextW (rmS ps) (t + x.ticks) x.n) (nextW (rmS ps) (t + x.ticks) x.n) hv.sl (BV.out.upd hU (fun g hg hf => hbf.out g hf hg)).sl (by
                    have h1 := sendL_total 0 (dropM (pNext (t + x.ticks)) 5 0 (rmS ps)) x.n.toNat (dropM_ok (pNext (t + x.ticks)) 5 (by decide) (by decide) II.out.ok)
                    rw [dropM_len] at h1
                    have h2 : (nextW (rmS ps) (t + x.ticks) x.n).length ≤ (rmS ps).length * 1005 := h1
                    rw [HRL.out] at h2
                    unfold maxLen; omega)
                  rw [decide_eq_true rfl] at EQ
                  have EQH := Lib.hid EQ
                  have hl2 := hlen.out ps' HPS.out
                  clear hM hU hv NT5 EQ
                  go_wp2_with fail
                  refine EQH.out.mono ?_
                  rintro e w7 ⟨rfl, hq⟩
                  have S7 := Lib.hid (S6.out.below hq.bel)
                  clear hq
                  go_wp2_with fail
                  go_meet
                  exact ⟨t + x.ticks, _, _, ps', rfl, by omega, by omega, S7.out, NI.out.1, by omega⟩
                · have f2 : (x.kind == 2) = false := by simpa using k2
                  clear k0 k1 k2
                  go_wp2_with fail
                  go_meet
                  exact ⟨t, F, D, ps, rfl, ht0, by omega, SA.out, II.out, by omega⟩
          case rest =>
            clear SM II SA BX hbxF hDA HXD ht0 ht1 hml hxl hxt0 hxt1 hxn1 hmem HRL BA
            obtain ⟨t, F, D, ps, rfl, ht0, ht1, hS, hI, hml⟩ := hcut
            have S6 := Lib.hid hS; have I6 := Lib.hid hI
            clear hS hI
            obtain ⟨va, vc, rfl⟩ := S6.out.r.shape
            have hrl : (rmS ps).length = ps.length := by unfold rmS; rw [List.length_map]
            have HRL := Lib.hid hrl
            have hwB := S6.out.hw
            have C0 : Hid (RuC W B room (rmS ps) F D (.slice va ps.length vc) ps wc.heap.size [] (wc.alloc (.cells #[.int .i64 0, .int .i64 0, .int .i64 0, .int .i64 0, .int .i64 0, .int .i64 0] 45))) :=
              ⟨S6.out.below ((Below.refl _ _).alloc (Nat.le_refl _) _), Blk.new wc 45 [.int .i64 0, .int .i64 0, .int .i64 0, .int .i64 0, .int .i64 0, .int .i64 0], (fun h => by have := (S6.out.m.lt _ h).2; omega), (fun h => by have := (S6.out.r.lt _ h).2; omega), hwB⟩
            clear hrl S6
            go_wp2_with fail
            generalize hcbe : wc.heap.size = cb at *
            clear hcbe
            go_loopw [137] (fun i w => RuIn W B room F D (.slice va ps.length vc) ps cb i w) (fun i _ => ps.length - (intOf i).toNat)
            case atStart => exact ⟨0, Nat.zero_le _, rfl, by rw [List.take_zero]; exact C0.out⟩
            case round =>
              clear C0
              obtain ⟨q, hq, rfl, hC⟩ := hrel
              have CC := Lib.hid hC
              clear hC
              by_cases hql : q < ps.length
              · obtain ⟨p, hp⟩ : ∃ p, ps[q]? = some p := ⟨ps[q], by simp [hql]⟩
                obtain ⟨oka, cc0, cc1, cc2, cc3⟩ := CC.out.u.r.slr q p hp
                unfold RwB.val at cc0
                have hmg : (rmS ps)[q]? = some p.2 := by unfold rmS; rw [List.getElem?_map, hp]; rfl
                have hst := I6.out.ok p.2 (List.mem_of_getElem? hmg)
                have hs5 := hst.s5
                have hqi : (q : Int) < (ps.length : Int) := by omega
                have hcl : cb < wr.heap.size := CC.out.hc.lt
                have htk : ((rmS ps).map Msg.st).take (q + 1) = ((rmS ps).map Msg.st).take q ++ [p.2.st] := by rw [List.take_add_one, List.getElem?_map, hmg]; rfl
                have kc := CC.out.hc.cell (cnts_get _ hs5)
                have kf := CC.out.hc.free p.2.st
                have hcle : cnt (((rmS ps).map Msg.st).take q) p.2.st ≤ 1000 := by
                  have h1 := cnt_le (((rmS ps).map Msg.st).take q) p.2.st
                  rw [List.length_take, List.length_map, HRL.out] at h1
                  omega
                have C2 := CC.out.set (i := p.2.st) (cnts_add _ _ hs5)
                rw [← htk] at C2
                have CC2 := Lib.hid C2
                have ST : Hid (∀ w', RuC W B room (rmS ps) F D (.slice va ps.length vc) ps cb (((rmS ps).map Msg.st).take (q + 1)) w' → Calls Try.prog 13 #[.pointer (some ⟨B, 0, none⟩), .int .i64 q] w' fun e w2 => e = .returned (.int .i64 p.2.st) ∧ ∃ n, w2 = w'.drewN n) := by
                  intro w' h
                  refine (mstate_any w' B B room (rmS ps) F h.u.m (by rw [HRL.out]; omega) (q : Int)).mono ?_
                  rintro e w2 ⟨rfl, rfl⟩
                  refine ⟨?_, 0, rfl⟩
                  unfold stOf
                  rw [if_neg (by omega), Int.toNat_natCast, List.getElem?_map, hmg]
                  rfl
                generalize hcn : cnt (((rmS ps).map Msg.st).take q) p.2.st = cn at *
                have HPS := Lib.hid hp
                clear hcn htk hmg hst C2 hp
                have hcbn : ¬ cb = wr.heap.size := by omega
                have hcbn' : ¬ wr.heap.size = cb := by omega
                have t5' : (p.2.st : Int) < 6 := by omega
                have t50 : (0 : Int) ≤ (p.2.st : Int) := by omega
                go_upto_region 37 with (fail)
                have v2 : ((wr.setCell ⟨cb, p.2.st, none⟩ (.int .i64 ((cn : Int) + 1))).alloc (.cells #[.slice p.1.a p.1.d.length p.1.c, .int .i64 p.2.dl, .int .i64 p.2.st, .int .i64 p.2.out] 47)).cell? ⟨wr.heap.size, 2, none⟩ = some (.int .i64 p.2.st) := by
                  have h1 := (Blk.new (wr.setCell ⟨cb, p.2.st, none⟩ (.int .i64 ((cn : Int) + 1))) 47 [.slice p.1.a p.1.d.length p.1.c, .int .i64 p.2.dl, .int .i64 p.2.st, .int .i64 p.2.out]).cell (i := 2) rfl
                  simpa using h1
                have CC3 := Lib.hid (CC2.out.below ((Below.refl _ _).alloc (Nat.le_refl _) (.cells #[.slice p.1.a p.1.d.length p.1.c, .int .i64 p.2.dl, .int .i64 p.2.st, .int .i64 p.2.out] 47)))
                obtain ⟨wN, hwN⟩ : ∃ wN, (wr.setCell ⟨cb, p.2.st, none⟩ (.int .i64 ((cn : Int) + 1))).alloc (.cells #[.slice p.1.a p.1.d.length p.1.c, .int .i64 p.2.dl, .int .i64 p.2.st, .int .i64 p.2.out] 47) = wN := ⟨_, rfl⟩
                rw [hwN] at v2 CC3 ⊢
                clear hwN CC2 kc kf cc0 cc1 cc2 cc3
                go_quiet ((go_at_call 13; exact Calls.quiet_of (ST.out _ (CC3.out.below ((Qt.refl wN).drewN _).bel))))
                have CC4 := Lib.hid (CC3.out.below ((Qt.refl wN).drewN nq).bel)
                go_wp2_with fail
                go_roundw
                case rel => exact ⟨q + 1, by omega, by go_num, CC4.out⟩
                case measure => simp [intOf]; omega
              · obtain rfl : q = ps.length := by omega
                have hC := CC.out
                rw [List.take_of_length_le (by rw [List.length_map, HRL.out]; exact Nat.le_refl _)] at hC
                have CQ := Lib.hid hC
                obtain ⟨cc, hcc⟩ : ∃ cc, cnt ((rmS ps).map Msg.st) = cc := ⟨_, rfl⟩
                have SS : Hid (∀ w', RuC W B room (rmS ps) F D (.slice va ps.length vc) ps cb ((rmS ps).map Msg.st) w' → (w'.cell? ⟨cb, 0, none⟩ = some (.int .i64 (cc 0)) ∧ w'.cell? ⟨cb, 1, none⟩ = some (.int .i64 (cc 1)) ∧ w'.cell? ⟨cb, 2, none⟩ = some (.int .i64 (cc 2)) ∧ w'.cell? ⟨cb, 3, none⟩ = some (.int .i64 (cc 3)) ∧ w'.cell? ⟨cb, 4, none⟩ = some (.int .i64 (cc 4)) ∧ w'.cell? ⟨cb, 5, none⟩ = some (.int .i64 (cc 5)) ∧ RuC W B room (rmS ps) F D (.slice va ps.length vc) ps cb ((rmS ps).map Msg.st) w')) := fun w' h => by
                  rw [← hcc]; exact h.s
                have CT : Hid (∀ w', RuC W B room (rmS ps) F D (.slice va ps.length vc) ps cb ((rmS ps).map Msg.st) w' → Calls Try.prog 20 #[.pointer (some ⟨B, 0, none⟩)] w' fun e w2 => e = .returned (.agg #[.int .i64 (cc 0), .int .i64 (cc 1), .int .i64 (cc 2), .int .i64 (cc 3), .int .i64 (cc 4), .int .i64 (cc 5)]) ∧ Below w'.heap.size w' w2) := fun w' h => by
                  have := mcounts_any w' B B room (rmS ps) F h.u.m
                  unfold cntV at this
                  rw [hcc] at this
                  exact this
                have T1 : Hid (∀ w', RuC W B room (rmS ps) F D (.slice va ps.length vc) ps cb ((rmS ps).map Msg.st) w' → Calls Try.prog 13 #[.pointer (some ⟨B, 0, none⟩), .int .i64 (-1)] w' fun e w2 => e = .returned (.int .i64 0) ∧ w' = w2) := fun w' h => by
                  have := mstate_any w' B B room (rmS ps) F h.u.m (by rw [HRL.out]; omega) (-1)
                  rw [show stOf ((rmS ps).map Msg.st) (-1) = 0 from rfl] at this
                  exact this
                have T2 : Hid (∀ w', RuC W B room (rmS ps) F D (.slice va ps.length vc) ps cb ((rmS ps).map Msg.st) w' → Calls Try.prog 13 #[.pointer (some ⟨B, 0, none⟩), .int .i64 (ps.length : Int)] w' fun e w2 => e = .returned (.int .i64 0) ∧ w' = w2) := fun w' h => by
                  have := mstate_any w' B B room (rmS ps) F h.u.m (by rw [HRL.out]; omega) (ps.length : Int)
                  rw [show stOf ((rmS ps).map Msg.st) (ps.length : Int) = 0 from by
                    unfold stOf
                    rw [if_neg (by omega), Int.toNat_natCast, List.getElem?_eq_none (by rw [List.length_map, HRL.out]; exact Nat.le_refl _)]
                    rfl] at this
                  exact this
                have eqA := fun w => eqArr6 cc w
                clear hC hcc CC
                have S0 := SS.out _ CQ.out
                obtain ⟨y0, y1, y2, y3, y4, y5, y6⟩ := S0
                go_wp2_with fail
                go_region_held3 (fun w' => w'.cell? ⟨cb, 0, none⟩ = some (.int .i64 (cc 0)) ∧ w'.cell? ⟨cb, 1, none⟩ = some (.int .i64 (cc 1)) ∧ w'.cell? ⟨cb, 2, none⟩ = some (.int .i64 (cc 2)) ∧ w'.cell? ⟨cb, 3, none⟩ = some (.int .i64 (cc 3)) ∧ w'.cell? ⟨cb, 4, none⟩ = some (.int .i64 (cc 4)) ∧ w'.cell? ⟨cb, 5, none⟩ = some (.int .i64 (cc 5)) ∧ RuC W B room (rmS ps) F D (.slice va ps.length vc) ps cb ((rmS ps).map Msg.st) w')
                  ((go_split_ands; first | exact SS.out _ (RuC.below (by assumption) (by assumption)) | exact SS.out _ (RuC.below (by assumption) (Qt.refl _).drew.bel) | exact SS.out _ (by assumption) | go_keep))
                  (first
                    | (go_at_call 20; go_split_ands; (with_reducible refine (CT.out _ (by assumption)).mono ?_); rintro e w' ⟨rfl, hb⟩)
                    | (go_at_call 13; go_split_ands; (with_reducible refine (T1.out _ (by assumption)).mono ?_); rintro e w' ⟨rfl, rfl⟩)
                    | (go_at_call 13; go_split_ands; (with_reducible refine (T2.out _ (by assumption)).mono ?_); rintro e w' ⟨rfl, rfl⟩))
                go_wp2_with fail
                go_roundw
                case rel => exact ⟨j + 1, t, F, D, ps, by omega, by go_num, rfl, ht0, ht1, by go_split_ands; exact RuC.u (by assumption), I6.out, hml⟩
                case measure => simp [intOf]; omega
        · obtain rfl : j = l.length := by omega
          go_wp2_with fail
          go_ret
          exact ⟨rfl, SM.out.bel⟩
end Go.Proofs.Ytjljjohoipnhhaa
