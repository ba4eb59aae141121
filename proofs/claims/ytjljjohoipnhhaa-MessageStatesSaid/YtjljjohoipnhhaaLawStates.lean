/-
  MessageStates: the walk.
-/
import Derived.Test.YtjljjohoipnhhaaOpenM
import Derived.Test.YtjljjohoipnhhaaMsgT
namespace Go.Proofs.Ytjljjohoipnhhaa
open Go.RowKit
set_option linter.unusedVariables false

theorem Try.infoInt : (Try.prog.info? 3).map (fun i => (i.zero, i.size, i.bytes)) = some (some (.int .i64 0), 1, 8) := by kernel_rfl
theorem i64_bounds {n : Int} (h : (Lit.int .i64 n).wf = true) : -9223372036854775808 ≤ n ∧ n ≤ 9223372036854775807 := by simpa [Lit.wf, IntKind.min, IntKind.max, IntKind.signed, IntKind.bits] using h
def natV (n : Nat) : Value := .int .i64 (n : Int)
/-- The box, and the list of the states that were seen. -/
structure StM (W : World) (B : Nat) (room : Int) (ms : List Msg) (F : Nat → Prop) (v : Value) (ys : List Nat) (w : World) : Prop where
  m : BoxM w B B room ms F
  was : Vw natV 3 w B v ys
  nf : ∀ k, v.ownBlock = some k → ¬ F k
  bel : Below W.heap.size W w
  hB : W.heap.size ≤ B
  hw : B ≤ w.heap.size
section
variable {W w w' : World} {B : Nat} {room : Int} {ms : List Msg} {F : Nat → Prop} {v : Value} {ys : List Nat}
theorem StM.below (h : StM W B room ms F v ys w) (q : Below w.heap.size w w') : StM W B room ms F v ys w' :=
  ⟨h.m.below q, h.was.below q, h.nf, h.bel.trans (q.mono h.bel.size), h.hB, Nat.le_trans h.hw q.size⟩
/-- The box has changed. -/
theorem StM.box {ms' : List Msg} {F' : Nat → Prop} (h : StM W B room ms F v ys w) (hm : BoxM w' B B room ms' F') (u : Upd F w w') (hF : ∀ k, F' k → F k ∨ w.heap.size ≤ k) : StM W B room ms' F' v ys w' := by
  refine ⟨hm, h.was.upd u h.nf, fun k hk hf => ?_, Upd.below h.bel u h.bel.size fun k hk => Nat.le_trans h.hB (h.m.lt k hk).1, h.hB, Nat.le_trans h.hw u.size⟩
  rcases hF k hf with e | e
  · exact h.nf k hk e
  · have := (h.was.lt hk).2; omega
/-- The list has changed. -/
theorem StM.list {w1 : World} {v' : Value} {ys' : List Nat} (h : StM W B room ms F v ys w) (q : Below w.heap.size w w1) (hv : Vw natV 3 w' B v' ys') (u : Upd (fun k => v.ownBlock = some k) w1 w') (ho : v'.ownBlock = v.ownBlock ∨ ∀ g, v'.ownBlock = some g → w1.heap.size ≤ g) :
    StM W B room ms F v' ys' w' := by
  have h1 := h.below q
  refine ⟨h1.m.upd u fun k hk e => h.nf k e hk, hv, fun k hk hf => ?_, Upd.below h1.bel u h1.bel.size fun k hk => Nat.le_trans h.hB (h1.was.lt hk).1, h.hB, Nat.le_trans h1.hw u.size⟩
  rcases ho with e | e
  · exact h.nf k (by rw [← e]; exact hk) hf
  · have := e k hk; have := (h1.m.lt k hf).2; omega
end
/-- Each state that was seen may go on to the present one. -/
def TrY (ys : List Nat) (ms : List Msg) : Prop := ys.length = ms.length ∧ ∀ (i y : Nat) (m : Msg), ys[i]? = some y → ms[i]? = some m → tr y m.st
theorem TrY.same (ms : List Msg) : TrY (ms.map Msg.st) ms := ⟨by simp, fun i y m h1 h2 => by
  rw [List.getElem?_map, h2] at h1
  cases h1; exact tr_refl _⟩
theorem TrY.step {a b : List Msg} (h : Tr a b) (hl : a.length = b.length) : TrY (a.map Msg.st) b := ⟨by simpa using hl, fun i y m h1 h2 => by
  have hi : i < a.length := by have := get_lt h2; omega
  rw [List.getElem?_map, List.getElem?_eq_getElem hi] at h1
  cases h1
  exact h.2 i _ _ (List.getElem?_eq_getElem hi) h2⟩
theorem cancel_len (ms : List Msg) (n : Int) : (cancelM ms n).length = ms.length := by unfold cancelM; split <;> simp [dropM_len]
theorem nextM_len (ms : List Msg) (t m : Int) : (nextM ms t m).length = ms.length := by unfold nextM finOf; rw [sendL_len, dropM_len]
def StRel (W : World) (B : Nat) (room : Int) (n : Nat) (vw vt vi : Value) (w : World) : Prop :=
  ∃ (j : Nat) (ms : List Msg) (F : Nat → Prop) (t : Int), j ≤ n ∧ vi = .int .i64 j ∧ vt = .int .i64 t ∧ 0 ≤ t ∧ t ≤ 1073741824 * (j : Int) ∧ StM W B room ms F vw (ms.map Msg.st) w ∧ MInv room ms ∧ ms.length ≤ j
def StCut (W : World) (B : Nat) (room : Int) (j : Nat) (vw vt : Value) (w : World) : Prop :=
  ∃ (ms : List Msg) (F : Nat → Prop) (ys : List Nat) (t : Int), vt = .int .i64 t ∧ 0 ≤ t ∧ t ≤ 1073741824 * ((j + 1 : Nat) : Int) ∧ StM W B room ms F vw ys w ∧ MInv room ms ∧ ms.length ≤ j + 1 ∧ TrY ys ms
def sumC (c : Nat → Nat) : Nat → Nat
  | 0 => 0
  | k + 1 => sumC c k + c k
def StIn (W : World) (B : Nat) (room : Int) (ms : List Msg) (F : Nat → Prop) (v : Value) (ys : List Nat) (i : Value) (w : World) : Prop :=
  ∃ q : Nat, q ≤ ms.length ∧ i = .int .i64 q ∧ StM W B room ms F v ((ms.map Msg.st).take q ++ ys.drop q) w
theorem ys_get {ys : List Nat} {ms : List Msg} (h : TrY ys ms) {q : Nat} (hq : q < ms.length) : ∃ (y : Nat) (m : Msg), ys[q]? = some y ∧ ms[q]? = some m ∧ tr y m.st ∧ ((ms.map Msg.st).take q ++ ys.drop q)[q]? = some y ∧
    ((ms.map Msg.st).take q ++ ys.drop q).set q m.st = (ms.map Msg.st).take (q + 1) ++ ys.drop (q + 1) := by
  have hl := h.1
  have e1 : ys[q]? = some (ys[q]'(by omega)) := List.getElem?_eq_getElem _
  have e2 : ms[q]? = some ms[q] := List.getElem?_eq_getElem _
  refine ⟨_, _, e1, e2, h.2 q _ _ e1 e2, ?_, ?_⟩
  · rw [List.getElem?_append_right (by rw [List.length_take]; omega), List.length_take, List.length_map, Nat.min_eq_left (by omega), Nat.sub_self, List.getElem?_drop]
    exact e1
  · have ht : ((ms.map Msg.st).take q).length = q := by rw [List.length_take, List.length_map]; omega
    rw [List.set_append_right _ _ (by omega), ht, Nat.sub_self, List.drop_eq_getElem_cons (by omega), List.set_cons_zero, List.take_add_one, List.getElem?_map, e2]
    simp
theorem tr_ok {y s : Nat} (h : tr y s) : y ≤ s ∧ (3 ≤ y → s = y) ∧ (y = 2 → s ≤ 3) := h

set_option maxHeartbeats 32000000 in
set_option maxRecDepth 100000 in
theorem messageStates_walk (W : World) (a : Int) (w0 : IntOk .u8 a) (a1 : Option Addr) (c1 : Nat) (l : List OpM) (s1 : SlOp W a1 l) (g1 : ∀ x ∈ l, OpOk W x) (m1 : l.length ≤ maxLen) :
    Calls Try.prog 5 #[.int .u8 a, .slice a1 l.length c1] W fun e W' => e = .returned (.bool true) ∧ Below W.heap.size W W' := by
  have ha : 0 ≤ a ∧ a ≤ 255 := by simpa [Lit.wf, IntOk, IntKind.min, IntKind.max, IntKind.signed, IntKind.bits] using w0
  obtain ⟨ha0, ha1⟩ := ha
  have HAW := Lib.hid awake_ok
  have S1 := Lib.hid s1; have G1 := Lib.hid g1
  have FW := Lib.hid fun w (h : Below W.heap.size W w) => few_any w a1 c1 l (s1.below h) (fun x hx => (g1 x hx).below h) m1
  have MX := Lib.hid m1
  clear w0 s1 g1 m1
  cases hfew : fewB l with
  | false =>
    rw [hfew] at FW
    clear hfew
    go_enter Try.func5, Try.ntmps5
    go_wp2_with fail
    refine (HAW.out W).mono ?_
    rintro e w1 ⟨rfl, hb⟩
    have B1 := Lib.hid hb; clear hb
    go_wp2_with fail
    refine (FW.out w1 B1.out).mono ?_
    rintro e w2 ⟨rfl, hb⟩
    have B2 := Lib.hid (B1.out.trans (hb.mono B1.out.size)); clear hb
    go_wp2_with fail
    refine (HAW.out w2).mono ?_
    rintro e w3 ⟨rfl, hb⟩
    have B3 := Lib.hid (B2.out.trans (hb.mono B2.out.size)); clear hb
    go_wp2_with fail
    go_ret
    exact ⟨rfl, B3.out⟩
  | true =>
    rw [hfew] at FW
    obtain ⟨hl, hops⟩ := few_ok hfew
    have OPS := Lib.hid hops
    clear hfew hops
    have hr0 : 1 ≤ 1 + a % 9 := by omega
    have hr1 : 1 + a % 9 ≤ 9 := by omega
    go_enter Try.func5, Try.ntmps5
    go_wp2_with fail
    refine (HAW.out W).mono ?_
    rintro e w1 ⟨rfl, hb⟩
    have B1 := Lib.hid hb; clear hb
    go_wp2_with fail
    refine (FW.out w1 B1.out).mono ?_
    rintro e w2 ⟨rfl, hb⟩
    have B2 := Lib.hid (B1.out.trans (hb.mono B1.out.size)); clear hb
    have NW := Lib.hid (mnew_ok w2 (1 + a % 9) (by omega) (by omega))
    go_wp2_with fail
    refine NW.out.mono ?_
    rintro e w3 ⟨rfl, hM, hB⟩
    have hs2 := B2.out.size
    have M0 : Hid (StM W w2.heap.size (1 + a % 9) [] (fun k => k = w2.heap.size) (.slice none 0 0) [] w3) := ⟨hM, Vw.nil _ _ _ _, (fun k hk => by cases hk), B2.out.trans (hB.mono B2.out.size), hs2, hB.size⟩
    have I0 := Lib.hid (MInv.nil (1 + a % 9) (by omega))
    clear hM hB NW FW HAW B1 B2
    generalize hroom : 1 + a % 9 = room at *
    have HR := Lib.hid hroom; clear hroom
    generalize w2.heap.size = B at *
    go_wp2_with fail
    go_loopw [7, 8, 40] (fun vw vt vi w => StRel W B room l.length vw vt vi w) (fun _ _ i _ => l.length - (intOf i).toNat)
    case atStart => exact ⟨0, [], _, 0, Nat.zero_le _, rfl, rfl, Int.le_refl _, by omega, M0.out, I0.out, Nat.le_refl _⟩
    case round =>
      clear M0 I0
      obtain ⟨j, ms, F, t, hj, rfl, rfl, ht0, ht1, hS, hI, hml⟩ := hrel
      have SM := Lib.hid hS; have II := Lib.hid hI
      clear hS hI
      by_cases hlt : j < l.length
      · obtain ⟨x, ex, okx, cx0, cx1, cx2, cx3⟩ := (S1.out.below SM.out.bel).get (k := j) hlt
        have hmem := Lib.hid (List.mem_of_getElem? ex.out)
        obtain ⟨hxl, hxt0, hxt1⟩ := OPS.out x hmem.out
        obtain ⟨hxd, hxm, hxn, hxk, hxt⟩ := G1.out x hmem.out
        have HXD := Lib.hid hxd
        obtain ⟨_, hxn1⟩ := i64_bounds hxn
        have BA : Hid (Below wr.heap.size wr (wr.alloc (.cells #[.int .i64 x.kind, .int .i64 x.n, .int .i64 x.ticks, .slice x.da x.data.length x.dc] 37))) := (Below.refl _ _).alloc (Nat.le_refl _) _
        have SA := Lib.hid (SM.out.below BA.out)
        have BX : Hid (Blk (wr.alloc (.cells #[.int .i64 x.kind, .int .i64 x.n, .int .i64 x.ticks, .slice x.da x.data.length x.dc] 37)) wr.heap.size 37 [.int .i64 x.kind, .int .i64 x.n, .int .i64 x.ticks, .slice x.da x.data.length x.dc]) := Blk.new wr _ [.int .i64 x.kind, .int .i64 x.n, .int .i64 x.ticks, .slice x.da x.data.length x.dc]
        have hbxF : Hid (∀ k, F k → wr.heap.size ≠ k) := fun k hk e => by have := (SM.out.m.lt k hk).2; omega
        have u0 := BX.out.cell (i := 0) rfl
        have u1 := BX.out.cell (i := 1) rfl
        have u2 := BX.out.cell (i := 2) rfl
        have u3 := BX.out.cell (i := 3) rfl
        have hDA : Hid (∀ k, F k → (x.da.getD default).block ≠ k ∨ x.data = []) := fun k hk => by
          by_cases he : x.data = []
          · exact .inr he
          · left
            have h1 := HXD.out.old he
            have h2 := (SM.out.m.lt k hk).1
            have h3 := SM.out.hB
            omega
        clear ex hxd hxm hxn hxk hxt
        obtain ⟨va, vc, rfl⟩ := SA.out.was.shape
        have wl0 : (ms.map Msg.st).length = ms.length := by simp
        rw [wl0] at SM SA ⊢
        clear wl0
        go_upto_block 2 with (fail)
        go_cut [7, 8] (fun vw vt w => StCut W B room j vw vt w)
        case first =>
          generalize wr.alloc (.cells #[.int .i64 x.kind, .int .i64 x.n, .int .i64 x.ticks, .slice x.da x.data.length x.dc] 37) = wa at *
          obtain ⟨i0, hi, hz0, hz1, hz2⟩ := info_parts Try.infoInt
          have HI := Lib.hid hi; have HZ0 := Lib.hid hz0; have HZ1 := Lib.hid hz1; have HZ2 := Lib.hid hz2
          clear hi hz0 hz1 hz2
          have hwB := SA.out.hw
          by_cases k0 : x.kind = 0
          · have f0 : (x.kind == 0) = true := by simpa using k0
            clear k0
            have PT := Lib.hid (mput_any wa B B room ms F SA.out.m (by omega) x.da x.dc x.data (HXD.out.below SA.out.bel) (by unfold maxLen; omega) x.n (fun hne k hk => (hDA.out k hk).resolve_right hne) hwB)
            have PI := Lib.hid (II.out.put x.data x.n)
            go_wp2_with fail
            refine PT.out.mono ?_
            rintro e w5 ⟨rfl, hM, hU⟩
            have S5 := Lib.hid (SA.out.box hM hU (fun k hk => hk.imp id fun h => h.1))
            clear hM hU PT
            by_cases e0 : putE ms room x.data x.n = 0
            · obtain ⟨p1, p2⟩ := put_yes e0
              rw [e0]
              rw [p1] at S5 PI
              have P1 := Lib.hid p1
              clear e0 p1 p2
              have hb5 := S5.out.hw
              have hb1 : (ms.map Msg.st).length ≤ 1000 := by simp; omega
              have VQ : Hid (Vw natV 3 (w5.alloc (.cells #[.int .i64 1] 3)) B (.slice va ms.length vc) (ms.map Msg.st)) := S5.out.was.below ((Below.refl _ _).alloc (Nat.le_refl _) _)
              go_wp2_with (at_builtin; refine wpList_append_vw rfl _ _ 50 rfl B 3 i0 _ 8 Try.underlying50 HI.out HZ0.out HZ1.out HZ2.out rfl natV (fun _ => rfl) (.slice va ms.length vc) (ms.map Msg.st) rfl VQ.out (some ⟨w5.heap.size, 0, none⟩) 1 [1] rfl (one_gen rfl) ?c1 ?c2 ?c3 ?_)
              case c1 => unfold maxLen; simp only [List.length_singleton]; omega
              case c2 => simp only [List.length_singleton]; omega
              case c3 => simp; omega
              intro v' w6 g1 g2 g3
              have S6 := Lib.hid (S5.out.list ((Below.refl _ _).alloc (Nat.le_refl _) _) g1 g2 (by rw [World.size_alloc]; exact g3))
              clear g1 g2 g3 VQ S5
              have TY : Hid (TrY (ms.map Msg.st ++ [1]) (ms ++ [⟨x.data, x.n, 1, 0⟩])) := by
                have := TrY.same (ms ++ [⟨x.data, x.n, 1, 0⟩])
                rw [List.map_append] at this
                exact this
              go_wp2_with fail
              go_meet
              exact ⟨_, _, _, t, rfl, ht0, by omega, S6.out, PI.out.1, by simp; omega, TY.out⟩
            · have e1 : (putE ms room x.data x.n == 0) = false := by simpa using e0
              rw [put_no e0] at S5 PI
              generalize putE ms room x.data x.n = pe at *
              clear e0
              go_wp2_with fail
              go_meet
              exact ⟨_, _, _, t, rfl, ht0, by omega, S5.out, PI.out.1, by omega, TrY.same _⟩
          · have f0 : (x.kind == 0) = false := by simpa using k0
            by_cases k1 : x.kind = 1
            · have f1 : (x.kind == 1) = true := by simpa using k1
              have CT := Lib.hid (mcancel_any wa B B room ms F SA.out.m (by omega) x.n hwB)
              have CI := Lib.hid (II.out.cancel x.n)
              clear k0 k1
              go_wp2_with fail
              refine CT.out.mono ?_
              rintro e w5 ⟨rfl, hM, hU⟩
              have S5 := Lib.hid (SA.out.box hM hU (fun k hk => .inl hk))
              clear hM hU CT
              go_wp2_with fail
              go_meet
              exact ⟨_, _, _, t, rfl, ht0, by omega, S5.out, CI.out.1, by rw [cancel_len]; omega, TrY.step CI.out.2 (cancel_len _ _).symm⟩
            · have f1 : (x.kind == 1) = false := by simpa using k1
              by_cases k2 : x.kind = 2
              · have f2 : (x.kind == 2) = true := by simpa using k2
                have NT := Lib.hid (mnext_any wa B B room ms F SA.out.m (by omega) (t + x.ticks) x.n hxn1 hwB)
                have NI := Lib.hid (II.out.next (t + x.ticks) x.n)
                clear k0 k1 k2
                go_wp2_with fail
                refine NT.out.mono ?_
                rintro e w5 ⟨ov, rfl, hv, hM, hU⟩
                have S5 := Lib.hid (SA.out.box hM hU (fun k hk => .inl hk))
                clear hM hU NT hv
                go_wp2_with fail
                go_meet
                exact ⟨_, _, _, t + x.ticks, rfl, by omega, by omega, S5.out, NI.out.1, by rw [nextM_len]; omega, TrY.step NI.out.2 (nextM_len _ _ _).symm⟩
              · have f2 : (x.kind == 2) = false := by simpa using k2
                clear k0 k1 k2
                go_wp2_with fail
                go_meet
                exact ⟨_, _, _, t, rfl, ht0, by omega, SA.out, II.out, by omega, TrY.same _⟩
        case rest =>
          clear u0 u1 u2 u3 BX hbxF SA SM BA II hDA HXD ht0 ht1 hml hxl hxt0 hxt1 hxn1 hmem
          obtain ⟨ms, F, ys, t, rfl, ht0, ht1, hS, hI, hml, hY⟩ := hcut
          have S6 := Lib.hid hS; have I6 := Lib.hid hI; have Y6 := Lib.hid hY
          clear hS hI hY
          obtain ⟨va, vc, hva⟩ := S6.out.was.shape
          have yl := Y6.out.1
          rw [yl] at hva
          clear yl
          subst hva
          have CT := Lib.hid (mcounts_any wc B B room ms F S6.out.m)
          unfold cntV at CT
          obtain ⟨s1, s2, s3⟩ := cnt_sum I6.out.ok
          have s4 := cnt2_le I6.out.one
          have s5 := I6.out.op
          have SL : Hid (sumC (cnt (ms.map Msg.st)) 6 = ms.length) := by show _ = _; simp only [sumC]; omega
          generalize hcc : cnt (ms.map Msg.st) = cc at *
          have HC0 : Hid (cc 0 = 0) := s2
          clear hcc s2
          generalize hL : ms.length = L at *
          have HL := Lib.hid hL; clear hL
          go_wp2_with fail
          refine CT.out.mono ?_
          rintro e w7 ⟨rfl, hb⟩
          have S7 := Lib.hid (S6.out.below hb)
          clear hb CT S6
          go_wp2_with fail
          have x0 : ∀ w, (Instr.index 45 (.agg #[.int .i64 (cc 0), .int .i64 (cc 1), .int .i64 (cc 2), .int .i64 (cc 3), .int .i64 (cc 4), .int .i64 (cc 5)]) (.int .i64 0)).run Try.prog w = .ok (.int .i64 (cc 0)) w := fun _ => by kernel_rfl
          have x1 : ∀ w, (Instr.index 45 (.agg #[.int .i64 (cc 0), .int .i64 (cc 1), .int .i64 (cc 2), .int .i64 (cc 3), .int .i64 (cc 4), .int .i64 (cc 5)]) (.int .i64 1)).run Try.prog w = .ok (.int .i64 (cc 1)) w := fun _ => by kernel_rfl
          have x2 : ∀ w, (Instr.index 45 (.agg #[.int .i64 (cc 0), .int .i64 (cc 1), .int .i64 (cc 2), .int .i64 (cc 3), .int .i64 (cc 4), .int .i64 (cc 5)]) (.int .i64 2)).run Try.prog w = .ok (.int .i64 (cc 2)) w := fun _ => by kernel_rfl
          have x3 : ∀ w, (Instr.index 45 (.agg #[.int .i64 (cc 0), .int .i64 (cc 1), .int .i64 (cc 2), .int .i64 (cc 3), .int .i64 (cc 4), .int .i64 (cc 5)]) (.int .i64 3)).run Try.prog w = .ok (.int .i64 (cc 3)) w := fun _ => by kernel_rfl
          have x4 : ∀ w, (Instr.index 45 (.agg #[.int .i64 (cc 0), .int .i64 (cc 1), .int .i64 (cc 2), .int .i64 (cc 3), .int .i64 (cc 4), .int .i64 (cc 5)]) (.int .i64 4)).run Try.prog w = .ok (.int .i64 (cc 4)) w := fun _ => by kernel_rfl
          have x5 : ∀ w, (Instr.index 45 (.agg #[.int .i64 (cc 0), .int .i64 (cc 1), .int .i64 (cc 2), .int .i64 (cc 3), .int .i64 (cc 4), .int .i64 (cc 5)]) (.int .i64 5)).run Try.prog w = .ok (.int .i64 (cc 5)) w := fun _ => by kernel_rfl
          go_loopw [13, 82] (fun s i wx => ∃ k : Nat, k ≤ 6 ∧ s = .int .i64 (sumC cc k) ∧ i = .int .i64 k ∧ wx = (w7.alloc (.cells #[.int .i64 (cc 0), .int .i64 (cc 1), .int .i64 (cc 2), .int .i64 (cc 3), .int .i64 (cc 4), .int .i64 (cc 5)] 45))) (fun _ i _ => 6 - (intOf i).toNat)
          case atStart => exact ⟨0, by omega, rfl, rfl, rfl⟩
          case round =>
            obtain ⟨k, hk, rfl, rfl, rfl⟩ := hrel
            rcases (show k = 0 ∨ k = 1 ∨ k = 2 ∨ k = 3 ∨ k = 4 ∨ k = 5 ∨ k = 6 by omega) with rfl | rfl | rfl | rfl | rfl | rfl | rfl
            · have hb : sumC cc 0 + cc 0 ≤ 100 := by have := HC0.out; simp only [sumC]; omega
              go_wp2_with fail
              go_roundw
              case rel => exact ⟨1, by omega, by first | rfl | simp [sumC], rfl, trivial⟩
              case measure => simp [intOf] <;> omega
            · have hb : sumC cc 1 + cc 1 ≤ 100 := by have := HC0.out; simp only [sumC]; omega
              go_wp2_with fail
              go_roundw
              case rel => exact ⟨2, by omega, by first | rfl | simp [sumC], rfl, trivial⟩
              case measure => simp [intOf] <;> omega
            · have hb : sumC cc 2 + cc 2 ≤ 100 := by have := HC0.out; simp only [sumC]; omega
              go_wp2_with fail
              go_roundw
              case rel => exact ⟨3, by omega, by first | rfl | simp [sumC], rfl, trivial⟩
              case measure => simp [intOf] <;> omega
            · have hb : sumC cc 3 + cc 3 ≤ 100 := by have := HC0.out; simp only [sumC]; omega
              go_wp2_with fail
              go_roundw
              case rel => exact ⟨4, by omega, by first | rfl | simp [sumC], rfl, trivial⟩
              case measure => simp [intOf] <;> omega
            · have hb : sumC cc 4 + cc 4 ≤ 100 := by have := HC0.out; simp only [sumC]; omega
              go_wp2_with fail
              go_roundw
              case rel => exact ⟨5, by omega, by first | rfl | simp [sumC], rfl, trivial⟩
              case measure => simp [intOf] <;> omega
            · have hb : sumC cc 5 + cc 5 ≤ 100 := by have := HC0.out; simp only [sumC]; omega
              go_wp2_with fail
              go_roundw
              case rel => exact ⟨6, by omega, by first | rfl | simp [sumC], rfl, trivial⟩
              case measure => simp [intOf] <;> omega
            · rw [SL.out]
              clear x0 x1 x2 x3 x4 x5
              have t1 : (cc 1 : Int) + (cc 2 : Int) ≤ 1 + a % 9 := by have := HR.out; omega
              have t2 : (cc 2 : Int) ≤ 1 := by omega
              have t3 : cc 1 ≤ 100 := by omega
              have t0 : ((cc 0 : Int) != 0) = false := by rw [HC0.out]; rfl
              have S8 := Lib.hid (S7.out.below ((Below.refl _ w7).alloc (Nat.le_refl _) (.cells #[.int .i64 (cc 0), .int .i64 (cc 1), .int .i64 (cc 2), .int .i64 (cc 3), .int .i64 (cc 4), .int .i64 (cc 5)] 45)))
              have hLj : L ≤ 100 := by omega
              go_wp2_with fail
              go_loopw [117] (fun i w => StIn W B room ms F (.slice va L vc) ys i w) (fun i _ => L - (intOf i).toNat)
              case atStart => exact ⟨0, Nat.zero_le _, rfl, by simpa using S8.out⟩
              case round =>
                clear S8 S7
                obtain ⟨q, hq, rfl, hS⟩ := hrel
                have S9 := Lib.hid hS
                clear hS
                have hq' : q ≤ L := by rw [HL.out] at hq; exact hq
                clear hq
                by_cases hqL : q < L
                · obtain ⟨y, mq, e1, e2, e3, e4, e5⟩ := ys_get Y6.out (q := q) (by rw [HL.out]; exact hqL)
                  obtain ⟨oka, cy⟩ := S9.out.was.sl q y e4
                  have hfr := S9.out.was.free (get_lt e4)
                  unfold natV at cy
                  have hok := I6.out.ok mq (List.mem_of_getElem? e2)
                  have hs1 := hok.s1
                  have hs5 := hok.s5
                  obtain ⟨t4, t5, t6⟩ := tr_ok e3
                  have ST := Lib.hid (mstate_any _ B B room ms F S9.out.m (by rw [HL.out]; omega) (q : Int))
                  have es : stOf (ms.map Msg.st) (q : Int) = (mq.st : Int) := by
                    unfold stOf
                    rw [if_neg (by omega), Int.toNat_natCast, List.getElem?_map, e2]
                    rfl
                  rw [es] at ST
                  have h10 := S9.out.list (Below.refl _ _) (S9.out.was.set (get_lt e4) mq.st) ((Upd.refl _ _).setCell (adr va q) (natV mq.st) (fun _ => by
                    cases va with
                    | none => simp [okAd] at oka
                    | some z => rfl)) (.inl rfl)
                  rw [e5] at h10
                  unfold natV at h10
                  have S10 := Lib.hid h10
                  clear h10
                  generalize mq.st = s at *
                  clear e1 e2 e3 e4 e5 es hok
                  have hqi : (q : Int) < (L : Int) := by omega
                  have q1 : decide ((s : Int) < (y : Int)) = false := by simp; omega
                  by_cases hy3 : 3 ≤ y
                  · obtain rfl := t5 hy3
                    go_wp2_with fail
                    refine ST.out.mono ?_
                    rintro e w9 ⟨rfl, rfl⟩
                    go_wp2_with fail
                    go_roundw
                    case rel => exact ⟨q + 1, by rw [HL.out]; omega, by go_num, S10.out⟩
                    case measure => simp [intOf]; omega
                  · by_cases hy2 : y = 2
                    · have t7 := t6 hy2
                      subst hy2
                      go_wp2_with fail
                      refine ST.out.mono ?_
                      rintro e w9 ⟨rfl, rfl⟩
                      go_wp2_with fail
                      go_roundw
                      case rel => exact ⟨q + 1, by rw [HL.out]; omega, by go_num, S10.out⟩
                      case measure => simp [intOf]; omega
                    · have t8 : ((y : Int) == 2) = false := by
                        have : ¬ (y : Int) = 2 := by omega
                        simpa using this
                      go_wp2_with fail
                      refine ST.out.mono ?_
                      rintro e w9 ⟨rfl, rfl⟩
                      go_wp2_with fail
                      go_roundw
                      case rel => exact ⟨q + 1, by rw [HL.out]; omega, by go_num, S10.out⟩
                      case measure => simp [intOf]; omega
                · obtain rfl : q = L := by omega
                  have hSF := S9.out
                  rw [List.take_of_length_le (by rw [List.length_map, HL.out]; exact Nat.le_refl _), List.drop_of_length_le (by rw [Y6.out.1, HL.out]; exact Nat.le_refl _), List.append_nil] at hSF
                  have SF := Lib.hid hSF
                  clear hSF
                  go_wp2_with fail
                  go_roundw
                  case rel => exact ⟨j + 1, ms, F, t, by omega, by go_num, rfl, ht0, ht1, SF.out, I6.out, by rw [HL.out]; exact hml⟩
                  case measure => simp [intOf]; omega
      · obtain rfl : j = l.length := by omega
        go_wp2_with fail
        go_ret
        exact ⟨rfl, SM.out.bel⟩
end Go.Proofs.Ytjljjohoipnhhaa
