/-
  Contract of pace.merge.
-/
import Derived.Test.YtbdaehcngmhhcaaMgM
import Derived.Test.YtbdaehcngmhhcaaPar
namespace Go.Proofs.Ytbdaehcngmhhcaa
open Go.RowKit
set_option linter.unusedVariables false

/-- The rates' units as natural numbers. -/
def kN (k : Nat → Int) (i : Nat) : Nat := (k i).toNat
abbrev mgS (k : Nat → Int) (n t : Nat) : Mg := Mg.run uU (kN k) n t
theorem mgS_below {w wx w4 : World} {n sb br : Nat} {vs : Nat → Value} {qv : Value} {q : List Fq} {sent : Nat → List Nat} {r1 r2 : Int}
    (h : wx.cell? ⟨br, 0, none⟩ = some (.int .i64 r1) ∧ wx.cell? ⟨br, 1, none⟩ = some (.int .i64 r2) ∧ Blk wx br 29 [.int .i64 r1, .int .i64 r2] ∧ MgAt w wx n sb vs qv q sent) (b : Below wx.heap.size wx w4) :
    w4.cell? ⟨br, 0, none⟩ = some (.int .i64 r1) ∧ w4.cell? ⟨br, 1, none⟩ = some (.int .i64 r2) ∧ Blk w4 br 29 [.int .i64 r1, .int .i64 r2] ∧ MgAt w w4 n sb vs qv q sent :=
  ⟨(h.2.2.1.bel b).cell rfl, (h.2.2.1.bel b).cell rfl, h.2.2.1.bel b, h.2.2.2.below b⟩
theorem newQ_le {U : Nat} {k : Nat → Nat} {t : Nat} : ∀ p, (newQ U k t p).length ≤ p
  | 0 => Nat.le_refl _
  | p + 1 => by
    have := newQ_le (U := U) (k := k) (t := t) p
    unfold newQ
    rw [List.length_append]
    split <;> simp <;> omega
theorem one_slQ {α : Type} {f : α → Value} {T : TypeId} {w : World} {x : α} {v : Value} (e : f x = v) : Sl f (w.alloc (.cells #[v] T)) (some ⟨w.heap.size, 0, none⟩) [x] := by
  subst e
  exact Blk.sl (xs := [x]) (Blk.new w T [f x])
theorem alloc_bel (w : World) (o : Obj) : Below w.heap.size w (w.alloc o) := (Below.refl _ _).alloc (Nat.le_refl _) _
theorem upd_sent {f : Fq} {sent : Nat → List Nat} {t : Nat} : updQ sent f.i (sent f.i ++ [t]) = fun i => if i = f.i then sent i ++ [t] else sent i := by
  funext i
  unfold updQ
  by_cases e : i = f.i
  · rw [if_pos e, if_pos e, e]
  · rw [if_neg e, if_neg e]
theorem cut1 {α : Type} {f : α → Value} {T : TypeId} {w : World} {base : Nat} {qa : Option Addr} {qc : Nat} {x : α} {r : List α} (h : Vw f T w base (.slice qa (x :: r).length qc) (x :: r)) :
    Value.slice (if qc = 1 then qa else Option.map (fun x => (⟨x.block, x.off + 1, none⟩ : Addr)) qa) r.length (qc - 1) = cutV qa (x :: r).length qc 1 := by
  rcases h with ⟨_, h⟩ | ⟨g, o, c', e, h1, h2, h3, h4, h5⟩
  · cases h
  · cases e
    simp only [List.length_cons] at h3 ⊢
    unfold cutV
    by_cases e1 : qc = 1
    · have e2 : r.length = 0 := by omega
      rw [if_pos e1, if_pos e1.symm, e2]
      subst e1
      rfl
    · rw [if_neg e1, if_neg (fun x => e1 x.symm)]
      rfl
def MgOut (w : World) (k : Nat → Int) (n T sb : Nat) (bl qv tk : Value) (wr : World) : Prop :=
  ∃ (t : Nat) (vs : Nat → Value), t ≤ T ∧ tk = .int .i64 ((t : Int) + 1) ∧ bl = .int .i64 ((mgS k n t).bl : Nat) ∧ Hid (MgAt w wr n sb vs qv (mgS k n t).q (mgS k n t).sent)
def MgIn (w : World) (k : Nat → Int) (n t sb : Nat) (vs : Nat → Value) (qv ix : Value) (wr : World) : Prop :=
  ∃ p : Nat, p ≤ n ∧ ix = .int .i64 p ∧ Hid (MgAt w wr n sb vs qv ((mgS k n t).q ++ newQ uU (kN k) (t + 1) p) (mgS k n t).sent)
def MgPost (w : World) (k : Nat → Int) (n T : Nat) (e : Ending) (w' : World) : Prop :=
  ∃ (sb : Nat) (vs : Nat → Value) (qv : Value), e = .returned (.tuple #[.slice (some ⟨sb, 0, none⟩) n n, .int .i64 ((mgS k n T).bl : Nat)]) ∧ MgAt w w' n sb vs qv (mgS k n T).q (mgS k n T).sent
set_option maxRecDepth 100000 in
set_option maxHeartbeats 4000000 in
theorem merge_any (w : World) (a : Option Addr) (c : Nat) (rs : List Rq) (k : Nat → Int) (T : Nat) (hs : SlC rC 2 w a rs) (h : Rts rs k) (hl : rs.length ≤ 32) (ht : T ≤ 900) :
    Calls Try.prog 47 #[.slice a rs.length c, .int .i64 T] w (MgPost w k rs.length T) := by
  have HS := Lib.hid hs
  have H := Lib.hid h
  clear hs h
  generalize hn : rs.length = n at *
  have HN := Lib.hid hn
  clear hn
  have SUM : Hid (sN (kN k) n ≤ uU) := by
    show _ ≤ _
    have h1 := H.out.sum
    rw [HN.out] at h1
    have h2 : ∀ m, m ≤ n → ((sN (kN k) m : Nat) : Int) = sI k m := by
      intro m
      induction m with
      | zero => intro _; rfl
      | succ m ih =>
        intro hm
        have h3 := (H.out.r m _ (List.getElem?_eq_getElem (by rw [HN.out]; omega))).2.1
        have h4 := ih (by omega)
        simp only [sN, sI]
        unfold kN at *
        omega
    have h5 := h2 n (Nat.le_refl _)
    omega
  have hmk := fun w => make_rows w n (by omega)
  have M0 := Lib.hid (MgAt.start w n _ rfl)
  obtain ⟨i0, hi, hz0, hz1, hz2⟩ := info_parts Try.infoFrame
  have HI := Lib.hid hi; have HZ0 := Lib.hid hz0; have HZ1 := Lib.hid hz1; have HZ2 := Lib.hid hz2
  clear hi hz0 hz1 hz2
  obtain ⟨j0, hi, hz0, hz1, hz2⟩ := info_parts Try.infoInt
  have JI := Lib.hid hi; have JZ0 := Lib.hid hz0; have JZ1 := Lib.hid hz1; have JZ2 := Lib.hid hz2
  clear hi hz0 hz1 hz2
  go_enter Try.func47, Try.ntmps47
  go_wp2_with fail
  clear hmk
  generalize w.heap.size = sb at *
  go_loopw [7, 8, 9] (fun bl qv tk wr => MgOut w k n T sb bl qv tk wr) (fun _ _ tk _ => T + 1 - (intOf tk).toNat)
  case atStart => exact ⟨0, _, Nat.zero_le _, rfl, rfl, M0⟩
  case round =>
    clear M0
    obtain ⟨t, vs, ht1, rfl, rfl, M⟩ := hrel
    by_cases hlt : t < T
    · have hbl := (mg_run uU_pos (U := uU) (k := kN k) (n := n) SUM.out t)
      have MI := Lib.hid hbl
      clear hbl
      generalize hbl0 : (mgS k n t).bl = bl0 at *
      have HBL := Lib.hid hbl0
      clear hbl0
      have kT : decide ((t : Int) + 1 ≤ (T : Int)) = true := by simp; omega
      go_wp2_with fail
      go_loopw [8, 23] (fun qv ix wr => MgIn w k n t sb vs qv ix wr) (fun _ ix _ => n - (intOf ix).toNat)
      case atStart => exact ⟨0, Nat.zero_le _, rfl, by rw [newQ, List.append_nil]; exact M⟩
      case round =>
        clear M
        obtain ⟨p, hp, rfl, M⟩ := hrel
        by_cases hpn : p < n
        · obtain ⟨r, er, okr, rn, rd⟩ := (HS.out.below M.out.u).r (k := p) (by rw [HN.out]; exact hpn)
          obtain ⟨h1, h2, h3⟩ := H.out.r p r er.out
          have CT1 := fun w => count_any r (t + 1) w (h1.rate h2 h3) (by omega)
          have CT0 := fun w => count_any r t w (h1.rate h2 h3) (by omega)
          rw [cnt_rp uU_pos h1.rp h2] at CT1 CT0
          rw [show (((t + 1 : Nat)) : Int) = (t : Int) + 1 by simp] at CT1
          have hnq : newQ uU (kN k) (t + 1) (p + 1) = newQ uU (kN k) (t + 1) p ++ (if cntP uU (k p).toNat t < cntP uU (k p).toNat (t + 1) then [⟨p, cntP uU (k p).toNat (t + 1)⟩] else []) := rfl
          generalize cntP uU (k p).toNat t = c0 at *
          generalize cntP uU (k p).toNat (t + 1) = c1 at *
          unfold rV at CT1 CT0
          obtain ⟨r1, r2⟩ := r
          dsimp only at *
          replace CT1 := Lib.hid CT1
          replace CT0 := Lib.hid CT0
          replace hnq := Lib.hid hnq
          clear h1 h2 h3 er
          go_wp2_with fail
          have MB : Hid (Blk (wr.alloc (.cells #[.int .i64 r1, .int .i64 r2] 29)).drew wr.heap.size 29 [.int .i64 r1, .int .i64 r2] ∧ MgAt w (wr.alloc (.cells #[.int .i64 r1, .int .i64 r2] 29)).drew n sb vs u8 ((mgS k n t).q ++ newQ uU (kN k) (t + 1) p) (mgS k n t).sent) :=
            ⟨Blk.drew (Blk.new _ _ _), (M.out.below ((Below.refl _ _).alloc (Nat.le_refl _) _)).below (Qt.refl _).drew.bel⟩
          have hql : ((mgS k n t).q ++ newQ uU (kN k) (t + 1) p).length ≤ 100 := by
            have h4 := MI.out.bl
            have h5 := newQ_le (U := uU) (k := kN k) (t := t + 1) p
            rw [List.length_append]
            show (Mg.run uU (kN k) n t).q.length + _ ≤ 100
            omega
          generalize hqq : (mgS k n t).q ++ newQ uU (kN k) (t + 1) p = qq at *
          generalize hss : (mgS k n t).sent = ss at *
          have HSS := Lib.hid hss
          clear hss
          have HQQ := Lib.hid hqq
          clear hqq
          refine wp_region_allH (fun wx => wx.cell? ⟨wr.heap.size, 0, none⟩ = some (.int .i64 r1) ∧ wx.cell? ⟨wr.heap.size, 1, none⟩ = some (.int .i64 r2) ∧ Blk wx wr.heap.size 29 [.int .i64 r1, .int .i64 r2] ∧ MgAt w wx n sb vs u8 qq ss) 8 (by kernel_rfl) rfl ?_ (fun hHeld => ?_)
          · (exact ⟨MB.out.1.cell rfl, MB.out.1.cell rfl, MB.out.1, MB.out.2⟩)
          refine wpAnyH_takeG (i := 0) (v := ?_) rfl (by kernel_rfl) (by kernel_rfl) (by kernel_rfl) (fun _ _ _ h => h) rfl ?_ hHeld ?_
          rotate_left
          · intro w hSw
            try dsimp only at hSw
            go_simp
            all_goals with_reducible rfl
          try simp only [Act.put, List.setIfInBounds_toArray, List.set_cons_zero, List.set_cons_succ]
          refine wpAnyH_takeG (i := 1) (v := ?_) rfl (by kernel_rfl) (by kernel_rfl) (by kernel_rfl) (fun _ _ _ h => h) rfl ?_ hHeld ?_
          rotate_left
          · intro w hSw
            try dsimp only at hSw
            go_simp
            all_goals with_reducible rfl
          try simp only [Act.put, List.setIfInBounds_toArray, List.set_cons_zero, List.set_cons_succ]
          refine wpAnyH_takeG (i := 3) (v := ?_) rfl (by kernel_rfl) (by kernel_rfl) (by kernel_rfl) (fun _ _ _ h => h) rfl ?_ hHeld ?_
          rotate_left
          · intro w hSw
            try dsimp only at hSw
            go_simp
            all_goals with_reducible rfl
          try simp only [Act.put, List.setIfInBounds_toArray, List.set_cons_zero, List.set_cons_succ]
          refine wpAnyH_takeG (i := 4) (v := ?_) rfl (by kernel_rfl) (by kernel_rfl) (by kernel_rfl) (fun _ _ _ h => h) rfl ?_ hHeld ?_
          rotate_left
          · intro w hSw
            try dsimp only at hSw
            go_simp
            all_goals with_reducible rfl
          try simp only [Act.put, List.setIfInBounds_toArray, List.set_cons_zero, List.set_cons_succ]
          refine wpAnyH_takeG (i := 5) (v := ?_) rfl (by kernel_rfl) (by kernel_rfl) (by kernel_rfl) (fun _ _ _ h => h) rfl ?_ hHeld ?_
          rotate_left
          · intro w hSw
            try dsimp only at hSw
            go_simp
            all_goals with_reducible rfl
          try simp only [Act.put, List.setIfInBounds_toArray, List.set_cons_zero, List.set_cons_succ]
          refine wpAnyH_step (i := 2) (by kernel_rfl) rfl (fun KK hK => ?_)
          ((go_simp; go_at_call 49; (with_reducible refine (CT1.out _).mono ?_); rintro e w4 ⟨rfl, hb⟩))
          refine hK.out _ _ ?_ (fun hHeld => ?_)
          · (exact mgS_below hHeld hb)
          clear hK KK
          try simp only [Act.put, List.setIfInBounds_toArray, List.set_cons_zero, List.set_cons_succ]
          refine wpAnyH_step (i := 6) (by kernel_rfl) rfl (fun KK hK => ?_)
          ((go_simp; go_at_call 49; (try rw [show IntKind.i64.wrap (t : Int) = (t : Int) from IntWalk.i64_in _ (by omega)]); (with_reducible refine (CT0.out _).mono ?_); rintro e w4 ⟨rfl, hb⟩))
          refine hK.out _ _ ?_ (fun hHeld => ?_)
          · (exact mgS_below hHeld hb)
          clear hK KK
          try simp only [Act.put, List.setIfInBounds_toArray, List.set_cons_zero, List.set_cons_succ]
          refine wpAnyH_takeG (i := 7) (v := ?_) rfl (by kernel_rfl) (by kernel_rfl) (by kernel_rfl) (fun _ _ _ h => h) rfl ?_ hHeld ?_
          rotate_left
          · intro w hSw
            try dsimp only at hSw
            go_simp
            all_goals with_reducible rfl
          try simp only [Act.put, List.setIfInBounds_toArray, List.set_cons_zero, List.set_cons_succ]
          refine wpAnyH_done (by kernel_rfl) ?_ _
          have MH := Lib.hid hHeld.2.2.2
          clear hHeld hb M
          by_cases hcc : c0 < c1
          · have e1 : (c0 : Int) < (c1 : Int) := by omega
            have hq' := Lib.hid hnq.out
            clear hnq
            go_wp2_with (at_builtin; refine wpList_append_vw rfl (.tmp 36) (.tmp 39) 114 rfl w.heap.size 116 i0 _ 8 Try.underlying114 HI.out HZ0.out HZ1.out HZ2.out rfl fV (fun _ => rfl) _ qq rfl (MH.out.hq.below (alloc_bel _ _)) (some ⟨w4.heap.size, 0, none⟩) 1 [⟨p, c1⟩] rfl (one_slQ rfl) ?c1 ?c2 ?c3 ?_)
            case c1 => unfold maxLen; simp; omega
            case c2 => simp; omega
            case c3 => have := MH.out.u.size; simp; omega
            intro v' w5 hv hu hb
            have M5 := Lib.hid (MH.out.push (alloc_bel _ _) hv hu (by simpa using hb))
            clear hv hu hb MH
            go_wp2_with fail
            go_roundw
            case rel => exact ⟨p + 1, by omega, by go_num, by rw [hq'.out, if_pos hcc, ← List.append_assoc, HQQ.out, HSS.out]; exact M5⟩
            case measure => simp [intOf]; omega
          · have e1 : ¬ (c0 : Int) < (c1 : Int) := by omega
            have hq' := Lib.hid hnq.out
            clear hnq
            go_wp2_with fail
            go_roundw
            case rel => exact ⟨p + 1, by omega, by go_num, by rw [hq'.out, if_neg hcc, List.append_nil, HQQ.out, HSS.out]; exact MH⟩
            case measure => simp [intOf]; omega
        · obtain rfl : n = p := by omega
          have hrun : mgS k n (t + 1) = (mgS k n t).tick uU (kN k) n (t + 1) := rfl
          unfold Mg.tick at hrun
          generalize hmg : mgS k n t = s at *
          have HMG := Lib.hid hmg
          clear hmg
          cases hq2 : s.q ++ newQ uU (kN k) (t + 1) n with
          | nil =>
            rw [hq2] at M hrun
            have HRUN := Lib.hid hrun
            clear hrun hq2
            obtain ⟨qa, qc, eqv⟩ := M.out.hq.shape
            subst eqv
            have hz : ¬ (0 : Int) < 0 := by omega
            go_wp2_with fail
            go_roundw
            case rel => exact ⟨t + 1, vs, by omega, by go_num, by rw [HRUN.out, ← HBL.out]; simp, by rw [HRUN.out]; exact M⟩
            case measure => simp [intOf]; omega
          | cons f r =>
            rw [hq2] at M hrun
            have HRUN := Lib.hid hrun
            clear hrun
            have hfi : f.i < n := by
              have hm : f ∈ s.q ++ newQ uU (kN k) (t + 1) n := by rw [hq2]; exact List.mem_cons_self
              rcases List.mem_append.1 hm with h1 | h1
              · have h2 := MI.out.lt f
                rw [show Mg.run uU (kN k) n t = s from HMG.out] at h2
                exact h2 h1
              · exact (newQ_mem h1).1
            clear hq2
            obtain ⟨qa, qc, eqv⟩ := M.out.hq.shape
            subst eqv
            have SQ := M.out.hq.sl
            obtain ⟨okq, cq⟩ := SQ 0 f rfl
            have cs := M.out.hs.cell (i := f.i) (v := vs f.i) (by simp [hfi])
            have fs := M.out.hs.free f.i
            have VR := Lib.hid (M.out.row f.i hfi)
            have hfi1 : (f.i : Int) < (n : Int) := by omega
            have hsl : (s.sent f.i).length ≤ 1000 := by
              have h3 := (MI.out.num f.i hfi).2
              rw [show Mg.run uU (kN k) n t = s from HMG.out] at h3
              have h4 : cntP uU (kN k f.i) t ≤ t := by
                have hk : kN k f.i ≤ uU := by
                  have h5 := (H.out.r f.i _ (List.getElem?_eq_getElem (by rw [HN.out]; exact hfi))).2.2
                  unfold kN
                  omega
                unfold cntP
                exact Nat.div_le_of_le_mul (Nat.mul_le_mul_right t hk)
              omega
            unfold fV at cq
            clear SQ
            go_wp2_with (at_builtin; refine wpList_append_vw rfl (.tmp 54) (.tmp 56) 33 rfl w.heap.size 3 j0 _ 8 Try.underlying33 JI.out JZ0.out JZ1.out JZ2.out rfl tV (fun _ => rfl) _ (s.sent f.i) rfl (VR.out.below (alloc_bel _ _)) (some ⟨wr.heap.size, 0, none⟩) 1 [t + 1] rfl (one_slQ (by unfold tV; simp)) ?c1 ?c2 ?c3 ?_)
            case c1 => unfold maxLen; simp; omega
            case c2 => first | omega | (simp; omega)
            case c3 => exact Nat.le_trans M.out.u.size (Nat.le_succ _)
            intro v' w5 hv hu hb
            obtain ⟨va, vc, rfl⟩ := hv.shape
            have M5 := Lib.hid (M.out.send (alloc_bel _ _) hfi hv hu (by simpa using hb))
            have fs := (M.out.below (alloc_bel _ (.cells #[.int .i64 ((t : Int) + 1)] 3))).hs.upd hu (M.out.rb f.i hfi)
            have y0 := fs.cell (i := f.i) (v := vs f.i) (by simp [hfi])
            have y1 := fs.free f.i
            clear hv hu hb fs
            have MP := M5.out.pop (by simp)
            rw [← cut1 M5.out.hq] at MP
            simp only [List.length_append, List.length_cons, List.length_nil, Nat.zero_add, List.tail_cons] at MP
            have MP := Lib.hid MP
            have hbl1 : Hid ((if bl0 < r.length then (r.length : Int) else (bl0 : Int)) = ((max s.bl r.length : Nat) : Int)) := by
              show _ = _
              rw [HBL.out]
              split <;> omega
            go_wp2_with fail
            go_roundw
            case rel => exact ⟨t + 1, _, by omega, by go_num, by rw [HRUN.out, hbl1.out], by rw [HRUN.out, ← upd_sent]; exact MP.out⟩
            case measure => simp [intOf]; omega
    · obtain rfl : T = t := by omega
      generalize hx : (mgS k n T).bl = bl at *
      have HX := Lib.hid hx
      clear hx
      go_wp2_with fail
      go_ret2
      exact ⟨sb, vs, _, by rw [HX.out]; rfl, M.out⟩
end Go.Proofs.Ytbdaehcngmhhcaa
