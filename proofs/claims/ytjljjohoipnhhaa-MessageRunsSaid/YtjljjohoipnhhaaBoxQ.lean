/-
  The contract of message.Box.Next.
-/
import Derived.Test.YtjljjohoipnhhaaBoxO
namespace Go.Proofs.Ytjljjohoipnhhaa
open Go.RowKit
set_option linter.unusedVariables false

theorem dp_model (p : Int → Nat → Bool) (k : Nat) (hk : 2 < k) {its : List It} {ms : List Msg} (h : its.map It.key = queueL 0 ms) :
    (DP p k its (ms.map Msg.st)).1.map It.key = queueL 0 (dropM p k 0 ms) ∧ (DP p k its (ms.map Msg.st)).2 = (dropM p k 0 ms).map Msg.st := by
  have h1 := dropF_map It.key (fun x : Nat × Int × List Int => x.1) (fun x => p x.2.1 x.1) k its (ms.map Msg.st)
  have h2 := dropF_queue p k hk ms []
  simp only [List.nil_append, List.length_nil] at h2
  rw [h, h2] at h1
  have e1 := congrArg Prod.fst h1
  have e2 := congrArg Prod.snd h1
  exact ⟨e1.symm, e2.symm⟩
theorem dropM_ok (p : Int → Nat → Bool) (k : Nat) (hk : 2 < k) (hk5 : k ≤ 5) {ms : List Msg} (ok : ∀ m ∈ ms, MsgOk m) : ∀ m ∈ dropM p k 0 ms, MsgOk m := by
  intro m hm
  obtain ⟨j, hj⟩ := List.mem_iff_getElem?.1 hm
  rw [dropM_get] at hj
  cases hx : ms[j]? with
  | none => rw [hx] at hj; cases hj
  | some y =>
    rw [hx] at hj
    simp only [Option.map_some, Option.some.injEq] at hj
    have h := ok y (List.mem_of_getElem? hx)
    subst hj
    unfold Msg.dropped
    split
    · exact ⟨h.d1, h.d2, h.dl, by show 1 ≤ k; omega, hk5, fun e => by have : k = 1 := e; omega, fun e => by have : k ≤ 2 := e; omega⟩
    · exact h
theorem allSt_of {its : List It} {ms : List Msg} (h : its.map It.key = queueL 0 ms) (ok : ∀ m ∈ ms, MsgOk m) : AllSt its (ms.map Msg.st) := by
  intro x hx
  have hm : It.key x ∈ queueL 0 ms := by rw [← h]; exact List.mem_map.2 ⟨x, hx, rfl⟩
  have hb := queueL_ge 0 ms _ hm
  have hlt : x.n < ms.length := by have := hb.2; simp [It.key] at this; exact this
  refine ⟨ms[x.n].st, by rw [List.getElem?_map, List.getElem?_eq_getElem hlt]; rfl, (ok _ (List.getElem_mem hlt)).s5⟩
theorem cutV_eq {rg ro n rc k : Nat} {A' : Option Addr} (h : (if rc = k then some (⟨rg, ro, none⟩ : Addr) else some ⟨rg, ro + k, none⟩) = A') (hk : k ≤ n) (hn : n ≤ rc) : cutV (some ⟨rg, ro, none⟩) n rc k = .slice A' (n - k) (rc - k) := by
  unfold cutV
  subst h
  by_cases e : rc = k
  · rw [if_pos e, if_pos e.symm, show n - k = 0 by omega, show rc - k = 0 by omega]
  · rw [if_neg e, if_neg (fun h => e h.symm)]
    rfl
theorem Vw.sl0 {α : Type} {f : α → Value} {T : TypeId} {w : World} {base : Nat} {v : Value} {xs : List α} (h : Vw f T w base v xs) {a : Option Addr} {n c : Nat} (e : v = .slice a n c) : Sl f w a xs := by
  subst e; exact h.sl
theorem Sl.take {α : Type} {f : α → Value} {w : World} {a : Option Addr} {xs : List α} (h : Sl f w a xs) (k : Nat) : Sl f w a (xs.take k) := by
  intro j x hj
  refine h j x ?_
  rw [List.getElem?_take] at hj
  split at hj
  · exact hj
  · cases hj
def lenV : Value → Nat
  | .slice _ n _ => n
  | _ => 0
theorem items_len {its : List It} {ms : List Msg} (h : its.map It.key = queueL 0 ms) : its.length ≤ ms.length := by
  have e := congrArg List.length h
  rw [List.length_map, queueL_len] at e
  rw [e]
  exact List.length_filter_le _ _

set_option maxHeartbeats 8000000 in
set_option maxRecDepth 100000 in
theorem next_any (w : World) (base b : Nat) (room : Int) (qv sv : Value) (its : List It) (ms : List Msg) (h : BoxAt w base b room qv sv its (ms.map Msg.st)) (key : its.map It.key = queueL 0 ms) (ok : ∀ m ∈ ms, MsgOk m) (ln : ms.length ≤ 1000)
    (tick most : Int) (hmost : most ≤ 9223372036854775807) (F : Nat → Prop) (hF : ∀ k ∈ boxFoot b qv sv its, F k) (hFl : ∀ k, F k → k < w.heap.size) (wl : (wantOf (dropM (pNext tick) 5 0 ms) most).length ≤ 100000000) (hbase : base ≤ w.heap.size) :
    Calls Try.prog 12 #[.pointer (some ⟨b, 0, none⟩), .int .i64 tick, .int .i64 most] w fun e w' => ∃ ov, e = .returned ov ∧ NxPost w base b room F (finOf (dropM (pNext tick) 5 0 ms) most) (wantOf (dropM (pNext tick) 5 0 ms) most) ov w' := by
  obtain ⟨qa, qc, rfl⟩ := h.q.shape
  have B1 : Below w.heap.size w (w.alloc (.cells #[.int .i64 tick] 3)) := (Below.refl _ _).alloc (Nat.le_refl _) _
  have hil := items_len key
  have DR := Lib.hid (drop_any (w.alloc (.cells #[.int .i64 tick] 3)) base b room qa qc sv its (ms.map Msg.st) (h.below B1) w.heap.size (.func (.func 31) #[] #[.pointer (some ⟨w.heap.size, 0, none⟩)]) (pNext tick) 5 (by decide)
    (.inl ⟨tick, rfl, Blk.new w _ [.int .i64 tick], rfl⟩) (h.nfoot (Nat.le_refl _)) (by simp) (allSt_of key ok) (by simp; omega) (by omega))
  obtain ⟨k1, k2⟩ := dp_model (pNext tick) 5 (by decide) key
  have M0 : Hid (∀ w2, DropM (w.alloc (.cells #[.int .i64 tick] 3)) base b room (.slice qa its.length qc) sv its (ms.map Msg.st) (pNext tick) 5 w2 →
      NxRel w base b room F (finOf (dropM (pNext tick) 5 0 ms) most) (wantOf (dropM (pNext tick) 5 0 ms) most) most (.slice none 0 0) w2) := by
    rintro w2 ⟨qv', h1, h2, h3⟩
    rw [k2] at h1
    refine ⟨qv', sv, _, dropM (pNext tick) 5 0 ms, [], ⟨h1, Vw.nil _ _ _ _, (fun k hk => by cases hk), ?_, Upd.then (Upd.of_below B1) (h3.mono fun k _ hk => hF k hk) (fun _ _ h => h), hFl⟩, k1, dropM_ok _ _ (by decide) (by decide) ok, by rw [dropM_len]; exact ln, rfl, rfl, wl⟩
    intro k hk
    refine hF k ?_
    rcases of_boxFoot hk with e | e | e | e
    · exact in_boxFoot (.inl e)
    · exact in_boxFoot (.inr (.inl (by rw [← h2]; exact e)))
    · exact in_boxFoot (.inr (.inr (.inl e)))
    · exact in_boxFoot (.inr (.inr (.inr ((itFoot_sub (dp_sub _ _ _ _)).subset e))))
  obtain ⟨i0, hi, hz0, hz1, hz2⟩ := info_parts Try.infoByte
  have HI := Lib.hid hi; have HZ0 := Lib.hid hz0; have HZ1 := Lib.hid hz1; have HZ2 := Lib.hid hz2
  have WL := Lib.hid wl
  generalize hfin : finOf (dropM (pNext tick) 5 0 ms) most = fin at *
  generalize hwant : wantOf (dropM (pNext tick) 5 0 ms) most = want at *
  clear hi hz0 hz1 hz2 h key ok k1 k2 hfin hwant hF hFl wl
  generalize its.length = n at *
  go_enter Try.func12, Try.ntmps12
  go_wp2_with fail
  refine DR.out.mono ?_
  rintro e w2 ⟨rfl, hD⟩
  have MM := Lib.hid (M0.out w2 hD)
  clear hD M0 DR B1
  go_wp2_with fail
  go_loopw [7] (fun ov wr => NxRel w base b room F fin want most ov wr) (fun ov _ => most.toNat - lenV ov)
  case atStart => exact MM.out
  case round =>
    clear MM
    obtain ⟨qv, sv, its, ms, ol, hM⟩ := hrel
    have hol := ol_le hM
    have HM := Lib.hid hM; clear hM
    obtain ⟨qa, qc, rfl⟩ := HM.out.a.at'.q.shape
    obtain ⟨oa, oc, rfl⟩ := HM.out.a.out.shape
    have b1 := HM.out.a.at'.r.hb.cell (i := 1) rfl
    cases its with
    | nil =>
      go_wp2_with fail
      go_ret
      exact ⟨_, rfl, HM.out.done (.inl rfl)⟩
    | cons x l =>
      by_cases hlt : most ≤ ol.length
      · have d1 : decide ((ol.length : Int) < most) = false := by simp; omega
        go_wp2_with fail
        go_ret
        exact ⟨_, rfl, HM.out.done (.inr hlt)⟩
      · obtain ⟨B, rfl⟩ := Int.eq_ofNat_of_zero_le (show 0 ≤ most by omega)
        obtain ⟨av, mv, cv, hd⟩ := head_of HM.out.key
        have HD := Lib.hid hd
        obtain ⟨hr1, hr2⟩ := hd.len HM.out.ok
        clear hd
        have hX := HM.out.a.at'.r.hi x (by simp)
        obtain ⟨ra, rc, erv⟩ := hX.hr.shape
        obtain ⟨oka, ca⟩ := HM.out.a.at'.q.sl 0 x rfl
        unfold It.ptr at ca
        obtain ⟨q0, q1, q2⟩ := item_cells hX
        rw [erv] at q2
        have hro := hX.hr
        rw [erv] at hro
        obtain ⟨rg, ro, rfl⟩ := hro.addr (by intro e; rw [e] at hr1; simp at hr1)
        have HRO := Lib.hid hro
        have ERV := Lib.hid erv
        have hrc : x.rest.length ≤ rc ∧ rc ≤ maxLen := by
          rcases hro with ⟨e, _⟩ | ⟨g', o', c', e, _, _, h3, h4, _⟩
          · cases e
          · cases e; exact ⟨h3, h4⟩
        obtain ⟨hrc1, hrc2⟩ := hrc
        unfold maxLen at hrc2
        clear hro erv hX
        obtain ⟨k, hB⟩ : ∃ k, B = ol.length + k := ⟨B - ol.length, by omega⟩
        have hk0 : 1 ≤ k := by omega
        have KK : Hid (((B : Nat) : Int).toNat - ol.length = k) := by show _ = _; omega
        have HB := Lib.hid hB
        have eS : (B : Int) - (ol.length : Int) = (k : Int) := by omega
        have d1 : decide (ol.length < B) = true := by simp; omega
        have hlt2 : ol.length < B := by omega
        clear hB hlt
        generalize hql : (x :: l).length = ql at *
        have hq0 : 0 < ql := by rw [← hql]; simp
        have HQL := Lib.hid hql; clear hql
        by_cases hk : x.rest.length ≤ k
        · have hk1 : (x.rest.length : Int) ≤ (k : Int) := by omega
          obtain ⟨A', hA⟩ : ∃ A', (if rc = x.rest.length then some (⟨rg, ro, none⟩ : Addr) else some ⟨rg, ro + x.rest.length, none⟩) = A' := ⟨_, rfl⟩
          have CV : Hid (cutV (some ⟨rg, ro, none⟩) x.rest.length rc x.rest.length = .slice A' (x.rest.length - x.rest.length) (rc - x.rest.length)) := cutV_eq hA (by omega) hrc1
          go_upto_region 8 with (fail)
          go_wp2_with (at_builtin; refine wpList_append_vw rfl _ _ 22 rfl w.heap.size 5 i0 _ 1 Try.underlying22 HI.out HZ0.out HZ1.out HZ2.out rfl (Value.int .u8) (fun _ => rfl) (.slice oa ol.length oc) ol rfl HM.out.a.out (some ⟨rg, ro, none⟩) rc (x.rest) rfl ?c1 ?c2 ?c3 ?c4 ?_)
          case c1 => exact (HM.out.a.at'.r.hi x (by simp)).hr.sl0 ERV.out
          case c2 => unfold maxLen; omega
          case c3 => omega
          case c4 => exact HM.out.a.u.size
          intro v' w3 h1 h2 h3
          obtain ⟨a', m', c', em, rfl⟩ : ∃ a' m' c', Hid (m' = ol.length + x.rest.length) ∧ v' = .slice a' m' c' := by
            obtain ⟨a', c', e⟩ := h1.shape
            refine ⟨a', _, c', ?_, e⟩
            show _ = _
            rw [List.length_append]
          have NA := Lib.hid (HM.out.a.app h1 h2 h3)
          clear h1 h2 h3 b1 q0 q1 q2
          have hX := NA.out.at'.r.hi x (by simp)
          obtain ⟨q0, q1, q2⟩ := item_cells hX
          have q3 := hX.hb.free 2
          have hv := hX.hr
          rw [ERV.out] at q2 hv
          have hv2 := hv.drop (k := x.rest.length) (by omega)
          rw [CV.out] at hv2
          have NB := Lib.hid (NA.out.cut hv2 (fun g hg => by
            rw [ERV.out]
            rw [← CV.out] at hg
            exact cutV_block (fun e => by cases e) hg))
          clear hX hv hv2
          go_upto_region 10 with (fail)
          rw [Nat.sub_self] at NB
          obtain ⟨w4, hw4⟩ : ∃ w4, w3.setCell ⟨x.b, 2, none⟩ (.slice A' 0 (rc - x.rest.length)) = w4 := ⟨_, rfl⟩
          rw [hw4] at NB ⊢
          clear hw4 q0 q1 q2 q3 hA
          have hX := NB.out.at'.r.hi _ (List.mem_cons_self)
          have q0 := hX.hb.cell (i := 0) rfl
          have q2 := hX.hb.cell (i := 2) rfl
          dsimp only at q0 q2
          clear hX
          have hst : (ms.map Msg.st)[x.n]? = some mv.st := by rw [HD.out.e, HD.out.n]; simp
          have CH := Lib.hid (change_any w4 base b room _ sv _ _ NB.out.at'.r x.n mv.st 3 hst (by have := HD.out.hm; omega) (by decide) (by rw [List.length_map]; have := HM.out.ln; omega))
          clear hst
          go_wp2_with fail
          refine CH.out.mono ?_
          rintro e w5 ⟨rfl, hR, hU⟩
          have NC := Lib.hid (NB.out.chg hR hU)
          clear hR hU CH q0 q2
          have b1 := NC.out.at'.r.hb.cell (i := 1) rfl
          have DQ := Lib.hid (delq_any w5 base qa ql qc _ l NC.out.at'.q)
          go_wp2_with fail
          refine DQ.out.mono ?_
          rintro e w6 ⟨rfl, hv, hu⟩
          have ND := Lib.hid (NC.out.del hv hu (by cases qa <;> rfl))
          have hR6 := NC.out.at'.r.updq hu (fun e => (nodup_parts NC.out.at'.r.nd).bq _ e rfl) (fun k hk e => (nodup_parts NC.out.at'.r.nd).qs k e hk) (fun k hk e => (nodup_parts NC.out.at'.r.nd).qi k e hk)
          have b1 := hR6.hb.cell (i := 1) rfl
          have b2 := hR6.hb.free 1
          clear hv hu hR6 DQ
          have e1 : Hid (mv.rest av.length = x.rest) := HD.out.r.symm
          have NX : Hid (NxM w base b room F fin want (B : Int) (.slice a' m' c') (.slice qa l.length qc) sv l (av ++ mv.take av.length k :: cv) (ol ++ x.rest) (w6.setCell ⟨b, 1, none⟩ (.slice qa l.length qc))) := by
            have e2 : x.rest.take k = x.rest := List.take_of_length_le hk
            have := HM.out.next HD.out (s := 3) (its' := l) (ov' := .slice a' m' c') (qv' := .slice qa l.length qc) (w' := w6.setCell ⟨b, 1, none⟩ (.slice qa l.length qc))
            rw [KK.out, e2] at this
            refine this ?_ ND.out (by rw [if_neg (by decide)])
            unfold Msg.take
            rw [e1.out, if_neg (by omega), if_pos (by omega)]
          go_wp2_with fail
          go_roundw
          case rel => exact ⟨_, _, _, _, _, NX.out⟩
          case measure =>
            have := em.out
            simp [lenV]
            omega
        · have hk1 : (k : Int) < (x.rest.length : Int) := by omega
          have TL : Hid ((x.rest.take k).length = k) := by show _ = _; rw [List.length_take]; omega
          obtain ⟨A', hA⟩ : ∃ A', (if rc = k then some (⟨rg, ro, none⟩ : Addr) else some ⟨rg, ro + k, none⟩) = A' := ⟨_, rfl⟩
          have CV : Hid (cutV (some ⟨rg, ro, none⟩) x.rest.length rc k = .slice A' (x.rest.length - k) (rc - k)) := cutV_eq hA (by omega) hrc1
          go_upto_region 8 with (fail)
          go_wp2_with (at_builtin; refine wpList_append_vw rfl _ _ 22 rfl w.heap.size 5 i0 _ 1 Try.underlying22 HI.out HZ0.out HZ1.out HZ2.out rfl (Value.int .u8) (fun _ => rfl) (.slice oa ol.length oc) ol rfl HM.out.a.out (some ⟨rg, ro, none⟩) rc (x.rest.take k) (by rw [TL.out]; rfl) ?c1 ?c2 ?c3 ?c4 ?_)
          case c1 => exact ((HM.out.a.at'.r.hi x (by simp)).hr.sl0 ERV.out).take k
          case c2 => rw [TL.out]; unfold maxLen; omega
          case c3 => rw [TL.out]; omega
          case c4 => exact HM.out.a.u.size
          intro v' w3 h1 h2 h3
          obtain ⟨a', m', c', em, rfl⟩ : ∃ a' m' c', Hid (m' = ol.length + k) ∧ v' = .slice a' m' c' := by
            obtain ⟨a', c', e⟩ := h1.shape
            refine ⟨a', _, c', ?_, e⟩
            show _ = _
            rw [List.length_append, TL.out]
          have NA := Lib.hid (HM.out.a.app h1 h2 h3)
          clear h1 h2 h3 b1 q0 q1 q2
          have hX := NA.out.at'.r.hi x (by simp)
          obtain ⟨q0, q1, q2⟩ := item_cells hX
          have q3 := hX.hb.free 2
          have hv := hX.hr
          rw [ERV.out] at q2 hv
          have hv2 := hv.drop (k := k) (by omega)
          rw [CV.out] at hv2
          have NB := Lib.hid (NA.out.cut hv2 (fun g hg => by
            rw [ERV.out]
            rw [← CV.out] at hg
            exact cutV_block (fun e => by cases e) hg))
          clear hX hv hv2
          go_upto_region 10 with (fail)
          skip
          obtain ⟨w4, hw4⟩ : ∃ w4, w3.setCell ⟨x.b, 2, none⟩ (.slice A' (x.rest.length - k) (rc - k)) = w4 := ⟨_, rfl⟩
          rw [hw4] at NB ⊢
          clear hw4 q0 q1 q2 q3 hA
          have hX := NB.out.at'.r.hi _ (List.mem_cons_self)
          have q0 := hX.hb.cell (i := 0) rfl
          have q2 := hX.hb.cell (i := 2) rfl
          dsimp only at q0 q2
          clear hX
          have hst : (ms.map Msg.st)[x.n]? = some mv.st := by rw [HD.out.e, HD.out.n]; simp
          have CH := Lib.hid (change_any w4 base b room _ sv _ _ NB.out.at'.r x.n mv.st 2 hst (by have := HD.out.hm; omega) (by decide) (by rw [List.length_map]; have := HM.out.ln; omega))
          clear hst
          go_wp2_with fail
          refine CH.out.mono ?_
          rintro e w5 ⟨rfl, hR, hU⟩
          have NC := Lib.hid (NB.out.chg hR hU)
          clear hR hU CH q0 q2
          go_wp2_with fail
          go_ret
          refine ⟨_, rfl, NxM.done (HM.out.next HD.out (s := 2) (qv' := .slice qa ql qc) (ov' := .slice a' m' c') (w' := w5) (its' := ⟨x.n, x.dl, x.rest.drop k, x.b, .slice A' (x.rest.length - k) (rc - k)⟩ :: l) ?_ ?_ ?_) (.inr ?_)⟩
          · rw [KK.out]
            unfold Msg.take
            rw [← HD.out.r, if_neg (by omega), if_neg (by omega)]
          · rw [KK.out]; exact NC.out
          · rw [KK.out, if_pos (by decide), Nat.min_eq_right (by omega)]; rfl
          · rw [KK.out, List.length_append, TL.out]
            have := HB.out
            omega
end Go.Proofs.Ytjljjohoipnhhaa
