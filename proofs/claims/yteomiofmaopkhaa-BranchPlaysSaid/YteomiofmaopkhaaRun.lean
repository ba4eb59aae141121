/-
  Contract of run.
-/
import Derived.Test.YteomiofmaopkhaaRunP
namespace Go.Proofs.Yteomiofmaopkhaa
open Go.RowKit
set_option linter.unusedVariables false

theorem Try.infoRR : (Try.prog.info? 26).map (fun i => (i.zero, i.size, i.bytes)) = some (some (.slice none 0 0), 1, 24) := by kernel_rfl
theorem make_rows (w : World) (n : Nat) (h : n ≤ 1000000) : (Instr.makeSlice 30 (.int .i64 n) (.int .i64 n)).run Try.prog w =
    .ok (.slice (some ⟨w.heap.size, 0, none⟩) n n) (w.alloc (.cells (List.replicate n (Value.slice none 0 0)).toArray 26)) := by
  obtain ⟨i, hi, hz, hs, hb⟩ := info_parts Try.infoRR
  rw [run_make w 30 26 i _ Try.underlying30 hi hz .i64 .i64 n n (by omega) (by omega) (by rw [hb]; omega) (by omega)]
  have e : madeCells (Value.slice none 0 0).cells (((n : Int).toNat) * i.size) = (List.replicate n (Value.slice none 0 0)).toArray := by
    rw [hs, Nat.mul_one, Int.toNat_natCast]
    apply Array.toList_inj.1
    rw [show (Value.slice none 0 0).cells = #[Value.slice none 0 0] from rfl, toList_madeCells_one]
  rw [e, Int.toNat_natCast]
theorem results_tmp4 {fn : Func} {t u v x : Tmp} (h : fn.results = #[.tmp t, .tmp u, .tmp v, .tmp x]) (tmps : Array Value) (P : Program) (w : World) :
    (results fn tmps).run P w = .ok (.tuple #[tmps.getD t undef, tmps.getD u undef, tmps.getD v undef, tmps.getD x undef]) w := by simp [results, h]
theorem own_base {w : World} {B B' : Nat} {e : TypeId} {size : Nat} {v : Value} {n : Nat} {xs : List Value} (h : w.ownsRow B e size v n xs) (hB : B' ≤ B) : w.ownsRow B' e size v n xs := by
  obtain ⟨h1, h⟩ := h
  refine ⟨h1, ?_⟩
  rcases h with h | ⟨g, cap, cur, r, hg, rest⟩
  · exact .inl h
  · exact .inr ⟨g, cap, cur, r, Nat.le_trans hB hg, rest⟩

def RnAt (w0 : World) (b ml o : Nat) (room : Int) (st : RunSt) (pv : Value) (w : World) : Prop :=
  ∃ v prow rows col, RunM w0 w0.heap.size b ml o room v st.fs st.freed pv prow rows col w ∧ prow.map RowOf.xs = st.put ∧ rows.map RowOf.xs = st.left
def RnRel (w0 : World) (b ml o : Nat) (room : Int) (xs : List OpR) (pv lv fv i : Value) (w : World) : Prop :=
  ∃ k : Nat, k ≤ xs.length ∧ lv = .slice (some ⟨ml, 0, none⟩) o o ∧ fv = .pointer (some ⟨b, 0, none⟩) ∧ i = .int .i64 k ∧ RunInv o room k (runAll o room (xs.take k)) ∧ RnAt w0 b ml o room (runAll o room (xs.take k)) pv w
def RunPost (w0 : World) (o : Nat) (room : Int) (xs : List OpR) (e : Ending) (w : World) : Prop :=
  ∃ (b ml : Nat) (pv : Value), e = .returned (.tuple #[pv, .slice (some ⟨ml, 0, none⟩) o o, .pointer (some ⟨b, 0, none⟩), .bool true]) ∧ RnAt w0 b ml o room (runAll o room xs) pv w ∧ RunInv o room xs.length (runAll o room xs)
/-- The inner loop at output j. -/
def RiRel (w0 : World) (b ml o : Nat) (room : Int) (v : Value) (fs : List Fr) (freed : Int) (pv : Value) (prow : List (RowOf Int)) (left : List (List Int)) (ids : List Int) (lr bx : Nat) (xv : List Value) (p l f i : Value) (w : World) : Prop :=
  ∃ (j : Nat) (rows : List (RowOf Int)) (col : Nat → Nat), j ≤ o ∧ p = pv ∧ l = .slice (some ⟨ml, 0, none⟩) o o ∧ f = .pointer (some ⟨b, 0, none⟩) ∧ i = .int .i64 j ∧ RunM w0 w0.heap.size b ml o room v fs freed pv prow rows col w ∧
    rows.map RowOf.xs = addLeft (left.take j) (ids.take j) ++ left.drop j ∧ Blk w lr 3 (ids.map (Value.int .i64)) ∧ (col lr = 0 ∨ col lr = 3) ∧ Blk w bx 28 xv ∧ col bx = 3
theorem addLeft_take {ls : List (List Int)} {is : List Int} {j : Nat} {l : List Int} {i : Int} (hl : ls[j]? = some l) (hi : is[j]? = some i) :
    addLeft (ls.take (j + 1)) (is.take (j + 1)) = addLeft (ls.take j) (is.take j) ++ [if 0 ≤ i then l ++ [i] else l] := by
  induction ls generalizing is j with
  | nil => simp at hl
  | cons a ls ih =>
    cases is with
    | nil => simp at hi
    | cons c is =>
      cases j with
      | zero => simp at hl hi; subst hl hi; simp [addLeft]
      | succ j => simp at hl hi; simp [addLeft, ih hl hi]
theorem addLeft_all (ls : List (List Int)) (is : List Int) (h : is.length = ls.length) : addLeft (ls.take ls.length) (is.take ls.length) ++ ls.drop ls.length = addLeft ls is := by
  rw [List.take_length, ← h, List.take_length, h, List.drop_length, List.append_nil]

theorem drop_cons_get {α : Type} {l : List α} {j : Nat} {a : α} (h : l[j]? = some a) : l.drop j = a :: l.drop (j + 1) := by
  obtain ⟨h1, rfl⟩ := List.getElem?_eq_some_iff.1 h
  exact List.drop_eq_getElem_cons h1
theorem set_mid {α : Type} (A D : List α) (l y : α) : (A ++ l :: D).set A.length y = A ++ y :: D := by simp

set_option maxHeartbeats 20000000 in
set_option maxRecDepth 100000 in
theorem run_any (w0 : World) (o : Nat) (room : Int) (a : Option Addr) (c : Nat) (xs : List OpR) (hs : SlOp w0 a xs) (hok : ∀ x ∈ xs, OpOk w0 x) (ho1 : 1 ≤ o) (ho8 : o ≤ 8) (hr1 : 1 ≤ room) (hr64 : room ≤ 64) (hl : xs.length ≤ 200) (hb12 : ∀ x ∈ xs, x.outs.length ≤ 12 ∧ x.rdy.length ≤ 12) :
    Calls Try.prog 14 #[.int .i64 o, .int .i64 room, .slice a xs.length c] w0 (RunPost w0 o room xs) := by
  have S := Lib.hid hs; have OK := Lib.hid hok; have B12 := Lib.hid hb12
  clear hs hok hb12
  have N0 := Lib.hid (newF_ok o room w0 (by omega) (by omega) hr1 hr64)
  have hmk := fun w => make_rows w o (by omega)
  generalize hL : List.replicate o (Value.slice none 0 0) = L at hmk
  have HL := Lib.hid hL; clear hL
  obtain ⟨i0, hi, hz0, hz1, hz2⟩ := info_parts Try.infoBI
  have HI := Lib.hid hi; have HZ0 := Lib.hid hz0; have HZ1 := Lib.hid hz1; have HZ2 := Lib.hid hz2
  clear hi hz0 hz1 hz2
  obtain ⟨i1, hi, hz0, hz1, hz2⟩ := info_parts Try.infoRR
  have RI := Lib.hid hi; have RZ0 := Lib.hid hz0; have RZ1 := Lib.hid hz1; have RZ2 := Lib.hid hz2
  clear hi hz0 hz1 hz2
  go_enter Try.func14, Try.ntmps14
  go_wp2_with fail
  refine N0.out.mono ?_
  rintro e w1 ⟨rfl, hF, hB, hz⟩
  have M0 : Hid (RnAt w0 w0.heap.size w1.heap.size o room ⟨[], List.replicate o [], [], 0⟩ (.slice none 0 0) (w1.alloc (.cells L.toArray 26))) := by
    refine ⟨.slice none 0 0, [], List.replicate o ⟨none, 0, []⟩, fun j => if j = w0.heap.size then 0 else 2, ⟨hF.below ((Below.refl _ _).alloc (Nat.le_refl _) _), ⟨rfl, .inl ⟨rfl, rfl⟩⟩, by simp, ?_, ?_, by simp, ?_, by simp [Value.ownBlock], ?_, by simp, ?_, by omega, hB.alloc (by omega) _, by simp; omega⟩, rfl, by simp⟩
    · have e : (List.replicate o (⟨none, 0, []⟩ : RowOf Int)).map RowOf.val = L := by rw [← HL.out, List.map_replicate]; rfl
      rw [e]; exact Blk.new w1 _ L
    · intro r hr
      rw [List.eq_of_mem_replicate hr]
      exact ⟨rfl, .inl ⟨rfl, rfl⟩⟩
    · intro j hj
      rcases hj with rfl | hj
      · simp
      · simp [Value.ownBlock] at hj
    · rw [if_neg (by omega)]
    · intro k r hr j hj
      rw [List.eq_of_mem_replicate (List.mem_of_getElem? hr)] at hj
      simp [RowOf.val, Value.ownBlock] at hj
  clear hF hB hz N0
  go_wp2_with fail
  generalize w1.alloc (.cells L.toArray 26) = w2 at *
  generalize w1.heap.size = ml at *
  generalize hbb : w0.heap.size = b at *
  have HBB := Lib.hid hbb; clear hbb hmk
  go_loopw [6, 7, 8, 32] (fun pv lv fv i w => RnRel w0 b ml o room xs pv lv fv i w) (fun _ _ _ i _ => xs.length - (intOf i).toNat)
  case atStart => exact ⟨0, Nat.zero_le _, rfl, rfl, rfl, RunInv.init o room (by omega), M0.out⟩
  case round =>
    obtain ⟨k, hk, rfl, rfl, rfl, hinv, v, prow, rows, col, hM, hpx, hlx⟩ := hrel
    have HM := Lib.hid hM; have INV := Lib.hid hinv; have PX := Lib.hid hpx; have LX := Lib.hid hlx
    clear hM hinv hpx hlx M0
    by_cases hlt : k < xs.length
    · obtain ⟨x, ex, okx, c0, c1, c2⟩ := (S.out.below (by have := HM.out.bel; exact this)).get (k := k) hlt
      obtain ⟨hoS, hoL, hrS, hrL⟩ := OK.out x (List.mem_of_getElem? ex.out)
      obtain ⟨hb1, hb2⟩ := B12.out x (List.mem_of_getElem? ex.out)
      have OS := Lib.hid hoS; have RS := Lib.hid hrS
      have NXT := Lib.hid (runAll_step (o := o) (room := room) ex.out)
      have INV2 := Lib.hid (INV.out.op ho8 x)
      have hpk := INV.out.pk
      generalize runAll o room (xs.take k) = st at *
      have FIN : Hid (∀ pv w, RnAt w0 b ml o room (runOp o room st x) pv w → RnRel w0 b ml o room xs pv (.slice (some ⟨ml, 0, none⟩) o o) (.pointer (some ⟨b, 0, none⟩)) (.int .i64 ((k + 1 : Nat) : Int)) w) := fun pv w h => ⟨k + 1, by omega, rfl, rfl, rfl, by rw [NXT.out]; exact INV2.out, by rw [NXT.out]; exact h⟩
      clear hoS hrS hoL hrL
      obtain ⟨xid, oa, oc, outs, ra, rc, rdy⟩ := x
      dsimp only at c0 c1 c2 hb1 hb2 OS RS
      have RM1 := Lib.hid (HM.out.below ((Below.refl _ wr).alloc (Nat.le_refl _) (.cells #[.int .i64 xid, .slice oa outs.length oc, .slice ra rdy.length rc] 28)) 3)
      have BX : Hid (Blk (wr.alloc (.cells #[.int .i64 xid, .slice oa outs.length oc, .slice ra rdy.length rc] 28)) wr.heap.size 28 [.int .i64 xid, .slice oa outs.length oc, .slice ra rdy.length rc]) := Blk.new wr _ [.int .i64 xid, .slice oa outs.length oc, .slice ra rdy.length rc]
      have CB : Hid (recol col wr.heap.size 3 wr.heap.size = 3) := recol_new (Nat.le_refl _)
      have hplen : Hid (prow.length = st.put.length) := by show _ = _; rw [← PX.out, List.length_map]
      generalize recol col wr.heap.size 3 = col1 at *
      obtain ⟨ap, cp, rfl, _⟩ := own_shape RM1.out.hp
      have hpl : prow.length ≤ 200 := by have := hplen.out; omega
      have hfl : st.fs.length ≤ 1000 := by have := INV.out.fr; omega
      have bx0 := BX.out.cell (i := 0) rfl
      have bx1 := BX.out.cell (i := 1) rfl
      have bx2 := BX.out.cell (i := 2) rfl
      have hbxl := BX.out.lt
      by_cases hput : 0 < outs.length
      · have hop : Hid (runOp o room st ⟨xid, oa, oc, outs, ra, rc, rdy⟩ = putSt o room outs st) := by show _ = _; unfold runOp; rw [if_pos hput]
        rw [hop.out] at FIN
        have PT := Lib.hid (put_any _ w0.heap.size b o room v st.fs st.freed prow.length RM1.out.hF oa oc outs (OS.out.below RM1.out.bel) (by omega) (by omega) (by omega) hfl hr64 RM1.out.hB)
        go_wp2_with fail
        clear bx0 bx2
        refine PT.out.mono ?_
        rintro e w3 (⟨hno, rfl, hb⟩ | ⟨m, hm, ⟨hany, _⟩ | ⟨_, hfull, rfl, hb⟩ | ⟨hany, hroom, rfl, v', hF, hU, hv⟩⟩)
        · as_aux_lemma =>
            have hst : Hid (putSt o room outs st = st) := by show _ = _; unfold putSt; rw [hno]
            rw [hst.out] at FIN
            have F1 := Lib.hid (FIN.out _ w3 ⟨_, _, _, _, RM1.out.below hb 3, PX.out, LX.out⟩)
            clear hb hno
            go_wp2_with fail
            go_roundw
            case rel => have := F1.out; simpa using this
            case measure => simp [intOf]; omega
        · exact absurd hany (by rw [hplen.out, INV.out.none]; decide)
        · as_aux_lemma =>
            have hst : Hid (putSt o room outs st = st) := by show _ = _; unfold putSt; rw [hm]; dsimp only; rw [if_neg (by omega)]
            rw [hst.out] at FIN
            have F1 := Lib.hid (FIN.out _ w3 ⟨_, _, _, _, RM1.out.below hb 3, PX.out, LX.out⟩)
            clear hb hm hfull
            go_wp2_with fail
            go_roundw
            case rel => have := F1.out; simpa using this
            case measure => simp [intOf]; omega
        · as_aux_lemma =>
            have hst : Hid (putSt o room outs st = { st with put := st.put ++ [outs], fs := st.fs ++ [⟨prow.length, m⟩] }) := by show _ = _; rw [hplen.out]; unfold putSt; rw [hm]; dsimp only; rw [if_pos hroom]
            rw [hst.out] at FIN
            have RM2 := Lib.hid (RM1.out.fork hU hF hv)
            have BX2 := Lib.hid (BX.out.upd hU (fun h => by have := RM1.out.cF _ h; rw [CB.out] at this; omega))
            have bx1' := BX2.out.cell (i := 1) rfl
            clear hF hU hv hany hm bx1
            generalize recol col1 _ 0 = col2 at *
            have CL := Lib.hid (cloneInt_any w3 oa oc outs (OS.out.below RM2.out.bel) (by omega))
            go_wp2_with fail
            refine CL.out.mono ?_
            rintro e w4 ⟨vr, rfl, hrw, hb⟩
            obtain ⟨ar, cr, rfl, hrest⟩ := hrw
            have hown : OwnI w4 w0.heap.size ⟨ar, cr, outs⟩ := own_base (Rw.own ⟨ar, cr, rfl, hrest⟩) RM2.out.hB
            have hcr : ∀ j, (RowOf.val ⟨ar, cr, outs⟩).ownBlock = some j → w3.heap.size ≤ j := fun j hj => (own_lt (Rw.own ⟨ar, cr, rfl, hrest⟩ : w4.ownsRow w3.heap.size _ _ _ _ _) hj).2
            have RM3 := Lib.hid (RM2.out.below hb 3)
            have OWN := Lib.hid hown
            have CR : Hid (∀ j, (RowOf.val ⟨ar, cr, outs⟩).ownBlock = some j → recol col2 w3.heap.size 3 j = 3) := fun j hj => recol_new (hcr j hj)
            clear hown hcr hrest hb
            generalize recol col2 w3.heap.size 3 = col3 at *
            have RM4 := Lib.hid (RM3.out.below ((Below.refl _ w4).alloc (Nat.le_refl _) (.cells #[.slice ar outs.length cr] 26)) 3)
            have OWN4 : Hid (OwnI (w4.alloc (.cells #[.slice ar outs.length cr] 26)) w0.heap.size ⟨ar, cr, outs⟩) := own_upd (S := fun _ => False) OWN.out ((Upd.refl _ _).alloc _) (fun _ _ => id)
            have CR4 : Hid (∀ j, (RowOf.val ⟨ar, cr, outs⟩).ownBlock = some j → recol col3 w4.heap.size 3 j = 3) := fun j hj => by rw [recol_old (own_lt OWN.out hj).1]; exact CR.out j hj
            have h4 := RM3.out.hB
            go_wp2_with (at_builtin; refine wpList_append_lies _ rfl _ _ 30 rfl w0.heap.size 26 i1 _ 1 24 Try.underlying30 RI.out RZ0.out RZ1.out RZ2.out rfl (by decide) _ prow.length (prow.map RowOf.val) rfl ?c0 ⟨w4.heap.size, 0, none⟩ 1 1 [.slice ar outs.length cr] rfl ?c1 ?c2 ?c3 (by decide) ?c4 ?c5 ?c6 (w4.heap.size + 1) ?c7 ?_)
            case c0 => exact RM4.out.hp
            case c1 => rfl
            case c2 => exact news_new (vs := [.slice ar outs.length cr]) rfl
            case c3 => intro u hu; simp at hu; subst hu; rfl
            case c4 => unfold maxLen; omega
            case c5 => omega
            case c6 => simp; omega
            case c7 => simp
            intro g cap w5 hown hgr hat hglt
            have RM5 := Lib.hid (RM4.out.addPut OWN4.out CR4.out ⟨hgr.os, hgr.tape, hgr.output, hgr.size, fun j hj hs => hgr.block j hj (fun e => hs e.symm)⟩ hown (hat.imp id (fun h => by simp; omega)))
            have F1 := Lib.hid (FIN.out _ w5 ⟨_, _, _, _, RM5.out, by rw [List.map_append, PX.out]; rfl, LX.out⟩)
            clear hown hgr hat hglt
            go_wp2_with fail
            go_roundw
            case rel => have := F1.out; simpa using this
            case measure => simp [intOf]; omega
      · have h0 : outs.length = 0 := by omega
        have hne0 : ¬ (0 : Int) < (outs.length : Int) := by omega
        have H0 := Lib.hid h0; clear h0
        by_cases hrd : rdy.length = o
        · have hop : Hid (runOp o room st ⟨xid, oa, oc, outs, ra, rc, rdy⟩ = stepSt rdy st) := by show _ = _; unfold runOp; rw [if_neg hput, if_pos hrd]
          rw [hop.out] at FIN
          rw [hrd] at RM1 BX bx0 bx1 bx2 hbxl c2
          have HRD := Lib.hid hrd
          have hap : ¬ fkS b v (ra.getD default).block := by
            intro hj
            have h1 := (RM1.out.hF.f_lt hj).2
            have h2 := (RS.out 0 (rdy[0]'(by omega)) (by simp)).2
            have h3 : (ra.getD default).block < w0.heap.size := World.block_lt_of_cell? _ (adr ra 0) h2
            omega
          have ST := Lib.hid (step_any _ w0.heap.size b o room v st.fs st.freed RM1.out.hF ra rc rdy (RS.out.below RM1.out.bel) hrd ho8 ho1 hfl INV.out.b8 INV.out.f0 (by have := INV.out.cnt; omega) hap)
          clear hap
          go_wp2_with fail
          refine ST.out.mono ?_
          rintro e w3 ⟨v', rfl, hX, hF, hU, hv⟩
          have RM2 := Lib.hid (RM1.out.fork hU hF (.inl hv))
          have BX2 := Lib.hid (BX.out.upd hU (fun h => by have := RM1.out.cF _ h; rw [CB.out] at this; omega))
          have XB := Lib.hid hX
          have CX : Hid (recol col1 (wr.alloc (.cells #[.int .i64 xid, .slice oa outs.length oc, .slice ra o rc] 28)).heap.size 0 (wr.alloc (.cells #[.int .i64 xid, .slice oa outs.length oc, .slice ra o rc] 28)).heap.size = 0) := recol_new (Nat.le_refl _)
          have CB2 : Hid (recol col1 (wr.alloc (.cells #[.int .i64 xid, .slice oa outs.length oc, .slice ra o rc] 28)).heap.size 0 wr.heap.size = 3) := by show _ = _; rw [recol_old hbxl]; exact CB.out
          clear hX hF hU hv bx0 bx1 bx2
          generalize recol col1 (wr.alloc (.cells #[.int .i64 xid, .slice oa outs.length oc, .slice ra o rc] 28)).heap.size 0 = col2 at *
          generalize (wr.alloc (.cells #[.int .i64 xid, .slice oa outs.length oc, .slice ra o rc] 28)).heap.size = lr at *
          generalize wr.heap.size = bx at *
          have IL : Hid ((stepAll rdy 0 st.fs).1.length = o) := by show _ = _; rw [(stepAll_len _ _ _).2, HRD.out]
          have FIN2 : Hid (∀ rows col w, RunM w0 w0.heap.size b ml o room v' (keepF (stepAll rdy 0 st.fs).2) (st.freed + ((st.fs.length : Int) - (keepF (stepAll rdy 0 st.fs).2).length)) (.slice ap prow.length cp) prow rows col w → rows.map RowOf.xs = addLeft st.left (stepAll rdy 0 st.fs).1 → RnRel w0 b ml o room xs (.slice ap prow.length cp) (.slice (some ⟨ml, 0, none⟩) o o) (.pointer (some ⟨b, 0, none⟩)) (.int .i64 ((k + 1 : Nat) : Int)) w) :=
            fun rows col w h1 h2 => FIN.out _ w ⟨_, _, _, _, h1, PX.out, h2⟩
          go_wp2_with fail
          go_loopw [6, 7, 8, 68] (fun p l f i w => RiRel w0 b ml o room v' (keepF (stepAll rdy 0 st.fs).2) (st.freed + ((st.fs.length : Int) - (keepF (stepAll rdy 0 st.fs).2).length)) (.slice ap prow.length cp) prow st.left (stepAll rdy 0 st.fs).1 lr bx [.int .i64 xid, .slice oa outs.length oc, .slice ra o rc] p l f i w) (fun _ _ _ i _ => o - (intOf i).toNat)
          case atStart => exact ⟨0, rows, col2, Nat.zero_le _, rfl, rfl, rfl, rfl, RM2.out, by rw [LX.out]; rfl, XB.out, .inl CX.out, BX2.out, CB2.out⟩
          case round =>
            obtain ⟨j, rows2, col3, hj, rfl, rfl, rfl, rfl, hM, hL, hXB, hcx, hBX, hcb⟩ := hrel
            have M := Lib.hid hM; have HL2 := Lib.hid hL; have XB3 := Lib.hid hXB; have BX3 := Lib.hid hBX; have CX3 := Lib.hid hcx; have CB3 := Lib.hid hcb
            clear hM hL hXB hBX hcx hcb
            by_cases hlt : j < o
            · obtain ⟨x, ex⟩ : ∃ x, (stepAll rdy 0 st.fs).1[j]? = some x := ⟨_, List.getElem?_eq_getElem (by rw [IL.out]; exact hlt)⟩
              obtain ⟨l, el⟩ : ∃ l, st.left[j]? = some l := ⟨_, List.getElem?_eq_getElem (by rw [INV.out.lo]; exact hlt)⟩
              have AL := Lib.hid (addLeft_take el ex)
              have EX := Lib.hid ex; have EL := Lib.hid el
              have xc := XB3.out.cell (i := j) (v := .int .i64 x) (by simp [ex])
              have hx0 := stepAll_rdy rdy 0 st.fs j x ex
              clear ex el
              have hA : Hid ((addLeft (st.left.take j) ((stepAll rdy 0 st.fs).1.take j)).length = j) := by show _ = _; rw [addLeft_len, List.length_take, INV.out.lo]; omega
              by_cases h0 : 0 ≤ x
              · obtain ⟨oka, rc0⟩ := (RS.out.below M.out.bel) j true (hx0 h0)
                clear hx0
                have b2 := BX3.out.cell (i := 2) rfl
                obtain ⟨⟨ar, cr, l2⟩, er⟩ : ∃ r, rows2[j]? = some r := ⟨_, List.getElem?_eq_getElem (by rw [M.out.ho]; exact hlt)⟩
                have hl2 : l2 = l := by
                  have h1 : (rows2.map RowOf.xs)[j]? = some l2 := by rw [List.getElem?_map, er]; rfl
                  rw [HL2.out, List.getElem?_append_right (by rw [hA.out]; exact Nat.le_refl _), hA.out, Nat.sub_self, drop_cons_get EL.out] at h1
                  simpa using h1.symm
                subst hl2
                have hlen : l2.length ≤ 200 := by have := INV.out.lk l2 (List.mem_of_getElem? EL.out); omega
                have mc := M.out.hm.cell (i := j) (v := .slice ar l2.length cr) (by rw [List.getElem?_map, er]; rfl)
                have ER := Lib.hid er
                have MA := Lib.hid (M.out.below ((Below.refl _ wr).alloc (Nat.le_refl _) (.cells #[.int .i64 x] 3)) 3)
                have XBA := Lib.hid (XB3.out.upd ((Upd.refl (fun _ => False) wr).alloc (.cells #[.int .i64 x] 3)) id)
                have BXA := Lib.hid (BX3.out.upd ((Upd.refl (fun _ => False) wr).alloc (.cells #[.int .i64 x] 3)) id)
                have CXA := Lib.hid (show recol col3 wr.heap.size 3 lr = 0 ∨ recol col3 wr.heap.size 3 lr = 3 by rw [recol_old XB3.out.lt]; exact CX3.out)
                have CBA := Lib.hid ((recol_old BX3.out.lt).trans CB3.out : recol col3 wr.heap.size 3 _ = 3)
                generalize recol col3 wr.heap.size 3 = col4 at *
                clear er
                go_wp2_with (at_builtin; refine wpList_append_lies _ rfl _ _ 26 rfl w0.heap.size 3 i0 _ 1 8 Try.underlying26 HI.out HZ0.out HZ1.out HZ2.out rfl (by decide) _ l2.length (l2.map (Value.int .i64)) rfl ?c0 ⟨wr.heap.size, 0, none⟩ 1 1 [.int .i64 x] rfl ?c1 ?c2 ?c3 (by decide) ?c4 ?c5 ?c6 (wr.heap.size + 1) ?c7 ?_)
                case c0 => exact MA.out.hl ⟨ar, cr, l2⟩ (List.mem_of_getElem? ER.out)
                case c1 => rfl
                case c2 => exact news_new (vs := [.int .i64 x]) rfl
                case c3 => intro u hu; simp at hu; subst hu; rfl
                case c4 => unfold maxLen; omega
                case c5 => omega
                case c6 => have := M.out.hB; simp; omega
                case c7 => simp
                intro g cap w5 hown hgr hat hglt
                have hU : Upd (fun i => (RowOf.val ⟨ar, cr, l2⟩).ownBlock = some i) (wr.alloc (.cells #[.int .i64 x] 3)) w5 := ⟨hgr.os, hgr.tape, hgr.output, hgr.size, fun i hi hs => hgr.block i hi (fun e => hs e.symm)⟩
                have cml : ∀ i, (RowOf.val ⟨ar, cr, l2⟩).ownBlock = some i → col4 i = 4 + j := fun i hi => MA.out.cL j _ ER.out i hi
                have hml : Blk w5 ml 26 (rows2.map RowOf.val) := MA.out.hm.upd hU (fun hs => by have := cml _ hs; rw [MA.out.cM] at this; omega)
                have mfree := hml.free j
                have mc5 := hml.cell (i := j) (v := .slice ar l2.length cr) (by rw [List.getElem?_map, ER.out]; rfl)
                have REL : Hid (RiRel w0 b ml o room v' (keepF (stepAll rdy 0 st.fs).2) (st.freed + ((st.fs.length : Int) - (keepF (stepAll rdy 0 st.fs).2).length)) (.slice ap prow.length cp) prow st.left (stepAll rdy 0 st.fs).1 lr bx [.int .i64 xid, .slice oa outs.length oc, .slice ra o rc] (.slice ap prow.length cp) (.slice (some ⟨ml, 0, none⟩) o o) (.pointer (some ⟨b, 0, none⟩)) (.int .i64 ((j + 1 : Nat) : Int)) (w5.setCell ⟨ml, j, none⟩ (.slice (some ⟨g, 0, none⟩) (l2.length + 1) cap))) := by
                  refine ⟨j + 1, _, _, by omega, rfl, rfl, rfl, rfl, MA.out.addLeft (k := j) ER.out x hU hown (hat.imp id (fun h => by simp; omega)), ?_,
                    (XBA.out.upd hU (fun hs => by have := cml _ hs; have := CXA.out; omega)).setO _ (fun e => by have h1 := MA.out.cM; have h2 := CXA.out; rw [e] at h2; change col4 ml = 0 ∨ col4 ml = 3 at h2; omega),
                    by rw [recol_old XBA.out.lt]; exact CXA.out,
                    (BXA.out.upd hU (fun hs => by have := cml _ hs; have := CBA.out; omega)).setO _ (fun e => by have h1 := MA.out.cM; have h2 := CBA.out; rw [e] at h2; change col4 ml = 3 at h2; omega),
                    by rw [recol_old BXA.out.lt]; exact CBA.out⟩
                  rw [AL.out, if_pos h0, List.map_set, HL2.out, drop_cons_get EL.out]
                  have := set_mid (addLeft (st.left.take j) ((stepAll rdy 0 st.fs).1.take j)) (st.left.drop (j + 1)) l2 (l2 ++ [x])
                  rw [hA.out] at this
                  rw [this]; simp
                clear hU cml hml hown hgr hat hglt
                go_wp2_with fail
                go_roundw
                case rel => have := REL.out; simpa using this
                case measure => simp [intOf]; omega
              · clear hx0
                go_wp2_with fail
                go_roundw
                case rel => exact ⟨j + 1, rows2, col3, by omega, rfl, rfl, rfl, by go_num, M.out, by rw [AL.out, if_neg h0, HL2.out, drop_cons_get EL.out]; simp, XB3.out, CX3.out, BX3.out, CB3.out⟩
                case measure => simp [intOf]; omega
            · obtain rfl : j = o := by omega
              have F1 := Lib.hid (FIN2.out _ _ _ M.out (by rw [HL2.out]; have e1 := INV.out.lo; have e2 := IL.out; rw [← addLeft_all st.left _ (e2.trans e1.symm), e1]))
              go_wp2_with fail
              go_roundw
              case rel => have := F1.out; simpa using this
              case measure => simp [intOf]; omega
        · have hop : Hid (runOp o room st ⟨xid, oa, oc, outs, ra, rc, rdy⟩ = st) := by show _ = _; unfold runOp; rw [if_neg hput, if_neg hrd]
          rw [hop.out] at FIN
          have F1 := Lib.hid (FIN.out _ _ ⟨_, _, _, _, RM1.out, PX.out, LX.out⟩)
          have hnb : ((rdy.length : Int) != (o : Int)) = true := by rw [bne_iff_ne]; omega
          go_wp2_with fail
          go_roundw
          case rel => have := F1.out; simpa using this
          case measure => simp [intOf]; omega
    · obtain rfl : k = xs.length := by omega
      have e : Hid (runAll o room (xs.take xs.length) = runAll o room xs) := by show _ = _; rw [List.take_length]
      rw [e.out] at INV HM PX LX
      go_wp2_with fail
      refine bodyPost_ret (results_tmp4 rfl _ _ _) rfl ?_
      exact ⟨b, ml, _, rfl, ⟨_, _, _, _, HM.out, PX.out, LX.out⟩, INV.out⟩
end Go.Proofs.Yteomiofmaopkhaa
