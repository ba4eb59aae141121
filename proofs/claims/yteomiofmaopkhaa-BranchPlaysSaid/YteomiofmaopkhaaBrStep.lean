/-
  Contract of Step.
-/
import Derived.Test.YteomiofmaopkhaaBrDel
namespace Go.Proofs.Yteomiofmaopkhaa
open Go.RowKit
set_option linter.unusedVariables false

/-- A copy of the first frame with output k leaves. -/
def takeK (k : Nat) : List Fr → Option (Int × List Fr)
  | [] => none
  | x :: xs => if hasB x.bits k = true then some (x.id, ⟨x.id, clrB x.bits k⟩ :: xs) else (takeK k xs).map fun p => (p.1, x :: p.2)
def stepK (k : Nat) (rd : Bool) (fs : List Fr) : Int × List Fr := if rd = true then (takeK k fs).getD (-1, fs) else (-1, fs)
def stepAll : List Bool → Nat → List Fr → List Int × List Fr
  | [], _, fs => ([], fs)
  | r :: rs, k, fs => ((stepK k r fs).1 :: (stepAll rs (k + 1) (stepK k r fs).2).1, (stepAll rs (k + 1) (stepK k r fs).2).2)
theorem takeK_none {k : Nat} : ∀ {fs : List Fr}, (∀ (j : Nat) (y : Fr), fs[j]? = some y → hasB y.bits k = false) → takeK k fs = none
  | [], _ => rfl
  | x :: xs, h => by
    have h0 := h 0 x rfl
    unfold takeK
    rw [if_neg (by simp [h0]), takeK_none (fs := xs) (fun j y hy => h (j + 1) y (by simpa using hy))]
    rfl
theorem takeK_some {k : Nat} : ∀ {fs : List Fr} {i : Nat} {x : Fr}, fs[i]? = some x → hasB x.bits k = true → (∀ (j : Nat) (y : Fr), j < i → fs[j]? = some y → hasB y.bits k = false) →
    takeK k fs = some (x.id, fs.set i ⟨x.id, clrB x.bits k⟩)
  | [], i, x, h, _, _ => by simp at h
  | y :: ys, 0, x, h, hb, _ => by simp at h; subst h; unfold takeK; rw [if_pos hb]; rfl
  | y :: ys, i + 1, x, h, hb, hn => by
    have h0 := hn 0 y (by omega) rfl
    unfold takeK
    rw [if_neg (by simp [h0]), takeK_some (fs := ys) (i := i) (x := x) (by simpa using h) hb (fun j z hj hz => hn (j + 1) z (by omega) (by simpa using hz))]
    rfl
theorem takeK_len {k : Nat} : ∀ {fs : List Fr} {p : Int × List Fr}, takeK k fs = some p → p.2.length = fs.length
  | [], p, h => by simp [takeK] at h
  | x :: xs, p, h => by
    unfold takeK at h
    split at h
    · simp at h; subst h; simp
    · cases e : takeK k xs with
      | none => rw [e] at h; simp at h
      | some q => rw [e] at h; simp at h; subst h; simp [takeK_len e]
theorem stepK_len (k : Nat) (rd : Bool) (fs : List Fr) : (stepK k rd fs).2.length = fs.length := by
  unfold stepK
  split
  · cases e : takeK k fs with
    | none => rfl
    | some p => exact takeK_len e
  · rfl
theorem stepAll_len : ∀ (rs : List Bool) (k : Nat) (fs : List Fr), (stepAll rs k fs).2.length = fs.length ∧ (stepAll rs k fs).1.length = rs.length
  | [], _, _ => ⟨rfl, rfl⟩
  | r :: rs, k, fs => by
    have h := stepAll_len rs (k + 1) (stepK k r fs).2
    exact ⟨h.1.trans (stepK_len _ _ _), by simp [stepAll, h.2]⟩
def lrow (ids : List Int) (m : Nat) : List Int := ids ++ List.replicate m 0
theorem lrow_set {ids : List Int} {m : Nat} (hm : 0 < m) (x : Int) : (lrow ids m).set ids.length x = lrow (ids ++ [x]) (m - 1) := by
  unfold lrow
  obtain ⟨q, rfl⟩ : ∃ q, m = q + 1 := ⟨m - 1, by omega⟩
  rw [List.set_append_right _ _ (Nat.le_refl _), Nat.sub_self]
  simp [List.replicate_succ]
theorem lrow_set2 {ids : List Int} {m : Nat} (x y : Int) : (lrow (ids ++ [x]) m).set ids.length y = lrow (ids ++ [y]) m := by
  unfold lrow
  rw [List.append_assoc, List.set_append_right _ _ (Nat.le_refl _), Nat.sub_self]
  simp

/-- The memory of the loop at output k. -/
structure SpM (w : World) (base b : Nat) (o : Nat) (room : Int) (v : Value) (freed : Int) (k : Nat) (ids : List Int) (fs : List Fr) (wr : World) : Prop where
  hk : ids.length = k
  hr : Blk wr w.heap.size 3 ((lrow ids (o - k)).map (Value.int .i64))
  hF : FkAt wr base b o room v fs freed
  h8 : ∀ x ∈ fs, x.bits < 256
  u : Upd (fkS b v) w wr
theorem SpM.below {w wr w' : World} {base b o : Nat} {room : Int} {v : Value} {freed : Int} {k : Nat} {ids : List Int} {fs : List Fr} (h : SpM w base b o room v freed k ids fs wr) (q : Below wr.heap.size wr w') : SpM w base b o room v freed k ids fs w' :=
  ⟨h.hk, h.hr.upd (S := fun _ => False) (Upd.of_below q) id, h.hF.below q, h.h8, Upd.then h.u (Upd.of_below (S := fkS b v) q) (fun _ _ h => h)⟩
theorem SpM.drew {w wr : World} {base b o : Nat} {room : Int} {v : Value} {freed : Int} {k : Nat} {ids : List Int} {fs : List Fr} (h : SpM w base b o room v freed k ids fs wr) : SpM w base b o room v freed k ids fs wr.drew := h.below ((Qt.refl wr).drewN 1).bel
theorem SpM.mark {w wr : World} {base b o : Nat} {room : Int} {v : Value} {freed : Int} {k : Nat} {ids : List Int} {fs : List Fr} (h : SpM w base b o room v freed k ids fs wr) (hlt : ∀ j, fkS b v j → j < w.heap.size) (hk : k < o) (x : Int) :
    SpM w base b o room v freed (k + 1) (ids ++ [x]) fs (wr.setCell ⟨w.heap.size, k, none⟩ (.int .i64 x)) := by
  have u : Upd (fun j => j = w.heap.size) wr (wr.setCell ⟨w.heap.size, k, none⟩ (.int .i64 x)) := (Upd.refl _ _).setCell _ _ (fun _ => rfl)
  refine ⟨by simp [h.hk], ?_, h.hF.upd u (by have := hlt b (.inl rfl); omega) (fun g hg => by have := hlt g (.inr hg); omega), h.h8, Upd.then h.u u (fun i hi e => by omega)⟩
  have h1 := h.hr.set k (.int .i64 x)
  rw [← List.map_set, ← h.hk, lrow_set (by have := h.hk; omega) x, h.hk, Nat.sub_sub] at h1
  exact h1
theorem SpM.put {w wr : World} {base b o : Nat} {room : Int} {v : Value} {freed : Int} {k : Nat} {ids : List Int} {x : Int} {fs : List Fr} (h : SpM w base b o room v freed (k + 1) (ids ++ [x]) fs wr) (hlt : ∀ j, fkS b v j → j < w.heap.size) (y : Int) :
    SpM w base b o room v freed (k + 1) (ids ++ [y]) fs (wr.setCell ⟨w.heap.size, k, none⟩ (.int .i64 y)) := by
  have u : Upd (fun j => j = w.heap.size) wr (wr.setCell ⟨w.heap.size, k, none⟩ (.int .i64 y)) := (Upd.refl _ _).setCell _ _ (fun _ => rfl)
  have hk := h.hk
  simp at hk
  refine ⟨by simp [hk], ?_, h.hF.upd u (by have := hlt b (.inl rfl); omega) (fun g hg => by have := hlt g (.inr hg); omega), h.h8, Upd.then h.u u (fun i hi e => by omega)⟩
  have h1 := h.hr.set k (.int .i64 y)
  rw [← List.map_set, ← hk, lrow_set2] at h1
  rw [← hk]
  exact h1
theorem SpM.clr {w wr : World} {base b o : Nat} {room : Int} {freed : Int} {k : Nat} {ids : List Int} {fs : List Fr} {g n c : Nat} (h : SpM w base b o room (.slice (some ⟨g, 0, none⟩) n c) freed k ids fs wr) (hlt : ∀ j, fkS b (.slice (some ⟨g, 0, none⟩) n c) j → j < w.heap.size) {i : Nat} {x : Fr} (hx : fs[i]? = some x) (m : Nat) (hm : m < 256) :
    SpM w base b o room (.slice (some ⟨g, 0, none⟩) n c) freed k ids (fs.set i ⟨x.id, m⟩) (wr.setCell ⟨g, i * 2 + 1, none⟩ (.int .u64 (m : Int))) := by
  have u : Upd (fun j => j = g) wr (wr.setCell ⟨g, i * 2 + 1, none⟩ (.int .u64 (m : Int))) := (Upd.refl _ _).setCell _ _ (fun _ => rfl)
  have hg := hlt g (.inr rfl)
  have hgb : g ≠ b := by intro e; exact h.hF.ne (by rw [← e]; rfl)
  obtain ⟨g', sp, c', hv, hbg, hbk, hnl, hcap, hcm⟩ := ownF_blk h.hF.own (by intro e; rw [e] at hx; simp at hx)
  cases hv
  have hlen := cfs_len fs
  have hil := get_lt hx
  refine ⟨h.hk, h.hr.upd u (by omega), ⟨h.hF.hb.upd u (Ne.symm hgb), ?_, h.hF.ne, h.hF.bb⟩, ?_, Upd.then h.u u (fun j _ e => .inr (by rw [e]; rfl))⟩
  · have h1 := hbk.set (i * 2 + 1) (.int .u64 (m : Int))
    rw [List.set_append_left _ _ (by omega), cfs_setB hx] at h1
    have hl2 := cfs_len (fs.set i ⟨x.id, m⟩)
    refine ⟨hl2, .inr ⟨g, c, _, by rw [List.length_set], hbg, h1, by rw [List.length_set]; omega, hcm, ?_, ?_⟩⟩
    · simp only [List.size_toArray, List.length_append, hl2, List.length_set]; omega
    · rw [← hl2]; simp
  · intro y hy
    rcases List.mem_or_eq_of_mem_set hy with hy | rfl
    · exact h.h8 y hy
    · exact hm
def SpRel (w : World) (base b : Nat) (o : Nat) (room : Int) (v : Value) (freed : Int) (rs : List Bool) (fs0 : List Fr) (i : Value) (wr : World) : Prop :=
  ∃ (k : Nat) (ids : List Int) (fs : List Fr), k ≤ o ∧ i = .int .i64 k ∧ stepAll rs 0 fs0 = (ids ++ (stepAll (rs.drop k) k fs).1, (stepAll (rs.drop k) k fs).2) ∧ fs.length = fs0.length ∧ SpM w base b o room v freed k ids fs wr
def StepPost (w : World) (base b : Nat) (o : Nat) (room : Int) (v : Value) (fs : List Fr) (freed : Int) (rs : List Bool) (e : Ending) (w' : World) : Prop :=
  ∃ v', e = .returned (.slice (some ⟨w.heap.size, 0, none⟩) o o) ∧ Blk w' w.heap.size 3 ((stepAll rs 0 fs).1.map (Value.int .i64)) ∧
    FkAt w' base b o room v' (keepF (stepAll rs 0 fs).2) (freed + ((fs.length : Int) - (keepF (stepAll rs 0 fs).2).length)) ∧ Upd (fkS b v) w w' ∧ v'.ownBlock = v.ownBlock

theorem make_ints (w : World) (n : Nat) (h : n ≤ 1000000) : (Instr.makeSlice 26 (.int .i64 n) (.int .i64 n)).run Try.prog w =
    .ok (.slice (some ⟨w.heap.size, 0, none⟩) n n) (w.alloc (.cells ((List.replicate n 0).map (Value.int .i64)).toArray 3)) := by
  obtain ⟨i, hi, hz, hs, hb⟩ := info_parts Try.infoBI
  rw [run_make w 26 3 i _ Try.underlying26 hi hz .i64 .i64 n n (by omega) (by omega) (by rw [hb]; omega) (by omega)]
  have e : madeCells (Value.int .i64 0).cells (((n : Int).toNat) * i.size) = ((List.replicate n 0).map (Value.int .i64)).toArray := by
    rw [hs, Nat.mul_one, Int.toNat_natCast]
    apply Array.toList_inj.1
    rw [show (Value.int .i64 0).cells = #[Value.int .i64 0] from rfl, toList_madeCells_one]
    simp
  rw [e, Int.toNat_natCast]

theorem step_nil (w : World) (a : Option Addr) (n c : Nat) : Calls Try.prog 20 #[.pointer none, .slice a n c] w fun e w' => e = .returned (.slice none 0 0) ∧ w = w' := by
  go_enter Try.func20, Try.ntmps20
  go_wp2
  go_ret
  exact ⟨rfl, rfl⟩
theorem step_bad (w : World) (base b : Nat) (o room : Int) (v : Value) (fs : List Fr) (freed : Int) (h : FkAt w base b o room v fs freed) (a : Option Addr) (n c : Nat) (hn : ¬ (n : Int) = o) :
    Calls Try.prog 20 #[.pointer (some ⟨b, 0, none⟩), .slice a n c] w fun e w' => e = .returned (.slice none 0 0) ∧ w = w' := by
  have q := h.hb.cell (i := 0) rfl
  have hd : ((n : Int) != o) = true := by rw [bne_iff_ne]; exact hn
  clear h hn
  go_enter Try.func20, Try.ntmps20
  go_wp2
  go_ret
  exact ⟨rfl, rfl⟩

set_option maxHeartbeats 8000000 in
set_option maxRecDepth 100000 in
theorem step_any (w : World) (base b : Nat) (o : Nat) (room : Int) (v : Value) (fs0 : List Fr) (freed : Int) (h : FkAt w base b o room v fs0 freed) (a : Option Addr) (c : Nat) (rs : List Bool) (hs : SlB w a rs) (hn : rs.length = o)
    (ho : o ≤ 8) (ho1 : 1 ≤ o) (hl : fs0.length ≤ 1000) (h8 : ∀ x ∈ fs0, x.bits < 256) (hfr : 0 ≤ freed) (hfr2 : freed ≤ 1000000000) (hap : ¬ fkS b v (a.getD default).block) :
    Calls Try.prog 20 #[.pointer (some ⟨b, 0, none⟩), .slice a o c] w (StepPost w base b o room v fs0 freed rs) := by
  have H := Lib.hid h; have S := Lib.hid hs
  have hFL := Lib.hid fun k hk => (h.f_lt (k := k) hk).1
  have q0 := h.hb.cell (i := 0) rfl
  have hblt := h.hb.lt
  have HN := Lib.hid hn
  have hmk := fun w => make_ints w o (by omega)
  generalize hL : (List.replicate o (0 : Int)).map (Value.int .i64) = L at hmk
  have M0 : Hid (SpM w base b o room v freed 0 [] fs0 (w.alloc (.cells L.toArray 3))) := by
    refine ⟨rfl, ?_, h.below ((Below.refl _ _).alloc (Nat.le_refl _) _), h8, (Upd.refl _ _).alloc _⟩
    have e : (lrow [] (o - 0)).map (Value.int .i64) = L := by rw [← hL]; simp [lrow]
    rw [e]
    exact Blk.new w _ L
  have HL := Lib.hid hL; clear hL h hs h8 hn
  have hoo : ((o : Int) != (o : Int)) = false := by simp
  go_enter Try.func20, Try.ntmps20
  go_wp2_with fail
  generalize w.alloc (.cells L.toArray 3) = w1 at *
  clear hmk q0 hoo
  go_loopw [27] (fun i wr => SpRel w base b o room v freed rs fs0 i wr) (fun i _ => o - (intOf i).toNat)
  case atStart => exact ⟨0, [], fs0, Nat.zero_le _, rfl, by simp, rfl, M0.out⟩
  case round =>
    obtain ⟨k, ids, fs, hk, rfl, hst, hfl, hM⟩ := hrel
    have HM := Lib.hid hM; have ST := Lib.hid hst; have HFL := Lib.hid hfl
    clear hM hst hfl M0
    by_cases hlt : k < o
    · obtain ⟨r, er, okr, cr⟩ := (S.out.upd HM.out.u (fun _ => hap)).get (k := k) (by rw [HN.out]; exact hlt)
      have hnext : Hid (stepAll rs 0 fs0 = ((ids ++ [(stepK k r fs).1]) ++ (stepAll (rs.drop (k + 1)) (k + 1) (stepK k r fs).2).1, (stepAll (rs.drop (k + 1)) (k + 1) (stepK k r fs).2).2)) := by
        show _ = _
        rw [ST.out, drop_cons er.out]
        simp [stepAll]
      have FIN : Hid (∀ (x : Int) (ys : List Fr) (w' : World), stepK k r fs = (x, ys) → SpM w base b o room v freed (k + 1) (ids ++ [x]) ys w' → SpRel w base b o room v freed rs fs0 (.int .i64 ((k + 1 : Nat) : Int)) w') := by
        intro x ys w' e hM
        have hn := hnext.out
        have hln := stepK_len k r fs
        rw [e] at hn hln
        exact ⟨k + 1, _, _, by omega, rfl, hn, hln.trans HFL.out, hM⟩
      have hk8 : k < 8 := by omega
      have wlt := HM.out.hr.lt
      have MKm := Lib.hid (HM.out.mark hFL.out hlt (-1))
      have c0 : wr.cell? ⟨w.heap.size, k, none⟩ = some (.int .i64 0) := by
        refine HM.out.hr.cell ?_
        have hk := HM.out.hk
        unfold lrow
        rw [List.getElem?_map, List.getElem?_append_right (by omega), hk, Nat.sub_self]
        obtain ⟨q, hq⟩ : ∃ q, o - k = q + 1 := ⟨o - k - 1, by omega⟩
        rw [hq]; rfl
      have f0 := HM.out.hr.free k
      have cr2 := ((S.out.upd MKm.out.u (fun _ => hap)) k r er.out).2
      have MK := Lib.hid (MKm.out.below ((Below.refl _ _).alloc (Nat.le_refl _) (.cells #[.int .i64 (k : Int)] 3)))
      have cr3 := ((S.out.upd MK.out.u (fun _ => hap)) k r er.out).2
      have BK2 : Hid (Blk ((wr.setCell ⟨w.heap.size, k, none⟩ (.int .i64 (-1))).alloc (.cells #[.int .i64 (k : Int)] 3)) wr.heap.size 3 [.int .i64 (k : Int)]) := by
        have := Blk.new (wr.setCell ⟨w.heap.size, k, none⟩ (.int .i64 (-1))) 3 [.int .i64 (k : Int)]
        show Blk _ _ _ _
        simpa using this
      have hko : (k : Int) < (o : Int) := by omega
      have hne1 : wr.heap.size ≠ w.heap.size := by omega
      cases r with
      | false =>
        have F1 := Lib.hid (FIN.out (-1) fs _ (by simp [stepK]) MK.out)
        go_wp2_with fail
        go_roundw
        case rel => have := F1.out; simpa using this
        case measure => simp [intOf]; omega
      | true =>
        obtain ⟨av, cv, hv0, _⟩ := own_shape HM.out.hF.own
        subst hv0
        have hl2 : fs.length ≤ 1000 := by have := HFL.out; omega
        have I := Lib.hid (idx_step _ av cv fs (ownF_sl MK.out.hF.own) hl2 k wr.heap.size hk8 BK2.out MK.out.h8)
        have q2 := MK.out.hF.hb.cell (i := 2) rfl
        go_wp2_with fail
        refine I.out.mono ?_
        rintro e w3 ⟨q, rfl, hq, hb⟩
        have M3 := Lib.hid (MK.out.below hb)
        have BK3 := Lib.hid (BK2.out.upd (S := fun _ => False) (Upd.of_below hb) id)
        clear hb q2 c0 f0
        rcases hq with ⟨rfl, hno⟩ | ⟨i, x, rfl, hx, hp, hbefore⟩
        · have F1 := Lib.hid (FIN.out (-1) fs _ (by unfold stepK; rw [if_pos rfl, takeK_none hno]; rfl) M3.out)
          clear hno
          go_wp2_with fail
          go_roundw
          case rel => have := F1.out; simpa using this
          case measure => simp [intOf]; omega
        · have hsk : Hid (stepK k true fs = (x.id, fs.set i ⟨x.id, clrB x.bits k⟩)) := by show _ = _; unfold stepK; rw [if_pos rfl, takeK_some hx hp hbefore]; rfl
          obtain ⟨g, sp, c', hv, hbg, hbk, _, hcap, hcm⟩ := ownF_blk M3.out.hF.own (by intro e; rw [e] at hx; simp at hx)
          cases hv
          obtain ⟨d1, d2⟩ := blkF hbk hx
          have g2 := hbk.free (i * 2 + 1)
          have hgl := hFL.out g (.inr rfl)
          have hx8 := M3.out.h8 x (List.mem_of_getElem? hx)
          have HX := Lib.hid hx
          have hil := get_lt hx
          obtain ⟨xid, xb⟩ := x
          dsimp only at d1 d2 hx8
          obtain ⟨p, hpw, s1, hp8⟩ := pw_any k hk8
          obtain ⟨m, hm, s3⟩ := clr_u64 xb p hx8 hp8
          have em : Hid (m = clrB xb k) := by show _ = _; rw [hm.out, hpw.out]; rfl
          have q2 := M3.out.hF.hb.cell (i := 2) rfl
          have k0 := BK3.out.cell (i := 0) rfl
          have f0 := M3.out.hr.free k
          have c0 : w3.cell? ⟨w.heap.size, k, none⟩ = some (.int .i64 (-1)) := by
            refine M3.out.hr.cell ?_
            have hk := HM.out.hk
            unfold lrow
            rw [List.getElem?_map, List.append_assoc, List.getElem?_append_right (by omega), hk, Nat.sub_self]
            rfl
          have M4 := Lib.hid (M3.out.put hFL.out xid)
          have F1 := Lib.hid fun w' h => FIN.out xid (fs.set i ⟨xid, m⟩) w' (by rw [hsk.out, em.out]) h
          have hm8 : m < 256 := by rw [em.out]; exact clrB_lt hx8
          have M5 := Lib.hid (M4.out.clr hFL.out HX.out m hm8)
          have n1 : g ≠ w.heap.size := by omega
          have n2 : b ≠ w.heap.size := by omega
          have n3 : wr.heap.size ≠ w.heap.size := hne1
          have n4 : g ≠ wr.heap.size := by omega
          have hiI : (i : Int) < (fs.length : Int) := by omega
          have hi0 : (0 : Int) ≤ (i : Int) := by omega
          have hk0 : (0 : Int) ≤ (k : Int) := by omega
          clear hx hp hbefore hbk
          go_wp2_with fail
          go_region
          go_wp2_with fail
          go_region
          go_wp2_with fail
          go_roundw
          case rel => have := F1.out _ M5.out.drew.drew; simpa using this
          case measure => simp [intOf]; omega
    · obtain rfl : k = o := by omega
      have hfin : Hid (stepAll rs 0 fs0 = (ids, fs)) := by
        show _ = _
        rw [ST.out, List.drop_eq_nil_of_le (by rw [HN.out]; exact Nat.le_refl _)]
        simp [stepAll]
      obtain ⟨av, cv, hv0, _⟩ := own_shape HM.out.hF.own
      subst hv0
      have hl2 : fs.length ≤ 1000 := by have := HFL.out; omega
      have D := Lib.hid (del_any wr base av cv fs HM.out.hF.own hl2 HM.out.h8)
      have q2 := HM.out.hF.hb.cell (i := 2) rfl
      go_wp2_with fail
      refine D.out.mono ?_
      rintro e w2 ⟨v', rfl, hown, hob, hU⟩
      have hbk := HM.out.hF.hb.upd hU HM.out.hF.ne
      have hrow := HM.out.hr.upd hU (by intro e; have := hFL.out _ (.inr e); omega)
      obtain ⟨a', c', hv', _⟩ := own_shape hown
      subst hv'
      have hml : (keepF fs).length ≤ fs.length := List.length_filter_le _ _
      have OWN := Lib.hid hown; have OB := Lib.hid hob; have U2 := Lib.hid hU; have BK := Lib.hid hbk; have RW := Lib.hid hrow
      have p2 := hbk.cell (i := 2) rfl
      have p3 := hbk.cell (i := 3) rfl
      have f2 := hbk.free 2
      have f3 := hbk.free 3
      generalize hm : (keepF fs).length = m at *
      have HMm := Lib.hid hm
      clear hown hob hU hbk hrow q2 hm
      have t1 : IntKind.i64.wrap ((fs.length : Int) - m) = (fs.length : Int) - m := IntWalk.i64_in _ (by omega)
      go_wp2_with fail
      go_region
      clear t1
      go_wp2_with fail
      go_ret
      have hmne : ¬ (Value.slice av fs.length cv).ownBlock = some b := HM.out.hF.ne
      have hbl : b ≠ w.heap.size := by omega
      unfold StepPost
      rw [hfin.out, HMm.out, ← HFL.out]
      have u : Upd (fun j => j = b) w2 ((w2.setCell ⟨b, 2, none⟩ (.slice a' m c')).setCell ⟨b, 3, none⟩ (.int .i64 (freed + ((fs.length : Int) - m)))) := by
        have u1 : Upd (fun j => j = b) w2 (w2.setCell ⟨b, 2, none⟩ (.slice a' m c')) := (Upd.refl _ _).setCell _ _ (fun _ => rfl)
        exact u1.setCell _ _ (fun _ => rfl)
      refine ⟨.slice a' m c', rfl, ?_, ⟨?_, ?_, by rw [OB.out]; exact hmne, HM.out.hF.bb⟩, ?_, OB.out⟩
      · have h1 := RW.out.upd u (by omega)
        have e : lrow ids (k - k) = ids := by simp [lrow]
        rw [e] at h1
        exact h1.drew
      · have h1 := (BK.out.set 2 (.slice a' m c')).set 3 (.int .i64 (freed + ((fs.length : Int) - m)))
        exact Blk.drew (by simpa using h1)
      · rw [HMm.out]
        exact own_upd (S := fun j => j = b) OWN.out u.drew (by intro j hj e; rw [OB.out] at hj; rw [e] at hj; exact hmne hj)
      · have h1 : Upd (fkS b (.slice av fs.length cv)) w w2 := Upd.then HM.out.u U2.out (fun _ _ h => .inr h)
        exact (Upd.then h1 u (fun _ _ h => .inl h)).drew
end Go.Proofs.Yteomiofmaopkhaa
