/-
  Contract of the reference's Put.
-/
import Derived.Test.YteomiofmaopkhaaRefF
namespace Go.Proofs.Yteomiofmaopkhaa
open Go.RowKit
set_option linter.unusedVariables false

theorem wrong_app (o : Int) : ∀ (l seen : List Int) (z : Int), wrongL o seen (l ++ [z]) = (wrongL o seen l || decide (z < 0) || decide (o ≤ z) || decide (z ∈ seen ++ l))
  | [], seen, z => by simp [wrongL]
  | a :: l, seen, z => by
    have := wrong_app o l (seen ++ [a]) z
    rw [List.cons_append]
    unfold wrongL
    rw [this]
    simp only [List.append_assoc, List.singleton_append]
    cases wrongL o (seen ++ [a]) l <;> simp [Bool.or_assoc]
theorem wrong_take {o : Int} {l : List Int} {k : Nat} {z : Int} (h : l[k]? = some z) : wrongL o [] (l.take (k + 1)) = (wrongL o [] (l.take k) || decide (z < 0) || decide (o ≤ z) || decide (z ∈ l.take k)) := by
  rw [List.take_add_one, h]
  show wrongL o [] (l.take k ++ [z]) = _
  rw [wrong_app, List.nil_append]
theorem wrong_more {o : Int} : ∀ (l m seen : List Int), wrongL o seen l = true → wrongL o seen (l ++ m) = true
  | [], _, _, h => by simp [wrongL] at h
  | a :: l, m, seen, h => by
    unfold wrongL at h
    rw [List.cons_append]
    unfold wrongL
    simp only [Bool.or_eq_true] at h ⊢
    rcases h with h | h
    · exact .inl h
    · exact .inr (wrong_more l m _ h)
theorem wrong_of_take {o : Int} {l : List Int} {k : Nat} (h : wrongL o [] (l.take k) = true) : wrongL o [] l = true := by
  have := wrong_more (l.take k) (l.drop k) [] h
  rwa [List.take_append_drop] at this

/-- The blocks that the reference's methods may write. -/
def rfS (rb : Nat) (v : Value) (k : Nat) : Prop := k = rb ∨ v.ownBlock = some k
def RAdd (w : World) (base rb : Nat) (o room : Int) (v : Value) (rs : List RF) (freed nid : Int) (outs : List Int) (w' : World) : Prop :=
  ∃ v' a c, RfAt w' base rb o room v' (rs ++ [⟨nid, a, c, outs⟩]) freed ∧ Upd (rfS rb v) w w'
def RPutPost (w : World) (base rb : Nat) (o room : Int) (v : Value) (rs : List RF) (freed nid : Int) (outs : List Int) (e : Ending) (w' : World) : Prop :=
  ((outs.length = 0 ∨ wrongL o [] outs = true) ∧ e = .returned (.int .i64 1) ∧ Qt w w') ∨
  (¬ outs.length = 0 ∧ wrongL o [] outs = false ∧
    ((rs.any (fun y => y.id == nid) = true ∧ e = .returned (.int .i64 8) ∧ Qt w w') ∨
     (rs.any (fun y => y.id == nid) = false ∧ (rs.length : Int) = room ∧ e = .returned (.int .i64 5) ∧ Qt w w') ∨
     (rs.any (fun y => y.id == nid) = false ∧ ¬ (rs.length : Int) = room ∧ e = .returned (.int .i64 0) ∧ RAdd w base rb o room v rs freed nid outs w')))
def RpRel (w : World) (o : Int) (outs : List Int) (i : Value) (wr : World) : Prop := ∃ k : Nat, k ≤ outs.length ∧ i = .int .i64 k ∧ wrongL o [] (outs.take k) = false ∧ Qt w wr
def RpRel2 (w : World) (outs : List Int) (k : Nat) (z : Int) (i : Value) (wr : World) : Prop := ∃ j : Nat, j ≤ k ∧ i = .int .i64 j ∧ ¬ z ∈ outs.take j ∧ Qt w wr
def RpRel3 (w : World) (rs : List RF) (nid : Int) (i : Value) (wr : World) : Prop := ∃ k : Nat, k ≤ rs.length ∧ i = .int .i64 k ∧ (rs.take k).any (fun y => y.id == nid) = false ∧ wr = w

theorem sl_heap {α : Type} {f : α → Value} {w w' : World} {a : Option Addr} {xs : List α} (h : Sl f w a xs) (he : w'.heap = w.heap) : Sl f w' a xs := fun j x hj => by
  obtain ⟨h1, h2⟩ := h j x hj
  refine ⟨h1, ?_⟩
  unfold World.cell? at *
  rw [he]
  exact h2
theorem upd_heap {w w' : World} (os : w'.os = w.os) (tape : w'.tape = w.tape) (output : w'.output = w.output) {o : Obj} (he : w'.heap = (w.alloc o).heap) : Upd (fun _ => False) w w' :=
  ⟨os, tape, output, by rw [he]; simp, fun k hk _ => by rw [he]; exact Below.heap_alloc _ _ _ hk⟩
/-- Behind the first append: the list of outputs is there. -/
structure RpA (w : World) (outs : List Int) (a : Option Addr) (c : Nat) (w1 : World) : Prop where
  own : w1.ownsRow w.heap.size 3 1 (.slice a outs.length c) outs.length (outs.map (Value.int .i64))
  bel : Below w.heap.size w w1
theorem RpA.of {w W' w1 : World} {outs : List Int} {v' : Value} (hgr : W'.grownBy w1 (Value.slice (some ⟨w.heap.size, 0, none⟩) 0 0).ownBlock) (hown : w1.ownsRow w.heap.size 3 1 v' (0 + outs.length) ([] ++ outs.map (Value.int .i64)))
    (hh : W'.heap = (w.alloc (.cells #[] 3)).heap) (hu : Upd (fun _ => False) w W') : ∃ a c, v' = .slice a outs.length c ∧ RpA w outs a c w1 := by
  rw [Nat.zero_add, List.nil_append] at hown
  obtain ⟨a, c, rfl, _⟩ := own_shape hown
  have h2 : Below w.heap.size w W' := ⟨hu.os, hu.tape, hu.output, hu.size, fun k hk => hu.block k hk id⟩
  refine ⟨a, c, rfl, hown, ?_⟩
  refine h2.grown ⟨hgr.os, hgr.tape, hgr.output, hgr.size, hgr.block⟩ hu.size (fun j hj => ?_)
  simp [Value.ownBlock] at hj
  omega
/-- Behind the second append. -/
structure RpF (w : World) (base rb : Nat) (o room : Int) (v : Value) (rs : List RF) (freed nid : Int) (outs : List Int) (a : Option Addr) (c g cap : Nat) (w3 : World) : Prop where
  hb : Blk w3 rb 42 [.int .i64 o, .int .i64 room, v, .int .i64 freed]
  own : w3.ownsRow base 67 2 (.slice (some ⟨g, 0, none⟩) (rs.length + 1) cap) (rs.length + 1) (crs rs ++ [.int .i64 nid, .slice a outs.length c])
  rows : ∀ r ∈ rs ++ [⟨nid, a, c, outs⟩], w3.ownsRow base 3 1 r.lv r.l.length (r.l.map (Value.int .i64))
  u : Upd (rfS rb v) w w3
theorem RpF.of {w w1 W2 w3 : World} {base rb : Nat} {o room : Int} {v : Value} {rs : List RF} {freed nid : Int} {outs : List Int} {a : Option Addr} {c g cap : Nat} (h : RfAt w base rb o room v rs freed) (hA : RpA w outs a c w1) (hbase : base ≤ w.heap.size)
    (hgr : W2.grownBy w3 v.ownBlock) (hown : w3.ownsRow base 67 2 (.slice (some ⟨g, 0, none⟩) (rs.length + 1) cap) (rs.length + 1) (crs rs ++ [.int .i64 nid, .slice a outs.length c]))
    (hh : W2.heap = (w1.alloc (.cells #[.int .i64 nid, .slice a outs.length c] 67)).heap) (hu : Upd (fun _ => False) w1 W2) : RpF w base rb o room v rs freed nid outs a c g cap w3 := by
  have h1 := (h.below hA.bel).below (⟨hu.os, hu.tape, hu.output, hu.size, fun k hk => hu.block k hk id⟩ : Below w1.heap.size w1 W2)
  have o2 : W2.ownsRow w.heap.size 3 1 (.slice a outs.length c) outs.length (outs.map (Value.int .i64)) := own_upd hA.own hu (fun _ _ => id)
  have u3 : Upd (fun k => v.ownBlock = some k) W2 w3 := ⟨hgr.os, hgr.tape, hgr.output, hgr.size, fun k hk hs => hgr.block k hk fun e => hs e.symm⟩
  have hvt : ∀ k, v.ownBlock = some k → tyIn W2 [67] k := fun k hk => by
    obtain ⟨cs, hb, _⟩ := own_ty h1.own hk
    exact ⟨_, cs, by simp, hb⟩
  have key : ∀ g, (∃ T cs, (T = 42 ∨ T = 3) ∧ Blk W2 g T cs) → ¬ v.ownBlock = some g := by
    rintro g ⟨T, cs, hT, hb⟩ hv
    obtain ⟨T2, cs2, hT2, hb2⟩ := hvt g hv
    have := blk_ty hb hb2
    simp at hT2
    rcases hT with hT | hT <;> (rw [hT, hT2] at this; exact absurd this (by decide))
  refine ⟨h1.hb.upd u3 (key _ ⟨_, _, .inl rfl, h1.hb⟩), hown, ?_, ?_⟩
  · intro r hr
    rcases List.mem_append.1 hr with hr | hr
    · exact own_upd (h1.rows r hr) u3 (fun g hg => by
        obtain ⟨cs, hb, _⟩ := own_ty (h1.rows r hr) hg
        exact key g ⟨_, cs, .inr rfl, hb⟩)
    · rw [List.mem_singleton.1 hr]
      have := own_upd o2 u3 (fun g hg => by
        obtain ⟨cs, hb, _⟩ := own_ty o2 hg
        exact key g ⟨_, cs, .inr rfl, hb⟩)
      obtain ⟨h1, h2⟩ := this
      refine ⟨h1, ?_⟩
      rcases h2 with h2 | ⟨g, cap, cur, r, hg, rest⟩
      · exact .inl h2
      · exact .inr ⟨g, cap, cur, r, Nat.le_trans hbase hg, rest⟩
  · have ua : Upd (rfS rb v) w w1 := Upd.of_below hA.bel
    have ub : Upd (rfS rb v) w1 W2 := hu.mono fun _ _ h => h.elim
    exact Upd.then (Upd.then ua ub (fun _ _ h => h)) u3 (fun k _ hk => .inr hk)
theorem RpF.fin {w w3 : World} {base rb : Nat} {o room : Int} {v : Value} {rs : List RF} {freed nid : Int} {outs : List Int} {a : Option Addr} {c g cap : Nat} (h : RpF w base rb o room v rs freed nid outs a c g cap w3) (hbb : base ≤ rb) :
    RAdd w base rb o room v rs freed nid outs (w3.setCell ⟨rb, 2, none⟩ (.slice (some ⟨g, 0, none⟩) (rs.length + 1) cap)) := by
  have u : Upd (fun k => k = rb) w3 (w3.setCell ⟨rb, 2, none⟩ (.slice (some ⟨g, 0, none⟩) (rs.length + 1) cap)) := (Upd.refl _ _).setCell _ _ (fun _ => rfl)
  refine ⟨.slice (some ⟨g, 0, none⟩) (rs.length + 1) cap, a, c, ⟨?_, ?_, ?_, hbb⟩, h.u.setCell _ _ (fun _ => .inl rfl)⟩
  · simpa using h.hb.set 2 (.slice (some ⟨g, 0, none⟩) (rs.length + 1) cap)
  · rw [List.length_append, crs_append]
    refine own_upd h.own u (fun k hk e => ?_)
    obtain ⟨cs, hb, _⟩ := own_ty h.own hk
    rw [e] at hb
    exact absurd (blk_ty hb h.hb) (by decide)
  · intro r hr
    refine own_upd (h.rows r hr) u (fun k hk e => ?_)
    obtain ⟨cs, hb, _⟩ := own_ty (h.rows r hr) hk
    rw [e] at hb
    exact absurd (blk_ty hb h.hb) (by decide)
theorem RAdd.pre {w w2 w' : World} {base rb : Nat} {o room : Int} {v : Value} {rs : List RF} {freed nid : Int} {outs : List Int} (h : RAdd w2 base rb o room v rs freed nid outs w') (q : Qt w w2) : RAdd w base rb o room v rs freed nid outs w' := by
  obtain ⟨v', a, c, h1, h2⟩ := h
  exact ⟨v', a, c, h1, Upd.then (Upd.of_below q.bel) h2 (fun _ _ h => h)⟩
theorem Try.infoRFr : (Try.prog.info? 67).map (fun i => (i.zero, i.size, i.bytes)) = some (some (.agg #[.int .i64 0, .slice none 0 0]), 2, 32) := by kernel_rfl

set_option maxHeartbeats 8000000 in
set_option maxRecDepth 100000 in
theorem refPut_any (w : World) (base rb : Nat) (o room : Int) (v : Value) (rs : List RF) (freed nid : Int) (h : RfAt w base rb o room v rs freed) (a : Option Addr) (c : Nat) (outs : List Int) (hs : SlI w a outs) (hn2 : outs.length ≤ 1000) (hl : rs.length ≤ 1000) (hbase : base ≤ w.heap.size) :
    Calls Try.prog 19 #[.pointer (some ⟨rb, 0, none⟩), .int .i64 nid, .slice a outs.length c] w (RPutPost w base rb o room v rs freed nid outs) := by
  have H := Lib.hid h; have S := Lib.hid hs
  clear h hs
  generalize hN : outs.length = n at *
  have HN := Lib.hid hN; clear hN
  obtain ⟨i0, hi, hz0, hz1, hz2⟩ := info_parts Try.infoRFr
  obtain ⟨j0, ki, kz0, kz1, kz2⟩ := info_parts Try.infoBI
  have HI := Lib.hid hi; have HZ0 := Lib.hid hz0; have HZ1 := Lib.hid hz1; have HZ2 := Lib.hid hz2
  have KI := Lib.hid ki; have KZ0 := Lib.hid kz0; have KZ1 := Lib.hid kz1; have KZ2 := Lib.hid kz2
  clear hi hz0 hz1 hz2 ki kz0 kz1 kz2
  by_cases hn0 : n = 0
  · subst hn0
    go_enter Try.func19, Try.ntmps19
    go_wp2_with fail
    go_ret
    exact .inl ⟨.inl HN.out, rfl, Qt.refl _⟩
  have g0 : ((n : Int) == 0) = false := by rw [beq_eq_false_iff_ne]; omega
  go_enter Try.func19, Try.ntmps19
  go_wp2_with fail
  go_loopw [7] (fun i wr => RpRel w o outs i wr) (fun i _ => n - (intOf i).toNat)
  case atStart => exact ⟨0, Nat.zero_le _, rfl, rfl, Qt.refl _⟩
  case round =>
    obtain ⟨k, hk', rfl, hw, hq⟩ := hrel
    have HW := Lib.hid hw; have Q := Lib.hid hq
    have hk : k ≤ n := by rw [HN.out] at hk'; exact hk'
    clear hw hq hk'
    have q0 : wr.cell? ⟨rb, 0, none⟩ = some (.int .i64 o) := by rw [Q.out.cell]; exact H.out.hb.cell (i := 0) rfl
    by_cases hlt : k < n
    · obtain ⟨z, ez, okz, cz⟩ := (S.out.qt Q.out).get (k := k) (by rw [HN.out]; exact hlt)
      have hst := Lib.hid (wrong_take (o := o) ez.out)
      rw [HW.out] at hst
      by_cases hz0 : z < 0
      · have hd : decide (z < 0) = true := by simpa using hz0
        have hbad : Hid (wrongL o [] outs = true) := wrong_of_take (k := k + 1) (by rw [hst.out]; simp [hz0])
        go_wp2_with fail
        go_quiet (fail)
        go_wp2_with fail
        go_ret
        exact .inl ⟨.inr hbad.out, rfl, Q.out.drewN _⟩
      · have hd : decide (z < 0) = false := by simpa using hz0
        by_cases hz1 : o ≤ z
        · have hd1 : decide (o ≤ z) = true := by simpa using hz1
          have hbad : Hid (wrongL o [] outs = true) := wrong_of_take (k := k + 1) (by rw [hst.out]; simp [hz1])
          go_wp2_with fail
          go_quiet (fail)
          go_wp2_with fail
          go_ret
          exact .inl ⟨.inr hbad.out, rfl, Q.out.drewN _⟩
        · have hd1 : decide (o ≤ z) = false := by simpa using hz1
          go_wp2_with fail
          go_quiet (fail)
          rename_i nq _
          have Q2 := Lib.hid (Q.out.drewN nq)
          have cz2 : (wr.drewN nq).cell? (adr a k) = some (.int .i64 z) := cz
          generalize wr.drewN nq = w2 at *
          clear q0 cz
          go_wp2_with fail
          obtain ⟨wo, rfl⟩ : ∃ wo : World, wo = wr := ⟨_, rfl⟩
          go_loopw [8] (fun i wr => RpRel2 w outs k z i wr) (fun i _ => k - (intOf i).toNat)
          case atStart => exact ⟨0, Nat.zero_le _, rfl, by simp, Q2.out⟩
          case round =>
            obtain ⟨j, hj, rfl, hno, hq⟩ := hrel
            have NO := Lib.hid hno; have QJ := Lib.hid hq
            clear hno hq cz2 Q2
            by_cases hjk : j < k
            · obtain ⟨y, ey, oky, cy⟩ := (S.out.qt QJ.out).get (k := j) (by rw [HN.out]; omega)
              have cz3 := ((S.out.qt QJ.out) k z ez.out).2
              by_cases hzy : z = y
              · have hd2 : (z == y) = true := by simpa using hzy
                have hbad : Hid (wrongL o [] outs = true) := by
                  refine wrong_of_take (k := k + 1) ?_
                  rw [hst.out]
                  have : z ∈ outs.take k := by rw [hzy]; exact List.mem_of_getElem? (by rw [List.getElem?_take_of_lt hjk]; exact ey.out)
                  simp [this]
                clear hzy
                go_wp2_with fail
                go_quiet (fail)
                go_wp2_with fail
                go_ret
                exact .inl ⟨.inr hbad.out, rfl, QJ.out.drewN _⟩
              · have hd2 : (z == y) = false := by simpa using hzy
                have N2 := Lib.hid (take_no NO.out ey.out (fun e => hzy e.symm))
                clear hzy
                go_wp2_with fail
                go_quiet (fail)
                go_wp2_with fail
                go_roundw
                case rel => exact ⟨j + 1, by omega, by go_num, N2.out, QJ.out.drewN _⟩
                case measure => simp [intOf]; omega
            · obtain rfl : j = k := by omega
              have hok : Hid (wrongL o [] (outs.take (j + 1)) = false) := by
                show _ = _
                rw [hst.out]
                simp [hz0, hz1, NO.out]
              go_wp2_with fail
              go_roundw
              case rel => exact ⟨j + 1, by rw [HN.out]; omega, by go_num, hok.out, QJ.out⟩
              case measure => simp [intOf]; omega
    · obtain rfl : k = n := by omega
      have hwf : Hid (wrongL o [] outs = false) := by
        have := HW.out
        rw [← HN.out, List.take_length] at this
        exact this
      have HQ := Lib.hid (H.out.below Q.out.bel)
      obtain ⟨av, cv, rfl, _⟩ := own_shape HQ.out.own
      have q2 := HQ.out.hb.cell (i := 2) rfl
      have q1 := HQ.out.hb.cell (i := 1) rfl
      clear q0
      go_wp2_with fail
      obtain ⟨wo, rfl⟩ : ∃ wo : World, wo = wr := ⟨_, rfl⟩
      go_loopw [9] (fun i wr => RpRel3 wo rs nid i wr) (fun i _ => rs.length - (intOf i).toNat)
      case atStart => exact ⟨0, Nat.zero_le _, rfl, rfl, rfl⟩
      case round =>
        obtain ⟨j, hj, rfl, hno, hww⟩ := hrel
        subst hww
        have NO := Lib.hid hno
        clear hno
        by_cases hjl : j < rs.length
        · obtain ⟨x, ex, okx, c1, c2⟩ := (ownR_sl HQ.out.own).get (k := j) hjl
          by_cases hid : x.id = nid
          · have hd : (x.id == nid) = true := by simpa using hid
            have hany : Hid (rs.any (fun y => y.id == nid) = true) := by
              show _ = _
              rw [List.any_eq_true]
              exact ⟨x, List.mem_of_getElem? ex.out, hd⟩
            clear hid
            go_wp2_with fail
            go_ret
            exact .inr ⟨by rw [HN.out]; exact hn0, hwf.out, .inl ⟨hany.out, rfl, Q.out⟩⟩
          · have hd : (x.id == nid) = false := by simpa using hid
            have N2 : Hid ((rs.take (j + 1)).any (fun y => y.id == nid) = false) := by
              show _ = _
              rw [List.take_add_one, ex.out, List.any_append, NO.out]
              simpa using hid
            clear hid
            go_wp2_with fail
            go_roundw
            case rel => exact ⟨j + 1, by omega, by go_num, N2.out, rfl⟩
            case measure => simp [intOf]; omega
        · obtain rfl : j = rs.length := by omega
          have hany : Hid (rs.any (fun y => y.id == nid) = false) := by
            have := NO.out
            rw [List.take_length] at this
            exact this
          by_cases hfull : (rs.length : Int) = room
          · have hd : ((rs.length : Int) == room) = true := by simpa using hfull
            have HF := Lib.hid hfull; clear hfull
            go_wp2_with fail
            go_quiet (fail)
            go_wp2_with fail
            go_ret
            exact .inr ⟨by rw [HN.out]; exact hn0, hwf.out, .inr (.inl ⟨hany.out, HF.out, rfl, Q.out.drewN _⟩)⟩
          · have hd : ((rs.length : Int) == room) = false := by simpa using hfull
            have HF := Lib.hid hfull; clear hfull
            go_wp2_with fail
            go_quiet (fail)
            rename_i nq _
            have Q3 := Lib.hid (Q.out.drewN nq)
            have H3 := Lib.hid (HQ.out.below ((Qt.refl wr).drewN nq).bel)
            clear q1 q2
            generalize wr.drewN nq = w2 at *
            have q2 := H3.out.hb.cell (i := 2) rfl
            have hbs : base ≤ w2.heap.size := Nat.le_trans hbase Q3.out.bel.size
            have hbb := H3.out.bb
            have S3 := Lib.hid (S.out.qt Q3.out)
            have hrb := H3.out.hb.lt
            have f2 := H3.out.hb.free 2
            have hsub := HN.out
            subst hsub
            go_wp2_with fail
            go_region_law (first
              | (refine step_append_sl (by rfl) (.tmp 84) (.tmp 85) 26 (by rfl) w2.heap.size 3 j0 _ 8 Try.underlying26 KI.out KZ0.out KZ1.out KZ2.out rfl _ 0 [] (by rfl) (own_heap (own_empty w2 3 1) rfl) (Value.int .i64) (fun _ => rfl) a c outs (by rfl) (sl_heap (S3.out.below ((Below.refl _ w2).alloc (Nat.le_refl _) (.cells #[] 3))) rfl) (by unfold maxLen; omega) (by omega) (by simp) ?_; intro v' w4 hown hgr hat; obtain ⟨a', c', rfl, hA⟩ := RpA.of hgr hown rfl (upd_heap (o := .cells #[] 3) rfl rfl rfl rfl); have HA := Lib.hid hA; have hsz4 := hA.bel.size; have PH := Lib.hid (H3.out.below hA.bel); clear hown hgr hat hA q2; have q2 := PH.out.hb.cell (i := 2) rfl; have hrb4 := PH.out.hb.lt)
              | (refine step_append_lies _ (by rfl) (.tmp 82) (.tmp 88) 40 (by rfl) base 67 i0 _ 2 32 Try.underlying40 HI.out HZ0.out HZ1.out HZ2.out rfl (by decide) _ rs.length (crs rs) (by rfl) (own_heap (PH.out.own.alloc (.cells #[.int .i64 nid, .slice a' outs.length c'] 67)) rfl) ⟨w4.heap.size, 0, none⟩ 1 1 [.int .i64 nid, .slice a' outs.length c'] (by rfl) rfl (news_heap (vs := [.int .i64 nid, .slice a' outs.length c']) rfl rfl) (by intro u hu; simp at hu; rcases hu with rfl | rfl <;> rfl) (by decide) (by unfold maxLen; omega) (by omega) (by simp; omega) (w4.heap.size + 1) (by simp) ?_; intro g cap w3 hown hgr hat hglt; have F3 := Lib.hid (RpF.of H3.out HA.out hbs hgr hown rfl (upd_heap (o := .cells #[.int .i64 nid, .slice a' outs.length c'] 67) rfl rfl rfl rfl)); clear hown hgr hat hglt q2; have q2 := F3.out.hb.cell (i := 2) rfl; have f2 := F3.out.hb.free 2))
            all_goals
              go_wp2_with fail
              go_ret
              exact .inr ⟨hn0, hwf.out, .inr (.inr ⟨hany.out, HF.out, rfl, (F3.out.fin hbb).pre Q3.out⟩)⟩
end Go.Proofs.Yteomiofmaopkhaa
