/-
  The reference's Put and Cancel.
-/
import Derived.Test.YtjljjohoipnhhaaRefM
namespace Go.Proofs.Ytjljjohoipnhhaa
open Go.RowKit
set_option linter.unusedVariables false

theorem own_rebase {w : World} {B base : Nat} {e : TypeId} {size : Nat} {v : Value} {n : Nat} {xs : List Value} (h : w.ownsRow B e size v n xs) (hb : base ≤ B) : w.ownsRow base e size v n xs := by
  refine ⟨h.1, ?_⟩
  rcases h.2 with h | ⟨g, cap, cur, hv, hg, r⟩
  · exact .inl h
  · exact .inr ⟨g, cap, cur, hv, Nat.le_trans hb hg, r⟩
def newD (w w' : World) (D : Nat → Prop) (k : Nat) : Prop := D k ∨ (w.heap.size ≤ k ∧ k < w'.heap.size)
/-- A list in new blocks, over data that were. -/
theorem RefAt.new {w w' : World} {base : Nat} {D : Nat → Prop} {v v' : Value} {ps ps' : List RM} (h : RefAt w base D v ps) (q : Below w.heap.size w w') (hb : base ≤ w.heap.size) (ho : w'.ownsRow w.heap.size 47 4 v' ps'.length (flM ps'))
    (hr : ∀ p ∈ ps', (∃ p0 ∈ ps, p.1 = p0.1 ∧ p.2.data = p0.2.data) ∨ (Sl (Value.int .u8) w' p.1.a p.1.d ∧ p.1.d = p.2.data ∧ p.1.d ≠ [] ∧ w.heap.size ≤ p.1.blk)) : RefAt w' base (newD w w' D) v' ps' := by
  refine ⟨own_rebase ho hb, fun p hp => ?_, fun k hk => .inr ⟨(own_lt ho hk).2, (own_lt ho hk).1⟩, fun p hp => ?_, fun k hk => ?_⟩
  · rcases hr p hp with ⟨p0, h0, e1, e2⟩ | ⟨h1, h2, h3, _⟩
    · rw [e1, e2]
      exact ⟨(h.rd p0 h0).1.below q, (h.rd p0 h0).2⟩
    · exact ⟨h1, h2, h3⟩
  · rcases hr p hp with ⟨p0, h0, e1, e2⟩ | ⟨h1, _, h3, h4⟩
    · rw [e1]; exact .inl (h.rD p0 h0)
    · exact .inr ⟨h4, h1.old h3⟩
  · have := q.size
    rcases hk with hk | hk
    · have := h.lt k hk; omega
    · omega
theorem RefAt.more {w w' : World} {base : Nat} {D : Nat → Prop} {v : Value} {ps : List RM} (h : RefAt w base D v ps) (q : Below w.heap.size w w') (hb : base ≤ w.heap.size) : RefAt w' base (newD w w' D) v ps := by
  have h1 := h.below q
  exact ⟨h1.own, h1.rd, fun k hk => .inl (h1.vD k hk), fun p hp => .inl (h1.rD p hp), fun k hk => by
    rcases hk with hk | hk
    · exact h1.lt k hk
    · omega⟩
def RPost (w : World) (base : Nat) (D : Nat → Prop) (er : Int) (ms : List Msg) (e : Ending) (w' : World) : Prop :=
  ∃ v' ps', e = .returned (.tuple #[v', .int .i64 er]) ∧ rmS ps' = ms ∧ RefAt w' base (newD w w' D) v' ps' ∧ Below w.heap.size w w'

set_option maxHeartbeats 8000000 in
set_option maxRecDepth 100000 in
theorem refPut_any (w : World) (base : Nat) (D : Nat → Prop) (a : Option Addr) (c : Nat) (ps : List RM) (h : RefAt w base D (.slice a ps.length c) ps) (hl : ps.length ≤ 1000) (room : Int) (da : Option Addr) (dc : Nat) (data : List Int) (hd : Sl (Value.int .u8) w da data) (hdm : data.length ≤ 1000000) (dl : Int) (hbase : base ≤ w.heap.size) :
    Calls Try.prog 15 #[.slice a ps.length c, .int .i64 room, .slice da data.length dc, .int .i64 dl] w (RPost w base D (putE (rmS ps) room data dl) (putM (rmS ps) room data dl)) := by
  have H := Lib.hid h
  have HD := Lib.hid hd
  have O := Lib.hid (refOpen_any w a c ps h.slr hl)
  clear h hd
  have M0 : Hid (RefAt w base (newD w w D) (.slice a ps.length c) ps) := H.out.more (Below.refl _ _) hbase
  by_cases hb : putBad data dl = true
  · have hE : putE (rmS ps) room data dl = 2 := by unfold putE; rw [if_pos hb]
    have hM : putM (rmS ps) room data dl = rmS ps := by unfold putM; rw [if_pos hb]
    rw [hE, hM]
    have hb' : (data.length : Int) < 1 ∨ (¬ (data.length : Int) < 1 ∧ (1000 : Int) < (data.length : Int)) ∨ (¬ (data.length : Int) < 1 ∧ ¬ (1000 : Int) < (data.length : Int) ∧ dl < -1) := by
      unfold putBad at hb
      simp only [Bool.or_eq_true, decide_eq_true_eq] at hb
      omega
    clear hb hE hM
    rcases hb' with hb | ⟨hb0, hb⟩ | ⟨hb0, hb1, hb⟩
    all_goals
      go_enter Try.func15, Try.ntmps15
      go_wp2_with fail
      go_ret2
      exact ⟨_, ps, rfl, rfl, M0.out, Below.refl _ _⟩
  · have hb' : ¬ (data.length : Int) < 1 ∧ ¬ (1000 : Int) < (data.length : Int) ∧ ¬ dl < -1 := by
      unfold putBad at hb
      simp only [Bool.or_eq_true, decide_eq_true_eq] at hb
      omega
    obtain ⟨hb0, hb1, hb2⟩ := hb'
    by_cases hr : room ≤ (openN (rmS ps) : Int)
    · have hE : putE (rmS ps) room data dl = 5 := by unfold putE; rw [if_neg hb, if_pos hr]
      have hM : putM (rmS ps) room data dl = rmS ps := by unfold putM; rw [if_neg hb, if_pos hr]
      rw [hE, hM]
      clear hb hE hM
      generalize openN (rmS ps) = on at *
      go_enter Try.func15, Try.ntmps15
      go_wp2_with fail
      refine O.out.mono ?_
      rintro e w1 ⟨rfl, rfl⟩
      go_wp2_with fail
      go_ret2
      exact ⟨_, ps, rfl, rfl, M0.out, Below.refl _ _⟩
    · have hE : putE (rmS ps) room data dl = 0 := by unfold putE; rw [if_neg hb, if_neg hr]
      have hM : putM (rmS ps) room data dl = rmS ps ++ [⟨data, dl, 1, 0⟩] := by unfold putM; rw [if_neg hb, if_neg hr]
      rw [hE, hM]
      clear hb hE hM
      generalize openN (rmS ps) = on at *
      have hd1 : 1 ≤ data.length := by omega
      obtain ⟨i0, hi, hz0, hz1, hz2⟩ := info_parts Try.infoByte
      have HI := Lib.hid hi; have HZ0 := Lib.hid hz0; have HZ1 := Lib.hid hz1; have HZ2 := Lib.hid hz2
      obtain ⟨i1, hi, hz0, hz1, hz2⟩ := info_parts Try.infoMsg
      have JI := Lib.hid hi; have JZ0 := Lib.hid hz0; have JZ1 := Lib.hid hz1; have JZ2 := Lib.hid hz2
      have BA : Hid (Below w.heap.size w (w.alloc (.cells #[] 47))) := (Below.refl _ _).alloc (Nat.le_refl _) _
      have SR := Lib.hid ((H.out.below BA.out).slr.cells)
      clear hi hz0 hz1 hz2
      go_enter Try.func15, Try.ntmps15
      go_wp2_with fail
      refine O.out.mono ?_
      rintro e w1 ⟨rfl, rfl⟩
      go_wp2_with (at_builtin; refine wpList_append_cells rfl _ _ 35 rfl w.heap.size 47 i1 _ 4 48 Try.underlying35 JI.out JZ0.out JZ1.out JZ2.out rfl (by decide) (.slice (some ⟨w.heap.size, 0, none⟩) 0 0) 0 [] rfl (own_empty _ _ _) a ps.length c (flM ps) rfl (flM_len ps) SR.out (flM_one ps) ?c1 ?c2 ?c3 ?_)
      case c1 => unfold maxLen; omega
      case c2 => omega
      case c3 => simp
      intro v1 w2 g1 g2 g3
      try simp only [Nat.zero_add, List.nil_append] at g1
      have O1 := Lib.hid g1
      have B2 : Hid (Below w.heap.size w w2) := BA.out.grown g2 (by simp) (by intro k hk; simp [Value.ownBlock] at hk; omega)
      obtain ⟨a1, c1', rfl, _⟩ := own_shape g1
      clear g1 g2 g3 SR BA
      have hw2 := B2.out.size
      have BB : Hid (Below w2.heap.size w2 (w2.alloc (.cells #[] 5))) := (Below.refl _ _).alloc (Nat.le_refl _) _
      go_wp2_with (at_builtin; refine wpList_append_sl rfl _ _ 22 rfl w2.heap.size 5 i0 _ 1 Try.underlying22 HI.out HZ0.out HZ1.out HZ2.out rfl (.slice (some ⟨w2.heap.size, 0, none⟩) 0 0) 0 [] rfl (own_empty _ _ _) (Value.int .u8) (fun _ => rfl) da dc data rfl ((HD.out.below B2.out).below BB.out) ?c4 ?c5 ?c6 ?_)
      case c4 => unfold maxLen; omega
      case c5 => omega
      case c6 => simp
      intro v2 w3 g1 g2 g3
      try simp only [Nat.zero_add, List.nil_append] at g1
      obtain ⟨g, sp, a2e⟩ : ∃ g sp, ∃ c2, v2 = .slice (some ⟨g, 0, none⟩) data.length c2 ∧ w2.heap.size ≤ g ∧ Blk w3 g 5 (data.map (Value.int .u8) ++ sp) := by
        obtain ⟨a2, c2, rfl, _⟩ := own_shape g1
        obtain ⟨g, sp, rfl, hg, hbk, _⟩ := own_blk g1 (by intro e; rw [e] at hd1; simp at hd1)
        exact ⟨g, sp, c2, rfl, hg, hbk⟩
      obtain ⟨c2, rfl, hg, hbk⟩ := a2e
      have SX := Lib.hid hbk.sub
      have U3 : Hid (Below w2.heap.size w2 w3) := BB.out.grown g2 (by simp) (by intro k hk; simp [Value.ownBlock] at hk; omega)
      have HG := Lib.hid hg
      have hgl := hbk.lt
      clear g1 g2 g3 hbk hg BB
      have hw3 := U3.out.size
      have O3 : Hid ((w3.alloc (.cells #[.slice (some ⟨g, 0, none⟩) data.length c2, .int .i64 dl, .int .i64 1, .int .i64 0] 47)).ownsRow w.heap.size 47 4 (.slice a1 ps.length c1') ps.length (flM ps)) :=
        own_upd (own_upd O1.out (Upd.of_below (S := fun _ => False) U3.out) (fun _ _ => id)) (Upd.of_below (S := fun _ => False) ((Below.refl _ _).alloc (Nat.le_refl _) _)) (fun _ _ => id)
      have NB : Hid (Blk (w3.alloc (.cells #[.slice (some ⟨g, 0, none⟩) data.length c2, .int .i64 dl, .int .i64 1, .int .i64 0] 47)) w3.heap.size 47 (rmC (⟨some ⟨g, 0, none⟩, c2, data⟩, ⟨data, dl, 1, 0⟩))) := Blk.new w3 _ [.slice (some ⟨g, 0, none⟩) data.length c2, .int .i64 dl, .int .i64 1, .int .i64 0]
      go_wp2_with (at_builtin; refine wpList_append_cells rfl _ _ 35 rfl w.heap.size 47 i1 _ 4 48 Try.underlying35 JI.out JZ0.out JZ1.out JZ2.out rfl (by decide) (.slice a1 ps.length c1') ps.length (flM ps) rfl O3.out (some ⟨w3.heap.size, 0, none⟩) 1 1 (rmC (⟨some ⟨g, 0, none⟩, c2, data⟩, ⟨data, dl, 1, 0⟩)) rfl rfl ?c7 ?c8 ?c9 ?c10 ?c11 ?_)
      case c7 => exact fun j u hj => ⟨rfl, by rw [adr_mk, Nat.zero_add]; exact NB.out.cell hj⟩
      case c8 =>
        intro u hu
        simp only [rmC, List.mem_cons, List.not_mem_nil, or_false] at hu
        rcases hu with rfl | rfl | rfl | rfl <;> rfl
      case c9 => unfold maxLen; omega
      case c10 => omega
      case c11 => simp; omega
      intro v4 w5 g1 g2 g3
      have U4 := Upd.of_grownV g2
      have h1l := fun k hk => own_lt O1.out (g := k) hk
      have SX5 : Sl (Value.int .u8) w5 (some ⟨g, 0, none⟩) data := (SX.out.below ((Below.refl _ _).alloc (Nat.le_refl _) _)).upd U4 fun _ e => by
        have := (h1l g e).1
        have := HG.out
        omega
      have BF : Below w.heap.size w w5 := Upd.below (((B2.out.trans (U3.out.mono hw2))).trans (((Below.refl _ _).alloc (Nat.le_refl _) _).mono (by omega))) U4 (by simp; omega) fun k hk => (h1l k hk).2
      have OF : w5.ownsRow w.heap.size 47 4 v4 (ps ++ [((⟨some ⟨g, 0, none⟩, c2, data⟩, ⟨data, dl, 1, 0⟩) : RM)]).length (flM (ps ++ [((⟨some ⟨g, 0, none⟩, c2, data⟩, ⟨data, dl, 1, 0⟩) : RM)])) := by
        rw [flM_append, List.length_append]
        exact g1
      have RF := Lib.hid (H.out.new BF hbase OF (fun p hp => by
        rcases List.mem_append.1 hp with hp | hp
        · exact .inl ⟨p, hp, rfl, rfl⟩
        · obtain rfl := List.mem_singleton.1 hp
          exact .inr ⟨SX5, rfl, (by intro e; rw [show data = [] from e] at hd1; simp at hd1), Nat.le_trans hw2 HG.out⟩))
      have BF' := Lib.hid BF
      clear g1 g2 g3 U4 h1l SX5 BF OF
      go_wp2_with fail
      go_ret2
      exact ⟨_, _, rfl, by unfold rmS; rw [List.map_append]; rfl, RF.out, BF'.out⟩

theorem cancel_set {ms : List Msg} {k : Nat} {m : Msg} (h : ms[k]? = some m) (h1 : m.st = 1) : dropM (pCancel k) 4 0 ms = ms.set k { m with st := 4 } := by
  refine List.ext_getElem? fun j => ?_
  rw [dropM_get, Nat.zero_add]
  by_cases e : j = k
  · subst e
    rw [h, List.getElem?_set_self (get_lt h)]
    simp [Msg.dropped, pCancel, h1]
  · rw [List.getElem?_set_ne (fun h => e h.symm)]
    cases hj : ms[j]? with
    | none => rfl
    | some x => simp [Msg.dropped, pCancel, e]

set_option maxHeartbeats 8000000 in
set_option maxRecDepth 100000 in
theorem refCancel_any (w : World) (base : Nat) (D : Nat → Prop) (a : Option Addr) (c : Nat) (ps : List RM) (h : RefAt w base D (.slice a ps.length c) ps) (hl : ps.length ≤ 1000) (ok : ∀ m ∈ rmS ps, 1 ≤ m.st) (n : Int) (hbase : base ≤ w.heap.size) :
    Calls Try.prog 16 #[.slice a ps.length c, .int .i64 n] w (RPost w base D (cancelE (rmS ps) n) (cancelM (rmS ps) n)) := by
  have H := Lib.hid h
  clear h
  have M0 : Hid (RefAt w base (newD w w D) (.slice a ps.length c) ps) := H.out.more (Below.refl _ _) hbase
  by_cases hout : n < 0 ∨ (0 ≤ n ∧ (ps.length : Int) ≤ n)
  · have hs : stOf ((rmS ps).map Msg.st) n = 0 := by
      unfold stOf
      rcases hout with h | ⟨h0, h⟩
      · rw [if_pos h]
      · rw [if_neg (by omega), List.getElem?_eq_none (by simp [rmS]; omega)]; rfl
    have hE : cancelE (rmS ps) n = 7 := by unfold cancelE; rw [if_pos hs]
    have hM : cancelM (rmS ps) n = rmS ps := by unfold cancelM; rw [if_neg (by rw [hs]; decide)]
    rw [hE, hM]
    clear hE hM hs ok
    rcases hout with h | ⟨h0, h⟩
    all_goals
      go_enter Try.func16, Try.ntmps16
      go_wp2_with fail
      go_ret2
      exact ⟨_, ps, rfl, rfl, M0.out, Below.refl _ _⟩
  · obtain ⟨k, rfl⟩ : ∃ k : Nat, n = (k : Int) := ⟨n.toNat, by omega⟩
    have hk : k < ps.length := by omega
    obtain ⟨p, hp⟩ : ∃ p, ps[k]? = some p := ⟨ps[k], by simp [hk]⟩
    have hm : (rmS ps)[k]? = some p.2 := by unfold rmS; rw [List.getElem?_map, hp]; rfl
    have h1 := ok p.2 (List.mem_of_getElem? hm)
    have hs : stOf ((rmS ps).map Msg.st) (k : Int) = (p.2.st : Int) := by
      unfold stOf
      rw [if_neg (by omega), Int.toNat_natCast, List.getElem?_map, hm]
      rfl
    obtain ⟨oka, c0, c1, c2, c3⟩ := H.out.slr k p hp
    have hki : (k : Int) < (ps.length : Int) := by omega
    clear hout
    by_cases hst : p.2.st = 1
    · have hE : cancelE (rmS ps) (k : Int) = 0 := by unfold cancelE; rw [if_neg (by rw [hs]; omega), if_pos (by rw [hs]; omega)]
      have hM : cancelM (rmS ps) (k : Int) = (rmS ps).set k { p.2 with st := 4 } := by
        unfold cancelM
        rw [if_pos (by rw [hs]; omega), Int.toNat_natCast, cancel_set hm hst]
      rw [hE, hM]
      have f1 : ((p.2.st : Int) != 1) = false := by rw [hst]; rfl
      obtain ⟨i1, hi, hz0, hz1, hz2⟩ := info_parts Try.infoMsg
      have JI := Lib.hid hi; have JZ0 := Lib.hid hz0; have JZ1 := Lib.hid hz1; have JZ2 := Lib.hid hz2
      have BA : Hid (Below w.heap.size w (w.alloc (.cells #[] 47))) := (Below.refl _ _).alloc (Nat.le_refl _) _
      have SR := Lib.hid ((H.out.below BA.out).slr.cells)
      have HP := Lib.hid hp
      clear hi hz0 hz1 hz2 hE hM hs hm h1 ok hst hp
      go_enter Try.func16, Try.ntmps16
      go_wp2_with (at_builtin; refine wpList_append_cells rfl _ _ 35 rfl w.heap.size 47 i1 _ 4 48 Try.underlying35 JI.out JZ0.out JZ1.out JZ2.out rfl (by decide) (.slice (some ⟨w.heap.size, 0, none⟩) 0 0) 0 [] rfl (own_empty _ _ _) a ps.length c (flM ps) rfl (flM_len ps) SR.out (flM_one ps) ?c1 ?c2 ?c3 ?_)
      case c1 => unfold maxLen; omega
      case c2 => omega
      case c3 => simp
      intro v1 w2 g1 g2 g3
      try simp only [Nat.zero_add, List.nil_append] at g1
      have B2 : Hid (Below w.heap.size w w2) := BA.out.grown g2 (by simp) (by intro k hk; simp [Value.ownBlock] at hk; omega)
      obtain ⟨a1, c1', rfl, _⟩ := own_shape g1
      have hne : ps ≠ [] := by intro e; rw [e] at hk; simp at hk
      obtain ⟨g, sp, rfl, hg, hbk, _⟩ := own4_blk g1 hne
      have hf := own4_free (i := k * 4 + 2) g1 hne
      have hc : w2.cell? ⟨g, k * 4 + 2, none⟩ = some (.int .i64 p.2.st) := by
        have := (SlR.of_own g1 k p HP.out).2.2.2.1
        rwa [adr_mk, Nat.zero_add] at this
      have hset := own4_set (j := k) (k := 2) (v := .int .i64 4) (p' := (p.1, { p.2 with st := 4 })) g1 HP.out (by omega) rfl
      have O1 := Lib.hid hset
      have hw2 := B2.out.size
      have BF : Hid (Below w.heap.size w (w2.setCell ⟨g, k * 4 + 2, none⟩ (.int .i64 4))) := Upd.below B2.out ((Upd.refl (fun j => j = g) w2).setCell ⟨g, k * 4 + 2, none⟩ (.int .i64 4) (fun _ => rfl)) hw2 (fun j hj => by rw [hj]; exact hg)
      have RF := Lib.hid (H.out.new BF.out hbase (ps' := ps.set k (p.1, { p.2 with st := 4 })) (by rw [List.length_set]; exact O1.out) (fun x hx => by
        obtain ⟨j, hj⟩ := List.mem_iff_getElem?.1 hx
        by_cases e : j = k
        · subst e
          rw [List.getElem?_set_self hk] at hj
          cases hj
          exact .inl ⟨p, List.mem_of_getElem? HP.out, rfl, rfl⟩
        · rw [List.getElem?_set_ne (fun h => e h.symm)] at hj
          exact .inl ⟨x, List.mem_of_getElem? hj, rfl, rfl⟩))
      have hrm : Hid (rmS (ps.set k (p.1, { p.2 with st := 4 })) = (rmS ps).set k { p.2 with st := 4 }) := by show _ = _; unfold rmS; rw [List.map_set]
      clear g1 g2 g3 hbk hset SR BA hg c0 c1 c2 c3
      go_wp2_with fail
      go_ret2
      exact ⟨_, _, rfl, hrm.out, RF.out, BF.out⟩
    · have hE : cancelE (rmS ps) (k : Int) = 6 := by unfold cancelE; rw [if_neg (by rw [hs]; omega), if_neg (by rw [hs]; omega)]
      have hM : cancelM (rmS ps) (k : Int) = rmS ps := by unfold cancelM; rw [if_neg (by rw [hs]; omega)]
      rw [hE, hM]
      have f1 : ((p.2.st : Int) != 1) = true := by
        have : ¬ (p.2.st : Int) = 1 := by omega
        simpa using this
      clear hE hM hs hm h1 ok hst hp
      go_enter Try.func16, Try.ntmps16
      go_wp2_with fail
      go_ret2
      exact ⟨_, ps, rfl, rfl, M0.out, Below.refl _ _⟩
end Go.Proofs.Ytjljjohoipnhhaa
