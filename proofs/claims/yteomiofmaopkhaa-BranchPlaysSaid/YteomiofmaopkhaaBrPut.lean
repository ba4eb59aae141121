/-
  Contract of Put.
-/
import Derived.Test.YteomiofmaopkhaaBrFork
namespace Go.Proofs.Yteomiofmaopkhaa
open Go.RowKit
set_option linter.unusedVariables false

/-- The set of a list of outputs; none if the list is refused. -/
def putMask (o : Int) : List Int → Nat → Option Nat
  | [], m => some m
  | z :: zs, m => if z < 0 ∨ o ≤ z ∨ hasB m z.toNat = true then none else putMask o zs (setB m z.toNat)
theorem putMask_lt {o : Int} (ho : o ≤ 8) : ∀ (l : List Int) (m r : Nat), m < 256 → putMask o l m = some r → r < 256
  | [], m, r, hm, h => by simp [putMask] at h; omega
  | z :: zs, m, r, hm, h => by
    unfold putMask at h
    split at h
    · simp at h
    · rename_i hz
      exact putMask_lt ho zs _ r (setB_lt hm (by omega)) h
def PutAdd (w : World) (base b : Nat) (o room : Int) (v : Value) (fs : List Fr) (freed nid : Int) (m : Nat) (w' : World) : Prop :=
  ∃ v', FkAt w' base b o room v' (fs ++ [⟨nid, m⟩]) freed ∧ Upd (fkS b v) w w' ∧ (v'.ownBlock = v.ownBlock ∨ ∀ g, v'.ownBlock = some g → w.heap.size ≤ g)
def PutPost (w : World) (base b : Nat) (o room : Int) (v : Value) (fs : List Fr) (freed nid : Int) (outs : List Int) (e : Ending) (w' : World) : Prop :=
  (putMask o outs 0 = none ∧ e = .returned (.int .i64 1) ∧ Below w.heap.size w w') ∨
  ∃ m, putMask o outs 0 = some m ∧
    ((fs.any (fun y => y.id == nid) = true ∧ e = .returned (.int .i64 8) ∧ Below w.heap.size w w') ∨
     (fs.any (fun y => y.id == nid) = false ∧ room ≤ fs.length ∧ e = .returned (.int .i64 5) ∧ Below w.heap.size w w') ∨
     (fs.any (fun y => y.id == nid) = false ∧ fs.length < room ∧ e = .returned (.int .i64 0) ∧ PutAdd w base b o room v fs freed nid m w'))

/-- The memory of the loop: the number at w.heap.size, the new frame at the block behind. -/
structure PtM (w : World) (base b : Nat) (o room : Int) (v : Value) (fs : List Fr) (freed nid : Int) (m : Nat) (wr : World) : Prop where
  hi : Blk wr w.heap.size 3 [.int .i64 nid]
  hx : Blk wr (w.heap.size + 1) 62 [.int .i64 nid, .int .u64 (m : Int)]
  hF : FkAt wr base b o room v fs freed
  bel : Below w.heap.size w wr
theorem PtM.below {w wr w' : World} {base b : Nat} {o room : Int} {v : Value} {fs : List Fr} {freed nid : Int} {m : Nat} (h : PtM w base b o room v fs freed nid m wr) (q : Below wr.heap.size wr w') : PtM w base b o room v fs freed nid m w' :=
  ⟨h.hi.upd (S := fun _ => False) (Upd.of_below q) id, h.hx.upd (S := fun _ => False) (Upd.of_below q) id, h.hF.below q, h.bel.trans (q.mono h.bel.size)⟩
theorem PtM.set {w wr : World} {base b : Nat} {o room : Int} {v : Value} {fs : List Fr} {freed nid : Int} {m : Nat} (h : PtM w base b o room v fs freed nid m wr) (hlt : ∀ k, fkS b v k → k < w.heap.size) (m' : Nat) :
    PtM w base b o room v fs freed nid m' (wr.setCell ⟨w.heap.size + 1, 1, none⟩ (.int .u64 (m' : Int))) := by
  have u : Upd (fun k => k = w.heap.size + 1) wr (wr.setCell ⟨w.heap.size + 1, 1, none⟩ (.int .u64 (m' : Int))) := (Upd.refl _ _).setCell _ _ (fun _ => rfl)
  refine ⟨h.hi.upd u (by omega), ?_, h.hF.upd u (by have := hlt b (.inl rfl); omega) (fun g hg => by have := hlt g (.inr hg); omega), h.bel.setCell (p := ⟨w.heap.size + 1, 1, none⟩) (by simp) _⟩
  simpa using h.hx.set 1 (.int .u64 (m' : Int))
def PtRel (w : World) (base b : Nat) (o room : Int) (v : Value) (fs : List Fr) (freed nid : Int) (outs : List Int) (i : Value) (wr : World) : Prop :=
  ∃ (k m : Nat), k ≤ outs.length ∧ i = .int .i64 k ∧ m < 256 ∧ putMask o outs 0 = putMask o (outs.drop k) m ∧ PtM w base b o room v fs freed nid m wr
theorem drop_cons {α : Type} {l : List α} {k : Nat} {x : α} (h : l[k]? = some x) : l.drop k = x :: l.drop (k + 1) := by
  have hk := get_lt h
  rw [List.drop_eq_getElem_cons hk]
  congr 1
  rw [List.getElem?_eq_getElem hk] at h
  exact Option.some.inj h
theorem own_heap {w w' : World} {base : Nat} {e : TypeId} {size : Nat} {v : Value} {n : Nat} {xs : List Value} (h : w.ownsRow base e size v n xs) (he : w'.heap = w.heap) : w'.ownsRow base e size v n xs := by
  unfold World.ownsRow at *
  rw [he]
  exact h
theorem news_heap {w0 w' : World} {T : TypeId} {vs : List Value} {s : Nat} (hs : w0.heap.size = s) (he : w'.heap = (w0.alloc (.cells vs.toArray T)).heap) : ∀ j u, vs[j]? = some u → w'.cell? (Addr.add ⟨s, 0, none⟩ j) = some u := by
  intro j u hj
  have := news_new (T := T) hs j u hj
  rw [← this]
  unfold World.cell?
  rw [he]
/-- Behind the append. -/
structure PtF (w2 : World) (base b : Nat) (o room : Int) (v : Value) (fs : List Fr) (freed nid : Int) (m g cap : Nat) (w3 : World) : Prop where
  hb : Blk w3 b 59 [.int .i64 o, .int .i64 room, v, .int .i64 freed]
  own : w3.ownsRow base 62 2 (.slice (some ⟨g, 0, none⟩) (fs.length + 1) cap) (fs.length + 1) (cfs fs ++ [.int .i64 nid, .int .u64 (m : Int)])
  u : Upd (fkS b v) w2 w3
  at' : v.ownBlock = some g ∨ w2.heap.size ≤ g
  ne : g ≠ b
theorem PtF.fin {w2 : World} {base b : Nat} {o room : Int} {v : Value} {fs : List Fr} {freed nid : Int} {m g cap : Nat} {w3 : World} (h : PtF w2 base b o room v fs freed nid m g cap w3) (hbb : base ≤ b) :
    PutAdd w2 base b o room v fs freed nid m (w3.setCell ⟨b, 2, none⟩ (.slice (some ⟨g, 0, none⟩) (fs.length + 1) cap)) := by
  refine ⟨.slice (some ⟨g, 0, none⟩) (fs.length + 1) cap, ⟨?_, ?_, ?_, hbb⟩, h.u.setCell _ _ (fun _ => .inl rfl), ?_⟩
  · simpa using h.hb.set 2 (.slice (some ⟨g, 0, none⟩) (fs.length + 1) cap)
  · rw [List.length_append, cfs_append]
    exact own_upd (S := fun k => k = b) h.own ((Upd.refl _ _).setCell _ _ (fun _ => rfl)) (by intro k hk; simp [Value.ownBlock] at hk; have := h.ne; omega)
  · simp [Value.ownBlock]; exact h.ne
  · rcases h.at' with h1 | h1
    · left; rw [h1]; rfl
    · right; intro k hk; simp [Value.ownBlock] at hk; omega

theorem PutAdd.pre {w w2 w' : World} {base b : Nat} {o room : Int} {v : Value} {fs : List Fr} {freed nid : Int} {m : Nat} (h : PutAdd w2 base b o room v fs freed nid m w') (B : Below w.heap.size w w2) : PutAdd w base b o room v fs freed nid m w' := by
  obtain ⟨v', h1, h2, h3⟩ := h
  exact ⟨v', h1, Upd.then (Upd.of_below B) h2 (fun _ _ h => h), h3.imp id fun h g hg => Nat.le_trans B.size (h g hg)⟩
theorem put_nil (w : World) (nid : Int) (a : Option Addr) (n c : Nat) : Calls Try.prog 18 #[.pointer none, .int .i64 nid, .slice a n c] w fun e w' => e = .returned (.int .i64 1) ∧ Below w.heap.size w w' := by
  go_enter Try.func18, Try.ntmps18
  go_wp2
  go_ret
  exact ⟨rfl, (Below.refl _ _).alloc (Nat.le_refl _) _⟩
theorem put_empty (w : World) (base b : Nat) (o room : Int) (v : Value) (fs : List Fr) (freed nid : Int) (h : FkAt w base b o room v fs freed) (a : Option Addr) (c : Nat) :
    Calls Try.prog 18 #[.pointer (some ⟨b, 0, none⟩), .int .i64 nid, .slice a 0 c] w fun e w' => e = .returned (.int .i64 1) ∧ Below w.heap.size w w' := by
  clear h
  go_enter Try.func18, Try.ntmps18
  go_wp2
  go_ret
  exact ⟨rfl, (Below.refl _ _).alloc (Nat.le_refl _) _⟩

set_option maxHeartbeats 8000000 in
set_option maxRecDepth 100000 in
theorem put_any (w : World) (base b : Nat) (o room : Int) (v : Value) (fs : List Fr) (freed nid : Int) (h : FkAt w base b o room v fs freed) (a : Option Addr) (c : Nat) (outs : List Int) (hs : SlI w a outs)
    (hn : 1 ≤ outs.length) (hn2 : outs.length ≤ 1000) (ho : o ≤ 8) (hl : fs.length ≤ 1000) (hroom : room ≤ 64) (hbase : base ≤ w.heap.size) :
    Calls Try.prog 18 #[.pointer (some ⟨b, 0, none⟩), .int .i64 nid, .slice a outs.length c] w (PutPost w base b o room v fs freed nid outs) := by
  have H := Lib.hid h; have S := Lib.hid hs
  have hF := Lib.hid fun k hk => (h.f_lt (k := k) hk).1
  have hblt := h.hb.lt
  clear h hs
  generalize hN : outs.length = n at *
  have HN := Lib.hid hN; clear hN
  have g0 : ((n : Int) == 0) = false := by rw [beq_eq_false_iff_ne]; omega
  obtain ⟨i0, hi, hz0, hz1, hz2⟩ := info_parts Try.infoBF
  have HI := Lib.hid hi; have HZ0 := Lib.hid hz0; have HZ1 := Lib.hid hz1; have HZ2 := Lib.hid hz2
  clear hi hz0 hz1 hz2
  have B0 : Below w.heap.size w ((w.alloc (.cells #[.int .i64 nid] 3)).alloc (.cells #[.int .i64 nid, .int .u64 0] 62)) := ((Below.refl _ _).alloc (Nat.le_refl _) _).alloc (by simp) _
  have M0 : Hid (PtM w base b o room v fs freed nid 0 ((w.alloc (.cells #[.int .i64 nid] 3)).alloc (.cells #[.int .i64 nid, .int .u64 0] 62))) := by
    refine ⟨(Blk.new w _ [.int .i64 nid]).alloc _, ?_, H.out.below B0, B0⟩
    have := Blk.new (w.alloc (.cells #[.int .i64 nid] 3)) 62 [.int .i64 nid, .int .u64 0]
    rw [World.size_alloc] at this
    exact this
  clear B0
  go_enter Try.func18, Try.ntmps18
  go_wp2_with fail
  go_loopw [21] (fun i wr => PtRel w base b o room v fs freed nid outs i wr) (fun i _ => n - (intOf i).toNat)
  case atStart => exact ⟨0, 0, Nat.zero_le _, rfl, by decide, by simp, M0.out⟩
  case round =>
    obtain ⟨k, m, hk, rfl, hm, hpm, hM⟩ := hrel
    have HM := Lib.hid hM; have HPM := Lib.hid hpm
    have hk' : k ≤ n := by rw [HN.out] at hk; exact hk
    clear hM hpm hk M0
    have q0 := HM.out.hF.hb.cell (i := 0) rfl
    have x0 := HM.out.hx.cell (i := 0) rfl
    have x1 := HM.out.hx.cell (i := 1) rfl
    have fx := HM.out.hx.free 1
    by_cases hlt : k < n
    · obtain ⟨z, ez, okz, cz⟩ := (S.out.below HM.out.bel).get (k := k) (by rw [HN.out]; exact hlt)
      have hcons : Hid (putMask o outs 0 = putMask o (z :: outs.drop (k + 1)) m) := by show _ = _; rw [HPM.out, drop_cons ez.out]
      by_cases hz0 : z < 0
      · have hd : decide (z < 0) = true := by simpa using hz0
        have hbad : Hid (putMask o outs 0 = none) := by show _ = _; rw [hcons.out]; unfold putMask; rw [if_pos (.inl hz0)]
        have B1 := Lib.hid HM.out.bel
        go_wp2_with fail
        go_quiet (fail)
        go_wp2_with fail
        go_ret
        exact .inl ⟨hbad.out, rfl, B1.out.trans (((Qt.refl _).drewN _).below _)⟩
      · have hd : decide (z < 0) = false := by simpa using hz0
        by_cases hzo : o ≤ z
        · have hd2 : decide (o ≤ z) = true := by simpa using hzo
          have hbad : Hid (putMask o outs 0 = none) := by show _ = _; rw [hcons.out]; unfold putMask; rw [if_pos (.inr (.inl hzo))]
          have B1 := Lib.hid HM.out.bel
          go_wp2_with fail
          go_quiet (fail)
          go_wp2_with fail
          go_ret
          exact .inl ⟨hbad.out, rfl, B1.out.trans (((Qt.refl _).drewN _).below _)⟩
        · have hd2 : decide (o ≤ z) = false := by simpa using hzo
          obtain ⟨y, rfl⟩ := Int.eq_ofNat_of_zero_le (show 0 ≤ z by omega)
          have hy8 : y < 8 := by omega
          obtain ⟨p, hp, s1, hp8⟩ := pw_any y hy8
          obtain ⟨r, hr, s2⟩ := and_u64 m p hm hp8
          obtain ⟨m', hm', s3⟩ := or_u64 m p hm hp8
          have T := Lib.hid (test_u64 m y p r hp hr)
          have em : Hid (m' = setB m y) := by show _ = _; rw [hm'.out, hp.out]; rfl
          cases hhb : hasB m y with
          | true =>
            have t1 : ((r : Int) != 0) = true := by rw [T.out]; exact hhb
            have hbad : Hid (putMask o outs 0 = none) := by show _ = _; rw [hcons.out]; unfold putMask; rw [if_pos (.inr (.inr (by simpa using hhb)))]
            have B1 := Lib.hid HM.out.bel
            clear hhb
            go_wp2_with fail
            go_quiet (fail)
            go_wp2_with fail
            go_ret
            exact .inl ⟨hbad.out, rfl, B1.out.trans (((Qt.refl _).drewN _).below _)⟩
          | false =>
            have t1 : ((r : Int) != 0) = false := by rw [T.out]; exact hhb
            have hgo : Hid (putMask o outs 0 = putMask o (outs.drop (k + 1)) m') := by
              show _ = _
              rw [hcons.out, em.out]
              conv => lhs; unfold putMask
              rw [if_neg (by simp [hhb]; omega)]
              rfl
            have hm8 : m' < 256 := by rw [em.out]; exact setB_lt hm hy8
            have FIN := Lib.hid fun n => (HM.out.below ((Qt.refl wr).drewN n).bel).set hF.out m'
            clear hhb
            go_wp2_with fail
            go_quiet (fail)
            go_wp2_with fail
            go_region
            go_wp2_with fail
            go_roundw
            case rel => exact ⟨k + 1, m', by rw [HN.out]; omega, by go_num, hm8, hgo.out, FIN.out _⟩
            case measure => simp [intOf]; omega
    · obtain rfl : k = n := by omega
      have hfin : Hid (putMask o outs 0 = some m) := by
        show _ = _
        rw [HPM.out, List.drop_eq_nil_of_le (by rw [HN.out]; exact Nat.le_refl _)]
        rfl
      have q1 := HM.out.hF.hb.cell (i := 1) rfl
      have q2 := HM.out.hF.hb.cell (i := 2) rfl
      obtain ⟨av, cv, rfl, _⟩ := own_shape HM.out.hF.own
      have CT := Lib.hid (cont_put wr av cv fs (ownF_sl HM.out.hF.own) hl nid w.heap.size HM.out.hi)
      clear fx
      cases hany : fs.any (fun y => y.id == nid) with
      | true =>
        have HA := Lib.hid hany
        have CT' : Hid (Calls Try.prog 32 #[.slice av fs.length cv, .func (.func 33) #[] #[.pointer (some ⟨w.heap.size, 0, none⟩)]] wr fun e w' => e = .returned (.bool true) ∧ Below wr.heap.size wr w') := CT.out.mono fun e w' ⟨h1, h2⟩ => ⟨by rw [h1, hany], h2⟩
        clear hany CT
        go_wp2_with fail
        refine CT'.out.mono ?_
        rintro e w1 ⟨rfl, hb⟩
        have B1 := Lib.hid (HM.out.below hb).bel; clear hb
        go_wp2_with fail
        go_ret
        exact .inr ⟨m, hfin.out, .inl ⟨HA.out, rfl, B1.out⟩⟩
      | false =>
        have HA := Lib.hid hany
        have CT' : Hid (Calls Try.prog 32 #[.slice av fs.length cv, .func (.func 33) #[] #[.pointer (some ⟨w.heap.size, 0, none⟩)]] wr fun e w' => e = .returned (.bool false) ∧ Below wr.heap.size wr w') := CT.out.mono fun e w' ⟨h1, h2⟩ => ⟨by rw [h1, hany], h2⟩
        clear hany CT
        go_wp2_with fail
        refine CT'.out.mono ?_
        rintro e w1 ⟨rfl, hb⟩
        have M1 := Lib.hid (HM.out.below hb); clear hb q0 q1 q2 x0 x1
        have q1 := M1.out.hF.hb.cell (i := 1) rfl
        have q2 := M1.out.hF.hb.cell (i := 2) rfl
        by_cases hfull : room ≤ fs.length
        · have hd : decide (room ≤ (fs.length : Int)) = true := by simpa using hfull
          go_wp2_with fail
          go_quiet (fail)
          go_wp2_with fail
          go_ret
          exact .inr ⟨m, hfin.out, .inr (.inl ⟨HA.out, hfull, rfl, M1.out.bel.trans (((Qt.refl _).drewN _).below _)⟩)⟩
        · have hd : decide (room ≤ (fs.length : Int)) = false := by simpa using hfull
          have x0 := M1.out.hx.cell (i := 0) rfl
          have x1 := M1.out.hx.cell (i := 1) rfl
          go_wp2_with fail
          go_quiet (fail)
          have M2 := Lib.hid fun n => M1.out.below ((Qt.refl w1).drewN n).bel
          rename_i nq _
          have M3 := Lib.hid (M2.out nq)
          clear q1 q2 x0 x1
          generalize w1.drewN nq = w2 at *
          have q2 := M3.out.hF.hb.cell (i := 2) rfl
          have x0 := M3.out.hx.cell (i := 0) rfl
          have x1 := M3.out.hx.cell (i := 1) rfl
          have hm8 : m < 256 := hm
          have hbs : base ≤ w2.heap.size := Nat.le_trans hbase M3.out.bel.size
          have AFT : Hid (∀ (W' : World) (g cap : Nat) (w3 : World), W'.heap = (w2.alloc (.cells #[.int .i64 nid, .int .u64 (m : Int)] 62)).heap → Upd (fun _ => False) w2 W' →
              w3.ownsRow base 62 2 (.slice (some ⟨g, 0, none⟩) (fs.length + 1) cap) (fs.length + 1) (cfs fs ++ [.int .i64 nid, .int .u64 (m : Int)]) → W'.grownBy w3 (Value.slice av fs.length cv).ownBlock →
              ((Value.slice av fs.length cv).ownBlock = some g ∨ g = w2.heap.size + 1) → PtF w2 base b o room (.slice av fs.length cv) fs freed nid m g cap w3) := by
            intro W' g cap w3 hW hU hown hgr hat
            have hbl := M3.out.hF.hb.lt
            have hne := M3.out.hF.ne
            have U : Upd (fkS b (.slice av fs.length cv)) w2 w3 := Upd.then (S := fkS b (.slice av fs.length cv)) (T := fkS b (.slice av fs.length cv)) (hU.mono fun _ _ h => h.elim) ⟨hgr.os, hgr.tape, hgr.output, hgr.size, fun k hk hs => hgr.block k hk fun e => hs (.inr e.symm)⟩ (fun _ _ h => h)
            have hblk : w3.heap[b]? = w2.heap[b]? := by
              rw [hgr.block b (by rw [hW]; simp; omega) (Ne.symm hne), hW]
              exact Below.heap_alloc _ _ _ hbl
            refine ⟨M3.out.hF.hb.of_heap hblk, hown, U, hat.imp id (fun h => by omega), ?_⟩
            rcases hat with h1 | h1
            · intro e; rw [e] at h1; exact hne h1
            · omega
          have OWN := Lib.hid M3.out.hF.own
          have hb2 := M3.out.hF.hb.lt
          have hx2 := M3.out.hx.lt
          have hbb := M3.out.hF.bb
          go_wp2_with fail
          go_region_law (first | (refine step_append_lies _ (by rfl) _ _ 57 (by rfl) base 62 i0 _ 2 16 Try.underlying57 HI.out HZ0.out HZ1.out HZ2.out rfl (by decide) _ fs.length (cfs fs) (by rfl) (own_heap (OWN.out.alloc (.cells #[.int .i64 nid, .int .u64 (m : Int)] 62)) rfl) ⟨w2.heap.size, 0, none⟩ 1 1 [.int .i64 nid, .int .u64 (m : Int)] (by rfl) rfl (news_heap (vs := [.int .i64 nid, .int .u64 (m : Int)]) rfl rfl) (by intro u hu; simp at hu; rcases hu with rfl | rfl <;> rfl) (by decide) (by unfold maxLen; omega) (by omega) (by simp; omega) (w2.heap.size + 1) (by simp) ?_; intro g cap w3 hown hgr hat hglt; have F3 := Lib.hid (AFT.out ((w2.alloc (.cells #[.int .i64 nid, .int .u64 (m : Int)] 62)).drew) g cap w3 rfl ((Upd.refl _ w2).alloc _).drew hown hgr hat); clear hown hgr hat hglt q2; have q2 := F3.out.hb.cell (i := 2) rfl; have f2 := F3.out.hb.free 2))
          all_goals
            go_wp2_with fail
            go_ret
            exact .inr ⟨m, hfin.out, .inr (.inr ⟨HA.out, by omega, rfl, (F3.out.fin hbb).pre M3.out.bel⟩)⟩
end Go.Proofs.Yteomiofmaopkhaa
