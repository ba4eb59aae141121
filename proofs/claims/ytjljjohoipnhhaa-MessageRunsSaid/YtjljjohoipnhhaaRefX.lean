/-
  The reference's Next.
-/
import Derived.Test.YtjljjohoipnhhaaRefA
import Derived.Laws.BitsAllLaws
namespace Go.Proofs.Ytjljjohoipnhhaa
open Go.RowKit
set_option linter.unusedVariables false

theorem rx_ddata (p : Int → Nat → Bool) (k : Nat) : ∀ (i : Nat) (l : List Msg), (dropM p k i l).map Msg.data = l.map Msg.data
  | _, [] => rfl
  | i, m :: l => by
    simp only [dropM, List.map_cons]
    rw [rx_ddata p k (i + 1) l]
    unfold Msg.dropped
    split <;> rfl
theorem rx_sdata : ∀ (i : Nat) (l : List Msg) (b : Nat), (sendL i l b).1.map Msg.data = l.map Msg.data
  | _, [], _ => rfl
  | i, m :: l, b => by
    rw [sendL_cons]
    split
    · simp only [List.map_cons]
      rw [rx_sdata (i + 1) l]
      congr 1
      unfold Msg.take
      split
      · rfl
      · split <;> rfl
    · simp only [List.map_cons]
      rw [rx_sdata (i + 1) l]
theorem rx_ndata (ms : List Msg) (t m : Int) : (nextM ms t m).map Msg.data = ms.map Msg.data := by unfold nextM finOf; rw [rx_sdata, rx_ddata]
theorem rm_same {ps ps' : List RM} (h1 : ps'.map Prod.fst = ps.map Prod.fst) (h2 : (rmS ps').map Msg.data = (rmS ps).map Msg.data) : ∀ p ∈ ps', ∃ p0 ∈ ps, p.1 = p0.1 ∧ p.2.data = p0.2.data := by
  intro p hp
  obtain ⟨j, hj⟩ := List.mem_iff_getElem?.1 hp
  have hl : ps'.length = ps.length := by simpa using congrArg List.length h1
  have hlt := get_lt hj
  have h0 : ps[j]? = some (ps[j]'(by omega)) := List.getElem?_eq_getElem _
  have e1 := congrArg (fun l => l[j]?) h1
  have e2 := congrArg (fun l => l[j]?) h2
  simp only [rmS, List.getElem?_map, hj, h0, Option.map_some] at e1 e2
  exact ⟨_, List.mem_of_getElem? h0, Option.some.inj e1, Option.some.inj e2⟩
/-- The first k have expired where they must. -/
def exK (tick : Int) (k : Nat) (ps : List RM) : List RM := ps.mapIdx fun j p => if j < k then (p.1, p.2.dropped (pNext tick) 5 j) else p
theorem exK_get (tick : Int) (k : Nat) (ps : List RM) (j : Nat) : (exK tick k ps)[j]? = (ps[j]?).map fun p => if j < k then (p.1, p.2.dropped (pNext tick) 5 j) else p := by unfold exK; rw [List.getElem?_mapIdx]
theorem exK_len (tick : Int) (k : Nat) (ps : List RM) : (exK tick k ps).length = ps.length := by unfold exK; rw [List.length_mapIdx]
theorem exK_zero (tick : Int) (ps : List RM) : exK tick 0 ps = ps := by
  refine List.ext_getElem? fun j => ?_
  rw [exK_get]
  cases ps[j]? <;> simp
theorem exK_succ (tick : Int) {k : Nat} {ps : List RM} {p : RM} (h : ps[k]? = some p) : (exK tick k ps)[k]? = some p ∧ exK tick (k + 1) ps = (exK tick k ps).set k (p.1, p.2.dropped (pNext tick) 5 k) := by
  have h0 : (exK tick k ps)[k]? = some p := by rw [exK_get, h]; simp
  refine ⟨h0, List.ext_getElem? fun j => ?_⟩
  rw [exK_get]
  by_cases e : j = k
  · subst e
    rw [List.getElem?_set_self (get_lt h0), h]
    simp
  · rw [List.getElem?_set_ne (fun h => e h.symm), exK_get]
    cases ps[j]? with
    | none => rfl
    | some x =>
      by_cases hj : j < k
      · simp [hj, show j < k + 1 by omega]
      · simp [hj, show ¬ j < k + 1 by omega]
theorem set_same {α : Type} {l : List α} {k : Nat} {p : α} (h : l[k]? = some p) : l.set k p = l := by
  refine List.ext_getElem? fun j => ?_
  by_cases e : k = j
  · subst e
    rw [List.getElem?_set_self (get_lt h), h]
  · rw [List.getElem?_set_ne e]
theorem exK_same (tick : Int) {k : Nat} {ps : List RM} {p : RM} (h : ps[k]? = some p) (hd : p.2.dropped (pNext tick) 5 k = p.2) : exK tick (k + 1) ps = exK tick k ps := by
  obtain ⟨h1, h2⟩ := exK_succ tick h
  rw [h2, hd]
  exact set_same h1
theorem exK_fst (tick : Int) (k : Nat) (ps : List RM) : (exK tick k ps).map Prod.fst = ps.map Prod.fst := by
  refine List.ext_getElem? fun j => ?_
  rw [List.getElem?_map, exK_get, List.getElem?_map]
  cases ps[j]? with
  | none => rfl
  | some x => simp only [Option.map_some]; split <;> rfl
theorem exK_all (tick : Int) (ps : List RM) : rmS (exK tick ps.length ps) = dropM (pNext tick) 5 0 (rmS ps) := by
  refine List.ext_getElem? fun j => ?_
  unfold rmS
  rw [List.getElem?_map, exK_get, dropM_get, List.getElem?_map, Nat.zero_add]
  cases hj : ps[j]? with
  | none => rfl
  | some x => simp [get_lt hj]
theorem drop_yes {tick : Int} {m : Msg} {k : Nat} (h1 : m.st = 1) (h2 : 0 ≤ m.dl) (h3 : m.dl < tick) : m.dropped (pNext tick) 5 k = { m with st := 5 } := by
  unfold Msg.dropped pNext
  rw [if_pos ⟨h1, by rw [decide_eq_true (by omega : m.dl ≠ -1), decide_eq_true h3]; rfl⟩]
theorem drop_no {tick : Int} {m : Msg} {k : Nat} (hm : -1 ≤ m.dl) (h : ¬ (m.st = 1 ∧ 0 ≤ m.dl ∧ m.dl < tick)) : m.dropped (pNext tick) 5 k = m := by
  unfold Msg.dropped pNext
  rw [if_neg]
  rintro ⟨h1, h2⟩
  simp only [Bool.and_eq_true, decide_eq_true_eq] at h2
  exact h ⟨h1, by omega, h2.2⟩
theorem send_one (i : Nat) (m : Msg) (b : Nat) (h : m.st ≤ 2) : sendL i [m] b = ([m.take i b], (m.rest i).take b) := by
  rw [sendL_cons, if_pos h]
  simp [sendL]
theorem send_none (i : Nat) (m : Msg) (b : Nat) (h : ¬ m.st ≤ 2) : sendL i [m] b = ([m], []) := by
  rw [sendL_cons, if_neg h]
  rfl
theorem send_succ {ms : List Msg} {k : Nat} {m : Msg} (h : ms[k]? = some m) (b : Nat) : sendL 0 (ms.take (k + 1)) b =
    ((sendL 0 (ms.take k) b).1 ++ (sendL k [m] (b - (sendL 0 (ms.take k) b).2.length)).1, (sendL 0 (ms.take k) b).2 ++ (sendL k [m] (b - (sendL 0 (ms.take k) b).2.length)).2) := by
  have hk := get_lt h
  rw [List.take_add_one, h]
  show sendL 0 (ms.take k ++ [m]) b = _
  rw [sendL_append, Nat.zero_add, List.length_take, Nat.min_eq_left (by omega)]
/-- A message of which q bytes more are out. -/
def outQ (m : Msg) (q : Nat) : Msg := if q = 0 then m else { m with st := 2, out := m.out + q }
theorem outQ_out (m : Msg) (q : Nat) : (outQ m q).out = m.out + q := by unfold outQ; split <;> simp_all
theorem take_outQ {m : Msg} {i b q : Nat} (hq : q = min (m.rest i).length b) (h1 : 1 ≤ (m.rest i).length) : m.take i b = if q = (m.rest i).length then { outQ m q with st := 3 } else outQ m q := by
  unfold Msg.take outQ
  rw [← hq]
  by_cases h0 : q = 0
  · rw [if_pos h0, if_neg (by omega), if_pos h0]
  · rw [if_neg h0, if_neg h0]
theorem rm_head {ps ps2 : List RM} {k : Nat} {m : Msg} {bud : Nat} (h : (rmS ps)[k]? = some m) : (rmS ps).drop k = m :: (rmS ps).drop (k + 1) ∧ (sendL 0 ((rmS ps).take k) bud).1.length = k := by
  have hk := get_lt h
  refine ⟨?_, by rw [sendL_len, List.length_take]; omega⟩
  rw [List.drop_eq_getElem_cons hk]
  congr 1
  rw [List.getElem?_eq_getElem hk] at h
  exact Option.some.inj h
theorem n2_closed {ps ps2 : List RM} {k : Nat} {m : Msg} {bud : Nat} (h : (rmS ps)[k]? = some m) (hst : ¬ m.st ≤ 2) (hr : rmS ps2 = (sendL 0 ((rmS ps).take k) bud).1 ++ (rmS ps).drop k) :
    rmS ps2 = (sendL 0 ((rmS ps).take (k + 1)) bud).1 ++ (rmS ps).drop (k + 1) ∧ (sendL 0 ((rmS ps).take k) bud).2 = (sendL 0 ((rmS ps).take (k + 1)) bud).2 := by
  have hs := send_succ h bud
  rw [send_none _ _ _ hst] at hs
  rw [hs, hr, (rm_head (ps2 := ps2) (bud := bud) h).1]
  simp
theorem n2_open {ps ps2 : List RM} {k : Nat} {m m' : Msg} {bud : Nat} {p : RM} (h : (rmS ps)[k]? = some m) (hst : m.st ≤ 2) (hr : rmS ps2 = (sendL 0 ((rmS ps).take k) bud).1 ++ (rmS ps).drop k) (hm : m' = m.take k (bud - (sendL 0 ((rmS ps).take k) bud).2.length)) :
    rmS (ps2.set k (p.1, m')) = (sendL 0 ((rmS ps).take (k + 1)) bud).1 ++ (rmS ps).drop (k + 1) ∧ (sendL 0 ((rmS ps).take k) bud).2 ++ (m.rest k).take (bud - (sendL 0 ((rmS ps).take k) bud).2.length) = (sendL 0 ((rmS ps).take (k + 1)) bud).2 := by
  have hs := send_succ h bud
  rw [send_one _ _ _ hst, ← hm] at hs
  obtain ⟨h1, h2⟩ := rm_head (ps2 := ps2) (bud := bud) h
  have e : rmS (ps2.set k (p.1, m')) = (rmS ps2).set k m' := by unfold rmS; rw [List.map_set]
  rw [hs, e, hr, h1]
  refine ⟨?_, rfl⟩
  have := set_pre (sendL 0 ((rmS ps).take k) bud).1 m m' ((rmS ps).drop (k + 1))
  rw [h2] at this
  rw [this]
  simp
structure InM (W : World) (B g c1 n k : Nat) (ps2 : List RM) (p : RM) (mq : Msg) (bv : Value) (bs : List Int) (fv : Value) (fm : List Int) (w : World) : Prop where
  own : w.ownsRow B 47 4 (.slice (some ⟨g, 0, none⟩) n c1) n (flM (ps2.set k (p.1, mq)))
  vb : Vw (Value.int .u8) 5 w B bv bs
  vf : Vw (Value.int .u8) 5 w B fv fm
  d1 : ∀ j, bv.ownBlock = some j → j ≠ g ∧ fv.ownBlock ≠ some j
  d2 : fv.ownBlock ≠ some g
  bel : Below B W w
  hB : B = W.heap.size
  hk : ps2[k]? = some p
section
variable {W w w' w1 : World} {B g c1 n k : Nat} {ps2 : List RM} {p : RM} {mq m' : Msg} {bv bv' fv : Value} {bs bs' fm : List Int}
theorem InM.ne (h : InM W B g c1 n k ps2 p mq bv bs fv fm w) : ps2.set k (p.1, mq) ≠ [] := by
  intro e
  have := get_lt h.hk
  have h2 := congrArg List.length e
  rw [List.length_set] at h2
  simp at h2
  rw [h2] at this
  simp at this
theorem InM.get (h : InM W B g c1 n k ps2 p mq bv bs fv fm w) : (ps2.set k (p.1, mq))[k]? = some (p.1, mq) := List.getElem?_set_self (get_lt h.hk)
theorem InM.c2 (h : InM W B g c1 n k ps2 p mq bv bs fv fm w) : w.cell? ⟨g, k * 4 + 2, none⟩ = some (.int .i64 mq.st) := by
  have := (SlR.of_own h.own k _ h.get).2.2.2.1
  rwa [adr_mk, Nat.zero_add] at this
theorem InM.c3 (h : InM W B g c1 n k ps2 p mq bv bs fv fm w) : w.cell? ⟨g, k * 4 + 3, none⟩ = some (.int .i64 mq.out) := by
  have := (SlR.of_own h.own k _ h.get).2.2.2.2
  rwa [adr_mk, Nat.zero_add] at this
theorem InM.free (h : InM W B g c1 n k ps2 p mq bv bs fv fm w) (i : Nat) : w.frozen? ⟨g, i, none⟩ = false := own4_free h.own h.ne
theorem InM.gl (h : InM W B g c1 n k ps2 p mq bv bs fv fm w) : B ≤ g ∧ g < w.heap.size := by
  have := own_lt h.own (g := g) rfl
  exact ⟨this.2, this.1⟩
theorem InM.below (h : InM W B g c1 n k ps2 p mq bv bs fv fm w) (q : Below w.heap.size w w') : InM W B g c1 n k ps2 p mq bv bs fv fm w' :=
  ⟨own_upd h.own (Upd.of_below (S := fun _ => False) q) (fun _ _ => id), h.vb.below q, h.vf.below q, h.d1, h.d2, h.bel.trans (q.mono (by rw [h.hB]; exact h.bel.size)), h.hB, h.hk⟩
theorem InM.app (h : InM W B g c1 n k ps2 p mq bv bs fv fm w) (q : Below w.heap.size w w1) (hv : Vw (Value.int .u8) 5 w' B bv' bs') (u : Upd (fun j => bv.ownBlock = some j) w1 w') (ho : bv'.ownBlock = bv.ownBlock ∨ ∀ j, bv'.ownBlock = some j → w1.heap.size ≤ j) :
    InM W B g c1 n k ps2 p mq bv' bs' fv fm w' := by
  have H := h.below q
  have hs := q.size
  refine ⟨own_upd H.own u (fun j hj e => ?_), hv, H.vf.upd u (fun j hj e => (h.d1 j e).2 hj), fun j hj => ?_, h.d2, Upd.below H.bel u (by rw [h.hB]; exact H.bel.size) fun j hj => (H.vb.lt hj).1, h.hB, h.hk⟩
  · have : g = j := by simpa [Value.ownBlock] using hj
    subst this
    exact (h.d1 g e).1 rfl
  · rcases ho with e | e
    · exact h.d1 j (by rw [← e]; exact hj)
    · have h1 := e j hj
      have h2 := h.gl.2
      refine ⟨by omega, fun e2 => ?_⟩
      have := (h.vf.lt e2).2
      omega
theorem InM.set (h : InM W B g c1 n k ps2 p mq bv bs fv fm w) {i : Nat} {v : Value} (hi : i < 4) (he : (rmC (p.1, mq)).set i v = rmC (p.1, m')) : InM W B g c1 n k ps2 p m' bv bs fv fm (w.setCell ⟨g, k * 4 + i, none⟩ v) := by
  have h1 := own4_set (j := k) (k := i) (v := v) (p' := (p.1, m')) h.own h.get hi he
  rw [List.set_set] at h1
  have u := (Upd.refl (fun j => j = g) w).setCell ⟨g, k * 4 + i, none⟩ v (fun _ => rfl)
  exact ⟨h1, h.vb.upd u (fun j hj e => (h.d1 j hj).1 e), h.vf.upd u (fun j hj e => h.d2 (by rw [hj, e])), h.d1, h.d2, Upd.below h.bel u (by rw [h.hB]; exact h.bel.size) (fun j hj => by rw [hj]; exact h.gl.1), h.hB, h.hk⟩
end
def N1Rel (W : World) (tick : Int) (v1 : Value) (ps : List RM) (iv : Value) (w : World) : Prop :=
  ∃ k : Nat, k ≤ ps.length ∧ iv = .int .i64 k ∧ w.ownsRow W.heap.size 47 4 v1 ps.length (flM (exK tick k ps)) ∧ Below W.heap.size W w
def N2Rel (W : World) (bud : Nat) (v1 : Value) (n : Nat) (ps : List RM) (bv iv : Value) (w : World) : Prop :=
  ∃ (k : Nat) (ps2 : List RM) (bs : List Int), k ≤ n ∧ iv = .int .i64 k ∧ ps2.map Prod.fst = ps.map Prod.fst ∧ rmS ps2 = (sendL 0 ((rmS ps).take k) bud).1 ++ (rmS ps).drop k ∧ bs = (sendL 0 ((rmS ps).take k) bud).2 ∧
    w.ownsRow W.heap.size 47 4 v1 n (flM ps2) ∧ Vw (Value.int .u8) 5 w W.heap.size bv bs ∧ (∀ j, bv.ownBlock = some j → v1.ownBlock ≠ some j) ∧ Below W.heap.size W w
def N4Rel (W : World) (B g c1 n k : Nat) (ps2 : List RM) (p : RM) (m : Msg) (fv : Value) (fm bs rs : List Int) (cap : Nat) (gk : Nat) (bv : Value) (w : World) : Prop :=
  ∃ q : Nat, q ≤ min rs.length cap ∧ gk = min rs.length cap - q ∧ InM W B g c1 n k ps2 p (outQ m q) bv (bs ++ rs.take q) fv fm w
theorem n2_done {W w : World} {g c1 n k bud : Nat} {ps ps2 : List RM} {p : RM} {m' : Msg} {bv fv iv : Value} {bs bq fm : List Int} (I : InM W W.heap.size g c1 n k ps2 p m' bv bq fv fm w) (hk : k + 1 ≤ n) (hi : iv = .int .i64 ((k + 1 : Nat) : Int)) (F2 : ps2.map Prod.fst = ps.map Prod.fst)
    (PM : (rmS ps)[k]? = some p.2) (HST : p.2.st ≤ 2) (R2 : rmS ps2 = (sendL 0 ((rmS ps).take k) bud).1 ++ (rmS ps).drop k) (BS : bs = (sendL 0 ((rmS ps).take k) bud).2) (hm : m' = p.2.take k (bud - bs.length)) (hq : bq = bs ++ (p.2.rest k).take (bud - bs.length)) :
    N2Rel W bud (.slice (some ⟨g, 0, none⟩) n c1) n ps bv iv w := by
  obtain ⟨n1, n2⟩ := n2_open (m' := m') (p := p) PM HST R2 (by rw [← BS]; exact hm)
  rw [← BS, ← hq] at n2
  refine ⟨k + 1, _, bq, hk, hi, ?_, n1, n2, I.own, I.vb, fun j hj e => (I.d1 j hj).1 ?_, I.bel⟩
  · rw [List.map_set, ← F2]
    refine set_same ?_
    rw [List.getElem?_map, I.hk]
    rfl
  · have : g = j := by simpa [Value.ownBlock] using e
    exact this.symm
def RNext (w : World) (base : Nat) (D : Nat → Prop) (ms : List Msg) (tick most : Int) (e : Ending) (w' : World) : Prop :=
  ∃ v' bv ps', e = .returned (.tuple #[v', bv]) ∧ rmS ps' = nextM ms tick most ∧ RefAt w' base (newD w w' D) v' ps' ∧ Vw (Value.int .u8) 5 w' w.heap.size bv (nextW ms tick most) ∧ Below w.heap.size w w'

set_option maxHeartbeats 32000000 in
set_option maxRecDepth 100000 in
theorem refNext_any (w : World) (base : Nat) (D : Nat → Prop) (a : Option Addr) (c : Nat) (ps0 : List RM) (h : RefAt w base D (.slice a ps0.length c) ps0) (hl : ps0.length ≤ 1000) (ok : ∀ m ∈ rmS ps0, MsgOk m) (tick most : Int) (hmost : most ≤ 9223372036854775807) (hbase : base ≤ w.heap.size) :
    Calls Try.prog 18 #[.slice a ps0.length c, .int .i64 tick, .int .i64 most] w (RNext w base D (rmS ps0) tick most) := by
  have H := Lib.hid h; have OK := Lib.hid ok
  clear h ok
  obtain ⟨i0, hi, hz0, hz1, hz2⟩ := info_parts Try.infoByte
  have HI := Lib.hid hi; have HZ0 := Lib.hid hz0; have HZ1 := Lib.hid hz1; have HZ2 := Lib.hid hz2
  obtain ⟨i1, hi, hz0, hz1, hz2⟩ := info_parts Try.infoMsg
  have JI := Lib.hid hi; have JZ0 := Lib.hid hz0; have JZ1 := Lib.hid hz1; have JZ2 := Lib.hid hz2
  have BA : Hid (Below w.heap.size w (w.alloc (.cells #[] 47))) := (Below.refl _ _).alloc (Nat.le_refl _) _
  have SR := Lib.hid ((H.out.below BA.out).slr.cells)
  clear hi hz0 hz1 hz2
  go_enter Try.func18, Try.ntmps18
  go_wp2_with (at_builtin; refine wpList_append_cells rfl _ _ 35 rfl w.heap.size 47 i1 _ 4 48 Try.underlying35 JI.out JZ0.out JZ1.out JZ2.out rfl (by decide) (.slice (some ⟨w.heap.size, 0, none⟩) 0 0) 0 [] rfl (own_empty _ _ _) a ps0.length c (flM ps0) rfl (flM_len ps0) SR.out (flM_one ps0) ?c1 ?c2 ?c3 ?_)
  case c1 => unfold maxLen; omega
  case c2 => omega
  case c3 => simp
  intro v1 w2 g1 g2 g3
  try simp only [Nat.zero_add, List.nil_append] at g1
  have O1 := Lib.hid g1
  have B2 : Hid (Below w.heap.size w w2) := BA.out.grown g2 (by simp) (by intro k hk; simp [Value.ownBlock] at hk; omega)
  obtain ⟨a1, c1', rfl, _⟩ := own_shape g1
  clear g1 g2 g3 SR BA
  go_wp2_with fail
  go_loopw [9] (fun iv wr => N1Rel w tick (.slice a1 ps0.length c1') ps0 iv wr) (fun iv _ => ps0.length - (intOf iv).toNat)
  case atStart => exact ⟨0, Nat.zero_le _, rfl, by rw [exK_zero]; exact O1.out, B2.out⟩
  case round =>
    clear O1 B2
    obtain ⟨k, hk, rfl, hO, hBl⟩ := hrel
    have OO := Lib.hid hO; have BL := Lib.hid hBl
    clear hO hBl
    by_cases hlt : k < ps0.length
    · obtain ⟨p, hp⟩ : ∃ p, ps0[k]? = some p := ⟨ps0[k], by simp [hlt]⟩
      obtain ⟨x1, x2⟩ := exK_succ tick hp
      have hne : exK tick k ps0 ≠ [] := by intro e; rw [e] at x1; simp at x1
      obtain ⟨g, sp, rfl, hg, hxx⟩ := own4_blk OO.out hne
      clear hxx
      obtain ⟨_, c0, c1, c2, c3⟩ := SlR.of_own OO.out k p x1
      rw [adr_mk, Nat.zero_add] at c1 c2
      have f2 := own4_free (i := k * 4 + 2) OO.out hne
      have hpm : p.2 ∈ rmS ps0 := List.mem_map.2 ⟨p, List.mem_of_getElem? hp, rfl⟩
      have hdl := (OK.out p.2 hpm).dl
      have hki : (k : Int) < (ps0.length : Int) := by omega
      have hs := own4_set (j := k) (k := 2) (v := .int .i64 5) (p' := (p.1, { p.2 with st := 5 })) OO.out x1 (by omega) rfl
      have hE1 : Hid ((p.2.st = 1 ∧ 0 ≤ p.2.dl ∧ p.2.dl < tick) → exK tick (k + 1) ps0 = (exK tick k ps0).set k (p.1, { p.2 with st := 5 })) := fun h => by rw [x2, drop_yes h.1 h.2.1 h.2.2]
      have hE2 : Hid (¬ (p.2.st = 1 ∧ 0 ≤ p.2.dl ∧ p.2.dl < tick) → exK tick (k + 1) ps0 = exK tick k ps0) := fun h => exK_same tick hp (drop_no hdl h)
      have HS := Lib.hid hs
      have hBs := BL.out.size
      clear hs x1 x2 hp hpm c0 c3 hne hdl
      by_cases q1 : p.2.st = 1
      · have f1 : ((p.2.st : Int) == 1) = true := by rw [q1]; rfl
        by_cases q2 : 0 ≤ p.2.dl
        · by_cases q3 : p.2.dl < tick
          · have E := Lib.hid (hE1.out ⟨q1, q2, q3⟩)
            have BF : Hid (Below w.heap.size w (wr.setCell ⟨g, k * 4 + 2, none⟩ (.int .i64 5))) := Upd.below BL.out ((Upd.refl (fun j => j = g) wr).setCell ⟨g, k * 4 + 2, none⟩ (.int .i64 5) (fun _ => rfl)) hBs (fun j hj => by rw [hj]; exact hg)
            clear q1 hE1 hE2
            go_wp2_with fail
            go_roundw
            case rel => exact ⟨k + 1, by omega, by go_num, by rw [E.out]; exact HS.out, BF.out⟩
            case measure => simp [intOf]; omega
          · have E := Lib.hid (hE2.out (fun h => q3 h.2.2))
            clear q1 hE1 hE2
            go_wp2_with fail
            go_roundw
            case rel => exact ⟨k + 1, by omega, by go_num, by rw [E.out]; exact OO.out, BL.out⟩
            case measure => simp [intOf]; omega
        · have E := Lib.hid (hE2.out (fun h => q2 h.2.1))
          clear q1 hE1 hE2
          go_wp2_with fail
          go_roundw
          case rel => exact ⟨k + 1, by omega, by go_num, by rw [E.out]; exact OO.out, BL.out⟩
          case measure => simp [intOf]; omega
      · have f1 : ((p.2.st : Int) == 1) = false := by
          have : ¬ (p.2.st : Int) = 1 := by omega
          simpa using this
        have E := Lib.hid (hE2.out (fun h => q1 h.1))
        clear q1 hE1 hE2
        go_wp2_with fail
        go_roundw
        case rel => exact ⟨k + 1, by omega, by go_num, by rw [E.out]; exact OO.out, BL.out⟩
        case measure => simp [intOf]; omega
    · obtain rfl : k = ps0.length := by omega
      obtain ⟨ps, hps⟩ : ∃ ps, exK tick ps0.length ps0 = ps := ⟨_, rfl⟩
      have hall := exK_all tick ps0
      have hfst := exK_fst tick ps0.length ps0
      have hlen := exK_len tick ps0.length ps0
      have hO := OO.out
      rw [hps] at hall hfst hlen hO
      have ALL := Lib.hid hall; have FST := Lib.hid hfst; have OE := Lib.hid hO; have HLEN := Lib.hid hlen
      have OKE : Hid (∀ m ∈ rmS ps, MsgOk m) := by show ∀ m ∈ rmS ps, MsgOk m; rw [hall]; exact dropM_ok _ _ (by decide) (by decide) OK.out
      clear hps hall hfst hlen hO OO
      obtain ⟨bud, hbud⟩ : ∃ bud, most.toNat = bud := ⟨_, rfl⟩
      have HBU := Lib.hid hbud
      clear hbud
      obtain ⟨wo, rfl⟩ : ∃ wo : World, wo = wr := ⟨_, rfl⟩
      go_wp2_with fail
      go_loopw [10, 11] (fun bv iv wr => N2Rel w bud (.slice a1 ps0.length c1') ps0.length ps bv iv wr) (fun _ iv _ => ps0.length - (intOf iv).toNat)
      case atStart => exact ⟨0, ps, [], Nat.zero_le _, rfl, rfl, rfl, rfl, OE.out, Vw.nil _ _ _ _, (fun j hj => by cases hj), BL.out⟩
      case round =>
        clear OE BL
        obtain ⟨k, ps2, bs, hk, rfl, hf2, hr2, hbs, hO, hV, hsep, hBl⟩ := hrel
        have F2 := Lib.hid hf2; have R2 := Lib.hid hr2; have BS := Lib.hid hbs; have OO := Lib.hid hO; have VV := Lib.hid hV; have SEP := Lib.hid hsep; have BL := Lib.hid hBl
        have hbl : bs.length ≤ 1005000 := by
          rw [hbs]
          have h1 := sendL_total 0 ((rmS ps).take k) bud (fun m hm => OKE.out m (List.mem_of_mem_take hm))
          rw [List.length_take] at h1
          omega
        have hbb : bs.length ≤ bud := by rw [hbs]; exact sendL_le _ _ _
        clear hf2 hr2 hbs hO hV hsep hBl
        obtain ⟨ba, bc, rfl⟩ := VV.out.shape
        by_cases hlt : k < ps0.length
        · have hl2 : ps2.length = ps0.length := by
            have := congrArg List.length F2.out
            rw [List.length_map, List.length_map, HLEN.out] at this
            exact this
          obtain ⟨p, hp⟩ : ∃ p, ps2[k]? = some p := ⟨ps2[k]'(by omega), by simp⟩
          have hpm : (rmS ps)[k]? = some p.2 := by
            have h1 : (rmS ps2)[k]? = some p.2 := by unfold rmS; rw [List.getElem?_map, hp]; rfl
            rw [R2.out, List.getElem?_append_right (by rw [sendL_len, List.length_take]; omega), sendL_len, List.length_take, List.getElem?_drop] at h1
            rw [← h1]
            congr 1
            have : (rmS ps).length = ps0.length := by unfold rmS; rw [List.length_map]; exact HLEN.out
            omega
          have PM := Lib.hid hpm
          have hne2 : ps2 ≠ [] := by intro e; rw [e] at hp; simp at hp
          obtain ⟨g, sp, rfl, hg, hxx⟩ := own4_blk OO.out hne2
          clear hxx hl2
          obtain ⟨ccx, cc0, ccy, cc2, ccz⟩ := SlR.of_own OO.out k p hp
          clear ccx ccy ccz
          rw [adr_mk, Nat.zero_add] at cc0 cc2
          have hki : (k : Int) < (ps0.length : Int) := by omega
          have hmok := OKE.out p.2 (List.mem_of_getElem? hpm)
          by_cases hst : p.2.st ≤ 2
          · have hst' : ¬ (2 : Int) < (p.2.st : Int) := by omega
            obtain ⟨p0, hp0⟩ : ∃ p0, ps0[k]? = some p0 := ⟨ps0[k], by simp [hlt]⟩
            have hrow : p.1 = p0.1 := by
              have h1 := congrArg (fun l => l[k]?) (F2.out.trans FST.out)
              simp only [List.getElem?_map, hp, hp0, Option.map_some] at h1
              exact Option.some.inj h1
            have hdat : p.2.data = p0.2.data := by
              have h1 := congrArg (fun l => (l.map Msg.data)[k]?) ALL.out
              simp only [rx_ddata] at h1
              have h2 : (rmS ps0)[k]? = some p0.2 := by unfold rmS; rw [List.getElem?_map, hp0]; rfl
              rw [List.getElem?_map, List.getElem?_map, hpm, h2] at h1
              exact Option.some.inj h1
            obtain ⟨rd1, rd2, _⟩ := H.out.rd p0 (List.mem_of_getElem? hp0)
            rw [← hrow] at rd1 rd2
            rw [← hdat] at rd2
            have hdl2 : p.1.d.length ≤ 1000 := by rw [rd2]; exact hmok.d2
            have FM := Lib.hid (form_any wr k (by omega) p.1.a p.1.c p.1.d (rd1.below BL.out) (by omega))
            have hrs : p.2.rest k = (form k p.1.d).drop p.2.out := by unfold Msg.rest; rw [rd2]
            have hfl : (form k p.1.d).length = p.1.d.length + 5 := form_len _ _
            have hso : p.2.out < p.1.d.length + 5 := by rw [rd2]; exact hmok.s hst
            have HP := Lib.hid hp; have HRS := Lib.hid hrs; have HST := Lib.hid hst
            have hwl := BL.out.size
            unfold RwB.val at cc0
            clear hp hpm hp0 hrow hdat rd1 rd2 hrs hst hmok hne2
            go_wp2_with fail
            refine FM.out.mono ?_
            rintro e w3 ⟨fv, rfl, hfv, hfb⟩
            obtain ⟨rs, hrs⟩ : ∃ rs, p.2.rest k = rs := ⟨_, rfl⟩
            have hrl : rs.length = p.1.d.length + 5 - p.2.out := by rw [← hrs, HRS.out, List.length_drop, hfl]
            obtain ⟨cap, hcap⟩ : ∃ cap, bud - bs.length = cap := ⟨_, rfl⟩
            have hgl := (own_lt OO.out (g := g) rfl).1
            have hw3 := hfb.size
            obtain ⟨fm, hfm⟩ : ∃ fm, form k p.1.d = fm := ⟨_, rfl⟩
            rw [hfm] at hfv hfl HRS
            have hget : Hid (∀ q, q < rs.length → ∃ y, fm[p.2.out + q]? = some y ∧ rs[q]? = some y) := fun q hq => by
              have e1 : rs[q]? = some rs[q] := List.getElem?_eq_getElem hq
              refine ⟨rs[q], ?_, e1⟩
              rw [← e1, ← hrs, HRS.out, List.getElem?_drop]
            have I0 : Hid (InM w w.heap.size g c1' ps0.length k ps2 p p.2 (.slice ba bs.length bc) bs fv fm w3) := by
              refine ⟨?_, VV.out.below hfb, hfv.rebase (fun j hj => Nat.le_trans hwl (hfv.lt hj).1), fun j hj => ⟨fun e => ?_, fun e => ?_⟩, fun e => ?_, BL.out.trans (hfb.mono hwl), rfl, HP.out⟩
              · rw [show ps2.set k (p.1, p.2) = ps2 from set_same HP.out]
                exact own_upd OO.out (Upd.of_below (S := fun _ => False) hfb) (fun _ _ => id)
              · subst e
                exact SEP.out j hj rfl
              · have h1 := (VV.out.lt hj).2
                have h2 := (hfv.lt e).1
                omega
              · have h2 := (hfv.lt e).1
                omega
            have HR := Lib.hid hrs; have HC := Lib.hid hcap; have HRL := Lib.hid hrl; have HFL := Lib.hid hfl
            obtain ⟨fa, fc, rfl⟩ := hfv.shape
            have hcapb : bs.length + cap = bud := by omega
            clear hfv hfb hrs hcap FM hfm cc0 cc2 hrl hfl
            go_wp2_with fail
            obtain ⟨wo2, rfl⟩ : ∃ wo2 : World, wo2 = wr := ⟨_, rfl⟩
            go_loopg [10] (min rs.length cap) (fun gk bv wr => N4Rel w w.heap.size g c1' ps0.length k ps2 p p.2 (.slice fa fm.length fc) fm bs rs cap gk bv wr)
            case atStart => exact ⟨0, Nat.zero_le _, rfl, by rw [List.take_zero, List.append_nil]; exact I0.out⟩
            case round =>
              clear I0
              obtain ⟨q, hq, rfl, hI⟩ := hrel
              have II := Lib.hid hI
              clear hI
              obtain ⟨ba', bc', hbv⟩ := II.out.vb.shape
              subst hbv
              have hrl := HRL.out
              have hbq : (bs ++ rs.take q).length = bs.length + q := by rw [List.length_append, List.length_take]; omega
              have d3 := II.out.c3
              have d2 := II.out.c2
              rw [outQ_out] at d3
              obtain ⟨bq, hbqe⟩ : ∃ bq, bs ++ rs.take q = bq := ⟨_, rfl⟩
              have HBQ := Lib.hid hbqe
              rw [hbqe] at hbq II ⊢
              have HBL := Lib.hid hbq
              clear hbqe
              by_cases hin : q < rs.length ∧ q < cap
              · obtain ⟨hq1, hq2⟩ := hin
                obtain ⟨y, hy1, hy2⟩ := hget.out q hq1
                obtain ⟨okf, cy⟩ := II.out.vf.sl _ y hy1
                have t1 : ((p.2.out + q : Nat) : Int) < (fm.length : Int) := by have := HFL.out; omega
                have t2 : (bq.length : Int) < most := by have := HBU.out; omega
                have t3 : (0 : Int) ≤ ((p.2.out + q : Nat) : Int) := by omega
                have HTK : Hid (bq ++ [y] = bs ++ rs.take (q + 1)) := by show _ = _; rw [← HBQ.out, List.take_add_one, hy2, List.append_assoc]; rfl
                have hbq2 : bq.length ≤ 2010000 := by omega
                have hob : p.2.out + q ≤ 100000 := by omega
                have hq5 : q + 1 ≤ min rs.length cap := by omega
                clear hy1 hy2
                have z2 := II.out.free (k * 4 + 2)
                have z3 := II.out.free (k * 4 + 3)
                have hgg := II.out.gl.2
                have Bw := II.out.bel.size
                have HQ2 : Hid (outQ p.2 (q + 1) = { outQ p.2 q with st := 2, out := p.2.out + (q + 1) }) := by
                  show _ = _
                  unfold outQ
                  rw [if_neg (by omega)]
                  split <;> rfl
                have VL : Hid (Vw (Value.int .u8) 5 (wr.alloc (.cells #[.int .u8 y] 5)) w.heap.size (.slice ba' bq.length bc') bq) := II.out.vb.below ((Below.refl _ _).alloc (Nat.le_refl _) _)
                clear hrl hq hbq
                go_wp2_with (at_builtin; refine wpList_append_vw rfl _ _ 22 rfl w.heap.size 5 i0 _ 1 Try.underlying22 HI.out HZ0.out HZ1.out HZ2.out rfl (Value.int .u8) (fun _ => rfl) (.slice ba' bq.length bc') bq rfl VL.out (some ⟨wr.heap.size, 0, none⟩) 1 [y] rfl (one_genB rfl) ?c4 ?c5 ?c6 ?_)
                case c4 => unfold maxLen; omega
                case c5 => omega
                case c6 => first | omega | (simp; omega)
                intro v' w5 g1 g2 g3
                have I5 := Lib.hid (II.out.app ((Below.refl _ _).alloc (Nat.le_refl _) _) g1 g2 (by rw [World.size_alloc]; exact g3))
                clear g1 g2 g3 VL d2 d3 z2 z3
                have d3 := I5.out.c3
                rw [outQ_out] at d3
                have d2 := I5.out.c2
                have z3 := I5.out.free (k * 4 + 3)
                have z2 := I5.out.free (k * 4 + 2)
                have I6 := Lib.hid (I5.out.set (i := 3) (v := .int .i64 ((p.2.out : Int) + (q : Int) + 1)) (m' := { outQ p.2 q with out := p.2.out + (q + 1) }) (by omega) (by simp [rmC]; omega))
                have I7 := Lib.hid (I6.out.set (i := 2) (v := .int .i64 2) (m' := outQ p.2 (q + 1)) (by omega) (by rw [HQ2.out]; rfl))
                rw [HTK.out] at I7
                go_wp2_with fail
                go_roundg (min rs.length cap - (q + 1))
                case measure => omega
                case rel => exact ⟨q + 1, hq5, rfl, I7.out⟩
              · have hqm : q = min rs.length cap := by omega
                have z2 := II.out.free (k * 4 + 2)
                have HQM := Lib.hid hqm
                have hko : k + 1 ≤ ps0.length := by omega
                have hbq2 : Hid (bq = bs ++ (p.2.rest k).take (bud - bs.length)) := by
                  show _ = _
                  rw [HR.out, HC.out, ← HBQ.out, hqm]
                  rcases Nat.le_total rs.length cap with h | h
                  · rw [Nat.min_eq_left h, List.take_of_length_le (Nat.le_refl _), List.take_of_length_le h]
                  · rw [Nat.min_eq_right h]
                have hmt : Hid (p.2.take k (bud - bs.length) = if q = rs.length then { outQ p.2 q with st := 3 } else outQ p.2 q) := by
                  show _ = _
                  have h1 := take_outQ (m := p.2) (i := k) (b := bud - bs.length) (q := q) (by rw [HR.out, HC.out]; exact hqm) (by rw [HR.out]; omega)
                  rw [HR.out] at h1
                  exact h1
                have HFo := HFL.out
                by_cases hqr : q = rs.length
                · have t1 : ¬ ((p.2.out + q : Nat) : Int) < (fm.length : Int) := by omega
                  have t4 : (((p.2.out + q : Nat) : Int) == (fm.length : Int)) = true := by
                    have : ((p.2.out + q : Nat) : Int) = (fm.length : Int) := by omega
                    simpa using this
                  have hm3 : Hid ({ outQ p.2 q with st := 3 } = p.2.take k (bud - bs.length)) := by show _ = _; rw [hmt.out, if_pos hqr]
                  have I6 := Lib.hid (II.out.set (i := 2) (v := .int .i64 3) (m' := { outQ p.2 q with st := 3 }) (by omega) rfl)
                  clear hqr hqm hrl HFo hin hbq
                  go_wp2_with fail
                  go_roundw
                  case rel => exact n2_done I6.out hko (by go_num) F2.out PM.out HST.out R2.out BS.out hm3.out hbq2.out
                  case measure => simp [intOf]; omega
                · have t1 : ((p.2.out + q : Nat) : Int) < (fm.length : Int) := by omega
                  have t2 : ¬ (bq.length : Int) < most := by have := HBU.out; omega
                  have t4 : (((p.2.out + q : Nat) : Int) == (fm.length : Int)) = false := by
                    have : ¬ ((p.2.out + q : Nat) : Int) = (fm.length : Int) := by omega
                    simpa using this
                  have hm3 : Hid (outQ p.2 q = p.2.take k (bud - bs.length)) := by show _ = _; rw [hmt.out, if_neg hqr]
                  clear hqr hqm hrl HFo hin hbq
                  go_wp2_with fail
                  go_roundw
                  case rel => exact n2_done II.out hko (by go_num) F2.out PM.out HST.out R2.out BS.out hm3.out hbq2.out
                  case measure => simp [intOf]; omega
          · have hst' : (2 : Int) < (p.2.st : Int) := by omega
            obtain ⟨n1, n2⟩ := n2_closed hpm hst R2.out
            have N1 := Lib.hid n1
            have N2 : Hid (bs = (sendL 0 ((rmS ps).take (k + 1)) bud).2) := BS.out.trans n2
            clear hst n1 n2 hp hpm cc0 hmok hne2
            go_wp2_with fail
            go_roundw
            case rel => exact ⟨k + 1, ps2, bs, by omega, by go_num, F2.out, N1.out, N2.out, OO.out, VV.out, SEP.out, BL.out⟩
            case measure => simp [intOf]; omega
        · obtain rfl : k = ps0.length := by omega
          have hrl : (rmS ps).length = ps0.length := by unfold rmS; rw [List.length_map]; exact HLEN.out
          have hr := R2.out
          have hb := BS.out
          rw [List.take_of_length_le (by omega)] at hr hb
          rw [List.drop_of_length_le (by omega), List.append_nil, ALL.out, ← HBU.out] at hr
          rw [ALL.out, ← HBU.out] at hb
          have HRR : Hid (rmS ps2 = nextM (rmS ps0) tick most) := hr
          have HBB : Hid (bs = nextW (rmS ps0) tick most) := hb
          have hl2 : ps2.length = ps0.length := by
            have := congrArg List.length F2.out
            rw [List.length_map, List.length_map, HLEN.out] at this
            exact this
          have RF := Lib.hid (H.out.new BL.out hbase (ps' := ps2) (by rw [hl2]; exact OO.out) (fun p hp => .inl (rm_same (F2.out.trans FST.out) (by rw [HRR.out, rx_ndata]) p hp)))
          have VF : Hid (Vw (Value.int .u8) 5 wr w.heap.size (.slice ba bs.length bc) (nextW (rmS ps0) tick most)) := by
            show Vw _ _ _ _ _ _
            rw [← HBB.out]
            exact VV.out
          clear hr hb hrl hl2
          go_wp2_with fail
          go_ret2
          exact ⟨_, _, ps2, rfl, HRR.out, RF.out, VF.out, BL.out⟩
end Go.Proofs.Ytjljjohoipnhhaa
