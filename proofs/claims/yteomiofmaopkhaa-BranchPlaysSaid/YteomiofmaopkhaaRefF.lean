/-
  The reference's fork in memory; contracts of has, without, Waiting, Held.
-/
import Derived.Test.YteomiofmaopkhaaRdyLib
namespace Go.Proofs.Yteomiofmaopkhaa
open Go.RowKit
set_option linter.unusedVariables false

/-- A frame of the reference: its number, and the list of the outputs where it waits. -/
structure RF where
  id : Int
  a : Option Addr
  c : Nat
  l : List Int
  deriving Inhabited
def RF.lv (x : RF) : Value := .slice x.a x.l.length x.c
def cr (x : RF) : List Value := [.int .i64 x.id, x.lv]
def crs (l : List RF) : List Value := l.flatMap cr
theorem crs_cons (y : RF) (l : List RF) : crs (y :: l) = .int .i64 y.id :: y.lv :: crs l := rfl
theorem crs_append (l m : List RF) : crs (l ++ m) = crs l ++ crs m := by simp [crs]
theorem crs_len (l : List RF) : (crs l).length = l.length * 2 := by
  induction l with
  | nil => rfl
  | cons y l ih => rw [crs_cons]; simp only [List.length_cons, ih]; omega
theorem crs_get : ∀ {l : List RF} {c : Nat} {x : RF}, l[c]? = some x → (crs l)[c * 2]? = some (.int .i64 x.id) ∧ (crs l)[c * 2 + 1]? = some x.lv
  | [], c, x, h => by simp at h
  | y :: l, 0, x, h => by simp at h; subst h; exact ⟨rfl, rfl⟩
  | y :: l, c + 1, x, h => by
    have := crs_get (l := l) (c := c) (x := x) (by simpa using h)
    rw [crs_cons, show (c + 1) * 2 = c * 2 + 2 by omega]
    exact this
theorem crs_setB : ∀ {l : List RF} {c : Nat} {x : RF}, l[c]? = some x → ∀ (a : Option Addr) (cp : Nat) (r : List Int), (crs l).set (c * 2 + 1) (.slice a r.length cp) = crs (l.set c ⟨x.id, a, cp, r⟩)
  | [], c, x, h, _, _, _ => by simp at h
  | y :: l, 0, x, h, _, _, _ => by simp at h; subst h; rfl
  | y :: l, c + 1, x, h, a, cp, r => by
    have := crs_setB (l := l) (c := c) (x := x) (by simpa using h) a cp r
    rw [crs_cons, show (c + 1) * 2 + 1 = c * 2 + 1 + 2 by omega]
    exact congrArg (fun t => Value.int .i64 y.id :: y.lv :: t) this
theorem crs_app {l : List RF} {sp : List Value} {i : Nat} {v : Value} (h : (crs l)[i]? = some v) : (crs l ++ sp)[i]? = some v := by
  rw [List.getElem?_append_left (get_lt h)]; exact h
/-- Slice address a leads to the frames of l, two cells each. -/
def SlR (w : World) (a : Option Addr) (l : List RF) : Prop :=
  ∀ (j : Nat) (x : RF), l[j]? = some x → okAd a = true ∧ w.cell? (adr a (j * 2)) = some (.int .i64 x.id) ∧ w.cell? (adr a (j * 2 + 1)) = some (.slice x.a x.l.length x.c)
theorem SlR.get {w : World} {a : Option Addr} {l : List RF} (h : SlR w a l) {k : Nat} (hk : k < l.length) :
    ∃ x, Hid (l[k]? = some x) ∧ okAd a = true ∧ w.cell? (adr a (k * 2)) = some (.int .i64 x.id) ∧ w.cell? (adr a (k * 2 + 1)) = some (.slice x.a x.l.length x.c) :=
  ⟨l[k], by show l[k]? = some l[k]; simp [hk], h k _ (by simp [hk])⟩
theorem ownR_blk {w : World} {base : Nat} {e : TypeId} {v : Value} {n : Nat} {l : List RF} (h : w.ownsRow base e 2 v n (crs l)) (hx : l ≠ []) :
    ∃ g sp c, v = .slice (some ⟨g, 0, none⟩) n c ∧ base ≤ g ∧ Blk w g e (crs l ++ sp) ∧ n = l.length ∧ c * 2 = n * 2 + sp.length ∧ c ≤ maxLen := by
  obtain ⟨h1, h⟩ := h
  have hn : n = l.length := by rw [crs_len] at h1; omega
  rcases h with ⟨_, h0⟩ | ⟨g, cap, cur, hv, hg, hh, h3, h4, h5, h6⟩
  · exact absurd (List.eq_nil_of_length_eq_zero (by omega)) hx
  · refine ⟨g, cur.toList.drop (n * 2), cap, hv, hg, ?_, hn, by simp; omega, h4⟩
    unfold Blk
    rw [← h6, List.take_append_drop]
    exact hh
theorem ownR_sl {w : World} {base : Nat} {e : TypeId} {a : Option Addr} {n c : Nat} {l : List RF} (h : w.ownsRow base e 2 (.slice a n c) n (crs l)) : SlR w a l := by
  intro j x hj
  obtain ⟨g, sp, c', hv, hg, hb, hn, _⟩ := ownR_blk h (by intro e; rw [e] at hj; simp at hj)
  cases hv
  refine ⟨rfl, ?_, ?_⟩
  · rw [adr_mk, Nat.zero_add]; exact hb.cell (crs_app (crs_get hj).1)
  · rw [adr_mk, Nat.zero_add]; exact hb.cell (crs_app (crs_get hj).2)
/-- The reference's fork behind a pointer. -/
structure RfAt (w : World) (base rb : Nat) (o room : Int) (v : Value) (rs : List RF) (freed : Int) : Prop where
  hb : Blk w rb 42 [.int .i64 o, .int .i64 room, v, .int .i64 freed]
  own : w.ownsRow base 67 2 v rs.length (crs rs)
  rows : ∀ r ∈ rs, w.ownsRow base 3 1 r.lv r.l.length (r.l.map (Value.int .i64))
  bb : base ≤ rb
theorem blk_ty {w : World} {g : Nat} {T T' : TypeId} {xs ys : List Value} (h : Blk w g T xs) (h' : Blk w g T' ys) : T = T' := by
  unfold Blk at h h'
  rw [h] at h'
  injection h' with h'
  injection h' with _ ht
theorem own_ty {w : World} {base : Nat} {e : TypeId} {size : Nat} {v : Value} {n : Nat} {xs : List Value} (h : w.ownsRow base e size v n xs) {g : Nat} (hg : v.ownBlock = some g) : ∃ cs, Blk w g e cs ∧ base ≤ g := by
  rcases h.2 with ⟨rfl, _⟩ | ⟨g', cap, cur, rfl, hb, hh, _⟩
  · simp [Value.ownBlock] at hg
  · simp [Value.ownBlock] at hg
    subst hg
    exact ⟨cur.toList, hh, hb⟩
/-- A block of one of the types that are given. -/
def tyIn (w : World) (ts : List TypeId) (g : Nat) : Prop := ∃ T cs, T ∈ ts ∧ Blk w g T cs
theorem tyIn.lt {w : World} {ts : List TypeId} {g : Nat} (h : tyIn w ts g) : g < w.heap.size := by obtain ⟨T, cs, _, hb⟩ := h; exact hb.lt
theorem RfAt.upd {w w' : World} {base rb : Nat} {o room : Int} {v : Value} {rs : List RF} {freed : Int} {S : Nat → Prop} (h : RfAt w base rb o room v rs freed) (u : Upd S w w')
    (hs : ∀ g, tyIn w [42, 67, 3] g → base ≤ g → ¬ S g) : RfAt w' base rb o room v rs freed := by
  refine ⟨h.hb.upd u (hs _ ⟨_, _, by simp, h.hb⟩ h.bb), own_upd h.own u fun g hg => ?_, fun r hr => own_upd (h.rows r hr) u fun g hg => ?_, h.bb⟩
  · obtain ⟨cs, hb, hl⟩ := own_ty h.own hg
    exact hs g ⟨_, cs, by simp, hb⟩ hl
  · obtain ⟨cs, hb, hl⟩ := own_ty (h.rows r hr) hg
    exact hs g ⟨_, cs, by simp, hb⟩ hl
theorem RfAt.below {w w' : World} {base rb : Nat} {o room : Int} {v : Value} {rs : List RF} {freed : Int} (h : RfAt w base rb o room v rs freed) (q : Below w.heap.size w w') : RfAt w' base rb o room v rs freed := h.upd (S := fun _ => False) (Upd.of_below q) fun _ _ _ => id
theorem RfAt.row {w : World} {base rb : Nat} {o room : Int} {v : Value} {rs : List RF} {freed : Int} (h : RfAt w base rb o room v rs freed) {r : RF} (hr : r ∈ rs) : SlI w r.a r.l := own_sl (h.rows r hr : w.ownsRow _ _ 1 (.slice r.a r.l.length r.c) _ _)

def HasRel (l : List Int) (x : Int) (i : Value) : Prop := ∃ k : Nat, k ≤ l.length ∧ i = .int .i64 k ∧ ¬ x ∈ l.take k
theorem take_no {l : List Int} {x z : Int} {k : Nat} (h : ¬ x ∈ l.take k) (hz : l[k]? = some z) (hx : ¬ z = x) : ¬ x ∈ l.take (k + 1) := by
  rw [List.take_add_one, hz]
  simp [h]
  exact fun e => hx e.symm
set_option maxHeartbeats 1000000 in
theorem has_any (w : World) (a : Option Addr) (c : Nat) (l : List Int) (x : Int) (hs : SlI w a l) (hl : l.length ≤ 1000) :
    Calls Try.prog 38 #[.slice a l.length c, .int .i64 x] w fun e w' => e = .returned (.bool (decide (x ∈ l))) ∧ w = w' := by
  generalize hR : decide (x ∈ l) = r
  have HR := Lib.hid hR
  have S := Lib.hid hs
  clear hR hs
  go_enter Try.func38, Try.ntmps38
  go_wp2_with fail
  go_loop [5] (fun i => HasRel l x i) (fun i => l.length - (intOf i).toNat)
  case atStart => exact ⟨0, Nat.zero_le _, rfl, by simp⟩
  case round =>
    obtain ⟨k, hk, rfl, hno⟩ := hrel
    have NO := Lib.hid hno; clear hno
    by_cases hlt : k < l.length
    · obtain ⟨z, ez, okz, cz⟩ := S.out.get (k := k) hlt
      by_cases hzx : z = x
      · have hd : (z == x) = true := by simpa using hzx
        have hr : Hid (r = true) := by show _ = _; rw [← HR.out]; simp; rw [← hzx]; exact List.mem_of_getElem? ez.out
        clear hzx
        go_wp2_with fail
        go_ret
        exact ⟨by rw [hr.out]; rfl, rfl⟩
      · have hd : (z == x) = false := by simpa using hzx
        have N2 := Lib.hid (take_no NO.out ez.out hzx)
        clear hzx
        go_wp2_with fail
        go_round
        case rel => exact ⟨k + 1, by omega, by go_num, N2.out⟩
        case measure => simp [intOf]; omega
    · obtain rfl : k = l.length := by omega
      have hr : Hid (r = false) := by
        show _ = _
        have := NO.out
        rw [List.take_length] at this
        rw [← HR.out]; simpa using this
      go_wp2_with fail
      go_ret
      exact ⟨by rw [hr.out]; rfl, rfl⟩
def woL (l : List Int) (x : Int) : List Int := l.filter fun z => !decide (z = x)
def woV (l : List Int) (x : Int) (k : Nat) : List Int := woL (l.take k) x
theorem woV_yes {l : List Int} {x z : Int} {k : Nat} (h : l[k]? = some z) (hz : ¬ z = x) : woV l x (k + 1) = woV l x k ++ [z] := by
  unfold woV woL
  rw [List.take_add_one, h, List.filter_append]
  simp [hz]
theorem woV_no {l : List Int} {x z : Int} {k : Nat} (h : l[k]? = some z) (hz : z = x) : woV l x (k + 1) = woV l x k := by
  unfold woV woL
  rw [List.take_add_one, h, List.filter_append]
  simp [hz]
theorem woV_len (l : List Int) (x : Int) (k : Nat) : (woV l x k).length ≤ l.length := by
  unfold woV woL
  exact Nat.le_trans (List.length_filter_le _ _) (by simp; omega)
def WoRel (w : World) (l : List Int) (x : Int) (lv i : Value) (wr : World) : Prop :=
  ∃ k : Nat, k ≤ l.length ∧ i = .int .i64 k ∧ wr.ownsRow w.heap.size 3 1 lv (woV l x k).length ((woV l x k).map (Value.int .i64)) ∧ Below w.heap.size w wr
set_option maxHeartbeats 2000000 in
set_option maxRecDepth 100000 in
theorem without_any (w : World) (a : Option Addr) (c : Nat) (l : List Int) (x : Int) (hs : SlI w a l) (hl : l.length ≤ 1000) :
    Calls Try.prog 39 #[.slice a l.length c, .int .i64 x] w (RwPost (.int .i64) 3 w (woL l x)) := by
  have S := Lib.hid hs
  obtain ⟨i0, hi, hz0, hz1, hz2⟩ := info_parts Try.infoBI
  have HI := Lib.hid hi; have HZ0 := Lib.hid hz0; have HZ1 := Lib.hid hz1; have HZ2 := Lib.hid hz2
  clear hs hi hz0 hz1 hz2
  go_enter Try.func39, Try.ntmps39
  go_wp2_with fail
  go_loopw [5, 6] (fun lv i wr => WoRel w l x lv i wr) (fun _ i _ => l.length - (intOf i).toNat)
  case atStart => exact ⟨0, Nat.zero_le _, rfl, ⟨rfl, .inl ⟨rfl, rfl⟩⟩, Below.refl _ _⟩
  case round =>
    obtain ⟨k, hk, rfl, hown, hbel⟩ := hrel
    have OWN := Lib.hid hown; have HB := Lib.hid hbel
    clear hown hbel
    by_cases hlt : k < l.length
    · obtain ⟨z, ez, okz, cz⟩ := (S.out.below HB.out).get (k := k) hlt
      have hbs := HB.out.size
      have hwl := woV_len l x k
      by_cases hzx : z = x
      · have hd : (z != x) = false := by simpa using hzx
        have hst := Lib.hid (woV_no ez.out hzx)
        clear hzx
        go_wp2_with fail
        go_roundw
        case rel => exact ⟨k + 1, by omega, by go_num, by rw [hst.out]; exact OWN.out, HB.out⟩
        case measure => simp [intOf]; omega
      · have hd : (z != x) = true := by simpa using hzx
        have hst := Lib.hid (woV_yes ez.out hzx)
        obtain ⟨al, cl, rfl, _⟩ := own_shape OWN.out
        clear hzx
        go_wp2_with (at_builtin; refine wpList_append_own _ rfl _ _ 26 rfl w.heap.size 3 i0 _ 1 8 Try.underlying26 HI.out HZ0.out HZ1.out HZ2.out rfl (by decide) _ (woV l x k).length ((woV l x k).map (Value.int .i64)) rfl ?c0 ⟨wr.heap.size, 0, none⟩ 1 1 [.int .i64 z] rfl ?c1 ?c2 ?c3 ?c4 ?c5 ?c6 ?_)
        case c0 => exact OWN.out.alloc _
        case c1 => rfl
        case c2 => exact news_new (vs := [.int .i64 z]) rfl
        case c3 => intro u hu; simp at hu; subst hu; rfl
        case c4 => unfold maxLen; omega
        case c5 => omega
        case c6 => simp; omega
        intro v' w2 hown' hgr hnil
        have B2 : Hid (Below w.heap.size w w2) := ((HB.out.alloc hbs _).grown ⟨hgr.os, hgr.tape, hgr.output, hgr.size, hgr.block⟩ (by simp; omega) (fun j hj => (own_lt OWN.out hj).2))
        have OWN2 : Hid (w2.ownsRow w.heap.size 3 1 v' (woV l x (k + 1)).length ((woV l x (k + 1)).map (Value.int .i64))) := by
          show World.ownsRow _ _ _ _ _ _ _
          rw [hst.out, List.length_append, List.map_append]
          exact hown'
        clear hown' hgr hnil
        go_wp2_with fail
        go_roundw
        case rel => exact ⟨k + 1, by omega, by go_num, OWN2.out, B2.out⟩
        case measure => simp [intOf]; omega
    · obtain rfl : k = l.length := by omega
      have e : Hid (woV l x l.length = woL l x) := by show _ = _; unfold woV; rw [List.take_length]
      rw [e.out] at OWN
      go_wp2_with fail
      go_ret
      exact ⟨_, rfl, Rw.of_own (n := (woL l x).length) OWN.out, HB.out⟩

def rWait (rs : List RF) (k : Int) : List Int := (rs.filter (fun r => decide (k ∈ r.l))).map RF.id
def rWaitV (rs : List RF) (k : Int) (j : Nat) : List Int := rWait (rs.take j) k
theorem rWaitV_yes {rs : List RF} {k : Int} {j : Nat} {x : RF} (h : rs[j]? = some x) (hb : k ∈ x.l) : rWaitV rs k (j + 1) = rWaitV rs k j ++ [x.id] := by
  unfold rWaitV rWait
  rw [List.take_add_one, h, List.filter_append]
  simp [hb]
theorem rWaitV_no {rs : List RF} {k : Int} {j : Nat} {x : RF} (h : rs[j]? = some x) (hb : ¬ k ∈ x.l) : rWaitV rs k (j + 1) = rWaitV rs k j := by
  unfold rWaitV rWait
  rw [List.take_add_one, h, List.filter_append]
  simp [hb]
theorem rWaitV_len (rs : List RF) (k : Int) (j : Nat) : (rWaitV rs k j).length ≤ rs.length := by
  unfold rWaitV rWait
  rw [List.length_map]
  exact Nat.le_trans (List.length_filter_le _ _) (by simp; omega)
def RwRel (w : World) (rs : List RF) (k : Int) (lv i : Value) (wr : World) : Prop :=
  ∃ j : Nat, j ≤ rs.length ∧ i = .int .i64 j ∧ wr.ownsRow w.heap.size 3 1 lv (rWaitV rs k j).length ((rWaitV rs k j).map (Value.int .i64)) ∧ Below w.heap.size w wr
set_option maxHeartbeats 4000000 in
set_option maxRecDepth 100000 in
theorem refWait_any (w : World) (base rb : Nat) (o room : Int) (v : Value) (rs : List RF) (freed : Int) (h : RfAt w base rb o room v rs freed) (hl : rs.length ≤ 1000) (hll : ∀ r ∈ rs, r.l.length ≤ 1000) (k : Int) :
    Calls Try.prog 26 #[.pointer (some ⟨rb, 0, none⟩), .int .i64 k] w (RwPost (.int .i64) 3 w (rWait rs k)) := by
  have H := Lib.hid h; have HLL := Lib.hid hll
  obtain ⟨a, cp, rfl, _⟩ := own_shape h.own
  obtain ⟨i0, hi, hz0, hz1, hz2⟩ := info_parts Try.infoBI
  have HI := Lib.hid hi; have HZ0 := Lib.hid hz0; have HZ1 := Lib.hid hz1; have HZ2 := Lib.hid hz2
  clear h hi hz0 hz1 hz2 hll
  go_enter Try.func26, Try.ntmps26
  go_wp2_with fail
  go_loopw [5, 6] (fun lv i wr => RwRel w rs k lv i wr) (fun _ i _ => rs.length - (intOf i).toNat)
  case atStart => exact ⟨0, Nat.zero_le _, rfl, ⟨by simp [rWaitV, rWait], .inl ⟨rfl, by simp [rWaitV, rWait]⟩⟩, Below.refl _ _⟩
  case round =>
    obtain ⟨j, hj, rfl, hown, hbel⟩ := hrel
    have OWN := Lib.hid hown; have HB := Lib.hid hbel
    clear hown hbel
    have HR := Lib.hid (H.out.below HB.out)
    have q2 := HR.out.hb.cell (i := 2) rfl
    by_cases hlt : j < rs.length
    · obtain ⟨x, ex, okx, c1, c2⟩ := (ownR_sl HR.out.own).get (k := j) hlt
      have hmem := List.mem_of_getElem? ex.out
      obtain ⟨al, cl, rfl, _⟩ := own_shape OWN.out
      have hbs := HB.out.size
      have hwl := rWaitV_len rs k j
      have HAS := Lib.hid (has_any wr x.a x.c x.l k (HR.out.row hmem) (HLL.out x hmem))
      obtain ⟨xid, xa, xc, xl⟩ := x
      dsimp only at c1 c2 HAS
      clear hmem
      go_wp2_with fail
      refine HAS.out.mono ?_
      rintro e w1 ⟨rfl, rfl⟩
      by_cases hm : k ∈ xl
      · have hd : decide (k ∈ xl) = true := by simpa using hm
        rw [hd]
        have hst := Lib.hid (rWaitV_yes ex.out hm)
        clear hd hm HAS
        go_wp2_with (at_builtin; refine wpList_append_own _ rfl _ _ 26 rfl w.heap.size 3 i0 _ 1 8 Try.underlying26 HI.out HZ0.out HZ1.out HZ2.out rfl (by decide) _ (rWaitV rs k j).length ((rWaitV rs k j).map (Value.int .i64)) rfl ?c0 ⟨wr.heap.size, 0, none⟩ 1 1 [.int .i64 xid] rfl ?c1 ?c2 ?c3 ?c4 ?c5 ?c6 ?_)
        case c0 => exact OWN.out.alloc _
        case c1 => rfl
        case c2 => exact news_new (vs := [.int .i64 xid]) rfl
        case c3 => intro u hu; simp at hu; subst hu; rfl
        case c4 => unfold maxLen; omega
        case c5 => omega
        case c6 => simp; omega
        intro v' w2 hown' hgr hnil
        have B2 : Hid (Below w.heap.size w w2) := ((HB.out.alloc hbs _).grown ⟨hgr.os, hgr.tape, hgr.output, hgr.size, hgr.block⟩ (by simp; omega) (fun j hj => (own_lt OWN.out hj).2))
        have OWN2 : Hid (w2.ownsRow w.heap.size 3 1 v' (rWaitV rs k (j + 1)).length ((rWaitV rs k (j + 1)).map (Value.int .i64))) := by
          show World.ownsRow _ _ _ _ _ _ _
          rw [hst.out, List.length_append, List.map_append]
          exact hown'
        clear hown' hgr hnil
        go_wp2_with fail
        go_roundw
        case rel => exact ⟨j + 1, by omega, by go_num, OWN2.out, B2.out⟩
        case measure => simp [intOf]; omega
      · have hd : decide (k ∈ xl) = false := by simpa using hm
        rw [hd]
        have hst := Lib.hid (rWaitV_no ex.out hm)
        clear hd hm HAS
        go_wp2_with fail
        go_roundw
        case rel => exact ⟨j + 1, by omega, by go_num, by rw [hst.out]; exact OWN.out, HB.out⟩
        case measure => simp [intOf]; omega
    · obtain rfl : j = rs.length := by omega
      have e : Hid (rWaitV rs k rs.length = rWait rs k) := by show _ = _; unfold rWaitV; rw [List.take_length]
      rw [e.out] at OWN
      go_wp2_with fail
      go_ret
      exact ⟨_, rfl, Rw.of_own (n := (rWait rs k).length) OWN.out, HB.out⟩

def rIds (rs : List RF) : List Int := rs.map RF.id
def rIdsV (rs : List RF) (k : Nat) : List Value := (rIds (rs.take k)).map (Value.int .i64)
theorem rIds_step {rs : List RF} {k : Nat} {x : RF} (h : rs[k]? = some x) : rIdsV rs k ++ [.int .i64 x.id] = rIdsV rs (k + 1) := by
  unfold rIdsV rIds
  rw [List.take_add_one, h]
  simp
def RhRel (w : World) (rs : List RF) (lv i : Value) (wr : World) : Prop :=
  ∃ k : Nat, k ≤ rs.length ∧ i = .int .i64 k ∧ wr.ownsRow w.heap.size 3 1 lv k (rIdsV rs k) ∧ Below w.heap.size w wr
set_option maxHeartbeats 2000000 in
set_option maxRecDepth 100000 in
theorem refHeld_any (w : World) (base rb : Nat) (o room : Int) (v : Value) (rs : List RF) (freed : Int) (h : RfAt w base rb o room v rs freed) (hl : rs.length ≤ 1000) :
    Calls Try.prog 23 #[.pointer (some ⟨rb, 0, none⟩)] w (RwPost (.int .i64) 3 w (rIds rs)) := by
  have H := Lib.hid h
  obtain ⟨a, cp, rfl, _⟩ := own_shape h.own
  obtain ⟨i0, hi, hz0, hz1, hz2⟩ := info_parts Try.infoBI
  have HI := Lib.hid hi; have HZ0 := Lib.hid hz0; have HZ1 := Lib.hid hz1; have HZ2 := Lib.hid hz2
  clear h hi hz0 hz1 hz2
  go_enter Try.func23, Try.ntmps23
  go_wp2_with fail
  go_loopw [3, 4] (fun lv i wr => RhRel w rs lv i wr) (fun _ i _ => rs.length - (intOf i).toNat)
  case atStart => exact ⟨0, Nat.zero_le _, rfl, ⟨by simp [rIdsV, rIds], .inl ⟨rfl, rfl⟩⟩, Below.refl _ _⟩
  case round =>
    obtain ⟨k, hk, rfl, hown, hbel⟩ := hrel
    have OWN := Lib.hid hown; have HB := Lib.hid hbel
    clear hown hbel
    have HR := Lib.hid (H.out.below HB.out)
    have q2 := HR.out.hb.cell (i := 2) rfl
    by_cases hlt : k < rs.length
    · obtain ⟨x, ex, okx, c1, c2⟩ := (ownR_sl HR.out.own).get (k := k) hlt
      obtain ⟨al, cl, rfl, _⟩ := own_shape OWN.out
      have hbs := HB.out.size
      obtain ⟨xid, xa, xc, xl⟩ := x
      dsimp only at c1 c2
      go_wp2_with (at_builtin; refine wpList_append_own _ rfl _ _ 26 rfl w.heap.size 3 i0 _ 1 8 Try.underlying26 HI.out HZ0.out HZ1.out HZ2.out rfl (by decide) _ k (rIdsV rs k) rfl ?c0 ⟨wr.heap.size, 0, none⟩ 1 1 [.int .i64 xid] rfl ?c1 ?c2 ?c3 ?c4 ?c5 ?c6 ?_)
      case c0 => exact OWN.out.alloc _
      case c1 => rfl
      case c2 => exact news_new (vs := [.int .i64 xid]) rfl
      case c3 => intro u hu; simp at hu; subst hu; rfl
      case c4 => unfold maxLen; omega
      case c5 => omega
      case c6 => simp; omega
      intro v' w2 hown' hgr hnil
      have B2 : Hid (Below w.heap.size w w2) := ((HB.out.alloc hbs _).grown hgr (by simp; omega) (fun j hj => (own_lt OWN.out hj).2))
      rw [rIds_step ex.out] at hown'
      have OWN2 := Lib.hid hown'
      clear hown' hgr hnil
      go_wp2_with fail
      go_roundw
      case rel => exact ⟨k + 1, by omega, by go_num, OWN2.out, B2.out⟩
      case measure => simp [intOf]; omega
    · obtain rfl : k = rs.length := by omega
      go_wp2_with fail
      go_ret
      refine ⟨_, rfl, Rw.of_own (n := rs.length) ?_, HB.out⟩
      have := OWN.out
      unfold rIdsV at this
      rw [List.take_length] at this
      exact this
end Go.Proofs.Yteomiofmaopkhaa
