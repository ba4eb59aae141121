/-
  Contract of admit's Reserve.
-/
import Derived.Test.YtbdaehcngmhhcaaBkS
import Derived.Test.YtbdaehcngmhhcaaRsvM
namespace Go.Proofs.Ytbdaehcngmhhcaa
open Go.RowKit
set_option linter.unusedVariables false

/-- What Reserve leaves: a short link, or the reservation. -/
def RvPost (w0 w : World) (bb mb lb n lc : Nat) (sp : List Value) (cp lf : Nat → Rq) (k : Nat) (F : Nat → Option Rs) (x : Nat → Int) (i : Nat) (lk : List Int) (rt : Rq) (z : Int) (e : Ending) (w' : World) : Prop :=
  (∃ l, e = .returned (.tuple #[.int .i64 l, .int .i64 5]) ∧ (∃ y ∈ lk, x y.toNat < z) ∧ BkB w0 w' bb mb lb n lc sp cp lf k F ∧ Upd (fun j => j = lb ∨ j = mb) w w') ∨
  (e = .returned (.tuple #[.int .i64 (-1), .int .i64 0]) ∧ (∀ y ∈ lk, z ≤ x y.toNat) ∧ ∃ (lf' : Nat → Rq) (g c' : Nat), BkB w0 w' bb mb lb n lc sp cp lf' (k + 1) (updF F i (some ⟨g, lk.length, c', rt⟩)) ∧
    (∀ l < n, Rp1 uW (lf' l) (x l - if (l : Int) ∈ lk then z else 0)) ∧ SlI w' (some ⟨g, 0, none⟩) lk ∧ (g ≠ lb ∧ g ≠ mb) ∧ Upd (fun j => j = lb ∨ j = mb) w w')
theorem shB_iff {n : Nat} {lf : Nat → Rq} {x : Nat → Int} {rt : Rq} {z : Int} (hX : ∀ l < n, Rp1 uW (lf l) (x l) ∧ 0 ≤ x l ∧ x l ≤ uW) (hz : Rp1 uW rt z) {y : Int} (hy : 0 ≤ y ∧ y < n) : shB lf rt y = true ↔ x y.toNat < z := by
  unfold shB
  rw [decide_eq_true_eq]
  exact cmp_lt_iff uW_pos (hX y.toNat (by omega)).1.rp hz.rp
theorem ChAt.put {w0 w w' : World} {pb kb qb fb gb bb mb lb n lc : Nat} {sp : List Value} {cp lf : Nat → Rq} {k : Nat} {F : Nat → Option Rs} {rt : Rq} {a : Option Addr} {L c : Nat} {R R' : Nat → Rq}
    (h : ChAt w0 w pb kb qb fb gb bb mb lb n lc sp cp lf k F rt a L c R) (hg : Blk w' gb 29 (flC rC ((List.range L).map R'))) (u : Upd (fun j => j = gb) w w')
    (h1 : pb ≠ gb ∧ kb ≠ gb ∧ qb ≠ gb ∧ fb ≠ gb) (h2 : w0.heap.size ≤ gb ∧ gb ≠ bb ∧ gb ≠ mb ∧ gb ≠ lb) : ChAt w0 w' pb kb qb fb gb bb mb lb n lc sp cp lf k F rt a L c R' :=
  ⟨⟨h.s.p.upd u h1.1, h.s.q.upd u h1.2.2.1, h.s.b.upd u (fun i e => by have e : i = gb := e; subst e; exact h2)⟩, h.k.upd u h1.2.1, h.f.upd u h1.2.2.2, hg⟩
theorem ChAt.setL {w0 w : World} {pb kb qb fb gb bb mb lb n lc : Nat} {sp : List Value} {cp lf : Nat → Rq} {k : Nat} {F : Nat → Option Rs} {rt : Rq} {a : Option Addr} {L c : Nat} {R : Nat → Rq}
    (h : ChAt w0 w pb kb qb fb gb bb mb lb n lc sp cp lf k F rt a L c R) (h1 : pb ≠ lb ∧ kb ≠ lb ∧ qb ≠ lb ∧ fb ≠ lb ∧ gb ≠ lb) {l : Nat} (hl : l < n) (r : Rq) :
    ChAt w0 ((w.setCell ⟨lb, l * 5 + 2, none⟩ (.int .i64 r.n)).setCell ⟨lb, l * 5 + 3, none⟩ (.int .i64 r.d)) pb kb qb fb gb bb mb lb n lc sp cp (updQ lf l r) k F rt a L c R :=
  ⟨⟨(h.s.p.setO _ h1.1).setO _ h1.1, (h.s.q.setO _ h1.2.2.1).setO _ h1.2.2.1, h.s.b.put hl r⟩, (h.k.setO _ h1.2.1).setO _ h1.2.1, (h.f.setO _ h1.2.2.2.1).setO _ h1.2.2.2.1, (h.g.setO _ h1.2.2.2.2).setO _ h1.2.2.2.2⟩
theorem BkB.putM {w0 w w' : World} {bb mb lb n lc k k' : Nat} {sp : List Value} {cp lf : Nat → Rq} {F F' : Nat → Option Rs} (h : BkB w0 w bb mb lb n lc sp cp lf k F) (hm : RsAt w' mb k' F') (u : Upd (fun j => j = mb) w w') : BkB w0 w' bb mb lb n lc sp cp lf k' F' :=
  ⟨h.b_, h.m_, h.l_, h.bl, h.bm, h.lm, h.b.upd u h.bm, h.l.upd u h.lm, hm, Upd.below h.u u (by have := h.m_; have := h.m.lt; omega) (fun i hi => by have := h.m_; omega)⟩
def xsL (x : Nat → Int) (z : Int) (lk : List Int) (j : Nat) : Int := x (lk.getD j 0).toNat - z
def Rv1Rel (w0 w : World) (pb kb qb fb gb bb mb lb n lc : Nat) (sp : List Value) (cp lf : Nat → Rq) (k : Nat) (F : Nat → Option Rs) (rt : Rq) (a : Option Addr) (L c : Nat) (x : Nat → Int) (z : Int) (lk : List Int) (ix : Value) (wr : World) : Prop :=
  ∃ (p : Nat) (R : Nat → Rq), p ≤ L ∧ ix = .int .i64 p ∧ Hid (ChAt w0 wr pb kb qb fb gb bb mb lb n lc sp cp lf k F rt a L c R) ∧ Hid (∀ j < p, Rp1 uW (R j) (xsL x z lk j)) ∧ Hid (Upd (fun _ => False) w wr)
def Rv2Rel (w0 w : World) (pb kb qb fb gb bb mb lb n lc : Nat) (sp : List Value) (cp : Nat → Rq) (k : Nat) (F : Nat → Option Rs) (rt : Rq) (a : Option Addr) (L c : Nat) (R : Nat → Rq) (x : Nat → Int) (z : Int) (lk : List Int) (ix : Value) (wr : World) : Prop :=
  ∃ (p : Nat) (lf : Nat → Rq), p ≤ L ∧ ix = .int .i64 p ∧ Hid (ChAt w0 wr pb kb qb fb gb bb mb lb n lc sp cp lf k F rt a L c R) ∧ Hid (∀ l < n, Rp1 uW (lf l) (x l - if (l : Int) ∈ lk.take p then z else 0)) ∧ Hid (Upd (fun j => j = lb ∨ j = mb) w wr)
theorem keep5 {w w' : World} (q : Below w.heap.size w w') {a0 a1 a2 a3 a4 : Addr} {v0 v1 v2 v3 v4 : Value}
    (h : w.cell? a0 = some v0 ∧ w.cell? a1 = some v1 ∧ w.cell? a2 = some v2 ∧ w.cell? a3 = some v3 ∧ w.cell? a4 = some v4) :
    w'.cell? a0 = some v0 ∧ w'.cell? a1 = some v1 ∧ w'.cell? a2 = some v2 ∧ w'.cell? a3 = some v3 ∧ w'.cell? a4 = some v4 := by
  obtain ⟨h0, h1, h2, h3, h4⟩ := h
  exact ⟨bel_cell q h0, bel_cell q h1, bel_cell q h2, bel_cell q h3, bel_cell q h4⟩
theorem run_eql_mapN {P : Program} (w : World) {t k e : TypeId} (b : Nat) (ht : P.underlying t = some (.map k e)) : (binOp .eql t (.map (some b)) (.map none)).run P w = .ok (.bool false) w := by
  have h : ∀ d : Nat, (Op.equalIn (d + 1) t (.map (some b)) (.map none)).run P w = .ok false w := fun d => by
    simp [Op.equalIn, run_underlying ht]
  simp only [binOp]
  simp [Op.equal, Op.maxDepth, h 9999]
theorem box3 (w : World) (T1 T2 T3 : TypeId) (x1 x2 x3 : List Value) : Blk (((w.alloc (.cells x1.toArray T1)).alloc (.cells x2.toArray T2)).alloc (.cells x3.toArray T3)) w.heap.size T1 x1 ∧ Blk (((w.alloc (.cells x1.toArray T1)).alloc (.cells x2.toArray T2)).alloc (.cells x3.toArray T3)) (w.heap.size + 1) T2 x2 ∧
    Blk (((w.alloc (.cells x1.toArray T1)).alloc (.cells x2.toArray T2)).alloc (.cells x3.toArray T3)) (w.heap.size + 1 + 1) T3 x3 ∧ Below w.heap.size w (((w.alloc (.cells x1.toArray T1)).alloc (.cells x2.toArray T2)).alloc (.cells x3.toArray T3)) ∧ (((w.alloc (.cells x1.toArray T1)).alloc (.cells x2.toArray T2)).alloc (.cells x3.toArray T3)).heap.size = w.heap.size + 1 + 1 + 1 := by
  refine ⟨((Blk.new w T1 x1).alloc _).alloc _, ?_, ?_, (((Below.refl _ _).alloc (Nat.le_refl _) _).alloc (by simp) _).alloc (by simp; omega) _, by simp⟩
  · have := (Blk.new (w.alloc (.cells x1.toArray T1)) T2 x2).alloc (.cells x3.toArray T3)
    rw [World.size_alloc] at this
    exact this
  · have := Blk.new ((w.alloc (.cells x1.toArray T1)).alloc (.cells x2.toArray T2)) T3 x3
    rw [World.size_alloc, World.size_alloc] at this
    exact this
set_option maxRecDepth 100000 in
set_option maxHeartbeats 4000000 in
theorem reserve_any (w0 w : World) (bb mb lb n lc : Nat) (sp : List Value) (cp lf : Nat → Rq) (k : Nat) (F : Nat → Option Rs) (h : BkB w0 w bb mb lb n lc sp cp lf k F) (hn : n ≤ 1000) (hk : k < 1000)
    (x : Nat → Int) (hX : ∀ l < n, Rp1 uW (lf l) (x l) ∧ 0 ≤ x l ∧ x l ≤ uW) (a : Option Addr) (c : Nat) (lk : List Int) (hL : LnkOk w0 n a c lk) (i : Nat) (hi : i ≤ 1000) (hF : F i = none) (rt : Rq) (z : Int) (hz : Rp1 uW rt z) (hz0 : 0 ≤ z ∧ z ≤ uW) :
    Calls Try.prog 23 #[.pointer (some ⟨bb, 0, none⟩), .int .i64 i, .slice a lk.length c, rV rt] w (RvPost w0 w bb mb lb n lc sp cp lf k F x i lk rt z) := by
  have hW : uW = 31104000 := rfl
  have HB := Lib.hid h
  have HL := Lib.hid hL
  have HX := Lib.hid hX
  have HZ := Lib.hid hz
  have hsm := hz.sm uW_pos uW_le (by omega)
  have hok : rt.ok = true := Rp.ok uW_pos (by decide) (by omega) hz.rp
  have hl1 := hL.l
  have CK := fun w' (q : Below w.heap.size w w') => check_ok w' bb mb n k (some ⟨lb, 0, none⟩) lc F ⟨h.b.bel q, h.m.below q⟩ hn a c lk (hL.below (h.u.trans (q.mono h.u.size))) i hi hF rt hok ((hz.rp.n_nonneg uW_pos).2 hz0.1) ⟨by have := hsm.d1; omega, by have := hsm.d2; omega⟩
  have hLF : ∀ l < n, (lf l).ok = true := fun l hl => by
    obtain ⟨h1, h2, h3⟩ := hX l hl
    exact Rp.ok uW_pos (by decide) (by omega) h1.rp
  obtain ⟨rn, rd⟩ := rt
  unfold rV at CK ⊢
  dsimp only at *
  replace CK := Lib.hid CK
  have mk1 := fun w => make_rats w lk.length hl1
  obtain ⟨z1, z2, z3, z4⟩ : bb < w.heap.size ∧ mb < w.heap.size ∧ lb < w.heap.size ∧ w0.heap.size ≤ w.heap.size := ⟨h.b.lt, h.m.lt, h.l.lt, h.u.size⟩
  clear h hL hX hz hsm
  generalize hLL : lk.length = L at *
  have HLL := Lib.hid hLL
  clear hLL
  go_enter Try.func23, Try.ntmps23
  go_wp2_with fail
  obtain ⟨P3, K3, Q3, U3, s3⟩ := box3 w 58 33 29 [.pointer (some ⟨bb, 0, none⟩)] [.slice a L c] [.int .i64 rn, .int .i64 rd]
  refine (CK.out _ U3).mono ?_
  rintro e w1 ⟨rfl, hb⟩
  have U1 := U3.trans (hb.mono U3.size)
  have U1H := Lib.hid (Upd.of_below (S := fun _ => False) U1)
  have S1 : ShAt w0 w1 w.heap.size (w.heap.size + 1 + 1) bb mb lb n lc sp cp lf k F ⟨rn, rd⟩ := ⟨P3.bel hb, Q3.bel hb, HB.out.below U1⟩
  have K1 := K3.bel hb
  have hs1 := hb.size
  rw [s3] at hs1
  have k0 := K1.cell (i := 0) rfl
  have kz := K1.lt
  have IX := idxs_any w0 w1 w.heap.size (w.heap.size + 1 + 1) bb mb lb n lc sp cp lf k F ⟨rn, rd⟩ S1 hLF hok a c lk (HL.out.below S1.b.u)
  rw [HLL.out] at IX
  unfold shV at IX
  replace IX := Lib.hid IX
  replace S1 := Lib.hid S1
  replace K1 := Lib.hid K1
  generalize hpb : w.heap.size = pb at *
  have HPB := Lib.hid hpb
  clear hb P3 K3 Q3 U3 s3 U1 CK hok hLF hpb
  go_wp2_with fail
  refine IX.out.mono ?_
  rintro e w2 ⟨i0, rfl, hcase, hb⟩
  have S2 := Lib.hid (S1.out.below hb)
  have K2 := Lib.hid (K1.out.bel hb)
  have hs2 := hb.size
  have U2H := Lib.hid (Upd.then U1H.out (Upd.of_below (S := fun _ => False) hb) (fun _ _ h => h))
  clear hb IX S1 K1 k0 kz
  have k0 := K2.out.cell (i := 0) rfl
  have kz := K2.out.lt
  rcases hcase with ⟨rfl, hall⟩ | ⟨p, y, rfl, hy, hsh⟩
  case' inr =>
    obtain ⟨oky, cy⟩ := (HL.out.below S2.out.b.u).s p y hy
    have hyr := HL.out.r y (List.mem_of_getElem? hy)
    have hpL := get_lt hy
    rw [HLL.out] at hpL
    have FIN : Hid (∃ y ∈ lk, x y.toNat < z) := ⟨y, List.mem_of_getElem? hy, (shB_iff HX.out HZ.out hyr).1 hsh⟩
    clear hy hsh
    go_wp2_with fail
    exact bodyPost_ret (v := .tuple #[.int .i64 y, .int .i64 5]) (by simp [results, Try.results23, go_sem]) rfl (.inl ⟨y, rfl, FIN.out, S2.out.b, U2H.out.mono (fun _ _ h => h.elim)⟩)
  have HALL : Hid (∀ y ∈ lk, z ≤ x y.toNat) := fun y hy => by
    have h1 := List.all_eq_true.1 hall y hy
    have h2 := shB_iff HX.out HZ.out (HL.out.r y hy)
    have h3 : ¬ shB lf ⟨rn, rd⟩ y = true := by simpa using h1
    rw [h2] at h3
    omega
  clear hall
  have B4 : Below w2.heap.size w2 ((w2.alloc (.cells (flC rC ((List.range L).map fun _ => (⟨0, 0⟩ : Rq))).toArray 29)).alloc (.cells #[.slice (some ⟨w2.heap.size, 0, none⟩) L L] 22)) := ((Below.refl _ _).alloc (Nat.le_refl _) _).alloc (by simp) _
  have C4 : Hid (ChAt w0 ((w2.alloc (.cells (flC rC ((List.range L).map fun _ => (⟨0, 0⟩ : Rq))).toArray 29)).alloc (.cells #[.slice (some ⟨w2.heap.size, 0, none⟩) L L] 22)) pb (pb + 1) (pb + 1 + 1) (w2.heap.size + 1) w2.heap.size bb mb lb n lc sp cp lf k F ⟨rn, rd⟩ a L c (fun _ => ⟨0, 0⟩)) :=
    ⟨S2.out.below B4, K2.out.bel B4, by
      have := Blk.new (w2.alloc (.cells (flC rC ((List.range L).map fun _ => (⟨0, 0⟩ : Rq))).toArray 29)) 22 [.slice (some ⟨w2.heap.size, 0, none⟩) L L]
      rw [World.size_alloc] at this
      exact this, (Blk.new _ _ _).alloc _⟩
  have U4H := Lib.hid (Upd.then U2H.out (Upd.of_below (S := fun _ => False) B4) (fun _ _ h => h))
  clear B4
  have kz2 : pb + 1 < w2.heap.size + 1 := by omega
  go_wp2_with fail
  generalize hgb : w2.heap.size = gb at *
  have hg1 : pb + 1 + 1 < gb ∧ bb < gb ∧ mb < gb ∧ lb < gb ∧ w0.heap.size ≤ gb ∧ lb < pb ∧ bb < pb ∧ mb < pb := by omega
  obtain ⟨g1, g2, g3, g4, g5, g6, g7, g8⟩ := hg1
  clear hgb S2 K2 k0 kz kz2 hs1 hs2 mk1
  go_loopw [43] (fun ix wr => Rv1Rel w0 w pb (pb + 1) (pb + 1 + 1) (gb + 1) gb bb mb lb n lc sp cp lf k F ⟨rn, rd⟩ a L c x z lk ix wr) (fun ix _ => L - (intOf ix).toNat)
  case atStart => exact ⟨0, _, Nat.zero_le _, rfl, C4, fun j hj => by omega, U4H⟩
  case round =>
    clear C4
    obtain ⟨p, R, hp, rfl, C, HR, UH⟩ := hrel
    have k0 := C.out.k.cell (i := 0) rfl
    by_cases hpl : p < L
    · obtain ⟨y, ey, oky, cy⟩ := (HL.out.below C.out.s.b.u).s.get (k := p) (by rw [HLL.out]; exact hpl)
      obtain ⟨hy0, hy1⟩ := HL.out.r y (List.mem_of_getElem? ey.out)
      obtain ⟨yl, rfl⟩ := Int.eq_ofNat_of_zero_le hy0
      have hyn : yl < n := by omega
      have CH := charge_any w0 wr pb (pb + 1) (pb + 1 + 1) (gb + 1) gb bb mb lb n lc sp cp lf k F ⟨rn, rd⟩ a L c R C.out lk (HL.out.below C.out.s.b.u).s p yl ey.out hpl hyn (x yl) z (HX.out yl hyn).1 (HX.out yl hyn).2 HZ.out hz0
      have EY := Lib.hid (show xsL x z lk p = x yl - z by unfold xsL; rw [List.getD_eq_getElem?_getD, ey.out]; rfl)
      replace CH := Lib.hid CH
      clear ey
      go_wp2_with fail
      refine CH.out.mono ?_
      rintro e w3 ⟨v, rfl, hv, hgv, hu⟩
      have C3 := Lib.hid (C.out.put hgv hu (by omega) (by omega))
      have HR3 : Hid (∀ j < p + 1, Rp1 uW (updQ R p v j) (xsL x z lk j)) := fun j hj => by
        unfold updQ
        by_cases e : j = p
        · subst e; rw [if_pos rfl, EY.out]; exact hv
        · rw [if_neg e]; exact HR.out j (by omega)
      have UH3 := Lib.hid (Upd.then UH.out hu (fun i hi e => by have := HPB.out; omega))
      clear hv hgv hu CH C HR
      go_wp2_with fail
      go_roundw
      case rel => exact ⟨p + 1, updQ R p v, by omega, by go_num, C3, HR3, UH3⟩
      case measure => simp [intOf]; omega
    · obtain rfl : L = p := by omega
      go_wp2_with fail
      go_loopw [55] (fun ix wr => Rv2Rel w0 w pb (pb + 1) (pb + 1 + 1) (gb + 1) gb bb mb lb n lc sp cp k F ⟨rn, rd⟩ a L c R x z lk ix wr) (fun ix _ => L - (intOf ix).toNat)
      case atStart => exact ⟨0, lf, Nat.zero_le _, rfl, C, fun l hl => by rw [List.take_zero, if_neg (by simp), Int.sub_zero]; exact (HX.out l hl).1, UH.out.mono (fun _ _ h => h.elim)⟩
      case round =>
        clear C k0
        obtain ⟨p, lf2, hp, rfl, C, HF2, UH2⟩ := hrel
        have k0 := C.out.k.cell (i := 0) rfl
        have p0 := C.out.s.p.cell (i := 0) rfl
        have b0 := C.out.s.b.b.cell (i := 0) rfl
        have b1 := C.out.s.b.b.cell (i := 1) rfl
        have f0 := C.out.f.cell (i := 0) rfl
        by_cases hpl : p < L
        · obtain ⟨y, ey, oky, cy⟩ := (HL.out.below C.out.s.b.u).s.get (k := p) (by rw [HLL.out]; exact hpl)
          obtain ⟨hy0, hy1⟩ := HL.out.r y (List.mem_of_getElem? ey.out)
          obtain ⟨yl, rfl⟩ := Int.eq_ofNat_of_zero_le hy0
          have hyn : yl < n := by omega
          have ge : ((List.range L).map R)[p]? = some (R p) := by simp [hpl]
          have r0 : wr.cell? ⟨gb, p * 2, none⟩ = some (.int .i64 (R p).n) := C.out.g.cell (i := p * 2 + 0) (by rw [flC_get rC_len ge 0 (by omega)]; rfl)
          have r1 : wr.cell? ⟨gb, p * 2 + 1, none⟩ = some (.int .i64 (R p).d) := C.out.g.cell (by rw [flC_get rC_len ge 1 (by omega)]; rfl)
          have lfr := C.out.s.b.l.free
          have lz := C.out.s.b.l.lt
          obtain ⟨-, -, l2, l3, -⟩ := C.out.s.b.cells hyn
          have C3 := Lib.hid (C.out.setL (by omega) hyn (R p))
          have HF3 : Hid (∀ l < n, Rp1 uW (updQ lf2 yl (R p) l) (x l - if (l : Int) ∈ lk.take (p + 1) then z else 0)) := fun l hl => by
            have hm : (l : Int) ∈ lk.take (p + 1) ↔ (l : Int) ∈ lk.take p ∨ l = yl := by
              rw [List.take_add_one, ey.out, List.mem_append]
              show ((l : Int) ∈ lk.take p ∨ (l : Int) ∈ [(yl : Int)]) ↔ _
              rw [List.mem_singleton]
              exact ⟨fun q => q.imp id (fun e => by omega), fun q => q.imp id (fun e => by omega)⟩
            unfold updQ
            by_cases e : l = yl
            · subst e
              rw [if_pos rfl, if_pos (hm.2 (.inr rfl))]
              have h1 := HR.out p hpl
              unfold xsL at h1
              rw [List.getD_eq_getElem?_getD, ey.out] at h1
              exact h1
            · rw [if_neg e]
              have h1 := HF2.out l hl
              by_cases hq : (l : Int) ∈ lk.take p
              · rw [if_pos hq] at h1; rw [if_pos (hm.2 (.inl hq))]; exact h1
              · rw [if_neg hq] at h1; rw [if_neg (fun q => (hm.1 q).elim hq e)]; exact h1
          have K0 := Lib.hid (And.intro p0 (And.intro b0 (And.intro f0 (And.intro r0 r1))))
          clear ey ge C HF2
          go_upto_region 20 with (fail)
          have hln : (yl : Int) < (n : Int) := by omega
          have hLp : (p : Int) < (L : Int) := by omega
          generalize hRp : R p = rp at *
          have HRP := Lib.hid hRp
          clear hRp
          obtain ⟨rp1, rp2⟩ := rp
          dsimp only at *
          refine wp_region_lastH (fun wx => wx.cell? ⟨pb, 0, none⟩ = some (.pointer (some ⟨bb, 0, none⟩)) ∧ wx.cell? ⟨bb, 0, none⟩ = some (.slice (some ⟨lb, 0, none⟩) n lc) ∧ wx.cell? ⟨gb + 1, 0, none⟩ = some (.slice (some ⟨gb, 0, none⟩) L L) ∧ wx.cell? ⟨gb, p * 2, none⟩ = some (.int .i64 rp1) ∧ wx.cell? ⟨gb, p * 2 + 1, none⟩ = some (.int .i64 rp2)) 11 12 (by kernel_rfl) (by kernel_rfl) rfl rfl ?_ (fun hHeld => ?_)
          · (exact K0.out)
          simp only [nopFor, List.set_cons_succ, List.set_cons_zero]
          refine wpAnyH_takeL (i := 0) (v := ?_) rfl (by kernel_rfl) (by kernel_rfl) (by kernel_rfl) (fun _ _ _ h => h) rfl ?_ hHeld ?_
          rotate_left
          · intro w hSw
            try dsimp only at hSw
            go_simp
            all_goals with_reducible rfl
          try simp only [Act.put, List.setIfInBounds_toArray, List.set_cons_zero, List.set_cons_succ]
          refine wpAnyH_takeL (i := 1) (v := ?_) rfl (by kernel_rfl) (by kernel_rfl) (by kernel_rfl) (fun _ _ _ h => h) rfl ?_ hHeld ?_
          rotate_left
          · intro w hSw
            try dsimp only at hSw
            go_simp
            all_goals with_reducible rfl
          try simp only [Act.put, List.setIfInBounds_toArray, List.set_cons_zero, List.set_cons_succ]
          refine wpAnyH_takeL (i := 2) (v := ?_) rfl (by kernel_rfl) (by kernel_rfl) (by kernel_rfl) (fun _ _ _ h => h) rfl ?_ hHeld ?_
          rotate_left
          · intro w hSw
            try dsimp only at hSw
            go_simp
            all_goals with_reducible rfl
          try simp only [Act.put, List.setIfInBounds_toArray, List.set_cons_zero, List.set_cons_succ]
          refine wpAnyH_takeL (i := 3) (v := ?_) rfl (by kernel_rfl) (by kernel_rfl) (by kernel_rfl) (fun _ _ _ h => h) rfl ?_ hHeld ?_
          rotate_left
          · intro w hSw
            try dsimp only at hSw
            go_simp
            all_goals with_reducible rfl
          try simp only [Act.put, List.setIfInBounds_toArray, List.set_cons_zero, List.set_cons_succ]
          refine wpAnyH_takeL (i := 4) (v := ?_) rfl (by kernel_rfl) (by kernel_rfl) (by kernel_rfl) (fun _ _ _ h => h) rfl ?_ hHeld ?_
          rotate_left
          · intro w hSw
            try dsimp only at hSw
            go_simp
            all_goals with_reducible rfl
          try simp only [Act.put, List.setIfInBounds_toArray, List.set_cons_zero, List.set_cons_succ]
          refine wpAnyH_takeL (i := 5) (v := ?_) rfl (by kernel_rfl) (by kernel_rfl) (by kernel_rfl) (fun _ _ _ h => h) rfl ?_ hHeld ?_
          rotate_left
          · intro w hSw
            try dsimp only at hSw
            go_simp
            all_goals with_reducible rfl
          try simp only [Act.put, List.setIfInBounds_toArray, List.set_cons_zero, List.set_cons_succ]
          refine wpAnyH_takeL (i := 6) (v := ?_) rfl (by kernel_rfl) (by kernel_rfl) (by kernel_rfl) (fun _ _ _ h => h) rfl ?_ hHeld ?_
          rotate_left
          · intro w hSw
            try dsimp only at hSw
            go_simp
            all_goals with_reducible rfl
          try simp only [Act.put, List.setIfInBounds_toArray, List.set_cons_zero, List.set_cons_succ]
          refine wpAnyH_takeL (i := 7) (v := ?_) rfl (by kernel_rfl) (by kernel_rfl) (by kernel_rfl) (fun _ _ _ h => h) rfl ?_ hHeld ?_
          rotate_left
          · intro w hSw
            try dsimp only at hSw
            go_simp
            all_goals with_reducible rfl
          try simp only [Act.put, List.setIfInBounds_toArray, List.set_cons_zero, List.set_cons_succ]
          refine wpAnyH_takeL (i := 8) (v := ?_) rfl (by kernel_rfl) (by kernel_rfl) (by kernel_rfl) (fun _ _ _ h => h) rfl ?_ hHeld ?_
          rotate_left
          · intro w hSw
            try dsimp only at hSw
            go_simp
            all_goals with_reducible rfl
          try simp only [Act.put, List.setIfInBounds_toArray, List.set_cons_zero, List.set_cons_succ]
          refine wpAnyH_takeL (i := 9) (v := ?_) rfl (by kernel_rfl) (by kernel_rfl) (by kernel_rfl) (fun _ _ _ h => h) rfl ?_ hHeld ?_
          rotate_left
          · intro w hSw
            try dsimp only at hSw
            go_simp
            all_goals with_reducible rfl
          try simp only [Act.put, List.setIfInBounds_toArray, List.set_cons_zero, List.set_cons_succ]
          refine wpAnyH_takeL (i := 10) (v := ?_) rfl (by kernel_rfl) (by kernel_rfl) (by kernel_rfl) (fun _ _ _ h => h) rfl ?_ hHeld ?_
          rotate_left
          · intro w hSw
            try dsimp only at hSw
            go_simp
            all_goals with_reducible rfl
          try simp only [Act.put, List.setIfInBounds_toArray, List.set_cons_zero, List.set_cons_succ]
          refine wpAnyH_takeL (i := 11) (v := ?_) rfl (by kernel_rfl) (by kernel_rfl) (by kernel_rfl) (fun _ _ _ h => h) rfl ?_ hHeld ?_
          rotate_left
          · intro w hSw
            try dsimp only at hSw
            go_simp
            all_goals with_reducible rfl
          try simp only [Act.put, List.setIfInBounds_toArray, List.set_cons_zero, List.set_cons_succ]
          refine wpAnyH_done (by kernel_rfl) ?_ _
          rw [LastQ_normal]
          clear hHeld K0 p0 b0 f0 r0 r1
          go_wp2_with fail
          go_roundw
          case rel => exact ⟨p + 1, updQ lf2 yl ⟨rp1, rp2⟩, by omega, by go_num, C3.out.below (Qt.refl _).drew.bel, HF3, ((UH2.out.drew).setCell _ _ (fun _ => .inl rfl)).setCell _ _ (fun _ => .inl rfl)⟩
          case measure => simp [intOf]; omega
        · obtain rfl : L = p := by omega
          have q0 := C.out.s.q.cell (i := 0) rfl
          have q1 := C.out.s.q.cell (i := 1) rfl
          have hlk1 : lk.length ≤ 1000000 := by rw [HLL.out]; omega
          have CL := cloneInt_any wr.drew a c lk (HL.out.below (C.out.s.b.u.trans (Qt.below (Qt.refl wr).drew _))).s hlk1
          rw [HLL.out] at CL
          replace CL := Lib.hid CL
          have CD := Lib.hid (C.out.below (Qt.refl wr).drew.bel)
          have hme := fun w => run_eql_mapN (P := Try.prog) w (t := 84) mb Try.underlying84
          have K0 := Lib.hid (And.intro p0 (And.intro b1 (And.intro k0 (And.intro q0 q1))))
          have HNE : Hid (lk ≠ []) := HL.out.ne
          go_upto_region 24 with (fail)
          clear p0 b0 b1 f0 k0 q0 q1 C
          refine wp_region_lastH (fun wx => wx.cell? ⟨pb, 0, none⟩ = some (.pointer (some ⟨bb, 0, none⟩)) ∧ wx.cell? ⟨bb, 1, none⟩ = some (.map (some mb)) ∧ wx.cell? ⟨pb + 1, 0, none⟩ = some (.slice a L c) ∧ wx.cell? ⟨pb + 1 + 1, 0, none⟩ = some (.int .i64 rn) ∧ wx.cell? ⟨pb + 1 + 1, 1, none⟩ = some (.int .i64 rd)) 9 10 (by kernel_rfl) (by kernel_rfl) rfl rfl ?_ (fun hHeld => ?_)
          · (exact K0.out)
          simp only [nopFor, List.set_cons_succ, List.set_cons_zero]
          refine wpAnyH_takeL (i := 0) (v := ?_) rfl (by kernel_rfl) (by kernel_rfl) (by kernel_rfl) (fun _ _ _ h => h) rfl ?_ hHeld ?_
          rotate_left
          · intro w hSw
            try dsimp only at hSw
            go_simp
            all_goals with_reducible rfl
          try simp only [Act.put, List.setIfInBounds_toArray, List.set_cons_zero, List.set_cons_succ]
          refine wpAnyH_takeL (i := 1) (v := ?_) rfl (by kernel_rfl) (by kernel_rfl) (by kernel_rfl) (fun _ _ _ h => h) rfl ?_ hHeld ?_
          rotate_left
          · intro w hSw
            try dsimp only at hSw
            go_simp
            all_goals with_reducible rfl
          try simp only [Act.put, List.setIfInBounds_toArray, List.set_cons_zero, List.set_cons_succ]
          refine wpAnyH_takeL (i := 2) (v := ?_) rfl (by kernel_rfl) (by kernel_rfl) (by kernel_rfl) (fun _ _ _ h => h) rfl ?_ hHeld ?_
          rotate_left
          · intro w hSw
            try dsimp only at hSw
            go_simp
            all_goals with_reducible rfl
          try simp only [Act.put, List.setIfInBounds_toArray, List.set_cons_zero, List.set_cons_succ]
          refine wpAnyH_takeL (i := 3) (v := ?_) rfl (by kernel_rfl) (by kernel_rfl) (by kernel_rfl) (fun _ _ _ h => h) rfl ?_ hHeld ?_
          rotate_left
          · intro w hSw
            try dsimp only at hSw
            go_simp
            all_goals with_reducible rfl
          try simp only [Act.put, List.setIfInBounds_toArray, List.set_cons_zero, List.set_cons_succ]
          refine wpAnyH_takeL (i := 4) (v := ?_) rfl (by kernel_rfl) (by kernel_rfl) (by kernel_rfl) (fun _ _ _ h => h) rfl ?_ hHeld ?_
          rotate_left
          · intro w hSw
            try dsimp only at hSw
            go_simp
            all_goals with_reducible rfl
          try simp only [Act.put, List.setIfInBounds_toArray, List.set_cons_zero, List.set_cons_succ]
          refine wpAnyH_takeL (i := 5) (v := ?_) rfl (by kernel_rfl) (by kernel_rfl) (by kernel_rfl) (fun _ _ _ h => h) rfl ?_ hHeld ?_
          rotate_left
          · intro w hSw
            try dsimp only at hSw
            go_simp
            all_goals with_reducible rfl
          try simp only [Act.put, List.setIfInBounds_toArray, List.set_cons_zero, List.set_cons_succ]
          refine wpAnyH_takeL (i := 7) (v := ?_) rfl (by kernel_rfl) (by kernel_rfl) (by kernel_rfl) (fun _ _ _ h => h) rfl ?_ hHeld ?_
          rotate_left
          · intro w hSw
            try dsimp only at hSw
            go_simp
            all_goals with_reducible rfl
          try simp only [Act.put, List.setIfInBounds_toArray, List.set_cons_zero, List.set_cons_succ]
          refine wpAnyH_step (i := 6) (by kernel_rfl) rfl (fun KK hK => ?_)
          (go_simp; go_at_call 44; (with_reducible refine CL.out.mono ?_); rintro e w4 ⟨v, rfl, hv, hb⟩; obtain ⟨g, sp', c', rfl, hgw, hgb⟩ := hv.pos HNE.out; rw [HLL.out])
          refine hK.out _ _ ?_ (fun hHeld => ?_)
          · (exact keep5 hb hHeld)
          clear hK KK
          try simp only [Act.put, List.setIfInBounds_toArray, List.set_cons_zero, List.set_cons_succ]
          refine wpAnyH_takeL (i := 8) (v := ?_) rfl (by kernel_rfl) (by kernel_rfl) (by kernel_rfl) (fun _ _ _ h => h) rfl ?_ hHeld ?_
          rotate_left
          · intro w hSw
            try dsimp only at hSw
            go_simp
            all_goals with_reducible rfl
          try simp only [Act.put, List.setIfInBounds_toArray, List.set_cons_zero, List.set_cons_succ]
          refine wpAnyH_takeL (i := 9) (v := ?_) rfl (by kernel_rfl) (by kernel_rfl) (by kernel_rfl) (fun _ _ _ h => h) rfl ?_ hHeld ?_
          rotate_left
          · intro w hSw
            try dsimp only at hSw
            go_simp
            all_goals with_reducible rfl
          try simp only [Act.put, List.setIfInBounds_toArray, List.set_cons_zero, List.set_cons_succ]
          refine wpAnyH_done (by kernel_rfl) ?_ _
          rw [LastQ_normal]
          have C5 := CD.out.below hb
          obtain ⟨w5, hst, hm5, hu5⟩ := C5.s.b.m.store (i := i) (by unfold maxLen; omega) hi ⟨g, L, c', ⟨rn, rd⟩⟩
          have SG := Lib.hid ((Blk.sub hgb).upd hu5 (fun _ e => by have := CD.out.s.b.m.lt; dsimp only [Option.getD] at e; omega))
          have B5 := Lib.hid (C5.s.b.putM hm5 hu5)
          have UF := Lib.hid (Upd.then (Upd.then (UH2.out.drew) (Upd.of_below (S := fun j => j = lb ∨ j = mb) hb) (fun _ _ h => h)) hu5 (fun _ _ h => .inr h))
          have GNE : g ≠ lb ∧ g ≠ mb := by
            have h1 := CD.out.s.b.m.lt
            have h2 := CD.out.s.b.l.lt
            omega
          unfold rsV at hst
          dsimp only at hst
          clear hHeld K0 hm5 hu5 hgb hb hv C5
          go_wp2_with fail
          exact bodyPost_ret (v := .tuple #[.int .i64 (-1), .int .i64 0]) (by simp [results, Try.results23, go_sem]) rfl
            (.inr ⟨rfl, HALL.out, lf2, g, c', by rw [HLL.out]; exact B5.out, fun l hl => by have h1 := HF2.out l hl; rw [List.take_of_length_le (by rw [HLL.out]; omega)] at h1; exact h1, SG.out, GNE, UF.out⟩)
end Go.Proofs.Ytbdaehcngmhhcaa
