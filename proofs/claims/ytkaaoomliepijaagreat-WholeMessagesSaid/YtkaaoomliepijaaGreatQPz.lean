/-
  The post's memory: every block has a colour.
  The post's calls, in terms of its memory: the box, the writer.
  The post's calls, in terms of its memory: the end, the gate, the lists.
  The post's calls, in terms of its memory: the move, the gate, the lists.
-/
import Derived.Test.YtkaaoomliepijaaGreatQEq
import Derived.Test.YtkaaoomliepijaaGreatQRp
import Derived.Test.YtkaaoomliepijaaGreatQPoB
import Derived.Test.YtkaaoomliepijaaGreatQPush
import Derived.Test.YtkaaoomliepijaaGreatQBoxM
import Derived.Test.YtkaaoomliepijaaGreatQSd
import Derived.Test.YtkaaoomliepijaaGreatQWrG
import Derived.Test.YtkaaoomliepijaaGreatQSa
import Derived.Test.YtkaaoomliepijaaGreatQMr
namespace Go.Proofs.YtkaaoomliepijaaGreat
open Go.RowKit
set_option linter.unusedVariables false

/-- New blocks get the colour c. -/
def paint (w : World) (col : Nat → Nat) (c : Nat) : Nat → Nat := fun k => if k < w.heap.size then col k else c
theorem paint_old {w : World} {col : Nat → Nat} {c k : Nat} (h : k < w.heap.size) : paint w col c k = col k := by unfold paint; rw [if_pos h]
theorem paint_new {w : World} {col : Nat → Nat} {c k : Nat} (h : w.heap.size ≤ k) : paint w col c k = c := by unfold paint; rw [if_neg (by omega)]
def InC (w : World) (B : Nat) (col : Nat → Nat) (c k : Nat) : Prop := B ≤ k ∧ k < w.heap.size ∧ col k = c
theorem BoxM.mono {F G : Nat → Prop} {w : World} {base b : Nat} {room : Int} {ms : List Msg} (h : BoxM w base b room ms F) (hFG : ∀ k, F k → G k) (hG : ∀ k, G k → base ≤ k ∧ k < w.heap.size) : BoxM w base b room ms G := by
  obtain ⟨⟨qv, sv, its, h1, h2, h3⟩, h4, h5⟩ := h
  exact ⟨⟨qv, sv, its, h1, h2, fun k hk => hFG k (h3 k hk)⟩, h4, hG⟩
structure PWr (w : World) (B : Nat) (col : Nat → Nat) (wb : Nat) (kv : Value) (ks : List Int) (tk ba nx tp idl : Nat) : Prop where
  h : WrAt w B wb kv ks tk ba nx tp idl
  c : ∀ k, wrS wb kv k → col k = 8
structure PEn (w : World) (B : Nat) (col : Nat → Nat) (T : Nat → Int) (eb ph : Nat) (p0 p1 : Value) (s0 m0 s1 m1 : Nat) (S0 S1 : Sr) : Prop where
  b : Blk w eb 62 (mvC ph p0 p1)
  bb : B ≤ eb
  c : col eb = 12
  e0 : ph ≤ 1 → p0 = spV s0 ∧ StT w s0 m0 S0 T ∧ ∀ k, stS s0 m0 k → B ≤ k ∧ col k = 13
  e1 : 1 ≤ ph → p1 = spV s1 ∧ StT w s1 m1 S1 T ∧ ∀ k, stS s1 m1 k → B ≤ k ∧ col k = 14
structure PGt (w : World) (B : Nat) (col : Nat → Nat) (gb : Nat) (gv : Value) (gr : List Int) (gl : Int) : Prop where
  h : GateAt w B gb gv gr gl false
  c : ∀ k, gateS gb gv k → col k = 16
structure PPn (w : World) (B : Nat) (col : Nat → Nat) (pv : Value) (pl : List Int) : Prop where
  h : Vw (Value.int .u8) 5 w B pv pl
  c : ∀ k, pv.ownBlock = some k → col k = 20
structure PFy (w : World) (B : Nat) (col : Nat → Nat) (fv : Value) (fl : List Fl) : Prop where
  h : w.ownsRow B 38 2 fv fl.length (flC flV fl)
  c : ∀ k, fv.ownBlock = some k → col k = 24
  r : ∀ f ∈ fl, Rw (Value.int .u8) 5 w B (.slice f.a f.d.length f.c) f.d ∧ ∀ k, (Value.slice f.a f.d.length f.c).ownBlock = some k → col k = 25
structure PDa (w : World) (B : Nat) (col : Nat → Nat) (cl : Nat) (dv : Value) (dl : List RwB) : Prop where
  h : Vw RwB.val 22 w B dv dl
  c : ∀ k, dv.ownBlock = some k → col k = cl
  r : ∀ r ∈ dl, Sl (Value.int .u8) w r.a r.d ∧ r.d ≠ [] ∧ B ≤ r.blk ∧ col r.blk = cl + 1
section
variable {w w' : World} {B : Nat} {col col' : Nat → Nat} {S : Nat → Prop} (u : Upd S w w') (hc : ∀ k, k < w.heap.size → col' k = col k)
include u hc
theorem box_keep {b : Nat} {ms : List Msg} (h : BoxM w B b 1000 ms (InC w B col 4)) (hs : ∀ k, S k → B ≤ k → k < w.heap.size → col k / 4 ≠ 1) : BoxM w' B b 1000 ms (InC w' B col' 4) :=
  (h.upd u (fun k hk e => hs k e hk.1 hk.2.1 (by rw [hk.2.2]))).mono (fun k hk => ⟨hk.1, Nat.lt_of_lt_of_le hk.2.1 u.size, (hc k hk.2.1).trans hk.2.2⟩) (fun k hk => ⟨hk.1, hk.2.1⟩)
theorem PWr.keep {wb : Nat} {kv : Value} {ks : List Int} {tk ba nx tp idl : Nat} (h : PWr w B col wb kv ks tk ba nx tp idl) (hs : ∀ k, S k → B ≤ k → k < w.heap.size → col k / 4 ≠ 2) : PWr w' B col' wb kv ks tk ba nx tp idl :=
  ⟨h.h.upd u (fun k hk e => hs k e (h.h.lt hk).1 (h.h.lt hk).2 (by rw [h.c k hk])), fun k hk => (hc k (h.h.lt hk).2).trans (h.c k hk)⟩
theorem PEn.keep {T : Nat → Int} {eb ph : Nat} {p0 p1 : Value} {s0 m0 s1 m1 : Nat} {S0 S1 : Sr} (h : PEn w B col T eb ph p0 p1 s0 m0 s1 m1 S0 S1) (hs : ∀ k, S k → B ≤ k → k < w.heap.size → col k / 4 ≠ 3) : PEn w' B col' T eb ph p0 p1 s0 m0 s1 m1 S0 S1 := by
  refine ⟨h.b.upd u (fun e => hs _ e h.bb h.b.lt (by rw [h.c])), h.bb, (hc _ h.b.lt).trans h.c, fun hp => ?_, fun hp => ?_⟩
  · obtain ⟨a1, a2, a3⟩ := h.e0 hp
    exact ⟨a1, StAt.upd a2 u (fun k hk e => hs k e (a3 k hk).1 (StAt.lt a2 hk) (by rw [(a3 k hk).2])), fun k hk => ⟨(a3 k hk).1, (hc k (StAt.lt a2 hk)).trans (a3 k hk).2⟩⟩
  · obtain ⟨a1, a2, a3⟩ := h.e1 hp
    exact ⟨a1, StAt.upd a2 u (fun k hk e => hs k e (a3 k hk).1 (StAt.lt a2 hk) (by rw [(a3 k hk).2])), fun k hk => ⟨(a3 k hk).1, (hc k (StAt.lt a2 hk)).trans (a3 k hk).2⟩⟩
theorem PGt.keep {gb : Nat} {gv : Value} {gr : List Int} {gl : Int} (h : PGt w B col gb gv gr gl) (hs : ∀ k, S k → B ≤ k → k < w.heap.size → col k / 4 ≠ 4) : PGt w' B col' gb gv gr gl :=
  have hS : ∀ k, gateS gb gv k → ¬ S k := fun k hk e => hs k e (h.h.lt hk).1 (h.h.lt hk).2 (by rw [h.c k hk])
  ⟨h.h.upd u (hS _ (.inl rfl)) (fun k hk => hS k (.inr hk)), fun k hk => (hc k (h.h.lt hk).2).trans (h.c k hk)⟩
theorem PPn.keep {pv : Value} {pl : List Int} (h : PPn w B col pv pl) (hs : ∀ k, S k → B ≤ k → k < w.heap.size → col k / 4 ≠ 5) : PPn w' B col' pv pl :=
  ⟨h.h.upd u (fun k hk e => hs k e (h.h.lt hk).1 (h.h.lt hk).2 (by rw [h.c k hk])), fun k hk => (hc k (h.h.lt hk).2).trans (h.c k hk)⟩
theorem PFy.keep {fv : Value} {fl : List Fl} (h : PFy w B col fv fl) (hs : ∀ k, S k → B ≤ k → k < w.heap.size → col k / 4 ≠ 6) : PFy w' B col' fv fl :=
  ⟨own_upd h.h u (fun k hk e => hs k e (own_lt h.h hk).2 (own_lt h.h hk).1 (by rw [h.c k hk])), fun k hk => (hc k (own_lt h.h hk).1).trans (h.c k hk), fun f hf =>
    ⟨(h.r f hf).1.upd u (fun k hk e => hs k e ((h.r f hf).1.lt hk).1 ((h.r f hf).1.lt hk).2 (by rw [(h.r f hf).2 k hk])), fun k hk => (hc k ((h.r f hf).1.lt hk).2).trans ((h.r f hf).2 k hk)⟩⟩
theorem PDa.keep {c : Nat} {dv : Value} {dl : List RwB} (h : PDa w B col c dv dl) (hs : ∀ k, S k → B ≤ k → k < w.heap.size → col k ≠ c ∧ col k ≠ c + 1) : PDa w' B col' c dv dl :=
  ⟨h.h.upd u (fun k hk e => (hs k e (h.h.lt hk).1 (h.h.lt hk).2).1 (h.c k hk)), fun k hk => (hc k (h.h.lt hk).2).trans (h.c k hk), fun r hr => by
    obtain ⟨a1, a2, a3, a4⟩ := h.r r hr
    have hlt : r.blk < w.heap.size := a1.old a2
    exact ⟨a1.upd u (fun _ e => (hs _ e a3 hlt).2 a4), a2, a3, (hc _ hlt).trans a4⟩⟩
end
structure PoV where
  b : Nat
  wb : Nat
  eb : Nat
  gb : Nat
  kv : Value
  ks : List Int
  p0 : Value
  p1 : Value
  s0 : Nat
  m0 : Nat
  s1 : Nat
  m1 : Nat
  gv : Value
  gr : List Int
  gl : Int
  pv : Value
  pl : List Int
  fv : Value
  fl : List Fl
  dv : Value
  dl : List RwB
  ov : Value
  ol : List RwB
  ms : List Msg
  t : Wt
  bg : World
structure PoM (w : World) (B : Nat) (col : Nat → Nat) (T : Nat → Int) (x : PoV) : Prop where
  bx : BoxM w B x.b 1000 x.ms (InC w B col 4)
  wr : PWr w B col x.wb x.kv x.ks x.t.tk x.t.ba x.t.nx x.t.tp x.t.idl
  en : PEn w B col T x.eb x.t.ph x.p0 x.p1 x.s0 x.m0 x.s1 x.m1 x.t.s0 x.t.s1
  gt : PGt w B col x.gb x.gv x.gr x.gl
  pn : PPn w B col x.pv x.pl
  fy : PFy w B col x.fv x.fl
  da : PDa w B col 28 x.dv x.dl
  ou : PDa w B col 32 x.ov x.ol
  bs : B ≤ w.heap.size
  bk : Below B x.bg w
  cb : ∀ k, k < B → col k = 99
/-- All parts but one. -/
structure PoX (i : Nat) (w : World) (B : Nat) (col : Nat → Nat) (T : Nat → Int) (x : PoV) : Prop where
  bx : i ≠ 1 → BoxM w B x.b 1000 x.ms (InC w B col 4)
  wr : i ≠ 2 → PWr w B col x.wb x.kv x.ks x.t.tk x.t.ba x.t.nx x.t.tp x.t.idl
  en : i ≠ 3 → PEn w B col T x.eb x.t.ph x.p0 x.p1 x.s0 x.m0 x.s1 x.m1 x.t.s0 x.t.s1
  gt : i ≠ 4 → PGt w B col x.gb x.gv x.gr x.gl
  pn : i ≠ 5 → PPn w B col x.pv x.pl
  fy : i ≠ 6 → PFy w B col x.fv x.fl
  da : i ≠ 7 → PDa w B col 28 x.dv x.dl
  ou : i ≠ 8 → PDa w B col 32 x.ov x.ol
  bs : B ≤ w.heap.size
  bk : Below B x.bg w
  cb : ∀ k, k < B → col k = 99
section
variable {w w' : World} {B i : Nat} {col col' : Nat → Nat} {T : Nat → Int} {x : PoV} {S : Nat → Prop}
theorem PoM.rest (h : PoM w B col T x) (i : Nat) (u : Upd S w w') (hs : ∀ k, S k → True → k < w.heap.size → col k / 4 = i) (hc : ∀ k, k < w.heap.size → col' k = col k) (hi : i ≠ 24 := by decide) : PoX i w' B col' T x :=
  ⟨fun hi => box_keep u hc h.bx (fun k a b c => by have := hs k a trivial c; omega), fun hi => h.wr.keep u hc (fun k a b c => by have := hs k a trivial c; omega), fun hi => h.en.keep u hc (fun k a b c => by have := hs k a trivial c; omega),
    fun hi => h.gt.keep u hc (fun k a b c => by have := hs k a trivial c; omega), fun hi => h.pn.keep u hc (fun k a b c => by have := hs k a trivial c; omega), fun hi => h.fy.keep u hc (fun k a b c => by have := hs k a trivial c; omega),
    fun hi => h.da.keep u hc (fun k a b c => by have := hs k a trivial c; omega), fun hi => h.ou.keep u hc (fun k a b c => by have := hs k a trivial c; omega), Nat.le_trans h.bs u.size,
    Upd.below h.bk u h.bs (fun k hk => by
      rcases Nat.lt_or_ge k w.heap.size with c | c
      · rcases Nat.lt_or_ge k B with d | d
        · exact absurd (by have h1 := hs k hk trivial c; rw [h.cb k d] at h1; exact h1.symm) hi
        · exact d
      · exact Nat.le_trans h.bs c), fun k hk => (hc k (Nat.lt_of_lt_of_le hk h.bs)).trans (h.cb k hk)⟩
theorem PoX.all (h : PoX i w B col T x) (hi : i = 0 ∨ 9 ≤ i) : PoM w B col T x :=
  ⟨h.bx (by omega), h.wr (by omega), h.en (by omega), h.gt (by omega), h.pn (by omega), h.fy (by omega), h.da (by omega), h.ou (by omega), h.bs, h.bk, h.cb⟩
theorem PoM.bel (h : PoM w B col T x) (q : Below w.heap.size w w') (hc : ∀ k, k < w.heap.size → col' k = col k) : PoM w' B col' T x :=
  (h.rest 0 (S := fun _ => False) (Upd.of_below q) (fun _ e => e.elim) hc).all (.inl rfl)
theorem PoM.bel0 (h : PoM w B col T x) (q : Below w.heap.size w w') : PoM w' B col T x := h.bel q (fun _ _ => rfl)
end
/-- The post's block. -/
def poC (x : PoV) (pv fv dv ov : Value) (tick rd : Nat) (ok : Bool) : List Value := [.pointer (some ⟨x.b, 0, none⟩), .pointer (some ⟨x.wb, 0, none⟩), .pointer (some ⟨x.eb, 0, none⟩), .pointer (some ⟨x.gb, 0, none⟩), pv, fv, dv, ov, .int .i64 tick, .int .i64 rd, .bool ok]
structure PoF (w : World) (B : Nat) (col : Nat → Nat) (T : Nat → Int) (x : PoV) (pb : Nat) (vs : List Value) : Prop where
  m : PoM w B col T x
  p : Blk w pb 33 vs
  c : col pb = 0
  bb : B ≤ pb
section
variable {w w' : World} {B i pb : Nat} {col col' : Nat → Nat} {T T' : Nat → Int} {x x' : PoV} {S : Nat → Prop} {vs : List Value}
theorem PoF.step (h : PoF w B col T x pb vs) (m : PoM w' B col' T' x') (u : Upd S w w') (hs : ∀ k, S k → B ≤ k → k < w.heap.size → col k ≠ 0) (hc : ∀ k, k < w.heap.size → col' k = col k) : PoF w' B col' T' x' pb vs :=
  ⟨m, h.p.upd u (fun e => hs _ e h.bb h.p.lt h.c), (hc _ h.p.lt).trans h.c, h.bb⟩
theorem PoF.bel (h : PoF w B col T x pb vs) (q : Below w.heap.size w w') (hc : ∀ k, k < w.heap.size → col' k = col k) : PoF w' B col' T x pb vs :=
  h.step (h.m.bel q hc) (S := fun _ => False) (Upd.of_below q) (fun _ e => e.elim) hc
theorem PoF.bel0 (h : PoF w B col T x pb vs) (q : Below w.heap.size w w') : PoF w' B col T x pb vs := h.bel q (fun _ _ => rfl)
theorem PoF.set (h : PoF w B col T x pb vs) (i : Nat) (v : Value) : PoF (w.setCell ⟨pb, i, none⟩ v) B col T x pb (vs.set i v) :=
  have u := (Upd.refl (fun k => k = pb) w).setCell ⟨pb, i, none⟩ v (fun _ => rfl)
  ⟨(h.m.rest 0 u (fun k e _ _ => by rw [e, h.c]) (fun _ _ => rfl)).all (.inl rfl), h.p.set i v, h.c, h.bb⟩
end
end Go.Proofs.YtkaaoomliepijaaGreat
namespace Go.Proofs.YtkaaoomliepijaaGreat
open Go.RowKit
set_option linter.unusedVariables false

section
variable {w w' : World} {B pb : Nat} {col col' : Nat → Nat} {T T' : Nat → Int} {x x' : PoV} {S : Nat → Prop} {vs : List Value}
theorem inc_part {c i : Nat} (hi : c / 4 = i) : ∀ k, InC w B col c k → True → k < w.heap.size → col k / 4 = i := fun k hk _ _ => by rw [hk.2.2]; exact hi
theorem part_ne {i : Nat} (hi : i ≠ 0) {S : Nat → Prop} (hs : ∀ k, S k → True → k < w.heap.size → col k / 4 = i) : ∀ k, S k → B ≤ k → k < w.heap.size → col k ≠ 0 := fun k a b c e => by
  have := hs k a trivial c
  rw [e] at this
  exact hi this.symm
theorem next_po (h : PoF w B col T x pb vs) (ln : x.ms.length ≤ 900) (tick most : Int) (hm : most ≤ 1000) :
    Calls Tryz.prog 24 #[.pointer (some ⟨x.b, 0, none⟩), .int .i64 tick, .int .i64 most] w fun e w' => ∃ (ov : Value) (col' : Nat → Nat), e = .returned ov ∧ PoF w' B col' T { x with ms := nextM x.ms tick most, pv := ov, pl := nextW x.ms tick most } pb vs := by
  refine (mnext_any w B x.b 1000 x.ms _ h.m.bx (by omega) tick most (by omega) h.m.bs).mono ?_
  rintro e w' ⟨ov, rfl, vw, bm, u⟩
  have hc := fun k (hk : k < w.heap.size) => paint_old (col := col) (c := 20) hk
  have R := h.m.rest 1 u (inc_part rfl) hc
  have hbs := h.m.bs
  refine ⟨ov, paint w col 20, rfl, h.step (x' := { x with ms := nextM x.ms tick most, pv := ov, pl := nextW x.ms tick most }) ⟨bm.mono (fun k hk => ⟨hk.1, Nat.lt_of_lt_of_le hk.2.1 u.size, (hc k hk.2.1).trans hk.2.2⟩) (fun k hk => ⟨hk.1, hk.2.1⟩), R.wr (by omega), R.en (by omega), R.gt (by omega), ⟨vw.rebase fun g hg => by have := (vw.lt hg).1; omega, fun k hk => paint_new (vw.lt hk).1⟩, R.fy (by omega), R.da (by omega), R.ou (by omega), R.bs, R.bk, R.cb⟩ u (part_ne (by decide) (inc_part rfl)) hc⟩
theorem cancel_po (h : PoF w B col T x pb vs) (ln : x.ms.length ≤ 900) (n : Int) :
    Calls Tryz.prog 23 #[.pointer (some ⟨x.b, 0, none⟩), .int .i64 n] w fun e w' => ∃ (v : Value), e = .returned v ∧ PoF w' B col T { x with ms := cancelM x.ms n } pb vs := by
  refine (mcancel_any w B x.b 1000 x.ms _ h.m.bx (by omega) n h.m.bs).mono ?_
  rintro e w' ⟨rfl, bm, u⟩
  have R := h.m.rest 1 (col' := col) u (inc_part rfl) (fun _ _ => rfl)
  exact ⟨_, rfl, h.step (x' := { x with ms := cancelM x.ms n }) ⟨bm.mono (fun k hk => ⟨hk.1, Nat.lt_of_lt_of_le hk.2.1 u.size, hk.2.2⟩) (fun k hk => ⟨hk.1, hk.2.1⟩), R.wr (by omega), R.en (by omega), R.gt (by omega), R.pn (by omega), R.fy (by omega), R.da (by omega), R.ou (by omega), R.bs, R.bk, R.cb⟩ u (part_ne (by decide) (inc_part rfl)) (fun _ _ => rfl)⟩
theorem state_po (h : PoF w B col T x pb vs) (ln : x.ms.length ≤ 900) (n : Int) :
    Calls Tryz.prog 12 #[.pointer (some ⟨x.b, 0, none⟩), .int .i64 n] w fun e w' => e = .returned (.int .i64 (stOf (x.ms.map Msg.st) n)) ∧ w = w' := mstate_any w B x.b 1000 x.ms _ h.m.bx (by omega) n
theorem bput_po (h : PoF w B col T x pb vs) (ln : x.ms.length ≤ 900) (da : Option Addr) (dc : Nat) (data : List Int) (hd : Sl (Value.int .u8) w da data) (hdm : data.length ≤ 1000) (dl : Int) (hda : data ≠ [] → col (da.getD default).block ≠ 4) :
    Calls Tryz.prog 44 #[.pointer (some ⟨x.b, 0, none⟩), .slice da data.length dc, .int .i64 dl] w fun e w' => e = .returned (.tuple #[.int .i64 (putN x.ms 1000 data dl), .int .i64 (putE x.ms 1000 data dl)]) ∧
      PoF w' B (paint w col 4) T { x with ms := putM x.ms 1000 data dl } pb vs ∧ Upd (InC w B col 4) w w' := by
  refine (mput_any w B x.b 1000 x.ms _ h.m.bx (by omega) da dc data hd (by unfold maxLen; omega) dl (fun hn k hk e => hda hn (by rw [e]; exact hk.2.2)) h.m.bs).mono ?_
  rintro e w' ⟨rfl, bm, u⟩
  have hc := fun k (hk : k < w.heap.size) => paint_old (col := col) (c := 4) hk
  have R := h.m.rest 1 u (inc_part rfl) hc
  have hbs := h.m.bs
  refine ⟨rfl, h.step (x' := { x with ms := putM x.ms 1000 data dl }) ⟨bm.mono (fun k hk => ?_) (fun k hk => ⟨hk.1, hk.2.1⟩), R.wr (by omega), R.en (by omega), R.gt (by omega), R.pn (by omega), R.fy (by omega), R.da (by omega), R.ou (by omega), R.bs, R.bk, R.cb⟩ u (part_ne (by decide) (inc_part rfl)) hc, u⟩
  rcases hk with hk | hk
  · exact ⟨hk.1, Nat.lt_of_lt_of_le hk.2.1 u.size, (hc k hk.2.1).trans hk.2.2⟩
  · exact ⟨by omega, hk.2, paint_new hk.1⟩
theorem write_po (h : PoF w B col T x pb vs) (h1 : x.t.ba ≤ x.t.tk) (h2 : x.t.tk ≤ x.t.ba + 24) (h3 : x.t.tk ≤ 10000) (h4 : x.ks.length ≤ 24) (h5 : x.pl.length ≤ 100000) :
    Calls Tryz.prog 25 #[.pointer (some ⟨x.wb, 0, none⟩), x.pv] w fun e w' => ∃ (n : Nat) (kv' : Value) (col' : Nat → Nat), n = min x.pl.length (24 - (x.t.tk - x.t.ba)) ∧ e = .returned (.tuple #[.int .i64 n, .int .i64 0]) ∧
      PoF w' B col' T { x with kv := kv', ks := x.ks ++ x.pl.take n, t := { x.t with tk := x.t.tk + n } } pb vs := by
  refine (write_any w B x.wb x.kv x.ks _ _ _ _ _ h.m.wr.h h1 h2 (by omega) h4 B x.pv x.pl h.m.pn.h h5 h.m.bs).mono ?_
  rintro e w' ⟨rfl, kv', hw, u, ho⟩
  have hc := fun k (hk : k < w.heap.size) => paint_old (col := col) (c := 8) hk
  have hs : ∀ k, wrS x.wb x.kv k → True → k < w.heap.size → col k / 4 = 2 := fun k hk _ _ => by rw [h.m.wr.c k hk]
  have R := h.m.rest 2 u hs hc
  refine ⟨_, kv', paint w col 8, rfl, rfl, h.step (x' := { x with kv := kv', ks := x.ks ++ x.pl.take _, t := { x.t with tk := x.t.tk + _ } }) ⟨R.bx (by omega), ⟨hw, fun k hk => ?_⟩, R.en (by omega), R.gt (by omega), R.pn (by omega), R.fy (by omega), R.da (by omega), R.ou (by omega), R.bs, R.bk, R.cb⟩ u (part_ne (by decide) hs) hc⟩
  rcases hk with rfl | hk
  · rw [hc _ h.m.wr.h.b.lt]; exact h.m.wr.c _ (.inl rfl)
  · rcases ho with e | e
    · rw [e] at hk
      rw [hc _ (h.m.wr.h.lt (.inr hk)).2]; exact h.m.wr.c _ (.inr hk)
    · exact paint_new (e k hk)
theorem tick_ph (t : Wt) (most : Nat) : (t.tick most).ph = t.ph ∧ (t.tick most).s0 = t.s0 ∧ (t.tick most).s1 = t.s1 ∧ (t.tick most).tk = t.tk ∧ (t.tick most).ba = t.ba ∧ (t.tick most).rd = t.rd := by
  unfold Wt.tick
  repeat' split
  all_goals exact ⟨rfl, rfl, rfl, rfl, rfl, rfl⟩
def tickE (g : Bool) (nx : Nat) (cv : Value) : Ending := if g = true then .returned (.tuple #[.agg #[.int .i64 nx, cv, .bool false], .bool true]) else tickNone
theorem tick_po (h : PoF w B col T x pb vs) {L : Nat} (I : WtI L x.t) (hL : L ≤ 10000) (hk : x.ks.length = x.t.tk - x.t.ba) (most : Nat) (hm : 1 ≤ most) (hm2 : most ≤ 1000) :
    Calls Tryz.prog 26 #[.pointer (some ⟨x.wb, 0, none⟩), .int .i64 most] w fun e w' => ∃ cv, e = tickE x.t.goes x.t.nx cv ∧
      (x.t.goes = true → Rw (Value.int .u8) 5 w' w.heap.size cv ((x.ks.drop (x.t.nx - x.t.ba)).take (x.t.snd most))) ∧ PoF w' B (paint w col 40) T { x with t := x.t.tick most } pb vs := by
  have a1 := I.a1; have a2 := I.a2; have a3 := I.a3; have a4 := I.a4; have a5 := I.a5; have a6 := I.a6
  have hc := fun k (hk : k < w.heap.size) => paint_old (col := col) (c := 40) hk
  have hs : ∀ k, k = x.wb → True → k < w.heap.size → col k / 4 = 2 := fun k hk _ _ => by rw [h.m.wr.c k (.inl hk)]
  obtain ⟨q1, q2, q3, q4, q5, q6⟩ := tick_ph x.t most
  have fin : ∀ w', WrAt w' B x.wb x.kv x.ks (x.t.tick most).tk (x.t.tick most).ba (x.t.tick most).nx (x.t.tick most).tp (x.t.tick most).idl → Upd (fun k => k = x.wb) w w' → PoF w' B (paint w col 40) T { x with t := x.t.tick most } pb vs := fun w' hw u => by
    have R := h.m.rest 2 u hs hc
    refine h.step (x' := { x with t := x.t.tick most }) ⟨R.bx (by omega), ⟨hw, fun k hk => ?_⟩, ?_, R.gt (by omega), R.pn (by omega), R.fy (by omega), R.da (by omega), R.ou (by omega), R.bs, R.bk, R.cb⟩ u (part_ne (by decide) hs) hc
    · rw [hc _ (h.m.wr.h.lt hk).2]; exact h.m.wr.c _ hk
    · have := R.en (by omega)
      rw [← q1, ← q2, ← q3] at this
      exact this
  by_cases hg : x.t.goes = true
  · have hg' := hg
    unfold Wt.goes at hg'
    simp only [Bool.and_eq_true, decide_eq_true_eq] at hg'
    have et : x.t.tick most = { x.t with nx := x.t.nx + x.t.snd most, tp := max x.t.tp (x.t.nx + x.t.snd most), idl := 0 } := by unfold Wt.tick; rw [if_pos hg]
    refine (tick_go w B x.wb x.kv x.ks _ _ _ _ _ most h.m.wr.h hm (by omega) hg'.1 hg'.2 a1 a5 hk (by omega)).mono ?_
    rintro e w' ⟨cv, rfl, hr, hw, u⟩
    exact ⟨cv, by unfold tickE; rw [if_pos hg], fun _ => hr, fin w' (by rw [et]; exact hw) u⟩
  · have hg' : ¬ (x.t.nx < x.t.tk ∧ x.t.nx < x.t.ba + 24) := by
      unfold Wt.goes at hg
      simpa only [Bool.and_eq_true, decide_eq_true_eq] using hg
    by_cases hr : x.t.rest = true
    · have hr' := hr
      unfold Wt.rest at hr'
      simp only [Bool.and_eq_true, decide_eq_true_eq] at hr'
      have et : x.t.tick most = x.t := by unfold Wt.tick; rw [if_neg hg, if_pos hr]
      refine (tick_rest w B x.wb x.kv x.ks _ _ _ _ _ most h.m.wr.h hm hr'.1 hr'.2 (by omega)).mono ?_
      rintro e w' ⟨rfl, hw, u⟩
      exact ⟨.slice none 0 0, by unfold tickE; rw [if_neg hg], fun e => absurd e hg, fin w' (by rw [et]; exact hw) u⟩
    · have hr' : ¬ (x.t.ba = x.t.nx ∧ x.t.nx = x.t.tk) := by
        unfold Wt.rest at hr
        simpa only [Bool.and_eq_true, decide_eq_true_eq] using hr
      by_cases hi : x.t.idl + 1 < 3
      · have et : x.t.tick most = { x.t with idl := x.t.idl + 1 } := by unfold Wt.tick; rw [if_neg hg, if_neg hr, if_pos hi]
        refine (tick_idle w B x.wb x.kv x.ks _ _ _ _ _ most h.m.wr.h hm (by omega) (by omega) hi (by omega) (by omega)).mono ?_
        rintro e w' ⟨rfl, hw, u⟩
        exact ⟨.slice none 0 0, by unfold tickE; rw [if_neg hg], fun e => absurd e hg, fin w' (by rw [et]; exact hw) u⟩
      · have et : x.t.tick most = { x.t with idl := 0, nx := x.t.ba } := by unfold Wt.tick; rw [if_neg hg, if_neg hr, if_neg hi]
        refine (tick_back w B x.wb x.kv x.ks _ _ _ _ _ most h.m.wr.h hm (by omega) (by omega) hi (by omega) (by omega) (by omega)).mono ?_
        rintro e w' ⟨rfl, hw, u⟩
        exact ⟨.slice none 0 0, by unfold tickE; rw [if_neg hg], fun e => absurd e hg, fin w' (by rw [et]; exact hw) u⟩
theorem ack_po (h : PoF w B col T x pb vs) {L : Nat} (I : WtI L x.t) (hL : L ≤ 10000) (hk : x.ks.length = x.t.tk - x.t.ba) :
    Calls Tryz.prog 32 #[.pointer (some ⟨x.wb, 0, none⟩), .int .i64 x.t.rd, .int .i64 24, .bool false] w fun e w' => ∃ kv', e = .returned (.int .i64 0) ∧ PoF w' B col T { x with kv := kv', ks := x.ks.drop (x.t.rd - x.t.ba), t := x.t.ack } pb vs ∧ Upd (fun k => k = x.wb) w w' := by
  have a1 := I.a1; have a2 := I.a2; have a3 := I.a3; have a4 := I.a4; have a7 := I.a7; have a8 := I.a8
  have hs : ∀ k, k = x.wb → True → k < w.heap.size → col k / 4 = 2 := fun k hk _ _ => by rw [h.m.wr.c k (.inl hk)]
  refine (ack_any w B x.wb x.kv x.ks _ _ _ _ _ x.t.rd h.m.wr.h a7 a8 a1 (by omega) (by omega) hk (by omega) (by omega)).mono ?_
  rintro e w' ⟨rfl, kv', hw, u, ho⟩
  have R := h.m.rest 2 (col' := col) u hs (fun _ _ => rfl)
  have q : x.t.ack.tk = x.t.tk ∧ x.t.ack.ba = x.t.rd ∧ x.t.ack.nx = (if x.t.ba < x.t.rd then max x.t.nx x.t.rd else x.t.nx) ∧ x.t.ack.tp = x.t.tp ∧ x.t.ack.idl = (if x.t.ba < x.t.rd then 0 else x.t.idl) ∧ x.t.ack.ph = x.t.ph ∧ x.t.ack.s0 = x.t.s0 ∧ x.t.ack.s1 = x.t.s1 := by
    unfold Wt.ack
    by_cases c : x.t.ba < x.t.rd
    · simp only [if_pos c, and_self]
    · simp only [if_neg c]; exact ⟨trivial, by omega, trivial, trivial, trivial, trivial, trivial, trivial⟩
  obtain ⟨q1, q2, q3, q4, q5, q6, q7, q8⟩ := q
  refine ⟨kv', rfl, h.step (x' := { x with kv := kv', ks := x.ks.drop (x.t.rd - x.t.ba), t := x.t.ack }) ⟨R.bx (by omega), ⟨?_, fun k hk => ?_⟩, ?_, R.gt (by omega), R.pn (by omega), R.fy (by omega), R.da (by omega), R.ou (by omega), R.bs, R.bk, R.cb⟩ u (part_ne (by decide) hs) (fun _ _ => rfl), u⟩
  · show WrAt w' B x.wb kv' _ x.t.ack.tk x.t.ack.ba x.t.ack.nx x.t.ack.tp x.t.ack.idl
    rw [q1, q2, q3, q4, q5]; exact hw
  · rcases hk with hk | hk
    · exact h.m.wr.c _ (.inl hk)
    · exact h.m.wr.c _ (.inr (ho k hk))
  · have := R.en (by omega)
    show PEn w' B col T x.eb x.t.ack.ph x.p0 x.p1 x.s0 x.m0 x.s1 x.m1 x.t.ack.s0 x.t.ack.s1
    rw [q6, q7, q8]; exact this
end
end Go.Proofs.YtkaaoomliepijaaGreat
namespace Go.Proofs.YtkaaoomliepijaaGreat
open Go.RowKit
set_option linter.unusedVariables false

theorem put_conv {w w' : World} {sb mb tp o n : Nat} {s : Sr} {T : Nat → Int} (hi : SrI s tp) (h : PutQ w sb mb s.off s.nxt o (Fs s T) (segT T o n) w') : StT w' sb mb (s.put o n) T ∧ Upd (stS sb mb) w w' := by
  obtain ⟨nx, h1, h2, h3, h4, h5⟩ := h
  rw [segT_len] at h1 h3 h4
  have eF : putF (Fs s T) o (segT T o n) (max o s.off) (min (o + n) (s.off + 24)) = Fs (s.put o n) T := by
    funext x
    show _ = if s.Pp o n x = true then some (T x) else none
    unfold putF Sr.Pp
    by_cases c1 : max o s.off ≤ x ∧ x < min (o + n) (s.off + 24)
    · rw [if_pos c1, decide_eq_true c1.1, decide_eq_true c1.2, segT_get (by omega), show o + (x - o) = x by omega]
      simp
    · rw [if_neg c1]
      have : (decide (max o s.off ≤ x) && decide (x < min (o + n) (s.off + 24))) = false := by
        rw [Bool.and_eq_false_iff]
        by_cases c2 : max o s.off ≤ x
        · right; exact decide_eq_false (fun e => c1 ⟨c2, e⟩)
        · left; exact decide_eq_false c2
      rw [this, Bool.or_false]
      rfl
  rw [eF] at h1 h3 h4
  obtain ⟨a1, a2, a3⟩ := adv_spec (P := s.Pp o n) (B := s.off + 24) (fun x hx => by
    unfold Sr.Pp at hx
    simp only [Bool.or_eq_true, Bool.and_eq_true, decide_eq_true_eq] at hx
    rcases hx with hx | hx
    · exact (hi.win x hx).2.1
    · omega) 25 s.nxt (by have := hi.le; omega)
  have enx : nx = (s.put o n).nxt := by
    refine adv_uniq (P := s.Pp o n) (k := s.nxt) ?_ h2 (fun x hx1 hx2 => Fs_some.1 (h4 x hx1 hx2)) a1 a2 a3
    cases hp : s.Pp o n nx with
    | false => rfl
    | true => rw [Fs_some.2 (show (s.put o n).P nx = true from hp)] at h3; cases h3
  subst enx
  exact ⟨h1, h5⟩
theorem Fs_read {s : Sr} {tp : Nat} {T : Nat → Int} (hi : SrI s tp) : rmF (Fs s T) s.off (s.nxt - s.off) = Fs s.read T := by
  have hle := hi.le
  funext a
  show _ = if (s.P a && decide (s.nxt ≤ a)) = true then some (T a) else none
  unfold rmF
  by_cases c : s.off ≤ a ∧ a < s.off + (s.nxt - s.off)
  · rw [if_pos c, decide_eq_false (by omega), Bool.and_false, if_neg (by decide)]
  · rw [if_neg c]
    unfold Fs
    by_cases cp : s.P a = true
    · have := (hi.win a cp).1
      rw [if_pos cp, cp, decide_eq_true (by omega)]; rfl
    · rw [if_neg cp, if_neg (by simp [cp])]
theorem rdL_seg {s : Sr} {tp : Nat} {T : Nat → Int} (hi : SrI s tp) : rdL (Fs s T) s.off (s.nxt - s.off) = segT T s.off (s.nxt - s.off) := by
  unfold rdL segT
  refine List.map_congr_left fun i hmem => ?_
  have := List.mem_range.1 hmem
  unfold Fs
  rw [if_pos (hi.all _ (by omega) (by omega))]; rfl
section
variable {w w' : World} {B pb L : Nat} {col col' : Nat → Nat} {T T' : Nat → Int} {x x' : PoV} {S : Nat → Prop} {vs : List Value}
theorem phase_po (h : PoF w B col T x pb vs) : Calls Tryz.prog 8 #[.pointer (some ⟨x.eb, 0, none⟩)] w fun e w' => e = .returned (.int .i64 x.t.ph) ∧ w = w' := phase_any w x.eb x.t.ph _ _ h.m.en.b
theorem read_po (h : PoF w B col T x pb vs) (I : WtI L x.t) (hL : L ≤ 1900) :
    Calls Tryz.prog 30 #[.pointer (some ⟨x.eb, 0, none⟩), .int .i64 1000] w fun e w' => ∃ v, e = .returned v ∧ Rw (Value.int .u8) 5 w' w.heap.size v (segT T x.t.rd (x.t.taken.rd - x.t.rd)) ∧ PoF w' B (paint w col 40) T { x with t := x.t.taken } pb vs := by
  have hr := I.r
  have hi := I.iR
  have a3 := I.a3; have a4 := I.a4; have a8 := I.a8
  have ht := hi.ntp (by rw [hr]; exact I.a8)
  have hle := hi.le
  have hc := fun k (hk : k < w.heap.size) => paint_old (col := col) (c := 40) hk
  by_cases e : x.t.ph = 0
  · have eR : x.t.R = x.t.s0 := by unfold Wt.R; rw [if_pos e]
    rw [eR] at hr hi ht hle
    obtain ⟨b1, b2, b3⟩ := h.m.en.e0 (by omega)
    have hs : ∀ k, stS x.s0 x.m0 k → True → k < w.heap.size → col k / 4 = 3 := fun k hk _ _ => by rw [(b3 k hk).2]
    refine (read_mv w x.eb x.t.ph x.s0 x.m0 _ _ 1000 x.p0 x.p1 _ h.m.en.b I.a9 (by rw [if_pos e]; exact b1) b2 hle (by omega) (by omega) (by omega)).mono ?_
    rintro e2 w' ⟨v, rfl, g1, g2, u⟩
    rw [show min 1000 (x.t.s0.nxt - x.t.s0.off) = x.t.s0.nxt - x.t.s0.off by omega] at g1 g2
    rw [rdL_seg hi] at g1
    rw [Fs_read hi, show x.t.s0.off + (x.t.s0.nxt - x.t.s0.off) = x.t.s0.nxt by omega] at g2
    have et : x.t.taken = { x.t with rd := x.t.s0.nxt, s0 := x.t.s0.read } := by unfold Wt.taken; rw [if_pos e]
    have R := h.m.rest 3 u hs hc
    rw [et, ← hr]
    refine ⟨v, rfl, g1, h.step (x' := { x with t := { x.t with rd := x.t.s0.nxt, s0 := x.t.s0.read } }) ⟨R.bx (by omega), R.wr (by omega), ⟨h.m.en.b.upd u (fun e3 => by have := (b3 _ e3).2; rw [h.m.en.c] at this; omega), h.m.en.bb, (hc _ h.m.en.b.lt).trans h.m.en.c, fun hp => ⟨b1, g2, fun k hk => ⟨(b3 k hk).1, (hc k (StAt.lt b2 hk)).trans (b3 k hk).2⟩⟩, fun hp => absurd hp (by show ¬ 1 ≤ x.t.ph; omega)⟩, R.gt (by omega), R.pn (by omega), R.fy (by omega), R.da (by omega), R.ou (by omega), R.bs, R.bk, R.cb⟩ u (part_ne (by decide) hs) hc⟩
  · have eR : x.t.R = x.t.s1 := by unfold Wt.R; rw [if_neg e]
    rw [eR] at hr hi ht hle
    obtain ⟨b1, b2, b3⟩ := h.m.en.e1 (by omega)
    have hs : ∀ k, stS x.s1 x.m1 k → True → k < w.heap.size → col k / 4 = 3 := fun k hk _ _ => by rw [(b3 k hk).2]
    refine (read_mv w x.eb x.t.ph x.s1 x.m1 _ _ 1000 x.p0 x.p1 _ h.m.en.b I.a9 (by rw [if_neg e]; exact b1) b2 hle (by omega) (by omega) (by omega)).mono ?_
    rintro e2 w' ⟨v, rfl, g1, g2, u⟩
    rw [show min 1000 (x.t.s1.nxt - x.t.s1.off) = x.t.s1.nxt - x.t.s1.off by omega] at g1 g2
    rw [rdL_seg hi] at g1
    rw [Fs_read hi, show x.t.s1.off + (x.t.s1.nxt - x.t.s1.off) = x.t.s1.nxt by omega] at g2
    have et : x.t.taken = { x.t with rd := x.t.s1.nxt, s1 := x.t.s1.read } := by unfold Wt.taken; rw [if_neg e]
    have R := h.m.rest 3 u hs hc
    rw [et, ← hr]
    refine ⟨v, rfl, g1, h.step (x' := { x with t := { x.t with rd := x.t.s1.nxt, s1 := x.t.s1.read } }) ⟨R.bx (by omega), R.wr (by omega), ⟨h.m.en.b.upd u (fun e3 => by have := (b3 _ e3).2; rw [h.m.en.c] at this; omega), h.m.en.bb, (hc _ h.m.en.b.lt).trans h.m.en.c, fun hp => ?_, fun hp => ⟨b1, g2, fun k hk => ⟨(b3 k hk).1, (hc k (StAt.lt b2 hk)).trans (b3 k hk).2⟩⟩⟩, R.gt (by omega), R.pn (by omega), R.fy (by omega), R.da (by omega), R.ou (by omega), R.bs, R.bk, R.cb⟩ u (part_ne (by decide) hs) hc⟩
    obtain ⟨d1, d2, d3⟩ := h.m.en.e0 hp
    exact ⟨d1, StAt.upd d2 u (fun k hk e3 => by have h1 := (b3 _ e3).2; have h2 := (d3 _ hk).2; omega), fun k hk => ⟨(d3 k hk).1, (hc k (StAt.lt d2 hk)).trans (d3 k hk).2⟩⟩
theorem acc_eq (t : Wt) (pl : Nat) : accB t.ph pl = t.acc pl := rfl
theorem receive_po (h : PoF w B col T x pb vs) (I : WtI L x.t) (hL : L ≤ 1900) (hT : IsT T) (pl o n c : Nat) (a : Option Addr) (hpl : pl ≤ 1) (hon : o + n ≤ x.t.tp) (hn : n ≤ 100) (hd : Sl (Value.int .u8) w a (segT T o n)) (hda : n ≠ 0 → col (a.getD default).block / 4 ≠ 3) :
    Calls Tryz.prog 29 #[.pointer (some ⟨x.eb, 0, none⟩), .int .i64 pl, .agg #[.int .i64 o, .slice a n c, .bool false]] w fun e w' => (e = .returned (.int .i64 0) ∨ e = .returned (.int .i64 6)) ∧ ∃ col', (∀ k, k < w.heap.size → col' k = col k) ∧ PoF w' B col' T { x with t := x.t.deliv pl o n } pb vs ∧ Upd (fun k => col k / 4 = 3) w w' := by
  have a3 := I.a3; have a4 := I.a4; have a8 := I.a8
  have hc := fun k (hk : k < w.heap.size) => paint_old (col := col) (c := 40) hk
  by_cases ha : x.t.acc pl = true
  · by_cases hp : pl = 0
    · subst hp
      have hph : x.t.ph ≤ 1 := by
        have := ha; unfold Wt.acc at this; rw [if_pos rfl] at this; simp at this; have := I.a9; omega
      obtain ⟨b1, b2, b3⟩ := h.m.en.e0 hph
      obtain ⟨i0, i00⟩ := I.i0 hph
      have hx := i0.ntp (by omega)
      have hs : ∀ k, stS x.s0 x.m0 k → True → k < w.heap.size → col k / 4 = 3 := fun k hk _ _ => by rw [(b3 k hk).2]
      have hq := receive_yes w x.eb x.t.ph 0 x.s0 x.m0 _ _ o c a x.p0 x.p1 _ (segT T o n) h.m.en.b I.a9 (by omega) ha (by rw [if_pos rfl]; exact b1) b2 (fun e => by have := (b3 _ e).2; rw [h.m.en.c] at this; omega) hd (segT_isB hT o n) (by omega) (by rw [segT_len]; omega) (by omega) (by omega)
        (fun y hy => by have := (i0.win y (Fs_some.1 hy)).2.2; omega) (fun y z hy h1 h2 h3 => by
          rw [segT_len] at h2
          rw [segT_get (by omega), show o + (y - o) = y by omega]; exact (Fs_val hy).1)
        (fun k hk hne e => hda (fun e2 => hne (by subst e2; rfl)) (by rw [e, (b3 k hk).2]))
      rw [segT_len] at hq
      refine hq.mono ?_
      rintro e w' ⟨rfl, hQ⟩
      obtain ⟨g, u⟩ := put_conv i0 hQ
      have et : x.t.deliv 0 o n = { x.t with s0 := x.t.s0.put o n } := by unfold Wt.deliv; rw [if_pos ha, if_pos rfl]
      have R := h.m.rest 3 u hs hc
      rw [et]
      refine ⟨.inl rfl, paint w col 40, hc, h.step (x' := { x with t := { x.t with s0 := x.t.s0.put o n } }) ⟨R.bx (by omega), R.wr (by omega), ⟨h.m.en.b.upd u (fun e3 => by have := (b3 _ e3).2; rw [h.m.en.c] at this; omega), h.m.en.bb, (hc _ h.m.en.b.lt).trans h.m.en.c, fun hp => ⟨b1, g, fun k hk => ⟨(b3 k hk).1, (hc k (StAt.lt b2 hk)).trans (b3 k hk).2⟩⟩, fun hp => ?_⟩, R.gt (by omega), R.pn (by omega), R.fy (by omega), R.da (by omega), R.ou (by omega), R.bs, R.bk, R.cb⟩ u (part_ne (by decide) hs) hc, u.mono (fun k hk e => hs k e trivial hk)⟩
      obtain ⟨d1, d2, d3⟩ := h.m.en.e1 hp
      exact ⟨d1, StAt.upd d2 u (fun k hk e3 => by have h1 := (b3 _ e3).2; have h2 := (d3 _ hk).2; omega), fun k hk => ⟨(d3 k hk).1, (hc k (StAt.lt d2 hk)).trans (d3 k hk).2⟩⟩
    · have hp1 : pl = 1 := by omega
      subst hp1
      have hph : 1 ≤ x.t.ph := by
        have := ha; unfold Wt.acc at this; rw [if_neg (by decide)] at this; simp at this; omega
      obtain ⟨b1, b2, b3⟩ := h.m.en.e1 hph
      have i1 := I.i1 hph
      have eR : x.t.R = x.t.s1 := by unfold Wt.R; rw [if_neg (by omega)]
      have hrr := I.r
      rw [eR] at hrr
      have hx := i1.ntp (by omega)
      have hs : ∀ k, stS x.s1 x.m1 k → True → k < w.heap.size → col k / 4 = 3 := fun k hk _ _ => by rw [(b3 k hk).2]
      have hq := receive_yes w x.eb x.t.ph 1 x.s1 x.m1 _ _ o c a x.p0 x.p1 _ (segT T o n) h.m.en.b I.a9 (by omega) ha (by rw [if_neg (by decide)]; exact b1) b2 (fun e => by have := (b3 _ e).2; rw [h.m.en.c] at this; omega) hd (segT_isB hT o n) (by omega) (by rw [segT_len]; omega) (by omega) (by omega)
        (fun y hy => by have := (i1.win y (Fs_some.1 hy)).2.2; omega) (fun y z hy h1 h2 h3 => by
          rw [segT_len] at h2
          rw [segT_get (by omega), show o + (y - o) = y by omega]; exact (Fs_val hy).1)
        (fun k hk hne e => hda (fun e2 => hne (by subst e2; rfl)) (by rw [e, (b3 k hk).2]))
      rw [segT_len] at hq
      refine hq.mono ?_
      rintro e w' ⟨rfl, hQ⟩
      obtain ⟨g, u⟩ := put_conv i1 hQ
      have et : x.t.deliv 1 o n = { x.t with s1 := x.t.s1.put o n } := by unfold Wt.deliv; rw [if_pos ha, if_neg (by decide)]
      have R := h.m.rest 3 u hs hc
      rw [et]
      refine ⟨.inl rfl, paint w col 40, hc, h.step (x' := { x with t := { x.t with s1 := x.t.s1.put o n } }) ⟨R.bx (by omega), R.wr (by omega), ⟨h.m.en.b.upd u (fun e3 => by have := (b3 _ e3).2; rw [h.m.en.c] at this; omega), h.m.en.bb, (hc _ h.m.en.b.lt).trans h.m.en.c, fun hp => ?_, fun hp => ⟨b1, g, fun k hk => ⟨(b3 k hk).1, (hc k (StAt.lt b2 hk)).trans (b3 k hk).2⟩⟩⟩, R.gt (by omega), R.pn (by omega), R.fy (by omega), R.da (by omega), R.ou (by omega), R.bs, R.bk, R.cb⟩ u (part_ne (by decide) hs) hc, u.mono (fun k hk e => hs k e trivial hk)⟩
      obtain ⟨d1, d2, d3⟩ := h.m.en.e0 hp
      exact ⟨d1, StAt.upd d2 u (fun k hk e3 => by have h1 := (b3 _ e3).2; have h2 := (d3 _ hk).2; omega), fun k hk => ⟨(d3 k hk).1, (hc k (StAt.lt d2 hk)).trans (d3 k hk).2⟩⟩
  · have et : x.t.deliv pl o n = x.t := by unfold Wt.deliv; rw [if_neg ha]
    refine (receive_no w x.eb x.t.ph pl o n c a x.p0 x.p1 h.m.en.b I.a9 hpl (by rw [acc_eq]; simpa using ha)).mono ?_
    rintro e w' ⟨rfl, q⟩
    rw [et]
    exact ⟨.inr rfl, paint w col 40, hc, h.bel q hc, Upd.of_below q⟩
end
end Go.Proofs.YtkaaoomliepijaaGreat
namespace Go.Proofs.YtkaaoomliepijaaGreat
open Go.RowKit
set_option linter.unusedVariables false

section
variable {w w' : World} {B pb L : Nat} {col col' : Nat → Nat} {T T' : Nat → Int} {x x' : PoV} {S : Nat → Prop} {vs : List Value}
theorem Fs_new (o : Nat) (T : Nat → Int) : Fs (Sr.new o) T = fun _ => none := by
  funext a
  unfold Fs Sr.new
  rfl
theorem start_po (h : PoF w B col T x pb vs) (I : WtI L x.t) (hL : L ≤ 1900) (h0 : x.t.ph = 0) :
    Calls Tryz.prog 45 #[.pointer (some ⟨x.eb, 0, none⟩)] w fun e w' => e = .returned (.tuple #[.int .i64 x.t.rd, .int .i64 0]) ∧ ∃ x' col', x' = { x with p1 := spV (w.heap.size + 1), s1 := w.heap.size + 1, m1 := w.heap.size, t := x.t.start } ∧ PoF w' B col' T x' pb vs := by
  have a3 := I.a3; have a4 := I.a4; have a8 := I.a8
  have eR : x.t.R = x.t.s0 := by unfold Wt.R; rw [if_pos h0]
  have hr := I.r
  rw [eR] at hr
  obtain ⟨b1, b2, b3⟩ := h.m.en.e0 (by omega)
  have hb := h.m.en.b
  rw [b1, h0] at hb
  have hc := fun k (hk : k < w.heap.size) => paint_old (col := col) (c := 14) hk
  have hs : ∀ k, k = x.eb → True → k < w.heap.size → col k / 4 = 3 := fun k hk _ _ => by rw [hk, h.m.en.c]
  refine (start_mv w x.eb x.s0 x.m0 _ _ x.p1 _ hb b2 (by omega)).mono ?_
  rintro e w' ⟨rfl, g1, g2, u⟩
  rw [hr] at g1 ⊢
  have R := h.m.rest 3 u hs hc
  have hbs := h.m.bs
  refine ⟨rfl, _, paint w col 14, rfl, h.step ⟨R.bx (by omega), R.wr (by omega), ⟨?_, h.m.en.bb, (hc _ h.m.en.b.lt).trans h.m.en.c, fun hp => ⟨b1, StAt.upd b2 u (fun k hk e3 => by have h1 := (b3 _ hk).2; rw [e3, h.m.en.c] at h1; omega), fun k hk => ⟨(b3 k hk).1, (hc k (StAt.lt b2 hk)).trans (b3 k hk).2⟩⟩, fun hp => ⟨rfl, ?_, fun k hk => ?_⟩⟩, R.gt (by omega), R.pn (by omega), R.fy (by omega), R.da (by omega), R.ou (by omega), R.bs, R.bk, R.cb⟩ u (part_ne (by decide) hs) hc⟩
  · rw [b1]; exact g2
  · show StAt w' (w.heap.size + 1) w.heap.size x.t.rd x.t.rd (Fs (Sr.new x.t.rd) T)
    rw [Fs_new]
    exact g1
  · have : w.heap.size ≤ k := by
      rcases hk with hk | hk
      · have hk : k = w.heap.size + 1 := hk
        omega
      · have hk : k = w.heap.size := hk
        omega
    exact ⟨by omega, paint_new this⟩
/-- Between Hand and Finish. -/
structure PoH (w : World) (B : Nat) (col : Nat → Nat) (T : Nat → Int) (x : PoV) (pb : Nat) (vs : List Value) (p0 : Value) (s : Sr) : Prop where
  pX : PoX 3 w B col T x
  p : Blk w pb 33 vs
  c : col pb = 0
  bb : B ≤ pb
  b : Blk w x.eb 62 (mvC 1 p0 (spV x.s1))
  ebb : B ≤ x.eb
  ec : col x.eb = 12
  s : StT w x.s1 x.m1 s T
  sc : ∀ k, stS x.s1 x.m1 k → B ≤ k ∧ col k = 14
  q : x.p1 = spV x.s1
theorem hand_po (h : PoF w B col T x pb vs) (I : WtI L x.t) (hL : L ≤ 1900) (h1 : x.t.ph = 1) (hT : IsT T) :
    Calls Tryz.prog 46 #[.pointer (some ⟨x.eb, 0, none⟩)] w fun e w' => ∃ (v p0 : Value) (s : Sr) (col' : Nat → Nat), e = .returned (.tuple #[v, .int .i64 0]) ∧ SrI s x.t.tp ∧ s.off = x.t.s1.off ∧ PoH w' B col' T x pb vs p0 s := by
  have a3 := I.a3; have a4 := I.a4; have a8 := I.a8
  have eR : x.t.R = x.t.s1 := by unfold Wt.R; rw [if_neg (by omega)]
  have hr := I.r
  rw [eR] at hr
  obtain ⟨b1, b2, b3⟩ := h.m.en.e0 (by omega)
  obtain ⟨d1, d2, d3⟩ := h.m.en.e1 (by omega)
  obtain ⟨i0, i00⟩ := I.i0 (by omega)
  have i1 := I.i1 (by omega)
  have hb := h.m.en.b
  rw [b1, d1, h1] at hb
  have hc := fun k (hk : k < w.heap.size) => paint_old (col := col) (c := 40) hk
  have hs : ∀ k, (k = x.eb ∨ stS x.s0 x.m0 k ∨ stS x.s1 x.m1 k) → True → k < w.heap.size → col k / 4 = 3 := fun k hk _ _ => by
    rcases hk with hk | hk | hk
    · rw [hk, h.m.en.c]
    · rw [(b3 k hk).2]
    · rw [(d3 k hk).2]
  refine (hand_mv w x.eb x.s0 x.m0 x.s1 x.m1 x.t.tp x.t.s0 x.t.s1 T hb b2 d2 i0 i1 (by omega) hT (by omega) (by omega) (fun k hk => ⟨fun e => by have h1 := (b3 k hk).2; have h2 := (d3 k e).2; omega, fun e => by have h1 := (b3 k hk).2; rw [e, h.m.en.c] at h1; omega⟩) (fun k hk e => by have h1 := (d3 k hk).2; rw [e, h.m.en.c] at h1; omega)).mono ?_
  rintro e w' ⟨v, p0, s, rfl, hi, ho, g1, g2, u⟩
  have R := h.m.rest 3 u hs hc
  exact ⟨v, p0, s, paint w col 40, rfl, hi, ho, ⟨R, h.p.upd u (fun e => part_ne (by decide) hs _ e h.bb h.p.lt h.c), (hc _ h.p.lt).trans h.c, h.bb, g2, h.m.en.bb, (hc _ h.m.en.b.lt).trans h.m.en.c, g1, fun k hk => ⟨(d3 k hk).1, (hc k (StAt.lt d2 hk)).trans (d3 k hk).2⟩, d1⟩⟩
theorem fin_po {p0 : Value} {s : Sr} (h : PoH w B col T x pb vs p0 s) :
    Calls Tryz.prog 47 #[.pointer (some ⟨x.eb, 0, none⟩)] w fun e w' => e = .returned (.int .i64 0) ∧ PoF w' B col T { x with p0 := .pointer none, t := x.t.fin s } pb vs ∧ Upd (fun k => k = x.eb) w w' := by
  refine (finish_any w x.eb p0 _ h.b).mono ?_
  rintro e w' ⟨rfl, g, u⟩
  have hs : ∀ k, k = x.eb → True → k < w.heap.size → col k / 4 = 3 := fun k hk _ _ => by rw [hk, h.ec]
  have n : ∀ {i : Nat}, i ≠ 3 → ∀ k, k = x.eb → B ≤ k → k < w.heap.size → col k / 4 ≠ i := fun hi k a b c e => hi (by rw [← e]; exact hs k a trivial c)
  refine ⟨rfl, ⟨⟨box_keep u (fun _ _ => rfl) (h.pX.bx (by omega)) (n (by omega)), (h.pX.wr (by omega)).keep u (fun _ _ => rfl) (n (by omega)), ⟨?_, h.ebb, h.ec, fun hp => absurd hp (by show ¬ 2 ≤ 1; omega), fun hp => ⟨h.q, StAt.upd h.s u (fun k hk e3 => by have h1 := (h.sc k hk).2; rw [e3, h.ec] at h1; omega), h.sc⟩⟩, (h.pX.gt (by omega)).keep u (fun _ _ => rfl) (n (by omega)), (h.pX.pn (by omega)).keep u (fun _ _ => rfl) (n (by omega)), (h.pX.fy (by omega)).keep u (fun _ _ => rfl) (n (by omega)),
    (h.pX.da (by omega)).keep u (fun _ _ => rfl) (fun k a b c => by have := hs k a trivial c; omega), (h.pX.ou (by omega)).keep u (fun _ _ => rfl) (fun k a b c => by have := hs k a trivial c; omega), Nat.le_trans h.pX.bs u.size, Upd.below h.pX.bk u h.pX.bs (fun i hi => by rw [hi]; exact h.ebb), h.pX.cb⟩, h.p.upd u (fun e => by have h1 := h.c; rw [e, h.ec] at h1; omega), h.c, h.bb⟩, u⟩
  show Blk w' x.eb _ (mvC 2 (.pointer none) x.p1)
  rw [h.q]; exact g
/-- A list of data that is new. -/
structure OutN (w : World) (B : Nat) (col : Nat → Nat) (lv : Value) (rs : List RwB) : Prop where
  v : Vw RwB.val 22 w B lv rs
  c : ∀ k, lv.ownBlock = some k → col k = 36
  r : ∀ r ∈ rs, Sl (Value.int .u8) w r.a r.d ∧ r.d ≠ [] ∧ B ≤ r.blk ∧ col r.blk = 33
theorem OutN.upd {lv : Value} {rs : List RwB} (h : OutN w B col lv rs) (u : Upd S w w') (hs : ∀ k, S k → col k ≠ 36 ∧ col k ≠ 33) : OutN w' B col lv rs :=
  ⟨h.v.upd u (fun k hk e => (hs k e).1 (h.c k hk)), h.c, fun r hr => ⟨(h.r r hr).1.upd u (fun _ e => (hs _ e).2 (h.r r hr).2.2.2), (h.r r hr).2⟩⟩
theorem OutN.bel0 {lv : Value} {rs : List RwB} (h : OutN w B col lv rs) (q : Below w.heap.size w w') : OutN w' B col lv rs := h.upd (S := fun _ => False) (Upd.of_below q) (fun _ e => e.elim)
theorem push_po (h : PoF w B col T x pb vs) (hB : IsB x.gr) (hr : x.gr.length ≤ 10000) (hl0 : -1 ≤ x.gl) (hl1 : x.gl ≤ 16777215) (da : Option Addr) (dc : Nat) (data : List Int) (hd : Sl (Value.int .u8) w da data) (hdB : IsB data) (hdl : data.length ≤ 10000) (hda : data ≠ [] → col (da.getD default).block ≠ 16) (fin : GS) (hf : pushO x.gr data x.gl = fin) (hbad : fin.bad = false) :
    Calls Tryz.prog 31 #[.pointer (some ⟨x.gb, 0, none⟩), .slice da data.length dc] w fun e w' => ∃ (lv : Value) (rs : List RwB) (gv : Value) (col' : Nat → Nat), e = .returned (.tuple #[lv, .int .i64 0]) ∧ rs.map RwB.d = fin.out ∧ PoF w' B col' T { x with gv := gv, gr := fin.rest, gl := fin.last } pb vs ∧ OutN w' B col' lv rs := by
  refine (push_ok w B x.gb x.gv x.gr x.gl h.m.gt.h hB (by omega) hl0 hl1 da dc data hd hdB (by omega) (fun hn e => hda hn (h.m.gt.c _ e)) h.m.bs).mono ?_
  rw [hf]
  intro e w' hp
  obtain ⟨lv, rs, gv, B', rfl, h2, h3, h4, h5, h6, u⟩ := puPost_ok hp hbad
  have hs : ∀ k, gateS x.gb x.gv k → True → k < w.heap.size → col k / 4 = 4 := fun k hk _ _ => by rw [h.m.gt.c k hk]
  obtain ⟨col', hcd⟩ : ∃ col' : Nat → Nat, col' = fun k => if k < w.heap.size then col k else if k < B' then 16 else if lv.ownBlock = some k then 36 else 33 := ⟨_, rfl⟩
  have hc : ∀ k, k < w.heap.size → col' k = col k := fun k hk => by rw [hcd]; exact if_pos hk
  have R := h.m.rest 4 u hs hc
  have hbs := h.m.bs
  refine ⟨lv, rs, gv, col', rfl, h2, h.step (x' := { x with gv := gv, gr := fin.rest, gl := fin.last }) ⟨R.bx (by omega), R.wr (by omega), R.en (by omega), ⟨h5, fun k hk => ?_⟩, R.pn (by omega), R.fy (by omega), R.da (by omega), R.ou (by omega), R.bs, R.bk, R.cb⟩ u (part_ne (by decide) hs) hc, ⟨h4.vw.rebase fun g hg => by have := (h4.vw.lt hg).1; omega, fun k hk => ?_, fun r hr => ?_⟩⟩
  · rcases hk with rfl | hk
    · rw [hc _ h.m.gt.h.hb.lt]; exact h.m.gt.c _ (.inl rfl)
    · obtain ⟨c1, c2⟩ := h6 k hk
      rcases c2 with c2 | c2
      · rw [hc k (h.m.gt.h.lt (.inr c2)).2]; exact h.m.gt.c _ (.inr c2)
      · rw [hcd]; dsimp only; rw [if_neg (by omega), if_pos c1]
  · have := (h4.vw.lt hk).1
    rw [hcd]; dsimp only; rw [if_neg (by omega), if_neg (by omega), if_pos hk]
  · obtain ⟨c1, c2, c3⟩ := h4.rd r hr
    refine ⟨c1, c2, by omega, ?_⟩
    rw [hcd]; dsimp only; rw [if_neg (by omega), if_neg (by omega), if_neg (h4.nl r hr)]
/-- What came out is added to the list. -/
theorem out_po {lv ov : Value} {rs : List RwB} (h : PoF w B col T x pb vs) (N : OutN w B col lv rs) (hv : Vw RwB.val 22 w' B ov (x.ol ++ rs)) (u : Upd (fun k => x.ov.ownBlock = some k) w w') (ho : ov.ownBlock = x.ov.ownBlock ∨ ∀ g, ov.ownBlock = some g → w.heap.size ≤ g) :
    PoF w' B (paint w col 32) T { x with ov := ov, ol := x.ol ++ rs } pb vs := by
  have hs : ∀ k, x.ov.ownBlock = some k → True → k < w.heap.size → col k / 4 = 8 := fun k hk _ _ => by rw [h.m.ou.c k hk]
  have hc := fun k (hk : k < w.heap.size) => paint_old (col := col) (c := 32) hk
  have R := h.m.rest 8 u hs hc
  refine h.step (x' := { x with ov := ov, ol := x.ol ++ rs }) ⟨R.bx (by omega), R.wr (by omega), R.en (by omega), R.gt (by omega), R.pn (by omega), R.fy (by omega), R.da (by omega), ⟨hv, fun k hk => ?_, fun r hr => ?_⟩, R.bs, R.bk, R.cb⟩ u (part_ne (by decide) hs) hc
  · rcases ho with e | e
    · rw [e] at hk
      rw [hc k (h.m.ou.h.lt hk).2]; exact h.m.ou.c k hk
    · exact paint_new (e k hk)
  · rcases List.mem_append.1 hr with hr | hr
    · obtain ⟨c1, c2, c3, c4⟩ := h.m.ou.r r hr
      exact ⟨c1.upd u (fun _ e => by have := h.m.ou.c _ e; unfold RwB.blk at c4; omega), c2, c3, (hc _ (c1.old c2)).trans c4⟩
    · obtain ⟨c1, c2, c3, c4⟩ := N.r r hr
      exact ⟨c1.upd u (fun _ e => by have := h.m.ou.c _ e; unfold RwB.blk at c4; omega), c2, c3, (hc _ (c1.old c2)).trans c4⟩
theorem data_po {dv : Value} {r : RwB} (h : PoF w B col T x pb vs) (r1 : Sl (Value.int .u8) w r.a r.d) (r2 : r.d ≠ []) (r3 : B ≤ r.blk) (r4 : col r.blk = 29) (hv : Vw RwB.val 22 w' B dv (x.dl ++ [r])) (u : Upd (fun k => x.dv.ownBlock = some k) w w') (ho : dv.ownBlock = x.dv.ownBlock ∨ ∀ g, dv.ownBlock = some g → w.heap.size ≤ g) :
    PoF w' B (paint w col 28) T { x with dv := dv, dl := x.dl ++ [r] } pb vs := by
  have hs : ∀ k, x.dv.ownBlock = some k → True → k < w.heap.size → col k / 4 = 7 := fun k hk _ _ => by rw [h.m.da.c k hk]
  have hc := fun k (hk : k < w.heap.size) => paint_old (col := col) (c := 28) hk
  have R := h.m.rest 7 u hs hc
  refine h.step (x' := { x with dv := dv, dl := x.dl ++ [r] }) ⟨R.bx (by omega), R.wr (by omega), R.en (by omega), R.gt (by omega), R.pn (by omega), R.fy (by omega), ⟨hv, fun k hk => ?_, fun r' hr => ?_⟩, R.ou (by omega), R.bs, R.bk, R.cb⟩ u (part_ne (by decide) hs) hc
  · rcases ho with e | e
    · rw [e] at hk
      rw [hc k (h.m.da.h.lt hk).2]; exact h.m.da.c k hk
    · exact paint_new (e k hk)
  · rcases List.mem_append.1 hr with hr | hr
    · obtain ⟨c1, c2, c3, c4⟩ := h.m.da.r r' hr
      exact ⟨c1.upd u (fun _ e => by have := h.m.da.c _ e; unfold RwB.blk at c4; omega), c2, c3, (hc _ (c1.old c2)).trans c4⟩
    · obtain rfl := List.mem_singleton.1 hr
      exact ⟨r1.upd u (fun _ e => by have := h.m.da.c _ e; unfold RwB.blk at r4; omega), r2, r3, (hc _ (r1.old r2)).trans r4⟩
theorem fly_po {fv : Value} {f : Fl} (h : PoF w B col T x pb vs) (r1 : Rw (Value.int .u8) 5 w B (.slice f.a f.d.length f.c) f.d) (r2 : ∀ k, (Value.slice f.a f.d.length f.c).ownBlock = some k → col k = 25)
    (hv : w'.ownsRow B 38 2 fv (x.fl.length + 1) (flC flV x.fl ++ flV f)) (u : Upd (fun k => x.fv.ownBlock = some k) w w') (ho : fv.ownBlock = x.fv.ownBlock ∨ ∀ g, fv.ownBlock = some g → w.heap.size ≤ g) :
    PoF w' B (paint w col 24) T { x with fv := fv, fl := x.fl ++ [f] } pb vs := by
  have hs : ∀ k, x.fv.ownBlock = some k → True → k < w.heap.size → col k / 4 = 6 := fun k hk _ _ => by rw [h.m.fy.c k hk]
  have hc := fun k (hk : k < w.heap.size) => paint_old (col := col) (c := 24) hk
  have R := h.m.rest 6 u hs hc
  have eC : flC flV x.fl ++ flV f = flC flV (x.fl ++ [f]) := by rw [flC_append, flC_one]
  rw [eC] at hv
  refine h.step (x' := { x with fv := fv, fl := x.fl ++ [f] }) ⟨R.bx (by omega), R.wr (by omega), R.en (by omega), R.gt (by omega), R.pn (by omega), ⟨by simpa using hv, fun k hk => ?_, fun f' hf => ?_⟩, R.da (by omega), R.ou (by omega), R.bs, R.bk, R.cb⟩ u (part_ne (by decide) hs) hc
  · rcases ho with e | e
    · rw [e] at hk
      rw [hc k (own_lt h.m.fy.h hk).1]; exact h.m.fy.c k hk
    · exact paint_new (e k hk)
  · rcases List.mem_append.1 hf with hf | hf
    · obtain ⟨c1, c2⟩ := h.m.fy.r f' hf
      exact ⟨c1.upd u (fun k hk e => by have h1 := h.m.fy.c _ e; have h2 := c2 k hk; omega), fun k hk => (hc k (c1.lt hk).2).trans (c2 k hk)⟩
    · obtain rfl := List.mem_singleton.1 hf
      exact ⟨r1.upd u (fun k hk e => by have h1 := h.m.fy.c _ e; have h2 := r2 k hk; omega), fun k hk => (hc k (r1.lt hk).2).trans (r2 k hk)⟩
theorem flv_shape (h : PoF w B col T x pb vs) : ∃ a c, x.fv = .slice a x.fl.length c := by
  obtain ⟨a, c, e, _⟩ := own_shape h.m.fy.h
  exact ⟨a, c, e⟩
theorem del_po (h : PoF w B col T x pb vs) (k : Nat) (hk : k < x.fl.length) :
    Calls Tryz.prog 21 #[x.fv, .int .i64 k, .int .i64 ((k : Int) + 1)] w fun e w' => ∃ fv, e = .returned fv ∧ PoF w' B col T { x with fv := fv, fl := x.fl.eraseIdx k } pb vs ∧ Upd (fun k => x.fv.ownBlock = some k) w w' := by
  obtain ⟨a, c, ef⟩ := flv_shape h
  have ho := h.m.fy.h
  rw [ef] at ho
  obtain ⟨g, sp, rfl, hg, hb, hnc, hcm, _, _⟩ := ownC_blk flV_len (by decide) ho (by intro e; rw [e] at hk; simp at hk)
  have hsz : c * 2 = x.fl.length * 2 + sp.length := by
    obtain ⟨h1, h2⟩ := ho
    rcases h2 with ⟨_, h0⟩ | ⟨g', cap, cur, hv, _, hh, hn, _, hcs, htk⟩
    · omega
    · simp only [Value.slice.injEq, Option.some.injEq, Addr.mk.injEq] at hv
      obtain ⟨⟨rfl, -, -⟩, -, rfl⟩ := hv
      have hb' := hb
      unfold Blk at hb'
      rw [hh] at hb'
      injection hb' with hb'
      injection hb' with hb' _ _
      rw [hb'] at hcs
      simp [flC_len flV_len] at hcs
      omega
  have u0 : ∀ k, k = g → x.fv.ownBlock = some k := fun k hk => by rw [ef, hk]; rfl
  rw [ef]
  refine (delf_blk w g c k x.fl sp hk hb hsz hcm).mono ?_
  rintro e w' ⟨rfl, ⟨sp', hb', hc'⟩, u⟩
  have u' : Upd (fun k => x.fv.ownBlock = some k) w w' := u.mono (fun k _ hk => u0 k hk)
  have hs : ∀ k, x.fv.ownBlock = some k → True → k < w.heap.size → col k / 4 = 6 := fun k hk _ _ => by rw [h.m.fy.c k hk]
  have R := h.m.rest 6 (col' := col) u' hs (fun _ _ => rfl)
  have hel : (x.fl.eraseIdx k).length = x.fl.length - 1 := List.length_eraseIdx_of_lt hk
  refine ⟨_, rfl, h.step (x' := { x with fv := .slice (some ⟨g, 0, none⟩) (x.fl.length - 1) c, fl := x.fl.eraseIdx k }) ⟨R.bx (by omega), R.wr (by omega), R.en (by omega), R.gt (by omega), R.pn (by omega), ⟨?_, fun j hj => ?_, fun f hf => ?_⟩, R.da (by omega), R.ou (by omega), R.bs, R.bk, R.cb⟩ u' (part_ne (by decide) hs) (fun _ _ => rfl), by rw [ef] at u'; exact u'⟩
  · dsimp only
    rw [hel]
    refine ⟨by rw [flC_len flV_len, hel], .inr ⟨g, c, _, rfl, hg, hb', by omega, hcm, ?_, ?_⟩⟩
    · simp [flC_len flV_len, hel]; omega
    · simp [flC_len flV_len, hel]
  · have : j = g := by simpa [Value.ownBlock] using hj.symm
    exact h.m.fy.c j (u0 j this)
  · obtain ⟨c1, c2⟩ := h.m.fy.r f ((List.eraseIdx_sublist _ _).subset hf)
    exact ⟨c1.upd u' (fun k hk e => by have h1 := h.m.fy.c _ e; have h2 := c2 k hk; omega), c2⟩
theorem nofly_po (h : PoF w B col T x pb vs) : PoF w B col T { x with fv := .slice none 0 0, fl := [] } pb vs :=
  ⟨⟨h.m.bx, h.m.wr, h.m.en, h.m.gt, h.m.pn, ⟨World.ownsRow_nil _ _ _ _, (fun k hk => by cases hk), fun f hf => by cases hf⟩, h.m.da, h.m.ou, h.m.bs, h.m.bk, h.m.cb⟩, h.p, h.c, h.bb⟩
theorem cut_po {a : Option Addr} {n c : Nat} (h : PoF w B col T x pb vs) (e : x.pv = .slice a n c) (k : Nat) (hk : k ≤ x.pl.length) : PoF w B col T { x with pv := cutV a n c k, pl := x.pl.drop k } pb vs := by
  have hv := h.m.pn.h
  rw [e] at hv
  have hn : n = x.pl.length := by
    obtain ⟨a', c', e'⟩ := hv.shape
    injection e' with _ e' _
  refine ⟨⟨h.m.bx, h.m.wr, h.m.en, h.m.gt, ⟨hv.drop hk, fun j hj => h.m.pn.c j ?_⟩, h.m.fy, h.m.da, h.m.ou, h.m.bs, h.m.bk, h.m.cb⟩, h.p, h.c, h.bb⟩
  rw [e]
  refine cutV_block (fun ea => ?_) hj
  subst ea
  rcases hv with ⟨e1, e2⟩ | ⟨g, o, c', e1, _⟩
  · injection e1 with _ e3 e4
    rw [e2] at hk
    simp at hk
    exact ⟨e4, hk⟩
  · injection e1 with e1; cases e1
theorem StT.grow {sb mb tp : Nat} {s : Sr} (h : StT w sb mb s T) (hi : SrI s tp) (hT : ∀ y, y < tp → T y = T' y) : StT w sb mb s T' := by
  have : Fs s T = Fs s T' := by
    funext y
    unfold Fs
    by_cases c : s.P y = true
    · rw [if_pos c, if_pos c, hT y (hi.win y c).2.2]
    · rw [if_neg c, if_neg c]
  unfold StT at h ⊢
  rw [← this]
  exact h
theorem grow_po (h : PoF w B col T x pb vs) (I : WtI L x.t) (hT : ∀ y, y < x.t.tp → T y = T' y) : PoF w B col T' x pb vs :=
  ⟨⟨h.m.bx, h.m.wr, ⟨h.m.en.b, h.m.en.bb, h.m.en.c, fun hp => ⟨(h.m.en.e0 hp).1, StT.grow (h.m.en.e0 hp).2.1 (I.i0 hp).1 hT, (h.m.en.e0 hp).2.2⟩, fun hp => ⟨(h.m.en.e1 hp).1, StT.grow (h.m.en.e1 hp).2.1 (I.i1 hp) hT, (h.m.en.e1 hp).2.2⟩⟩, h.m.gt, h.m.pn, h.m.fy, h.m.da, h.m.ou, h.m.bs, h.m.bk, h.m.cb⟩, h.p, h.c, h.bb⟩
end
end Go.Proofs.YtkaaoomliepijaaGreat
