/-
  play: the calls, the check closure, what the loops keep.
  play: what each kind of call does to what holds.
-/
import Derived.Test.YtkooihniieepcaaSwV
import Derived.Test.YtkooihniieepcaaSwW
import Derived.Test.YtkooihniieepcaaSwZ
namespace Go.Proofs.Ytkooihniieepcaa
open Go.RowKit
set_option linter.unusedVariables false

/-- A call of the law: Kind, Port, Class, To, Limit. -/
structure Ac where
  kind : Int
  port : Int
  cls : Int
  dst : Int
  lim : Int
def acC (x : Ac) : List Value := [.int .i64 x.kind, .int .i64 x.port, .int .i64 x.cls, .int .i64 x.dst, .int .i64 x.lim]
def AcS (w : World) (a : Option Addr) (l : List Ac) : Prop := ∀ (j : Nat) x, l[j]? = some x → okAd a = true ∧ ∀ (k : Nat) v, (acC x)[k]? = some v → w.cell? (adr a (j * 5 + k)) = some v
/-- A check closure: what it keeps (CI, which reads the blocks of Kp), what it changes (N), and that it returns true behind every Step. -/
structure Chk (P K : Nat) (zs : List Int) (rt : Nat → Fr → Int) (fid : Nat) (caps : Array Value) (N Kp : Nat → Prop) (CI : Nat → Md → World → Prop) : Prop where
  mono : ∀ i M w w' (S : Nat → Prop), CI i M w → Upd S w w' → (∀ k, Kp k → ¬ S k) → CI i M w'
  lt : ∀ i M w k, CI i M w → Kp k → k < w.heap.size
  sub : ∀ k, N k → Kp k
  next : ∀ i M w, CI i M w → CI (i + 1) M w
  arr : ∀ i M w p c f x, CI i M w → f.id = ((i : Nat) : Int) → p < P → c < K → CI (i + 1) (mdQ M p c (M.q p c ++ [f]) x) w
  rai : ∀ i M w t, CI i M w → CI (i + 1) { M with tk := t } w
  call : ∀ (i : Nat) (M : Md) (w : World) (base : Nat) (L : Loc) (s : SS) (B : Nat) (T : Tbs) (ar gn gn0 B2 : Nat) (x0 : Nat → Nat → Nat → Int) (mvv frv : Value), CI i M w → MdOk P K M → StepIs P K rt M s → PlI P K zs i ar gn0 M x0 → PlI P K zs (i + 1) ar gn s.M T.x →
    CliAt w base P K L s.M B (plC K T) → (∀ t < 3, T.n t = P) → w.ownsRow B2 34 3 mvv s.mv.length (flC mvC s.mv) → w.ownsRow B2 39 6 frv s.fr.length (flC frC s.fr) →
    (∀ k, Kp k → k < B ∧ k < base ∧ k < B2) → s.mv.length ≤ 5000 → i < 60 →
    Calls Try.prog fid (#[.pointer (some ⟨L.bb, 0, none⟩), mvv, frv, T.v 1] ++ caps) w fun e w' => e = .returned (.bool true) ∧ CI (i + 1) s.M w' ∧ Upd N w w'
  enter : ∀ args w, (callFunc fid args).run Try.prog w = .ok (.enter fid args) w
/-- Behind k rounds of the first loop. -/
def PtRel (W : World) (base P K bb : Nat) (M : Md) (v1 v2 v3 iv : Value) (w : World) : Prop :=
  ∃ k ≤ P, iv = .int .i64 k ∧ ∃ L T, CliAt w base P K L M W.heap.size (plC K T) ∧ L.bb = bb ∧ (∀ t < 3, T.n t = k ∧ T.mw t = none ∧ T.bx t = none) ∧ (∀ t i c, T.x t i c = 0) ∧ v1 = T.v 0 ∧ v2 = T.v 1 ∧ v3 = T.v 2 ∧ Below W.heap.size W w
def tb0 : Tbs := ⟨fun _ => .slice none 0 0, fun _ => 0, fun _ _ => 0, fun _ _ _ => 0, fun _ => none, fun _ => none⟩
theorem pl_start {w : World} {base P K B : Nat} {L : Loc} {M : Md} (hx : BoxAt w base P K L M) : CliAt w base P K L M B (plC K tb0) := by
  have f : ∀ r x k, plC K tb0 r = some x → x.foot = some k → False := by
    intro r x k h1 h2
    cases r with
    | row t =>
      simp only [plC] at h1
      split at h1
      · cases h1; cases h2
      · cases h1
    | inn t i => simp [plC, tb0] at h1
    | mk t => simp [plC, tb0] at h1
    | bx t => simp [plC, tb0] at h1
  refine ⟨hx, ⟨fun r x hr => ?_, fun r r' x x' k h1 h2 h3 h4 => (f r x k h1 h3).elim⟩, fun k hk hf => ?_⟩
  · cases r with
    | row t =>
      simp only [plC] at hr
      split at hr
      · cases hr; exact World.ownsRow_nil _ _ _ _
      · cases hr
    | inn t i => simp [plC, tb0] at hr
    | mk t => simp [plC, tb0] at hr
    | bx t => simp [plC, tb0] at hr
  · obtain ⟨r, x, h1, h2⟩ := hf
    exact f r x k h1 h2
/-- In the midst of the calls: what holds behind i of them. -/
def PlSt (W : World) (base P K bb : Nat) (zs : List Int) (N : Nat → Prop) (CI : Nat → Md → World → Prop) (v0 v1 v2 : Value) (i ar gn : Nat) (w : World) : Prop :=
  ∃ L M T, PlI P K zs i ar gn M T.x ∧ CliAt w base P K L M W.heap.size (plC K T) ∧ L.bb = bb ∧ (∀ t < 3, T.n t = P) ∧ (T.v 0 = v0 ∧ T.v 1 = v1 ∧ T.v 2 = v2) ∧ CI i M w ∧ Upd N W w
def PlRel (W : World) (base P K bb : Nat) (zs : List Int) (N : Nat → Prop) (CI : Nat → Md → World → Prop) (v0 v1 v2 : Value) (n : Nat) (va vg iv : Value) (w : World) : Prop :=
  ∃ i ≤ n, iv = .int .i64 i ∧ ∃ ar gn : Nat, va = .int .i64 ar ∧ vg = .int .i64 gn ∧ PlSt W base P K bb zs N CI v0 v1 v2 i ar gn w
theorem and_bd (x : Int) (m : Nat) (hm : m ≤ 1000) : 0 ≤ bits .and .i64 x m ∧ bits .and .i64 x m ≤ m := by
  have h1 : (BitVec.ofInt 64 x &&& BitVec.ofInt 64 (m : Int)).toNat ≤ m := by
    rw [BitVec.toNat_and]
    refine Nat.le_trans Nat.and_le_right ?_
    rw [BitVec.toNat_ofInt]
    have e : ((m : Int) % ((2 ^ 64 : Nat) : Int)) = (m : Int) := Int.emod_eq_of_lt (by omega) (by omega)
    rw [e]
    simp
  have e : bits .and .i64 x m = IntKind.i64.wrap ((BitVec.ofInt 64 x &&& BitVec.ofInt 64 (m : Int)).toNat : Int) := rfl
  rw [e, IntWalk.i64_in _ (by omega)]
  omega
theorem mod_at (x : Int) {n : Nat} (hn : 0 < n) : ∃ p : Nat, (bits .and .i64 x 7).tmod (n : Int) = (p : Int) ∧ p < n := by
  obtain ⟨h1, h2⟩ := and_bd x 7 (by decide)
  have h1 : 0 ≤ bits .and .i64 x 7 := h1
  refine ⟨((bits .and .i64 x 7).tmod (n : Int)).toNat, ?_, ?_⟩
  · have := Int.tmod_nonneg (n : Int) h1
    omega
  · have := Int.tmod_lt_of_pos (bits .and .i64 x 7) (show (0 : Int) < n by omega)
    omega
end Go.Proofs.Ytkooihniieepcaa
namespace Go.Proofs.Ytkooihniieepcaa
open Go.RowKit
set_option linter.unusedVariables false
section
variable {W w w' w1 : World} {P K bb : Nat} {zs : List Int} {rt : Nat → Fr → Int} {fid : Nat} {caps : Array Value} {N Kp : Nat → Prop} {CI : Nat → Md → World → Prop} {v0 v1 v2 : Value} {i ar gn : Nat} {L L' : Loc} {M M' : Md} {T : Tbs}
theorem upd_hi {S : Nat → Prop} {B : Nat} (hU : Upd N W w) (u : Upd S w w') (hS : ∀ k, S k → W.heap.size ≤ k) : Upd N W w' :=
  Upd.then hU u fun k hk hs => absurd (hS k hs) (by omega)
theorem PlSt.below (hC : Chk P K zs rt fid caps N Kp CI) (h : PlSt W W.heap.size P K bb zs N CI v0 v1 v2 i ar gn w) (q : Below w.heap.size w w') : PlSt W W.heap.size P K bb zs N CI v0 v1 v2 i ar gn w' := by
  obtain ⟨L, M, T, h1, h2, h3, h4, h5, h6, h7⟩ := h
  exact ⟨L, M, T, h1, h2.below q, h3, h4, h5, hC.mono i M w w' (fun _ => False) h6 (Upd.of_below q) (fun _ _ => id), Upd.then h7 (Upd.of_below (S := fun _ => False) q) fun _ _ h => h.elim⟩
theorem PlSt.next (hC : Chk P K zs rt fid caps N Kp CI) (h : PlSt W W.heap.size P K bb zs N CI v0 v1 v2 i ar gn w) : PlSt W W.heap.size P K bb zs N CI v0 v1 v2 (i + 1) ar gn w := by
  obtain ⟨L, M, T, h1, h2, h3, h4, h5, h6, h7⟩ := h
  exact ⟨L, M, T, h1.next, h2, h3, h4, h5, hC.next i M w h6, h7⟩
/-- The box has turned: the check's memory and what is older. -/
theorem pl_bx (hC : Chk P K zs rt fid caps N Kp CI) (hN : ∀ j, Kp j → j < W.heap.size) (h2 : CliAt w W.heap.size P K L M W.heap.size (plC K T)) (h6 : CI i M w) (h7 : Upd N W w) (q : BxPost w W.heap.size P K L M L' M' w1) : CI i M w1 ∧ Upd N W w1 :=
  ⟨hC.mono i M w w1 _ h6 q.2.1 fun k hk hs => by have := (h2.bx.lt hs).1; have := hN k hk; omega, Upd.then h7 q.2.1 fun k hk hs => absurd (h2.bx.lt hs).1 (by omega)⟩
/-- A table's cell is stored. -/
theorem pl_st (hC : Chk P K zs rt fid caps N Kp CI) (hN : ∀ j, Kp j → j < W.heap.size) (h2 : CliAt w W.heap.size P K L M W.heap.size (plC K T)) {Mc : Md} (h6 : CI i Mc w) (h7 : Upd N W w) {t p c : Nat} (ht : t < 3) (hp : p < T.n t) (y : Value) : CI i Mc (w.setCell ⟨T.b t p, c, none⟩ y) ∧ Upd N W (w.setCell ⟨T.b t p, c, none⟩ y) := by
  have hr : plC K T (.inn t p) = some (.blk (T.b t p) 3 ((List.range K).map (tbX T t p))) := if_pos ⟨ht, hp⟩
  have hb := (h2.st.at_ _ _ hr).2
  have u := (Upd.refl (fun j => j = T.b t p) w).setCell ⟨T.b t p, c, none⟩ y fun _ => rfl
  exact ⟨hC.mono i Mc w _ _ h6 u fun k hk hs => by have := hN k hk; omega, Upd.then h7 u fun k hk hs => absurd hb (by omega)⟩
theorem pl_arr (hC : Chk P K zs rt fid caps N Kp CI) (hN : ∀ j, Kp j → j < W.heap.size) (h1 : PlI P K zs i ar gn M T.x) (h2 : CliAt w W.heap.size P K L M W.heap.size (plC K T)) (h3 : L.bb = bb) (h4 : ∀ t < 3, T.n t = P) (h5 : T.v 0 = v0 ∧ T.v 1 = v1 ∧ T.v 2 = v2) (h6 : CI i M w) (h7 : Upd N W w)
    {p c : Nat} (hp : p < P) (hc : c < K) {f : Fr} (hid : f.id = (i : Int)) (hcl : f.cls = (c : Int)) (hr : (M.gv p c).b < (M.gv p c).a + (M.gv p c).c) (q : BxPost w W.heap.size P K L M L' (mdQ M p c (M.q p c ++ [f]) (recX (M.gv p c))) w1) (hL : L'.bb = L.bb) :
    PlSt W W.heap.size P K bb zs N CI v0 v1 v2 (i + 1) (ar + 1) gn (w1.setCell ⟨T.b 2 p, c, none⟩ (.int .i64 (T.x 2 p c + 1))) := by
  obtain ⟨c1, u1⟩ := pl_bx hC hN h2 h6 h7 q
  have c2 := h2.box q
  obtain ⟨c3, u3⟩ := pl_st (t := 2) (c := c) hC hN c2 (hC.arr i M w1 p c f (recX (M.gv p c)) c1 hid hp hc) u1 (by omega) (show p < T.n 2 by rw [h4 2 (by omega)]; exact hp) (.int .i64 (T.x 2 p c + 1))
  exact ⟨L', _, tbSet T 2 p c (T.x 2 p c + 1), h1.arr hp hc hid hcl hr, tb_set c2 (by omega) (by rw [h4 2 (by omega)]; exact hp) hc _, hL.trans h3, h4, h5, c3, u3⟩
theorem pl_rai (hC : Chk P K zs rt fid caps N Kp CI) (hN : ∀ j, Kp j → j < W.heap.size) (h1 : PlI P K zs i ar gn M T.x) (h2 : CliAt w W.heap.size P K L M W.heap.size (plC K T)) (h3 : L.bb = bb) (h4 : ∀ t < 3, T.n t = P) (h5 : T.v 0 = v0 ∧ T.v 1 = v1 ∧ T.v 2 = v2) (h6 : CI i M w) (h7 : Upd N W w)
    {p c : Nat} (hp : p < P) (hc : c < K) {n : Int} (hn0 : 0 ≤ n) (hn3 : n ≤ 3) (hi : i ≤ 60) :
    CliAt ((w.setCell ⟨T.b 0 p, c, none⟩ (.int .i64 (T.x 0 p c + n))).setCell ⟨T.b 1 p, c, none⟩ (.int .i64 (T.x 1 p c + n))) W.heap.size P K L M W.heap.size (plC K (tbSet (tbSet T 0 p c (T.x 0 p c + n)) 1 p c (T.x 1 p c + n))) ∧
    raiE (M.tk p c) (T.x 0 p c + n) = 0 ∧
    ∀ w2, BxPost ((w.setCell ⟨T.b 0 p, c, none⟩ (.int .i64 (T.x 0 p c + n))).setCell ⟨T.b 1 p, c, none⟩ (.int .i64 (T.x 1 p c + n))) W.heap.size P K L M L { M with tk := upd2 M.tk p c (raiX (M.tk p c) (T.x 0 p c + n)) } w2 → PlSt W W.heap.size P K bb zs N CI v0 v1 v2 (i + 1) ar gn w2 := by
  have hp0 : p < T.n 0 := by rw [h4 0 (by omega)]; exact hp
  have hp1 : p < T.n 1 := by rw [h4 1 (by omega)]; exact hp
  have c2 := tb_set h2 (t := 0) (by omega) hp0 hc (T.x 0 p c + n)
  obtain ⟨a1, a2⟩ := pl_st (t := 0) (c := c) hC hN h2 h6 h7 (by omega) hp0 (.int .i64 (T.x 0 p c + n))
  have c3 := tb_set c2 (t := 1) (by omega) (show p < (tbSet T 0 p c (T.x 0 p c + n)).n 1 from hp1) hc (T.x 1 p c + n)
  obtain ⟨b1, b2⟩ := pl_st (t := 1) (c := c) hC hN c2 a1 a2 (by omega) (show p < (tbSet T 0 p c (T.x 0 p c + n)).n 1 from hp1) (.int .i64 (T.x 1 p c + n))
  obtain ⟨e1, e2⟩ := h1.rai hp hc hn0 hn3 (h2.bx.ok.tk p hp c hc) hi
  refine ⟨c3, e1, fun w2 q => ?_⟩
  obtain ⟨d1, d2⟩ := pl_bx hC hN c3 b1 b2 q
  exact ⟨L, _, _, e2, c3.box q, h3, h4, h5, hC.rai i M w2 _ d1, d2⟩
/-- While the moves are counted off: k of them have been. -/
def MvSt (W : World) (P K : Nat) (zs : List Int) (N : Nat → Prop) (CI : Nat → Md → World → Prop) (L : Loc) (M : Md) (i : Nat) (T0 : Tbs) (s : SS) (B2 : Nat) (mvv frv : Value) (k : Nat) (w : World) : Prop :=
  ∃ x : Nat → Nat → Nat → Int, CliAt w W.heap.size P K L s.M W.heap.size (plC K { T0 with x := x }) ∧ (∀ p < P, ∀ c < K, x 0 p c = T0.x 0 p c ∧ x 2 p c = T0.x 2 p c ∧ x 1 p c = T0.x 1 p c - (cntO p c (s.mv.take k) : Nat)) ∧ CI i M w ∧ Upd N W w ∧
    w.ownsRow B2 34 3 mvv s.mv.length (flC mvC s.mv) ∧ w.ownsRow B2 39 6 frv s.fr.length (flC frC s.fr) ∧ (∀ b, mvv.ownBlock = some b ∨ frv.ownBlock = some b → ¬ ftC (plC K T0) b)
theorem take_snoc' {s : List Mv} {k : Nat} {m : Mv} (h : s[k]? = some m) : s.take (k + 1) = s.take k ++ [m] := by rw [List.take_add_one, h]; rfl
/-- A move to no output. -/
theorem MvSt.drop {T0 : Tbs} {s : SS} {B2 k : Nat} {mvv frv : Value} {m : Mv} (h : MvSt W P K zs N CI L M i T0 s B2 mvv frv k w) (hm : s.mv[k]? = some m) (ho : m.o = -1) : MvSt W P K zs N CI L M i T0 s B2 mvv frv (k + 1) w := by
  obtain ⟨x, h1, h2, h3⟩ := h
  refine ⟨x, h1, fun p hp c hc => ?_, h3⟩
  obtain ⟨g1, g2, g3⟩ := h2 p hp c hc
  rw [take_snoc' hm, cntO_snoc, if_neg (by omega)]
  exact ⟨g1, g2, g3⟩
theorem MvSt.below {T0 : Tbs} {s : SS} {B2 k : Nat} {mvv frv : Value} (hC : Chk P K zs rt fid caps N Kp CI) (h : MvSt W P K zs N CI L M i T0 s B2 mvv frv k w) (q : Below w.heap.size w w') : MvSt W P K zs N CI L M i T0 s B2 mvv frv k w' := by
  obtain ⟨x, h1, h2, h3, h4, h5, h6, h7⟩ := h
  exact ⟨x, h1.below q, h2, hC.mono i M w w' (fun _ => False) h3 (Upd.of_below q) (fun _ _ => id), Upd.then h4 (Upd.of_below (S := fun _ => False) q) fun _ _ h => h.elim, own_upd h5 (Upd.of_below (S := fun _ => False) q) (fun _ _ => id), own_upd h6 (Upd.of_below (S := fun _ => False) q) (fun _ _ => id), h7⟩
theorem ft_x {T0 : Tbs} {x : Nat → Nat → Nat → Int} {b : Nat} (h : ftC (plC K { T0 with x := x }) b) : ftC (plC K T0) b := by
  obtain ⟨r, p, h1, h2⟩ := h
  cases r with
  | inn t j =>
    simp only [plC] at h1
    split at h1
    · rename_i hc
      cases h1
      exact ⟨.inn t j, _, if_pos hc, h2⟩
    · cases h1
  | row t => exact ⟨.row t, p, h1, h2⟩
  | mk t => exact ⟨.mk t, p, h1, h2⟩
  | bx t => exact ⟨.bx t, p, h1, h2⟩
/-- A move to output o. -/
theorem MvSt.send {T0 : Tbs} {s : SS} {B2 k : Nat} {mvv frv : Value} {m : Mv} {o c : Nat} (hC : Chk P K zs rt fid caps N Kp CI) (hN : ∀ j, Kp j → j < W.heap.size) (h4 : ∀ t < 3, T0.n t = P) (ho : o < P) (hc : c < K) (eo : m.o = (o : Int)) (ec : m.c = (c : Int)) (h : MvSt W P K zs N CI L M i T0 s B2 mvv frv k w) (hm : s.mv[k]? = some m) :
    ∃ y : Int, w.cell? ⟨T0.b 1 o, c, none⟩ = some (.int .i64 y) ∧ w.frozen? ⟨T0.b 1 o, c, none⟩ = false ∧ (∃ a n, T0.v 1 = .slice (some ⟨a, 0, none⟩) P n ∧ w.cell? ⟨a, o, none⟩ = some (.slice (some ⟨T0.b 1 o, 0, none⟩) K K)) ∧ cntO o c (s.mv.take k) ≤ s.mv.length ∧ y = T0.x 1 o c - (cntO o c (s.mv.take k) : Nat) ∧
      MvSt W P K zs N CI L M i T0 s B2 mvv frv (k + 1) (w.setCell ⟨T0.b 1 o, c, none⟩ (.int .i64 (y - 1))) := by
  obtain ⟨x, h1, h2, h3, h5, h6, h7, h8⟩ := h
  have ho1 : o < ({ T0 with x := x } : Tbs).n 1 := by show o < T0.n 1; rw [h4 1 (by omega)]; exact ho
  obtain ⟨a, n, e1, e2, e3, e4⟩ := tb_way h1 (t := 1) (by omega) ho1 hc
  have hx := (h2 o ho c hc).2.2
  have e1 : T0.v 1 = .slice (some ⟨a, 0, none⟩) (T0.n 1) n := e1
  rw [h4 1 (by omega)] at e1
  have hcl : cntO o c (s.mv.take k) ≤ s.mv.length := by
    have : ∀ l : List Mv, cntO o c l ≤ l.length := fun l => by
      induction l with
      | nil => exact Nat.le_refl _
      | cons m l ih =>
        show _ + cntO o c l ≤ l.length + 1
        split <;> omega
    refine Nat.le_trans (this _) ?_
    rw [List.length_take]
    omega
  refine ⟨x 1 o c, e3, e4, ⟨a, n, e1, e2⟩, hcl, hx, ?_⟩
  have hr : plC K ({ T0 with x := x } : Tbs) (.inn 1 o) = some (.blk (T0.b 1 o) 3 ((List.range K).map (tbX ({ T0 with x := x } : Tbs) 1 o))) := if_pos ⟨by omega, ho1⟩
  have hft : ftC (plC K T0) (T0.b 1 o) := ft_x ⟨_, _, hr, rfl⟩
  obtain ⟨g1, g2⟩ := pl_st (t := 1) (p := o) (c := c) hC hN (T := { T0 with x := x }) h1 h3 h5 (by omega) ho1 (.int .i64 (x 1 o c - 1))
  have u := (Upd.refl (fun j => j = T0.b 1 o) w).setCell ⟨T0.b 1 o, c, none⟩ (.int .i64 (x 1 o c - 1)) fun _ => rfl
  refine ⟨upd3 x 1 o c (x 1 o c - 1), tb_set h1 (by omega) ho1 hc _, fun p hp c' hc' => ?_, g1, g2, own_upd h6 u (fun b hb e => h8 b (.inl hb) (by rw [e]; exact hft)), own_upd h7 u (fun b hb e => h8 b (.inr hb) (by rw [e]; exact hft)), h8⟩
  obtain ⟨g3, g4, g5⟩ := h2 p hp c' hc'
  rw [take_snoc' hm, cntO_snoc]
  refine ⟨by rw [upd3_ne _ _ (by omega)]; exact g3, by rw [upd3_ne _ _ (by omega)]; exact g4, ?_⟩
  by_cases e : p = o ∧ c' = c
  · rw [e.1, e.2, upd3_same, if_pos ⟨eo, ec⟩, hx]
    omega
  · rw [upd3_ne _ _ (fun y => e ⟨y.2.1, y.2.2⟩), if_neg (fun y => e ⟨by have := y.1; omega, by have := y.2; omega⟩)]
    exact g5
theorem step_len {rt : Nat → Fr → Int} {s : SS} (hP : P ≤ 8) (hK : K ≤ 8) (h64 : ∀ p < P, ∀ c < K, (M.q p c).length ≤ 64) (hs : StepIs P K rt M s) : s.mv.length ≤ 5000 := by
  obtain ⟨b, s1, h1, hm, rfl⟩ := hs
  obtain ⟨a1, a2⟩ := dPrt_len (fun p c => drN P rt p (M.q p c)) K hK ⟨M, [], []⟩ P fun p hp c hc => Nat.le_trans (drN_le _ _ _ _) (h64 p hp c hc)
  obtain ⟨b1, b2⟩ := sAll_len K (fun p c => ouN P rt p (M.q p c)) b.m ⟨{ s1.M with g := b.g, a := b.a }, s1.mv, s1.fr⟩ P
  simp only [← h1, List.length_nil] at a1 a2
  refine Nat.le_trans b1 ?_
  show s1.mv.length + P ≤ 5000
  omega
theorem CliAt.upd {ρ : Type} {base B : Nat} {C : ρ → Option Pc} {S : Nat → Prop} (h : CliAt w base P K L M B C) (u : Upd S w w') (h1 : ∀ k, S k → k < base ∧ k < B) : CliAt w' base P K L M B C :=
  ⟨h.bx.upd u fun k hk hs => by have := (h.bx.lt hk).1; have := h1 k hs; omega, h.st.upd u fun k hk hs => by have := (h.st.lt hk).1; have := h1 k hs; omega, h.ap⟩
theorem MvSt.start {w4 : World} {s : SS} {mvv frv : Value} {l' : Nat} (h4 : CliAt w4 W.heap.size P K L M W.heap.size (plC K T)) (h5 : CliAt w W.heap.size P K L' s.M W.heap.size (plC K T)) (hc : CI i M w) (hU : Upd N W w)
    (h6 : w.ownsRow w4.heap.size 34 3 mvv s.mv.length (flC mvC s.mv)) (h7 : w.ownsRow w4.heap.size 39 6 frv s.fr.length (flC frC s.fr)) :
    MvSt W P K zs N CI L' M i T s w4.heap.size mvv frv 0 w :=
  ⟨T.x, h5, fun p hp c hc => ⟨rfl, rfl, by show _ = _ - ((0 : Nat) : Int); omega⟩, hc, hU, h6, h7, fun b hb hf => by
    have h8 := (h4.st.lt hf).2
    rcases hb with hb | hb
    · have := (own_lt h6 hb).2; omega
    · have := (own_lt h7 hb).2; omega⟩
/-- All moves have been counted off; the check comes. -/
theorem MvSt.fin {rt : Nat → Fr → Int} {m : Nat → Int} {s : SS} {B2 k : Nat} {mvv frv : Value} (hC : Chk P K zs rt fid caps N Kp CI) (hN : ∀ j, Kp j → j < W.heap.size) (hB2 : W.heap.size ≤ B2) (h4 : ∀ t < 3, T.n t = P) (hok : MdOk P K M) (hs : StepIs P K rt M s) (hf : StF P K rt M m P s) (hI : PlI P K zs i ar gn M T.x) (hlen : s.mv.length ≤ 5000) (hi6 : i < 60) (h3 : L.bb = bb)
    (h5 : T.v 0 = v0 ∧ T.v 1 = v1 ∧ T.v 2 = v2) (hk : k = s.mv.length) (h : MvSt W P K zs N CI L M i T s B2 mvv frv k w) :
    Calls Try.prog fid (#[.pointer (some ⟨bb, 0, none⟩), mvv, frv, v1] ++ caps) w fun e w' => e = .returned (.bool true) ∧ PlSt W W.heap.size P K bb zs N CI v0 v1 v2 (i + 1) ar (gn + s.mv.length) w' := by
  obtain ⟨x, g1, g2, g3, g4, g5, g6, g7⟩ := h
  rw [hk, List.take_length] at g2
  have hI2 : PlI P K zs (i + 1) ar (gn + s.mv.length) s.M x := hI.step hf (fun p hp c hc => (g2 p hp c hc).1) (fun p hp c hc => (g2 p hp c hc).2.2) (fun p hp c hc => (g2 p hp c hc).2.1)
  have hc := hC.call i M w W.heap.size L s W.heap.size { T with x := x } ar (gn + s.mv.length) gn B2 T.x mvv frv g3 hok hs hI hI2 g1 h4 g5 g6 (fun j hj => by have := hN j hj; omega) hlen hi6
  rw [h3, show ({ T with x := x } : Tbs).v 1 = v1 from h5.2.1] at hc
  refine hc.mono ?_
  rintro e w' ⟨rfl, c1, u1⟩
  exact ⟨rfl, L, s.M, { T with x := x }, hI2, g1.upd u1 (fun j hj => by have := hN j (hC.sub j hj); omega), h3, h4, h5, c1, Upd.then g4 u1 fun j _ hj => hj⟩
def MvRel (n : Nat) (A : Nat → World → Prop) (iv : Value) (w : World) : Prop := ∃ k ≤ n, iv = .int .i64 k ∧ A k w
end
end Go.Proofs.Ytkooihniieepcaa
