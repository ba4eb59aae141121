/-
  What holds of the post between its events.
  The post's methods by what holds between the events.
-/
import Derived.Test.YtkaaoomliepijaaGreatQWv
import Derived.Test.YtkaaoomliepijaaGreatQWs
namespace Go.Proofs.YtkaaoomliepijaaGreat
open Go.RowKit
set_option linter.unusedVariables false

def tS (S : List Int) : Nat → Int := fun i => S.getD i 0
theorem cl_len (ms : List Msg) (n : Int) : (cancelM ms n).length = ms.length := by unfold cancelM; split <;> simp [dropM_len]
theorem nl_len (ms : List Msg) (t m : Int) : (nextM ms t m).length = ms.length := by unfold nextM finOf; rw [sendL_len, dropM_len]
theorem po_strmB : ∀ (i : Nat) (l : List Msg), (∀ m ∈ l, OutOk m ∧ IsB m.data) → i + l.length ≤ 100000 → IsB (strmM i l)
  | _, [], _, _ => fun y hy => by cases hy
  | i, m :: l, ok, hl => by
    simp only [List.length_cons] at hl
    have ih := po_strmB (i + 1) l (fun x hx => ok x (by simp [hx])) (by omega)
    obtain ⟨h1, h2⟩ := ok m (by simp)
    have hf := form_isB i m.data (by omega) h2 h1.ok.d2
    show IsB ((form i m.data).take m.out ++ strmM (i + 1) l)
    exact IsB.append (fun y hy => hf y (List.mem_of_mem_take hy)) ih
section
variable {j f : Nat} {ms : List Msg} {x x' x1 : PoV}
theorem MI.isB (h : MI j ms) (hj : j ≤ 200) : IsB (strmM 0 ms) := by
  refine po_strmB 0 ms (fun m hm => ⟨h.a.ok m hm, ?_⟩) (by have := h.l; omega)
  obtain ⟨i, hi⟩ := List.getElem?_of_mem hm
  have hil : i < ms.length := get_lt hi
  rw [h.get hi]
  exact dat_isB (by have := h.l; omega)
theorem tS_isT {S : List Int} (h : IsB S) : IsT (tS S) := fun i => by
  unfold tS
  rw [List.getD_eq_getElem?_getD]
  cases hc : S[i]? with
  | none => simp
  | some y => exact h y (List.mem_of_getElem? hc)
theorem seg_eq {S : List Int} {o n : Nat} (h : o + n ≤ S.length) : segT (tS S) o n = (S.drop o).take n := by
  refine List.ext_getElem? fun i => ?_
  rw [List.getElem?_take]
  by_cases c : i < n
  · rw [if_pos c, List.getElem?_drop]
    unfold segT tS
    rw [List.getElem?_map, List.getElem?_range c, Option.map_some, List.getD_eq_getElem?_getD, List.getElem?_eq_getElem (by omega)]
    rfl
  · rw [if_neg c, List.getElem?_eq_none (by rw [segT_len]; omega)]
theorem seg_grow {S Z : List Int} {o n : Nat} (h : o + n ≤ S.length) : segT (tS (S ++ Z)) o n = segT (tS S) o n := by
  rw [seg_eq h, seg_eq (by rw [List.length_append]; omega), List.drop_append_of_le_length (by omega), List.take_append_of_le_length (by rw [List.length_drop]; omega)]
/-- A flight bears a segment of the stream. -/
def FlI (S : List Int) (tp : Nat) (g : Fl) : Prop := g.pl ≤ 1 ∧ ∃ o n, g.d = encH o n ++ segT (tS S) o n ∧ 1 ≤ n ∧ n ≤ 24 ∧ o + n ≤ tp
structure QInv (j f : Nat) (x : PoV) : Prop where
  mi : MI j x.ms
  jl : j ≤ 100
  wt : WtI (strmM 0 x.ms).length x.t
  ks : x.ks = ((strmM 0 x.ms).take x.t.tk).drop x.t.ba
  pl : x.pl = (strmM 0 x.ms).drop x.t.tk
  gr : x.gr = (gate ((strmM 0 x.ms).take x.t.rd) (-1)).rest
  gl : x.gl = (gate ((strmM 0 x.ms).take x.t.rd) (-1)).last
  fl : ∀ g ∈ x.fl, FlI (strmM 0 x.ms) x.t.tp g
  fn : x.fl.length ≤ f
  dl : x.dl.map RwB.d = x.ms.map Msg.data
  ol : x.ol.map RwB.d = (gate ((strmM 0 x.ms).take x.t.rd) (-1)).out
theorem QInv.sl (h : QInv j f x) : (strmM 0 x.ms).length ≤ 1200 := by have := h.mi.tot; have := h.jl; omega
theorem QInv.kl (h : QInv j f x) : x.ks.length = x.t.tk - x.t.ba := by
  rw [h.ks, List.length_drop, List.length_take]
  have := h.wt.a4
  omega
theorem QInv.pln (h : QInv j f x) : x.pl.length = (strmM 0 x.ms).length - x.t.tk := by rw [h.pl, List.length_drop]
theorem QInv.rdl (h : QInv j f x) : x.t.rd ≤ x.t.tp ∧ x.t.tp ≤ x.t.tk ∧ x.t.tk ≤ (strmM 0 x.ms).length := ⟨h.wt.a8, h.wt.a3, h.wt.a4⟩
theorem QInv.bad (h : QInv j f x) : (gate (strmM 0 x.ms) (-1)).bad = false := (gate_strmM 0 x.ms (-1) h.mi.a.ok h.mi.a.ord (by have := h.mi.l; have := h.jl; omega) (by decide)).2.2
theorem QInv.isB (h : QInv j f x) : IsB (strmM 0 x.ms) := h.mi.isB (by have := h.jl; omega)
theorem QInv.gi (h : QInv j f x) : IsB x.gr ∧ x.gr.length ≤ 1200 ∧ -1 ≤ x.gl ∧ x.gl ≤ 16777215 ∧ x.ol.length ≤ 1200 := by
  have hb : IsB ((strmM 0 x.ms).take x.t.rd) := fun y hy => h.isB y (List.mem_of_mem_take hy)
  obtain ⟨g1, g2, g3, g4, g5⟩ := gate_inv _ (-1) hb (by omega) (by omega)
  have hl : ((strmM 0 x.ms).take x.t.rd).length ≤ 1200 := by rw [List.length_take]; have := h.sl; omega
  have ho := len_map h.ol
  rw [h.gr, h.gl]
  exact ⟨g1, by omega, g3, g4, by omega⟩
theorem QInv.put (h : QInv j f x) (hj : j + 1 ≤ 100) {dl : Int} (hd : -1 ≤ dl) {dv : Value} {r : RwB} (hr : r.d = dat x.ms.length) : QInv (j + 1) f { x with ms := x.ms ++ [⟨dat x.ms.length, dl, 1, 0⟩], dv := dv, dl := x.dl ++ [r] } ∧ strmM 0 (x.ms ++ [⟨dat x.ms.length, dl, 1, 0⟩]) = strmM 0 x.ms := by
  obtain ⟨_, _, _, m4, m5⟩ := h.mi.put (by omega) dl hd
  refine ⟨⟨m4, hj, ?_, ?_, ?_, ?_, ?_, ?_, h.fn, ?_, ?_⟩, m5⟩
  all_goals dsimp only
  all_goals first | rw [m5] | skip
  · exact h.wt
  · exact h.ks
  · exact h.pl
  · exact h.gr
  · exact h.gl
  · exact h.fl
  · rw [List.map_append, List.map_append, h.dl]; simp [hr]
  · exact h.ol
theorem nx_data (h : MI j ms) (tick most : Int) : (nextM ms tick most).map Msg.data = ms.map Msg.data := by
  rw [(h.next tick most).1.d, h.d, nl_len]
theorem QInv.sa (h : QInv j f x) {tick most : Int} (hs : SendA x x1 tick most) : QInv j f x1 ∧ ∃ Z, strmM 0 x1.ms = strmM 0 x.ms ++ Z := by
  rcases hs with ⟨_, rfl⟩ | ⟨e, ov, rfl⟩
  · exact ⟨h, [], (List.append_nil _).symm⟩
  · obtain ⟨m1, m2⟩ := h.mi.next tick most
    obtain ⟨l1, l2, l3⟩ := h.rdl
    have ht : x.t.tk = (strmM 0 x.ms).length := by
      have := h.pln; rw [e] at this; simp at this; omega
    have e1 : ∀ n, n ≤ (strmM 0 x.ms).length → (strmM 0 x.ms ++ nextW x.ms tick most).take n = (strmM 0 x.ms).take n := fun n hn => List.take_append_of_le_length hn
    refine ⟨⟨m1, h.jl, ?_, ?_, ?_, ?_, ?_, ?_, h.fn, ?_, ?_⟩, _, m2⟩
    all_goals dsimp only
    all_goals first | rw [m2] | skip
    · exact h.wt.mono (by rw [List.length_append]; omega)
    · rw [e1 _ l3]; exact h.ks
    · rw [ht, List.drop_left]
    · rw [e1 _ (by omega)]; exact h.gr
    · rw [e1 _ (by omega)]; exact h.gl
    · intro g hg
      obtain ⟨a1, o, n, a2, a3, a4, a5⟩ := h.fl g hg
      exact ⟨a1, o, n, by rw [seg_grow (by omega)]; exact a2, a3, a4, a5⟩
    · rw [nx_data h.mi]; exact h.dl
    · rw [e1 _ (by omega)]; exact h.ol
theorem tick_L (t : Wt) (most : Nat) : (t.tick most).tk = t.tk ∧ (t.tick most).ba = t.ba ∧ (t.tick most).rd = t.rd := ⟨(tick_ph t most).2.2.2.1, (tick_ph t most).2.2.2.2.1, (tick_ph t most).2.2.2.2.2⟩
theorem QInv.sb (h : QInv j f x) {pl most : Nat} (hpl : pl ≤ 1) (hm : 1 ≤ most) (hs : SendB x x' (strmM 0 x.ms).length pl most) : QInv j (f + 1) x' ∧ x'.ms = x.ms ∧ x'.t = (x.t.write (strmM 0 x.ms).length).tick most ∧
    (((x.t.write (strmM 0 x.ms).length).goes = true ∧ ∃ g : Fl, x'.fl = x.fl ++ [g] ∧ g.pl = pl ∧ g.d = encH x.t.nx ((x.t.write (strmM 0 x.ms).length).snd most) ++ segT (tS (strmM 0 x.ms)) x.t.nx ((x.t.write (strmM 0 x.ms).length).snd most)) ∨
      ((x.t.write (strmM 0 x.ms).length).goes = false ∧ x'.fl = x.fl)) := by
  have Iw := h.wt.write
  have It := Iw.tick most
  have htp : x.t.tp ≤ ((x.t.write (strmM 0 x.ms).length).tick most).tp := Wt.tp_tick (x.t.write (strmM 0 x.ms).length) most
  obtain ⟨q1, q2, q3⟩ := tick_L (x.t.write (strmM 0 x.ms).length) most
  obtain ⟨l1, l2, l3⟩ := h.rdl
  have hw : x.t.wrN (strmM 0 x.ms).length ≤ (strmM 0 x.ms).length - x.t.tk := by unfold Wt.wrN; omega
  have ek : x.ks ++ x.pl.take (x.t.wrN (strmM 0 x.ms).length) = ((strmM 0 x.ms).take (x.t.tk + x.t.wrN (strmM 0 x.ms).length)).drop x.t.ba := by
    have a5 := h.wt.a1; have a6 := h.wt.a2
    rw [h.ks, h.pl, List.take_add, List.drop_append_of_le_length (by rw [List.length_take]; omega)]
  have core : ∀ (kv pv : Value), QInv j f { x with kv := kv, ks := x.ks ++ x.pl.take (x.t.wrN (strmM 0 x.ms).length), pv := pv, pl := x.pl.drop (x.t.wrN (strmM 0 x.ms).length), t := (x.t.write (strmM 0 x.ms).length).tick most } := fun kv pv => by
    refine ⟨h.mi, h.jl, It, ?_, ?_, ?_, ?_, fun g hg => ?_, h.fn, h.dl, ?_⟩
    · dsimp only; rw [q1, q2]; exact ek
    · dsimp only; rw [q1, h.pl, List.drop_drop]; rfl
    · dsimp only; rw [q3]; exact h.gr
    · dsimp only; rw [q3]; exact h.gl
    · obtain ⟨a1, o, n, a2, a3, a4, a5⟩ := h.fl g hg
      exact ⟨a1, o, n, a2, a3, a4, Nat.le_trans a5 htp⟩
    · dsimp only; rw [q3]; exact h.ol
  obtain ⟨kv, pv, hs⟩ := hs
  rcases hs with ⟨hg, fv, g, g1, g2, rfl⟩ | ⟨hg, rfl⟩
  · have hg' := hg
    unfold Wt.goes at hg'
    simp only [Bool.and_eq_true, decide_eq_true_eq] at hg'
    have c1 : (x.t.write (strmM 0 x.ms).length).tk = x.t.tk + x.t.wrN (strmM 0 x.ms).length := rfl
    have c2 : (x.t.write (strmM 0 x.ms).length).nx = x.t.nx := rfl
    have c3 : (x.t.write (strmM 0 x.ms).length).ba = x.t.ba := rfl
    have hsn : 1 ≤ (x.t.write (strmM 0 x.ms).length).snd most ∧ (x.t.write (strmM 0 x.ms).length).snd most ≤ 24 ∧ x.t.nx + (x.t.write (strmM 0 x.ms).length).snd most ≤ x.t.tk + x.t.wrN (strmM 0 x.ms).length := by
      have hsd : (x.t.write (strmM 0 x.ms).length).snd most = min most (min (x.t.tk + x.t.wrN (strmM 0 x.ms).length - x.t.nx) (x.t.ba + 24 - x.t.nx)) := rfl
      obtain ⟨g3, g4⟩ := hg'
      rw [c1, c2] at g3
      rw [c2, c3] at g4
      have := h.wt.a1
      rw [hsd]
      omega
    have hst := Iw.sent most hg
    rw [c2] at hst
    have hgd : g.d = encH x.t.nx ((x.t.write (strmM 0 x.ms).length).snd most) ++ segT (tS (strmM 0 x.ms)) x.t.nx ((x.t.write (strmM 0 x.ms).length).snd most) := by
      have a1 := h.wt.a1
      rw [g2, ek, seg_eq (by omega), List.drop_drop, show x.t.ba + (x.t.nx - x.t.ba) = x.t.nx by omega, List.drop_take, List.take_take, Nat.min_eq_left (by omega)]
    have C := core kv pv
    refine ⟨⟨C.mi, C.jl, C.wt, C.ks, C.pl, C.gr, C.gl, fun g' hg => ?_, ?_, C.dl, C.ol⟩, rfl, rfl, .inl ⟨hg, g, rfl, g1, hgd⟩⟩
    · rcases List.mem_append.1 hg with hg | hg
      · exact C.fl g' hg
      · obtain rfl := List.mem_singleton.1 hg
        exact ⟨by omega, x.t.nx, _, hgd, hsn.1, hsn.2.1, hst⟩
    · dsimp only; rw [List.length_append]; have := h.fn; simp; omega
  · have C := core kv pv
    exact ⟨⟨C.mi, C.jl, C.wt, C.ks, C.pl, C.gr, C.gl, C.fl, Nat.le_succ_of_le C.fn, C.dl, C.ol⟩, rfl, rfl, .inr ⟨hg, rfl⟩⟩
theorem deliv_eq (t : Wt) (pl o n : Nat) : (t.deliv pl o n).tk = t.tk ∧ (t.deliv pl o n).ba = t.ba ∧ (t.deliv pl o n).rd = t.rd ∧ (t.deliv pl o n).tp = t.tp := by
  unfold Wt.deliv
  repeat' split
  all_goals exact ⟨rfl, rfl, rfl, rfl⟩
theorem QInv.deliv (h : QInv j f x) {pl o n : Nat} (ho : o + n ≤ x.t.tp) : QInv j f { x with t := x.t.deliv pl o n } := by
  obtain ⟨q1, q2, q3, q4⟩ := deliv_eq x.t pl o n
  refine ⟨h.mi, h.jl, h.wt.deliv ho, ?_, ?_, ?_, ?_, ?_, h.fn, h.dl, ?_⟩
  all_goals dsimp only
  · rw [q1, q2]; exact h.ks
  · rw [q1]; exact h.pl
  · rw [q3]; exact h.gr
  · rw [q3]; exact h.gl
  · rw [q4]; exact h.fl
  · rw [q3]; exact h.ol
theorem taken_rd (h : QInv j f x) : x.t.rd ≤ x.t.taken.rd ∧ x.t.taken.rd ≤ (strmM 0 x.ms).length := by
  have hr := h.wt.r
  have hle := h.wt.iR.le
  have I := h.wt.taken
  refine ⟨?_, Nat.le_trans I.a8 (Nat.le_trans I.a3 I.a4)⟩
  unfold Wt.R at hr hle
  unfold Wt.taken
  split
  · rename_i e; rw [if_pos e] at hr hle; show x.t.rd ≤ x.t.s0.nxt; omega
  · rename_i e; rw [if_neg e] at hr hle; show x.t.rd ≤ x.t.s1.nxt; omega
theorem QInv.takeG (h : QInv j f x) {n : Nat} (hn : x.t.taken.rd - x.t.rd = n) : ∃ fin, pushO x.gr (segT (tS (strmM 0 x.ms)) x.t.rd n) x.gl = fin ∧ fin.bad = false ∧ fin.out.length ≤ 2400 ∧ fin.rest = (gate ((strmM 0 x.ms).take x.t.taken.rd) (-1)).rest ∧ fin.last = (gate ((strmM 0 x.ms).take x.t.taken.rd) (-1)).last ∧
    (gate ((strmM 0 x.ms).take x.t.taken.rd) (-1)).out = (gate ((strmM 0 x.ms).take x.t.rd) (-1)).out ++ fin.out := by
  obtain ⟨t1, t2⟩ := taken_rd h
  obtain ⟨g1, g2⟩ := gate_two (strmM 0 x.ms) x.t.rd n h.bad
  have e : x.t.rd + n = x.t.taken.rd := by omega
  rw [e] at g1 g2
  refine ⟨_, rfl, ?_⟩
  rw [seg_eq (by omega), h.gr, h.gl]
  unfold pushO
  rw [g1]
  refine ⟨rfl, ?_, rfl, rfl, g2⟩
  have hb : IsB ((strmM 0 x.ms).take x.t.taken.rd) := fun y hy => h.isB y (List.mem_of_mem_take hy)
  have h5 := (gate_inv _ (-1) hb (by omega) (by omega)).2.2.2.2
  rw [g2, List.length_append] at h5
  have hl : ((strmM 0 x.ms).take x.t.taken.rd).length ≤ 1200 := by rw [List.length_take]; have := h.sl; omega
  dsimp only
  omega
theorem QInv.take (h : QInv j f x) {fin : GS} {gv kv ov : Value} {rs : List RwB} (h1 : fin.rest = (gate ((strmM 0 x.ms).take x.t.taken.rd) (-1)).rest) (h2 : fin.last = (gate ((strmM 0 x.ms).take x.t.taken.rd) (-1)).last) (h3 : (gate ((strmM 0 x.ms).take x.t.taken.rd) (-1)).out = (gate ((strmM 0 x.ms).take x.t.rd) (-1)).out ++ fin.out) (hr : rs.map RwB.d = fin.out) :
    QInv j f { x with t := x.t.take, gv := gv, gr := fin.rest, gl := fin.last, kv := kv, ks := x.ks.drop (x.t.taken.rd - x.t.ba), ov := ov, ol := x.ol ++ rs } := by
  obtain ⟨t1, t2⟩ := taken_rd h
  obtain ⟨b1, b2, b3, b4⟩ := taken_eq x.t
  have a7 := h.wt.a7
  have e1 : x.t.take.rd = x.t.taken.rd := ack_rd _
  have e2 : x.t.take.tk = x.t.tk ∧ x.t.take.ba = x.t.taken.rd ∧ x.t.take.tp = x.t.tp := by
    unfold Wt.take Wt.ack
    by_cases c : x.t.taken.ba < x.t.taken.rd
    · rw [if_pos c]; exact ⟨b1, rfl, b4⟩
    · rw [if_neg c]; exact ⟨b1, by omega, b4⟩
  obtain ⟨e2, e3, e4⟩ := e2
  refine ⟨h.mi, h.jl, h.wt.take, ?_, ?_, ?_, ?_, ?_, h.fn, h.dl, ?_⟩
  all_goals dsimp only
  · rw [e2, e3, h.ks, List.drop_drop]; congr 1; omega
  · rw [e2]; exact h.pl
  · rw [e1]; exact h1
  · rw [e1]; exact h2
  · rw [e4]; exact h.fl
  · rw [e1, h3, List.map_append, h.ol, hr]
theorem QInv.cancel (h : QInv j f x) (n : Int) : QInv j f { x with ms := cancelM x.ms n } ∧ strmM 0 (cancelM x.ms n) = strmM 0 x.ms := by
  obtain ⟨m1, m2⟩ := h.mi.cancel n
  refine ⟨⟨m1, h.jl, ?_, ?_, ?_, ?_, ?_, ?_, h.fn, ?_, ?_⟩, m2⟩
  all_goals dsimp only
  all_goals first | rw [m2] | skip
  · exact h.wt
  · exact h.ks
  · exact h.pl
  · exact h.gr
  · exact h.gl
  · exact h.fl
  · rw [m1.d, cl_len, ← h.mi.d]; exact h.dl
  · exact h.ol
theorem QInv.trv (h : QInv j f x) (ht : TrvA x x') : QInv j f x' ∧ x'.ms = x.ms := by
  rcases ht with ⟨e, p1, s1, m1, rfl⟩ | ⟨e, s, hs, ho, rfl⟩ | ⟨_, rfl⟩
  · exact ⟨⟨h.mi, h.jl, h.wt.start e, h.ks, h.pl, h.gr, h.gl, h.fl, h.fn, h.dl, h.ol⟩, rfl⟩
  · exact ⟨⟨h.mi, h.jl, h.wt.fin e hs ho, h.ks, h.pl, h.gr, h.gl, h.fl, h.fn, h.dl, h.ol⟩, rfl⟩
  · exact ⟨h, rfl⟩
theorem QInv.del (h : QInv j f x) (fv : Value) (k : Nat) : QInv j f { x with fv := fv, fl := x.fl.eraseIdx k } :=
  ⟨h.mi, h.jl, h.wt, h.ks, h.pl, h.gr, h.gl, fun g hg => h.fl g ((List.eraseIdx_sublist _ _).subset hg), Nat.le_trans (List.length_eraseIdx_le _ _) h.fn, h.dl, h.ol⟩
theorem QInv.mono (h : QInv j f x) {j' f' : Nat} (hj : j ≤ j') (hj2 : j' ≤ 100) (hf : f ≤ f') : QInv j' f' x :=
  ⟨h.mi.mono hj, hj2, h.wt, h.ks, h.pl, h.gr, h.gl, h.fl, Nat.le_trans h.fn hf, h.dl, h.ol⟩
theorem QInv.nofly (h : QInv j f x) : QInv j 0 { x with fv := .slice none 0 0, fl := [] } :=
  ⟨h.mi, h.jl, h.wt, h.ks, h.pl, h.gr, h.gl, (fun g hg => by cases hg), Nat.zero_le _, h.dl, h.ol⟩
end
end Go.Proofs.YtkaaoomliepijaaGreat
namespace Go.Proofs.YtkaaoomliepijaaGreat
open Go.RowKit
set_option linter.unusedVariables false

def Po (bg w : World) (B pb : Nat) (x : PoV) (tick j f : Nat) : Prop := ∃ col, PoS w B col (tS (strmM 0 x.ms)) x pb tick ∧ QInv j f x ∧ x.bg = bg
section
variable {bg w : World} {B pb tick j f : Nat} {x : PoV}
theorem grow2_po {col : Nat → Nat} {T T' : Nat → Int} {vs : List Value} {tp : Nat} (h : PoF w B col T x pb vs) (i0 : x.t.ph ≤ 1 → SrI x.t.s0 tp) (i1 : 1 ≤ x.t.ph → SrI x.t.s1 tp) (hT : ∀ y, y < tp → T y = T' y) : PoF w B col T' x pb vs :=
  ⟨⟨h.m.bx, h.m.wr, ⟨h.m.en.b, h.m.en.bb, h.m.en.c, fun hp => ⟨(h.m.en.e0 hp).1, StT.grow (h.m.en.e0 hp).2.1 (i0 hp) hT, (h.m.en.e0 hp).2.2⟩, fun hp => ⟨(h.m.en.e1 hp).1, StT.grow (h.m.en.e1 hp).2.1 (i1 hp) hT, (h.m.en.e1 hp).2.2⟩⟩, h.m.gt, h.m.pn, h.m.fy, h.m.da, h.m.ou, h.m.bs, h.m.bk, h.m.cb⟩, h.p, h.c, h.bb⟩
theorem sa_bg {x x1 : PoV} {tick most : Int} (h : SendA x x1 tick most) : x1.bg = x.bg := by
  rcases h with ⟨_, rfl⟩ | ⟨_, ov, rfl⟩ <;> rfl
theorem sb_bg {x x' : PoV} {L pl most : Nat} (h : SendB x x' L pl most) : x'.bg = x.bg := by
  obtain ⟨kv, pv, h⟩ := h
  rcases h with ⟨_, fv, g, _, _, rfl⟩ | ⟨_, rfl⟩ <;> rfl
theorem tr_bg {x x' : PoV} (h : TrvA x x') : x'.bg = x.bg := by
  rcases h with ⟨_, p1, s1, m1, rfl⟩ | ⟨_, s, _, _, rfl⟩ | ⟨_, rfl⟩ <;> rfl
theorem put_q (h : Po bg w B pb x tick j f) (hj : j + 1 ≤ 100) (dl : Int) (hd : -1 ≤ dl) :
    Calls Tryz.prog 20 #[.pointer (some ⟨pb, 0, none⟩), .int .i64 dl] w fun e w' => e = .returned (.tuple #[]) ∧ ∃ x', Po bg w' B pb x' tick (j + 1) f := by
  obtain ⟨col, P, I, hbg⟩ := h
  refine (put_w w B pb tick j col _ x dl P I.mi (by omega) hd I.dl).mono ?_
  rintro e w' ⟨rfl, x', col', dv, r, hr, rfl, P'⟩
  obtain ⟨I', hS⟩ := I.put hj hd (dv := dv) hr
  refine ⟨rfl, _, col', ?_, I', hbg⟩
  rw [← hS] at P'
  exact P'
theorem send_q (h : Po bg w B pb x tick j f) (htk : tick ≤ 10000) (hf : f ≤ 1000) (pl most : Nat) (hpl : pl ≤ 1) (hm1 : 1 ≤ most) (hm2 : most ≤ 1000) :
    Calls Tryz.prog 9 #[.pointer (some ⟨pb, 0, none⟩), .int .i64 pl, .int .i64 most] w fun e w' => e = .returned (.tuple #[]) ∧ ∃ x1 x', SendA x x1 ((tick : Int) + 1) most ∧ SendB x1 x' (strmM 0 x1.ms).length pl most ∧ Po bg w' B pb x' (tick + 1) j (f + 1) := by
  obtain ⟨col, P, I, hbg⟩ := h
  refine (send_w w B pb tick pl most col _ x P (by have := I.mi.l; have := I.jl; omega) (by omega) hpl hm1 hm2 (by rw [I.pln]; have := I.sl; omega) (fun x1 hs => ?_)).mono ?_
  · obtain ⟨I1, _⟩ := I.sa hs
    exact ⟨_, I1.wt, by have := I1.sl; omega, I1.kl, I1.pln, by have := I1.fn; omega⟩
  · rintro e w' ⟨rfl, x1, x', col', L, hA, hL, hB, P'⟩
    obtain ⟨I1, Z, hZ⟩ := I.sa hA
    have hLS : L = (strmM 0 x1.ms).length := by
      have := I1.pln; have := I1.wt.a4; omega
    rw [hLS] at hB
    obtain ⟨I2, e1, e2, _⟩ := I1.sb hpl hm1 hB
    refine ⟨rfl, x1, x', hA, hB, col', ?_, I2, (sb_bg hB).trans ((sa_bg hA).trans hbg)⟩
    obtain ⟨sa1, _⟩ := sa_eq hA
    have et : x'.t.ph = x.t.ph ∧ x'.t.s0 = x.t.s0 ∧ x'.t.s1 = x.t.s1 := by
      rw [e2]
      obtain ⟨t1, t2, t3, _⟩ := tick_ph (x1.t.write (strmM 0 x1.ms).length) most
      rw [t1, t2, t3, ← sa1]
      exact ⟨rfl, rfl, rfl⟩
    rw [e1, hZ]
    refine grow2_po (tp := x.t.tp) P' (fun hp => ?_) (fun hp => ?_) (fun y hy => ?_)
    · rw [et.2.1]; rw [et.1] at hp; exact (I.wt.i0 hp).1
    · rw [et.2.2]; rw [et.1] at hp; exact I.wt.i1 hp
    · unfold tS
      have := I.rdl
      rw [List.getD_eq_getElem?_getD, List.getD_eq_getElem?_getD, List.getElem?_append_left (by omega)]
theorem deliver_q (h : Po bg w B pb x tick j f) (g : Fl) (hg : g ∈ x.fl) (o n : Nat) (hd : g.d = encH o n ++ segT (tS (strmM 0 x.ms)) o n) (hn1 : 1 ≤ n) (hn2 : n ≤ 24) (hon : o + n ≤ x.t.tp) (hpl : g.pl ≤ 1) :
    Calls Tryz.prog 10 #[.pointer (some ⟨pb, 0, none⟩), .agg #[.int .i64 g.pl, .slice g.a g.d.length g.c]] w fun e w' => e = .returned (.tuple #[]) ∧ Po bg w' B pb { x with t := x.t.deliv g.pl o n } tick j f := by
  obtain ⟨col, P, I, hbg⟩ := h
  refine (deliver_w w B pb tick _ o n col _ x g P I.wt (by have := I.sl; omega) (tS_isT I.isB) (P.m.fy.r g hg).1 hd hn1 hn2 hon hpl).mono ?_
  rintro e w' ⟨rfl, col', P'⟩
  exact ⟨rfl, col', P', I.deliv hon, hbg⟩
theorem deliver_any (h : Po bg w B pb x tick j f) (g : Fl) (hg : g ∈ x.fl) :
    Calls Tryz.prog 10 #[.pointer (some ⟨pb, 0, none⟩), .agg #[.int .i64 g.pl, .slice g.a g.d.length g.c]] w fun e w' => e = .returned (.tuple #[]) ∧ ∃ t', Po bg w' B pb { x with t := t' } tick j f := by
  obtain ⟨col, P, I, hbg⟩ := id h
  obtain ⟨hpl, o, n, hd, hn1, hn2, hon⟩ := I.fl g hg
  exact (deliver_q h g hg o n hd hn1 hn2 hon hpl).mono fun e w' ⟨h1, h2⟩ => ⟨h1, _, h2⟩
theorem take_q (h : Po bg w B pb x tick j f) :
    Calls Tryz.prog 11 #[.pointer (some ⟨pb, 0, none⟩)] w fun e w' => e = .returned (.tuple #[]) ∧ ∃ x', x'.t = x.t.take ∧ x'.ms = x.ms ∧ x'.fl = x.fl ∧ x'.fv = x.fv ∧ x'.pl = x.pl ∧ Po bg w' B pb x' tick j f := by
  obtain ⟨col, P, I, hbg⟩ := h
  obtain ⟨n, hn⟩ : ∃ n, x.t.taken.rd - x.t.rd = n := ⟨_, rfl⟩
  obtain ⟨fin, hf, hbad, hfo, hr1, hr2, hr3⟩ := I.takeG hn
  obtain ⟨g1, g2, g3, g4, g5⟩ := I.gi
  refine (take_w w B pb tick _ n col _ x fin P I.wt (by have := I.sl; omega) (tS_isT I.isB) I.kl g1 (by omega) g3 g4 (by omega) hn hf hbad (by omega)).mono ?_
  rintro e w' ⟨rfl, x', col', gv, kv, ov, rs, hrs, rfl, P'⟩
  exact ⟨rfl, { x with t := x.t.take, gv := gv, gr := fin.rest, gl := fin.last, kv := kv, ks := x.ks.drop (x.t.taken.rd - x.t.ba), ov := ov, ol := x.ol ++ rs }, rfl, rfl, rfl, rfl, rfl, col', P', I.take hr1 hr2 hr3 hrs, hbg⟩
theorem travel_q (h : Po bg w B pb x tick j f) :
    Calls Tryz.prog 22 #[.pointer (some ⟨pb, 0, none⟩)] w fun e w' => e = .returned (.tuple #[]) ∧ ∃ x', Po bg w' B pb x' tick j f := by
  obtain ⟨col, P, I, hbg⟩ := h
  refine (travel_w w B pb tick _ col _ x P I.wt (by have := I.sl; omega) (tS_isT I.isB)).mono ?_
  rintro e w' ⟨rfl, x', col', ht, P'⟩
  obtain ⟨I', e⟩ := I.trv ht
  refine ⟨rfl, x', col', ?_, I', (tr_bg ht).trans hbg⟩
  rw [e]; exact P'
theorem cancel_q (h : Po bg w B pb x tick j f) (n : Int) :
    Calls Tryz.prog 23 #[.pointer (some ⟨x.b, 0, none⟩), .int .i64 n] w fun e w' => ∃ v x', e = .returned v ∧ Po bg w' B pb x' tick j f := by
  obtain ⟨col, P, I, hbg⟩ := h
  refine (cancel_po P (by have := I.mi.l; have := I.jl; omega) n).mono ?_
  rintro e w' ⟨v, rfl, P'⟩
  obtain ⟨I', e⟩ := I.cancel n
  refine ⟨v, _, rfl, col, ?_, I', hbg⟩
  rw [← e] at P'
  exact P'
theorem state_q (h : Po bg w B pb x tick j f) (n : Int) :
    Calls Tryz.prog 12 #[.pointer (some ⟨x.b, 0, none⟩), .int .i64 n] w fun e w' => e = .returned (.int .i64 (stOf (x.ms.map Msg.st) n)) ∧ w = w' := by
  obtain ⟨col, P, I, hbg⟩ := h
  exact state_po P (by have := I.mi.l; have := I.jl; omega) n
theorem phase_q (h : Po bg w B pb x tick j f) : Calls Tryz.prog 8 #[.pointer (some ⟨x.eb, 0, none⟩)] w fun e w' => e = .returned (.int .i64 x.t.ph) ∧ w = w' := by
  obtain ⟨col, P, I, hbg⟩ := h
  exact phase_po P
theorem Po.bel {w' : World} (h : Po bg w B pb x tick j f) (q : RowKit.Below w.heap.size w w') : Po bg w' B pb x tick j f := by
  obtain ⟨col, P, I, hbg⟩ := h
  exact ⟨col, PoF.bel0 P q, I, hbg⟩
theorem Po.cell (h : Po bg w B pb x tick j f) {i : Nat} {v : Value} (hv : (poC x x.pv x.fv x.dv x.ov tick x.t.rd true)[i]? = some v) : w.cell? ⟨pb, i, none⟩ = some v := by
  obtain ⟨col, P, I, hbg⟩ := h
  exact P.p.cell hv
theorem Po.old (h : Po bg w B pb x tick j f) : RowKit.Below B bg w := by
  obtain ⟨col, P, I, hbg⟩ := h
  rw [← hbg]; exact P.m.bk
theorem Po.lt (h : Po bg w B pb x tick j f) : pb < w.heap.size ∧ ∀ i, w.frozen? ⟨pb, i, none⟩ = false := by
  obtain ⟨col, P, I, hbg⟩ := h
  exact ⟨P.p.lt, P.p.free⟩
theorem Po.inv (h : Po bg w B pb x tick j f) : QInv j f x := by obtain ⟨col, P, I, hbg⟩ := h; exact I
theorem Po.mono {j' f' : Nat} (h : Po bg w B pb x tick j f) (hj : j ≤ j') (hj2 : j' ≤ 100) (hf : f ≤ f') : Po bg w B pb x tick j' f' := by
  obtain ⟨col, P, I, hbg⟩ := h
  exact ⟨col, P, I.mono hj hj2 hf, hbg⟩
/-- p.fly = nil -/
theorem Po.nofly (h : Po bg w B pb x tick j f) : Po bg (w.setCell ⟨pb, 5, none⟩ (.slice none 0 0)) B pb { x with fv := .slice none 0 0, fl := [] } tick j 0 := by
  obtain ⟨col, P, I, hbg⟩ := h
  exact ⟨col, PoF.set (nofly_po P) 5 (.slice none 0 0), I.nofly, hbg⟩
theorem Po.fly (h : Po bg w B pb x tick j f) : ∃ a c, x.fv = .slice a x.fl.length c ∧ ∀ k g, x.fl[k]? = some g → okAd a = true ∧ w.cell? (adr a (k * 2)) = some (.int .i64 g.pl) ∧ w.cell? (adr a (k * 2 + 1)) = some (.slice g.a g.d.length g.c) := by
  obtain ⟨col, P, I, hbg⟩ := h
  obtain ⟨a, c, e⟩ := flv_shape P
  have ho := P.m.fy.h
  rw [e] at ho
  have A := ownC_all ho
  refine ⟨a, c, e, fun k g hg => ?_⟩
  have h0 := A _ _ (flC_get flV_len hg 0 (by omega))
  have h1 := A _ _ (flC_get flV_len hg 1 (by omega))
  exact ⟨h0.1, h0.2, h1.2⟩
/-- p.fly = slices.Delete(p.fly, k, k+1) -/
theorem del_q (h : Po bg w B pb x tick j f) (k : Nat) (hk : k < x.fl.length) :
    Calls Tryz.prog 21 #[x.fv, .int .i64 k, .int .i64 ((k : Int) + 1)] w fun e w' => ∃ a m c, e = .returned (.slice a m c) ∧ pb < w'.heap.size ∧ (∀ i, w'.frozen? ⟨pb, i, none⟩ = false) ∧ (∀ i v, i ≠ 5 → (poC x x.pv x.fv x.dv x.ov tick x.t.rd true)[i]? = some v → w'.cell? ⟨pb, i, none⟩ = some v) ∧
      w'.cell? ⟨pb, 5, none⟩ = some x.fv ∧ Po bg (w'.setCell ⟨pb, 5, none⟩ (.slice a m c)) B pb { x with fv := .slice a m c, fl := x.fl.eraseIdx k } tick j f := by
  obtain ⟨col, P, I, hbg⟩ := h
  refine (del_po P k hk).mono ?_
  rintro e w' ⟨fv, rfl, P', _⟩
  obtain ⟨a, c, e⟩ := flv_shape P'
  dsimp only at e
  subst e
  exact ⟨a, _, c, rfl, P'.p.lt, P'.p.free, fun i v _ hv => P'.p.cell hv, P'.p.cell rfl, col, P'.set 5 _, I.del _ k, hbg⟩
end
end Go.Proofs.YtkaaoomliepijaaGreat
