/-
  The post's event.
  The post's prefix.
-/
import Derived.Test.YtkaaoomliepijaaGreatQPj
namespace Go.Proofs.YtkaaoomliepijaaGreat
open Go.RowKit
set_option linter.unusedVariables false

def EvQ (bg : World) (B pb tick j f : Nat) (w' : World) : Prop := ∃ (x' : PoV) (tick' : Nat), tick' ≤ tick + 1 ∧ Po bg w' B pb x' tick' (j + 1) (f + 1)
theorem ev_flies {bg w : World} {B pb tick j f : Nat} {x : PoV} (h : Po bg w B pb x tick j f) (hne : x.fl ≠ []) : ∃ g c, x.fv = .slice (some ⟨g, 0, none⟩) x.fl.length c ∧ ∀ k y, x.fl[k]? = some y → w.cell? ⟨g, k * 2, none⟩ = some (.int .i64 y.pl) ∧ w.cell? ⟨g, k * 2 + 1, none⟩ = some (.slice y.a y.d.length y.c) := by
  obtain ⟨col, P, I, hbg⟩ := h
  obtain ⟨a, c, e⟩ := flv_shape P
  have ho := P.m.fy.h
  rw [e] at ho
  obtain ⟨g, sp, rfl, _⟩ := ownC_blk flV_len (by decide) ho hne
  have A := ownC_all ho
  refine ⟨g, c, e, fun k y hy => ?_⟩
  have h0 := (A _ _ (flC_get flV_len hy 0 (by omega))).2
  have h1 := (A _ _ (flC_get flV_len hy 1 (by omega))).2
  rw [adr_mk, Nat.zero_add] at h0 h1
  exact ⟨h0, h1⟩
set_option maxHeartbeats 16000000 in
set_option maxRecDepth 100000 in
theorem event_q (bg w : World) (B pb tick j f k : Nat) (x : PoV) (h : Po bg w B pb x tick j f) (hj : j + 1 ≤ 100) (hf : f ≤ 500) (htk : tick ≤ 9000) (hk : k ≤ 255) :
    Calls Tryz.prog 6 #[.pointer (some ⟨pb, 0, none⟩), .int .u8 k] w fun e w' => e = .returned (.tuple #[]) ∧ EvQ bg B pb tick j f w' := by
  obtain ⟨d, hd⟩ : ∃ d, k / 8 = d := ⟨_, rfl⟩
  obtain ⟨d16, hd16⟩ : ∃ d, k / 16 = d := ⟨_, rfl⟩
  obtain ⟨p2, hp2⟩ : ∃ p, d % 2 = p := ⟨_, rfl⟩
  obtain ⟨mo, hmo⟩ : ∃ p, 1 + d16 = p := ⟨_, rfl⟩
  obtain ⟨r, hr⟩ : ∃ r, k % 8 = r := ⟨_, rfl⟩
  have e8 : (k : Int).tdiv 8 = (d : Int) := by rw [Int.tdiv_eq_ediv_of_nonneg (by omega)]; omega
  have e16 : (k : Int).tdiv 16 = (d16 : Int) := by rw [Int.tdiv_eq_ediv_of_nonneg (by omega)]; omega
  have em : (k : Int).tmod 8 = (r : Int) := by rw [Int.tmod_eq_emod_of_nonneg (by omega)]; omega
  have e2 : (d : Int).tmod 2 = (p2 : Int) := by rw [Int.tmod_eq_emod_of_nonneg (by omega)]; omega
  have hdb : d ≤ 31 ∧ d16 ≤ 15 ∧ p2 ≤ 1 ∧ r ≤ 7 := by omega
  have w8 : IntKind.u8.wrap (d : Int) = (d : Int) := by unfold IntKind.wrap; simp [IntKind.signed, IntKind.bits]; omega
  have w16 : IntKind.u8.wrap (d16 : Int) = (d16 : Int) := by unfold IntKind.wrap; simp [IntKind.signed, IntKind.bits]; omega
  have wr : IntKind.u8.wrap (r : Int) = (r : Int) := by unfold IntKind.wrap; simp [IntKind.signed, IntKind.bits]; omega
  have emo : IntKind.i64.wrap (1 + (d16 : Int)) = (mo : Int) := by rw [IntWalk.i64_in _ (by omega)]; omega
  have etd : IntKind.i64.wrap ((tick : Int) + (d : Int)) = (tick : Int) + (d : Int) := IntWalk.i64_in _ (by omega)
  have H := Lib.hid h
  have q0 : w.cell? ⟨pb, 0, none⟩ = some (.pointer (some ⟨x.b, 0, none⟩)) := h.cell rfl
  have q5 : w.cell? ⟨pb, 5, none⟩ = some x.fv := h.cell rfl
  have q8 : w.cell? ⟨pb, 8, none⟩ = some (.int .i64 tick) := h.cell rfl
  have hmo2 : 1 ≤ mo ∧ mo ≤ 1000 := by omega
  replace hd := Lib.hid hd; replace hd16 := Lib.hid hd16; replace hp2 := Lib.hid hp2; replace hmo := Lib.hid hmo; replace hr := Lib.hid hr
  have F0 : Hid (Po bg w B pb x tick (j + 1) (f + 1)) := h.mono (by omega) hj (by omega)
  clear h
  by_cases e0 : x.fl = []
  · obtain ⟨fa, fc, efv, -⟩ := H.out.fly
    rw [e0] at efv
    simp only [List.length_nil] at efv
    rw [efv] at q5
    clear e0 efv
    rcases (show r = 0 ∨ r = 1 ∨ r = 2 ∨ r = 3 ∨ r = 4 ∨ r = 5 ∨ r = 6 ∨ r = 7 by omega) with rfl | rfl | rfl | rfl | rfl | rfl | rfl | rfl
    · have PT := Lib.hid (put_q H.out hj (-1) (by omega))
      go_enter Tryz.func6, Tryz.ntmps6
      go_wp2_with fail
      refine PT.out.mono ?_
      rintro e w1 ⟨rfl, x', P⟩
      replace P := Lib.hid P
      go_wp2_with fail
      go_end0
      exact ⟨rfl, x', tick, by omega, P.out.mono (by omega) hj (by omega)⟩
    · have PT := Lib.hid (put_q H.out hj ((tick : Int) + (d : Int)) (by omega))
      go_enter Tryz.func6, Tryz.ntmps6
      go_wp2_with fail
      refine PT.out.mono ?_
      rintro e w1 ⟨rfl, x', P⟩
      replace P := Lib.hid P
      go_wp2_with fail
      go_end0
      exact ⟨rfl, x', tick, by omega, P.out.mono (by omega) hj (by omega)⟩
    · have SN := Lib.hid (send_q H.out (by omega) (by omega) p2 mo (by omega) hmo2.1 hmo2.2)
      go_enter Tryz.func6, Tryz.ntmps6
      go_wp2_with fail
      refine SN.out.mono ?_
      rintro e w1 ⟨rfl, x1, x', -, -, P⟩
      replace P := Lib.hid P
      go_wp2_with fail
      go_end0
      exact ⟨rfl, x', tick + 1, by omega, P.out.mono (by omega) hj (by omega)⟩
    · have SN := Lib.hid (send_q H.out (by omega) (by omega) p2 mo (by omega) hmo2.1 hmo2.2)
      go_enter Tryz.func6, Tryz.ntmps6
      go_wp2_with fail
      refine SN.out.mono ?_
      rintro e w1 ⟨rfl, x1, x', -, -, P⟩
      replace P := Lib.hid P
      go_wp2_with fail
      go_end0
      exact ⟨rfl, x', tick + 1, by omega, P.out.mono (by omega) hj (by omega)⟩
    · skip
      go_enter Tryz.func6, Tryz.ntmps6
      go_wp2_with fail
      go_end0
      exact ⟨rfl, x, tick, by omega, F0.out⟩
    · have TQ := Lib.hid (take_q H.out)
      go_enter Tryz.func6, Tryz.ntmps6
      go_wp2_with fail
      refine TQ.out.mono ?_
      rintro e w1 ⟨rfl, x', -, -, -, -, -, P⟩
      replace P := Lib.hid P
      go_wp2_with fail
      go_end0
      exact ⟨rfl, x', tick, by omega, P.out.mono (by omega) hj (by omega)⟩
    · by_cases c224 : (224 : Int) ≤ (k : Int)
      · have VQ := Lib.hid (travel_q H.out)
        go_enter Tryz.func6, Tryz.ntmps6
        go_wp2_with fail
        refine VQ.out.mono ?_
        rintro e w1 ⟨rfl, x', P⟩
        replace P := Lib.hid P
        go_wp2_with fail
        go_end0
        exact ⟨rfl, x', tick, by omega, P.out.mono (by omega) hj (by omega)⟩
      · skip
        go_enter Tryz.func6, Tryz.ntmps6
        go_wp2_with fail
        go_end0
        exact ⟨rfl, x, tick, by omega, F0.out⟩
    · have CN := Lib.hid (cancel_q H.out (d : Int))
      go_enter Tryz.func6, Tryz.ntmps6
      go_wp2_with fail
      refine CN.out.mono ?_
      rintro e w1 ⟨v, x', rfl, P⟩
      replace P := Lib.hid P
      go_wp2_with fail
      go_end0
      exact ⟨rfl, x', tick, by omega, P.out.mono (by omega) hj (by omega)⟩
  · obtain ⟨g, fc, efv, hcl⟩ := ev_flies H.out e0
    obtain ⟨m, hm⟩ : ∃ m, x.fl.length = m := ⟨_, rfl⟩
    have hm0 : 0 < m := by rw [← hm]; exact List.length_pos_iff.2 e0
    have hm1 : m ≤ f := by rw [← hm]; exact H.out.inv.fn
    obtain ⟨idx, hi⟩ : ∃ i, d % m = i := ⟨_, rfl⟩
    have hidx : idx < m := by rw [← hi]; exact Nat.mod_lt _ hm0
    have eidx : (d : Int).tmod (m : Int) = (idx : Int) := by rw [Int.tmod_eq_emod_of_nonneg (by omega), ← hi]; omega
    have ewi : IntKind.i64.wrap (idx : Int) = (idx : Int) := IntWalk.i64_in _ (by omega)
    have ewi1 : IntKind.i64.wrap ((idx : Int) + 1) = (idx : Int) + 1 := IntWalk.i64_in _ (by omega)
    obtain ⟨y, hy⟩ : ∃ y, x.fl[idx]? = some y := ⟨x.fl[idx]'(by omega), by simp [show idx < x.fl.length by omega]⟩
    have hym := List.mem_of_getElem? hy
    obtain ⟨c0, c1⟩ := hcl idx y hy
    rw [hm] at efv
    have EFV := Lib.hid efv
    rw [efv] at q5
    have HM := Lib.hid hm
    have hmp : (0 : Int) < (m : Int) := by omega
    have hmn : ¬ (m : Int) = 0 := by omega
    have hix : (idx : Int) < (m : Int) := by omega
    clear e0 efv hcl hm hi hy
    rcases (show r = 0 ∨ r = 1 ∨ r = 2 ∨ r = 3 ∨ r = 4 ∨ r = 5 ∨ r = 6 ∨ r = 7 by omega) with rfl | rfl | rfl | rfl | rfl | rfl | rfl | rfl
    · have PT := Lib.hid (put_q H.out hj (-1) (by omega))
      go_enter Tryz.func6, Tryz.ntmps6
      go_wp2_with fail
      refine PT.out.mono ?_
      rintro e w1 ⟨rfl, x', P⟩
      replace P := Lib.hid P
      go_wp2_with fail
      go_end0
      exact ⟨rfl, x', tick, by omega, P.out.mono (by omega) hj (by omega)⟩
    · have PT := Lib.hid (put_q H.out hj ((tick : Int) + (d : Int)) (by omega))
      go_enter Tryz.func6, Tryz.ntmps6
      go_wp2_with fail
      refine PT.out.mono ?_
      rintro e w1 ⟨rfl, x', P⟩
      replace P := Lib.hid P
      go_wp2_with fail
      go_end0
      exact ⟨rfl, x', tick, by omega, P.out.mono (by omega) hj (by omega)⟩
    · have SN := Lib.hid (send_q H.out (by omega) (by omega) p2 mo (by omega) hmo2.1 hmo2.2)
      go_enter Tryz.func6, Tryz.ntmps6
      go_wp2_with fail
      refine SN.out.mono ?_
      rintro e w1 ⟨rfl, x1, x', -, -, P⟩
      replace P := Lib.hid P
      go_wp2_with fail
      go_end0
      exact ⟨rfl, x', tick + 1, by omega, P.out.mono (by omega) hj (by omega)⟩
    · have SN := Lib.hid (send_q H.out (by omega) (by omega) p2 mo (by omega) hmo2.1 hmo2.2)
      go_enter Tryz.func6, Tryz.ntmps6
      go_wp2_with fail
      refine SN.out.mono ?_
      rintro e w1 ⟨rfl, x1, x', -, -, P⟩
      replace P := Lib.hid P
      go_wp2_with fail
      go_end0
      exact ⟨rfl, x', tick + 1, by omega, P.out.mono (by omega) hj (by omega)⟩
    · have DQ := Lib.hid (deliver_any H.out y hym)
      go_enter Tryz.func6, Tryz.ntmps6
      go_wp2_with fail
      refine DQ.out.mono ?_
      rintro e w1 ⟨rfl, t', P⟩
      replace P := Lib.hid P
      have y5 : w1.cell? ⟨pb, 5, none⟩ = some x.fv := P.out.cell rfl
      rw [EFV.out] at y5
      by_cases c128 : (k : Int) < 128
      · have DL := del_q P.out idx (by show idx < x.fl.length; rw [HM.out]; exact hidx)
        dsimp only at DL
        rw [EFV.out] at DL
        replace DL := Lib.hid DL
        go_wp2_with fail
        refine DL.out.mono ?_
        rintro e w2 ⟨va, vm, vc, rfl, hz, hfz, hcell, hc5, P2⟩
        replace P2 := Lib.hid P2
        clear hcell DL
        go_wp2_with fail
        go_end0
        exact ⟨rfl, _, tick, by omega, P2.out.mono (by omega) hj (by omega)⟩
      · go_wp2_with fail
        go_end0
        exact ⟨rfl, _, tick, by omega, P.out.mono (by omega) hj (by omega)⟩
    · have TQ := Lib.hid (take_q H.out)
      go_enter Tryz.func6, Tryz.ntmps6
      go_wp2_with fail
      refine TQ.out.mono ?_
      rintro e w1 ⟨rfl, x', -, -, -, -, -, P⟩
      replace P := Lib.hid P
      go_wp2_with fail
      go_end0
      exact ⟨rfl, x', tick, by omega, P.out.mono (by omega) hj (by omega)⟩
    · by_cases c224 : (224 : Int) ≤ (k : Int)
      · have VQ := Lib.hid (travel_q H.out)
        go_enter Tryz.func6, Tryz.ntmps6
        go_wp2_with fail
        refine VQ.out.mono ?_
        rintro e w1 ⟨rfl, x', P⟩
        replace P := Lib.hid P
        go_wp2_with fail
        go_end0
        exact ⟨rfl, x', tick, by omega, P.out.mono (by omega) hj (by omega)⟩
      · have DL := del_q H.out idx (by rw [HM.out]; exact hidx)
        rw [EFV.out] at DL
        replace DL := Lib.hid DL
        go_enter Tryz.func6, Tryz.ntmps6
        go_wp2_with fail
        refine DL.out.mono ?_
        rintro e w2 ⟨va, vm, vc, rfl, hz, hfz, hcell, hc5, P2⟩
        replace P2 := Lib.hid P2
        clear hcell DL
        go_wp2_with fail
        go_end0
        exact ⟨rfl, _, tick, by omega, P2.out.mono (by omega) hj (by omega)⟩
    · have CN := Lib.hid (cancel_q H.out (d : Int))
      go_enter Tryz.func6, Tryz.ntmps6
      go_wp2_with fail
      refine CN.out.mono ?_
      rintro e w1 ⟨v, x', rfl, P⟩
      replace P := Lib.hid P
      go_wp2_with fail
      go_end0
      exact ⟨rfl, x', tick, by omega, P.out.mono (by omega) hj (by omega)⟩
end Go.Proofs.YtkaaoomliepijaaGreat
namespace Go.Proofs.YtkaaoomliepijaaGreat
open Go.RowKit
set_option linter.unusedVariables false

theorem begL_cons (m : Msg) (l : List Msg) : begL (m :: l) = (if m.st = 2 ∨ m.st = 3 then [m.data] else []) ++ begL l := by
  show (if m.st = 2 ∨ m.st = 3 then m.data :: begL l else begL l) = _
  split <;> rfl
theorem begL_append : ∀ (a b : List Msg), begL (a ++ b) = begL a ++ begL b
  | [], b => rfl
  | m :: a, b => by
    rw [List.cons_append, begL_cons, begL_cons, begL_append a b, List.append_assoc]
/-- The list under way: rows of data of the first k messages. -/
structure PfAt (w wr : World) (x : PoV) (g : List Msg → List (List Int)) (k : Nat) (v : Value) (wl : List RwB) : Prop where
  v : Vw RwB.val 22 wr w.heap.size v wl
  m : wl.map RwB.d = g (x.ms.take k)
  s : ∀ r ∈ wl, r ∈ x.dl
  b : Below w.heap.size w wr
def PfRel (w : World) (x : PoV) (g : List Msg → List (List Int)) (n : Nat) (v ix : Value) (wr : World) : Prop := ∃ (k : Nat) (wl : List RwB) (a : Option Addr) (m c : Nat), k ≤ n ∧ ix = .int .i64 k ∧ v = .slice a m c ∧ Hid (wl.length = m) ∧ m ≤ k ∧ Hid (PfAt w wr x g k v wl)
section
variable {w wr w1 w' : World} {x : PoV} {g : List Msg → List (List Int)} {k : Nat} {v v' : Value} {wl : List RwB}
theorem PfAt.no (h : PfAt w wr x g k v wl) (q : Below wr.heap.size wr w') {m : Msg} (hm : x.ms[k]? = some m) (hg : g (x.ms.take (k + 1)) = g (x.ms.take k)) : PfAt w w' x g (k + 1) v wl :=
  ⟨h.v.below q, by rw [hg]; exact h.m, h.s, h.b.trans (q.mono h.b.size)⟩
theorem PfAt.yes (h : PfAt w wr x g k v wl) (q : Below wr.heap.size wr w1) {r : RwB} {m : Msg} (hr : x.dl[k]? = some r) (hm : x.ms[k]? = some m) (hd : x.dl.map RwB.d = x.ms.map Msg.data) (hg : g (x.ms.take (k + 1)) = g (x.ms.take k) ++ [m.data])
    (hv : Vw RwB.val 22 w' w.heap.size v' (wl ++ [r])) (u : Upd (fun k => v.ownBlock = some k) w1 w') : PfAt w w' x g (k + 1) v' (wl ++ [r]) := by
  have e : r.d = m.data := by
    have h1 := congrArg (fun l => l[k]?) hd
    simpa [List.getElem?_map, hr, hm] using h1
  refine ⟨hv, ?_, fun y hy => ?_, Upd.below (h.b.trans (q.mono h.b.size)) u (Nat.le_trans h.b.size q.size) (fun i hi => (h.v.lt hi).1)⟩
  · rw [hg, List.map_append, h.m]; simp [e]
  · rcases List.mem_append.1 hy with hy | hy
    · exact h.s y hy
    · obtain rfl := List.mem_singleton.1 hy
      exact List.mem_of_getElem? hr
end
theorem pf_sl {w : World} (r : RwB) (v : Value) (hv : r.val = v) : Sl RwB.val (w.alloc (.cells #[v] 22)) (some ⟨w.heap.size, 0, none⟩) [r] := fun i y hi => by
  cases i with
  | zero =>
    have : r = y := by simpa using hi
    subst this
    rw [hv]
    exact ⟨rfl, (Blk.new w 22 [v]).cell rfl⟩
  | succ i => simp at hi
theorem beg_step {ms : List Msg} {k : Nat} {m : Msg} (hm : ms[k]? = some m) : begL (ms.take (k + 1)) = begL (ms.take k) ++ (if m.st = 2 ∨ m.st = 3 then [m.data] else []) := by
  rw [List.take_add_one, hm]
  show begL (ms.take k ++ [m]) = _
  rw [begL_append, begL_cons]
  show begL (ms.take k) ++ (_ ++ []) = _
  rw [List.append_nil]
set_option maxHeartbeats 16000000 in
set_option maxRecDepth 100000 in
theorem prefix_q (bg w : World) (B pb tick j f : Nat) (x : PoV) (h : Po bg w B pb x tick j f) :
    Calls Tryz.prog 7 #[.pointer (some ⟨pb, 0, none⟩)] w fun e w' => e = .returned (.bool true) ∧ Po bg w' B pb x tick j f := by
  have H := Lib.hid h
  have I := Lib.hid h.inv
  obtain ⟨n, hn⟩ : ∃ n, x.dl.length = n := ⟨_, rfl⟩
  have hmn : Hid (x.ms.length = n) := by show _ = _; have := len_map I.out.dl; rw [List.length_map] at this; omega
  have hn100 : n ≤ 100 := by have := I.out.mi.l; have := I.out.jl; have := hmn.out; omega
  have q0 : w.cell? ⟨pb, 0, none⟩ = some (.pointer (some ⟨x.b, 0, none⟩)) := h.cell rfl
  have q6 : w.cell? ⟨pb, 6, none⟩ = some x.dv := h.cell rfl
  obtain ⟨da, dc, edv⟩ : ∃ a c, x.dv = .slice a n c := by obtain ⟨col, P, _⟩ := h; obtain ⟨a, c, e⟩ := P.m.da.h.shape; exact ⟨a, c, by rw [e, hn]⟩
  have DS : Hid (Sl RwB.val w da x.dl) := by
    obtain ⟨col, P, _⟩ := h
    have := P.m.da.h
    rw [edv] at this
    exact this.sl
  rw [edv] at q6
  have Q0 := Lib.hid (fun w' (q : Below w.heap.size w w') => (h.bel q))
  have HN := Lib.hid hn
  have hbs : B ≤ w.heap.size := by obtain ⟨col, P, _⟩ := h; exact P.m.bs
  obtain ⟨i1, hi, hz0, hz1, hz2⟩ := info_parts Tryz.infoRw
  have JI := Lib.hid hi; have JZ0 := Lib.hid hz0; have JZ1 := Lib.hid hz1; have JZ2 := Lib.hid hz2
  have T0 : Hid (PfAt w w x begL 0 (.slice none 0 0) []) := ⟨Vw.nil _ _ _ _, by simp [begL], (fun r hr => by cases hr), Below.refl _ _⟩
  clear h hn edv hi hz0 hz1 hz2
  go_enter Tryz.func7, Tryz.ntmps7
  go_wp2_with fail
  go_loopw [3, 12] (fun v ix wr => PfRel w x begL n v ix wr) (fun _ ix _ => n - (intOf ix).toNat)
  case atStart => exact ⟨0, [], none, 0, 0, Nat.zero_le _, rfl, rfl, rfl, Nat.le_refl _, T0⟩
  case round =>
    clear T0
    obtain ⟨k, wl, va, vm, vc, hk, rfl, rfl, hwl, hvm, T⟩ := hrel
    by_cases hkn : k < n
    · obtain ⟨r, hr⟩ : ∃ r, x.dl[k]? = some r := ⟨x.dl[k]'(by rw [HN.out]; exact hkn), by simp [show k < x.dl.length by rw [HN.out]; exact hkn]⟩
      obtain ⟨m, hm⟩ : ∃ m, x.ms[k]? = some m := ⟨x.ms[k]'(by rw [hmn.out]; exact hkn), by simp [show k < x.ms.length by rw [hmn.out]; exact hkn]⟩
      obtain ⟨oka, cka⟩ := (DS.out.below T.out.b) k r hr
      obtain ⟨ra, rm, rc, erv⟩ : ∃ a m c, r.val = .slice a m c := ⟨_, _, _, rfl⟩
      rw [erv] at cka
      have ST := state_q (Q0.out wr T.out.b) (k : Int)
      have est : stOf (x.ms.map Msg.st) (k : Int) = (m.st : Int) := by
        unfold stOf
        rw [if_neg (by omega), Int.toNat_natCast, List.getElem?_map, hm]
        rfl
      rw [est] at ST
      replace ST := Lib.hid ST
      have p0 : wr.cell? ⟨pb, 0, none⟩ = some (.pointer (some ⟨x.b, 0, none⟩)) := (Q0.out wr T.out.b).cell rfl
      have BS := Lib.hid (beg_step hm)
      have HR := Lib.hid hr; have HMk := Lib.hid hm; have ERV := Lib.hid erv
      obtain ⟨st, hst⟩ : ∃ s, m.st = s := ⟨_, rfl⟩
      rw [hst] at ST BS
      clear hr hm erv est hst
      by_cases c2 : st = 2 ∨ st = 3
      · have e2 : Hid (begL (x.ms.take (k + 1)) = begL (x.ms.take k) ++ [m.data]) := by have := BS.out; rw [if_pos c2] at this; exact this
        have A4 := Lib.hid (alloc_belQ wr (.cells #[.slice ra rm rc] 22))
        have SR := Lib.hid (pf_sl (w := wr) r (.slice ra rm rc) ERV.out)
        have V4 := Lib.hid (T.out.v.below A4.out)
        have zr : w.heap.size ≤ wr.heap.size := T.out.b.size
        clear BS
        rcases c2 with rfl | rfl
        all_goals
          go_wp2_with fail
          refine ST.out.mono ?_
          rintro e w2 ⟨rfl, hw⟩
          subst hw
          clear ST
          go_wp2_with (at_builtin; refine wpList_append_vw rfl _ _ 31 rfl w.heap.size 22 i1 _ 24 Tryz.underlying31 JI.out JZ0.out JZ1.out JZ2.out rfl RwB.val (fun _ => rfl) (.slice va vm vc) wl rfl V4.out (some ⟨wr.heap.size, 0, none⟩) 1 [r] (by simp [Act.eval, Act.put]) SR.out ?c1 ?c2 ?c3 ?_)
          case c1 => rw [hwl.out]; unfold maxLen; simp; omega
          case c2 => rw [hwl.out]; simp; omega
          case c3 => simp; omega
          intro v6 w6 g1 g2 g3
          obtain ⟨va6, m6, vc6, e6⟩ : ∃ a m c, v6 = .slice a m c := by obtain ⟨a, c, e⟩ := g1.shape; exact ⟨a, _, c, e⟩
          have hm6 : Hid ((wl ++ [r]).length = m6) := by
            obtain ⟨a, c, e⟩ := g1.shape
            rw [e6] at e
            injection e with _ e _
            exact e.symm
          subst e6
          have T6 := Lib.hid (T.out.yes A4.out HR.out HMk.out I.out.dl e2.out g1 g2)
          have hm7 : m6 ≤ k + 1 := by have := hm6.out; rw [List.length_append, hwl.out] at this; simp at this; omega
          clear g1 g2 g3 A4 SR V4
          go_wp2_with fail
          go_roundw
          case rel => exact ⟨k + 1, _, _, _, _, by omega, by go_num, rfl, hm6, by omega, T6⟩
          case measure => simp [intOf]; omega
      · have e2 : begL (x.ms.take (k + 1)) = begL (x.ms.take k) := by have := BS.out; rw [if_neg c2, List.append_nil] at this; exact this
        have T6 := Lib.hid (T.out.no (Below.refl _ _) HMk.out e2)
        have n2 : ((st : Int) == 2) = false := by rw [beq_eq_false_iff_ne]; omega
        have n3 : ((st : Int) == 3) = false := by rw [beq_eq_false_iff_ne]; omega
        have n4 : ¬ (st : Int) = 2 := by omega
        have n5 : ¬ (st : Int) = 3 := by omega
        clear BS e2
        go_wp2_with fail
        refine ST.out.mono ?_
        rintro e w2 ⟨rfl, hw⟩
        subst hw
        clear ST
        go_wp2_with fail
        go_roundw
        case rel => exact ⟨k + 1, wl, va, vm, vc, by omega, by go_num, rfl, hwl, by omega, T6⟩
        case measure => simp [intOf]; omega
    · have hk2 : k = n := by omega
      subst hk2
      have em := T.out.m
      rw [List.take_of_length_le (by rw [hmn.out]; omega)] at em
      obtain ⟨-, z, hz⟩ := out_pre I.out.mi.a (by rw [hmn.out]; omega) x.t.rd
      rw [← I.out.ol, ← em] at hz
      obtain ⟨oa, om, oc, eov⟩ : ∃ a m c, x.ov = .slice a m c := by obtain ⟨col, P, _⟩ := H.out; obtain ⟨a, c, e⟩ := P.m.ou.h.shape; exact ⟨a, _, c, e⟩
      have ho : Hid (x.ol.length = om) := by
        obtain ⟨col, P, _⟩ := H.out
        obtain ⟨a, c, e⟩ := P.m.ou.h.shape
        rw [eov] at e
        injection e with _ e _
        exact e.symm
      have hlen : om ≤ vm := by
        have := congrArg List.length hz
        rw [List.length_append, List.length_map, List.length_map, hwl.out, ho.out] at this
        omega
      have P := Q0.out wr T.out.b
      have p7 : wr.cell? ⟨pb, 7, none⟩ = some x.ov := P.cell rfl
      rw [eov] at p7
      have RO : RdB wr oa x.ol := by
        obtain ⟨col, P, _⟩ := P
        have := P.m.ou.h
        rw [eov] at this
        exact ⟨this.sl, fun r hr => (P.m.ou.r r hr).1⟩
      have hne : ∀ r ∈ x.ol, r.d ≠ [] := by
        obtain ⟨col, P, _⟩ := P
        exact fun r hr => (P.m.ou.r r hr).2.1
      have RW : RdB wr va (wl.take om) := by
        obtain ⟨col, P, _⟩ := P
        exact ⟨Sl.pre T.out.v.sl om, fun r hr => (P.m.da.r r (T.out.s r (List.mem_of_mem_take hr))).1⟩
      have hvc : vm ≤ vc ∧ vc ≤ maxLen := by
        rcases T.out.v with ⟨e1, e2⟩ | ⟨g, o, c', e1, _, _, h3, h4, _⟩
        · injection e1 with _ e3 e4
          rw [e3, e4]; unfold maxLen; omega
        · injection e1 with _ e3 e4
          omega
      have hol : (x.ol.map RwB.d).length = om := by rw [List.length_map]; exact ho.out
      have EQ := eqf_yes wr.drew oa va oc vc x.ol (wl.take om) (RO.below (Qt.refl _).drew.bel) (RW.below (Qt.refl _).drew.bel) (by rw [List.map_take, hz, List.take_append_of_le_length (Nat.le_of_eq hol.symm), List.take_of_length_le (Nat.le_of_eq hol)]) hne (by have := ho.out; have := hwl.out; omega)
      rw [ho.out, List.length_take, hwl.out, Nat.min_eq_left hlen] at EQ
      replace EQ := Lib.hid EQ
      have hvc1 := hvc.1
      have hvc2 : (om : Int) ≤ (vc : Int) := by omega
      have hvc3 : (om : Int) ≤ (vm : Int) := by omega
      replace P := Lib.hid P
      clear hol em hz eov RO RW hne hvc Q0 q0 q6
      go_upto_region 9 with (fail)
      refine wp_region_allH (fun wx => wx.cell? ⟨pb, 7, none⟩ = some (.slice oa om oc)) 23 (by kernel_rfl) rfl ?_ (fun hHeld => ?_)
      · (exact p7)
      refine wpAnyH_takeG (i := 0) (v := ?_) rfl (by kernel_rfl) (by kernel_rfl) (by kernel_rfl) (fun _ _ _ h => h) rfl ?_ hHeld ?_
      rotate_left
      · intro w hSw
        try dsimp only at hSw
        go_simp
        all_goals with_reducible rfl
      try simp only [Act.put, List.setIfInBounds_toArray, List.set_cons_zero, List.set_cons_succ]
      refine wpAnyH_takeG (i := 1) (v := ?_) rfl (by kernel_rfl) (by kernel_rfl) (by kernel_rfl) (fun _ _ _ h => h) rfl ?_ hHeld ?_
      rotate_left
      · intro w hSw
        try dsimp only at hSw
        go_simp
        all_goals with_reducible rfl
      try simp only [Act.put, List.setIfInBounds_toArray, List.set_cons_zero, List.set_cons_succ]
      refine wpAnyH_takeG (i := 2) (v := ?_) rfl (by kernel_rfl) (by kernel_rfl) (by kernel_rfl) (fun _ _ _ h => h) rfl ?_ hHeld ?_
      rotate_left
      · intro w hSw
        try dsimp only at hSw
        go_simp
        all_goals with_reducible rfl
      try simp only [Act.put, List.setIfInBounds_toArray, List.set_cons_zero, List.set_cons_succ]
      refine wpAnyH_takeG (i := 3) (v := ?_) rfl (by kernel_rfl) (by kernel_rfl) (by kernel_rfl) (fun _ _ _ h => h) rfl ?_ hHeld ?_
      rotate_left
      · intro w hSw
        try dsimp only at hSw
        go_simp
        all_goals with_reducible rfl
      try simp only [Act.put, List.setIfInBounds_toArray, List.set_cons_zero, List.set_cons_succ]
      refine wpAnyH_takeG (i := 4) (v := ?_) rfl (by kernel_rfl) (by kernel_rfl) (by kernel_rfl) (fun _ _ _ h => h) rfl ?_ hHeld ?_
      rotate_left
      · intro w hSw
        try dsimp only at hSw
        go_simp
        all_goals with_reducible rfl
      try simp only [Act.put, List.setIfInBounds_toArray, List.set_cons_zero, List.set_cons_succ]
      refine wpAnyH_takeG (i := 5) (v := ?_) rfl (by kernel_rfl) (by kernel_rfl) (by kernel_rfl) (fun _ _ _ h => h) rfl ?_ hHeld ?_
      rotate_left
      · intro w hSw
        try dsimp only at hSw
        go_simp
        all_goals with_reducible rfl
      try simp only [Act.put, List.setIfInBounds_toArray, List.set_cons_zero, List.set_cons_succ]
      refine wpAnyH_takeG (i := 6) (v := ?_) rfl (by kernel_rfl) (by kernel_rfl) (by kernel_rfl) (fun _ _ _ h => h) rfl ?_ hHeld ?_
      rotate_left
      · intro w hSw
        try dsimp only at hSw
        go_simp
        all_goals with_reducible rfl
      try simp only [Act.put, List.setIfInBounds_toArray, List.set_cons_zero, List.set_cons_succ]
      refine wpAnyH_takeG (i := 7) (v := ?_) rfl (by kernel_rfl) (by kernel_rfl) (by kernel_rfl) (fun _ _ _ h => h) rfl ?_ hHeld ?_
      rotate_left
      · intro w hSw
        try dsimp only at hSw
        go_simp
        all_goals with_reducible rfl
      try simp only [Act.put, List.setIfInBounds_toArray, List.set_cons_zero, List.set_cons_succ]
      refine wpAnyH_takeG (i := 8) (v := ?_) rfl (by kernel_rfl) (by kernel_rfl) (by kernel_rfl) (fun _ _ _ h => h) rfl ?_ hHeld ?_
      rotate_left
      · intro w hSw
        try dsimp only at hSw
        go_simp
        all_goals with_reducible rfl
      try simp only [Act.put, List.setIfInBounds_toArray, List.set_cons_zero, List.set_cons_succ]
      refine wpAnyH_takeG (i := 9) (v := ?_) rfl (by kernel_rfl) (by kernel_rfl) (by kernel_rfl) (fun _ _ _ h => h) rfl ?_ hHeld ?_
      rotate_left
      · intro w hSw
        try dsimp only at hSw
        go_simp
        all_goals with_reducible rfl
      try simp only [Act.put, List.setIfInBounds_toArray, List.set_cons_zero, List.set_cons_succ]
      refine wpAnyH_takeG (i := 10) (v := ?_) rfl (by kernel_rfl) (by kernel_rfl) (by kernel_rfl) (fun _ _ _ h => h) rfl ?_ hHeld ?_
      rotate_left
      · intro w hSw
        try dsimp only at hSw
        go_simp
        all_goals with_reducible rfl
      try simp only [Act.put, List.setIfInBounds_toArray, List.set_cons_zero, List.set_cons_succ]
      refine wpAnyH_takeG (i := 11) (v := ?_) rfl (by kernel_rfl) (by kernel_rfl) (by kernel_rfl) (fun _ _ _ h => h) rfl ?_ hHeld ?_
      rotate_left
      · intro w hSw
        try dsimp only at hSw
        go_simp
        all_goals with_reducible rfl
      try simp only [Act.put, List.setIfInBounds_toArray, List.set_cons_zero, List.set_cons_succ]
      refine wpAnyH_takeG (i := 12) (v := ?_) rfl (by kernel_rfl) (by kernel_rfl) (by kernel_rfl) (fun _ _ _ h => h) rfl ?_ hHeld ?_
      rotate_left
      · intro w hSw
        try dsimp only at hSw
        go_simp
        all_goals with_reducible rfl
      try simp only [Act.put, List.setIfInBounds_toArray, List.set_cons_zero, List.set_cons_succ]
      refine wpAnyH_takeG (i := 13) (v := ?_) rfl (by kernel_rfl) (by kernel_rfl) (by kernel_rfl) (fun _ _ _ h => h) rfl ?_ hHeld ?_
      rotate_left
      · intro w hSw
        try dsimp only at hSw
        go_simp
        all_goals with_reducible rfl
      try simp only [Act.put, List.setIfInBounds_toArray, List.set_cons_zero, List.set_cons_succ]
      refine wpAnyH_takeG (i := 14) (v := ?_) rfl (by kernel_rfl) (by kernel_rfl) (by kernel_rfl) (fun _ _ _ h => h) rfl ?_ hHeld ?_
      rotate_left
      · intro w hSw
        try dsimp only at hSw
        go_simp
        all_goals with_reducible rfl
      try simp only [Act.put, List.setIfInBounds_toArray, List.set_cons_zero, List.set_cons_succ]
      refine wpAnyH_takeG (i := 15) (v := ?_) rfl (by kernel_rfl) (by kernel_rfl) (by kernel_rfl) (fun _ _ _ h => h) rfl ?_ hHeld ?_
      rotate_left
      · intro w hSw
        try dsimp only at hSw
        go_simp
        all_goals with_reducible rfl
      try simp only [Act.put, List.setIfInBounds_toArray, List.set_cons_zero, List.set_cons_succ]
      refine wpAnyH_takeG (i := 16) (v := ?_) rfl (by kernel_rfl) (by kernel_rfl) (by kernel_rfl) (fun _ _ _ h => h) rfl ?_ hHeld ?_
      rotate_left
      · intro w hSw
        try dsimp only at hSw
        go_simp
        all_goals with_reducible rfl
      try simp only [Act.put, List.setIfInBounds_toArray, List.set_cons_zero, List.set_cons_succ]
      refine wpAnyH_takeG (i := 17) (v := ?_) rfl (by kernel_rfl) (by kernel_rfl) (by kernel_rfl) (fun _ _ _ h => h) rfl ?_ hHeld ?_
      rotate_left
      · intro w hSw
        try dsimp only at hSw
        go_simp
        all_goals with_reducible rfl
      try simp only [Act.put, List.setIfInBounds_toArray, List.set_cons_zero, List.set_cons_succ]
      refine wpAnyH_takeG (i := 18) (v := ?_) rfl (by kernel_rfl) (by kernel_rfl) (by kernel_rfl) (fun _ _ _ h => h) rfl ?_ hHeld ?_
      rotate_left
      · intro w hSw
        try dsimp only at hSw
        go_simp
        all_goals with_reducible rfl
      try simp only [Act.put, List.setIfInBounds_toArray, List.set_cons_zero, List.set_cons_succ]
      refine wpAnyH_takeG (i := 19) (v := ?_) rfl (by kernel_rfl) (by kernel_rfl) (by kernel_rfl) (fun _ _ _ h => h) rfl ?_ hHeld ?_
      rotate_left
      · intro w hSw
        try dsimp only at hSw
        go_simp
        all_goals with_reducible rfl
      try simp only [Act.put, List.setIfInBounds_toArray, List.set_cons_zero, List.set_cons_succ]
      refine wpAnyH_step (i := 20) (by kernel_rfl) rfl (fun KK hK => ?_)
      (go_simp; refine EQ.out.mono ?_; rintro e w9 ⟨rfl, hw⟩; subst hw; go_wp2_with fail)
      refine hK.out _ _ ?_ (fun hHeld => ?_)
      · (exact p7)
      clear hK KK
      try simp only [Act.put, List.setIfInBounds_toArray, List.set_cons_zero, List.set_cons_succ]
      refine wpAnyH_takeG (i := 21) (v := ?_) rfl (by kernel_rfl) (by kernel_rfl) (by kernel_rfl) (fun _ _ _ h => h) rfl ?_ hHeld ?_
      rotate_left
      · intro w hSw
        try dsimp only at hSw
        go_simp
        all_goals with_reducible rfl
      try simp only [Act.put, List.setIfInBounds_toArray, List.set_cons_zero, List.set_cons_succ]
      refine wpAnyH_takeG (i := 22) (v := ?_) rfl (by kernel_rfl) (by kernel_rfl) (by kernel_rfl) (fun _ _ _ h => h) rfl ?_ hHeld ?_
      rotate_left
      · intro w hSw
        try dsimp only at hSw
        go_simp
        all_goals with_reducible rfl
      try simp only [Act.put, List.setIfInBounds_toArray, List.set_cons_zero, List.set_cons_succ]
      refine wpAnyH_done (by kernel_rfl) ?_ _
      go_wp2_with fail
      go_ret
      exact ⟨rfl, Po.bel P.out (Qt.refl _).drew.bel⟩
end Go.Proofs.YtkaaoomliepijaaGreat
