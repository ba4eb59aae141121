/-
  Contract of Waiting.
-/
import Derived.Test.YteomiofmaopkhaaBrFork
namespace Go.Proofs.Yteomiofmaopkhaa
open Go.RowKit
set_option linter.unusedVariables false

def wIds (fs : List Fr) (k : Nat) : List Int := (fs.filter (fun x => hasB x.bits k)).map Fr.id
def wV (fs : List Fr) (k j : Nat) : List Int := wIds (fs.take j) k
theorem wV_yes {fs : List Fr} {k j : Nat} {x : Fr} (h : fs[j]? = some x) (hb : hasB x.bits k = true) : wV fs k (j + 1) = wV fs k j ++ [x.id] := by
  unfold wV wIds
  rw [List.take_add_one, h, List.filter_append]
  simp [hb]
theorem wV_no {fs : List Fr} {k j : Nat} {x : Fr} (h : fs[j]? = some x) (hb : hasB x.bits k = false) : wV fs k (j + 1) = wV fs k j := by
  unfold wV wIds
  rw [List.take_add_one, h, List.filter_append]
  simp [hb]
theorem wV_len (fs : List Fr) (k j : Nat) : (wV fs k j).length ≤ fs.length := by
  unfold wV wIds
  rw [List.length_map]
  exact Nat.le_trans (List.length_filter_le _ _) (by simp; omega)
def WtRel (w : World) (fs : List Fr) (k : Nat) (lv i : Value) (wr : World) : Prop :=
  ∃ j : Nat, j ≤ fs.length ∧ i = .int .i64 j ∧ wr.ownsRow w.heap.size 3 1 lv (wV fs k j).length ((wV fs k j).map (Value.int .i64)) ∧ Below w.heap.size w wr

set_option maxHeartbeats 4000000 in
set_option maxRecDepth 100000 in
theorem wait_any (w : World) (base b : Nat) (o room : Int) (v : Value) (fs : List Fr) (freed : Int) (h : FkAt w base b o room v fs freed) (hl : fs.length ≤ 1000) (k : Nat) (hko : (k : Int) < o) (ho : o ≤ 8) (h8 : ∀ x ∈ fs, x.bits < 256) :
    Calls Try.prog 25 #[.pointer (some ⟨b, 0, none⟩), .int .i64 k] w (RwPost (.int .i64) 3 w (wIds fs k)) := by
  have H := Lib.hid h; have H8 := Lib.hid h8
  obtain ⟨a, cp, rfl, _⟩ := own_shape h.own
  have q0 := h.hb.cell (i := 2) rfl
  have q1 := h.hb.cell (i := 0) rfl
  have hk8 : k < 8 := by omega
  obtain ⟨p, hp, s1, hp8⟩ := pw_any k hk8
  have g1 : ¬ (k : Int) < 0 := by omega
  have g2 : ¬ o ≤ (k : Int) := by omega
  obtain ⟨i0, hi, hz0, hz1, hz2⟩ := info_parts Try.infoBI
  have HI := Lib.hid hi; have HZ0 := Lib.hid hz0; have HZ1 := Lib.hid hz1; have HZ2 := Lib.hid hz2
  clear h hi hz0 hz1 hz2 h8
  go_enter Try.func25, Try.ntmps25
  go_wp2_with fail
  clear q0 q1
  go_loopw [5, 27] (fun lv i wr => WtRel w fs k lv i wr) (fun _ i _ => fs.length - (intOf i).toNat)
  case atStart => exact ⟨0, Nat.zero_le _, rfl, ⟨by simp [wV, wIds], .inl ⟨rfl, by simp [wV, wIds]⟩⟩, Below.refl _ _⟩
  case round =>
    obtain ⟨j, hj, rfl, hown, hbel⟩ := hrel
    have OWN := Lib.hid hown; have HB := Lib.hid hbel
    clear hown hbel
    by_cases hlt : j < fs.length
    · obtain ⟨x, ex, okx, c1, c2⟩ := (ownF_sl (H.out.below HB.out).own).get (k := j) hlt
      obtain ⟨al, cl, rfl, _⟩ := own_shape OWN.out
      have hbs := HB.out.size
      have hx8 := H8.out x (List.mem_of_getElem? ex.out)
      obtain ⟨xid, xb⟩ := x
      dsimp only at c1 c2 hx8
      obtain ⟨y, hy, s2⟩ := and_u64 xb p hx8 hp8
      have T := Lib.hid (test_u64 xb k p y hp hy)
      have hwl := wV_len fs k j
      cases hhb : hasB xb k with
      | true =>
        have t1 : ((y : Int) != 0) = true := by rw [T.out]; exact hhb
        have hst := Lib.hid (wV_yes ex.out hhb)
        clear hhb
        go_wp2_with fail
        go_quiet (fail)
        go_wp2_with (at_builtin; refine wpList_append_own _ rfl _ _ 26 rfl w.heap.size 3 i0 _ 1 8 Try.underlying26 HI.out HZ0.out HZ1.out HZ2.out rfl (by decide) _ (wV fs k j).length ((wV fs k j).map (Value.int .i64)) rfl ?c0 ⟨wr.heap.size + 1, 0, none⟩ 1 1 [.int .i64 xid] rfl ?c1 ?c2 ?c3 ?c4 ?c5 ?c6 ?_)
        case c0 => exact (OWN.out.alloc _).alloc _
        case c1 => rfl
        case c2 => exact news_new (vs := [.int .i64 xid]) (by simp)
        case c3 => intro u hu; simp at hu; subst hu; rfl
        case c4 => unfold maxLen; omega
        case c5 => omega
        case c6 => simp; omega
        intro v' w2 hown' hgr hnil
        have B2 : Hid (Below w.heap.size w w2) := (((HB.out.alloc hbs _).alloc (by simp; omega) _).grown ⟨hgr.os, hgr.tape, hgr.output, hgr.size, hgr.block⟩ (by simp; omega) (fun j hj => (own_lt OWN.out hj).2))
        have OWN2 : Hid (w2.ownsRow w.heap.size 3 1 v' (wV fs k (j + 1)).length ((wV fs k (j + 1)).map (Value.int .i64))) := by
          show World.ownsRow _ _ _ _ _ _ _
          rw [hst.out, List.length_append, List.map_append]
          exact hown'
        clear hown' hgr hnil
        go_wp2_with fail
        go_roundw
        case rel => exact ⟨j + 1, by omega, by go_num, OWN2.out, B2.out⟩
        case measure => simp [intOf]; omega
      | false =>
        have t1 : ((y : Int) != 0) = false := by rw [T.out]; exact hhb
        have hst := Lib.hid (wV_no ex.out hhb)
        clear hhb
        go_wp2_with fail
        go_quiet (fail)
        go_wp2_with fail
        go_roundw
        case rel =>
          refine ⟨j + 1, by omega, by go_num, ?_, ?_⟩
          · rw [hst.out]
            exact own_upd (S := fun _ => False) OWN.out (((Upd.refl _ _).alloc _).drewN _) (fun _ _ => id)
          · exact (HB.out.alloc hbs _).trans (((Qt.refl _).drewN _).below _)
        case measure => simp [intOf]; omega
    · obtain rfl : j = fs.length := by omega
      have e : Hid (wV fs k fs.length = wIds fs k) := by show _ = _; unfold wV; rw [List.take_length]
      rw [e.out] at OWN
      go_wp2_with fail
      go_ret
      exact ⟨_, rfl, Rw.of_own (n := (wIds fs k).length) OWN.out, HB.out⟩
end Go.Proofs.Yteomiofmaopkhaa
