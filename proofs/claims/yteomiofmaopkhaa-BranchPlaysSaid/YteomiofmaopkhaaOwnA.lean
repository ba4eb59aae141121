/-
  Contract of own.
-/
import Derived.Test.YteomiofmaopkhaaOwnL
namespace Go.Proofs.Yteomiofmaopkhaa
open Go.RowKit
set_option linter.unusedVariables false

def oV (x : Int) (prow : List (RowOf Int)) (k : Nat) : List Int := ownIds x 0 ((prow.map RowOf.xs).take k)
def OnRel (w : World) (prow : List (RowOf Int)) (x : Int) (lv i : Value) (wr : World) : Prop :=
  ∃ j : Nat, j ≤ prow.length ∧ i = .int .i64 j ∧ wr.ownsRow w.heap.size 3 1 lv (oV x prow j).length ((oV x prow j).map (Value.int .i64)) ∧ Below w.heap.size w wr

set_option maxHeartbeats 4000000 in
set_option maxRecDepth 100000 in
theorem own_any (w : World) (a : Option Addr) (c : Nat) (prow : List (RowOf Int)) (hs : Sl RowOf.val w a prow) (hr : ∀ r ∈ prow, SlI w r.a r.xs ∧ r.xs.length ≤ maxLen) (hl : prow.length ≤ 1000) (x : Int) :
    Calls Try.prog 27 #[.slice a prow.length c, .int .i64 x] w (RwPost (.int .i64) 3 w (ownIds x 0 (prow.map RowOf.xs))) := by
  have S := Lib.hid hs; have R := Lib.hid hr
  obtain ⟨i0, hi, hz0, hz1, hz2⟩ := info_parts Try.infoBI
  have HI := Lib.hid hi; have HZ0 := Lib.hid hz0; have HZ1 := Lib.hid hz1; have HZ2 := Lib.hid hz2
  clear hs hr hi hz0 hz1 hz2
  go_enter Try.func27, Try.ntmps27
  go_wp2_with fail
  go_loopw [5, 10] (fun lv i wr => OnRel w prow x lv i wr) (fun _ i _ => prow.length - (intOf i).toNat)
  case atStart => exact ⟨0, Nat.zero_le _, rfl, ⟨by simp [oV, ownIds], .inl ⟨rfl, by simp [oV, ownIds]⟩⟩, Below.refl _ _⟩
  case round =>
    obtain ⟨j, hj, rfl, hown, hbel⟩ := hrel
    have OWN := Lib.hid hown; have HB := Lib.hid hbel
    clear hown hbel
    by_cases hlt : j < prow.length
    · obtain ⟨r, er⟩ : ∃ r, prow[j]? = some r := ⟨_, List.getElem?_eq_getElem hlt⟩
      obtain ⟨oka, c0⟩ := (S.out.below HB.out) j r er
      obtain ⟨al, cl, rfl, _⟩ := own_shape OWN.out
      have hbs := HB.out.size
      obtain ⟨r1, r2⟩ := R.out r (List.mem_of_getElem? er)
      have hst : Hid (oV x prow (j + 1) = oV x prow j ++ if x ∈ r.xs then [(j : Int)] else []) := ownIds_step (by rw [List.getElem?_map, er]; rfl)
      have hwl : (oV x prow j).length ≤ 1000 := by
        have := ownIds_len x ((prow.map RowOf.xs).take j) 0
        rw [List.length_take, List.length_map] at this
        unfold oV; omega
      obtain ⟨ra, rc, rx⟩ := r
      have C := Lib.hid (containsInt_any wr ra rc rx x (r1.below HB.out) r2)
      have c1 : wr.cell? (adr a j) = some (.slice ra rx.length rc) := c0
      clear r1 er c0
      dsimp only at hst
      go_wp2_with fail
      refine C.out.mono ?_
      rintro e w1 ⟨rfl, rfl⟩
      by_cases hm : x ∈ rx
      · have hd : decide (x ∈ rx) = true := by simpa using hm
        rw [hd]
        rw [if_pos hm] at hst
        clear hd hm
        go_wp2_with (at_builtin; refine wpList_append_own _ rfl _ _ 26 rfl w.heap.size 3 i0 _ 1 8 Try.underlying26 HI.out HZ0.out HZ1.out HZ2.out rfl (by decide) _ (oV x prow j).length ((oV x prow j).map (Value.int .i64)) rfl ?c0 ⟨w1.heap.size, 0, none⟩ 1 1 [.int .i64 j] rfl ?c1 ?c2 ?c3 ?c4 ?c5 ?c6 ?_)
        case c0 => exact OWN.out.alloc _
        case c1 => rfl
        case c2 => exact news_new (vs := [.int .i64 j]) rfl
        case c3 => intro u hu; simp at hu; subst hu; rfl
        case c4 => unfold maxLen; omega
        case c5 => omega
        case c6 => simp; omega
        intro v' w2 hown' hgr hnil
        have B2 : Hid (Below w.heap.size w w2) := ((HB.out.alloc hbs _).grown ⟨hgr.os, hgr.tape, hgr.output, hgr.size, hgr.block⟩ (by simp; omega) (fun j hj => (own_lt OWN.out hj).2))
        have OWN2 : Hid (w2.ownsRow w.heap.size 3 1 v' (oV x prow (j + 1)).length ((oV x prow (j + 1)).map (Value.int .i64))) := by
          show World.ownsRow _ _ _ _ _ _ _
          rw [hst.out, List.length_append, List.map_append]
          exact hown'
        clear hown' hgr hnil
        go_wp2_with fail
        go_roundw
        case rel => exact ⟨j + 1, by omega, by go_num, OWN2.out, B2.out⟩
        case measure => simp [intOf]; omega
      · have hd : decide (x ∈ rx) = false := by simpa using hm
        rw [hd]
        rw [if_neg hm, List.append_nil] at hst
        clear hd hm
        go_wp2_with fail
        go_roundw
        case rel => exact ⟨j + 1, by omega, by go_num, by rw [hst.out]; exact OWN.out, HB.out⟩
        case measure => simp [intOf]; omega
    · obtain rfl : j = prow.length := by omega
      have e : Hid (oV x prow prow.length = ownIds x 0 (prow.map RowOf.xs)) := by show _ = _; unfold oV; rw [← List.length_map (f := RowOf.xs), List.take_length]
      rw [e.out] at OWN
      go_wp2_with fail
      go_ret
      exact ⟨_, rfl, Rw.of_own (n := (ownIds x 0 (prow.map RowOf.xs)).length) OWN.out, HB.out⟩
end Go.Proofs.Yteomiofmaopkhaa
