/-
  Contracts of Lens and NewShelf.
-/
import Derived.Test.YtdfncgfcggpgdaaShelfB
namespace Go.Proofs.Ytdfncgfcggpgdaa
open Go.RowKit
set_option linter.unusedVariables false

def lensOf (rs : List RSt) : List Int := rs.map fun r => (r.xs.length : Int)
def lensV (rs : List RSt) (k : Nat) : List Value := ((lensOf rs).take k).map (Value.int .i64)
def LensRel (w : World) (base s : Nat) (rv : Value) (rs : List RSt) (lv i : Value) (wr : World) : Prop :=
  ∃ k : Nat, k ≤ rs.length ∧ i = .int .i64 k ∧ wr.ownsRow w.heap.size 3 1 lv k (lensV rs k) ∧ Below w.heap.size w wr

set_option maxHeartbeats 2000000 in
set_option maxRecDepth 100000 in
theorem lens_any (w : World) (base s : Nat) (rv : Value) (rs : List RSt) (h : ShAt w base s rv rs) (hl : rs.length ≤ 1000) :
    Calls Try.prog 38 #[.pointer (some ⟨s, 0, none⟩)] w (RwPost (.int .i64) 3 w (lensOf rs)) := by
  have H := Lib.hid h
  obtain ⟨a, cp, rfl, _⟩ := own_shape h.own
  have q0 := h.hs.cell (i := 0) rfl
  obtain ⟨i0, hi, hz0, hz1, hz2⟩ := info_parts Try.infoRI
  have HI := Lib.hid hi; have HZ0 := Lib.hid hz0; have HZ1 := Lib.hid hz1; have HZ2 := Lib.hid hz2
  clear h hi hz0 hz1 hz2
  go_enter Try.func38, Try.ntmps38
  go_wp2_with fail
  clear q0
  go_loopw [3, 13] (fun lv i wr => LensRel w base s (.slice a rs.length cp) rs lv i wr) (fun _ i _ => rs.length - (intOf i).toNat)
  case atStart => exact ⟨0, Nat.zero_le _, rfl, ⟨by simp [lensV], .inl ⟨rfl, rfl⟩⟩, Below.refl _ _⟩
  case round =>
    obtain ⟨k, hk, rfl, hown, hbel⟩ := hrel
    have OWN := Lib.hid hown; have HB := Lib.hid hbel
    clear hown hbel
    by_cases hlt : k < rs.length
    · have SR := Lib.hid (H.out.below HB.out)
      obtain ⟨r, hr⟩ : ∃ r, rs[k]? = some r := ⟨rs[k], by simp [hlt]⟩
      have HR := Lib.hid hr
      obtain ⟨hRI, _⟩ := SR.out.rings k r hr
      have hne : rs ≠ [] := by intro e; rw [e] at hlt; simp at hlt
      obtain ⟨oka, qc⟩ : okAd a = true ∧ wr.cell? (adr a k) = some (.pointer (some ⟨r.b, 0, none⟩)) := by
        obtain ⟨g, sp, ea, _, hbk, _⟩ := own_blk SR.out.own hne
        subst ea
        refine ⟨rfl, ?_⟩
        rw [adr_mk, Nat.zero_add]
        exact hbk.cell (i := k) (by rw [List.getElem?_append_left (by simpa using hlt), List.getElem?_map, hr]; rfl)
      have L := Lib.hid (lenI_any wr base r.b r.room r.v r.xs hRI)
      have hsh := own_shape OWN.out
      obtain ⟨al, cl, hlv, _⟩ := hsh
      have hbs := HB.out.size
      have htk : Hid (lensV rs k ++ [.int .i64 r.xs.length] = lensV rs (k + 1)) := by
        show _ = _
        unfold lensV
        rw [List.take_add_one, List.map_append]
        simp [lensOf, hr]
      clear hr hRI hne hlv
      go_wp2_with fail
      refine L.out.mono ?_
      rintro e w1 ⟨rfl, rfl⟩
      go_wp2_with (at_builtin; refine wpList_append_own _ rfl _ _ 49 rfl w.heap.size 3 i0 _ 1 8 Try.underlying49 HI.out HZ0.out HZ1.out HZ2.out rfl (by decide) _ k (lensV rs k) rfl ?c0 ⟨wr.heap.size, 0, none⟩ 1 1 [.int .i64 r.xs.length] rfl ?c1 ?c2 ?c3 ?c4 ?c5 ?c6 ?_)
      case c0 => exact OWN.out.alloc _
      case c1 => rfl
      case c2 => exact cell_one_new _ _ _
      case c3 => intro u hu; simp at hu; subst hu; rfl
      case c4 => unfold maxLen; omega
      case c5 => omega
      case c6 => simp; omega
      intro v' w2 hown' hgr hnil
      have B2 : Hid (Below w.heap.size w w2) := ((HB.out.alloc hbs _).grown hgr (by simp; omega) (fun j hj => (own_lt OWN.out hj).2))
      rw [htk.out] at hown'
      have OWN2 := Lib.hid hown'
      clear hown' hgr hnil
      go_wp2_with fail
      go_roundw
      case rel => exact ⟨k + 1, by omega, by go_num, OWN2.out, B2.out⟩
      case measure => simp [intOf]; omega
    · obtain rfl : k = rs.length := by omega
      go_wp2_with fail
      go_ret
      refine ⟨_, rfl, Rw.of_own (n := rs.length) ?_, HB.out⟩
      have e : (lensOf rs).take rs.length = lensOf rs := List.take_of_length_le (by simp [lensOf])
      have := OWN.out
      unfold lensV at this
      rw [e] at this
      exact this

theorem lens_nil (w : World) : Calls Try.prog 38 #[.pointer none] w fun e w' => e = .returned (.slice none 0 0) ∧ w = w' := by
  go_enter Try.func38, Try.ntmps38
  go_wp2
  go_ret
  exact ⟨rfl, rfl⟩

/-- What a shelf's classes hold: their rooms and values. -/
def qsOf (rs : List RSt) : List (Nat × List Int) := rs.map fun r => (r.room, r.xs)
end Go.Proofs.Ytdfncgfcggpgdaa
