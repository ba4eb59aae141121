/-
  Contract of values.
-/
import Derived.Test.YtdfncgfcggpgdaaAll
import Derived.Maps.OwnIn
namespace Go.Proofs.Ytdfncgfcggpgdaa
open Go.RowKit Go.Shelf
set_option linter.unusedVariables false
attribute [local go_sem] Oper.semAt_some

theorem KpB.app {box n₀ k : Nat} {t e : TypeId} {W w1 : World} {v v' : Value} {xs : List Value} {tmp : Obj} (hv : Boxed W box t v) (hte : t ≠ e) (hrow : W.ownsRow n₀ e 1 v k xs) (hgrow : (W.alloc tmp).grownBy w1 v.ownBlock)
    (hat : v'.ownBlock = v.ownBlock ∨ v'.ownBlock = some (W.heap.size + 1)) : KpB box W (w1.setCell ⟨box, 0, none⟩ v') := by
  have hv1 : Boxed w1 box t v := (hv.alloc tmp).kept hgrow (hv.not_row hte hrow)
  have hs := hgrow.size
  rw [World.size_alloc] at hs
  refine ⟨by simp; omega, fun u g hu hg => ?_, fun i o hi ho hb hn => ?_⟩
  · rw [(hv1.set v').cell] at hu
    obtain rfl := Option.some.inj hu
    rcases hat with h | h
    · exact .inl ⟨v, hv.cell, by rw [← h]; exact hg⟩
    · rw [h] at hg
      simp at hg
      right; omega
  · rw [heap_setCell_other _ _ _ _ hb, hgrow.block i (by simp; have := lt_of_get hi; omega) (fun h => hn v hv.cell h.symm), Below.heap_alloc _ _ _ (lt_of_get hi)]
    exact hi
def vEnc (p : Nat × Int) : Value := .int .i64 p.2
def ValRes (xs : List Int) (w : World) (e : Ending) (w' : World) : Prop := ∃ v, e = .returned (.tuple #[v, .bool true]) ∧ Rw (Value.int .i64) 3 w' w.heap.size v xs ∧ Below w.heap.size w w'
set_option maxRecDepth 100000 in
set_option maxHeartbeats 4000000 in
theorem values_in (w : World) (p : Option Addr) (zs : List Int) (hlen : zs.length ≤ 1000)
    (hseq : ∀ w' : World, Below w.heap.size w w' → ∀ Bs, w'.cell? ⟨Bs, 0, none⟩ = some (.pointer p) → w.heap.size + 2 < w'.heap.size → w'.cell? ⟨w.heap.size + 2, 0, none⟩ = some (.slice none 0 0) →
      SeqStopsK Fence.wide 5 Try.prog 44 #[.pointer (some ⟨Bs, 0, none⟩)] (fun x : Nat × Int => #[Value.int .i64 (x.1 : Int), Value.int .i64 x.2]) (KpB (w.heap.size + 2)) (fun ys => ys = prs zs zs.length)
        (fun pre => ∃ k, k ≤ zs.length ∧ pre = prs zs k) zs.length w') :
    CallsIn Fence.wide 6 Try.prog 28 #[.pointer p] w (ValRes zs w) := by
  obtain ⟨i0, hi, hz0, hz1, hz2⟩ := info_parts Try.infoRI
  have HI := Lib.hid hi; have HZ0 := Lib.hid hz0; have HZ1 := Lib.hid hz1; have HZ2 := Lib.hid hz2
  have HS := Lib.hid hseq
  clear hi hz0 hz1 hz2 hseq
  refine callsIn_of_wp_marks Try.func28 rfl trivial ?_ rfl
  simp only [Try.ntmps28, List.size_toArray, List.length_cons, List.length_nil, Nat.reduceAdd, Nat.reduceSub, Array.replicate_succ, Array.replicate_zero, List.push_toArray, List.append_toArray, List.nil_append, List.cons_append]
  gi_wp2_with fail
  refine ⟨trivial, ?_⟩
  refine (all_in p _ _).mono ?_
  rintro e w' ⟨rfl, rfl⟩
  have b0 := Boxed.new w 49 (.slice none 0 0)
  have b1 := Boxed.new (w.alloc (.cells #[.slice none 0 0] 49)) 4 (.bool false)
  have b2 := Boxed.new ((w.alloc (.cells #[.slice none 0 0] 49)).alloc (.cells #[.bool false] 4)) 49 (.slice none 0 0)
  have b3 := Boxed.new (((w.alloc (.cells #[.slice none 0 0] 49)).alloc (.cells #[.bool false] 4)).alloc (.cells #[.slice none 0 0] 49)) 46 (.pointer p)
  simp only [World.size_alloc] at b1 b2 b3
  have hB0 : Below w.heap.size w ((((w.alloc (.cells #[.slice none 0 0] 49)).alloc (.cells #[.bool false] 4)).alloc (.cells #[.slice none 0 0] 49)).alloc (.cells #[.pointer p] 46)) :=
    ((((Below.refl _ w).alloc (Nat.le_refl _) _).alloc (by simp) _).alloc (by simp; omega) _).alloc (by simp; omega) _
  gi_wp2_with fail
  have hc2 := ((b2.alloc (.cells #[.pointer p] 46)) : Boxed _ (w.heap.size + 1 + 1) 49 (.slice none 0 0))
  have hr0 := ((((b0.alloc (.cells #[.bool false] 4)).alloc (.cells #[.slice none 0 0] 49)).alloc (.cells #[.pointer p] 46)) : Boxed _ w.heap.size 49 (.slice none 0 0))
  have hr1 := (((b1.alloc (.cells #[.slice none 0 0] 49)).alloc (.cells #[.pointer p] 46)) : Boxed _ (w.heap.size + 1) 4 (.bool false))
  have hsz : ((((w.alloc (.cells #[.slice none 0 0] 49)).alloc (.cells #[.bool false] 4)).alloc (.cells #[.slice none 0 0] 49)).alloc (.cells #[.pointer p] 46)).heap.size = w.heap.size + 4 := by simp
  clear b0 b1 b2
  generalize ((((w.alloc (.cells #[.slice none 0 0] 49)).alloc (.cells #[.bool false] 4)).alloc (.cells #[.slice none 0 0] 49)).alloc (.cells #[.pointer p] 46)) = W0 at *
  have HSZ := Lib.hid hsz
  have hsz2 : w.heap.size + 4 ≤ W0.heap.size := by omega
  have hboxed : ∀ (B : Nat) (t : TypeId) (v : Value), Own (fun (_ : List (Nat × Int)) W => Boxed W B t v) := by
    rintro B t v s X Y row hv hg hrow
    refine hv.kept hg (fun e' => ?_)
    obtain ⟨o, ho, hc⟩ := hrow B e'.symm
    rw [show X.heap[B]? = _ from hv] at ho
    cases ho
    cases hc
  clear hsz
  refine wpIn_rangeFunc_ownG rfl (by omega) (gf := 44) (lb := #[.pointer (some ⟨w.heap.size + 1 + 1 + 1, 0, none⟩)]) rfl trivial (enters_of Try.func44 (by kernel_rfl) rfl)
    (HS.out W0 hB0 (w.heap.size + 1 + 1 + 1) b3.cell (by omega) hc2.cell) KpB.trans (KpB.putObj (by omega)) (Below.refl _ _) (fun _ => rfl)
    (fun (pre : List (Nat × Int)) (W : World) => ((∃ v, Boxed W (w.heap.size + 1 + 1) 49 v ∧ W.ownsRow w.heap.size 3 1 v pre.length (pre.map vEnc) ∧ True) ∧ (Boxed W w.heap.size 49 (.slice none 0 0) ∧ Boxed W (w.heap.size + 1) 4 (.bool false))) ∧ Below w.heap.size w W)
    (fun (c : Code) (pre : List (Nat × Int)) (_ : World) => c = .ret ∧ ∃ (ini : List (Nat × Int)) (last : Nat × Int), pre = ini ++ [last] ∧ ¬ (last.1 : Int) = (ini.length : Int))
    (OwnFrom.and (OwnFrom.and (Own.from (holdsRow_own w.heap.size (w.heap.size + 1 + 1) 49 3 1 (fun (pre : List (Nat × Int)) => pre.length) (fun (pre : List (Nat × Int)) => pre.map vEnc) (fun _ _ => True)) _) (OwnFrom.and (Own.from (hboxed _ _ _) _) (Own.from (hboxed _ _ _) _))) (ownFrom_below (Nat.le_refl _) (by omega)))
    (fun _ _ _ _ _ hs _ _ => hs)
    ⟨⟨⟨_, hc2, World.ownsRow_nil _ _ _ _, trivial⟩, hr0, hr1⟩, hB0⟩
    (fun (x : Nat × Int) => { tmps := #[.pointer p, undef, .pointer (some ⟨w.heap.size, 0, none⟩), .pointer (some ⟨w.heap.size + 1, 0, none⟩), .pointer (some ⟨w.heap.size + 1 + 1, 0, none⟩), .int .i64 (x.1 : Int), .int .i64 x.2, .pointer p, .func (.func 44) #[] #[.pointer (some ⟨w.heap.size + 1 + 1 + 1, 0, none⟩)], .int .i64 (x.1 : Int), .int .i64 x.2, undef, undef, undef, undef, undef, undef, undef, undef, undef], defers := [] }) ?assign ?body ?done ?stop
  case assign =>
    intro l x W K hK
    gi_wp2
    exact hK
  case body =>
    rintro l pre ⟨xi, xz⟩ W ⟨⟨⟨v, hv, hrow, _⟩, hr0, hr1⟩, hB⟩ hlt
    obtain ⟨av, cv, rfl, _⟩ := own_shape hrow
    have hBs := hB.size
    by_cases hx : (xi : Int) = (pre.length : Int)
    · have hd : ((xi : Int) != (pre.length : Int)) = false := by simp [hx]
      have hc := hv.cell
      have HV := Lib.hid hv; have HROW := Lib.hid hrow; have HR0 := Lib.hid hr0; have HR1 := Lib.hid hr1; have HB := Lib.hid hB
      clear hx hv hrow hr0 hr1 hB
      gi_wp2_with (gi_at_builtin; refine wpListIn_append_own_at _ rfl _ _ 49 rfl w.heap.size 3 i0 (.int .i64 0) 1 8 Try.underlying49 HI.out HZ0.out HZ1.out HZ2.out rfl (by decide) _ pre.length (pre.map vEnc) rfl (HROW.out.alloc _) ⟨W.heap.size, 0, none⟩ 1 1 [.int .i64 xz] rfl rfl (cell_one_new _ _ _) ?c1 ?c2 ?c3 ?c4 ?_)
      case c1 => simp [Value.oneCell']
      case c2 => unfold maxLen; omega
      case c3 => omega
      case c4 => simp; omega
      intro v' w1 hown' hgrow _ hat
      obtain ⟨g', cap', rfl⟩ := ownsRow_succ hown'
      have KP := Lib.hid (KpB.app HV.out (by decide) HROW.out hgrow hat)
      obtain ⟨hv1, hv2, hr2, hk2, hb2⟩ := HV.out.appended (by decide) HROW.out hBs (by omega) hown' hgrow
      have B0' := Lib.hid ((((HR0.out.alloc _).kept hgrow (HR0.out.not_row (by decide) HROW.out)).kept (grownBy_setCell' w1 (w.heap.size + 1 + 1) (.slice (some ⟨g', 0, none⟩) (pre.length + 1) cap')) (by simp; omega)) : Boxed _ w.heap.size _ _)
      have B1' := Lib.hid ((((HR1.out.alloc _).kept hgrow (HR1.out.not_row (by decide) HROW.out)).kept (grownBy_setCell' w1 (w.heap.size + 1 + 1) (.slice (some ⟨g', 0, none⟩) (pre.length + 1) cap')) (by simp)) : Boxed _ (w.heap.size + 1) _ _)
      have hc1 := hv1.cell; have hf1 := hv1.frozen
      clear hown' hgrow hat
      gi_wp2
      exact ⟨hk2.from _, KP.out, ⟨⟨_, hv2, by simpa [vEnc] using hr2, trivial⟩, B0'.out, B1'.out⟩, HB.out.trans hb2⟩
    · have hd : ((xi : Int) != (pre.length : Int)) = true := by rw [bne_iff_ne]; exact hx
      have hc := hv.cell
      have hc0 := hr0.cell; have hf0 := hr0.frozen; have hc1 := hr1.cell; have hf1 := hr1.frozen
      have HX := Lib.hid hx
      clear hx hv hrow hr0 hr1 hB
      gi_wp2
      exact ⟨((KeepsOthers.setCell _ _ _).trans (KeepsOthers.setCell _ _ _)).from _, rfl, pre, (xi, xz), rfl, HX.out⟩
  case done =>
    rintro D ys W hD rfl ⟨⟨⟨v, hv, hrow, _⟩, hr0, hr1⟩, hB⟩ hK
    have hc := hv.cell
    have hc0 := hr0.cell; have hf0 := hr0.frozen; have hc1 := hr1.cell; have hf1 := hr1.frozen
    have hre : (prs zs zs.length).map vEnc = zs.map (Value.int .i64) := by
      have h1 : (prs zs zs.length).map vEnc = ((prs zs zs.length).map (·.2)).map (Value.int .i64) := by rw [List.map_map]; rfl
      rw [h1, prs_vals]
    rw [prs_len, hre] at hrow
    obtain ⟨av, cv, hve, _⟩ := own_shape hrow
    rw [hve] at hc
    gi_wp2
    rw [← hve]
    have hK' := ((KeepsOthers.setCell W ⟨w.heap.size, 0, none⟩ v).trans (KeepsOthers.setCell _ ⟨w.heap.size + 1, 0, none⟩ (.bool true))).same D _ hK rfl
    refine ⟨by simp, .inl ⟨_, _, rfl, run_takeDeferred hK', ?_⟩⟩
    have r1 : (W.setCell ⟨w.heap.size, 0, none⟩ v).ownsRow w.heap.size 3 1 v zs.length (zs.map (Value.int .i64)) := hrow.kept (grownBy_setCell' W w.heap.size v) (.inr (hr0.not_row (by decide) hrow).symm)
    have hr1' : Boxed (W.setCell ⟨w.heap.size, 0, none⟩ v) (w.heap.size + 1) 4 (.bool false) := hr1.kept (grownBy_setCell' W w.heap.size v) (by simp)
    have r2 : ((W.setCell ⟨w.heap.size, 0, none⟩ v).setCell ⟨w.heap.size + 1, 0, none⟩ (.bool true)).ownsRow w.heap.size 3 1 v zs.length (zs.map (Value.int .i64)) := r1.kept (grownBy_setCell' _ (w.heap.size + 1) (.bool true)) (.inr (hr1'.not_row (by decide) r1).symm)
    have r3 := ownsRow_putObj r2 (.deferred none) hK' rfl
    have c0 : Boxed ((W.setCell ⟨w.heap.size, 0, none⟩ v).setCell ⟨w.heap.size + 1, 0, none⟩ (.bool true)) w.heap.size 49 v := (hr0.set v).kept (grownBy_setCell' _ (w.heap.size + 1) (.bool true)) (by simp)
    have c1 := hr1'.set (.bool true)
    have d0 := cell_kept c0.cell (grownBy_putObj' _ D (.deferred none)) (fun r e => by cases e; exact ⟨_, hK', rfl⟩)
    have d1 := cell_kept c1.cell (grownBy_putObj' _ D (.deferred none)) (fun r e => by cases e; exact ⟨_, hK', rfl⟩)
    have hBW := HSZ.out
    have hBB := ((hB.setCell (p := ⟨w.heap.size, 0, none⟩) (Nat.le_refl _) v).setCell (p := ⟨w.heap.size + 1, 0, none⟩) (by simp) (.bool true)).trans (belowK_b (w := w) (Nat.le_refl _) _ D _ (.deferred none) (by omega) hK' rfl rfl)
    refine ⟨.tuple #[v, .bool true], ?_, v, rfl, Rw.of_own r3, hBB⟩
    simp [results, Try.f28, go_sem, d0, d1]
  case stop =>
    rintro D c pre W hD ⟨k, hk, rfl⟩ ⟨rfl, ini, last, e1, e2⟩ hK
    exfalso
    obtain ⟨k', rfl⟩ : ∃ k', k = k' + 1 := by
      cases k with
      | zero => simp [prs] at e1
      | succ k' => exact ⟨k', rfl⟩
    rw [prs_succ] at e1
    obtain ⟨rfl, e5⟩ := List.append_inj' e1 rfl
    obtain rfl : (k', zs[k']?.getD 0) = last := by simpa using e5
    rw [prs_len] at e2
    exact e2 rfl
/-- values of a ring: its values; of a nil ring: none. -/
theorem values_any (w : World) (base b room : Nat) (v : Value) (zs : List Int) (hR : RingAt (Value.int .i64) 3 88 w base b room v zs) (hlen : zs.length ≤ 1000) :
    Calls Try.prog 28 #[.pointer (some ⟨b, 0, none⟩)] w (ValRes zs w) :=
  callsIn_wide.1 (values_in w _ zs hlen (fun w' hb Bs hBs hbox hc => all_stops 5 (by omega) Bs _ base b room v zs w' (hR.below hb) hBs hlen hbox (fun u hu => by
    rw [hc] at hu
    obtain rfl := Option.some.inj hu
    rfl)))
theorem values_nil (w : World) : Calls Try.prog 28 #[.pointer none] w (ValRes [] w) :=
  callsIn_wide.1 (values_in w _ [] (by simp) (fun w' hb Bs hBs hbox hc => all_stops_nil 5 Bs _ w' hBs))
end Go.Proofs.Ytdfncgfcggpgdaa
