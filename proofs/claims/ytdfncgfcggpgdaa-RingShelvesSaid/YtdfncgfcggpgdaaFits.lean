/-
  NewShelf at rooms that do not fit; the reference's Fits.
-/
import Derived.Test.YtdfncgfcggpgdaaTwo
import Derived.Test.YtdfncgfcggpgdaaRunsLib
import Derived.Test.YtdfncgfcggpgdaaOpen3
import Derived.Test.YtdfncgfcggpgdaaSlices
namespace Go.Proofs.Ytdfncgfcggpgdaa
open Go.RowKit
set_option linter.unusedVariables false

def okZ (z : Int) : Prop := 1 ≤ z ∧ z ≤ 64
instance (z : Int) : Decidable (okZ z) := by unfold okZ; infer_instance
def fitsB (zs : List Int) : Bool := decide (1 ≤ zs.length ∧ zs.length ≤ 4 ∧ ∀ z ∈ zs, okZ z)
def FitRel (W : World) (zs : List Int) (i : Value) (w : World) : Prop := ∃ k : Nat, k ≤ zs.length ∧ i = .int .i64 k ∧ (∀ j < k, ∀ z, zs[j]? = some z → okZ z) ∧ W = w

set_option maxHeartbeats 2000000 in
theorem fits_any (w : World) (a : Option Addr) (c : Nat) (zs : List Int) (hs : SlI w a zs) (hl : zs.length ≤ 1000) :
    Calls Try.prog 39 #[.slice a zs.length c] w fun e w' => e = .returned (.bool (fitsB zs)) ∧ w = w' := by
  have S := Lib.hid hs; clear hs
  have F0 : Hid (∀ z ∈ zs, ¬ okZ z → fitsB zs = false) := by
    intro z hz h
    unfold fitsB
    rw [decide_eq_false_iff_not]
    exact fun h2 => h (h2.2.2 z hz)
  have F1 : Hid ((∀ j < zs.length, ∀ z, zs[j]? = some z → okZ z) → fitsB zs = decide (1 ≤ zs.length ∧ zs.length ≤ 4)) := by
    intro h
    unfold fitsB
    have h2 : ∀ z ∈ zs, okZ z := fun z hz => by
      obtain ⟨j, hj, rfl⟩ := List.getElem_of_mem hz
      exact h j hj _ (List.getElem?_eq_getElem hj)
    by_cases h3 : 1 ≤ zs.length ∧ zs.length ≤ 4
    · rw [decide_eq_true h3, decide_eq_true ⟨h3.1, h3.2, h2⟩]
    · rw [decide_eq_false h3, decide_eq_false (fun g => h3 ⟨g.1, g.2.1⟩)]
  generalize fitsB zs = fb at *
  generalize hn : zs.length = n at *
  have HN := Lib.hid hn; clear hn
  go_enter Try.func39, Try.ntmps39
  go_wp2_with fail
  go_loopw [3] (fun i wr => FitRel w zs i wr) (fun i _ => n - (intOf i).toNat)
  case atStart => exact ⟨0, Nat.zero_le _, rfl, fun j hj => by omega, rfl⟩
  case round =>
    obtain ⟨k, hk, rfl, hok, rfl⟩ := hrel
    have OK := Lib.hid hok; clear hok
    have hk' : k ≤ n := by rw [HN.out] at hk; exact hk
    clear hk
    by_cases hlt : k < n
    · obtain ⟨z, ez, okz, cz⟩ := S.out.get (k := k) (by rw [HN.out]; exact hlt)
      have hmem := List.mem_of_getElem? ez.out
      have EZ := Lib.hid ez.out
      clear ez
      by_cases hb : okZ z
      · have hb' := hb
        unfold okZ at hb'
        have OK2 : Hid (∀ j < k + 1, ∀ z, zs[j]? = some z → okZ z) := by
          intro j hj z' hz'
          by_cases e : j = k
          · subst e; rw [EZ.out] at hz'; obtain rfl := Option.some.inj hz'; exact hb
          · exact OK.out j (by omega) z' hz'
        have z1 : ¬ z < 1 := by omega
        have z2 : ¬ (64 : Int) < z := by omega
        clear hb hmem
        go_wp2_with fail
        go_roundw
        case rel => exact ⟨k + 1, by rw [HN.out]; omega, by go_num, OK2.out, rfl⟩
        case measure => simp [intOf]; omega
      · have FF := F0.out z hmem hb
        subst FF
        unfold okZ at hb
        clear hmem
        by_cases z1 : z < 1
        · go_wp2_with fail
          go_ret
          exact ⟨rfl, rfl⟩
        · have z2 : (64 : Int) < z := by omega
          go_wp2_with fail
          go_ret
          exact ⟨rfl, rfl⟩
    · obtain rfl : k = n := by omega
      have FF := Lib.hid (F1.out OK.out)
      by_cases a1 : 1 ≤ k
      · by_cases a4 : k ≤ 4
        · have d : Hid (fb = true) := by rw [FF.out]; show _ = _; simp [a1, a4]
          go_wp2_with fail
          go_ret
          exact ⟨by rw [d.out]; first | rfl | (simp; done) | (simp; omega), rfl⟩
        · have d : Hid (fb = false) := by rw [FF.out]; show _ = _; simp [a4]
          go_wp2_with fail
          go_ret
          exact ⟨by rw [d.out]; first | rfl | (simp; done) | (simp; omega), rfl⟩
      · have d : Hid (fb = false) := by rw [FF.out]; show _ = _; simp [a1]
        go_wp2_with fail
        go_ret
        exact ⟨by rw [d.out]; first | rfl | (simp; done) | (simp; omega), rfl⟩

def ShBadRel (w : World) (zs : List Int) (i : Value) (wr : World) : Prop := ∃ k : Nat, k ≤ zs.length ∧ i = .int .i64 k ∧ ShM w zs k wr ∧ ∀ j < k, ∀ z, zs[j]? = some z → okZ z

set_option maxHeartbeats 2000000 in
theorem newshelf_bad (w : World) (a : Option Addr) (c : Nat) (zs : List Int) (hs : SlI w a zs) (hl : zs.length ≤ 1000) (hz : fitsB zs = false) :
    Calls Try.prog 33 #[.slice a zs.length c] w fun e w' => e = .returned (.tuple #[.pointer none, .int .i64 2]) ∧ Below w.heap.size w w' := by
  by_cases h1 : 1 ≤ zs.length
  case neg =>
    have g1 : (zs.length : Int) < 1 := by omega
    clear hz hs
    go_enter Try.func33, Try.ntmps33
    go_wp2_with fail
    go_ret2
    exact ⟨rfl, Below.refl _ _⟩
  by_cases h4 : zs.length ≤ 4
  case neg =>
    have g1 : ¬ (zs.length : Int) < 1 := by omega
    have g4 : (4 : Int) < (zs.length : Int) := by omega
    clear hz hs
    go_enter Try.func33, Try.ntmps33
    go_wp2_with fail
    go_ret2
    exact ⟨rfl, Below.refl _ _⟩
  have S := Lib.hid hs; have Z := Lib.hid hz
  clear hs hz
  have M0 : Hid (ShM w zs 0 (w.alloc (.cells #[.slice none 0 0] 93))) :=
    ⟨⟨.slice none 0 0, [], ⟨Blk.new w _ [.slice none 0 0], ⟨rfl, .inl ⟨rfl, rfl⟩⟩, Nat.le_refl _, by simp, by simp, by simp, by simp [Value.ownBlock]⟩, by simp [qsOf]⟩, (Below.refl _ _).alloc (Nat.le_refl _) _⟩
  have g1 : ¬ (zs.length : Int) < 1 := by omega
  have g4 : ¬ (4 : Int) < (zs.length : Int) := by omega
  obtain ⟨i0, hi, hz0, hz1, hz2⟩ := info_parts Try.infoPR
  have HI := Lib.hid hi; have HZ0 := Lib.hid hz0; have HZ1 := Lib.hid hz1; have HZ2 := Lib.hid hz2
  clear hi hz0 hz1 hz2
  generalize hn : zs.length = n at *
  have HN := Lib.hid hn; clear hn
  go_enter Try.func33, Try.ntmps33
  go_wp2_with fail
  go_loopw [21] (fun i wr => ShBadRel w zs i wr) (fun i _ => n - (intOf i).toNat)
  case atStart => exact ⟨0, Nat.zero_le _, rfl, M0.out, fun j hj => by omega⟩
  case round =>
    obtain ⟨k, hk, rfl, ⟨⟨rv, rs, hsh, hqs⟩, hbel⟩, hok⟩ := hrel
    have OK := Lib.hid hok; clear hok
    have SH := Lib.hid hsh; have QS := Lib.hid hqs; have HB := Lib.hid hbel
    have hk' : k ≤ n := by rw [HN.out] at hk; exact hk
    clear hsh hqs hbel hk
    by_cases hlt : k < n
    · obtain ⟨z, ez, okz, cz⟩ := (S.out.below HB.out).get (k := k) (by rw [HN.out]; exact hlt)
      by_cases hb : okZ z
      case neg =>
        have NB := Lib.hid (newI_bad z wr (by unfold okZ at hb; omega))
        clear hb
        go_wp2_with fail
        refine NB.out.mono ?_
        rintro e w1 ⟨rfl, rfl⟩
        go_wp2_with fail
        go_ret2
        exact ⟨rfl, HB.out⟩
      have OK2 : Hid (∀ j < k + 1, ∀ z, zs[j]? = some z → okZ z) := by
        intro j hj z' hz'
        by_cases e : j = k
        · subst e; rw [ez.out] at hz'; obtain rfl := Option.some.inj hz'; exact hb
        · exact OK.out j (by omega) z' hz'
      unfold okZ at hb
      obtain ⟨hz1, hz64⟩ := hb
      obtain ⟨m, rfl⟩ := Int.eq_ofNat_of_zero_le (show 0 ≤ z by omega)
      have N := Lib.hid (newI_ok m w.heap.size wr (by omega) (by omega))
      have hrl : rs.length = k := by
        have := congrArg List.length QS.out
        simp [qsOf] at this
        have := HN.out
        omega
      have HRL := Lib.hid hrl
      have hsz := HB.out.size
      clear hrl
      go_wp2_with fail
      refine N.out.mono ?_
      rintro e w1 ⟨rfl, hR, hB1, hz'⟩
      have RB' := Lib.hid hR
      have SH1 := Lib.hid (SH.out.below hB1)
      have B1 := Lib.hid (HB.out.trans (hB1.mono hsz))
      have HZ1' := Lib.hid hz'
      have hszw : w.heap.size ≤ w1.heap.size := B1.out.size
      have fresh : Hid (wr.heap.size ≠ w.heap.size ∧ rv.ownBlock ≠ some wr.heap.size ∧ ∀ (i : Nat) (r : RSt), rs[i]? = some r → ¬ r.foot wr.heap.size) := by
        refine ⟨by have := SH.out.hs.lt; omega, fun e => by have := (own_lt SH.out.own e).1; omega, fun i r hr hf => by have := (SH.out.foot_lt hr hf).1; omega⟩
      obtain ⟨av, cv, hrv, _⟩ := own_shape SH1.out.own
      rw [HRL.out] at hrv
      have q0 := SH1.out.hs.cell (i := 0) rfl
      have f0 := SH1.out.hs.free 0
      have hslt := SH1.out.hs.lt
      have hne := SH1.out.ne
      clear hR hB1 hz'
      subst hrv
      go_wp2_with (at_builtin; refine wpList_append_lies _ rfl _ _ 91 rfl w.heap.size 46 i0 _ 1 8 Try.underlying91 HI.out HZ0.out HZ1.out HZ2.out rfl (by decide) _ k (rs.map RSt.ptr) rfl ?c0 ⟨w1.heap.size, 0, none⟩ 1 1 [.pointer (some ⟨wr.heap.size, 0, none⟩)] rfl ?c1 ?c2 ?c3 (by decide) ?c4 ?c5 ?c6 (w1.heap.size + 1) ?c7 ?_)
      case c0 => exact (by have := SH1.out.own; rw [HRL.out] at this; exact this : w1.ownsRow _ _ _ _ _ _).alloc _
      case c1 => rfl
      case c2 => exact cell_one_new _ _ _
      case c3 => intro u hu; simp at hu; subst hu; rfl
      case c4 => unfold maxLen; omega
      case c5 => omega
      case c6 => simp; omega
      case c7 => simp
      intro g cap w2 hown hgr hat hglt
      have OWN := Lib.hid hown; have HAT := Lib.hid hat
      have U : Hid (Upd (fun j => (Value.slice av k cv).ownBlock = some j) w1 w2) :=
        Upd.then (S := fun j => (Value.slice av k cv).ownBlock = some j) ((Upd.refl _ w1).alloc _) (T := fun j => (Value.slice av k cv).ownBlock = some j) ⟨hgr.os, hgr.tape, hgr.output, hgr.size, fun j hj hs => hgr.block j hj (fun e => hs e.symm)⟩ (fun j _ hj => hj)
      have K2 := SH1.out.hs.upd U.out hne
      have r0 := K2.cell (i := 0) rfl
      have e0 := K2.free 0
      have FIN : Hid (ShAt (w2.setCell ⟨w.heap.size, 0, none⟩ (.slice (some ⟨g, 0, none⟩) (k + 1) cap)) w.heap.size w.heap.size (.slice (some ⟨g, 0, none⟩) (k + 1) cap) (rs ++ [⟨wr.heap.size, m, .slice none 0 0, []⟩])) :=
        SH1.out.snoc RB'.out (by omega) hsz fresh.out.1 fresh.out.2.1 fresh.out.2.2 U.out (g := g) rfl (by rw [HRL.out]; exact OWN.out) (HAT.out.imp id (fun h => by omega))
      have BF : Hid (Below w.heap.size w (w2.setCell ⟨w.heap.size, 0, none⟩ (.slice (some ⟨g, 0, none⟩) (k + 1) cap))) :=
        (Upd.below B1.out U.out B1.out.size (fun j hj => (own_lt SH1.out.own hj).2)).setCell (p := ⟨w.heap.size, 0, none⟩) (Nat.le_refl _) _
      have QF : Hid (qsOf (rs ++ [⟨wr.heap.size, m, .slice none 0 0, []⟩]) = (zs.take (k + 1)).map (fun z => (z.toNat, []))) := by
        show _ = _
        rw [List.take_add_one, ez.out, List.map_append, ← QS.out]
        simp [qsOf]
      clear hown hgr hat hglt q0 f0 K2 hne
      go_wp2_with fail
      go_roundw
      case rel => exact ⟨k + 1, by rw [HN.out]; omega, by go_num, ⟨⟨_, _, FIN.out, QF.out⟩, BF.out⟩, OK2.out⟩
      case measure => simp [intOf]; omega
    · obtain rfl : k = n := by omega
      exfalso
      have := Z.out
      unfold fitsB at this
      rw [decide_eq_false_iff_not] at this
      refine this ⟨by rw [HN.out]; omega, by rw [HN.out]; omega, fun z hz => ?_⟩
      obtain ⟨j, hj, rfl⟩ := List.getElem_of_mem hz
      exact OK.out j (by have := HN.out; omega) _ (List.getElem?_eq_getElem hj)
end Go.Proofs.Ytdfncgfcggpgdaa
