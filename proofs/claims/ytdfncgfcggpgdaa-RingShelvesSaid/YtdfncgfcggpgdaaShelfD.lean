/-
  Contract of NewShelf.
-/
import Derived.Test.YtdfncgfcggpgdaaShelfC
namespace Go.Proofs.Ytdfncgfcggpgdaa
open Go.RowKit
set_option linter.unusedVariables false

theorem ShAt.snoc {w1 w2 : World} {base s : Nat} {rv : Value} {rs : List RSt} (h : ShAt w1 base s rv rs) {b n : Nat} (hR : RI w1 base b n (.slice none 0 0) []) (hn : n ≤ 64) (hbb : base ≤ b) (hbs : b ≠ s) (hbr : rv.ownBlock ≠ some b)
    (hbf : ∀ (i : Nat) (r : RSt), rs[i]? = some r → ¬ r.foot b) (u : Upd (fun k => rv.ownBlock = some k) w1 w2) {rv' : Value} {g : Nat} (hg : rv'.ownBlock = some g)
    (own : w2.ownsRow base 46 1 rv' (rs.length + 1) (rs.map RSt.ptr ++ [.pointer (some ⟨b, 0, none⟩)])) (hat : rv.ownBlock = some g ∨ w1.heap.size ≤ g) :
    ShAt (w2.setCell ⟨s, 0, none⟩ rv') base s rv' (rs ++ [⟨b, n, .slice none 0 0, []⟩]) := by
  have hgs : g ≠ s := by
    rcases hat with h1 | h1
    · intro e; exact h.ne (by rw [← e]; exact h1)
    · have := h.hs.lt; omega
  have u2 : Upd (fun k => k = s) w2 (w2.setCell ⟨s, 0, none⟩ rv') := (Upd.refl _ _).setCell _ _ (fun _ => rfl)
  have hget : ∀ (i : Nat) (q : RSt), (rs ++ [⟨b, n, .slice none 0 0, []⟩])[i]? = some q → rs[i]? = some q ∨ (i = rs.length ∧ q = ⟨b, n, .slice none 0 0, []⟩) := by
    intro i q hq
    rcases Nat.lt_or_ge i rs.length with h1 | h1
    · rw [List.getElem?_append_left h1] at hq; exact .inl hq
    · rw [List.getElem?_append_right h1] at hq
      right
      have : i - rs.length = 0 := by
        rcases Nat.eq_zero_or_pos (i - rs.length) with h2 | h2
        · exact h2
        · rw [List.getElem?_eq_none (by simp; omega)] at hq; simp at hq
      rw [this] at hq
      exact ⟨by omega, by simpa using hq.symm⟩
  have hfn : ∀ k, (RSt.mk b n (.slice none 0 0) []).foot k → k = b := by
    intro k hk
    rcases hk with hk | hk
    · exact hk
    · simp [Value.ownBlock] at hk
  refine ⟨?_, ?_, h.hbs, ?_, ?_, ?_, by rw [hg]; intro e; exact hgs (Option.some.inj e)⟩
  · have := (h.hs.upd u h.ne).set 0 rv'
    simpa using this
  · rw [List.length_append, List.map_append]
    exact own_upd own u2 (fun j hj e => hgs (by rw [hg] at hj; rw [Option.some.inj hj]; exact e))
  · intro i q hq
    rcases hget i q hq with hq | ⟨_, rfl⟩
    · obtain ⟨h1, h2⟩ := h.rings i q hq
      have h3 := h1.upd u (h.dsh i q hq |>.2 _ (.inl rfl)) (fun g hg => h.dsh i q hq |>.2 g (.inr hg))
      exact ⟨h3.upd u2 (fun e => (h.dsh i q hq).1 (.inl e.symm)) (fun g hg e => (h.dsh i q hq).1 (.inr (by rw [← e]; exact hg))), h2⟩
    · have h3 := hR.upd u hbr (fun g hg => by simp [Value.ownBlock] at hg)
      exact ⟨h3.upd u2 hbs (fun g hg => by simp [Value.ownBlock] at hg), hbb, hn, Nat.zero_le _⟩
  · intro i j p q hij hp hq k hk hk'
    rcases hget i p hp with hp' | ⟨e1, e2⟩
    · rcases hget j q hq with hq' | ⟨e3, e4⟩
      · exact h.disj i j p q hij hp' hq' k hk hk'
      · rw [e4] at hk'
        rw [hfn k hk'] at hk
        exact hbf i p hp' hk
    · rcases hget j q hq with hq' | ⟨e3, e4⟩
      · rw [e2] at hk
        rw [hfn k hk] at hk'
        exact hbf j q hq' hk'
      · omega
  · intro i q hq
    rcases hget i q hq with hq' | ⟨e1, e2⟩
    · refine ⟨(h.dsh i q hq').1, fun k hk e => ?_⟩
      rw [hg] at e
      have e' := Option.some.inj e
      rcases hat with h1 | h1
      · exact (h.dsh i q hq').2 k hk (by rw [h1, e'])
      · have := (h.foot_lt hq' hk).1; omega
    · subst e2
      refine ⟨fun hk => hbs (hfn s hk).symm, fun k hk e => ?_⟩
      rw [hg] at e
      have e' := Option.some.inj e
      have ek := hfn k hk
      rcases hat with h1 | h1
      · exact hbr (by rw [h1, e', ek])
      · have := hR.hb.lt; omega

def ShM (w : World) (zs : List Int) (k : Nat) (wr : World) : Prop :=
  (∃ rv rs, ShAt wr w.heap.size w.heap.size rv rs ∧ qsOf rs = (zs.take k).map (fun z => (z.toNat, []))) ∧ Below w.heap.size w wr
def ShNewRel (w : World) (zs : List Int) (i : Value) (wr : World) : Prop := ∃ k : Nat, k ≤ zs.length ∧ i = .int .i64 k ∧ ShM w zs k wr
def NewShelfPost (w : World) (zs : List Int) (e : Ending) (w' : World) : Prop :=
  e = .returned (.tuple #[.pointer (some ⟨w.heap.size, 0, none⟩), .int .i64 0]) ∧ ShM w zs zs.length w'

set_option maxHeartbeats 2000000 in
set_option maxRecDepth 100000 in
theorem newshelf_ok (w : World) (a : Option Addr) (c : Nat) (zs : List Int) (hs : SlI w a zs) (h1 : 1 ≤ zs.length) (h4 : zs.length ≤ 4) (hz : ∀ z ∈ zs, 1 ≤ z ∧ z ≤ 64) :
    Calls Try.prog 33 #[.slice a zs.length c] w (NewShelfPost w zs) := by
  have S := Lib.hid hs; have Z := Lib.hid hz
  clear hs hz
  have M0 : Hid (ShM w zs 0 (w.alloc (.cells #[.slice none 0 0] 93))) :=
    ⟨⟨.slice none 0 0, [], ⟨Blk.new w _ [.slice none 0 0], ⟨rfl, .inl ⟨rfl, rfl⟩⟩, Nat.le_refl _, by simp, by simp, by simp, by simp [Value.ownBlock]⟩, by simp [qsOf]⟩, (Below.refl _ _).alloc (Nat.le_refl _) _⟩
  have g1 : ¬ (zs.length : Int) < 1 := by omega
  have g4 : ¬ (4 : Int) < (zs.length : Int) := by omega
  obtain ⟨i0, hi, hz0, hz1, hz2⟩ := info_parts Try.infoPR
  have HI := Lib.hid hi; have HZ0 := Lib.hid hz0; have HZ1 := Lib.hid hz1; have HZ2 := Lib.hid hz2
  clear hi hz0 hz1 hz2
  generalize hn : zs.length = n at *
  have HN := Lib.hid hn; clear hn
  go_enter Try.func33, Try.ntmps33
  go_wp2_with fail
  go_loopw [21] (fun i wr => ShNewRel w zs i wr) (fun i _ => n - (intOf i).toNat)
  case atStart => exact ⟨0, Nat.zero_le _, rfl, M0.out⟩
  case round =>
    obtain ⟨k, hk, rfl, ⟨rv, rs, hsh, hqs⟩, hbel⟩ := hrel
    have SH := Lib.hid hsh; have QS := Lib.hid hqs; have HB := Lib.hid hbel
    have hk' : k ≤ n := by rw [HN.out] at hk; exact hk
    clear hsh hqs hbel hk
    by_cases hlt : k < n
    · obtain ⟨z, ez, okz, cz⟩ := (S.out.below HB.out).get (k := k) (by rw [HN.out]; exact hlt)
      obtain ⟨hz1, hz64⟩ := Z.out z (List.mem_of_getElem? ez.out)
      obtain ⟨m, rfl⟩ := Int.eq_ofNat_of_zero_le (show 0 ≤ z by omega)
      have N := Lib.hid (newI_ok m w.heap.size wr (by omega) (by omega))
      have hrl : rs.length = k := by
        have := congrArg List.length QS.out
        simp [qsOf] at this
        have := HN.out
        omega
      have HRL := Lib.hid hrl
      have hsz := HB.out.size
      clear hrl
      go_wp2_with fail
      refine N.out.mono ?_
      rintro e w1 ⟨rfl, hR, hB1, hz'⟩
      have RB' := Lib.hid hR
      have SH1 := Lib.hid (SH.out.below hB1)
      have B1 := Lib.hid (HB.out.trans (hB1.mono hsz))
      have HZ1' := Lib.hid hz'
      have hszw : w.heap.size ≤ w1.heap.size := B1.out.size
      have fresh : Hid (wr.heap.size ≠ w.heap.size ∧ rv.ownBlock ≠ some wr.heap.size ∧ ∀ (i : Nat) (r : RSt), rs[i]? = some r → ¬ r.foot wr.heap.size) := by
        refine ⟨by have := SH.out.hs.lt; omega, fun e => by have := (own_lt SH.out.own e).1; omega, fun i r hr hf => by have := (SH.out.foot_lt hr hf).1; omega⟩
      obtain ⟨av, cv, hrv, _⟩ := own_shape SH1.out.own
      rw [HRL.out] at hrv
      have q0 := SH1.out.hs.cell (i := 0) rfl
      have f0 := SH1.out.hs.free 0
      have hslt := SH1.out.hs.lt
      have hne := SH1.out.ne
      clear hR hB1 hz'
      subst hrv
      go_wp2_with (at_builtin; refine wpList_append_lies _ rfl _ _ 91 rfl w.heap.size 46 i0 _ 1 8 Try.underlying91 HI.out HZ0.out HZ1.out HZ2.out rfl (by decide) _ k (rs.map RSt.ptr) rfl ?c0 ⟨w1.heap.size, 0, none⟩ 1 1 [.pointer (some ⟨wr.heap.size, 0, none⟩)] rfl ?c1 ?c2 ?c3 (by decide) ?c4 ?c5 ?c6 (w1.heap.size + 1) ?c7 ?_)
      case c0 => exact (by have := SH1.out.own; rw [HRL.out] at this; exact this : w1.ownsRow _ _ _ _ _ _).alloc _
      case c1 => rfl
      case c2 => exact cell_one_new _ _ _
      case c3 => intro u hu; simp at hu; subst hu; rfl
      case c4 => unfold maxLen; omega
      case c5 => omega
      case c6 => simp; omega
      case c7 => simp
      intro g cap w2 hown hgr hat hglt
      have OWN := Lib.hid hown; have HAT := Lib.hid hat
      have U : Hid (Upd (fun j => (Value.slice av k cv).ownBlock = some j) w1 w2) :=
        Upd.then (S := fun j => (Value.slice av k cv).ownBlock = some j) ((Upd.refl _ w1).alloc _) (T := fun j => (Value.slice av k cv).ownBlock = some j) ⟨hgr.os, hgr.tape, hgr.output, hgr.size, fun j hj hs => hgr.block j hj (fun e => hs e.symm)⟩ (fun j _ hj => hj)
      have K2 := SH1.out.hs.upd U.out hne
      have r0 := K2.cell (i := 0) rfl
      have e0 := K2.free 0
      have FIN : Hid (ShAt (w2.setCell ⟨w.heap.size, 0, none⟩ (.slice (some ⟨g, 0, none⟩) (k + 1) cap)) w.heap.size w.heap.size (.slice (some ⟨g, 0, none⟩) (k + 1) cap) (rs ++ [⟨wr.heap.size, m, .slice none 0 0, []⟩])) :=
        SH1.out.snoc RB'.out (by omega) hsz fresh.out.1 fresh.out.2.1 fresh.out.2.2 U.out (g := g) rfl (by rw [HRL.out]; exact OWN.out) (HAT.out.imp id (fun h => by omega))
      have BF : Hid (Below w.heap.size w (w2.setCell ⟨w.heap.size, 0, none⟩ (.slice (some ⟨g, 0, none⟩) (k + 1) cap))) :=
        (Upd.below B1.out U.out B1.out.size (fun j hj => (own_lt SH1.out.own hj).2)).setCell (p := ⟨w.heap.size, 0, none⟩) (Nat.le_refl _) _
      have QF : Hid (qsOf (rs ++ [⟨wr.heap.size, m, .slice none 0 0, []⟩]) = (zs.take (k + 1)).map (fun z => (z.toNat, []))) := by
        show _ = _
        rw [List.take_add_one, ez.out, List.map_append, ← QS.out]
        simp [qsOf]
      clear hown hgr hat hglt q0 f0 K2 hne
      go_wp2_with fail
      go_roundw
      case rel => exact ⟨k + 1, by rw [HN.out]; omega, by go_num, ⟨_, _, FIN.out, QF.out⟩, BF.out⟩
      case measure => simp [intOf]; omega
    · obtain rfl : k = n := by omega
      have M := Lib.hid (show ShM w zs zs.length wr from ⟨⟨rv, rs, SH.out, by rw [HN.out]; exact QS.out⟩, HB.out⟩)
      go_wp2_with fail
      go_ret2
      exact ⟨rfl, M.out⟩
end Go.Proofs.Ytdfncgfcggpgdaa
