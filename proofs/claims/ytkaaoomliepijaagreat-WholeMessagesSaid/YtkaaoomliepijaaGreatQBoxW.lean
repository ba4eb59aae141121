/-
  The closure of message.Box.Put that writes a number.
-/
import Derived.Test.YtkaaoomliepijaaGreatQBoxH
import Derived.Laws.BitsAllLaws
import Derived.Laws.Shifts
namespace Go.Proofs.YtkaaoomliepijaaGreat
open Go.RowKit
set_option linter.unusedVariables false

theorem Vw.heap {α : Type} {f : α → Value} {T : TypeId} {w w' : World} {base : Nat} {v : Value} {xs : List α} (h : Vw f T w base v xs) (he : w'.heap = w.heap) : Vw f T w' base v xs := by
  unfold Vw Blk at *
  rw [he]
  exact h
theorem one_sl {w w' : World} {T : TypeId} {x : Int} {k : IntKind} {s : Nat} (hs : w.heap.size = s) (he : w'.heap = (w.alloc (.cells #[.int k x] T)).heap) : Sl (Value.int k) w' (some ⟨s, 0, none⟩) [x] := by
  intro j y hj
  have hlt := get_lt hj
  obtain rfl : j = 0 := by simp at hlt; exact hlt
  simp at hj
  subst hj
  refine ⟨rfl, ?_⟩
  have hb : Blk w' s T [.int k x] := by
    have := Blk.new w T [.int k x]
    rw [hs] at this
    exact this.of_heap (by rw [he])
  rw [adr_mk]
  exact hb.cell rfl

theorem Vw.shape3 {α : Type} {f : α → Value} {T : TypeId} {w : World} {base : Nat} {v : Value} {xs : List α} (h : Vw f T w base v xs) : ∃ a m c, v = .slice a m c := by
  obtain ⟨a, c, h⟩ := h.shape
  exact ⟨a, _, c, h⟩
/-- The new message while it is written: a variable that points to it, and its cells. -/
structure XM (w : World) (base xb ib : Nat) (num dl : Int) (rv : Value) (xs : List Int) : Prop where
  hx : Blk w xb 111 [.pointer (some ⟨ib, 0, none⟩)]
  hi : Blk w ib 113 [.int .i64 num, .int .i64 dl, rv]
  hr : Vw (Value.int .u8) 5 w base rv xs
  ne : xb ≠ ib
  nx : rv.ownBlock ≠ some xb
  ni : rv.ownBlock ≠ some ib
def xmS (ib : Nat) (rv : Value) (k : Nat) : Prop := k = ib ∨ rv.ownBlock = some k
theorem XM.upd {S : Nat → Prop} {w w' : World} {base xb ib : Nat} {num dl : Int} {rv : Value} {xs : List Int} (h : XM w base xb ib num dl rv xs) (u : Upd S w w') (h1 : ¬ S xb) (h2 : ¬ S ib) (h3 : ∀ k, rv.ownBlock = some k → ¬ S k) : XM w' base xb ib num dl rv xs :=
  ⟨h.hx.upd u h1, h.hi.upd u h2, h.hr.upd u h3, h.ne, h.nx, h.ni⟩
theorem XM.below {w w' : World} {base xb ib : Nat} {num dl : Int} {rv : Value} {xs : List Int} (h : XM w base xb ib num dl rv xs) (b : Below w.heap.size w w') : XM w' base xb ib num dl rv xs :=
  h.upd (S := fun _ => False) (Upd.of_below b) id id fun _ _ => id
/-- What an append to the message's bytes leaves, before it is stored. -/
structure XA (w : World) (base xb ib : Nat) (num dl : Int) (rv : Value) (v : Value) (xs : List Int) (w' : World) : Prop where
  hx : Blk w' xb 111 [.pointer (some ⟨ib, 0, none⟩)]
  hi : Blk w' ib 113 [.int .i64 num, .int .i64 dl, rv]
  hr : Vw (Value.int .u8) 5 w' base v xs
  ne : xb ≠ ib
  nx : v.ownBlock ≠ some xb
  ni : v.ownBlock ≠ some ib
  u : Upd (xmS ib rv) w w'
  ow : v.ownBlock = rv.ownBlock ∨ ∀ g, v.ownBlock = some g → w.heap.size ≤ g
theorem XM.app {w w0 w1 w' : World} {base xb ib : Nat} {num dl : Int} {rv v : Value} {xs ys : List Int} (h : XM w base xb ib num dl rv xs) (b : Below w.heap.size w w1) (hv : Vw (Value.int .u8) 5 w' base v ys) (u : Upd (fun k => rv.ownBlock = some k) w1 w') (ho : v.ownBlock = rv.ownBlock ∨ ∀ g, v.ownBlock = some g → w1.heap.size ≤ g) :
    XA w base xb ib num dl rv v ys w' := by
  have h1 := h.below b
  have hg : ∀ g, v.ownBlock = some g → rv.ownBlock = some g ∨ w1.heap.size ≤ g := by
    intro g hg
    rcases ho with e | e
    · exact .inl (by rw [← e]; exact hg)
    · exact .inr (e g hg)
  refine ⟨h1.hx.upd u h.nx, h1.hi.upd u h.ni, hv, h.ne, fun e => ?_, fun e => ?_, Upd.then (Upd.of_below b) u (fun _ _ h => .inr h), ho.imp id fun h g hg => Nat.le_trans b.size (h g hg)⟩
  · rcases hg _ e with e | e
    · exact h.nx e
    · have := h1.hx.lt; omega
  · rcases hg _ e with e | e
    · exact h.ni e
    · have := h1.hi.lt; omega
theorem XA.store {w w' : World} {base xb ib : Nat} {num dl : Int} {rv v : Value} {xs : List Int} (h : XA w base xb ib num dl rv v xs w') : XM (w'.setCell ⟨ib, 2, none⟩ v) base xb ib num dl v xs ∧ Upd (xmS ib rv) w (w'.setCell ⟨ib, 2, none⟩ v) := by
  have u : Upd (fun k => k = ib) w' (w'.setCell ⟨ib, 2, none⟩ v) := (Upd.refl _ _).setCell _ _ fun _ => rfl
  refine ⟨⟨h.hx.upd u h.ne, by simpa using h.hi.set 2 v, h.hr.upd u fun g hg e => h.ni (by rw [hg, e]), h.ne, h.nx, h.ni⟩, h.u.setCell _ _ fun _ => .inl rfl⟩

def wr8 (n : Int) : Int := IntKind.u8.wrap n
def numB (n : Int) (size : Nat) : List Int := if size = 2 then [wr8 (n / 256), wr8 n] else [wr8 (n / 65536), wr8 (n / 256), wr8 n]
/-- What a write leaves. -/
def XP (w : World) (base xb ib : Nat) (num dl : Int) (rv : Value) (xs : List Int) (w' : World) : Prop :=
  ∃ rv', XM w' base xb ib num dl rv' xs ∧ Upd (xmS ib rv) w w' ∧ (rv'.ownBlock = rv.ownBlock ∨ ∀ g, rv'.ownBlock = some g → w.heap.size ≤ g)
def WrRel (w : World) (base xb ib : Nat) (num dl : Int) (rv : Value) (xs : List Int) (n : Int) (size : Nat) (i : Value) (wr : World) : Prop :=
  ∃ k : Nat, k ≤ size ∧ i = .int .i64 k ∧ XP w base xb ib num dl rv (xs ++ (numB n size).take k) wr

theorem Upd.xthen {w wr w' : World} {ib : Nat} {rv v : Value} (h : Upd (xmS ib rv) w wr) (ho : v.ownBlock = rv.ownBlock ∨ ∀ g, v.ownBlock = some g → w.heap.size ≤ g) (u : Upd (xmS ib v) wr w') : Upd (xmS ib rv) w w' :=
  Upd.then h u fun i hi hs => by
    rcases hs with hs | hs
    · exact .inl hs
    · rcases ho with e | e
      · exact .inr (by rw [← e]; exact hs)
      · have := e i hs; omega
theorem xow {w wr : World} {rv v v' : Value} (hs : w.heap.size ≤ wr.heap.size) (ho : v.ownBlock = rv.ownBlock ∨ ∀ g, v.ownBlock = some g → w.heap.size ≤ g) (h : v'.ownBlock = v.ownBlock ∨ ∀ g, v'.ownBlock = some g → wr.heap.size ≤ g) :
    v'.ownBlock = rv.ownBlock ∨ ∀ g, v'.ownBlock = some g → w.heap.size ≤ g := by
  rcases h with h | h
  · rw [h]; exact ho
  · exact .inr fun g hg => Nat.le_trans hs (h g hg)
set_option maxHeartbeats 4000000 in
set_option maxRecDepth 100000 in
theorem write2_any (w : World) (base xb ib : Nat) (num dl : Int) (rv : Value) (xs : List Int) (h : XM w base xb ib num dl rv xs) (n : Int) (h0 : 0 ≤ n) (hn : n ≤ 100000000) (hl : xs.length ≤ 10000) (hbase : base ≤ w.heap.size) :
    Calls Tryz.prog 68 #[.int .i64 n, .int .i64 2, .pointer (some ⟨xb, 0, none⟩)] w fun e w' => e = .returned (.tuple #[]) ∧ XP w base xb ib num dl rv (xs ++ numB n 2) w' := by
  obtain ⟨i0, hi, hz0, hz1, hz2⟩ := info_parts Tryz.infoByte
  have HI := Lib.hid hi; have HZ0 := Lib.hid hz0; have HZ1 := Lib.hid hz1; have HZ2 := Lib.hid hz2
  have H := Lib.hid h
  clear hi hz0 hz1 hz2 h
  go_enter Tryz.func68, Tryz.ntmps68
  go_wp2_with fail
  go_loopw [7] (fun i wr => WrRel w base xb ib num dl rv xs n 2 i wr) (fun i _ => 2 - (intOf i).toNat)
  case atStart => exact ⟨0, by omega, rfl, rv, by simpa using H.out, Upd.refl _ _, .inl rfl⟩
  case round =>
    obtain ⟨k, hk, rfl, v, hM, hU, hO⟩ := hrel
    have HM := Lib.hid hM; have HU := Lib.hid hU; have HO := Lib.hid hO
    clear hM hU hO
    have hLl : (xs ++ (numB n 2).take k).length ≤ 10000 + 2 := by simp; omega
    obtain ⟨L, hL⟩ : ∃ L, xs ++ (numB n 2).take k = L := ⟨_, rfl⟩
    rw [hL] at HM hLl
    have HL := Lib.hid hL; clear hL
    by_cases hlt : k < 2
    · obtain ⟨a, c, rfl⟩ := HM.out.hr.shape
      have e3 := HM.out.hx.cell (i := 0) rfl
      have e4 := HM.out.hi.cell (i := 2) rfl
      have hib := HM.out.hi.lt
      have hib2 : ¬ ib = wr.heap.size := by omega
      have hws := HU.out.size
      have w0 : IntKind.i64.wrap 0 = 0 := by decide
      have w1 : IntKind.i64.wrap 1 = 1 := by decide
      have w2 : IntKind.i64.wrap 2 = 2 := by decide
      have w8 : IntKind.i64.wrap 8 = 8 := by decide
      rcases (show k = 0 ∨ k = 1 by omega) with rfl | rfl
      · have HSTEP : Hid (L ++ [IntKind.u8.wrap (n / 256)] = xs ++ (numB n 2).take (0 + 1)) := by show _ = _; rw [← HL.out]; simp [numB, wr8]
        have HA := Lib.hid (HM.out.below ((Below.refl _ wr).alloc (Nat.le_refl _) (.cells #[.int .u8 (IntKind.u8.wrap (n / 256))] 5)))
        have e3' := HA.out.hx.cell (i := 0) rfl
        have e4' := HA.out.hi.cell (i := 2) rfl
        go_wp2_with fail
        go_region_law (first | (refine step_append_vw (by rfl) _ _ 22 (by rfl) base 5 i0 _ 1 Tryz.underlying22 HI.out HZ0.out HZ1.out HZ2.out rfl (Value.int .u8) (fun _ => rfl) (.slice a L.length c) L (by rfl) (HM.out.hr.upd (S := fun _ => False) (w' := (wr.alloc (.cells #[.int .u8 (IntKind.u8.wrap (n / 256))] 5)).drew) (Upd.of_below (((Below.refl _ _).alloc (Nat.le_refl _) _).trans ((Qt.refl _).drew.bel.mono (by simp)))) (fun _ _ => id)) _ _ [IntKind.u8.wrap (n / 256)] (by rfl) (one_sl (w := wr) (T := 5) rfl rfl) (by unfold maxLen; simp; omega) (by simp; omega) (by simp; omega) ?_; intro v' w5 h1 h2 h3; obtain ⟨a', m', c', rfl⟩ := h1.shape3; have X := Lib.hid (HM.out.app (w0 := wr) (((Below.refl _ _).alloc (Nat.le_refl _) _).trans ((Qt.refl _).drew.bel.mono (by simp))) h1 h2 h3); clear h1 h2 h3 e3 e4 e3' e4'; have y1 := X.out.hx.cell (i := 0) rfl; have y2 := X.out.hi.cell (i := 2) rfl; have y3 := X.out.hi.free 2))
        all_goals
          have ST := Lib.hid X.out.store
          have OW := Lib.hid X.out.ow
          clear X y1 y2 y3
          go_wp2_with fail
          go_roundw
          case rel => exact ⟨1, by omega, by go_num, _, by first | exact (HSTEP.out ▸ ST.out.1) | exact (HSTEP.out ▸ (ST.out.1.below (Qt.refl _).drew.bel)), by first | exact HU.out.xthen HO.out ST.out.2 | exact HU.out.xthen HO.out ST.out.2.drew, xow HU.out.size HO.out OW.out⟩
          case measure => simp [intOf] <;> omega
      · have HSTEP : Hid (L ++ [IntKind.u8.wrap n] = xs ++ (numB n 2).take (1 + 1)) := by show _ = _; rw [← HL.out]; simp [numB, wr8]
        have HA := Lib.hid (HM.out.below ((Below.refl _ wr).alloc (Nat.le_refl _) (.cells #[.int .u8 (IntKind.u8.wrap n)] 5)))
        have e3' := HA.out.hx.cell (i := 0) rfl
        have e4' := HA.out.hi.cell (i := 2) rfl
        go_wp2_with fail
        go_region_law (first | (refine step_append_vw (by rfl) _ _ 22 (by rfl) base 5 i0 _ 1 Tryz.underlying22 HI.out HZ0.out HZ1.out HZ2.out rfl (Value.int .u8) (fun _ => rfl) (.slice a L.length c) L (by rfl) (HM.out.hr.upd (S := fun _ => False) (w' := (wr.alloc (.cells #[.int .u8 (IntKind.u8.wrap n)] 5)).drew) (Upd.of_below (((Below.refl _ _).alloc (Nat.le_refl _) _).trans ((Qt.refl _).drew.bel.mono (by simp)))) (fun _ _ => id)) _ _ [IntKind.u8.wrap n] (by rfl) (one_sl (w := wr) (T := 5) rfl rfl) (by unfold maxLen; simp; omega) (by simp; omega) (by simp; omega) ?_; intro v' w5 h1 h2 h3; obtain ⟨a', m', c', rfl⟩ := h1.shape3; have X := Lib.hid (HM.out.app (w0 := wr) (((Below.refl _ _).alloc (Nat.le_refl _) _).trans ((Qt.refl _).drew.bel.mono (by simp))) h1 h2 h3); clear h1 h2 h3 e3 e4 e3' e4'; have y1 := X.out.hx.cell (i := 0) rfl; have y2 := X.out.hi.cell (i := 2) rfl; have y3 := X.out.hi.free 2))
        all_goals
          have ST := Lib.hid X.out.store
          have OW := Lib.hid X.out.ow
          clear X y1 y2 y3
          go_wp2_with fail
          go_roundw
          case rel => exact ⟨2, by omega, by go_num, _, by first | exact (HSTEP.out ▸ ST.out.1) | exact (HSTEP.out ▸ (ST.out.1.below (Qt.refl _).drew.bel)), by first | exact HU.out.xthen HO.out ST.out.2 | exact HU.out.xthen HO.out ST.out.2.drew, xow HU.out.size HO.out OW.out⟩
          case measure => simp [intOf] <;> omega
    · obtain rfl : k = 2 := by omega
      go_wp2_with fail
      go_end0
      refine ⟨rfl, _, by rw [show xs ++ numB n 2 = L by rw [← HL.out]; rfl]; exact HM.out, HU.out, HO.out⟩
set_option maxHeartbeats 4000000 in
set_option maxRecDepth 100000 in
theorem write3_any (w : World) (base xb ib : Nat) (num dl : Int) (rv : Value) (xs : List Int) (h : XM w base xb ib num dl rv xs) (n : Int) (h0 : 0 ≤ n) (hn : n ≤ 100000000) (hl : xs.length ≤ 10000) (hbase : base ≤ w.heap.size) :
    Calls Tryz.prog 68 #[.int .i64 n, .int .i64 3, .pointer (some ⟨xb, 0, none⟩)] w fun e w' => e = .returned (.tuple #[]) ∧ XP w base xb ib num dl rv (xs ++ numB n 3) w' := by
  obtain ⟨i0, hi, hz0, hz1, hz2⟩ := info_parts Tryz.infoByte
  have HI := Lib.hid hi; have HZ0 := Lib.hid hz0; have HZ1 := Lib.hid hz1; have HZ2 := Lib.hid hz2
  have H := Lib.hid h
  clear hi hz0 hz1 hz2 h
  go_enter Tryz.func68, Tryz.ntmps68
  go_wp2_with fail
  go_loopw [7] (fun i wr => WrRel w base xb ib num dl rv xs n 3 i wr) (fun i _ => 3 - (intOf i).toNat)
  case atStart => exact ⟨0, by omega, rfl, rv, by simpa using H.out, Upd.refl _ _, .inl rfl⟩
  case round =>
    obtain ⟨k, hk, rfl, v, hM, hU, hO⟩ := hrel
    have HM := Lib.hid hM; have HU := Lib.hid hU; have HO := Lib.hid hO
    clear hM hU hO
    have hLl : (xs ++ (numB n 3).take k).length ≤ 10000 + 3 := by simp; omega
    obtain ⟨L, hL⟩ : ∃ L, xs ++ (numB n 3).take k = L := ⟨_, rfl⟩
    rw [hL] at HM hLl
    have HL := Lib.hid hL; clear hL
    by_cases hlt : k < 3
    · obtain ⟨a, c, rfl⟩ := HM.out.hr.shape
      have e3 := HM.out.hx.cell (i := 0) rfl
      have e4 := HM.out.hi.cell (i := 2) rfl
      have hib := HM.out.hi.lt
      have hib2 : ¬ ib = wr.heap.size := by omega
      have hws := HU.out.size
      have w0 : IntKind.i64.wrap 0 = 0 := by decide
      have w1 : IntKind.i64.wrap 1 = 1 := by decide
      have w2 : IntKind.i64.wrap 2 = 2 := by decide
      have w8 : IntKind.i64.wrap 8 = 8 := by decide
      have w16 : IntKind.i64.wrap 16 = 16 := by decide
      rcases (show k = 0 ∨ k = 1 ∨ k = 2 by omega) with rfl | rfl | rfl
      · have HSTEP : Hid (L ++ [IntKind.u8.wrap (n / 65536)] = xs ++ (numB n 3).take (0 + 1)) := by show _ = _; rw [← HL.out]; simp [numB, wr8]
        have HA := Lib.hid (HM.out.below ((Below.refl _ wr).alloc (Nat.le_refl _) (.cells #[.int .u8 (IntKind.u8.wrap (n / 65536))] 5)))
        have e3' := HA.out.hx.cell (i := 0) rfl
        have e4' := HA.out.hi.cell (i := 2) rfl
        go_wp2_with fail
        go_region_law (first | (refine step_append_vw (by rfl) _ _ 22 (by rfl) base 5 i0 _ 1 Tryz.underlying22 HI.out HZ0.out HZ1.out HZ2.out rfl (Value.int .u8) (fun _ => rfl) (.slice a L.length c) L (by rfl) (HM.out.hr.upd (S := fun _ => False) (w' := (wr.alloc (.cells #[.int .u8 (IntKind.u8.wrap (n / 65536))] 5)).drew) (Upd.of_below (((Below.refl _ _).alloc (Nat.le_refl _) _).trans ((Qt.refl _).drew.bel.mono (by simp)))) (fun _ _ => id)) _ _ [IntKind.u8.wrap (n / 65536)] (by rfl) (one_sl (w := wr) (T := 5) rfl rfl) (by unfold maxLen; simp; omega) (by simp; omega) (by simp; omega) ?_; intro v' w5 h1 h2 h3; obtain ⟨a', m', c', rfl⟩ := h1.shape3; have X := Lib.hid (HM.out.app (w0 := wr) (((Below.refl _ _).alloc (Nat.le_refl _) _).trans ((Qt.refl _).drew.bel.mono (by simp))) h1 h2 h3); clear h1 h2 h3 e3 e4 e3' e4'; have y1 := X.out.hx.cell (i := 0) rfl; have y2 := X.out.hi.cell (i := 2) rfl; have y3 := X.out.hi.free 2))
        all_goals
          have ST := Lib.hid X.out.store
          have OW := Lib.hid X.out.ow
          clear X y1 y2 y3
          go_wp2_with fail
          go_roundw
          case rel => exact ⟨1, by omega, by go_num, _, by first | exact (HSTEP.out ▸ ST.out.1) | exact (HSTEP.out ▸ (ST.out.1.below (Qt.refl _).drew.bel)), by first | exact HU.out.xthen HO.out ST.out.2 | exact HU.out.xthen HO.out ST.out.2.drew, xow HU.out.size HO.out OW.out⟩
          case measure => simp [intOf] <;> omega
      · have HSTEP : Hid (L ++ [IntKind.u8.wrap (n / 256)] = xs ++ (numB n 3).take (1 + 1)) := by show _ = _; rw [← HL.out]; simp [numB, wr8]
        have HA := Lib.hid (HM.out.below ((Below.refl _ wr).alloc (Nat.le_refl _) (.cells #[.int .u8 (IntKind.u8.wrap (n / 256))] 5)))
        have e3' := HA.out.hx.cell (i := 0) rfl
        have e4' := HA.out.hi.cell (i := 2) rfl
        go_wp2_with fail
        go_region_law (first | (refine step_append_vw (by rfl) _ _ 22 (by rfl) base 5 i0 _ 1 Tryz.underlying22 HI.out HZ0.out HZ1.out HZ2.out rfl (Value.int .u8) (fun _ => rfl) (.slice a L.length c) L (by rfl) (HM.out.hr.upd (S := fun _ => False) (w' := (wr.alloc (.cells #[.int .u8 (IntKind.u8.wrap (n / 256))] 5)).drew) (Upd.of_below (((Below.refl _ _).alloc (Nat.le_refl _) _).trans ((Qt.refl _).drew.bel.mono (by simp)))) (fun _ _ => id)) _ _ [IntKind.u8.wrap (n / 256)] (by rfl) (one_sl (w := wr) (T := 5) rfl rfl) (by unfold maxLen; simp; omega) (by simp; omega) (by simp; omega) ?_; intro v' w5 h1 h2 h3; obtain ⟨a', m', c', rfl⟩ := h1.shape3; have X := Lib.hid (HM.out.app (w0 := wr) (((Below.refl _ _).alloc (Nat.le_refl _) _).trans ((Qt.refl _).drew.bel.mono (by simp))) h1 h2 h3); clear h1 h2 h3 e3 e4 e3' e4'; have y1 := X.out.hx.cell (i := 0) rfl; have y2 := X.out.hi.cell (i := 2) rfl; have y3 := X.out.hi.free 2))
        all_goals
          have ST := Lib.hid X.out.store
          have OW := Lib.hid X.out.ow
          clear X y1 y2 y3
          go_wp2_with fail
          go_roundw
          case rel => exact ⟨2, by omega, by go_num, _, by first | exact (HSTEP.out ▸ ST.out.1) | exact (HSTEP.out ▸ (ST.out.1.below (Qt.refl _).drew.bel)), by first | exact HU.out.xthen HO.out ST.out.2 | exact HU.out.xthen HO.out ST.out.2.drew, xow HU.out.size HO.out OW.out⟩
          case measure => simp [intOf] <;> omega
      · have HSTEP : Hid (L ++ [IntKind.u8.wrap n] = xs ++ (numB n 3).take (2 + 1)) := by show _ = _; rw [← HL.out]; simp [numB, wr8]
        have HA := Lib.hid (HM.out.below ((Below.refl _ wr).alloc (Nat.le_refl _) (.cells #[.int .u8 (IntKind.u8.wrap n)] 5)))
        have e3' := HA.out.hx.cell (i := 0) rfl
        have e4' := HA.out.hi.cell (i := 2) rfl
        go_wp2_with fail
        go_region_law (first | (refine step_append_vw (by rfl) _ _ 22 (by rfl) base 5 i0 _ 1 Tryz.underlying22 HI.out HZ0.out HZ1.out HZ2.out rfl (Value.int .u8) (fun _ => rfl) (.slice a L.length c) L (by rfl) (HM.out.hr.upd (S := fun _ => False) (w' := (wr.alloc (.cells #[.int .u8 (IntKind.u8.wrap n)] 5)).drew) (Upd.of_below (((Below.refl _ _).alloc (Nat.le_refl _) _).trans ((Qt.refl _).drew.bel.mono (by simp)))) (fun _ _ => id)) _ _ [IntKind.u8.wrap n] (by rfl) (one_sl (w := wr) (T := 5) rfl rfl) (by unfold maxLen; simp; omega) (by simp; omega) (by simp; omega) ?_; intro v' w5 h1 h2 h3; obtain ⟨a', m', c', rfl⟩ := h1.shape3; have X := Lib.hid (HM.out.app (w0 := wr) (((Below.refl _ _).alloc (Nat.le_refl _) _).trans ((Qt.refl _).drew.bel.mono (by simp))) h1 h2 h3); clear h1 h2 h3 e3 e4 e3' e4'; have y1 := X.out.hx.cell (i := 0) rfl; have y2 := X.out.hi.cell (i := 2) rfl; have y3 := X.out.hi.free 2))
        all_goals
          have ST := Lib.hid X.out.store
          have OW := Lib.hid X.out.ow
          clear X y1 y2 y3
          go_wp2_with fail
          go_roundw
          case rel => exact ⟨3, by omega, by go_num, _, by first | exact (HSTEP.out ▸ ST.out.1) | exact (HSTEP.out ▸ (ST.out.1.below (Qt.refl _).drew.bel)), by first | exact HU.out.xthen HO.out ST.out.2 | exact HU.out.xthen HO.out ST.out.2.drew, xow HU.out.size HO.out OW.out⟩
          case measure => simp [intOf] <;> omega
    · obtain rfl : k = 3 := by omega
      go_wp2_with fail
      go_end0
      refine ⟨rfl, _, by rw [show xs ++ numB n 3 = L by rw [← HL.out]; rfl]; exact HM.out, HU.out, HO.out⟩
end Go.Proofs.YtkaaoomliepijaaGreat
