/-
  The closures of message.Box that let waiting messages leave the queue.
-/
import Derived.Test.YtjljjohoipnhhaaBox
namespace Go.Proofs.Ytjljjohoipnhhaa
open Go.RowKit
set_option linter.unusedVariables false

def pNext (tick : Int) (dl : Int) (n : Nat) : Bool := decide (dl ≠ -1) && decide (dl < tick)
def pCancel (k : Nat) (dl : Int) (n : Nat) : Bool := decide (n = k)

theorem item_cells {w : World} {base : Nat} {x : It} (h : ItAt w base x) : w.cell? ⟨x.b, 0, none⟩ = some (.int .i64 x.n) ∧ w.cell? ⟨x.b, 1, none⟩ = some (.int .i64 x.dl) ∧ w.cell? ⟨x.b, 2, none⟩ = some x.rv :=
  ⟨h.hb.cell rfl, h.hb.cell rfl, h.hb.cell rfl⟩

set_option maxHeartbeats 1000000 in
theorem next1_any (w : World) (base : Nat) (x : It) (tb : Nat) (tick : Int) (h : ItAt w base x) (ht : Blk w tb 3 [.int .i64 tick]) :
    Calls Try.prog 31 #[.pointer (some ⟨x.b, 0, none⟩), .pointer (some ⟨tb, 0, none⟩)] w fun e w' => e = .returned (.bool (pNext tick x.dl x.n)) ∧ ∃ n, w' = w.drewN n := by
  obtain ⟨q0, q1, q2⟩ := item_cells h
  have t0 := ht.cell (i := 0) rfl
  unfold pNext
  clear h ht
  generalize x.b = xb at *
  generalize x.dl = dl at *
  by_cases h1 : dl = -1
  · subst h1
    go_enter Try.func31, Try.ntmps31
    go_wp2_with fail
    go_quiet (fail)
    go_wp2_with fail
    go_ret
    exact ⟨rfl, _, rfl⟩
  · have e1 : (dl != -1) = true := by simpa using h1
    have e2 : decide (dl ≠ -1) = true := by simpa using h1
    rw [e2, Bool.true_and]
    clear h1 e2
    go_enter Try.func31, Try.ntmps31
    go_wp2_with fail
    go_quiet (fail)
    go_wp2_with fail
    go_ret
    exact ⟨rfl, _, rfl⟩

set_option maxHeartbeats 1000000 in
theorem cancel1_any (w : World) (base : Nat) (x : It) (tb k : Nat) (h : ItAt w base x) (ht : Blk w tb 3 [.int .i64 k]) :
    Calls Try.prog 37 #[.pointer (some ⟨x.b, 0, none⟩), .pointer (some ⟨tb, 0, none⟩)] w fun e w' => e = .returned (.bool (pCancel k x.dl x.n)) ∧ ∃ n, w' = w.drewN n := by
  obtain ⟨q0, q1, q2⟩ := item_cells h
  have t0 := ht.cell (i := 0) rfl
  have e : pCancel k x.dl x.n = ((x.n : Int) == (k : Int)) := by
    unfold pCancel
    by_cases h : x.n = k
    · simp [h]
    · rw [beq_eq_false_iff_ne.2 (by omega : (x.n : Int) ≠ (k : Int))]
      simp [h]
  rw [e]
  clear h ht e
  generalize x.b = xb at *
  generalize x.n = n at *
  go_enter Try.func37, Try.ntmps37
  go_wp2_with fail
  go_quiet (fail)
  go_wp2_with fail
  go_ret
  exact ⟨rfl, _, rfl⟩

/-- The condition that 'drop' is given. -/
def Cnd (w : World) (cv : Value) (tb : Nat) (p : Int → Nat → Bool) : Prop :=
  (∃ tick, cv = .func (.func 31) #[] #[.pointer (some ⟨tb, 0, none⟩)] ∧ Blk w tb 3 [.int .i64 tick] ∧ p = pNext tick) ∨
  (∃ k : Nat, cv = .func (.func 37) #[] #[.pointer (some ⟨tb, 0, none⟩)] ∧ Blk w tb 3 [.int .i64 k] ∧ p = pCancel k)
theorem Cnd.upd {S : Nat → Prop} {w w' : World} {cv : Value} {tb : Nat} {p : Int → Nat → Bool} (h : Cnd w cv tb p) (u : Upd S w w') (hs : ¬ S tb) : Cnd w' cv tb p := by
  rcases h with ⟨t, h1, h2, h3⟩ | ⟨t, h1, h2, h3⟩
  · exact .inl ⟨t, h1, h2.upd u hs, h3⟩
  · exact .inr ⟨t, h1, h2.upd u hs, h3⟩
/-- What the closure of 'drop' has captured: the box, the condition, the state. -/
structure Cap (w : World) (b : Nat) (qv sv : Value) (its : List It) (bc cc sc tb : Nat) (cv : Value) (p : Int → Nat → Bool) (k : Nat) : Prop where
  hb : Blk w bc 24 [.pointer (some ⟨b, 0, none⟩)]
  hc : Blk w cc 72 [cv]
  hs : Blk w sc 3 [.int .i64 k]
  ht : Cnd w cv tb p
  nb : bc ∉ boxFoot b qv sv its
  nc : cc ∉ boxFoot b qv sv its
  ns : sc ∉ boxFoot b qv sv its
  nt : tb ∉ boxFoot b qv sv its
theorem Cap.upd {S : Nat → Prop} {w w' : World} {b : Nat} {qv sv : Value} {its : List It} {bc cc sc tb : Nat} {cv : Value} {p : Int → Nat → Bool} {k : Nat} (h : Cap w b qv sv its bc cc sc tb cv p k) (u : Upd S w w') (hs : ∀ j, S j → j ∈ boxFoot b qv sv its) : Cap w' b qv sv its bc cc sc tb cv p k :=
  ⟨h.hb.upd u fun e => h.nb (hs _ e), h.hc.upd u fun e => h.nc (hs _ e), h.hs.upd u fun e => h.ns (hs _ e), h.ht.upd u fun e => h.nt (hs _ e), h.nb, h.nc, h.ns, h.nt⟩

def delB (p : Int → Nat → Bool) (st : List Nat) (x : It) : Bool := decide (st[x.n]? = some 1 ∧ p x.dl x.n = true)
def delS (p : Int → Nat → Bool) (k : Nat) (st : List Nat) (x : It) : List Nat := if delB p st x = true then st.set x.n k else st
theorem ch_foot {b : Nat} {qv sv : Value} {its : List It} {j : Nat} (h : chS b sv j) : j ∈ boxFoot b qv sv its := by
  rcases h with h | h
  · exact in_boxFoot (.inl h)
  · exact in_boxFoot (.inr (.inr (.inl h)))
def Drop1Post (w : World) (base b : Nat) (room : Int) (qv sv : Value) (its : List It) (st : List Nat) (p : Int → Nat → Bool) (k : Nat) (x : It) (e : Ending) (w' : World) : Prop :=
  e = .returned (.bool (delB p st x)) ∧ BoxR w' base b room qv sv its (delS p k st x) ∧ Upd (chS b sv) w w'

set_option maxHeartbeats 4000000 in
set_option maxRecDepth 100000 in
theorem drop1_any (w : World) (base b : Nat) (room : Int) (qv sv : Value) (its : List It) (st : List Nat) (h : BoxR w base b room qv sv its st) (bc cc sc tb : Nat) (cv : Value) (p : Int → Nat → Bool) (k : Nat) (hk : k ≤ 5)
    (hc : Cap w b qv sv its bc cc sc tb cv p k) (x : It) (hx : x ∈ its) (s : Nat) (hs : st[x.n]? = some s) (hs5 : s ≤ 5) (hl : st.length ≤ 100000) :
    Calls Try.prog 40 #[.pointer (some ⟨x.b, 0, none⟩), .pointer (some ⟨bc, 0, none⟩), .pointer (some ⟨cc, 0, none⟩), .pointer (some ⟨sc, 0, none⟩)] w (Drop1Post w base b room qv sv its st p k x) := by
  obtain ⟨q0, q1, q2⟩ := item_cells (h.hi x hx)
  obtain ⟨a, c, rfl, ha, cs, fs, hown⟩ := stV_map h.hs hs
  have hb2 := h.hb.cell (i := 2) rfl
  have c0 := hc.hb.cell (i := 0) rfl
  have c1 := hc.hc.cell (i := 0) rfl
  have c2 := hc.hs.cell (i := 0) rfl
  have hnl := get_lt hs
  have i0 : (0 : Int) ≤ (x.n : Int) := by omega
  have i1 : (x.n : Int) < (st.length : Int) := by omega
  have H := Lib.hid h
  have HC := Lib.hid hc
  have HX := Lib.hid hx
  by_cases h1 : s = 1
  · subst h1
    have CH := fun w' (hR : BoxR w' base b room qv (.slice a st.length c) its st) => change_any w' base b room qv _ its st hR x.n 1 k hs hs5 hk hl
    have CHH := Lib.hid CH
    have HS := Lib.hid hs
    rcases hc.ht with ⟨tick, rfl, ht, hp⟩ | ⟨kk, rfl, ht, hp⟩
    · have CD : Hid (∀ w', Qt w w' → Calls Try.prog 31 #[.pointer (some ⟨x.b, 0, none⟩), .pointer (some ⟨tb, 0, none⟩)] w' fun e w2 => e = .returned (.bool (p x.dl x.n)) ∧ ∃ n, w2 = w'.drewN n) :=
        fun w' hq => by rw [hp]; exact next1_any w' base x tb tick ((h.hi x hx).upd (S := fun _ => False) (Upd.of_below hq.bel) fun _ _ => id) (ht.qt hq)
      clear h hc hx hs CH ht hp
      cases hpp : p x.dl x.n with
      | true =>
        have D : Hid (delB p st x = true) := by show _ = _; unfold delB; simp [HS.out, hpp]
        rw [hpp] at CD
        clear hpp HS
        go_enter Try.func40, Try.ntmps40
        go_wp2_with fail
        go_quiet ((go_at_call 31; exact Calls.quiet_of (CD.out _ ⟨_, rfl⟩)))
        go_wp2_with fail
        have HQ := Lib.hid (H.out.below ((Qt.refl w).drewN nq).bel)
        have QT : Hid (Qt w (w.drewN nq)) := (Qt.refl w).drewN nq
        have c0 := (HC.out.hb.qt QT.out).cell (i := 0) rfl
        have c2 := (HC.out.hs.qt QT.out).cell (i := 0) rfl
        have q0 := (item_cells (HQ.out.hi x HX.out)).1
        generalize w.drewN nq = w2 at *
        have HC2 : Hid (Cap w2.drew b qv (.slice a st.length c) its bc cc sc tb _ p k) := HC.out.upd (S := fun _ => False) (Upd.of_below QT.out.drew.bel) (fun _ h => h.elim)
        go_region_held3 (fun w' => w'.cell? ⟨bc, 0, none⟩ = some (.pointer (some ⟨b, 0, none⟩)) ∧ w'.cell? ⟨x.b, 0, none⟩ = some (.int .i64 x.n) ∧ w'.cell? ⟨sc, 0, none⟩ = some (.int .i64 k))
          (first | exact ⟨c0, q0, c2⟩ | exact ⟨c0', q0', c2'⟩)
          (first | (go_at_call 32; refine (CHH.out _ (HQ.out.below (Qt.drew (Qt.refl _)).bel)).mono ?_; rintro e w3 ⟨rfl, hR, hU⟩; have R3 := Lib.hid hR; have U3 := Lib.hid hU; have c0' := (HC2.out.upd hU (fun _ => ch_foot)).hb.cell (i := 0) rfl; have c2' := (HC2.out.upd hU (fun _ => ch_foot)).hs.cell (i := 0) rfl; have q0' := (item_cells (hR.hi x HX.out)).1; clear hR hU))
        go_wp2_with fail
        go_ret
        exact ⟨by rw [D.out]; rfl, by unfold delS; rw [if_pos D.out]; exact R3.out, Upd.then (Upd.of_below QT.out.drew.bel) U3.out (fun _ _ h => h)⟩
      | false =>
        have D : Hid (delB p st x = false) := by show _ = _; unfold delB; simp [hpp]
        rw [hpp] at CD
        clear CHH HS hpp
        go_enter Try.func40, Try.ntmps40
        go_wp2_with fail
        go_quiet ((go_at_call 31; exact Calls.quiet_of (CD.out _ ⟨_, rfl⟩)))
        go_wp2_with fail
        go_ret
        exact ⟨by rw [D.out]; rfl, by unfold delS; rw [if_neg (by rw [D.out]; decide)]; exact H.out.below ((Qt.refl w).drewN nq).bel, Upd.of_below ((Qt.refl w).drewN nq).bel⟩
    · have CD : Hid (∀ w', Qt w w' → Calls Try.prog 37 #[.pointer (some ⟨x.b, 0, none⟩), .pointer (some ⟨tb, 0, none⟩)] w' fun e w2 => e = .returned (.bool (p x.dl x.n)) ∧ ∃ n, w2 = w'.drewN n) :=
        fun w' hq => by rw [hp]; exact cancel1_any w' base x tb kk ((h.hi x hx).upd (S := fun _ => False) (Upd.of_below hq.bel) fun _ _ => id) (ht.qt hq)
      clear h hc hx hs CH ht hp
      cases hpp : p x.dl x.n with
      | true =>
        have D : Hid (delB p st x = true) := by show _ = _; unfold delB; simp [HS.out, hpp]
        rw [hpp] at CD
        clear hpp HS
        go_enter Try.func40, Try.ntmps40
        go_wp2_with fail
        go_quiet ((go_at_call 37; exact Calls.quiet_of (CD.out _ ⟨_, rfl⟩)))
        go_wp2_with fail
        have HQ := Lib.hid (H.out.below ((Qt.refl w).drewN nq).bel)
        have QT : Hid (Qt w (w.drewN nq)) := (Qt.refl w).drewN nq
        have c0 := (HC.out.hb.qt QT.out).cell (i := 0) rfl
        have c2 := (HC.out.hs.qt QT.out).cell (i := 0) rfl
        have q0 := (item_cells (HQ.out.hi x HX.out)).1
        generalize w.drewN nq = w2 at *
        have HC2 : Hid (Cap w2.drew b qv (.slice a st.length c) its bc cc sc tb _ p k) := HC.out.upd (S := fun _ => False) (Upd.of_below QT.out.drew.bel) (fun _ h => h.elim)
        go_region_held3 (fun w' => w'.cell? ⟨bc, 0, none⟩ = some (.pointer (some ⟨b, 0, none⟩)) ∧ w'.cell? ⟨x.b, 0, none⟩ = some (.int .i64 x.n) ∧ w'.cell? ⟨sc, 0, none⟩ = some (.int .i64 k))
          (first | exact ⟨c0, q0, c2⟩ | exact ⟨c0', q0', c2'⟩)
          (first | (go_at_call 32; refine (CHH.out _ (HQ.out.below (Qt.drew (Qt.refl _)).bel)).mono ?_; rintro e w3 ⟨rfl, hR, hU⟩; have R3 := Lib.hid hR; have U3 := Lib.hid hU; have c0' := (HC2.out.upd hU (fun _ => ch_foot)).hb.cell (i := 0) rfl; have c2' := (HC2.out.upd hU (fun _ => ch_foot)).hs.cell (i := 0) rfl; have q0' := (item_cells (hR.hi x HX.out)).1; clear hR hU))
        go_wp2_with fail
        go_ret
        exact ⟨by rw [D.out]; rfl, by unfold delS; rw [if_pos D.out]; exact R3.out, Upd.then (Upd.of_below QT.out.drew.bel) U3.out (fun _ _ h => h)⟩
      | false =>
        have D : Hid (delB p st x = false) := by show _ = _; unfold delB; simp [hpp]
        rw [hpp] at CD
        clear CHH HS hpp
        go_enter Try.func40, Try.ntmps40
        go_wp2_with fail
        go_quiet ((go_at_call 37; exact Calls.quiet_of (CD.out _ ⟨_, rfl⟩)))
        go_wp2_with fail
        go_ret
        exact ⟨by rw [D.out]; rfl, by unfold delS; rw [if_neg (by rw [D.out]; decide)]; exact H.out.below ((Qt.refl w).drewN nq).bel, Upd.of_below ((Qt.refl w).drewN nq).bel⟩
  · have D : Hid (delB p st x = false) := by show _ = _; unfold delB; simp [hs, h1]
    have e1 : ((s : Int) != 1) = true := by
      have : ¬ (s : Int) = 1 := by omega
      simpa using this
    have H1 := Lib.hid h1
    clear h hc hx hs h1
    go_enter Try.func40, Try.ntmps40
    go_wp2_with fail
    go_quiet (fail)
    go_wp2_with fail
    go_ret
    exact ⟨by rw [D.out]; rfl, by unfold delS; rw [if_neg (by rw [D.out]; decide)]; exact H.out.below ((Qt.refl w).drewN nq).bel, Upd.of_below ((Qt.refl w).drewN nq).bel⟩
end Go.Proofs.Ytjljjohoipnhhaa
