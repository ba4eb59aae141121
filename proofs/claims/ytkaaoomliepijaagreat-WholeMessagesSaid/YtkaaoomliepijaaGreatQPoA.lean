/-
  The writer, the end that moves and what is read, plainly: offsets alone.
-/
import Derived.Test.YtkaaoomliepijaaGreatQLib
namespace Go.Proofs.YtkaaoomliepijaaGreat
set_option linter.unusedVariables false

/-- A store: how many bytes were read, the contiguous offset, which bytes it keeps. -/
structure Sr where
  off : Nat
  nxt : Nat
  P : Nat → Bool
def adv (P : Nat → Bool) : Nat → Nat → Nat
  | 0, k => k
  | n + 1, k => if P k = true then adv P n (k + 1) else k
theorem adv_spec {P : Nat → Bool} {B : Nat} (hB : ∀ a, P a = true → a < B) : ∀ (n k : Nat), B ≤ k + n → P (adv P n k) = false ∧ k ≤ adv P n k ∧ ∀ a, k ≤ a → a < adv P n k → P a = true
  | 0, k, h => by
    unfold adv
    refine ⟨?_, Nat.le_refl _, fun a h1 h2 => by omega⟩
    cases hp : P k with
    | false => rfl
    | true => have := hB k hp; omega
  | n + 1, k, h => by
    unfold adv
    by_cases hp : P k = true
    · rw [if_pos hp]
      obtain ⟨h1, h2, h3⟩ := adv_spec hB n (k + 1) (by omega)
      refine ⟨h1, by omega, fun a h4 h5 => ?_⟩
      by_cases e : a = k
      · rw [e]; exact hp
      · exact h3 a (by omega) h5
    · rw [if_neg hp]
      exact ⟨by simpa using hp, Nat.le_refl _, fun a h1 h2 => by omega⟩
theorem adv_uniq {P : Nat → Bool} {k x y : Nat} (hx : P x = false) (kx : k ≤ x) (ax : ∀ a, k ≤ a → a < x → P a = true) (hy : P y = false) (ky : k ≤ y) (ay : ∀ a, k ≤ a → a < y → P a = true) : x = y := by
  rcases Nat.lt_trichotomy x y with h | h | h
  · have := ay x kx h; rw [hx] at this; cases this
  · exact h
  · have := ax y ky h; rw [hy] at this; cases this
def Sr.Pp (s : Sr) (o n : Nat) : Nat → Bool := fun a => s.P a || (decide (max o s.off ≤ a) && decide (a < min (o + n) (s.off + 24)))
def Sr.put (s : Sr) (o n : Nat) : Sr := ⟨s.off, adv (s.Pp o n) 25 s.nxt, s.Pp o n⟩
def Sr.read (s : Sr) : Sr := ⟨s.nxt, s.nxt, fun a => s.P a && decide (s.nxt ≤ a)⟩
structure SrI (s : Sr) (tp : Nat) : Prop where
  le : s.off ≤ s.nxt
  all : ∀ a, s.off ≤ a → a < s.nxt → s.P a = true
  nxt : s.P s.nxt = false
  win : ∀ a, s.P a = true → s.off ≤ a ∧ a < s.off + 24 ∧ a < tp
theorem SrI.mono {s : Sr} {tp tq : Nat} (h : SrI s tp) (hq : tp ≤ tq) : SrI s tq := ⟨h.le, h.all, h.nxt, fun a ha => by have := h.win a ha; omega⟩
theorem SrI.ntp {s : Sr} {tp : Nat} (h : SrI s tp) (ho : s.off ≤ tp) : s.nxt ≤ tp ∧ s.nxt ≤ s.off + 24 := by
  by_cases e : s.off = s.nxt
  · omega
  · have := h.win (s.nxt - 1) (h.all _ (by have := h.le; omega) (by have := h.le; omega))
    have := h.le
    omega
theorem SrI.put {s : Sr} {tp o n : Nat} (h : SrI s tp) (ho : o + n ≤ tp) : SrI (s.put o n) tp ∧ s.nxt ≤ (s.put o n).nxt := by
  have hw : ∀ a, s.Pp o n a = true → s.off ≤ a ∧ a < s.off + 24 ∧ a < tp := fun a ha => by
    unfold Sr.Pp at ha
    simp only [Bool.or_eq_true, Bool.and_eq_true, decide_eq_true_eq] at ha
    rcases ha with ha | ha
    · exact h.win a ha
    · omega
  obtain ⟨h1, h2, h3⟩ := adv_spec (P := s.Pp o n) (B := s.off + 24) (fun a ha => (hw a ha).2.1) 25 s.nxt (by have := h.le; omega)
  refine ⟨⟨by show s.off ≤ adv _ _ _; have := h.le; omega, fun a h4 h5 => ?_, h1, hw⟩, h2⟩
  by_cases e : a < s.nxt
  · show s.Pp o n a = true
    unfold Sr.Pp
    rw [h.all a h4 e]; rfl
  · exact h3 a (by omega) h5
/-- What is put next to the contiguous bytes makes them more. -/
theorem SrI.grow {s : Sr} {tp n : Nat} (h : SrI s tp) (ho : s.nxt + n ≤ tp) (hw : s.nxt + n ≤ s.off + 24) : s.nxt + n ≤ (s.put s.nxt n).nxt := by
  obtain ⟨h1, h2⟩ := h.put ho
  rcases Nat.lt_or_ge (s.put s.nxt n).nxt (s.nxt + n) with e | e
  · have h3 := h1.nxt
    change s.Pp s.nxt n (s.put s.nxt n).nxt = false at h3
    unfold Sr.Pp at h3
    have := h.le
    rw [decide_eq_true (by omega), decide_eq_true (by omega)] at h3
    simp at h3
  · exact e
/-- What is put behind a hole does not. -/
theorem SrI.hole {s : Sr} {tp o n : Nat} (h : SrI s tp) (hn : s.nxt < o) : (s.put o n).nxt = s.nxt := by
  show adv (s.Pp o n) 25 s.nxt = s.nxt
  have : s.Pp o n s.nxt = false := by
    unfold Sr.Pp
    rw [h.nxt, decide_eq_false (by omega)]
    rfl
  unfold adv
  rw [if_neg (by rw [this]; decide)]
theorem SrI.read {s : Sr} {tp : Nat} (h : SrI s tp) : SrI s.read tp := by
  refine ⟨Nat.le_refl _, fun a h1 h2 => by change s.nxt ≤ a at h1; change a < s.nxt at h2; omega, by show (s.P s.nxt && _) = false; rw [h.nxt]; rfl, fun a ha => ?_⟩
  change (s.P a && decide (s.nxt ≤ a)) = true at ha
  simp only [Bool.and_eq_true, decide_eq_true_eq] at ha
  have := h.win a ha.1
  have := h.le
  show s.nxt ≤ a ∧ a < s.nxt + 24 ∧ a < tp
  omega
def Sr.new (o : Nat) : Sr := ⟨o, o, fun _ => false⟩
theorem SrI.new (o tp : Nat) : SrI (Sr.new o) tp := ⟨Nat.le_refl _, fun a h1 h2 => by change o ≤ a at h1; change a < o at h2; omega, rfl, fun a ha => by cases ha⟩

/-- The writer, the phase, what was read, the stores. -/
structure Wt where
  tk : Nat
  ba : Nat
  nx : Nat
  tp : Nat
  idl : Nat
  ph : Nat
  rd : Nat
  s0 : Sr
  s1 : Sr
def Wt.R (t : Wt) : Sr := if t.ph = 0 then t.s0 else t.s1
structure WtI (L : Nat) (t : Wt) : Prop where
  a1 : t.ba ≤ t.nx
  a2 : t.nx ≤ t.tp
  a3 : t.tp ≤ t.tk
  a4 : t.tk ≤ L
  a5 : t.tk ≤ t.ba + 24
  a6 : t.idl ≤ 2
  a7 : t.ba ≤ t.rd
  a8 : t.rd ≤ t.tp
  a9 : t.ph ≤ 2
  i0 : t.ph ≤ 1 → SrI t.s0 t.tp ∧ t.s0.off ≤ t.rd
  i1 : 1 ≤ t.ph → SrI t.s1 t.tp
  r : t.R.off = t.rd
section
variable {L L' : Nat} {t : Wt}
theorem WtI.iR (h : WtI L t) : SrI t.R t.tp := by
  unfold Wt.R
  split
  · rename_i e; exact (h.i0 (by omega)).1
  · exact h.i1 (by omega)
theorem WtI.mono (h : WtI L t) (hl : L ≤ L') : WtI L' t := ⟨h.a1, h.a2, h.a3, Nat.le_trans h.a4 hl, h.a5, h.a6, h.a7, h.a8, h.a9, h.i0, h.i1, h.r⟩
/-- Write: as many of the bytes as there is room for. -/
def Wt.wrN (t : Wt) (L : Nat) : Nat := min (L - t.tk) (24 - (t.tk - t.ba))
def Wt.write (t : Wt) (L : Nat) : Wt := { t with tk := t.tk + t.wrN L }
theorem WtI.write (h : WtI L t) : WtI L (t.write L) := by
  have h3 := h.a3; have h4 := h.a4; have h5 := h.a5
  refine ⟨h.a1, h.a2, ?_, ?_, ?_, h.a6, h.a7, h.a8, h.a9, h.i0, h.i1, h.r⟩
  · show t.tp ≤ t.tk + t.wrN L; omega
  · show t.tk + t.wrN L ≤ L; unfold Wt.wrN; omega
  · show t.tk + t.wrN L ≤ t.ba + 24; unfold Wt.wrN; have := h.a1; have := h.a2; omega
/-- Tick: what it sends, and the writer behind it. -/
def Wt.goes (t : Wt) : Bool := decide (t.nx < t.tk) && decide (t.nx < t.ba + 24)
def Wt.rest (t : Wt) : Bool := decide (t.ba = t.nx) && decide (t.nx = t.tk)
def Wt.snd (t : Wt) (most : Nat) : Nat := min most (min (t.tk - t.nx) (t.ba + 24 - t.nx))
def Wt.tick (t : Wt) (most : Nat) : Wt :=
  if t.goes = true then { t with nx := t.nx + t.snd most, tp := max t.tp (t.nx + t.snd most), idl := 0 }
  else if t.rest = true then t
  else if t.idl + 1 < 3 then { t with idl := t.idl + 1 }
  else { t with idl := 0, nx := t.ba }
theorem WtI.tick (h : WtI L t) (most : Nat) : WtI L (t.tick most) := by
  have h1 := h.a1; have h2 := h.a2; have h3 := h.a3; have h8 := h.a8; have h7 := h.a7
  unfold Wt.tick
  split
  · rename_i hg
    unfold Wt.goes at hg
    simp only [Bool.and_eq_true, decide_eq_true_eq] at hg
    have hs : t.snd most ≤ t.tk - t.nx := by unfold Wt.snd; omega
    have htp : t.tp ≤ max t.tp (t.nx + t.snd most) := by omega
    exact ⟨by show t.ba ≤ t.nx + _; omega, by show t.nx + t.snd most ≤ max _ _; omega, by show max t.tp (t.nx + t.snd most) ≤ t.tk; omega, h.a4, h.a5, by show 0 ≤ 2; omega, h.a7, by show t.rd ≤ max _ _; omega, h.a9, fun hp => ⟨(h.i0 hp).1.mono htp, (h.i0 hp).2⟩, fun hp => (h.i1 hp).mono htp, h.r⟩
  · split
    · exact h
    · split
      · exact ⟨h.a1, h.a2, h.a3, h.a4, h.a5, by show t.idl + 1 ≤ 2; omega, h.a7, h.a8, h.a9, h.i0, h.i1, h.r⟩
      · exact ⟨Nat.le_refl _, by show t.ba ≤ t.tp; omega, h.a3, h.a4, h.a5, by show 0 ≤ 2; omega, h.a7, h.a8, h.a9, h.i0, h.i1, h.r⟩
/-- What is sent is within what was taken. -/
theorem WtI.sent (h : WtI L t) (most : Nat) (hg : t.goes = true) : t.nx + t.snd most ≤ (t.tick most).tp := by
  unfold Wt.tick
  rw [if_pos hg]
  show _ ≤ max _ _
  omega
theorem Wt.tp_tick (t : Wt) (most : Nat) : t.tp ≤ (t.tick most).tp := by
  unfold Wt.tick
  repeat' split
  all_goals first | exact Nat.le_refl _ | (show t.tp ≤ max _ _; omega)
/-- A segment comes to a place. -/
def Wt.acc (t : Wt) (pl : Nat) : Bool := if pl = 0 then decide (t.ph ≠ 2) else decide (t.ph ≠ 0)
def Wt.deliv (t : Wt) (pl o n : Nat) : Wt := if t.acc pl = true then (if pl = 0 then { t with s0 := t.s0.put o n } else { t with s1 := t.s1.put o n }) else t
theorem WtI.deliv (h : WtI L t) {pl o n : Nat} (ho : o + n ≤ t.tp) : WtI L (t.deliv pl o n) := by
  have h9 := h.a9
  unfold Wt.deliv
  by_cases ha : t.acc pl = true
  · rw [if_pos ha]
    unfold Wt.acc at ha
    by_cases hp : pl = 0
    · rw [if_pos hp]
      refine ⟨h.a1, h.a2, h.a3, h.a4, h.a5, h.a6, h.a7, h.a8, h.a9, fun hq => ⟨((h.i0 hq).1.put ho).1, (h.i0 hq).2⟩, h.i1, ?_⟩
      have := h.r
      unfold Wt.R at this ⊢
      by_cases e : t.ph = 0
      · rw [if_pos e] at this; rw [if_pos e]; exact this
      · rw [if_neg e] at this; rw [if_neg e]; exact this
    · rw [if_neg hp]
      refine ⟨h.a1, h.a2, h.a3, h.a4, h.a5, h.a6, h.a7, h.a8, h.a9, h.i0, fun hq => ((h.i1 hq).put ho).1, ?_⟩
      have := h.r
      unfold Wt.R at this ⊢
      by_cases e : t.ph = 0
      · rw [if_pos e] at this; rw [if_pos e]; exact this
      · rw [if_neg e] at this; rw [if_neg e]; exact this
  · rw [if_neg ha]; exact h
/-- What is contiguous is read and confirmed. -/
def Wt.taken (t : Wt) : Wt := if t.ph = 0 then { t with rd := t.s0.nxt, s0 := t.s0.read } else { t with rd := t.s1.nxt, s1 := t.s1.read }
def Wt.ack (t : Wt) : Wt := if t.ba < t.rd then { t with ba := t.rd, nx := max t.nx t.rd, idl := 0 } else t
def Wt.take (t : Wt) : Wt := t.taken.ack
theorem WtI.taken (h : WtI L t) : WtI L t.taken := by
  have hr := h.r
  have hi := h.iR
  have ht := hi.ntp (by rw [hr]; exact h.a8)
  have hle := hi.le
  have h7 := h.a7
  unfold Wt.taken
  unfold Wt.R at hr hi ht hle
  by_cases e : t.ph = 0
  · rw [if_pos e] at hr hi ht hle ⊢
    refine ⟨h.a1, h.a2, h.a3, h.a4, h.a5, h.a6, by show t.ba ≤ t.s0.nxt; omega, ht.1, h.a9, fun hq => ⟨hi.read, Nat.le_refl _⟩, h.i1, ?_⟩
    unfold Wt.R
    rw [if_pos e]; rfl
  · rw [if_neg e] at hr hi ht hle ⊢
    refine ⟨h.a1, h.a2, h.a3, h.a4, h.a5, h.a6, by show t.ba ≤ t.s1.nxt; omega, ht.1, h.a9, fun hq => ⟨(h.i0 hq).1, by show t.s0.off ≤ t.s1.nxt; have := (h.i0 hq).2; omega⟩, fun _ => hi.read, ?_⟩
    unfold Wt.R
    rw [if_neg e]; rfl
theorem WtI.ack (h : WtI L t) : WtI L t.ack := by
  unfold Wt.ack
  have h1 := h.a1; have h2 := h.a2; have h3 := h.a3; have h5 := h.a5; have h8 := h.a8
  by_cases e : t.ba < t.rd
  · rw [if_pos e]
    exact ⟨by show t.rd ≤ max _ _; omega, by show max t.nx t.rd ≤ t.tp; omega, h.a3, h.a4, by show t.tk ≤ t.rd + 24; omega, by show 0 ≤ 2; omega, Nat.le_refl _, h.a8, h.a9, h.i0, h.i1, h.r⟩
  · rw [if_neg e]; exact h
theorem WtI.take (h : WtI L t) : WtI L t.take := h.taken.ack
/-- Nothing is left to be read, and all is confirmed. -/
structure Setl (t : Wt) : Prop where
  b : t.ba = t.rd
  n : t.R.nxt = t.rd
theorem WtI.setl (h : WtI L t) : Setl t.take := by
  have hR : t.taken.R.nxt = t.taken.rd := by
    unfold Wt.taken Wt.R
    by_cases e : t.ph = 0
    · rw [if_pos e]; dsimp only; rw [if_pos e]; rfl
    · rw [if_neg e]; dsimp only; rw [if_neg e]; rfl
  have h7 := h.taken.a7
  unfold Wt.take Wt.ack
  by_cases e : t.taken.ba < t.taken.rd
  · rw [if_pos e]
    exact ⟨rfl, hR⟩
  · rw [if_neg e]
    exact ⟨by omega, hR⟩
/-- How far the writer is from going back. -/
def Wt.D (t : Wt) : Nat := if t.nx = t.ba then 0 else 4 * (24 - (t.nx - t.ba)) + (3 - t.idl)
theorem Wt.D_le (t : Wt) : t.D ≤ 99 := by unfold Wt.D; split <;> omega
def Wt.plc (t : Wt) : Nat := if t.ph = 0 then 0 else 1
/-- One round in which all that is sent arrives. -/
def Wt.round (t : Wt) (L most : Nat) : Wt :=
  ((if (t.write L).goes = true then ((t.write L).tick most).deliv t.plc (t.write L).nx ((t.write L).snd most) else (t.write L).tick most)).take
theorem take_nums (t : Wt) : t.take.rd = t.R.nxt ∧ t.take.ba = (if t.ba < t.R.nxt then t.R.nxt else t.ba) ∧ t.take.nx = (if t.ba < t.R.nxt then max t.nx t.R.nxt else t.nx) ∧ t.take.idl = if t.ba < t.R.nxt then 0 else t.idl := by
  unfold Wt.take Wt.taken Wt.R
  by_cases e : t.ph = 0
  · rw [if_pos e, if_pos e]
    unfold Wt.ack
    dsimp only
    by_cases c : t.ba < t.s0.nxt
    · simp only [if_pos c, and_self]
    · simp only [if_neg c, and_self]
  · rw [if_neg e, if_neg e]
    unfold Wt.ack
    dsimp only
    by_cases c : t.ba < t.s1.nxt
    · simp only [if_pos c, and_self]
    · simp only [if_neg c, and_self]
theorem deliv_plc (t : Wt) (o n : Nat) (h9 : t.ph ≤ 2) : (t.deliv t.plc o n).R = t.R.put o n ∧ (t.deliv t.plc o n).ba = t.ba ∧ (t.deliv t.plc o n).nx = t.nx ∧ (t.deliv t.plc o n).idl = t.idl := by
  have ha : t.acc t.plc = true := by
    unfold Wt.acc Wt.plc
    by_cases e : t.ph = 0
    · simp [e]
    · simp [e]
  unfold Wt.deliv
  rw [if_pos ha]
  unfold Wt.plc Wt.R
  by_cases e : t.ph = 0
  · simp [e]
  · simp [e]
theorem no_rest {ba nx tk : Nat} (h1 : ba ≤ nx) (h2 : nx ≤ tk) (hg : ¬ (nx < tk ∧ nx < ba + 24)) (hr : ¬ (ba = nx ∧ nx = tk)) : nx ≠ ba := by omega
theorem idl_step {a i D D' : Nat} (hi : i + 1 < 3) (hD : D = a + (3 - i)) (hD' : D' = a + (3 - (i + 1))) : D' + 1 ≤ D := by omega
theorem idl_pos {a i : Nat} (h : i ≤ 2) : 0 + 1 ≤ a + (3 - i) := by omega
set_option maxHeartbeats 1000000 in
theorem round_step (h : WtI L t) (hs : Setl t) : WtI L (t.round L 16) ∧ Setl (t.round L 16) ∧ t.rd ≤ (t.round L 16).rd ∧
    ((L - (t.round L 16).rd + (t.round L 16).D + 1 ≤ L - t.rd + t.D) ∨ (L = t.rd ∧ t.tk = L ∧ (t.round L 16).rd = L ∧ (t.round L 16).D = 0)) := by
  have I1 := h.write
  have hb := hs.b
  have hn := hs.n
  have hr := h.r
  have e0 : (t.write L).ba = t.ba ∧ (t.write L).nx = t.nx ∧ (t.write L).idl = t.idl ∧ (t.write L).R = t.R ∧ (t.write L).rd = t.rd ∧ (t.write L).plc = t.plc ∧ (t.write L).tk = t.tk + t.wrN L ∧ (t.write L).ph = t.ph := ⟨rfl, rfl, rfl, rfl, rfl, rfl, rfl, rfl⟩
  have hwn : t.wrN L = min (L - t.tk) (24 - (t.tk - t.ba)) := rfl
  have hD : t.D = if t.nx = t.ba then 0 else 4 * (24 - (t.nx - t.ba)) + (3 - t.idl) := rfl
  unfold Wt.round
  rw [← e0.2.2.2.2.2.1]
  rw [← e0.1, ← e0.2.2.2.2.1] at hb
  rw [← e0.2.2.2.1, ← e0.2.2.2.2.1] at hn
  rw [← e0.2.2.2.1, ← e0.2.2.2.2.1] at hr
  rw [← e0.1, ← e0.2.1, ← e0.2.2.1] at hD
  rw [← e0.2.2.2.2.1]
  have htk := e0.2.2.2.2.2.2.1
  have hba := e0.1
  clear e0
  generalize t.write L = u at *
  have a1 := I1.a1; have a2 := I1.a2; have a3 := I1.a3; have a4 := I1.a4; have a5 := I1.a5; have a6 := I1.a6; have a8 := I1.a8
  have b3 := h.a3; have b4 := h.a4; have b1 := h.a1; have b2 := h.a2
  by_cases hg : u.goes = true
  · rw [if_pos hg]
    have hI2 := I1.tick 16
    have hsn := I1.sent 16 hg
    have et : u.tick 16 = { u with nx := u.nx + u.snd 16, tp := max u.tp (u.nx + u.snd 16), idl := 0 } := by unfold Wt.tick; rw [if_pos hg]
    have hg' := hg
    unfold Wt.goes at hg'
    simp only [Bool.and_eq_true, decide_eq_true_eq] at hg'
    have hsd : 1 ≤ u.snd 16 ∧ u.snd 16 ≤ u.tk - u.nx ∧ u.snd 16 ≤ u.ba + 24 - u.nx := by unfold Wt.snd; omega
    have ep : u.plc = (u.tick 16).plc := by rw [et]; rfl
    have eR : (u.tick 16).R = u.R := by rw [et]; rfl
    have hI3 := hI2.deliv (pl := (u.tick 16).plc) hsn
    obtain ⟨d1, d2, d3, d4⟩ := deliv_plc (u.tick 16) u.nx (u.snd 16) hI2.a9
    rw [ep]
    rw [eR] at d1
    have f2 : (u.tick 16).ba = u.ba := by rw [et]
    have f3 : (u.tick 16).nx = u.nx + u.snd 16 := by rw [et]
    have f4 : (u.tick 16).idl = 0 := by rw [et]
    have f5 : (u.tick 16).tp = max u.tp (u.nx + u.snd 16) := by rw [et]
    have hiR := (hI2.iR)
    rw [eR, f5] at hiR
    rw [f2] at d2
    rw [f3] at d3
    rw [f4] at d4
    generalize (u.tick 16).deliv (u.tick 16).plc u.nx (u.snd 16) = v at *
    obtain ⟨g1, g2, g3, g4⟩ := take_nums v
    refine ⟨hI3.take, hI3.setl, ?_, .inl ?_⟩
    · have := hI3.take.a7; have := hI3.setl.b
      rw [g1, d1]
      have := (hiR.put (o := u.nx) (n := u.snd 16) (by omega)).2
      omega
    · have hle := hI3.take.a8
      have hle3 := hI3.take.a3
      have hle4 := hI3.take.a4
      have hD2 : v.take.D = if v.take.nx = v.take.ba then 0 else 4 * (24 - (v.take.nx - v.take.ba)) + (3 - v.take.idl) := rfl
      rw [d1, d2] at g2 g3 g4
      rw [d3] at g3
      rw [d4] at g4
      rw [d1] at g1
      by_cases e : u.nx = u.ba
      · have hgr := hiR.grow (n := u.snd 16) (by omega) (by omega)
        rw [show u.R.nxt = u.nx by omega] at hgr
        rw [if_pos (by omega)] at g2 g3
        rw [if_pos (by omega)] at hD2
        rw [hD2, hD, if_pos e]
        omega
      · have hho := hiR.hole (o := u.nx) (n := u.snd 16) (by omega)
        rw [hho, if_neg (by omega)] at g2 g3 g4
        rw [hho] at g1
        rw [if_neg (by omega)] at hD2
        rw [if_neg e] at hD
        omega
  · rw [if_neg hg]
    have hg' : ¬ (u.nx < u.tk ∧ u.nx < u.ba + 24) := by
      unfold Wt.goes at hg
      simpa only [Bool.and_eq_true, decide_eq_true_eq] using hg
    have hI2 := I1.tick 16
    by_cases hre : u.rest = true
    · have et : u.tick 16 = u := by unfold Wt.tick; rw [if_neg hg, if_pos hre]
      rw [et]
      rw [et] at hI2
      unfold Wt.rest at hre
      simp only [Bool.and_eq_true, decide_eq_true_eq] at hre
      obtain ⟨g1, g2, g3, g4⟩ := take_nums u
      rw [if_neg (by omega)] at g2 g3 g4
      have hD2 : u.take.D = if u.take.nx = u.take.ba then 0 else 4 * (24 - (u.take.nx - u.take.ba)) + (3 - u.take.idl) := rfl
      rw [if_pos (by omega)] at hD2
      exact ⟨hI2.take, hI2.setl, by omega, .inr ⟨by omega, by omega, by omega, hD2⟩⟩
    · have hre' : ¬ (u.ba = u.nx ∧ u.nx = u.tk) := by
        unfold Wt.rest at hre
        simpa only [Bool.and_eq_true, decide_eq_true_eq] using hre
      by_cases hi : u.idl + 1 < 3
      · have et : u.tick 16 = { u with idl := u.idl + 1 } := by unfold Wt.tick; rw [if_neg hg, if_neg hre, if_pos hi]
        obtain ⟨g1, g2, g3, g4⟩ := take_nums (u.tick 16)
        have eR : (u.tick 16).R = u.R := by rw [et]; rfl
        have f2 : (u.tick 16).ba = u.ba := by rw [et]
        have f3 : (u.tick 16).nx = u.nx := by rw [et]
        have f4 : (u.tick 16).idl = u.idl + 1 := by rw [et]
        rw [eR] at g1 g2 g3 g4
        rw [f2] at g2 g3 g4
        rw [f3] at g3
        rw [f4] at g4
        rw [if_neg (by omega)] at g2 g3 g4
        clear hwn htk b3 b4
        generalize u.tick 16 = v at *
        have hD2 : v.take.D = if v.take.nx = v.take.ba then 0 else 4 * (24 - (v.take.nx - v.take.ba)) + (3 - v.take.idl) := rfl
        have hne : u.nx ≠ u.ba := no_rest a1 (Nat.le_trans a2 a3) hg' hre'
        rw [g3, g2, g4, if_neg hne] at hD2
        rw [if_neg hne] at hD
        have q := idl_step hi hD hD2
        clear hD hD2 g2 g3 g4 hg' hre' a1 a2 a3 a4 a5 a6
        have q1 : v.take.rd = u.rd := by rw [g1]; exact hn
        exact ⟨hI2.take, hI2.setl, Nat.le_of_eq q1.symm, .inl (by rw [q1, Nat.add_assoc]; exact Nat.add_le_add_left q _)⟩
      · have et : u.tick 16 = { u with idl := 0, nx := u.ba } := by unfold Wt.tick; rw [if_neg hg, if_neg hre, if_neg hi]
        obtain ⟨g1, g2, g3, g4⟩ := take_nums (u.tick 16)
        have eR : (u.tick 16).R = u.R := by rw [et]; rfl
        have f2 : (u.tick 16).ba = u.ba := by rw [et]
        have f3 : (u.tick 16).nx = u.ba := by rw [et]
        rw [eR] at g1 g2 g3 g4
        rw [f2] at g2 g3 g4
        rw [f3] at g3
        rw [if_neg (by omega)] at g2 g3
        clear hwn htk b3 b4
        have hne : u.nx ≠ u.ba := no_rest a1 (Nat.le_trans a2 a3) hg' hre'
        generalize u.tick 16 = v at *
        have hD2 : v.take.D = if v.take.nx = v.take.ba then 0 else 4 * (24 - (v.take.nx - v.take.ba)) + (3 - v.take.idl) := rfl
        rw [g3, g2, if_pos rfl] at hD2
        rw [if_neg hne] at hD
        have q : v.take.D + 1 ≤ t.D := by rw [hD2, hD]; exact idl_pos a6
        clear hg' hre' a1 a2 a3 a4 a5 hD hD2 g2 g3
        have q1 : v.take.rd = u.rd := by rw [g1]; exact hn
        exact ⟨hI2.take, hI2.setl, Nat.le_of_eq q1.symm, .inl (by rw [q1, Nat.add_assoc]; exact Nat.add_le_add_left q _)⟩
/-- A move starts; it ends with a new place that keeps what is right. -/
def Wt.start (t : Wt) : Wt := { t with ph := 1, s1 := Sr.new t.rd }
theorem WtI.start (h : WtI L t) (h0 : t.ph = 0) : WtI L t.start :=
  ⟨h.a1, h.a2, h.a3, h.a4, h.a5, h.a6, h.a7, h.a8, by show 1 ≤ 2; omega, fun _ => h.i0 (by omega), fun _ => SrI.new _ _, rfl⟩
def Wt.fin (t : Wt) (s : Sr) : Wt := { t with ph := 2, s1 := s }
theorem WtI.fin (h : WtI L t) (h1 : t.ph = 1) {s : Sr} (hs : SrI s t.tp) (ho : s.off = t.s1.off) : WtI L (t.fin s) := by
  refine ⟨h.a1, h.a2, h.a3, h.a4, h.a5, h.a6, h.a7, h.a8, Nat.le_refl _, fun hp => ?_, fun _ => hs, ?_⟩
  · change 2 ≤ 1 at hp; omega
  · have := h.r
    unfold Wt.R at this
    rw [if_neg (by omega)] at this
    show s.off = t.rd
    rw [ho]; exact this
end
end Go.Proofs.YtkaaoomliepijaaGreat
