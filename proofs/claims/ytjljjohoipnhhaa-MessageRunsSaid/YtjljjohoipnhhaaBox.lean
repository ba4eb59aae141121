/-
  The memory of message.Box, and how a message's state changes.
-/
import Derived.Test.YtjljjohoipnhhaaMsg
import Derived.Test.YtjljjohoipnhhaaSlices
import Derived.RegionTactic
import Derived.Deep.DeepCutAuto
namespace Go.Proofs.Ytjljjohoipnhhaa
open Go.RowKit
set_option linter.unusedVariables false

theorem Try.infoItP : (Try.prog.info? 67).map (fun i => (i.zero, i.size, i.bytes)) = some (some (.pointer none), 1, 8) := by kernel_rfl

/-- An open message in memory. -/
structure It where
  n : Nat
  dl : Int
  rest : List Int
  b : Nat
  rv : Value
def It.ptr (x : It) : Value := .pointer (some ⟨x.b, 0, none⟩)
def It.foot (x : It) : List Nat := x.b :: x.rv.ownBlock.toList
def It.key (x : It) : Nat × Int × List Int := (x.n, x.dl, x.rest)
def itFoot (its : List It) : List Nat := its.flatMap It.foot
def boxFoot (b : Nat) (qv sv : Value) (its : List It) : List Nat := b :: (qv.ownBlock.toList ++ (sv.ownBlock.toList ++ itFoot its))
def stV (s : Nat) : Value := .int .u8 (s : Int)

structure ItAt (w : World) (base : Nat) (x : It) : Prop where
  hb : Blk w x.b 69 [.int .i64 x.n, .int .i64 x.dl, x.rv]
  hr : Vw (Value.int .u8) 5 w base x.rv x.rest
  hx : base ≤ x.b
/-- All but the queue's row. -/
structure BoxR (w : World) (base b : Nat) (room : Int) (qv sv : Value) (its : List It) (st : List Nat) : Prop where
  hb : Blk w b 66 (.int .i64 room :: qv :: sv :: cnts st)
  hs : Vw stV 5 w base sv st
  hi : ∀ x ∈ its, ItAt w base x
  hbb : base ≤ b
  nd : (boxFoot b qv sv its).Nodup
structure BoxAt (w : World) (base b : Nat) (room : Int) (qv sv : Value) (its : List It) (st : List Nat) : Prop where
  r : BoxR w base b room qv sv its st
  q : Vw It.ptr 67 w base qv its

section
variable {w w' : World} {base b : Nat} {room : Int} {qv sv : Value} {its : List It} {st : List Nat} {S : Nat → Prop}
theorem ItAt.upd {x : It} (h : ItAt w base x) (u : Upd S w w') (hs : ∀ k ∈ x.foot, ¬ S k) : ItAt w' base x :=
  ⟨h.hb.upd u (hs _ (by simp [It.foot])), h.hr.upd u fun g hg => hs _ (by simp [It.foot, hg]), h.hx⟩
theorem ItAt.lt {x : It} (h : ItAt w base x) {k : Nat} (hk : k ∈ x.foot) : base ≤ k ∧ k < w.heap.size := by
  unfold It.foot at hk
  rcases List.mem_cons.1 hk with rfl | hk
  · exact ⟨h.hx, h.hb.lt⟩
  · exact h.hr.lt (by simpa using hk)
theorem mem_itFoot {k : Nat} (hk : k ∈ itFoot its) : ∃ x ∈ its, k ∈ x.foot := List.mem_flatMap.1 hk
theorem in_itFoot {k : Nat} {x : It} (hx : x ∈ its) (hk : k ∈ x.foot) : k ∈ itFoot its := List.mem_flatMap.2 ⟨x, hx, hk⟩
theorem in_boxFoot {k : Nat} (h : k = b ∨ qv.ownBlock = some k ∨ sv.ownBlock = some k ∨ k ∈ itFoot its) : k ∈ boxFoot b qv sv its := by
  unfold boxFoot
  simp only [List.mem_cons, List.mem_append, Option.mem_toList, Option.mem_def]
  exact h
theorem of_boxFoot {k : Nat} (h : k ∈ boxFoot b qv sv its) : k = b ∨ qv.ownBlock = some k ∨ sv.ownBlock = some k ∨ k ∈ itFoot its := by
  unfold boxFoot at h
  simpa only [List.mem_cons, List.mem_append, Option.mem_toList, Option.mem_def] using h
theorem BoxR.upd (h : BoxR w base b room qv sv its st) (u : Upd S w w') (hs : ∀ k ∈ boxFoot b qv sv its, ¬ S k) : BoxR w' base b room qv sv its st :=
  ⟨h.hb.upd u (hs _ (in_boxFoot (.inl rfl))), h.hs.upd u fun g hg => hs _ (in_boxFoot (.inr (.inr (.inl hg)))), fun x hx => (h.hi x hx).upd u fun k hk => hs _ (in_boxFoot (.inr (.inr (.inr (in_itFoot hx hk))))), h.hbb, h.nd⟩
theorem BoxR.below (h : BoxR w base b room qv sv its st) (q : Below w.heap.size w w') : BoxR w' base b room qv sv its st := h.upd (S := fun _ => False) (Upd.of_below q) fun _ _ => id
theorem BoxAt.upd (h : BoxAt w base b room qv sv its st) (u : Upd S w w') (hs : ∀ k ∈ boxFoot b qv sv its, ¬ S k) : BoxAt w' base b room qv sv its st :=
  ⟨h.r.upd u hs, h.q.upd u fun g hg => hs _ (in_boxFoot (.inr (.inl hg)))⟩
theorem BoxAt.below (h : BoxAt w base b room qv sv its st) (q : Below w.heap.size w w') : BoxAt w' base b room qv sv its st := h.upd (S := fun _ => False) (Upd.of_below q) fun _ _ => id
theorem BoxAt.lt (h : BoxAt w base b room qv sv its st) {k : Nat} (hk : k ∈ boxFoot b qv sv its) : base ≤ k ∧ k < w.heap.size := by
  rcases of_boxFoot hk with rfl | hk | hk | hk
  · exact ⟨h.r.hbb, h.r.hb.lt⟩
  · exact h.q.lt hk
  · exact h.r.hs.lt hk
  · obtain ⟨x, hx, hk⟩ := mem_itFoot hk
    exact (h.r.hi x hx).lt hk
/-- What the footprint's parts have not in common. -/
structure Parts (b : Nat) (qv sv : Value) (its : List It) : Prop where
  bq : ∀ k, qv.ownBlock = some k → k ≠ b
  bs : ∀ k, sv.ownBlock = some k → k ≠ b
  bi : b ∉ itFoot its
  qs : ∀ k, qv.ownBlock = some k → sv.ownBlock ≠ some k
  qi : ∀ k, qv.ownBlock = some k → k ∉ itFoot its
  si : ∀ k, sv.ownBlock = some k → k ∉ itFoot its
  ii : (itFoot its).Nodup
theorem opt_nodup (o : Option Nat) : o.toList.Nodup := by cases o <;> simp
theorem nodup_parts (h : (boxFoot b qv sv its).Nodup) : Parts b qv sv its := by
  unfold boxFoot at h
  simp only [List.nodup_cons, List.nodup_append, List.mem_append, Option.mem_toList, Option.mem_def, not_or] at h
  obtain ⟨⟨h1, h2, h3⟩, _, ⟨_, h4, h5⟩, h6⟩ := h
  exact ⟨fun k hk e => h1 (by rw [← e]; exact hk), fun k hk e => h2 (by rw [← e]; exact hk), h3, fun k hk e => h6 k hk k (.inl e) rfl, fun k hk e => h6 k hk k (.inr e) rfl, fun k hk e => h5 k hk k e rfl, h4⟩
theorem parts_nodup (h : Parts b qv sv its) : (boxFoot b qv sv its).Nodup := by
  unfold boxFoot
  simp only [List.nodup_cons, List.nodup_append, List.mem_append, Option.mem_toList, Option.mem_def, not_or]
  refine ⟨⟨fun e => h.bq b e rfl, fun e => h.bs b e rfl, h.bi⟩, opt_nodup _, ⟨opt_nodup _, h.ii, ?_⟩, ?_⟩
  · rintro k hk j hj rfl; exact h.si k hk hj
  · rintro k hk j hj rfl
    rcases hj with hj | hj
    · exact h.qs k hk hj
    · exact h.qi k hk hj
theorem itFoot_cons (x : It) (l : List It) : itFoot (x :: l) = x.foot ++ itFoot l := rfl
theorem itFoot_append (l m : List It) : itFoot (l ++ m) = itFoot l ++ itFoot m := by simp [itFoot]
theorem itFoot_sub {l m : List It} (h : l.Sublist m) : (itFoot l).Sublist (itFoot m) := by
  induction h with
  | slnil => exact List.Sublist.refl _
  | cons a _ ih => rw [itFoot_cons]; exact ih.trans (List.sublist_append_right _ _)
  | cons_cons a _ ih => rw [itFoot_cons, itFoot_cons]; exact List.Sublist.append (List.Sublist.refl _) ih
/-- Fewer messages. -/
theorem Parts.sub {l : List It} (h : Parts b qv sv its) (hl : l.Sublist its) : Parts b qv sv l :=
  ⟨h.bq, h.bs, fun e => h.bi ((itFoot_sub hl).subset e), h.qs, fun k hk e => h.qi k hk ((itFoot_sub hl).subset e), fun k hk e => h.si k hk ((itFoot_sub hl).subset e), h.ii.sublist (itFoot_sub hl)⟩
/-- A part is exchanged for one in the same block or a new one. -/
theorem Parts.q' {qv' : Value} (h : Parts b qv sv its) (hq : ∀ k, qv'.ownBlock = some k → qv.ownBlock = some k ∨ k ∉ boxFoot b qv sv its) : Parts b qv' sv its := by
  refine ⟨fun k hk => ?_, h.bs, h.bi, fun k hk => ?_, fun k hk => ?_, h.si, h.ii⟩
  · rcases hq k hk with h1 | h1
    · exact h.bq k h1
    · exact fun e => h1 (in_boxFoot (.inl e))
  · rcases hq k hk with h1 | h1
    · exact h.qs k h1
    · exact fun e => h1 (in_boxFoot (.inr (.inr (.inl e))))
  · rcases hq k hk with h1 | h1
    · exact h.qi k h1
    · exact fun e => h1 (in_boxFoot (.inr (.inr (.inr e))))
theorem Parts.s' {sv' : Value} (h : Parts b qv sv its) (hq : ∀ k, sv'.ownBlock = some k → sv.ownBlock = some k ∨ k ∉ boxFoot b qv sv its) : Parts b qv sv' its := by
  refine ⟨h.bq, fun k hk => ?_, h.bi, fun k hk hs => ?_, h.qi, fun k hk => ?_, h.ii⟩
  · rcases hq k hk with h1 | h1
    · exact h.bs k h1
    · exact fun e => h1 (in_boxFoot (.inl e))
  · rcases hq k hs with h1 | h1
    · exact h.qs k hk h1
    · exact h1 (in_boxFoot (.inr (.inl hk)))
  · rcases hq k hk with h1 | h1
    · exact h.si k h1
    · exact fun e => h1 (in_boxFoot (.inr (.inr (.inr e))))
end

/-- The blocks that a change of a state writes. -/
def chS (b : Nat) (sv : Value) (k : Nat) : Prop := k = b ∨ sv.ownBlock = some k
theorem stV_map {w : World} {base : Nat} {sv : Value} {st : List Nat} (h : Vw stV 5 w base sv st) {n s : Nat} (hn : st[n]? = some s) : ∃ a c, sv = .slice a st.length c ∧ okAd a = true ∧ w.cell? (adr a n) = some (.int .u8 (s : Int)) ∧ w.frozen? (adr a n) = false ∧ sv.ownBlock = some (adr a n).block := by
  obtain ⟨a, c, rfl⟩ := h.shape
  obtain ⟨h1, h2⟩ := h.sl n s hn
  refine ⟨a, c, rfl, h1, h2, h.free (get_lt hn), ?_⟩
  cases a with
  | none => simp [okAd] at h1
  | some x => rfl
theorem BoxR.change {w : World} {base b : Nat} {room : Int} {qv sv : Value} {its : List It} {st : List Nat} (h : BoxR w base b room qv sv its st) {n s k : Nat} (hn : st[n]? = some s) (hs : s ≤ 5) (hk : k ≤ 5) {a : Option Addr} {m c : Nat} (hsv : sv = .slice a m c) :
    BoxR (((w.setCell ⟨b, 3 + s, none⟩ (.int .i64 ((cnt st s : Int) - 1))).setCell (adr a n) (.int .u8 (k : Int))).setCell ⟨b, 3 + k, none⟩ (.int .i64 ((if k = s then (cnt st s : Int) - 1 else (cnt st k : Int)) + 1))) base b room qv sv its (st.set n k) ∧
    Upd (chS b sv) w (((w.setCell ⟨b, 3 + s, none⟩ (.int .i64 ((cnt st s : Int) - 1))).setCell (adr a n) (.int .u8 (k : Int))).setCell ⟨b, 3 + k, none⟩ (.int .i64 ((if k = s then (cnt st s : Int) - 1 else (cnt st k : Int)) + 1))) := by
  have P := nodup_parts h.nd
  obtain ⟨a', c', e, h1, h2, h3, h4⟩ := stV_map h.hs hn
  rw [hsv] at e
  cases e
  have hbs : (adr a n).block ≠ b := P.bs _ h4
  have hne : b ≠ (adr a n).block := fun e => hbs e.symm
  have u1 : Upd (chS b sv) w (w.setCell ⟨b, 3 + s, none⟩ (.int .i64 ((cnt st s : Int) - 1))) := (Upd.refl _ w).setCell _ _ fun _ => .inl rfl
  have u2 := u1.setCell (adr a n) (.int .u8 (k : Int)) fun _ => .inr h4
  have u3 := u2.setCell ⟨b, 3 + k, none⟩ (.int .i64 ((if k = s then (cnt st s : Int) - 1 else (cnt st k : Int)) + 1)) fun _ => .inl rfl
  refine ⟨⟨?_, ?_, ?_, h.hbb, h.nd⟩, u3⟩
  · have hb := ((h.hb.set (3 + s) (.int .i64 ((cnt st s : Int) - 1))).setO (a := adr a n) (.int .u8 (k : Int)) hne).set (3 + k) (.int .i64 ((if k = s then (cnt st s : Int) - 1 else (cnt st k : Int)) + 1))
    rw [← cnts_set hn hs hk]
    have e3 : ∀ (x y z : Value) (l : List Value) (i : Nat) (v : Value), (x :: y :: z :: l).set (3 + i) v = x :: y :: z :: l.set i v := by
      intro x y z l i v
      rw [show 3 + i = i + 1 + 1 + 1 by omega]
      simp
    rw [e3, e3] at hb
    exact hb
  · subst hsv
    have v1 : Vw stV 5 (w.setCell ⟨b, 3 + s, none⟩ (.int .i64 ((cnt st s : Int) - 1))) base (.slice a st.length c) st := h.hs.upd (S := fun j => j = b) ((Upd.refl _ w).setCell _ _ fun _ => rfl) fun g hg e => P.bs g hg e
    have v2 : Vw stV 5 ((w.setCell ⟨b, 3 + s, none⟩ (.int .i64 ((cnt st s : Int) - 1))).setCell (adr a n) (.int .u8 (k : Int))) base (.slice a st.length c) (st.set n k) := v1.set (get_lt hn) k
    exact v2.upd (S := fun j => j = b) ((Upd.refl _ _).setCell _ _ fun _ => rfl) fun g hg e => P.bs g hg e
  · intro x hx
    refine (h.hi x hx).upd u3 fun j hj hS => ?_
    rcases hS with rfl | hS
    · exact P.bi (in_itFoot hx hj)
    · exact P.si j hS (in_itFoot hx hj)

theorem BoxR.change_mid {w : World} {base b : Nat} {room : Int} {qv sv : Value} {its : List It} {st : List Nat} (h : BoxR w base b room qv sv its st) {n s k : Nat} (hn : st[n]? = some s) (hs : s ≤ 5) (hk : k ≤ 5) {a : Option Addr} {m c : Nat} (hsv : sv = .slice a m c) :
    ((w.setCell ⟨b, 3 + s, none⟩ (.int .i64 ((cnt st s : Int) - 1))).setCell (adr a n) (.int .u8 (k : Int))).cell? ⟨b, 3 + k, none⟩ = some (.int .i64 (if k = s then (cnt st s : Int) - 1 else (cnt st k : Int))) ∧
    ((w.setCell ⟨b, 3 + s, none⟩ (.int .i64 ((cnt st s : Int) - 1))).setCell (adr a n) (.int .u8 (k : Int))).frozen? ⟨b, 3 + k, none⟩ = false := by
  obtain ⟨a', c', e, h1, h2, h3, h4⟩ := stV_map h.hs hn
  rw [hsv] at e
  cases e
  have hne : b ≠ (adr a n).block := fun e => (nodup_parts h.nd).bs _ h4 e.symm
  have hb := (h.hb.set (3 + s) (.int .i64 ((cnt st s : Int) - 1))).setO (a := adr a n) (.int .u8 (k : Int)) hne
  refine ⟨hb.cell ?_, hb.free _⟩
  rw [show 3 + s = s + 1 + 1 + 1 by omega, show 3 + k = k + 1 + 1 + 1 by omega]
  simp only [List.set_cons_succ, List.getElem?_cons_succ]
  rw [List.getElem?_set]
  have hl : s < (cnts st).length := by show s < 6; omega
  by_cases e : k = s
  · subst e; simp [hl]
  · rw [if_neg (fun e' => e e'.symm), if_neg e]; exact cnts_get st hk

set_option maxHeartbeats 2000000 in
set_option maxRecDepth 100000 in
theorem change_any (w : World) (base b : Nat) (room : Int) (qv sv : Value) (its : List It) (st : List Nat) (h : BoxR w base b room qv sv its st) (n s k : Nat) (hn : st[n]? = some s) (hs : s ≤ 5) (hk : k ≤ 5) (hl : st.length ≤ 100000) :
    Calls Try.prog 32 #[.pointer (some ⟨b, 0, none⟩), .int .i64 n, .int .i64 k] w fun e w' => e = .returned (.tuple #[]) ∧ BoxR w' base b room qv sv its (st.set n k) ∧ Upd (chS b sv) w w' := by
  obtain ⟨a, c, rfl, ha, cs, fs, hown⟩ := stV_map h.hs hn
  have HC := Lib.hid (h.change hn hs hk rfl)
  have HM := Lib.hid (h.change_mid hn hs hk rfl)
  have hb2 := h.hb.cell (i := 2) rfl
  have hbs := h.hb.cell (i := 3 + s) (by rw [show 3 + s = s + 1 + 1 + 1 by omega]; exact cnts_get st hs)
  have hbk := h.hb.cell (i := 3 + k) (by rw [show 3 + k = k + 1 + 1 + 1 by omega]; exact cnts_get st hk)
  have fbs := h.hb.free (3 + s)
  have fbk := h.hb.free (3 + k)
  have c1 := cnt_pos hn
  have c2 := cnt_le st s
  have c3 := cnt_le st k
  have hnl := get_lt hn
  have hne : (adr a n).block ≠ b := (nodup_parts h.nd).bs _ hown
  have i0 : (0 : Int) ≤ (n : Int) := by omega
  have i1 : (n : Int) < (st.length : Int) := by omega
  have s0 : (0 : Int) ≤ (s : Int) := by omega
  have s1 : (s : Int) < 6 := by omega
  have k0 : (0 : Int) ≤ (k : Int) := by omega
  have k1 : (k : Int) < 6 := by omega
  have hv1 : (-1 : Int) ≤ (if k = s then (cnt st s : Int) - 1 else (cnt st k : Int)) := by split <;> omega
  have hv2 : (if k = s then (cnt st s : Int) - 1 else (cnt st k : Int)) ≤ 100000 := by split <;> omega
  generalize (if k = s then (cnt st s : Int) - 1 else (cnt st k : Int)) = v at *
  have cs' : (w.setCell ⟨b, 3 + s, none⟩ (.int .i64 ((cnt st s : Int) - 1))).cell? (adr a n) = some (.int .u8 (s : Int)) := by
    rw [((Upd.refl (fun j => j = b) w).setCell ⟨b, 3 + s, none⟩ _ fun _ => rfl).cell (World.block_lt_of_cell? _ _ cs) hne]; exact cs
  have fs' : (w.setCell ⟨b, 3 + s, none⟩ (.int .i64 ((cnt st s : Int) - 1))).frozen? (adr a n) = false := by
    rw [World.frozen?_of_block (w := w) (((Upd.refl (fun j => j = b) w).setCell ⟨b, 3 + s, none⟩ _ fun _ => rfl).block _ (World.block_lt_of_cell? _ _ cs) hne)]; exact fs
  clear h hn
  go_enter Try.func32, Try.ntmps32
  go_wp2_with fail
  go_region
  go_wp2_with fail
  have HM1 := HM.out
  have HC1 := HC.out
  clear HM HC hb2 hbs hbk fbs fbk cs fs cs' fs'
  obtain ⟨w2, hw2⟩ : ∃ w2, ((w.setCell ⟨b, 3 + s, none⟩ (.int .i64 ((cnt st s : Int) - 1))).setCell (adr a n) (.int .u8 (k : Int))) = w2 := ⟨_, rfl⟩
  rw [hw2] at HM1 HC1 ⊢
  have HC := Lib.hid HC1
  obtain ⟨g1, g2⟩ := HM1
  clear hw2 HC1
  go_region
  go_end0
  refine ⟨rfl, HC.out.1.below (w' := World.drew (World.drew _)) ?_, HC.out.2.drew.drew⟩
  exact ((Qt.refl _).drew.drew).bel
end Go.Proofs.Ytjljjohoipnhhaa
