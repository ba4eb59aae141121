/-
  A fork in memory; contracts of New, Freed, Held, Waiting.
-/
import Derived.Test.YteomiofmaopkhaaBrIdx
namespace Go.Proofs.Yteomiofmaopkhaa
open Go.RowKit
set_option linter.unusedVariables false

theorem Try.infoBI : (Try.prog.info? 3).map (fun i => (i.zero, i.size, i.bytes)) = some (some (.int .i64 0), 1, 8) := by kernel_rfl
theorem Try.infoBF : (Try.prog.info? 62).map (fun i => (i.zero, i.size, i.bytes)) = some (some (.agg #[.int .i64 0, .int .u64 0]), 2, 16) := by kernel_rfl

theorem news_new {w0 : World} {T : TypeId} {vs : List Value} {s : Nat} (hs : w0.heap.size = s) : ∀ j u, vs[j]? = some u → (w0.alloc (.cells vs.toArray T)).cell? (Addr.add ⟨s, 0, none⟩ j) = some u := by
  intro j u hj
  subst hs
  rw [add_eq _ _ rfl]
  have := (Blk.new w0 T vs).cell hj
  simpa using this
structure FkAt (w : World) (base b : Nat) (o room : Int) (v : Value) (fs : List Fr) (freed : Int) : Prop where
  hb : Blk w b 59 [.int .i64 o, .int .i64 room, v, .int .i64 freed]
  own : w.ownsRow base 62 2 v fs.length (cfs fs)
  ne : v.ownBlock ≠ some b
  bb : base ≤ b
/-- The blocks that a fork's methods may write. -/
def fkS (b : Nat) (v : Value) (k : Nat) : Prop := k = b ∨ v.ownBlock = some k
theorem FkAt.upd {w w' : World} {base b : Nat} {o room : Int} {v : Value} {fs : List Fr} {freed : Int} {S : Nat → Prop} (h : FkAt w base b o room v fs freed) (u : Upd S w w') (hb : ¬ S b) (hs : ∀ g, v.ownBlock = some g → ¬ S g) : FkAt w' base b o room v fs freed :=
  ⟨h.hb.upd u hb, own_upd h.own u hs, h.ne, h.bb⟩
theorem FkAt.below {w w' : World} {base b : Nat} {o room : Int} {v : Value} {fs : List Fr} {freed : Int} (h : FkAt w base b o room v fs freed) (q : Below w.heap.size w w') : FkAt w' base b o room v fs freed := h.upd (S := fun _ => False) (Upd.of_below q) id fun _ _ => id
theorem FkAt.qt {w w' : World} {base b : Nat} {o room : Int} {v : Value} {fs : List Fr} {freed : Int} (h : FkAt w base b o room v fs freed) (q : Qt w w') : FkAt w' base b o room v fs freed := h.below q.bel
theorem FkAt.f_lt {w : World} {base b : Nat} {o room : Int} {v : Value} {fs : List Fr} {freed : Int} (h : FkAt w base b o room v fs freed) {k : Nat} (hk : fkS b v k) : k < w.heap.size ∧ base ≤ k := by
  rcases hk with rfl | hk
  · exact ⟨h.hb.lt, h.bb⟩
  · exact own_lt h.own hk

set_option maxHeartbeats 1000000 in
theorem newF_bad (o r : Int) (w : World) (h : o < 1 ∨ (¬ o < 1 ∧ 8 < o) ∨ (¬ o < 1 ∧ ¬ 8 < o ∧ r < 1) ∨ (¬ o < 1 ∧ ¬ 8 < o ∧ ¬ r < 1 ∧ 64 < r)) :
    Calls Try.prog 17 #[.int .i64 o, .int .i64 r] w fun e w' => e = .returned (.tuple #[.pointer none, .int .i64 2]) ∧ w = w' := by
  rcases h with h | ⟨h1, h2⟩ | ⟨h1, h2, h3⟩ | ⟨h1, h2, h3, h4⟩
  all_goals
    go_enter Try.func17, Try.ntmps17
    go_wp2
    go_ret2
    exact ⟨rfl, rfl⟩
def NewFPost (w : World) (o r : Int) (e : Ending) (w' : World) : Prop :=
  e = .returned (.tuple #[.pointer (some ⟨w.heap.size, 0, none⟩), .int .i64 0]) ∧ FkAt w' w.heap.size w.heap.size o r (.slice none 0 0) [] 0 ∧ Below w.heap.size w w' ∧ w'.heap.size = w.heap.size + 1
set_option maxHeartbeats 1000000 in
theorem newF_ok (o r : Int) (w : World) (h1 : 1 ≤ o) (h2 : o ≤ 8) (h3 : 1 ≤ r) (h4 : r ≤ 64) : Calls Try.prog 17 #[.int .i64 o, .int .i64 r] w (NewFPost w o r) := by
  have g1 : ¬ o < 1 := by omega
  have g2 : ¬ 8 < o := by omega
  have g3 : ¬ r < 1 := by omega
  have g4 : ¬ 64 < r := by omega
  go_enter Try.func17, Try.ntmps17
  go_wp2
  go_ret2
  exact ⟨rfl, ⟨Blk.new w _ [.int .i64 o, .int .i64 r, .slice none 0 0, .int .i64 0], ⟨by simp [cfs], .inl ⟨rfl, rfl⟩⟩, by simp [Value.ownBlock], Nat.le_refl _⟩, (Below.refl _ _).alloc (Nat.le_refl _) _, by simp⟩

set_option maxHeartbeats 1000000 in
theorem freed_any (w : World) (base b : Nat) (o room : Int) (v : Value) (fs : List Fr) (freed : Int) (h : FkAt w base b o room v fs freed) :
    Calls Try.prog 24 #[.pointer (some ⟨b, 0, none⟩)] w fun e w' => e = .returned (.int .i64 freed) ∧ w = w' := by
  have q := h.hb.cell (i := 3) rfl
  clear h
  go_enter Try.func24, Try.ntmps24
  go_wp2
  go_ret
  exact ⟨rfl, rfl⟩
theorem freed_nil (w : World) : Calls Try.prog 24 #[.pointer none] w fun e w' => e = .returned (.int .i64 0) ∧ w = w' := by
  go_enter Try.func24, Try.ntmps24
  go_wp2
  go_ret
  exact ⟨rfl, rfl⟩
theorem held_nil (w : World) : Calls Try.prog 22 #[.pointer none] w fun e w' => e = .returned (.slice none 0 0) ∧ w = w' := by
  go_enter Try.func22, Try.ntmps22
  go_wp2
  go_ret
  exact ⟨rfl, rfl⟩
theorem wait_nil (w : World) (k : Int) : Calls Try.prog 25 #[.pointer none, .int .i64 k] w fun e w' => e = .returned (.slice none 0 0) ∧ w = w' := by
  go_enter Try.func25, Try.ntmps25
  go_wp2
  go_ret
  exact ⟨rfl, rfl⟩
theorem wait_out (w : World) (base b : Nat) (o room : Int) (v : Value) (fs : List Fr) (freed : Int) (h : FkAt w base b o room v fs freed) (k : Int) (hk : k < 0 ∨ (¬ k < 0 ∧ o ≤ k)) :
    Calls Try.prog 25 #[.pointer (some ⟨b, 0, none⟩), .int .i64 k] w fun e w' => e = .returned (.slice none 0 0) ∧ w = w' := by
  have q := h.hb.cell (i := 0) rfl
  clear h
  rcases hk with hk | ⟨hk, hk2⟩
  all_goals
    go_enter Try.func25, Try.ntmps25
    go_wp2
    go_ret
    exact ⟨rfl, rfl⟩

def hIds (fs : List Fr) : List Int := fs.map Fr.id
def hIdsV (fs : List Fr) (k : Nat) : List Value := (hIds (fs.take k)).map (Value.int .i64)
theorem hIds_step {fs : List Fr} {k : Nat} {x : Fr} (h : fs[k]? = some x) : hIdsV fs k ++ [.int .i64 x.id] = hIdsV fs (k + 1) := by
  unfold hIdsV hIds
  rw [List.take_add_one, h]
  simp
def HlRel (w : World) (fs : List Fr) (lv i : Value) (wr : World) : Prop :=
  ∃ k : Nat, k ≤ fs.length ∧ i = .int .i64 k ∧ wr.ownsRow w.heap.size 3 1 lv k (hIdsV fs k) ∧ Below w.heap.size w wr

set_option maxHeartbeats 2000000 in
set_option maxRecDepth 100000 in
theorem held_any (w : World) (base b : Nat) (o room : Int) (v : Value) (fs : List Fr) (freed : Int) (h : FkAt w base b o room v fs freed) (hl : fs.length ≤ 1000) :
    Calls Try.prog 22 #[.pointer (some ⟨b, 0, none⟩)] w (RwPost (.int .i64) 3 w (hIds fs)) := by
  have H := Lib.hid h
  obtain ⟨a, cp, rfl, _⟩ := own_shape h.own
  have q0 := h.hb.cell (i := 2) rfl
  obtain ⟨i0, hi, hz0, hz1, hz2⟩ := info_parts Try.infoBI
  have HI := Lib.hid hi; have HZ0 := Lib.hid hz0; have HZ1 := Lib.hid hz1; have HZ2 := Lib.hid hz2
  clear h hi hz0 hz1 hz2
  go_enter Try.func22, Try.ntmps22
  go_wp2_with fail
  clear q0
  go_loopw [3, 13] (fun lv i wr => HlRel w fs lv i wr) (fun _ i _ => fs.length - (intOf i).toNat)
  case atStart => exact ⟨0, Nat.zero_le _, rfl, ⟨by simp [hIdsV, hIds], .inl ⟨rfl, rfl⟩⟩, Below.refl _ _⟩
  case round =>
    obtain ⟨k, hk, rfl, hown, hbel⟩ := hrel
    have OWN := Lib.hid hown; have HB := Lib.hid hbel
    clear hown hbel
    by_cases hlt : k < fs.length
    · obtain ⟨x, ex, okx, c1, c2⟩ := (ownF_sl (H.out.below HB.out).own).get (k := k) hlt
      obtain ⟨al, cl, rfl, _⟩ := own_shape OWN.out
      have hbs := HB.out.size
      obtain ⟨xid, xb⟩ := x
      dsimp only at c1 c2
      go_wp2_with (at_builtin; refine wpList_append_own _ rfl _ _ 26 rfl w.heap.size 3 i0 _ 1 8 Try.underlying26 HI.out HZ0.out HZ1.out HZ2.out rfl (by decide) _ k (hIdsV fs k) rfl ?c0 ⟨wr.heap.size + 1, 0, none⟩ 1 1 [.int .i64 xid] rfl ?c1 ?c2 ?c3 ?c4 ?c5 ?c6 ?_)
      case c0 => exact (OWN.out.alloc _).alloc _
      case c1 => rfl
      case c2 =>
        intro j u hj
        have hbn := Blk.new (wr.alloc (.cells #[.int .i64 xid, .int .u64 xb] 62)) 3 [.int .i64 xid]
        rw [add_eq _ _ rfl]
        have := hbn.cell hj
        simpa using this
      case c3 => intro u hu; simp at hu; subst hu; rfl
      case c4 => unfold maxLen; omega
      case c5 => omega
      case c6 => simp; omega
      intro v' w2 hown' hgr hnil
      have B2 : Hid (Below w.heap.size w w2) := (((HB.out.alloc hbs _).alloc (by simp; omega) _).grown hgr (by simp; omega) (fun j hj => (own_lt OWN.out hj).2))
      rw [hIds_step ex.out] at hown'
      have OWN2 := Lib.hid hown'
      clear hown' hgr hnil
      go_wp2_with fail
      go_roundw
      case rel => exact ⟨k + 1, by omega, by go_num, OWN2.out, B2.out⟩
      case measure => simp [intOf]; omega
    · obtain rfl : k = fs.length := by omega
      go_wp2_with fail
      go_ret
      refine ⟨_, rfl, Rw.of_own (n := fs.length) ?_, HB.out⟩
      have := OWN.out
      unfold hIdsV at this
      rw [List.take_length] at this
      exact this
end Go.Proofs.Yteomiofmaopkhaa
