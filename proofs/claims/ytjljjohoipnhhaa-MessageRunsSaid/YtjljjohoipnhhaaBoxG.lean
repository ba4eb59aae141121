/-
  message.Box: drop, Cancel, State, Counts, New.
-/
import Derived.Test.YtjljjohoipnhhaaBoxF
namespace Go.Proofs.Ytjljjohoipnhhaa
open Go.RowKit
set_option linter.unusedVariables false

def footS (b : Nat) (qv sv : Value) (its : List It) (k : Nat) : Prop := k ∈ boxFoot b qv sv its
/-- What 'drop' leaves. -/
def DropM (w : World) (base b : Nat) (room : Int) (qv sv : Value) (its : List It) (st : List Nat) (p : Int → Nat → Bool) (k : Nat) (w' : World) : Prop :=
  ∃ qv', BoxAt w' base b room qv' sv (DP p k its st).1 (DP p k its st).2 ∧ qv'.ownBlock = qv.ownBlock ∧ Upd (footS b qv sv its) w w'
theorem DropM.drew {w : World} {base b : Nat} {room : Int} {qv sv : Value} {its : List It} {st : List Nat} {p : Int → Nat → Bool} {k : Nat} {w' : World} (h : DropM w base b room qv sv its st p k w') : DropM w base b room qv sv its st p k w'.drew := by
  obtain ⟨v, h1, h2, h3⟩ := h
  exact ⟨v, h1.below (Qt.refl _).drew.bel, h2, h3.drew⟩
theorem dp_sub (p : Int → Nat → Bool) (k : Nat) (its : List It) (st : List Nat) : (DP p k its st).1.Sublist its := dropF_sub _ _ _ _ _
section
variable {w w' : World} {base b : Nat} {room : Int} {qv sv : Value} {its l : List It} {st : List Nat} {p : Int → Nat → Bool} {k : Nat}
theorem BoxR.storeQ (h : BoxR w base b room qv sv its st) {v : Value} (hv : Vw It.ptr 67 w base v l) (hs : l.Sublist its) (ho : v.ownBlock = qv.ownBlock) :
    BoxAt (w.setCell ⟨b, 1, none⟩ v) base b room v sv l st := by
  have P := nodup_parts h.nd
  have u : Upd (fun j => j = b) w (w.setCell ⟨b, 1, none⟩ v) := (Upd.refl _ _).setCell _ _ fun _ => rfl
  refine ⟨⟨?_, h.hs.upd u fun g hg e => P.bs g hg e, fun x hx => (h.hi x (hs.subset hx)).upd u fun j hj e => P.bi (by rw [← e]; exact in_itFoot (hs.subset hx) hj), h.hbb, ?_⟩, hv.upd u fun g hg e => P.bq g (by rw [← ho]; exact hg) e⟩
  · simpa using h.hb.set 1 v
  · refine parts_nodup ((P.q' (qv' := v) fun j hj => .inl (by rw [← ho]; exact hj)).sub hs)
theorem BoxAt.nfoot (h : BoxAt w base b room qv sv its st) {j : Nat} (hj : w.heap.size ≤ j) : j ∉ boxFoot b qv sv its := fun e => by have := (h.lt e).2; omega
end

structure DrW (w : World) (base b : Nat) (room : Int) (qv sv : Value) (its : List It) (st : List Nat) (bc cc sc tb : Nat) (cv : Value) (p : Int → Nat → Bool) (k : Nat) (w' : World) : Prop where
  at' : BoxAt w' base b room qv sv its st
  cap : Cap w' b qv sv its bc cc sc tb cv p k
  bel : Below w.heap.size w w'
theorem DrW.drew {w w' : World} {base b : Nat} {room : Int} {qv sv : Value} {its : List It} {st : List Nat} {bc cc sc tb : Nat} {cv : Value} {p : Int → Nat → Bool} {k : Nat} (h : DrW w base b room qv sv its st bc cc sc tb cv p k w') : DrW w base b room qv sv its st bc cc sc tb cv p k w'.drew :=
  ⟨h.at'.below (Qt.refl _).drew.bel, h.cap.upd (S := fun _ => False) (Upd.of_below (Qt.refl _).drew.bel) (fun _ h => h.elim), h.bel.trans (((Qt.refl _).drew.bel).mono h.bel.size)⟩

set_option maxHeartbeats 4000000 in
set_option maxRecDepth 100000 in
theorem drop_any (w : World) (base b : Nat) (room : Int) (a : Option Addr) (c : Nat) (sv : Value) (its : List It) (st : List Nat) (h : BoxAt w base b room (.slice a its.length c) sv its st) (tb : Nat) (cv : Value) (p : Int → Nat → Bool) (k : Nat) (hk : k ≤ 5)
    (hc : Cnd w cv tb p) (ht : tb ∉ boxFoot b (.slice a its.length c) sv its) (htl : tb < w.heap.size) (ha : AllSt its st) (hl : st.length ≤ 100000) (hil : its.length ≤ 100000) :
    Calls Try.prog 30 #[.pointer (some ⟨b, 0, none⟩), .int .i64 k, cv] w fun e w' => e = .returned (.tuple #[]) ∧ DropM w base b room (.slice a its.length c) sv its st p k w' := by
  have X : Hid (DrW w base b room (.slice a its.length c) sv its st w.heap.size (w.heap.size + 1 + 1) (w.heap.size + 1) tb cv p k
      (((w.alloc (.cells #[.pointer (some ⟨b, 0, none⟩)] 24)).alloc (.cells #[.int .i64 k] 3)).alloc (.cells #[cv] 72))) := by
    have B1 : Below w.heap.size w (w.alloc (.cells #[.pointer (some ⟨b, 0, none⟩)] 24)) := (Below.refl _ _).alloc (Nat.le_refl _) _
    have B2 := B1.alloc (by simp) (.cells #[.int .i64 k] 3)
    have B3 := B2.alloc (by simp; omega) (.cells #[cv] 72)
    refine ⟨h.below B3, ⟨?_, ?_, ?_, hc.upd (S := fun _ => False) (Upd.of_below B3) id, h.nfoot (Nat.le_refl _), h.nfoot (by omega), h.nfoot (by omega), ht⟩, B3⟩
    · exact ((Blk.new w _ [.pointer (some ⟨b, 0, none⟩)]).alloc _).alloc _
    · have := Blk.new ((w.alloc (.cells #[.pointer (some ⟨b, 0, none⟩)] 24)).alloc (.cells #[.int .i64 k] 3)) 72 [cv]
      simpa using this
    · have := (Blk.new (w.alloc (.cells #[.pointer (some ⟨b, 0, none⟩)] 24)) 3 [.int .i64 k]).alloc (.cells #[cv] 72)
      simpa using this
  have D : Hid (∀ w', DrW w base b room (.slice a its.length c) sv its st w.heap.size (w.heap.size + 1 + 1) (w.heap.size + 1) tb cv p k w' →
      Calls Try.prog 39 #[.slice a its.length c, .func (.func 40) #[] #[.pointer (some ⟨w.heap.size, 0, none⟩), .pointer (some ⟨w.heap.size + 1 + 1, 0, none⟩), .pointer (some ⟨w.heap.size + 1, 0, none⟩)]] w'
        fun e w2 => ∃ a' n' c', e = .returned (.slice a' n' c') ∧ w2.cell? ⟨b, 1, none⟩ = some (.slice a its.length c) ∧ w2.frozen? ⟨b, 1, none⟩ = false ∧ w2.cell? ⟨w.heap.size, 0, none⟩ = some (.pointer (some ⟨b, 0, none⟩)) ∧ DropM w base b room (.slice a its.length c) sv its st p k (w2.setCell ⟨b, 1, none⟩ (.slice a' n' c'))) := by
    intro w' hw
    refine (df_any w' base b room a c sv its st hw.at' _ _ _ tb cv p k hk hw.cap ha hl hil).mono ?_
    rintro e w2 ⟨v, rfl, hv, ho, hR, hu⟩
    have hu2 : Upd (footS b (.slice a its.length c) sv its) w w2 := Upd.then (Upd.of_below hw.bel) (hu.mono fun j _ hj => by
      rcases hj with hj | hj
      · exact ch_foot hj
      · exact in_boxFoot (.inr (.inl hj))) (fun _ _ h => h)
    obtain ⟨a', c', rfl⟩ := hv.shape
    refine ⟨a', _, c', rfl, hR.hb.cell rfl, hR.hb.free 1, ?_, _, hR.storeQ hv (dp_sub p k its st) ho, ho, hu2.setCell _ _ fun _ => in_boxFoot (.inl rfl)⟩
    have hbc := hw.cap.hb.upd hu (fun hj => hw.cap.nb (by
      rcases hj with hj | hj
      · exact ch_foot hj
      · exact in_boxFoot (.inr (.inl hj))))
    exact hbc.cell rfl
  have b1 := h.r.hb.cell (i := 1) rfl
  have hbl := h.r.hb.lt
  obtain ⟨f, rfl⟩ : ∃ f, cv = .func (.func f) #[] #[.pointer (some ⟨tb, 0, none⟩)] := by
    rcases hc with ⟨_, h, _⟩ | ⟨_, h, _⟩
    · exact ⟨_, h⟩
    · exact ⟨_, h⟩
  have b2 := X.out.at'.r.hb.cell (i := 1) rfl
  have b3 := X.out.cap.hb.cell (i := 0) rfl
  clear h hc ha
  generalize hN : its.length = n at *
  clear hN
  go_enter Try.func30, Try.ntmps30
  go_wp2_with fail
  go_region_law (first | (go_simp; go_at_call 39; refine (D.out _ (by first | exact X.out | exact X.out.drew)).mono ?_; rintro e w5 ⟨a', n', c', rfl, y1, y2, y3, h5⟩; have H5 := Lib.hid h5; clear h5))
  all_goals
    go_end0
    exact ⟨rfl, by first | exact H5.out | exact H5.out.drew | exact H5.out.drew.drew⟩
end Go.Proofs.Ytjljjohoipnhhaa
