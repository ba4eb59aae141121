/-
  The library of this claim: addresses of slices that came in, and what reads as a row. It states nothing of the program.
-/
import Derived.Test.YtkaaoomliepijaaGreatProg
import Derived.WalkKit
import Derived.WalkSpells
import Derived.WalkLawsBesides
import Derived.Lib.Hide
import Derived.Deep.QuietTactic
import Derived.BigQuiet
import Derived.Deep.LoopGhost
import Derived.StillTailTactics
import Derived.Deep.DeepCutAuto
import Derived.Deep.CutBlock
import Derived.Deep.RegionWith
import Derived.Deep.RegionHeld3
import Derived.Deep.DeepFit
namespace Go.Proofs.YtkaaoomliepijaaGreat
open Go.RowKit

/-- The address of place j behind the head of a slice. -/
def adr (a : Option Addr) (j : Nat) : Addr := ⟨(a.getD default).block, (a.getD default).off + j, none⟩
/-- The slice has an address, and a plain one. -/
def okAd (a : Option Addr) : Bool := match a with | some x => x.spot.isNone | none => false
@[go_sem] theorem adr_mk (b o j : Nat) : adr (some ⟨b, o, none⟩) j = ⟨b, o + j, none⟩ := rfl

theorem add_eq (x : Addr) (j : Nat) (h : x.spot.isNone = true) : x.add j = ⟨x.block, x.off + j, none⟩ := by
  obtain ⟨b, o, s⟩ := x
  simp at h
  subst h
  unfold Addr.add
  split
  · rename_i h0; subst h0; rfl
  · rfl

@[go_sem] theorem run_indexAt_opt {P : Program} (w : World) (t : TypeId) (a : Option Addr) (len cap : Nat) (k : IntKind) (i : Int) (h : P.underlying t = some (.slice (P.elem t))) (ha : okAd a = true) :
    (Instr.indexAt t (.slice a len cap) (.int k i)).run P w =
      if 0 ≤ i ∧ i < len then ((sizeOf (P.elem t)).run P w).andThen fun s w => .ok (.pointer (some (adr a (i.toNat * s)))) w
      else (boundsPanic k i len .index).run P w := by
  match a, ha with
  | some x, ha =>
    rw [run_indexAt_slice w t x len cap k i h]
    have : ∀ j, x.add j = adr (some x) j := fun j => by rw [add_eq x j (by simpa [okAd] using ha)]; rfl
    simp only [this]

/-- Slice address a leads to the values (f x) of the list xs, in order. -/
def Sl {α : Type} (f : α → Value) (w : World) (a : Option Addr) (xs : List α) : Prop :=
  ∀ j x, xs[j]? = some x → okAd a = true ∧ w.cell? (adr a j) = some (f x)

theorem Sl.get {α : Type} {f : α → Value} {w : World} {a : Option Addr} {xs : List α} (h : Sl f w a xs) {k : Nat} (hk : k < xs.length) :
    ∃ x, Hid (xs[k]? = some x) ∧ okAd a = true ∧ w.cell? (adr a k) = some (f x) :=
  ⟨xs[k], by show xs[k]? = some xs[k]; simp [hk], h k _ (by simp [hk])⟩

/-- Nothing but draws lie between the two worlds. -/
def Qt (w w' : World) : Prop := ∃ n, w' = w.drewN n
theorem Qt.refl (w : World) : Qt w w := ⟨0, rfl⟩
theorem Qt.drewN {w u : World} (h : Qt w u) (n : Nat) : Qt w (u.drewN n) := by
  obtain ⟨m, rfl⟩ := h
  exact ⟨m + n, by simp [World.drewN, Nat.add_assoc]⟩
theorem Qt.drew {w u : World} (h : Qt w u) : Qt w u.drew := h.drewN 1
theorem Qt.trans {a b c : World} (h : Qt a b) (k : Qt b c) : Qt a c := by
  obtain ⟨n, rfl⟩ := k
  exact h.drewN n

theorem Qt.cell {w w' : World} (h : Qt w w') (a : Addr) : w'.cell? a = w.cell? a := by obtain ⟨n, rfl⟩ := h; rfl
theorem Qt.heap {w w' : World} (h : Qt w w') : w'.heap = w.heap := by obtain ⟨n, rfl⟩ := h; rfl
theorem Qt.below {w w' : World} (h : Qt w w') (B : Nat) : Below B w w' := by obtain ⟨n, rfl⟩ := h; exact ⟨rfl, rfl, rfl, Nat.le_refl _, fun _ _ => rfl⟩

theorem Qt.bel {w w' : World} (h : Qt w w') : Below w.heap.size w w' := h.below _

/-- Reading is carried over to a world with the same cells there. -/
theorem Sl.mono {α : Type} {f : α → Value} {w w' : World} {a : Option Addr} {xs : List α} (h : Sl f w a xs) (hc : ∀ p v, w.cell? p = some v → p.block = (a.getD default).block → w'.cell? p = some v) : Sl f w' a xs :=
  fun j x hj => ⟨(h j x hj).1, hc _ _ (h j x hj).2 rfl⟩
theorem Sl.qt {α : Type} {f : α → Value} {w w' : World} {a : Option Addr} {xs : List α} (h : Sl f w a xs) (q : Qt w w') : Sl f w' a xs :=
  h.mono fun p v hv _ => by rw [q.cell]; exact hv
/-- What is read in a block that was there is read the same behind 'Below'. -/
theorem Sl.below {α : Type} {f : α → Value} {w w' : World} {a : Option Addr} {xs : List α} (h : Sl f w a xs) (q : Below w.heap.size w w') : Sl f w' a xs :=
  h.mono fun p v hv _ => by rw [q.cell (World.block_lt_of_cell? _ _ hv)]; exact hv

/-- Block b is a row of cells xs of element type T. -/
def Blk (w : World) (b : Nat) (T : TypeId) (xs : List Value) : Prop := w.heap[b]? = some (.cells xs.toArray T (0, 0))
theorem Blk.cell {w : World} {b : Nat} {T : TypeId} {xs : List Value} (h : Blk w b T xs) {i : Nat} {v : Value} (hv : xs[i]? = some v) : w.cell? ⟨b, i, none⟩ = some v := by
  unfold Blk at h
  simp [World.cell?, h, hv]
theorem Blk.free {w : World} {b : Nat} {T : TypeId} {xs : List Value} (h : Blk w b T xs) (i : Nat) : w.frozen? ⟨b, i, none⟩ = false := by
  unfold Blk at h
  simp [World.frozen?, h]
theorem Blk.lt {w : World} {b : Nat} {T : TypeId} {xs : List Value} (h : Blk w b T xs) : b < w.heap.size := by
  unfold Blk at h
  rcases Nat.lt_or_ge b w.heap.size with h1 | h1
  · exact h1
  · simp [Array.getElem?_eq_none h1] at h
theorem Blk.of_heap {w w' : World} {b : Nat} {T : TypeId} {xs : List Value} (h : Blk w b T xs) (e : w'.heap[b]? = w.heap[b]?) : Blk w' b T xs := by
  unfold Blk at *
  rw [e, h]
theorem Blk.new (w : World) (T : TypeId) (xs : List Value) : Blk (w.alloc (.cells xs.toArray T)) w.heap.size T xs := heap_alloc_new _ _
theorem Blk.alloc {w : World} {b : Nat} {T : TypeId} {xs : List Value} (h : Blk w b T xs) (o : Obj) : Blk (w.alloc o) b T xs := h.of_heap (Below.heap_alloc _ _ _ h.lt)
theorem Blk.drew {w : World} {b : Nat} {T : TypeId} {xs : List Value} (h : Blk w b T xs) : Blk w.drew b T xs := h
theorem Blk.qt {w w' : World} {b : Nat} {T : TypeId} {xs : List Value} (h : Blk w b T xs) (q : Qt w w') : Blk w' b T xs := h.of_heap (by rw [q.heap])
theorem Blk.set {w : World} {b : Nat} {T : TypeId} {xs : List Value} (h : Blk w b T xs) (i : Nat) (v : Value) : Blk (w.setCell ⟨b, i, none⟩ v) b T (xs.set i v) := by
  unfold Blk at *
  rw [heap_setCell_same w b i _ T v h]
  simp
theorem Blk.setO {w : World} {b : Nat} {T : TypeId} {xs : List Value} (h : Blk w b T xs) {a : Addr} (v : Value) (hb : b ≠ a.block) : Blk (w.setCell a v) b T xs := h.of_heap (heap_setCell_other w a b v hb)
theorem Blk.sl {α : Type} {f : α → Value} {w : World} {b : Nat} {T : TypeId} {xs : List α} (h : Blk w b T (xs.map f)) : Sl f w (some ⟨b, 0, none⟩) xs :=
  fun j x hj => ⟨rfl, by rw [adr_mk, Nat.zero_add]; exact h.cell (by simp [hj])⟩

/-- Behind the call only the blocks of S may hold something else. -/
structure Upd (S : Nat → Prop) (w w' : World) : Prop where
  os : w'.os = w.os
  tape : w'.tape = w.tape
  output : w'.output = w.output
  size : w.heap.size ≤ w'.heap.size
  block : ∀ k, k < w.heap.size → ¬ S k → w'.heap[k]? = w.heap[k]?
theorem Upd.refl (S : Nat → Prop) (w : World) : Upd S w w := ⟨rfl, rfl, rfl, Nat.le_refl _, fun _ _ _ => rfl⟩
theorem Upd.trans {S : Nat → Prop} {a b c : World} (h : Upd S a b) (k : Upd S b c) : Upd S a c :=
  ⟨k.os.trans h.os, k.tape.trans h.tape, k.output.trans h.output, Nat.le_trans h.size k.size, fun i hi hs => (k.block i (Nat.lt_of_lt_of_le hi h.size) hs).trans (h.block i hi hs)⟩
theorem Upd.mono {S T : Nat → Prop} {a b : World} (h : Upd S a b) (hs : ∀ k, k < a.heap.size → S k → T k) : Upd T a b :=
  ⟨h.os, h.tape, h.output, h.size, fun k hk hn => h.block k hk fun hk' => hn (hs k hk hk')⟩
/-- What the second step writes may be new since the first step began. -/
theorem Upd.then {S T : Nat → Prop} {a b c : World} (h : Upd S a b) (k : Upd T b c) (hs : ∀ i, i < a.heap.size → T i → S i) : Upd S a c :=
  ⟨k.os.trans h.os, k.tape.trans h.tape, k.output.trans h.output, Nat.le_trans h.size k.size, fun i hi hn => (k.block i (Nat.lt_of_lt_of_le hi h.size) fun ht => hn (hs i hi ht)).trans (h.block i hi hn)⟩
theorem Upd.qt {S : Nat → Prop} {a b c : World} (h : Upd S a b) (q : Qt b c) : Upd S a c := by obtain ⟨n, rfl⟩ := q; exact ⟨h.os, h.tape, h.output, h.size, h.block⟩
theorem Upd.drew {S : Nat → Prop} {a b : World} (h : Upd S a b) : Upd S a b.drew := ⟨h.os, h.tape, h.output, h.size, h.block⟩
theorem Upd.drewN {S : Nat → Prop} {a b : World} (h : Upd S a b) (n : Nat) : Upd S a (b.drewN n) := ⟨h.os, h.tape, h.output, h.size, h.block⟩
theorem Upd.alloc {S : Nat → Prop} {a b : World} (h : Upd S a b) (o : Obj) : Upd S a (b.alloc o) :=
  ⟨h.os, h.tape, h.output, by have := h.size; simp; omega, fun i hi hn => (Below.heap_alloc _ _ _ (Nat.lt_of_lt_of_le hi h.size)).trans (h.block i hi hn)⟩
theorem Upd.setCell {S : Nat → Prop} {a b : World} (h : Upd S a b) (p : Addr) (v : Value) (hp : p.block < a.heap.size → S p.block) : Upd S a (b.setCell p v) :=
  ⟨h.os, h.tape, h.output, by have := h.size; simp; omega, fun i hi hn => (heap_setCell_other _ _ _ _ fun e => hn (by rw [e]; exact hp (by rw [← e]; exact hi))).trans (h.block i hi hn)⟩
theorem Upd.of_below {S : Nat → Prop} {a b : World} (h : Below a.heap.size a b) : Upd S a b := ⟨h.os, h.tape, h.output, h.size, fun k hk _ => h.block k hk⟩
theorem Upd.below {S : Nat → Prop} {a b c : World} {B : Nat} (h : Below B a b) (k : Upd S b c) (hB : B ≤ b.heap.size) (hs : ∀ i, S i → B ≤ i) : Below B a c :=
  h.trans ⟨k.os, k.tape, k.output, k.size, fun i hi => k.block i (Nat.lt_of_lt_of_le hi hB) fun h' => absurd (hs i h') (Nat.not_le_of_lt hi)⟩
theorem Blk.upd {S : Nat → Prop} {w w' : World} {b : Nat} {T : TypeId} {xs : List Value} (h : Blk w b T xs) (u : Upd S w w') (hb : ¬ S b) : Blk w' b T xs := h.of_heap (u.block b h.lt hb)
theorem Upd.cell {S : Nat → Prop} {w w' : World} (u : Upd S w w') {p : Addr} (hp : p.block < w.heap.size) (hs : ¬ S p.block) : w'.cell? p = w.cell? p := World.cell?_of_block (w := w) (u.block _ hp hs)
theorem Sl.upd {α : Type} {f : α → Value} {S : Nat → Prop} {w w' : World} {a : Option Addr} {xs : List α} (h : Sl f w a xs) (u : Upd S w w') (hs : xs ≠ [] → ¬ S (a.getD default).block) : Sl f w' a xs := by
  intro j x hj
  obtain ⟨h1, h2⟩ := h j x hj
  refine ⟨h1, ?_⟩
  rw [u.cell (World.block_lt_of_cell? _ _ h2) (hs (by intro e; simp [e] at hj))]
  exact h2
theorem Sl.old {α : Type} {f : α → Value} {w : World} {a : Option Addr} {xs : List α} (h : Sl f w a xs) (hx : xs ≠ []) : (a.getD default).block < w.heap.size := by
  match xs, hx with
  | x :: l, _ => exact World.block_lt_of_cell? w (adr a 0) (h 0 x rfl).2
theorem Sl.set {α : Type} {f : α → Value} {w : World} {a : Option Addr} {xs : List α} (h : Sl f w a xs) (p : Addr) (v : Value) (hs : xs ≠ [] → (a.getD default).block ≠ p.block) : Sl f (w.setCell p v) a xs :=
  h.upd (S := fun k => k = p.block) ((Upd.refl _ w).setCell p v fun _ => rfl) hs

/-- A slice of the call's own (from block base on), one cell an element, that reads as xs. -/
def Rw {α : Type} (f : α → Value) (T : TypeId) (w : World) (base : Nat) (v : Value) (xs : List α) : Prop :=
  ∃ a c, v = .slice a xs.length c ∧ ((a = none ∧ xs = [] ∧ c = 0) ∨ ∃ g sp, a = some ⟨g, 0, none⟩ ∧ base ≤ g ∧ Blk w g T (xs.map f ++ sp) ∧ c = xs.length + sp.length ∧ c ≤ maxLen)
theorem Rw.nil {α : Type} (f : α → Value) (T : TypeId) (w : World) (base : Nat) : Rw f T w base (.slice none 0 0) [] := ⟨none, 0, rfl, .inl ⟨rfl, rfl, rfl⟩⟩
theorem Rw.of_own {α : Type} {f : α → Value} {T : TypeId} {w : World} {base n : Nat} {v : Value} {xs : List α} (h : w.ownsRow base T 1 v n (xs.map f)) : Rw f T w base v xs := by
  obtain ⟨h1, h2⟩ := h
  have hn : xs.length = n := by simpa using h1
  rcases h2 with ⟨rfl, h2⟩ | ⟨g, cap, cur, rfl, hg, hh, h3, h4, h5, h6⟩
  · have : xs = [] := List.eq_nil_of_length_eq_zero (by omega)
    subst this
    exact ⟨none, 0, rfl, .inl ⟨rfl, rfl, rfl⟩⟩
  · refine ⟨_, cap, by rw [hn], .inr ⟨g, cur.toList.drop n, rfl, hg, ?_, by simp; omega, h4⟩⟩
    unfold Blk
    rw [← h6, Nat.mul_one, List.take_append_drop]
    exact hh
theorem Rw.sl {α : Type} {f : α → Value} {T : TypeId} {w : World} {base : Nat} {a : Option Addr} {n c : Nat} {xs : List α} (h : Rw f T w base (.slice a n c) xs) : Sl f w a xs := by
  obtain ⟨a', c', e, h⟩ := h
  cases e
  rcases h with ⟨rfl, rfl, _⟩ | ⟨g, sp, rfl, hg, hb, _⟩
  · intro j x hj; simp at hj
  · intro j x hj
    refine ⟨rfl, ?_⟩
    rw [adr_mk, Nat.zero_add]
    refine hb.cell ?_
    have hlt : j < xs.length := by
      rcases Nat.lt_or_ge j xs.length with h | h
      · exact h
      · simp [List.getElem?_eq_none h] at hj
    rw [List.getElem?_append_left (by simpa using hlt)]
    simp [hj]
theorem Rw.pos {α : Type} {f : α → Value} {T : TypeId} {w : World} {base : Nat} {v : Value} {xs : List α} (h : Rw f T w base v xs) (hx : xs ≠ []) :
    ∃ g sp c, v = .slice (some ⟨g, 0, none⟩) xs.length c ∧ base ≤ g ∧ Blk w g T (xs.map f ++ sp) := by
  obtain ⟨a, c, rfl, h⟩ := h
  rcases h with ⟨_, h, _⟩ | ⟨g, sp, rfl, hg, hb, _⟩
  · exact absurd h hx
  · exact ⟨g, sp, c, rfl, hg, hb⟩
theorem Rw.own {α : Type} {f : α → Value} {T : TypeId} {w : World} {base : Nat} {v : Value} {xs : List α} (h : Rw f T w base v xs) : w.ownsRow base T 1 v xs.length (xs.map f) := by
  obtain ⟨a, c, rfl, h⟩ := h
  rcases h with ⟨rfl, rfl, rfl⟩ | ⟨g, sp, rfl, hg, hb, hc, hm⟩
  · exact ⟨by simp, .inl ⟨rfl, rfl⟩⟩
  · exact ⟨by simp, .inr ⟨g, c, _, rfl, hg, hb, by omega, hm, by simp; omega, by simp⟩⟩
/-- A store into a row with spare places. -/
theorem Blk.setL {α : Type} {f : α → Value} {T : TypeId} {w : World} {g : Nat} {xs : List α} {sp : List Value} (h : Blk w g T (xs.map f ++ sp)) {k : Nat} (hk : k < xs.length) (x : α) :
    Blk (w.setCell ⟨g, k, none⟩ (f x)) g T ((xs.set k x).map f ++ sp) := by
  have := h.set k (f x)
  rw [List.set_append_left _ _ (by simpa using hk), ← List.map_set] at this
  exact this
theorem Blk.sub {α : Type} {f : α → Value} {w : World} {b : Nat} {T : TypeId} {xs : List α} {sp : List Value} (h : Blk w b T (xs.map f ++ sp)) : Sl f w (some ⟨b, 0, none⟩) xs := by
  intro j x hj
  refine ⟨rfl, ?_⟩
  rw [adr_mk, Nat.zero_add]
  refine h.cell ?_
  have hlt : j < xs.length := by
    rcases Nat.lt_or_ge j xs.length with h | h
    · exact h
    · simp [List.getElem?_eq_none h] at hj
  rw [List.getElem?_append_left (by simpa using hlt)]
  simp [hj]
theorem Blk.slL {α : Type} {f : α → Value} {w : World} {b : Nat} {T : TypeId} {xs : List α} {sp : List Value} (h : Blk w b T (xs.map f ++ sp)) : Sl f w (some ⟨b, 0, none⟩) xs :=
  h.sub
theorem Sl.news {α : Type} {f : α → Value} {w : World} {ad : Addr} {xs : List α} (h : Sl f w (some ad) xs) : ∀ j u, (xs.map f)[j]? = some u → w.cell? (ad.add j) = some u := by
  intro j u hj
  rw [List.getElem?_map] at hj
  obtain ⟨x, hx, rfl⟩ := Option.map_eq_some_iff.1 hj
  obtain ⟨h1, h2⟩ := h j x hx
  rw [add_eq ad j (by simpa [okAd] using h1)]
  exact h2
theorem Rows_new (w : World) (o : Obj) : (w.alloc o).heap[w.heap.size]? = some o := heap_alloc_new _ _
theorem own_empty (w : World) (T : TypeId) (size : Nat) : (w.alloc (.cells #[] T)).ownsRow w.heap.size T size (.slice (some ⟨w.heap.size, 0, none⟩) 0 0) 0 [] :=
  ⟨by simp, .inr ⟨w.heap.size, 0, #[], rfl, Nat.le_refl _, Rows_new _ _, Nat.le_refl _, by unfold maxLen; omega, by simp, by simp⟩⟩
theorem one_map {α : Type} (f : α → Value) (hf : ∀ x, (f x).oneCell' = true) (xs : List α) : ∀ u ∈ xs.map f, u.oneCell' = true := by
  intro u hu
  obtain ⟨x, _, rfl⟩ := List.mem_map.1 hu
  exact hf x
def RwPost {α : Type} (f : α → Value) (T : TypeId) (w : World) (xs : List α) (e : Ending) (w' : World) : Prop := ∃ v, e = .returned v ∧ Rw f T w' w.heap.size v xs ∧ Below w.heap.size w w'

theorem ret_bool {a b : Bool} (h : a = b) : Ending.returned (.bool a) = .returned (.bool b) := by rw [h]
theorem ret_int {k : IntKind} {a b : Int} (h : a = b) : Ending.returned (.int k a) = .returned (.int k b) := by rw [h]

abbrev SlI (w : World) (a : Option Addr) (zs : List Int) : Prop := Sl (Value.int .i64) w a zs
abbrev SlB (w : World) (a : Option Addr) (bs : List Bool) : Prop := Sl Value.bool w a bs
end Go.Proofs.YtkaaoomliepijaaGreat
