/-
  message.Gate.Push: memory.
-/
import Derived.Test.YtjljjohoipnhhaaGate
import Derived.Deep.CutBlock
namespace Go.Proofs.Ytjljjohoipnhhaa
open Go.RowKit
set_option linter.unusedVariables false

theorem Try.infoSl : (Try.prog.info? 22).map (fun i => (i.zero, i.size, i.bytes)) = some (some (.slice none 0 0), 1, 24) := by kernel_rfl
theorem Vw.sh3 {α : Type} {f : α → Value} {T : TypeId} {w : World} {base : Nat} {v : Value} {xs : List α} (h : Vw f T w base v xs) : ∃ a m c, v = .slice a m c := by
  obtain ⟨a, c, h⟩ := h.shape
  exact ⟨a, _, c, h⟩
theorem one_genB {α : Type} {f : α → Value} {w w' : World} {T : TypeId} {x : α} (h : w'.heap = (w.alloc (.cells #[f x] T)).heap) : Sl f w' (some ⟨w.heap.size, 0, none⟩) [x] := by
  intro j y hj
  have hlt := get_lt hj
  obtain rfl : j = 0 := by simp at hlt; exact hlt
  simp at hj
  subst hj
  have hb : Blk w' w.heap.size T [f x] := (Blk.new w T [f x]).of_heap (by rw [h])
  refine ⟨rfl, ?_⟩
  rw [adr_mk]
  exact hb.cell rfl
theorem cutB_eq {rg ro n rc k : Nat} {A' : Option Addr} (h : (if rc = k then some (⟨rg, ro, none⟩ : Addr) else some ⟨rg, ro + k, none⟩) = A') (hk : k ≤ n) (hn : n ≤ rc) : cutV (some ⟨rg, ro, none⟩) n rc k = .slice A' (n - k) (rc - k) := by
  unfold cutV
  subst h
  by_cases e : rc = k
  · rw [if_pos e, if_pos e.symm, show n - k = 0 by omega, show rc - k = 0 by omega]
  · rw [if_neg e, if_neg (fun h => e h.symm)]
    rfl
/-- Data that came out. -/
structure RwB where
  a : Option Addr
  c : Nat
  d : List Int
def RwB.val (r : RwB) : Value := .slice r.a r.d.length r.c
def RwB.blk (r : RwB) : Nat := (r.a.getD default).block
/-- A list of data of the call's own, from block B on. -/
structure RowsAt (w : World) (B : Nat) (lv : Value) (rs : List RwB) : Prop where
  vw : Vw RwB.val 22 w B lv rs
  rd : ∀ r ∈ rs, Sl (Value.int .u8) w r.a r.d ∧ r.d ≠ [] ∧ B ≤ r.blk
  nl : ∀ r ∈ rs, lv.ownBlock ≠ some r.blk
section
variable {w w' w1 w2 : World} {B : Nat} {lv lv' : Value} {rs : List RwB}
theorem RowsAt.upd {S : Nat → Prop} (h : RowsAt w B lv rs) (u : Upd S w w') (hs : ∀ k, S k → k < B) : RowsAt w' B lv rs :=
  ⟨h.vw.upd u fun g hg hS => by have := (h.vw.lt hg).1; have := hs g hS; omega, fun r hr => ⟨(h.rd r hr).1.upd u fun _ hS => by have := (h.rd r hr).2.2; have := hs _ hS; unfold RwB.blk at *; omega, (h.rd r hr).2⟩, h.nl⟩
theorem RowsAt.below (h : RowsAt w B lv rs) (q : Below w.heap.size w w') : RowsAt w' B lv rs := h.upd (S := fun _ => False) (Upd.of_below q) fun _ h => h.elim
theorem RowsAt.old (h : RowsAt w B lv rs) {r : RwB} (hr : r ∈ rs) : r.blk < w.heap.size := (h.rd r hr).1.old (h.rd r hr).2.1
/-- One more. -/
theorem RowsAt.add (h : RowsAt w B lv rs) (q : Below w.heap.size w w1) {r : RwB} (hr : Sl (Value.int .u8) w1 r.a r.d) (hd : r.d ≠ []) (hrb : w.heap.size ≤ r.blk) (q2 : Below w1.heap.size w1 w2) (hv : Vw RwB.val 22 w' B lv' (rs ++ [r])) (u : Upd (fun k => lv.ownBlock = some k) w2 w')
    (ho : lv'.ownBlock = lv.ownBlock ∨ ∀ g, lv'.ownBlock = some g → w2.heap.size ≤ g) (hB : B ≤ w.heap.size) : RowsAt w' B lv' (rs ++ [r]) := by
  have hrl : r.blk < w1.heap.size := hr.old hd
  have q12 := q2.size
  have hlt : ∀ k, lv.ownBlock = some k → k < w.heap.size := fun k hk => (h.vw.lt hk).2
  refine ⟨hv, ?_, ?_⟩
  · intro x hx
    rcases List.mem_append.1 hx with hx | hx
    · have := (h.rd x hx).1
      refine ⟨((this.below q).below q2).upd u fun _ e => h.nl x hx e, (h.rd x hx).2⟩
    · obtain rfl := List.mem_singleton.1 hx
      refine ⟨(hr.below q2).upd u fun _ e => by have := hlt _ e; unfold RwB.blk at hrb; omega, hd, by omega⟩
  · intro x hx
    have hxl : x.blk < w1.heap.size := by
      rcases List.mem_append.1 hx with hx | hx
      · have := h.old hx; have := q.size; omega
      · obtain rfl := List.mem_singleton.1 hx; exact hrl
    rcases ho with e | e
    · rw [e]
      rcases List.mem_append.1 hx with hx | hx
      · exact h.nl x hx
      · obtain rfl := List.mem_singleton.1 hx
        intro e2; have := hlt _ e2; omega
    · intro e2; have := e _ e2; omega
end

/-- Push, behind the first append. -/
structure PuM (w1 : World) (base b gc : Nat) (rv : Value) (r : List Int) (last : Int) (lv : Value) (rs : List RwB) (w : World) : Prop where
  g : GateAt w base b rv r last false
  ro : ∀ k, rv.ownBlock = some k → k < w1.heap.size
  hgc : Blk w gc 52 [.pointer (some ⟨b, 0, none⟩)]
  gl : gc < w1.heap.size ∧ gc ≠ b
  rows : RowsAt w w1.heap.size lv rs
  u : Upd (fun k => k = b) w1 w
  bl : b < w1.heap.size
section
variable {w1 w w' : World} {base b gc : Nat} {rv : Value} {r : List Int} {last : Int} {lv : Value} {rs : List RwB}
theorem PuM.below (h : PuM w1 base b gc rv r last lv rs w) (q : Below w.heap.size w w') : PuM w1 base b gc rv r last lv rs w' :=
  ⟨h.g.below q, h.ro, h.hgc.upd (S := fun _ => False) (Upd.of_below q) id, h.gl, h.rows.below q, Upd.then h.u (Upd.of_below (S := fun k => k = b) q) (fun _ _ h => h), h.bl⟩
/-- A cell of the gate is written. -/
theorem PuM.cell (h : PuM w1 base b gc rv r last lv rs w) {i : Nat} {v rv' : Value} {r' : List Int} {last' : Int} (hc : ([rv, .int .i64 last, .bool false] : List Value).set i v = [rv', .int .i64 last', .bool false]) (hv : Vw (Value.int .u8) 5 w base rv' r') (ho : ∀ k, rv'.ownBlock = some k → rv.ownBlock = some k) :
    PuM w1 base b gc rv' r' last' lv rs (w.setCell ⟨b, i, none⟩ v) := by
  have u : Upd (fun k => k = b) w (w.setCell ⟨b, i, none⟩ v) := (Upd.refl _ _).setCell _ _ fun _ => rfl
  have hb := h.g.hb.set i v
  rw [hc] at hb
  refine ⟨⟨hb, hv.upd u fun k hk e => h.g.ne (by rw [ho k hk, e]), fun e => h.g.ne (ho _ e), h.g.hbb⟩, fun k hk => h.ro k (ho k hk), h.hgc.upd u h.gl.2, h.gl, h.rows.upd u fun k hk => by rw [hk]; exact h.bl, h.u.trans u, h.bl⟩
theorem PuM.row {w2 w3 : World} {lv' : Value} {x : RwB} (h : PuM w1 base b gc rv r last lv rs w) (q : Below w.heap.size w w2) (hr : Sl (Value.int .u8) w2 x.a x.d) (hd : x.d ≠ []) (hrb : w.heap.size ≤ x.blk) (q2 : Below w2.heap.size w2 w3) (hv : Vw RwB.val 22 w' w1.heap.size lv' (rs ++ [x])) (u : Upd (fun k => lv.ownBlock = some k) w3 w')
    (ho : lv'.ownBlock = lv.ownBlock ∨ ∀ g, lv'.ownBlock = some g → w3.heap.size ≤ g) : PuM w1 base b gc rv r last lv' (rs ++ [x]) w' := by
  have h3 := (h.below q).below q2
  have hlo : ∀ k, lv.ownBlock = some k → w1.heap.size ≤ k := fun k hk => (h.rows.vw.lt hk).1
  refine ⟨h3.g.upd u (fun e => by have := hlo _ e; have := h.bl; omega) (fun k hk e => by have := hlo _ e; have := h.ro k hk; omega), h.ro, h3.hgc.upd u (fun e => by have := hlo _ e; have := h.gl; omega), h.gl, h.rows.add q hr hd hrb q2 hv u ho h.u.size, Upd.then h3.u u fun k hk e => by have := hlo _ e; omega, h.bl⟩
end
theorem push_start {w1 wx w' : World} {base b gc : Nat} {rv0 v' : Value} {r0 r1 : List Int} {last : Int} (G : GateAt w1 base b rv0 r0 last false) (hg : Blk w1 gc 52 [.pointer (some ⟨b, 0, none⟩)]) (hne : gc ≠ b) (hng : rv0.ownBlock ≠ some gc)
    (q : Below w1.heap.size w1 wx) (hv : Vw (Value.int .u8) 5 w' base v' r1) (u : Upd (fun k => rv0.ownBlock = some k) wx w') (ho : v'.ownBlock = rv0.ownBlock ∨ ∀ g, v'.ownBlock = some g → wx.heap.size ≤ g) :
    Blk w' b 78 [rv0, .int .i64 last, .bool false] ∧ Blk w' gc 52 [.pointer (some ⟨b, 0, none⟩)] ∧
    PuM (w'.setCell ⟨b, 0, none⟩ v') base b gc v' r1 last (.slice none 0 0) [] (w'.setCell ⟨b, 0, none⟩ v') ∧ (∀ k, v'.ownBlock = some k → rv0.ownBlock = some k ∨ w1.heap.size ≤ k) ∧ Upd (gateS b rv0) w1 (w'.setCell ⟨b, 0, none⟩ v') := by
  have Gx := G.below q
  have hgx := hg.upd (S := fun _ => False) (Upd.of_below q) id
  have hb' := Gx.hb.upd u G.ne
  have hg' := hgx.upd u hng
  have us : Upd (fun k => k = b) w' (w'.setCell ⟨b, 0, none⟩ v') := (Upd.refl _ _).setCell _ _ fun _ => rfl
  have hnb : v'.ownBlock ≠ some b := by
    intro e
    rcases ho with e2 | e2
    · exact G.ne (by rw [← e2]; exact e)
    · have := e2 b e; have := Gx.hb.lt; omega
  have hsz : (w'.setCell ⟨b, 0, none⟩ v').heap.size = w'.heap.size := by simp
  refine ⟨hb', hg', ⟨⟨by simpa using hb'.set 0 v', hv.upd us fun k hk e => hnb (by rw [hk, e]), hnb, G.hbb⟩, fun k hk => by rw [hsz]; exact (hv.lt hk).2, hg'.upd us hne, ⟨by rw [hsz]; exact hg'.lt, hne⟩, ⟨Vw.nil _ _ _ _, (fun r hr => by cases hr), (fun r hr => by cases hr)⟩, Upd.refl _ _, by rw [hsz]; exact hb'.lt⟩, fun k hk => ?_, ?_⟩
  · rcases ho with e | e
    · exact .inl (by rw [← e]; exact hk)
    · have := e k hk; have := q.size; exact .inr (by omega)
  · exact (Upd.then (Upd.of_below q) (u.mono fun _ _ h => .inr h) fun _ _ h => h).setCell _ _ fun _ => .inl rfl
/-- What Push leaves. -/
def PuPost (w : World) (base b : Nat) (rv0 : Value) (fin : GS) (e : Ending) (w' : World) : Prop :=
  ∃ (lv : Value) (rs : List RwB) (rv : Value) (B : Nat), e = .returned (.tuple #[lv, .int .i64 (if fin.bad = true then 3 else 0)]) ∧ rs.map RwB.d = fin.out ∧ w.heap.size ≤ B ∧ RowsAt w' B lv rs ∧
    GateAt w' base b rv fin.rest fin.last fin.bad ∧ (∀ k, rv.ownBlock = some k → k < B ∧ (rv0.ownBlock = some k ∨ w.heap.size ≤ k)) ∧ Upd (gateS b rv0) w w'
def PuRel (w1 : World) (base b gc : Nat) (own : Nat → Prop) (fin : GS) (k : Nat) (lv : Value) (w : World) : Prop :=
  ∃ (rv : Value) (r : List Int) (last : Int) (rs : List RwB), PuM w1 base b gc rv r last lv rs w ∧ IsB r ∧ r.length ≤ k ∧ (∀ g, rv.ownBlock = some g → own g) ∧ -1 ≤ last ∧ last ≤ 16777215 ∧ r.length ≤ 100000000 ∧ rs.length ≤ 100000000 - k ∧ k ≤ 100000000 ∧
    fin = ⟨rs.map RwB.d ++ (gate r last).out, (gate r last).rest, (gate r last).last, (gate r last).bad⟩
end Go.Proofs.Ytjljjohoipnhhaa
