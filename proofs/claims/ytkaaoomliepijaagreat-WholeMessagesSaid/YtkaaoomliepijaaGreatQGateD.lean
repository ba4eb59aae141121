/-
  message.Gate.Push: memory.
  The contract of message.Gate.Push; Pending, Last, NewGate.
  NewGate, Last, Pending; the reference's Same.
-/
import Derived.Test.YtkaaoomliepijaaGreatQGate
import Derived.Deep.CutBlock
import Derived.Laws.BytesArg
namespace Go.Proofs.YtkaaoomliepijaaGreat
open Go.RowKit
set_option linter.unusedVariables false

theorem Tryz.infoSl : (Tryz.prog.info? 22).map (fun i => (i.zero, i.size, i.bytes)) = some (some (.slice none 0 0), 1, 24) := by kernel_rfl
theorem Vw.sh3 {α : Type} {f : α → Value} {T : TypeId} {w : World} {base : Nat} {v : Value} {xs : List α} (h : Vw f T w base v xs) : ∃ a m c, v = .slice a m c := by
  obtain ⟨a, c, h⟩ := h.shape
  exact ⟨a, _, c, h⟩
theorem one_genB {α : Type} {f : α → Value} {w w' : World} {T : TypeId} {x : α} (h : w'.heap = (w.alloc (.cells #[f x] T)).heap) : Sl f w' (some ⟨w.heap.size, 0, none⟩) [x] := by
  intro j y hj
  have hlt := get_lt hj
  obtain rfl : j = 0 := by simp at hlt; exact hlt
  simp at hj
  subst hj
  have hb : Blk w' w.heap.size T [f x] := (Blk.new w T [f x]).of_heap (by rw [h])
  refine ⟨rfl, ?_⟩
  rw [adr_mk]
  exact hb.cell rfl
theorem cutB_eq {rg ro n rc k : Nat} {A' : Option Addr} (h : (if rc = k then some (⟨rg, ro, none⟩ : Addr) else some ⟨rg, ro + k, none⟩) = A') (hk : k ≤ n) (hn : n ≤ rc) : cutV (some ⟨rg, ro, none⟩) n rc k = .slice A' (n - k) (rc - k) := by
  unfold cutV
  subst h
  by_cases e : rc = k
  · rw [if_pos e, if_pos e.symm, show n - k = 0 by omega, show rc - k = 0 by omega]
  · rw [if_neg e, if_neg (fun h => e h.symm)]
    rfl
/-- Data that came out. -/
structure RwB where
  a : Option Addr
  c : Nat
  d : List Int
def RwB.val (r : RwB) : Value := .slice r.a r.d.length r.c
def RwB.blk (r : RwB) : Nat := (r.a.getD default).block
/-- A list of data of the call's own, from block B on. -/
structure RowsAt (w : World) (B : Nat) (lv : Value) (rs : List RwB) : Prop where
  vw : Vw RwB.val 22 w B lv rs
  rd : ∀ r ∈ rs, Sl (Value.int .u8) w r.a r.d ∧ r.d ≠ [] ∧ B ≤ r.blk
  nl : ∀ r ∈ rs, lv.ownBlock ≠ some r.blk
section
variable {w w' w1 w2 : World} {B : Nat} {lv lv' : Value} {rs : List RwB}
theorem RowsAt.upd {S : Nat → Prop} (h : RowsAt w B lv rs) (u : Upd S w w') (hs : ∀ k, S k → k < B) : RowsAt w' B lv rs :=
  ⟨h.vw.upd u fun g hg hS => by have := (h.vw.lt hg).1; have := hs g hS; omega, fun r hr => ⟨(h.rd r hr).1.upd u fun _ hS => by have := (h.rd r hr).2.2; have := hs _ hS; unfold RwB.blk at *; omega, (h.rd r hr).2⟩, h.nl⟩
theorem RowsAt.below (h : RowsAt w B lv rs) (q : Below w.heap.size w w') : RowsAt w' B lv rs := h.upd (S := fun _ => False) (Upd.of_below q) fun _ h => h.elim
theorem RowsAt.old (h : RowsAt w B lv rs) {r : RwB} (hr : r ∈ rs) : r.blk < w.heap.size := (h.rd r hr).1.old (h.rd r hr).2.1
/-- One more. -/
theorem RowsAt.add (h : RowsAt w B lv rs) (q : Below w.heap.size w w1) {r : RwB} (hr : Sl (Value.int .u8) w1 r.a r.d) (hd : r.d ≠ []) (hrb : w.heap.size ≤ r.blk) (q2 : Below w1.heap.size w1 w2) (hv : Vw RwB.val 22 w' B lv' (rs ++ [r])) (u : Upd (fun k => lv.ownBlock = some k) w2 w')
    (ho : lv'.ownBlock = lv.ownBlock ∨ ∀ g, lv'.ownBlock = some g → w2.heap.size ≤ g) (hB : B ≤ w.heap.size) : RowsAt w' B lv' (rs ++ [r]) := by
  have hrl : r.blk < w1.heap.size := hr.old hd
  have q12 := q2.size
  have hlt : ∀ k, lv.ownBlock = some k → k < w.heap.size := fun k hk => (h.vw.lt hk).2
  refine ⟨hv, ?_, ?_⟩
  · intro x hx
    rcases List.mem_append.1 hx with hx | hx
    · have := (h.rd x hx).1
      refine ⟨((this.below q).below q2).upd u fun _ e => h.nl x hx e, (h.rd x hx).2⟩
    · obtain rfl := List.mem_singleton.1 hx
      refine ⟨(hr.below q2).upd u fun _ e => by have := hlt _ e; unfold RwB.blk at hrb; omega, hd, by omega⟩
  · intro x hx
    have hxl : x.blk < w1.heap.size := by
      rcases List.mem_append.1 hx with hx | hx
      · have := h.old hx; have := q.size; omega
      · obtain rfl := List.mem_singleton.1 hx; exact hrl
    rcases ho with e | e
    · rw [e]
      rcases List.mem_append.1 hx with hx | hx
      · exact h.nl x hx
      · obtain rfl := List.mem_singleton.1 hx
        intro e2; have := hlt _ e2; omega
    · intro e2; have := e _ e2; omega
end

/-- Push, behind the first append. -/
structure PuM (w1 : World) (base b gc : Nat) (rv : Value) (r : List Int) (last : Int) (lv : Value) (rs : List RwB) (w : World) : Prop where
  g : GateAt w base b rv r last false
  ro : ∀ k, rv.ownBlock = some k → k < w1.heap.size
  hgc : Blk w gc 29 [.pointer (some ⟨b, 0, none⟩)]
  gl : gc < w1.heap.size ∧ gc ≠ b
  rows : RowsAt w w1.heap.size lv rs
  u : Upd (fun k => k = b) w1 w
  bl : b < w1.heap.size
section
variable {w1 w w' : World} {base b gc : Nat} {rv : Value} {r : List Int} {last : Int} {lv : Value} {rs : List RwB}
theorem PuM.below (h : PuM w1 base b gc rv r last lv rs w) (q : Below w.heap.size w w') : PuM w1 base b gc rv r last lv rs w' :=
  ⟨h.g.below q, h.ro, h.hgc.upd (S := fun _ => False) (Upd.of_below q) id, h.gl, h.rows.below q, Upd.then h.u (Upd.of_below (S := fun k => k = b) q) (fun _ _ h => h), h.bl⟩
/-- A cell of the gate is written. -/
theorem PuM.cell (h : PuM w1 base b gc rv r last lv rs w) {i : Nat} {v rv' : Value} {r' : List Int} {last' : Int} (hc : ([rv, .int .i64 last, .bool false] : List Value).set i v = [rv', .int .i64 last', .bool false]) (hv : Vw (Value.int .u8) 5 w base rv' r') (ho : ∀ k, rv'.ownBlock = some k → rv.ownBlock = some k) :
    PuM w1 base b gc rv' r' last' lv rs (w.setCell ⟨b, i, none⟩ v) := by
  have u : Upd (fun k => k = b) w (w.setCell ⟨b, i, none⟩ v) := (Upd.refl _ _).setCell _ _ fun _ => rfl
  have hb := h.g.hb.set i v
  rw [hc] at hb
  refine ⟨⟨hb, hv.upd u fun k hk e => h.g.ne (by rw [ho k hk, e]), fun e => h.g.ne (ho _ e), h.g.hbb⟩, fun k hk => h.ro k (ho k hk), h.hgc.upd u h.gl.2, h.gl, h.rows.upd u fun k hk => by rw [hk]; exact h.bl, h.u.trans u, h.bl⟩
theorem PuM.row {w2 w3 : World} {lv' : Value} {x : RwB} (h : PuM w1 base b gc rv r last lv rs w) (q : Below w.heap.size w w2) (hr : Sl (Value.int .u8) w2 x.a x.d) (hd : x.d ≠ []) (hrb : w.heap.size ≤ x.blk) (q2 : Below w2.heap.size w2 w3) (hv : Vw RwB.val 22 w' w1.heap.size lv' (rs ++ [x])) (u : Upd (fun k => lv.ownBlock = some k) w3 w')
    (ho : lv'.ownBlock = lv.ownBlock ∨ ∀ g, lv'.ownBlock = some g → w3.heap.size ≤ g) : PuM w1 base b gc rv r last lv' (rs ++ [x]) w' := by
  have h3 := (h.below q).below q2
  have hlo : ∀ k, lv.ownBlock = some k → w1.heap.size ≤ k := fun k hk => (h.rows.vw.lt hk).1
  refine ⟨h3.g.upd u (fun e => by have := hlo _ e; have := h.bl; omega) (fun k hk e => by have := hlo _ e; have := h.ro k hk; omega), h.ro, h3.hgc.upd u (fun e => by have := hlo _ e; have := h.gl; omega), h.gl, h.rows.add q hr hd hrb q2 hv u ho h.u.size, Upd.then h3.u u fun k hk e => by have := hlo _ e; omega, h.bl⟩
end
theorem push_start {w1 wx w' : World} {base b gc : Nat} {rv0 v' : Value} {r0 r1 : List Int} {last : Int} (G : GateAt w1 base b rv0 r0 last false) (hg : Blk w1 gc 29 [.pointer (some ⟨b, 0, none⟩)]) (hne : gc ≠ b) (hng : rv0.ownBlock ≠ some gc)
    (q : Below w1.heap.size w1 wx) (hv : Vw (Value.int .u8) 5 w' base v' r1) (u : Upd (fun k => rv0.ownBlock = some k) wx w') (ho : v'.ownBlock = rv0.ownBlock ∨ ∀ g, v'.ownBlock = some g → wx.heap.size ≤ g) :
    Blk w' b 102 [rv0, .int .i64 last, .bool false] ∧ Blk w' gc 29 [.pointer (some ⟨b, 0, none⟩)] ∧
    PuM (w'.setCell ⟨b, 0, none⟩ v') base b gc v' r1 last (.slice none 0 0) [] (w'.setCell ⟨b, 0, none⟩ v') ∧ (∀ k, v'.ownBlock = some k → rv0.ownBlock = some k ∨ w1.heap.size ≤ k) ∧ Upd (gateS b rv0) w1 (w'.setCell ⟨b, 0, none⟩ v') := by
  have Gx := G.below q
  have hgx := hg.upd (S := fun _ => False) (Upd.of_below q) id
  have hb' := Gx.hb.upd u G.ne
  have hg' := hgx.upd u hng
  have us : Upd (fun k => k = b) w' (w'.setCell ⟨b, 0, none⟩ v') := (Upd.refl _ _).setCell _ _ fun _ => rfl
  have hnb : v'.ownBlock ≠ some b := by
    intro e
    rcases ho with e2 | e2
    · exact G.ne (by rw [← e2]; exact e)
    · have := e2 b e; have := Gx.hb.lt; omega
  have hsz : (w'.setCell ⟨b, 0, none⟩ v').heap.size = w'.heap.size := by simp
  refine ⟨hb', hg', ⟨⟨by simpa using hb'.set 0 v', hv.upd us fun k hk e => hnb (by rw [hk, e]), hnb, G.hbb⟩, fun k hk => by rw [hsz]; exact (hv.lt hk).2, hg'.upd us hne, ⟨by rw [hsz]; exact hg'.lt, hne⟩, ⟨Vw.nil _ _ _ _, (fun r hr => by cases hr), (fun r hr => by cases hr)⟩, Upd.refl _ _, by rw [hsz]; exact hb'.lt⟩, fun k hk => ?_, ?_⟩
  · rcases ho with e | e
    · exact .inl (by rw [← e]; exact hk)
    · have := e k hk; have := q.size; exact .inr (by omega)
  · exact (Upd.then (Upd.of_below q) (u.mono fun _ _ h => .inr h) fun _ _ h => h).setCell _ _ fun _ => .inl rfl
/-- What Push leaves. -/
def PuPost (w : World) (base b : Nat) (rv0 : Value) (fin : GS) (e : Ending) (w' : World) : Prop :=
  ∃ (lv : Value) (rs : List RwB) (rv : Value) (B : Nat), e = .returned (.tuple #[lv, .int .i64 (if fin.bad = true then 3 else 0)]) ∧ rs.map RwB.d = fin.out ∧ w.heap.size ≤ B ∧ RowsAt w' B lv rs ∧
    GateAt w' base b rv fin.rest fin.last fin.bad ∧ (∀ k, rv.ownBlock = some k → k < B ∧ (rv0.ownBlock = some k ∨ w.heap.size ≤ k)) ∧ Upd (gateS b rv0) w w'
def PuRel (w1 : World) (base b gc : Nat) (own : Nat → Prop) (fin : GS) (k : Nat) (lv : Value) (w : World) : Prop :=
  ∃ (rv : Value) (r : List Int) (last : Int) (rs : List RwB), PuM w1 base b gc rv r last lv rs w ∧ IsB r ∧ r.length ≤ k ∧ (∀ g, rv.ownBlock = some g → own g) ∧ -1 ≤ last ∧ last ≤ 16777215 ∧ r.length ≤ 100000000 ∧ rs.length ≤ 100000000 - k ∧ k ≤ 100000000 ∧
    fin = ⟨rs.map RwB.d ++ (gate r last).out, (gate r last).rest, (gate r last).last, (gate r last).bad⟩
end Go.Proofs.YtkaaoomliepijaaGreat
namespace Go.Proofs.YtkaaoomliepijaaGreat
open Go.RowKit
set_option linter.unusedVariables false

theorem IsB.drop {l : List Int} (h : IsB l) (k : Nat) : IsB (l.drop k) := fun y hy => h y (List.mem_of_mem_drop hy)
theorem IsB.append {a b : List Int} (h : IsB a) (k : IsB b) : IsB (a ++ b) := fun y hy => by
  rcases List.mem_append.1 hy with hy | hy
  · exact h y hy
  · exact k y hy
def pushO (r data : List Int) (last : Int) : GS := gate (r ++ data) last

set_option maxHeartbeats 2000000 in
theorem push_broken (w : World) (base b : Nat) (rv : Value) (rest : List Int) (last : Int) (h : GateAt w base b rv rest last true) (da : Option Addr) (n dc : Nat) :
    Calls Tryz.prog 31 #[.pointer (some ⟨b, 0, none⟩), .slice da n dc] w fun e w' => e = .returned (.tuple #[.slice none 0 0, .int .i64 6]) ∧ Below w.heap.size w w' := by
  have h2 := h.hb.cell (i := 2) rfl
  have hlt := h.hb.lt
  have hne : ¬ b = w.heap.size := by omega
  clear h
  go_enter Tryz.func31, Tryz.ntmps31
  go_wp2_with fail
  go_ret2
  exact ⟨rfl, (Below.refl _ _).alloc (Nat.le_refl _) _⟩

theorem push_end {w wc wr : World} {base b gc : Nat} {rv0 rv : Value} {r : List Int} {last : Int} {lv : Value} {rs : List RwB} {fin : GS} (U : Upd (gateS b rv0) w wc) (M : PuM wc base b gc rv r last lv rs wr) (hf : fin = ⟨rs.map RwB.d, r, last, false⟩)
    (ho : ∀ g, rv.ownBlock = some g → rv0.ownBlock = some g ∨ w.heap.size ≤ g) : PuPost w base b rv0 fin (.returned (.tuple #[lv, .int .i64 0])) wr := by
  subst hf
  exact ⟨lv, rs, rv, wc.heap.size, rfl, rfl, U.size, M.rows, M.g, fun k hk => ⟨M.ro k hk, ho k hk⟩, U.trans (M.u.mono fun k _ hk => .inl hk)⟩
theorem push_bad {w wc wr : World} {base b gc : Nat} {rv0 rv : Value} {r : List Int} {last : Int} {lv : Value} {rs : List RwB} {fin : GS} (U : Upd (gateS b rv0) w wc) (M : PuM wc base b gc rv r last lv rs wr) (hf : fin = ⟨rs.map RwB.d, [], last, true⟩) :
    PuPost w base b rv0 fin (.returned (.tuple #[lv, .int .i64 3])) ((wr.setCell ⟨b, 2, none⟩ (.bool true)).setCell ⟨b, 0, none⟩ (.slice none 0 0)) := by
  subst hf
  have u : Upd (fun k => k = b) wr ((wr.setCell ⟨b, 2, none⟩ (.bool true)).setCell ⟨b, 0, none⟩ (.slice none 0 0)) := Upd.setCell (S := fun k => k = b) (Upd.setCell (S := fun k => k = b) (Upd.refl _ _) _ _ fun _ => rfl) _ _ fun _ => rfl
  have hb := (M.g.hb.set 2 (.bool true)).set 0 (.slice none 0 0)
  exact ⟨lv, rs, .slice none 0 0, wc.heap.size, rfl, rfl, U.size, M.rows.upd u fun k hk => by rw [hk]; exact M.bl, ⟨hb, Vw.nil _ _ _ _, (fun e => by cases e), M.g.hbb⟩, (fun k hk => by cases hk), U.trans ((M.u.trans u).mono fun k _ hk => .inl hk)⟩

set_option maxHeartbeats 16000000 in
set_option maxRecDepth 100000 in
theorem push_ok (w : World) (base b : Nat) (rv0 : Value) (r0 : List Int) (last0 : Int) (h : GateAt w base b rv0 r0 last0 false) (hB : IsB r0) (hr0 : r0.length ≤ 10000000) (hl0 : -1 ≤ last0) (hl1 : last0 ≤ 16777215) (da : Option Addr) (dc : Nat) (data : List Int) (hd : Sl (Value.int .u8) w da data) (hdB : IsB data) (hdl : data.length ≤ 10000000)
    (hda : data ≠ [] → ¬ gateS b rv0 (da.getD default).block) (hbase : base ≤ w.heap.size) :
    Calls Tryz.prog 31 #[.pointer (some ⟨b, 0, none⟩), .slice da data.length dc] w (PuPost w base b rv0 (pushO r0 data last0)) := by
  obtain ⟨fin, hfin⟩ : ∃ fin, pushO r0 data last0 = fin := ⟨_, rfl⟩
  rw [hfin]
  have FIN := Lib.hid hfin
  obtain ⟨ra, rc, rfl⟩ := h.hr.shape
  have G0 := Lib.hid (h.below ((Below.refl _ w).alloc (Nat.le_refl _) (.cells #[.pointer (some ⟨b, 0, none⟩)] 29)))
  have B0 : Hid (Below w.heap.size w (w.alloc (.cells #[.pointer (some ⟨b, 0, none⟩)] 29))) := (Below.refl _ _).alloc (Nat.le_refl _) _
  have GC : Hid (Blk (w.alloc (.cells #[.pointer (some ⟨b, 0, none⟩)] 29)) w.heap.size 29 [.pointer (some ⟨b, 0, none⟩)]) := Blk.new w _ [.pointer (some ⟨b, 0, none⟩)]
  have SD := Lib.hid (hd.below B0.out)
  have HDA := Lib.hid hda; have HB := Lib.hid hB; have HDB := Lib.hid hdB
  have hlt := h.hb.lt
  have LT := Lib.hid fun k hk => (h.lt (k := k) hk).2
  obtain ⟨i0, hi, hz0, hz1, hz2⟩ := info_parts Tryz.infoByte
  have HI := Lib.hid hi; have HZ0 := Lib.hid hz0; have HZ1 := Lib.hid hz1; have HZ2 := Lib.hid hz2
  obtain ⟨i1, hi, hz0, hz1, hz2⟩ := info_parts Tryz.infoSl
  have JI := Lib.hid hi; have JZ0 := Lib.hid hz0; have JZ1 := Lib.hid hz1; have JZ2 := Lib.hid hz2
  have f0 := G0.out.hb.cell (i := 0) rfl
  have f2 := G0.out.hb.cell (i := 2) rfl
  have f3 := GC.out.cell (i := 0) rfl
  have hfn : ¬ w.heap.size = b := by omega
  clear hi hz0 hz1 hz2 h hd hB hdB hda hfin
  go_enter Tryz.func31, Tryz.ntmps31
  go_upto_region 5 with (fail)
  obtain ⟨wa, hwa⟩ : ∃ wa, (w.alloc (.cells #[.pointer (some ⟨b, 0, none⟩)] 29)) = wa := ⟨_, rfl⟩
  rw [hwa] at G0 B0 GC SD f0 f2 f3 ⊢
  clear hwa
  have hsz := B0.out.size
  go_cut [] (fun wx => ∃ rv, PuM wx base b w.heap.size rv (r0 ++ data) last0 (.slice none 0 0) [] wx ∧ (∀ k, rv.ownBlock = some k → (Value.slice ra r0.length rc).ownBlock = some k ∨ w.heap.size ≤ k) ∧ Upd (gateS b (.slice ra r0.length rc)) w wx)
  case first =>
    have hng : (Value.slice ra r0.length rc).ownBlock ≠ some w.heap.size := fun e => by have := LT.out _ (.inr e); omega
    go_region_law (first | (refine step_append_vw (by rfl) _ _ 22 (by rfl) base 5 i0 _ 1 Tryz.underlying22 HI.out HZ0.out HZ1.out HZ2.out rfl (Value.int .u8) (fun _ => rfl) (.slice ra r0.length rc) r0 (by rfl) (G0.out.hr.upd (S := fun _ => False) (w' := wa.drew) (Upd.of_below (Qt.refl _).drew.bel) (fun _ _ => id)) da dc data (by rfl) (SD.out.below (Qt.refl _).drew.bel) (by unfold maxLen; omega) (by omega) (by simp; omega) ?_; intro v' w5 g1 g2 g3; obtain ⟨a', m', c', rfl⟩ := g1.sh3; have X := Lib.hid (push_start G0.out GC.out hfn hng (Qt.refl wa).drew.bel g1 g2 g3); clear g1 g2 g3 f0 f2 f3; have y1 := X.out.1.cell (i := 0) rfl; have y2 := X.out.1.free 0; have y3 := X.out.2.1.cell (i := 0) rfl))
    all_goals
      have X2 := Lib.hid X.out.2.2
      clear X y1 y2 y3
      go_wp2_with fail
      go_meet
      first
      | exact ⟨_, X2.out.1, fun k hk => (X2.out.2.1 k hk).imp id fun h => Nat.le_trans hsz h, Upd.then (Upd.of_below B0.out) X2.out.2.2 (fun _ _ h => h)⟩
      | exact ⟨_, ⟨X2.out.1.g.below (Qt.refl _).drew.bel, X2.out.1.ro, X2.out.1.hgc.drew, X2.out.1.gl, X2.out.1.rows.below (Qt.refl _).drew.bel, Upd.refl _ _, X2.out.1.bl⟩, fun k hk => (X2.out.2.1 k hk).imp id fun h => Nat.le_trans hsz h, (Upd.then (Upd.of_below B0.out) X2.out.2.2 (fun _ _ h => h)).drew⟩
  case rest =>
    clear f0 f2 f3 G0 GC SD
    obtain ⟨rv, hM, hown, hU⟩ := hcut
    have M0 := Lib.hid hM; have OWN := Lib.hid hown; have U0 := Lib.hid hU
    have I0 : Hid (IsB (r0 ++ data)) := HB.out.append HDB.out
    have hlen : (r0 ++ data).length ≤ 20000000 := by simp; omega
    have FN : Hid (fin = gate (r0 ++ data) last0) := FIN.out.symm
    clear hM hown hU
    obtain ⟨R, hR⟩ : ∃ R, r0 ++ data = R := ⟨_, rfl⟩
    rw [hR] at M0 I0 hlen FN
    clear hR
    go_wp2_with fail
    go_loopg [7] R.length (fun k lv wr => PuRel wc base b w.heap.size (fun g => (Value.slice ra r0.length rc).ownBlock = some g ∨ w.heap.size ≤ g) fin k lv wr)
    case atStart => exact ⟨rv, R, last0, [], M0.out, I0.out, Nat.le_refl _, OWN.out, hl0, hl1, by omega, by simp, by omega, by rw [FN.out]; rfl⟩
    case round =>
      clear M0 I0 FN OWN
      obtain ⟨rv, r, last, rs, hM, hIB, hk, ho, hl0, hl1, hrl, hrs, hk8, hfin⟩ := hrel
      have M := Lib.hid hM; have IB := Lib.hid hIB; have HO := Lib.hid ho; have FN := Lib.hid hfin
      clear hM hIB ho hfin
      obtain ⟨ra', rc', rfl⟩ := M.out.g.hr.shape
      have g0 := M.out.hgc.cell (i := 0) rfl
      have b0 := M.out.g.hb.cell (i := 0) rfl
      have b1 := M.out.g.hb.cell (i := 1) rfl
      by_cases h2 : r.length < 2
      · have n2 : decide (2 ≤ r.length) = false := by simp; omega
        have FN2 : Hid (fin = ⟨rs.map RwB.d, r, last, false⟩) := by
          show _ = _
          rw [FN.out, gate_stop h2, List.append_nil]
        go_wp2_with fail
        go_ret2
        exact push_end U0.out M.out FN2.out HO.out
      · have n2 : decide (2 ≤ r.length) = true := by simp; omega
        have RD : Hid (∀ w', Qt wr w' → Calls Tryz.prog 59 #[.int .i64 0, .int .i64 2, .pointer (some ⟨w.heap.size, 0, none⟩)] w' fun e w2 => e = .returned (.int .i64 (len2 r)) ∧ ∃ n, w2 = w'.drewN n) := by
          intro w' hq
          rw [← numF_len2]
          exact read_any w' base b w.heap.size _ r last false (M.out.g.below hq.bel) (M.out.hgc.qt hq) IB.out 0 2 (by decide) (by omega) (by omega) (by decide)
        have L2 : Hid (0 ≤ len2 r ∧ len2 r ≤ 65535) := by
          have := numF_bd IB.out 0
          rw [numF_len2] at this
          exact ⟨this.2.2.2.2.1, this.2.2.2.2.2.1⟩
        go_upto_region 9 with (fail)
        go_quiet ((go_at_call 59; exact Calls.quiet_of (RD.out _ ⟨_, rfl⟩)))
        have MQ := Lib.hid (M.out.below ((Qt.refl wr).drewN nq).bel)
        generalize wr.drewN nq = w4 at *
        clear g0 b0 b1 RD
        have g0 := MQ.out.hgc.cell (i := 0) rfl
        have b0 := MQ.out.g.hb.cell (i := 0) rfl
        have b1 := MQ.out.g.hb.cell (i := 1) rfl
        have f2 := MQ.out.g.hb.free 2
        have f0 := MQ.out.g.hb.free 0
        have hL := L2.out
        have N3 : Hid (0 ≤ num3 r ∧ num3 r ≤ 16777215) := by
          have := numF_bd IB.out 2
          rw [numF_num3] at this
          exact this.2.2.2.2.2.2
        by_cases h5 : 5 ≤ r.length
        · have n5 : decide (5 ≤ r.length) = true := by simp; omega
          have RD : Hid (Calls Tryz.prog 59 #[.int .i64 2, .int .i64 5, .pointer (some ⟨w.heap.size, 0, none⟩)] w4 fun e w2 => e = .returned (.int .i64 (num3 r)) ∧ Qt w4 w2) := by
            rw [← numF_num3]
            exact read_any w4 base b w.heap.size _ r last false MQ.out.g MQ.out.hgc IB.out 2 3 (by decide) (by omega) (by omega) (by decide)
          have hN : numOf r last = num3 r := by unfold numOf; rw [if_pos h5]
          cases hbad : badB r last with
          | true =>
            have FN2 : Hid (fin = ⟨rs.map RwB.d, [], last, true⟩) := by
              show _ = _
              rw [FN.out, gate_bad h2 hbad, List.append_nil]
            have hc : len2 r < 1 ∨ (1 ≤ len2 r ∧ 1000 < len2 r) ∨ (1 ≤ len2 r ∧ len2 r ≤ 1000 ∧ num3 r ≤ last) := by
              unfold badB at hbad
              rw [hN] at hbad
              simp only [Bool.or_eq_true, decide_eq_true_eq] at hbad
              omega
            clear hbad hN FN N3 IB L2
            generalize num3 r = N at *
            generalize len2 r = L at *
            rcases hc with hc | ⟨hc0, hc⟩ | ⟨hc0, hc1, hc⟩
            all_goals
              go_wp2_with fail
              refine RD.out.mono ?_
              rintro e w5 ⟨rfl, hq⟩
              have M5 := Lib.hid (MQ.out.below hq.bel)
              clear hq g0 b0 b1 f2 f0
              have g0 := M5.out.hgc.cell (i := 0) rfl
              have b0 := M5.out.g.hb.cell (i := 0) rfl
              have b1 := M5.out.g.hb.cell (i := 1) rfl
              have b2 := M5.out.g.hb.cell (i := 2) rfl
              have f2 := M5.out.g.hb.free 2
              have f0 := M5.out.g.hb.free 0
              have gn := M5.out.gl.2
              have PB := Lib.hid (push_bad U0.out M5.out FN2.out)
              go_wp2_with fail
              go_ret2
              exact PB.out
          | false =>
            have hc : 1 ≤ len2 r ∧ len2 r ≤ 1000 ∧ last < num3 r := by
              unfold badB at hbad
              rw [hN] at hbad
              simp only [Bool.or_eq_false_iff, decide_eq_false_iff_not] at hbad
              omega
            obtain ⟨hc0, hc1, hc2⟩ := hc
            obtain ⟨Ln, hLn⟩ : ∃ Ln : Nat, len2 r = (Ln : Int) := ⟨(len2 r).toNat, by omega⟩
            cases hsh : shortB r with
            | true =>
              have FN2 : Hid (fin = ⟨rs.map RwB.d, r, last, false⟩) := by
                show _ = _
                rw [FN.out, gate_short h2 hbad hsh, List.append_nil]
              have hrl2 : (r.length : Int) < 5 + len2 r := by unfold shortB at hsh; simpa using hsh
              clear hbad hN FN N3 IB L2 hsh hLn
              generalize num3 r = N at *
              generalize len2 r = L at *
              go_wp2_with fail
              refine RD.out.mono ?_
              rintro e w5 ⟨rfl, hq⟩
              have M5 := Lib.hid (MQ.out.below hq.bel)
              clear hq g0 b0 b1 f2 f0
              have g0 := M5.out.hgc.cell (i := 0) rfl
              have b0 := M5.out.g.hb.cell (i := 0) rfl
              have b1 := M5.out.g.hb.cell (i := 1) rfl
              go_wp2_with fail
              go_ret2
              exact push_end U0.out M5.out FN2.out HO.out
            | false =>
              have hrl2 : 5 + Ln ≤ r.length := by unfold shortB at hsh; rw [hLn] at hsh; simp at hsh; omega
              obtain ⟨X, hX⟩ : ∃ X, (r.drop 5).take Ln = X := ⟨_, rfl⟩
              have hxl : X.length = Ln := by rw [← hX, List.length_take, List.length_drop]; omega
              have FN3 : Hid (fin = ⟨(rs.map RwB.d ++ [X]) ++ (gate (r.drop (5 + Ln)) (num3 r)).out, (gate (r.drop (5 + Ln)) (num3 r)).rest, (gate (r.drop (5 + Ln)) (num3 r)).last, (gate (r.drop (5 + Ln)) (num3 r)).bad⟩) := by
                show _ = _
                have e := gate_one h2 hbad hsh
                rw [hLn, Int.toNat_natCast, hX] at e
                rw [FN.out, e, List.append_assoc]
                rfl
              have hN3 := N3.out
              rw [hLn] at hc0 hc1 ⊢
              clear hbad hN FN N3 L2 hsh hLn hL
              generalize num3 r = N at *
              have HXL := Lib.hid hxl; have HX := Lib.hid hX
              clear hX
              obtain ⟨rg, ro, rfl⟩ : ∃ g o, ra' = some ⟨g, o, none⟩ := by
                rcases M.out.g.hr with ⟨e, e2⟩ | ⟨g, o, c, e, _⟩
                · rw [e2] at h5; simp at h5
                · cases e; exact ⟨g, o, rfl⟩
              have hrc : r.length ≤ rc' ∧ rc' ≤ maxLen := by
                rcases M.out.g.hr with ⟨e, e2⟩ | ⟨g, o, c, e, _, _, h3, h4, _⟩
                · cases e
                · cases e; exact ⟨h3, h4⟩
              obtain ⟨hrc1, hrc2⟩ := hrc
              unfold maxLen at hrc2
              obtain ⟨la, lc, rfl⟩ := M.out.rows.vw.shape
              have hne5 : ¬ 5 = rc' := by omega
              have hne5' : ¬ rc' = 5 := by omega
              obtain ⟨A', hA⟩ : ∃ A', (if rc' = 5 + Ln then some (⟨rg, ro, none⟩ : Addr) else some ⟨rg, ro + (5 + Ln), none⟩) = A' := ⟨_, rfl⟩
              have CV : Hid (cutV (some ⟨rg, ro, none⟩) r.length rc' (5 + Ln) = .slice A' (r.length - (5 + Ln)) (rc' - (5 + Ln))) := cutB_eq hA hrl2 hrc1
              have e5 : 5 + Ln - 5 = Ln := by omega
              clear hxl
              have HAe := Lib.hid hA
              clear hA
              go_wp2_with fail
              refine RD.out.mono ?_
              rintro e w5 ⟨rfl, hq⟩
              have M5 := Lib.hid (MQ.out.below hq.bel)
              clear hq g0 b0 b1 f2 f0
              have g0 := M5.out.hgc.cell (i := 0) rfl
              have b0 := M5.out.g.hb.cell (i := 0) rfl
              have b1 := M5.out.g.hb.cell (i := 1) rfl
              have SS : Sl (Value.int .u8) w5 (some ⟨rg, ro + 5, none⟩) X := by
                intro j x hj
                rw [← HX.out, List.getElem?_take] at hj
                split at hj
                · rw [List.getElem?_drop] at hj
                  obtain ⟨_, c2⟩ := M5.out.g.hr.sl (5 + j) x hj
                  refine ⟨rfl, ?_⟩
                  rw [adr_mk] at c2 ⊢
                  rw [Nat.add_assoc]
                  exact c2
                · cases hj
              have CL := cloneByte_any w5 (some ⟨rg, ro + 5, none⟩) (rc' - 5) X SS (by rw [HXL.out]; omega)
              rw [HXL.out] at CL
              have CLL := Lib.hid CL
              clear CL SS
              go_wp2_with fail
              refine CLL.out.mono ?_
              rintro e w6 ⟨cv, rfl, hcv, hb⟩
              obtain ⟨g, sp, cc, rfl, hg, hbk⟩ := hcv.pos (by intro e; have := HXL.out; rw [e] at this; simp at this; omega)
              have SX := Lib.hid hbk.sub
              have BQ := Lib.hid hb
              clear hcv hbk hb CLL
              have hw56 := BQ.out.size
              have hcw := M5.out.u.size
              have VL : Hid (Vw RwB.val 22 (w6.alloc (.cells #[.slice (some ⟨g, 0, none⟩) X.length cc] 22)) wc.heap.size (.slice la rs.length lc) rs) := (M5.out.rows.vw.below BQ.out).below ((Below.refl _ _).alloc (Nat.le_refl _) _)
              go_upto_region 19 with (at_builtin; refine wpList_append_vw rfl _ _ 31 rfl wc.heap.size 22 i1 _ 24 Tryz.underlying31 JI.out JZ0.out JZ1.out JZ2.out rfl RwB.val (fun _ => rfl) (.slice la rs.length lc) rs rfl VL.out (some ⟨w6.heap.size, 0, none⟩) 1 [⟨some ⟨g, 0, none⟩, cc, X⟩] rfl (one_genB rfl) ?c1 ?c2 ?c3 ?_)
              case c1 => unfold maxLen; simp only [List.length_singleton]; omega
              case c2 => simp only [List.length_singleton]; omega
              case c3 => simp; omega
              intro v' w7 g1 g2 g3
              have M7 := Lib.hid (M5.out.row (x := ⟨some ⟨g, 0, none⟩, cc, X⟩) BQ.out SX.out (by intro e; have := HXL.out; rw [show X = [] from e] at this; simp at this; omega) hg ((Below.refl _ _).alloc (Nat.le_refl _) _) g1 g2 (by rw [World.size_alloc]; exact g3))
              clear g1 g2 g3 VL hg
              go_upto_region 19 with (fail)
              have g0 := M7.out.hgc.cell (i := 0) rfl
              have b0 := M7.out.g.hb.cell (i := 0) rfl
              have f0 := M7.out.g.hb.free 0
              have hA := HAe.out
              have hv7 := M7.out.g.hr.drop (k := 5 + Ln) hrl2
              rw [CV.out] at hv7
              have M8 := Lib.hid (M7.out.cell (i := 0) (v := .slice A' (r.length - (5 + Ln)) (rc' - (5 + Ln))) (r' := r.drop (5 + Ln)) (last' := last) rfl hv7 (fun k hk => by
                rw [← CV.out] at hk
                exact cutV_block (fun e => by cases e) hk))
              clear hv7
              go_region
              clear g0 b0 f0 hA
              obtain ⟨w8, hw8⟩ : ∃ w8, w7.setCell ⟨b, 0, none⟩ (.slice A' (r.length - (5 + Ln)) (rc' - (5 + Ln))) = w8 := ⟨_, rfl⟩
              rw [hw8] at M8 ⊢
              clear hw8
              have g0 := M8.out.hgc.cell (i := 0) rfl
              have b1 := M8.out.g.hb.cell (i := 1) rfl
              have f1 := M8.out.g.hb.free 1
              have M9 := Lib.hid (M8.out.cell (i := 1) (v := .int .i64 N) (rv' := .slice A' (r.length - (5 + Ln)) (rc' - (5 + Ln))) (r' := r.drop (5 + Ln)) (last' := N) rfl M8.out.g.hr (fun k hk => hk))
              have hdl : (r.drop (5 + Ln)).length = r.length - (5 + Ln) := by rw [List.length_drop]
              go_wp2_with fail
              all_goals
                go_roundg (r.length - (5 + Ln))
                case measure => omega
                case rel =>
                  refine ⟨_, r.drop (5 + Ln), N, _, M9.out.below (Qt.refl _).drew.bel, IB.out.drop _, by omega, fun k hk => HO.out k ?_, by omega, hN3.2, by omega, by simp; omega, by omega, FN3.out.trans (by simp)⟩
                  rw [← CV.out] at hk
                  exact cutV_block (fun e => by cases e) hk
        · have n5 : decide (5 ≤ r.length) = false := by simp; omega
          have hN : numOf r last = last + 1 := by unfold numOf; rw [if_neg h5]
          cases hbad : badB r last with
          | true =>
            have FN2 : Hid (fin = ⟨rs.map RwB.d, [], last, true⟩) := by
              show _ = _
              rw [FN.out, gate_bad h2 hbad, List.append_nil]
            have hc : len2 r < 1 ∨ (1 ≤ len2 r ∧ 1000 < len2 r) := by
              unfold badB at hbad
              rw [hN] at hbad
              simp only [Bool.or_eq_true, decide_eq_true_eq] at hbad
              omega
            clear hbad hN FN N3 IB L2
            have b2 := MQ.out.g.hb.cell (i := 2) rfl
            have gn := MQ.out.gl.2
            have PB := Lib.hid (push_bad U0.out MQ.out FN2.out)
            generalize len2 r = L at *
            rcases hc with hc | ⟨hc0, hc⟩
            all_goals
              go_wp2_with fail
              go_ret2
              exact PB.out
          | false =>
            have hc : 1 ≤ len2 r ∧ len2 r ≤ 1000 := by
              unfold badB at hbad
              simp only [Bool.or_eq_false_iff, decide_eq_false_iff_not] at hbad
              omega
            obtain ⟨hc0, hc1⟩ := hc
            have hsh : shortB r = true := by unfold shortB; simp; omega
            have FN2 : Hid (fin = ⟨rs.map RwB.d, r, last, false⟩) := by
              show _ = _
              rw [FN.out, gate_short h2 hbad hsh, List.append_nil]
            have hrl2 : (r.length : Int) < 5 + len2 r := by omega
            clear hbad hN FN N3 IB L2 hsh
            generalize len2 r = L at *
            go_wp2_with fail
            go_ret2
            exact push_end U0.out MQ.out FN2.out HO.out
end Go.Proofs.YtkaaoomliepijaaGreat
namespace Go.Proofs.YtkaaoomliepijaaGreat
open Go.RowKit
set_option linter.unusedVariables false

set_option maxHeartbeats 1000000 in
theorem newGate_ok (w : World) : Calls Tryz.prog 19 #[] w fun e w' => e = .returned (.pointer (some ⟨w.heap.size, 0, none⟩)) ∧ GateAt w' w.heap.size w.heap.size (.slice none 0 0) [] (-1) false ∧ Below w.heap.size w w' := by
  have HN : Hid (GateAt (w.alloc (.cells #[.slice none 0 0, .int .i64 (-1), .bool false] 102)) w.heap.size w.heap.size (.slice none 0 0) [] (-1) false) :=
    ⟨Blk.new w _ [.slice none 0 0, .int .i64 (-1), .bool false], Vw.nil _ _ _ _, (fun e => by cases e), Nat.le_refl _⟩
  go_enter Tryz.func19, Tryz.ntmps19
  go_wp2
  go_ret
  exact ⟨rfl, HN.out, (Below.refl _ _).alloc (Nat.le_refl _) _⟩
/-- Rows that are read: a slice of data. -/
def RdB (w : World) (a : Option Addr) (rs : List RwB) : Prop := Sl RwB.val w a rs ∧ ∀ r ∈ rs, Sl (Value.int .u8) w r.a r.d
theorem RdB.below {w w' : World} {a : Option Addr} {rs : List RwB} (h : RdB w a rs) (q : Below w.heap.size w w') : RdB w' a rs := ⟨h.1.below q, fun r hr => (h.2 r hr).below q⟩
theorem conv_str (w : World) (a : Option Addr) (c : Nat) (d : List Int) (hne : d ≠ []) (h : Sl (Value.int .u8) w a d) : (convert 22 9 (.slice a d.length c)).run Tryz.prog w = .ok (.string (strOfNums d)) w := by
  cases d with
  | nil => exact absurd rfl hne
  | cons y l =>
    obtain ⟨h0, _⟩ := h 0 y rfl
    cases a with
    | none => simp [okAd] at h0
    | some x =>
      obtain ⟨b, o, sp⟩ := x
      simp [okAd] at h0
      subst h0
      refine run_convert_bytes_arg (P := Tryz.prog) (w := w) 22 5 Tryz.underlying22 Tryz.underlying5 b o _ c (y :: l) rfl (fun i hi => ?_) 9 Tryz.underlying9
      have hx : (y :: l)[i]? = some ((y :: l)[i]) := List.getElem?_eq_getElem hi
      have := (h i _ hx).2
      rw [adr_mk] at this
      rw [this]
      simp [List.getD, hx]
def SameRel (n : Nat) (w : World) (i : Value) (wr : World) : Prop := ∃ k : Nat, k ≤ n ∧ i = .int .i64 k ∧ Qt w wr
theorem same_get {rs ts : List RwB} (h : rs.map RwB.d = ts.map RwB.d) {k : Nat} (hk : k < rs.length) : ∃ r t, Hid (rs[k]? = some r) ∧ Hid (ts[k]? = some t) ∧ r.d = t.d := by
  have hl : rs.length = ts.length := by simpa using congrArg List.length h
  have h1 : rs[k]? = some rs[k] := List.getElem?_eq_getElem hk
  have h2 : ts[k]? = some (ts[k]'(by omega)) := List.getElem?_eq_getElem (by omega)
  refine ⟨_, _, h1, h2, ?_⟩
  have := congrArg (fun l => l[k]?) h
  simpa [List.getElem?_map, h1, h2] using this
end Go.Proofs.YtkaaoomliepijaaGreat
