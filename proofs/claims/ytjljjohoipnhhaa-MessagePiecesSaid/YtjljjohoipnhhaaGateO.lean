/-
  A gate, and the list of what came out of it.
-/
import Derived.Test.YtjljjohoipnhhaaGateD
namespace Go.Proofs.Ytjljjohoipnhhaa
open Go.RowKit
set_option linter.unusedVariables false

/-- The gate at gb and the list y; wC is the world where the loop began, C a bound: all that came since lies from C on. -/
structure OutM (wC : World) (C base gb : Nat) (rv : Value) (rest : List Int) (last : Int) (br : Bool) (yv : Value) (yrs : List RwB) (w : World) : Prop where
  g : GateAt w base gb rv rest last br
  go : ∀ k, rv.ownBlock = some k → C ≤ k
  yl : Vw RwB.val 22 w C yv yrs
  yr : ∀ r ∈ yrs, Sl (Value.int .u8) w r.a r.d ∧ r.d ≠ [] ∧ C ≤ r.blk
  d1 : ∀ k, yv.ownBlock = some k → rv.ownBlock ≠ some k
  d2 : ∀ r ∈ yrs, rv.ownBlock ≠ some r.blk ∧ yv.ownBlock ≠ some r.blk
  u : Upd (fun k => k = gb ∨ C ≤ k) wC w
  gC : gb < C
section
variable {wC w w' w1 : World} {C base gb B : Nat} {rv rv' yv yv' lv : Value} {rest rest' : List Int} {last last' : Int} {br br' : Bool} {yrs zs : List RwB}
theorem OutM.below (h : OutM wC C base gb rv rest last br yv yrs w) (q : Below w.heap.size w w') : OutM wC C base gb rv rest last br yv yrs w' :=
  ⟨h.g.below q, h.go, h.yl.below q, fun r hr => ⟨(h.yr r hr).1.below q, (h.yr r hr).2⟩, h.d1, h.d2, Upd.then h.u (Upd.of_below (S := fun k => k = gb ∨ C ≤ k) q) (fun _ _ h => h), h.gC⟩
theorem OutM.old (h : OutM wC C base gb rv rest last br yv yrs w) {r : RwB} (hr : r ∈ yrs) : r.blk < w.heap.size := (h.yr r hr).1.old (h.yr r hr).2.1
/-- The gate has taken bytes. -/
theorem OutM.push (h : OutM wC C base gb rv rest last br yv yrs w) (hC : C ≤ w.heap.size) (hg : GateAt w' base gb rv' rest' last' br') (ho : ∀ k, rv'.ownBlock = some k → rv.ownBlock = some k ∨ w.heap.size ≤ k) (u : Upd (gateS gb rv) w w') :
    OutM wC C base gb rv' rest' last' br' yv yrs w' := by
  have hS : ∀ k, gateS gb rv k → k = gb ∨ C ≤ k := fun k hk => hk.imp id (h.go k)
  have hyl : ∀ k, yv.ownBlock = some k → ¬ gateS gb rv k := by
    rintro k hk (e | e)
    · have := (h.yl.lt hk).1; have := h.gC; omega
    · exact h.d1 k hk e
  have hyr : ∀ r ∈ yrs, ¬ gateS gb rv r.blk := by
    rintro r hr (e | e)
    · have := (h.yr r hr).2.2; have := h.gC; omega
    · exact (h.d2 r hr).1 e
  refine ⟨hg, fun k hk => ?_, h.yl.upd u hyl, fun r hr => ⟨(h.yr r hr).1.upd u fun _ => hyr r hr, (h.yr r hr).2⟩, fun k hk e => ?_, fun r hr => ⟨fun e => ?_, (h.d2 r hr).2⟩, h.u.trans (u.mono fun k _ hk => hS k hk), h.gC⟩
  · rcases ho k hk with e | e
    · exact h.go k e
    · omega
  · rcases ho k e with e | e
    · exact h.d1 k hk e
    · have := (h.yl.lt hk).2; omega
  · rcases ho _ e with e | e
    · exact (h.d2 r hr).1 e
    · have := h.old hr; omega
/-- What came out is added to the list. -/
theorem OutM.app (h : OutM wC C base gb rv rest last br yv yrs w) (hz : RowsAt w B lv zs) (hB : C ≤ B) (hrv : ∀ k, rv.ownBlock = some k → k < B) (hy1 : ∀ k, yv.ownBlock = some k → k < B) (hy2 : ∀ r ∈ yrs, r.blk < B)
    (hv : Vw RwB.val 22 w' C yv' (yrs ++ zs)) (u : Upd (fun k => yv.ownBlock = some k) w w') (ho : yv'.ownBlock = yv.ownBlock ∨ ∀ g, yv'.ownBlock = some g → w.heap.size ≤ g) : OutM wC C base gb rv rest last br yv' (yrs ++ zs) w' := by
  have hS : ∀ k, yv.ownBlock = some k → k = gb ∨ C ≤ k := fun k hk => .inr (h.yl.lt hk).1
  have hzl : ∀ r ∈ zs, r.blk < w.heap.size := fun r hr => hz.old hr
  refine ⟨h.g.upd u (fun e => by have := (h.yl.lt e).1; have := h.gC; omega) (fun k hk e => h.d1 k e hk), h.go, hv, ?_, fun k hk e => ?_, ?_, h.u.trans (u.mono fun k _ hk => hS k hk), h.gC⟩
  · intro r hr
    rcases List.mem_append.1 hr with hr | hr
    · exact ⟨(h.yr r hr).1.upd u fun _ e => (h.d2 r hr).2 e, (h.yr r hr).2⟩
    · exact ⟨(hz.rd r hr).1.upd u fun _ e => by have := hy1 _ e; have := (hz.rd r hr).2.2; unfold RwB.blk at this; omega, (hz.rd r hr).2.1, by have := (hz.rd r hr).2.2; omega⟩
  · rcases ho with e2 | e2
    · exact h.d1 k (by rw [← e2]; exact hk) e
    · have := e2 k hk; have := (h.g.hr.lt e).2; omega
  · intro r hr
    have hrl : r.blk < w.heap.size := by
      rcases List.mem_append.1 hr with hr | hr
      · exact h.old hr
      · exact hzl r hr
    have a1 : rv.ownBlock ≠ some r.blk := by
      rcases List.mem_append.1 hr with hr | hr
      · exact (h.d2 r hr).1
      · intro e; have := hrv _ e; have := (hz.rd r hr).2.2; omega
    refine ⟨a1, ?_⟩
    rcases ho with e2 | e2
    · rw [e2]
      rcases List.mem_append.1 hr with hr | hr
      · exact (h.d2 r hr).2
      · intro e; have := hy1 _ e; have := (hz.rd r hr).2.2; omega
    · intro e; have := e2 _ e; omega
/-- Nothing came out yet. -/
theorem OutM.start (hg : GateAt w base gb rv rest last br) (hrv : ∀ k, rv.ownBlock = some k → C ≤ k) (hC : gb < C) : OutM w C base gb rv rest last br (.slice none 0 0) [] w :=
  ⟨hg, hrv, Vw.nil _ _ _ _, (fun r hr => by cases hr), (fun k hk => by cases hk), (fun r hr => by cases hr), Upd.refl _ _, hC⟩
theorem OutM.rd {a : Option Addr} {n c : Nat} (h : OutM wC C base gb rv rest last br (.slice a n c) yrs w) : RdB w a yrs := ⟨h.yl.sl, fun r hr => (h.yr r hr).1⟩
end
theorem gateF_inv : ∀ (n : Nat) (r : List Int) (l : Int), IsB r → -1 ≤ l → l ≤ 16777215 → IsB (gateF n r l).rest ∧ (gateF n r l).rest.length ≤ r.length ∧ -1 ≤ (gateF n r l).last ∧ (gateF n r l).last ≤ 16777215 ∧ (gateF n r l).out.length ≤ r.length
  | 0, r, l, h, h1, h2 => ⟨h, Nat.le_refl _, h1, h2, by simp [gateF]⟩
  | n + 1, r, l, h, h1, h2 => by
    rw [gateF_succ]
    split
    · exact ⟨h, Nat.le_refl _, h1, h2, by simp⟩
    · split
      · exact ⟨(fun y hy => by cases hy), by simp, h1, h2, by simp⟩
      · split
        · exact ⟨h, Nat.le_refl _, h1, h2, by simp⟩
        · rename_i h3 h4 h5
          have hb := numF_bd h 2
          rw [numF_num3] at hb
          obtain ⟨i1, i2, i3, i4, i5⟩ := gateF_inv n (r.drop (5 + (len2 r).toNat)) (num3 r) (h.drop _) (by omega) hb.2.2.2.2.2.2.2
          rw [List.length_drop] at i2 i5
          refine ⟨i1, ?_, i3, i4, ?_⟩
          · show (gateF n (r.drop (5 + (len2 r).toNat)) (num3 r)).rest.length ≤ r.length
            omega
          · show ((r.drop 5).take (len2 r).toNat :: (gateF n (r.drop (5 + (len2 r).toNat)) (num3 r)).out).length ≤ r.length
            rw [List.length_cons]
            omega
theorem gate_inv (r : List Int) (l : Int) (h : IsB r) (h1 : -1 ≤ l) (h2 : l ≤ 16777215) : IsB (gate r l).rest ∧ (gate r l).rest.length ≤ r.length ∧ -1 ≤ (gate r l).last ∧ (gate r l).last ≤ 16777215 ∧ (gate r l).out.length ≤ r.length := gateF_inv _ r l h h1 h2
/-- What Push leaves, if the gate has not broken. -/
theorem puPost_ok {w : World} {base b : Nat} {rv0 : Value} {fin : GS} {e : Ending} {w' : World} (h : PuPost w base b rv0 fin e w') (hb : fin.bad = false) :
    ∃ (lv : Value) (rs : List RwB) (rv : Value) (B : Nat), e = .returned (.tuple #[lv, .int .i64 0]) ∧ rs.map RwB.d = fin.out ∧ w.heap.size ≤ B ∧ RowsAt w' B lv rs ∧
      GateAt w' base b rv fin.rest fin.last false ∧ (∀ k, rv.ownBlock = some k → k < B ∧ (rv0.ownBlock = some k ∨ w.heap.size ≤ k)) ∧ Upd (gateS b rv0) w w' := by
  obtain ⟨lv, rs, rv, B, h1, h2, h3, h4, h5, h6, h7⟩ := h
  rw [hb] at h1 h5
  exact ⟨lv, rs, rv, B, h1, h2, h3, h4, h5, h6, h7⟩
end Go.Proofs.Ytjljjohoipnhhaa
