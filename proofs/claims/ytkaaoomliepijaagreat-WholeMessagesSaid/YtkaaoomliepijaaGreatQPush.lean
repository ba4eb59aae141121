/-
  A gate, and the list of what came out of it.
  MessagePieces: the walk.
-/
import Derived.Test.YtkaaoomliepijaaGreatQGateD
import Derived.Test.YtkaaoomliepijaaGreatQArrP
import Derived.Test.YtkaaoomliepijaaGreatQBoxM
import Derived.Test.YtkaaoomliepijaaGreatQOpen
namespace Go.Proofs.YtkaaoomliepijaaGreat
open Go.RowKit
set_option linter.unusedVariables false

/-- The gate at gb and the list y; wC is the world where the loop began, C a bound: all that came since lies from C on. -/
structure OutM (wC : World) (C base gb : Nat) (rv : Value) (rest : List Int) (last : Int) (br : Bool) (yv : Value) (yrs : List RwB) (w : World) : Prop where
  g : GateAt w base gb rv rest last br
  go : ∀ k, rv.ownBlock = some k → C ≤ k
  yl : Vw RwB.val 22 w C yv yrs
  yr : ∀ r ∈ yrs, Sl (Value.int .u8) w r.a r.d ∧ r.d ≠ [] ∧ C ≤ r.blk
  d1 : ∀ k, yv.ownBlock = some k → rv.ownBlock ≠ some k
  d2 : ∀ r ∈ yrs, rv.ownBlock ≠ some r.blk ∧ yv.ownBlock ≠ some r.blk
  u : Upd (fun k => k = gb ∨ C ≤ k) wC w
  gC : gb < C
section
variable {wC w w' w1 : World} {C base gb B : Nat} {rv rv' yv yv' lv : Value} {rest rest' : List Int} {last last' : Int} {br br' : Bool} {yrs zs : List RwB}
theorem OutM.below (h : OutM wC C base gb rv rest last br yv yrs w) (q : Below w.heap.size w w') : OutM wC C base gb rv rest last br yv yrs w' :=
  ⟨h.g.below q, h.go, h.yl.below q, fun r hr => ⟨(h.yr r hr).1.below q, (h.yr r hr).2⟩, h.d1, h.d2, Upd.then h.u (Upd.of_below (S := fun k => k = gb ∨ C ≤ k) q) (fun _ _ h => h), h.gC⟩
theorem OutM.old (h : OutM wC C base gb rv rest last br yv yrs w) {r : RwB} (hr : r ∈ yrs) : r.blk < w.heap.size := (h.yr r hr).1.old (h.yr r hr).2.1
/-- The gate has taken bytes. -/
theorem OutM.push (h : OutM wC C base gb rv rest last br yv yrs w) (hC : C ≤ w.heap.size) (hg : GateAt w' base gb rv' rest' last' br') (ho : ∀ k, rv'.ownBlock = some k → rv.ownBlock = some k ∨ w.heap.size ≤ k) (u : Upd (gateS gb rv) w w') :
    OutM wC C base gb rv' rest' last' br' yv yrs w' := by
  have hS : ∀ k, gateS gb rv k → k = gb ∨ C ≤ k := fun k hk => hk.imp id (h.go k)
  have hyl : ∀ k, yv.ownBlock = some k → ¬ gateS gb rv k := by
    rintro k hk (e | e)
    · have := (h.yl.lt hk).1; have := h.gC; omega
    · exact h.d1 k hk e
  have hyr : ∀ r ∈ yrs, ¬ gateS gb rv r.blk := by
    rintro r hr (e | e)
    · have := (h.yr r hr).2.2; have := h.gC; omega
    · exact (h.d2 r hr).1 e
  refine ⟨hg, fun k hk => ?_, h.yl.upd u hyl, fun r hr => ⟨(h.yr r hr).1.upd u fun _ => hyr r hr, (h.yr r hr).2⟩, fun k hk e => ?_, fun r hr => ⟨fun e => ?_, (h.d2 r hr).2⟩, h.u.trans (u.mono fun k _ hk => hS k hk), h.gC⟩
  · rcases ho k hk with e | e
    · exact h.go k e
    · omega
  · rcases ho k e with e | e
    · exact h.d1 k hk e
    · have := (h.yl.lt hk).2; omega
  · rcases ho _ e with e | e
    · exact (h.d2 r hr).1 e
    · have := h.old hr; omega
/-- What came out is added to the list. -/
theorem OutM.app (h : OutM wC C base gb rv rest last br yv yrs w) (hz : RowsAt w B lv zs) (hB : C ≤ B) (hrv : ∀ k, rv.ownBlock = some k → k < B) (hy1 : ∀ k, yv.ownBlock = some k → k < B) (hy2 : ∀ r ∈ yrs, r.blk < B)
    (hv : Vw RwB.val 22 w' C yv' (yrs ++ zs)) (u : Upd (fun k => yv.ownBlock = some k) w w') (ho : yv'.ownBlock = yv.ownBlock ∨ ∀ g, yv'.ownBlock = some g → w.heap.size ≤ g) : OutM wC C base gb rv rest last br yv' (yrs ++ zs) w' := by
  have hS : ∀ k, yv.ownBlock = some k → k = gb ∨ C ≤ k := fun k hk => .inr (h.yl.lt hk).1
  have hzl : ∀ r ∈ zs, r.blk < w.heap.size := fun r hr => hz.old hr
  refine ⟨h.g.upd u (fun e => by have := (h.yl.lt e).1; have := h.gC; omega) (fun k hk e => h.d1 k e hk), h.go, hv, ?_, fun k hk e => ?_, ?_, h.u.trans (u.mono fun k _ hk => hS k hk), h.gC⟩
  · intro r hr
    rcases List.mem_append.1 hr with hr | hr
    · exact ⟨(h.yr r hr).1.upd u fun _ e => (h.d2 r hr).2 e, (h.yr r hr).2⟩
    · exact ⟨(hz.rd r hr).1.upd u fun _ e => by have := hy1 _ e; have := (hz.rd r hr).2.2; unfold RwB.blk at this; omega, (hz.rd r hr).2.1, by have := (hz.rd r hr).2.2; omega⟩
  · rcases ho with e2 | e2
    · exact h.d1 k (by rw [← e2]; exact hk) e
    · have := e2 k hk; have := (h.g.hr.lt e).2; omega
  · intro r hr
    have hrl : r.blk < w.heap.size := by
      rcases List.mem_append.1 hr with hr | hr
      · exact h.old hr
      · exact hzl r hr
    have a1 : rv.ownBlock ≠ some r.blk := by
      rcases List.mem_append.1 hr with hr | hr
      · exact (h.d2 r hr).1
      · intro e; have := hrv _ e; have := (hz.rd r hr).2.2; omega
    refine ⟨a1, ?_⟩
    rcases ho with e2 | e2
    · rw [e2]
      rcases List.mem_append.1 hr with hr | hr
      · exact (h.d2 r hr).2
      · intro e; have := hy1 _ e; have := (hz.rd r hr).2.2; omega
    · intro e; have := e2 _ e; omega
/-- Nothing came out yet. -/
theorem OutM.start (hg : GateAt w base gb rv rest last br) (hrv : ∀ k, rv.ownBlock = some k → C ≤ k) (hC : gb < C) : OutM w C base gb rv rest last br (.slice none 0 0) [] w :=
  ⟨hg, hrv, Vw.nil _ _ _ _, (fun r hr => by cases hr), (fun k hk => by cases hk), (fun r hr => by cases hr), Upd.refl _ _, hC⟩
theorem OutM.rd {a : Option Addr} {n c : Nat} (h : OutM wC C base gb rv rest last br (.slice a n c) yrs w) : RdB w a yrs := ⟨h.yl.sl, fun r hr => (h.yr r hr).1⟩
end
theorem gateF_inv : ∀ (n : Nat) (r : List Int) (l : Int), IsB r → -1 ≤ l → l ≤ 16777215 → IsB (gateF n r l).rest ∧ (gateF n r l).rest.length ≤ r.length ∧ -1 ≤ (gateF n r l).last ∧ (gateF n r l).last ≤ 16777215 ∧ (gateF n r l).out.length ≤ r.length
  | 0, r, l, h, h1, h2 => ⟨h, Nat.le_refl _, h1, h2, by simp [gateF]⟩
  | n + 1, r, l, h, h1, h2 => by
    rw [gateF_succ]
    split
    · exact ⟨h, Nat.le_refl _, h1, h2, by simp⟩
    · split
      · exact ⟨(fun y hy => by cases hy), by simp, h1, h2, by simp⟩
      · split
        · exact ⟨h, Nat.le_refl _, h1, h2, by simp⟩
        · rename_i h3 h4 h5
          have hb := numF_bd h 2
          rw [numF_num3] at hb
          obtain ⟨i1, i2, i3, i4, i5⟩ := gateF_inv n (r.drop (5 + (len2 r).toNat)) (num3 r) (h.drop _) (by omega) hb.2.2.2.2.2.2.2
          rw [List.length_drop] at i2 i5
          refine ⟨i1, ?_, i3, i4, ?_⟩
          · show (gateF n (r.drop (5 + (len2 r).toNat)) (num3 r)).rest.length ≤ r.length
            omega
          · show ((r.drop 5).take (len2 r).toNat :: (gateF n (r.drop (5 + (len2 r).toNat)) (num3 r)).out).length ≤ r.length
            rw [List.length_cons]
            omega
theorem gate_inv (r : List Int) (l : Int) (h : IsB r) (h1 : -1 ≤ l) (h2 : l ≤ 16777215) : IsB (gate r l).rest ∧ (gate r l).rest.length ≤ r.length ∧ -1 ≤ (gate r l).last ∧ (gate r l).last ≤ 16777215 ∧ (gate r l).out.length ≤ r.length := gateF_inv _ r l h h1 h2
/-- What Push leaves, if the gate has not broken. -/
theorem puPost_ok {w : World} {base b : Nat} {rv0 : Value} {fin : GS} {e : Ending} {w' : World} (h : PuPost w base b rv0 fin e w') (hb : fin.bad = false) :
    ∃ (lv : Value) (rs : List RwB) (rv : Value) (B : Nat), e = .returned (.tuple #[lv, .int .i64 0]) ∧ rs.map RwB.d = fin.out ∧ w.heap.size ≤ B ∧ RowsAt w' B lv rs ∧
      GateAt w' base b rv fin.rest fin.last false ∧ (∀ k, rv.ownBlock = some k → k < B ∧ (rv0.ownBlock = some k ∨ w.heap.size ≤ k)) ∧ Upd (gateS b rv0) w w' := by
  obtain ⟨lv, rs, rv, B, h1, h2, h3, h4, h5, h6, h7⟩ := h
  rw [hb] at h1 h5
  exact ⟨lv, rs, rv, B, h1, h2, h3, h4, h5, h6, h7⟩
end Go.Proofs.YtkaaoomliepijaaGreat
namespace Go.Proofs.YtkaaoomliepijaaGreat
open Go.RowKit
set_option linter.unusedVariables false

theorem pc_some {a : Option Addr} (h : okAd a = true) : ∃ b o, a = some ⟨b, o, none⟩ := by
  match a, h with
  | some ⟨b, o, s⟩, h =>
    simp [okAd] at h
    subst h
    exact ⟨b, o, rfl⟩
theorem pc_take {α : Type} {f : α → Value} {w : World} {a : Option Addr} {xs : List α} (h : Sl f w a xs) (m : Nat) : Sl f w a (xs.take m) := by
  intro j x hj
  rw [List.getElem?_take] at hj
  split at hj
  · exact h j x hj
  · cases hj
theorem pc_drop {α : Type} {f : α → Value} {w : World} {b o : Nat} {xs : List α} (h : Sl f w (some ⟨b, o, none⟩) xs) (m : Nat) : Sl f w (some ⟨b, o + m, none⟩) (xs.drop m) := by
  intro j x hj
  rw [List.getElem?_drop] at hj
  obtain ⟨h1, h2⟩ := h _ x hj
  refine ⟨rfl, ?_⟩
  rw [adr_mk] at h2 ⊢
  rw [Nat.add_assoc]
  exact h2
theorem gate_rest_bad {r : List Int} {l : Int} (h : (gate r l).bad = true) : (gate r l).rest = [] := by
  have := gate_app r [] l
  rw [List.append_nil, if_pos h] at this
  exact congrArg GS.rest this
/-- The piece n of the stream from m on. -/
theorem gate_piece_bad (S : List Int) (m n : Nat) (h : (gate (S.take m) (-1)).bad = true) : gate (S.take (m + n)) (-1) = ⟨(gate (S.take m) (-1)).out, (gate (S.take m) (-1)).rest, (gate (S.take m) (-1)).last, true⟩ := by
  rw [gate_rest_bad h, List.take_add, gate_app, if_pos h]
theorem gate_piece (S : List Int) (m n : Nat) (h : (gate (S.take m) (-1)).bad = false) : gate (S.take (m + n)) (-1) =
    ⟨(gate (S.take m) (-1)).out ++ (pushO (gate (S.take m) (-1)).rest ((S.drop m).take n) (gate (S.take m) (-1)).last).out, (pushO (gate (S.take m) (-1)).rest ((S.drop m).take n) (gate (S.take m) (-1)).last).rest,
      (pushO (gate (S.take m) (-1)).rest ((S.drop m).take n) (gate (S.take m) (-1)).last).last, (pushO (gate (S.take m) (-1)).rest ((S.drop m).take n) (gate (S.take m) (-1)).last).bad⟩ := by
  rw [List.take_add, gate_app, if_neg (by rw [h]; decide)]
  rfl
def pushF (br : Bool) (rest data : List Int) (last : Int) : GS := if br = true then ⟨[], rest, last, true⟩ else pushO rest data last
def errF (br fb : Bool) : Int := if br = true then 6 else if fb = true then 3 else 0
/-- What Push leaves, of whatever gate. -/
def PuAny (w : World) (base b : Nat) (rv0 : Value) (br : Bool) (fin : GS) (e : Ending) (w' : World) : Prop :=
  ∃ (lv : Value) (rs : List RwB) (rv : Value) (B : Nat), e = .returned (.tuple #[lv, .int .i64 (errF br fin.bad)]) ∧ rs.map RwB.d = fin.out ∧ w.heap.size ≤ B ∧ RowsAt w' B lv rs ∧
    GateAt w' base b rv fin.rest fin.last fin.bad ∧ (∀ k, rv.ownBlock = some k → k < B ∧ (rv0.ownBlock = some k ∨ w.heap.size ≤ k)) ∧ Upd (gateS b rv0) w w'
theorem push_any (w : World) (base b : Nat) (rv0 : Value) (r0 : List Int) (last0 : Int) (br : Bool) (h : GateAt w base b rv0 r0 last0 br) (hB : IsB r0) (hr0 : r0.length ≤ 10000000) (hl0 : -1 ≤ last0) (hl1 : last0 ≤ 16777215) (da : Option Addr) (dc : Nat) (data : List Int) (hd : Sl (Value.int .u8) w da data) (hdB : IsB data) (hdl : data.length ≤ 10000000)
    (hda : data ≠ [] → ¬ gateS b rv0 (da.getD default).block) (hbase : base ≤ w.heap.size) :
    Calls Tryz.prog 31 #[.pointer (some ⟨b, 0, none⟩), .slice da data.length dc] w (PuAny w base b rv0 br (pushF br r0 data last0)) := by
  cases br with
  | true =>
    refine (push_broken w base b rv0 r0 last0 h da data.length dc).mono ?_
    rintro e w' ⟨rfl, hb⟩
    exact ⟨.slice none 0 0, [], rv0, w.heap.size, rfl, rfl, Nat.le_refl _, ⟨Vw.nil _ _ _ _, (fun r hr => by cases hr), fun r hr => by cases hr⟩, h.below hb, fun k hk => ⟨(h.hr.lt hk).2, .inl hk⟩, Upd.of_below hb⟩
  | false =>
    refine (push_ok w base b rv0 r0 last0 h hB hr0 hl0 hl1 da dc data hd hdB hdl hda hbase).mono ?_
    rintro e w' ⟨lv, rs, rv, B, h1, h2⟩
    exact ⟨lv, rs, rv, B, h1, h2⟩
/-- One piece more. -/
theorem gate_more (S : List Int) (m n : Nat) : gate (S.take (m + n)) (-1) =
    ⟨(gate (S.take m) (-1)).out ++ (pushF (gate (S.take m) (-1)).bad (gate (S.take m) (-1)).rest ((S.drop m).take n) (gate (S.take m) (-1)).last).out, (pushF (gate (S.take m) (-1)).bad (gate (S.take m) (-1)).rest ((S.drop m).take n) (gate (S.take m) (-1)).last).rest,
      (pushF (gate (S.take m) (-1)).bad (gate (S.take m) (-1)).rest ((S.drop m).take n) (gate (S.take m) (-1)).last).last, (pushF (gate (S.take m) (-1)).bad (gate (S.take m) (-1)).rest ((S.drop m).take n) (gate (S.take m) (-1)).last).bad⟩ := by
  cases h : (gate (S.take m) (-1)).bad with
  | true =>
    rw [gate_piece_bad S m n h]
    simp [pushF]
  | false =>
    rw [gate_piece S m n h]
    rfl
end Go.Proofs.YtkaaoomliepijaaGreat
