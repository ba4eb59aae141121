/-
  stream.Writer: its memory; NewWriter, Write, Ack.
-/
import Derived.Test.YtkaaoomliepijaaGreatQSlices
import Derived.RegionTactic
import Derived.Deep.DeepCutAuto
import Derived.Deep.CutBlock
namespace Go.Proofs.YtkaaoomliepijaaGreat
open Go.RowKit
set_option linter.unusedVariables false

def wrC (kv : Value) (tk ba nx tp idl : Nat) : List Value := [.int .i64 24, .int .i64 3, kv, .int .i64 tk, .int .i64 ba, .int .i64 nx, .int .i64 tp, .int .i64 24, .int .i64 idl, .bool false, .bool false, .bool false, .bool false]
/-- The writer at wb: it keeps the bytes ks. -/
structure WrAt (w : World) (base wb : Nat) (kv : Value) (ks : List Int) (tk ba nx tp idl : Nat) : Prop where
  b : Blk w wb 98 (wrC kv tk ba nx tp idl)
  k : Vw (Value.int .u8) 5 w base kv ks
  ne : kv.ownBlock ≠ some wb
  bb : base ≤ wb
def wrS (wb : Nat) (kv : Value) (k : Nat) : Prop := k = wb ∨ kv.ownBlock = some k
section
variable {w w' w5 : World} {base wb : Nat} {kv v' : Value} {ks ks' : List Int} {tk ba nx tp idl tk' ba' nx' tp' idl' : Nat} {S : Nat → Prop}
theorem WrAt.upd (h : WrAt w base wb kv ks tk ba nx tp idl) (u : Upd S w w') (h1 : ∀ k, wrS wb kv k → ¬ S k) : WrAt w' base wb kv ks tk ba nx tp idl :=
  ⟨h.b.upd u (h1 _ (.inl rfl)), h.k.upd u fun g hg => h1 g (.inr hg), h.ne, h.bb⟩
theorem WrAt.below (h : WrAt w base wb kv ks tk ba nx tp idl) (q : Below w.heap.size w w') : WrAt w' base wb kv ks tk ba nx tp idl := h.upd (S := fun _ => False) (Upd.of_below q) fun _ _ => id
theorem WrAt.lt (h : WrAt w base wb kv ks tk ba nx tp idl) {k : Nat} (hk : wrS wb kv k) : base ≤ k ∧ k < w.heap.size := by
  rcases hk with rfl | hk
  · exact ⟨h.bb, h.b.lt⟩
  · exact h.k.lt hk
/-- A number changes. -/
theorem WrAt.num (h : WrAt w base wb kv ks tk ba nx tp idl) (i : Nat) (x : Value) (e : (wrC kv tk ba nx tp idl).set i x = wrC kv tk' ba' nx' tp' idl') : WrAt (w.setCell ⟨wb, i, none⟩ x) base wb kv ks tk' ba' nx' tp' idl' := by
  refine ⟨?_, h.k.upd ((Upd.refl (fun k => k = wb) w).setCell ⟨wb, i, none⟩ x fun _ => rfl) (fun g hg e => h.ne (e ▸ hg)), h.ne, h.bb⟩
  rw [← e]
  exact h.b.set i x
/-- What is kept changes. -/
theorem WrAt.store (h : WrAt w base wb kv ks tk ba nx tp idl) (g1 : Vw (Value.int .u8) 5 w5 base v' ks') (g2 : Upd (fun k => kv.ownBlock = some k) w w5) (g3 : v'.ownBlock = kv.ownBlock ∨ ∀ g, v'.ownBlock = some g → w.heap.size ≤ g) :
    Blk w5 wb 98 (wrC kv tk ba nx tp idl) ∧ WrAt (w5.setCell ⟨wb, 2, none⟩ v') base wb v' ks' tk ba nx tp idl ∧ Upd (wrS wb kv) w (w5.setCell ⟨wb, 2, none⟩ v') ∧ (v'.ownBlock = kv.ownBlock ∨ ∀ g, v'.ownBlock = some g → w.heap.size ≤ g) := by
  have hb := h.b.upd g2 h.ne
  have hne : v'.ownBlock ≠ some wb := by
    intro e
    rcases g3 with g | g
    · exact h.ne (g ▸ e)
    · have := g _ e; have := h.b.lt; omega
  refine ⟨hb, ⟨hb.set 2 v', g1.upd ((Upd.refl (fun k => k = wb) w5).setCell ⟨wb, 2, none⟩ v' fun _ => rfl) (fun g hg e => hne (e ▸ hg)), hne, h.bb⟩, (g2.mono fun k _ hk => .inr hk).setCell _ _ fun _ => .inl rfl, g3⟩
end
theorem sh_vw {w : World} {base : Nat} {v : Value} {xs : List Int} (h : Vw (Value.int .u8) 5 w base v xs) : ∃ a m c, v = .slice a m c := by
  obtain ⟨a, c, e⟩ := h.shape
  exact ⟨a, _, c, e⟩
set_option maxHeartbeats 1000000 in
set_option maxRecDepth 100000 in
theorem newWriter_ok (w : World) : Calls Tryz.prog 17 #[.int .i64 24, .int .i64 3] w fun e w' => e = .returned (.tuple #[.pointer (some ⟨w.heap.size, 0, none⟩), .int .i64 0]) ∧ WrAt w' w.heap.size w.heap.size (.slice none 0 0) [] 0 0 0 0 0 ∧ Below w.heap.size w w' := by
  go_enter Tryz.func17, Tryz.ntmps17
  go_wp2_with fail
  go_ret2
  exact ⟨rfl, ⟨Blk.new w 98 (wrC (.slice none 0 0) 0 0 0 0 0), Vw.nil _ _ _ _, (fun e => by cases e), Nat.le_refl _⟩, (Below.refl _ _).alloc (Nat.le_refl _) _⟩
def WritePost (w : World) (base wb : Nat) (kv : Value) (ks data : List Int) (tk ba nx tp idl n : Nat) (e : Ending) (w' : World) : Prop :=
  e = .returned (.tuple #[.int .i64 n, .int .i64 0]) ∧ ∃ kv', WrAt w' base wb kv' (ks ++ data.take n) (tk + n) ba nx tp idl ∧ Upd (wrS wb kv) w w' ∧ (kv'.ownBlock = kv.ownBlock ∨ ∀ g, kv'.ownBlock = some g → w.heap.size ≤ g)
theorem Sl.pre {α : Type} {f : α → Value} {w : World} {a : Option Addr} {xs : List α} (h : Sl f w a xs) (n : Nat) : Sl f w a (xs.take n) := fun j x hj => by
  rw [List.getElem?_take] at hj
  split at hj
  · exact h j x hj
  · cases hj
set_option maxHeartbeats 8000000 in
set_option maxRecDepth 100000 in
theorem write_any (w : World) (base wb : Nat) (kv : Value) (ks : List Int) (tk ba nx tp idl : Nat) (h : WrAt w base wb kv ks tk ba nx tp idl) (hb1 : ba ≤ tk) (hb2 : tk ≤ ba + 24) (htk : tk ≤ 100000) (hks : ks.length ≤ 24)
    (bd : Nat) (dv : Value) (data : List Int) (hd : Vw (Value.int .u8) 5 w bd dv data) (hdl : data.length ≤ 100000) (hbase : base ≤ w.heap.size) :
    Calls Tryz.prog 25 #[.pointer (some ⟨wb, 0, none⟩), dv] w (WritePost w base wb kv ks data tk ba nx tp idl (min data.length (24 - (tk - ba)))) := by
  obtain ⟨n, hn⟩ : ∃ n, n = min data.length (24 - (tk - ba)) := ⟨_, rfl⟩
  rw [← hn]
  obtain ⟨da, dc, rfl⟩ := hd.shape
  have hsl := hd.sl
  have hdc : data.length ≤ dc ∧ dc ≤ maxLen ∧ (da = none → dc = 0 ∧ data = []) ∧ (∀ a, da = some a → ∃ b o, a = ⟨b, o, none⟩) := by
    rcases hd with ⟨e, rfl⟩ | ⟨g, o, c, e, h1, h2, h3, h4, h5⟩
    · cases e; exact ⟨Nat.le_refl _, Nat.zero_le _, fun _ => ⟨rfl, rfl⟩, fun a e => by cases e⟩
    · cases e; exact ⟨h3, h4, (fun e => by cases e), fun a e => by cases e; exact ⟨_, _, rfl⟩⟩
  obtain ⟨dc1, dc2, dc3, dc4⟩ := hdc
  obtain ⟨a, c, rfl⟩ := h.k.shape
  have H := Lib.hid h
  have SD := Lib.hid (hsl.pre n)
  have hdn : (data.take n).length = n := by rw [List.length_take]; omega
  have HDN := Lib.hid hdn
  obtain ⟨i0, hi, hz0, hz1, hz2⟩ := info_parts Tryz.infoByte
  have HI := Lib.hid hi; have HZ0 := Lib.hid hz0; have HZ1 := Lib.hid hz1; have HZ2 := Lib.hid hz2
  have c0 := h.b.cell (i := 0) rfl
  have c2 := h.b.cell (i := 2) rfl
  have c3 := h.b.cell (i := 3) rfl
  have c4 := h.b.cell (i := 4) rfl
  have c9 := h.b.cell (i := 9) rfl
  have bz := h.b.lt
  generalize hdt : data.take n = dt at *
  generalize hks2 : ks.length = kl at *
  have hmin : min (data.length : Int) (min (24 - ((tk : Int) - (ba : Int))) (1048576 - (tk : Int))) = (n : Int) := by omega
  generalize data.length = dl at *
  have hn1 : n ≤ dl ∧ n ≤ 24 := by omega
  have HN := Lib.hid hn
  clear hn
  replace hdt := Lib.hid hdt
  replace hks2 := Lib.hid hks2
  clear hi hz0 hz1 hz2 h hd hsl hdn
  go_enter Tryz.func25, Tryz.ntmps25
  go_upto_region 5 with (fail)
  go_cut [6] (fun v wx => v = .int .i64 n ∧ Qt w wx)
  case first =>
    go_quiet (fail)
    all_goals (try go_wp2_with fail)
    all_goals go_meet
    all_goals exact ⟨by have := HN.out; congr 1; omega, (Qt.refl _).drewN _⟩
  case rest =>
    obtain ⟨rfl, Q⟩ := hcut
    have T := Lib.hid (H.out.below Q.bel)
    have SE := Lib.hid (SD.out.below Q.bel)
    have UQ := Lib.hid (Upd.of_below (S := wrS wb (.slice a kl c)) Q.bel)
    have hz := Q.bel.size
    clear c0 c2 c3 c4 c9 SD H Q
    have c2 := T.out.b.cell (i := 2) rfl
    have bz := T.out.b.lt
    have hcs : (da = none ∧ dl = 0 ∧ dc = 0 ∧ n = 0) ∨ ∃ gb o, da = some ⟨gb, o, none⟩ := by
      cases da with
      | none =>
        obtain ⟨e1, e2⟩ := dc3 rfl
        exact .inl ⟨rfl, by omega, e1, by omega⟩
      | some ad =>
        obtain ⟨b, o, e⟩ := dc4 ad rfl
        exact .inr ⟨b, o, by rw [e]⟩
    clear dc3 dc4 hmin
    have q0 : (0 : Int) ≤ (n : Int) := by omega
    have q1 : (n : Int) ≤ (dc : Int) := by omega
    rcases hcs with ⟨rfl, rfl, rfl, rfl⟩ | ⟨gb, o, rfl⟩
    all_goals go_wp2_with fail
    all_goals go_region_law (first | (refine step_append_vw (by rfl) _ _ 22 (by rfl) base 5 i0 _ 1 Tryz.underlying22 HI.out HZ0.out HZ1.out HZ2.out rfl (Value.int .u8) (fun _ => rfl) (.slice a kl c) ks (by first | rfl | (rw [hks2.out]; rfl)) (T.out.k.upd (S := fun _ => False) (w' := wc.drew) (Upd.of_below (Qt.refl _).drew.bel) (fun _ _ => id)) _ _ dt (by first | rfl | (rw [HDN.out]; rfl)) (SE.out.below (Qt.refl _).drew.bel) (by have := hks2.out; have := HDN.out; unfold maxLen; omega) (by have := hks2.out; have := HDN.out; omega) (by simp; omega) ?_; intro v' w5 g1 g2 g3; obtain ⟨a', m', c', rfl⟩ := sh_vw g1; have X := Lib.hid (T.out.store g1 (Upd.then (Upd.of_below (Qt.refl wc).drew.bel) g2 (fun _ _ h => h)) (g3.imp id fun h g hg => h g hg)); clear g1 g2 g3 c2; have y1 := X.out.1.cell (i := 2) rfl; have y2 := X.out.1.free 2))
    all_goals
      have X1 := X.out.2.1
      have z3 := X1.b.cell (i := 3) rfl
      have zf := X1.b.free 3
      replace X1 := Lib.hid X1
      clear y1 y2
      go_wp2_with fail
      go_ret2
      refine ⟨rfl, _, by rw [hdt.out]; exact X1.out.num 3 _ rfl, (Upd.then UQ.out (X.out.2.2.1.setCell _ _ (fun _ => .inl rfl)) (fun _ _ h => h)), X.out.2.2.2.imp id fun h g hg => Nat.le_trans hz (h g hg)⟩
set_option maxHeartbeats 8000000 in
set_option maxRecDepth 100000 in
theorem ack_any (w : World) (base wb : Nat) (kv : Value) (ks : List Int) (tk ba nx tp idl rd : Nat) (h : WrAt w base wb kv ks tk ba nx tp idl) (h1 : ba ≤ rd) (h2 : rd ≤ tp) (h3 : ba ≤ nx) (h4 : nx ≤ 100000) (h5 : rd ≤ tk) (hks : ks.length = tk - ba) (htk : tk ≤ 100000) (htp : tp ≤ 100000) :
    Calls Tryz.prog 32 #[.pointer (some ⟨wb, 0, none⟩), .int .i64 rd, .int .i64 24, .bool false] w fun e w' => e = .returned (.int .i64 0) ∧
      ∃ kv', WrAt w' base wb kv' (ks.drop (rd - ba)) tk rd (if ba < rd then max nx rd else nx) tp (if ba < rd then 0 else idl) ∧ Upd (fun k => k = wb) w w' ∧ ∀ g, kv'.ownBlock = some g → kv.ownBlock = some g := by
  obtain ⟨kk, rfl⟩ : ∃ kk, rd = ba + kk := ⟨rd - ba, by omega⟩
  rw [show ba + kk - ba = kk by omega]
  obtain ⟨a, c, rfl⟩ := h.k.shape
  have hsh : ks ≠ [] → ∃ g o, a = some ⟨g, o, none⟩ ∧ ks.length ≤ c ∧ c ≤ maxLen := fun hne => by
    rcases h.k with ⟨_, rfl⟩ | ⟨g, o, c', e, h1, h2, h3, h4, h5⟩
    · exact absurd rfl hne
    · cases e; exact ⟨g, o, rfl, h3, h4⟩
  have DR := Lib.hid (h.k.drop (k := kk) (by omega))
  generalize hkl : ks.length = kl at *
  have HKL := Lib.hid hkl
  have H := Lib.hid h
  have c2 := h.b.cell (i := 2) rfl
  have c4 := h.b.cell (i := 4) rfl
  have c5 := h.b.cell (i := 5) rfl
  have c6 := h.b.cell (i := 6) rfl
  have c7 := h.b.cell (i := 7) rfl
  have c12 := h.b.cell (i := 12) rfl
  have bz := h.b.lt
  have bf := h.b.free
  have k1 : ¬ (tp : Int) < (ba : Int) + (kk : Int) := by omega
  have hkk : kk ≤ kl := by omega
  clear hkl hks h2 h5
  by_cases hlt : ba < ba + kk
  · have hkp : 0 < kk := by omega
    have hne : ks ≠ [] := fun e => by have := HKL.out; rw [e] at this; simp at this; omega
    obtain ⟨g, o, rfl, hc1, hc2⟩ := hsh hne
    unfold maxLen at hc2
    have k2 : ¬ (ba : Int) + (kk : Int) < (ba : Int) := by omega
    have k0 : ¬ (ba : Int) + (kk : Int) < 0 := by omega
    have k3 : ¬ (ba : Int) + (kk : Int) = (ba : Int) := by omega
    have k4 : (kk : Int) ≤ (kl : Int) := by omega
    have k5 : (0 : Int) ≤ (kk : Int) := by omega
    rw [if_pos hlt, if_pos hlt]
    clear h hsh hne
    obtain ⟨mx, hmx⟩ : ∃ mx, max nx (ba + kk) = mx := ⟨_, rfl⟩
    rw [hmx]
    have HMX : Hid ((nx < ba + kk ∧ mx = ba + kk) ∨ (¬ nx < ba + kk ∧ mx = nx)) := by show _ ∨ _; omega
    clear hmx
    obtain ⟨A, hA⟩ : ∃ A, (if c = kk then some (⟨g, o, none⟩ : Addr) else some ⟨g, o + kk, none⟩) = A := ⟨_, rfl⟩
    have CV : Hid (cutV (some ⟨g, o, none⟩) kl c kk = .slice A (kl - kk) (c - kk)) := by
      show _ = _
      unfold cutV
      subst hA
      by_cases e : c = kk
      · rw [if_pos e.symm, if_pos e, show kl - kk = 0 by omega, show c - kk = 0 by omega]
      · rw [if_neg (fun h => e h.symm), if_neg e]; rfl
    have hAg : ∃ x, A = some ⟨g, x, none⟩ := by
      subst hA
      split
      · exact ⟨_, rfl⟩
      · exact ⟨_, rfl⟩
    obtain ⟨Ax, hAx⟩ := hAg
    have X := (H.out.store (w5 := w) (v' := .slice A (kl - kk) (c - kk)) (ks' := ks.drop kk) (by rw [← CV.out]; exact DR.out) (Upd.refl _ _) (.inl (by rw [hAx]; rfl))).2.1.below (Qt.refl _).drew.bel
    have hown : ∀ x : Nat, (Value.slice A (kl - kk) (c - kk)).ownBlock = some x → (Value.slice (some ⟨g, o, none⟩) kl c).ownBlock = some x := fun x hx => by rw [hAx] at hx; exact hx
    replace hown := Lib.hid hown
    clear hAx
    have u0 : Hid (Upd (fun k => k = wb) w (w.setCell ⟨wb, 2, none⟩ (.slice A (kl - kk) (c - kk))).drew) := ((Upd.refl (fun k => k = wb) w).setCell _ _ (fun _ => rfl)).drew
    go_enter Tryz.func32, Tryz.ntmps32
    go_wp2_with fail
    go_region
    clear c2 c4 c5 c6 c7 c12 bz bf
    replace X := Lib.hid X
    generalize World.drew (w.setCell ⟨wb, 2, none⟩ (.slice A (kl - kk) (c - kk))) = w1 at *
    have X2 := (X.out.num (tk' := tk) (ba' := ba + kk) (nx' := nx) (tp' := tp) (idl' := idl) 4 (.int .i64 ((ba : Int) + kk)) rfl).num (tk' := tk) (ba' := ba + kk) (nx' := nx) (tp' := tp) (idl' := idl) 7 (.int .i64 24) rfl
    have u2 : Hid (Upd (fun k => k = wb) w ((w1.setCell ⟨wb, 4, none⟩ (.int .i64 ((ba : Int) + kk))).setCell ⟨wb, 7, none⟩ (.int .i64 24))) := (u0.out.setCell _ _ (fun _ => rfl)).setCell _ _ (fun _ => rfl)
    have bz := X.out.b.lt
    have bf := X.out.b.free
    have y4 := X.out.b.cell (i := 4) rfl
    have y7 := X.out.b.cell (i := 7) rfl
    have d4 := X2.b.cell (i := 4) rfl
    have d5 := X2.b.cell (i := 5) rfl
    have e12 := X2.b.cell (i := 12) rfl
    have bf2 := X2.b.free
    have bz2 := X2.b.lt
    replace X2 := Lib.hid X2
    rcases HMX.out with ⟨hx, rfl⟩ | ⟨hx, rfl⟩
    · have hx1 : (nx : Int) < (ba : Int) + (kk : Int) := by omega
      go_wp2_with fail
      go_region
      have X3 := (X2.out.num (tk' := tk) (ba' := ba + kk) (nx' := ba + kk) (tp' := tp) (idl' := idl) 5 (.int .i64 ((ba : Int) + kk)) rfl).below (Qt.refl _).drew.bel
      have u3 := (u2.out.setCell ⟨wb, 5, none⟩ (.int .i64 ((ba : Int) + kk)) (fun _ => rfl)).drew
      clear y4 y7 d4 d5 e12 bf2 bz2 bz bf X X2 u2 u0
      replace X3 := Lib.hid X3
      replace u3 := Lib.hid u3
      generalize World.drew (((w1.setCell ⟨wb, 4, none⟩ (.int .i64 ((ba : Int) + kk))).setCell ⟨wb, 7, none⟩ (.int .i64 24)).setCell ⟨wb, 5, none⟩ (.int .i64 ((ba : Int) + kk))) = w3 at *
      have X4 := X3.out.num (tk' := tk) (ba' := ba + kk) (nx' := ba + kk) (tp' := tp) (idl' := 0) 8 (.int .i64 0) rfl
      have f8 := X3.out.b.cell (i := 8) rfl
      have f12 := X4.b.cell (i := 12) rfl
      have bz := X3.out.b.lt
      have bf := X3.out.b.free
      have bz2 := X4.b.lt
      have bf2 := X4.b.free
      replace X4 := Lib.hid X4
      go_wp2_with fail
      go_ret
      exact ⟨rfl, _, X4.out.num 12 _ rfl, (u3.out.setCell _ _ (fun _ => rfl)).setCell _ _ (fun _ => rfl), hown.out⟩
    · have hx1 : ¬ (mx : Int) < (ba : Int) + (kk : Int) := by omega
      go_wp2_with fail
      go_region
      have X3 := (X2.out.num (tk' := tk) (ba' := ba + kk) (nx' := mx) (tp' := tp) (idl' := idl) 5 (.int .i64 ((mx : Int))) rfl).below (Qt.refl _).drew.bel
      have u3 := (u2.out.setCell ⟨wb, 5, none⟩ (.int .i64 ((mx : Int))) (fun _ => rfl)).drew
      clear y4 y7 d4 d5 e12 bf2 bz2 bz bf X X2 u2 u0
      replace X3 := Lib.hid X3
      replace u3 := Lib.hid u3
      generalize World.drew (((w1.setCell ⟨wb, 4, none⟩ (.int .i64 ((ba : Int) + kk))).setCell ⟨wb, 7, none⟩ (.int .i64 24)).setCell ⟨wb, 5, none⟩ (.int .i64 ((mx : Int)))) = w3 at *
      have X4 := X3.out.num (tk' := tk) (ba' := ba + kk) (nx' := mx) (tp' := tp) (idl' := 0) 8 (.int .i64 0) rfl
      have f8 := X3.out.b.cell (i := 8) rfl
      have f12 := X4.b.cell (i := 12) rfl
      have bz := X3.out.b.lt
      have bf := X3.out.b.free
      have bz2 := X4.b.lt
      have bf2 := X4.b.free
      replace X4 := Lib.hid X4
      go_wp2_with fail
      go_ret
      exact ⟨rfl, _, X4.out.num 12 _ rfl, (u3.out.setCell _ _ (fun _ => rfl)).setCell _ _ (fun _ => rfl), hown.out⟩
  · obtain rfl : kk = 0 := by omega
    clear h DR hsh
    rw [if_neg hlt, if_neg hlt]
    go_enter Tryz.func32, Tryz.ntmps32
    go_wp2_with fail
    go_ret
    exact ⟨rfl, _, (H.out.num 7 _ rfl).num 12 _ rfl, ((Upd.refl (fun k => k = wb) w).setCell _ _ (fun _ => rfl)).setCell _ _ (fun _ => rfl), fun g hg => hg⟩
end Go.Proofs.YtkaaoomliepijaaGreat
