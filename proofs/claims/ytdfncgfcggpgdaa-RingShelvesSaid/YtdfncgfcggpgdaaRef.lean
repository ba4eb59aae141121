/-
  Contracts of the reference: Put, Take.
-/
import Derived.Test.YtdfncgfcggpgdaaVals
import Derived.Test.YtdfncgfcggpgdaaApp
namespace Go.Proofs.Ytdfncgfcggpgdaa
open Go.RowKit
set_option linter.unusedVariables false

/-- A queue by value: its values lie in a row of the call's own. -/
def qV (room : Nat) (a : Option Addr) (n c : Nat) : Value := .agg #[.int .i64 (room : Int), .slice a n c]
abbrev RwI (w : World) (base : Nat) (v : Value) (xs : List Int) : Prop := Rw (Value.int .i64) 3 w base v xs
def RPutOk (w : World) (room : Nat) (xs : List Int) (x : Int) (e : Ending) (w' : World) : Prop :=
  ∃ a c, e = .returned (.tuple #[qV room a (xs.length + 1) c, .int .i64 0]) ∧ RwI w' w.heap.size (.slice a (xs.length + 1) c) (xs ++ [x]) ∧ Below w.heap.size w w'
theorem rput_full (w : World) (room : Nat) (a : Option Addr) (n c : Nat) (x : Int) (h : room ≤ n) :
    Calls Try.prog 23 #[qV room a n c, .int .i64 x] w fun e w' => e = .returned (.tuple #[qV room a n c, .int .i64 5]) ∧ Below w.heap.size w w' := by
  unfold qV
  have hd : decide ((room : Int) ≤ (n : Int)) = true := by simpa using h
  go_enter Try.func23, Try.ntmps23
  go_wp2_with fail
  refine bodyPost_ret (v := .tuple #[.agg #[.int .i64 room, .slice a n c], .int .i64 5]) ?_ rfl ⟨rfl, ?_⟩
  · simp [results, Try.results23, go_sem]
  · exact ((Below.refl _ w).alloc (Nat.le_refl _) _).alloc (by simp) _
set_option maxHeartbeats 2000000 in
set_option maxRecDepth 100000 in
theorem rput_ok (w : World) (base room : Nat) (a : Option Addr) (c : Nat) (xs : List Int) (x : Int) (hs : RwI w base (.slice a xs.length c) xs) (h : xs.length < room) (hr : room ≤ 1000) :
    Calls Try.prog 23 #[qV room a xs.length c, .int .i64 x] w (RPutOk w room xs x) := by
  unfold qV
  have hd : decide ((room : Int) ≤ (xs.length : Int)) = false := by simp; omega
  have S := Lib.hid hs.sl
  obtain ⟨i0, hi, hz0, hz1, hz2⟩ := info_parts Try.infoRI
  have HI := Lib.hid hi; have HZ0 := Lib.hid hz0; have HZ1 := Lib.hid hz1; have HZ2 := Lib.hid hz2
  clear hi hz0 hz1 hz2 hs
  go_enter Try.func23, Try.ntmps23
  have hsz0 : ((w.alloc (.cells #[.int .i64 room, .slice a xs.length c] 51)).alloc (.cells #[.int .i64 0, .slice none 0 0] 51)).heap.size = w.heap.size + 1 + 1 := by simp
  have own0 := own_empty ((w.alloc (.cells #[.int .i64 room, .slice a xs.length c] 51)).alloc (.cells #[.int .i64 0, .slice none 0 0] 51)) 3 1
  rw [hsz0] at own0
  have O0 := Lib.hid own0
  have S2 := Lib.hid ((S.out.below ((((Below.refl _ w).alloc (Nat.le_refl _) (.cells #[.int .i64 room, .slice a xs.length c] 51)).alloc (by simp) (.cells #[.int .i64 0, .slice none 0 0] 51)).alloc (by simp; omega) (.cells #[] 3))))
  have k0 : Blk (((w.alloc (.cells #[.int .i64 room, .slice a xs.length c] 51)).alloc (.cells #[.int .i64 0, .slice none 0 0] 51)).alloc (.cells #[] 3)) w.heap.size 51 [.int .i64 room, .slice a xs.length c] := ((Blk.new w 51 [.int .i64 room, .slice a xs.length c]).alloc _).alloc _
  have k1 : Blk (((w.alloc (.cells #[.int .i64 room, .slice a xs.length c] 51)).alloc (.cells #[.int .i64 0, .slice none 0 0] 51)).alloc (.cells #[] 3)) (w.heap.size + 1) 51 [.int .i64 0, .slice none 0 0] := by
    have := (Blk.new (w.alloc (.cells #[.int .i64 room, .slice a xs.length c] 51)) 51 [.int .i64 0, .slice none 0 0]).alloc (.cells #[] 3)
    rw [World.size_alloc] at this
    exact this
  have K0 := Lib.hid k0; have K1 := Lib.hid k1
  have hlen : xs.length ≤ 1000 := by omega
  clear own0 hsz0 k0 k1
  have hn1 : ¬ room ≤ xs.length := by omega
  go_wp2_with (at_builtin; refine wpList_append_sl rfl (.tmp 13) (.tmp 15) 49 rfl (w.heap.size + 1 + 1) 3 i0 _ 8 Try.underlying49 HI.out HZ0.out HZ1.out HZ2.out rfl _ 0 [] rfl O0.out (Value.int .i64) (fun _ => rfl) a c xs rfl S2.out ?c1 ?c2 ?c3 ?_)
  case c1 => simp; unfold maxLen; omega
  case c2 => simp; omega
  case c3 => simp
  intro v1 w1 hown1 hgr1 hat1
  have u1 : Upd (fun k => k = w.heap.size + 1 + 1) (((w.alloc (.cells #[.int .i64 room, .slice a xs.length c] 51)).alloc (.cells #[.int .i64 0, .slice none 0 0] 51)).alloc (.cells #[] 3)) w1 :=
    ⟨hgr1.os, hgr1.tape, hgr1.output, hgr1.size, fun k hk hs => hgr1.block k hk (fun e => hs (by simp [Value.ownBlock] at e; exact e))⟩
  have K01 := K0.out.upd u1 (by omega)
  have K11 := K1.out.upd u1 (by omega)
  have B1 : Below w.heap.size w w1 := Upd.below ((((Below.refl _ w).alloc (Nat.le_refl _) (.cells #[.int .i64 room, .slice a xs.length c] 51)).alloc (by simp) (.cells #[.int .i64 0, .slice none 0 0] 51)).alloc (by simp; omega) (.cells #[] 3)) u1 (by simp; omega) (fun k hk => by omega)
  have hs1 := hgr1.size
  simp only [World.size_alloc] at hs1
  obtain ⟨a1, c1, rfl, _⟩ := own_shape hown1
  have O1 := Lib.hid hown1; have HB1 := Lib.hid B1
  have x0 := K01.cell (i := 0) rfl
  have x1 := K01.cell (i := 1) rfl
  have KK0 := Lib.hid K01; have KK1 := Lib.hid K11
  clear hown1 hgr1 hat1 u1 K01 K11 B1
  go_wp2_with (at_builtin; refine wpList_append_own _ rfl (.tmp 16) (.tmp 18) 49 rfl (w.heap.size + 1 + 1) 3 i0 _ 1 8 Try.underlying49 HI.out HZ0.out HZ1.out HZ2.out rfl (by decide) _ xs.length (xs.map (Value.int .i64)) rfl (O1.out.alloc _) ⟨w1.heap.size, 0, none⟩ 1 1 [.int .i64 x] rfl ?d1 ?d2 ?d3 ?d4 ?d5 ?d6 ?_)
  case d1 => rfl
  case d2 =>
    intro j u hj
    have := (Blk.new w1 3 [.int .i64 x]).cell hj
    rw [add_eq _ _ rfl]
    simpa using this
  case d3 => intro u hu; simp at hu; subst hu; rfl
  case d4 => unfold maxLen; omega
  case d5 => omega
  case d6 => simp; omega
  intro v2 w2 hown2 hgr2 _
  have hv1 : ∀ g, (Value.slice a1 xs.length c1).ownBlock = some g → w.heap.size + 1 + 1 ≤ g := fun g hg => (own_lt O1.out hg).2
  have u2 : Upd (fun k => (Value.slice a1 xs.length c1).ownBlock = some k) (w1.alloc (.cells #[.int .i64 x] 3)) w2 := ⟨hgr2.os, hgr2.tape, hgr2.output, hgr2.size, fun k hk hs => hgr2.block k hk (fun e => hs e.symm)⟩
  have K02 := (KK0.out.alloc (.cells #[.int .i64 x] 3)).upd u2 (fun h => by have := hv1 _ h; omega)
  have K12 := (KK1.out.alloc (.cells #[.int .i64 x] 3)).upd u2 (fun h => by have := hv1 _ h; omega)
  have B2 : Below w.heap.size w w2 := Upd.below (HB1.out.alloc (by omega) (.cells #[.int .i64 x] 3)) u2 (by simp; omega) (fun k hk => by have := hv1 _ hk; omega)
  rw [show xs.map (Value.int .i64) ++ [Value.int .i64 x] = (xs ++ [x]).map (Value.int .i64) by simp] at hown2
  obtain ⟨a2, c2, rfl, _⟩ := own_shape hown2
  have O2 := Lib.hid hown2; have HB2 := Lib.hid B2
  clear x0 x1
  have x0 := K02.cell (i := 0) rfl
  have x1 := K02.cell (i := 1) rfl
  have fx1 := K02.free 1
  have y0 := K12.cell (i := 0) rfl
  have y1 := K12.cell (i := 1) rfl
  have fy0 := K12.free 0
  have fy1 := K12.free 1
  have F1 : Hid (Blk (((w2.setCell ⟨w.heap.size, 1, none⟩ (.slice a2 (xs.length + 1) c2)).setCell ⟨w.heap.size + 1, 0, none⟩ (.int .i64 room)).setCell ⟨w.heap.size + 1, 1, none⟩ (.slice a2 (xs.length + 1) c2)) (w.heap.size + 1) 51 [.int .i64 room, .slice a2 (xs.length + 1) c2]) :=
    ((K12.setO (a := ⟨w.heap.size, 1, none⟩) (.slice a2 (xs.length + 1) c2) (by simp)).set 0 (.int .i64 room)).set 1 (.slice a2 (xs.length + 1) c2)
  have u3 : Upd (fun k => k = w.heap.size ∨ k = w.heap.size + 1) w2 (((w2.setCell ⟨w.heap.size, 1, none⟩ (.slice a2 (xs.length + 1) c2)).setCell ⟨w.heap.size + 1, 0, none⟩ (.int .i64 room)).setCell ⟨w.heap.size + 1, 1, none⟩ (.slice a2 (xs.length + 1) c2)) :=
    (((Upd.refl _ _).setCell _ _ (fun _ => .inl rfl)).setCell _ _ (fun _ => .inr rfl)).setCell _ _ (fun _ => .inr rfl)
  have hlx : (xs ++ [x]).length = xs.length + 1 := by simp
  have OF : Hid (RwI (((w2.setCell ⟨w.heap.size, 1, none⟩ (.slice a2 (xs.length + 1) c2)).setCell ⟨w.heap.size + 1, 0, none⟩ (.int .i64 room)).setCell ⟨w.heap.size + 1, 1, none⟩ (.slice a2 (xs.length + 1) c2)) w.heap.size (.slice a2 (xs.length + 1) c2) (xs ++ [x])) := by
    have h1 := own_upd O2.out u3 (fun g hg h => by have := (own_lt O2.out hg).2; omega)
    have h2 := Rw.of_own h1
    obtain ⟨a, c, e, hr⟩ := h2
    refine ⟨a, c, by rw [hlx] at e ⊢; exact e, ?_⟩
    rcases hr with hr | ⟨g, sp, e1, hg, rest⟩
    · exact .inl hr
    · exact .inr ⟨g, sp, e1, by omega, rest⟩
  have BF := Lib.hid (Upd.below B2 u3 B2.size (fun k hk => by omega))
  clear hown2 hgr2 u2 u3 K02 K12 B2 hlx hv1
  go_wp2_with fail
  generalize (((w2.setCell ⟨w.heap.size, 1, none⟩ (.slice a2 (xs.length + 1) c2)).setCell ⟨w.heap.size + 1, 0, none⟩ (.int .i64 room)).setCell ⟨w.heap.size + 1, 1, none⟩ (.slice a2 (xs.length + 1) c2)) = wf at *
  have z0 := F1.out.cell (i := 0) rfl
  have z1 := F1.out.cell (i := 1) rfl
  refine bodyPost_ret (v := .tuple #[.agg #[.int .i64 room, .slice a2 (xs.length + 1) c2], .int .i64 0]) ?_ rfl ⟨a2, c2, rfl, OF.out, BF.out⟩
  simp [results, Try.results23, go_sem, z0, z1]

def RTakeOk (w : World) (room : Nat) (x : Int) (xs : List Int) (e : Ending) (w' : World) : Prop :=
  ∃ a c, e = .returned (.tuple #[qV room a xs.length c, .int .i64 x, .bool true]) ∧ RwI w' w.heap.size (.slice a xs.length c) xs ∧ Below w.heap.size w w'
theorem rtake_none (w : World) (room : Nat) (a : Option Addr) (c : Nat) :
    Calls Try.prog 25 #[qV room a 0 c] w fun e w' => e = .returned (.tuple #[qV room a 0 c, .int .i64 0, .bool false]) ∧ Below w.heap.size w w' := by
  unfold qV
  go_enter Try.func25, Try.ntmps25
  have K1 := Lib.hid (Blk.new (w.alloc (.cells #[.int .i64 room, .slice a 0 c] 51)) 51 [.int .i64 0, .slice none 0 0])
  have K2 := Lib.hid ((K1.out.set 0 (.int .i64 room)).set 1 (.slice a 0 c))
  rw [World.size_alloc] at K1 K2
  have z0 := K2.out.cell (i := 0) rfl
  have z1 := K2.out.cell (i := 1) rfl
  have fy0 := K1.out.free 0
  have fy1 := K1.out.free 1
  go_wp2_with fail
  refine bodyPost_ret (v := .tuple #[.agg #[.int .i64 room, .slice a 0 c], .int .i64 0, .bool false]) ?_ rfl ⟨rfl, ?_⟩
  · simp [results, Try.results25, go_sem, z0, z1]
  · exact ((Below.refl _ w).alloc (Nat.le_refl _) _).alloc (by simp) _
set_option maxHeartbeats 2000000 in
set_option maxRecDepth 100000 in
theorem rtake_one (w : World) (room g n c : Nat) (x : Int) (xs : List Int) (sp : List Value) (hn : xs.length + 1 = n) (hcs : c = n + sp.length) (hbk : Blk w g 3 ((x :: xs).map (Value.int .i64) ++ sp)) (hr : xs.length ≤ 1000) (hcc : c = 1) :
    Calls Try.prog 25 #[qV room (some ⟨g, 0, none⟩) n 1] w (RTakeOk w room x xs) := by
  unfold qV
  obtain ⟨i0, hi, hz0, hz1, hz2⟩ := info_parts Try.infoRI
  have HI := Lib.hid hi; have HZ0 := Lib.hid hz0; have HZ1 := Lib.hid hz1; have HZ2 := Lib.hid hz2
  have e0 : ((w.alloc (.cells #[.int .i64 room, .slice (some ⟨g, 0, none⟩) n 1] 51)).alloc (.cells #[.int .i64 0, .slice none 0 0] 51)).cell? ⟨g, 0, none⟩ = some (.int .i64 x) := ((hbk.alloc _).alloc _).cell (i := 0) rfl
  have hx : xs = [] := List.eq_nil_of_length_eq_zero (by omega)
  have St : Sl (Value.int .i64) w (some ⟨g, 0, none⟩) xs := by
    subst hx
    exact fun k x h => by simp at h
  clear hx
  have S := Lib.hid St
  have S2 := Lib.hid (S.out.below ((((Below.refl _ w).alloc (Nat.le_refl _) (.cells #[.int .i64 room, .slice (some ⟨g, 0, none⟩) n 1] 51)).alloc (by simp) (.cells #[.int .i64 0, .slice none 0 0] 51)).alloc (by simp; omega) (.cells #[] 3)))
  have hsz0 : ((w.alloc (.cells #[.int .i64 room, .slice (some ⟨g, 0, none⟩) n 1] 51)).alloc (.cells #[.int .i64 0, .slice none 0 0] 51)).heap.size = w.heap.size + 1 + 1 := by simp
  have own0 := own_empty ((w.alloc (.cells #[.int .i64 room, .slice (some ⟨g, 0, none⟩) n 1] 51)).alloc (.cells #[.int .i64 0, .slice none 0 0] 51)) 3 1
  rw [hsz0] at own0
  have O0 := Lib.hid own0
  have k0 : Blk (((w.alloc (.cells #[.int .i64 room, .slice (some ⟨g, 0, none⟩) n 1] 51)).alloc (.cells #[.int .i64 0, .slice none 0 0] 51)).alloc (.cells #[] 3)) w.heap.size 51 [.int .i64 room, .slice (some ⟨g, 0, none⟩) n 1] := ((Blk.new w 51 [.int .i64 room, .slice (some ⟨g, 0, none⟩) n 1]).alloc _).alloc _
  have k1 : Blk (((w.alloc (.cells #[.int .i64 room, .slice (some ⟨g, 0, none⟩) n 1] 51)).alloc (.cells #[.int .i64 0, .slice none 0 0] 51)).alloc (.cells #[] 3)) (w.heap.size + 1) 51 [.int .i64 0, .slice none 0 0] := by
    have := (Blk.new (w.alloc (.cells #[.int .i64 room, .slice (some ⟨g, 0, none⟩) n 1] 51)) 51 [.int .i64 0, .slice none 0 0]).alloc (.cells #[] 3)
    rw [World.size_alloc] at this
    exact this
  have K0 := Lib.hid k0; have K1 := Lib.hid k1
  have hd : ((n : Int) == 0) = false := by rw [beq_eq_false_iff_ne]; omega
  have hn0 : 0 < n := by omega
  have hn1 : n - 1 = xs.length := by omega
  have hG : g < w.heap.size := hbk.lt
  clear hi hz0 hz1 hz2 own0 hsz0 k0 k1 St hbk hn hcs
  go_enter Try.func25, Try.ntmps25
  go_wp2_with (at_builtin; go_loud (refine wpList_append_sl rfl (.tmp 15) (.tmp 18) 49 rfl (w.heap.size + 1 + 1) 3 i0 _ 8 Try.underlying49 HI.out HZ0.out HZ1.out HZ2.out rfl _ 0 [] rfl O0.out (Value.int .i64) (fun _ => rfl) (some ⟨g, 0, none⟩) 0 xs ?hx S2.out ?c1 ?c2 ?c3 ?_))
  case hx => first | (simp [Act.eval, go_sem, hn1]; done) | (simp [Act.eval, go_sem, hn1]; rw [← hn1]; omega)
  case c1 => simp; unfold maxLen; omega
  case c2 => simp; omega
  case c3 => simp
  intro v1 w1 hown1 hgr1 hat1
  have u1 : Upd (fun k => k = w.heap.size + 1 + 1) (((w.alloc (.cells #[.int .i64 room, .slice (some ⟨g, 0, none⟩) n 1] 51)).alloc (.cells #[.int .i64 0, .slice none 0 0] 51)).alloc (.cells #[] 3)) w1 :=
    ⟨hgr1.os, hgr1.tape, hgr1.output, hgr1.size, fun k hk hs => hgr1.block k hk (fun e => hs (by simp [Value.ownBlock] at e; exact e))⟩
  have K01 := K0.out.upd u1 (by omega)
  have K11 := K1.out.upd u1 (by omega)
  have B1 : Below w.heap.size w w1 := Upd.below ((((Below.refl _ w).alloc (Nat.le_refl _) (.cells #[.int .i64 room, .slice (some ⟨g, 0, none⟩) n 1] 51)).alloc (by simp) (.cells #[.int .i64 0, .slice none 0 0] 51)).alloc (by simp; omega) (.cells #[] 3)) u1 (by simp; omega) (fun k hk => by omega)
  have hz : 0 + xs.length = xs.length := Nat.zero_add _
  try rw [hz] at hown1
  try rw [List.nil_append] at hown1
  obtain ⟨a1, c1, rfl, _⟩ := own_shape hown1
  have O1 := Lib.hid hown1; have HB1 := Lib.hid B1
  have x0 := K01.cell (i := 0) rfl
  have x1 := K01.cell (i := 1) rfl
  have fx1 := K01.free 1
  have y0 := K11.cell (i := 0) rfl
  have y1 := K11.cell (i := 1) rfl
  have fy0 := K11.free 0
  have fy1 := K11.free 1
  have F1 : Hid (Blk (((w1.setCell ⟨w.heap.size, 1, none⟩ (.slice a1 xs.length c1)).setCell ⟨w.heap.size + 1, 0, none⟩ (.int .i64 room)).setCell ⟨w.heap.size + 1, 1, none⟩ (.slice a1 xs.length c1)) (w.heap.size + 1) 51 [.int .i64 room, .slice a1 xs.length c1]) :=
    ((K11.setO (a := ⟨w.heap.size, 1, none⟩) (.slice a1 xs.length c1) (by simp)).set 0 (.int .i64 room)).set 1 (.slice a1 xs.length c1)
  have u3 : Upd (fun k => k = w.heap.size ∨ k = w.heap.size + 1) w1 (((w1.setCell ⟨w.heap.size, 1, none⟩ (.slice a1 xs.length c1)).setCell ⟨w.heap.size + 1, 0, none⟩ (.int .i64 room)).setCell ⟨w.heap.size + 1, 1, none⟩ (.slice a1 xs.length c1)) :=
    (((Upd.refl _ _).setCell _ _ (fun _ => .inl rfl)).setCell _ _ (fun _ => .inr rfl)).setCell _ _ (fun _ => .inr rfl)
  have OF : Hid (RwI (((w1.setCell ⟨w.heap.size, 1, none⟩ (.slice a1 xs.length c1)).setCell ⟨w.heap.size + 1, 0, none⟩ (.int .i64 room)).setCell ⟨w.heap.size + 1, 1, none⟩ (.slice a1 xs.length c1)) w.heap.size (.slice a1 xs.length c1) xs) := by
    have h1 := own_upd O1.out u3 (fun g hg h => by have := (own_lt O1.out hg).2; omega)
    have h2 := Rw.of_own h1
    obtain ⟨a, c, e, hr⟩ := h2
    refine ⟨a, c, e, ?_⟩
    rcases hr with hr | ⟨g, sp, e1, hg, rest⟩
    · exact .inl hr
    · exact .inr ⟨g, sp, e1, by omega, rest⟩
  have BF := Lib.hid (Upd.below HB1.out u3 HB1.out.size (fun k hk => by omega))
  clear hown1 hgr1 hat1 u1 u3 K01 K11 B1
  go_wp2_with fail
  generalize (((w1.setCell ⟨w.heap.size, 1, none⟩ (.slice a1 xs.length c1)).setCell ⟨w.heap.size + 1, 0, none⟩ (.int .i64 room)).setCell ⟨w.heap.size + 1, 1, none⟩ (.slice a1 xs.length c1)) = wf at *
  have z0 := F1.out.cell (i := 0) rfl
  have z1 := F1.out.cell (i := 1) rfl
  refine bodyPost_ret (v := .tuple #[.agg #[.int .i64 room, .slice a1 xs.length c1], .int .i64 x, .bool true]) ?_ rfl ⟨a1, c1, rfl, OF.out, BF.out⟩
  simp [results, Try.results25, go_sem, z0, z1]
set_option maxHeartbeats 2000000 in
set_option maxRecDepth 100000 in
theorem rtake_more (w : World) (room g n c : Nat) (x : Int) (xs : List Int) (sp : List Value) (hn : xs.length + 1 = n) (hcs : c = n + sp.length) (hbk : Blk w g 3 ((x :: xs).map (Value.int .i64) ++ sp)) (hr : xs.length ≤ 1000) (hcc : ¬ c = 1) :
    Calls Try.prog 25 #[qV room (some ⟨g, 0, none⟩) n c] w (RTakeOk w room x xs) := by
  unfold qV
  obtain ⟨i0, hi, hz0, hz1, hz2⟩ := info_parts Try.infoRI
  have HI := Lib.hid hi; have HZ0 := Lib.hid hz0; have HZ1 := Lib.hid hz1; have HZ2 := Lib.hid hz2
  have e0 : ((w.alloc (.cells #[.int .i64 room, .slice (some ⟨g, 0, none⟩) n c] 51)).alloc (.cells #[.int .i64 0, .slice none 0 0] 51)).cell? ⟨g, 0, none⟩ = some (.int .i64 x) := ((hbk.alloc _).alloc _).cell (i := 0) rfl
  have St : Sl (Value.int .i64) w (some ⟨g, 1, none⟩) xs := by
    intro k y hk
    have h := hbk.cell (i := k + 1) (v := .int .i64 y) (by
      have hk2 : k < xs.length := by
        rcases Nat.lt_or_ge k xs.length with h | h
        · exact h
        · rw [List.getElem?_eq_none h] at hk; cases hk
      simp [List.getElem?_append_left, hk2] 
      simpa [hk2] using hk)
    refine ⟨rfl, ?_⟩
    simpa [adr, Nat.add_comm] using h
  have S := Lib.hid St
  have S2 := Lib.hid (S.out.below ((((Below.refl _ w).alloc (Nat.le_refl _) (.cells #[.int .i64 room, .slice (some ⟨g, 0, none⟩) n c] 51)).alloc (by simp) (.cells #[.int .i64 0, .slice none 0 0] 51)).alloc (by simp; omega) (.cells #[] 3)))
  have hsz0 : ((w.alloc (.cells #[.int .i64 room, .slice (some ⟨g, 0, none⟩) n c] 51)).alloc (.cells #[.int .i64 0, .slice none 0 0] 51)).heap.size = w.heap.size + 1 + 1 := by simp
  have own0 := own_empty ((w.alloc (.cells #[.int .i64 room, .slice (some ⟨g, 0, none⟩) n c] 51)).alloc (.cells #[.int .i64 0, .slice none 0 0] 51)) 3 1
  rw [hsz0] at own0
  have O0 := Lib.hid own0
  have k0 : Blk (((w.alloc (.cells #[.int .i64 room, .slice (some ⟨g, 0, none⟩) n c] 51)).alloc (.cells #[.int .i64 0, .slice none 0 0] 51)).alloc (.cells #[] 3)) w.heap.size 51 [.int .i64 room, .slice (some ⟨g, 0, none⟩) n c] := ((Blk.new w 51 [.int .i64 room, .slice (some ⟨g, 0, none⟩) n c]).alloc _).alloc _
  have k1 : Blk (((w.alloc (.cells #[.int .i64 room, .slice (some ⟨g, 0, none⟩) n c] 51)).alloc (.cells #[.int .i64 0, .slice none 0 0] 51)).alloc (.cells #[] 3)) (w.heap.size + 1) 51 [.int .i64 0, .slice none 0 0] := by
    have := (Blk.new (w.alloc (.cells #[.int .i64 room, .slice (some ⟨g, 0, none⟩) n c] 51)) 51 [.int .i64 0, .slice none 0 0]).alloc (.cells #[] 3)
    rw [World.size_alloc] at this
    exact this
  have K0 := Lib.hid k0; have K1 := Lib.hid k1
  have hd : ((n : Int) == 0) = false := by rw [beq_eq_false_iff_ne]; omega
  have hn0 : 0 < n := by omega
  have hn1 : n - 1 = xs.length := by omega
  have hG : g < w.heap.size := hbk.lt
  clear hi hz0 hz1 hz2 own0 hsz0 k0 k1 St hbk hn hcs
  go_enter Try.func25, Try.ntmps25
  go_wp2_with (at_builtin; go_loud (refine wpList_append_sl rfl (.tmp 15) (.tmp 18) 49 rfl (w.heap.size + 1 + 1) 3 i0 _ 8 Try.underlying49 HI.out HZ0.out HZ1.out HZ2.out rfl _ 0 [] rfl O0.out (Value.int .i64) (fun _ => rfl) (some ⟨g, 1, none⟩) (c - 1) xs ?hx S2.out ?c1 ?c2 ?c3 ?_))
  case hx => first | (simp [Act.eval, go_sem, hn1]; done) | (simp [Act.eval, go_sem, hn1]; rw [← hn1]; omega)
  case c1 => simp; unfold maxLen; omega
  case c2 => simp; omega
  case c3 => simp
  intro v1 w1 hown1 hgr1 hat1
  have u1 : Upd (fun k => k = w.heap.size + 1 + 1) (((w.alloc (.cells #[.int .i64 room, .slice (some ⟨g, 0, none⟩) n c] 51)).alloc (.cells #[.int .i64 0, .slice none 0 0] 51)).alloc (.cells #[] 3)) w1 :=
    ⟨hgr1.os, hgr1.tape, hgr1.output, hgr1.size, fun k hk hs => hgr1.block k hk (fun e => hs (by simp [Value.ownBlock] at e; exact e))⟩
  have K01 := K0.out.upd u1 (by omega)
  have K11 := K1.out.upd u1 (by omega)
  have B1 : Below w.heap.size w w1 := Upd.below ((((Below.refl _ w).alloc (Nat.le_refl _) (.cells #[.int .i64 room, .slice (some ⟨g, 0, none⟩) n c] 51)).alloc (by simp) (.cells #[.int .i64 0, .slice none 0 0] 51)).alloc (by simp; omega) (.cells #[] 3)) u1 (by simp; omega) (fun k hk => by omega)
  have hz : 0 + xs.length = xs.length := Nat.zero_add _
  try rw [hz] at hown1
  try rw [List.nil_append] at hown1
  obtain ⟨a1, c1, rfl, _⟩ := own_shape hown1
  have O1 := Lib.hid hown1; have HB1 := Lib.hid B1
  have x0 := K01.cell (i := 0) rfl
  have x1 := K01.cell (i := 1) rfl
  have fx1 := K01.free 1
  have y0 := K11.cell (i := 0) rfl
  have y1 := K11.cell (i := 1) rfl
  have fy0 := K11.free 0
  have fy1 := K11.free 1
  have F1 : Hid (Blk (((w1.setCell ⟨w.heap.size, 1, none⟩ (.slice a1 xs.length c1)).setCell ⟨w.heap.size + 1, 0, none⟩ (.int .i64 room)).setCell ⟨w.heap.size + 1, 1, none⟩ (.slice a1 xs.length c1)) (w.heap.size + 1) 51 [.int .i64 room, .slice a1 xs.length c1]) :=
    ((K11.setO (a := ⟨w.heap.size, 1, none⟩) (.slice a1 xs.length c1) (by simp)).set 0 (.int .i64 room)).set 1 (.slice a1 xs.length c1)
  have u3 : Upd (fun k => k = w.heap.size ∨ k = w.heap.size + 1) w1 (((w1.setCell ⟨w.heap.size, 1, none⟩ (.slice a1 xs.length c1)).setCell ⟨w.heap.size + 1, 0, none⟩ (.int .i64 room)).setCell ⟨w.heap.size + 1, 1, none⟩ (.slice a1 xs.length c1)) :=
    (((Upd.refl _ _).setCell _ _ (fun _ => .inl rfl)).setCell _ _ (fun _ => .inr rfl)).setCell _ _ (fun _ => .inr rfl)
  have OF : Hid (RwI (((w1.setCell ⟨w.heap.size, 1, none⟩ (.slice a1 xs.length c1)).setCell ⟨w.heap.size + 1, 0, none⟩ (.int .i64 room)).setCell ⟨w.heap.size + 1, 1, none⟩ (.slice a1 xs.length c1)) w.heap.size (.slice a1 xs.length c1) xs) := by
    have h1 := own_upd O1.out u3 (fun g hg h => by have := (own_lt O1.out hg).2; omega)
    have h2 := Rw.of_own h1
    obtain ⟨a, c, e, hr⟩ := h2
    refine ⟨a, c, e, ?_⟩
    rcases hr with hr | ⟨g, sp, e1, hg, rest⟩
    · exact .inl hr
    · exact .inr ⟨g, sp, e1, by omega, rest⟩
  have BF := Lib.hid (Upd.below HB1.out u3 HB1.out.size (fun k hk => by omega))
  clear hown1 hgr1 hat1 u1 u3 K01 K11 B1
  go_wp2_with fail
  generalize (((w1.setCell ⟨w.heap.size, 1, none⟩ (.slice a1 xs.length c1)).setCell ⟨w.heap.size + 1, 0, none⟩ (.int .i64 room)).setCell ⟨w.heap.size + 1, 1, none⟩ (.slice a1 xs.length c1)) = wf at *
  have z0 := F1.out.cell (i := 0) rfl
  have z1 := F1.out.cell (i := 1) rfl
  refine bodyPost_ret (v := .tuple #[.agg #[.int .i64 room, .slice a1 xs.length c1], .int .i64 x, .bool true]) ?_ rfl ⟨a1, c1, rfl, OF.out, BF.out⟩
  simp [results, Try.results25, go_sem, z0, z1]
theorem rtake_some (w : World) (base room : Nat) (a : Option Addr) (c : Nat) (x : Int) (xs : List Int) (hs : RwI w base (.slice a (xs.length + 1) c) (x :: xs)) (hr : xs.length ≤ 1000) :
    Calls Try.prog 25 #[qV room a (xs.length + 1) c] w (RTakeOk w room x xs) := by
  have hown := hs.own
  rw [show (x :: xs).length = xs.length + 1 from rfl] at hown
  obtain ⟨g, sp, rfl, hg, hbk, hc, hm, hgl⟩ := own_blk (f := Value.int .i64) (xs := x :: xs) hown (by simp)
  by_cases h : c = 1
  · have := rtake_one w room g _ c x xs sp rfl hc hbk hr h
    rw [h]; exact this
  · exact rtake_more w room g _ c x xs sp rfl hc hbk hr h
end Go.Proofs.Ytdfncgfcggpgdaa
