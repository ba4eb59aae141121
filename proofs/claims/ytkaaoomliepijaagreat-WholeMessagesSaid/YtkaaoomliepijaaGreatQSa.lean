/-
  move: empty, Start.
  move.Moving: Start.
-/
import Derived.Test.YtkaaoomliepijaaGreatQMr
namespace Go.Proofs.YtkaaoomliepijaaGreat
open Go.RowKit
set_option linter.unusedVariables false

theorem wpAnyH_step2 {P : Program} {md : Region.Mode} {Q : Exit → Act → World → Prop} {l : List Oper} {S : World → Prop} {i j f : Nat} {o o2 : Oper} {listed : Array Bool} {a : Act} {w : World} (hr : Region.ready md l.toArray listed = [i, j]) (ho : l[i]? = some o) (ho2 : l[j]? = some o2)
    (h : ∀ K' : Act → World → Prop, Shut (∀ a w, S w → (S w → wpAnyH P md l.toArray Q S f (listed.setIfInBounds i true) a w) → K' a w) → if Region.wanted o (yielded l.toArray a.tmps) = true then Oper.wp P o a w K' Q else K' (a.put o.dst undef) w)
    (h2 : ∀ K' : Act → World → Prop, Shut (∀ a w, S w → (S w → wpAnyH P md l.toArray Q S f (listed.setIfInBounds j true) a w) → K' a w) → if Region.wanted o2 (yielded l.toArray a.tmps) = true then Oper.wp P o2 a w K' Q else K' (a.put o2.dst undef) w) :
    wpAnyH P md l.toArray Q S (f + 1) listed a w := wpAnyH_ready hr (by simp) (AllReadyH.cons (by simpa using ho) h (AllReadyH.cons (by simpa using ho2) h2 AllReadyH.nil))
theorem make_zeros (w : World) (n : Nat) (h : n ≤ 5000) : (Instr.makeSlice 22 (.int .i64 n) (.int .i64 n)).run Tryz.prog w = .ok (.slice (some ⟨w.heap.size, 0, none⟩) n n) (w.alloc (.cells (List.replicate n (Value.int .u8 0)).toArray 5)) := by
  obtain ⟨i, hi, hz, hs, hb⟩ := info_parts Tryz.infoByte
  rw [run_make w 22 5 i _ Tryz.underlying22 hi hz .i64 .i64 n n (by omega) (by omega) (by rw [hb]; omega) (by omega)]
  have e : madeCells (Value.int .u8 0).cells (((n : Int).toNat) * i.size) = (List.replicate n (Value.int .u8 0)).toArray := by
    rw [hs, Nat.mul_one, Int.toNat_natCast]
    apply Array.toList_inj.1
    rw [show (Value.int .u8 0).cells = #[Value.int .u8 0] from rfl, toList_madeCells_one]
  rw [e, Int.toNat_natCast]
theorem zeros_sl (w : World) (n : Nat) : Sl (Value.int .u8) (w.alloc (.cells (List.replicate n (Value.int .u8 0)).toArray 5)) (some ⟨w.heap.size, 0, none⟩) (List.replicate n (0 : Int)) := by
  intro j x hj
  obtain ⟨h1, h2⟩ := List.getElem?_eq_some_iff.1 hj
  have B := Blk.new w 5 (List.replicate n (Value.int .u8 0))
  have hx : x = 0 := by rw [← h2]; exact List.getElem_replicate _
  subst hx
  have hl : j < n := by simpa using h1
  have c := B.cell (i := j) (v := Value.int .u8 0) (by rw [List.getElem?_replicate]; simp [hl])
  refine ⟨rfl, ?_⟩
  have e : adr (some ⟨w.heap.size, 0, none⟩) j = ⟨w.heap.size, j, none⟩ := by simp [adr, Addr.add]
  rw [e]; exact c
theorem zeros_slQ (w : World) (n : Nat) : Sl (Value.int .u8) (w.alloc (.cells (Array.replicate n (Value.int .u8 0)) 5)).drew (some ⟨w.heap.size, 0, none⟩) (List.replicate n (0 : Int)) := by
  have h := zeros_sl w n
  rw [List.toArray_replicate] at h
  exact fun j x hj => h j x hj
theorem em_put (w : World) (sb mb k n c : Nat) (a : Option Addr) (hn : 1 ≤ n) (hn2 : n ≤ 24) (hk : k + n ≤ 2000) (h : StAt w sb mb k k (fun _ => none)) (hd : Sl (Value.int .u8) w a (List.replicate n (0 : Int))) (hda : ∀ k', stS sb mb k' → (a.getD default).block ≠ k') :
    Calls Tryz.prog 57 #[.pointer (some ⟨sb, 0, none⟩), .agg #[.int .i64 k, .slice a n c, .bool false]] w fun e w' => ∃ v : Int, e = .returned (.tuple #[.int .i64 v, .int .i64 0]) ∧ ∃ F : Nat → Option Int, StAt w' sb mb k (k + n) F ∧ (∀ x, x < k ∨ k + n ≤ x → F x = none) ∧ Upd (stS sb mb) w w' := by
  have P := put_st w sb mb k k k c a (fun _ => none) (List.replicate n (0 : Int)) h hd (fun x hx => by obtain ⟨_, rfl⟩ := List.mem_replicate.1 hx; omega) (by omega) (by simp; omega) (by omega) (by omega) (fun _ h => by cases h) (fun _ _ h => by cases h) (fun k' h _ => hda k' h)
  rw [List.length_replicate] at P
  refine P.mono ?_
  rintro e w' ⟨v, he, nx, h1, h2, h3, h4, h5⟩
  rw [List.length_replicate, show max k k = k by omega, show min (k + n) (k + 24) = k + n by omega] at h1 h3 h4
  have hx : nx = k + n := by
    by_cases c1 : nx < k + n
    · unfold putF at h3; rw [if_pos ⟨h2, c1⟩] at h3; cases h3
    · by_cases c2 : k + n < nx
      · have := h4 (k + n) (by omega) c2
        unfold putF at this; rw [if_neg (by omega)] at this; cases this
      · omega
  subst hx
  refine ⟨v, he, _, h1, ?_, h5⟩
  intro x hx
  unfold putF
  rw [if_neg (by omega)]
theorem em_read (w : World) (sb mb k n : Nat) (F : Nat → Option Int) (hn : 1 ≤ n) (hn2 : n ≤ 24) (hk : k + n ≤ 2000) (h : StAt w sb mb k (k + n) F) (hF : ∀ x, x < k ∨ k + n ≤ x → F x = none) :
    Calls Tryz.prog 58 #[.pointer (some ⟨sb, 0, none⟩), .int .i64 n] w fun e w' => ∃ (a : Option Addr) (c : Nat), e = .returned (.slice a n c) ∧ StAt w' sb mb (k + n) (k + n) (fun _ => none) ∧ Upd (stS sb mb) w w' := by
  refine (read_st w sb mb k (k + n) n F h (by omega) hk hn (by omega)).mono ?_
  rintro e w' ⟨v, rfl, h1, h2, h3⟩
  rw [show min n (k + n - k) = n by omega] at h1 h2
  obtain ⟨a, c, rfl, -⟩ := h1
  rw [rdL_len]
  have e : rmF F k n = fun _ => none := by
    funext x
    unfold rmF
    by_cases c1 : k ≤ x ∧ x < k + n
    · rw [if_pos c1]
    · rw [if_neg c1]; exact hF x (by omega)
  rw [e] at h2
  exact ⟨a, c, rfl, h2, h3⟩
def EmRel (w : World) (o : Nat) (wr : World) : Prop := ∃ k : Nat, k ≤ o ∧ Hid (StAt wr (w.heap.size + 1) w.heap.size k k (fun _ => none) ∧ Below w.heap.size w wr)
def ofOf (sb : Nat) (w : World) : Nat := match w.cell? ⟨sb, 1, none⟩ with | some (.int _ n) => n.toNat | _ => 0
theorem ofOf_at {w : World} {sb mb k nxt : Nat} {F : Nat → Option Int} (h : StAt w sb mb k nxt F) : ofOf sb w = k := by
  have g1 := h.b.cell (i := 1) rfl
  unfold ofOf; rw [g1]; rfl
set_option maxHeartbeats 8000000 in
set_option maxRecDepth 100000 in
theorem empty_ok (w : World) (o : Nat) (ho : o ≤ 2000) : Calls Tryz.prog 70 #[.int .i64 24, .int .i64 o] w fun e w' => e = .returned (.pointer (some ⟨w.heap.size + 1, 0, none⟩)) ∧ StAt w' (w.heap.size + 1) w.heap.size o o (fun _ => none) ∧ Below w.heap.size w w' := by
  have NS := Lib.hid (newSt_ok w)
  go_enter Tryz.func70, Tryz.ntmps70
  go_wp2_with fail
  refine NS.out.mono ?_
  rintro e w1 ⟨rfl, hS, hb⟩
  have R0 : EmRel w o w1 := ⟨0, by omega, hS, hb⟩
  clear hS hb NS
  go_wp2_with fail
  go_loopw [] (fun wr => EmRel w o wr) (fun wr => o - ofOf (w.heap.size + 1) wr)
  case atStart => exact R0
  case round =>
    clear R0
    obtain ⟨k, hk, T⟩ := hrel
    have OF := fun w' (q : Below wr.heap.size wr w') => offset_any w' (w.heap.size + 1) w.heap.size k k _ (T.out.1.below q)
    have M0 : Hid (ofOf (w.heap.size + 1) wr = k) := by
      have g1 := T.out.1.b.cell (i := 1) rfl
      show _ = _
      unfold ofOf; rw [g1]; rfl
    replace OF := Lib.hid OF
    go_wp2_with fail
    refine (OF.out _ (Below.refl _ _)).mono ?_
    rintro e w2 ⟨rfl, hw⟩
    subst hw
    by_cases hko : k < o
    · go_upto_region 3 with (fail)
      obtain ⟨n, hn⟩ : ∃ n, min 24 (o - k) = n := ⟨_, rfl⟩
      have hn1 : 1 ≤ n ∧ n ≤ 24 ∧ k + n ≤ o := by omega
      go_cut [7] (fun v wx => v = .int .i64 n ∧ wx = wr)
      case first =>
        go_wp2_with fail
        refine (OF.out _ (Below.refl _ _)).mono ?_
        rintro e w2 ⟨rfl, hw⟩
        subst hw
        by_cases hc : (24 : Int) ≤ (o : Int) - (k : Int)
        all_goals (go_wp2_with fail)
        all_goals go_meet
        all_goals exact ⟨by congr 1; omega, rfl⟩
      case rest =>
        obtain ⟨rfl, rfl⟩ := hcut
        have MK := fun w' => make_zeros w' n (by omega)
        have LT := Lib.hid (fun k' (hk' : stS (w.heap.size + 1) w.heap.size k') => T.out.1.lt hk')
        have PT := fun w' b (q : Below wc.heap.size wc w') (hb : wc.heap.size ≤ b) (hd : Sl (Value.int .u8) w' (some ⟨b, 0, none⟩) (List.replicate n (0 : Int))) => em_put w' (w.heap.size + 1) w.heap.size k n n (some ⟨b, 0, none⟩) hn1.1 hn1.2.1 (by omega) (T.out.1.below q) hd (fun k' hk' e => by have := LT.out k' hk'; simp at e; omega)
        replace PT := Lib.hid PT
        go_upto_region 4 with (fail)
        refine wp_region_allH (fun _ => True) 7 (by kernel_rfl) rfl ?_ (fun hHeld => ?_)
        · (trivial)
        refine wpAnyH_takeG (i := 0) (v := ?_) rfl (by kernel_rfl) (by kernel_rfl) (by kernel_rfl) (fun _ _ _ h => h) rfl ?_ hHeld ?_
        rotate_left
        · intro w hSw
          try dsimp only at hSw
          go_simp
          all_goals with_reducible rfl
        try simp only [Act.put, List.setIfInBounds_toArray, List.set_cons_zero, List.set_cons_succ]
        refine wpAnyH_takeG (i := 1) (v := ?_) rfl (by kernel_rfl) (by kernel_rfl) (by kernel_rfl) (fun _ _ _ h => h) rfl ?_ hHeld ?_
        rotate_left
        · intro w hSw
          try dsimp only at hSw
          go_simp
          all_goals with_reducible rfl
        try simp only [Act.put, List.setIfInBounds_toArray, List.set_cons_zero, List.set_cons_succ]
        refine wpAnyH_takeG (i := 3) (v := ?_) rfl (by kernel_rfl) (by kernel_rfl) (by kernel_rfl) (fun _ _ _ h => h) rfl ?_ hHeld ?_
        rotate_left
        · intro w hSw
          try dsimp only at hSw
          go_simp
          all_goals with_reducible rfl
        try simp only [Act.put, List.setIfInBounds_toArray, List.set_cons_zero, List.set_cons_succ]
        refine wpAnyH_step2 (i := 2) (j := 4) (by kernel_rfl) rfl rfl (fun KK hK => ?_) (fun KK hK => ?_)
        · skip
          (go_simp; refine (OF.out _ ?_).mono ?_; (· (repeat' (first | with_reducible assumption | with_reducible exact Below.refl _ _ | with_reducible refine Below.drewQ ?_ | with_reducible refine Below.drewNQ ?_ _ | with_reducible refine Below.setCell ?_ (by dsimp only; omega) _ | with_reducible refine Below.alloc ?_ (by first | omega | (simp; done) | (simp; omega)) _))); rintro e w5 ⟨rfl, hw⟩; subst hw; go_wp2_with fail)
          refine hK.out _ _ ?_ (fun hHeld => ?_)
          · (trivial)
          clear hK KK
          try simp only [Act.put, List.setIfInBounds_toArray, List.set_cons_zero, List.set_cons_succ]
          refine wpAnyH_step (i := 4) (by kernel_rfl) rfl (fun KK hK => ?_)
          (go_simp)
          refine hK.out _ _ ?_ (fun hHeld => ?_)
          · (trivial)
          clear hK KK
          try simp only [Act.put, List.setIfInBounds_toArray, List.set_cons_zero, List.set_cons_succ]
          refine wpAnyH_takeG (i := 5) (v := ?_) rfl (by kernel_rfl) (by kernel_rfl) (by kernel_rfl) (fun _ _ _ h => h) rfl ?_ hHeld ?_
          rotate_left
          · intro w hSw
            try dsimp only at hSw
            go_simp
            all_goals with_reducible rfl
          try simp only [Act.put, List.setIfInBounds_toArray, List.set_cons_zero, List.set_cons_succ]
          refine wpAnyH_step (i := 6) (by kernel_rfl) rfl (fun KK hK => ?_)
          (go_simp; refine (PT.out _ _ ?_ ?_ (zeros_slQ _ _)).mono ?_; (· (repeat' (first | with_reducible assumption | with_reducible exact Below.refl _ _ | with_reducible refine Below.drewQ ?_ | with_reducible refine Below.drewNQ ?_ _ | with_reducible refine Below.setCell ?_ (by dsimp only; omega) _ | with_reducible refine Below.alloc ?_ (by first | omega | (simp; done) | (simp; omega)) _))); (· simp); rintro e w5 ⟨v, rfl, F, hS, hF, hU⟩; go_wp2_with fail)
          refine hK.out _ _ ?_ (fun hHeld => ?_)
          · (trivial)
          clear hK KK
          try simp only [Act.put, List.setIfInBounds_toArray, List.set_cons_zero, List.set_cons_succ]
          refine wpAnyH_done (by kernel_rfl) ?_ _
          (skip; have B5 : Hid (Below w.heap.size w w5) := Upd.below (below_then T.out.2 (by (repeat' (first | with_reducible assumption | with_reducible exact Below.refl _ _ | with_reducible refine Below.drewQ ?_ | with_reducible refine Below.drewNQ ?_ _ | with_reducible refine Below.setCell ?_ (by dsimp only; omega) _ | with_reducible refine Below.alloc ?_ (by first | omega | (simp; done) | (simp; omega)) _))) T.out.2.size) hU (by simp; have := T.out.2.size; omega) (fun i hi => by unfold stS at hi; omega); have RD := Lib.hid (fun w' (q : Below w5.heap.size w5 w') => em_read w' (w.heap.size + 1) w.heap.size k n F hn1.1 hn1.2.1 (by omega) (hS.below q) hF); have e0 : ¬ (n : Int) = 0 := (by omega); have e1 : ((n : Int) == (0 : Int)) = false := (by simpa using e0); clear hS hF hU PT MK OF hHeld; go_wp2_with fail; refine (RD.out _ (Below.refl _ _)).mono ?_; rintro e w7 ⟨a7, c7, rfl, hS7, hU7⟩; have T7 := Lib.hid ((⟨hS7, Upd.below B5.out hU7 B5.out.size (fun i hi => by unfold stS at hi; omega)⟩ : StAt w7 (w.heap.size + 1) w.heap.size (k + n) (k + n) (fun _ => none) ∧ Below w.heap.size w w7)); have M7 := Lib.hid (ofOf_at hS7); clear hS7 hU7 RD B5; go_wp2_with fail; go_roundw; (case rel => exact ⟨k + n, by omega, T7⟩); (case measure => have h1 := M0.out; have h2 := M7.out; simp only [h1, h2]; omega))
        · skip
          (go_simp)
          refine hK.out _ _ ?_ (fun hHeld => ?_)
          · (trivial)
          clear hK KK
          try simp only [Act.put, List.setIfInBounds_toArray, List.set_cons_zero, List.set_cons_succ]
          refine wpAnyH_step (i := 2) (by kernel_rfl) rfl (fun KK hK => ?_)
          (go_simp; refine (OF.out _ ?_).mono ?_; (· (repeat' (first | with_reducible assumption | with_reducible exact Below.refl _ _ | with_reducible refine Below.drewQ ?_ | with_reducible refine Below.drewNQ ?_ _ | with_reducible refine Below.setCell ?_ (by dsimp only; omega) _ | with_reducible refine Below.alloc ?_ (by first | omega | (simp; done) | (simp; omega)) _))); rintro e w5 ⟨rfl, hw⟩; subst hw; go_wp2_with fail)
          refine hK.out _ _ ?_ (fun hHeld => ?_)
          · (trivial)
          clear hK KK
          try simp only [Act.put, List.setIfInBounds_toArray, List.set_cons_zero, List.set_cons_succ]
          refine wpAnyH_takeG (i := 5) (v := ?_) rfl (by kernel_rfl) (by kernel_rfl) (by kernel_rfl) (fun _ _ _ h => h) rfl ?_ hHeld ?_
          rotate_left
          · intro w hSw
            try dsimp only at hSw
            go_simp
            all_goals with_reducible rfl
          try simp only [Act.put, List.setIfInBounds_toArray, List.set_cons_zero, List.set_cons_succ]
          refine wpAnyH_step (i := 6) (by kernel_rfl) rfl (fun KK hK => ?_)
          (go_simp; refine (PT.out _ _ ?_ ?_ (zeros_slQ _ _)).mono ?_; (· (repeat' (first | with_reducible assumption | with_reducible exact Below.refl _ _ | with_reducible refine Below.drewQ ?_ | with_reducible refine Below.drewNQ ?_ _ | with_reducible refine Below.setCell ?_ (by dsimp only; omega) _ | with_reducible refine Below.alloc ?_ (by first | omega | (simp; done) | (simp; omega)) _))); (· simp); rintro e w5 ⟨v, rfl, F, hS, hF, hU⟩; go_wp2_with fail)
          refine hK.out _ _ ?_ (fun hHeld => ?_)
          · (trivial)
          clear hK KK
          try simp only [Act.put, List.setIfInBounds_toArray, List.set_cons_zero, List.set_cons_succ]
          refine wpAnyH_done (by kernel_rfl) ?_ _
          (skip; have B5 : Hid (Below w.heap.size w w5) := Upd.below (below_then T.out.2 (by (repeat' (first | with_reducible assumption | with_reducible exact Below.refl _ _ | with_reducible refine Below.drewQ ?_ | with_reducible refine Below.drewNQ ?_ _ | with_reducible refine Below.setCell ?_ (by dsimp only; omega) _ | with_reducible refine Below.alloc ?_ (by first | omega | (simp; done) | (simp; omega)) _))) T.out.2.size) hU (by simp; have := T.out.2.size; omega) (fun i hi => by unfold stS at hi; omega); have RD := Lib.hid (fun w' (q : Below w5.heap.size w5 w') => em_read w' (w.heap.size + 1) w.heap.size k n F hn1.1 hn1.2.1 (by omega) (hS.below q) hF); have e0 : ¬ (n : Int) = 0 := (by omega); have e1 : ((n : Int) == (0 : Int)) = false := (by simpa using e0); clear hS hF hU PT MK OF hHeld; go_wp2_with fail; refine (RD.out _ (Below.refl _ _)).mono ?_; rintro e w7 ⟨a7, c7, rfl, hS7, hU7⟩; have T7 := Lib.hid ((⟨hS7, Upd.below B5.out hU7 B5.out.size (fun i hi => by unfold stS at hi; omega)⟩ : StAt w7 (w.heap.size + 1) w.heap.size (k + n) (k + n) (fun _ => none) ∧ Below w.heap.size w w7)); have M7 := Lib.hid (ofOf_at hS7); clear hS7 hU7 RD B5; go_wp2_with fail; go_roundw; (case rel => exact ⟨k + n, by omega, T7⟩); (case measure => have h1 := M0.out; have h2 := M7.out; simp only [h1, h2]; omega))
    · go_wp2_with fail
      go_ret
      have hk2 : k = o := by omega
      subst hk2
      exact ⟨rfl, T.out.1, T.out.2⟩
end Go.Proofs.YtkaaoomliepijaaGreat
namespace Go.Proofs.YtkaaoomliepijaaGreat
open Go.RowKit
set_option linter.unusedVariables false

theorem saS {w7 : World} {eb s1 : Nat} {p0 p1 : Value} (h : Blk w7 eb 62 (mvC 0 p0 p1)) : w7.cell? ⟨eb, 0, none⟩ = some (.int .i64 24) ∧ (w7.setCell ⟨eb, 3, none⟩ (.pointer (some ⟨s1, 0, none⟩))).cell? ⟨eb, 0, none⟩ = some (.int .i64 24) :=
  ⟨h.cell rfl, (h.set 3 (.pointer (some ⟨s1, 0, none⟩))).cell rfl⟩
set_option maxHeartbeats 8000000 in
set_option maxRecDepth 100000 in
theorem start_mv (w : World) (eb sb mb off nxt : Nat) (p1 : Value) (F : Nat → Option Int) (hb : Blk w eb 62 (mvC 0 (spV sb) p1)) (h : StAt w sb mb off nxt F) (hoff : off ≤ 2000) :
    Calls Tryz.prog 45 #[.pointer (some ⟨eb, 0, none⟩)] w fun e w' => e = .returned (.tuple #[.int .i64 off, .int .i64 0]) ∧ StAt w' (w.heap.size + 1) w.heap.size off off (fun _ => none) ∧
      Blk w' eb 62 (mvC 1 (spV sb) (spV (w.heap.size + 1))) ∧ Upd (fun k => k = eb) w w' := by
  have OF := Lib.hid (offset_any w sb mb off nxt F h)
  have EM := Lib.hid (empty_ok w.drew off hoff)
  have B := Lib.hid hb
  have c0 := hb.cell (i := 0) rfl
  have c1 := hb.cell (i := 1) rfl
  have c2 : w.cell? ⟨eb, 2, none⟩ = some (.pointer (some ⟨sb, 0, none⟩)) := hb.cell (i := 2) rfl
  have bz := hb.lt
  clear hb h
  go_enter Tryz.func45, Tryz.ntmps45
  go_wp2_with fail
  refine OF.out.mono ?_
  rintro e w1 ⟨rfl, hw⟩
  subst hw
  go_wp2_with fail
  refine wp_region_allH (fun wx => wx.cell? ⟨eb, 0, none⟩ = some (.int .i64 24)) 11 (by kernel_rfl) rfl ?_ (fun hHeld => ?_)
  · (exact c0)
  refine wpAnyH_takeG (i := 0) (v := ?_) rfl (by kernel_rfl) (by kernel_rfl) (by kernel_rfl) (fun _ _ _ h => h) rfl ?_ hHeld ?_
  rotate_left
  · intro w hSw
    try dsimp only at hSw
    go_simp
    all_goals with_reducible rfl
  try simp only [Act.put, List.setIfInBounds_toArray, List.set_cons_zero, List.set_cons_succ]
  refine wpAnyH_takeG (i := 1) (v := ?_) rfl (by kernel_rfl) (by kernel_rfl) (by kernel_rfl) (fun _ _ _ h => h) rfl ?_ hHeld ?_
  rotate_left
  · intro w hSw
    try dsimp only at hSw
    go_simp
    all_goals with_reducible rfl
  try simp only [Act.put, List.setIfInBounds_toArray, List.set_cons_zero, List.set_cons_succ]
  refine wpAnyH_takeG (i := 2) (v := ?_) rfl (by kernel_rfl) (by kernel_rfl) (by kernel_rfl) (fun _ _ _ h => h) rfl ?_ hHeld ?_
  rotate_left
  · intro w hSw
    try dsimp only at hSw
    go_simp
    all_goals with_reducible rfl
  try simp only [Act.put, List.setIfInBounds_toArray, List.set_cons_zero, List.set_cons_succ]
  refine wpAnyH_takeG (i := 3) (v := ?_) rfl (by kernel_rfl) (by kernel_rfl) (by kernel_rfl) (fun _ _ _ h => h) rfl ?_ hHeld ?_
  rotate_left
  · intro w hSw
    try dsimp only at hSw
    go_simp
    all_goals with_reducible rfl
  try simp only [Act.put, List.setIfInBounds_toArray, List.set_cons_zero, List.set_cons_succ]
  refine wpAnyH_takeG (i := 4) (v := ?_) rfl (by kernel_rfl) (by kernel_rfl) (by kernel_rfl) (fun _ _ _ h => h) rfl ?_ hHeld ?_
  rotate_left
  · intro w hSw
    try dsimp only at hSw
    go_simp
    all_goals with_reducible rfl
  try simp only [Act.put, List.setIfInBounds_toArray, List.set_cons_zero, List.set_cons_succ]
  refine wpAnyH_takeG (i := 5) (v := ?_) rfl (by kernel_rfl) (by kernel_rfl) (by kernel_rfl) (fun _ _ _ h => h) rfl ?_ hHeld ?_
  rotate_left
  · intro w hSw
    try dsimp only at hSw
    go_simp
    all_goals with_reducible rfl
  try simp only [Act.put, List.setIfInBounds_toArray, List.set_cons_zero, List.set_cons_succ]
  refine wpAnyH_takeG (i := 7) (v := ?_) rfl (by kernel_rfl) (by kernel_rfl) (by kernel_rfl) (fun _ _ _ h => h) rfl ?_ hHeld ?_
  rotate_left
  · intro w hSw
    try dsimp only at hSw
    go_simp
    all_goals with_reducible rfl
  try simp only [Act.put, List.setIfInBounds_toArray, List.set_cons_zero, List.set_cons_succ]
  refine wpAnyH_takeG (i := 8) (v := ?_) rfl (by kernel_rfl) (by kernel_rfl) (by kernel_rfl) (fun _ _ _ h => h) rfl ?_ hHeld ?_
  rotate_left
  · intro w hSw
    try dsimp only at hSw
    go_simp
    all_goals with_reducible rfl
  try simp only [Act.put, List.setIfInBounds_toArray, List.set_cons_zero, List.set_cons_succ]
  refine wpAnyH_step (i := 6) (by kernel_rfl) rfl (fun KK hK => ?_)
  (go_simp; refine EM.out.mono ?_; rintro e w7 ⟨rfl, hS, hB⟩; have B7 := Lib.hid (B.out.bel (below_then (Qt.below (Qt.refl w).drew _) hB (Nat.le_refl _))); have S7 := Lib.hid hS; have U7 := Lib.hid hB; have X7 := Lib.hid (saS (s1 := w.heap.size + 1) B7.out); have y3 := B7.out.cell (i := 3) rfl; have yf := B7.out.free; have yz := B7.out.lt; clear hS hB; go_wp2_with fail)
  refine hK.out _ _ ?_ (fun hHeld => ?_)
  · (first | exact X7.out.1 | exact X7.out.2)
  clear hK KK
  try simp only [Act.put, List.setIfInBounds_toArray, List.set_cons_zero, List.set_cons_succ]
  refine wpAnyH_takeG (i := 9) (v := ?_) rfl (by kernel_rfl) (by kernel_rfl) (by kernel_rfl) (fun _ _ _ h => h) rfl ?_ hHeld ?_
  rotate_left
  · intro w hSw
    try dsimp only at hSw
    go_simp
    all_goals with_reducible rfl
  try simp only [Act.put, List.setIfInBounds_toArray, List.set_cons_zero, List.set_cons_succ]
  refine wpAnyH_step (i := 10) (by kernel_rfl) rfl (fun KK hK => ?_)
  (go_simp)
  refine hK.out _ _ ?_ (fun hHeld => ?_)
  · (first | exact X7.out.1 | exact X7.out.2)
  clear hK KK
  try simp only [Act.put, List.setIfInBounds_toArray, List.set_cons_zero, List.set_cons_succ]
  refine wpAnyH_done (by kernel_rfl) ?_ _
  have B8 := Lib.hid (B7.out.set 3 (.pointer (some ⟨w.heap.size + 1, 0, none⟩)))
  have S8 := Lib.hid (S7.out.upd ((Upd.refl (fun k => k = eb) w7).setCell ⟨eb, 3, none⟩ (.pointer (some ⟨w.heap.size + 1, 0, none⟩)) (fun _ => rfl)) (fun k hk e => by unfold stS at hk; rw [show w.drew.heap.size = w.heap.size from rfl] at hk; omega))
  have U8 := Lib.hid (((Upd.of_below (S := fun k => k = eb) (below_then (Qt.below (Qt.refl w).drew _) U7.out (Nat.le_refl _))).setCell ⟨eb, 3, none⟩ (.pointer (some ⟨w.heap.size + 1, 0, none⟩)) (fun _ => rfl)))
  have hz7 := U7.out.size
  clear y3 yf yz c0 c1 c2 S7 U7 X7 EM OF hHeld
  have e1 := B8.out.cell (i := 1) rfl
  have ez := B8.out.lt
  have ef := B8.out.free
  generalize w7.setCell ⟨eb, 3, none⟩ (.pointer (some ⟨w.heap.size + 1, 0, none⟩)) = w8 at *
  have B9 := Lib.hid (B8.out.set 1 (.int .i64 1))
  have S9 := Lib.hid (S8.out.upd ((Upd.refl (fun k => k = eb) w8).setCell ⟨eb, 1, none⟩ (.int .i64 1) (fun _ => rfl)) (fun k hk e => by unfold stS at hk; rw [show w.drew.heap.size = w.heap.size from rfl] at hk; omega))
  have U9 := Lib.hid (U8.out.setCell ⟨eb, 1, none⟩ (.int .i64 1) (fun _ => rfl))
  clear B7 B8 S8 U8
  go_wp2_with fail
  go_ret2
  exact ⟨rfl, S9.out, B9.out, U9.out⟩
end Go.Proofs.YtkaaoomliepijaaGreat
