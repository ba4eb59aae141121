/-
  reorder.Store: Put.
-/
import Derived.Test.YtkaaoomliepijaaGreatQSr
import Derived.Test.YtkaaoomliepijaaGreatQGate
namespace Go.Proofs.YtkaaoomliepijaaGreat
open Go.RowKit
set_option linter.unusedVariables false

/-- What is kept when the bytes d of offset o were put from fr up to k. -/
def putF (F : Nat → Option Int) (o : Nat) (d : List Int) (fr k : Nat) : Nat → Option Int := fun a => if fr ≤ a ∧ a < k then some (d.getD (a - o) 0) else F a
theorem putF_zero (F : Nat → Option Int) (o : Nat) (d : List Int) (fr : Nat) : putF F o d fr fr = F := by
  funext a
  unfold putF
  rw [if_neg (by omega)]
theorem putF_step (F : Nat → Option Int) (o : Nat) (d : List Int) {fr k : Nat} (h : fr ≤ k) : updO (putF F o d fr k) k (some (d.getD (k - o) 0)) = putF F o d fr (k + 1) := by
  funext a
  unfold updO putF
  by_cases e : a = k
  · rw [if_pos e, if_pos (by omega), e]
  · rw [if_neg e]
    by_cases c : fr ≤ a ∧ a < k
    · rw [if_pos c, if_pos (by omega)]
    · rw [if_neg c, if_neg (by omega)]
structure PtAt (w wr : World) (sb mb off nxt o n c : Nat) (a : Option Addr) (F : Nat → Option Int) : Prop where
  t : StAt wr sb mb off nxt F
  x : Blk wr w.heap.size 67 [.int .i64 o, .slice a n c, .bool false]
  u : Upd (stS sb mb) w wr
section
variable {w wr w' : World} {sb mb off nxt o n c : Nat} {a : Option Addr} {F : Nat → Option Int}
theorem PtAt.below (h : PtAt w wr sb mb off nxt o n c a F) (q : Below wr.heap.size wr w') : PtAt w w' sb mb off nxt o n c a F := ⟨h.t.below q, h.x.bel q, h.u.then (Upd.of_below q (S := stS sb mb)) (fun _ _ h => h)⟩
end
def Pt1Rel (w : World) (sb mb off nxt o n c : Nat) (a : Option Addr) (F : Nat → Option Int) (fr tt : Nat) (ix : Value) (wr : World) : Prop := ∃ k : Nat, fr ≤ k ∧ (k ≤ tt ∨ k = fr) ∧ ix = .int .i64 k ∧ Hid (PtAt w wr sb mb off nxt o n c a F)
def Pt2Rel (w : World) (sb mb off nxt o n c : Nat) (a : Option Addr) (F : Nat → Option Int) (d : List Int) (fr tt : Nat) (ix : Value) (wr : World) : Prop := ∃ k : Nat, fr ≤ k ∧ (k ≤ tt ∨ k = fr) ∧ ix = .int .i64 k ∧ Hid (PtAt w wr sb mb off nxt o n c a (putF F o d fr k))
def Pt3Rel (w : World) (sb mb off nxt o n c : Nat) (a : Option Addr) (F : Nat → Option Int) (wr : World) : Prop := ∃ nx : Nat, nxt ≤ nx ∧ nx ≤ 3000 ∧ Hid (∀ x, nxt ≤ x → x < nx → (F x).isSome = true) ∧ Hid (PtAt w wr sb mb off nx o n c a F)
def nxOf (sb : Nat) (w : World) : Nat := match w.cell? ⟨sb, 2, none⟩ with | some (.int _ n) => n.toNat | _ => 0
def PutP (w : World) (sb mb off nxt o : Nat) (F : Nat → Option Int) (d : List Int) (e : Ending) (w' : World) : Prop :=
  ∃ k : Int, e = .returned (.tuple #[.int .i64 k, .int .i64 0]) ∧ ∃ nx : Nat, StAt w' sb mb off nx (putF F o d (max o off) (min (o + d.length) (off + 24))) ∧ nxt ≤ nx ∧ (putF F o d (max o off) (min (o + d.length) (off + 24)) nx).isSome = false ∧
    (∀ x, nxt ≤ x → x < nx → (putF F o d (max o off) (min (o + d.length) (off + 24)) x).isSome = true) ∧ Upd (stS sb mb) w w'
set_option maxHeartbeats 8000000 in
set_option maxRecDepth 100000 in
theorem put_st (w : World) (sb mb off nxt o c : Nat) (a : Option Addr) (F : Nat → Option Int) (d : List Int) (h : StAt w sb mb off nxt F) (hd : Sl (Value.int .u8) w a d) (hB : IsB d) (ho : o ≤ 2500) (hdl : d.length ≤ 100) (hoff : off ≤ 2500) (hnx : nxt ≤ 3000)
    (hF : ∀ x, (F x).isSome = true → x < 3000) (hC : ∀ x y, F x = some y → o ≤ x → x < o + d.length → off ≤ x → y = d.getD (x - o) 0) (hda : ∀ k, stS sb mb k → d ≠ [] → (a.getD default).block ≠ k) :
    Calls Tryz.prog 57 #[.pointer (some ⟨sb, 0, none⟩), .agg #[.int .i64 o, .slice a d.length c, .bool false]] w (PutP w sb mb off nxt o F d) := by
  obtain ⟨fr, hfr⟩ : ∃ fr, max o off = fr := ⟨_, rfl⟩
  obtain ⟨tt, htt⟩ : ∃ tt, min (o + d.length) (off + 24) = tt := ⟨_, rfl⟩
  unfold PutP
  rw [hfr, htt]
  have HFR := Lib.hid hfr
  have HTT := Lib.hid htt
  have hb : fr ≤ 2500 ∧ tt ≤ 2524 ∧ o ≤ fr ∧ off ≤ fr ∧ tt ≤ o + d.length := by omega
  have H := Lib.hid h
  have HD := Lib.hid hd
  have HB := Lib.hid hB
  have HF := Lib.hid hF
  have HC := Lib.hid hC
  have HDA := Lib.hid hda
  have HLT := Lib.hid (fun k (hk : stS sb mb k) => h.lt hk)
  have P0 : Hid (PtAt w (w.alloc (.cells #[.int .i64 o, .slice a d.length c, .bool false] 67)) sb mb off nxt o d.length c a F) := ⟨h.below (alloc_belQ _ _), Blk.new _ _ [.int .i64 o, .slice a d.length c, .bool false], Upd.of_below (alloc_belQ _ _)⟩
  have MF := fun e0 => misfits_any _ sb mb off nxt e0 F P0.out.t
  generalize hn : d.length = n at *
  have HN := Lib.hid hn
  replace MF := Lib.hid MF
  have k1 : ¬ (o : Int) < 0 := by omega
  have k2 : ¬ (1099511627776 : Int) < (o : Int) := by omega
  clear hn h hd hB hF hC hfr htt hda
  go_enter Tryz.func57, Tryz.ntmps57
  go_wp2_with fail
  rw [show ((o : Int) + (n : Int)) = ((o + n : Nat) : Int) by omega]
  refine (MF.out (o + n)).mono ?_
  rintro e w1 ⟨rfl, hw⟩
  subst hw
  have c1 := P0.out.t.b.cell (i := 1) rfl
  have c0 := P0.out.t.b.cell (i := 0) rfl
  have cz := P0.out.t.b.lt
  have x0 := P0.out.x.cell (i := 0) rfl
  go_wp2_with fail
  go_cut [7, 8] (fun v u wx => v = .int .i64 fr ∧ u = .int .i64 tt ∧ Below (w.heap.size + 1) (w.alloc (.cells #[.int .i64 o, .slice a n c, .bool false] 67)) wx)
  case first =>
    go_quiet (fail)
    all_goals (try go_wp2_with fail)
    all_goals go_meet
    all_goals exact ⟨by have := HFR.out; congr 1; omega, by have := HTT.out; congr 1; omega, (Below.drewNQ (Below.refl _ _) _)⟩
  case rest =>
    obtain ⟨rfl, rfl, BC⟩ := hcut
    have hz1 : (w.alloc (.cells #[.int .i64 o, .slice a n c, .bool false] 67)).heap.size = w.heap.size + 1 := by simp
    have P1 := Lib.hid (P0.out.below (by rw [hz1]; exact BC))
    clear c1 c0 cz x0 BC hz1 P0 MF H
    go_wp2_with fail
    go_loopw [9] (fun ix wr => Pt1Rel w sb mb off nxt o n c a F fr tt ix wr) (fun ix _ => tt - (intOf ix).toNat)
    case atStart => exact ⟨fr, Nat.le_refl _, .inr rfl, rfl, P1⟩
    case round =>
      clear P1
      obtain ⟨k, hk1, hk2, rfl, P⟩ := hrel
      by_cases hkt : k < tt
      · have c3 := P.out.t.b.cell (i := 3) rfl
        have cz := P.out.t.b.lt
        have x0 := P.out.x.cell (i := 0) rfl
        have x1 := P.out.x.cell (i := 1) rfl
        have xz := P.out.x.lt
        have LK := P.out.t.m.look (i := k) (by omega)
        have hki : k - o < n := by omega
        obtain ⟨y, ey⟩ : ∃ y, d[k - o]? = some y := ⟨d[k - o]'(by have := HN.out; omega), by simp⟩
        have SDk := (HD.out.upd P.out.u (fun hne hs => HDA.out _ hs hne rfl)) (k - o) y ey
        obtain ⟨oka, cy⟩ := SDk
        have kd : ((k : Int) - (o : Int)).toNat = k - o := by omega
        have kd0 : (0 : Int) ≤ (k : Int) - (o : Int) := by omega
        have kd1 : (k : Int) - (o : Int) < (n : Int) := by omega
        have kw : IntKind.i64.wrap ((k : Int) - (o : Int)) = (k : Int) - (o : Int) := IntWalk.i64_in _ (by omega)
        have hCk := fun y' (hy' : F k = some y') => HC.out k y' hy' (by omega) (by omega) (by omega)
        have hdg : d.getD (k - o) 0 = y := by rw [List.getD_eq_getElem?_getD, ey]; rfl
        rw [hdg] at hCk
        have EY := Lib.hid ey
        clear ey hdg
        cases hFk : F k with
        | none =>
          rw [hFk] at LK
          clear hCk
          replace hFk := Lib.hid hFk
          go_wp2_with fail
          go_roundw
          case rel => exact ⟨k + 1, by omega, by omega, by go_num, P⟩
          case measure => simp [intOf]; omega
        | some y' =>
          rw [hFk] at LK
          obtain rfl := hCk y' hFk
          replace hFk := Lib.hid hFk
          clear hCk
          go_wp2_with fail
          go_roundw
          case rel => exact ⟨k + 1, by omega, by omega, by go_num, P⟩
          case measure => simp [intOf]; omega
      · have c3 := P.out.t.b.cell (i := 3) rfl
        have cz := P.out.t.b.lt
        have ML := fun ty => P.out.t.m.len ty
        generalize cntR F 4096 = bf at *
        go_wp2_with fail
        have P2 : Hid (PtAt w wr sb mb off nxt o n c a (putF F o d fr fr)) := by rw [putF_zero]; exact P
        clear c3 cz ML P
        go_loopw [13] (fun ix wr => Pt2Rel w sb mb off nxt o n c a F d fr tt ix wr) (fun ix _ => tt - (intOf ix).toNat)
        case atStart => exact ⟨fr, Nat.le_refl _, .inr rfl, rfl, P2⟩
        case round =>
          clear P2
          obtain ⟨j, hj1, hj2, rfl, P⟩ := hrel
          by_cases hjt : j < tt
          · have c3 : wr.drew.cell? ⟨sb, 3, none⟩ = some (.map (some mb)) := P.out.t.b.cell (i := 3) rfl
            have cz := P.out.t.b.lt
            have x0 : wr.drew.cell? ⟨w.heap.size, 0, none⟩ = some (.int .i64 o) := P.out.x.cell (i := 0) rfl
            have x1 : wr.drew.cell? ⟨w.heap.size, 1, none⟩ = some (.slice a n c) := P.out.x.cell (i := 1) rfl
            have xz := P.out.x.lt
            obtain ⟨y, ey⟩ : ∃ y, d[j - o]? = some y := ⟨d[j - o]'(by have := HN.out; omega), by simp⟩
            obtain ⟨oka, cy0⟩ := (HD.out.upd P.out.u (fun hne hs => HDA.out _ hs hne rfl)) (j - o) y ey
            have cy : wr.drew.cell? (adr a (j - o)) = some (.int .u8 y) := cy0
            have hy := HB.out y (List.mem_of_getElem? ey)
            have hdg : d.getD (j - o) 0 = y := by rw [List.getD_eq_getElem?_getD, ey]; rfl
            obtain ⟨w6, hst, hm6, hu6⟩ := (P.out.t.m.below (Qt.refl wr).drew.bel).store (i := j) (by omega) hy.1 hy.2
            rw [← hdg, putF_step F o d hj1] at hm6
            have koj : o ≤ j := by omega
            have kd : ((j : Int) - (o : Int)).toNat = j - o := by omega
            have kd0 : (0 : Int) ≤ (j : Int) - (o : Int) := by omega
            have kd1 : (j : Int) - (o : Int) < (n : Int) := by omega
            have kw : IntKind.i64.wrap ((j : Int) - (o : Int)) = (j : Int) - (o : Int) := IntWalk.i64_in _ (by omega)
            have uq : Upd (fun k => k = mb) wr w6 := Upd.then (Upd.of_below (Qt.refl wr).drew.bel) hu6 (fun _ _ h => h)
            have P6 : Hid (PtAt w w6 sb mb off nxt o n c a (putF F o d fr (j + 1))) := ⟨P.out.t.map hm6 uq, P.out.x.upd uq (fun e => by have := HLT.out mb (.inr rfl); omega), P.out.u.then uq (fun k _ e => .inr e)⟩
            clear hm6 hu6 uq P ey hdg cy0
            go_wp2_with fail
            refine wp_region_lastH (fun wx => wx = wr.drew) 13 14 (by kernel_rfl) (by kernel_rfl) rfl rfl ?_ (fun hHeld => ?_)
            · (rfl)
            simp only [nopFor, List.set_cons_succ, List.set_cons_zero]
            refine wpAnyH_takeL (i := 0) (v := ?_) rfl (by kernel_rfl) (by kernel_rfl) (by kernel_rfl) (fun _ _ _ h => h) rfl ?_ hHeld ?_
            rotate_left
            · intro w hSw
              try dsimp only at hSw
              go_simp
              all_goals with_reducible rfl
            try simp only [Act.put, List.setIfInBounds_toArray, List.set_cons_zero, List.set_cons_succ]
            refine wpAnyH_takeL (i := 1) (v := ?_) rfl (by kernel_rfl) (by kernel_rfl) (by kernel_rfl) (fun _ _ _ h => h) rfl ?_ hHeld ?_
            rotate_left
            · intro w hSw
              try dsimp only at hSw
              go_simp
              all_goals with_reducible rfl
            try simp only [Act.put, List.setIfInBounds_toArray, List.set_cons_zero, List.set_cons_succ]
            refine wpAnyH_takeL (i := 2) (v := ?_) rfl (by kernel_rfl) (by kernel_rfl) (by kernel_rfl) (fun _ _ _ h => h) rfl ?_ hHeld ?_
            rotate_left
            · intro w hSw
              try dsimp only at hSw
              go_simp
              all_goals with_reducible rfl
            try simp only [Act.put, List.setIfInBounds_toArray, List.set_cons_zero, List.set_cons_succ]
            refine wpAnyH_takeL (i := 3) (v := ?_) rfl (by kernel_rfl) (by kernel_rfl) (by kernel_rfl) (fun _ _ _ h => h) rfl ?_ hHeld ?_
            rotate_left
            · intro w hSw
              try dsimp only at hSw
              go_simp
              all_goals with_reducible rfl
            try simp only [Act.put, List.setIfInBounds_toArray, List.set_cons_zero, List.set_cons_succ]
            refine wpAnyH_takeL (i := 4) (v := ?_) rfl (by kernel_rfl) (by kernel_rfl) (by kernel_rfl) (fun _ _ _ h => h) rfl ?_ hHeld ?_
            rotate_left
            · intro w hSw
              try dsimp only at hSw
              go_simp
              all_goals with_reducible rfl
            try simp only [Act.put, List.setIfInBounds_toArray, List.set_cons_zero, List.set_cons_succ]
            refine wpAnyH_takeL (i := 5) (v := ?_) rfl (by kernel_rfl) (by kernel_rfl) (by kernel_rfl) (fun _ _ _ h => h) rfl ?_ hHeld ?_
            rotate_left
            · intro w hSw
              try dsimp only at hSw
              go_simp
              all_goals with_reducible rfl
            try simp only [Act.put, List.setIfInBounds_toArray, List.set_cons_zero, List.set_cons_succ]
            refine wpAnyH_takeL (i := 6) (v := ?_) rfl (by kernel_rfl) (by kernel_rfl) (by kernel_rfl) (fun _ _ _ h => h) rfl ?_ hHeld ?_
            rotate_left
            · intro w hSw
              try dsimp only at hSw
              go_simp
              all_goals with_reducible rfl
            try simp only [Act.put, List.setIfInBounds_toArray, List.set_cons_zero, List.set_cons_succ]
            refine wpAnyH_takeL (i := 7) (v := ?_) rfl (by kernel_rfl) (by kernel_rfl) (by kernel_rfl) (fun _ _ _ h => h) rfl ?_ hHeld ?_
            rotate_left
            · intro w hSw
              try dsimp only at hSw
              go_simp
              all_goals with_reducible rfl
            try simp only [Act.put, List.setIfInBounds_toArray, List.set_cons_zero, List.set_cons_succ]
            refine wpAnyH_takeL (i := 8) (v := ?_) rfl (by kernel_rfl) (by kernel_rfl) (by kernel_rfl) (fun _ _ _ h => h) rfl ?_ hHeld ?_
            rotate_left
            · intro w hSw
              try dsimp only at hSw
              go_simp
              all_goals with_reducible rfl
            try simp only [Act.put, List.setIfInBounds_toArray, List.set_cons_zero, List.set_cons_succ]
            refine wpAnyH_takeL (i := 9) (v := ?_) rfl (by kernel_rfl) (by kernel_rfl) (by kernel_rfl) (fun _ _ _ h => h) rfl ?_ hHeld ?_
            rotate_left
            · intro w hSw
              try dsimp only at hSw
              go_simp
              all_goals with_reducible rfl
            try simp only [Act.put, List.setIfInBounds_toArray, List.set_cons_zero, List.set_cons_succ]
            refine wpAnyH_takeL (i := 10) (v := ?_) rfl (by kernel_rfl) (by kernel_rfl) (by kernel_rfl) (fun _ _ _ h => h) rfl ?_ hHeld ?_
            rotate_left
            · intro w hSw
              try dsimp only at hSw
              go_simp
              all_goals with_reducible rfl
            try simp only [Act.put, List.setIfInBounds_toArray, List.set_cons_zero, List.set_cons_succ]
            refine wpAnyH_takeL (i := 11) (v := ?_) rfl (by kernel_rfl) (by kernel_rfl) (by kernel_rfl) (fun _ _ _ h => h) rfl ?_ hHeld ?_
            rotate_left
            · intro w hSw
              try dsimp only at hSw
              go_simp
              all_goals with_reducible rfl
            try simp only [Act.put, List.setIfInBounds_toArray, List.set_cons_zero, List.set_cons_succ]
            refine wpAnyH_takeL (i := 12) (v := ?_) rfl (by kernel_rfl) (by kernel_rfl) (by kernel_rfl) (fun _ _ _ h => h) rfl ?_ hHeld ?_
            rotate_left
            · intro w hSw
              try dsimp only at hSw
              go_simp
              all_goals with_reducible rfl
            try simp only [Act.put, List.setIfInBounds_toArray, List.set_cons_zero, List.set_cons_succ]
            refine wpAnyH_takeL (i := 13) (v := ?_) rfl (by kernel_rfl) (by kernel_rfl) (by kernel_rfl) (fun _ _ _ h => h) rfl ?_ hHeld ?_
            rotate_left
            · intro w hSw
              try dsimp only at hSw
              go_simp
              all_goals with_reducible rfl
            try simp only [Act.put, List.setIfInBounds_toArray, List.set_cons_zero, List.set_cons_succ]
            refine wpAnyH_done (by kernel_rfl) ?_ _
            rw [LastQ_normal]
            clear hHeld
            go_wp2_with fail
            go_roundw
            case rel => exact ⟨j + 1, by omega, by omega, by go_num, P6⟩
            case measure => simp [intOf]; omega
          · have EP : Hid (putF F o d fr j = putF F o d fr tt) := by
              show _ = _
              funext x
              unfold putF
              by_cases c1 : fr ≤ x ∧ x < j
              · rw [if_pos c1, if_pos (by omega)]
              · rw [if_neg c1, if_neg (by omega)]
            rw [EP.out] at P
            have HFG : Hid (∀ x, (putF F o d fr tt x).isSome = true → x < 3000) := fun x hx => by
              unfold putF at hx
              by_cases c1 : fr ≤ x ∧ x < tt
              · omega
              · rw [if_neg c1] at hx; exact HF.out x hx
            generalize hG : putF F o d fr tt = G at *
            replace hG := Lib.hid hG
            have x2 := P.out.x.cell (i := 2) rfl
            have xz := P.out.x.lt
            go_wp2_with fail
            clear x2 xz
            go_loopw [] (fun wr => Pt3Rel w sb mb off nxt o n c a G wr) (fun wr => 4096 - nxOf sb wr)
            case atStart => exact ⟨nxt, Nat.le_refl _, hnx, (fun x h1 h2 => by omega), P⟩
            case round =>
              clear P
              obtain ⟨nx, hx1, hx2, hall, P⟩ := hrel
              have c2 := P.out.t.b.cell (i := 2) rfl
              have c3 := P.out.t.b.cell (i := 3) rfl
              have cz := P.out.t.b.lt
              have cf := P.out.t.b.free 2
              have HS := has_any wr sb mb off nx G P.out.t nx (by omega)
              obtain ⟨q, hq⟩ : ∃ q, (G nx).isSome = q := ⟨_, rfl⟩
              rw [hq] at HS
              replace hq := Lib.hid hq
              replace HS := Lib.hid HS
              have ML := fun ty => P.out.t.m.len ty
              generalize cntR G 4096 = bg at *
              go_wp2_with fail
              refine HS.out.mono ?_
              rintro e w5 ⟨rfl, hw⟩
              subst hw
              cases q with
              | true =>
                have hx3 := HFG.out nx hq.out
                have P6 := Lib.hid ((⟨P.out.t.num (nxt' := nx + 1) 2 (.int .i64 ((nx : Int) + 1)) rfl, P.out.x.setO _ (by have := HLT.out sb (.inl rfl); dsimp only; omega), P.out.u.setCell _ _ (fun _ => .inl rfl)⟩ : PtAt w (wr.setCell ⟨sb, 2, none⟩ (.int .i64 ((nx : Int) + 1))) sb mb off (nx + 1) o n c a G))
                have N6 : Hid (nxOf sb (wr.setCell ⟨sb, 2, none⟩ (.int .i64 ((nx : Int) + 1))) = nx + 1 ∧ nxOf sb wr = nx) := by
                  have g1 := P6.out.t.b.cell (i := 2) rfl
                  refine ⟨?_, ?_⟩
                  · unfold nxOf; rw [g1]; rfl
                  · unfold nxOf; rw [c2]; rfl
                clear P ML
                go_wp2_with fail
                go_roundw
                case rel => exact ⟨nx + 1, by omega, by omega, (fun x h1 h2 => by
                  by_cases e : x = nx
                  · rw [e]; exact hq.out
                  · exact hall.out x h1 (by omega)), P6⟩
                case measure => have h1 := N6.out.1; have h2 := N6.out.2; simp only [h1, h2]; omega
              | false =>
                go_wp2_with fail
                go_ret2
                exact ⟨_, rfl, nx, by rw [hG.out]; exact P.out.t, hx1, by rw [hG.out]; exact hq.out, by rw [hG.out]; exact hall.out, P.out.u⟩
end Go.Proofs.YtkaaoomliepijaaGreat
