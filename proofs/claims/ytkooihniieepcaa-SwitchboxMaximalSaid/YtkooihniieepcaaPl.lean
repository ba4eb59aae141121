/-
  play: the walk.
-/
import Derived.Test.YtkooihniieepcaaPlB
namespace Go.Proofs.Ytkooihniieepcaa
open Go.RowKit
set_option linter.unusedVariables false

/-- What play leaves. -/
def PlayEnd (W : World) (P K : Nat) (zs : List Int) (N : Nat → Prop) (CI : Nat → Md → World → Prop) (bb n ar gn : Nat) (w : World) : Prop :=
  ∃ L M x, PlI P K zs n ar gn M x ∧ BoxAt w W.heap.size P K L M ∧ L.bb = bb ∧ CI n M w ∧ Upd N W w
def PlayPost (W : World) (P : Nat) (zs : List Int) (N : Nat → Prop) (CI : Nat → Md → World → Prop) (n : Nat) (e : Ending) (w : World) : Prop :=
  ∃ bb ar gn : Nat, e = .returned (.tuple #[.pointer (some ⟨bb, 0, none⟩), .int .i64 ar, .int .i64 gn, .bool true]) ∧ PlayEnd W P zs.length zs N CI bb n ar gn w
set_option maxHeartbeats 8000000 in
set_option maxRecDepth 100000 in
theorem play_ok (W : World) (P : Nat) (zs : List Int) (ra : Option Addr) (rc : Nat) (os : List Int) (oa : Option Addr) (oc : Nat) (acts : List Ac) (la : Option Addr) (lc : Nat) {fid : Nat} {caps : Array Value} {N Kp : Nat → Prop} {CI : Nat → Md → World → Prop}
    (hC : Chk P zs.length zs (rtO os) fid caps N Kp CI) (hok : OkBox P zs) (hargs : ∀ w', Upd N W w' → SlI w' ra zs ∧ SlI w' oa os ∧ AcS w' la acts) (ho1 : 1 ≤ os.length) (ho8 : os.length ≤ 8) (hl : acts.length ≤ 60) (h0 : CI 0 (mdNew zs) W) :
    Calls Try.prog 11 #[.int .i64 P, .slice ra zs.length rc, .slice oa os.length oc, .slice la acts.length lc, .func (.func fid) #[] caps] W (PlayPost W P zs N CI acts.length) := by
  have CC := Lib.hid hC; have OK := Lib.hid hok; have AR := Lib.hid hargs; have C0 := Lib.hid h0
  have NY := Lib.hid (new_yes W P ra rc zs (hargs W (Upd.refl _ _)).1 hok)
  have p8n : P ≤ 8 := by have := hok.p8; omega
  have p1 := hok.p1; have p8 := hok.p8; have k1 := hok.k1; have k8 := hok.k8
  clear hC hok hargs h0
  obtain ⟨K, hK⟩ : ∃ K, zs.length = K := ⟨_, rfl⟩
  rw [hK] at k1 k8 NY ⊢
  have HK := Lib.hid hK
  clear hK
  go_enter Try.func11, Try.ntmps11
  go_wp2_with fail
  refine NY.out.mono ?_
  rintro e w1 ⟨L, rfl, hx, hb⟩
  rw [HK.out] at hx
  obtain ⟨bb, hbb⟩ : ∃ bb, bb = L.bb := ⟨_, rfl⟩
  have P0 : Hid (PtRel W W.heap.size P K bb (mdNew zs) (.slice none 0 0) (.slice none 0 0) (.slice none 0 0) (.int .i64 0) w1) := Lib.hid ⟨0, Nat.zero_le _, rfl, L, tb0, pl_start hx, hbb.symm, fun t _ => ⟨rfl, rfl, rfl⟩, fun _ _ _ => rfl, rfl, rfl, rfl, hb⟩
  rw [← hbb]
  clear hbb hx hb NY
  go_wp2_with fail
  go_loopw [18, 19, 20, 43] (fun v1 v2 v3 iv wr => PtRel W W.heap.size P K bb (mdNew zs) v1 v2 v3 iv wr) (fun _ _ _ iv _ => P - (intOf iv).toNat)
  case atStart => exact P0.out
  case round =>
    clear P0
    obtain ⟨k, hk, rfl, L1, T1, hC1, hLb, hT, hx0, rfl, rfl, rfl, hB⟩ := hrel
    have C1 := Lib.hid hC1; have LB := Lib.hid hLb; have HT := Lib.hid hT; have HX := Lib.hid hx0; have BB := Lib.hid hB
    clear hC1 hLb hT hx0 hB
    by_cases hlt : k < P
    · as_aux_lemma =>
      have hki : (k : Int) < (P : Int) := by omega
      go_upto_region 8 with (fail)
      refine wp_region_anyL 21 (by kernel_rfl) rfl ?_
      refine wpAny_takeL (i := 0) (v := ?_) rfl (by kernel_rfl) (by kernel_rfl) (by kernel_rfl) (fun _ _ _ h => h) rfl ?_ ?_
      rotate_left
      · intro w
        go_simp
        all_goals with_reducible rfl
      try simp only [Act.put, List.setIfInBounds_toArray, List.set_cons_zero, List.set_cons_succ]
      refine wpAny_takeL (i := 1) (v := ?_) rfl (by kernel_rfl) (by kernel_rfl) (by kernel_rfl) (fun _ _ _ h => h) rfl ?_ ?_
      rotate_left
      · intro w
        go_simp
        all_goals with_reducible rfl
      try simp only [Act.put, List.setIfInBounds_toArray, List.set_cons_zero, List.set_cons_succ]
      refine wpAny_takeL (i := 2) (v := ?_) rfl (by kernel_rfl) (by kernel_rfl) (by kernel_rfl) (fun _ _ _ h => h) rfl ?_ ?_
      rotate_left
      · intro w
        go_simp
        all_goals with_reducible rfl
      try simp only [Act.put, List.setIfInBounds_toArray, List.set_cons_zero, List.set_cons_succ]
      refine wpAny_takeL (i := 6) (v := ?_) rfl (by kernel_rfl) (by kernel_rfl) (by kernel_rfl) (fun _ _ _ h => h) rfl ?_ ?_
      rotate_left
      · intro w
        go_simp
        all_goals with_reducible rfl
      try simp only [Act.put, List.setIfInBounds_toArray, List.set_cons_zero, List.set_cons_succ]
      refine wpAny_takeL (i := 7) (v := ?_) rfl (by kernel_rfl) (by kernel_rfl) (by kernel_rfl) (fun _ _ _ h => h) rfl ?_ ?_
      rotate_left
      · intro w
        go_simp
        all_goals with_reducible rfl
      try simp only [Act.put, List.setIfInBounds_toArray, List.set_cons_zero, List.set_cons_succ]
      refine wpAny_takeL (i := 8) (v := ?_) rfl (by kernel_rfl) (by kernel_rfl) (by kernel_rfl) (fun _ _ _ h => h) rfl ?_ ?_
      rotate_left
      · intro w
        go_simp
        all_goals with_reducible rfl
      try simp only [Act.put, List.setIfInBounds_toArray, List.set_cons_zero, List.set_cons_succ]
      refine wpAny_takeL (i := 12) (v := ?_) rfl (by kernel_rfl) (by kernel_rfl) (by kernel_rfl) (fun _ _ _ h => h) rfl ?_ ?_
      rotate_left
      · intro w
        go_simp
        all_goals with_reducible rfl
      try simp only [Act.put, List.setIfInBounds_toArray, List.set_cons_zero, List.set_cons_succ]
      refine wpAny_takeL (i := 13) (v := ?_) rfl (by kernel_rfl) (by kernel_rfl) (by kernel_rfl) (fun _ _ _ h => h) rfl ?_ ?_
      rotate_left
      · intro w
        go_simp
        all_goals with_reducible rfl
      try simp only [Act.put, List.setIfInBounds_toArray, List.set_cons_zero, List.set_cons_succ]
      refine wpAny_takeL (i := 14) (v := ?_) rfl (by kernel_rfl) (by kernel_rfl) (by kernel_rfl) (fun _ _ _ h => h) rfl ?_ ?_
      rotate_left
      · intro w
        go_simp
        all_goals with_reducible rfl
      try simp only [Act.put, List.setIfInBounds_toArray, List.set_cons_zero, List.set_cons_succ]
      refine wpAny_ls (l' := lsP fun _ => 0) (by kernel_rfl) ?_
      have tri : ∀ t < 3, t = 0 ∨ t = 1 ∨ t = 2 := fun t ht => by omega
      refine rg_go (T := T1) (p0 := k) (M := mdNew zs) (base := W.heap.size) (P := P) (L := L1) (B := W.heap.size) ⟨rfl, fun t ht => by rcases tri t ht with rfl | rfl | rfl <;> exact ⟨rfl, rfl, rfl⟩, fun t ht => by rcases tri t ht with rfl | rfl | rfl <;> exact ⟨rfl, rfl, rfl⟩, fun t ht => by rcases tri t ht with rfl | rfl | rfl <;> exact ⟨rfl, rfl, rfl⟩, by kernel_rfl⟩
        (fun t ht => by rcases tri t ht with rfl | rfl | rfl <;> rfl) (fun t ht => by rcases tri t ht with rfl | rfl | rfl <;> rfl) (by simp) k8 (by omega) (Nat.le_refl _)
        (C1.out.below (Qt.refl wr).drew.bel) HT.out HX.out (BB.out.trans ((Qt.refl wr).drew.bel.mono BB.out.size)) (by simpa using BB.out.size) ?_
      intro x w5 T5 hC5 hT5 hx5 hB5 hv5
      simp only [putsL, Act.put, List.setIfInBounds_toArray, List.set_cons_zero, List.set_cons_succ]
      refine wpAny_takeL (i := 18) (v := ?_) rfl (by kernel_rfl) (by kernel_rfl) (by kernel_rfl) (fun _ _ _ h => h) rfl ?_ ?_
      rotate_left
      · intro w
        go_simp
        all_goals with_reducible rfl
      try simp only [Act.put, List.setIfInBounds_toArray, List.set_cons_zero, List.set_cons_succ]
      refine wpAny_takeL (i := 19) (v := ?_) rfl (by kernel_rfl) (by kernel_rfl) (by kernel_rfl) (fun _ _ _ h => h) rfl ?_ ?_
      rotate_left
      · intro w
        go_simp
        all_goals with_reducible rfl
      try simp only [Act.put, List.setIfInBounds_toArray, List.set_cons_zero, List.set_cons_succ]
      refine wpAny_takeL (i := 20) (v := ?_) rfl (by kernel_rfl) (by kernel_rfl) (by kernel_rfl) (fun _ _ _ h => h) rfl ?_ ?_
      rotate_left
      · intro w
        go_simp
        all_goals with_reducible rfl
      try simp only [Act.put, List.setIfInBounds_toArray, List.set_cons_zero, List.set_cons_succ]
      refine wpAny_done (by kernel_rfl) ?_ _
      have FN : Hid (PtRel W W.heap.size P K bb (mdNew zs) (x 50) (x 56) (x 62) (.int .i64 ((k : Int) + 1)) w5) := Lib.hid ⟨k + 1, by omega, by go_num, L1, T5, hC5, LB.out, hT5, hx5, hv5 0 (by omega), hv5 1 (by omega), hv5 2 (by omega), hB5⟩
      clear hC5 hT5 hx5 hB5 hv5 C1 LB HT HX BB
      go_wp2_with fail
      go_roundw
      case rel => exact FN.out
      case measure => simp [intOf]; omega
    · obtain rfl : k = P := by omega
      go_upto_region 10 with (fail)
      have r0 := tb_row C1.out (t := 0) (by omega)
      have r1 := tb_row C1.out (t := 1) (by omega)
      have r2 := tb_row C1.out (t := 2) (by omega)
      rw [(HT.out 0 (by omega)).1] at r0
      rw [(HT.out 1 (by omega)).1] at r1
      rw [(HT.out 2 (by omega)).1] at r2
      obtain ⟨ta0, tc0, e0, _⟩ := own_shape r0
      obtain ⟨ta1, tc1, e1, _⟩ := own_shape r1
      obtain ⟨ta2, tc2, e2, _⟩ := own_shape r2
      rw [e0, e1, e2]
      have hnW : ∀ j, Kp j → j < W.heap.size := fun j hj => CC.out.lt 0 _ W j C0.out hj
      have S0 : Hid (PlSt W W.heap.size k K bb zs N CI (.slice ta0 k tc0) (.slice ta1 k tc1) (.slice ta2 k tc2) 0 0 0 wr) := Lib.hid (by
        refine ⟨L1, mdNew zs, T1, ?_, C1.out, LB.out, fun t ht => (HT.out t ht).1, ⟨e0, e1, e2⟩, CC.out.mono 0 _ W wr (fun _ => False) C0.out (Upd.of_below BB.out) (fun _ _ => id), Upd.of_below BB.out⟩
        have : T1.x = fun _ _ _ => 0 := by funext t i c; exact HX.out t i c
        rw [this]
        exact PlI.start k K zs)
      have HN := Lib.hid hnW
      clear r0 r1 r2 e0 e1 e2 C1 LB HT HX BB hnW C0
      go_wp2_with fail
      go_loopw [16, 17, 66] (fun va vg iv wr => PlRel W W.heap.size k K bb zs N CI (.slice ta0 k tc0) (.slice ta1 k tc1) (.slice ta2 k tc2) acts.length va vg iv wr) (fun _ _ iv _ => acts.length - (intOf iv).toNat)
      case atStart => exact ⟨0, Nat.zero_le _, rfl, 0, 0, rfl, rfl, S0.out⟩
      case round =>
        clear S0
        obtain ⟨i, hi, rfl, ar, gn, rfl, rfl, hS⟩ := hrel
        have S1 := Lib.hid hS
        clear hS
        by_cases hli : i < acts.length
        · have hii : (i : Int) < (acts.length : Int) := by omega
          obtain ⟨x, hx⟩ : ∃ x, acts[i]? = some x := ⟨acts[i], by simp [hli]⟩
          obtain ⟨L1, M1, T1, hI1, hC1, hL1, hT1, hv1, hc1, hU1⟩ := S1.out
          obtain ⟨oka, cx⟩ := (AR.out _ hU1).2.2 i x hx
          obtain ⟨akind, aport, acls, adst, alim⟩ := x
          have x0 := cx 0 _ rfl; have x1 := cx 1 _ rfl; have x2 := cx 2 _ rfl; have x3 := cx 3 _ rfl; have x4 := cx 4 _ rfl
          rw [Nat.add_zero] at x0
          clear hx cx hI1 hC1 hL1 hT1 hv1 hc1 hU1
          go_upto_block 3 with (fail)
          go_cut [16, 17, 21, 22, 23, 24, 25, 26, 27, 29] from 68 to 232 (fun va vg _ _ _ _ _ _ _ _ wx => ∃ ar gn : Nat, va = .int .i64 ar ∧ vg = .int .i64 gn ∧ PlSt W W.heap.size k K bb zs N CI (.slice ta0 k tc0) (.slice ta1 k tc1) (.slice ta2 k tc2) (i + 1) ar gn wx)
          case first =>
            go_upto_region 13 with (fail)
            obtain ⟨w2, hw2⟩ : ∃ w2, w2 = wr.alloc (.cells #[.int .i64 akind, .int .i64 aport, .int .i64 acls, .int .i64 adst, .int .i64 alim] 60) := ⟨_, rfl⟩
            obtain ⟨ab, hab⟩ : ∃ ab, ab = wr.heap.size := ⟨_, rfl⟩
            have AB : Hid (Blk w2 ab 60 (acC ⟨akind, aport, acls, adst, alim⟩)) := Lib.hid (by rw [hw2, hab]; exact Blk.new wr _ (acC ⟨akind, aport, acls, adst, alim⟩))
            have Q2 : Hid (Below wr.heap.size wr w2) := Lib.hid (by rw [hw2]; exact (Below.refl _ _).alloc (Nat.le_refl _) _)
            rw [← hw2, ← hab]
            have HAB := Lib.hid hab
            clear hw2 hab x0 x1 x2 x3 x4 oka
            have hkn : ¬ k = 0 := by omega
            have hKn : ¬ K = 0 := by omega
            refine wp_region_allH (fun wx => wx.cell? ⟨ab, 1, none⟩ = some (.int .i64 aport) ∧ wx.cell? ⟨ab, 2, none⟩ = some (.int .i64 acls)) 13 (by kernel_rfl) rfl ?_ (fun hHeld => ?_)
            · (exact ⟨AB.out.cell (i := 1) rfl, AB.out.cell (i := 2) rfl⟩)
            refine wpAnyH_takeG (i := 0) (v := ?_) rfl (by kernel_rfl) (by kernel_rfl) (by kernel_rfl) (fun _ _ _ h => h) rfl ?_ hHeld ?_
            rotate_left
            · intro w hSw
              try dsimp only at hSw
              go_simp
              all_goals with_reducible rfl
            try simp only [Act.put, List.setIfInBounds_toArray, List.set_cons_zero, List.set_cons_succ]
            refine wpAnyH_takeG (i := 1) (v := ?_) rfl (by kernel_rfl) (by kernel_rfl) (by kernel_rfl) (fun _ _ _ h => h) rfl ?_ hHeld ?_
            rotate_left
            · intro w hSw
              try dsimp only at hSw
              go_simp
              all_goals with_reducible rfl
            try simp only [Act.put, List.setIfInBounds_toArray, List.set_cons_zero, List.set_cons_succ]
            refine wpAnyH_takeG (i := 2) (v := ?_) rfl (by kernel_rfl) (by kernel_rfl) (by kernel_rfl) (fun _ _ _ h => h) rfl ?_ hHeld ?_
            rotate_left
            · intro w hSw
              try dsimp only at hSw
              go_simp
              all_goals with_reducible rfl
            try simp only [Act.put, List.setIfInBounds_toArray, List.set_cons_zero, List.set_cons_succ]
            refine wpAnyH_takeG (i := 3) (v := ?_) rfl (by kernel_rfl) (by kernel_rfl) (by kernel_rfl) (fun _ _ _ h => h) rfl ?_ hHeld ?_
            rotate_left
            · intro w hSw
              try dsimp only at hSw
              go_simp
              all_goals with_reducible rfl
            try simp only [Act.put, List.setIfInBounds_toArray, List.set_cons_zero, List.set_cons_succ]
            refine wpAnyH_takeG (i := 4) (v := ?_) rfl (by kernel_rfl) (by kernel_rfl) (by kernel_rfl) (fun _ _ _ h => h) rfl ?_ hHeld ?_
            rotate_left
            · intro w hSw
              try dsimp only at hSw
              go_simp
              all_goals with_reducible rfl
            try simp only [Act.put, List.setIfInBounds_toArray, List.set_cons_zero, List.set_cons_succ]
            refine wpAnyH_takeG (i := 5) (v := ?_) rfl (by kernel_rfl) (by kernel_rfl) (by kernel_rfl) (fun _ _ _ h => h) rfl ?_ hHeld ?_
            rotate_left
            · intro w hSw
              try dsimp only at hSw
              go_simp
              all_goals with_reducible rfl
            try simp only [Act.put, List.setIfInBounds_toArray, List.set_cons_zero, List.set_cons_succ]
            refine wpAnyH_takeG (i := 6) (v := ?_) rfl (by kernel_rfl) (by kernel_rfl) (by kernel_rfl) (fun _ _ _ h => h) rfl ?_ hHeld ?_
            rotate_left
            · intro w hSw
              try dsimp only at hSw
              go_simp
              all_goals with_reducible rfl
            try simp only [Act.put, List.setIfInBounds_toArray, List.set_cons_zero, List.set_cons_succ]
            refine wpAnyH_takeG (i := 7) (v := ?_) rfl (by kernel_rfl) (by kernel_rfl) (by kernel_rfl) (fun _ _ _ h => h) rfl ?_ hHeld ?_
            rotate_left
            · intro w hSw
              try dsimp only at hSw
              go_simp
              all_goals with_reducible rfl
            try simp only [Act.put, List.setIfInBounds_toArray, List.set_cons_zero, List.set_cons_succ]
            refine wpAnyH_takeG (i := 8) (v := ?_) rfl (by kernel_rfl) (by kernel_rfl) (by kernel_rfl) (fun _ _ _ h => h) rfl ?_ hHeld ?_
            rotate_left
            · intro w hSw
              try dsimp only at hSw
              go_simp
              all_goals with_reducible rfl
            try simp only [Act.put, List.setIfInBounds_toArray, List.set_cons_zero, List.set_cons_succ]
            refine wpAnyH_takeG (i := 9) (v := ?_) rfl (by kernel_rfl) (by kernel_rfl) (by kernel_rfl) (fun _ _ _ h => h) rfl ?_ hHeld ?_
            rotate_left
            · intro w hSw
              try dsimp only at hSw
              go_simp
              all_goals with_reducible rfl
            try simp only [Act.put, List.setIfInBounds_toArray, List.set_cons_zero, List.set_cons_succ]
            refine wpAnyH_takeG (i := 10) (v := ?_) rfl (by kernel_rfl) (by kernel_rfl) (by kernel_rfl) (fun _ _ _ h => h) rfl ?_ hHeld ?_
            rotate_left
            · intro w hSw
              try dsimp only at hSw
              go_simp
              all_goals with_reducible rfl
            try simp only [Act.put, List.setIfInBounds_toArray, List.set_cons_zero, List.set_cons_succ]
            refine wpAnyH_takeG (i := 11) (v := ?_) rfl (by kernel_rfl) (by kernel_rfl) (by kernel_rfl) (fun _ _ _ h => h) rfl ?_ hHeld ?_
            rotate_left
            · intro w hSw
              try dsimp only at hSw
              go_simp
              all_goals with_reducible rfl
            try simp only [Act.put, List.setIfInBounds_toArray, List.set_cons_zero, List.set_cons_succ]
            refine wpAnyH_takeG (i := 12) (v := ?_) rfl (by kernel_rfl) (by kernel_rfl) (by kernel_rfl) (fun _ _ _ h => h) rfl ?_ hHeld ?_
            rotate_left
            · intro w hSw
              try dsimp only at hSw
              go_simp
              all_goals with_reducible rfl
            try simp only [Act.put, List.setIfInBounds_toArray, List.set_cons_zero, List.set_cons_succ]
            refine wpAnyH_done (by kernel_rfl) ?_ _
            clear hHeld
            obtain ⟨p, hp, hpk⟩ := mod_at aport (n := k) (by omega)
            obtain ⟨c, hc, hcK⟩ := mod_at acls (n := K) (by omega)
            rw [hp, hc]
            clear hp hc
            go_upto_region 14 with (fail)
            have S3 : Hid (PlSt W W.heap.size k K bb zs N CI (.slice ta0 k tc0) (.slice ta1 k tc1) (.slice ta2 k tc2) i ar gn w2.drew) := Lib.hid ((S1.out.below (HK.out ▸ CC.out) Q2.out).below (HK.out ▸ CC.out) (Qt.refl w2).drew.bel)
            have A3 : Hid (Blk w2.drew ab 60 (acC ⟨akind, aport, acls, adst, alim⟩)) := Lib.hid AB.out
            obtain ⟨w3, hw3⟩ : ∃ w3, w3 = w2.drew := ⟨_, rfl⟩
            rw [← hw3] at S3 A3 ⊢
            have abN : Hid (∀ L M (T : Tbs), CliAt wr W.heap.size k K L M W.heap.size (plC K T) → ¬ boxS k K L M ab ∧ ¬ ftC (plC K T) ab) := Lib.hid (fun L M T h => ⟨fun x => by have := (h.bx.lt x).2; have := HAB.out; omega, fun x => by have := (h.st.lt x).2; have := HAB.out; omega⟩)
            clear hw3 AB Q2 S1
            have a0 := A3.out.cell (i := 0) rfl
            by_cases hk0 : akind = 0
            · as_aux_lemma =>
              subst hk0
              obtain ⟨L1, M1, T1, hI1, hC1, hL1, hT1, hv1, hc1, hU1⟩ := S3.out
              have I1 := Lib.hid hI1; have D1 := Lib.hid hC1; have LB := Lib.hid hL1; have TN := Lib.hid hT1; have TV := Lib.hid hv1; have CI1 := Lib.hid hc1; have U1 := Lib.hid hU1
              obtain ⟨aa, am, e1, e2, e3, e4⟩ := tb_way (hC1.below (Qt.refl w3).drew.bel) (t := 2) (by omega) (by rw [hT1 2 (by omega)]; exact hpk) hcK
              rw [hv1.2.2, hT1 2 (by omega)] at e1
              obtain ⟨rfl, rfl⟩ : ta2 = some ⟨aa, 0, none⟩ ∧ tc2 = am := by cases e1; exact ⟨rfl, rfl⟩
              obtain ⟨tb, htb⟩ : ∃ tb, tb = T1.b 2 p := ⟨_, rfl⟩
              obtain ⟨xv, hxv⟩ : ∃ xv, xv = T1.x 2 p c := ⟨_, rfl⟩
              unfold tbV at e2
              unfold tbX at e3
              rw [← htb] at e2 e3 e4
              rw [← hxv] at e3
              have LM := limit_yes p c (hC1.bx.below (Qt.refl w3).drew.bel) hpk hcK
              rw [hL1] at LM
              obtain ⟨lv, hlv⟩ : ∃ lv, lv = (M1.gv p c).a + (M1.gv p c).c := ⟨_, rfl⟩
              rw [← hlv] at LM
              have LC := Lib.hid LM
              have E2 := Lib.hid e2; have E3 := Lib.hid e3
              have HTB := Lib.hid htb; have HXV := Lib.hid hxv; have HLV := Lib.hid hlv
              clear hI1 hC1 hL1 hT1 hv1 hc1 hU1 e1 e2 e3 e4 LM htb hxv hlv
              have hp0 : (0 : Int) ≤ (p : Int) := by omega
              have hpi : (p : Int) < (k : Int) := by omega
              have hc0 : (0 : Int) ≤ (c : Int) := by omega
              have hci : (c : Int) < (K : Int) := by omega
              go_upto_region 16 with (fail)
              refine wp_region_allH (fun wx => wx.cell? ⟨aa, p, none⟩ = some (.slice (some ⟨tb, 0, none⟩) K K) ∧ wx.cell? ⟨tb, c, none⟩ = some (.int .i64 xv)) 12 (by kernel_rfl) rfl ?_ (fun hHeld => ?_)
              · (exact ⟨E2.out, E3.out⟩)
              refine wpAnyH_takeG (i := 0) (v := ?_) rfl (by kernel_rfl) (by kernel_rfl) (by kernel_rfl) (fun _ _ _ h => h) rfl ?_ hHeld ?_
              rotate_left
              · intro w hSw
                try dsimp only at hSw
                go_simp
                all_goals with_reducible rfl
              try simp only [Act.put, List.setIfInBounds_toArray, List.set_cons_zero, List.set_cons_succ]
              refine wpAnyH_takeG (i := 1) (v := ?_) rfl (by kernel_rfl) (by kernel_rfl) (by kernel_rfl) (fun _ _ _ h => h) rfl ?_ hHeld ?_
              rotate_left
              · intro w hSw
                try dsimp only at hSw
                go_simp
                all_goals with_reducible rfl
              try simp only [Act.put, List.setIfInBounds_toArray, List.set_cons_zero, List.set_cons_succ]
              refine wpAnyH_takeG (i := 2) (v := ?_) rfl (by kernel_rfl) (by kernel_rfl) (by kernel_rfl) (fun _ _ _ h => h) rfl ?_ hHeld ?_
              rotate_left
              · intro w hSw
                try dsimp only at hSw
                go_simp
                all_goals with_reducible rfl
              try simp only [Act.put, List.setIfInBounds_toArray, List.set_cons_zero, List.set_cons_succ]
              refine wpAnyH_takeG (i := 3) (v := ?_) rfl (by kernel_rfl) (by kernel_rfl) (by kernel_rfl) (fun _ _ _ h => h) rfl ?_ hHeld ?_
              rotate_left
              · intro w hSw
                try dsimp only at hSw
                go_simp
                all_goals with_reducible rfl
              try simp only [Act.put, List.setIfInBounds_toArray, List.set_cons_zero, List.set_cons_succ]
              refine wpAnyH_takeG (i := 4) (v := ?_) rfl (by kernel_rfl) (by kernel_rfl) (by kernel_rfl) (fun _ _ _ h => h) rfl ?_ hHeld ?_
              rotate_left
              · intro w hSw
                try dsimp only at hSw
                go_simp
                all_goals with_reducible rfl
              try simp only [Act.put, List.setIfInBounds_toArray, List.set_cons_zero, List.set_cons_succ]
              refine wpAnyH_takeG (i := 5) (v := ?_) rfl (by kernel_rfl) (by kernel_rfl) (by kernel_rfl) (fun _ _ _ h => h) rfl ?_ hHeld ?_
              rotate_left
              · intro w hSw
                try dsimp only at hSw
                go_simp
                all_goals with_reducible rfl
              try simp only [Act.put, List.setIfInBounds_toArray, List.set_cons_zero, List.set_cons_succ]
              refine wpAnyH_takeG (i := 6) (v := ?_) rfl (by kernel_rfl) (by kernel_rfl) (by kernel_rfl) (fun _ _ _ h => h) rfl ?_ hHeld ?_
              rotate_left
              · intro w hSw
                try dsimp only at hSw
                go_simp
                all_goals with_reducible rfl
              try simp only [Act.put, List.setIfInBounds_toArray, List.set_cons_zero, List.set_cons_succ]
              refine wpAnyH_takeG (i := 7) (v := ?_) rfl (by kernel_rfl) (by kernel_rfl) (by kernel_rfl) (fun _ _ _ h => h) rfl ?_ hHeld ?_
              rotate_left
              · intro w hSw
                try dsimp only at hSw
                go_simp
                all_goals with_reducible rfl
              try simp only [Act.put, List.setIfInBounds_toArray, List.set_cons_zero, List.set_cons_succ]
              refine wpAnyH_takeG (i := 8) (v := ?_) rfl (by kernel_rfl) (by kernel_rfl) (by kernel_rfl) (fun _ _ _ h => h) rfl ?_ hHeld ?_
              rotate_left
              · intro w hSw
                try dsimp only at hSw
                go_simp
                all_goals with_reducible rfl
              try simp only [Act.put, List.setIfInBounds_toArray, List.set_cons_zero, List.set_cons_succ]
              refine wpAnyH_takeG (i := 9) (v := ?_) rfl (by kernel_rfl) (by kernel_rfl) (by kernel_rfl) (fun _ _ _ h => h) rfl ?_ hHeld ?_
              rotate_left
              · intro w hSw
                try dsimp only at hSw
                go_simp
                all_goals with_reducible rfl
              try simp only [Act.put, List.setIfInBounds_toArray, List.set_cons_zero, List.set_cons_succ]
              refine wpAnyH_step (i := 10) (by kernel_rfl) rfl (fun KK hK => ?_)
              (go_simp; (with_reducible refine LC.out.mono ?_); rintro e w4 ⟨rfl, b4⟩; go_wp2_with fail)
              refine hK.out _ _ ?_ (fun hHeld => ?_)
              · (exact ⟨(b4.cell (World.block_lt_of_cell? _ _ E2.out)).trans E2.out, (b4.cell (World.block_lt_of_cell? _ _ E3.out)).trans E3.out⟩)
              clear hK KK
              try simp only [Act.put, List.setIfInBounds_toArray, List.set_cons_zero, List.set_cons_succ]
              refine wpAnyH_takeG (i := 11) (v := ?_) rfl (by kernel_rfl) (by kernel_rfl) (by kernel_rfl) (fun _ _ _ h => h) rfl ?_ hHeld ?_
              rotate_left
              · intro w hSw
                try dsimp only at hSw
                go_simp
                all_goals with_reducible rfl
              try simp only [Act.put, List.setIfInBounds_toArray, List.set_cons_zero, List.set_cons_succ]
              refine wpAnyH_done (by kernel_rfl) ?_ _
              clear hHeld
              have b34 : Below w3.heap.size w3 w4 := ((Qt.refl w3).drew.bel).trans b4
              have D4 := Lib.hid (D1.out.below b34)
              have A4 := Lib.hid (A3.out.upd (Upd.of_below (S := fun _ => False) b34) id)
              have C4 := Lib.hid (CC.out.mono i _ w3 w4 (fun _ => False) CI1.out (Upd.of_below b34) (fun _ _ => id))
              have U4 := Lib.hid (Upd.then U1.out (Upd.of_below (S := fun _ => False) b34) fun _ _ h => h.elim)
              have S4 : Hid (PlSt W W.heap.size k K bb zs N CI (.slice ta0 k tc0) (.slice ta1 k tc1) (.slice (some ⟨aa, 0, none⟩) k tc2) i ar gn w4) := Lib.hid (S3.out.below (HK.out ▸ CC.out) b34)
              have a4 := A4.out.cell (i := 3) rfl
              have hxb := I1.out.cam p hpk c hcK
              have hgk := (D1.out.bx.ok.gv p hpk c hcK)
              have hx0 : 0 ≤ xv := by rw [HXV.out, hxb.1]; have := hgk.h3; have := hgk.h4; omega
              have hx6 : xv ≤ 60 := by rw [HXV.out, hxb.1]; omega
              have har := I1.out.ari
              have har0 : (0 : Int) ≤ (ar : Int) := by omega
              have har6 : (ar : Int) ≤ 60 := by omega
              clear b34 b4 LC a0 A3
              by_cases hcam : xv < lv
              · have ARV : Hid (Calls Try.prog 16 #[.pointer (some ⟨bb, 0, none⟩), .int .i64 p, .agg #[.int .i64 i, .int .i64 0, .int .i64 adst, .int .i64 c, .int .i64 0, .slice none 0 0]] w4 fun e w' => ∃ v, e = .returned (.int .i64 0) ∧ BxPost w4 W.heap.size k K L1 M1 (locQ L1 p c v) (mdQ M1 p c (M1.q p c ++ [⟨i, 0, adst, c, 0⟩]) (recX (M1.gv p c))) w') := Lib.hid (by
                  have := arrive_yes p c ⟨i, 0, adst, c, 0⟩ rfl D4.out.bx hpk hcK (by rw [← HLV.out, ← hxb.1, ← HXV.out]; exact hcam) (by rw [← hxb.1, ← HXV.out]; omega) (by have := U4.out.size; omega)
                  rw [LB.out] at this
                  exact this)
                have hroom : (M1.gv p c).b < (M1.gv p c).a + (M1.gv p c).c := by rw [← HLV.out, ← hxb.1, ← HXV.out]; exact hcam
                have HROOM := Lib.hid hroom
                clear hroom hxb hgk E2 E3
                go_wp2_with fail
                refine ARV.out.mono ?_
                rintro e w5 ⟨v5, rfl, q5⟩
                have D5 := D4.out.box q5
                obtain ⟨aa', am, e1, e2, e3, e4⟩ := tb_way D5 (t := 2) (by omega) (by rw [TN.out 2 (by omega)]; exact hpk) hcK
                rw [TV.out.2.2, TN.out 2 (by omega)] at e1
                obtain ⟨rfl, rfl⟩ : aa = aa' ∧ tc2 = am := by cases e1; exact ⟨rfl, rfl⟩
                unfold tbV at e2
                unfold tbX at e3
                rw [← HTB.out] at e2 e3 e4
                rw [← HXV.out] at e3
                have FN := pl_arr (f := ⟨i, 0, adst, c, 0⟩) (HK.out ▸ CC.out) HN.out I1.out D4.out LB.out TN.out TV.out C4.out U4.out hpk hcK rfl rfl HROOM.out q5 rfl
                rw [← HTB.out, ← HXV.out] at FN
                have F5 := Lib.hid FN
                clear FN D5 q5 ARV D4 C4 U4 S4 S3 D1 I1 CI1 U1 a4 A4 e1
                go_wp2_with fail
                go_meet
                exact ⟨ar + 1, gn, by go_num, rfl, F5.out⟩
              · have FN : Hid (PlSt W W.heap.size k K bb zs N CI (.slice ta0 k tc0) (.slice ta1 k tc1) (.slice (some ⟨aa, 0, none⟩) k tc2) (i + 1) ar gn w4) := Lib.hid (S4.out.next (HK.out ▸ CC.out))
                clear S4 S3 D4 C4 U4 a4 A4 D1 I1 CI1 U1 hxb hgk E2 E3
                go_wp2_with fail
                go_meet
                exact ⟨ar, gn, rfl, rfl, FN.out⟩
            by_cases hk1 : akind = 1
            · as_aux_lemma =>
              subst hk1
              obtain ⟨L1, M1, T1, hI1, hC1, hL1, hT1, hv1, hc1, hU1⟩ := S3.out
              have I1 := Lib.hid hI1; have D1 := Lib.hid hC1; have LB := Lib.hid hL1; have TN := Lib.hid hT1; have TV := Lib.hid hv1; have CI1 := Lib.hid hc1; have U1 := Lib.hid hU1
              obtain ⟨aa, am, e1, e2, e3, e4⟩ := tb_way hC1 (t := 0) (by omega) (by rw [hT1 0 (by omega)]; exact hpk) hcK
              rw [hv1.1, hT1 0 (by omega)] at e1
              obtain ⟨rfl, rfl⟩ : ta0 = some ⟨aa, 0, none⟩ ∧ tc0 = am := by cases e1; exact ⟨rfl, rfl⟩
              obtain ⟨tb, htb⟩ : ∃ tb, tb = T1.b 0 p := ⟨_, rfl⟩
              obtain ⟨xv, hxv⟩ : ∃ xv, xv = T1.x 0 p c := ⟨_, rfl⟩
              unfold tbV at e2
              unfold tbX at e3
              rw [← htb] at e2 e3 e4
              rw [← hxv] at e3
              have a4 := A3.out.cell (i := 4) rfl
              have hlm := hI1.lim p hpk c hcK
              have hlf := hI1.lft p hpk c hcK
              have htk := hC1.bx.ok.tk p hpk c hcK
              have hx0 : 0 ≤ xv := by rw [hxv, hlm.1]; have := htk.h1; have := htk.h2; omega
              have hx6 : xv ≤ 200 := by rw [hxv, hlm.1]; omega
              obtain ⟨yv, hyv⟩ : ∃ yv, yv = T1.x 1 p c := ⟨_, rfl⟩
              have hy0 : 0 ≤ yv := by rw [hyv, hlf]; have := htk.h2; omega
              have hy6 : yv ≤ 200 := by rw [hyv, hlf]; have := htk.h1; omega
              have HTB := Lib.hid htb; have HXV := Lib.hid hxv; have HYV := Lib.hid hyv
              clear hI1 hC1 hL1 hT1 hv1 hc1 hU1 e1 htb hxv hyv hlm hlf htk
              have hp0 : (0 : Int) ≤ (p : Int) := by omega
              have hpi : (p : Int) < (k : Int) := by omega
              have hc0 : (0 : Int) ≤ (c : Int) := by omega
              have hci : (c : Int) < (K : Int) := by omega
              go_upto_region 23 with (fail)
              obtain ⟨mo, hmo, hm0, hm3⟩ : ∃ mo, bits .and .i64 alim 3 = mo ∧ 0 ≤ mo ∧ mo ≤ 3 := ⟨_, rfl, (and_bd alim 3 (by decide)).1, (and_bd alim 3 (by decide)).2⟩
              rw [hmo]
              clear hmo
              have HR := pl_rai (n := mo) (HK.out ▸ CC.out) HN.out I1.out D1.out LB.out TN.out TV.out CI1.out U1.out hpk hcK hm0 hm3 (by omega)
              have D4 := Lib.hid (tb_set D1.out (t := 0) (by omega) (by rw [TN.out 0 (by omega)]; exact hpk) hcK (T1.x 0 p c + mo))
              rw [← HTB.out, ← HXV.out] at D4
              rw [← HTB.out, ← HXV.out, ← HYV.out] at HR
              go_upto_region 24 with (fail)
              obtain ⟨aa1, am, e1, f2, f3, f4⟩ := tb_way D4.out (t := 1) (by omega) (by show p < T1.n 1; rw [TN.out 1 (by omega)]; exact hpk) hcK
              rw [show (tbSet T1 0 p c (xv + mo)).v 1 = T1.v 1 from rfl, TV.out.2.1, show (tbSet T1 0 p c (xv + mo)).n 1 = k from TN.out 1 (by omega)] at e1
              obtain ⟨rfl, rfl⟩ : ta1 = some ⟨aa1, 0, none⟩ ∧ tc1 = am := by cases e1; exact ⟨rfl, rfl⟩
              obtain ⟨ub, hub⟩ : ∃ ub, ub = T1.b 1 p := ⟨_, rfl⟩
              unfold tbV at f2
              unfold tbX at f3
              rw [show (tbSet T1 0 p c (xv + mo)).b 1 p = ub from hub.symm] at f2 f3 f4
              rw [show (tbSet T1 0 p c (xv + mo)).x 1 p c = yv by show upd3 T1.x 0 p c (xv + mo) 1 p c = yv; rw [upd3_ne _ _ (by omega), HYV.out]] at f3
              rw [← hub] at HR
              clear e2 e3 e4 e1 hub a4
              go_upto_region 25 with (fail)
              obtain ⟨D5, er, hfin⟩ := HR
              obtain ⟨aa', am, e1, f2, f3, f4⟩ := tb_way D5 (t := 0) (by omega) (by show p < T1.n 0; rw [TN.out 0 (by omega)]; exact hpk) hcK
              rw [show (tbSet (tbSet T1 0 p c (xv + mo)) 1 p c (yv + mo)).v 0 = T1.v 0 from rfl, TV.out.1, show (tbSet (tbSet T1 0 p c (xv + mo)) 1 p c (yv + mo)).n 0 = k from TN.out 0 (by omega)] at e1
              obtain ⟨rfl, rfl⟩ : aa = aa' ∧ tc0 = am := by cases e1; exact ⟨rfl, rfl⟩
              unfold tbV at f2
              unfold tbX at f3
              rw [show (tbSet (tbSet T1 0 p c (xv + mo)) 1 p c (yv + mo)).b 0 p = tb from HTB.out.symm] at f2 f3
              rw [show (tbSet (tbSet T1 0 p c (xv + mo)) 1 p c (yv + mo)).x 0 p c = xv + mo by show upd3 (upd3 T1.x 0 p c (xv + mo)) 1 p c (yv + mo) 0 p c = xv + mo; rw [upd3_ne _ _ (by omega), upd3_same]] at f3
              have RA := raise_yes p c (xv + mo) D5.bx hpk hcK
              rw [er, LB.out] at RA
              have RR := Lib.hid RA
              have FI := Lib.hid hfin
              clear e1 RA hfin er D5 D4
              generalize (w3.setCell ⟨tb, c, none⟩ (.int .i64 (xv + mo))).setCell ⟨ub, c, none⟩ (.int .i64 (yv + mo)) = w5 at *
              clear f4
              go_wp2_with fail
              refine RR.out.mono ?_
              rintro e w6 ⟨rfl, q6⟩
              have FN := Lib.hid (FI.out _ q6)
              clear q6 FI RR f2 f3 S3 D1 I1 CI1 U1
              go_wp2_with fail
              go_meet
              exact ⟨ar, gn, rfl, rfl, FN.out⟩
            by_cases hk2 : akind = 2
            · as_aux_lemma =>
              subst hk2
              obtain ⟨L1, M1, T1, hI1, hC1, hL1, hT1, hv1, hc1, hU1⟩ := S3.out
              have I1 := Lib.hid hI1; have D1 := Lib.hid hC1; have LB := Lib.hid hL1; have TN := Lib.hid hT1; have TV := Lib.hid hv1; have CI1 := Lib.hid hc1; have U1 := Lib.hid hU1
              clear hI1 hC1 hL1 hT1 hv1 hc1 hU1
              have RO := Lib.hid (fun w => router_any w oa os.length oc)
              go_wp2_with fail
              refine (RO.out _).mono ?_
              rintro e w4 ⟨rfl, hw4⟩
              have b34 : Below w3.heap.size w3 w4 := by rw [hw4]; exact (Below.refl _ _).alloc (Nat.le_refl _) _
              have KB : Hid (Blk w4 w3.heap.size 22 [.slice oa os.length oc]) := Lib.hid (by rw [hw4]; exact Blk.new w3 _ _)
              clear hw4
              have D4 := Lib.hid (D1.out.below b34)
              have C4 := Lib.hid (CC.out.mono i _ w3 w4 (fun _ => False) CI1.out (Upd.of_below b34) (fun _ _ => id))
              have U4 := Lib.hid (Upd.then U1.out (Upd.of_below (S := fun _ => False) b34) fun _ _ h => h.elim)
              have ST := step_ok (route_ok w3.heap.size oa oc os ho1 ho8) D4.out.bx ⟨KB.out, (AR.out _ U4.out).2.1⟩ (by have := U4.out.size; exact this)
              rw [LB.out] at ST
              have SO := Lib.hid ST
              clear ST b34 RO D1 S3 CI1 U1
              have EN := (route_ok w3.heap.size oa oc os ho1 ho8).enter
              go_wp2_with fail
              refine SO.out.mono ?_
              rintro e w5 hq
              obtain ⟨L5, l5, b5, s1, s, h1, h2, h3, rfl, hk5⟩ := hq
              have hst : StepIs k K (rtO os) M1 s := ⟨b5, s1, h1, h2, h3⟩
              clear h1 h2 h3
              obtain ⟨mm, hfm, -⟩ := step_facts p8n D4.out.bx.ok.ptr hst
              have hl5 := step_len p8n k8 D4.out.bx.ok.qm hst
              have h6 := hk5.omv
              have h7 := hk5.ofr
              obtain ⟨ma, mc, em, _⟩ := own_shape h6
              obtain ⟨fa, fc, ef, _⟩ := own_shape h7
              rw [em] at h6 ⊢
              rw [ef] at h7 ⊢
              have efl : s.fr.length = s.mv.length := hfm.len.symm
              rw [efl] at h7 ⊢
              obtain ⟨n5, hn5⟩ : ∃ n5, n5 = s.mv.length := ⟨_, rfl⟩
              have D5 := D4.out.box hk5.bx
              obtain ⟨c5, u5⟩ := pl_bx (HK.out ▸ CC.out) HN.out D4.out C4.out U4.out hk5.bx
              have M0 : Hid (MvSt W k K zs N CI L5 M1 i T1 s w4.heap.size (.slice ma s.mv.length mc) (.slice fa s.mv.length fc) 0 w5) := Lib.hid (MvSt.start (l' := 0) D4.out D5 c5 u5 h6 (by rw [efl]; exact h7))
              have L5B : Hid (L5.bb = bb) := Lib.hid (hk5.bbe.trans LB.out)
              have HST := Lib.hid hst; have HFM := Lib.hid hfm
              have OKM := Lib.hid D4.out.bx.ok
              have hB2 := U4.out.size
              rw [← hn5] at hl5 M0 ⊢
              have HN5 := Lib.hid hn5
              clear hk5 D5 c5 u5 h6 h7 em ef efl hst hfm D4 C4 U4 SO EN KB hn5
              have hn50 : (0 : Int) ≤ (n5 : Int) := by omega
              go_wp2_with fail
              go_loopw [171] (fun iv wx => MvRel n5 (fun j wx => MvSt W k K zs N CI L5 M1 i T1 s w4.heap.size (.slice ma n5 mc) (.slice fa n5 fc) j wx) iv wx) (fun iv _ => n5 - (intOf iv).toNat)
              case atStart => exact ⟨0, Nat.zero_le _, rfl, M0.out⟩
              case round =>
                clear M0
                obtain ⟨j, hj, rfl, hM⟩ := hrel
                have MS := Lib.hid hM
                clear hM
                by_cases hlj : j < n5
                · have hji : (j : Int) < (n5 : Int) := by omega
                  obtain ⟨mj, hmj⟩ : ∃ mj, s.mv[j]? = some mj := ⟨s.mv[j]'(by rw [← HN5.out]; exact hlj), by simp [show j < s.mv.length by rw [← HN5.out]; exact hlj]⟩
                  obtain ⟨fj, hfj⟩ : ∃ fj, s.fr[j]? = some fj := ⟨s.fr[j]'(by rw [← HFM.out.len, ← HN5.out]; exact hlj), by simp [show j < s.fr.length by rw [← HFM.out.len, ← HN5.out]; exact hlj]⟩
                  obtain ⟨q, d, eq, ed, hqk, hdK, -, -, hsend⟩ := HFM.out.mem j mj fj hmj hfj
                  obtain ⟨mp, mcl, mo⟩ := mj
                  obtain rfl : mp = (q : Int) := eq
                  obtain rfl : mcl = (d : Int) := ed
                  have ho : mo = -1 ∨ ∃ o : Nat, mo = (o : Int) ∧ o < k := by
                    by_cases e : mo = -1
                    · exact .inl e
                    · obtain ⟨_, _, _, g1, g2⟩ := hsend e
                      have g1 : 0 ≤ mo := g1
                      have g2 : mo < (k : Int) := g2
                      exact .inr ⟨mo.toNat, by omega, by omega⟩
                  have hrow : wr.ownsRow w4.heap.size 34 3 (.slice ma n5 mc) s.mv.length (flC mvC s.mv) := by
                    obtain ⟨_, _, _, _, _, g, _⟩ := MS.out
                    exact g
                  obtain ⟨ok1, m0⟩ := ownC_cell mvC_len (by decide) hrow hmj (k := 0) (by decide) rfl
                  obtain ⟨_, m1⟩ := ownC_cell mvC_len (by decide) hrow hmj (k := 1) (by decide) rfl
                  obtain ⟨_, m2⟩ := ownC_cell mvC_len (by decide) hrow hmj (k := 2) (by decide) rfl
                  rw [Nat.add_zero] at m0
                  have HMJ := Lib.hid hmj
                  clear hrow hmj hfj hsend
                  have hq0 : (0 : Int) ≤ (q : Int) := by omega
                  have hqi : (q : Int) < (k : Int) := by omega
                  have hd0 : (0 : Int) ≤ (d : Int) := by omega
                  have hdi : (d : Int) < (K : Int) := by omega
                  rcases ho with rfl | ⟨o, rfl, hok⟩
                  · have hmk : (-1 : Int) < (k : Int) := by omega
                    have MN : Hid (MvSt W k K zs N CI L5 M1 i T1 s w4.heap.size (.slice ma n5 mc) (.slice fa n5 fc) (j + 1) (wr.alloc (.cells #[.int .i64 q, .int .i64 d, .int .i64 (-1)] 34))) := Lib.hid ((MS.out.drop HMJ.out rfl).below (HK.out ▸ CC.out) ((Below.refl _ _).alloc (Nat.le_refl _) _))
                    go_wp2_with fail
                    go_roundw
                    case rel => exact ⟨j + 1, by omega, by go_num, MN.out⟩
                    case measure => simp [intOf]; omega
                  · have ho0 : (0 : Int) ≤ (o : Int) := by omega
                    have hoi : (o : Int) < (k : Int) := by omega
                    have MA := MS.out.below (HK.out ▸ CC.out) ((Below.refl _ _).alloc (Nat.le_refl _) (.cells #[.int .i64 q, .int .i64 d, .int .i64 o] 34))
                    go_upto_region 37 with (fail)
                    obtain ⟨wm, hwm⟩ : ∃ wm, wm = wr.alloc (.cells #[.int .i64 q, .int .i64 d, .int .i64 o] 34) := ⟨_, rfl⟩
                    obtain ⟨mb, hmb⟩ : ∃ mb, mb = wr.heap.size := ⟨_, rfl⟩
                    have MB : Hid (Blk wm mb 34 (mvC ⟨q, d, o⟩)) := Lib.hid (by rw [hwm, hmb]; exact Blk.new wr _ (mvC ⟨q, d, o⟩))
                    rw [← hwm] at MA ⊢
                    rw [← hmb]
                    obtain ⟨y, y1, y2, ⟨a1, n1, e1, e2⟩, ycl, yv, yn⟩ := MvSt.send (HK.out ▸ CC.out) HN.out TN.out hok hdK rfl rfl (MA.below (HK.out ▸ CC.out) (Qt.refl wm).drew.bel) HMJ.out
                    rw [TV.out.2.1] at e1
                    obtain ⟨rfl, rfl⟩ : ta1 = some ⟨a1, 0, none⟩ ∧ tc1 = n1 := by cases e1; exact ⟨rfl, rfl⟩
                    have hlf := I1.out.lft o hok d hdK
                    have hlm := I1.out.lim o hok d hdK
                    have htk := OKM.out.tk o hok d hdK
                    have hy1 : y ≤ 1000000 := by rw [yv, hlf]; have := htk.h1; omega
                    have hy0 : -1000000 ≤ y := by rw [yv, hlf]; have := htk.h2; have := HN5.out; omega
                    have YN := Lib.hid yn; have Y1 := Lib.hid y1; have E2 := Lib.hid e2
                    obtain ⟨ub, hub⟩ : ∃ ub, ub = T1.b 1 o := ⟨_, rfl⟩
                    rw [← hub] at YN Y1 E2 y2
                    have b0 := MB.out.cell (i := 2) rfl
                    have b1 := MB.out.cell (i := 1) rfl
                    clear yn y1 e2 hlf hlm htk yv ycl e1 hub hmb hwm MA m0 m1 m2
                    refine wp_region_lastH (fun wx => wx.cell? ⟨a1, o, none⟩ = some (.slice (some ⟨ub, 0, none⟩) K K) ∧ wx.cell? ⟨ub, d, none⟩ = some (.int .i64 y) ∧ wx.cell? ⟨mb, 1, none⟩ = some (.int .i64 d) ∧ wx.cell? ⟨mb, 2, none⟩ = some (.int .i64 o)) 11 12 (by kernel_rfl) (by kernel_rfl) rfl rfl ?_ (fun hHeld => ?_)
                    · (exact ⟨E2.out, Y1.out, b1, b0⟩)
                    simp only [nopFor, List.set_cons_succ, List.set_cons_zero]
                    refine wpAnyH_takeL (i := 0) (v := ?_) rfl (by kernel_rfl) (by kernel_rfl) (by kernel_rfl) (fun _ _ _ h => h) rfl ?_ hHeld ?_
                    rotate_left
                    · intro w hSw
                      try dsimp only at hSw
                      go_simp
                      all_goals with_reducible rfl
                    try simp only [Act.put, List.setIfInBounds_toArray, List.set_cons_zero, List.set_cons_succ]
                    refine wpAnyH_takeL (i := 1) (v := ?_) rfl (by kernel_rfl) (by kernel_rfl) (by kernel_rfl) (fun _ _ _ h => h) rfl ?_ hHeld ?_
                    rotate_left
                    · intro w hSw
                      try dsimp only at hSw
                      go_simp
                      all_goals with_reducible rfl
                    try simp only [Act.put, List.setIfInBounds_toArray, List.set_cons_zero, List.set_cons_succ]
                    refine wpAnyH_takeL (i := 2) (v := ?_) rfl (by kernel_rfl) (by kernel_rfl) (by kernel_rfl) (fun _ _ _ h => h) rfl ?_ hHeld ?_
                    rotate_left
                    · intro w hSw
                      try dsimp only at hSw
                      go_simp
                      all_goals with_reducible rfl
                    try simp only [Act.put, List.setIfInBounds_toArray, List.set_cons_zero, List.set_cons_succ]
                    refine wpAnyH_takeL (i := 3) (v := ?_) rfl (by kernel_rfl) (by kernel_rfl) (by kernel_rfl) (fun _ _ _ h => h) rfl ?_ hHeld ?_
                    rotate_left
                    · intro w hSw
                      try dsimp only at hSw
                      go_simp
                      all_goals with_reducible rfl
                    try simp only [Act.put, List.setIfInBounds_toArray, List.set_cons_zero, List.set_cons_succ]
                    refine wpAnyH_takeL (i := 4) (v := ?_) rfl (by kernel_rfl) (by kernel_rfl) (by kernel_rfl) (fun _ _ _ h => h) rfl ?_ hHeld ?_
                    rotate_left
                    · intro w hSw
                      try dsimp only at hSw
                      go_simp
                      all_goals with_reducible rfl
                    try simp only [Act.put, List.setIfInBounds_toArray, List.set_cons_zero, List.set_cons_succ]
                    refine wpAnyH_takeL (i := 5) (v := ?_) rfl (by kernel_rfl) (by kernel_rfl) (by kernel_rfl) (fun _ _ _ h => h) rfl ?_ hHeld ?_
                    rotate_left
                    · intro w hSw
                      try dsimp only at hSw
                      go_simp
                      all_goals with_reducible rfl
                    try simp only [Act.put, List.setIfInBounds_toArray, List.set_cons_zero, List.set_cons_succ]
                    refine wpAnyH_takeL (i := 6) (v := ?_) rfl (by kernel_rfl) (by kernel_rfl) (by kernel_rfl) (fun _ _ _ h => h) rfl ?_ hHeld ?_
                    rotate_left
                    · intro w hSw
                      try dsimp only at hSw
                      go_simp
                      all_goals with_reducible rfl
                    try simp only [Act.put, List.setIfInBounds_toArray, List.set_cons_zero, List.set_cons_succ]
                    refine wpAnyH_takeL (i := 7) (v := ?_) rfl (by kernel_rfl) (by kernel_rfl) (by kernel_rfl) (fun _ _ _ h => h) rfl ?_ hHeld ?_
                    rotate_left
                    · intro w hSw
                      try dsimp only at hSw
                      go_simp
                      all_goals with_reducible rfl
                    try simp only [Act.put, List.setIfInBounds_toArray, List.set_cons_zero, List.set_cons_succ]
                    refine wpAnyH_takeL (i := 8) (v := ?_) rfl (by kernel_rfl) (by kernel_rfl) (by kernel_rfl) (fun _ _ _ h => h) rfl ?_ hHeld ?_
                    rotate_left
                    · intro w hSw
                      try dsimp only at hSw
                      go_simp
                      all_goals with_reducible rfl
                    try simp only [Act.put, List.setIfInBounds_toArray, List.set_cons_zero, List.set_cons_succ]
                    refine wpAnyH_takeL (i := 9) (v := ?_) rfl (by kernel_rfl) (by kernel_rfl) (by kernel_rfl) (fun _ _ _ h => h) rfl ?_ hHeld ?_
                    rotate_left
                    · intro w hSw
                      try dsimp only at hSw
                      go_simp
                      all_goals with_reducible rfl
                    try simp only [Act.put, List.setIfInBounds_toArray, List.set_cons_zero, List.set_cons_succ]
                    refine wpAnyH_takeL (i := 10) (v := ?_) rfl (by kernel_rfl) (by kernel_rfl) (by kernel_rfl) (fun _ _ _ h => h) rfl ?_ hHeld ?_
                    rotate_left
                    · intro w hSw
                      try dsimp only at hSw
                      go_simp
                      all_goals with_reducible rfl
                    try simp only [Act.put, List.setIfInBounds_toArray, List.set_cons_zero, List.set_cons_succ]
                    refine wpAnyH_takeL (i := 11) (v := ?_) rfl (by kernel_rfl) (by kernel_rfl) (by kernel_rfl) (fun _ _ _ h => h) rfl ?_ hHeld ?_
                    rotate_left
                    · intro w hSw
                      try dsimp only at hSw
                      go_simp
                      all_goals with_reducible rfl
                    try simp only [Act.put, List.setIfInBounds_toArray, List.set_cons_zero, List.set_cons_succ]
                    refine wpAnyH_done (by kernel_rfl) ?_ _
                    rw [LastQ_normal]
                    clear hHeld
                    have y3 := Y1.out
                    go_wp2_with fail
                    go_roundw
                    case rel => exact ⟨j + 1, by omega, by go_num, YN.out⟩
                    case measure => simp [intOf]; omega
                · obtain rfl : j = n5 := by omega
                  go_upto_region 39 with (fail)
                  have FI := MvSt.fin (bb := bb) (v0 := .slice ta0 k tc0) (v1 := .slice ta1 k tc1) (v2 := .slice ta2 k tc2) (HK.out ▸ CC.out) HN.out hB2 TN.out OKM.out HST.out HFM.out I1.out (by rw [← HN5.out]; exact hl5) (by omega) L5B.out TV.out HN5.out MS.out
                  rw [← HN5.out] at FI
                  have FC := Lib.hid FI
                  have EN := CC.out.enter
                  have hgn := I1.out.sum
                  have har := I1.out.ari
                  have hgn0 : (0 : Int) ≤ (gn : Int) := by omega
                  have hgn6 : (gn : Int) ≤ 60 := by omega
                  have hn6 : (j : Int) ≤ 5000 := by omega
                  clear FI MS hgn har a0 A3
                  go_wp2_with fail
                  refine FC.out.mono ?_
                  rintro e w7 ⟨rfl, hS7⟩
                  have S7 := Lib.hid hS7
                  clear hS7 FC EN
                  go_wp2_with fail
                  go_meet
                  exact ⟨ar, gn + j, rfl, by go_num, S7.out⟩
            have FN : Hid (PlSt W W.heap.size k K bb zs N CI (.slice ta0 k tc0) (.slice ta1 k tc1) (.slice ta2 k tc2) (i + 1) ar gn w3) := Lib.hid (S3.out.next (HK.out ▸ CC.out))
            clear S3 A3
            go_wp2_with fail
            go_meet
            exact ⟨ar, gn, rfl, rfl, FN.out⟩
          case rest =>
            obtain ⟨ar', gn', rfl, rfl, hS'⟩ := hcut
            have FN := Lib.hid hS'
            clear hS' x0 x1 x2 x3 x4
            go_wp2_with fail
            go_roundw
            case rel => exact ⟨i + 1, by omega, by go_num, ar', gn', rfl, rfl, FN.out⟩
            case measure => simp [intOf]; omega
        · obtain rfl : i = acts.length := by omega
          obtain ⟨L1, M1, T1, hI1, hC1, hL1, hT1, hv1, hc1, hU1⟩ := S1.out
          have FN : Hid (PlayEnd W k K zs N CI bb acts.length ar gn wr) := Lib.hid ⟨L1, M1, T1.x, hI1, hC1.bx, hL1, hc1, hU1⟩
          clear hI1 hC1 hL1 hT1 hv1 hc1 hU1 S1
          go_wp2_with fail
          refine bodyPost_ret (v := .tuple #[.pointer (some ⟨bb, 0, none⟩), .int .i64 ar, .int .i64 gn, .bool true]) (by simp [results, Try.results11, go_sem]) rfl ?_
          exact ⟨bb, ar, gn, rfl, by rw [HK.out]; exact FN.out⟩
end Go.Proofs.Ytkooihniieepcaa
