/-
  The post's send.
-/
import Derived.Test.YtkaaoomliepijaaGreatQWp
import Derived.Test.YtkaaoomliepijaaGreatQBoxQ
namespace Go.Proofs.YtkaaoomliepijaaGreat
open Go.RowKit
set_option linter.unusedVariables false

/-- The box gives bytes if none are pending. -/
def SendA (x x1 : PoV) (tick most : Int) : Prop := (x.pl ≠ [] ∧ x1 = x) ∨ (x.pl = [] ∧ ∃ ov, x1 = { x with ms := nextM x.ms tick most, pv := ov, pl := nextW x.ms tick most })
/-- The writer takes bytes and sends. -/
def SendB (x x' : PoV) (L pl most : Nat) : Prop := ∃ kv pv : Value,
  ((x.t.write L).goes = true ∧ ∃ (fv : Value) (f : Fl), f.pl = pl ∧ f.d = encH x.t.nx ((x.t.write L).snd most) ++ ((x.ks ++ x.pl.take (x.t.wrN L)).drop (x.t.nx - x.t.ba)).take ((x.t.write L).snd most) ∧
    x' = { x with kv := kv, ks := x.ks ++ x.pl.take (x.t.wrN L), pv := pv, pl := x.pl.drop (x.t.wrN L), t := (x.t.write L).tick most, fv := fv, fl := x.fl ++ [f] }) ∨
  ((x.t.write L).goes = false ∧ x' = { x with kv := kv, ks := x.ks ++ x.pl.take (x.t.wrN L), pv := pv, pl := x.pl.drop (x.t.wrN L), t := (x.t.write L).tick most })
def SendQ (B pb tick pl most : Nat) (T : Nat → Int) (x : PoV) (w' : World) : Prop := ∃ (x1 x' : PoV) (col' : Nat → Nat) (L : Nat), SendA x x1 ((tick : Int) + 1) most ∧ L = x1.t.tk + x1.pl.length ∧ SendB x1 x' L pl most ∧ PoS w' B col' T x' pb (tick + 1)
theorem sa_eq {x x1 : PoV} {tick most : Int} (h : SendA x x1 tick most) : x1.t = x.t ∧ x1.ks = x.ks ∧ x1.b = x.b ∧ x1.wb = x.wb ∧ x1.fl = x.fl := by
  rcases h with ⟨_, rfl⟩ | ⟨_, ov, rfl⟩ <;> exact ⟨rfl, rfl, rfl, rfl, rfl⟩
theorem fl_blk (w : World) (pl : Int) (v : Value) : Blk (w.alloc (.cells #[.int .i64 pl, v] 38)) w.heap.size 38 [.int .i64 pl, v] := Blk.new w 38 [.int .i64 pl, v]
set_option maxHeartbeats 16000000 in
set_option maxRecDepth 100000 in
theorem send_w (w : World) (B pb tick pl most : Nat) (col : Nat → Nat) (T : Nat → Int) (x : PoV) (h : PoS w B col T x pb tick) (hms : x.ms.length ≤ 900) (htk : tick ≤ 100000) (hpl : pl ≤ 1) (hm1 : 1 ≤ most) (hm2 : most ≤ 1000) (hx5 : x.pl.length ≤ 10000)
    (hA : ∀ x1, SendA x x1 ((tick : Int) + 1) most → ∃ L, WtI L x1.t ∧ L ≤ 1900 ∧ x1.ks.length = x1.t.tk - x1.t.ba ∧ x1.pl.length = L - x1.t.tk ∧ x1.fl.length ≤ 5000) :
    Calls Tryz.prog 9 #[.pointer (some ⟨pb, 0, none⟩), .int .i64 pl, .int .i64 most] w fun e w' => e = .returned (.tuple #[]) ∧ SendQ B pb tick pl most T x w' := by
  have P1 := Lib.hid (PoF.set h 8 (.int .i64 ((tick : Int) + 1)))
  have q8 : w.cell? ⟨pb, 8, none⟩ = some (.int .i64 tick) := h.p.cell rfl
  have pbz := h.p.lt
  have pbf := h.p.free
  obtain ⟨pa, pm, pc, epv⟩ : ∃ a m c, x.pv = .slice a m c := by obtain ⟨a, c, e⟩ := h.m.pn.h.shape; exact ⟨a, _, c, e⟩
  have hpm : pm = x.pl.length := by
    obtain ⟨a, c, e⟩ := h.m.pn.h.shape
    rw [epv] at e
    injection e
  have EPV := Lib.hid epv
  replace hpm := Lib.hid hpm
  have ew : IntKind.i64.wrap ((tick : Int) + 1) = (tick : Int) + 1 := IntWalk.i64_in _ (by omega)
  replace hA := Lib.hid hA
  clear h
  go_enter Tryz.func9, Tryz.ntmps9
  go_upto_region 1 with (fail)
  have r0 : (w.setCell ⟨pb, 8, none⟩ (.int .i64 ((tick : Int) + 1))).cell? ⟨pb, 0, none⟩ = some (.pointer (some ⟨x.b, 0, none⟩)) := P1.out.p.cell rfl
  have r4 : (w.setCell ⟨pb, 8, none⟩ (.int .i64 ((tick : Int) + 1))).cell? ⟨pb, 4, none⟩ = some x.pv := P1.out.p.cell rfl
  have r8 : (w.setCell ⟨pb, 8, none⟩ (.int .i64 ((tick : Int) + 1))).cell? ⟨pb, 8, none⟩ = some (.int .i64 ((tick : Int) + 1)) := P1.out.p.cell rfl
  rw [epv] at r4
  generalize w.setCell ⟨pb, 8, none⟩ (.int .i64 ((tick : Int) + 1)) = w1 at *
  clear q8 pbz pbf epv
  go_upto_if 24 with (fail)
  go_cut [] (fun wx => ∃ (x1 : PoV) (col1 : Nat → Nat), Hid (SendA x x1 ((tick : Int) + 1) most) ∧ Hid (PoS wx B col1 T x1 pb (tick + 1)))
  case first =>
    by_cases e0 : x.pl = []
    · have hp0 : pm = 0 := by rw [hpm.out, e0]; rfl
      subst hp0
      have NX := Lib.hid (fun w' (q : Below w1.heap.size w1 w') => next_po (P1.out.bel0 q) hms ((tick : Int) + 1) most (by omega))
      go_upto_region 2 with (fail)
      refine wp_region_allH (fun wx => wx.cell? ⟨pb, 0, none⟩ = some (.pointer (some ⟨x.b, 0, none⟩)) ∧ wx.cell? ⟨pb, 8, none⟩ = some (.int .i64 ((tick : Int) + 1))) 14 (by kernel_rfl) rfl ?_ (fun hHeld => ?_)
      · (exact ⟨r0, r8⟩)
      refine wpAnyH_takeG (i := 0) (v := ?_) rfl (by kernel_rfl) (by kernel_rfl) (by kernel_rfl) (fun _ _ _ h => h) rfl ?_ hHeld ?_
      rotate_left
      · intro w hSw
        try dsimp only at hSw
        go_simp
        all_goals with_reducible rfl
      try simp only [Act.put, List.setIfInBounds_toArray, List.set_cons_zero, List.set_cons_succ]
      refine wpAnyH_takeG (i := 1) (v := ?_) rfl (by kernel_rfl) (by kernel_rfl) (by kernel_rfl) (fun _ _ _ h => h) rfl ?_ hHeld ?_
      rotate_left
      · intro w hSw
        try dsimp only at hSw
        go_simp
        all_goals with_reducible rfl
      try simp only [Act.put, List.setIfInBounds_toArray, List.set_cons_zero, List.set_cons_succ]
      refine wpAnyH_takeG (i := 2) (v := ?_) rfl (by kernel_rfl) (by kernel_rfl) (by kernel_rfl) (fun _ _ _ h => h) rfl ?_ hHeld ?_
      rotate_left
      · intro w hSw
        try dsimp only at hSw
        go_simp
        all_goals with_reducible rfl
      try simp only [Act.put, List.setIfInBounds_toArray, List.set_cons_zero, List.set_cons_succ]
      refine wpAnyH_takeG (i := 3) (v := ?_) rfl (by kernel_rfl) (by kernel_rfl) (by kernel_rfl) (fun _ _ _ h => h) rfl ?_ hHeld ?_
      rotate_left
      · intro w hSw
        try dsimp only at hSw
        go_simp
        all_goals with_reducible rfl
      try simp only [Act.put, List.setIfInBounds_toArray, List.set_cons_zero, List.set_cons_succ]
      refine wpAnyH_takeG (i := 4) (v := ?_) rfl (by kernel_rfl) (by kernel_rfl) (by kernel_rfl) (fun _ _ _ h => h) rfl ?_ hHeld ?_
      rotate_left
      · intro w hSw
        try dsimp only at hSw
        go_simp
        all_goals with_reducible rfl
      try simp only [Act.put, List.setIfInBounds_toArray, List.set_cons_zero, List.set_cons_succ]
      refine wpAnyH_takeG (i := 5) (v := ?_) rfl (by kernel_rfl) (by kernel_rfl) (by kernel_rfl) (fun _ _ _ h => h) rfl ?_ hHeld ?_
      rotate_left
      · intro w hSw
        try dsimp only at hSw
        go_simp
        all_goals with_reducible rfl
      try simp only [Act.put, List.setIfInBounds_toArray, List.set_cons_zero, List.set_cons_succ]
      refine wpAnyH_takeG (i := 6) (v := ?_) rfl (by kernel_rfl) (by kernel_rfl) (by kernel_rfl) (fun _ _ _ h => h) rfl ?_ hHeld ?_
      rotate_left
      · intro w hSw
        try dsimp only at hSw
        go_simp
        all_goals with_reducible rfl
      try simp only [Act.put, List.setIfInBounds_toArray, List.set_cons_zero, List.set_cons_succ]
      refine wpAnyH_takeG (i := 7) (v := ?_) rfl (by kernel_rfl) (by kernel_rfl) (by kernel_rfl) (fun _ _ _ h => h) rfl ?_ hHeld ?_
      rotate_left
      · intro w hSw
        try dsimp only at hSw
        go_simp
        all_goals with_reducible rfl
      try simp only [Act.put, List.setIfInBounds_toArray, List.set_cons_zero, List.set_cons_succ]
      refine wpAnyH_takeG (i := 8) (v := ?_) rfl (by kernel_rfl) (by kernel_rfl) (by kernel_rfl) (fun _ _ _ h => h) rfl ?_ hHeld ?_
      rotate_left
      · intro w hSw
        try dsimp only at hSw
        go_simp
        all_goals with_reducible rfl
      try simp only [Act.put, List.setIfInBounds_toArray, List.set_cons_zero, List.set_cons_succ]
      refine wpAnyH_takeG (i := 9) (v := ?_) rfl (by kernel_rfl) (by kernel_rfl) (by kernel_rfl) (fun _ _ _ h => h) rfl ?_ hHeld ?_
      rotate_left
      · intro w hSw
        try dsimp only at hSw
        go_simp
        all_goals with_reducible rfl
      try simp only [Act.put, List.setIfInBounds_toArray, List.set_cons_zero, List.set_cons_succ]
      refine wpAnyH_step (i := 10) (by kernel_rfl) rfl (fun KK hK => ?_)
      (go_simp; refine (NX.out _ (Below.drewQ (Below.refl _ _))).mono ?_; rintro e w2 ⟨ov, col2, rfl, hP2⟩; obtain ⟨oa, om, oc, rfl⟩ : ∃ a m c, ov = .slice a m c := (by obtain ⟨a, c, e⟩ := hP2.m.pn.h.shape; exact ⟨a, _, c, e⟩); have P3 := Lib.hid (hP2.set 4 (.slice oa om oc)); have K2 := Lib.hid ((⟨hP2.p.cell rfl, hP2.p.cell rfl⟩ : w2.cell? ⟨pb, 0, none⟩ = some (.pointer (some ⟨x.b, 0, none⟩)) ∧ w2.cell? ⟨pb, 8, none⟩ = some (.int .i64 ((tick : Int) + 1)))); have K3 := Lib.hid ((⟨P3.out.p.cell rfl, P3.out.p.cell rfl⟩ : (w2.setCell ⟨pb, 4, none⟩ (.slice oa om oc)).cell? ⟨pb, 0, none⟩ = some (.pointer (some ⟨x.b, 0, none⟩)) ∧ (w2.setCell ⟨pb, 4, none⟩ (.slice oa om oc)).cell? ⟨pb, 8, none⟩ = some (.int .i64 ((tick : Int) + 1)))); have y4 : w2.cell? ⟨pb, 4, none⟩ = some x.pv := (hP2.p.cell rfl); have yz := hP2.p.lt; have yf := hP2.p.free; rw [EPV.out] at y4; clear hP2; go_wp2_with fail)
      refine hK.out _ _ ?_ (fun hHeld => ?_)
      · (first | exact ⟨r0, r8⟩ | exact K2.out | exact K3.out)
      clear hK KK
      try simp only [Act.put, List.setIfInBounds_toArray, List.set_cons_zero, List.set_cons_succ]
      refine wpAnyH_takeG (i := 11) (v := ?_) rfl (by kernel_rfl) (by kernel_rfl) (by kernel_rfl) (fun _ _ _ h => h) rfl ?_ hHeld ?_
      rotate_left
      · intro w hSw
        try dsimp only at hSw
        go_simp
        all_goals with_reducible rfl
      try simp only [Act.put, List.setIfInBounds_toArray, List.set_cons_zero, List.set_cons_succ]
      refine wpAnyH_takeG (i := 12) (v := ?_) rfl (by kernel_rfl) (by kernel_rfl) (by kernel_rfl) (fun _ _ _ h => h) rfl ?_ hHeld ?_
      rotate_left
      · intro w hSw
        try dsimp only at hSw
        go_simp
        all_goals with_reducible rfl
      try simp only [Act.put, List.setIfInBounds_toArray, List.set_cons_zero, List.set_cons_succ]
      refine wpAnyH_step (i := 13) (by kernel_rfl) rfl (fun KK hK => ?_)
      (go_simp)
      refine hK.out _ _ ?_ (fun hHeld => ?_)
      · (first | exact ⟨r0, r8⟩ | exact K2.out | exact K3.out)
      clear hK KK
      try simp only [Act.put, List.setIfInBounds_toArray, List.set_cons_zero, List.set_cons_succ]
      refine wpAnyH_done (by kernel_rfl) ?_ _
      go_wp2_with fail
      go_meet
      exact ⟨_, col2, .inr ⟨e0, .slice oa om oc, rfl⟩, P3.out⟩
    · have hp0 : ¬ pm = 0 := by rw [hpm.out]; intro e; exact e0 (List.eq_nil_of_length_eq_zero e)
      have hp1 : ((pm : Int) == 0) = false := by rw [beq_eq_false_iff_ne]; omega
      go_wp2_with fail
      go_meet
      exact ⟨x, col, .inl ⟨e0, rfl⟩, P1.out⟩
  case rest =>
    clear P1 r0 r4 r8 hpm
    obtain ⟨x1, col1, SA, P2⟩ := hcut
    obtain ⟨L, I1, hL, hk1, hp1, hf1⟩ := hA.out x1 SA.out
    obtain ⟨a1, a2, a3, a4, a5, a6⟩ : (x1.t.ba ≤ x1.t.nx ∧ x1.t.nx ≤ x1.t.tp ∧ x1.t.tp ≤ x1.t.tk ∧ x1.t.tk ≤ L ∧ x1.t.tk ≤ x1.t.ba + 24 ∧ x1.t.idl ≤ 2) := ⟨I1.a1, I1.a2, I1.a3, I1.a4, I1.a5, I1.a6⟩
    obtain ⟨n, hn⟩ : ∃ n, x1.t.wrN L = n := ⟨_, rfl⟩
    have hn0 : n = min (L - x1.t.tk) (24 - (x1.t.tk - x1.t.ba)) := by rw [← hn]; rfl
    obtain ⟨da, dm, dc, edv⟩ : ∃ a m c, x1.pv = .slice a m c := by obtain ⟨a, c, e⟩ := P2.out.m.pn.h.shape; exact ⟨a, _, c, e⟩
    have hdm : dm = x1.pl.length := by
      obtain ⟨a, c, e⟩ := P2.out.m.pn.h.shape
      rw [edv] at e
      injection e
    have DV := Lib.hid edv
    have z1 : wc.cell? ⟨pb, 1, none⟩ = some (.pointer (some ⟨x1.wb, 0, none⟩)) := P2.out.p.cell rfl
    have z4 : wc.cell? ⟨pb, 4, none⟩ = some x1.pv := P2.out.p.cell rfl
    rw [edv] at z4
    have WR := fun w' (q : Below wc.heap.size wc w') => write_po (PoF.bel0 P2.out q) (by omega) a5 (by omega) (by omega) (by omega)
    rw [edv] at WR
    replace WR := Lib.hid WR
    have II := Lib.hid I1; have HN := Lib.hid hn; have HN0 := Lib.hid hn0; have HDM := Lib.hid hdm; have HK := Lib.hid hk1; have HP := Lib.hid hp1
    replace hf1 := Lib.hid hf1
    clear edv I1 hn hn0 hdm hk1 hp1
    go_upto_region 3 with (fail)
    refine wp_region_allH (fun wx => wx.cell? ⟨pb, 1, none⟩ = some (.pointer (some ⟨x1.wb, 0, none⟩)) ∧ wx.cell? ⟨pb, 4, none⟩ = some (.slice da dm dc)) 14 (by kernel_rfl) rfl ?_ (fun hHeld => ?_)
    · (exact ⟨z1, z4⟩)
    refine wpAnyH_takeG (i := 0) (v := ?_) rfl (by kernel_rfl) (by kernel_rfl) (by kernel_rfl) (fun _ _ _ h => h) rfl ?_ hHeld ?_
    rotate_left
    · intro w hSw
      try dsimp only at hSw
      go_simp
      all_goals with_reducible rfl
    try simp only [Act.put, List.setIfInBounds_toArray, List.set_cons_zero, List.set_cons_succ]
    refine wpAnyH_takeG (i := 1) (v := ?_) rfl (by kernel_rfl) (by kernel_rfl) (by kernel_rfl) (fun _ _ _ h => h) rfl ?_ hHeld ?_
    rotate_left
    · intro w hSw
      try dsimp only at hSw
      go_simp
      all_goals with_reducible rfl
    try simp only [Act.put, List.setIfInBounds_toArray, List.set_cons_zero, List.set_cons_succ]
    refine wpAnyH_takeG (i := 2) (v := ?_) rfl (by kernel_rfl) (by kernel_rfl) (by kernel_rfl) (fun _ _ _ h => h) rfl ?_ hHeld ?_
    rotate_left
    · intro w hSw
      try dsimp only at hSw
      go_simp
      all_goals with_reducible rfl
    try simp only [Act.put, List.setIfInBounds_toArray, List.set_cons_zero, List.set_cons_succ]
    refine wpAnyH_takeG (i := 3) (v := ?_) rfl (by kernel_rfl) (by kernel_rfl) (by kernel_rfl) (fun _ _ _ h => h) rfl ?_ hHeld ?_
    rotate_left
    · intro w hSw
      try dsimp only at hSw
      go_simp
      all_goals with_reducible rfl
    try simp only [Act.put, List.setIfInBounds_toArray, List.set_cons_zero, List.set_cons_succ]
    refine wpAnyH_takeG (i := 4) (v := ?_) rfl (by kernel_rfl) (by kernel_rfl) (by kernel_rfl) (fun _ _ _ h => h) rfl ?_ hHeld ?_
    rotate_left
    · intro w hSw
      try dsimp only at hSw
      go_simp
      all_goals with_reducible rfl
    try simp only [Act.put, List.setIfInBounds_toArray, List.set_cons_zero, List.set_cons_succ]
    refine wpAnyH_takeG (i := 5) (v := ?_) rfl (by kernel_rfl) (by kernel_rfl) (by kernel_rfl) (fun _ _ _ h => h) rfl ?_ hHeld ?_
    rotate_left
    · intro w hSw
      try dsimp only at hSw
      go_simp
      all_goals with_reducible rfl
    try simp only [Act.put, List.setIfInBounds_toArray, List.set_cons_zero, List.set_cons_succ]
    refine wpAnyH_takeG (i := 6) (v := ?_) rfl (by kernel_rfl) (by kernel_rfl) (by kernel_rfl) (fun _ _ _ h => h) rfl ?_ hHeld ?_
    rotate_left
    · intro w hSw
      try dsimp only at hSw
      go_simp
      all_goals with_reducible rfl
    try simp only [Act.put, List.setIfInBounds_toArray, List.set_cons_zero, List.set_cons_succ]
    refine wpAnyH_takeG (i := 7) (v := ?_) rfl (by kernel_rfl) (by kernel_rfl) (by kernel_rfl) (fun _ _ _ h => h) rfl ?_ hHeld ?_
    rotate_left
    · intro w hSw
      try dsimp only at hSw
      go_simp
      all_goals with_reducible rfl
    try simp only [Act.put, List.setIfInBounds_toArray, List.set_cons_zero, List.set_cons_succ]
    refine wpAnyH_step (i := 8) (by kernel_rfl) rfl (fun KK hK => ?_)
    (go_simp; refine (WR.out _ (Below.drewQ (Below.refl _ _))).mono ?_; rintro e w3 ⟨n3, kv, col3, hn3, rfl, hP3⟩; have en3 : n3 = n := (by have := HN0.out; have := HP.out; rw [hn3]; omega); subst en3; clear hn3; have P3 := Lib.hid hP3; have z43 : w3.cell? ⟨pb, 4, none⟩ = some (.slice da dm dc) := (hP3.p.cell rfl); have z10 : w3.cell? ⟨pb, 10, none⟩ = some (.bool true) := hP3.p.cell rfl; have K3 := Lib.hid ((⟨hP3.p.cell rfl, z43⟩ : w3.cell? ⟨pb, 1, none⟩ = some (.pointer (some ⟨x1.wb, 0, none⟩)) ∧ w3.cell? ⟨pb, 4, none⟩ = some (.slice da dm dc))); have z3z := hP3.p.lt; have z3f := hP3.p.free; clear hP3; go_wp2_with fail)
    refine hK.out _ _ ?_ (fun hHeld => ?_)
    · (first | exact ⟨z1, z4⟩ | exact K3.out)
    clear hK KK
    try simp only [Act.put, List.setIfInBounds_toArray, List.set_cons_zero, List.set_cons_succ]
    refine wpAnyH_takeG (i := 9) (v := ?_) rfl (by kernel_rfl) (by kernel_rfl) (by kernel_rfl) (fun _ _ _ h => h) rfl ?_ hHeld ?_
    rotate_left
    · intro w hSw
      try dsimp only at hSw
      go_simp
      all_goals with_reducible rfl
    try simp only [Act.put, List.setIfInBounds_toArray, List.set_cons_zero, List.set_cons_succ]
    refine wpAnyH_takeG (i := 10) (v := ?_) rfl (by kernel_rfl) (by kernel_rfl) (by kernel_rfl) (fun _ _ _ h => h) rfl ?_ hHeld ?_
    rotate_left
    · intro w hSw
      try dsimp only at hSw
      go_simp
      all_goals with_reducible rfl
    try simp only [Act.put, List.setIfInBounds_toArray, List.set_cons_zero, List.set_cons_succ]
    refine wpAnyH_takeG (i := 11) (v := ?_) rfl (by kernel_rfl) (by kernel_rfl) (by kernel_rfl) (fun _ _ _ h => h) rfl ?_ hHeld ?_
    rotate_left
    · intro w hSw
      try dsimp only at hSw
      go_simp
      all_goals with_reducible rfl
    try simp only [Act.put, List.setIfInBounds_toArray, List.set_cons_zero, List.set_cons_succ]
    refine wpAnyH_takeG (i := 12) (v := ?_) rfl (by kernel_rfl) (by kernel_rfl) (by kernel_rfl) (fun _ _ _ h => h) rfl ?_ hHeld ?_
    rotate_left
    · intro w hSw
      try dsimp only at hSw
      go_simp
      all_goals with_reducible rfl
    try simp only [Act.put, List.setIfInBounds_toArray, List.set_cons_zero, List.set_cons_succ]
    refine wpAnyH_takeG (i := 13) (v := ?_) rfl (by kernel_rfl) (by kernel_rfl) (by kernel_rfl) (fun _ _ _ h => h) rfl ?_ hHeld ?_
    rotate_left
    · intro w hSw
      try dsimp only at hSw
      go_simp
      all_goals with_reducible rfl
    try simp only [Act.put, List.setIfInBounds_toArray, List.set_cons_zero, List.set_cons_succ]
    refine wpAnyH_done (by kernel_rfl) ?_ _
    clear K3 WR hHeld z1 z4
    have P4 := Lib.hid (P3.out.set 10 (.bool true))
    clear P2
    go_upto_region 5 with (fail)
    have y4 : (w3.setCell ⟨pb, 10, none⟩ (.bool true)).cell? ⟨pb, 4, none⟩ = some (.slice da dm dc) := P4.out.p.cell rfl
    generalize w3.setCell ⟨pb, 10, none⟩ (.bool true) = w4 at *
    have y4z := P4.out.p.lt
    have y4f := P4.out.p.free
    clear P3 z43 z10 z3z z3f
    go_cut [] (fun wx => ∃ v5, Hid (PoF wx B col3 T { x1 with kv := kv, ks := x1.ks ++ x1.pl.take n3, t := { x1.t with tk := x1.t.tk + n3 }, pv := v5, pl := x1.pl.drop n3 } pb (poC x1 v5 x1.fv x1.dv x1.ov (tick + 1) x1.t.rd true)))
    case first =>
      have hv : Vw (Value.int .u8) 5 w4 B (.slice da dm dc) x1.pl := P4.out.m.pn.h
      have hnd : n3 ≤ dm := by have := HN0.out; have := HDM.out; have := HP.out; omega
      rcases hv with ⟨e1, e2⟩ | ⟨g, o, c', e1, v1, v2, v3, v4, v5⟩
      · injection e1 with e1 e3 e4
        subst e1 e3 e4
        have hn0 : n3 = 0 := by omega
        subst hn0
        have C5 := Lib.hid ((cut_po P4.out rfl 0 (Nat.zero_le _)).set 4 (.slice none 0 0))
        go_wp2_with fail
        go_meet
        exact ⟨.slice none 0 0, C5.out⟩
      · injection e1 with e1 e3 e4
        subst e1 e4
        have hdc : dm ≤ dc := by omega
        obtain ⟨A, hAA⟩ : ∃ A, (if dc = n3 then some (⟨g, o, none⟩ : Addr) else some ⟨g, o + n3, none⟩) = A := ⟨_, rfl⟩
        have CV := cutV_eq hAA hnd hdc
        have C5 := (cut_po P4.out rfl n3 (by show n3 ≤ x1.pl.length; have := HDM.out; omega)).set 4 (.slice A (dm - n3) (dc - n3))
        rw [CV] at C5
        replace C5 := Lib.hid C5
        have k4 : (n3 : Int) ≤ (dm : Int) := by omega
        have k5 : (n3 : Int) ≤ (dc : Int) := by omega
        have k6 : (dm : Int) ≤ (dc : Int) := by omega
        unfold maxLen at v4
        clear CV v5 e3
        go_wp2_with fail
        go_meet
        exact ⟨.slice A (dm - n3) (dc - n3), C5.out⟩
    case rest =>
      obtain ⟨v5, P5⟩ := hcut
      clear P4 y4 y4z y4f
      have I5 : Hid (WtI L { x1.t with tk := x1.t.tk + n3 }) := by
        have := II.out.write
        unfold Wt.write at this
        rw [HN.out] at this
        exact this
      have ewr : Hid (x1.t.write L = { x1.t with tk := x1.t.tk + n3 }) := by
        show _ = _
        unfold Wt.write
        rw [HN.out]
      have hk5 : Hid ((x1.ks ++ x1.pl.take n3).length = x1.t.tk + n3 - x1.t.ba) := by
        have h1 := HK.out; have h2 := HP.out; have h3 := HN0.out
        show _ = _
        rw [List.length_append, List.length_take]; omega
      have TK := Lib.hid (tick_po P5.out I5.out (by omega) hk5.out most hm1 (by omega))
      have z1 : wc.cell? ⟨pb, 1, none⟩ = some (.pointer (some ⟨x1.wb, 0, none⟩)) := P5.out.p.cell rfl
      obtain ⟨gg, hgg⟩ : ∃ gg, Wt.goes { x1.t with tk := x1.t.tk + n3 } = gg := ⟨_, rfl⟩
      have hsn : gg = true → Wt.snd { x1.t with tk := x1.t.tk + n3 } most ≤ 24 ∧ x1.t.nx + Wt.snd { x1.t with tk := x1.t.tk + n3 } most ≤ x1.t.tk + n3 := fun e => by
        rw [e] at hgg
        unfold Wt.goes at hgg
        simp only [Bool.and_eq_true, decide_eq_true_eq] at hgg
        unfold Wt.snd
        dsimp only
        omega
      replace hgg := Lib.hid hgg
      replace hsn := Lib.hid hsn
      go_wp2_with fail
      refine TK.out.mono ?_
      rintro e w6 ⟨cv, he, hr, hP6⟩
      change e = tickE (Wt.goes { x1.t with tk := x1.t.tk + n3 }) x1.t.nx cv at he
      change Wt.goes { x1.t with tk := x1.t.tk + n3 } = true → _ at hr
      rw [hgg.out] at he hr
      have P6 := Lib.hid hP6
      have y10 : w6.cell? ⟨pb, 10, none⟩ = some (.bool true) := hP6.p.cell rfl
      have yz := hP6.p.lt
      clear hP6 TK P5 z1
      cases gg with
      | false =>
        unfold tickE tickNone at he
        rw [if_neg (by decide)] at he
        subst he
        clear hr
        have P7 := Lib.hid (P6.out.bel0 (alloc_belQ w6 (.cells #[.int .i64 0, .slice none 0 0, .bool false] 67)))
        go_wp2_with fail
        go_end0
        refine ⟨rfl, ?_⟩
        unfold SendQ
        refine ⟨x1, _, paint wc col3 40, L, SA.out, by have := HP.out; omega, ⟨kv, v5, .inr ⟨by rw [ewr.out]; exact hgg.out, rfl⟩⟩, ?_⟩
        unfold PoS
        dsimp only
        rw [ewr.out, HN.out, (tick_ph _ _).2.2.2.2.2]
        exact P7.out
      | true =>
        unfold tickE at he
        rw [if_pos rfl] at he
        subst he
        obtain ⟨sd, hsd⟩ : ∃ sd, Wt.snd { x1.t with tk := x1.t.tk + n3 } most = sd := ⟨_, rfl⟩
        have hs1 := hsn.out rfl
        rw [hsd] at hs1
        obtain ⟨dd, hdd⟩ : ∃ dd, ((x1.ks ++ x1.pl.take n3).drop (x1.t.nx - x1.t.ba)).take sd = dd := ⟨_, rfl⟩
        have hdl : dd.length = sd := by
          have := hk5.out
          rw [← hdd, List.length_take, List.length_drop, this]
          omega
        have hr6 : Rw (Value.int .u8) 5 w6 wc.heap.size cv dd := by
          have := hr rfl
          rw [hsd, hdd] at this
          exact this
        obtain ⟨ca, cc, rfl, -⟩ := id hr6
        rw [hdl] at hr6 ⊢
        clear hr
        have A7 := alloc_belQ w6 (.cells #[.int .i64 x1.t.nx, .slice ca sd cc, .bool false] 67)
        have EN := encode_any (w6.alloc (.cells #[.int .i64 x1.t.nx, .slice ca sd cc, .bool false] 67)) x1.t.nx cc ca dd (hr6.sl.below A7) (by omega) (by omega)
        rw [hdl] at EN
        replace EN := Lib.hid EN
        have P7 := Lib.hid (P6.out.bel0 A7)
        have S7 := Lib.hid (sg_cells3 w6 x1.t.nx ca sd cc)
        have s0 := S7.out.cell (i := 0) rfl
        have s1 := S7.out.cell (i := 1) rfl
        have s2 := S7.out.cell (i := 2) rfl
        have hz7 : Hid ((w6.alloc (.cells #[.int .i64 x1.t.nx, .slice ca sd cc, .bool false] 67)).heap.size = w6.heap.size + 1) := by show _ = _; simp
        have HDD := Lib.hid hdd; have HSD := Lib.hid hsd; have HDL := Lib.hid hdl; have HS1 := Lib.hid hs1
        obtain ⟨i1, hi, hz0, hz1, hz2⟩ := info_parts Tryz.infoFl
        have JI := Lib.hid hi; have JZ0 := Lib.hid hz0; have JZ1 := Lib.hid hz1; have JZ2 := Lib.hid hz2
        clear hr6 A7 P6 hsd hdl hdd hs1 hi hz0 hz1 hz2
        go_wp2_with fail
        refine EN.out.mono ?_
        rintro e w8 ⟨cv8, rfl, hr8, hB8⟩
        rw [hz7.out] at hr8 hB8
        have P8 := Lib.hid (P7.out.bel (by rw [hz7.out]; exact hB8) (fun k hk => paint_old (w := w6.alloc (.cells #[.int .i64 x1.t.nx, .slice ca sd cc, .bool false] 67)) (c := 25) hk))
        have y108 : w8.cell? ⟨pb, 10, none⟩ = some (.bool true) := P8.out.p.cell rfl
        have yz8 := P8.out.p.lt
        have yf8 := P8.out.p.free
        have hpb8 : pb < w6.heap.size := yz
        obtain ⟨ca8, cm8, cc8, ecv⟩ : ∃ a m c, cv8 = .slice a m c := by obtain ⟨a, c, e, _⟩ := id hr8; exact ⟨a, _, c, e⟩
        have HR8 := Lib.hid hr8
        subst ecv
        have P9 := Lib.hid (P8.out.set 10 (.bool true))
        have HR9 := Lib.hid (HR8.out.upd ((Upd.refl (fun k => k = pb) w8).setCell ⟨pb, 10, none⟩ (.bool true) (fun _ => rfl)) (fun k hk e => by have := (HR8.out.lt hk).1; omega))
        clear EN P7 S7 s0 s1 s2 hr8 hB8 P8
        go_upto_region 10 with (fail)
        have y5 : (w8.setCell ⟨pb, 10, none⟩ (.bool true)).cell? ⟨pb, 5, none⟩ = some x1.fv := P9.out.p.cell rfl
        obtain ⟨fa, fc, efv⟩ := flv_shape P9.out
        have EFV := Lib.hid (show x1.fv = .slice fa x1.fl.length fc from efv)
        rw [EFV.out] at y5
        clear y108 HR8
        generalize w8.setCell ⟨pb, 10, none⟩ (.bool true) = w9 at *
        have HL8 : Hid (cm8 = (encH x1.t.nx sd ++ dd).length) := by
          obtain ⟨a, c, e, _⟩ := id HR9.out
          injection e
        obtain ⟨ff, hff⟩ : ∃ ff : Fl, ff = ⟨pl, ca8, cc8, encH x1.t.nx sd ++ dd⟩ := ⟨_, rfl⟩
        have evf : Hid (flV ff = [.int .i64 pl, .slice ca8 cm8 cc8]) := by show _ = _; rw [hff, HL8.out]; rfl
        have A9 := alloc_belQ w9 (.cells #[.int .i64 pl, .slice ca8 cm8 cc8] 38)
        have P10 := Lib.hid (P9.out.bel0 A9)
        have HR10 := Lib.hid (HR9.out.below A9)
        have FB := Lib.hid (fl_blk w9 pl (.slice ca8 cm8 cc8))
        have hcc : Hid (∀ j u, (flV ff)[j]? = some u → okAd (some ⟨w9.heap.size, 0, none⟩) = true ∧ (w9.alloc (.cells #[.int .i64 pl, .slice ca8 cm8 cc8] 38)).cell? (adr (some ⟨w9.heap.size, 0, none⟩) j) = some u) := fun j u hj => by
          rw [evf.out] at hj
          rw [adr_mk, Nat.zero_add]
          exact ⟨rfl, FB.out.cell hj⟩
        have hfl5 := hf1.out
        replace hff := Lib.hid hff
        have hbb9 : B ≤ w9.heap.size := P9.out.m.bs
        have y9z := P9.out.p.lt
        clear efv A9 P9 HR9
        generalize hfn : x1.fl.length = fn at *
        replace hfn := Lib.hid hfn
        go_wp2_with (at_builtin; refine wpList_append_cells rfl _ _ 30 rfl B 38 i1 _ 2 32 Tryz.underlying30 JI.out JZ0.out JZ1.out JZ2.out rfl (by decide) x1.fv fn (flC flV x1.fl) EFV.out.symm (by rw [← hfn.out]; exact P10.out.m.fy.h) (some ⟨w9.heap.size, 0, none⟩) 1 1 (flV ff) (by simp [Act.eval, Act.put]) rfl hcc.out (flV_one ff) ?c1 ?c2 ?c3 ?_)
        case c1 => unfold maxLen; omega
        case c2 => omega
        case c3 => simp; omega
        intro v11 w11 g1 g2 g3
        obtain ⟨va11, vc11, rfl, -⟩ := own_shape g1
        have hBw : B ≤ w6.heap.size + 1 := by have := P10.out.bb; omega
        have hin : (Value.slice ff.a ff.d.length ff.c) = .slice ca8 cm8 cc8 := by rw [hff.out, HL8.out]
        have P11 := Lib.hid (fly_po P10.out (f := ff) (by rw [hin, hff.out]; exact HR10.out.low hBw) (fun k hk => by rw [hin] at hk; exact paint_new (by rw [hz7.out]; exact (HR10.out.lt hk).1)) (by show w11.ownsRow B _ 2 _ (x1.fl.length + 1) _; rw [hfn.out]; exact g1) (Upd.of_grownV g2) (by
          rcases g3 with g3 | g3
          · exact .inl g3
          · refine .inr fun g hg => ?_
            rw [g3] at hg
            injection hg with hg
            simp; omega))
        have y55 : w11.cell? ⟨pb, 5, none⟩ = some (.slice fa fn fc) := by
          have : w11.cell? ⟨pb, 5, none⟩ = some x1.fv := P11.out.p.cell rfl
          rw [this, EFV.out]
        have y5z := P11.out.p.lt
        have y5f := P11.out.p.free
        have P12 := Lib.hid (P11.out.set 5 (.slice va11 (fn + 1) vc11))
        clear g1 g2 g3 P10 HR10 FB hcc y5 P11
        go_wp2_with fail
        go_end0
        refine ⟨rfl, ?_⟩
        unfold SendQ
        refine ⟨x1, _, ?cc, L, SA.out, by have := HP.out; omega, ⟨kv, v5, .inl ⟨by rw [ewr.out]; exact hgg.out, .slice va11 (fn + 1) vc11, ff, by rw [hff.out], ?_, rfl⟩⟩, ?_⟩
        rotate_left 2
        · unfold PoS
          dsimp only
          rw [ewr.out, HN.out, (tick_ph _ _).2.2.2.2.2]
          exact P12.out
        · have e1 := hff.out
          have e2 := congrArg Fl.d e1
          rw [e2, ewr.out, HN.out, HSD.out, HDD.out]
end Go.Proofs.YtkaaoomliepijaaGreat
