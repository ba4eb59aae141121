/-
  Contract of the law's reserved: the rates of a filling can be reserved, and no more.
-/
import Derived.Test.YtbdaehcngmhhcaaBkL
import Derived.Test.YtbdaehcngmhhcaaRt
namespace Go.Proofs.Ytbdaehcngmhhcaa
open Go.RowKit
set_option linter.unusedVariables false

/-- What is left of the links when p flows hold their rates. -/
def lfX (N : Nt) (r : Nat → Int) (p : Nat) (l : Nat) : Int := lft N r l p * 25
structure RdAt (w wr : World) (bb mb n lc : Nat) (la : Option Addr) (m : Nat) (N : Nt) (r : Nat → Int) (p : Nat) : Prop where
  u : Below w.heap.size w wr
  b : 0 < n → ∃ (lb : Nat) (sp : List Value) (cp lf : Nat → Rq) (F : Nat → Option Rs) (k : Nat), la = some ⟨lb, 0, none⟩ ∧ k ≤ p ∧ BkB w wr bb mb lb n lc sp cp lf k F ∧ (∀ l < n, Rp1 uW (lf l) (lfX N r p l)) ∧ ∀ i : Nat, p ≤ i → F i = none
def Rd1Rel (w : World) (bb mb n lc : Nat) (la : Option Addr) (m : Nat) (N : Nt) (r : Nat → Int) (ix : Value) (wr : World) : Prop := ∃ p : Nat, p ≤ m ∧ ix = .int .i64 p ∧ Hid (RdAt w wr bb mb n lc la m N r p)
structure Rd2At (w wr : World) (bb mb n lc : Nat) (la : Option Addr) (m : Nat) (N : Nt) (r : Nat → Int) (q : Nat) : Prop where
  u : Below w.heap.size w wr
  b : 0 < n → ∃ (lb : Nat) (sp : List Value) (cp lf : Nat → Rq) (F : Nat → Option Rs) (k : Nat), la = some ⟨lb, 0, none⟩ ∧ k ≤ m + q ∧ BkB w wr bb mb lb n lc sp cp lf k F ∧ (∀ l < n, Rp1 uW (lf l) (lfX N r m l)) ∧ F 1000 = none
def Rd2Rel (w : World) (bb mb n lc : Nat) (la : Option Addr) (m : Nat) (N : Nt) (r : Nat → Int) (ix : Value) (wr : World) : Prop := ∃ p : Nat, p ≤ m ∧ ix = .int .i64 p ∧ Hid (Rd2At w wr bb mb n lc la m N r p)
section
variable {N : Nt} {caps : List Rq} {fls : List Fw} {V : Int} {fz : Nat → Bool} {r : Nat → Int}
theorem filt_len {α : Type} (p : α → Bool) : ∀ l : List α, l.length = (l.filter p).length + (l.filter fun x => !p x).length
  | [] => rfl
  | x :: l => by
    have ih := filt_len p l
    cases h : p x <;> simp [List.filter_cons, h] <;> omega
theorem nodup_len (n : Nat) (lk : List Int) (hr : ∀ x ∈ lk, 0 ≤ x ∧ x < n) (hd : ∀ (j : Nat) x, lk[j]? = some x → x ∉ lk.take j) : lk.length ≤ n := by
  induction n generalizing lk with
  | zero =>
    cases lk with
    | nil => simp
    | cons x l => have := hr x (by simp); omega
  | succ n ih =>
    have key : ∀ l : List Int, (∀ (j : Nat) x, l[j]? = some x → x ∉ l.take j) → (∀ (j : Nat) x, (l.filter (· ≠ (n : Int)))[j]? = some x → x ∉ (l.filter (· ≠ (n : Int))).take j) ∧ l.length ≤ (l.filter (· ≠ (n : Int))).length + 1 := by
      intro l hl
      have hp : l.Pairwise (· ≠ ·) := by
        rw [List.pairwise_iff_getElem]
        intro i j hi hj hij e
        refine hl j l[j] (by simp [hj]) ?_
        rw [← e]
        exact List.mem_take_iff_getElem.2 ⟨i, by omega, rfl⟩
      refine ⟨?_, ?_⟩
      · have hp2 := hp.filter (· ≠ (n : Int))
        rw [List.pairwise_iff_getElem] at hp2
        intro j x hj hm
        obtain ⟨i, hi, e⟩ := List.mem_take_iff_getElem.1 hm
        have hjl := get_lt hj
        have e2 : (l.filter (· ≠ (n : Int)))[j] = x := by
          rw [List.getElem?_eq_getElem hjl] at hj
          exact Option.some.inj hj
        exact hp2 i j (by omega) hjl (by omega) (e.trans e2.symm)
      · have h1 : l.length = (l.filter (· ≠ (n : Int))).length + (l.filter fun x => !(decide (x ≠ (n : Int)))).length := by
          exact filt_len (fun x => decide (x ≠ (n : Int))) l
        have h2 : (l.filter fun x => !(decide (x ≠ (n : Int)))).length ≤ 1 := by
          have hp3 := hp.filter fun x => !(decide (x ≠ (n : Int)))
          match hq : l.filter fun x => !(decide (x ≠ (n : Int))) with
          | [] => simp
          | [x] => simp
          | x :: y :: t =>
            rw [hq] at hp3
            have hx : x ∈ l.filter fun x => !(decide (x ≠ (n : Int))) := by rw [hq]; simp
            have hy : y ∈ l.filter fun x => !(decide (x ≠ (n : Int))) := by rw [hq]; simp
            have ex : x = n := by have := (List.mem_filter.1 hx).2; simpa using this
            have ey : y = n := by have := (List.mem_filter.1 hy).2; simpa using this
            have := (List.pairwise_cons.1 hp3).1 y (by simp)
            exact absurd (ex.trans ey.symm) this
        omega
    obtain ⟨k1, k2⟩ := key lk hd
    have := ih (lk.filter (· ≠ (n : Int))) (fun x hx => by
      obtain ⟨h1, h2⟩ := List.mem_filter.1 hx
      have h3 := hr x h1
      have h4 : x ≠ (n : Int) := by simpa using h2
      omega) k1
    omega
/-- A flow's links, as Reserve takes them. -/
theorem NtPk.lnk (h : NtPk N caps fls) {w : World} {ca fa : Option Addr} (hn : NetAt w ca fa caps fls) {i : Nat} {f : Fw} (hf : fls[i]? = some f) : LnkOk w caps.length f.la f.lc f.lk := by
  have hm := List.mem_of_getElem? hf
  have h1 := h.v
  unfold netB at h1
  rw [Bool.and_eq_true] at h1
  have h2 := List.all_eq_true.1 h1.2 f hm
  unfold flB at h2
  simp only [Bool.and_eq_true, decide_eq_true_eq] at h2
  have hd : ∀ (j : Nat) x, f.lk[j]? = some x → x ∉ f.lk.take j := fun j x hj => by
    have h3 := List.all_eq_true.1 h2.1.2 j (List.mem_range.2 (get_lt hj))
    unfold lkAt at h3
    simp only [Bool.and_eq_true, Bool.not_eq_true', decide_eq_false_iff_not] at h3
    rw [List.getD_eq_getElem?_getD, hj] at h3
    exact h3.2
  have hl := nodup_len caps.length f.lk (h.K i f hf) hd
  have := h.cl
  exact ⟨hn.l f hm, hn.k f hm, by omega, h2.1.1, h.K i f hf, hd⟩
end
theorem keep3u {S : Nat → Prop} {w w' : World} (u : Upd S w w') {a0 a1 a2 : Addr} {v0 v1 v2 : Value} (h : w.cell? a0 = some v0 ∧ w.cell? a1 = some v1 ∧ w.cell? a2 = some v2) (h0 : ¬ S a0.block) (h1 : ¬ S a1.block) (h2 : ¬ S a2.block) :
    w'.cell? a0 = some v0 ∧ w'.cell? a1 = some v1 ∧ w'.cell? a2 = some v2 := by
  have key : ∀ {a : Addr} {x : Value}, w.cell? a = some x → ¬ S a.block → w'.cell? a = some x := fun ha hb => by rw [u.cell (World.block_lt_of_cell? _ _ ha) hb]; exact ha
  exact ⟨key h.1 h0, key h.2.1 h1, key h.2.2 h2⟩
theorem lfX_bd {N : Nt} {V : Int} {fz : Nat → Bool} {r : Nat → Int} (hO : NtOk N) (hF : Fill N V uU fz r) (hf : ∀ i < N.m, fz i = true) {l p : Nat} (hl : l < N.L) (hp : p ≤ N.m) : 0 ≤ lfX N r p l ∧ lfX N r p l ≤ uW := by
  have h1 := lft_ge hF hf hl hp
  have h2 := lft_le hF hf l hp
  have h3 := (hO.C l hl).2.2
  have e1 : uU = 1244160 := rfl
  have e2 : uW = 31104000 := rfl
  unfold lfX
  omega
theorem lfX_succ {N : Nt} {r : Nat → Int} {caps : List Rq} {fls : List Fw} (hI : NtIs N caps fls) {p l : Nat} {f : Fw} (hf : fls[p]? = some f) (hl : l < N.L) : lfX N r (p + 1) l = lfX N r p l - if (l : Int) ∈ f.lk then r p * 25 else 0 := by
  have h1 := (hI.f p f hf).1 l hl
  unfold lfX
  rw [lft_succ, h1]
  by_cases h : (l : Int) ∈ f.lk <;> simp [h] <;> omega
set_option maxRecDepth 100000 in
set_option maxHeartbeats 4000000 in
theorem reserved_any (w : World) (ca fa : Option Addr) (cc fc : Nat) (caps : List Rq) (fls : List Fw) (N : Nt) (h : NetAt w ca fa caps fls) (hP : NtPk N caps fls) (rb : Nat) (R : Nat → Rq) (r : Nat → Int) (fz : Nat → Bool) (V : Int)
    (hr : Blk w rb 29 (flC rC ((List.range fls.length).map R))) (hR : ∀ i < fls.length, Rp1 uU (R i) (r i)) (hF : Fill N V uU fz r) (hf : ∀ i < fls.length, fz i = true) :
    Calls Try.prog 8 #[netV ca fa cc fc caps fls, .slice (some ⟨rb, 0, none⟩) fls.length fls.length] w fun e w' => e = .returned (.bool true) ∧ Below w.heap.size w w' := by
  have e1 : uU = 1244160 := rfl
  have e2 : uW = 31104000 := rfl
  have hml := hP.ml
  have hcl := hP.cl
  have hNL := hP.is.L
  have hNm := hP.is.m
  have hfN : ∀ i < N.m, fz i = true := fun i hi => hf i (by omega)
  have NW := fun w' (q : Below w.heap.size w w') => new_any w' ca cc caps N.C ((h.below q).c) hcl (fun l c hc => ⟨hP.is.c l c hc, (hP.ok.C l (by have := get_lt hc; omega)).2⟩)
  have H := Lib.hid h
  have HP := Lib.hid hP
  have HR := Lib.hid hR
  have HF := Lib.hid hF
  have HFZ := Lib.hid hfN
  have RB := Lib.hid hr
  have hrz := hr.lt
  clear h hP hR hF hf hfN hr
  unfold netV
  generalize hnn : caps.length = n at *
  generalize hmm : fls.length = m at *
  have HNN := Lib.hid hnn
  have HMM := Lib.hid hmm
  clear hnn hmm
  go_enter Try.func8, Try.ntmps8
  go_wp2_with fail
  refine (NW _ (alloc_belQ _ _)).mono ?_
  rintro e w2 ⟨bb, mb, la, lc, rfl, hB⟩
  rw [HNN.out] at hB
  have U1 := Lib.hid (alloc_belQ w (.cells #[.slice ca n cc, .slice fa m fc] 25))
  have X := Lib.hid (Blk.new w 25 [.slice ca n cc, .slice fa m fc])
  have hw1 : (w.alloc (.cells #[.slice ca n cc, .slice fa m fc] 25)).heap.size = w.heap.size + 1 := by simp
  generalize w.alloc (.cells #[.slice ca n cc, .slice fa m fc] 25) = W1 at *
  have T0 : Hid (RdAt W1 w2 bb mb n lc la m N r 0) := by
    refine ⟨hB.u, fun hn => ?_⟩
    obtain ⟨lb, sp, hla, hBB⟩ := hB.norm hn
    refine ⟨lb, sp, _, _, _, 0, hla, Nat.le_refl _, hBB, fun l hl => ?_, fun _ _ => rfl⟩
    have hlc : l < caps.length := by rw [HNN.out]; exact hl
    have hc : caps[l]? = some caps[l] := by simp [hlc]
    have h1 := (capG_rp hc (HP.out.is.c l _ hc)).up
    unfold lfX
    rw [lft_zero]
    exact h1
  clear NW hB
  have x1 := (X.out.bel T0.out.u).cell (i := 1) rfl
  go_wp2_with fail
  clear x1
  go_loopw [26] (fun ix wr => Rd1Rel W1 bb mb n lc la m N r ix wr) (fun ix _ => m - (intOf ix).toNat)
  case atStart => exact ⟨0, Nat.zero_le _, rfl, T0⟩
  case round =>
    clear T0
    obtain ⟨p, hp, rfl, T⟩ := hrel
    by_cases hpm : p < m
    · obtain ⟨f, ef, okf, fl, fb', fn, fd⟩ := ((H.out.below U1.out).below T.out.u).f.f (k := p) (by rw [HMM.out]; exact hpm)
      have LN := HP.out.lnk (H.out.below U1.out) ef.out
      have hn0 : 0 < n := by
        have hne := LN.ne
        cases hlk : f.lk with
        | nil => exact absurd hlk hne
        | cons y l => have := LN.r y (by rw [hlk]; simp); rw [HNN.out] at this; omega
      rw [HNN.out] at LN
      obtain ⟨lb, sp, cp, lf, F, k, rfl, hk, hBB, hlf, hFn⟩ := T.out.b hn0
      have hz := (HR.out p hpm).up
      have hrp := HF.out.rt p (by omega) (HFZ.out p (by omega))
      have hLX : ∀ l < n, Rp1 uW (lf l) (lfX N r p l) ∧ 0 ≤ lfX N r p l ∧ lfX N r p l ≤ uW := fun l hl => ⟨hlf l hl, lfX_bd HP.out.ok HF.out HFZ.out (by omega) (by omega)⟩
      have RV := fun wx (q : Below wr.heap.size wr wx) => reserve_any W1 wx bb mb lb n lc sp cp lf k F (hBB.below q) (by omega) (by omega) (lfX N r p) hLX f.la f.lc f.lk LN p (by omega) (hFn p (Nat.le_refl _)) (R p) (r p * 25) hz (by omega)
      have OK := Lib.hid (fun (e : Ending) (w0 w' : World) (hp' : RvPost W1 w0 bb mb lb n lc sp cp lf k F (lfX N r p) p f.lk (R p) (r p * 25) e w') => (by
        rcases hp' with ⟨l, he, ⟨y, hy, hlt⟩, _⟩ | ⟨he, hall, lf', g, c', hB', hx', hs', hg', hu'⟩
        · exfalso
          have hyr := LN.r y hy
          have hon : N.on y.toNat p = true := by
            rw [(HP.out.is.f p f ef.out).1 y.toNat (by omega)]
            simpa [Int.toNat_of_nonneg hyr.1] using hy
          have h1 := lft_room HF.out HFZ.out (by omega : y.toNat < N.L) (by omega : p < N.m) hon
          unfold lfX at hlt
          omega
        · exact ⟨he, ⟨hB'.u, fun _ => ⟨lb, sp, cp, lf', _, k + 1, rfl, by omega, hB', fun l hl => by rw [lfX_succ HP.out.is ef.out (by omega)]; exact hx' l hl, fun i hi => by unfold updF; rw [if_neg (by omega)]; exact hFn i (by omega)⟩⟩, hu'⟩ :
        e = .returned (.tuple #[.int .i64 (-1), .int .i64 0]) ∧ RdAt W1 w' bb mb n lc (some ⟨lb, 0, none⟩) m N r (p + 1) ∧ Upd (fun j => j = lb ∨ j = mb) w0 w'))
      have hlz := hBB.l.lt
      have hmz := hBB.m.lt
      have hl_ := hBB.l_
      have hm_ := hBB.m_
      have ge : ((List.range m).map R)[p]? = some (R p) := by simp [hpm]
      have RB2 := (RB.out.bel U1.out).bel (T.out.u.mono (Nat.le_refl _))
      have r0 : wr.cell? ⟨rb, p * 2, none⟩ = some (.int .i64 (R p).n) := RB2.cell (i := p * 2 + 0) (by rw [flC_get rC_len ge 0 (by omega)]; rfl)
      have r1 : wr.cell? ⟨rb, p * 2 + 1, none⟩ = some (.int .i64 (R p).d) := RB2.cell (by rw [flC_get rC_len ge 1 (by omega)]; rfl)
      clear ge RB2 hz hrp hLX hlf hFn hBB LN ef
      generalize R p = rp at *
      obtain ⟨rp1, rp2⟩ := rp
      obtain ⟨fla, flc, lk, bd, ⟨dn, dd⟩⟩ := f
      unfold rV at RV
      dsimp only at *
      obtain ⟨L, hL⟩ : ∃ L, lk.length = L := ⟨_, rfl⟩
      rw [hL] at RV fl
      replace RV := Lib.hid RV
      have T8 := Lib.hid (Blk.new wr 35 [.slice fla L flc, .bool bd, .int .i64 dn, .int .i64 dd])
      have UA := Lib.hid ((alloc_belQ wr (.cells #[.slice fla L flc, .bool bd, .int .i64 dn, .int .i64 dd] 35)).trans (Qt.below (Qt.refl _).drew _))
      have hU1 := U1.out.size
      have hpm2 : (p : Int) < (m : Int) := by omega
      go_upto_region 7 with (fail)
      refine wp_region_allH (fun wx => wx.cell? ⟨wr.heap.size, 0, none⟩ = some (.slice fla L flc) ∧ wx.cell? ⟨rb, p * 2, none⟩ = some (.int .i64 rp1) ∧ wx.cell? ⟨rb, p * 2 + 1, none⟩ = some (.int .i64 rp2)) 14 (by kernel_rfl) rfl ?_ (fun hHeld => ?_)
      · (exact ⟨T8.out.cell rfl, bel_cell UA.out r0, bel_cell UA.out r1⟩)
      refine wpAnyH_takeG (i := 0) (v := ?_) rfl (by kernel_rfl) (by kernel_rfl) (by kernel_rfl) (fun _ _ _ h => h) rfl ?_ hHeld ?_
      rotate_left
      · intro w hSw
        try dsimp only at hSw
        go_simp
        all_goals with_reducible rfl
      try simp only [Act.put, List.setIfInBounds_toArray, List.set_cons_zero, List.set_cons_succ]
      refine wpAnyH_takeG (i := 1) (v := ?_) rfl (by kernel_rfl) (by kernel_rfl) (by kernel_rfl) (fun _ _ _ h => h) rfl ?_ hHeld ?_
      rotate_left
      · intro w hSw
        try dsimp only at hSw
        go_simp
        all_goals with_reducible rfl
      try simp only [Act.put, List.setIfInBounds_toArray, List.set_cons_zero, List.set_cons_succ]
      refine wpAnyH_takeG (i := 2) (v := ?_) rfl (by kernel_rfl) (by kernel_rfl) (by kernel_rfl) (fun _ _ _ h => h) rfl ?_ hHeld ?_
      rotate_left
      · intro w hSw
        try dsimp only at hSw
        go_simp
        all_goals with_reducible rfl
      try simp only [Act.put, List.setIfInBounds_toArray, List.set_cons_zero, List.set_cons_succ]
      refine wpAnyH_takeG (i := 3) (v := ?_) rfl (by kernel_rfl) (by kernel_rfl) (by kernel_rfl) (fun _ _ _ h => h) rfl ?_ hHeld ?_
      rotate_left
      · intro w hSw
        try dsimp only at hSw
        go_simp
        all_goals with_reducible rfl
      try simp only [Act.put, List.setIfInBounds_toArray, List.set_cons_zero, List.set_cons_succ]
      refine wpAnyH_takeG (i := 4) (v := ?_) rfl (by kernel_rfl) (by kernel_rfl) (by kernel_rfl) (fun _ _ _ h => h) rfl ?_ hHeld ?_
      rotate_left
      · intro w hSw
        try dsimp only at hSw
        go_simp
        all_goals with_reducible rfl
      try simp only [Act.put, List.setIfInBounds_toArray, List.set_cons_zero, List.set_cons_succ]
      refine wpAnyH_takeG (i := 5) (v := ?_) rfl (by kernel_rfl) (by kernel_rfl) (by kernel_rfl) (fun _ _ _ h => h) rfl ?_ hHeld ?_
      rotate_left
      · intro w hSw
        try dsimp only at hSw
        go_simp
        all_goals with_reducible rfl
      try simp only [Act.put, List.setIfInBounds_toArray, List.set_cons_zero, List.set_cons_succ]
      refine wpAnyH_takeG (i := 6) (v := ?_) rfl (by kernel_rfl) (by kernel_rfl) (by kernel_rfl) (fun _ _ _ h => h) rfl ?_ hHeld ?_
      rotate_left
      · intro w hSw
        try dsimp only at hSw
        go_simp
        all_goals with_reducible rfl
      try simp only [Act.put, List.setIfInBounds_toArray, List.set_cons_zero, List.set_cons_succ]
      refine wpAnyH_takeG (i := 7) (v := ?_) rfl (by kernel_rfl) (by kernel_rfl) (by kernel_rfl) (fun _ _ _ h => h) rfl ?_ hHeld ?_
      rotate_left
      · intro w hSw
        try dsimp only at hSw
        go_simp
        all_goals with_reducible rfl
      try simp only [Act.put, List.setIfInBounds_toArray, List.set_cons_zero, List.set_cons_succ]
      refine wpAnyH_step (i := 8) (by kernel_rfl) rfl (fun KK hK => ?_)
      ((go_simp; go_at_call 23; (with_reducible refine (RV.out _ UA.out).mono ?_); rintro e w4 hpost; obtain ⟨rfl, T4, hu4⟩ := OK.out e _ w4 hpost))
      refine hK.out _ _ ?_ (fun hHeld => ?_)
      · (exact keep3u hu4 hHeld (by dsimp only; omega) (by dsimp only; omega) (by dsimp only; omega))
      clear hK KK
      try simp only [Act.put, List.setIfInBounds_toArray, List.set_cons_zero, List.set_cons_succ]
      refine wpAnyH_takeG (i := 9) (v := ?_) rfl (by kernel_rfl) (by kernel_rfl) (by kernel_rfl) (fun _ _ _ h => h) rfl ?_ hHeld ?_
      rotate_left
      · intro w hSw
        try dsimp only at hSw
        go_simp
        all_goals with_reducible rfl
      try simp only [Act.put, List.setIfInBounds_toArray, List.set_cons_zero, List.set_cons_succ]
      refine wpAnyH_takeG (i := 10) (v := ?_) rfl (by kernel_rfl) (by kernel_rfl) (by kernel_rfl) (fun _ _ _ h => h) rfl ?_ hHeld ?_
      rotate_left
      · intro w hSw
        try dsimp only at hSw
        go_simp
        all_goals with_reducible rfl
      try simp only [Act.put, List.setIfInBounds_toArray, List.set_cons_zero, List.set_cons_succ]
      refine wpAnyH_takeG (i := 11) (v := ?_) rfl (by kernel_rfl) (by kernel_rfl) (by kernel_rfl) (fun _ _ _ h => h) rfl ?_ hHeld ?_
      rotate_left
      · intro w hSw
        try dsimp only at hSw
        go_simp
        all_goals with_reducible rfl
      try simp only [Act.put, List.setIfInBounds_toArray, List.set_cons_zero, List.set_cons_succ]
      refine wpAnyH_takeG (i := 12) (v := ?_) rfl (by kernel_rfl) (by kernel_rfl) (by kernel_rfl) (fun _ _ _ h => h) rfl ?_ hHeld ?_
      rotate_left
      · intro w hSw
        try dsimp only at hSw
        go_simp
        all_goals with_reducible rfl
      try simp only [Act.put, List.setIfInBounds_toArray, List.set_cons_zero, List.set_cons_succ]
      refine wpAnyH_takeG (i := 13) (v := ?_) rfl (by kernel_rfl) (by kernel_rfl) (by kernel_rfl) (fun _ _ _ h => h) rfl ?_ hHeld ?_
      rotate_left
      · intro w hSw
        try dsimp only at hSw
        go_simp
        all_goals with_reducible rfl
      try simp only [Act.put, List.setIfInBounds_toArray, List.set_cons_zero, List.set_cons_succ]
      refine wpAnyH_done (by kernel_rfl) ?_ _
      have T5 := Lib.hid T4
      clear hHeld hu4 hpost T4 OK RV UA T8 r0 r1 T
      go_wp2_with fail
      go_roundw
      case rel => exact ⟨p + 1, by omega, by go_num, T5⟩
      case measure => simp [intOf]; omega
    · obtain rfl : m = p := by omega
      have x1 := ((X.out.bel T.out.u)).cell (i := 1) rfl
      have T0 : Hid (Rd2At W1 wr bb mb n lc la m N r 0) := ⟨T.out.u, fun hn => by
        obtain ⟨lb, sp, cp, lf, F, k, h1, h2, h3, h4, h5⟩ := T.out.b hn
        exact ⟨lb, sp, cp, lf, F, k, h1, by omega, h3, h4, h5 1000 (by omega)⟩⟩
      have xz := X.out.lt
      clear T
      go_wp2_with fail
      clear x1
      go_loopw [53] (fun ix wr => Rd2Rel W1 bb mb n lc la m N r ix wr) (fun ix _ => m - (intOf ix).toNat)
      case atStart => exact ⟨0, Nat.zero_le _, rfl, T0⟩
      case round =>
        clear T0
        obtain ⟨p, hp, rfl, T⟩ := hrel
        by_cases hpm : p < m
        · obtain ⟨f, ef, okf, fl, fb', fn, fd⟩ := ((H.out.below U1.out).below T.out.u).f.f (k := p) (by rw [HMM.out]; exact hpm)
          have LN := HP.out.lnk (H.out.below U1.out) ef.out
          have hn0 : 0 < n := by
            have hne := LN.ne
            cases hlk : f.lk with
            | nil => exact absurd hlk hne
            | cons y l => have := LN.r y (by rw [hlk]; simp); rw [HNN.out] at this; omega
          rw [HNN.out] at LN
          obtain ⟨lb, sp, cp, lf, F, k, rfl, hk, hBB, hlf, hF0⟩ := T.out.b hn0
          have hLX : ∀ l < n, Rp1 uW (lf l) (lfX N r m l) ∧ 0 ≤ lfX N r m l ∧ lfX N r m l ≤ uW := fun l hl => ⟨hlf l hl, lfX_bd HP.out.ok HF.out HFZ.out (by omega) (by omega)⟩
          have RV := fun wx (q : Below wr.heap.size wr wx) => reserve_any W1 wx bb mb lb n lc sp cp lf k F (hBB.below q) (by omega) (by omega) (lfX N r m) hLX f.la f.lc f.lk LN 1000 (by omega) hF0 ⟨1, 1000⟩ 31104 thousandth (by omega)
          have FULL : Hid (f.bd = false → ∃ y ∈ f.lk, lfX N r m y.toNat < 31104) := fun hb => by
            obtain ⟨i1, i2, -⟩ := HP.out.is.f p f ef.out
            obtain ⟨l, hl, ho, h0⟩ := lft_full HF.out HFZ.out (by omega : p < N.m) (i2.trans hb)
            rw [i1 l hl, decide_eq_true_eq] at ho
            refine ⟨(l : Int), ho, ?_⟩
            unfold lfX
            rw [Int.toNat_natCast, ← hNm, h0]
            decide
          have hlz := hBB.l.lt
          have hmz := hBB.m.lt
          have hl_ := hBB.l_
          have hm_ := hBB.m_
          replace LN := Lib.hid LN
          replace hLX := Lib.hid hLX
          have HF0 := Lib.hid hF0
          clear hlf hF0 hBB ef
          obtain ⟨fla, flc, lk, bd, ⟨dn, dd⟩⟩ := f
          unfold rV at RV
          simp only [show ((1000 : Nat) : Int) = 1000 from rfl] at RV
          dsimp only at *
          obtain ⟨L, hL⟩ : ∃ L, lk.length = L := ⟨_, rfl⟩
          rw [hL] at RV fl
          replace RV := Lib.hid RV
          have HLL := Lib.hid hL
          clear hL
          have T8 := Lib.hid (Blk.new wr 35 [.slice fla L flc, .bool bd, .int .i64 dn, .int .i64 dd])
          have UA := Lib.hid (alloc_belQ wr (.cells #[.slice fla L flc, .bool bd, .int .i64 dn, .int .i64 dd] 35))
          clear T
          go_wp2_with fail
          refine (RV.out _ UA.out).mono ?_
          rintro e w4 hpost
          clear RV UA
          rcases hpost with ⟨l, rfl, hbad, hB4, hu4⟩ | ⟨rfl, hall, lf', g, c', hB4, hx4, hs4, hg4, hu4⟩
          case inl =>
            have T9 := T8.out.upd hu4 (by omega)
            have t1 := T9.cell (i := 1) rfl
            have tz := T9.lt
            have RL := release_none W1 w4 bb mb lb n lc sp cp lf k F hB4 1000 (by omega) HF0.out
            simp only [show ((1000 : Nat) : Int) = 1000 from rfl] at RL
            replace RL := Lib.hid RL
            clear T8 T9 hu4 hB4 hbad FULL LN
            have hkk : k ≤ m + (p + 1) := by omega
            cases bd
            all_goals
              go_wp2_with fail
              refine RL.out.mono ?_
              rintro e w5 ⟨⟨v, rfl⟩, hB5⟩
              have T5 : Hid (Rd2At W1 w5 bb mb n lc (some ⟨lb, 0, none⟩) m N r (p + 1)) := ⟨hB5.u, fun _ => ⟨lb, sp, cp, lf, F, k, rfl, hkk, hB5, fun l hl => (hLX.out l hl).1, HF0.out⟩⟩
              clear hB5 RL
              go_wp2_with fail
              go_roundw
              case rel => exact ⟨p + 1, by omega, by go_num, T5⟩
              case measure => simp [intOf]; omega
          case inr =>
            cases bd with
            | false =>
              exfalso
              obtain ⟨y, hy, hlt⟩ := FULL.out rfl
              have := hall y hy
              omega
            | true =>
              have T9 := T8.out.upd hu4 (by omega)
              have t1 := T9.cell (i := 1) rfl
              have tz := T9.lt
              have hX4 : ∀ l < n, Rp1 uW (lf' l) (lfX N r m l - if (l : Int) ∈ lk then 31104 else 0) ∧ 0 ≤ (lfX N r m l - if (l : Int) ∈ lk then 31104 else 0) ∧ (lfX N r m l - if (l : Int) ∈ lk then 31104 else 0) ≤ uW := fun l hl => by
                obtain ⟨h1, h2, h3⟩ := hLX.out l hl
                refine ⟨hx4 l hl, ?_⟩
                split
                · rename_i hq
                  have := hall l hq
                  rw [Int.toNat_natCast] at this
                  omega
                · omega
              have RL := release_some W1 w4 bb mb lb n lc sp cp lf' (k + 1) _ hB4 (by omega) (fun l => lfX N r m l - if (l : Int) ∈ lk then 31104 else 0) hX4 fla flc lk LN.out 1000 (by omega) g c' ⟨1, 1000⟩ (by unfold updF; rw [if_pos rfl]) hs4 hg4 31104 thousandth (by omega)
              simp only [show ((1000 : Nat) : Int) = 1000 from rfl] at RL
              replace RL := Lib.hid RL
              clear T8 T9 hu4 hB4 hall FULL LN hX4 hx4 hs4 hg4
              have hkk : k + 1 ≤ m + (p + 1) := by omega
              go_wp2_with fail
              refine RL.out.mono ?_
              rintro e w5 ⟨⟨v, rfl⟩, lf5, hB5, hx5⟩
              have T5 : Hid (Rd2At W1 w5 bb mb n lc (some ⟨lb, 0, none⟩) m N r (p + 1)) := ⟨hB5.u, fun _ => ⟨lb, sp, cp, lf5, _, k + 1, rfl, hkk, hB5, fun l hl => by
                have h1 := hx5 l hl
                by_cases hq : (l : Int) ∈ lk
                · rw [if_pos hq] at h1; rw [show lfX N r m l = lfX N r m l - 31104 + 31104 by omega]; exact h1
                · rw [if_neg hq] at h1; rw [show lfX N r m l = lfX N r m l - 0 + 0 by omega]; exact h1, by unfold updF; rw [if_pos rfl]⟩⟩
              clear hB5 RL hx5
              go_wp2_with fail
              go_roundw
              case rel => exact ⟨p + 1, by omega, by go_num, T5⟩
              case measure => simp [intOf]; omega
        · obtain rfl : m = p := by omega
          have UF := Lib.hid (U1.out.trans (T.out.u.mono U1.out.size))
          go_wp2_with fail
          go_ret
          exact ⟨rfl, UF.out⟩
end Go.Proofs.Ytbdaehcngmhhcaa
