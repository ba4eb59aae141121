/-
  What CrossbarSteady asks: the test of a list's form, the pending requests in memory.
-/
import Derived.Test.YtldgpdgoccccpaaBarNo
import Derived.Test.YtldgpdgoccccpaaLawFills
namespace Go.Proofs.Ytldgpdgoccccpaa
open Go.RowKit
set_option linter.unusedVariables false

theorem round_congr2 {req req' : Nat → Nat → Bool} {n : Nat} {s : Bar.St} (h : ∀ i < n, ∀ k < n, req i k = req' i k) (hg : ∀ k < n, s.g k < n) (ha : ∀ i < n, s.a i < n) : Bar.round req n true s = Bar.round req' n true s := by
  have hgr : ∀ k < n, Bar.grv req n s k = Bar.grv req' n s k := fun k hk => by
    unfold Bar.grv
    rw [fst_congr (p := fun i => decide (s.m i < 0) && req i k) (q := fun i => decide (s.m i < 0) && req' i k) (fun x hx => by rw [h x hx k hk]) (hg k hk)]
  have key : ∀ j ≤ n, Bar.accN n true (Bar.grv req n s) s j = Bar.accN n true (Bar.grv req' n s) s j := by
    intro j
    induction j with
    | zero => intro _; rfl
    | succ j ih =>
      intro hj
      have ih := ih (by omega)
      have e : Bar.kkv n (Bar.grv req n s) (Bar.accN n true (Bar.grv req' n s) s j).a j = Bar.kkv n (Bar.grv req' n s) (Bar.accN n true (Bar.grv req' n s) s j).a j := by
        refine fst_congr (fun x hx => by rw [hgr x hx]) ?_
        rw [(Bar.accN_spec n true (Bar.grv req' n s) s ha j (by omega)).a j]
        simp only [Nat.lt_irrefl, false_and, and_false, if_false]
        exact ha j (by omega)
      show Bar.accS n true (Bar.grv req n s) (Bar.accN n true (Bar.grv req n s) s j) j = Bar.accS n true (Bar.grv req' n s) (Bar.accN n true (Bar.grv req' n s) s j) j
      rw [ih]
      unfold Bar.accS
      rw [e]
  exact key n (Nat.le_refl _)

/-! ### the form of a list -/
def lnB (rs : List (RowOf Bool)) (k : Nat) : Bool := rs.any fun r => r.xs.length != k
theorem lnB_false {rs : List (RowOf Bool)} {k : Nat} (h : lnB rs k = false) : ∀ r ∈ rs, r.xs.length = k := by
  simpa [lnB] using h
set_option maxHeartbeats 400000 in
theorem sclo_any (w : World) (kb k : Nat) (r : RowOf Bool) (h : Blk w kb 3 [.int .i64 k]) (hl : r.xs.length ≤ maxLen) :
    Calls Try.prog 14 #[.slice r.a r.xs.length r.c, .pointer (some ⟨kb, 0, none⟩)] w fun e w' => e = .returned (.bool (r.xs.length != k)) ∧ w = w' := by
  unfold maxLen at hl
  have q := h.cell (i := 0) rfl
  have e : (r.xs.length != k) = ((r.xs.length : Int) != (k : Int)) := by
    rw [Bool.eq_iff_iff]; simp; omega
  rw [e]
  generalize r.xs.length = l at *
  generalize r.a = ra at *
  generalize r.c = rc at *
  clear h e
  go_enter Try.func14, Try.ntmps14
  go_wp2_with fail
  go_ret
  exact ⟨rfl, rfl⟩
def SiRel (rs : List (RowOf Bool)) (k : Nat) (w : World) (i : Value) (wr : World) : Prop := ∃ j : Nat, j ≤ rs.length ∧ i = .int .i64 j ∧ (∀ x < j, ∀ r, rs[x]? = some r → r.xs.length = k) ∧ w = wr
def SiPost (rs : List (RowOf Bool)) (k : Nat) (w : World) (e : Ending) (w' : World) : Prop := ∃ i : Int, e = .returned (.int .i64 i) ∧ (0 ≤ i ↔ lnB rs k = true) ∧ w = w'
set_option maxHeartbeats 1000000 in
theorem sindex_any (w : World) (a0 : Option Addr) (c0 kb k : Nat) (rs : List (RowOf Bool)) (h : Req w a0 rs) (hm : Lens rs) (hk : Blk w kb 3 [.int .i64 k]) :
    Calls Try.prog 29 #[.slice a0 rs.length c0, .func (.func 14) #[] #[.pointer (some ⟨kb, 0, none⟩)]] w (SiPost rs k w) := by
  obtain ⟨hm, hmm⟩ := hm
  unfold maxLen at hm
  have S := Lib.hid h.hs; clear h
  have MM := Lib.hid hmm; clear hmm
  have KB := Lib.hid hk; clear hk
  generalize hl : rs.length = l at *
  have HL := Lib.hid hl; clear hl
  go_enter Try.func29, Try.ntmps29
  go_wp2_with fail
  go_loopw [8] (fun i wr => SiRel rs k w i wr) (fun i _ => l - (intOf i).toNat)
  case atStart => exact ⟨0, Nat.zero_le _, rfl, fun j hj => by omega, rfl⟩
  case round =>
    obtain ⟨j, hj, rfl, hv, rfl⟩ := hrel
    have HV := Lib.hid hv; clear hv
    have hj' : j ≤ l := by rw [HL.out] at hj; exact hj
    clear hj
    by_cases hlt : j < l
    · obtain ⟨r, er, o1, c1⟩ := S.out.get (k := j) (by rw [HL.out]; exact hlt)
      have G := sclo_any w kb k r KB.out (MM.out r (List.mem_of_getElem? er.out))
      unfold RowOf.val at c1
      cases hg : (r.xs.length != k) with
      | true =>
        rw [hg] at G
        have G2 := Lib.hid G
        have R : Hid (lnB rs k = true) := by
          show _ = _
          simp only [lnB, List.any_eq_true]
          exact ⟨_, List.mem_of_getElem? er.out, hg⟩
        clear G hg
        go_wp2_with fail
        go_fit G2.out
        rintro e w1 ⟨rfl, rfl⟩
        go_wp2_with fail
        go_ret
        exact ⟨j, rfl, ⟨fun _ => R.out, fun _ => by omega⟩, rfl⟩
      | false =>
        rw [hg] at G
        have G2 := Lib.hid G
        have V2 : Hid (∀ x < j + 1, ∀ r, rs[x]? = some r → r.xs.length = k) := by
          intro x hx r' hr
          by_cases e : x = j
          · subst e; rw [er.out] at hr; obtain rfl := Option.some.inj hr; simpa using hg
          · exact HV.out x (by omega) r' hr
        clear G hg
        go_wp2_with fail
        go_fit G2.out
        rintro e w1 ⟨rfl, rfl⟩
        go_wp2_with fail
        go_roundw
        case rel => exact ⟨j + 1, by rw [HL.out]; omega, by go_num, V2.out, rfl⟩
        case measure => simp [intOf]; omega
    · have A : Hid (lnB rs k = false) := by
        show _ = _
        simp only [lnB, List.any_eq_false]
        intro r hr
        obtain ⟨x, hx⟩ := List.mem_iff_getElem?.1 hr
        have := HV.out x (by rcases Nat.lt_or_ge x rs.length with h | h; rw [HL.out] at h; omega; simp [List.getElem?_eq_none h] at hx) r hx
        simpa using this
      go_wp2_with fail
      go_ret
      exact ⟨-1, rfl, ⟨fun h => by omega, fun h => by rw [A.out] at h; exact absurd h (by simp)⟩, rfl⟩
set_option maxHeartbeats 1000000 in
theorem scont_any (w : World) (a0 : Option Addr) (c0 kb k : Nat) (rs : List (RowOf Bool)) (h : Req w a0 rs) (hm : Lens rs) (hk : Blk w kb 3 [.int .i64 k]) :
    Calls Try.prog 13 #[.slice a0 rs.length c0, .func (.func 14) #[] #[.pointer (some ⟨kb, 0, none⟩)]] w fun e w' => e = .returned (.bool (lnB rs k)) ∧ w = w' := by
  have I := Lib.hid (sindex_any w a0 c0 kb k rs h hm hk)
  generalize hR : lnB rs k = res
  have HR := Lib.hid hR
  clear h hm hR hk
  go_enter Try.func13, Try.ntmps13
  go_wp2_with fail
  go_fit I.out
  rintro e w1 ⟨i, rfl, hi, rfl⟩
  have R : Hid (decide (0 ≤ i) = res) := by
    show _ = _
    rw [HR.out] at hi
    cases res <;> simp_all
  clear hi
  go_wp2_with fail
  go_ret
  exact ⟨ret_bool R.out, rfl⟩

/-! ### the pending requests -/
theorem make_rows (w : World) (n : Nat) (h : n ≤ 1000000) : (Instr.makeSlice 25 (.int .i64 n) (.int .i64 n)).run Try.prog w =
    .ok (.slice (some ⟨w.heap.size, 0, none⟩) n n) (w.alloc (.cells ((List.range n).map fun _ => Value.slice none 0 0).toArray 27)) := by
  obtain ⟨i, hi, hz, hs, hb⟩ := info_parts Try.infoRow
  rw [run_make w 25 27 i _ Try.underlying25 hi hz .i64 .i64 n n (by omega) (by omega) (by rw [hb]; omega) (by omega)]
  have e : madeCells (Value.slice none 0 0).cells (((n : Int).toNat) * i.size) = ((List.range n).map fun _ => Value.slice none 0 0).toArray := by
    rw [hs, Nat.mul_one, Int.toNat_natCast]
    apply Array.toList_inj.1
    rw [show (Value.slice none 0 0).cells = #[Value.slice none 0 0] from rfl, toList_madeCells_one]
    have := fun_const (id : Value → Value) n (Value.slice none 0 0)
    simpa using this
  rw [e, Int.toNat_natCast]
/-- Row j of the pending requests; nil from row l on. -/
def rwF (bs : Nat → Nat) (k l j : Nat) : Value := if j < l then .slice (some ⟨bs j, 0, none⟩) k k else .slice none 0 0
/-- The first l rows of the pending requests. -/
structure PenAt (w : World) (pb : Nat) (bs : Nat → Nat) (k l : Nat) (P : Nat → Nat → Bool) : Prop where
  hp : Fun w pb 27 k (rwF bs k l)
  hr : ∀ j < l, Fun w (bs j) 4 k (bF (P j))
  inj : ∀ i < l, ∀ j < l, bs i = bs j → i = j
  ne : ∀ j < l, bs j ≠ pb
theorem PenAt.upd {S : Nat → Prop} {w w' : World} {pb : Nat} {bs : Nat → Nat} {k l : Nat} {P : Nat → Nat → Bool} (h : PenAt w pb bs k l P) (u : Upd S w w') (h1 : ¬ S pb) (h2 : ∀ j < l, ¬ S (bs j)) : PenAt w' pb bs k l P :=
  ⟨h.hp.upd u h1, fun j hj => (h.hr j hj).upd u (h2 j hj), h.inj, h.ne⟩
theorem PenAt.below {w w' : World} {pb : Nat} {bs : Nat → Nat} {k l : Nat} {P : Nat → Nat → Bool} (h : PenAt w pb bs k l P) (b : Below w.heap.size w w') : PenAt w' pb bs k l P := h.upd (S := fun _ => False) (Upd.of_below b) id fun _ _ => id
theorem PenAt.set {w : World} {pb : Nat} {bs : Nat → Nat} {k l : Nat} {P : Nat → Nat → Bool} (h : PenAt w pb bs k l P) {j q : Nat} (hj : j < l) (hq : q < k) (x : Bool) : PenAt (w.setCell ⟨bs j, q, none⟩ (.bool x)) pb bs k l (Bar.upd P j (Bar.upd (P j) q x)) := by
  refine ⟨h.hp.setO _ fun e => h.ne j hj e.symm, fun i hi => ?_, h.inj, h.ne⟩
  by_cases e : i = j
  · subst e
    rw [Bar.upd_same, ← bF_upd]
    exact (h.hr i hi).set hq _
  · rw [Bar.upd_ne _ _ e]
    exact (h.hr i hi).setO _ fun e' => e (h.inj i hi j hj e')
theorem PenAt.congr {w : World} {pb : Nat} {bs : Nat → Nat} {k l : Nat} {P Q : Nat → Nat → Bool} (h : PenAt w pb bs k l P) (e : ∀ j < l, ∀ q < k, P j q = Q j q) : PenAt w pb bs k l Q :=
  ⟨h.hp, fun j hj => (h.hr j hj).congr fun q hq => by unfold bF; rw [e j hj q hq], h.inj, h.ne⟩
theorem PenAt.row {w : World} {pb : Nat} {bs : Nat → Nat} {k : Nat} {P : Nat → Nat → Bool} (h : PenAt w pb bs k k P) {j : Nat} (hj : j < k) : w.cell? ⟨pb, j, none⟩ = some (.slice (some ⟨bs j, 0, none⟩) k k) := by
  have := h.hp.cell hj
  unfold rwF at this
  rwa [if_pos hj] at this
/-- One row more. -/
theorem PenAt.snoc {w : World} {pb lb : Nat} {bs : Nat → Nat} {k l : Nat} (h : PenAt w pb bs k l fun _ _ => false) (hl : l < k) (F : Fun w lb 4 k (bF fun _ => false)) (h1 : lb ≠ pb) (h2 : ∀ j < l, bs j ≠ lb) : PenAt (w.setCell ⟨pb, l, none⟩ (.slice (some ⟨lb, 0, none⟩) k k)) pb (Bar.upd bs l lb) k (l + 1) fun _ _ => false := by
  have eb : ∀ j, j < l → Bar.upd bs l lb j = bs j := fun j hj => Bar.upd_ne _ _ (by omega)
  refine ⟨(h.hp.set hl _).congr fun j hj => ?_, fun j hj => ?_, fun i hi j hj e => ?_, fun j hj => ?_⟩
  · unfold Bar.upd rwF
    by_cases e : j = l
    · subst e; simp
    · simp only [if_neg e]
      by_cases hjl : j < l
      · rw [if_pos hjl, if_pos (by omega)]
      · rw [if_neg hjl, if_neg (by omega)]
  · by_cases e : j = l
    · subst e
      rw [Bar.upd_same]
      exact F.setO _ h1
    · rw [eb j (by omega)]
      exact (h.hr j (by omega)).setO _ (h.ne j (by omega))
  · by_cases ei : i = l <;> by_cases ej : j = l
    · omega
    · subst ei; rw [Bar.upd_same, eb j (by omega)] at e; exact absurd e.symm (h2 j (by omega))
    · subst ej; rw [Bar.upd_same, eb i (by omega)] at e; exact absurd e (h2 i (by omega))
    · rw [eb i (by omega), eb j (by omega)] at e
      exact h.inj i (by omega) j (by omega) e
  · by_cases ej : j = l
    · subst ej; rw [Bar.upd_same]; exact h1
    · rw [eb j (by omega)]; exact h.ne j (by omega)
/-- The rows as a list. -/
def penL (bs : Nat → Nat) (k : Nat) (P : Nat → Nat → Bool) : List (RowOf Bool) := (List.range k).map fun j => ⟨some ⟨bs j, 0, none⟩, k, (List.range k).map (P j)⟩
theorem penL_len (bs : Nat → Nat) (k : Nat) (P : Nat → Nat → Bool) : (penL bs k P).length = k := by simp [penL]
theorem penL_mem {bs : Nat → Nat} {k : Nat} {P : Nat → Nat → Bool} {r : RowOf Bool} (h : r ∈ penL bs k P) : ∃ j, j < k ∧ r = ⟨some ⟨bs j, 0, none⟩, k, (List.range k).map (P j)⟩ := by
  obtain ⟨j, hj, rfl⟩ := List.mem_map.1 h
  exact ⟨j, by simpa using hj, rfl⟩
theorem penL_req {bs : Nat → Nat} {k : Nat} {P : Nat → Nat → Bool} {i q : Nat} (hi : i < k) (hq : q < k) : reqF (penL bs k P) i q = P i q := by
  unfold reqF penL
  rw [List.getElem?_map, List.getElem?_range hi]
  simp [List.getElem?_range, hq]
theorem penL_sq (bs : Nat → Nat) (k : Nat) (P : Nat → Nat → Bool) : sqB (penL bs k P) k = true := by
  simp only [sqB, decide_eq_true_eq]
  exact ⟨penL_len _ _ _, fun r hr => by obtain ⟨j, hj, rfl⟩ := penL_mem hr; simp⟩
theorem PenAt.req {w : World} {pb : Nat} {bs : Nat → Nat} {k : Nat} {P : Nat → Nat → Bool} (h : PenAt w pb bs k k P) (h8 : k ≤ 8) {ca : Nat} (h1 : pb ≠ ca) (h2 : ∀ j < k, bs j ≠ ca) : Req w (some ⟨pb, 0, none⟩) (penL bs k P) ∧ Lens (penL bs k P) ∧ Off (some ⟨pb, 0, none⟩) (penL bs k P) (fun j => j = ca) := by
  refine ⟨⟨?_, fun r hr => ?_⟩, ⟨by rw [penL_len]; unfold maxLen; omega, fun r hr => ?_⟩, ⟨fun _ => h1, fun r hr _ => ?_⟩⟩
  · refine Blk.sl (T := 27) (f := RowOf.val) ?_
    have e : (penL bs k P).map RowOf.val = (List.range k).map (rwF bs k k) := by
      unfold penL
      rw [List.map_map]
      refine List.map_congr_left fun j hj => ?_
      have hj : j < k := by simpa using hj
      simp [RowOf.val, rwF, hj]
    rw [e]
    exact h.hp
  · obtain ⟨j, hj, rfl⟩ := penL_mem hr
    refine Blk.sl (T := 4) (f := Value.bool) ?_
    have e : ((List.range k).map (P j)).map Value.bool = (List.range k).map (bF (P j)) := by rw [List.map_map]; rfl
    dsimp only
    rw [e]
    exact h.hr j hj
  · obtain ⟨j, hj, rfl⟩ := penL_mem hr
    simp [maxLen]; omega
  · obtain ⟨j, hj, rfl⟩ := penL_mem hr
    exact h2 j hj

/-- The requests that come in, up to row j and place q. -/
def orF (P Y : Nat → Nat → Bool) (j q a b : Nat) : Bool := P a b || (Y a b && (decide (a < j) || (decide (a = j) && decide (b < q))))
theorem orF_step (P Y : Nat → Nat → Bool) (j q : Nat) : Bar.upd (orF P Y j q) j (Bar.upd (orF P Y j q j) q (orF P Y j q j q || Y j q)) = orF P Y j (q + 1) := by
  funext a b
  unfold Bar.upd
  by_cases ea : a = j
  · subst ea
    rw [if_pos rfl]
    by_cases eb : b = q
    · subst eb; simp [orF]
    · rw [if_neg eb]
      have : decide (b < q + 1) = decide (b < q) := decide_eq_decide.2 (by omega)
      simp [orF, this]
  · rw [if_neg ea]; simp [orF, ea]
theorem orF_row (P Y : Nat → Nat → Bool) (k j : Nat) : ∀ a, ∀ b < k, orF P Y j k a b = orF P Y (j + 1) 0 a b := by
  intro a b hb
  unfold orF
  by_cases h1 : a < j
  · simp [h1, show a < j + 1 by omega]
  · by_cases h2 : a = j
    · subst h2; simp [hb]
    · simp [h1, h2, show ¬ a < j + 1 by omega]
theorem orF_zero (P Y : Nat → Nat → Bool) : orF P Y 0 0 = P := by funext a b; simp [orF]
/-- The requests that are left, the matches of the first j inputs struck. -/
def clF (P : Nat → Nat → Bool) (m : Nat → Int) (j a b : Nat) : Bool := P a b && !(decide (a < j) && m a == (b : Int))
theorem clF_zero (P : Nat → Nat → Bool) (m : Nat → Int) : clF P m 0 = P := by funext a b; simp [clF]
theorem clF_neg (P : Nat → Nat → Bool) (m : Nat → Int) (j : Nat) (h : m j < 0) : clF P m (j + 1) = clF P m j := by
  funext a b
  unfold clF
  by_cases e : a = j
  · subst e
    have : (m a == (b : Int)) = false := by rw [beq_eq_false_iff_ne]; omega
    simp [this]
  · have : decide (a < j + 1) = decide (a < j) := decide_eq_decide.2 (by omega)
    rw [this]
theorem clF_step (P : Nat → Nat → Bool) (m : Nat → Int) (j c : Nat) (h : m j = (c : Int)) : Bar.upd (clF P m j) j (Bar.upd (clF P m j j) c false) = clF P m (j + 1) := by
  funext a b
  unfold Bar.upd
  by_cases ea : a = j
  · subst ea
    rw [if_pos rfl]
    by_cases eb : b = c
    · subst eb; simp [clF, h]
    · rw [if_neg eb]
      have : (m a == (b : Int)) = false := by rw [beq_eq_false_iff_ne]; omega
      simp [clF, this]
  · rw [if_neg ea]
    have : decide (a < j + 1) = decide (a < j) := decide_eq_decide.2 (by omega)
    simp [clF, this]
end Go.Proofs.Ytldgpdgoccccpaa
