/-
  Contracts of pace.Merge, Backlog, and of the law's paced.
-/
import Derived.Test.YtbdaehcngmhhcaaMg
namespace Go.Proofs.Ytbdaehcngmhhcaa
open Go.RowKit
set_option linter.unusedVariables false

def MergePost (w : World) (k : Nat → Int) (n T : Nat) (e : Ending) (w' : World) : Prop :=
  ∃ (sb : Nat) (vs : Nat → Value) (qv : Value), e = .returned (.tuple #[.slice (some ⟨sb, 0, none⟩) n n, .int .i64 0]) ∧ MgAt w w' n sb vs qv (mgS k n T).q (mgS k n T).sent
theorem MgAt.old {w0 w w' : World} {n sb : Nat} {vs : Nat → Value} {qv : Value} {q : List Fq} {sent : Nat → List Nat} (h : MgAt w w' n sb vs qv q sent) (b : Below w0.heap.size w0 w) : MgAt w0 w' n sb vs qv q sent :=
  ⟨Nat.le_trans b.size h.sbw, h.hs, fun i hi => (h.row i hi).rebase (fun g hg => Nat.le_trans b.size ((h.row i hi).lt hg).1), h.rb, h.ap, h.hq.rebase (fun g hg => Nat.le_trans b.size (h.hq.lt hg).1), h.qb, below_then b h.u b.size⟩
set_option maxHeartbeats 1000000 in
theorem Merge_any (w : World) (a : Option Addr) (c : Nat) (rs : List Rq) (k : Nat → Int) (T : Nat) (hs : SlC rC 2 w a rs) (h : Rts rs k) (hl : rs.length ≤ 32) (ht : T ≤ 900) :
    Calls Try.prog 25 #[.slice a rs.length c, .int .i64 T] w (MergePost w k rs.length T) := by
  have CH := Lib.hid (check_any w a c rs k T hs h hl (by omega))
  have MG := Lib.hid (fun w' (b : Below w.heap.size w w') => merge_any w' a c rs k T (hs.below b) h hl ht)
  clear hs h
  generalize rs.length = n at *
  go_enter Try.func25, Try.ntmps25
  go_wp2_with fail
  refine CH.out.mono ?_
  rintro e w1 ⟨rfl, hb⟩
  have B1 := Lib.hid hb
  clear hb
  go_wp2_with fail
  refine (MG.out _ B1.out).mono ?_
  rintro e w2 ⟨sb, vs, qv, rfl, hM⟩
  have M := Lib.hid (hM.old B1.out)
  clear hM
  go_wp2_with fail
  go_ret2
  exact ⟨sb, vs, qv, rfl, M.out⟩
set_option maxHeartbeats 1000000 in
theorem Backlog_any (w : World) (a : Option Addr) (c : Nat) (rs : List Rq) (k : Nat → Int) (T : Nat) (hs : SlC rC 2 w a rs) (h : Rts rs k) (hl : rs.length ≤ 32) (ht : T ≤ 900) :
    Calls Try.prog 26 #[.slice a rs.length c, .int .i64 T] w fun e w' => e = .returned (.tuple #[.int .i64 ((mgS k rs.length T).bl : Nat), .int .i64 0]) ∧ Below w.heap.size w w' := by
  have CH := Lib.hid (check_any w a c rs k T hs h hl (by omega))
  have MG := fun w' (b : Below w.heap.size w w') => merge_any w' a c rs k T (hs.below b) h hl ht
  unfold MgPost at MG
  clear hs h
  generalize rs.length = n at *
  generalize (mgS k n T).bl = bl at *
  replace MG := Lib.hid MG
  go_enter Try.func26, Try.ntmps26
  go_wp2_with fail
  refine CH.out.mono ?_
  rintro e w1 ⟨rfl, hb⟩
  have B1 := Lib.hid hb
  clear hb
  go_wp2_with fail
  refine (MG.out _ B1.out).mono ?_
  rintro e w2 ⟨sb, vs, qv, rfl, hM⟩
  have M := Lib.hid (hM.old B1.out)
  clear hM
  go_wp2_with fail
  go_ret2
  exact ⟨rfl, M.out.u⟩
theorem filter_len {l : List Fq} {i : Nat} : (l.filter fun f => f.i == i).length ≤ l.length := List.length_filter_le _ _
/-- What the law asks of flow i. -/
structure PcOk (k : Nat → Int) (n T i : Nat) (s : Mg) : Prop where
  le : (s.sent i).length ≤ cntP uU (kN k i) T
  bl : cntP uU (kN k i) T - (s.sent i).length ≤ s.bl
  at_ : ∀ (j : Nat) x, (s.sent i)[j]? = some x → ∃ a, atOk uU (kN k i) (j + 1) a ∧ a ≤ x ∧ x < a + n ∧ a ≤ T
theorem pc_ok {k : Nat → Int} {n T i : Nat} {s : Mg} (h : MgI uU (kN k) n T s) (hi : i < n) : PcOk k n T i s := by
  obtain ⟨h1, h2⟩ := h.num i hi
  refine ⟨h2, ?_, fun j x hx => ?_⟩
  · have e := congrArg List.length h1
    rw [List.length_map, List.length_range'] at e
    have := filter_len (l := s.q) (i := i)
    have := h.bl
    omega
  · obtain ⟨a, h3, h4, h5⟩ := h.snt i hi j x hx
    refine ⟨a, h3, h4, h5, ?_⟩
    have h6 : j + 1 ≤ cntP uU (kN k i) T := by have := get_lt hx; omega
    rcases Nat.lt_or_ge T a with h7 | h7
    · have := cnt_mono uU_pos (k := kN k i) (show T ≤ a - 1 by omega)
      have := h3.2.1
      omega
    · exact h7
def PdRel (w : World) (n T sb : Nat) (vs : Nat → Value) (qv : Value) (s : Mg) (lim : Nat) (ix : Value) (wr : World) : Prop :=
  ∃ p : Nat, p ≤ lim ∧ ix = .int .i64 p ∧ Hid (MgAt w wr n sb vs qv s.q s.sent)
set_option maxRecDepth 100000 in
set_option maxHeartbeats 4000000 in
theorem paced_any (w : World) (a : Option Addr) (c : Nat) (rs : List Rq) (k : Nat → Int) (T : Nat) (hs : SlC rC 2 w a rs) (h : Rts rs k) (hl : rs.length ≤ 32) (ht : T ≤ 900) (hsum : sN (kN k) rs.length ≤ uU) :
    Calls Try.prog 9 #[.slice a rs.length c, .int .i64 T] w fun e w' => e = .returned (.bool true) ∧ Below w.heap.size w w' := by
  have MG := Lib.hid (Merge_any w a c rs k T hs h hl ht)
  have BK := fun w' (b : Below w.heap.size w w') => Backlog_any w' a c rs k T (hs.below b) h hl ht
  have MI := Lib.hid (mg_run uU_pos (U := uU) (k := kN k) (n := rs.length) hsum T)
  have HS := Lib.hid hs
  have H := Lib.hid h
  unfold MergePost at MG
  clear hs h hsum
  generalize hn : rs.length = n at *
  have HN := Lib.hid hn
  clear hn
  have MI2 : Hid (MgI uU (kN k) n T (mgS k n T)) := MI
  generalize mgS k n T = s at *
  clear MI
  have hbl := MI2.out.bl.2
  generalize hb0 : s.bl = bl at *
  have HB := Lib.hid hb0
  clear hb0
  replace BK := Lib.hid BK
  go_enter Try.func9, Try.ntmps9
  go_wp2_with fail
  refine MG.out.mono ?_
  rintro e w1 ⟨sb, vs, qv, rfl, hM⟩
  have M := Lib.hid hM
  clear hM
  go_wp2_with fail
  refine (BK.out _ M.out.u).mono ?_
  rintro e w2 ⟨rfl, hb⟩
  have M2 := Lib.hid (M.out.below hb)
  clear hb M
  by_cases hn0 : n = 0
  · have hb0 : bl = 0 := by omega
    subst hn0
    subst hb0
    have UB := M2.out.u
    go_wp2_with fail
    go_loopw [52] (fun ix wr => ix = .int .i64 0 ∧ wr = w2) (fun ix _ => 0)
    case atStart => exact ⟨rfl, rfl⟩
    case round =>
      obtain ⟨rfl, rfl⟩ := hrel
      go_wp2_with fail
      go_ret
      exact ⟨rfl, UB⟩
  · have hm0 : ¬ (n : Int) - 1 < 0 := by omega
    have hm1 : ¬ (n : Int) - 1 < (bl : Int) := by omega
    go_wp2_with fail
    go_loopw [52] (fun ix wr => PdRel w n T sb vs qv s n ix wr) (fun ix _ => n - (intOf ix).toNat)
    case atStart => exact ⟨0, Nat.zero_le _, rfl, M2⟩
    case round =>
      clear M2
      obtain ⟨p, hp, rfl, M⟩ := hrel
      by_cases hpn : p < n
      · obtain ⟨r, er, okr, rn, rd⟩ := (HS.out.below M.out.u).r (k := p) (by rw [HN.out]; exact hpn)
        obtain ⟨h1, h2, h3⟩ := H.out.r p r er.out
        have PK := pc_ok MI2.out hpn
        have CT := fun w => Count_any r T w (h1.rate h2 h3) (by omega)
        rw [cnt_rp uU_pos h1.rp h2] at CT
        have hcT : cntP uU (kN k p) T ≤ T := by
          have hk : kN k p ≤ uU := by unfold kN; omega
          unfold cntP
          exact Nat.div_le_of_le_mul (Nat.mul_le_mul_right T hk)
        have AT : ∀ (j : Nat) x, (s.sent p)[j]? = some x → ∃ t, t ≤ x ∧ x < t + n ∧ t ≤ T ∧ ∀ w, Calls Try.prog 28 #[rV r, .int .i64 ((j : Int) + 1)] w fun e w' => e = .returned (.tuple #[.int .i64 (t : Nat), .int .i64 0]) ∧ Below w.heap.size w w' := fun j x hx => by
          obtain ⟨t, g1, g2, g3, g4⟩ := PK.at_ j x hx
          have hkp : 0 < k p := by
            rcases Int.lt_or_le 0 (k p) with y | y
            · exact y
            · exfalso
              have : kN k p = 0 := by unfold kN; omega
              have g5 := g1.1
              rw [this] at g5
              simp [cntP] at g5
          have hn0 : 0 < r.n := by
            have g6 := (h1.rp.n_nonneg uU_pos).2 h2
            have g7 := (h1.rp.n_zero uU_pos).1
            rcases Int.lt_or_le 0 r.n with y | y
            · exact y
            · have := g7 (by omega); omega
          have e := at_rp uU_pos h1.rp h2 hn0 (by omega) g1
          refine ⟨t, g2, g3, g4, fun w => ?_⟩
          have hjl := get_lt hx
          have hj2 := PK.le
          have A := At_any r (j + 1) w (h1.rate h2 h3) hn0 (by omega) (by omega) (by omega)
          rw [← e, show (((j + 1 : Nat)) : Int) = (j : Int) + 1 by simp] at A
          exact A
        have hle : (s.sent p).length ≤ cntP uU (kN k p) T := PK.le
        have hbk := PK.bl
        rw [HB.out] at hbk
        clear PK
        have CT' : ∀ w, Calls Try.prog 27 #[rV r, .int .i64 T] w fun e w' => e = .returned (.tuple #[.int .i64 (cntP uU (kN k p) T : Nat), .int .i64 0]) ∧ Below w.heap.size w w' := CT
        clear CT
        generalize cntP uU (kN k p) T = due at *
        unfold rV at CT' AT
        obtain ⟨r1, r2⟩ := r
        dsimp only at *
        replace CT' := Lib.hid CT'
        replace AT := Lib.hid AT
        clear h1 h2 h3
        have hrow := M.out.row p hpn
        obtain ⟨ra, rc, ev⟩ := hrow.shape
        have cs := M.out.hs.cell (i := p) (v := vs p) (by simp [hpn])
        rw [ev] at cs
        have ROW : Hid (∀ wx, Below w.heap.size w wx → MgAt w wx n sb vs qv s.q s.sent → Sl tV wx ra (s.sent p)) := fun wx _ hx => by
          have := hx.row p hpn
          rw [ev] at this
          exact this.sl
        replace ev := Lib.hid ev
        clear hrow
        generalize hL : (s.sent p).length = L at *
        have HL := Lib.hid hL
        clear hL
        have b1 : decide (due < L) = false := by simp; omega
        have b2 : decide ((bl : Int) < (due : Int) - (L : Int)) = false := by simp; omega
        go_wp2_with fail
        refine (CT'.out _).mono ?_
        rintro e w3 ⟨rfl, hb⟩
        have M3 := Lib.hid (M.out.below hb)
        clear hb M cs rn rd okr
        go_wp2_with fail
        go_loopw [84] (fun ix wr => PdRel w n T sb vs qv s L ix wr) (fun ix _ => L - (intOf ix).toNat)
        case atStart => exact ⟨0, Nat.zero_le _, rfl, M3⟩
        case round =>
          clear M3
          obtain ⟨j, hj, rfl, M⟩ := hrel
          by_cases hjL : j < L
          · obtain ⟨x, ex, okx, cx⟩ := (ROW.out _ M.out.u M.out).get (k := j) (by rw [HL.out]; exact hjL)
            obtain ⟨t, g1, g2, g3, A⟩ := AT.out j x ex.out
            have A := Lib.hid A
            obtain ⟨r', er', okr, rn, rd⟩ := (HS.out.below M.out.u).r (k := p) (by rw [HN.out]; exact hpn)
            have err := er'.out.symm.trans er.out
            injection err with err
            subst err
            clear er'
            unfold tV at cx
            have d1 : decide (x < t) = false := by simp; omega
            have d2 : decide ((t : Int) + (n : Int) ≤ (x : Int)) = false := by simp; omega
            go_wp2_with fail
            refine (A.out _).mono ?_
            rintro e w4 ⟨rfl, hb⟩
            have M4 := Lib.hid (M.out.below hb)
            clear hb M
            go_wp2_with fail
            go_roundw
            case rel => exact ⟨j + 1, by omega, by go_num, M4⟩
            case measure => simp [intOf]; omega
          · obtain rfl : L = j := by omega
            go_wp2_with fail
            go_roundw
            case rel => exact ⟨p + 1, by omega, by go_num, M⟩
            case measure => simp [intOf]; omega
      · obtain rfl : n = p := by omega
        go_wp2_with fail
        go_ret
        exact ⟨rfl, M.out.u⟩
end Go.Proofs.Ytbdaehcngmhhcaa
