/-
  What CrossbarNothing asks: square and Match on rows whose elements nobody reads, a copy of a list of rows.
-/
import Derived.Test.YtldgpdgoccccpaaBarGen
import Derived.Test.YtldgpdgoccccpaaApp
import Derived.Deep.AppendLies
namespace Go.Proofs.Ytldgpdgoccccpaa
open Go.RowKit
set_option linter.unusedVariables false

theorem Try.infoRow : (Try.prog.info? 27).map (fun i => (i.zero, i.size, i.bytes)) = some (some (.slice none 0 0), 1, 24) := by kernel_rfl
set_option maxHeartbeats 1000000 in
theorem square_sl (w : World) (a0 : Option Addr) (c0 n : Nat) (rs : List (RowOf Bool)) (h : Sl RowOf.val w a0 rs) (hm : rs.length ≤ maxLen) (hmm : ∀ r ∈ rs, r.xs.length ≤ maxLen) :
    Calls Try.prog 30 #[.slice a0 rs.length c0, .int .i64 n] w fun e w' => e = .returned (.bool (sqB rs n)) ∧ w = w' := by
  unfold maxLen at hm
  generalize hR : sqB rs n = res
  have HR := Lib.hid hR; clear hR
  have S := Lib.hid h; clear h
  have MM := Lib.hid hmm; clear hmm
  by_cases hn : rs.length = n
  · have hne : ((rs.length : Int) != (n : Int)) = false := by simp [hn]
    have HN := Lib.hid hn; clear hn
    generalize hl : rs.length = l at *
    have HL := Lib.hid hl; clear hl
    go_enter Try.func30, Try.ntmps30
    go_wp2_with fail
    go_loopw [13] (fun i wr => SqRel rs n w i wr) (fun i _ => l - (intOf i).toNat)
    case atStart => exact ⟨0, Nat.zero_le _, rfl, fun j hj => by omega, rfl⟩
    case round =>
      obtain ⟨k, hk, rfl, hv, rfl⟩ := hrel
      have HV := Lib.hid hv; clear hv
      have hk' : k ≤ l := by rw [HL.out] at hk; exact hk
      clear hk
      by_cases hlt : k < l
      · obtain ⟨r, er, o1, c1⟩ := S.out.get (k := k) (by rw [HL.out]; exact hlt)
        have hrm := MM.out r (List.mem_of_getElem? er.out)
        obtain ⟨ra, rc, rxs⟩ := r
        unfold RowOf.val at c1
        dsimp only at c1 hrm
        unfold maxLen at hrm
        by_cases hrl : rxs.length = n
        · have hb : ((rxs.length : Int) != (n : Int)) = false := by simp [hrl]
          have V2 : Hid (∀ j < k + 1, ∀ r, rs[j]? = some r → r.xs.length = n) := by
            intro j hj r hr
            by_cases e : j = k
            · subst e; rw [er.out] at hr; obtain rfl := Option.some.inj hr; exact hrl
            · exact HV.out j (by omega) r hr
          clear hrl
          go_wp2_with fail
          go_roundw
          case rel => exact ⟨k + 1, by rw [HL.out]; omega, by go_num, V2.out, rfl⟩
          case measure => simp [intOf]; omega
        · have hb : ((rxs.length : Int) != (n : Int)) = true := by simp; omega
          have R : Hid (res = false) := by show _ = _; rw [← HR.out]; exact sq_false er.out hrl
          clear hrl
          go_wp2_with fail
          go_ret
          exact ⟨ret_bool R.out.symm, rfl⟩
      · have R : Hid (res = true) := by
          show _ = _
          rw [← HR.out]
          exact sq_true (by rw [HL.out]; exact HN.out) (fun j hj r hr => HV.out j (by rw [HL.out] at hj; omega) r hr)
        go_wp2_with fail
        go_ret
        exact ⟨ret_bool R.out.symm, rfl⟩
  · have hne : ((rs.length : Int) != (n : Int)) = true := by simp; omega
    have R : Hid (res = false) := by
      show _ = _
      rw [← HR.out]
      simp only [sqB, decide_eq_false_iff_not]
      exact fun h => hn h.1
    clear hn
    go_enter Try.func30, Try.ntmps30
    go_wp2_with fail
    go_ret
    exact ⟨ret_bool R.out.symm, rfl⟩
set_option maxHeartbeats 400000 in
theorem match_arg_sl (w : World) (cb n : Nat) (g a : Nat → Nat) (a0 : Option Addr) (c0 : Nat) (rs : List (RowOf Bool)) (r : Int) (h : BarAt w cb n g a) (hq : Sl RowOf.val w a0 rs) (hm : rs.length ≤ maxLen) (hmm : ∀ r ∈ rs, r.xs.length ≤ maxLen) (hs : sqB rs n = false) :
    Calls Try.prog 16 #[.pointer (some ⟨cb, 0, none⟩), .slice a0 rs.length c0, .int .i64 r] w fun e w' => e = .returned (.tuple #[.slice none 0 0, .int .i64 1]) ∧ w = w' := by
  have N := h.n
  have S := square_sl w a0 c0 n rs hq hm hmm
  rw [hs] at S
  have SQ := Lib.hid S
  clear h hq hs S hm hmm
  go_enter Try.func16, Try.ntmps16
  go_wp2_with fail
  refine SQ.out.mono ?_
  rintro e w1 ⟨rfl, rfl⟩
  go_wp2_with fail
  go_ret2
  exact ⟨rfl, rfl⟩
set_option maxHeartbeats 1000000 in
theorem cloneRow_any (w : World) (a : Option Addr) (c : Nat) (xs : List (RowOf Bool)) (hs : Sl RowOf.val w a xs) (hl : xs.length ≤ 1000000) :
    Calls Try.prog 19 #[.slice a xs.length c] w fun e w' => ∃ v, e = .returned v ∧ Rw RowOf.val 27 w' w.heap.size v xs ∧ Below w.heap.size w w' := by
  show Calls _ _ _ _ (RwPost RowOf.val 27 w xs)
  cases a with
  | none =>
    have h0 : xs = [] := by
      match xs, hs with
      | [], _ => rfl
      | x :: l, hs => exact absurd (hs 0 x rfl).1 (by simp [okAd])
    subst h0
    have he := fun w => Lib.run_eql_slice_nil (P := Try.prog) w 25 _ none 0 c 0 0 Try.underlying25
    go_enter Try.func19, Try.ntmps19
    go_wp2
    go_ret
    exact ⟨_, rfl, Rw.nil _ _ _ _, Below.refl _ _⟩
  | some ad =>
    have he := fun w => Lib.run_eql_slice_nil (P := Try.prog) w 25 _ (some ad) xs.length c 0 0 Try.underlying25
    have hl1 := Lib.hid hl
    have HS := Lib.hid hs
    clear hs hl
    obtain ⟨i0, hi, hz0, hz1, hz2⟩ := info_parts Try.infoRow
    have HI := Lib.hid hi; have HZ0 := Lib.hid hz0; have HZ1 := Lib.hid hz1; have HZ2 := Lib.hid hz2
    clear hi hz0 hz1 hz2
    go_enter Try.func19, Try.ntmps19
    go_wp2_with (at_builtin; refine wpList_append_own _ rfl _ _ 25 rfl w.heap.size 27 i0 _ 1 24 Try.underlying25 HI.out HZ0.out HZ1.out HZ2.out rfl (by decide) _ 0 [] rfl ?c0 ad xs.length c (xs.map RowOf.val) rfl ?c1 ?c2 ?c3 ?c4 ?c5 ?c6 ?_)
    case c0 => exact own_empty _ _ _
    case c1 => simp
    case c2 => exact (HS.out.below ((Below.refl _ _).alloc (Nat.le_refl _) _)).news
    case c3 => exact one_map _ (fun _ => rfl) _
    case c4 => have := hl1.out; unfold maxLen; omega
    case c5 => have := hl1.out; omega
    case c6 => simp
    intro v' w1 hown hgr hnil
    have R := Rw.of_own (f := RowOf.val) (by simpa using hown)
    have B : Below w.heap.size w w1 := ((Below.refl _ _).alloc (Nat.le_refl _) _).grown hgr (by simp) (by intro k hk; simp [Value.ownBlock] at hk; omega)
    have HR := Lib.hid R
    clear hown hgr hnil R
    go_wp2
    go_ret
    exact ⟨_, rfl, HR.out, B⟩


theorem own_mono {w : World} {base base' : Nat} {e : TypeId} {size : Nat} {v : Value} {n : Nat} {xs : List Value} (h : w.ownsRow base e size v n xs) (hb : base' ≤ base) : w.ownsRow base' e size v n xs := by
  obtain ⟨h1, h⟩ := h
  refine ⟨h1, ?_⟩
  rcases h with h | ⟨g, cap, cur, h2, hg, r⟩
  · exact .inl h
  · exact .inr ⟨g, cap, cur, h2, Nat.le_trans hb hg, r⟩
theorem own_heap {w w' : World} {base : Nat} {e : TypeId} {size : Nat} {v : Value} {n : Nat} {xs : List Value} (h : w.ownsRow base e size v n xs) (hh : w'.heap = w.heap) : w'.ownsRow base e size v n xs := by
  obtain ⟨h1, h⟩ := h
  refine ⟨h1, ?_⟩
  rcases h with h | ⟨g, cap, cur, h2, hg, h3, r⟩
  · exact .inl h
  · exact .inr ⟨g, cap, cur, h2, hg, by rw [hh]; exact h3, r⟩
theorem news_at {w : World} {b : Nat} {T : TypeId} {v : Value} (h : w.heap[b]? = some (.cells #[v] T)) : ∀ j u, [v][j]? = some u → w.cell? ((⟨b, 0, none⟩ : Addr).add j) = some u := by
  intro j u hj
  have : Blk w b T [v] := h
  rw [add_eq _ _ rfl]
  simpa using this.cell hj
end Go.Proofs.Ytldgpdgoccccpaa
