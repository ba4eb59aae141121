/-
  NewGate, Last, Pending; the reference's Same.
-/
import Derived.Test.YtjljjohoipnhhaaGateC
import Derived.Laws.BytesArg
namespace Go.Proofs.Ytjljjohoipnhhaa
open Go.RowKit
set_option linter.unusedVariables false

set_option maxHeartbeats 1000000 in
theorem newGate_ok (w : World) : Calls Try.prog 21 #[] w fun e w' => e = .returned (.pointer (some ⟨w.heap.size, 0, none⟩)) ∧ GateAt w' w.heap.size w.heap.size (.slice none 0 0) [] (-1) false ∧ Below w.heap.size w w' := by
  have HN : Hid (GateAt (w.alloc (.cells #[.slice none 0 0, .int .i64 (-1), .bool false] 78)) w.heap.size w.heap.size (.slice none 0 0) [] (-1) false) :=
    ⟨Blk.new w _ [.slice none 0 0, .int .i64 (-1), .bool false], Vw.nil _ _ _ _, (fun e => by cases e), Nat.le_refl _⟩
  go_enter Try.func21, Try.ntmps21
  go_wp2
  go_ret
  exact ⟨rfl, HN.out, (Below.refl _ _).alloc (Nat.le_refl _) _⟩
set_option maxHeartbeats 1000000 in
theorem last_any (w : World) (base b : Nat) (rv : Value) (rest : List Int) (last : Int) (br : Bool) (h : GateAt w base b rv rest last br) :
    Calls Try.prog 26 #[.pointer (some ⟨b, 0, none⟩)] w fun e w' => e = .returned (.int .i64 last) ∧ w = w' := by
  have b1 := h.hb.cell (i := 1) rfl
  clear h
  go_enter Try.func26, Try.ntmps26
  go_wp2
  go_ret
  exact ⟨rfl, rfl⟩
set_option maxHeartbeats 1000000 in
theorem pending_any (w : World) (base b : Nat) (rv : Value) (rest : List Int) (last : Int) (br : Bool) (h : GateAt w base b rv rest last br) :
    Calls Try.prog 27 #[.pointer (some ⟨b, 0, none⟩)] w fun e w' => e = .returned (.int .i64 rest.length) ∧ w = w' := by
  obtain ⟨ra, rc, rfl⟩ := h.hr.shape
  have b0 := h.hb.cell (i := 0) rfl
  clear h
  go_enter Try.func27, Try.ntmps27
  go_wp2
  go_ret
  exact ⟨rfl, rfl⟩

/-- Rows that are read: a slice of data. -/
def RdB (w : World) (a : Option Addr) (rs : List RwB) : Prop := Sl RwB.val w a rs ∧ ∀ r ∈ rs, Sl (Value.int .u8) w r.a r.d
theorem RdB.below {w w' : World} {a : Option Addr} {rs : List RwB} (h : RdB w a rs) (q : Below w.heap.size w w') : RdB w' a rs := ⟨h.1.below q, fun r hr => (h.2 r hr).below q⟩
theorem conv_str (w : World) (a : Option Addr) (c : Nat) (d : List Int) (hne : d ≠ []) (h : Sl (Value.int .u8) w a d) : (convert 22 9 (.slice a d.length c)).run Try.prog w = .ok (.string (strOfNums d)) w := by
  cases d with
  | nil => exact absurd rfl hne
  | cons y l =>
    obtain ⟨h0, _⟩ := h 0 y rfl
    cases a with
    | none => simp [okAd] at h0
    | some x =>
      obtain ⟨b, o, sp⟩ := x
      simp [okAd] at h0
      subst h0
      refine run_convert_bytes_arg (P := Try.prog) (w := w) 22 5 Try.underlying22 Try.underlying5 b o _ c (y :: l) rfl (fun i hi => ?_) 9 Try.underlying9
      have hx : (y :: l)[i]? = some ((y :: l)[i]) := List.getElem?_eq_getElem hi
      have := (h i _ hx).2
      rw [adr_mk] at this
      rw [this]
      simp [List.getD, hx]
def SameRel (n : Nat) (w : World) (i : Value) (wr : World) : Prop := ∃ k : Nat, k ≤ n ∧ i = .int .i64 k ∧ Qt w wr
theorem same_get {rs ts : List RwB} (h : rs.map RwB.d = ts.map RwB.d) {k : Nat} (hk : k < rs.length) : ∃ r t, Hid (rs[k]? = some r) ∧ Hid (ts[k]? = some t) ∧ r.d = t.d := by
  have hl : rs.length = ts.length := by simpa using congrArg List.length h
  have h1 : rs[k]? = some rs[k] := List.getElem?_eq_getElem hk
  have h2 : ts[k]? = some (ts[k]'(by omega)) := List.getElem?_eq_getElem (by omega)
  refine ⟨_, _, h1, h2, ?_⟩
  have := congrArg (fun l => l[k]?) h
  simpa [List.getElem?_map, h1, h2] using this
set_option maxHeartbeats 4000000 in
set_option maxRecDepth 100000 in
theorem same_any (w : World) (a1 a2 : Option Addr) (c1 c2 : Nat) (rs ts : List RwB) (h1 : RdB w a1 rs) (h2 : RdB w a2 ts) (he : rs.map RwB.d = ts.map RwB.d) (hne : ∀ r ∈ rs, r.d ≠ []) (hl : rs.length ≤ maxLen) :
    Calls Try.prog 25 #[.slice a1 rs.length c1, .slice a2 ts.length c2] w fun e w' => e = .returned (.bool true) ∧ Qt w w' := by
  have hlen : rs.length = ts.length := by simpa using congrArg List.length he
  have H1 := Lib.hid h1; have H2 := Lib.hid h2; have HE := Lib.hid he; have HNE := Lib.hid hne
  unfold maxLen at hl
  clear h1 h2 he hne
  have hb : ((rs.length : Int) != (ts.length : Int)) = false := by simp [hlen]
  generalize hn : rs.length = n at *
  have HN := Lib.hid hn; have HM := Lib.hid hlen
  clear hn
  rw [← hlen]
  clear hlen hb
  go_enter Try.func25, Try.ntmps25
  go_wp2_with fail
  go_loopw [5] (fun i wr => SameRel n w i wr) (fun i _ => n - (intOf i).toNat)
  case atStart => exact ⟨0, Nat.zero_le _, rfl, Qt.refl _⟩
  case round =>
    obtain ⟨k, hk, rfl, hq⟩ := hrel
    have Q := Lib.hid hq; clear hq
    by_cases hlt : k < n
    · obtain ⟨r, t, er, et, hd⟩ := same_get HE.out (k := k) (by rw [HN.out]; exact hlt)
      obtain ⟨ok1, x1⟩ := (H1.out.1.qt Q.out) k r er.out
      obtain ⟨ok2, x2⟩ := (H2.out.1.qt Q.out) k t et.out
      unfold RwB.val at x1 x2
      have hr := HNE.out r (List.mem_of_getElem? er.out)
      have v1 : ∀ m, (convert 22 9 (.slice r.a r.d.length r.c)).run Try.prog (wr.drewN m) = .ok (.string (strOfNums r.d)) (wr.drewN m) := fun m => conv_str _ _ _ _ hr ((H1.out.2 r (List.mem_of_getElem? er.out)).qt (Q.out.drewN m))
      have v2 : ∀ m, (convert 22 9 (.slice t.a t.d.length t.c)).run Try.prog (wr.drewN m) = .ok (.string (strOfNums r.d)) (wr.drewN m) := fun m => by
        rw [hd]
        exact conv_str _ _ _ _ (by rw [← hd]; exact hr) ((H2.out.2 t (List.mem_of_getElem? et.out)).qt (Q.out.drewN m))
      have k0 : (0 : Int) ≤ (k : Int) := by omega
      have k1 : (k : Int) < (n : Int) := by omega
      clear hd hr
      go_wp2_with fail
      go_quiet (fail)
      go_wp2_with fail
      go_roundw
      case rel => exact ⟨k + 1, by omega, by go_num, Q.out.drewN _⟩
      case measure => simp [intOf]; omega
    · obtain rfl : k = n := by omega
      go_wp2_with fail
      go_ret
      exact ⟨rfl, Q.out⟩
end Go.Proofs.Ytjljjohoipnhhaa
