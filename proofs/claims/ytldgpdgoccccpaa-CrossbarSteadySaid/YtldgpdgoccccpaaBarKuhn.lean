/-
  Contracts of the closure of Greatest, and of Greatest.
-/
import Derived.Test.YtldgpdgoccccpaaBarMax
namespace Go.Proofs.Ytldgpdgoccccpaa
open Go.RowKit
set_option linter.unusedVariables false

/-- The variables that the closure captured: the number of outputs, the requests, the tried outputs, the holders, the closure itself. -/
structure AugAt (w : World) (nb rb tb hb ab : Nat) (a0 : Option Addr) (c0 n : Nat) (rs : List (RowOf Bool)) (t : Nat → Bool) (h : Nat → Int) : Prop where
  hn : Blk w nb 3 [.int .i64 n]
  hr : Blk w rb 25 [.slice a0 n c0]
  ht : Fun w tb 62 8 (bF t)
  hh : Fun w hb 59 8 (iF h)
  ha : Blk w ab 69 [.func (.func 36) #[] #[.pointer (some ⟨nb, 0, none⟩), .pointer (some ⟨rb, 0, none⟩), .pointer (some ⟨tb, 0, none⟩), .pointer (some ⟨hb, 0, none⟩), .pointer (some ⟨ab, 0, none⟩)]]
  rq : Req w a0 rs
  ne : tb ≠ hb ∧ nb ≠ tb ∧ nb ≠ hb ∧ rb ≠ tb ∧ rb ≠ hb ∧ ab ≠ tb ∧ ab ≠ hb ∧ Off a0 rs (fun j => j = tb ∨ j = hb)
theorem AugAt.below {w w' : World} {nb rb tb hb ab : Nat} {a0 : Option Addr} {c0 n : Nat} {rs : List (RowOf Bool)} {t : Nat → Bool} {h : Nat → Int} (H : AugAt w nb rb tb hb ab a0 c0 n rs t h) (b : Below w.heap.size w w') : AugAt w' nb rb tb hb ab a0 c0 n rs t h :=
  have u : Upd (fun _ => False) w w' := Upd.of_below b
  ⟨H.hn.upd u id, H.hr.upd u id, H.ht.upd u id, H.hh.upd u id, H.ha.upd u id, H.rq.below b, H.ne⟩
theorem AugAt.setT {w : World} {nb rb tb hb ab : Nat} {a0 : Option Addr} {c0 n : Nat} {rs : List (RowOf Bool)} {t : Nat → Bool} {h : Nat → Int} (H : AugAt w nb rb tb hb ab a0 c0 n rs t h) {k : Nat} (hk : k < 8) (b : Bool) : AugAt (w.setCell ⟨tb, k, none⟩ (.bool b)) nb rb tb hb ab a0 c0 n rs (Bar.upd t k b) h :=
  have u : Upd (fun j => j = tb) w (w.setCell ⟨tb, k, none⟩ (.bool b)) := (Upd.refl _ _).setCell _ _ fun _ => rfl
  ⟨H.hn.upd u H.ne.2.1, H.hr.upd u H.ne.2.2.2.1, by rw [← bF_upd]; exact H.ht.set hk _, H.hh.upd u (fun e => H.ne.1 e.symm), H.ha.upd u H.ne.2.2.2.2.2.1, H.rq.upd u ⟨fun h1 h2 => H.ne.2.2.2.2.2.2.2.1 h1 (.inl h2), fun r hr h1 h2 => H.ne.2.2.2.2.2.2.2.2 r hr h1 (.inl h2)⟩, H.ne⟩
theorem AugAt.setH {w : World} {nb rb tb hb ab : Nat} {a0 : Option Addr} {c0 n : Nat} {rs : List (RowOf Bool)} {t : Nat → Bool} {h : Nat → Int} (H : AugAt w nb rb tb hb ab a0 c0 n rs t h) {k : Nat} (hk : k < 8) (x : Int) : AugAt (w.setCell ⟨hb, k, none⟩ (.int .i64 x)) nb rb tb hb ab a0 c0 n rs t (Bar.upd h k x) :=
  have u : Upd (fun j => j = hb) w (w.setCell ⟨hb, k, none⟩ (.int .i64 x)) := (Upd.refl _ _).setCell _ _ fun _ => rfl
  ⟨H.hn.upd u H.ne.2.2.1, H.hr.upd u H.ne.2.2.2.2.1, H.ht.upd u H.ne.1, by rw [← iF_upd]; exact H.hh.set hk _, H.ha.upd u H.ne.2.2.2.2.2.2.1, H.rq.upd u ⟨fun h1 h2 => H.ne.2.2.2.2.2.2.2.1 h1 (.inr h2), fun r hr h1 h2 => H.ne.2.2.2.2.2.2.2.2 r hr h1 (.inr h2)⟩, H.ne⟩

def AugEnd (req : Nat → Nat → Bool) (n i : Nat) (t : Nat → Bool) (h : Nat → Int) (b : Bool) (t' : Nat → Bool) (h' : Nat → Int) : Prop :=
  if b = true then Bar.Succ req n i t h h' else h' = h ∧ Bar.Fail req n i t h t'
def AugPost (w : World) (nb rb tb hb ab : Nat) (a0 : Option Addr) (c0 n : Nat) (rs : List (RowOf Bool)) (i : Nat) (t : Nat → Bool) (h : Nat → Int) (e : Ending) (w' : World) : Prop :=
  ∃ b t' h', e = .returned (.bool b) ∧ AugAt w' nb rb tb hb ab a0 c0 n rs t' h' ∧ AugEnd (reqF rs) n i t h b t' h' ∧ Upd (fun j => j = tb ∨ j = hb) w w'
def untried (n : Nat) (t : Nat → Bool) : Nat := Bar.cnt n fun k => !t k
def AugRel (w : World) (nb rb tb hb ab : Nat) (a0 : Option Addr) (c0 n : Nat) (rs : List (RowOf Bool)) (x : Nat) (t : Nat → Bool) (h : Nat → Int) (i : Value) (wr : World) : Prop :=
  ∃ (j : Nat) (t' : Nat → Bool), j ≤ n ∧ i = .int .i64 j ∧ AugAt wr nb rb tb hb ab a0 c0 n rs t' h ∧ Bar.Look (reqF rs) n x t h j t' ∧ Upd (fun j => j = tb ∨ j = hb) w wr

set_option maxHeartbeats 8000000 in
set_option maxRecDepth 100000 in
theorem aug_any (nb rb tb hb ab : Nat) (a0 : Option Addr) (c0 n : Nat) (rs : List (RowOf Bool)) (hn : rs.length = n) (hr : ∀ r ∈ rs, r.xs.length = n) (h8 : n ≤ 8) (d : Nat) :
    ∀ (w : World) (i : Nat) (t : Nat → Bool) (h : Nat → Int), untried n t ≤ d → AugAt w nb rb tb hb ab a0 c0 n rs t h → Bar.Pre (reqF rs) n i t h → i < n →
    Calls Try.prog 36 #[.int .i64 i, .pointer (some ⟨nb, 0, none⟩), .pointer (some ⟨rb, 0, none⟩), .pointer (some ⟨tb, 0, none⟩), .pointer (some ⟨hb, 0, none⟩), .pointer (some ⟨ab, 0, none⟩)] w (AugPost w nb rb tb hb ab a0 c0 n rs i t h) := by
  induction d using Nat.strongRecOn with
  | ind d ih =>
    intro w i t h hd hA hP hi
    have IH := Lib.hid ih; have A := Lib.hid hA; have P := Lib.hid hP; have HN := Lib.hid hn; have HR := Lib.hid hr
    have N0 := hA.hn.cell (i := 0) rfl
    clear ih hA hP hn hr
    go_enter Try.func36, Try.ntmps36
    go_wp2_with fail
    go_loopw [10] (fun j wr => AugRel w nb rb tb hb ab a0 c0 n rs i t h j wr) (fun j _ => n - (intOf j).toNat)
    case atStart => exact ⟨0, t, Nat.zero_le _, rfl, A.out, Bar.Look.start _ _ _ _ _, Upd.refl _ _⟩
    case round =>
      clear N0
      obtain ⟨j, t', hj, rfl, hA, hl, hu⟩ := hrel
      have A1 := Lib.hid hA; have LK := Lib.hid hl; have U := Lib.hid hu
      clear hA hl hu
      by_cases hlt : j < n
      · have y0 := A1.out.hr.cell (i := 0) rfl
        have i_n : (i : Int) < (n : Int) := by omega
        have j_n : (j : Int) < (n : Int) := by omega
        have j8 : (j : Int) < 8 := by omega
        obtain ⟨r, er, o1, r1, o2, r2⟩ := A1.out.rq.get (n := n) HN.out HR.out hi hlt
        have tc : wr.cell? ⟨tb, j, none⟩ = some (bF t' j) := A1.out.ht.cell (by omega)
        unfold bF at tc
        have tf := A1.out.ht.free j
        cases hrq : reqF rs i j with
        | false =>
          rw [hrq] at r2
          have NX := Lib.hid (LK.out.skip (.inl hrq))
          clear hrq er
          go_wp2_with fail
          go_roundw
          case rel => exact ⟨j + 1, t', by omega, by go_num, A1.out, NX.out, U.out⟩
          case measure => simp [intOf]; omega
        | true =>
          rw [hrq] at r2
          cases htj : t' j with
          | true =>
            rw [htj] at tc
            have NX := Lib.hid (LK.out.skip (.inr htj))
            clear hrq er htj
            go_wp2_with fail
            go_roundw
            case rel => exact ⟨j + 1, t', by omega, by go_num, A1.out, NX.out, U.out⟩
            case measure => simp [intOf]; omega
          | false =>
            rw [htj] at tc
            have A2 := Lib.hid (A1.out.setT (k := j) (by omega) true)
            have U2 : Hid (Upd (fun j => j = tb ∨ j = hb) w (wr.setCell ⟨tb, j, none⟩ (.bool true))) := U.out.trans ((Upd.refl _ _).setCell _ _ fun _ => .inl rfl)
            have hc : (wr.setCell ⟨tb, j, none⟩ (.bool true)).cell? ⟨hb, j, none⟩ = some (iF h j) := A2.out.hh.cell (by omega)
            unfold iF at hc
            have hf := A2.out.hh.free j
            by_cases hneg : h j < 0
            · have SC := Lib.hid (LK.out.take hi P.out hlt hrq htj hneg)
              clear hrq er htj
              have HJ : Hid (∀ w, AugAt w nb rb tb hb ab a0 c0 n rs (Bar.upd t' j true) h → w.cell? ⟨hb, j, none⟩ = some (.int .i64 (h j)) ∧ w.frozen? ⟨hb, j, none⟩ = false) := fun w h => ⟨h.hh.cell (by omega), h.hh.free j⟩
              generalize hgj : h j = hj0 at *
              clear hgj
              go_wp2_with fail
              go_quiet (fail)
              rename_i nq
              have q3 : Qt (wr.setCell ⟨tb, j, none⟩ (.bool true)) ((wr.setCell ⟨tb, j, none⟩ (.bool true)).drewN nq) := Qt.drewN' _ _
              have A3 := Lib.hid (A2.out.below q3.bel)
              have U3 := Lib.hid (U2.out.qt q3)
              clear q3 y0 tc tf hc hf r1 r2
              generalize (wr.setCell ⟨tb, j, none⟩ (.bool true)).drewN nq = w3 at *
              obtain ⟨hc, hf⟩ := HJ.out w3 A3.out
              have A4 := Lib.hid (A3.out.setH (k := j) (by omega) (i : Int))
              have U4 : Hid (Upd (fun j => j = tb ∨ j = hb) w (w3.setCell ⟨hb, j, none⟩ (.int .i64 i))) := U3.out.trans ((Upd.refl _ _).setCell _ _ fun _ => .inr rfl)
              go_wp2_with fail
              go_ret
              exact ⟨true, _, _, rfl, A4.out, SC.out, U4.out⟩
            · obtain ⟨x, hx⟩ := Int.eq_ofNat_of_zero_le (show 0 ≤ h j by omega)
              have PRE := LK.out.pre P.out hlt hrq htj hx
              have hxn : x < n := by
                rcases P.out.v j hlt with h1 | ⟨y, h1, h2, _⟩ <;> omega
              have hlt2 : untried n (Bar.upd t' j true) < d := by
                refine Nat.lt_of_lt_of_le (Bar.cnt_lt (y := j) (q := fun k => !t k) (fun k hk hp => ?_) hlt (by simp [Bar.upd_same]) ?_) hd
                · have hp' : Bar.upd t' j true k = false := by simpa using hp
                  cases htk : t k with
                  | false => rfl
                  | true =>
                    have := LK.out.sub k hk htk
                    by_cases e : k = j
                    · subst e; rw [htj] at this; exact absurd this (by simp)
                    · rw [Bar.upd_ne _ _ e, this] at hp'; exact absurd hp' (by simp)
                · cases htk : t j with
                  | false => rfl
                  | true =>
                    have := LK.out.sub j hlt htk
                    rw [htj] at this; exact absurd this (by simp)
              have CALL : Hid (∀ w', Qt (wr.setCell ⟨tb, j, none⟩ (.bool true)) w' → Calls Try.prog 36 #[.int .i64 x, .pointer (some ⟨nb, 0, none⟩), .pointer (some ⟨rb, 0, none⟩), .pointer (some ⟨tb, 0, none⟩), .pointer (some ⟨hb, 0, none⟩), .pointer (some ⟨ab, 0, none⟩)] w' fun e w'' =>
                  ∃ b t2 h2, e = .returned (.bool b) ∧ AugAt w'' nb rb tb hb ab a0 c0 n rs t2 h2 ∧ AugEnd (reqF rs) n x (Bar.upd t' j true) h b t2 h2 ∧ Upd (fun j => j = tb ∨ j = hb) (wr.setCell ⟨tb, j, none⟩ (.bool true)) w'' ∧ h2 j = h j) := by
                intro w' hq
                refine (IH.out _ hlt2 w' x (Bar.upd t' j true) h (Nat.le_refl _) (A2.out.below hq.bel) PRE hxn).mono ?_
                rintro e w'' ⟨b, t2, h2, e1, e2, e3, e4⟩
                refine ⟨b, t2, h2, e1, e2, e3, (Upd.of_below hq.bel).trans e4, ?_⟩
                unfold AugEnd at e3
                split at e3
                · exact e3.old j hlt (Bar.upd_same _ _ _)
                · rw [e3.1]
              have HAND : Hid (∀ t2 h2, AugEnd (reqF rs) n x (Bar.upd t' j true) h true t2 h2 → Bar.Succ (reqF rs) n i t h (Bar.upd h2 j (i : Int))) := fun t2 h2 e => LK.out.hand hi P.out hlt hrq htj hx (by unfold AugEnd at e; rw [if_pos rfl] at e; exact e)
              have STEP : Hid (∀ t2 h2, AugEnd (reqF rs) n x (Bar.upd t' j true) h false t2 h2 → h2 = h ∧ Bar.Look (reqF rs) n i t h (j + 1) t2) := fun t2 h2 e => by
                unfold AugEnd at e; rw [if_neg (by simp)] at e
                exact ⟨e.1, LK.out.step P.out hlt hrq htj hx e.2⟩
              have ca : (wr.setCell ⟨tb, j, none⟩ (.bool true)).cell? ⟨ab, 0, none⟩ = some (.func (.func 36) #[] #[.pointer (some ⟨nb, 0, none⟩), .pointer (some ⟨rb, 0, none⟩), .pointer (some ⟨tb, 0, none⟩), .pointer (some ⟨hb, 0, none⟩), .pointer (some ⟨ab, 0, none⟩)]) := A2.out.ha.cell (i := 0) rfl
              have hxd : decide ((x : Int) < 0) = false := by simp
              rw [hx] at hc CALL
              have HX := Lib.hid hx
              clear hrq er htj hx hneg PRE hlt2
              go_wp2_with fail
              clear y0 tc tf r1 r2
              generalize wr.setCell ⟨tb, j, none⟩ (.bool true) = w3 at *
              go_region_held3 (fun w' => w'.cell? ⟨hb, j, none⟩ = some (.int .i64 x) ∧ w'.cell? ⟨ab, 0, none⟩ = some (.func (.func 36) #[] #[.pointer (some ⟨nb, 0, none⟩), .pointer (some ⟨rb, 0, none⟩), .pointer (some ⟨tb, 0, none⟩), .pointer (some ⟨hb, 0, none⟩), .pointer (some ⟨ab, 0, none⟩)]))
                ((go_split_ands; first | exact ⟨by assumption, by assumption⟩ | go_keep))
                (first | (go_at_call 36; go_split_ands; refine (CALL.out _ (by first | exact Qt.refl _ | exact (Qt.refl _).drew)).mono ?_; rintro e w5 ⟨b, t2, h2, rfl, hA5, hE5, hU5, hj5⟩; have q1 : w5.cell? ⟨hb, j, none⟩ = some (.int .i64 x) := (hA5.hh.cell (by omega)).trans (by unfold iF; rw [hj5]); have q2 := hA5.ha.cell (i := 0) (v := .func (.func 36) #[] #[.pointer (some ⟨nb, 0, none⟩), .pointer (some ⟨rb, 0, none⟩), .pointer (some ⟨tb, 0, none⟩), .pointer (some ⟨hb, 0, none⟩), .pointer (some ⟨ab, 0, none⟩)]) rfl))
              have A5 := Lib.hid hA5
              have U5 := Lib.hid (U2.out.trans hU5)
              have q3 := hA5.hh.free j
              rename_i hHeld
              clear hHeld hA5 hU5 hj5
              cases b with
              | true =>
                have SC := Lib.hid (HAND.out _ _ hE5)
                have A6 := Lib.hid (A5.out.setH (k := j) (by omega) (i : Int))
                have U6 : Hid (Upd (fun j => j = tb ∨ j = hb) w (w5.setCell ⟨hb, j, none⟩ (.int .i64 i))) := U5.out.trans ((Upd.refl _ _).setCell _ _ fun _ => .inr rfl)
                clear hE5
                go_wp2_with fail
                go_ret
                exact ⟨true, _, _, rfl, A6.out, SC.out, U6.out⟩
              | false =>
                obtain ⟨rfl, hl⟩ := STEP.out _ _ hE5
                have NX := Lib.hid hl
                clear hE5 hl
                go_wp2_with fail
                go_roundw
                case rel => exact ⟨j + 1, t2, by omega, by go_num, A5.out, NX.out, U5.out⟩
                case measure => simp [intOf]; omega
      · obtain rfl : n = j := by omega
        have FL := Lib.hid LK.out.fail
        go_wp2_with fail
        go_ret
        exact ⟨false, t', h, rfl, A1.out, ⟨rfl, FL.out⟩, U.out⟩
end Go.Proofs.Ytldgpdgoccccpaa
