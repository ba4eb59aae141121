/-
  Contract of the reference's Greatest.
-/
import Derived.Test.YtldgpdgoccccpaaBarKuhn2
import Derived.Test.YtldgpdgoccccpaaApp
namespace Go.Proofs.Ytldgpdgoccccpaa
open Go.RowKit
set_option linter.unusedVariables false

def bL (n : Nat) (t : Nat → Bool) : List Bool := (List.range n).map t
theorem bL_len (n : Nat) (t : Nat → Bool) : (bL n t).length = n := by simp [bL]
theorem bL_set (n : Nat) (t : Nat → Bool) {k : Nat} (h : k < n) (b : Bool) : (bL n t).set k b = bL n (Bar.upd t k b) := (Bar.range_upd t b h).symm
theorem bL_get {n k : Nat} {t : Nat → Bool} (h : k < n) : (bL n t)[k]? = some (t k) := by
  unfold bL; rw [List.getElem?_map, List.getElem?_range h]; rfl
def RgPost (w : World) (r : Nat) (e : Ending) (w' : World) : Prop := e = .returned (.int .i64 r) ∧ Below w.heap.size w w'
def RgRel (req : Nat → Nat → Bool) (n d i : Nat) (taken : Nat → Bool) (W : World) (bv kv : Value) (w : World) : Prop :=
  ∃ k : Nat, k ≤ n ∧ kv = .int .i64 k ∧ bv = .int .i64 (Bar.gl (Bar.gm req n d) (req i) taken k : Nat) ∧ Below W.heap.size W w
theorem gm_le (req : Nat → Nat → Bool) (n : Nat) : ∀ d ≤ n, ∀ taken, Bar.gm req n d taken ≤ d
  | 0, _, _ => Nat.le_refl _
  | d + 1, h, taken => by
    show Bar.gl (Bar.gm req n d) (req (n - (d + 1))) taken n ≤ d + 1
    rcases Bar.gl_is (Bar.gm req n d) (req (n - (d + 1))) taken n with e | ⟨q, _, _, _, e⟩
    · rw [e]; have := gm_le req n d (by omega) taken; omega
    · rw [e]; have := gm_le req n d (by omega) (Bar.upd taken q true); omega
theorem gl_le (req : Nat → Nat → Bool) (n d i : Nat) (h : d ≤ n) (taken : Nat → Bool) (k : Nat) : Bar.gl (Bar.gm req n d) (req i) taken k ≤ d + 1 := by
  rcases Bar.gl_is (Bar.gm req n d) (req i) taken k with e | ⟨q, _, _, _, e⟩
  · rw [e]; have := gm_le req n d h taken; omega
  · rw [e]; have := gm_le req n d h (Bar.upd taken q true); omega

set_option maxHeartbeats 8000000 in
set_option maxRecDepth 100000 in
theorem refg_any (a0 : Option Addr) (c0 n : Nat) (rs : List (RowOf Bool)) (hn : rs.length = n) (hr : ∀ r ∈ rs, r.xs.length = n) (h8 : n ≤ 8) : ∀ (d i : Nat), i + d = n →
    ∀ (w : World) (taken : Nat → Bool) (ta : Option Addr) (tc : Nat), Req w a0 rs → SlB w ta (bL n taken) →
    Calls Try.prog 25 #[.slice a0 n c0, .int .i64 i, .slice ta n tc] w (RgPost w (Bar.gm (reqF rs) n d taken)) := by
  intro d
  induction d with
  | zero =>
    intro i hi w taken ta tc hq hs
    obtain rfl : n = i := by omega
    clear hq hs
    go_enter Try.func25, Try.ntmps25
    go_wp2_with fail
    go_ret
    exact ⟨rfl, Below.refl _ _⟩
  | succ d ih =>
    intro i hi w taken ta tc hq hs
    have hin : ((i : Int) == (n : Int)) = false := by rw [beq_eq_false_iff_ne]; omega
    have IH : Hid (∀ (w : World) (taken : Nat → Bool) (ta : Option Addr) (tc : Nat), Req w a0 rs → SlB w ta (bL n taken) →
      Calls Try.prog 25 #[.slice a0 n c0, .int .i64 ((i : Int) + 1), .slice ta n tc] w (RgPost w (Bar.gm (reqF rs) n d taken))) := fun w t a c h1 h2 => by
      have := ih (i + 1) (by omega) w t a c h1 h2
      rwa [show ((i + 1 : Nat) : Int) = (i : Int) + 1 by simp] at this
    have RQ := Lib.hid hq; have S := Lib.hid hs; have HN := Lib.hid hn; have HR := Lib.hid hr
    have hgm : Hid (Bar.gm (reqF rs) n (d + 1) taken = Bar.gl (Bar.gm (reqF rs) n d) (reqF rs i) taken n) := by
      show Bar.gl _ (reqF rs (n - (d + 1))) _ _ = _
      rw [show n - (d + 1) = i by omega]
    have iln : i < n := by omega
    have C0 := Lib.hid (IH.out w taken ta tc RQ.out S.out)
    obtain ⟨i0, hi0, hz0, hz1, hz2⟩ := info_parts Try.infoBool
    have HI := Lib.hid hi0; have HZ0 := Lib.hid hz0; have HZ1 := Lib.hid hz1; have HZ2 := Lib.hid hz2
    have HI2 := Lib.hid hi
    clear ih hq hs hn hr hi0 hz0 hz1 hz2 hi
    go_enter Try.func25, Try.ntmps25
    go_wp2_with fail
    go_fit C0.out
    rintro e w1 ⟨rfl, hb⟩
    have B1 := Lib.hid hb; clear hb C0
    go_wp2_with fail
    go_loopw [7, 8] (fun b k wr => RgRel (reqF rs) n d i taken w b k wr) (fun _ k _ => n - (intOf k).toNat)
    case atStart => exact ⟨0, Nat.zero_le _, rfl, rfl, B1.out⟩
    case round =>
      clear B1
      obtain ⟨k, hk, rfl, rfl, hb⟩ := hrel
      have B2 := Lib.hid hb; clear hb
      have gle := gl_le (reqF rs) n d i (by have := HI2.out; omega) taken k
      have hgk : Hid (Bar.gl (Bar.gm (reqF rs) n d) (reqF rs i) taken (k + 1) = if !(reqF rs i k) || taken k then Bar.gl (Bar.gm (reqF rs) n d) (reqF rs i) taken k else max (Bar.gl (Bar.gm (reqF rs) n d) (reqF rs i) taken k) (1 + Bar.gm (reqF rs) n d (Bar.upd taken k true))) := rfl
      have gm0 := gm_le (reqF rs) n d (by have := HI2.out; omega) (Bar.upd taken k true)
      by_cases hlt : k < n
      · generalize Bar.gl (Bar.gm (reqF rs) n d) (reqF rs i) taken k = g at *
        have dn : d < n := by have := HI2.out; omega
        obtain ⟨r, er, o1, r1, o2, r2⟩ := (RQ.out.below B2.out).get (n := n) HN.out HR.out iln hlt
        obtain ⟨o3, t1⟩ := (S.out.below B2.out) k (taken k) (bL_get hlt)
        have kn : (k : Int) < (n : Int) := by omega
        have i_n : (i : Int) < (n : Int) := by omega
        cases hrq : reqF rs i k with
        | false =>
          rw [hrq] at r2
          have E : Hid (Bar.gl (Bar.gm (reqF rs) n d) (reqF rs i) taken (k + 1) = g) := by show _ = _; rw [hgk.out, hrq]; simp
          clear hrq er hgk
          go_wp2_with fail
          go_roundw
          case rel => exact ⟨k + 1, by omega, by go_num, by rw [E.out], B2.out⟩
          case measure => simp [intOf]; omega
        | true =>
          rw [hrq] at r2
          cases htk : taken k with
          | true =>
            rw [htk] at t1
            have E : Hid (Bar.gl (Bar.gm (reqF rs) n d) (reqF rs i) taken (k + 1) = g) := by show _ = _; rw [hgk.out, htk]; simp
            clear hrq er hgk htk
            go_wp2_with fail
            go_roundw
            case rel => exact ⟨k + 1, by omega, by go_num, by rw [E.out], B2.out⟩
            case measure => simp [intOf]; omega
          | false =>
            rw [htk] at t1
            have E : Hid (Bar.gl (Bar.gm (reqF rs) n d) (reqF rs i) taken (k + 1) = max g (1 + Bar.gm (reqF rs) n d (Bar.upd taken k true))) := by show _ = _; rw [hgk.out, hrq, htk]; simp
            clear hrq er hgk htk
            have b3 : Below wr.heap.size wr (wr.alloc (.cells #[] 4)) := (Below.refl _ _).alloc (Nat.le_refl _) _
            have S3 := Lib.hid ((S.out.below B2.out).below b3)
            have O0 := Lib.hid (own_empty wr 4 1)
            have hlen : (bL n taken).length = n := bL_len n taken
            have HLEN := Lib.hid hlen
            clear hlen
            go_wp2_with (at_builtin; refine wpList_append_sl rfl (.tmp 39) (.tmp 40) 27 rfl wr.heap.size 4 i0 _ 1 Try.underlying27 HI.out HZ0.out HZ1.out HZ2.out rfl _ 0 [] rfl O0.out Value.bool (fun _ => rfl) ta tc (bL n taken) ?hx S3.out ?c1 ?c2 ?c3 ?_)
            case hx => simp [Act.eval, go_sem, HLEN.out]
            case c1 => rw [HLEN.out]; unfold maxLen; omega
            case c2 => rw [HLEN.out]; omega
            case c3 => simp
            intro v1 w2 hown hgr hat
            rw [HLEN.out] at hown
            have hsw := B2.out.size
            have B3 : Below wr.heap.size wr w2 := b3.grown hgr (by simp) (fun j hj => (own_lt O0.out hj).2)
            obtain ⟨a1, c1, rfl, hsh⟩ := own_shape hown
            clear hsh
            obtain ⟨gb, sp, rfl, hg, hbk, hx1, hx2, hx3, hx4⟩ := own_blk hown (by intro e; have := HLEN.out; rw [e] at this; simp at this; omega)
            clear hx1 hx2 hx3 hx4
            have y1 : w2.cell? ⟨gb, k, none⟩ = some (.bool (taken k)) := hbk.cell (by rw [List.getElem?_append_left (by rw [List.length_map, HLEN.out]; exact hlt), List.getElem?_map, bL_get hlt]; rfl)
            have y2 := hbk.free k
            have b4 := hbk.setL (k := k) (by rw [HLEN.out]; exact hlt) true
            rw [bL_set n taken hlt] at b4
            have S4 := Lib.hid b4.sub
            have B5 : Hid (Below w.heap.size w (w2.setCell ⟨gb, k, none⟩ (.bool true))) := (B2.out.trans (B3.mono hsw)).setCell (p := ⟨gb, k, none⟩) (by show w.heap.size ≤ gb; omega) _
            have C := Lib.hid (IH.out _ _ _ c1 (RQ.out.below B5.out) S4.out)
            clear hown hgr hat B3 hbk b4 b3
            go_wp2_with fail
            go_fit C.out
            rintro e w4 ⟨rfl, hb4⟩
            have B6 := Lib.hid (B5.out.trans (hb4.mono B5.out.size))
            clear hb4 y2
            generalize Bar.gm (reqF rs) n d (Bar.upd taken k true) = G at *
            clear r1 r2 t1 hgm C S4 y1
            by_cases hmx : (g : Int) < 1 + (G : Int)
            · go_wp2_with fail
              go_roundw
              case rel => exact ⟨k + 1, by omega, by go_num, by rw [E.out]; refine congrArg (Value.int .i64) ?_; omega, B6.out⟩
              case measure => simp [intOf]; omega
            · go_wp2_with fail
              go_roundw
              case rel => exact ⟨k + 1, by omega, by go_num, by rw [E.out]; refine congrArg (Value.int .i64) ?_; omega, B6.out⟩
              case measure => simp [intOf]; omega
      · obtain rfl : n = k := by omega
        have E := Lib.hid hgm.out
        go_wp2_with fail
        go_ret
        exact ⟨ret_int (by rw [E.out]), B2.out⟩
end Go.Proofs.Ytldgpdgoccccpaa
