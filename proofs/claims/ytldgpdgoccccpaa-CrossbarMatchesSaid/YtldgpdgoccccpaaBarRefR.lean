/-
  Contract of the reference's Round.
-/
import Derived.Test.YtldgpdgoccccpaaBarGen
import Derived.Test.YtldgpdgoccccpaaApp
import Derived.RegionTactic
import Derived.BigRegion
namespace Go.Proofs.Ytldgpdgoccccpaa
open Go.RowKit
set_option linter.unusedVariables false

/-- The reference's crossbar in memory. -/
structure RefAt (w : World) (rb gb ab n : Nat) (g a : Nat → Nat) : Prop where
  hb : Blk w rb 47 [.slice (some ⟨gb, 0, none⟩) n n, .slice (some ⟨ab, 0, none⟩) n n]
  hg : Fun w gb 3 n (nF g)
  ha : Fun w ab 3 n (nF a)
  ne : rb ≠ gb ∧ rb ≠ ab ∧ gb ≠ ab
theorem RefAt.upd {S : Nat → Prop} {w w' : World} {rb gb ab n : Nat} {g a : Nat → Nat} (h : RefAt w rb gb ab n g a) (u : Upd S w w') (h1 : ¬ S rb) (h2 : ¬ S gb) (h3 : ¬ S ab) : RefAt w' rb gb ab n g a := ⟨h.hb.upd u h1, h.hg.upd u h2, h.ha.upd u h3, h.ne⟩
theorem RefAt.below {w w' : World} {rb gb ab n : Nat} {g a : Nat → Nat} (h : RefAt w rb gb ab n g a) (b : Below w.heap.size w w') : RefAt w' rb gb ab n g a := h.upd (S := fun _ => False) (Upd.of_below b) id id id
theorem nF_upd (g : Nat → Nat) (k x : Nat) : Bar.upd (nF g) k (.int .i64 (x : Int)) = nF (Bar.upd g k x) := by funext j; by_cases e : j = k <;> simp [Bar.upd, nF, e]
theorem RefAt.setG {w : World} {rb gb ab n : Nat} {g a : Nat → Nat} (h : RefAt w rb gb ab n g a) {k : Nat} (hk : k < n) (x : Nat) : RefAt (w.setCell ⟨gb, k, none⟩ (.int .i64 (x : Int))) rb gb ab n (Bar.upd g k x) a :=
  ⟨h.hb.setO _ h.ne.1, by rw [← nF_upd]; exact h.hg.set hk _, h.ha.setO _ (fun e => h.ne.2.2 e.symm), h.ne⟩
theorem RefAt.setA {w : World} {rb gb ab n : Nat} {g a : Nat → Nat} (h : RefAt w rb gb ab n g a) {k : Nat} (hk : k < n) (x : Nat) : RefAt (w.setCell ⟨ab, k, none⟩ (.int .i64 (x : Int))) rb gb ab n g (Bar.upd a k x) :=
  ⟨h.hb.setO _ h.ne.2.1, h.hg.setO _ h.ne.2.2, by rw [← nF_upd]; exact h.ha.set hk _, h.ne⟩
def mL (n : Nat) (m : Nat → Int) : List Int := (List.range n).map m
theorem mL_len (n : Nat) (m : Nat → Int) : (mL n m).length = n := by simp [mL]
theorem mL_get {n k : Nat} {m : Nat → Int} (h : k < n) : (mL n m)[k]? = some (m k) := by unfold mL; rw [List.getElem?_map, List.getElem?_range h]; rfl
theorem mL_set (n : Nat) (m : Nat → Int) {k : Nat} (h : k < n) (x : Int) : (mL n m).set k x = mL n (Bar.upd m k x) := (Bar.range_upd m x h).symm

theorem tkF_succ_lt (m : Nat → Int) (i : Nat) (h : m i < 0) : tkF m (i + 1) = tkF m i := by
  funext k
  rw [Bool.eq_iff_iff, tkF_iff, tkF_iff]
  exact ⟨fun ⟨j, h1, h2⟩ => ⟨j, by rcases Nat.lt_or_ge j i with h3 | h3; exact h3; (have : j = i := by omega); subst this; omega, h2⟩, fun ⟨j, h1, h2⟩ => ⟨j, by omega, h2⟩⟩

/-- A round depends on the taken outputs below n alone. -/
theorem round_t {req : Nat → Nat → Bool} {n : Nat} (adv : Bool) {m : Nat → Int} {t t' : Nat → Bool} {g a : Nat → Nat} (ht : ∀ k < n, t k = t' k) (ha : ∀ i < n, a i < n) :
    (Bar.round req n adv ⟨m, t, g, a⟩).m = (Bar.round req n adv ⟨m, t', g, a⟩).m ∧ (Bar.round req n adv ⟨m, t, g, a⟩).g = (Bar.round req n adv ⟨m, t', g, a⟩).g ∧ (Bar.round req n adv ⟨m, t, g, a⟩).a = (Bar.round req n adv ⟨m, t', g, a⟩).a := by
  have A := Bar.accN_spec n adv (Bar.grv req n ⟨m, t, g, a⟩) ⟨m, t, g, a⟩ ha n (Nat.le_refl _)
  have B := Bar.accN_spec n adv (Bar.grv req n ⟨m, t', g, a⟩) ⟨m, t', g, a⟩ ha n (Nat.le_refl _)
  have hgr : ∀ k < n, Bar.grv req n ⟨m, t, g, a⟩ k = Bar.grv req n ⟨m, t', g, a⟩ k := fun k hk => by have := ht k hk; simp [Bar.grv, this]
  have hkk : ∀ i < n, Bar.kkv n (Bar.grv req n ⟨m, t, g, a⟩) a i = Bar.kkv n (Bar.grv req n ⟨m, t', g, a⟩) a i := fun i hi => fst_congr (fun x hx => by rw [hgr x hx]) (ha i hi)
  refine ⟨?_, ?_, ?_⟩
  · funext x
    refine (A.m x).trans (Eq.trans ?_ (B.m x).symm)
    dsimp only
    by_cases hx : x < n
    · rw [hkk x hx]
    · rw [if_neg (fun h => hx h.1), if_neg (fun h => hx h.1)]
  · funext y
    by_cases hy : ∃ x, x < n ∧ Bar.kkv n (Bar.grv req n ⟨m, t, g, a⟩) a x = (y : Int)
    · obtain ⟨x, hx, e⟩ := hy
      exact (A.g1 x y hx e).trans (B.g1 x y hx (by dsimp only; rw [← hkk x hx, e])).symm
    · exact (A.g0 y fun x hx e => hy ⟨x, hx, e⟩).trans (B.g0 y fun x hx e => hy ⟨x, hx, by rw [hkk x hx]; exact e⟩).symm
  · funext x
    refine (A.a x).trans (Eq.trans ?_ (B.a x).symm)
    dsimp only
    by_cases hx : x < n
    · rw [hkk x hx]
    · rw [if_neg (fun h => hx h.2.1), if_neg (fun h => hx h.2.1)]

/-- The state of a round of the reference: which outputs are taken is reckoned anew. -/
def refS (n : Nat) (m : Nat → Int) (g a : Nat → Nat) : Bar.St := ⟨m, tkF m n, g, a⟩
def RrPost (W : World) (rb gb ab n : Nat) (s : Bar.St) (e : Ending) (w : World) : Prop :=
  ∃ v b, e = .returned v ∧ Cp w v (mL n s.m) b ∧ W.heap.size ≤ b ∧ RefAt w rb gb ab n s.g s.a ∧ Upd (fun j => j = gb ∨ j = ab) W w
def Rf1 (W : World) (n : Nat) (m : Nat → Int) (i : Value) (w : World) : Prop := ∃ k : Nat, k ≤ n ∧ i = .int .i64 k ∧ Fun w W.heap.size 4 n (bF (tkF m k)) ∧ Below W.heap.size W w
structure Rf2 (W : World) (qb n : Nat) (m : Nat → Int) (gr : Nat → Int) (w : World) : Prop where
  t : Fun w W.heap.size 4 n (bF (tkF m n))
  q : Fun w qb 3 n (iF gr)
  bel : Below W.heap.size W w
def Rf2R (W : World) (qb n : Nat) (m : Nat → Int) (req : Nat → Nat → Bool) (s : Bar.St) (i : Value) (w : World) : Prop := ∃ k : Nat, k ≤ n ∧ i = .int .i64 k ∧ Rf2 W qb n m (grK req n s k) w
def Rf3R (W : World) (qb n k : Nat) (m : Nat → Int) (gr : Nat → Int) (p : Nat → Bool) (f : Nat) (i : Value) (w : World) : Prop := ∃ s : Nat, s ≤ n ∧ i = .int .i64 ((s : Int) - 1) ∧ Rf2 W qb n m (Bar.upd gr k (Bar.fv p n f (n - s))) w
structure Rf4 (W : World) (rb gb ab qb ob n : Nat) (sp : List Value) (gr : Nat → Int) (s : Bar.St) (w : World) : Prop where
  ref : RefAt w rb gb ab n s.g s.a
  q : Fun w qb 3 n (iF gr)
  o : Blk w ob 3 ((mL n s.m).map (Value.int .i64) ++ sp)
  upd : Upd (fun j => j = gb ∨ j = ab) W w
def Rf4R (W : World) (rb gb ab qb ob n : Nat) (sp : List Value) (gr : Nat → Int) (adv : Bool) (grv : Nat → Int) (s : Bar.St) (i : Value) (w : World) : Prop := ∃ k : Nat, k ≤ n ∧ i = .int .i64 k ∧ Rf4 W rb gb ab qb ob n sp gr (Bar.accN n adv grv s k) w
def Rf5R (n : Nat) (p : Nat → Bool) (f : Nat) (W : World) (c i : Value) (w : World) : Prop := ∃ s : Nat, s ≤ n ∧ i = .int .i64 ((s : Int) - 1) ∧ c = .int .i64 (Bar.fv p n f (n - s)) ∧ W = w
theorem fv_down (p : Nat → Bool) (n f s : Nat) (hs : s < n) : Bar.fv p n f (n - s) = if p ((f + s) % n) then (((f + s) % n : Nat) : Int) else Bar.fv p n f (n - (s + 1)) := fv_step p n f s hs

set_option maxHeartbeats 16000000 in
set_option maxRecDepth 100000 in
theorem refround_any (W : World) (rb gb ab n : Nat) (g a : Nat → Nat) (a0 am : Option Addr) (c0 cm : Nat) (rs : List (RowOf Bool)) (m : Nat → Int) (adv : Bool) (h : RefAt W rb gb ab n g a) (hq : Req W a0 rs) (hs : SlI W am (mL n m))
    (hl : rs.length = n) (hrow : ∀ r ∈ rs, r.xs.length = n) (h1 : 1 ≤ n) (h8 : n ≤ 8) (hg : ∀ k < n, g k < n) (ha : ∀ i < n, a i < n) (hm : ∀ i < n, m i = -1 ∨ ∃ k, k < n ∧ m i = (k : Int)) (off : Off a0 rs (fun j => j = gb ∨ j = ab)) :
    Calls Try.prog 34 #[.pointer (some ⟨rb, 0, none⟩), .slice a0 n c0, .slice am n cm, .bool adv] W (RrPost W rb gb ab n (Bar.round (reqF rs) n adv (refS n m g a))) := by
  have H := Lib.hid h; have RQ := Lib.hid hq; have S := Lib.hid hs; have HL := Lib.hid hl; have HROW := Lib.hid hrow; have HG := Lib.hid hg; have HA := Lib.hid ha; have HM := Lib.hid hm; have OFF := Lib.hid off
  have hmb := fun w => make_bools w n (by omega)
  have hmi := fun w => make_ints w n (by omega)
  have lr := h.hb.lt
  have lg := h.hg.lt
  have la := h.ha.lt
  have I1 : Hid (Rf1 W n m (.int .i64 0) (W.alloc (.cells ((List.replicate n false).map Value.bool).toArray 4))) := by
    refine ⟨0, Nat.zero_le _, rfl, ?_, (Below.refl _ _).alloc (Nat.le_refl _) _⟩
    have := Blk.new W 4 ((List.replicate n false).map Value.bool)
    rw [fun_const] at this ⊢
    exact this
  have CI : Hid ((List.replicate n (0 : Int)).map (Value.int .i64) = (List.range n).map fun _ => .int .i64 0) := fun_const _ _ _
  generalize hLb : (List.replicate n false).map Value.bool = LB at hmb I1
  generalize hLi : (List.replicate n (0 : Int)).map (Value.int .i64) = LI at hmi CI
  obtain ⟨i0, hi0, hz0, hz1, hz2⟩ := info_parts Try.infoInt
  have HI := Lib.hid hi0; have HZ0 := Lib.hid hz0; have HZ1 := Lib.hid hz1; have HZ2 := Lib.hid hz2
  clear hLb hLi h hq hs hl hrow hg ha hm off hi0 hz0 hz1 hz2
  go_enter Try.func34, Try.ntmps34
  go_wp2_with fail
  go_loopw [11] (fun i w => Rf1 W n m i w) (fun i _ => n - (intOf i).toNat)
  case atStart => exact I1.out
  case round =>
    clear I1 hmb
    obtain ⟨i, hi, rfl, hT, hB⟩ := hrel
    have T := Lib.hid hT; have B := Lib.hid hB
    clear hT hB
    by_cases hlt : i < n
    · obtain ⟨x, ex, okx, cx⟩ := (S.out.below B.out).get (k := i) (by rw [mL_len]; exact hlt)
      have exm : x = m i := by have := ex.out; rw [mL_get hlt] at this; exact (Option.some.inj this).symm
      have EX := Lib.hid exm
      have i_n : (i : Int) < (n : Int) := by omega
      clear exm
      by_cases hx : x < 0
      · have hx2 : ¬ 0 ≤ x := by omega
        have FIN : Hid (Fun wr W.heap.size 4 n (bF (tkF m (i + 1)))) := by show Fun _ _ _ _ _; rw [tkF_succ_lt m i (by rw [← EX.out]; exact hx)]; exact T.out
        clear hmi
        go_wp2_with fail
        go_roundw
        case rel => exact ⟨i + 1, by omega, by go_num, FIN.out, B.out⟩
        case measure => simp [intOf]; omega
      · obtain ⟨c, rfl⟩ := Int.eq_ofNat_of_zero_le (show 0 ≤ x by omega)
        have hc : c < n := by
          rcases HM.out i hlt with h1 | ⟨k, h1, h2⟩ <;> rw [← EX.out] at * <;> omega
        have c_n : (c : Int) < (n : Int) := by omega
        have tc := T.out.cell hc
        unfold bF at tc
        have tf := T.out.free c
        have FIN : Hid (Fun (wr.setCell ⟨W.heap.size, c, none⟩ (.bool true)) W.heap.size 4 n (bF (tkF m (i + 1)))) := by
          show Fun _ _ _ _ _
          rw [← tkF_succ m i c EX.out.symm, ← bF_upd]
          exact T.out.set hc _
        have B2 : Hid (Below W.heap.size W (wr.setCell ⟨W.heap.size, c, none⟩ (.bool true))) := B.out.setCell (p := ⟨W.heap.size, c, none⟩) (Nat.le_refl _) _
        clear hmi
        go_wp2_with fail
        go_roundw
        case rel => exact ⟨i + 1, by omega, by go_num, FIN.out, B2.out⟩
        case measure => simp [intOf]; omega
    · obtain rfl : n = i := by omega
      have b1 : Below wr.heap.size wr (wr.alloc (.cells LI.toArray 3)) := (Below.refl _ _).alloc (Nat.le_refl _) _
      have tlt := T.out.lt
      have G0 : Hid (Rf2 W wr.heap.size n m (grK (reqF rs) n (refS n m g a) 0) (wr.alloc (.cells LI.toArray 3))) := by
        refine ⟨T.out.below b1, ?_, B.out.trans (b1.mono B.out.size)⟩
        have := Blk.new wr 3 LI
        rw [CI.out] at this ⊢
        rw [grK_zero]
        exact this
      clear b1 T B
      go_wp2_with fail
      clear hmi
      generalize hqb : wr.heap.size = qb at *
      clear hqb
      go_loopw [13] (fun i w => Rf2R W qb n m (reqF rs) (refS n m g a) i w) (fun i _ => n - (intOf i).toNat)
      case atStart => exact ⟨0, Nat.zero_le _, rfl, G0.out⟩
      case round =>
        clear G0
        obtain ⟨k, hk, rfl, hR⟩ := hrel
        have R := Lib.hid hR; clear hR
        by_cases hkt : k < n
        · have qc := R.out.q.cell hkt
          have qf := R.out.q.free k
          have k_n : (k : Int) < (n : Int) := by omega
          have R1 : Hid (Rf2 W qb n m (Bar.upd (grK (reqF rs) n (refS n m g a) k) k (-1)) (wr.setCell ⟨qb, k, none⟩ (.int .i64 (-1)))) :=
            ⟨R.out.t.setO _ (by show W.heap.size ≠ qb; omega), by rw [← iF_upd]; exact R.out.q.set hkt _, R.out.bel.setCell (p := ⟨qb, k, none⟩) (by show W.heap.size ≤ qb; omega) _⟩
          have tc : (wr.setCell ⟨qb, k, none⟩ (.int .i64 (-1))).cell? ⟨W.heap.size, k, none⟩ = some (.bool (tkF m n k)) := R1.out.t.cell hkt
          cases htk : tkF m n k with
          | true =>
            rw [htk] at tc
            have FIN : Hid (Rf2 W qb n m (grK (reqF rs) n (refS n m g a) (k + 1)) (wr.setCell ⟨qb, k, none⟩ (.int .i64 (-1)))) := by
              have e : Bar.grv (reqF rs) n (refS n m g a) k = -1 := by simp [Bar.grv, refS, htk]
              rw [← grK_succ, e]
              exact R1.out
            have nge : (0 : Int) ≤ (n : Int) - 1 := by omega
            clear htk
            go_wp2_with fail
            go_loopw [14] (fun i w => i = .int .i64 ((n : Int) - 1) ∧ (wr.setCell ⟨qb, k, none⟩ (.int .i64 (-1))) = w) (fun _ _ => 0)
            case atStart => exact ⟨rfl, rfl⟩
            case round =>
              obtain ⟨rfl, rfl⟩ := hrel
              go_wp2_with fail
              go_roundw
              case rel => exact ⟨k + 1, by omega, by go_num, FIN.out⟩
              case measure => simp [intOf]; omega
          | false =>
            rw [htk] at tc
            have GV : Hid (Bar.grv (reqF rs) n (refS n m g a) k = Bar.fst (fun i => decide (m i < 0) && reqF rs i k) n (g k)) := by show Bar.grv _ _ _ _ = _; unfold Bar.grv refS; dsimp only; rw [if_neg (by rw [htk]; simp)]
            have HTK := Lib.hid htk
            clear htk
            go_wp2_with fail
            go_loopw [14] (fun i w => Rf3R W qb n k m (grK (reqF rs) n (refS n m g a) k) (fun i => decide (m i < 0) && reqF rs i k) (g k) i w) (fun i _ => (intOf i + 1).toNat)
            case atStart => exact ⟨n, Nat.le_refl _, rfl, by rw [Nat.sub_self]; exact R1.out⟩
            case round =>
              clear R1 tc qc qf
              obtain ⟨s, hs, rfl, hR⟩ := hrel
              have R2 := Lib.hid hR; clear hR
              cases s with
              | zero =>
                have FIN : Hid (Rf2 W qb n m (grK (reqF rs) n (refS n m g a) (k + 1)) wr) := by
                  have := R2.out
                  rw [Nat.sub_zero] at this
                  rw [← grK_succ, GV.out]
                  exact this
                rw [show (((0 : Nat) : Int) - 1) = -1 from rfl]
                go_wp2_with fail
                go_roundw
                case rel => exact ⟨k + 1, by omega, by go_num, FIN.out⟩
                case measure => simp [intOf]; omega
              | succ s =>
                rw [show (((s + 1 : Nat) : Int) - 1) = (s : Int) by omega]
                have tc : wr.cell? ⟨W.heap.size, k, none⟩ = some (.bool (tkF m n k)) := R2.out.t.cell hkt
                rw [HTK.out] at tc
                have rc := (H.out.below R2.out.bel).hb.cell (i := 0) rfl
                have gc : wr.cell? ⟨gb, k, none⟩ = some (.int .i64 (g k)) := (H.out.below R2.out.bel).hg.cell hkt
                have gkn := HG.out k hkt
                have hxi : ((g k : Int) + (s : Int)) % (n : Int) = (((g k + s) % n : Nat) : Int) := by simp
                have hxn : (g k + s) % n < n := Nat.mod_lt _ (by omega)
                have st := fv_down (fun i => decide (m i < 0) && reqF rs i k) n (g k) s (by omega)
                obtain ⟨r, er, o1, r1, o2, r2⟩ := (RQ.out.below R2.out.bel).get (n := n) HL.out HROW.out hxn hkt
                obtain ⟨x, ex, okx, cx⟩ := (S.out.below R2.out.bel).get (k := (g k + s) % n) (by rw [mL_len]; exact hxn)
                have exm : x = m ((g k + s) % n) := by have := ex.out; rw [mL_get hxn] at this; exact (Option.some.inj this).symm
                have qc := R2.out.q.cell hkt
                have qf := R2.out.q.free k
                rw [← exm] at st
                generalize (g k + s) % n = xi at *
                generalize g k = gk at *
                have xi_n : (xi : Int) < (n : Int) := by omega
                have ST : Hid _ := Lib.hid st
                clear st er ex exm
                cases hrq : reqF rs xi k with
                | false =>
                  rw [hrq] at r2
                  have FIN : Hid (Rf2 W qb n m (Bar.upd (grK (reqF rs) n (refS n m g a) k) k (Bar.fv (fun i => decide (m i < 0) && reqF rs i k) n gk (n - s))) wr) := by
                    show Rf2 _ _ _ _ _ _
                    rw [ST.out, hrq, Bool.and_false, if_neg (by simp)]
                    exact R2.out
                  clear hrq
                  go_wp2_with fail
                  go_roundw
                  case rel => exact ⟨s, by omega, rfl, FIN.out⟩
                  case measure => first | (simp [intOf]; done) | (simp [intOf]; omega)
                | true =>
                  rw [hrq] at r2
                  by_cases hx : x < 0
                  · have FIN : Hid (Rf2 W qb n m (Bar.upd (grK (reqF rs) n (refS n m g a) k) k (Bar.fv (fun i => decide (m i < 0) && reqF rs i k) n gk (n - s))) (wr.setCell ⟨qb, k, none⟩ (.int .i64 xi))) := by
                      show Rf2 _ _ _ _ _ _
                      rw [ST.out, hrq, Bool.and_true, if_pos (by simpa using hx)]
                      refine ⟨R2.out.t.setO _ (by show W.heap.size ≠ qb; omega), ?_, R2.out.bel.setCell (p := ⟨qb, k, none⟩) (by show W.heap.size ≤ qb; omega) _⟩
                      have := R2.out.q.set hkt (.int .i64 xi)
                      rw [iF_upd, upd_upd] at this
                      exact this
                    clear hrq
                    go_wp2_with fail
                    go_roundw
                    case rel => exact ⟨s, by omega, rfl, FIN.out⟩
                    case measure => first | (simp [intOf]; done) | (simp [intOf]; omega)
                  · have FIN : Hid (Rf2 W qb n m (Bar.upd (grK (reqF rs) n (refS n m g a) k) k (Bar.fv (fun i => decide (m i < 0) && reqF rs i k) n gk (n - s))) wr) := by
                      show Rf2 _ _ _ _ _ _
                      rw [ST.out, hrq, Bool.and_true, if_neg (by simpa using hx)]
                      exact R2.out
                    clear hrq
                    go_wp2_with fail
                    go_roundw
                    case rel => exact ⟨s, by omega, rfl, FIN.out⟩
                    case measure => first | (simp [intOf]; done) | (simp [intOf]; omega)
        · obtain rfl : n = k := by omega
          have b1 : Below wr.heap.size wr (wr.alloc (.cells #[] 3)) := (Below.refl _ _).alloc (Nat.le_refl _) _
          have O0 := Lib.hid (own_empty wr 3 1)
          have S1 := Lib.hid ((S.out.below R.out.bel).below b1)
          have HLEN := Lib.hid (mL_len n m)
          go_wp2_with (at_builtin; refine wpList_append_sl rfl (.tmp 93) (.tmp 94) 33 rfl wr.heap.size 3 i0 _ 8 Try.underlying33 HI.out HZ0.out HZ1.out HZ2.out rfl _ 0 [] rfl O0.out (Value.int .i64) (fun _ => rfl) am cm (mL n m) ?hx S1.out ?c1 ?c2 ?c3 ?_)
          case hx => simp [Act.eval, go_sem, HLEN.out]
          case c1 => rw [HLEN.out]; unfold maxLen; omega
          case c2 => rw [HLEN.out]; omega
          case c3 => simp
          intro v1 w2 hown hgr hat
          rw [HLEN.out] at hown
          have hsw := R.out.bel.size
          have B3 : Below wr.heap.size wr w2 := b1.grown hgr (by simp) (fun j hj => (own_lt O0.out hj).2)
          obtain ⟨a1, c1, rfl, hsh⟩ := own_shape hown
          clear hsh
          obtain ⟨ob, sp, rfl, hgo, hbk, hx1, hx2, hx3, hx4⟩ := own_blk hown (by intro e; have := HLEN.out; rw [e] at this; simp at this; omega)
          clear hx1 hx2 hx3 hx4
          have B4 : Hid (Below W.heap.size W w2) := R.out.bel.trans (B3.mono hsw)
          have lq := R.out.q.lt
          have F0 : Hid (Rf4 W rb gb ab qb ob n sp (grK (reqF rs) n (refS n m g a) n) (refS n m g a) w2) :=
            ⟨H.out.below B4.out, R.out.q.below B3, hbk, Upd.of_below B4.out⟩
          have hob : W.heap.size ≤ ob ∧ qb < ob := by omega
          obtain ⟨hob1, hob2⟩ := hob
          have hc1 : Hid (∀ w, Blk w ob 3 ((mL n (Bar.round (reqF rs) n adv (refS n m g a)).m).map (Value.int .i64) ++ sp) → Cp w (.slice (some ⟨ob, 0, none⟩) n c1) (mL n (Bar.round (reqF rs) n adv (refS n m g a)).m) ob) := fun w h => ⟨sp, c1, by rw [mL_len], h⟩
          clear hown hgr hat B3 hbk O0 S1 R
          go_wp2_with fail
          go_loopw [17] (fun i w => Rf4R W rb gb ab qb ob n sp (grK (reqF rs) n (refS n m g a) n) adv (Bar.grv (reqF rs) n (refS n m g a)) (refS n m g a) i w) (fun i _ => n - (intOf i).toNat)
          case atStart => exact ⟨0, Nat.zero_le _, rfl, F0.out⟩
          case round =>
            clear F0 B4
            obtain ⟨i, hi, rfl, hR⟩ := hrel
            have hai : (Bar.accN n adv (Bar.grv (reqF rs) n (refS n m g a)) (refS n m g a) i).a i = a i := by
              rw [(Bar.accN_spec n adv (Bar.grv (reqF rs) n (refS n m g a)) (refS n m g a) HA.out i hi).a i]; simp [refS]
            have hac : Hid (Bar.accN n adv (Bar.grv (reqF rs) n (refS n m g a)) (refS n m g a) (i + 1) = Bar.accS n adv (Bar.grv (reqF rs) n (refS n m g a)) (Bar.accN n adv (Bar.grv (reqF rs) n (refS n m g a)) (refS n m g a) i) i) := rfl
            have hend : Hid (i = n → Bar.round (reqF rs) n adv (refS n m g a) = Bar.accN n adv (Bar.grv (reqF rs) n (refS n m g a)) (refS n m g a) i) := fun e => by subst e; rfl
            generalize hsi : Bar.accN n adv (Bar.grv (reqF rs) n (refS n m g a)) (refS n m g a) i = si at hR hai hac hend
            have HAI := Lib.hid hai; have R := Lib.hid hR
            clear hR hai hsi
            by_cases hit : i < n
            · have rc1 := R.out.ref.hb.cell (i := 1) rfl
              have rc0 := R.out.ref.hb.cell (i := 0) rfl
              have ac : wr.cell? ⟨ab, i, none⟩ = some (.int .i64 (si.a i)) := R.out.ref.ha.cell hit
              have han : si.a i < n := by rw [HAI.out]; exact HA.out i hit
              have i_n : (i : Int) < (n : Int) := by omega
              have KK : Hid (Bar.kkv n (Bar.grv (reqF rs) n (refS n m g a)) si.a i = Bar.fv (fun k => grK (reqF rs) n (refS n m g a) n k == (i : Int)) n (si.a i) n) := (kkv_grK han).symm
              have kkr : Hid (∀ y : Nat, Bar.kkv n (Bar.grv (reqF rs) n (refS n m g a)) si.a i = (y : Int) → y < n) := fun y e => (Bar.kk_gr (n := n) (gr := Bar.grv (reqF rs) n (refS n m g a)) (a := si.a) (i := i) (y := y) han e).1
              have hac2 : Hid (Bar.accN n adv (Bar.grv (reqF rs) n (refS n m g a)) (refS n m g a) (i + 1) = if Bar.kkv n (Bar.grv (reqF rs) n (refS n m g a)) si.a i < 0 then si else ⟨Bar.upd si.m i (Bar.kkv n (Bar.grv (reqF rs) n (refS n m g a)) si.a i), Bar.upd si.t (Bar.kkv n (Bar.grv (reqF rs) n (refS n m g a)) si.a i).toNat true, if adv then Bar.upd si.g (Bar.kkv n (Bar.grv (reqF rs) n (refS n m g a)) si.a i).toNat ((i + 1) % n) else si.g, if adv then Bar.upd si.a i (((Bar.kkv n (Bar.grv (reqF rs) n (refS n m g a)) si.a i).toNat + 1) % n) else si.a⟩) := hac.out
              generalize Bar.kkv n (Bar.grv (reqF rs) n (refS n m g a)) si.a i = kk at KK kkr hac2
              clear hac
              go_wp2_with fail
              go_loopw [18, 19] (fun c s w => Rf5R n (fun k => grK (reqF rs) n (refS n m g a) n k == (i : Int)) (si.a i) wr c s w) (fun _ s _ => (intOf s + 1).toNat)
              case atStart => exact ⟨n, Nat.le_refl _, rfl, by rw [Nat.sub_self]; rfl, rfl⟩
              case round =>
                obtain ⟨s, hs, rfl, rfl, rfl⟩ := hrel
                cases s with
                | zero =>
                  rw [show (((0 : Nat) : Int) - 1) = -1 from rfl, Nat.sub_zero, ← KK.out]
                  by_cases hk0 : kk < 0
                  · have FIN : Hid (Rf4 W rb gb ab qb ob n sp (grK (reqF rs) n (refS n m g a) n) (Bar.accN n adv (Bar.grv (reqF rs) n (refS n m g a)) (refS n m g a) (i + 1)) wr) := by
                      show Rf4 _ _ _ _ _ _ _ _ _ _ _
                      rw [hac2.out, if_pos hk0]; exact R.out
                    clear hac2
                    go_wp2_with fail
                    go_roundw
                    case rel => exact ⟨i + 1, by omega, by go_num, FIN.out⟩
                    case measure => simp [intOf]; omega
                  · obtain ⟨c, rfl⟩ := Int.eq_ofNat_of_zero_le (show 0 ≤ kk by omega)
                    have hcn := kkr.out c rfl
                    have c_n : (c : Int) < (n : Int) := by omega
                    have E : Hid (Bar.accN n adv (Bar.grv (reqF rs) n (refS n m g a)) (refS n m g a) (i + 1) = ⟨Bar.upd si.m i (c : Int), Bar.upd si.t c true, if adv then Bar.upd si.g c ((i + 1) % n) else si.g, if adv then Bar.upd si.a i ((c + 1) % n) else si.a⟩) := by show _ = _; rw [hac2.out, if_neg hk0]; rfl
                    clear hac2 hk0
                    have oc : wr.cell? ⟨ob, i, none⟩ = some (.int .i64 (si.m i)) := R.out.o.cell (by rw [List.getElem?_append_left (by rw [List.length_map, mL_len]; exact hit), List.getElem?_map, mL_get hit]; rfl)
                    have of := R.out.o.free i
                    have U1 : Hid (Upd (fun j => j = ob) wr (wr.setCell ⟨ob, i, none⟩ (.int .i64 c))) := (Upd.refl (fun j => j = ob) wr).setCell ⟨ob, i, none⟩ _ fun _ => rfl
                    have O1 : Hid (Blk (wr.setCell ⟨ob, i, none⟩ (.int .i64 c)) ob 3 ((mL n (Bar.upd si.m i (c : Int))).map (Value.int .i64) ++ sp)) := by
                      have := R.out.o.setL (k := i) (by rw [mL_len]; exact hit) (c : Int)
                      rw [mL_set n si.m hit] at this
                      exact this
                    have RA1 : Hid (RefAt (wr.setCell ⟨ob, i, none⟩ (.int .i64 c)) rb gb ab n si.g si.a) := R.out.ref.upd U1.out (by omega) (by omega) (by omega)
                    have Q1 : Hid (Fun (wr.setCell ⟨ob, i, none⟩ (.int .i64 c)) qb 3 n (iF (grK (reqF rs) n (refS n m g a) n))) := R.out.q.upd U1.out (by omega)
                    have V1 : Hid (Upd (fun j => j = gb ∨ j = ab) W (wr.setCell ⟨ob, i, none⟩ (.int .i64 c))) := R.out.upd.then U1.out fun j hj e => by omega
                    cases adv with
                    | false =>
                      have FIN : Hid (Rf4 W rb gb ab qb ob n sp (grK (reqF rs) n (refS n m g a) n) (Bar.accN n false (Bar.grv (reqF rs) n (refS n m g a)) (refS n m g a) (i + 1)) (wr.setCell ⟨ob, i, none⟩ (.int .i64 c))) := by
                        show Rf4 _ _ _ _ _ _ _ _ _ _ _
                        rw [E.out]; exact ⟨RA1.out, Q1.out, O1.out, V1.out⟩
                      go_wp2_with fail
                      go_roundw
                      case rel => exact ⟨i + 1, by omega, by go_num, FIN.out⟩
                      case measure => simp [intOf]; omega
                    | true =>
                      have hm1 : ((i : Int) + 1) % (n : Int) = (((i + 1) % n : Nat) : Int) := by simp
                      have hm2 : ((c : Int) + 1) % (n : Int) = (((c + 1) % n : Nat) : Int) := by simp
                      have HM1 := Lib.hid hm1; have HM2 := Lib.hid hm2
                      clear hm1 hm2
                      go_wp2_with fail
                      generalize wr.setCell ⟨ob, i, none⟩ (.int .i64 c) = wC at *
                      clear rc0 rc1 ac oc of
                      have d0 := RA1.out.hb.cell (i := 0) rfl
                      have d1 := RA1.out.hg.cell hcn
                      unfold nF at d1
                      have d2 := RA1.out.hg.free c
                      have RA2 : Hid (RefAt (wC.setCell ⟨gb, c, none⟩ (.int .i64 (((i : Int) + 1) % (n : Int)))).drew rb gb ab n (Bar.upd si.g c ((i + 1) % n)) si.a) := by
                        rw [HM1.out]; exact (RA1.out.setG hcn _).below (Qt.refl _).drew.bel
                      have U2 : Hid (Upd (fun j => j = gb) wC (wC.setCell ⟨gb, c, none⟩ (.int .i64 (((i : Int) + 1) % (n : Int)))).drew) := ((Upd.refl (fun j => j = gb) wC).setCell ⟨gb, c, none⟩ _ fun _ => rfl).drew
                      go_region
                      go_wp2_with fail
                      clear d0 d1 d2
                      generalize (wC.setCell ⟨gb, c, none⟩ (.int .i64 (((i : Int) + 1) % (n : Int)))).drew = wD at *
                      have d0 := RA2.out.hb.cell (i := 1) rfl
                      have d1 := RA2.out.ha.cell hit
                      unfold nF at d1
                      have d2 := RA2.out.ha.free i
                      have RA3 : Hid (RefAt (wD.setCell ⟨ab, i, none⟩ (.int .i64 (((c : Int) + 1) % (n : Int)))).drew rb gb ab n (Bar.upd si.g c ((i + 1) % n)) (Bar.upd si.a i ((c + 1) % n))) := by
                        rw [HM2.out]; exact (RA2.out.setA hit _).below (Qt.refl _).drew.bel
                      have U3 : Hid (Upd (fun j => j = gb ∨ j = ab) wC (wD.setCell ⟨ab, i, none⟩ (.int .i64 (((c : Int) + 1) % (n : Int)))).drew) :=
                        (U2.out.mono fun _ _ h => .inl h).trans (((Upd.refl (fun j => j = gb ∨ j = ab) wD).setCell ⟨ab, i, none⟩ _ fun _ => .inr rfl).drew)
                      have FIN : Hid (Rf4 W rb gb ab qb ob n sp (grK (reqF rs) n (refS n m g a) n) (Bar.accN n true (Bar.grv (reqF rs) n (refS n m g a)) (refS n m g a) (i + 1)) (wD.setCell ⟨ab, i, none⟩ (.int .i64 (((c : Int) + 1) % (n : Int)))).drew) := by
                        show Rf4 _ _ _ _ _ _ _ _ _ _ _
                        rw [E.out]
                        exact ⟨RA3.out, Q1.out.upd U3.out (by omega), O1.out.upd U3.out (by omega), V1.out.trans U3.out⟩
                      go_region
                      clear d0 d1 d2
                      go_wp2_with fail
                      go_roundw
                      case rel => exact ⟨i + 1, by omega, by go_num, FIN.out⟩
                      case measure => simp [intOf]; omega
                | succ s =>
                  rw [show (((s + 1 : Nat) : Int) - 1) = (s : Int) by omega]
                  have hxi : ((si.a i : Int) + (s : Int)) % (n : Int) = (((si.a i + s) % n : Nat) : Int) := by simp
                  have hxn : (si.a i + s) % n < n := Nat.mod_lt _ (by omega)
                  have st := fv_down (fun k => grK (reqF rs) n (refS n m g a) n k == (i : Int)) n (si.a i) s (by omega)
                  have qc := R.out.q.cell hxn
                  unfold iF at qc
                  generalize (si.a i + s) % n = xi at *
                  generalize grK (reqF rs) n (refS n m g a) n xi = gx at *
                  have xi_n : (xi : Int) < (n : Int) := by omega
                  have ST := Lib.hid st
                  clear st
                  cases hgx : (gx == (i : Int)) with
                  | true =>
                    have E : Hid (Bar.fv (fun k => grK (reqF rs) n (refS n m g a) n k == (i : Int)) n (si.a i) (n - s) = (xi : Int)) := by show _ = _; rw [ST.out, hgx, if_pos rfl]
                    clear hac2
                    go_wp2_with fail
                    go_roundw
                    case rel => exact ⟨s, by omega, rfl, by rw [E.out]; try exact congrArg (Value.int .i64) hxi, rfl⟩
                    case measure => first | (simp [intOf]; done) | (simp [intOf]; omega)
                  | false =>
                    have E : Hid (Bar.fv (fun k => grK (reqF rs) n (refS n m g a) n k == (i : Int)) n (si.a i) (n - s) = Bar.fv (fun k => grK (reqF rs) n (refS n m g a) n k == (i : Int)) n (si.a i) (n - (s + 1))) := by show _ = _; rw [ST.out, hgx, if_neg (by simp)]
                    clear hac2
                    go_wp2_with fail
                    go_roundw
                    case rel => exact ⟨s, by omega, rfl, by rw [E.out]; try exact congrArg (Value.int .i64) hxi, rfl⟩
                    case measure => first | (simp [intOf]; done) | (simp [intOf]; omega)
            · obtain rfl : n = i := by omega
              have E := Lib.hid (hend.out rfl)
              have C := R.out.o
              rw [← E.out] at C
              have F := R.out.ref
              rw [← E.out] at F
              have CC := Lib.hid (hc1.out _ C); have FF := Lib.hid F
              clear C F
              go_wp2_with fail
              go_ret
              exact ⟨_, ob, rfl, CC.out, hob1, FF.out, R.out.upd⟩
end Go.Proofs.Ytldgpdgoccccpaa
