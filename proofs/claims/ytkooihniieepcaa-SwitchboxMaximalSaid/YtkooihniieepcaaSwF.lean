/-
  switchbox: look.
-/
import Derived.Test.YtkooihniieepcaaSwE
namespace Go.Proofs.Ytkooihniieepcaa
open Go.RowKit
set_option linter.unusedVariables false

def bT (n : Nat) (t : Bool) : Nat := if t then n + 1 else n
def dOf (P : Nat) (rt : Nat → Fr → Int) (M : Md) : Bool → Nat → Nat → Int := fun t p c => if t then ouN P rt p (M.q p c) else (drN P rt p (M.q p c) : Int)
theorem xAt_next (K : Nat) (d : Bool → Nat → Nat → Int) (p : Nat) : xAt K d p K = xAt K d (p + 1) 0 := by
  funext t i
  unfold xAt
  by_cases h : i < p
  · rw [if_pos h, if_pos (by omega)]
  · rw [if_neg h]
    by_cases h2 : i = p
    · rw [if_pos h2, if_pos (by omega)]
    · rw [if_neg h2, if_neg (by omega)]
      split <;> rfl
theorem xAt_push (K : Nat) (d : Bool → Nat → Nat → Int) (p c : Nat) (a b : Int) (ha : d false p c = a) (hb : d true p c = b) :
    updT (updT (xAt K d p c) false p (xAt K d p c false p ++ [a])) true p (updT (xAt K d p c) false p (xAt K d p c false p ++ [a]) true p ++ [b]) = xAt K d p (c + 1) := by
  have e : ∀ t, xAt K d p c t p = (List.range c).map (d t p) := fun t => by unfold xAt; rw [if_neg (by omega), if_pos rfl]
  have e' : ∀ t, xAt K d p (c + 1) t p = (List.range c).map (d t p) ++ [d t p c] := fun t => by unfold xAt; rw [if_neg (by omega), if_pos rfl, List.range_succ, List.map_append]; rfl
  funext t i
  by_cases h : i = p
  · subst h
    rw [e']
    cases t with
    | true => rw [updT_same, updT_ne _ _ (by simp), e, hb]
    | false => rw [updT_ne _ _ (by simp), updT_same, e, ha]
  · rw [updT_ne _ _ (by simp [h]), updT_ne _ _ (by simp [h])]
    unfold xAt
    by_cases h2 : i < p
    · rw [if_pos h2, if_pos h2]
    · rw [if_neg h2, if_neg h2, if_neg h, if_neg h]
def LkRel (W : World) (K n : Nat) (d : Bool → Nat → Nat → Int) (iv : Value) (w : World) : Prop := ∃ k ≤ n, iv = .int .i64 k ∧ (∃ v, St w W.heap.size (lkC (bT W.heap.size) v (xAt K d k 0))) ∧ Below W.heap.size W w
def LmRel (W : World) (K : Nat) (d : Bool → Nat → Nat → Int) (p : Nat) (iv : Value) (w : World) : Prop := ∃ k ≤ K, iv = .int .i64 k ∧ (∃ v, St w W.heap.size (lkC (bT W.heap.size) v (xAt K d p k))) ∧ Below W.heap.size W w
def LiRel (W : World) (P : Nat) (rt : Nat → Fr → Int) (p : Nat) (l : List Fr) (nv ov iv : Value) (w : World) : Prop := ∃ k ≤ l.length, nv = .int .i64 k ∧ ov = .int .i64 (-1) ∧ iv = .int .i64 k ∧ (∀ (j : Nat) g, j < k → l[j]? = some g → noRt P rt p g = true) ∧ Below W.heap.size W w
def LoutRel (W : World) (P : Nat) (rt : Nat → Fr → Int) (p : Nat) (l : List Fr) (nv ov : Value) (w : World) : Prop := nv = .int .i64 (drN P rt p l) ∧ ov = .int .i64 (ouN P rt p l) ∧ Below W.heap.size W w
/-- A table of look as a value. -/
def lkV (A : Bool → Nat → Option Addr) (n cc : Bool → Nat → Nat) (t : Bool) : Value := .agg #[.slice (A t 0) (n t 0) (cc t 0), .slice (A t 1) (n t 1) (cc t 1), .slice (A t 2) (n t 2) (cc t 2), .slice (A t 3) (n t 3) (cc t 3), .slice (A t 4) (n t 4) (cc t 4), .slice (A t 5) (n t 5) (cc t 5), .slice (A t 6) (n t 6) (cc t 6), .slice (A t 7) (n t 7) (cc t 7)]
def lkF (A : Bool → Nat → Option Addr) (n cc : Bool → Nat → Nat) : Bool → Nat → Value := fun t i => .slice (A t i) (n t i) (cc t i)
section
variable {w w' : World} {base P K : Nat} {L : Loc} {M : Md}
set_option maxHeartbeats 8000000 in
set_option maxRecDepth 100000 in
theorem look_ok {fid : Nat} {caps : Array Value} {rt : Nat → Fr → Int} {RI : World → Prop} {N : Nat → Prop} (R : Route fid caps rt RI N) (h : BoxAt w base P K L M) (hr : RI w) :
    Calls Try.prog 38 #[.pointer (some ⟨L.bb, 0, none⟩), .func (.func fid) #[] caps] w fun e w' =>
    ∃ A n cc, e = .returned (.tuple #[lkV A n cc false, lkV A n cc true]) ∧ St w' w.heap.size (lkC (bT w.heap.size) (lkF A n cc) (xAt K (dOf P rt M) P 0)) ∧ Below w.heap.size w w' := by
  have H := Lib.hid h; have HR := Lib.hid hr; have RR := Lib.hid R
  obtain ⟨d, hd⟩ : ∃ d, d = dOf P rt M := ⟨_, rfl⟩
  rw [← hd]
  have HD := Lib.hid hd
  have h8 := h.ok.p8
  have hk8 := h.ok.k8
  have a0 := h.cP
  have hl1 : L.bb < w.heap.size := Blk.lt (h.st.blk (r := .box) rfl)
  obtain ⟨w1, hw1, S1, B1⟩ : ∃ w1, (w.alloc (.cells #[.slice none 0 0, .slice none 0 0, .slice none 0 0, .slice none 0 0, .slice none 0 0, .slice none 0 0, .slice none 0 0, .slice none 0 0] 84)).alloc (.cells #[.slice none 0 0, .slice none 0 0, .slice none 0 0, .slice none 0 0, .slice none 0 0, .slice none 0 0, .slice none 0 0, .slice none 0 0] 84) = w1 ∧ Hid (∃ v, St w1 w.heap.size (lkC (bT w.heap.size) v (xAt K d 0 0))) ∧ Hid (Below w.heap.size w w1) := by
    refine ⟨_, rfl, ⟨fun _ _ => .slice none 0 0, ?_⟩, ((Below.refl _ _).alloc (Nat.le_refl _) _).alloc (by simp) _⟩
    have e : xAt K d 0 0 = fun _ _ => [] := by funext t i; unfold xAt; rw [if_neg (by omega)]; split <;> rfl
    rw [e]
    refine lk_start _ _ (by simp [bT]) fun t => ?_
    cases t with
    | true =>
      refine ⟨?_, by simp [bT]⟩
      have := Blk.new (w.alloc (.cells #[.slice none 0 0, .slice none 0 0, .slice none 0 0, .slice none 0 0, .slice none 0 0, .slice none 0 0, .slice none 0 0, .slice none 0 0] 84)) 84 [.slice none 0 0, .slice none 0 0, .slice none 0 0, .slice none 0 0, .slice none 0 0, .slice none 0 0, .slice none 0 0, .slice none 0 0]
      simp at this
      exact this
    | false => exact ⟨(Blk.new w 84 [.slice none 0 0, .slice none 0 0, .slice none 0 0, .slice none 0 0, .slice none 0 0, .slice none 0 0, .slice none 0 0, .slice none 0 0]).upd (Upd.of_below (S := fun _ => False) ((Below.refl _ _).alloc (Nat.le_refl _) _)) id, Nat.le_refl _⟩
  have HW1 := Lib.hid hw1
  clear h hr R hd hw1
  go_enter Try.func38, Try.ntmps38
  go_upto_region 1 with (fail)
  rw [HW1.out]
  have a1 := (H.out.below B1.out).cP
  clear a0
  go_wp2_with fail
  go_loopw [17] (fun iv wr => LkRel w K P d iv wr) (fun iv _ => P - (intOf iv).toNat)
  case atStart => exact ⟨0, Nat.zero_le _, rfl, S1.out, B1.out⟩
  case round =>
    clear S1 B1 a1
    obtain ⟨p, hp, rfl, hS, hB⟩ := hrel
    have SS := Lib.hid hS; have BB := Lib.hid hB
    clear hS hB
    by_cases hlt : p < P
    · have b1 := (H.out.below BB.out).cK
      have b0 := (H.out.below BB.out).cP
      have hpi : (p : Int) < (P : Int) := by omega
      have hp0 : (0 : Int) ≤ (p : Int) := by omega
      have hp8 : (p : Int) < 8 := by omega
      go_wp2_with fail
      go_loopw [24] (fun iv wr => LmRel w K d p iv wr) (fun iv _ => K - (intOf iv).toNat)
      case atStart => exact ⟨0, Nat.zero_le _, rfl, SS.out, BB.out⟩
      case round =>
        clear SS BB b0 b1
        obtain ⟨c, hc, rfl, hS, hB⟩ := hrel
        have SS := Lib.hid hS; have BB := Lib.hid hB
        clear hS hB
        by_cases hlc : c < K
        · have hci : (c : Int) < (K : Int) := by omega
          have hc0 : (0 : Int) ≤ (c : Int) := by omega
          have HB := Lib.hid (H.out.below BB.out)
          have b0 := HB.out.cP
          have b2 := HB.out.cQ hlt
          have b3 := (HB.out.rQ hlt).cell hlc
          have hq := HB.out.queue hlt hlc
          obtain ⟨qa, qc, hqs, _⟩ := own_shape hq
          rw [hqs] at hq b3
          have OQ := Lib.hid hq
          clear hq hqs
          go_upto_block 4 with (fail)
          go_cut [8, 9] (fun nv ov wx => LoutRel wr P rt p (M.q p c) nv ov wx)
          case first =>
            have hl64 := H.out.ok.qm p hlt c hlc
            have HR2 := Lib.hid (RR.out.below HR.out BB.out)
            clear b2 b3
            generalize M.q p c = l at *
            go_wp2_with fail
            go_loopw [8, 9, 37] (fun nv ov iv wx => LiRel wr P rt p l nv ov iv wx) (fun _ _ iv _ => l.length - (intOf iv).toNat)
            case atStart => exact ⟨0, Nat.zero_le _, rfl, rfl, rfl, fun j g hj => absurd hj (Nat.not_lt_zero _), Below.refl _ _⟩
            case round =>
              obtain ⟨k, hk, rfl, rfl, rfl, hall, hB⟩ := hrel
              have B2 := Lib.hid hB; have HA := Lib.hid hall
              clear hB hall
              by_cases hlk : k < l.length
              · obtain ⟨f, hf⟩ : ∃ f, l[k]? = some f := ⟨l[k], by simp [hlk]⟩
                have OQ2 := own_upd OQ.out (Upd.of_below (S := fun _ => False) B2.out) (fun _ _ => id)
                obtain ⟨oka, d0⟩ := ownC_cell frC_len (by decide) OQ2 hf (k := 0) (by decide) rfl
                obtain ⟨_, d1⟩ := ownC_cell frC_len (by decide) OQ2 hf (k := 1) (by decide) rfl
                obtain ⟨_, d2⟩ := ownC_cell frC_len (by decide) OQ2 hf (k := 2) (by decide) rfl
                obtain ⟨_, d3⟩ := ownC_cell frC_len (by decide) OQ2 hf (k := 3) (by decide) rfl
                obtain ⟨_, d4⟩ := ownC_cell frC_len (by decide) OQ2 hf (k := 4) (by decide) rfl
                obtain ⟨_, d5⟩ := ownC_cell frC_len (by decide) OQ2 hf (k := 5) (by decide) rfl
                rw [Nat.add_zero] at d0
                have hki : (k : Int) < (l.length : Int) := by omega
                have CP := Lib.hid (fun w => copied_any f w)
                unfold frV at CP
                have b0' := (HB.out.below B2.out).cP
                have HF := Lib.hid hf
                clear OQ2 hf b0
                go_wp2_with fail
                refine (CP.out _).mono ?_
                rintro e w3 ⟨rfl, hb⟩
                have B3 := Lib.hid (B2.out.trans ((((Below.refl _ wr).alloc (Nat.le_refl _) _).trans (hb.mono (by simp))).mono B2.out.size))
                clear hb
                have RC := Lib.hid (RR.out.call w3 p f (RR.out.below HR2.out B3.out) (by omega))
                unfold frV at RC
                clear d0 d1 d2 d3 d4 d5 b0'
                have EN := RR.out.enter
                go_wp2_with fail
                clear EN
                refine RC.out.mono ?_
                rintro e w4 ⟨rfl, hb⟩
                have B4 := Lib.hid (B3.out.trans (hb.mono B3.out.size))
                have b4 := (HB.out.below B4.out).cP
                clear hb
                by_cases hr0 : 0 ≤ rt p f
                · by_cases hr1 : rt p f < (P : Int)
                  · have hn : noRt P rt p f = false := by unfold noRt; simp [hr0, hr1]
                    obtain ⟨e1, e2⟩ := lk_at (P := P) (rt := rt) (p := p) (l := l) HA.out HF.out hn
                    have E1 := Lib.hid e1; have E2 := Lib.hid e2
                    clear e1 e2 hn
                    generalize rt p f = rv at *
                    go_wp2_with fail
                    go_meet
                    exact ⟨by rw [E1.out], by rw [E2.out], B4.out⟩
                  · have hn : Hid (noRt P rt p f = true) := by unfold noRt; exact Lib.hid (by simp [hr1])
                    generalize hrv : rt p f = rv at *
                    clear hrv
                    go_wp2_with fail
                    go_roundw
                    case rel =>
                      refine ⟨k + 1, by omega, by go_num, rfl, by go_num, fun j g hj hg => ?_, B4.out⟩
                      by_cases hjk : j = k
                      · subst hjk
                        have := HF.out.symm.trans hg
                        cases this
                        exact hn.out
                      · exact HA.out j g (by omega) hg
                    case measure => simp [intOf]; omega
                · have hn : Hid (noRt P rt p f = true) := by unfold noRt; exact Lib.hid (by simp [hr0])
                  generalize hrv : rt p f = rv at *
                  clear hrv
                  go_wp2_with fail
                  go_roundw
                  case rel =>
                    refine ⟨k + 1, by omega, by go_num, rfl, by go_num, fun j g hj hg => ?_, B4.out⟩
                    by_cases hjk : j = k
                    · subst hjk
                      have := HF.out.symm.trans hg
                      cases this
                      exact hn.out
                    · exact HA.out j g (by omega) hg
                  case measure => simp [intOf]; omega
              · obtain rfl : k = l.length := by omega
                obtain ⟨e1, e2⟩ := lk_all (P := P) (rt := rt) (p := p) (l := l) (fun j f hj => HA.out j f (get_lt hj) hj)
                have E1 := Lib.hid e1; have E2 := Lib.hid e2
                clear e1 e2
                go_wp2_with fail
                go_meet
                exact ⟨by rw [E1.out], by rw [E2.out], B2.out⟩
          case rest =>
            obtain ⟨rfl, rfl, hB3⟩ := hcut
            obtain ⟨v, hs⟩ := SS.out
            have hs1 := hs.below hB3
            have lx : ∀ t, (xAt K d p c t p).length = c := fun t => by unfold xAt; rw [if_neg (by omega), if_pos rfl]; simp
            have BC := Lib.hid (BB.out.trans (hB3.mono BB.out.size))
            have hsz := BC.out.size
            obtain ⟨x, hx⟩ : ∃ x, x = xAt K d p c := ⟨_, rfl⟩
            rw [← hx] at hs1 lx
            have HX := Lib.hid hx; have LX := Lib.hid lx; have SA := Lib.hid hs1
            have o1 := lk_row hs1 false (i := p) (by omega)
            rw [lx] at o1
            have q1 : wc.cell? ⟨w.heap.size, p, none⟩ = some (v false p) := (lk_blk hs1 false).cell (by omega)
            have f1 : wc.frozen? ⟨w.heap.size, p, none⟩ = false := (lk_blk hs1 false).free p
            have n1 : w.heap.size < wc.heap.size := (lk_blk hs1 false).lt
            obtain ⟨va, vc, hva, _⟩ := own_shape o1
            rw [hva] at o1 q1
            have O1 := Lib.hid o1; have VA := Lib.hid hva
            clear hx lx hs hs1 hB3 o1 hva SS OQ b0 b2 b3
            obtain ⟨i1, hi, hz0, hz1, hz2⟩ := info_parts Try.infoInt
            have JI := Lib.hid hi; have JZ0 := Lib.hid hz0; have JZ1 := Lib.hid hz1; have JZ2 := Lib.hid hz2
            clear hi hz0 hz1 hz2
            generalize hdr : drN P rt p (M.q p c) = dr at *
            generalize hou : ouN P rt p (M.q p c) = ou at *
            have HDR := Lib.hid hdr; have HOU := Lib.hid hou
            clear hdr hou
            have NB : Hid (Blk (wc.alloc (.cells #[.int .i64 dr] 3)) wc.heap.size 3 [.int .i64 dr]) := Blk.new wc 3 [.int .i64 dr]
            have OA := Lib.hid (own_upd O1.out (Upd.of_below (S := fun _ => False) ((Below.refl _ wc).alloc (Nat.le_refl _) (.cells #[.int .i64 dr] 3))) (fun _ _ => id))
            go_wp2_with (at_builtin; refine wpList_append_cells rfl _ _ 22 rfl w.heap.size 3 i1 _ 1 8 Try.underlying22 JI.out JZ0.out JZ1.out JZ2.out rfl (by decide) (.slice va c vc) c ((x false p).map (Value.int .i64)) rfl OA.out (some ⟨wc.heap.size, 0, none⟩) 1 1 [.int .i64 dr] rfl rfl ?c1 ?c2 ?c3 ?c4 ?c5 ?_)
            case c1 => exact fun j u hj => ⟨rfl, by rw [adr_mk, Nat.zero_add]; exact NB.out.cell hj⟩
            case c2 => intro u hu; simp at hu; subst hu; rfl
            case c3 => unfold maxLen; omega
            case c4 => omega
            case c5 => simp; omega
            intro v1 w2 g1 g2 g3
            obtain ⟨va1, vc1, rfl, _⟩ := own_shape g1
            have SB := Lib.hid (lk_push (SA.out.below ((Below.refl _ wc).alloc (Nat.le_refl _) (.cells #[.int .i64 dr] 3))) (t := false) (p := p) (n := dr) (v' := .slice va1 (c + 1) vc1) (by omega) (by rw [LX.out]; exact g1) (by rw [VA.out]; exact g2) (by rw [VA.out]; exact g3.imp id (fun e => e.trans (by simp))))
            have u1 : Upd (fun k => w.heap.size ≤ k) (wc.alloc (.cells #[.int .i64 dr] 3)) (w2.setCell ⟨w.heap.size, p, none⟩ (.slice va1 (c + 1) vc1)) := ((Upd.of_grownV g2).mono (fun k _ hk => (own_lt OA.out hk).2)).setCell ⟨w.heap.size, p, none⟩ _ fun _ => Nat.le_refl _
            have B4 := Lib.hid (Upd.below (BC.out.trans (((Below.refl _ wc).alloc (Nat.le_refl _) (.cells #[.int .i64 dr] 3)).mono hsz)) u1 (by simp; omega) (fun _ h => h))
            have q1' : w2.cell? ⟨w.heap.size, p, none⟩ = some (.slice va c vc) ∧ w2.frozen? ⟨w.heap.size, p, none⟩ = false := by
              have := lk_tab (SA.out.below ((Below.refl _ wc).alloc (Nat.le_refl _) (.cells #[.int .i64 dr] 3))) (t := false) (p := p) (by omega) (by rw [VA.out]; exact g2) false
              exact ⟨by rw [← VA.out]; exact this.cell (by omega), this.free p⟩
            obtain ⟨q2, f2⟩ := q1'
            obtain ⟨w3, hw3⟩ : ∃ w3, w2.setCell ⟨w.heap.size, p, none⟩ (.slice va1 (c + 1) vc1) = w3 := ⟨_, rfl⟩
            have HW3 := Lib.hid hw3
            rw [show bT w.heap.size false = w.heap.size from rfl, hw3] at SB
            rw [hw3] at B4
            clear u1 g1 g2 g3 hw3 q1 f1 n1
            go_upto_region 17 with (fail)
            rw [HW3.out]
            clear q2 f2 HW3 NB OA O1 VA
            obtain ⟨v2, hv2⟩ : ∃ v2, v2 = updT v false p (.slice va1 (c + 1) vc1) := ⟨_, rfl⟩
            obtain ⟨x2, hx2⟩ : ∃ x2, x2 = updT x false p (x false p ++ [(dr : Int)]) := ⟨_, rfl⟩
            rw [← hv2, ← hx2] at SB
            have HX2 := Lib.hid hx2
            have lx : (x2 true p).length = c := by rw [hx2, updT_ne _ _ (by simp)]; exact LX.out true
            clear hv2 hx2
            have LX2 := Lib.hid lx
            have o1 := lk_row SB.out true (i := p) (by omega)
            rw [lx] at o1
            have q1 : w3.cell? ⟨w.heap.size + 1, p, none⟩ = some (v2 true p) := (lk_blk SB.out true).cell (by omega)
            have f1 : w3.frozen? ⟨w.heap.size + 1, p, none⟩ = false := (lk_blk SB.out true).free p
            have n1 : w.heap.size + 1 < w3.heap.size := (lk_blk SB.out true).lt
            obtain ⟨va, vc, hva, _⟩ := own_shape o1
            rw [hva] at o1 q1
            have O1 := Lib.hid o1; have VA := Lib.hid hva
            clear o1 hva lx hsz
            have hsz := B4.out.size
            have NB : Hid (Blk (w3.alloc (.cells #[.int .i64 ou] 3)) w3.heap.size 3 [.int .i64 ou]) := Blk.new w3 3 [.int .i64 ou]
            have OA := Lib.hid (own_upd O1.out (Upd.of_below (S := fun _ => False) ((Below.refl _ w3).alloc (Nat.le_refl _) (.cells #[.int .i64 ou] 3))) (fun _ _ => id))
            go_wp2_with (at_builtin; refine wpList_append_cells rfl _ _ 22 rfl w.heap.size 3 i1 _ 1 8 Try.underlying22 JI.out JZ0.out JZ1.out JZ2.out rfl (by decide) (.slice va c vc) c ((x2 true p).map (Value.int .i64)) rfl OA.out (some ⟨w3.heap.size, 0, none⟩) 1 1 [.int .i64 ou] rfl rfl ?c1 ?c2 ?c3 ?c4 ?c5 ?_)
            case c1 => exact fun j u hj => ⟨rfl, by rw [adr_mk, Nat.zero_add]; exact NB.out.cell hj⟩
            case c2 => intro u hu; simp at hu; subst hu; rfl
            case c3 => unfold maxLen; omega
            case c4 => omega
            case c5 => simp; omega
            intro v1 w4 g1 g2 g3
            obtain ⟨va2, vc2, rfl, _⟩ := own_shape g1
            have SD := Lib.hid (lk_push (SB.out.below ((Below.refl _ w3).alloc (Nat.le_refl _) (.cells #[.int .i64 ou] 3))) (t := true) (p := p) (n := ou) (v' := .slice va2 (c + 1) vc2) (by omega) (by rw [LX2.out]; exact g1) (by rw [VA.out]; exact g2) (by rw [VA.out]; exact g3.imp id (fun e => e.trans (by simp))))
            have u1 : Upd (fun k => w.heap.size ≤ k) (w3.alloc (.cells #[.int .i64 ou] 3)) (w4.setCell ⟨w.heap.size + 1, p, none⟩ (.slice va2 (c + 1) vc2)) := ((Upd.of_grownV g2).mono (fun k _ hk => (own_lt OA.out hk).2)).setCell ⟨w.heap.size + 1, p, none⟩ _ fun _ => Nat.le_succ _
            have B5 := Lib.hid (Upd.below (B4.out.trans (((Below.refl _ w3).alloc (Nat.le_refl _) (.cells #[.int .i64 ou] 3)).mono hsz)) u1 (by simp; omega) (fun _ h => h))
            obtain ⟨q2, f2⟩ : w4.cell? ⟨w.heap.size + 1, p, none⟩ = some (.slice va c vc) ∧ w4.frozen? ⟨w.heap.size + 1, p, none⟩ = false := by
              have := lk_tab (SB.out.below ((Below.refl _ w3).alloc (Nat.le_refl _) (.cells #[.int .i64 ou] 3))) (t := true) (p := p) (by omega) (by rw [VA.out]; exact g2) true
              exact ⟨by rw [← VA.out]; exact this.cell (by omega), this.free p⟩
            rw [show bT w.heap.size true = w.heap.size + 1 from rfl] at SD
            have PU := Lib.hid (xAt_push K d p c dr ou (by rw [HD.out]; unfold dOf; rw [← HDR.out]; rfl) (by rw [HD.out]; unfold dOf; rw [← HOU.out]; rfl))
            clear u1 g1 g2 g3 q1 f1 n1
            go_wp2_with fail
            go_roundw
            case rel =>
              refine ⟨c + 1, by omega, by go_num, ⟨updT v2 true p (.slice va2 (c + 1) vc2), ?_⟩, B5.out⟩
              have e := PU.out
              rw [← HX.out, ← HX2.out] at e
              rw [← e]
              exact SD.out
            case measure => simp [intOf]; omega
        · obtain rfl : c = K := by omega
          obtain ⟨v, hs⟩ := SS.out
          rw [xAt_next] at hs
          have SE := Lib.hid hs
          clear hs SS
          go_wp2_with fail
          go_roundw
          case rel => exact ⟨p + 1, by omega, by go_num, ⟨v, SE.out⟩, BB.out⟩
          case measure => simp [intOf]; omega
    · obtain rfl : p = P := by omega
      obtain ⟨v, hs⟩ := SS.out
      obtain ⟨A, n, cc, hs⟩ : ∃ (A : Bool → Nat → Option Addr) (n cc : Bool → Nat → Nat), St wr w.heap.size (lkC (bT w.heap.size) (fun t i => .slice (A t i) (n t i) (cc t i)) (xAt K d p 0)) := ⟨_, _, _, lk_slices hs⟩
      have SE := Lib.hid hs
      clear hs SS
      go_upto_region 20 with (fail)
      have CS : Hid (∀ wx, St wx w.heap.size (lkC (bT w.heap.size) (fun t i => .slice (A t i) (n t i) (cc t i)) (xAt K d p 0)) → wx.cell? ⟨w.heap.size, 0, none⟩ = some (.slice (A false 0) (n false 0) (cc false 0)) ∧ wx.frozen? ⟨w.heap.size, 0, none⟩ = false ∧ wx.cell? ⟨w.heap.size, 1, none⟩ = some (.slice (A false 1) (n false 1) (cc false 1)) ∧ wx.frozen? ⟨w.heap.size, 1, none⟩ = false ∧ wx.cell? ⟨w.heap.size, 2, none⟩ = some (.slice (A false 2) (n false 2) (cc false 2)) ∧ wx.frozen? ⟨w.heap.size, 2, none⟩ = false ∧ wx.cell? ⟨w.heap.size, 3, none⟩ = some (.slice (A false 3) (n false 3) (cc false 3)) ∧ wx.frozen? ⟨w.heap.size, 3, none⟩ = false ∧ wx.cell? ⟨w.heap.size, 4, none⟩ = some (.slice (A false 4) (n false 4) (cc false 4)) ∧ wx.frozen? ⟨w.heap.size, 4, none⟩ = false ∧ wx.cell? ⟨w.heap.size, 5, none⟩ = some (.slice (A false 5) (n false 5) (cc false 5)) ∧ wx.frozen? ⟨w.heap.size, 5, none⟩ = false ∧ wx.cell? ⟨w.heap.size, 6, none⟩ = some (.slice (A false 6) (n false 6) (cc false 6)) ∧ wx.frozen? ⟨w.heap.size, 6, none⟩ = false ∧ wx.cell? ⟨w.heap.size, 7, none⟩ = some (.slice (A false 7) (n false 7) (cc false 7)) ∧ wx.frozen? ⟨w.heap.size, 7, none⟩ = false ∧ wx.cell? ⟨w.heap.size + 1, 0, none⟩ = some (.slice (A true 0) (n true 0) (cc true 0)) ∧ wx.frozen? ⟨w.heap.size + 1, 0, none⟩ = false ∧ wx.cell? ⟨w.heap.size + 1, 1, none⟩ = some (.slice (A true 1) (n true 1) (cc true 1)) ∧ wx.frozen? ⟨w.heap.size + 1, 1, none⟩ = false ∧ wx.cell? ⟨w.heap.size + 1, 2, none⟩ = some (.slice (A true 2) (n true 2) (cc true 2)) ∧ wx.frozen? ⟨w.heap.size + 1, 2, none⟩ = false ∧ wx.cell? ⟨w.heap.size + 1, 3, none⟩ = some (.slice (A true 3) (n true 3) (cc true 3)) ∧ wx.frozen? ⟨w.heap.size + 1, 3, none⟩ = false ∧ wx.cell? ⟨w.heap.size + 1, 4, none⟩ = some (.slice (A true 4) (n true 4) (cc true 4)) ∧ wx.frozen? ⟨w.heap.size + 1, 4, none⟩ = false ∧ wx.cell? ⟨w.heap.size + 1, 5, none⟩ = some (.slice (A true 5) (n true 5) (cc true 5)) ∧ wx.frozen? ⟨w.heap.size + 1, 5, none⟩ = false ∧ wx.cell? ⟨w.heap.size + 1, 6, none⟩ = some (.slice (A true 6) (n true 6) (cc true 6)) ∧ wx.frozen? ⟨w.heap.size + 1, 6, none⟩ = false ∧ wx.cell? ⟨w.heap.size + 1, 7, none⟩ = some (.slice (A true 7) (n true 7) (cc true 7)) ∧ wx.frozen? ⟨w.heap.size + 1, 7, none⟩ = false) := fun wx hx => ⟨(lk_blk hx false).cell (by omega), (lk_blk hx false).free 0, (lk_blk hx false).cell (by omega), (lk_blk hx false).free 1, (lk_blk hx false).cell (by omega), (lk_blk hx false).free 2, (lk_blk hx false).cell (by omega), (lk_blk hx false).free 3, (lk_blk hx false).cell (by omega), (lk_blk hx false).free 4, (lk_blk hx false).cell (by omega), (lk_blk hx false).free 5, (lk_blk hx false).cell (by omega), (lk_blk hx false).free 6, (lk_blk hx false).cell (by omega), (lk_blk hx false).free 7, (lk_blk hx true).cell (by omega), (lk_blk hx true).free 0, (lk_blk hx true).cell (by omega), (lk_blk hx true).free 1, (lk_blk hx true).cell (by omega), (lk_blk hx true).free 2, (lk_blk hx true).cell (by omega), (lk_blk hx true).free 3, (lk_blk hx true).cell (by omega), (lk_blk hx true).free 4, (lk_blk hx true).cell (by omega), (lk_blk hx true).free 5, (lk_blk hx true).cell (by omega), (lk_blk hx true).free 6, (lk_blk hx true).cell (by omega), (lk_blk hx true).free 7⟩
      have SE1 := Lib.hid (SE.out.below (Qt.refl wr).drew.bel)
      have SX := lk_all8 SE.out false
      have SE2 : Hid (St ((((((((wr.setCell ⟨w.heap.size, 0, none⟩ (.slice (A false 0) (n false 0) (cc false 0))).setCell ⟨w.heap.size, 1, none⟩ (.slice (A false 1) (n false 1) (cc false 1))).setCell ⟨w.heap.size, 2, none⟩ (.slice (A false 2) (n false 2) (cc false 2))).setCell ⟨w.heap.size, 3, none⟩ (.slice (A false 3) (n false 3) (cc false 3))).setCell ⟨w.heap.size, 4, none⟩ (.slice (A false 4) (n false 4) (cc false 4))).setCell ⟨w.heap.size, 5, none⟩ (.slice (A false 5) (n false 5) (cc false 5))).setCell ⟨w.heap.size, 6, none⟩ (.slice (A false 6) (n false 6) (cc false 6))).setCell ⟨w.heap.size, 7, none⟩ (.slice (A false 7) (n false 7) (cc false 7))).drew w.heap.size (lkC (bT w.heap.size) (fun t i => .slice (A t i) (n t i) (cc t i)) (xAt K d p 0))) := SX.below (Qt.refl _).drew.bel
      have SE3 : Hid (St ((((((((((((((((wr.setCell ⟨w.heap.size, 0, none⟩ (.slice (A false 0) (n false 0) (cc false 0))).setCell ⟨w.heap.size, 1, none⟩ (.slice (A false 1) (n false 1) (cc false 1))).setCell ⟨w.heap.size, 2, none⟩ (.slice (A false 2) (n false 2) (cc false 2))).setCell ⟨w.heap.size, 3, none⟩ (.slice (A false 3) (n false 3) (cc false 3))).setCell ⟨w.heap.size, 4, none⟩ (.slice (A false 4) (n false 4) (cc false 4))).setCell ⟨w.heap.size, 5, none⟩ (.slice (A false 5) (n false 5) (cc false 5))).setCell ⟨w.heap.size, 6, none⟩ (.slice (A false 6) (n false 6) (cc false 6))).setCell ⟨w.heap.size, 7, none⟩ (.slice (A false 7) (n false 7) (cc false 7))).setCell ⟨w.heap.size + 1, 0, none⟩ (.slice (A true 0) (n true 0) (cc true 0))).setCell ⟨w.heap.size + 1, 1, none⟩ (.slice (A true 1) (n true 1) (cc true 1))).setCell ⟨w.heap.size + 1, 2, none⟩ (.slice (A true 2) (n true 2) (cc true 2))).setCell ⟨w.heap.size + 1, 3, none⟩ (.slice (A true 3) (n true 3) (cc true 3))).setCell ⟨w.heap.size + 1, 4, none⟩ (.slice (A true 4) (n true 4) (cc true 4))).setCell ⟨w.heap.size + 1, 5, none⟩ (.slice (A true 5) (n true 5) (cc true 5))).setCell ⟨w.heap.size + 1, 6, none⟩ (.slice (A true 6) (n true 6) (cc true 6))).setCell ⟨w.heap.size + 1, 7, none⟩ (.slice (A true 7) (n true 7) (cc true 7))).drew w.heap.size (lkC (bT w.heap.size) (fun t i => .slice (A t i) (n t i) (cc t i)) (xAt K d p 0))) := (lk_all8 SX true).below (Qt.refl _).drew.bel
      clear SX
      refine wp_region_lastH (fun wx => wx.cell? ⟨w.heap.size, 0, none⟩ = some (.slice (A false 0) (n false 0) (cc false 0)) ∧ wx.frozen? ⟨w.heap.size, 0, none⟩ = false ∧ wx.cell? ⟨w.heap.size, 1, none⟩ = some (.slice (A false 1) (n false 1) (cc false 1)) ∧ wx.frozen? ⟨w.heap.size, 1, none⟩ = false ∧ wx.cell? ⟨w.heap.size, 2, none⟩ = some (.slice (A false 2) (n false 2) (cc false 2)) ∧ wx.frozen? ⟨w.heap.size, 2, none⟩ = false ∧ wx.cell? ⟨w.heap.size, 3, none⟩ = some (.slice (A false 3) (n false 3) (cc false 3)) ∧ wx.frozen? ⟨w.heap.size, 3, none⟩ = false ∧ wx.cell? ⟨w.heap.size, 4, none⟩ = some (.slice (A false 4) (n false 4) (cc false 4)) ∧ wx.frozen? ⟨w.heap.size, 4, none⟩ = false ∧ wx.cell? ⟨w.heap.size, 5, none⟩ = some (.slice (A false 5) (n false 5) (cc false 5)) ∧ wx.frozen? ⟨w.heap.size, 5, none⟩ = false ∧ wx.cell? ⟨w.heap.size, 6, none⟩ = some (.slice (A false 6) (n false 6) (cc false 6)) ∧ wx.frozen? ⟨w.heap.size, 6, none⟩ = false ∧ wx.cell? ⟨w.heap.size, 7, none⟩ = some (.slice (A false 7) (n false 7) (cc false 7)) ∧ wx.frozen? ⟨w.heap.size, 7, none⟩ = false ∧ wx.cell? ⟨w.heap.size + 1, 0, none⟩ = some (.slice (A true 0) (n true 0) (cc true 0)) ∧ wx.frozen? ⟨w.heap.size + 1, 0, none⟩ = false ∧ wx.cell? ⟨w.heap.size + 1, 1, none⟩ = some (.slice (A true 1) (n true 1) (cc true 1)) ∧ wx.frozen? ⟨w.heap.size + 1, 1, none⟩ = false ∧ wx.cell? ⟨w.heap.size + 1, 2, none⟩ = some (.slice (A true 2) (n true 2) (cc true 2)) ∧ wx.frozen? ⟨w.heap.size + 1, 2, none⟩ = false ∧ wx.cell? ⟨w.heap.size + 1, 3, none⟩ = some (.slice (A true 3) (n true 3) (cc true 3)) ∧ wx.frozen? ⟨w.heap.size + 1, 3, none⟩ = false ∧ wx.cell? ⟨w.heap.size + 1, 4, none⟩ = some (.slice (A true 4) (n true 4) (cc true 4)) ∧ wx.frozen? ⟨w.heap.size + 1, 4, none⟩ = false ∧ wx.cell? ⟨w.heap.size + 1, 5, none⟩ = some (.slice (A true 5) (n true 5) (cc true 5)) ∧ wx.frozen? ⟨w.heap.size + 1, 5, none⟩ = false ∧ wx.cell? ⟨w.heap.size + 1, 6, none⟩ = some (.slice (A true 6) (n true 6) (cc true 6)) ∧ wx.frozen? ⟨w.heap.size + 1, 6, none⟩ = false ∧ wx.cell? ⟨w.heap.size + 1, 7, none⟩ = some (.slice (A true 7) (n true 7) (cc true 7)) ∧ wx.frozen? ⟨w.heap.size + 1, 7, none⟩ = false) 3 4 (by kernel_rfl) (by kernel_rfl) rfl rfl ?_ (fun hHeld => ?_)
      · (exact CS.out _ SE1.out)
      simp only [nopFor, List.set_cons_succ, List.set_cons_zero]
      refine wpAnyH_takeL (i := 0) (v := ?_) rfl (by kernel_rfl) (by kernel_rfl) (by kernel_rfl) (fun _ _ _ h => h) rfl ?_ hHeld ?_
      rotate_left
      · intro w hSw
        try dsimp only at hSw
        go_simp
        all_goals with_reducible rfl
      try simp only [Act.put, List.setIfInBounds_toArray, List.set_cons_zero, List.set_cons_succ]
      refine wpAnyH_takeL (i := 1) (v := ?_) rfl (by kernel_rfl) (by kernel_rfl) (by kernel_rfl) (fun _ _ _ h => h) rfl ?_ hHeld ?_
      rotate_left
      · intro w hSw
        try dsimp only at hSw
        go_simp
        all_goals with_reducible rfl
      try simp only [Act.put, List.setIfInBounds_toArray, List.set_cons_zero, List.set_cons_succ]
      refine wpAnyH_step (i := 2) (by kernel_rfl) rfl (fun KK hK => ?_)
      (obtain ⟨k0, k1, k2, k3, k4, k5, k6, k7, k8, k9, k10, k11, k12, k13, k14, k15, k16, k17, k18, k19, k20, k21, k22, k23, k24, k25, k26, k27, k28, k29, k30, k31⟩ := CS.out _ SE.out; go_simp)
      refine hK.out _ _ ?_ (fun hHeld => ?_)
      · (exact CS.out _ SE2.out)
      clear hK KK
      try simp only [Act.put, List.setIfInBounds_toArray, List.set_cons_zero, List.set_cons_succ]
      refine wpAnyH_takeL (i := 3) (v := ?_) rfl (by kernel_rfl) (by kernel_rfl) (by kernel_rfl) (fun _ _ _ h => h) rfl ?_ hHeld ?_
      rotate_left
      · intro w hSw
        try dsimp only at hSw
        go_simp
        all_goals with_reducible rfl
      try simp only [Act.put, List.setIfInBounds_toArray, List.set_cons_zero, List.set_cons_succ]
      refine wpAnyH_done (by kernel_rfl) ?_ _
      rw [LastQ_normal]
      clear hHeld
      obtain ⟨k0, k1, k2, k3, k4, k5, k6, k7, k8, k9, k10, k11, k12, k13, k14, k15, k16, k17, k18, k19, k20, k21, k22, k23, k24, k25, k26, k27, k28, k29, k30, k31⟩ := CS.out _ SE.out
      go_wp2_with fail
      refine bodyPost_ret (v := .tuple #[.agg #[.slice (A false 0) (n false 0) (cc false 0), .slice (A false 1) (n false 1) (cc false 1), .slice (A false 2) (n false 2) (cc false 2), .slice (A false 3) (n false 3) (cc false 3), .slice (A false 4) (n false 4) (cc false 4), .slice (A false 5) (n false 5) (cc false 5), .slice (A false 6) (n false 6) (cc false 6), .slice (A false 7) (n false 7) (cc false 7)], .agg #[.slice (A true 0) (n true 0) (cc true 0), .slice (A true 1) (n true 1) (cc true 1), .slice (A true 2) (n true 2) (cc true 2), .slice (A true 3) (n true 3) (cc true 3), .slice (A true 4) (n true 4) (cc true 4), .slice (A true 5) (n true 5) (cc true 5), .slice (A true 6) (n true 6) (cc true 6), .slice (A true 7) (n true 7) (cc true 7)]]) ?_ rfl ?_
      · simp [results, Try.results38, go_sem, *]
      refine ⟨A, n, cc, rfl, ?_, ?_⟩
      · exact SE3.out
      · have B9 := ((((((((((((((((BB.out.setCell (p := ⟨w.heap.size, 0, none⟩) (Nat.le_refl _) (.slice (A false 0) (n false 0) (cc false 0))).setCell (p := ⟨w.heap.size, 1, none⟩) (Nat.le_refl _) (.slice (A false 1) (n false 1) (cc false 1))).setCell (p := ⟨w.heap.size, 2, none⟩) (Nat.le_refl _) (.slice (A false 2) (n false 2) (cc false 2))).setCell (p := ⟨w.heap.size, 3, none⟩) (Nat.le_refl _) (.slice (A false 3) (n false 3) (cc false 3))).setCell (p := ⟨w.heap.size, 4, none⟩) (Nat.le_refl _) (.slice (A false 4) (n false 4) (cc false 4))).setCell (p := ⟨w.heap.size, 5, none⟩) (Nat.le_refl _) (.slice (A false 5) (n false 5) (cc false 5))).setCell (p := ⟨w.heap.size, 6, none⟩) (Nat.le_refl _) (.slice (A false 6) (n false 6) (cc false 6))).setCell (p := ⟨w.heap.size, 7, none⟩) (Nat.le_refl _) (.slice (A false 7) (n false 7) (cc false 7))).setCell (p := ⟨w.heap.size + 1, 0, none⟩) (Nat.le_succ _) (.slice (A true 0) (n true 0) (cc true 0))).setCell (p := ⟨w.heap.size + 1, 1, none⟩) (Nat.le_succ _) (.slice (A true 1) (n true 1) (cc true 1))).setCell (p := ⟨w.heap.size + 1, 2, none⟩) (Nat.le_succ _) (.slice (A true 2) (n true 2) (cc true 2))).setCell (p := ⟨w.heap.size + 1, 3, none⟩) (Nat.le_succ _) (.slice (A true 3) (n true 3) (cc true 3))).setCell (p := ⟨w.heap.size + 1, 4, none⟩) (Nat.le_succ _) (.slice (A true 4) (n true 4) (cc true 4))).setCell (p := ⟨w.heap.size + 1, 5, none⟩) (Nat.le_succ _) (.slice (A true 5) (n true 5) (cc true 5))).setCell (p := ⟨w.heap.size + 1, 6, none⟩) (Nat.le_succ _) (.slice (A true 6) (n true 6) (cc true 6))).setCell (p := ⟨w.heap.size + 1, 7, none⟩) (Nat.le_succ _) (.slice (A true 7) (n true 7) (cc true 7)))
        exact B9.trans ((Qt.refl _).drew.bel.mono B9.size)
end
end Go.Proofs.Ytkooihniieepcaa
