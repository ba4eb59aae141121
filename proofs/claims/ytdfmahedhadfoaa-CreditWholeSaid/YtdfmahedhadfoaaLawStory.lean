/-
  Contract of story.
-/
import Derived.Test.YtdfmahedhadfoaaStory
namespace Go.Proofs.Ytdfmahedhadfoaa
open Go.RowKit
set_option linter.unusedVariables false

theorem Try.infoSI : (Try.prog.info? 3).map (fun i => (i.zero, i.size, i.bytes)) = some (some (.int .i64 0), 1, 8) := by kernel_rfl

def SInv (W : World) (g cb t ct BL : Nat) (n : Int) (k : Nat) (b c s m fl : Int) (v : Value) (ls : List Int) (w : World) : Prop :=
  St W g cb t ct n b c s m w ∧ StOk n b c s m fl ∧ Lm BL n c v ls w ∧ fl ≤ k ∧ c ≤ 64 * k ∧ ls.length ≤ k + 1
def SRel (W : World) (g cb t ct BL : Nat) (n : Int) (len : Nat) (x v i : Value) (w : World) : Prop :=
  ∃ k : Nat, k ≤ len ∧ i = .int .i64 k ∧ ∃ b c s m fl ls, x = .int .i64 fl ∧ SInv W g cb t ct BL n k b c s m fl v ls w
def SCut (W : World) (g cb t ct BL : Nat) (n : Int) (k : Nat) (x v : Value) (w : World) : Prop :=
  ∃ b c s m fl ls, x = .int .i64 fl ∧ SInv W g cb t ct BL n k b c s m fl v ls w
def StoryPost (W : World) (n : Nat) (e : Ending) (w : World) : Prop :=
  ∃ (g cb t ct BL : Nat) (b c s m fl : Int), e = .returned (.tuple #[.pointer (some ⟨g, 0, none⟩), .pointer (some ⟨t, 0, none⟩), .int .i64 fl, .bool true]) ∧ StA g cb t ct BL ∧ St W g cb t ct n b c s m w ∧ StOk n b c s m fl ∧ fl ≤ 60 ∧ c ≤ 3900
theorem results_tmp4 {fn : Func} {t u v x : Tmp} (h : fn.results = #[.tmp t, .tmp u, .tmp v, .tmp x]) (tmps : Array Value) (P : Program) (w : World) :
    (results fn tmps).run P w = .ok (.tuple #[tmps.getD t undef, tmps.getD u undef, tmps.getD v undef, tmps.getD x undef]) w := by simp [results, h]

set_option maxHeartbeats 20000000 in
set_option maxRecDepth 100000 in
theorem story_any (W : World) (n : Nat) (a : Option Addr) (c0 : Nat) (es : List Int) (hs : Sl (Value.int .u8) W a es) (hu : ∀ e ∈ es, 0 ≤ e ∧ e ≤ 255) (hn1 : 1 ≤ n) (hn8 : n ≤ 8) (hl : es.length ≤ 60) :
    Calls Try.prog 30 #[.int .i64 n, .slice a es.length c0] W (StoryPost W n) := by
  have S := Lib.hid hs; have HU := Lib.hid hu
  clear hs hu
  have NG := Lib.hid (newG_one W n hn1 (by omega))
  obtain ⟨i0, hi, hz0, hz1, hz2⟩ := info_parts Try.infoSI
  have HI := Lib.hid hi; have HZ0 := Lib.hid hz0; have HZ1 := Lib.hid hz1; have HZ2 := Lib.hid hz2
  clear hi hz0 hz1 hz2
  go_enter Try.func30, Try.ntmps30
  go_wp2_with fail
  refine NG.out.mono ?_
  rintro e w2 ⟨rfl, hG⟩
  have G2 := Lib.hid hG; clear hG
  have NT := Lib.hid (newT_ok w2 1 (by decide) (by decide))
  go_wp2_with fail
  refine NT.out.mono ?_
  rintro e w3 ⟨rfl, hT, hB, hz⟩
  have A : StA (W.heap.size + 2) (W.heap.size + 1) (w2.heap.size + 1) w2.heap.size w3.heap.size := by
    have h1 := G2.out.h.hg.lt
    have h2 := G2.out.bel.size
    exact ⟨by omega, by omega, by omega, by omega, by omega, by omega, by omega⟩
  have T3 : Hid (St W (W.heap.size + 2) (W.heap.size + 1) (w2.heap.size + 1) w2.heap.size n 0 0 0 0 w3) :=
    ⟨G2.out.h.below hB, ⟨hT.hg, hT.hc, hT.ne, by have := G2.out.bel.size; omega, G2.out.bel.size⟩, G2.out.bel.trans (hB.mono G2.out.bel.size)⟩
  have HA := Lib.hid A
  clear hT hB hz A NT NG
  generalize W.heap.size + 2 = g at *
  generalize W.heap.size + 1 = cb at *
  generalize w2.heap.size + 1 = t at *
  generalize w2.heap.size = ct at *
  have O0 : StOk n 0 0 0 0 0 := ⟨by omega, by omega, by omega, by omega, by omega, by omega, by omega, by omega, by omega⟩
  have L3 := Lib.hid (st_lim T3.out O0.g)
  have HO0 := Lib.hid O0; clear O0
  go_wp2_with fail
  refine L3.out.mono ?_
  rintro e w4 ⟨rfl, hS, hU⟩
  have I0 : Hid (SInv W g cb t ct w3.heap.size n 0 0 0 0 0 0 (.slice (some ⟨w4.heap.size, 0, none⟩) 1 1) [(n : Int) + 0] (w4.alloc (.cells #[.int .i64 ((n : Int) + 0)] 3))) := by
    have hb0 : Below w4.heap.size w4 (w4.alloc (.cells #[.int .i64 ((n : Int) + 0)] 3)) := (Below.refl _ _).alloc (Nat.le_refl _) _
    refine ⟨hS.below hb0, HO0.out, ⟨?_, by simp, by intro x hx; simp at hx; omega, by have := hU.size; have := hb0.size; omega⟩, by omega, by omega, by simp⟩
    exact own_of_blk (xs := [(n : Int) + 0]) (sp := []) hU.size (Blk.new w4 3 [.int .i64 ((n : Int) + 0)]) (by simp) (by unfold maxLen; simp)
  rw [Int.add_zero] at I0
  clear hS hU
  generalize w3.heap.size = BL at *
  go_wp2_with fail
  go_loopw [12, 13, 47] (fun x v i w => SRel W g cb t ct BL n es.length x v i w) (fun _ _ i _ => es.length - (intOf i).toNat)
  case atStart => exact ⟨0, Nat.zero_le _, rfl, 0, 0, 0, 0, 0, _, rfl, I0.out⟩
  case round =>
    obtain ⟨k, hk, rfl, b, c, s, m, fl, ls, rfl, hS, hO, hL, hfk, hck, hlk⟩ := hrel
    have HS := Lib.hid hS; have HO := Lib.hid hO; have HL := Lib.hid hL
    obtain ⟨o1, o2, o3, o4, o5, o6, o7, o8, o9⟩ := hO
    clear hS hL I0
    by_cases hlt : k < es.length
    · obtain ⟨e, ee, oke, ce⟩ := (S.out.below HS.out.bel).get (k := k) hlt
      obtain ⟨he0, he1⟩ := HU.out e (List.mem_of_getElem? ee.out)
      go_upto_block 2 with (fail)
      go_cut [12, 13] (fun x v w => SCut W g cb t ct BL n (k + 1) x v w)
      case first =>
        have hmod : e % 8 = 0 ∨ e % 8 = 1 ∨ e % 8 = 2 ∨ e % 8 = 3 ∨ e % 8 = 4 ∨ e % 8 = 5 ∨ e % 8 = 6 ∨ e % 8 = 7 := by omega
        rcases hmod with hm | hm | hm | hm | hm | hm | hm | hm
        · -- the taker sends
          have t0 : ((e % 8 : Int) == 0) = true := by rw [beq_iff_eq]; omega
          clear hm
          by_cases hsm : s < m
          · have P := Lib.hid (st_tak HS.out HA.out HO.out.t hsm)
            go_wp2_with fail
            refine P.out.mono ?_
            rintro e' w5 ⟨rfl, hS, hU⟩
            have S5 := Lib.hid hS; have L5 := Lib.hid (HL.out.upd HA.out hU)
            clear hS hU
            go_wp2_with fail
            go_meet
            exact ⟨b, c, s + 1, m, fl + 1, ls, by go_num, S5.out, ⟨o1, o2, o3, o4, by omega, by omega, by omega, o8, o9⟩, L5.out, by omega, by omega, by omega⟩
          · have P := Lib.hid (st_takfull HS.out HA.out HO.out.t (by omega))
            go_wp2_with fail
            refine P.out.mono ?_
            rintro e' w5 ⟨rfl, hS, hU⟩
            have S5 := Lib.hid hS; have L5 := Lib.hid (HL.out.upd HA.out hU)
            clear hS hU
            go_wp2_with fail
            go_meet
            exact ⟨b, c, s, m, fl, ls, rfl, S5.out, HO.out, L5.out, by omega, by omega, by omega⟩
        · -- a frame arrives
          have t0 : ((e % 8 : Int) == 0) = false := by rw [beq_eq_false_iff_ne]; omega
          have t1 : ((e % 8 : Int) == 1) = true := by rw [beq_iff_eq]; omega
          clear hm
          by_cases hf : 0 < fl
          · have P := Lib.hid (st_rec HS.out HA.out HO.out.g (by omega))
            go_wp2_with fail
            refine P.out.mono ?_
            rintro e' w5 ⟨rfl, hS, hU⟩
            have S5 := Lib.hid hS; have L5 := Lib.hid (HL.out.upd HA.out hU)
            clear hS hU
            go_wp2_with fail
            go_meet
            exact ⟨b + 1, c, s, m, fl - 1, ls, rfl, S5.out, ⟨o1, o2, o3, by omega, by omega, by omega, o7, o8, o9⟩, L5.out, by omega, by omega, by omega⟩
          · go_wp2_with fail
            go_meet
            exact ⟨b, c, s, m, fl, ls, rfl, HS.out, HO.out, HL.out, by omega, by omega, by omega⟩
        · -- it is lost
          have t0 : ((e % 8 : Int) == 0) = false := by rw [beq_eq_false_iff_ne]; omega
          have t1 : ((e % 8 : Int) == 1) = false := by rw [beq_eq_false_iff_ne]; omega
          have t2 : ((e % 8 : Int) == 2) = true := by rw [beq_iff_eq]; omega
          clear hm
          by_cases hf : 0 < fl
          · go_wp2_with fail
            go_meet
            exact ⟨b, c, s, m, fl - 1, ls, rfl, HS.out, ⟨o1, o2, o3, o4, by omega, by omega, o7, o8, o9⟩, HL.out, by omega, by omega, by omega⟩
          · go_wp2_with fail
            go_meet
            exact ⟨b, c, s, m, 0, ls, rfl, HS.out, ⟨o1, o2, o3, o4, by omega, by omega, o7, o8, o9⟩, HL.out, by omega, by omega, by omega⟩
        · -- a frame is freed
          have t0 : ((e % 8 : Int) == 0) = false := by rw [beq_eq_false_iff_ne]; omega
          have t1 : ((e % 8 : Int) == 1) = false := by rw [beq_eq_false_iff_ne]; omega
          have t2 : ((e % 8 : Int) == 2) = false := by rw [beq_eq_false_iff_ne]; omega
          have t3 : ((e % 8 : Int) == 3) = true := by rw [beq_iff_eq]; omega
          clear hm
          have P := Lib.hid (st_fre HS.out HA.out HO.out.g)
          go_wp2_with fail
          refine P.out.mono ?_
          rintro e' w5 ⟨er, c', rfl, hS, hU, hc1, hc2, hc3⟩
          have S5 := Lib.hid hS; have L5 := Lib.hid ((HL.out.upd HA.out hU).up hc1)
          clear hS hU
          go_wp2_with fail
          go_meet
          exact ⟨b, c', s, m, fl, ls, rfl, S5.out, ⟨o1, o2, by omega, by omega, o5, o6, o7, by omega, by omega⟩, L5.out, by omega, by omega, by omega⟩
        · -- a limit is noted
          have t0 : ((e % 8 : Int) == 0) = false := by rw [beq_eq_false_iff_ne]; omega
          have t1 : ((e % 8 : Int) == 1) = false := by rw [beq_eq_false_iff_ne]; omega
          have t2 : ((e % 8 : Int) == 2) = false := by rw [beq_eq_false_iff_ne]; omega
          have t3 : ((e % 8 : Int) == 3) = false := by rw [beq_eq_false_iff_ne]; omega
          have t4 : ((e % 8 : Int) == 4) = true := by rw [beq_iff_eq]; omega
          clear hm
          have P := Lib.hid (st_lim HS.out HO.out.g)
          obtain ⟨al, cl, rfl, _⟩ := own_shape HL.out.own
          go_wp2_with fail
          refine P.out.mono ?_
          rintro e' w5 ⟨rfl, hS, hU⟩
          have S5 := Lib.hid hS; have L5 := Lib.hid (HL.out.upd HA.out hU)
          have hb5 := L5.out.hB
          clear hS hU
          go_wp2_with (at_builtin; refine wpList_append_own _ rfl _ _ 22 rfl BL 3 i0 _ 1 8 Try.underlying22 HI.out HZ0.out HZ1.out HZ2.out rfl (by decide) _ ls.length (ls.map (Value.int .i64)) rfl ?c0 ⟨w5.heap.size, 0, none⟩ 1 1 [.int .i64 ((n : Int) + c)] rfl ?c1 ?c2 ?c3 ?c4 ?c5 ?c6 ?_)
          case c0 => exact L5.out.own.alloc _
          case c1 => rfl
          case c2 => exact cell_one_new _ _ _
          case c3 => intro u hu; simp at hu; subst hu; rfl
          case c4 => unfold maxLen; omega
          case c5 => omega
          case c6 => simp; omega
          intro v' w6 hown hgr hnil
          have U : Upd (fun j => (Value.slice al ls.length cl).ownBlock = some j) w5 w6 :=
            Upd.then (S := fun j => (Value.slice al ls.length cl).ownBlock = some j) ((Upd.refl _ w5).alloc _) (T := fun j => (Value.slice al ls.length cl).ownBlock = some j) ⟨hgr.os, hgr.tape, hgr.output, hgr.size, fun j hj hs => hgr.block j hj (fun e => hs e.symm)⟩ (fun j _ hj => hj)
          have hbo : ∀ j, (Value.slice al ls.length cl).ownBlock = some j → BL ≤ j := fun j hj => (own_lt L5.out.own hj).2
          have S6 : Hid (St W g cb t ct n b c s m w6) :=
            ⟨S5.out.hG.upd U (fun h => by have := hbo _ h; have := HA.out.lg; omega) (fun h => by have := hbo _ h; have := HA.out.lc; omega), S5.out.hT.upd U (fun h => by have := hbo _ h; have := HA.out.lt; omega) (fun h => by have := hbo _ h; have := HA.out.lct; omega),
              Upd.below S5.out.bel U S5.out.bel.size (fun j hj => by have := hbo j hj; have := HA.out.lc; have := S5.out.hG.b2; omega)⟩
          have L6 : Hid (Lm BL n c v' (ls ++ [(n : Int) + c]) w6) := by
            refine ⟨by rw [List.length_append, List.map_append]; exact hown, by simp, ?_, by have := U.size; omega⟩
            intro x hx
            rcases List.mem_append.1 hx with hx | hx
            · exact L5.out.rng x hx
            · simp at hx; omega
          clear hown hgr hnil U hbo
          go_wp2_with fail
          go_meet
          exact ⟨b, c, s, m, fl, ls ++ [(n : Int) + c], rfl, S6.out, HO.out, L6.out, by omega, by omega, by simp; omega⟩
        · -- a noted limit is heard
          have t0 : ((e % 8 : Int) == 0) = false := by rw [beq_eq_false_iff_ne]; omega
          have t1 : ((e % 8 : Int) == 1) = false := by rw [beq_eq_false_iff_ne]; omega
          have t2 : ((e % 8 : Int) == 2) = false := by rw [beq_eq_false_iff_ne]; omega
          have t3 : ((e % 8 : Int) == 3) = false := by rw [beq_eq_false_iff_ne]; omega
          have t4 : ((e % 8 : Int) == 4) = false := by rw [beq_eq_false_iff_ne]; omega
          have t5 : ((e % 8 : Int) == 5) = true := by rw [beq_iff_eq]; omega
          clear hm
          obtain ⟨al, cl, rfl, _⟩ := own_shape HL.out.own
          obtain ⟨gr, sp, rfl, hgr, hbk, hcl⟩ := own_blk HL.out.own HL.out.ne
          clear hcl
          have hL0 : ¬ ls.length = 0 := fun h => HL.out.ne (List.eq_nil_of_length_eq_zero h)
          obtain ⟨j, hj⟩ : ∃ j : Nat, e / 8 % (ls.length : Int) = j := ⟨_, (Int.toNat_of_nonneg (Int.emod_nonneg _ (by omega))).symm⟩
          have hjl : j < ls.length := by have := Int.emod_lt_of_pos (e / 8) (show 0 < (ls.length : Int) by omega); omega
          have hq : Hid (ls[j]? = some ls[j]) := by show _ = _; simp [hjl]
          have hr := HL.out.rng ls[j] (List.getElem_mem hjl)
          have cj : wr.cell? ⟨gr, j, none⟩ = some (.int .i64 ls[j]) := hbk.cell (i := j) (by rw [List.getElem?_append_left (by simpa using hjl)]; simp [hjl])
          generalize ls[j] = x at *
          obtain ⟨hr0, hr1⟩ := hr
          have P := Lib.hid (st_rai x HS.out HA.out HO.out.t hr0 (by omega))
          clear hbk
          go_wp2_with fail
          refine P.out.mono ?_
          rintro e' w5 ⟨rfl, hS, hU⟩
          have S5 := Lib.hid hS; have L5 := Lib.hid (HL.out.upd HA.out hU)
          clear hS hU hj
          go_wp2_with fail
          go_meet
          exact ⟨b, c, s, max m x, fl, ls, rfl, S5.out, ⟨o1, o2, o3, o4, o5, o6, by omega, by omega, o9⟩, L5.out, by omega, by omega, by omega⟩
        · -- the oldest again
          have t0 : ((e % 8 : Int) == 0) = false := by rw [beq_eq_false_iff_ne]; omega
          have t1 : ((e % 8 : Int) == 1) = false := by rw [beq_eq_false_iff_ne]; omega
          have t2 : ((e % 8 : Int) == 2) = false := by rw [beq_eq_false_iff_ne]; omega
          have t3 : ((e % 8 : Int) == 3) = false := by rw [beq_eq_false_iff_ne]; omega
          have t4 : ((e % 8 : Int) == 4) = false := by rw [beq_eq_false_iff_ne]; omega
          have t5 : ((e % 8 : Int) == 5) = false := by rw [beq_eq_false_iff_ne]; omega
          have t6 : ((e % 8 : Int) == 6) = true := by rw [beq_iff_eq]; omega
          clear hm
          obtain ⟨al, cl, rfl, _⟩ := own_shape HL.out.own
          obtain ⟨gr, sp, rfl, hgr, hbk, hcl⟩ := own_blk HL.out.own HL.out.ne
          clear hcl
          have hL0 : ¬ ls.length = 0 := fun h => HL.out.ne (List.eq_nil_of_length_eq_zero h)
          have hjl : 0 < ls.length := by omega
          have hr := HL.out.rng ls[0] (List.getElem_mem hjl)
          have cj : wr.cell? ⟨gr, 0, none⟩ = some (.int .i64 ls[0]) := hbk.cell (i := 0) (by rw [List.getElem?_append_left (by simpa using hjl)]; simp [hjl])
          generalize ls[0] = x at *
          obtain ⟨hr0, hr1⟩ := hr
          have P := Lib.hid (st_rai x HS.out HA.out HO.out.t hr0 (by omega))
          clear hbk
          go_wp2_with fail
          refine P.out.mono ?_
          rintro e' w5 ⟨rfl, hS, hU⟩
          have S5 := Lib.hid hS; have L5 := Lib.hid (HL.out.upd HA.out hU)
          clear hS hU
          go_wp2_with fail
          go_meet
          exact ⟨b, c, s, max m x, fl, ls, rfl, S5.out, ⟨o1, o2, o3, o4, o5, o6, by omega, by omega, o9⟩, L5.out, by omega, by omega, by omega⟩
        · -- an audit
          have t0 : ((e % 8 : Int) == 0) = false := by rw [beq_eq_false_iff_ne]; omega
          have t1 : ((e % 8 : Int) == 1) = false := by rw [beq_eq_false_iff_ne]; omega
          have t2 : ((e % 8 : Int) == 2) = false := by rw [beq_eq_false_iff_ne]; omega
          have t3 : ((e % 8 : Int) == 3) = false := by rw [beq_eq_false_iff_ne]; omega
          have t4 : ((e % 8 : Int) == 4) = false := by rw [beq_eq_false_iff_ne]; omega
          have t5 : ((e % 8 : Int) == 5) = false := by rw [beq_eq_false_iff_ne]; omega
          have t6 : ((e % 8 : Int) == 6) = false := by rw [beq_eq_false_iff_ne]; omega
          have t7 : ((e % 8 : Int) == 7) = true := by rw [beq_iff_eq]; omega
          clear hm
          by_cases hf : fl = 0
          · have hf' : ((fl : Int) == 0) = true := by simpa using hf
            have HF := Lib.hid hf; clear hf
            have P := Lib.hid (st_sent HS.out HO.out.t)
            go_wp2_with fail
            refine P.out.mono ?_
            rintro e' w5 ⟨rfl, hS, hU⟩
            have S5 := Lib.hid hS; have L5 := Lib.hid (HL.out.upd HA.out hU)
            have Q := Lib.hid (st_aud s (s - b) S5.out HA.out HO.out.g (by have := HF.out; omega) (by omega) rfl)
            clear hS hU
            go_wp2_with fail
            refine Q.out.mono ?_
            rintro e' w6 ⟨rfl, hS, hU⟩
            have S6 := Lib.hid hS; have L6 := Lib.hid ((L5.out.upd HA.out hU).up (show c ≤ c + (s - b) by have := HF.out; omega))
            clear hS hU
            go_wp2_with fail
            go_meet
            have := HF.out
            exact ⟨s, c + (s - b), s, m, fl, ls, rfl, S6.out, ⟨o1, o2, by omega, by omega, o5, by omega, o7, by omega, by omega⟩, L6.out, by omega, by omega, by omega⟩
          · have hf' : ((fl : Int) == 0) = false := by simpa using hf
            go_wp2_with fail
            go_meet
            exact ⟨b, c, s, m, fl, ls, rfl, HS.out, HO.out, HL.out, by omega, by omega, by omega⟩
      case rest =>
        clear HS HO HL o1 o2 o3 o4 o5 o6 o7 o8 o9 hfk hck hlk he0 he1 ce ee
        obtain ⟨b, c, s, m, fl, ls, rfl, hS, hO, hL, hfk, hck, hlk⟩ := hcut
        have HS := Lib.hid hS; have HO := Lib.hid hO; have HL := Lib.hid hL
        obtain ⟨o1, o2, o3, o4, o5, o6, o7, o8, o9⟩ := hO
        clear hS hL
        have P := Lib.hid fun w h => st_held (W := W) (g := g) (cb := cb) (t := t) (ct := ct) (n := n) (b := b) (c := c) (s := s) (m := m) (w := w) h HO.out.g
        have Q := Lib.hid fun w h => st_left (W := W) (g := g) (cb := cb) (t := t) (ct := ct) (n := n) (b := b) (c := c) (s := s) (m := m) (w := w) h HO.out.t
        go_wp2_with fail
        refine (P.out _ HS.out).mono ?_
        rintro e' w5 ⟨rfl, hS, hU⟩
        have S5 := Lib.hid hS; have L5 := Lib.hid (HL.out.upd HA.out hU); clear hS hU
        go_wp2_with fail
        refine (P.out _ S5.out).mono ?_
        rintro e' w6 ⟨rfl, hS, hU⟩
        have S6 := Lib.hid hS; have L6 := Lib.hid (L5.out.upd HA.out hU); clear hS hU
        go_wp2_with fail
        refine (Q.out _ S6.out).mono ?_
        rintro e' w7 ⟨rfl, hS, hU⟩
        have S7 := Lib.hid hS; have L7 := Lib.hid (L6.out.upd HA.out hU); clear hS hU
        go_wp2_with fail
        go_roundw
        case rel => exact ⟨k + 1, by omega, by go_num, b, c, s, m, fl, ls, rfl, S7.out, HO.out, L7.out, hfk, hck, hlk⟩
        case measure => simp [intOf]; omega
    · obtain rfl : k = es.length := by omega
      go_wp2_with fail
      refine bodyPost_ret (results_tmp4 rfl _ _ _) rfl ?_
      exact ⟨g, cb, t, ct, BL, b, c, s, m, fl, rfl, HA.out, HS.out, HO.out, by omega, by omega⟩
end Go.Proofs.Ytdfmahedhadfoaa
