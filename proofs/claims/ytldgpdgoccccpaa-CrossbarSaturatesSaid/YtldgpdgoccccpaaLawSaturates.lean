/-
  The walk of the law CrossbarSaturates.
-/
import Derived.Test.YtldgpdgoccccpaaBarSat
namespace Go.Proofs.Ytldgpdgoccccpaa
open Go.RowKit
set_option linter.unusedVariables false

def StRel (W : World) (ca n l : Nat) (i : Value) (w : World) : Prop := ∃ (k : Nat) (p : (Nat → Nat) × (Nat → Nat)), k ≤ l ∧ i = .int .i64 k ∧ Sgl W ca n p w
def StAll (W : World) (ca n : Nat) (p : (Nat → Nat) × (Nat → Nat)) (v i : Value) (w : World) : Prop := ∃ (k : Nat) (rows : List (RowOf Bool)), k ≤ n ∧ i = .int .i64 k ∧ rows.length = k ∧ AllS W ca n p v rows w
def trF (k : Nat) (j : Nat) : Bool := decide (j < k)
theorem trF_succ (k : Nat) : Bar.upd (trF k) k true = trF (k + 1) := by
  funext j
  by_cases e : j = k
  · subst e; simp [Bar.upd, trF]
  · simp only [Bar.upd, trF, if_neg e, decide_eq_decide]; omega
def StRow (W : World) (ca n : Nat) (p : (Nat → Nat) × (Nat → Nat)) (v : Value) (rows : List (RowOf Bool)) (lb : Nat) (i : Value) (w : World) : Prop := ∃ k : Nat, k ≤ n ∧ i = .int .i64 k ∧ AllS W ca n p v rows w ∧ Fun w lb 4 n (bF (trF k))
def StWarm (W : World) (ca n : Nat) (p : (Nat → Nat) × (Nat → Nat)) (v : Value) (rows : List (RowOf Bool)) (i : Value) (w : World) : Prop := ∃ t : Nat, t ≤ 4 * n ∧ i = .int .i64 t ∧ AllS W ca n (Bar.iter n p t) v rows w
/-- The pairs of the first t matchings, and of the first i inputs of the next one. -/
structure Seen (n : Nat) (q : Nat → Nat) (t i : Nat) (m : Nat → Int) (ps : List (Nat × Nat)) : Prop where
  len : ps.length = t * n + i
  nd : ps.Nodup
  b : ∀ x ∈ ps, x.1 < n ∧ x.2 < n
  old : ∀ x ∈ ps, (∃ s, s < t ∧ (q x.2 + s) % n = x.1) ∨ x.1 < i ∧ m x.1 = (x.2 : Int)
def StSeen (kl : Nat × Nat → Lit) (W : World) (ca n : Nat) (p : (Nat → Nat) × (Nat → Nat)) (v : Value) (rows : List (RowOf Bool)) (mb : Nat) (i : Value) (w : World) : Prop :=
  ∃ (t : Nat) (ps : List (Nat × Nat)), t ≤ n ∧ i = .int .i64 t ∧ AllS W ca n (Bar.iter n p t) v rows w ∧ MpAt kl w mb ps ∧ Seen n p.1 t 0 (fun _ => 0) ps
def StIn (kl : Nat × Nat → Lit) (W : World) (ca n : Nat) (p p' : (Nat → Nat) × (Nat → Nat)) (v : Value) (rows : List (RowOf Bool)) (mb bb t : Nat) (m : Nat → Int) (i : Value) (w : World) : Prop :=
  ∃ (k : Nat) (ps : List (Nat × Nat)), k ≤ n ∧ i = .int .i64 k ∧ AllS W ca n p' v rows w ∧ MpAt kl w mb ps ∧ Seen n p.1 t k m ps ∧ Fun w bb 3 n (iF m)

/-- The pair of input i in matching t is new. -/
theorem Seen.step {n : Nat} {q : Nat → Nat} {t i o : Nat} {m : Nat → Int} {ps : List (Nat × Nat)} (h : Seen n q t i m ps) (hi : i < n) (ho : o < n) (hm : m i = (o : Int)) (hq : (q o + t) % n = i) (hqn : q o < n) (ht : t < n) : Seen n q t (i + 1) m (ps ++ [(i, o)]) := by
  have hnew : (i, o) ∉ ps := by
    intro hin
    rcases h.old _ hin with ⟨s, hs, e⟩ | ⟨h1, _⟩
    · dsimp only at e
      have e1 := Bar.dist_add (n := n) (f := q o) (s := s) hqn (by omega)
      have e2 := Bar.dist_add (n := n) (f := q o) (s := t) hqn ht
      rw [e] at e1; rw [hq] at e2
      omega
    · dsimp only at h1; omega
  refine ⟨by rw [List.length_append, h.len]; simp; omega, ?_, fun x hx => ?_, fun x hx => ?_⟩
  · rw [List.nodup_append]
    exact ⟨h.nd, by simp, fun a ha b hb e => by simp at hb; subst hb; exact hnew (e ▸ ha)⟩
  · rcases List.mem_append.1 hx with h1 | h1
    · exact h.b x h1
    · simp at h1; subst h1; exact ⟨hi, ho⟩
  · rcases List.mem_append.1 hx with h1 | h1
    · rcases h.old x h1 with h2 | ⟨h2, h3⟩
      · exact .inl h2
      · exact .inr ⟨by omega, h3⟩
    · simp at h1; subst h1; exact .inr ⟨by simp, hm⟩
theorem Seen.next {n : Nat} {q : Nat → Nat} {t : Nat} {m : Nat → Int} {ps : List (Nat × Nat)} (h : Seen n q t n m ps) (hq : ∀ i o : Nat, i < n → o < n → m i = (o : Int) → (q o + t) % n = i) : Seen n q (t + 1) 0 (fun _ => 0) ps :=
  ⟨by rw [h.len, Nat.add_mul]; omega, h.nd, h.b, fun x hx => by
    rcases h.old x hx with ⟨s, hs, e⟩ | ⟨h2, h3⟩
    · exact .inl ⟨s, by omega, e⟩
    · exact .inl ⟨t, by omega, hq x.1 x.2 h2 (h.b x hx).2 h3⟩⟩
theorem Seen.zero {n : Nat} {q : Nat → Nat} {t : Nat} {m m' : Nat → Int} {ps : List (Nat × Nat)} (h : Seen n q t 0 m ps) : Seen n q t 0 m' ps :=
  ⟨h.len, h.nd, h.b, fun x hx => (h.old x hx).imp id fun ⟨h1, _⟩ => by omega⟩

set_option maxHeartbeats 16000000 in
set_option maxRecDepth 100000 in
theorem crossbarSaturates_walk (W : World) (z : Int) (wz : (Lit.int .u8 z).wf = true) (a0 : Option Addr) (c0 : Nat) (x0 : List (RowOf (RowOf Bool))) (s0 : Sl RowOf.val W a0 x0) (g0 : ∀ r ∈ x0, Sl RowOf.val W (RowOf.a r) r.xs ∧ (∀ l ∈ r.xs, Sl Value.bool W (RowOf.a l) l.xs ∧ (∀ y ∈ l.xs, True) ∧ l.xs.length ≤ maxLen) ∧ r.xs.length ≤ maxLen) (m0 : x0.length ≤ maxLen) :
    Calls Try.prog 5 #[.int .u8 z, .slice a0 x0.length c0] W fun e W' => e = .returned (.bool true) ∧ Below W.heap.size W W' := by
  obtain ⟨rqs, lns⟩ := reqs_of s0 g0
  have RQS := Lib.hid rqs; have LNS := Lib.hid lns; have M0 := Lib.hid m0
  have HAW := Lib.hid (awake_ok W)
  obtain ⟨hz0, hz255⟩ := u8_bounds wz
  obtain ⟨q, rfl⟩ := Int.eq_ofNat_of_zero_le hz0
  unfold maxLen at m0
  clear s0 g0 rqs lns wz hz0
  cases hgs : grsB x0 with
  | true =>
    have HGS := Lib.hid hgs; clear hgs
    go_enter Try.func5, Try.ntmps5
    go_wp2_with fail
    go_fit HAW.out
    rintro e w1 ⟨rfl, hb⟩
    have B1 := Lib.hid hb; clear hb
    have G := greats_any w1 a0 c0 x0 (RQS.out.below B1.out) M0.out LNS.out
    rw [HGS.out] at G
    have G1 := Lib.hid G; clear G
    go_wp2_with fail
    go_fit G1.out
    rintro e w2 ⟨rfl, rfl⟩
    go_wp2_with fail
    go_ret
    exact ⟨rfl, B1.out⟩
  | false =>
    have HGS := Lib.hid hgs
    have l20 := (grsB_false hgs).1
    clear hgs
    obtain ⟨n, hn1, hn8, en⟩ : ∃ n : Nat, 1 ≤ n ∧ n ≤ 8 ∧ Hid ((q : Int) % 8 + 1 = (n : Int)) := ⟨q % 8 + 1, by omega, by omega, by show _ = _; omega⟩
    generalize hlx : x0.length = lx at *
    have HLX := Lib.hid hlx
    clear hlx
    have RGZ : Hid (Bar.Rg n (fun _ => 0, fun _ => 0)) := ⟨fun k hk => by show 0 < _; omega, fun k hk => by show 0 < _; omega⟩
    have hmb := fun w => make_bools w n (by omega)
    have CB : Hid ((List.replicate n false).map Value.bool = (List.range n).map (bF (trF 0))) := fun_const _ _ _
    generalize hLb : (List.replicate n false).map Value.bool = LB at hmb CB
    have hmm := fun w => @run_makeMap Try.prog 43 w
    have HLb := Lib.hid hLb
    clear hLb
    go_enter Try.func5, Try.ntmps5
    go_wp2_with fail
    go_fit HAW.out
    rintro e w1 ⟨rfl, hb⟩
    have B1 := Lib.hid hb; clear hb
    have G := greats_any w1 a0 c0 x0 (RQS.out.below B1.out) (by rw [HLX.out]; exact M0.out) LNS.out
    rw [HGS.out, HLX.out] at G
    have G1 := Lib.hid G; clear G
    have NB := Lib.hid (barnew_ok n w1 hn1 hn8)
    go_wp2_with fail
    go_fit G1.out
    rintro e w2 ⟨rfl, rfl⟩
    go_wp2_with fail
    rw [en.out]
    go_fit NB.out
    rintro e w2 ⟨rfl, hA, hb, hz⟩
    have S2 : Hid (Sgl W w1.heap.size n (fun _ => 0, fun _ => 0) w2) := ⟨hA, RGZ.out, B1.out.trans (hb.mono B1.out.size)⟩
    have hWa := B1.out.size
    clear hA hb hz NB G1
    go_wp2_with fail
    generalize hca : w1.heap.size = ca at *
    clear hca
    go_loopw [41] (fun i w => StRel W ca n lx i w) (fun i _ => lx - (intOf i).toNat)
    case atStart => exact ⟨0, _, Nat.zero_le _, rfl, S2.out⟩
    case round =>
      clear S2
      obtain ⟨k, p, hk, rfl, hS⟩ := hrel
      have S := Lib.hid hS; clear hS
      by_cases hlt : k < lx
      · obtain ⟨x, ex, okx, cx⟩ := (RQS.out.below S.out.bel).hs.get (k := k) (by rw [HLX.out]; exact hlt)
        have hxm := List.mem_of_getElem? ex.out
        have RX := Lib.hid (RQS.out.rows x hxm)
        have LX := Lib.hid (LNS.out x hxm)
        have RX1 := Lib.hid (RX.out.below S.out.bel)
        obtain ⟨xa, xc, xs⟩ := x
        unfold RowOf.val at cx
        dsimp only at cx RX LX RX1
        have MA := Lib.hid (match_gen wr ca n 1 p xa xc xs S.out.a RX1.out LX.out (by decide) (by decide) hn1 hn8 S.out.rg (req_offn' RX.out hWa))
        clear hxm
        go_wp2_with fail
        go_fit MA.out
        rintro e w4 ⟨v1, v2, rfl, hA4, hU4⟩
        have la := S.out.a.lt
        have S4 : Hid (Sgl W ca n (mst xs n 1 p) w4) := ⟨hA4, mst_rg S.out.rg, Upd.below S.out.bel hU4 S.out.bel.size fun i hi => by omega⟩
        clear hA4 hU4 MA
        go_wp2_with fail
        go_roundw
        case rel => exact ⟨k + 1, _, by omega, by go_num, S4.out⟩
        case measure => simp [intOf]; omega
      · obtain rfl : lx = k := by omega
        have AL0 : Hid (AllS W ca n p (.slice none 0 0) [] wr) := ⟨S.out, ⟨rfl, .inl ⟨rfl, rfl⟩⟩, fun r hr => by simp at hr, fun g hg => by simp [Value.ownBlock] at hg⟩
        obtain ⟨i0, hi0, hz0, hz1, hz2⟩ := info_parts Try.infoRow
        have HI := Lib.hid hi0; have HZ0 := Lib.hid hz0; have HZ1 := Lib.hid hz1; have HZ2 := Lib.hid hz2
        have RGP := Lib.hid S.out.rg
        clear S hi0 hz0 hz1 hz2 hlt hk
        go_wp2_with fail
        go_loopw [10, 50] (fun v i w => StAll W ca n p v i w) (fun _ i _ => n - (intOf i).toNat)
        case atStart => exact ⟨0, [], Nat.zero_le _, rfl, rfl, AL0.out⟩
        case round =>
          clear AL0
          obtain ⟨k, rows, hk, rfl, hrl, hA⟩ := hrel
          have A := Lib.hid hA; have RL := Lib.hid hrl
          clear hA hrl
          by_cases hlt : k < n
          · have b1 : Below wr.heap.size wr (wr.alloc (.cells LB.toArray 4)) := (Below.refl _ _).alloc (Nat.le_refl _) _
            have A1 := Lib.hid (A.out.below b1)
            have F1 : Hid (Fun (wr.alloc (.cells LB.toArray 4)) wr.heap.size 4 n (bF (trF 0))) := by
              have := Blk.new wr 4 LB
              rw [CB.out] at this ⊢
              exact this
            have hlb : Hid (ca < wr.heap.size ∧ (∀ g, u10.ownBlock = some g → g < wr.heap.size) ∧ (∀ r ∈ rows, ((RowOf.a r).getD default).block < wr.heap.size) ∧ W.heap.size ≤ wr.heap.size) := by
              refine ⟨A.out.sgl.a.lt, fun g hg => (own_lt A.out.own hg).1, fun r hr => (A.out.row r hr).1.old (by rw [(A.out.row r hr).2.1]; intro e; have := congrArg List.length e; simp at this; omega), A.out.sgl.bel.size⟩
            clear b1
            clear hmb
            have hmb := fun w => make_bools w n (by omega)
            rw [HLb.out] at hmb
            go_wp2_with fail
            clear hmb
            generalize hlbb : wr.heap.size = lb at *
            clear hlbb
            go_loopw [56] (fun i w => StRow W ca n p u10 rows lb i w) (fun i _ => n - (intOf i).toNat)
            case atStart => exact ⟨0, Nat.zero_le _, rfl, A1.out, F1.out⟩
            case round =>
              clear A1 F1 A
              obtain ⟨j, hj, rfl, hA, hF⟩ := hrel
              have A := Lib.hid hA; have F := Lib.hid hF
              clear hA hF
              obtain ⟨q1, q2, q3, q4⟩ := hlb.out
              by_cases hjt : j < n
              · have fc := F.out.cell hjt
                unfold bF at fc
                have ff := F.out.free j
                have jn : (j : Int) < (n : Int) := by omega
                have F2 : Hid (Fun (wr.setCell ⟨lb, j, none⟩ (.bool true)) lb 4 n (bF (trF (j + 1)))) := by
                  show Fun _ _ _ _ _
                  rw [← trF_succ, ← bF_upd]
                  exact F.out.set hjt _
                have A2 : Hid (AllS W ca n p u10 rows (wr.setCell ⟨lb, j, none⟩ (.bool true))) :=
                  A.out.upd ((Upd.refl (fun k => k = lb) wr).setCell ⟨lb, j, none⟩ _ fun _ => rfl) (by omega) (fun g hg e => by have := q2 g hg; omega) (fun r hr e => by have := q3 r hr; omega) (fun i hi => by omega)
                have Q1 := Lib.hid q1; have Q2 := Lib.hid q2; have Q3 := Lib.hid q3
                clear q2 q3
                go_wp2_with fail
                go_roundw
                case rel => exact ⟨j + 1, by omega, by go_num, A2.out, F2.out⟩
                case measure => simp [intOf]; omega
              · obtain rfl : n = j := by omega
                have RLN : Hid (rows.length = k) := RL.out
                have hsh := own_shape A.out.own
                obtain ⟨av, cv, hv, _⟩ := hsh
                have HV := Lib.hid hv
                have O1 : wr.ownsRow W.heap.size 27 1 u10 k (rows.map RowOf.val) := by have := A.out.own; rw [RLN.out] at this; exact this
                have OO := Lib.hid O1
                have hWw := A.out.sgl.bel.size
                have NXT : Hid (∀ g cap w', w'.ownsRow W.heap.size 27 1 (.slice (some ⟨g, 0, none⟩) (k + 1) cap) (k + 1) (rows.map RowOf.val ++ [.slice (some ⟨lb, 0, none⟩) n n]) → (wr.alloc (.cells #[.slice (some ⟨lb, 0, none⟩) n n] 27)).grownBy w' u10.ownBlock → (u10.ownBlock = some g ∨ g = wr.heap.size + 1) →
                    AllS W ca n p (.slice (some ⟨g, 0, none⟩) (k + 1) cap) (rows ++ [⟨some ⟨lb, 0, none⟩, n, List.replicate n true⟩]) w') := by
                  intro g cap w' ho hgr hat
                  refine AllS.snoc A.out RLN.out hn1 ?_ (by omega) (fun g hg => by have := q2 g hg; omega) F.out.lt hgr ho hat
                  have hbl : Blk wr lb 4 ((List.replicate n true).map Value.bool) := by
                    rw [fun_const]
                    exact F.out.congr fun j hj => by simp [bF, trF, hj]
                  exact hbl.sl
                have hsz := A.out.sgl.bel.size
                clear hv O1
                go_wp2_with (at_builtin; refine wpList_append_lies _ rfl (.tmp 63) (.tmp 65) 25 rfl W.heap.size 27 i0 _ 1 24 Try.underlying25 HI.out HZ0.out HZ1.out HZ2.out rfl (by decide) u10 k (rows.map RowOf.val) rfl (OO.out.alloc _) ⟨wr.heap.size, 0, none⟩ 1 1 [.slice (some ⟨lb, 0, none⟩) n n] rfl rfl (cell_one_new _ _ _) (by intro u hu; simp at hu; subst hu; rfl) (by decide) (by unfold maxLen; omega) (by omega) (by simp; omega) (wr.heap.size + 1) (by simp) ?_)
                intro g cap w2 hown hgr hat hglt
                have AN := Lib.hid (NXT.out g cap w2 hown hgr hat)
                clear hown hgr hat
                go_wp2_with fail
                go_roundw
                case rel => exact ⟨k + 1, _, by omega, by go_num, by rw [List.length_append, RLN.out]; rfl, AN.out⟩
                case measure => simp [intOf]; omega
          · obtain rfl : n = k := by omega
            obtain ⟨av, cv, hv, _⟩ := own_shape A.out.own
            rw [RL.out] at hv
            subst hv
            obtain ⟨_, rq, al, ln, of⟩ := A.out.req RL.out hn1 hn8
            have AL := Lib.hid al; have LN := Lib.hid ln; have OF := Lib.hid of
            have RL2 := Lib.hid RL.out
            clear rq al ln of
            go_wp2_with fail
            go_loopw [70] (fun i w => StWarm W ca n p (.slice av n cv) rows i w) (fun i _ => 4 * n - (intOf i).toNat)
            case atStart => exact ⟨0, Nat.zero_le _, rfl, A.out⟩
            case round =>
              clear A hlt hk
              obtain ⟨t, ht, rfl, hA⟩ := hrel
              have A := Lib.hid hA; clear hA
              have RG := Lib.hid (Bar.iter_rg (n := n) (p := p) RGP.out t)
              have RQ := Lib.hid (A.out.req RL2.out hn1 hn8).2.1
              have lca := A.out.sgl.a.lt
              by_cases hlt : t < 4 * n
              · have FU := Lib.hid (sat_full AL.out RG.out)
                have NX : Hid (((Bar.rounds (reqF rows) n (Bar.start (Bar.iter n p t).1 (Bar.iter n p t).2) n).g, (Bar.rounds (reqF rows) n (Bar.start (Bar.iter n p t).1 (Bar.iter n p t).2) n).a) = Bar.iter n p (t + 1)) := by
                  obtain ⟨n', rfl⟩ : ∃ n', n = n' + 1 := ⟨n - 1, by omega⟩
                  exact sat_ptr AL.out RG.out n'
                have MT := match_ok wr ca n n (Bar.iter n p t).1 (Bar.iter n p t).2 av cv rows A.out.sgl.a RQ.out LN.out.1 LN.out.2 AL.out.1 hn1 hn8 hn1 hn8 RG.out.g RG.out.a OF.out
                generalize Bar.rounds (reqF rows) n (Bar.start (Bar.iter n p t).1 (Bar.iter n p t).2) n = s at *
                rw [RL2.out] at MT
                have MT1 := Lib.hid MT
                clear MT
                have t4 : (t : Int) < 4 * (n : Int) := by omega
                go_wp2_with fail
                go_fit MT1.out
                rintro e w3 ⟨rfl, hA3, hF3, hU3⟩
                have A3 : Hid (AllS W ca n (Bar.iter n p (t + 1)) (.slice av n cv) rows w3) := A.out.turn hU3 hWa (by rw [← NX.out]; exact hA3) (Bar.iter_rg RGP.out (t + 1))
                have CT := containsInt_any w3 (some ⟨wr.heap.size, 0, none⟩) n ((List.range n).map s.m) (-1) hF3.sl (by simp [maxLen]; omega)
                rw [show ((List.range n).map s.m).length = n by simp, decide_eq_false (by
                  intro hm
                  obtain ⟨i, hi, e⟩ := List.mem_map.1 hm
                  have := FU.out i (by simpa using hi)
                  omega)] at CT
                have CT1 := Lib.hid CT
                clear CT hA3 hF3 hU3 MT1
                generalize wr.heap.size = mbx at *
                go_wp2_with fail
                go_fit CT1.out
                rintro e w4 ⟨rfl, rfl⟩
                go_wp2_with fail
                go_roundw
                case rel => exact ⟨t + 1, by omega, by go_num, A3.out⟩
                case measure => simp [intOf]; omega
              · obtain rfl : t = 4 * n := by omega
                have INJ := Lib.hid (Bar.sat_inj (n := n) (p := p) RGP.out (t := 4 * n) (by omega))
                have b1 : Below wr.heap.size wr (wr.alloc (.map #[] 0)) := (Below.refl _ _).alloc (Nat.le_refl _) _
                have A1 := Lib.hid (A.out.below b1)
                have t4 : ¬ ((4 * n : Nat) : Int) < 4 * (n : Int) := by omega
                generalize hqq : Bar.iter n p (4 * n) = pq at *
                obtain ⟨klf, hkl⟩ := kl_ex
                have KL := Lib.hid hkl
                have M0' : Hid (MpAt klf (wr.alloc (.map #[] 0)) wr.heap.size []) := World.ownsMap_made _ _ _ _
                have SN : Hid (Seen n pq.1 0 0 (fun _ => 0) []) := ⟨by simp, by simp, by simp, by simp⟩
                have HMB : Hid (ca ≠ wr.heap.size ∧ (∀ g, (Value.slice av n cv).ownBlock = some g → g ≠ wr.heap.size) ∧ (∀ r ∈ rows, ((RowOf.a r).getD default).block ≠ wr.heap.size) ∧ W.heap.size ≤ wr.heap.size) := by
                  refine ⟨by omega, fun g hg e => by have := (own_lt A.out.own hg).1; omega, fun r hr e => ?_, A.out.sgl.bel.size⟩
                  have := (A.out.row r hr).1.old (by rw [(A.out.row r hr).2.1]; intro e; have := congrArg List.length e; simp at this; omega)
                  omega
                have RGQ := Lib.hid RG.out
                clear b1 hqq hkl A
                go_wp2_with fail
                generalize wr.heap.size = mb at *
                go_loopw [88] (fun i w => StSeen klf W ca n pq (.slice av n cv) rows mb i w) (fun i _ => n - (intOf i).toNat)
                case atStart => exact ⟨0, [], Nat.zero_le _, rfl, A1.out, M0'.out, SN.out⟩
                case round =>
                  clear A1 M0' SN hlt ht t4 lca RG RQ
                  obtain ⟨t, ps, ht, rfl, hA, hM, hS⟩ := hrel
                  have A := Lib.hid hA; have M := Lib.hid hM; have SE := Lib.hid hS
                  clear hA hM hS
                  have RG := Lib.hid (Bar.iter_rg (n := n) (p := pq) RGQ.out t)
                  have RQ := Lib.hid (A.out.req RL2.out hn1 hn8).2.1
                  have lca := A.out.sgl.a.lt
                  have lmb := M.out.lt
                  by_cases hlt : t < n
                  · have PAIR := Lib.hid (sat_pairs RGQ.out INJ.out t)
                    have S1 := sat_one AL.out RG.out
                    have NX : Hid (((Bar.rounds (reqF rows) n (Bar.start (Bar.iter n pq t).1 (Bar.iter n pq t).2) 1).g, (Bar.rounds (reqF rows) n (Bar.start (Bar.iter n pq t).1 (Bar.iter n pq t).2) 1).a) = Bar.iter n pq (t + 1)) := sat_ptr AL.out RG.out 0
                    have MT := match_ok wr ca n 1 (Bar.iter n pq t).1 (Bar.iter n pq t).2 av cv rows A.out.sgl.a RQ.out LN.out.1 LN.out.2 AL.out.1 (by decide) (by decide) hn1 hn8 RG.out.g RG.out.a OF.out
                    rw [← S1] at PAIR
                    clear S1
                    generalize Bar.rounds (reqF rows) n (Bar.start (Bar.iter n pq t).1 (Bar.iter n pq t).2) 1 = s at *
                    rw [RL2.out] at MT
                    have MT1 := Lib.hid MT
                    clear MT
                    go_wp2_with fail
                    go_fit MT1.out
                    rintro e w3 ⟨rfl, hA3, hF3, hU3⟩
                    have A3 : Hid (AllS W ca n (Bar.iter n pq (t + 1)) (.slice av n cv) rows w3) := A.out.turn hU3 hWa (by rw [← NX.out]; exact hA3) (Bar.iter_rg RGQ.out (t + 1))
                    have M3 : Hid (MpAt klf w3 mb ps) := M.out.upd hU3 (fun e => HMB.out.1 e.symm)
                    have F3 := Lib.hid hF3
                    have S3 : Hid (Seen n pq.1 t 0 s.m ps) := SE.out.zero
                    clear hA3 hF3 hU3 MT1 A M SE
                    have lbb : mb < wr.heap.size := lmb
                    generalize wr.heap.size = bb at *
                    go_wp2_with fail
                    go_loopw [100] (fun i w => StIn klf W ca n pq (Bar.iter n pq (t + 1)) (.slice av n cv) rows mb bb t s.m i w) (fun i _ => n - (intOf i).toNat)
                    case atStart => exact ⟨0, ps, Nat.zero_le _, rfl, A3.out, M3.out, S3.out, F3.out⟩
                    case round =>
                      clear A3 M3 S3 F3
                      obtain ⟨i, ps, hi, rfl, hA, hM, hS, hF⟩ := hrel
                      have A := Lib.hid hA; have M := Lib.hid hM; have SE := Lib.hid hS; have F := Lib.hid hF
                      clear hA hM hS hF
                      by_cases hit : i < n
                      · obtain ⟨o, ho, em, eq, hqn⟩ := PAIR.out i hit
                        have fc := F.out.cell hit
                        unfold iF at fc
                        rw [em] at fc
                        have S2 := Lib.hid (SE.out.step hit ho em eq hqn hlt)
                        have hlen := SE.out.len
                        have hpl : ps.length < 1000 := by
                          rw [hlen]
                          have : t * n ≤ 8 * 8 := Nat.mul_le_mul (by omega) hn8
                          omega
                        have oge : (0 : Int) ≤ (o : Int) := by omega
                        clear em eq hqn hlen
                        go_wp2_with (refine wpList_mapUpdate_own _ rfl (.tmp 107) (.tmp 110) (.const (.bool true)) 43 rfl 44 4 Try.lawPair Try.underlying43 (plainElem Try.prog 4) mb ps.length (Maps.setOf (DataW.lit (H := Unit) (.bool true)) (ps.map klf)) rfl M.out (by unfold maxLen; omega) (.agg #[.int .i64 (i : Int), .int .i64 (o : Int)]) (.bool true) (klf (i, o)) rfl rfl (KL.out i o (by omega) (by omega)) (.lit (.bool true)) [] (plainElem_bool Try.underlying4 true) ?_)
                        intro w5 hM5 hgr
                        have U5 : Upd (fun j => j = mb) wr w5 := ⟨hgr.os, hgr.tape, hgr.output, hgr.size, fun j hj hs => hgr.block j hj fun e => hs (Option.some.inj e)⟩
                        obtain ⟨m1, m2, m3, m4⟩ := HMB.out
                        have A5 : Hid (AllS W ca n (Bar.iter n pq (t + 1)) (.slice av n cv) rows w5) := A.out.upd U5 m1 m2 m3 (fun i hi => by omega)
                        have M5 : Hid (MpAt klf w5 mb (ps ++ [(i, o)])) := by
                          unfold MpAt
                          show Hid _
                          rw [List.map_append, List.length_append]
                          have := hM5
                          rw [← Maps.setOf_snoc] at this
                          exact this
                        have F5 : Hid (Fun w5 bb 3 n (iF s.m)) := F.out.upd U5 (by omega)
                        clear hM5 hgr U5 m1 m2 m3 m4 fc
                        go_wp2_with fail
                        go_roundw
                        case rel => exact ⟨i + 1, _, by omega, by go_num, A5.out, M5.out, S2.out, F5.out⟩
                        case measure => simp [intOf]; omega
                      · obtain rfl : n = i := by omega
                        have SN : Hid (Seen n pq.1 (t + 1) 0 (fun _ => 0) ps) := SE.out.next fun i o hi ho em => by
                          obtain ⟨o', _, e1, e2, _⟩ := PAIR.out i hi
                          have : o = o' := by omega
                          subst this
                          exact e2
                        go_wp2_with fail
                        go_roundw
                        case rel => exact ⟨t + 1, ps, by omega, by go_num, A.out, M.out, SN.out⟩
                        case measure => simp [intOf]; omega
                  · obtain rfl : n = t := by omega
                    have SZ : Hid (Maps.size (Maps.setOf (DataW.lit (H := Unit) (.bool true)) (ps.map klf)) = n * n) := by
                      show _ = _
                      rw [set_size KL.out _ ps (fun q hq => by have := SE.out.b q hq; omega) SE.out.nd, SE.out.len, Nat.add_zero]
                    have hbd : n * n ≤ 64 := Nat.mul_le_mul hn8 hn8
                    go_wp2_with (at_len; refine wpList_len_own _ rfl (.tmp 113) 43 rfl 44 4 Try.underlying43 (plainElem Try.prog 4) mb ps.length _ rfl M.out ?_)
                    rw [SZ.out]
                    go_wp2_with fail
                    go_ret
                    exact ⟨ret_bool (by simp), A.out.sgl.bel⟩
end Go.Proofs.Ytldgpdgoccccpaa
