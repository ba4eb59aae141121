/-
  The walk of the law BranchRefuses.
-/
import Derived.Test.YteomiofmaopkhaaRan
namespace Go.Proofs.Yteomiofmaopkhaa
open Go.RowKit
set_option linter.unusedVariables false

/-- What Put does behind a run. -/
theorem put_wrong {w0 wc w : World} {o n : Nat} {room : Int} {st : RunSt} {b ml : Nat} {ap : Option Addr} {cp : Nat} (h : Ran w0 o room st b ml ap cp wc) (hw : Below wc.heap.size wc w) (hi : RunInv o room n st) (h64 : room ≤ 64) (ho : o ≤ 8) (nid : Int) (a : Option Addr) (c : Nat) (bad : List Int) (hs : SlI w a bad) (hl : bad.length ≤ 1000)
    (hb : bad.length = 0 ∨ putMask o bad 0 = none) : Calls Try.prog 18 #[.pointer (some ⟨b, 0, none⟩), .int .i64 nid, .slice a bad.length c] w fun e w' => e = .returned (.int .i64 1) ∧ Below w.heap.size w w' := by
  obtain ⟨v, hF⟩ := (h.below hw).fork
  have hfr := hi.fr
  by_cases h0 : bad.length = 0
  · rw [h0]
    exact put_empty w _ b o room v st.fs st.freed nid hF a c
  · have hb' : putMask o bad 0 = none := by rcases hb with h | h; exact absurd h h0; exact h
    refine (put_any w _ b o room v st.fs st.freed nid hF a c bad hs (by omega) hl (by omega) (by omega) h64 (by have := (h.below hw).bel.size; omega)).mono ?_
    rintro e w' (⟨_, he, hq⟩ | ⟨m, hm, _⟩)
    · exact ⟨he, hq⟩
    · rw [hb'] at hm; simp at hm
theorem put_twice {w0 wc w : World} {o n : Nat} {room : Int} {st : RunSt} {b ml : Nat} {ap : Option Addr} {cp : Nat} (h : Ran w0 o room st b ml ap cp wc) (hw : Below wc.heap.size wc w) (hi : RunInv o room n st) (h64 : room ≤ 64) (ho : o ≤ 8) (nid : Int) (a : Option Addr) (c : Nat) (bad : List Int) (hs : SlI w a bad) (hl : bad.length ≤ 1000)
    (h1 : 1 ≤ bad.length) {m : Nat} (hb : putMask o bad 0 = some m) (ht : nid ∈ hIds st.fs) : Calls Try.prog 18 #[.pointer (some ⟨b, 0, none⟩), .int .i64 nid, .slice a bad.length c] w fun e w' => e = .returned (.int .i64 8) ∧ Below w.heap.size w w' := by
  obtain ⟨v, hF⟩ := (h.below hw).fork
  have hfr := hi.fr
  have hany : st.fs.any (fun y => y.id == nid) = true := by
    rw [List.any_eq_true]
    obtain ⟨x, hx, e⟩ := List.mem_map.1 ht
    exact ⟨x, hx, by simp [e]⟩
  refine (put_any w _ b o room v st.fs st.freed nid hF a c bad hs h1 hl (by omega) (by omega) h64 (by have := (h.below hw).bel.size; omega)).mono ?_
  rintro e w' (⟨h2, _⟩ | ⟨m', h2, ⟨_, he, hq⟩ | ⟨h3, _⟩ | ⟨h3, _⟩⟩)
  · rw [hb] at h2; simp at h2
  · exact ⟨he, hq⟩
  · rw [hany] at h3; simp at h3
  · rw [hany] at h3; simp at h3
theorem put_any_false {nid : Int} {fs : List Fr} (ht : ¬ nid ∈ hIds fs) : fs.any (fun y => y.id == nid) = false := by
  rw [List.any_eq_false]
  intro x hx e
  exact ht (List.mem_map.2 ⟨x, hx, by simpa using e⟩)
theorem put_full {w0 wc w : World} {o n : Nat} {room : Int} {st : RunSt} {b ml : Nat} {ap : Option Addr} {cp : Nat} (h : Ran w0 o room st b ml ap cp wc) (hw : Below wc.heap.size wc w) (hi : RunInv o room n st) (h64 : room ≤ 64) (ho : o ≤ 8) (nid : Int) (a : Option Addr) (c : Nat) (bad : List Int) (hs : SlI w a bad) (hl : bad.length ≤ 1000)
    (h1 : 1 ≤ bad.length) {m : Nat} (hb : putMask o bad 0 = some m) (ht : ¬ nid ∈ hIds st.fs) (hf : (st.fs.length : Int) = room) : Calls Try.prog 18 #[.pointer (some ⟨b, 0, none⟩), .int .i64 nid, .slice a bad.length c] w fun e w' => e = .returned (.int .i64 5) ∧ Below w.heap.size w w' := by
  obtain ⟨v, hF⟩ := (h.below hw).fork
  have hfr := hi.fr
  have hany := put_any_false ht
  refine (put_any w _ b o room v st.fs st.freed nid hF a c bad hs h1 hl (by omega) (by omega) h64 (by have := (h.below hw).bel.size; omega)).mono ?_
  rintro e w' (⟨h2, _⟩ | ⟨m', h2, ⟨h3, _⟩ | ⟨_, _, he, hq⟩ | ⟨_, h3, _⟩⟩)
  · rw [hb] at h2; simp at h2
  · rw [hany] at h3; simp at h3
  · exact ⟨he, hq⟩
  · omega
def PutOk (w0 wc w : World) (b o : Nat) (room : Int) (fs : List Fr) (freed : Int) (e : Ending) (w' : World) : Prop := e = .returned (.int .i64 0) ∧ ∃ v', FkAt w' w0.heap.size b o room v' fs freed ∧ Upd (fun j => w0.heap.size ≤ j ∧ j < wc.heap.size) w w'
theorem put_ok {w0 wc w : World} {o n : Nat} {room : Int} {st : RunSt} {b ml : Nat} {ap : Option Addr} {cp : Nat} (h : Ran w0 o room st b ml ap cp wc) (hw : Below wc.heap.size wc w) (hi : RunInv o room n st) (h64 : room ≤ 64) (ho : o ≤ 8) (nid : Int) (a : Option Addr) (c : Nat) (bad : List Int) (hs : SlI w a bad) (hl : bad.length ≤ 1000)
    (h1 : 1 ≤ bad.length) {m : Nat} (hb : putMask o bad 0 = some m) (ht : ¬ nid ∈ hIds st.fs) (hf : (st.fs.length : Int) < room) : Calls Try.prog 18 #[.pointer (some ⟨b, 0, none⟩), .int .i64 nid, .slice a bad.length c] w (PutOk w0 wc w b o room (st.fs ++ [⟨nid, m⟩]) st.freed) := by
  obtain ⟨v, hF0⟩ := h.fork
  have hF := hF0.below hw
  have hfr := hi.fr
  have hany := put_any_false ht
  refine (put_any w _ b o room v st.fs st.freed nid hF a c bad hs h1 hl (by omega) (by omega) h64 (by have := (h.below hw).bel.size; omega)).mono ?_
  rintro e w' (⟨h2, _⟩ | ⟨m', h2, ⟨h3, _⟩ | ⟨_, h3, _⟩ | ⟨_, _, he, v', hF', hU, hv⟩⟩)
  · rw [hb] at h2; simp at h2
  · rw [hany] at h3; simp at h3
  · omega
  · rw [hb] at h2
    obtain rfl := Option.some.inj h2
    exact ⟨he, v', hF', hU.mono fun k _ hk => ⟨(hF0.f_lt hk).2, (hF0.f_lt hk).1⟩⟩
/-- What the loop of the law finds in the first i numbers. -/
def wrB (o : Int) (bad : List Int) (i : Nat) : Bool := decide (bad.length = 0) || wrongL o [] (bad.take i)
theorem wrongL_app (o : Int) : ∀ (l seen : List Int) (z : Int), wrongL o seen (l ++ [z]) = (wrongL o seen l || decide (z < 0) || decide (o ≤ z) || decide (z ∈ seen ++ l))
  | [], seen, z => by simp [wrongL]
  | a :: l, seen, z => by
    have := wrongL_app o l (seen ++ [a]) z
    rw [List.cons_append]
    unfold wrongL
    rw [this]
    simp only [List.append_assoc, List.singleton_append]
    cases wrongL o (seen ++ [a]) l <;> simp [Bool.or_assoc]
theorem wrB_step {o : Int} {bad : List Int} {i : Nat} {z : Int} (h : bad[i]? = some z) : wrB o bad (i + 1) = (wrB o bad i || decide (z < 0) || decide (o ≤ z) || decide (z ∈ bad.take i)) := by
  unfold wrB
  rw [List.take_add_one, h]
  show (_ || wrongL o [] (bad.take i ++ [z])) = _
  rw [wrongL_app, List.nil_append]
  simp only [Bool.or_assoc]
theorem wrB_all {o : Nat} {bad : List Int} : wrB o bad bad.length = true ↔ bad.length = 0 ∨ putMask o bad 0 = none := by
  unfold wrB
  rw [List.take_length, ← putMask_wrong bad [] 0 (fun j => by unfold hasB; simp)]
  simp
theorem contains_take (w : World) (a : Option Addr) (c : Nat) (xs : List Int) (x : Int) (hx : SlI w a xs) (hl : xs.length ≤ 1000) (k : Nat) (hk : k ≤ xs.length) :
    Calls Try.prog 28 #[.slice a k c, .int .i64 x] w fun e w' => e = .returned (.bool (decide (x ∈ xs.take k))) ∧ w' = w := by
  have := containsInt_any w a c (xs.take k) x (fun j y hj => hx j y (by rw [List.getElem?_take] at hj; split at hj; exact hj; simp at hj)) (by rw [List.length_take]; unfold maxLen; omega)
  rw [List.length_take, Nat.min_eq_left hk] at this
  exact this
def BfRel (o : Int) (bad : List Int) (wv i : Value) : Prop := ∃ k : Nat, k ≤ bad.length ∧ i = .int .i64 k ∧ wv = .bool (wrB o bad k)
set_option maxHeartbeats 8000000 in
set_option maxRecDepth 100000 in
theorem branchRefuses_walk (W : World) (n : Int) (w0 : (Lit.int .i64 n).wf = true) (room : Int) (w1 : (Lit.int .i64 room).wf = true) (a2 : Option Addr) (c2 : Nat) (xs : List OpR) (s2 : SlOp W a2 xs) (g2 : ∀ x ∈ xs, OpOk W x) (m2 : xs.length ≤ maxLen) (nid : Int) (w3 : (Lit.int .i64 nid).wf = true) (a4 : Option Addr) (c4 : Nat) (bad : List Int) (s4 : SlI W a4 bad) (g4 : ∀ y ∈ bad, IntOk .i64 y) (m4 : bad.length ≤ c4 ∧ c4 ≤ maxLen) :
    Calls Try.prog 7 #[.int .i64 n, .int .i64 room, .slice a2 xs.length c2, .int .i64 nid, .slice a4 bad.length c4] W fun e W' => e = .returned (.bool true) ∧ Below W.heap.size W W' := by
  have HAW := Lib.hid (awake_ok W)
  obtain ⟨i0, hi, hz0, hz1, hz2⟩ := info_parts Try.infoBI
  have HI := Lib.hid hi; have HZ0 := Lib.hid hz0; have HZ1 := Lib.hid hz1; have HZ2 := Lib.hid hz2
  clear hi hz0 hz1 hz2
  have S := Lib.hid s2; have G := Lib.hid g2; have M := Lib.hid m2
  have SB := Lib.hid s4
  have mb1 := m4.1
  have mb2 := m4.2
  unfold maxLen at mb2
  clear s2 g2 w0 w1 m2 s4 g4 m4
  go_enter Try.func7, Try.ntmps7
  go_wp2_with fail
  refine HAW.out.mono ?_
  rintro e wa ⟨rfl, hb⟩
  have BA := Lib.hid hb; clear hb
  have S1 := Lib.hid (S.out.below BA.out)
  have G1 : Hid (∀ x ∈ xs, OpOk wa x) := fun x hx => (G.out x hx).below BA.out
  have F := Lib.hid (fits_any wa n room a2 c2 xs S1.out G1.out M.out)
  go_wp2_with fail
  refine F.out.mono ?_
  rintro e wb ⟨rfl, hb⟩
  have BB := Lib.hid (BA.out.trans (hb.mono BA.out.size))
  have S2 := Lib.hid (S1.out.below hb)
  have G2 : Hid (∀ x ∈ xs, OpOk wb x) := fun x hx => (G1.out x hx).below hb
  clear hb
  cases hf : fitsB n room xs with
  | false =>
    clear hf
    go_wp2_with fail
    go_ret
    exact ⟨rfl, BB.out⟩
  | true =>
    obtain ⟨h1, h2, h3, h4, h5, h6⟩ := fits_hb hf
    clear hf
    obtain ⟨o, rfl⟩ : ∃ o : Nat, n = o := ⟨n.toNat, by omega⟩
    by_cases hbig : (12 : Int) < (bad.length : Int)
    · clear h6
      go_wp2_with fail
      go_ret
      exact ⟨rfl, BB.out⟩
    have R := Lib.hid (run_any wb o room a2 c2 xs S2.out G2.out (by omega) (by omega) h3 h4 h5 h6)
    have HOLD := Lib.hid (runAll_held (o := o) (room := room) (by omega) (by omega) xs)
    have ORD := Lib.hid (runAll_order (o := o) (room := room) (by omega) (by omega) xs)
    clear h6
    go_wp2_with fail
    refine R.out.mono ?_
    rintro e wc ⟨b, ml, pv, rfl, hat, hinv⟩
    generalize runAll o room xs = st at *
    obtain ⟨ap, cp, rfl, hran⟩ := Ran.of hat
    have INV := Lib.hid hinv; have RAN := Lib.hid hran
    have hpl := hinv.pk; have hfl := hinv.fr; have hf0 := hinv.f0
    clear hat hinv hran
    go_wp2_with fail
    have H1 := Lib.hid (held_ran RAN.out INV.out h4)
    refine H1.out.mono ?_
    rintro e x1 ⟨v1, rfl, hr1, hb1⟩
    obtain ⟨ah, ch, rfl, hrest⟩ := hr1
    have S1 : Hid (SlI x1 ah (hIds st.fs)) := Rw.sl (⟨ah, ch, rfl, hrest⟩ : Rw (Value.int .i64) 3 x1 wc.heap.size _ _)
    have HBS : Hid (hIds st.fs ≠ [] → wc.heap.size ≤ (ah.getD default).block) := fun hx => Rw.base (⟨ah, ch, rfl, hrest⟩ : Rw (Value.int .i64) 3 x1 wc.heap.size _ _) hx
    have B1 := Lib.hid hb1
    have SB1 : Hid (SlI x1 a4 bad) := (SB.out.below BB.out).below (((RAN.out.bel).trans (hb1.mono RAN.out.bel.size)))
    clear hrest hb1 H1
    have h0 : Hid (((bad.length : Int) == 0) = wrB o bad 0) := by
      show _ = _
      unfold wrB
      rw [Bool.eq_iff_iff]
      simp [wrongL]
    go_wp2_with fail
    rw [h0.out]
    go_loop [16, 51] (fun wv i => BfRel o bad wv i) (fun _ i => bad.length - (intOf i).toNat)
    case atStart => exact ⟨0, Nat.zero_le _, rfl, rfl⟩
    case round =>
      obtain ⟨k, hk, rfl, rfl⟩ := hrel
      by_cases hlt : k < bad.length
      · obtain ⟨z, ez, okz, cz⟩ := SB1.out.get (k := k) hlt
        have hst := Lib.hid (wrB_step (o := o) ez.out)
        cases hw : wrB o bad k with
        | true =>
          rw [hw] at hst
          clear hw
          go_wp2_with fail
          go_round
          case rel => exact ⟨k + 1, by omega, by go_num, by rw [hst.out]; rfl⟩
          case measure => simp [intOf]; omega
        | false =>
          rw [hw] at hst
          clear hw
          by_cases hz0 : z < 0
          · have e : Hid (wrB o bad (k + 1) = true) := by show _ = _; rw [hst.out]; simp [hz0]
            go_wp2_with fail
            go_round
            case rel => exact ⟨k + 1, by omega, by go_num, by rw [e.out]⟩
            case measure => simp [intOf]; omega
          · by_cases hz1 : (o : Int) ≤ z
            · have e : Hid (wrB o bad (k + 1) = true) := by show _ = _; rw [hst.out]; simp [hz1]
              go_wp2_with fail
              go_round
              case rel => exact ⟨k + 1, by omega, by go_num, by rw [e.out]⟩
              case measure => simp [intOf]; omega
            · have e : Hid (wrB o bad (k + 1) = decide (z ∈ bad.take k)) := by show _ = _; rw [hst.out]; simp [hz0, hz1]
              have C := Lib.hid (contains_take x1 a4 c4 bad z SB1.out (by omega) k (by omega))
              go_wp2_with fail
              refine C.out.mono ?_
              rintro e w1 ⟨rfl, rfl⟩
              rw [← e.out]
              go_wp2_with fail
              go_round
              case rel => exact ⟨k + 1, by omega, by go_num, rfl⟩
              case measure => simp [intOf]; omega
      · obtain rfl : k = bad.length := by omega
        have hhl : (hIds st.fs).length = st.fs.length := by simp [hIds]
        have HHL := Lib.hid hhl
        cases hw : wrB o bad bad.length with
        | true =>
          have PW := Lib.hid (put_wrong RAN.out B1.out INV.out h4 (by omega) nid a4 c4 bad SB1.out (by omega) (wrB_all.1 hw))
          clear hw hhl
          go_wp2_with fail
          refine PW.out.mono ?_
          rintro e w2 ⟨rfl, hb⟩
          have B2 := Lib.hid (B1.out.trans (hb.mono B1.out.size))
          have SH := Lib.hid (S1.out.below hb)
          clear hb PW
          have H2 := Lib.hid (held_ran (RAN.out.below B2.out) INV.out h4)
          go_wp2_with fail
          refine H2.out.mono ?_
          rintro e w3 ⟨v3, rfl, hr3, hb3⟩
          obtain ⟨a3, c3, rfl, hrest⟩ := hr3
          have B3 := Lib.hid (B2.out.trans (hb3.mono B2.out.size))
          have E := Lib.hid (equalInt_same w3 a3 ah c3 ch (hIds st.fs) (Rw.sl (⟨a3, c3, rfl, hrest⟩ : Rw (Value.int .i64) 3 w3 w2.heap.size _ _)) (SH.out.below hb3) (by rw [HHL.out]; unfold maxLen; omega))
          clear hrest hb3
          go_wp2_with fail
          refine E.out.mono ?_
          rintro e w4 ⟨rfl, q⟩
          have B4 := Lib.hid (B3.out.trans (q.below _))
          clear q
          go_wp2_with fail
          go_ret
          exact ⟨rfl, BB.out.trans ((RAN.out.below B4.out).bel.mono BB.out.size)⟩
        | false =>
          have hn0 : ¬ (bad.length = 0 ∨ putMask o bad 0 = none) := fun h => by rw [wrB_all.2 h] at hw; simp at hw
          have hn1 : 1 ≤ bad.length := by omega
          obtain ⟨m, hm⟩ : ∃ m, putMask (o : Int) bad 0 = some m := by
            cases e : putMask (o : Int) bad 0 with
            | none => exact absurd (.inr e) hn0
            | some m => exact ⟨m, rfl⟩
          have C := Lib.hid (containsInt_any x1 ah ch (hIds st.fs) nid S1.out (by unfold maxLen; omega))
          clear hw hn0 hhl
          have HMM := Lib.hid hm; clear hm
          go_wp2_with fail
          refine C.out.mono ?_
          rintro e w1 ⟨rfl, rfl⟩
          clear C
          by_cases ht : nid ∈ hIds st.fs
          · have PW := Lib.hid (put_twice RAN.out B1.out INV.out h4 (by omega) nid a4 c4 bad SB1.out (by omega) hn1 HMM.out ht)
            have hd : decide (nid ∈ hIds st.fs) = true := by simpa using ht
            rw [hd]
            clear hd ht
            go_wp2_with fail
            refine PW.out.mono ?_
            rintro e w2 ⟨rfl, hb⟩
            have B2 := Lib.hid (B1.out.trans (hb.mono B1.out.size))
            have SH := Lib.hid (S1.out.below hb)
            clear hb PW
            have H2 := Lib.hid (held_ran (RAN.out.below B2.out) INV.out h4)
            go_wp2_with fail
            refine H2.out.mono ?_
            rintro e w3 ⟨v3, rfl, hr3, hb3⟩
            obtain ⟨a3, c3, rfl, hrest⟩ := hr3
            have B3 := Lib.hid (B2.out.trans (hb3.mono B2.out.size))
            have E := Lib.hid (equalInt_same w3 a3 ah c3 ch (hIds st.fs) (Rw.sl (⟨a3, c3, rfl, hrest⟩ : Rw (Value.int .i64) 3 w3 w2.heap.size _ _)) (SH.out.below hb3) (by rw [HHL.out]; unfold maxLen; omega))
            clear hrest hb3
            go_wp2_with fail
            refine E.out.mono ?_
            rintro e w4 ⟨rfl, q⟩
            have B4 := Lib.hid (B3.out.trans (q.below _))
            clear q
            go_wp2_with fail
            go_ret
            exact ⟨rfl, BB.out.trans ((RAN.out.below B4.out).bel.mono BB.out.size)⟩
          · have hd : decide (nid ∈ hIds st.fs) = false := by simpa using ht
            rw [hd]
            by_cases hfull : (st.fs.length : Int) = room
            · have PW := Lib.hid (put_full RAN.out B1.out INV.out h4 (by omega) nid a4 c4 bad SB1.out (by omega) hn1 HMM.out ht hfull)
              have hle : (((hIds st.fs).length : Int) == room) = true := by rw [beq_iff_eq, HHL.out]; exact hfull
              clear hd ht hfull
              go_wp2_with fail
              refine PW.out.mono ?_
              rintro e w2 ⟨rfl, hb⟩
              have B2 := Lib.hid (B1.out.trans (hb.mono B1.out.size))
              have SH := Lib.hid (S1.out.below hb)
              clear hb PW hle
              have H2 := Lib.hid (held_ran (RAN.out.below B2.out) INV.out h4)
              go_wp2_with fail
              refine H2.out.mono ?_
              rintro e w3 ⟨v3, rfl, hr3, hb3⟩
              obtain ⟨a3, c3, rfl, hrest⟩ := hr3
              have B3 := Lib.hid (B2.out.trans (hb3.mono B2.out.size))
              have E := Lib.hid (equalInt_same w3 a3 ah c3 ch (hIds st.fs) (Rw.sl (⟨a3, c3, rfl, hrest⟩ : Rw (Value.int .i64) 3 w3 w2.heap.size _ _)) (SH.out.below hb3) (by rw [HHL.out]; unfold maxLen; omega))
              clear hrest hb3
              go_wp2_with fail
              refine E.out.mono ?_
              rintro e w4 ⟨rfl, q⟩
              have B4 := Lib.hid (B3.out.trans (q.below _))
              clear q
              go_wp2_with fail
              go_ret
              exact ⟨rfl, BB.out.trans ((RAN.out.below B4.out).bel.mono BB.out.size)⟩
            · have PW := Lib.hid (put_ok RAN.out B1.out INV.out h4 (by omega) nid a4 c4 bad SB1.out (by omega) hn1 HMM.out ht (by omega))
              have hle : (((hIds st.fs).length : Int) == room) = false := by rw [beq_eq_false_iff_ne, HHL.out]; exact hfull
              clear hd ht hfull
              go_wp2_with fail
              refine PW.out.mono ?_
              rintro e w2 ⟨rfl, v', hF, hU⟩
              have hsz1 := B1.out.size
              have hsz0 := RAN.out.bel.size
              have FK := Lib.hid hF
              have SH : Hid (SlI w2 ah (hIds st.fs)) := S1.out.upd hU (fun hne hin => by
                have h2 := HBS.out hne
                have h3 := hin.2
                omega)
              have B2 : Hid (Below wb.heap.size wb w2) := Upd.below (RAN.out.below B1.out).bel hU (RAN.out.below B1.out).bel.size (fun i hi => hi.1)
              clear hF hU PW hle
              have hbs2 := B2.out.size
              obtain ⟨L, hL⟩ : ∃ L, L = hIds st.fs ++ [nid] := ⟨_, rfl⟩
              have HL := Lib.hid hL; clear hL
              have HID : Hid (hIds (st.fs ++ [⟨nid, m⟩]) = L) := by show _ = _; rw [HL.out]; unfold hIds; rw [List.map_append]; rfl
              have H2 := Lib.hid (held_any w2 _ b o room v' _ st.freed FK.out (by rw [List.length_append]; simp; omega))
              rw [HID.out] at H2
              go_wp2_with fail
              refine H2.out.mono ?_
              rintro e w3 ⟨v3, rfl, hr3, hb3⟩
              have O3 := Lib.hid hr3
              have B3 := Lib.hid (B2.out.trans (hb3.mono hbs2))
              have CL := Lib.hid (cloneInt_any w3 ah ch (hIds st.fs) (SH.out.below hb3) (by rw [HHL.out]; omega))
              have hsz3 := hb3.size
              clear hb3 hr3 H2
              go_wp2_with fail
              refine CL.out.mono ?_
              rintro e w4 ⟨v4, rfl, hr4, hb4⟩
              have O4 := Lib.hid hr4.own
              have hsz4 := hb4.size
              obtain ⟨a3, c3, rfl, hrest⟩ := O3.out
              obtain ⟨a4', c4', rfl, _⟩ := hr4
              have S4 : Hid (SlI w3 a3 L) := (Rw.sl (⟨a3, c3, rfl, hrest⟩ : Rw (Value.int .i64) 3 w3 w2.heap.size _ _))
              have B4 := Lib.hid (B3.out.trans (hb4.mono B3.out.size))
              have B43 := Lib.hid hb4
              clear hb4 hrest O3 CL
              have hhl2 : (hIds st.fs).length ≤ 1000 := by rw [HHL.out]; omega
              go_wp2_with (at_builtin; refine wpList_append_own _ rfl _ _ 26 rfl w3.heap.size 3 i0 _ 1 8 Try.underlying26 HI.out HZ0.out HZ1.out HZ2.out rfl (by decide) _ (hIds st.fs).length ((hIds st.fs).map (Value.int .i64)) rfl ?c0 ⟨w4.heap.size, 0, none⟩ 1 1 [.int .i64 nid] rfl ?c1 ?c2 ?c3 ?c4 ?c5 ?c6 ?_)
              case c0 => exact O4.out.alloc _
              case c1 => rfl
              case c2 => exact news_new (vs := [.int .i64 nid]) rfl
              case c3 => intro u hu; simp at hu; subst hu; rfl
              case c4 => unfold maxLen; omega
              case c5 => omega
              case c6 => simp; omega
              intro v5 w5 hown5 hgr hnil
              have q5 : Below w3.heap.size w3 w5 := ((B43.out.alloc hsz4 _).grown ⟨hgr.os, hgr.tape, hgr.output, hgr.size, hgr.block⟩ (by simp; omega) (fun j hj => (own_lt O4.out hj).2))
              have B5 : Hid (Below wb.heap.size wb w5) := B3.out.trans (q5.mono B3.out.size)
              have hla : (hIds st.fs).length + 1 = L.length := by rw [HL.out]; simp
              rw [hla, show (hIds st.fs).map (Value.int .i64) ++ [Value.int .i64 nid] = L.map (Value.int .i64) by rw [HL.out]; simp] at hown5
              obtain ⟨a5, c5, rfl, _⟩ := own_shape hown5
              have E := Lib.hid (equalInt_same w5 a3 a5 c3 c5 L (S4.out.below q5) (own_sl hown5) (by unfold maxLen; omega))
              clear hown5 hgr hnil q5 hla
              go_wp2_with fail
              refine E.out.mono ?_
              rintro e w6 ⟨rfl, q⟩
              have B6 := Lib.hid (B5.out.trans (q.below _))
              clear q
              go_wp2_with fail
              go_ret
              exact ⟨rfl, BB.out.trans (B6.out.mono BB.out.size)⟩
end Go.Proofs.Yteomiofmaopkhaa
