/-
  MessageArrives: the walk.
-/
import Derived.Test.YtjljjohoipnhhaaOpenN
import Derived.Test.YtjljjohoipnhhaaArrM
namespace Go.Proofs.Ytjljjohoipnhhaa
open Go.RowKit
set_option linter.unusedVariables false

theorem ar_i64 {n : Int} (h : (Lit.int .i64 n).wf = true) : -9223372036854775808 ≤ n ∧ n ≤ 9223372036854775807 := by simpa [Lit.wf, IntKind.min, IntKind.max, IntKind.signed, IntKind.bits] using h
theorem ar_clen (ms : List Msg) (n : Int) : (cancelM ms n).length = ms.length := by unfold cancelM; split <;> simp [dropM_len]
theorem ar_nlen (ms : List Msg) (t m : Int) : (nextM ms t m).length = ms.length := by unfold nextM finOf; rw [sendL_len, dropM_len]
/-- The data of the messages stay. -/
theorem dropM_data (p : Int → Nat → Bool) (k : Nat) : ∀ (i : Nat) (l : List Msg), (dropM p k i l).map Msg.data = l.map Msg.data
  | _, [] => rfl
  | i, m :: l => by
    simp only [dropM, List.map_cons]
    rw [dropM_data p k (i + 1) l]
    unfold Msg.dropped
    split <;> rfl
theorem sendL_data : ∀ (i : Nat) (l : List Msg) (b : Nat), (sendL i l b).1.map Msg.data = l.map Msg.data
  | _, [], _ => rfl
  | i, m :: l, b => by
    rw [sendL_cons]
    split
    · simp only [List.map_cons]
      rw [sendL_data (i + 1) l]
      congr 1
      unfold Msg.take
      split
      · rfl
      · split <;> rfl
    · simp only [List.map_cons]
      rw [sendL_data (i + 1) l]
theorem cancel_data (ms : List Msg) (n : Int) : (cancelM ms n).map Msg.data = ms.map Msg.data := by unfold cancelM; split <;> simp [dropM_data]
theorem nextM_data (ms : List Msg) (t m : Int) : (nextM ms t m).map Msg.data = ms.map Msg.data := by unfold nextM finOf; rw [sendL_data, dropM_data]
def DataB (ms : List Msg) : Prop := ∀ d ∈ ms.map Msg.data, IsB d
theorem strmM_isB : ∀ (i : Nat) (l : List Msg), (∀ m ∈ l, OutOk m) → DataB l → i + l.length ≤ 100000 → IsB (strmM i l)
  | _, [], _, _, _ => by intro y hy; cases hy
  | i, m :: l, ok, h, hl => by
    simp only [List.length_cons] at hl
    have ih := strmM_isB (i + 1) l (fun x hx => ok x (by simp [hx])) (fun d hd => h d (by simp only [List.map_cons, List.mem_cons]; exact .inr hd)) (by omega)
    have hd := (ok m (by simp)).ok.d2
    have hf := form_isB i m.data (by omega) (h _ (by simp)) (by omega)
    exact IsB.append (fun y hy => hf y (List.mem_of_mem_take hy)) ih
theorem gateAt_re {w : World} {base B b : Nat} {last : Int} {br : Bool} (h : GateAt w base b (.slice none 0 0) [] last br) (hb : B ≤ b) : GateAt w B b (.slice none 0 0) [] last br := ⟨h.hb, Vw.nil _ _ _ _, (fun e => by cases e), hb⟩

/-- What holds of the messages and the gate between the operations. -/
structure AGate (ms : List Msg) (G : GS) : Prop where
  inv : AInv ms
  db : DataB ms
  g : gate (strmM 0 ms) (-1) = G
  bad : G.bad = false
  out : G.out = sentL ms
  last : G.last = lastS 0 ms (-1)
  rb : IsB G.rest
  rl : G.rest.length ≤ ms.length * 1005
  l0 : -1 ≤ G.last
  l1 : G.last ≤ 16777215
  ol : G.out.length ≤ ms.length
theorem AGate.of {ms : List Msg} (h : AInv ms) (hd : DataB ms) (hl : ms.length ≤ 1000) : AGate ms (gate (strmM 0 ms) (-1)) := by
  obtain ⟨g1, g2, g3⟩ := gate_strmM 0 ms (-1) h.ok h.ord (by omega) (by omega)
  obtain ⟨i1, i2, i3, i4, i5⟩ := gate_inv (strmM 0 ms) (-1) (strmM_isB 0 ms h.ok hd (by omega)) (by omega) (by omega)
  refine ⟨h, hd, rfl, g3, g1, g2, i1, Nat.le_trans i2 (strmM_len 0 ms h.ok), i3, i4, ?_⟩
  rw [g1, sentL_len]
  have := cnt_le (ms.map Msg.st) 3
  rwa [List.length_map] at this
/-- The next bytes through the gate. -/
theorem AGate.next {ms : List Msg} {G : GS} (h : AGate ms G) (hl : ms.length ≤ 1000) (t n : Int) : ∃ G', AGate (nextM ms t n) G' ∧ IsB (nextW ms t n) ∧ (pushO G.rest (nextW ms t n) G.last).bad = false ∧
    G' = ⟨G.out ++ (pushO G.rest (nextW ms t n) G.last).out, (pushO G.rest (nextW ms t n) G.last).rest, (pushO G.rest (nextW ms t n) G.last).last, false⟩ := by
  obtain ⟨k1, k2⟩ := h.inv.next t n
  have hd : DataB (nextM ms t n) := fun d hd => h.db d (by rwa [nextM_data] at hd)
  have hG := AGate.of k1 hd (by rw [ar_nlen]; exact hl)
  have e := gate_app (strmM 0 ms) (nextW ms t n) (-1)
  rw [h.g, if_neg (by rw [h.bad]; decide), ← k2] at e
  have hb := hG.bad
  rw [e] at hb
  have hb' : (pushO G.rest (nextW ms t n) G.last).bad = false := hb
  refine ⟨_, hG, ?_, hb', ?_⟩
  · have := strmM_isB 0 _ k1.ok hd (by rw [ar_nlen]; omega)
    rw [k2] at this
    exact fun y hy => this y (List.mem_append.2 (.inr hy))
  · rw [e]
    show GS.mk _ _ _ _ = _
    rw [show (gate (G.rest ++ nextW ms t n) G.last).bad = false from hb']
    rfl
theorem AGate.same {ms ms' : List Msg} {G : GS} (h : AGate ms G) (h1 : AInv ms') (h2 : strmM 0 ms' = strmM 0 ms) (h3 : DataB ms') (hl : ms'.length ≤ 1000) : AGate ms' G := by
  have := AGate.of h1 h3 hl
  rw [h2, h.g] at this
  exact this
theorem AGate.put {ms : List Msg} {G : GS} (h : AGate ms G) (data : List Int) (dl : Int) (hd : IsB data) (hl : ms.length < 1000) : AGate (putM ms 1000 data dl) G := by
  obtain ⟨k1, k2⟩ := h.inv.put 1000 data dl
  have : putM ms 1000 data dl = ms ∨ putM ms 1000 data dl = ms ++ [⟨data, dl, 1, 0⟩] := by
    unfold putM
    split
    · exact .inl rfl
    · split
      · exact .inl rfl
      · exact .inr rfl
  refine h.same k1 k2 ?_ ?_
  · rcases this with e | e
    · rw [e]; exact h.db
    · rw [e]
      intro d hm
      rw [List.map_append] at hm
      rcases List.mem_append.1 hm with hm | hm
      · exact h.db d hm
      · obtain rfl : d = data := by simpa using hm
        exact hd
  · rcases this with e | e
    · rw [e]; omega
    · rw [e]; simp; omega
theorem AGate.cancel {ms : List Msg} {G : GS} (h : AGate ms G) (n : Int) (hl : ms.length ≤ 1000) : AGate (cancelM ms n) G := by
  obtain ⟨k1, k2⟩ := h.inv.cancel n
  exact h.same k1 k2 (fun d hd => h.db d (by rwa [cancel_data] at hd)) (by rw [ar_clen]; exact hl)

/-- The data of the messages that were sent, up to q. -/
def WtRel (wE : World) (ms : List Msg) (drs : List RwB) (wv lv iv : Value) (w : World) : Prop :=
  ∃ (q : Nat) (wrs : List RwB), q ≤ ms.length ∧ iv = .int .i64 q ∧ lv = .int .i64 (lastS 0 (ms.take q) (-1)) ∧ Vw RwB.val 22 w wE.heap.size wv wrs ∧ wrs.map RwB.d = sentL (ms.take q) ∧ (∀ r ∈ wrs, r ∈ drs) ∧ Below wE.heap.size wE w ∧ wrs.length ≤ q
theorem ms_succ {ms : List Msg} {q : Nat} {m : Msg} (h : ms[q]? = some m) : sentL (ms.take (q + 1)) = (if m.st = 3 then sentL (ms.take q) ++ [m.data] else sentL (ms.take q)) ∧ lastS 0 (ms.take (q + 1)) (-1) = (if m.st = 3 then (q : Int) else lastS 0 (ms.take q) (-1)) := by
  have hq := get_lt h
  rw [List.take_add_one, h, sentL_append, lastS_append]
  have hl : (ms.take q).length = q := by rw [List.length_take]; omega
  rw [hl, Nat.zero_add]
  refine ⟨?_, rfl⟩
  show sentL (ms.take q) ++ (if m.st = 3 then [m.data] else []) = _
  split <;> simp
def ArRel (W : World) (B gb n : Nat) (dv yv tv iv : Value) (w : World) : Prop :=
  ∃ (j : Nat) (ms : List Msg) (F : Nat → Prop) (t : Int) (rv : Value) (G : GS) (yrs drs : List RwB), j ≤ n ∧ iv = .int .i64 j ∧ tv = .int .i64 t ∧ 0 ≤ t ∧ t ≤ 1073741824 * (j : Int) ∧ ArM W w B gb ms F rv G.rest G.last yv yrs dv drs ∧ AGate ms G ∧ ms.length ≤ j ∧
    yrs.map RwB.d = G.out ∧ drs.map RwB.d = ms.map Msg.data
def ArCut (W : World) (B gb j : Nat) (dv yv tv : Value) (w : World) : Prop :=
  ∃ (ms : List Msg) (F : Nat → Prop) (t : Int) (rv : Value) (G : GS) (yrs drs : List RwB), tv = .int .i64 t ∧ 0 ≤ t ∧ t ≤ 1073741824 * ((j + 1 : Nat) : Int) ∧ ArM W w B gb ms F rv G.rest G.last yv yrs dv drs ∧ AGate ms G ∧ ms.length ≤ j + 1 ∧
    yrs.map RwB.d = G.out ∧ drs.map RwB.d = ms.map Msg.data

set_option maxHeartbeats 32000000 in
set_option maxRecDepth 100000 in
theorem messageArrives_walk (W : World) (a1 : Option Addr) (c1 : Nat) (l : List OpM) (s1 : SlOp W a1 l) (g1 : ∀ x ∈ l, OpOk W x ∧ IsB x.data) (m1 : l.length ≤ maxLen) :
    Calls Try.prog 8 #[.slice a1 l.length c1] W fun e W' => e = .returned (.bool true) ∧ Below W.heap.size W W' := by
  have HAW := Lib.hid awake_ok
  have S1 := Lib.hid s1; have G1 := Lib.hid g1
  have FW := Lib.hid fun w (h : Below W.heap.size W w) => few_any w a1 c1 l (s1.below h) (fun x hx => (g1 x hx).1.below h) m1
  have MX := Lib.hid m1
  clear s1 g1 m1
  cases hfew : fewB l with
  | false =>
    rw [hfew] at FW
    clear hfew
    go_enter Try.func8, Try.ntmps8
    go_wp2_with fail
    refine (HAW.out W).mono ?_
    rintro e w1 ⟨rfl, hb⟩
    have B1 := Lib.hid hb; clear hb
    go_wp2_with fail
    refine (FW.out w1 B1.out).mono ?_
    rintro e w2 ⟨rfl, hb⟩
    have B2 := Lib.hid (B1.out.trans (hb.mono B1.out.size)); clear hb
    go_wp2_with fail
    refine (HAW.out w2).mono ?_
    rintro e w3 ⟨rfl, hb⟩
    have B3 := Lib.hid (B2.out.trans (hb.mono B2.out.size)); clear hb
    go_wp2_with fail
    go_ret
    exact ⟨rfl, B3.out⟩
  | true =>
    rw [hfew] at FW
    obtain ⟨hl, hops⟩ := few_ok hfew
    have OPS := Lib.hid hops
    clear hfew hops
    obtain ⟨i0, hi, hz0, hz1, hz2⟩ := info_parts Try.infoSl
    have HI := Lib.hid hi; have HZ0 := Lib.hid hz0; have HZ1 := Lib.hid hz1; have HZ2 := Lib.hid hz2
    clear hi hz0 hz1 hz2
    go_enter Try.func8, Try.ntmps8
    go_wp2_with fail
    refine (HAW.out W).mono ?_
    rintro e w1 ⟨rfl, hb⟩
    have B1 := Lib.hid hb; clear hb
    go_wp2_with fail
    refine (FW.out w1 B1.out).mono ?_
    rintro e w2 ⟨rfl, hb⟩
    have B2 := Lib.hid (B1.out.trans (hb.mono B1.out.size)); clear hb
    have NW := Lib.hid (mnew_ok w2 1000 (by omega) (by omega))
    go_wp2_with fail
    refine NW.out.mono ?_
    rintro e w3 ⟨rfl, hM, hB⟩
    have hs2 := B2.out.size
    have hs3 := hB.size
    have N1 := Lib.hid (newGate_ok w3)
    have HM3 := Lib.hid hM
    have B3 := Lib.hid (B2.out.trans (hB.mono B2.out.size))
    clear hM hB NW
    go_wp2_with fail
    refine N1.out.mono ?_
    rintro e w4 ⟨rfl, hga, hb⟩
    have hb2 := HM3.out.lt w2.heap.size rfl
    have M0 : Hid (ArM W w4 w2.heap.size w3.heap.size [] (fun k => k = w2.heap.size) (.slice none 0 0) [] (-1) (.slice none 0 0) [] (.slice none 0 0) []) :=
      ArM.start (HM3.out.below hb) (gateAt_re hga hs3) (fun k hk h => by
        subst hk
        rcases h with h | h
        · omega
        · cases h) (B3.out.trans (hb.mono B3.out.size)) hs2 (Nat.le_trans hs3 hb.size)
    have A0 : Hid (AGate [] ⟨[], [], -1, false⟩) := AGate.of AInv.nil (fun d hd => by cases hd) (by simp)
    clear hga hb N1 FW HAW B1 B2 B3 HM3 hb2 hs2 hs3
    generalize w2.heap.size = B at *
    generalize w3.heap.size = gb at *
    go_wp2_with fail
    go_loopw [6, 7, 8, 40] (fun dv yv tv iv w => ArRel W B gb l.length dv yv tv iv w) (fun _ _ _ i _ => l.length - (intOf i).toNat)
    case atStart => exact ⟨0, [], _, 0, _, _, [], [], Nat.zero_le _, rfl, rfl, Int.le_refl _, by omega, M0.out, A0.out, Nat.le_refl _, rfl, rfl⟩
    case round =>
      clear M0 A0
      obtain ⟨j, ms, F, t, rv, G, yrs, drs, hj, rfl, rfl, ht0, ht1, hS, hI, hml, hyd, hdd⟩ := hrel
      have SM := Lib.hid hS; have II := Lib.hid hI; have YD := Lib.hid hyd; have DD := Lib.hid hdd
      clear hS hI hyd hdd
      obtain ⟨ya, yc, rfl⟩ := SM.out.yl.shape
      obtain ⟨da, dc, rfl⟩ := SM.out.dl.shape
      have hdl : drs.length = ms.length := by simpa using congrArg List.length DD.out
      have hyl : yrs.length ≤ ms.length := by
        have := congrArg List.length YD.out
        rw [List.length_map] at this
        rw [this]; exact II.out.ol
      have HDL := Lib.hid hdl
      by_cases hlt : j < l.length
      · obtain ⟨x, ex, okx, cx0, cx1, cx2, cx3⟩ := (S1.out.below SM.out.bel).get (k := j) hlt
        have hmem := Lib.hid (List.mem_of_getElem? ex.out)
        obtain ⟨hxl, hxt0, hxt1⟩ := OPS.out x hmem.out
        obtain ⟨⟨hxd, hxm, hxn, hxk, hxt⟩, hxb⟩ := G1.out x hmem.out
        have HXD := Lib.hid hxd; have HXB := Lib.hid hxb
        obtain ⟨_, hxn1⟩ := ar_i64 hxn
        have BA : Hid (Below wr.heap.size wr (wr.alloc (.cells #[.int .i64 x.kind, .int .i64 x.n, .int .i64 x.ticks, .slice x.da x.data.length x.dc] 37))) := (Below.refl _ _).alloc (Nat.le_refl _) _
        have SA := Lib.hid (SM.out.below BA.out)
        have BX : Hid (Blk (wr.alloc (.cells #[.int .i64 x.kind, .int .i64 x.n, .int .i64 x.ticks, .slice x.da x.data.length x.dc] 37)) wr.heap.size 37 [.int .i64 x.kind, .int .i64 x.n, .int .i64 x.ticks, .slice x.da x.data.length x.dc]) := Blk.new wr _ [.int .i64 x.kind, .int .i64 x.n, .int .i64 x.ticks, .slice x.da x.data.length x.dc]
        have hbxF : Hid (∀ k, F k → wr.heap.size ≠ k) := fun k hk e => by have := (SM.out.m.lt k hk).2; omega
        have ce0 := BX.out.cell (i := 0) rfl
        have ce1 := BX.out.cell (i := 1) rfl
        have ce2 := BX.out.cell (i := 2) rfl
        have ce3 := BX.out.cell (i := 3) rfl
        have hDA : Hid (∀ k, F k → (x.da.getD default).block ≠ k ∨ x.data = []) := fun k hk => by
          by_cases he : x.data = []
          · exact .inr he
          · left
            have h1 := HXD.out.old he
            have h2 := (SM.out.m.lt k hk).1
            have h3 := SM.out.hB
            omega
        clear ex hxd hxm hxn hxk hxt hxb
        rw [hdl] at SM SA ⊢
        clear hdl
        go_upto_block 1 with (fail)
        go_cut [6, 7, 8] (fun dv yv tv w => ArCut W B gb j dv yv tv w)
        case first =>
          go_upto_block 2 with (fail)
          generalize wr.alloc (.cells #[.int .i64 x.kind, .int .i64 x.n, .int .i64 x.ticks, .slice x.da x.data.length x.dc] 37) = wa at *
          have hwB := SA.out.hw
          by_cases k0 : x.kind = 0
          · have f0 : (x.kind == 0) = true := by simpa using k0
            clear k0
            have PT := Lib.hid (mput_any wa B B 1000 ms F SA.out.m (by omega) x.da x.dc x.data (HXD.out.below SA.out.bel) (by unfold maxLen; omega) x.n (fun hne k hk => (hDA.out k hk).resolve_right hne) hwB)
            have PI := Lib.hid (II.out.put x.data x.n HXB.out (by omega))
            go_wp2_with fail
            refine PT.out.mono ?_
            rintro e w5 ⟨rfl, hM, hU⟩
            have S5 := Lib.hid (SA.out.box hM hU (fun k hk => hk.imp id fun h => h.1))
            clear PT
            by_cases e0 : putE ms 1000 x.data x.n = 0
            · obtain ⟨p1, p2⟩ := put_yes e0
              have hx1 : 1 ≤ x.data.length := by
                unfold putE at e0
                by_cases hb : putBad x.data x.n = true
                · rw [if_pos hb] at e0; omega
                · unfold putBad at hb
                  simp only [Bool.or_eq_true, decide_eq_true_eq] at hb
                  omega
              rw [e0, p2]
              rw [p1] at S5 PI
              clear e0 p1 p2
              have hb5 := S5.out.hw
              have v3 : w5.cell? ⟨wr.heap.size, 3, none⟩ = some (.slice x.da x.data.length x.dc) := by
                rw [hU.cell (p := ⟨wr.heap.size, 3, none⟩) BX.out.lt (fun hk => hbxF.out _ hk rfl)]
                exact ce3
              clear hM hU ce0 ce1 ce2 ce3
              have CL := Lib.hid (cloneByte_any w5 x.da x.dc x.data (HXD.out.below S5.out.bel) (by omega))
              go_wp2_with fail
              refine CL.out.mono ?_
              rintro e w6 ⟨cv, rfl, hcv, hb⟩
              obtain ⟨g, sp, cc, rfl, hg, hbk⟩ := hcv.pos (by intro e; rw [e] at hx1; simp at hx1)
              have SX := Lib.hid hbk.sub; have BQ := Lib.hid hb
              have hw56 := BQ.out.size
              clear hcv hbk hb CL v3
              have VL : Hid (Vw RwB.val 22 (w6.alloc (.cells #[.slice (some ⟨g, 0, none⟩) x.data.length cc] 22)) B (.slice da ms.length dc) drs) := (S5.out.dl.below BQ.out).below ((Below.refl _ _).alloc (Nat.le_refl _) _)
              go_wp2_with (at_builtin; refine wpList_append_vw rfl _ _ 54 rfl B 22 i0 _ 24 Try.underlying54 HI.out HZ0.out HZ1.out HZ2.out rfl RwB.val (fun _ => rfl) (.slice da ms.length dc) drs rfl VL.out (some ⟨w6.heap.size, 0, none⟩) 1 [⟨some ⟨g, 0, none⟩, cc, x.data⟩] rfl (one_genB rfl) ?c1 ?c2 ?c3 ?_)
              case c1 => unfold maxLen; simp only [List.length_singleton]; have := HDL.out; omega
              case c2 => simp only [List.length_singleton]; have := HDL.out; omega
              case c3 => simp; omega
              intro v' w7 g1 g2 g3
              have S7 := Lib.hid (S5.out.data (x := ⟨some ⟨g, 0, none⟩, cc, x.data⟩) BQ.out SX.out (by intro e; rw [show x.data = [] from e] at hx1; simp at hx1) hg ((Below.refl _ _).alloc (Nat.le_refl _) _) g1 g2 (by rw [World.size_alloc]; exact g3))
              clear g1 g2 g3 VL S5 hg
              go_wp2_with fail
              go_meet
              exact ⟨_, _, t, _, G, _, _, rfl, ht0, by omega, S7.out, PI.out, by simp; omega, YD.out, by rw [List.map_append, List.map_append, DD.out]; rfl⟩
            · have e1 : (putE ms 1000 x.data x.n == 0) = false := by simpa using e0
              rw [put_no e0] at S5 PI
              generalize putE ms 1000 x.data x.n = pe at *
              clear e0 hM hU
              go_wp2_with fail
              go_meet
              exact ⟨_, _, t, _, G, _, _, rfl, ht0, by omega, S5.out, PI.out, by omega, YD.out, DD.out⟩
          · have f0 : (x.kind == 0) = false := by simpa using k0
            by_cases k1 : x.kind = 1
            · have f1 : (x.kind == 1) = true := by simpa using k1
              have CT := Lib.hid (mcancel_any wa B B 1000 ms F SA.out.m (by omega) x.n hwB)
              have CI := Lib.hid (II.out.cancel x.n (by omega))
              clear k0 k1
              go_wp2_with fail
              refine CT.out.mono ?_
              rintro e w5 ⟨rfl, hM, hU⟩
              have S5 := Lib.hid (SA.out.box hM hU (fun k hk => .inl hk))
              clear hM hU CT
              go_wp2_with fail
              go_meet
              exact ⟨_, _, t, _, G, _, _, rfl, ht0, by omega, S5.out, CI.out, by rw [ar_clen]; omega, YD.out, by rw [cancel_data]; exact DD.out⟩
            · have f1 : (x.kind == 1) = false := by simpa using k1
              by_cases k2 : x.kind = 2
              · have f2 : (x.kind == 2) = true := by simpa using k2
                have NT := Lib.hid (mnext_any wa B B 1000 ms F SA.out.m (by omega) (t + x.ticks) x.n hxn1 hwB)
                obtain ⟨G', hG1, hG2, hG3, hG4⟩ := II.out.next (by omega) (t + x.ticks) x.n
                have GN := Lib.hid hG1; have GB := Lib.hid hG2; have GP := Lib.hid hG3; have GE := Lib.hid hG4
                clear k0 k1 k2 hG1 hG2 hG3 hG4
                go_wp2_with fail
                refine NT.out.mono ?_
                rintro e w5 ⟨ov, rfl, hv, hM, hU⟩
                have S5 := Lib.hid (SA.out.box hM hU (fun k hk => .inl hk))
                obtain ⟨oa, oc, rfl⟩ := hv.shape
                have OV := Lib.hid hv.sl
                have hwl : (nextW ms (t + x.ticks) x.n).length ≤ 2000000 := by
                  have h1 := sendL_total 0 (dropM (pNext (t + x.ticks)) 5 0 ms) x.n.toNat (dropM_ok (pNext (t + x.ticks)) 5 (by decide) (by decide) II.out.inv.mok)
                  rw [dropM_len] at h1
                  have : (nextW ms (t + x.ticks) x.n).length ≤ ms.length * 1005 := h1
                  omega
                have hob : Hid (nextW ms (t + x.ticks) x.n ≠ [] → ¬ gateS gb rv (oa.getD default).block) := fun hne hk => by
                  have h1 := (SA.out.g.lt hk).2
                  obtain ⟨g, o, rfl⟩ := hv.addr hne
                  have h2 := (hv.lt (g := g) rfl).1
                  have : g < wa.heap.size := h1
                  omega
                clear hM hU NT hv
                have hrl := II.out.rl
                have hb5 := S5.out.hw
                have PA := Lib.hid (push_ok w5 B gb rv G.rest G.last S5.out.g II.out.rb (by omega) II.out.l0 II.out.l1 oa oc (nextW ms (t + x.ticks) x.n) OV.out GB.out (by omega) hob.out hb5)
                clear hrl
                go_wp2_with fail
                refine PA.out.mono ?_
                rintro e w6 hP
                obtain ⟨zv, zrs, rv', Bz, rfl, hzd, hBz, hzr, hzg, hzo, hzU⟩ := puPost_ok hP GP.out
                have ZD := Lib.hid hzd; have ZR := Lib.hid hzr
                have S6 := Lib.hid (S5.out.push hzg (fun k hk => (hzo k hk).2) hzU)
                have AP : Hid (Ap Bz (ft5 _ (gateS gb rv') (ownS (.slice ya yrs.length yc)) (ownS (.slice da ms.length dc)) (RSet yrs drs))) := S5.out.ap.chg hBz 1 (fun j hj k hk => by
                  rcases fin5 j with rfl | rfl | rfl | rfl | rfl
                  · exact hk
                  · exact absurd rfl hj
                  · exact hk
                  · exact hk
                  · exact hk) (fun k hk => by
                  rcases hk with hk | hk
                  · subst hk
                    have : k < w5.heap.size := S5.out.g.hb.lt
                    exact ⟨.inl (.inl rfl), by omega⟩
                  · exact ⟨(hzo k hk).2.imp .inr id, (hzo k hk).1⟩)
                clear hP hzd hzr hzg hzo hzU PA
                obtain ⟨za, zc, rfl⟩ := ZR.out.vw.shape
                have hzl : yrs.length + zrs.length ≤ ms.length := by
                  have h1 := congrArg List.length YD.out
                  have h2 := congrArg List.length ZD.out
                  rw [List.length_map] at h1 h2
                  have h3 := GN.out.ol
                  rw [GE.out, ar_nlen, List.length_append] at h3
                  omega
                go_wp2_with (at_builtin; refine wpList_append_vw rfl _ _ 54 rfl B 22 i0 _ 24 Try.underlying54 HI.out HZ0.out HZ1.out HZ2.out rfl RwB.val (fun _ => rfl) (.slice ya yrs.length yc) yrs rfl S6.out.yl za zc zrs rfl ZR.out.vw.sl ?c1 ?c2 ?c3 ?_)
                case c1 => unfold maxLen; omega
                case c2 => omega
                case c3 => exact S6.out.hw
                intro v' w7 g1 g2 g3
                have S7 := Lib.hid (S6.out.app ZR.out AP.out (Nat.le_trans hb5 hBz) g1 g2 g3)
                clear g1 g2 g3
                have YN : Hid ((yrs ++ zrs).map RwB.d = G'.out) := by
                  show _ = _
                  rw [List.map_append, YD.out, ZD.out, GE.out]
                have SN : Hid (ArM W w7 B gb (nextM ms (t + x.ticks) x.n) F rv' G'.rest G'.last v' (yrs ++ zrs) (.slice da ms.length dc) drs) := by
                  show ArM _ _ _ _ _ _ _ _ _ _ _ _ _
                  rw [GE.out]
                  exact S7.out
                go_wp2_with fail
                go_meet
                exact ⟨_, _, t + x.ticks, _, G', _, _, rfl, by omega, by omega, SN.out, GN.out, by rw [ar_nlen]; omega, YN.out, by rw [nextM_data]; exact DD.out⟩
              · have f2 : (x.kind == 2) = false := by simpa using k2
                clear k0 k1 k2
                go_wp2_with fail
                go_meet
                exact ⟨_, _, t, _, G, _, _, rfl, ht0, by omega, SA.out, II.out, by omega, YD.out, DD.out⟩
        case rest =>
          clear SM II hDA HXD ht0 ht1 hml hxl hxt0 hxt1 hxn1 hmem YD DD HDL hyl HXB
          obtain ⟨ms, F, t, rv, G, yrs, drs, rfl, ht0, ht1, hS, hI, hml, hyd, hdd⟩ := hcut
          have S6 := Lib.hid hS; have I6 := Lib.hid hI; have YD := Lib.hid hyd; have DD := Lib.hid hdd
          clear hS hI hyd hdd
          go_wp2_with fail
          go_roundw
          case rel => exact ⟨j + 1, ms, F, t, rv, G, yrs, drs, by omega, by go_num, rfl, ht0, ht1, S6.out, I6.out, hml, YD.out, DD.out⟩
          case measure => simp [intOf]; omega
      · obtain rfl : j = l.length := by omega
        rw [hdl] at SM ⊢
        clear hdl
        obtain ⟨wE, rfl⟩ : ∃ wE : World, wE = wr := ⟨_, rfl⟩
        have hml2 : ms.length ≤ 80 := by omega
        clear ht0 ht1 hml hyl hlt hj
        go_wp2_with fail
        go_loopw [15, 16, 99] (fun wv lv iv w => WtRel wE ms drs wv lv iv w) (fun _ _ i _ => ms.length - (intOf i).toNat)
        case atStart => exact ⟨0, [], Nat.zero_le _, rfl, rfl, Vw.nil _ _ _ _, rfl, (fun r hr => by cases hr), Below.refl _ _, Nat.le_refl _⟩
        case round =>
          obtain ⟨q, wrs, hq, rfl, rfl, hV, hwd, hsub, hB, hwl⟩ := hrel
          have VV := Lib.hid hV; have WD := Lib.hid hwd; have SUB := Lib.hid hsub; have BB := Lib.hid hB
          clear hV hwd hsub hB
          obtain ⟨va, vc, rfl⟩ := VV.out.shape
          have BM := Lib.hid (SM.out.m.below BB.out)
          have hEs := BB.out.size
          by_cases hql : q < ms.length
          · obtain ⟨m, hm⟩ : ∃ m, ms[q]? = some m := ⟨ms[q], by simp [hql]⟩
            obtain ⟨r, er, oka, cr⟩ := (SM.out.dl.sl.below BB.out).get (k := q) (by rw [HDL.out]; exact hql)
            have hrd : r.d = m.data := by
              have := congrArg (fun l => l[q]?) DD.out
              simp only [List.getElem?_map, er.out, hm, Option.map_some] at this
              exact Option.some.inj this
            have hrm := Lib.hid (List.mem_of_getElem? er.out)
            unfold RwB.val at cr
            have ST := mstate_any wr B B 1000 ms F BM.out (by omega) (q : Int)
            have es : stOf (ms.map Msg.st) (q : Int) = (m.st : Int) := by
              unfold stOf
              rw [if_neg (by omega), Int.toNat_natCast, List.getElem?_map, hm]
              rfl
            rw [es] at ST
            have STH := Lib.hid ST
            obtain ⟨ms1, ms2⟩ := ms_succ hm
            have hqi : (q : Int) < (ms.length : Int) := by omega
            have HRD := Lib.hid hrd
            have hmd : Hid (m.st = 3 → sentL (ms.take q) ++ [m.data] = sentL (ms.take (q + 1))) := fun h => by rw [ms1, if_pos h]
            have hmn : Hid (m.st ≠ 3 → sentL (ms.take q) = sentL (ms.take (q + 1))) := fun h => by rw [ms1, if_neg h]
            have hld : Hid (m.st = 3 → lastS 0 (ms.take (q + 1)) (-1) = (q : Int)) := fun h => by rw [ms2, if_pos h]
            have hln : Hid (m.st ≠ 3 → lastS 0 (ms.take (q + 1)) (-1) = lastS 0 (ms.take q) (-1)) := fun h => by rw [ms2, if_neg h]
            clear ST es er ms1 ms2 hm hrd
            by_cases h3 : m.st = 3
            · have f3 : ((m.st : Int) == 3) = true := by rw [h3]; rfl
              have H3 := Lib.hid h3
              clear h3
              go_wp2_with fail
              refine STH.out.mono ?_
              rintro e9 w9 ⟨rfl, rfl⟩
              have VL : Hid (Vw RwB.val 22 (wr.alloc (.cells #[.slice r.a r.d.length r.c] 22)) wE.heap.size (.slice va wrs.length vc) wrs) := VV.out.below ((Below.refl _ _).alloc (Nat.le_refl _) _)
              go_wp2_with (at_builtin; refine wpList_append_vw rfl _ _ 54 rfl wE.heap.size 22 i0 _ 24 Try.underlying54 HI.out HZ0.out HZ1.out HZ2.out rfl RwB.val (fun _ => rfl) (.slice va wrs.length vc) wrs rfl VL.out (some ⟨wr.heap.size, 0, none⟩) 1 [⟨r.a, r.c, r.d⟩] rfl (one_genB rfl) ?c1 ?c2 ?c3 ?_)
              case c1 => unfold maxLen; simp only [List.length_singleton]; omega
              case c2 => simp only [List.length_singleton]; omega
              case c3 => simp; omega
              intro v' w7 g1 g2 g3
              have V7 := Lib.hid g1
              have B7 : Hid (Below wE.heap.size wE w7) := Upd.below (BB.out.trans ((Below.refl _ _).alloc hEs _)) g2 (by simp; omega) fun k hk => (VV.out.lt hk).1
              clear g1 g2 g3 VL
              go_wp2_with fail
              go_roundw
              case rel => exact ⟨q + 1, wrs ++ [⟨r.a, r.c, r.d⟩], by omega, by go_num, by rw [hld.out H3.out], V7.out, by rw [List.map_append, WD.out, ← hmd.out H3.out, ← HRD.out]; rfl, (fun y hy => by
                rcases List.mem_append.1 hy with hy | hy
                · exact SUB.out y hy
                · obtain rfl := List.mem_singleton.1 hy
                  exact hrm.out), B7.out, by simp; omega⟩
              case measure => simp [intOf]; omega
            · have f3 : ((m.st : Int) == 3) = false := by
                have : ¬ (m.st : Int) = 3 := by omega
                simpa using this
              have H3 := Lib.hid h3
              clear h3
              go_wp2_with fail
              refine STH.out.mono ?_
              rintro e9 w9 ⟨rfl, rfl⟩
              go_wp2_with fail
              go_roundw
              case rel => exact ⟨q + 1, wrs, by omega, by go_num, by rw [hln.out H3.out], VV.out, by rw [WD.out, hmn.out H3.out], SUB.out, BB.out, by omega⟩
              case measure => simp [intOf]; omega
          · obtain rfl : q = ms.length := by omega
            have hwd := WD.out
            rw [List.take_length] at hwd ⊢
            have SME := Lib.hid (SM.out.below BB.out)
            have RW1 : RdB wr va wrs := ⟨VV.out.sl, fun r hr => (SME.out.dr r (SUB.out r hr)).1⟩
            have hyl0 : yrs.length = cnt (ms.map Msg.st) 3 := by
              have := congrArg List.length YD.out
              rw [List.length_map, II.out.out, sentL_len] at this
              exact this
            have hyl1 : yrs.length ≤ 80 := by
              have := cnt_le (ms.map Msg.st) 3
              rw [List.length_map] at this
              omega
            have SY := Lib.hid (same_any wr ya va yc vc yrs wrs ⟨SME.out.yl.sl, fun r hr => (SME.out.yr r hr).1⟩ RW1 (by rw [YD.out, II.out.out]; exact hwd.symm) (fun r hr => (SME.out.yr r hr).2.1) (by unfold maxLen; omega))
            have HYL := Lib.hid hyl0
            have hlast : G.last = lastS 0 ms (-1) := II.out.last
            rw [← hlast]
            have HLS := Lib.hid hlast
            clear hwd RW1 hyl0 hlast
            go_wp2_with fail
            refine SY.out.mono ?_
            rintro e5 w5 ⟨rfl, hq5⟩
            have S5 := Lib.hid (SME.out.below hq5.bel)
            clear hq5 SY
            have LA := Lib.hid (last_any w5 _ _ _ _ _ _ S5.out.g)
            have CT := mcounts_any w5 B B 1000 ms F S5.out.m
            unfold cntV at CT
            rw [← HYL.out] at CT
            generalize cnt (ms.map Msg.st) = cc at CT
            have CTH := Lib.hid CT
            clear CT
            have x3 : ∀ w (k : Nat), (Instr.index 45 (.agg #[.int .i64 (cc 0), .int .i64 (cc 1), .int .i64 (cc 2), .int .i64 (k : Int), .int .i64 (cc 4), .int .i64 (cc 5)]) (.int .i64 3)).run Try.prog w = .ok (.int .i64 (k : Int)) w := fun _ _ => by kernel_rfl
            go_wp2_with fail
            refine LA.out.mono ?_
            rintro e6 w6 ⟨rfl, rfl⟩
            go_wp2_with fail
            refine CTH.out.mono ?_
            rintro e7 w7 ⟨rfl, hb7⟩
            have B7 := Lib.hid (S5.out.bel.trans (hb7.mono S5.out.bel.size))
            clear hb7
            go_wp2_with fail
            go_ret
            exact ⟨rfl, B7.out⟩
end Go.Proofs.Ytjljjohoipnhhaa
