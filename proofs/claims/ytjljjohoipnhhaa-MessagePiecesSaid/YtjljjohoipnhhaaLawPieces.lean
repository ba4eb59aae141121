/-
  MessagePieces: the walk.
-/
import Derived.Test.YtjljjohoipnhhaaRead
import Derived.Test.YtjljjohoipnhhaaAwake
import Derived.Test.YtjljjohoipnhhaaOpen
namespace Go.Proofs.Ytjljjohoipnhhaa
open Go.RowKit
set_option linter.unusedVariables false

theorem pc_some {a : Option Addr} (h : okAd a = true) : ∃ b o, a = some ⟨b, o, none⟩ := by
  match a, h with
  | some ⟨b, o, s⟩, h =>
    simp [okAd] at h
    subst h
    exact ⟨b, o, rfl⟩
theorem pc_take {α : Type} {f : α → Value} {w : World} {a : Option Addr} {xs : List α} (h : Sl f w a xs) (m : Nat) : Sl f w a (xs.take m) := by
  intro j x hj
  rw [List.getElem?_take] at hj
  split at hj
  · exact h j x hj
  · cases hj
theorem pc_drop {α : Type} {f : α → Value} {w : World} {b o : Nat} {xs : List α} (h : Sl f w (some ⟨b, o, none⟩) xs) (m : Nat) : Sl f w (some ⟨b, o + m, none⟩) (xs.drop m) := by
  intro j x hj
  rw [List.getElem?_drop] at hj
  obtain ⟨h1, h2⟩ := h _ x hj
  refine ⟨rfl, ?_⟩
  rw [adr_mk] at h2 ⊢
  rw [Nat.add_assoc]
  exact h2
theorem gate_rest_bad {r : List Int} {l : Int} (h : (gate r l).bad = true) : (gate r l).rest = [] := by
  have := gate_app r [] l
  rw [List.append_nil, if_pos h] at this
  exact congrArg GS.rest this
/-- The piece n of the stream from m on. -/
theorem gate_piece_bad (S : List Int) (m n : Nat) (h : (gate (S.take m) (-1)).bad = true) : gate (S.take (m + n)) (-1) = ⟨(gate (S.take m) (-1)).out, (gate (S.take m) (-1)).rest, (gate (S.take m) (-1)).last, true⟩ := by
  rw [gate_rest_bad h, List.take_add, gate_app, if_pos h]
theorem gate_piece (S : List Int) (m n : Nat) (h : (gate (S.take m) (-1)).bad = false) : gate (S.take (m + n)) (-1) =
    ⟨(gate (S.take m) (-1)).out ++ (pushO (gate (S.take m) (-1)).rest ((S.drop m).take n) (gate (S.take m) (-1)).last).out, (pushO (gate (S.take m) (-1)).rest ((S.drop m).take n) (gate (S.take m) (-1)).last).rest,
      (pushO (gate (S.take m) (-1)).rest ((S.drop m).take n) (gate (S.take m) (-1)).last).last, (pushO (gate (S.take m) (-1)).rest ((S.drop m).take n) (gate (S.take m) (-1)).last).bad⟩ := by
  rw [List.take_add, gate_app, if_neg (by rw [h]; decide)]
  rfl
def pushF (br : Bool) (rest data : List Int) (last : Int) : GS := if br = true then ⟨[], rest, last, true⟩ else pushO rest data last
def errF (br fb : Bool) : Int := if br = true then 6 else if fb = true then 3 else 0
/-- What Push leaves, of whatever gate. -/
def PuAny (w : World) (base b : Nat) (rv0 : Value) (br : Bool) (fin : GS) (e : Ending) (w' : World) : Prop :=
  ∃ (lv : Value) (rs : List RwB) (rv : Value) (B : Nat), e = .returned (.tuple #[lv, .int .i64 (errF br fin.bad)]) ∧ rs.map RwB.d = fin.out ∧ w.heap.size ≤ B ∧ RowsAt w' B lv rs ∧
    GateAt w' base b rv fin.rest fin.last fin.bad ∧ (∀ k, rv.ownBlock = some k → k < B ∧ (rv0.ownBlock = some k ∨ w.heap.size ≤ k)) ∧ Upd (gateS b rv0) w w'
theorem push_any (w : World) (base b : Nat) (rv0 : Value) (r0 : List Int) (last0 : Int) (br : Bool) (h : GateAt w base b rv0 r0 last0 br) (hB : IsB r0) (hr0 : r0.length ≤ 10000000) (hl0 : -1 ≤ last0) (hl1 : last0 ≤ 16777215) (da : Option Addr) (dc : Nat) (data : List Int) (hd : Sl (Value.int .u8) w da data) (hdB : IsB data) (hdl : data.length ≤ 10000000)
    (hda : data ≠ [] → ¬ gateS b rv0 (da.getD default).block) (hbase : base ≤ w.heap.size) :
    Calls Try.prog 23 #[.pointer (some ⟨b, 0, none⟩), .slice da data.length dc] w (PuAny w base b rv0 br (pushF br r0 data last0)) := by
  cases br with
  | true =>
    refine (push_broken w base b rv0 r0 last0 h da data.length dc).mono ?_
    rintro e w' ⟨rfl, hb⟩
    exact ⟨.slice none 0 0, [], rv0, w.heap.size, rfl, rfl, Nat.le_refl _, ⟨Vw.nil _ _ _ _, (fun r hr => by cases hr), fun r hr => by cases hr⟩, h.below hb, fun k hk => ⟨(h.hr.lt hk).2, .inl hk⟩, Upd.of_below hb⟩
  | false =>
    refine (push_ok w base b rv0 r0 last0 h hB hr0 hl0 hl1 da dc data hd hdB hdl hda hbase).mono ?_
    rintro e w' ⟨lv, rs, rv, B, h1, h2⟩
    exact ⟨lv, rs, rv, B, h1, h2⟩
/-- One piece more. -/
theorem gate_more (S : List Int) (m n : Nat) : gate (S.take (m + n)) (-1) =
    ⟨(gate (S.take m) (-1)).out ++ (pushF (gate (S.take m) (-1)).bad (gate (S.take m) (-1)).rest ((S.drop m).take n) (gate (S.take m) (-1)).last).out, (pushF (gate (S.take m) (-1)).bad (gate (S.take m) (-1)).rest ((S.drop m).take n) (gate (S.take m) (-1)).last).rest,
      (pushF (gate (S.take m) (-1)).bad (gate (S.take m) (-1)).rest ((S.drop m).take n) (gate (S.take m) (-1)).last).last, (pushF (gate (S.take m) (-1)).bad (gate (S.take m) (-1)).rest ((S.drop m).take n) (gate (S.take m) (-1)).last).bad⟩ := by
  cases h : (gate (S.take m) (-1)).bad with
  | true =>
    rw [gate_piece_bad S m n h]
    simp [pushF]
  | false =>
    rw [gate_piece S m n h]
    rfl
def PcCut (L nc i : Nat) (wr : World) (nv : Value) (w : World) : Prop := ∃ n : Nat, nv = .int .i64 n ∧ n ≤ L ∧ (i < nc ∨ n = L) ∧ wr = w
def PcSw (b : Bool) (wr : World) (fv : Value) (w : World) : Prop := fv = .bool b ∧ wr = w
def PcRel (W w4 : World) (gb : Nat) (S : List Int) (nc : Nat) (yv restv fv iv : Value) (w : World) : Prop :=
  ∃ (i m : Nat) (ra : Option Addr) (rc : Nat) (rvb : Value) (yrs : List RwB), iv = .int .i64 i ∧ m ≤ S.length ∧ restv = .slice ra (S.length - m) rc ∧ S.length - m ≤ rc ∧ rc ≤ maxLen ∧ Sl (Value.int .u8) W ra (S.drop m) ∧
    fv = .bool (gate (S.take m) (-1)).bad ∧ OutM w4 w4.heap.size gb gb rvb (gate (S.take m) (-1)).rest (gate (S.take m) (-1)).last (gate (S.take m) (-1)).bad yv yrs w ∧ yrs.map RwB.d = (gate (S.take m) (-1)).out ∧ (i ≤ nc ∨ m = S.length) ∧ i ≤ nc + 1
def PcMs (S : List Int) (nc : Nat) (iv restv : Value) : Nat := match iv, restv with
  | .int _ i, .slice _ n _ => (nc - i.toNat) + n
  | _, _ => 0

set_option maxHeartbeats 32000000 in
set_option maxRecDepth 100000 in
theorem messagePieces_walk (W : World) (a0 : Option Addr) (c0 : Nat) (S : List Int) (s0 : Sl (Value.int .u8) W a0 S) (g0 : ∀ y ∈ S, IntOk .u8 y) (m0 : S.length ≤ c0 ∧ c0 ≤ maxLen)
    (a1 : Option Addr) (c1 : Nat) (cs : List Int) (s1 : Sl (Value.int .u8) W a1 cs) (g1 : ∀ y ∈ cs, IntOk .u8 y) (m1 : cs.length ≤ maxLen) :
    Calls Try.prog 6 #[.slice a0 S.length c0, .slice a1 cs.length c1] W fun e W' => e = .returned (.bool true) ∧ Below W.heap.size W W' := by
  have HAW := Lib.hid awake_ok
  have hB : IsB S := fun y hy => by simpa [Lit.wf, IntOk, IntKind.min, IntKind.max, IntKind.signed, IntKind.bits] using g0 y hy
  have hC : IsB cs := fun y hy => by simpa [Lit.wf, IntOk, IntKind.min, IntKind.max, IntKind.signed, IntKind.bits] using g1 y hy
  have HS := Lib.hid s0; have HB := Lib.hid hB; have HC := Lib.hid hC; have H1 := Lib.hid s1; have M0 := Lib.hid m0
  obtain ⟨m01, m02⟩ := m0
  unfold maxLen at m02 m1
  clear s0 g0 s1 g1 hB hC
  by_cases hbig : 3000 < S.length ∨ 80 < cs.length
  · have hc : (3000 : Int) < (S.length : Int) ∨ ((S.length : Int) ≤ 3000 ∧ (80 : Int) < (cs.length : Int)) := by omega
    clear hbig
    rcases hc with hc | ⟨hc0, hc⟩
    all_goals
      go_enter Try.func6, Try.ntmps6
      go_wp2_with fail
      refine (HAW.out W).mono ?_
      rintro e w1 ⟨rfl, hb⟩
      have B1 := Lib.hid hb; clear hb
      go_wp2_with fail
      refine (HAW.out w1).mono ?_
      rintro e w2 ⟨rfl, hb⟩
      have B2 := Lib.hid (B1.out.trans (hb.mono B1.out.size)); clear hb
      go_wp2_with fail
      go_ret
      exact ⟨rfl, B2.out⟩
  · have hS : S.length ≤ 3000 := by omega
    have hcs : cs.length ≤ 80 := by omega
    have hS' : (S.length : Int) ≤ 3000 := by omega
    have hcs' : (cs.length : Int) ≤ 80 := by omega
    clear hbig
    obtain ⟨i1, hi, hz0, hz1, hz2⟩ := info_parts Try.infoSl
    have JI := Lib.hid hi; have JZ0 := Lib.hid hz0; have JZ1 := Lib.hid hz1; have JZ2 := Lib.hid hz2
    clear hi hz0 hz1 hz2
    go_enter Try.func6, Try.ntmps6
    go_wp2_with fail
    refine (HAW.out W).mono ?_
    rintro e w1 ⟨rfl, hb⟩
    have B1 := Lib.hid hb; clear hb
    have N1 := Lib.hid (newGate_ok w1)
    go_wp2_with fail
    refine N1.out.mono ?_
    rintro e1 w2 ⟨rfl, hga, hb⟩
    have B2 := Lib.hid (B1.out.trans (hb.mono B1.out.size))
    have GA2 := Lib.hid hga
    have hgl := hga.hb.lt
    clear hga hb N1
    have RD := Lib.hid (read_any2 W w2 B2.out a0 c0 S HS.out HB.out (by omega) M0.out.1 M0.out.2)
    go_wp2_with fail
    refine RD.out.mono ?_
    rintro e2 w4 ⟨lv, rs, rfl, hR, hrs, hb⟩
    have GA4 := Lib.hid (GA2.out.below hb)
    have B4 := Lib.hid (B2.out.trans (hb.mono B2.out.size))
    have HR := Lib.hid hR; have HRS := Lib.hid hrs; have Q24 := Lib.hid hb
    have hw4 := hb.size
    have hwB := B1.out.size
    clear hR hrs hb GA2 RD
    obtain ⟨la, lc, rfl⟩ := HR.out.vw.shape
    generalize hgb : w1.heap.size = gb at *
    have O0 : Hid (OutM w4 w4.heap.size gb gb (.slice none 0 0) [] (-1) false (.slice none 0 0) [] w4) := OutM.start GA4.out (fun k hk => by cases hk) (by omega)
    clear hgb
    generalize hG : gate S (-1) = GG at *
    have HG := Lib.hid hG
    clear hG
    go_wp2_with fail
    go_loopw [10, 11, 12, 13] (fun yv restv fv iv w => PcRel W w4 gb S cs.length yv restv fv iv w) (fun _ restv _ iv _ => PcMs S cs.length iv restv)
    case atStart => exact ⟨0, 0, a0, c0, _, [], rfl, Nat.zero_le _, rfl, M0.out.1, M0.out.2, HS.out, rfl, O0.out, rfl, .inl (Nat.zero_le _), by omega⟩
    case round =>
      clear O0
      obtain ⟨i, m, ra, rc, rvb, yrs, rfl, hm, rfl, hrc, hrm, hsl, rfl, hO, hyd, hic, hic2⟩ := hrel
      have OO := Lib.hid hO; have YD := Lib.hid hyd; have SL := Lib.hid hsl
      unfold maxLen at hrm
      clear hO hyd hsl
      obtain ⟨ya, yc, rfl⟩ := OO.out.yl.shape
      have hgi := gate_inv (S.take m) (-1) (fun y hy => HB.out y (List.mem_of_mem_take hy)) (by omega) (by omega)
      have hyl : yrs.length ≤ 3000 := by
        have := congrArg List.length YD.out
        rw [List.length_map] at this
        have h2 := hgi.2.2.2.2
        rw [List.length_take] at h2
        omega
      have HGI := Lib.hid hgi
      clear hgi
      obtain ⟨L, hL⟩ : ∃ L, S.length - m = L := ⟨_, rfl⟩
      have HL := Lib.hid hL
      have hL3 : L ≤ 3000 := by omega
      rw [hL] at hrc ⊢
      clear hL
      by_cases hlt : 0 < L
      · have hlt' : (0 : Int) < (L : Int) := by omega
        have hdl : (S.drop m).length = L := by rw [List.length_drop, HL.out]
        obtain ⟨rb, ro, rfl⟩ := pc_some (SL.out 0 ((S.drop m)[0]'(by omega)) (by simp)).1
        have hi0 : (0 : Int) ≤ (i : Int) := by omega
        have hSl2 := hm
        go_upto_if 51 with (fail)
        go_cut [14] (fun nv w => PcCut L cs.length i wr nv w)
        case first =>
          by_cases hi : i < cs.length
          · have hi' : (i : Int) < (cs.length : Int) := by omega
            have B5 : Hid (Below W.heap.size W wr) := Upd.below B4.out OO.out.u B4.out.size fun k hk => by rcases hk with hk | hk <;> omega
            obtain ⟨y, hy, oky, cy⟩ := (H1.out.below B5.out).get (k := i) hi
            have hyB := HC.out y (List.mem_of_getElem? hy.out)
            obtain ⟨hy0, hy1⟩ := hyB
            clear hy
            by_cases hly : (L : Int) ≤ y
            · go_wp2_with fail
              go_meet
              exact ⟨L, by first | rfl | (simp; omega), Nat.le_refl _, .inr rfl, rfl⟩
            · obtain ⟨n, rfl⟩ : ∃ n : Nat, y = (n : Int) := ⟨y.toNat, by omega⟩
              have hyl' : (n : Int) ≤ (L : Int) := by omega
              go_wp2_with fail
              go_meet
              exact ⟨n, by first | rfl | (simp; omega), by omega, .inl hi, rfl⟩
          · have hi' : ¬ (i : Int) < (cs.length : Int) := by omega
            go_wp2_with fail
            go_meet
            exact ⟨L, rfl, Nat.le_refl _, .inr rfl, rfl⟩
        case rest =>
          obtain ⟨n, rfl, hn, hin, rfl⟩ := hcut
          have hPl : ((S.drop m).take n).length = n := by rw [List.length_take]; omega
          have B5 : Hid (Below W.heap.size W wr) := Upd.below B4.out OO.out.u B4.out.size fun k hk => by rcases hk with hk | hk <;> omega
          have CL := cloneByte_any wr (some ⟨rb, ro, none⟩) rc ((S.drop m).take n) ((pc_take SL.out n).below B5.out) (by rw [hPl]; omega)
          rw [hPl] at CL
          have CLH := Lib.hid CL
          have hGM := gate_more S m n
          have HPL := Lib.hid hPl
          have HPB : Hid (IsB ((S.drop m).take n)) := fun y hy => HB.out y (List.mem_of_mem_drop (List.mem_of_mem_take hy))
          obtain ⟨P, hP⟩ : ∃ P, (S.drop m).take n = P := ⟨_, rfl⟩
          rw [hP] at hGM CLH HPL HPB
          obtain ⟨G, hG⟩ : ∃ G, gate (S.take m) (-1) = G := ⟨_, rfl⟩
          rw [hG] at hGM OO YD HGI ⊢
          have GM := Lib.hid hGM
          obtain ⟨A', hA⟩ : ∃ A', (if rc = n then some (⟨rb, ro, none⟩ : Addr) else some ⟨rb, ro + n, none⟩) = A' := ⟨_, rfl⟩
          have NA : Hid (Sl (Value.int .u8) W A' (S.drop (m + n))) := by
            show Sl _ _ _ _
            rw [← hA]
            by_cases e : rc = n
            · have h9 : S.length - m = L := HL.out
              have h10 : S.length ≤ m + n := by omega
              rw [if_pos e, List.drop_eq_nil_of_le h10]
              intro j x hj; simp at hj
            · rw [if_neg e, ← List.drop_drop]
              exact pc_drop SL.out n
          have HAe := Lib.hid hA
          have n0 : (0 : Int) ≤ (n : Int) := by omega
          have n1 : (n : Int) ≤ (rc : Int) := by omega
          have n2 : (n : Int) ≤ (L : Int) := by omega
          have n3 : (L : Int) ≤ (rc : Int) := by omega
          have hgi := HGI.out
          rw [List.length_take] at hgi
          obtain ⟨gi1, gi2, gi3, gi4, gi5⟩ := hgi
          have GI1 := Lib.hid gi1
          clear CL hPl hdl hG hGM hP hA gi1 gi5 HGI SL
          go_wp2_with fail
          refine CLH.out.mono ?_
          rintro e5 w5 ⟨cv, rfl, hcv, hb⟩
          have O5 := Lib.hid (OO.out.below hb)
          have hw5 := hb.size
          have hw45 := OO.out.u.size
          obtain ⟨ca, cc, rfl, hcc⟩ := hcv
          have CS : Hid (Sl (Value.int .u8) w5 ca P) := Rw.sl (n := P.length) (c := cc) ⟨ca, cc, rfl, hcc⟩
          have PA := push_any w5 gb gb rvb G.rest G.last G.bad O5.out.g GI1.out (by omega) gi3 gi4 ca cc P CS.out HPB.out (by rw [HPL.out]; omega) (fun hne hk => by
            rcases hcc with ⟨_, h2, _⟩ | ⟨g, sp, rfl, hg, _⟩
            · exact hne h2
            · have := (OO.out.g.lt hk).2
              have : g < wr.heap.size := this
              omega) (by have := O5.out.gC; omega)
          rw [HPL.out] at PA ⊢
          have PAH := Lib.hid PA
          clear PA hcc hb CLH CS
          go_wp2_with fail
          refine PAH.out.mono ?_
          rintro e6 w6 ⟨zv, zrs, rv', Bz, rfl, hzd, hBz, hzr, hzg, hzo, hzU⟩
          have ZD := Lib.hid hzd; have ZR := Lib.hid hzr; have ZO := Lib.hid hzo
          have O6 := Lib.hid (O5.out.push (by omega) hzg (fun k hk => (hzo k hk).2) hzU)
          have hw6 := hzU.size
          clear hzd hzr hzg hzo hzU PAH
          obtain ⟨za, zc, rfl⟩ := ZR.out.vw.shape
          have hzl : yrs.length + zrs.length ≤ 3000 := by
            have h1 := congrArg List.length YD.out
            have h2 := congrArg List.length ZD.out
            rw [List.length_map] at h1 h2
            have h3 := (gate_inv (S.take (m + n)) (-1) (fun y hy => HB.out y (List.mem_of_mem_take hy)) (by omega) (by omega)).2.2.2.2
            rw [GM.out, List.length_append, List.length_take] at h3
            omega
          obtain ⟨fin, hfin⟩ : ∃ fin, pushF G.bad G.rest P G.last = fin := ⟨_, rfl⟩
          rw [hfin] at GM ZD O6 ⊢
          have FIN := Lib.hid hfin
          have hA := HAe.out
          have hBz' : w4.heap.size ≤ Bz := by omega
          have hyo1 : Hid (∀ k, (Value.slice ya yrs.length yc).ownBlock = some k → k < Bz) := fun k hk => by have := (OO.out.yl.lt hk).2; omega
          have hyo2 : Hid (∀ r ∈ yrs, r.blk < Bz) := fun r hr => by have := OO.out.old hr; omega
          obtain ⟨er, her⟩ : ∃ er, errF G.bad fin.bad = er := ⟨_, rfl⟩
          rw [her]
          have HER := Lib.hid her
          clear hfin gi2 gi3 gi4 her
          go_upto_block 2 with (fail)
          clear hA
          go_cut [12] (fun fv w => PcSw fin.bad w6 fv w)
          case first =>
            have hF := FIN.out
            have hE := HER.out
            cases hb : G.bad with
            | true =>
              rw [hb] at hF hE
              have f1 : fin.bad = true := by rw [← hF]; rfl
              have f2 : zrs.length = 0 := by
                have := congrArg List.length ZD.out
                rw [List.length_map, ← hF] at this
                exact this
              have f3 : ((zrs.length : Int) != 0) = false := by rw [f2]; rfl
              have f4 : (er != 6) = false := by rw [← hE]; rfl
              clear hF hE f2
              go_wp2_with fail
              go_meet
              exact ⟨f1.symm ▸ rfl, rfl⟩
            | false =>
              cases hb2 : fin.bad with
              | true =>
                rw [hb, hb2] at hE
                have f4 : (er == 3) = true := by rw [← hE]; rfl
                clear hF hE
                go_wp2_with fail
                go_meet
                exact ⟨hb2.symm ▸ rfl, rfl⟩
              | false =>
                rw [hb, hb2] at hE
                have f4 : (er == 3) = false := by rw [← hE]; rfl
                have f5 : (er != 0) = false := by rw [← hE]; rfl
                clear hF hE
                go_wp2_with fail
                go_meet
                exact ⟨hb2.symm ▸ rfl, rfl⟩
          case rest =>
            obtain ⟨rfl, rfl⟩ := hcut
            go_wp2_with (at_builtin; refine wpList_append_vw rfl _ _ 54 rfl w4.heap.size 22 i1 _ 24 Try.underlying54 JI.out JZ0.out JZ1.out JZ2.out rfl RwB.val (fun _ => rfl) (.slice ya yrs.length yc) yrs rfl O6.out.yl za zc zrs rfl ZR.out.vw.sl ?c1 ?c2 ?c3 ?_)
            case c1 => unfold maxLen; omega
            case c2 => omega
            case c3 => omega
            intro v' w7 g1 g2 g3
            have O7 := Lib.hid (O6.out.app ZR.out hBz' (fun k hk => (ZO.out k hk).1) hyo1.out hyo2.out g1 g2 g3)
            clear g1 g2 g3
            have YN : Hid ((yrs ++ zrs).map RwB.d = (gate (S.take (m + n)) (-1)).out) := by
              show _ = _
              rw [List.map_append, YD.out, ZD.out, GM.out]
            have ON : Hid (OutM w4 w4.heap.size gb gb rv' (gate (S.take (m + n)) (-1)).rest (gate (S.take (m + n)) (-1)).last (gate (S.take (m + n)) (-1)).bad v' (yrs ++ zrs) w7) := by
              show OutM _ _ _ _ _ _ _ _ _ _ _
              rw [GM.out]
              exact O7.out
            have FB : Hid (fin.bad = (gate (S.take (m + n)) (-1)).bad) := by show _ = _; rw [GM.out]
            have hLm := HL.out
            go_wp2_with fail
            go_roundw
            case rel => exact ⟨i + 1, m + n, A', rc - n, rv', yrs ++ zrs, by go_num, by omega, by rw [show S.length - (m + n) = L - n by omega], by omega, by unfold maxLen; omega, NA.out, by rw [FB.out], ON.out, YN.out, by omega, by omega⟩
            case measure => simp [PcMs]; omega
      · obtain rfl : L = 0 := by omega
        have hmS : m = S.length := by have := HL.out; omega
        subst hmS
        have hO := OO.out
        have hYD := YD.out
        rw [List.take_length, HG.out] at hO hYD ⊢
        have OO2 := Lib.hid hO; have YD2 := Lib.hid hYD
        have B5 : Hid (Below W.heap.size W wr) := Upd.below B4.out OO.out.u B4.out.size fun k hk => by rcases hk with hk | hk <;> omega
        have R2 : RdB w4 la rs := ⟨HR.out.vw.sl, fun r hr => (HR.out.rd r hr).below B4.out⟩
        have hne : ∀ r ∈ yrs, r.d ≠ [] := fun r hr => (OO2.out.yr r hr).2.1
        have hgb2 : gb < wr.heap.size := OO2.out.g.hb.lt
        have SY := same_any wr ya la yc lc yrs rs OO2.out.rd ⟨R2.1.upd OO2.out.u fun hx e => by
            have h1 := HR.out.vw
            have h2 := R2.1.old hx
            obtain ⟨g, o, rfl⟩ := h1.addr hx
            have h3 := (h1.lt (g := g) rfl).1
            have h4 : w2.heap.size ≤ g := h3
            have h5 : g = gb ∨ w4.heap.size ≤ g := e
            have h6 : g < w4.heap.size := h2
            omega, fun r hr => (R2.2 r hr).upd OO2.out.u fun hx e => by
            have h2 := (HR.out.rd r hr).old hx
            have h5 : (r.a.getD default).block = gb ∨ w4.heap.size ≤ (r.a.getD default).block := e
            omega⟩ (YD2.out.trans HRS.out.symm) hne (by unfold maxLen; omega)
        have SYH := Lib.hid SY
        have LA := Lib.hid (last_any wr _ _ _ _ _ _ OO2.out.g)
        clear hO hYD OO YD HGI SY hne
        go_wp2_with fail
        refine SYH.out.mono ?_
        rintro e5 w5 ⟨rfl, hq⟩
        have G5 := Lib.hid (OO2.out.g.below hq.bel)
        have Q5 := Lib.hid hq
        clear hq LA
        have LA := Lib.hid (last_any w5 _ _ _ _ _ _ G5.out)
        have PE := Lib.hid (pending_any w5 _ _ _ _ _ _ G5.out)
        go_wp2_with fail
        refine LA.out.mono ?_
        rintro e6 w6 ⟨rfl, rfl⟩
        go_wp2_with fail
        refine PE.out.mono ?_
        rintro e6 w6 ⟨rfl, rfl⟩
        go_wp2_with fail
        go_ret
        exact ⟨rfl, B5.out.trans (Q5.out.below _)⟩
end Go.Proofs.Ytjljjohoipnhhaa
