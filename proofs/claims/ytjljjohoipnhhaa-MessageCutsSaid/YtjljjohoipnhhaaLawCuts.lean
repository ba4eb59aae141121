/-
  MessageCuts: the walk.
-/
import Derived.Test.YtjljjohoipnhhaaCutsP
import Derived.Test.YtjljjohoipnhhaaGateO
import Derived.Test.YtjljjohoipnhhaaAwake
import Derived.Test.YtjljjohoipnhhaaOpen
namespace Go.Proofs.Ytjljjohoipnhhaa
open Go.RowKit
set_option linter.unusedVariables false

theorem rows_rd {w : World} {a : Option Addr} {x : List (RowOf Int)} (s : Sl RowOf.val w a x) (g : ∀ r ∈ x, Sl (Value.int .u8) w (RowOf.a r) r.xs ∧ (∀ y ∈ r.xs, IntOk .u8 y) ∧ r.xs.length ≤ maxLen) :
    ∃ rs : List RwB, x.length = rs.length ∧ RdB w a rs ∧ ∀ r ∈ rs, IsB r.d ∧ r.d.length ≤ maxLen := by
  refine ⟨x.map fun r => ⟨r.a, r.c, r.xs⟩, by simp, ⟨?_, ?_⟩, ?_⟩
  · intro j r hj
    rw [List.getElem?_map] at hj
    obtain ⟨y, hy, rfl⟩ := Option.map_eq_some_iff.1 hj
    exact s j y hy
  · intro r hr
    obtain ⟨y, hy, rfl⟩ := List.mem_map.1 hr
    exact (g y hy).1
  · intro r hr
    obtain ⟨y, hy, rfl⟩ := List.mem_map.1 hr
    refine ⟨fun z hz => ?_, (g y hy).2.2⟩
    have := (g y hy).2.1 z hz
    simpa [Lit.wf, IntOk, IntKind.min, IntKind.max, IntKind.signed, IntKind.bits] using this
theorem okAd_some {a : Option Addr} (h : okAd a = true) : ∃ b o, a = some ⟨b, o, none⟩ := by
  match a, h with
  | some ⟨b, o, s⟩, h =>
    simp [okAd] at h
    subst h
    exact ⟨b, o, rfl⟩
theorem sl_take {α : Type} {f : α → Value} {w : World} {a : Option Addr} {xs : List α} (h : Sl f w a xs) (m : Nat) : Sl f w a (xs.take m) := by
  intro j x hj
  rw [List.getElem?_take] at hj
  split at hj
  · exact h j x hj
  · cases hj
def dsT (rs : List RwB) (j : Nat) : List (List Int) := (rs.take j).map RwB.d
theorem dsT_succ {rs : List RwB} {j : Nat} {r : RwB} (h : rs[j]? = some r) : dsT rs (j + 1) = dsT rs j ++ [r.d] := by
  unfold dsT
  rw [List.take_add_one, h, List.map_append]
  rfl
theorem dsT_len {rs : List RwB} {j : Nat} (h : j ≤ rs.length) : (dsT rs j).length = j := by unfold dsT; rw [List.length_map, List.length_take]; omega
theorem gate_snoc {S : List Int} (hb : ∀ n, (gate (S.take n) (-1)).bad = false) {i : Nat} {y : Int} (h : S[i]? = some y) :
    (pushO (gate (S.take i) (-1)).rest [y] (gate (S.take i) (-1)).last).bad = false ∧
    gate (S.take (i + 1)) (-1) = ⟨(gate (S.take i) (-1)).out ++ (pushO (gate (S.take i) (-1)).rest [y] (gate (S.take i) (-1)).last).out, (pushO (gate (S.take i) (-1)).rest [y] (gate (S.take i) (-1)).last).rest, (pushO (gate (S.take i) (-1)).rest [y] (gate (S.take i) (-1)).last).last, false⟩ := by
  have e : S.take (i + 1) = S.take i ++ [y] := by rw [List.take_add_one, h]; rfl
  have h1 := gate_app (S.take i) [y] (-1)
  rw [if_neg (by rw [hb i]; decide), ← e] at h1
  have h2 := hb (i + 1)
  have h3 : (gate ((gate (S.take i) (-1)).rest ++ [y]) (gate (S.take i) (-1)).last).bad = false := by
    have := congrArg GS.bad h1
    rw [h2] at this
    exact this.symm
  refine ⟨h3, ?_⟩
  rw [h3] at h1
  exact h1
theorem sl_at {α : Type} {f : α → Value} {w : World} {g o : Nat} {xs : List α} (h : Sl f w (some ⟨g, o, none⟩) xs) {i : Nat} {y : α} (hy : xs[i]? = some y) : Sl f w (some ⟨g, o + i, none⟩) [y] := by
  intro q x hq
  have hlq := get_lt hq
  obtain rfl : q = 0 := by simp at hlq; exact hlq
  simp at hq
  subst hq
  have := (h i y hy).2
  rw [adr_mk] at this
  refine ⟨rfl, ?_⟩
  rw [adr_mk, Nat.add_zero]
  exact this
theorem RowsAt.rdU {S : Nat → Prop} {w w' : World} {B n c : Nat} {a : Option Addr} {rs : List RwB} (h : RowsAt w B (.slice a n c) rs) (u : Upd S w w') (hs : ∀ k, B ≤ k → k < w.heap.size → ¬ S k) : RdB w' a rs := by
  refine ⟨h.vw.sl.upd u fun hne => ?_, fun r hr => (h.rd r hr).1.upd u fun hne => hs _ (h.rd r hr).2.2 (h.old hr)⟩
  obtain ⟨g, o, rfl⟩ := h.vw.addr hne
  have := h.vw.lt (g := g) rfl
  exact hs _ this.1 this.2
def CyRel (w4 : World) (gb : Nat) (S : List Int) (yv iv : Value) (w : World) : Prop :=
  ∃ (i : Nat) (rvb : Value) (yrs : List RwB), i ≤ S.length ∧ iv = .int .i64 i ∧ OutM w4 w4.heap.size gb gb rvb (gate (S.take i) (-1)).rest (gate (S.take i) (-1)).last false yv yrs w ∧ yrs.map RwB.d = (gate (S.take i) (-1)).out
def CtRel (W : World) (rs : List RwB) (sv ev iv : Value) (w : World) : Prop :=
  ∃ (j : Nat) (e : Nat), j ≤ rs.length ∧ iv = .int .i64 j ∧ ev = .int .i64 e ∧ e = (strm 0 (dsT rs (j - 1))).length ∧ Good (dsT rs j) ∧ Vw (Value.int .u8) 5 w W.heap.size sv (strm 0 (dsT rs j)) ∧ Below W.heap.size W w

set_option maxHeartbeats 32000000 in
set_option maxRecDepth 100000 in
theorem messageCuts_walk (W : World) (a0 : Option Addr) (c0 : Nat) (x0 : List (RowOf Int)) (s0 : Sl RowOf.val W a0 x0) (g0 : ∀ r ∈ x0, Sl (Value.int .u8) W (RowOf.a r) r.xs ∧ (∀ y ∈ r.xs, IntOk .u8 y) ∧ r.xs.length ≤ maxLen) (m0 : x0.length ≤ maxLen) (mc0 : x0.length ≤ c0 ∧ c0 ≤ maxLen) (less : Int) (w1 : IntOk .u8 less) :
    Calls Try.prog 7 #[.slice a0 x0.length c0, .int .u8 less] W fun e W' => e = .returned (.bool true) ∧ Below W.heap.size W W' := by
  have hle : 0 ≤ less ∧ less ≤ 255 := by simpa [Lit.wf, IntOk, IntKind.min, IntKind.max, IntKind.signed, IntKind.bits] using w1
  obtain ⟨hle0, hle1⟩ := hle
  obtain ⟨rs, hrs, hRD, hRI⟩ := rows_rd s0 g0
  rw [hrs] at m0 mc0 ⊢
  have MC := Lib.hid mc0
  clear s0 g0 w1 hrs x0 mc0
  have HAW := Lib.hid awake_ok
  have RD := Lib.hid hRD; have RI := Lib.hid hRI; have MX := Lib.hid m0
  unfold maxLen at m0
  clear hRD hRI
  by_cases hn : 20 < rs.length
  · have e1 : (20 : Int) < (rs.length : Int) := by omega
    clear hn
    generalize rs.length = n at *
    go_enter Try.func7, Try.ntmps7
    go_wp2_with fail
    refine (HAW.out W).mono ?_
    rintro e w1 ⟨rfl, hb⟩
    have B1 := Lib.hid hb; clear hb
    go_wp2_with fail
    refine (HAW.out w1).mono ?_
    rintro e w2 ⟨rfl, hb⟩
    have B2 := Lib.hid (B1.out.trans (hb.mono B1.out.size)); clear hb
    go_wp2_with fail
    go_ret
    exact ⟨rfl, B2.out⟩
  · have hn20 : rs.length ≤ 20 := by omega
    clear hn m0
    obtain ⟨i0, hi, hz0, hz1, hz2⟩ := info_parts Try.infoByte
    have HI := Lib.hid hi; have HZ0 := Lib.hid hz0; have HZ1 := Lib.hid hz1; have HZ2 := Lib.hid hz2
    clear hi hz0 hz1 hz2
    go_enter Try.func7, Try.ntmps7
    go_wp2_with fail
    refine (HAW.out W).mono ?_
    rintro e w1 ⟨rfl, hb⟩
    have B1 := Lib.hid hb; clear hb
    go_wp2_with fail
    go_loopw [5, 6, 31] (fun sv ev iv w => CtRel W rs sv ev iv w) (fun _ _ iv _ => rs.length - (intOf iv).toNat)
    case atStart => exact ⟨0, 0, Nat.zero_le _, rfl, rfl, rfl, (fun d hd => by cases hd), Vw.nil _ _ _ _, B1.out⟩
    case round =>
      obtain ⟨j, e, hj, rfl, rfl, he, hG, hV, hB⟩ := hrel
      have HE := Lib.hid he; have HG := Lib.hid hG; have HV := Lib.hid hV; have HB := Lib.hid hB
      clear he hG hV hB
      obtain ⟨sa, sc, rfl⟩ := HV.out.shape
      by_cases hlt : j < rs.length
      · obtain ⟨r, hr⟩ : ∃ r, rs[j]? = some r := ⟨rs[j], by simp [hlt]⟩
        have HR := Lib.hid hr
        obtain ⟨oka, cr⟩ := (RD.out.1.below HB.out) j r hr
        unfold RwB.val at cr
        obtain ⟨hrB, hrm⟩ := RI.out r (List.mem_of_getElem? hr)
        have RB := Lib.hid hrB
        unfold maxLen at hrm
        clear hr hrB
        by_cases hbad : r.d.length < 1 ∨ 100 < r.d.length
        · have hc : (r.d.length : Int) < 1 ∨ ((1 : Int) ≤ (r.d.length : Int) ∧ (100 : Int) < (r.d.length : Int)) := by omega
          clear hbad
          rcases hc with hc | ⟨hc0, hc⟩
          all_goals
            go_wp2_with fail
            go_ret
            exact ⟨rfl, HB.out⟩
        · have l1 : (1 : Int) ≤ (r.d.length : Int) := by omega
          have l2 : (r.d.length : Int) ≤ 100 := by omega
          have l3 : r.d.length ≤ 100 := by omega
          have l4 : 1 ≤ r.d.length := by omega
          have hB1 := HB.out.size
          have FM := form_any wr (3 * j + 1) (by omega) r.a r.c r.d ((RD.out.2 r (List.mem_of_getElem? HR.out)).below HB.out) (by omega)
          rw [show ((3 * j + 1 : Nat) : Int) = 3 * (j : Int) + 1 by omega] at FM
          have FMH := Lib.hid FM
          have GS' : Hid (Good (dsT rs (j + 1))) := by
            show Good _
            rw [dsT_succ HR.out]
            intro d hd
            rcases List.mem_append.1 hd with hd | hd
            · exact HG.out d hd
            · obtain rfl := List.mem_singleton.1 hd
              exact ⟨l4, l3, RB.out⟩
          have hsl := strm_len 0 _ HG.out
          rw [dsT_len hj] at hsl
          have ST : Hid (strm 0 (dsT rs j) ++ form (3 * j + 1) r.d = strm 0 (dsT rs (j + 1))) := by
            show _ = _
            rw [dsT_succ HR.out, strm_snoc, dsT_len hj]
          obtain ⟨T, hT⟩ : ∃ T, strm 0 (dsT rs j) = T := ⟨_, rfl⟩
          rw [hT] at HV ST hsl ⊢
          have HT := Lib.hid hT
          clear FM hbad hT
          go_wp2_with fail
          refine FMH.out.mono ?_
          rintro e' w3 ⟨fv, rfl, hfv, hfb⟩
          obtain ⟨fa, fc, rfl⟩ := hfv.shape
          have FS := Lib.hid hfv.sl
          have B3 := Lib.hid (HB.out.trans (hfb.mono HB.out.size))
          have V3 := Lib.hid (HV.out.below hfb)
          have hB3 := hfb.size
          have hfl : (form (3 * j + 1) r.d).length = r.d.length + 5 := form_len _ _
          clear hfv hfb
          go_wp2_with (at_builtin; refine wpList_append_vw rfl _ _ 22 rfl W.heap.size 5 i0 _ 1 Try.underlying22 HI.out HZ0.out HZ1.out HZ2.out rfl (Value.int .u8) (fun _ => rfl) (.slice sa T.length sc) T rfl V3.out fa fc (form (3 * j + 1) r.d) rfl FS.out ?c1 ?c2 ?c3 ?_)
          case c1 => unfold maxLen; omega
          case c2 => omega
          case c3 => omega
          intro v' w4 g1 g2 g3
          have V4 := g1
          rw [ST.out] at V4
          have VH := Lib.hid V4
          have B4 : Hid (Below W.heap.size W w4) := Upd.below B3.out g2 (by omega) fun k hk => (V3.out.lt hk).1
          clear g1 g2 g3 V4
          go_wp2_with fail
          go_roundw
          case rel => exact ⟨j + 1, T.length, by omega, by go_num, rfl, by rw [Nat.add_sub_cancel, HT.out], GS'.out, VH.out, B4.out⟩
          case measure => simp [intOf]; omega
      · obtain rfl : j = rs.length := by omega
        have hD : dsT rs rs.length = rs.map RwB.d := by unfold dsT; rw [List.take_length]
        obtain ⟨D, hDD⟩ : ∃ D, rs.map RwB.d = D := ⟨_, rfl⟩
        have hG := HG.out
        have hV := HV.out
        rw [hD, hDD] at hG hV ⊢
        have hDl : D.length = rs.length := by rw [← hDD, List.length_map]
        have HDD := Lib.hid hDD; have HDL := Lib.hid hDl; have HGD := Lib.hid hG
        have GA := Lib.hid (gate_all D hG (by omega))
        have sB := Lib.hid (strm_isB 0 D hG (by omega))
        have hsl := strm_len 0 D hG
        obtain ⟨S, hS⟩ : ∃ S, strm 0 D = S := ⟨_, rfl⟩
        have HS := Lib.hid hS
        have SV := Lib.hid (hS ▸ hV)
        rw [hS] at GA sB hsl ⊢
        have hsl2 : S.length ≤ 2100 := by omega
        clear hD hDD hG hV hDl hS hsl HV HG hlt
        have hwB := HB.out.size
        have N1 := Lib.hid (newGate_ok wr)
        go_wp2_with fail
        refine N1.out.mono ?_
        rintro e1 w2 ⟨rfl, hga, hb⟩
        have B2 := Lib.hid (HB.out.trans (hb.mono HB.out.size))
        have V2 := Lib.hid (SV.out.below hb)
        have GA2 := Lib.hid hga
        have hs2 := hb.size
        have hgl := hga.hb.lt
        clear hga hb N1
        have N2 := Lib.hid (newGate_ok w2)
        go_wp2_with fail
        refine N2.out.mono ?_
        rintro e2 w3 ⟨rfl, hgb, hb⟩
        have B3 := Lib.hid (B2.out.trans (hb.mono B2.out.size))
        have V3 := Lib.hid (V2.out.below hb)
        have GA3 := Lib.hid (GA2.out.below hb)
        have GB3 := Lib.hid hgb
        have hs3 := hb.size
        have hgl3 := hgb.hb.lt
        clear hgb hb N2
        obtain ⟨lA, hlA⟩ : ∃ lA, (if D = [] then (-1 : Int) else 3 * (D.length : Int) - 2) = lA := ⟨_, rfl⟩
        have HLA := Lib.hid hlA
        have hfin : pushO [] S (-1) = ⟨D, [], lA, false⟩ := by
          unfold pushO
          rw [List.nil_append, GA.out, hlA]
        have hSold : S ≠ [] → (sa.getD default).block < wr.heap.size := fun hne => SV.out.sl.old hne
        have HSO := Lib.hid hSold
        have PA := Lib.hid (push_ok w3 _ _ _ _ _ GA3.out (fun y hy => by cases hy) (by simp) (by omega) (by omega) sa sc S V3.out.sl sB.out (by omega) (fun hne hk => by
          have := HSO.out hne
          rcases hk with hk | hk
          · omega
          · cases hk) (by omega))
        rw [hfin] at PA
        clear hlA hfin hSold
        go_wp2_with fail
        refine PA.out.mono ?_
        rintro e3 w4 hP
        obtain ⟨xv, xrs, rva, Bx, rfl, hxd, hBx, hxr, hxg, hxo, hxU⟩ := puPost_ok hP rfl
        have XD := Lib.hid hxd; have XR := Lib.hid hxr; have XG := Lib.hid hxg; have XO := Lib.hid hxo; have XU := Lib.hid hxU
        clear hP hxd hxr hxg hxo hxU PA
        obtain ⟨xa, xc, rfl⟩ := XR.out.vw.shape
        obtain ⟨i1, hi, hz0, hz1, hz2⟩ := info_parts Try.infoSl
        have JI := Lib.hid hi; have JZ0 := Lib.hid hz0; have JZ1 := Lib.hid hz1; have JZ2 := Lib.hid hz2
        clear hi hz0 hz1 hz2
        have hs4 := XU.out.size
        have GB4 : Hid (GateAt w4 w2.heap.size w2.heap.size (.slice none 0 0) [] (-1) false) := GB3.out.upd XU.out (fun e => by
          rcases e with e | e
          · omega
          · cases e) (fun k hk => by cases hk)
        have V4 : Hid (Vw (Value.int .u8) 5 w4 W.heap.size (.slice sa S.length sc) S) := V3.out.upd XU.out (fun g hg e => by
          have := (SV.out.lt hg).2
          rcases e with e | e
          · omega
          · cases e)
        have SOW : Hid (∀ g, (Value.slice sa S.length sc).ownBlock = some g → g < wr.heap.size) := fun g hg => (SV.out.lt hg).2
        have B4 : Hid (Below W.heap.size W w4) := Upd.below B3.out XU.out (by omega) fun k hk => by
          rcases hk with hk | hk
          · omega
          · cases hk
        have GT : Hid (∀ n, (gate (S.take n) (-1)).bad = false) := fun n => by
          rw [← HS.out]; exact gate_take D HGD.out (by have := HDL.out; omega) n
        have O0 : Hid (OutM w4 w4.heap.size w2.heap.size w2.heap.size (.slice none 0 0) [] (-1) false (.slice none 0 0) [] w4) := OutM.start GB4.out (fun k hk => by cases hk) (by omega)
        clear GB3 GA3 GA2 V2 V3 B2 B3
        go_wp2_with fail
        go_loopw [13, 64] (fun yv iv w => CyRel w4 w2.heap.size S yv iv w) (fun _ iv _ => S.length - (intOf iv).toNat)
        case atStart => exact ⟨0, _, [], Nat.zero_le _, rfl, O0.out, rfl⟩
        case round =>
          clear O0 GB4
          obtain ⟨i, rvb, yrs, hi, rfl, hO, hyd⟩ := hrel
          have OO := Lib.hid hO; have YD := Lib.hid hyd
          clear hO hyd
          obtain ⟨ya, yc, rfl⟩ := OO.out.yl.shape
          have hw4 := OO.out.u.size
          have V5 : Hid (Vw (Value.int .u8) 5 _ W.heap.size (.slice sa S.length sc) S) := V4.out.upd OO.out.u (fun g hg e => by
            have := SOW.out g hg
            rcases e with e | e <;> omega)
          have hgi := gate_inv (S.take i) (-1) (fun y hy => sB.out y (List.mem_of_mem_take hy)) (by omega) (by omega)
          have hyl : yrs.length ≤ 2100 := by
            have := congrArg List.length YD.out
            rw [List.length_map] at this
            have h2 := hgi.2.2.2.2
            rw [List.length_take] at h2
            omega
          by_cases hlt : i < S.length
          · obtain ⟨y, hy⟩ : ∃ y, S[i]? = some y := ⟨S[i], by simp [hlt]⟩
            obtain ⟨sn1, sn2⟩ := gate_snoc GT.out hy
            have SN2 := Lib.hid sn2
            obtain ⟨sg, so, rfl⟩ := V5.out.addr (by intro e; rw [e] at hlt; simp at hlt)
            have hsc : S.length ≤ sc := by
              rcases V5.out with ⟨e, _⟩ | ⟨g', o', c', e, _, _, h3, h4, _⟩
              · cases e
              · cases e; exact h3
            have hic : ¬ i = sc := by omega
            have hic' : ¬ sc = i := by omega
            have hi1 : i + 1 - i = 1 := by omega
            have hxs : (i : Int) + 1 ≤ (sc : Int) := by omega
            have hxs0 : (i : Int) ≤ (i : Int) + 1 := by omega
            have hyB := sB.out y (List.mem_of_getElem? hy)
            have hsg := SOW.out sg rfl
            have SY := sl_at V5.out.sl hy
            have hil : (gate (S.take i) (-1)).rest.length ≤ 2100 := by
              have := hgi.2.1
              rw [List.length_take] at this
              omega
            have PB := Lib.hid (push_ok _ _ _ _ _ _ OO.out.g hgi.1 (by omega) hgi.2.2.1 hgi.2.2.2.1 (some ⟨sg, so + i, none⟩) (sc - i) [y] SY (fun z hz => by
              obtain rfl := List.mem_singleton.1 hz
              exact hyB) (by simp) (fun _ hk => by
                rcases hk with hk | hk
                · have : sg = w2.heap.size := hk
                  omega
                · have := OO.out.go _ hk
                  have : w4.heap.size ≤ sg := this
                  omega) (by omega))
            have SN1 := Lib.hid sn1
            clear sn1 sn2 SY hgi hil hyB
            go_wp2_with fail
            refine PB.out.mono ?_
            rintro e5 w6 hP
            obtain ⟨zv, zrs, rvb', Bz, rfl, hzd, hBz, hzr, hzg, hzo, hzU⟩ := puPost_ok hP SN1.out
            have ZD := Lib.hid hzd; have ZR := Lib.hid hzr
            have O6 := Lib.hid (OO.out.push hw4 hzg (fun k hk => (hzo k hk).2) hzU)
            have ZO := Lib.hid hzo
            have hw6 := hzU.size
            clear hP hzd hzr hzg hzU PB hzo
            obtain ⟨za, zc, rfl⟩ := ZR.out.vw.shape
            have hzl : yrs.length + zrs.length ≤ 2100 := by
              have h1 := congrArg List.length YD.out
              have h2 := congrArg List.length ZD.out
              rw [List.length_map] at h1 h2
              have h3 := (gate_inv (S.take (i + 1)) (-1) (fun y hy => sB.out y (List.mem_of_mem_take hy)) (by omega) (by omega)).2.2.2.2
              rw [SN2.out, List.length_append, List.length_take] at h3
              omega
            have hBz' : w4.heap.size ≤ Bz := by omega
            have hyo1 : Hid (∀ k, (Value.slice ya yrs.length yc).ownBlock = some k → k < Bz) := fun k hk => by have := (OO.out.yl.lt hk).2; omega
            have hyo2 : Hid (∀ r ∈ yrs, r.blk < Bz) := fun r hr => by have := OO.out.old hr; omega
            go_wp2_with (at_builtin; refine wpList_append_vw rfl _ _ 54 rfl w4.heap.size 22 i1 _ 24 Try.underlying54 JI.out JZ0.out JZ1.out JZ2.out rfl RwB.val (fun _ => rfl) (.slice ya yrs.length yc) yrs rfl O6.out.yl za zc zrs rfl ZR.out.vw.sl ?c1 ?c2 ?c3 ?_)
            case c1 => unfold maxLen; omega
            case c2 => omega
            case c3 => omega
            intro v' w7 g1 g2 g3
            have O7 := Lib.hid (O6.out.app ZR.out hBz' (fun k hk => (ZO.out k hk).1) hyo1.out hyo2.out g1 g2 g3)
            clear g1 g2 g3
            have YN : Hid ((yrs ++ zrs).map RwB.d = (gate (S.take (i + 1)) (-1)).out) := by
              show _ = _
              rw [List.map_append, YD.out, ZD.out, SN2.out]
            have ON : Hid (OutM w4 w4.heap.size w2.heap.size w2.heap.size rvb' (gate (S.take (i + 1)) (-1)).rest (gate (S.take (i + 1)) (-1)).last false v' (yrs ++ zrs) w7) := by
              show OutM _ _ _ _ _ _ _ _ _ _ _
              rw [SN2.out]
              exact O7.out
            go_wp2_with fail
            go_roundw
            case rel => exact ⟨i + 1, rvb', yrs ++ zrs, by omega, by go_num, ON.out, YN.out⟩
            case measure => simp [intOf]; omega
          · obtain rfl : i = S.length := by omega
            have hO := OO.out
            have hYD := YD.out
            rw [List.take_length, GA.out, HLA.out] at hO hYD
            have OO2 := Lib.hid hO; have YD2 := Lib.hid hYD
            have XRD := Lib.hid (XR.out.rdU OO.out.u (fun k h1 h2 e => by
              rcases e with e | e <;> omega))
            have hB4 := B4.out.size
            have BN := Lib.hid (Upd.below B4.out OO.out.u hB4 (fun k hk => by
              rcases hk with hk | hk <;> omega))
            have LRD := Lib.hid (RD.out.below BN.out)
            have GAN := Lib.hid (XG.out.upd OO.out.u (fun e => by
              rcases e with e | e <;> omega) (fun k hk e => by
              have h1 := (XG.out.hr.lt hk).2
              have h2 := (XO.out k hk).2
              rcases h2 with h2 | h2
              · cases h2
              · rcases e with e | e <;> omega))
            have hxl : xrs.length = rs.length := by
              have := congrArg List.length XD.out
              rw [List.length_map] at this
              rw [this, HDL.out]
            have hyl2 : yrs.length = rs.length := by
              have := congrArg List.length YD2.out
              rw [List.length_map] at this
              rw [this]; exact HDL.out
            have PSA := Lib.hid (pending_any _ _ _ _ _ _ _ GAN.out)
            have PSB := Lib.hid (pending_any _ _ _ _ _ _ _ OO2.out.g)
            have LSA := Lib.hid (last_any _ _ _ _ _ _ _ GAN.out)
            have SX := Lib.hid (same_any _ xa a0 xc c0 xrs rs XRD.out LRD.out (by rw [XD.out]; exact HDD.out.symm) (fun r hr => (XR.out.rd r hr).2.1) (by unfold maxLen; omega))
            have SYS := Lib.hid fun w (q : Qt _ w) => same_any w ya a0 yc c0 yrs rs (OO2.out.rd.below q.bel) (LRD.out.below q.bel) (by rw [YD2.out]; exact HDD.out.symm) (fun r hr => (OO2.out.yr r hr).2.1) (by unfold maxLen; omega)
            have HXL := Lib.hid hxl; have HYL := Lib.hid hyl2
            clear PSA PSB LSA
            clear hyl hgi hxl hyl2
            go_wp2_with fail
            refine SX.out.mono ?_
            rintro e7 w8 ⟨rfl, hq8⟩
            have Q8 := Lib.hid hq8; clear hq8
            go_wp2_with fail
            refine (SYS.out _ Q8.out).mono ?_
            rintro e8 w9 ⟨rfl, hq9⟩
            have Q9 := Lib.hid (Q8.out.trans hq9); clear hq9
            have GA9 := Lib.hid (GAN.out.below Q9.out.bel)
            have GB9 := Lib.hid (OO2.out.g.below Q9.out.bel)
            have PSA := Lib.hid (pending_any w9 _ _ _ _ _ _ GA9.out)
            have PSB := Lib.hid (pending_any w9 _ _ _ _ _ _ GB9.out)
            have LSA := Lib.hid (last_any w9 _ _ _ _ _ _ GA9.out)
            go_wp2_with fail
            refine PSA.out.mono ?_
            rintro e9 w10 ⟨rfl, rfl⟩
            go_wp2_with fail
            refine PSB.out.mono ?_
            rintro e9 w10 ⟨rfl, rfl⟩
            go_wp2_with fail
            refine LSA.out.mono ?_
            rintro e9 w10 ⟨rfl, rfl⟩
            have B9 := Lib.hid (BN.out.trans (Q9.out.below _))
            by_cases hn0 : rs.length = 0
            · have hlA : lA = -1 := by rw [← HLA.out, if_pos (List.eq_nil_of_length_eq_zero (by rw [HDL.out]; exact hn0))]
              subst hlA
              rw [hn0] at *
              go_wp2_with fail
              refine LSA.out.mono ?_
              rintro e9 w10 ⟨rfl, rfl⟩
              go_wp2_with fail
              go_ret
              exact ⟨rfl, B9.out⟩
            · have hlA : lA = 3 * (rs.length : Int) - 2 := by
                rw [← HLA.out, if_neg (by intro e; have := HDL.out; rw [e] at this; simp at this; omega), HDL.out]
              obtain ⟨q, hq⟩ : ∃ q, rs.length = q + 1 := ⟨rs.length - 1, by omega⟩
              obtain ⟨r, hr⟩ : ∃ r, rs[q]? = some r := ⟨rs[q]'(by omega), by simp⟩
              have hds := dsT_succ hr
              rw [← hq] at hds
              have hDD2 : D = dsT rs q ++ [r.d] := by rw [← hds, ← HDD.out]; unfold dsT; rw [List.take_length]
              have he2 : e = (strm 0 (dsT rs q)).length := by rw [HE.out, hq]; rfl
              have hSl : S.length = e + (r.d.length + 5) := by rw [← HS.out, hDD2, strm_snoc, List.length_append, form_len, he2]
              obtain ⟨hg1, hg2, hg3⟩ := HGD.out r.d (by rw [hDD2]; simp)
              have HD2 := Lib.hid hDD2; have HE2 := Lib.hid he2; have HQ := Lib.hid hq; have HR2 := Lib.hid hr; have HG3 := Lib.hid hg3
              have eS : (S.length : Int) - (e : Int) = (r.d.length : Int) + 5 := by omega
              have hkk0 : 0 ≤ less % ((r.d.length : Int) + 5) := Int.emod_nonneg _ (by omega)
              have hkk1 : less % ((r.d.length : Int) + 5) < (r.d.length : Int) + 5 := Int.emod_lt_of_pos _ (by omega)
              have hSL := Lib.hid hSl
              have hpos : 0 < rs.length := by omega
              have hn1 : ¬ rs.length = 0 := hn0
              clear hds hDD2 he2 hq hr hg3 hSl
              subst hlA
              go_upto_region 29 with (fail)
              obtain ⟨kk, hkk⟩ : ∃ kk : Nat, 1 + less % ((r.d.length : Int) + 5) = (kk : Int) := ⟨(1 + less % ((r.d.length : Int) + 5)).toNat, by omega⟩
              have hk1 : 1 ≤ kk := by omega
              have hk2 : kk ≤ r.d.length + 5 := by omega
              rw [hkk]
              clear hkk hkk0 hkk1
              have hqr : q + 1 ≤ c0 := by have := MC.out.1; rw [HQ.out] at this; exact this
              obtain ⟨lb, lo, rfl⟩ := okAd_some (RD.out.1 q r HR2.out).1
              obtain ⟨sg, so, rfl⟩ := V5.out.addr (by intro e; have := hSL.out; rw [e] at this; simp at this)
              have hsc : S.length ≤ sc := by
                rcases V5.out with ⟨e, _⟩ | ⟨g', o', c', e, _, _, h3, h4, _⟩
                · cases e
                · cases e; exact h3
              have hSL2 := hSL.out
              obtain ⟨m, hm⟩ : ∃ m, S.length = m + kk := ⟨S.length - kk, by omega⟩
              have htl : (S.take m).length = m := by rw [List.length_take]; omega
              have GL := gate_less (dsT rs q) r.d (by rw [← HD2.out]; exact HGD.out) (by rw [dsT_len (by have := HQ.out; omega)]; have := HQ.out; omega) kk hk1 hk2
              rw [← HD2.out, HS.out, show S.length - kk = m by omega, ← HE2.out] at GL
              obtain ⟨gl1, gl2, gl3⟩ := GL
              have GL1 := Lib.hid gl1; have GL3 := Lib.hid gl3
              have em : (S.length : Int) - (kk : Int) = (m : Int) := by omega
              have em0 : (0 : Int) ≤ (m : Int) := by omega
              have em1 : (m : Int) ≤ (sc : Int) := by omega
              have em2 : e ≤ m := by omega
              have hm2 : m ≤ 2100 := by omega
              have eq0 : (rs.length : Int) - 1 = (q : Int) := by have := HQ.out; omega
              have eq1 : (0 : Int) ≤ (q : Int) := by omega
              have eq2 : (q : Int) ≤ (c0 : Int) := by omega
              have hsg := ((V5.out.below Q9.out.bel).lt (g := sg) rfl).2
              have hsl := sl_take V5.out.sl m
              have SLT := Lib.hid hsl
              have hqt : (rs.take q).length = q := by rw [List.length_take]; have := HQ.out; omega
              have HQT := Lib.hid hqt; have HTL := Lib.hid htl
              clear hSL2 hm gl1 gl3 hsl htl hqt hqr hsc
              clear LSA PSA PSB SX SYS
              have N3 := Lib.hid (newGate_ok w9)
              go_wp2_with fail
              refine N3.out.mono ?_
              rintro e10 w10 ⟨rfl, hgc, hb⟩
              have hs9 := B9.out.size
              have hs10 := hb.size
              have B10 := Lib.hid (B9.out.trans (hb.mono B9.out.size))
              have L10 := Lib.hid ((LRD.out.below Q9.out.bel).below hb)
              have S10 := Lib.hid ((SLT.out.below Q9.out.bel).below hb)
              have PC := push_ok w10 _ _ _ _ _ hgc (fun y hy => by cases hy) (by simp) (by omega) (by omega) (some ⟨sg, so, none⟩) sc (S.take m) S10.out (fun y hy => sB.out y (List.mem_of_mem_take hy)) (by rw [HTL.out]; omega) (fun _ hk => by
                rcases hk with hk | hk
                · have : sg = w9.heap.size := hk
                  omega
                · cases hk) (by omega)
              rw [HTL.out] at PC
              have PCH := Lib.hid PC
              clear PC hgc hb N3
              go_wp2_with fail
              refine PCH.out.mono ?_
              rintro e11 w11 hP
              obtain ⟨zv, zrs, rvc, Bz, rfl, hzd, hBz, hzr, hzg, hzo, hzU⟩ := puPost_ok hP GL3.out
              have hB10 := B10.out.size
              have B11 : Hid (Below W.heap.size W w11) := Upd.below B10.out hzU hB10 fun k hk => by
                rcases hk with hk | hk
                · have : k = w9.heap.size := hk
                  omega
                · cases hk
              have hnl : ∀ k, k < w9.heap.size → ¬ gateS w9.heap.size (.slice none 0 0) k := by
                intro k hk h
                rcases h with h | h
                · omega
                · cases h
              have L11 : RdB w11 (some ⟨lb, lo, none⟩) (rs.take q) := by
                refine ⟨sl_take (L10.out.1.upd hzU fun hne => hnl _ ?_) q, fun x hx => (L10.out.2 x (List.mem_of_mem_take hx)).upd hzU fun hne => hnl _ ?_⟩
                · exact (LRD.out.below Q9.out.bel).1.old hne
                · exact ((LRD.out.below Q9.out.bel).2 x (List.mem_of_mem_take hx)).old hne
              obtain ⟨za, zc, rfl⟩ := hzr.vw.shape
              obtain ⟨Rc, hRc⟩ : ∃ Rc, (pushO [] (S.take m) (-1)).rest = Rc := ⟨_, rfl⟩
              rw [hRc] at hzg
              have hRl : Rc.length = m - e := by rw [← hRc]; exact gl2
              have GCH := Lib.hid hzg
              have SZ := same_any w11 za (some ⟨lb, lo, none⟩) zc c0 zrs (rs.take q) ⟨hzr.vw.sl, fun x hx => (hzr.rd x hx).1⟩ L11 (hzd.trans GL1.out) (fun x hx => (hzr.rd x hx).2.1) (by
                have := congrArg List.length (hzd.trans GL1.out)
                rw [List.length_map, dsT_len (by have := HQ.out; omega)] at this
                unfold maxLen; have := HQ.out; omega)
              rw [HQT.out] at SZ
              have SZH := Lib.hid SZ
              clear hP hzd hzr hzg hzo hzU hRc SZ L11 hnl gl2 PCH
              have hpe : ((Rc.length : Int) == (m : Int) - (e : Int)) = true := by
                have : (Rc.length : Int) = (m : Int) - (e : Int) := by omega
                simpa using this
              generalize hpl : Rc.length = pl at *
              have HPL := Lib.hid hpl
              clear hpl hRl
              go_wp2_with fail
              refine SZH.out.mono ?_
              rintro e12 w12 ⟨rfl, hq12⟩
              have Q12 := Lib.hid hq12; clear hq12
              have PD := pending_any w12 _ _ _ _ _ _ (GCH.out.below Q12.out.bel)
              rw [HPL.out] at PD
              have PDH := Lib.hid PD
              clear PD
              go_wp2_with fail
              refine PDH.out.mono ?_
              rintro e13 w13 ⟨rfl, rfl⟩
              go_wp2_with fail
              go_ret
              exact ⟨rfl, B11.out.trans (Q12.out.below _)⟩
end Go.Proofs.Ytjljjohoipnhhaa
