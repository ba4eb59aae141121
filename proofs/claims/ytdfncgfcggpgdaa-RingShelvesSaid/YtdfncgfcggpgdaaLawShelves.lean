/-
  The walk of the law RingShelves.
-/
import Derived.Test.YtdfncgfcggpgdaaShMem
import Derived.RegionTactic
import Derived.Deep.DeepCutAuto
namespace Go.Proofs.Ytdfncgfcggpgdaa
open Go.RowKit
set_option linter.unusedVariables false

structure XQ (W : World) (B s : Nat) (rv : Value) (rs : List RSt) (qb : Nat) (qs : List QE) (sp : List Value) (bx : Nat) (xa xb xc : Int) (w : World) : Prop where
  m : SQ W B s rv rs qb qs sp w
  hx : Blk w bx 30 [.int .i64 xa, .int .i64 xb, .int .i64 xc]
  hn : bx ≠ qb
  hf : ¬ shF s rv rs bx
section
variable {W w w' : World} {B s qb bx : Nat} {rv : Value} {rs : List RSt} {qs : List QE} {sp : List Value} {xa xb xc : Int}
theorem XQ.below (h : XQ W B s rv rs qb qs sp bx xa xb xc w) (b : Below w.heap.size w w') : XQ W B s rv rs qb qs sp bx xa xb xc w' :=
  ⟨h.m.below b, h.hx.upd (S := fun _ => False) (Upd.of_below b) id, h.hn, h.hf⟩
theorem XQ.drew (h : XQ W B s rv rs qb qs sp bx xa xb xc w) : XQ W B s rv rs qb qs sp bx xa xb xc w.drew := h.below ((Qt.refl w).drewN 1).bel
theorem XQ.new (h : SQ W B s rv rs qb qs sp w) (xa xb xc : Int) : XQ W B s rv rs qb qs sp w.heap.size xa xb xc (w.alloc (.cells #[.int .i64 xa, .int .i64 xb, .int .i64 xc] 30)) :=
  ⟨h.below ((Below.refl _ _).alloc (Nat.le_refl _) _), Blk.new w _ [.int .i64 xa, .int .i64 xb, .int .i64 xc], by have := h.blk.lt; omega, fun hf => by have := (h.sh.f_lt hf).1; omega⟩
theorem XQ.cells (h : XQ W B s rv rs qb qs sp bx xa xb xc w) : w.cell? ⟨bx, 0, none⟩ = some (.int .i64 xa) ∧ w.cell? ⟨bx, 1, none⟩ = some (.int .i64 xb) ∧ w.cell? ⟨bx, 2, none⟩ = some (.int .i64 xc) := ⟨h.hx.cell rfl, h.hx.cell rfl, h.hx.cell rfl⟩
theorem XQ.store (h : XQ W B s rv rs qb qs sp bx xa xb xc w) {c : Nat} {q : QE} (hq : qs[c]? = some q) {a' : Option Addr} {c' : Nat} {xs' : List Int} (hr : QRow w B q.sl a' c' xs' w') :
    XQ W B s rv rs qb (qs.set c ⟨a', c', q.room, xs'⟩) sp bx xa xb xc ((w'.setCell ⟨qb, c * 2, none⟩ (.int .i64 q.room)).setCell ⟨qb, c * 2 + 1, none⟩ (.slice a' xs'.length c')) := by
  have u : Upd (fun k => k = qb) w' ((w'.setCell ⟨qb, c * 2, none⟩ (.int .i64 q.room)).setCell ⟨qb, c * 2 + 1, none⟩ (.slice a' xs'.length c')) :=
    Upd.setCell (S := fun k => k = qb) (Upd.setCell (S := fun k => k = qb) (Upd.refl _ _) _ _ (fun _ => rfl)) _ _ (fun _ => rfl)
  exact ⟨h.m.store hq hr, (h.below hr.2.2).hx.upd u h.hn, h.hn, h.hf⟩
theorem XQ.turn (h : XQ W B s rv rs qb qs sp bx xa xb xc w) {c : Nat} {r : RSt} (hr : rs[c]? = some r) {xs' : List Int} {v' : Value}
    (hS : ShAt w' B s rv (rs.set c ⟨r.b, r.room, v', xs'⟩)) (u : Upd r.foot w w') (hv : v'.ownBlock = r.v.ownBlock ∨ ∀ g, v'.ownBlock = some g → w.heap.size ≤ g) :
    XQ W B s rv (rs.set c ⟨r.b, r.room, v', xs'⟩) qb qs sp bx xa xb xc w' := by
  have hin : ∀ k, r.foot k → shF s rv rs k := fun k hk => .inr (.inr ⟨c, r, hr, hk⟩)
  have hcl : c < rs.length := by
    rcases Nat.lt_or_ge c rs.length with h | h
    · exact h
    · rw [List.getElem?_eq_none h] at hr; cases hr
  refine ⟨h.m.turn hr hS u hv, h.hx.upd u (fun hf => h.hf (hin _ hf)), h.hn, ?_⟩
  have hlt := h.hx.lt
  rintro (hk | hk2 | ⟨i, p, hp, hf⟩)
  · exact h.hf (.inl hk)
  · exact h.hf (.inr (.inl hk2))
  · rw [List.getElem?_set] at hp
    by_cases e : c = i
    · rw [if_pos e, if_pos hcl] at hp
      obtain rfl := Option.some.inj hp
      rcases hf with hf | hf
      · exact h.hf (hin _ (.inl hf))
      · rcases hv with hv | hv
        · exact h.hf (hin _ (.inr (by rw [← hv]; exact hf)))
        · have := hv _ hf; omega
    · rw [if_neg e] at hp
      exact h.hf (.inr (.inr ⟨i, p, hp, hf⟩))
end

theorem qown_shape {w : World} {base n : Nat} {e : TypeId} {v : Value} {xs : List Value} (h : w.ownsRow base e 2 v n xs) : ∃ a c, v = .slice a n c := by
  obtain ⟨_, ⟨rfl, rfl⟩ | ⟨g, cap, cur, rfl, _⟩⟩ := h
  · exact ⟨none, 0, rfl⟩
  · exact ⟨_, _, rfl⟩
theorem qs_succ {zs : List Int} {k m : Nat} (h : zs[k]? = some (m : Int)) : qsT zs k ++ [.int .i64 m, .slice none 0 0] = qsT zs (k + 1) := by
  unfold qsT
  rw [List.take_add_one, h, List.map_append, qc_app]
  simp [qc, new0, QE.sl]

set_option maxHeartbeats 64000000 in
set_option maxRecDepth 100000 in
theorem ringShelves_walk (W : World) (a0 : Option Addr) (c0 : Nat) (zs : List Int) (s0 : SlI W a0 zs) (g0 : ∀ y ∈ zs, IntOk .i64 y) (m0 : zs.length ≤ maxLen)
    (a1 : Option Addr) (c1 : Nat) (l : List I3) (s1 : Sl3 W a1 l) (g1 : ∀ x ∈ l, IntOk .i64 (I3.a x) ∧ IntOk .i64 x.b ∧ IntOk .i64 x.c) (m1 : l.length ≤ maxLen) :
    Calls Try.prog 9 #[.slice a0 zs.length c0, .slice a1 l.length c1] W fun e W' => e = .returned (.bool true) ∧ Below W.heap.size W W' := by
  have HAW := Lib.hid awake_ok
  have S0 := Lib.hid s0
  have S1 := Lib.hid s1
  clear s0 g0 m0 s1 g1 m1
  generalize hn : zs.length = n at *
  have HN := Lib.hid hn; clear hn
  go_enter Try.func9, Try.ntmps9
  go_wp2_with fail
  refine (HAW.out W).mono ?_
  rintro e w1 ⟨rfl, hb⟩
  have B1 := Lib.hid hb; clear hb
  by_cases hbig : (300 : Int) < l.length
  · go_wp2_with fail
    refine (HAW.out w1).mono ?_
    rintro e w2 ⟨rfl, hb⟩
    have B2 := Lib.hid (B1.out.trans (hb.mono B1.out.size)); clear hb
    go_wp2_with fail
    go_ret
    exact ⟨rfl, B2.out⟩
  by_cases hbig2 : (300 : Int) < n
  · go_wp2_with fail
    refine (HAW.out w1).mono ?_
    rintro e w2 ⟨rfl, hb⟩
    have B2 := Lib.hid (B1.out.trans (hb.mono B1.out.size)); clear hb
    go_wp2_with fail
    go_ret
    exact ⟨rfl, B2.out⟩
  have hn3 : n ≤ 300 := by omega
  have hl3 : l.length ≤ 300 := by omega
  have HL3 := Lib.hid hl3
  cases hfit : fitsB zs with
  | false =>
    have NS := newshelf_bad w1 a0 c0 zs (S0.out.below B1.out) (by rw [HN.out]; omega) hfit
    rw [HN.out] at NS
    have NS1 := Lib.hid NS
    clear NS
    go_wp2_with fail
    refine NS1.out.mono ?_
    rintro e w2 ⟨rfl, hb⟩
    have B2 := Lib.hid (B1.out.trans (hb.mono B1.out.size)); clear hb
    have FT := fits_any w2 a0 c0 zs (S0.out.below B2.out) (by rw [HN.out]; omega)
    rw [HN.out, hfit] at FT
    have FT1 := Lib.hid FT
    clear FT hfit
    go_wp2_with fail
    refine FT1.out.mono ?_
    rintro e w3 ⟨rfl, rfl⟩
    go_wp2_with fail
    go_ret
    exact ⟨rfl, B2.out⟩
  | true =>
  have hF := hfit
  unfold fitsB at hF
  obtain ⟨hF1, hF4, hFz⟩ := of_decide_eq_true hF
  have HFZ := Lib.hid hFz
  have NS := newshelf_ok w1 a0 c0 zs (S0.out.below B1.out) hF1 hF4 hFz
  rw [HN.out] at NS hF1 hF4
  have NS1 := Lib.hid NS
  clear NS hF hFz
  go_wp2_with fail
  refine NS1.out.mono ?_
  rintro e w2 ⟨rfl, ⟨rv, rs0, hsh, hqs⟩, hb⟩
  have SH := Lib.hid hsh; have QS := Lib.hid hqs
  have B2 := Lib.hid (B1.out.trans (hb.mono B1.out.size))
  have hB1 := B1.out.size
  have hB12 : w1.heap.size ≤ w2.heap.size := hb.size
  have FT := fits_any w2 a0 c0 zs (S0.out.below B2.out) (by rw [HN.out]; omega)
  rw [HN.out, hfit] at FT
  have FT1 := Lib.hid FT
  clear FT hfit hsh hqs hb NS1
  generalize hBB : w1.heap.size = B at *
  clear hBB
  go_wp2_with fail
  refine FT1.out.mono ?_
  rintro e w3 ⟨rfl, rfl⟩
  obtain ⟨i0, hi, hz0, hz1, hz2⟩ := info_parts Try.infoQu
  have HI := Lib.hid hi; have HZ0 := Lib.hid hz0; have HZ1 := Lib.hid hz1; have HZ2 := Lib.hid hz2
  obtain ⟨i1, hi, hz0, hz1, hz2⟩ := info_parts Try.infoRI
  have JI := Lib.hid hi; have JZ0 := Lib.hid hz0; have JZ1 := Lib.hid hz1; have JZ2 := Lib.hid hz2
  clear hi hz0 hz1 hz2 FT1
  go_wp2_with fail
  go_loopw [7, 55] (fun v i w => QsRel W w2 zs v i w) (fun _ i _ => n - (intOf i).toNat)
  case atStart => exact ⟨0, Nat.zero_le _, rfl, ⟨by simp [qsT, qc], .inl ⟨rfl, rfl⟩⟩, Below.refl _ _⟩
  case round =>
    obtain ⟨k, hk, rfl, hown, hB⟩ := hrel
    have OWN := Lib.hid hown; have HB := Lib.hid hB
    have hk' : k ≤ n := by rw [HN.out] at hk; exact hk
    clear hown hB hk
    obtain ⟨al, cl, rfl⟩ := qown_shape OWN.out
    by_cases hlt : k < n
    · obtain ⟨z, ez, okz, cz⟩ := (S0.out.below (B2.out.trans (HB.out.mono B2.out.size))).get (k := k) (by rw [HN.out]; exact hlt)
      obtain ⟨hz1, hz64⟩ := HFZ.out z (List.mem_of_getElem? ez.out)
      obtain ⟨m, rfl⟩ := Int.eq_ofNat_of_zero_le (show 0 ≤ z by omega)
      have htk := Lib.hid (qs_succ ez.out)
      have hbs := HB.out.size
      go_wp2_with (at_builtin; refine wpList_append_own _ rfl _ _ 78 rfl w2.heap.size 51 i0 _ 2 32 Try.underlying78 HI.out HZ0.out HZ1.out HZ2.out rfl (by decide) _ k (qsT zs k) rfl ?c0 ⟨wr.heap.size, 0, none⟩ 1 1 [.int .i64 m, .slice none 0 0] rfl ?c1 ?c2 ?c3 ?c4 ?c5 ?c6 ?_)
      case c0 => exact OWN.out.alloc _
      case c1 => rfl
      case c2 =>
        intro j u hj
        have hbn := Blk.new wr 51 [.int .i64 m, .slice none 0 0]
        rw [add_eq _ _ rfl]
        have := hbn.cell hj
        simpa using this
      case c3 => intro u hu; simp at hu; rcases hu with rfl | rfl <;> rfl
      case c4 => unfold maxLen; omega
      case c5 => omega
      case c6 => simp; omega
      intro v' w3 hown' hgr hnil
      have B3 : Hid (Below w2.heap.size w2 w3) := ((HB.out.alloc hbs _).grown hgr (by simp; omega) (fun j hj => (own_lt OWN.out hj).2))
      rw [htk.out] at hown'
      have OWN3 := Lib.hid hown'
      clear hown' hgr hnil htk
      go_wp2_with fail
      go_roundw
      case rel => exact ⟨k + 1, by rw [HN.out]; omega, by go_num, OWN3.out, B3.out⟩
      case measure => simp [intOf]; omega
    · obtain rfl : k = n := by omega
      have hall : zs.take k = zs := List.take_of_length_le (by rw [HN.out]; exact Nat.le_refl _)
      unfold qsT at OWN
      rw [hall] at OWN
      obtain ⟨qb, sp, cq, hv, hqb, hM, hnn⟩ := qown_blk OWN.out (by intro e; have := congrArg List.length e; simp [HN.out] at this; omega)
      obtain ⟨rfl, rfl⟩ : al = some ⟨qb, 0, none⟩ ∧ cl = cq := by simpa using hv
      have hq0 : ∀ (i : Nat) (q : QE), (zs.map new0)[i]? = some q → q.sl = .slice none 0 0 ∧ q.xs = [] := by
        intro i q hq
        rw [List.getElem?_map] at hq
        cases hz : zs[i]? with
        | none => rw [hz] at hq; cases hq
        | some z => rw [hz] at hq; simp at hq; subst hq; exact ⟨rfl, rfl⟩
      have M0 : Hid (SQ W B B rv rs0 qb (zs.map new0) sp wr) :=
        ⟨SH.out.below HB.out, hM, fun i q hq => by obtain ⟨e1, e2⟩ := hq0 i q hq; rw [e1, e2]; exact Rw.nil _ _ _ _, fun hf => by have := (SH.out.f_lt hf).1; omega,
          fun i q hq g hg => by rw [(hq0 i q hq).1] at hg; simp [Value.ownBlock] at hg, B2.out.trans (HB.out.mono B2.out.size), hB1, by omega⟩
      have E0 : Hid (qeOf (zs.map new0) = qsOf rs0) := by
        show _ = _
        rw [QS.out, List.take_of_length_le (by rw [HN.out]; exact Nat.le_refl _)]
        simp [qeOf, new0, List.map_map, Function.comp_def]
      have L0 : Hid ((zs.map new0).length = k) := by show _ = _; rw [List.length_map]; exact HN.out
      clear OWN hM hnn hv hq0 hall SH QS HB hqb hB12 hlt hk'
      go_wp2_with fail
      go_loopw [67] (fun i w => SqRel W B B rv qb k sp l.length i w) (fun i _ => l.length - (intOf i).toNat)
      case atStart => exact ⟨0, rs0, _, Nat.zero_le _, rfl, M0.out, E0.out, L0.out⟩
      case round =>
        clear M0 E0 L0
        obtain ⟨j, rs, qs, hj, rfl, hS, hE, hL⟩ := hrel
        have SQ0 := Lib.hid hS; have E0 := Lib.hid hE; have L0 := Lib.hid hL
        clear hS hE hL
        have hrl : rs.length = k := by
          have := congrArg List.length E0.out
          simp only [qeOf, qsOf, List.length_map] at this
          rw [← this]; exact L0.out
        have RL := Lib.hid hrl; clear hrl
        by_cases hlt : j < l.length
        · obtain ⟨x, ex, okx, cx1, cx2, cx3⟩ := (S1.out.below SQ0.out.bel).get (k := j) hlt
          obtain ⟨xa, xb, xc⟩ := x
          dsimp only at cx1 cx2 cx3
          have XN := Lib.hid (XQ.new SQ0.out xa xb xc)
          obtain ⟨u0, u1, u2⟩ := XN.out.cells
          clear ex
          by_cases hout : xb < 0 ∨ (k : Int) ≤ xb
          · as_aux_lemma =>
              have HO : Hid (xb < 0 ∨ (rs.length : Int) ≤ xb) := by show _ ∨ _; rw [RL.out]; exact hout
              have TK := Lib.hid (shtake_out _ B B rv rs xb XN.out.m.sh HO.out (by rw [RL.out]; omega))
              have PK := Lib.hid (shpeek_out _ B B rv rs xb XN.out.m.sh HO.out (by rw [RL.out]; omega))
              have PT := Lib.hid (shput_out _ B B rv rs xb xc XN.out.m.sh HO.out (by rw [RL.out]; omega))
              have hcase : Hid (decide (xb < 0) = true ∨ (decide (xb < 0) = false ∧ decide ((k : Int) ≤ xb) = true)) := by
                show _ ∨ _
                by_cases h : xb < 0
                · left; simpa using h
                · right; exact ⟨by simpa using h, by simp; omega⟩
              clear hout HO
              rcases hcase.out with hc1 | ⟨hc1, hc2⟩
              all_goals
                clear hcase
                go_wp2_with fail
                refine TK.out.mono ?_
                rintro e w3 ⟨rfl, rfl⟩
                go_wp2_with fail
                refine PK.out.mono ?_
                rintro e w3 ⟨rfl, rfl⟩
                go_wp2_with fail
                refine PT.out.mono ?_
                rintro e w3 ⟨rfl, rfl⟩
                go_wp2_with fail
                go_roundw
                case rel => exact ⟨j + 1, rs, qs, by omega, by go_num, XN.out.m, E0.out, L0.out⟩
                case measure => simp [intOf]; omega
          · have hx0 : 0 ≤ xb := by omega
            have hxk : xb < k := by omega
            obtain ⟨c, rfl⟩ := Int.eq_ofNat_of_zero_le hx0
            have hck : c < k := by omega
            obtain ⟨q, r, HQ, HR, e1, e2⟩ := qe_get E0.out (c := c) (by rw [RL.out]; exact hck)
            clear hout hx0
            go_upto_block 4 with (fail)
            generalize wr.alloc (.cells #[.int .i64 xa, .int .i64 c, .int .i64 xc] 30) = wa at *
            generalize wr.heap.size = bx at *
            obtain ⟨qa, qcp, room, xs⟩ := q
            obtain ⟨rb, rm, rvv, ys⟩ := r
            dsimp only at e1 e2
            subst e1 e2
            have hsz := XN.out.m.sh.hs.lt
            have hroom := (XN.out.m.sh.rings c _ HR.out).2.2
            dsimp only at hroom
            have hrow := XN.out.m.row c _ HQ.out
            dsimp only [QE.sl] at hrow
            have ROW := Lib.hid hrow
            have HRM := Lib.hid hroom
            clear hrow hroom
            go_cut [16, 17, 18, 19] (fun a b d e w => ∃ (v : Int) (o : Bool) (rs' : List RSt) (qs' : List QE), a = .int .i64 v ∧ b = .bool o ∧ d = .int .i64 v ∧ e = .bool o ∧ SQ W B B rv rs' qb qs' sp w ∧ qeOf qs' = qsOf rs' ∧ qs'.length = k)
            case first =>
              have b0 : (0 : Int) ≤ (c : Int) := by omega
              have b1 : (c : Int) < (k : Int) := by omega
              obtain ⟨y0, y1⟩ := qblk XN.out.m.blk HQ.out
              dsimp only [QE.sl] at y0 y1
              have RLE : rs.length ≤ 1000 := by rw [RL.out]; omega
              have RLH := Lib.hid RLE
              by_cases h0 : xa = 0
              · as_aux_lemma =>
                  subst h0
                  have RP : Hid (∀ w, XQ W B B rv rs qb qs sp bx 0 c xc w → Calls Try.prog 23 #[.agg #[.int .i64 (room : Int), .slice qa xs.length qcp], .int .i64 xc] w fun e w' =>
                      ∃ a' c', e = .returned (.tuple #[.agg #[.int .i64 (room : Int), .slice a' (putXs room xs xc).length c'], .int .i64 (putRes room xs)]) ∧ XQ W B B rv rs qb qs sp bx 0 c xc w' ∧
                        XQ W B B rv rs qb (qs.set c ⟨a', c', room, putXs room xs xc⟩) sp bx 0 c xc ((w'.setCell ⟨qb, c * 2, none⟩ (.int .i64 room)).setCell ⟨qb, c * 2 + 1, none⟩ (.slice a' (putXs room xs xc).length c'))) := by
                    intro w h
                    refine (rput_any w B room qa qcp xs xc (h.m.row c _ HQ.out) (by have := HRM.out; omega) (by have := h.m.sh.hs.lt; omega)).mono ?_
                    rintro e w' ⟨a', c', rfl, hr⟩
                    exact ⟨a', c', rfl, h.below hr.2.2, h.store HQ.out hr⟩
                  have PT : Hid (∀ (qs' : List QE) w, XQ W B B rv rs qb qs' sp bx 0 c xc w → Calls Try.prog 35 #[.pointer (some ⟨B, 0, none⟩), .int .i64 c, .int .i64 xc] w fun e w' =>
                      e = .returned (.int .i64 (putRes room xs)) ∧ ∃ v', XQ W B B rv (rs.set c ⟨rb, room, v', putXs room xs xc⟩) qb qs' sp bx 0 c xc w') := by
                    intro qs' w h
                    refine (shput_any w B B rv rs c _ xc h.m.sh HR.out RLH.out (by have := h.m.sh.hs.lt; omega)).mono ?_
                    rintro e w' ⟨v', rfl, h1, h2, h3⟩
                    exact ⟨rfl, v', h.turn HR.out h1 h2 h3⟩
                  generalize putXs room xs xc = tl at RP PT
                  generalize putRes room xs = er at RP PT
                  go_wp2_with fail
                  go_region_law (first | (go_simp; go_at_call 23; refine (RP.out _ (by first | exact XN.out | exact XN.out.drew)).mono ?_; rintro e w5 ⟨a', c', rfl, h5, h6⟩; have H5 := Lib.hid h5; have H6 := Lib.hid h6; clear h5 h6 u0 u1 u2 y0 y1; have u0 := H5.out.cells.1; have u1 := H5.out.cells.2.1; have u2 := H5.out.cells.2.2; have y0 := (qblk H5.out.m.blk HQ.out).1; have y1 := (qblk H5.out.m.blk HQ.out).2; have f0 := H5.out.m.blk.free (c * 2); have f1 := H5.out.m.blk.free (c * 2 + 1)))
                  all_goals
                    clear u0 u1 u2 y0 y1 f0 f1
                    generalize ((w5.setCell ⟨qb, c * 2, none⟩ (.int .i64 room)).setCell ⟨qb, c * 2 + 1, none⟩ (.slice a' tl.length c')) = w6 at *
                    obtain ⟨u0, u1, u2⟩ := H6.out.cells
                    go_wp2_with fail
                    refine (PT.out _ _ H6.out).mono ?_
                    rintro e w7 ⟨rfl, v', h7⟩
                    have H7 := Lib.hid h7; clear h7 u0 u1 u2
                    go_wp2_with fail
                    go_meet
                    exact ⟨0, false, _, _, rfl, rfl, rfl, rfl, H7.out.m, qe_set E0.out _ _ _ _ _ _ _, by rw [List.length_set]; exact L0.out⟩
              · have k0 : (xa == 0) = false := by simpa using h0
                clear h0
                have RT : Hid (∀ w, XQ W B B rv rs qb qs sp bx xa c xc w → Calls Try.prog 25 #[.agg #[.int .i64 (room : Int), .slice qa xs.length qcp]] w fun e w' =>
                    ∃ a' c', e = .returned (.tuple #[.agg #[.int .i64 (room : Int), .slice a' xs.tail.length c'], .int .i64 (xs.headD 0), .bool (!xs.isEmpty)]) ∧ XQ W B B rv rs qb qs sp bx xa c xc w' ∧
                      XQ W B B rv rs qb (qs.set c ⟨a', c', room, xs.tail⟩) sp bx xa c xc ((w'.setCell ⟨qb, c * 2, none⟩ (.int .i64 room)).setCell ⟨qb, c * 2 + 1, none⟩ (.slice a' xs.tail.length c'))) := by
                  intro w h
                  refine (rtake_any w B room qa qcp xs (h.m.row c _ HQ.out) (by have := HRM.out; omega) (by have := h.m.sh.hs.lt; omega)).mono ?_
                  rintro e w' ⟨a', c', rfl, hr⟩
                  exact ⟨a', c', rfl, h.below hr.2.2, h.store HQ.out hr⟩
                have ST : Hid (∀ (qs' : List QE) w, XQ W B B rv rs qb qs' sp bx xa c xc w → Calls Try.prog 36 #[.pointer (some ⟨B, 0, none⟩), .int .i64 c] w fun e w' =>
                    e = .returned (.tuple #[.int .i64 (xs.headD 0), .bool (!xs.isEmpty)]) ∧ ∃ v', XQ W B B rv (rs.set c ⟨rb, room, v', xs.tail⟩) qb qs' sp bx xa c xc w') := by
                  intro qs' w h
                  refine (shtake_any w B B rv rs c _ h.m.sh HR.out RLH.out).mono ?_
                  rintro e w' ⟨v', rfl, h1, h2, h3⟩
                  exact ⟨by rw [takeRes_eq], v', h.turn HR.out h1 h2 h3⟩
                have SP : Hid (∀ (qs' : List QE) w, XQ W B B rv rs qb qs' sp bx xa c xc w → Calls Try.prog 37 #[.pointer (some ⟨B, 0, none⟩), .int .i64 c] w fun e w' =>
                    e = .returned (.tuple #[.int .i64 (xs.headD 0), .bool (!xs.isEmpty)]) ∧ w = w') := by
                  intro qs' w h
                  refine (shpeek_any w B B rv rs c _ h.m.sh HR.out RLH.out).mono ?_
                  rintro e w' ⟨rfl, h1⟩
                  exact ⟨by rw [takeRes_eq], h1⟩
                generalize xs.tail = tl at RT ST
                generalize xs.headD 0 = hd at RT ST SP
                generalize (!xs.isEmpty) = ok at RT ST SP
                by_cases h1 : xa = 1
                · as_aux_lemma =>
                    subst h1
                    go_wp2_with fail
                    go_region_law (first | (go_simp; go_at_call 25; refine (RT.out _ (by first | exact XN.out | exact XN.out.drew)).mono ?_; rintro e w5 ⟨a', c', rfl, h5, h6⟩; have H5 := Lib.hid h5; have H6 := Lib.hid h6; clear h5 h6 u0 u1 u2 y0 y1; have u0 := H5.out.cells.1; have u1 := H5.out.cells.2.1; have u2 := H5.out.cells.2.2; have y0 := (qblk H5.out.m.blk HQ.out).1; have y1 := (qblk H5.out.m.blk HQ.out).2; have f0 := H5.out.m.blk.free (c * 2); have f1 := H5.out.m.blk.free (c * 2 + 1)))
                    all_goals
                      clear u0 u1 u2 y0 y1 f0 f1
                      generalize ((w5.setCell ⟨qb, c * 2, none⟩ (.int .i64 room)).setCell ⟨qb, c * 2 + 1, none⟩ (.slice a' tl.length c')) = w6 at *
                      obtain ⟨u0, u1, u2⟩ := H6.out.cells
                      go_wp2_with fail
                      refine (ST.out _ _ H6.out).mono ?_
                      rintro e w7 ⟨rfl, v', h7⟩
                      have H7 := Lib.hid h7; clear h7 u0 u1 u2
                      go_wp2_with fail
                      go_meet
                      exact ⟨hd, ok, _, _, rfl, rfl, rfl, rfl, H7.out.m, qe_set E0.out _ _ _ _ _ _ _, by rw [List.length_set]; exact L0.out⟩
                · have k1 : (xa == 1) = false := by simpa using h1
                  clear h1
                  by_cases h2 : xa = 2
                  · as_aux_lemma =>
                      subst h2
                      go_wp2_with fail
                      refine (RT.out _ XN.out).mono ?_
                      rintro e w5 ⟨a', c', rfl, h5, -⟩
                      have H5 := Lib.hid h5
                      clear h5 u0 u1 u2 y0 y1
                      obtain ⟨u0, u1, u2⟩ := H5.out.cells
                      go_wp2_with fail
                      refine (SP.out _ _ H5.out).mono ?_
                      rintro e w7 ⟨rfl, rfl⟩
                      go_wp2_with fail
                      go_meet
                      exact ⟨hd, ok, _, _, rfl, rfl, rfl, rfl, H5.out.m, E0.out, L0.out⟩
                  · as_aux_lemma =>
                      have k2 : (xa == 2) = false := by simpa using h2
                      clear h2
                      go_wp2_with fail
                      go_meet
                      exact ⟨0, false, _, _, rfl, rfl, rfl, rfl, XN.out.m, E0.out, L0.out⟩
            case rest =>
              as_aux_lemma =>
                obtain ⟨v, o, rs', qs', rfl, rfl, rfl, rfl, hS, hE, hL⟩ := hcut
                clear XN HQ HR ROW HRM u0 u1 u2 E0 L0 SQ0 RL
                have S1 := Lib.hid hS; have E1 := Lib.hid hE; have L1 := Lib.hid hL
                have hrl : rs'.length = k := by
                  have := congrArg List.length hE
                  simp only [qeOf, qsOf, List.length_map] at this
                  rw [← this]; exact hL
                have hll : (lensOf rs').length = k := by unfold lensOf; rw [List.length_map]; exact hrl
                have RL1 := Lib.hid hrl; have LL1 := Lib.hid hll
                clear hS hE hL hrl hll
                have e1 : (v != v) = false := by simp
                have e2 : (o != o) = false := by simp
                have QL := Lib.hid (qe_lens E1.out)
                generalize hls : lensOf rs' = ls at *
                have HLS := Lib.hid hls; clear hls
                go_wp2_with fail
                go_loopw [21, 187] (fun lv i w => LnRel wc ls lv i w) (fun _ i _ => k - (intOf i).toNat)
                case atStart => exact ⟨0, Nat.zero_le _, rfl, ⟨by simp, .inl ⟨rfl, rfl⟩⟩, Below.refl _ _⟩
                case round =>
                  obtain ⟨d, hd, rfl, hown, hB⟩ := hrel
                  have OWN := Lib.hid hown; have HB := Lib.hid hB
                  have hd' : d ≤ k := by rw [LL1.out] at hd; exact hd
                  clear hown hB hd
                  obtain ⟨al, ca, rfl, _⟩ := own_shape OWN.out
                  by_cases hdk : d < k
                  · have SR := Lib.hid (S1.out.below HB.out)
                    obtain ⟨q, r, hq, hr, f1, f2⟩ := qe_get E1.out (c := d) (by rw [RL1.out]; exact hdk)
                    have hq := hq.out
                    have hm := (SR.out.sh.rings d r hr.out).2.2
                    rw [← f2] at hm
                    replace hm : q.xs.length ≤ 64 := by omega
                    obtain ⟨y0, y1⟩ := qblk SR.out.blk hq
                    have hbs := HB.out.size
                    have hld : ls[d]? = some (q.xs.length : Int) := by rw [← QL.out, List.getElem?_map, hq]; rfl
                    have htk : Hid ((ls.take d).map (Value.int .i64) ++ [.int .i64 q.xs.length] = (ls.take (d + 1)).map (Value.int .i64)) := by
                      show _ = _
                      rw [List.take_add_one, List.map_append, hld]
                      rfl
                    obtain ⟨qa, qcp, room, xs⟩ := q
                    dsimp only [QE.sl] at y0 y1 htk hm
                    generalize hxl : xs.length = m at *
                    clear hq hld hxl SR hr f1 f2
                    generalize hdr : (ls.take d).map (Value.int .i64) = dr at *
                    clear hdr
                    go_wp2_with (at_builtin; refine wpList_append_own _ rfl _ _ 49 rfl wc.heap.size 3 i1 _ 1 8 Try.underlying49 JI.out JZ0.out JZ1.out JZ2.out rfl (by decide) _ d dr rfl ?c0 ⟨wr.heap.size + 1, 0, none⟩ 1 1 [.int .i64 m] rfl ?c1 ?c2 ?c3 ?c4 ?c5 ?c6 ?_)
                    case c0 => exact (OWN.out.alloc _).alloc _
                    case c1 => rfl
                    case c2 =>
                      intro j u hj
                      have hbn := Blk.new (wr.alloc (.cells #[.int .i64 room, .slice qa m qcp] 51)) 3 [.int .i64 m]
                      rw [add_eq _ _ rfl]
                      have := hbn.cell hj
                      simpa using this
                    case c3 => intro u hu; simp at hu; subst hu; rfl
                    case c4 => unfold maxLen; omega
                    case c5 => omega
                    case c6 => simp; omega
                    intro v' w3 hown' hgr hnil
                    have B3 : Hid (Below wc.heap.size wc w3) := (((HB.out.alloc hbs _).alloc (by simp; omega) _).grown hgr (by simp; omega) (fun j hj => (own_lt OWN.out hj).2))
                    rw [htk.out] at hown'
                    have OWN3 := Lib.hid hown'
                    clear hown' hgr hnil htk
                    go_wp2_with fail
                    go_roundw
                    case rel => exact ⟨d + 1, by rw [LL1.out]; omega, by go_num, OWN3.out, B3.out⟩
                    case measure => simp [intOf]; omega
                  · obtain rfl : d = k := by omega
                    have hown := OWN.out
                    rw [List.take_of_length_le (by rw [LL1.out]; exact Nat.le_refl _)] at hown
                    have RW := Lib.hid (Rw.of_own hown)
                    have SR := Lib.hid (S1.out.below HB.out)
                    have LE := Lib.hid (lens_any wr B B rv rs' SR.out.sh (by rw [RL1.out]; omega))
                    clear hown hdk OWN
                    go_wp2_with fail
                    refine LE.out.mono ?_
                    rintro e w5 ⟨lv, rfl, hrow, hb5⟩
                    obtain ⟨a5, c5, rfl, -⟩ := own_shape hrow.own
                    have R5 := Lib.hid hrow; have B5 := Lib.hid hb5
                    have EQ : Hid (Calls Try.prog 31 #[.slice a5 ls.length c5, .slice al d ca] w5 fun e w' => e = .returned (.bool true) ∧ Qt w5 w') := by
                      have := equalInt_any w5 a5 al c5 ca ls ls (by have := R5.out.sl; rw [HLS.out] at this; exact this) (by have h1 := RW.out.sl; exact h1.below B5.out) (by rw [LL1.out]; unfold maxLen; omega)
                      rw [LL1.out] at this ⊢
                      exact this.mono fun e w' h => ⟨by rw [h.1]; simp, h.2⟩
                    have S5 := Lib.hid (SR.out.below B5.out)
                    rw [HLS.out, LL1.out] at *
                    clear hrow hb5
                    go_wp2_with fail
                    refine EQ.out.mono ?_
                    rintro e w6 ⟨rfl, hq⟩
                    have S6 := Lib.hid (S5.out.below hq.bel)
                    clear hq
                    go_wp2_with fail
                    go_roundw
                    case rel => exact ⟨j + 1, rs', qs', by omega, by go_num, S6.out, E1.out, L1.out⟩
                    case measure => simp [intOf]; omega
        · obtain rfl : j = l.length := by omega
          go_wp2_with fail
          go_ret
          exact ⟨rfl, SQ0.out.bel⟩
end Go.Proofs.Ytdfncgfcggpgdaa
