/-
  slices.Delete of one flight.
  slices.EqualFunc at rows of bytes that are alike.
-/
import Derived.Test.YtkaaoomliepijaaGreatQRv
import Derived.Test.YtkaaoomliepijaaGreatQHd
import Derived.Test.YtkaaoomliepijaaGreatQGateD
namespace Go.Proofs.YtkaaoomliepijaaGreat
open Go.RowKit
set_option linter.unusedVariables false

theorem Tryz.infoFl : (Tryz.prog.info? 38).map (fun i => (i.zero, i.size, i.bytes)) = some (some (.agg #[.int .i64 0, .slice none 0 0]), 2, 32) := by kernel_rfl
/-- A flight: its place, where its code lies, the code. -/
structure Fl where
  pl : Nat
  a : Option Addr
  c : Nat
  d : List Int
def flV (x : Fl) : List Value := [.int .i64 x.pl, .slice x.a x.d.length x.c]
theorem flV_len (x : Fl) : (flV x).length = 2 := rfl
theorem flV_one (x : Fl) : ∀ u ∈ flV x, u.oneCell' = true := by
  intro u hu
  simp only [flV, List.mem_cons, List.not_mem_nil, or_false] at hu
  rcases hu with rfl | rfl <;> rfl
theorem run_clear_cells {P : Program} (w : World) (t e ty : TypeId) (z : Value) (Z : List Value) (ht : P.underlying t = some (.slice e)) (hv : ∀ w, (zeroValue e).run P w = .ok z w) (b o n c : Nat) (hn : 0 < n) (hZ : (Builtin.zeroCells z.cells n).toList = Z)
    (h1 : ∀ v ∈ Z, v.oneCell' = true) (hc : ∀ j, j < Z.length → (w.cell? ⟨b, o + j, none⟩).isSome = true) (hf : ∀ j, j < Z.length → w.frozen? ⟨b, o + j, none⟩ = false) :
    (Builtin.clear_ #[t] ty #[.slice (some ⟨b, o, none⟩) n c]).run P w = .ok (.tuple #[]) (w.setCells b o Z) := by
  have hst := run_storeCells_cells (P := P) b o Z 0 w (by simpa using hc) (by simpa using hf) h1
  simp only [Nat.add_zero] at hst
  obtain ⟨m, rfl⟩ : ∃ m, n = m + 1 := ⟨n - 1, by omega⟩
  simp [Builtin.clear_, run_underlying ht, hv, hZ, hst]
theorem take_mul (l : List Fl) (k : Nat) (hk : k ≤ l.length) : (flC flV l).take (k * 2) = flC flV (l.take k) := by
  have e : flC flV l = flC flV (l.take k) ++ flC flV (l.drop k) := by rw [← flC_append, List.take_append_drop]
  rw [e, List.take_append_of_le_length (by rw [flC_len flV_len, List.length_take]; omega), List.take_of_length_le (by rw [flC_len flV_len, List.length_take]; omega)]
theorem del_src (w : World) (g n c k : Nat) (fl : List Fl) (sp : List Value) (hk : k < fl.length) (hn : fl.length = n) (hb : Blk w g 38 (flC flV fl ++ sp)) (hc : c * 2 = n * 2 + sp.length) :
    ∃ A : Addr, (if c = k + 1 then some (⟨g, 0, none⟩ : Addr) else some ⟨g, (k + 1) * 2, none⟩) = some A ∧ Hid (∀ j u, (flC flV (fl.drop (k + 1)))[j]? = some u → w.drew.cell? (A.add j) = some u) := by
  by_cases h : c = k + 1
  · refine ⟨⟨g, 0, none⟩, by simp [h], fun j u hu => ?_⟩
    have h0 : fl.drop (k + 1) = [] := List.drop_eq_nil_of_le (by omega)
    rw [h0] at hu
    simp [flC] at hu
  · refine ⟨⟨g, (k + 1) * 2, none⟩, by simp [h], fun j u hu => ?_⟩
    rw [Addr.add_lit]
    refine hb.cell ?_
    have hj : j < (flC flV (fl.drop (k + 1))).length := (List.getElem?_eq_some_iff.1 hu).1
    rw [flC_len flV_len, List.length_drop] at hj
    rw [List.getElem?_append_left (by rw [flC_len flV_len]; omega), ← hu, ← flC_drop flV_len, List.getElem?_drop]
set_option maxHeartbeats 4000000 in
set_option maxRecDepth 1000000 in
theorem delf_blk (w : World) (g c k : Nat) (fl : List Fl) (sp : List Value) (hk : k < fl.length) (hb : Blk w g 38 (flC flV fl ++ sp)) (hc : c * 2 = fl.length * 2 + sp.length) (hm : c ≤ maxLen) :
    Calls Tryz.prog 21 #[.slice (some ⟨g, 0, none⟩) fl.length c, .int .i64 k, .int .i64 ((k : Int) + 1)] w fun e w' => e = .returned (.slice (some ⟨g, 0, none⟩) (fl.length - 1) c) ∧
      (∃ sp', Blk w' g 38 (flC flV (fl.eraseIdx k) ++ sp') ∧ c * 2 = (fl.length - 1) * 2 + sp'.length) ∧ Upd (fun k => k = g) w w' := by
  obtain ⟨n, hn⟩ : ∃ n, fl.length = n := ⟨_, rfl⟩
  obtain ⟨A, hA, hnews⟩ := del_src w g n c k fl sp hk hn hb (by omega)
  obtain ⟨i0, hi0, hz0, hz1, hz2⟩ := info_parts Tryz.infoFl
  have HB := Lib.hid hb
  rw [hn] at hc hk ⊢
  have hfree : ∀ j, w.frozen? ⟨g, j, none⟩ = false := hb.free
  have hfl : (flC flV fl).length = n * 2 := by rw [flC_len flV_len, hn]
  have hnl : (flC flV (fl.drop (k + 1))).length = (n - k - 1) * 2 := by rw [flC_len flV_len, List.length_drop, hn]; congr 1
  have s1 : Hid ((flC flV (fl.drop (k + 1))).length = (n - (k + 1)) * 2) := by show _ = _; rw [hnl]; congr 1
  have s2 : Hid (∀ u ∈ flC flV (fl.drop (k + 1)), u.oneCell' = true) := flC_cells flV_one _
  have hsome : ∀ j, j < c * 2 → (w.cell? ⟨g, j, none⟩).isSome = true := by
    intro j hj
    have hlt : j < (flC flV fl ++ sp).length := by rw [List.length_append, hfl]; omega
    rw [hb.cell (List.getElem?_eq_getElem hlt)]
    rfl
  have s3 : Hid (∀ j, j < (flC flV (fl.drop (k + 1))).length → (w.drew.cell? ⟨g, 0 + k * 2 + j, none⟩).isSome = true ∧ w.drew.frozen? ⟨g, 0 + k * 2 + j, none⟩ = false) := by
    intro j hj
    rw [hnl] at hj
    exact ⟨hsome _ (by omega), hfree _⟩
  have e0 : fl.eraseIdx k = fl.take k ++ fl.drop (k + 1) := List.eraseIdx_eq_take_drop_succ _ _
  obtain ⟨y0, y1, hy⟩ : ∃ y0 y1, (flC flV fl ++ sp).drop (k * 2 + (flC flV (fl.drop (k + 1))).length) = y0 :: y1 :: sp := by
    rw [hnl, List.drop_append_of_le_length (by rw [hfl]; omega)]
    have hl2 : ((flC flV fl).drop (k * 2 + (n - k - 1) * 2)).length = 2 := by rw [List.length_drop, hfl]; omega
    obtain ⟨y0, y1, h⟩ : ∃ y0 y1, (flC flV fl).drop (k * 2 + (n - k - 1) * 2) = [y0, y1] := by
      match (flC flV fl).drop (k * 2 + (n - k - 1) * 2), hl2 with
      | [y0, y1], _ => exact ⟨y0, y1, rfl⟩
    exact ⟨y0, y1, by rw [h]; rfl⟩
  have K1 : Hid (Blk (w.drew.setCells g (0 + k * 2) (flC flV (fl.drop (k + 1)))) g 38 (flC flV (fl.eraseIdx k) ++ (y0 :: y1 :: sp))) := by
    show Blk _ _ _ _
    have := Blk.setCells (T := 38) (b := g) (flC flV (fl.drop (k + 1))) (0 + k * 2) w.drew _ hb.drew (by rw [List.length_append, hfl, hnl]; omega)
    rw [Nat.zero_add, hy, List.take_append_of_le_length (by rw [hfl]; omega), take_mul fl k (by omega), ← flC_append, ← e0] at this
    rw [Nat.zero_add]
    exact this
  have hzv : ∀ w, (zeroValue 38).run Tryz.prog w = .ok (.agg #[.int .i64 0, .slice none 0 0]) w := fun _ => by kernel_rfl
  have hel : (flC flV (fl.eraseIdx k)).length = (n - 1) * 2 := by rw [flC_len flV_len, List.length_eraseIdx_of_lt (by omega), hn]
  have hcl := run_clear_cells (P := Tryz.prog) (w.drew.setCells g (0 + k * 2) (flC flV (fl.drop (k + 1)))) 30 38 0 (.agg #[.int .i64 0, .slice none 0 0]) [.int .i64 0, .slice none 0 0] Tryz.underlying30 hzv g ((n - 1) * 2) 1 (c - (n - 1)) (by omega) (by kernel_rfl)
    (fun v hv => by simp only [List.mem_cons, List.not_mem_nil, or_false] at hv; rcases hv with rfl | rfl <;> rfl)
    (fun j hj => by
      have hlt : (n - 1) * 2 + j < (flC flV (fl.eraseIdx k) ++ (y0 :: y1 :: sp)).length := by rw [List.length_append, hel]; simp at hj ⊢; omega
      rw [K1.out.cell (List.getElem?_eq_getElem hlt)]; rfl) (fun j hj => K1.out.free _)
  have K2 : Hid (Blk ((w.drew.setCells g (0 + k * 2) (flC flV (fl.drop (k + 1)))).setCells g ((n - 1) * 2) [.int .i64 0, .slice none 0 0]) g 38 (flC flV (fl.eraseIdx k) ++ (.int .i64 0 :: .slice none 0 0 :: sp))) := by
    show Blk _ _ _ _
    have := Blk.setCells (T := 38) (b := g) [.int .i64 0, .slice none 0 0] ((n - 1) * 2) _ _ K1.out (by rw [List.length_append, hel]; simp)
    rw [← hel, List.take_left, List.drop_length_add_append, hel] at this
    simpa [List.append_assoc] using this
  have U2 : Hid (Upd (fun k => k = g) w ((w.drew.setCells g (0 + k * 2) (flC flV (fl.drop (k + 1)))).setCells g ((n - 1) * 2) [.int .i64 0, .slice none 0 0])) := Upd.setCells _ _ _ _ (Upd.setCells _ _ _ _ (Upd.refl _ w).drew rfl) rfl
  have HC := Lib.hid hc
  clear hb hsome hy hzv e0 hfl hnl hel
  have b1 : 1 ≤ n := by omega
  have b2 : n ≤ c := by omega
  have b3 : ((k : Int) + 1) ≤ n := by omega
  have b4 : (0 : Int) ≤ (c : Int) := by omega
  have b5 : ((k : Int) + 1) ≤ (c : Int) := by omega
  have b6 : (n : Int) ≤ (c : Int) := by omega
  have b7 : (k : Int) ≤ (k : Int) + 1 := by omega
  have b8 : (k : Int) ≤ (c : Int) := by omega
  have b9 : k ≤ c := by omega
  have b10 : k + 1 ≤ n := by omega
  have b11 : (0 : Int) ≤ (k : Int) + 1 := by omega
  have HN := Lib.hid hn
  clear hn hc
  unfold maxLen at hm
  have h01 : ((k : Int) == (k : Int) + 1) = false := by rw [beq_eq_false_iff_ne]; omega
  go_enter Tryz.func21, Tryz.ntmps21
  go_wp2_with fail
  go_region_law (refine step_append_room rfl (.tmp 22) (.tmp 25) 30 rfl 38 i0 2 Tryz.underlying30 hi0 hz1 g 0 k c (by simp [Act.eval, Act.put]) A (n - (k + 1)) (c - (k + 1)) (flC flV (fl.drop (k + 1))) (by simp [Act.eval, Act.put]) s1.out hnews.out s2.out (by omega) s3.out ?_)
  have ek : k + (n - (k + 1)) = n - 1 := by omega
  have ek1 : n - (n - 1) = 1 := by omega
  have ek2 : ¬ c = n - 1 := by omega
  have ek3 : n - 1 ≤ n := by omega
  have ek4 : ((n - 1 : Nat) : Int) ≤ (n : Int) := by omega
  simp only [ek]
  rw [Nat.zero_add] at hcl
  clear ek
  go_wp2_with fail
  go_ret
  have K3 := K2.out
  have U3 := U2.out
  rw [Nat.zero_add] at K3 U3
  exact ⟨rfl, ⟨_, K3, by have := HC.out; simp; omega⟩, U3⟩
end Go.Proofs.YtkaaoomliepijaaGreat
namespace Go.Proofs.YtkaaoomliepijaaGreat
open Go.RowKit
set_option linter.unusedVariables false

theorem beq_any (w : World) (r t : RwB) (h1 : Sl (Value.int .u8) w r.a r.d) (h2 : Sl (Value.int .u8) w t.a t.d) (hn : r.d ≠ []) (he : r.d = t.d) : Calls Tryz.prog 14 #[r.val, t.val] w fun e w' => e = .returned (.bool true) ∧ w = w' := by
  refine (tz_bytes_Equal r.val t.val r.d t.d w (conv_str w r.a r.c r.d hn h1) (conv_str w t.a t.c t.d (by rw [← he]; exact hn) h2)).mono ?_
  rintro e w' ⟨rfl, rfl⟩
  rw [he]
  exact ⟨by rw [show (Lib.bytesOf t.d == Lib.bytesOf t.d) = true from beq_self_eq_true _], rfl⟩
def EqRel (w : World) (n : Nat) (ix : Value) (wr : World) : Prop := ∃ k : Nat, k ≤ n ∧ ix = .int .i64 k ∧ w = wr
set_option maxHeartbeats 4000000 in
set_option maxRecDepth 100000 in
theorem eqf_yes (w : World) (a b : Option Addr) (ca cb : Nat) (rs ts : List RwB) (ha : RdB w a rs) (hb : RdB w b ts) (he : rs.map RwB.d = ts.map RwB.d) (hne : ∀ r ∈ rs, r.d ≠ []) (hl : rs.length ≤ 100000) :
    Calls Tryz.prog 13 #[.slice a rs.length ca, .slice b ts.length cb, .func (.func 14) #[] #[]] w fun e w' => e = .returned (.bool true) ∧ w = w' := by
  have hlen : rs.length = ts.length := by simpa using congrArg List.length he
  have HA := Lib.hid ha; have HB := Lib.hid hb; have HE := Lib.hid he; have HN := Lib.hid hne
  rw [← hlen]
  obtain ⟨n, hn⟩ : ∃ n, rs.length = n := ⟨_, rfl⟩
  have HL := Lib.hid hn
  rw [hn] at hl ⊢
  clear ha hb he hne hlen hn
  go_enter Tryz.func13, Tryz.ntmps13
  go_wp2_with fail
  go_loopw [17] (fun ix wr => EqRel w n ix wr) (fun ix _ => n - (intOf ix).toNat)
  case atStart => exact ⟨0, Nat.zero_le _, rfl, rfl⟩
  case round =>
    obtain ⟨k, hk, rfl, hw⟩ := hrel
    subst hw
    by_cases hkn : k < n
    · obtain ⟨r, t, h1, h2, h3⟩ := same_get HE.out (k := k) (by rw [HL.out]; exact hkn)
      obtain ⟨oka, cka⟩ := HA.out.1 k r h1.out
      obtain ⟨okb, ckb⟩ := HB.out.1 k t h2.out
      have BE := Lib.hid (beq_any w r t (HA.out.2 r (List.mem_of_getElem? h1.out)) (HB.out.2 t (List.mem_of_getElem? h2.out)) (HN.out r (List.mem_of_getElem? h1.out)) h3)
      have o1 : r.val.oneCell' = true := rfl
      have o2 : t.val.oneCell' = true := rfl
      generalize hvr : r.val = vr at *
      generalize hvt : t.val = vt at *
      replace hvr := Lib.hid hvr
      replace hvt := Lib.hid hvt
      replace h3 := Lib.hid h3
      go_wp2_with fail
      refine BE.out.mono ?_
      rintro e w1 ⟨rfl, hw⟩
      subst hw
      clear BE
      go_wp2_with fail
      go_roundw
      case rel => exact ⟨k + 1, by omega, by go_num, rfl⟩
      case measure => simp [intOf]; omega
    · go_wp2_with fail
      go_ret
      exact ⟨rfl, rfl⟩
end Go.Proofs.YtkaaoomliepijaaGreat
