/-
  Contract of slices.DeleteFunc at the closure of Step.
-/
import Derived.Test.YteomiofmaopkhaaBrPut
import Derived.Lib.SliceRun
namespace Go.Proofs.Yteomiofmaopkhaa
open Go.RowKit
set_option linter.unusedVariables false

theorem Blk.setCells {T : TypeId} {b : Nat} : ∀ (vs : List Value) (o : Nat) (w : World) (xs : List Value), Blk w b T xs → o + vs.length ≤ xs.length → Blk (w.setCells b o vs) b T (xs.take o ++ vs ++ xs.drop (o + vs.length))
  | [], o, w, xs, h, _ => by simpa [World.setCells] using h
  | v :: r, o, w, xs, h, hl => by
    simp only [List.length_cons] at hl
    have h1 := Blk.setCells r (o + 1) (w.setCell ⟨b, o, none⟩ v) (xs.set o v) (h.set o v) (by simp; omega)
    simp only [World.setCells]
    have e : (xs.set o v).take (o + 1) ++ r ++ (xs.set o v).drop (o + 1 + r.length) = xs.take o ++ v :: r ++ xs.drop (o + (v :: r).length) := by
      rw [List.drop_set_of_lt (by omega), List.take_add_one, List.take_set_of_le (Nat.le_refl _), List.getElem?_set_self (by omega)]
      simp [Nat.add_assoc, Nat.add_comm 1]
    rw [← e]
    exact h1
theorem Upd.setCells {S : Nat → Prop} {b : Nat} : ∀ (vs : List Value) (o : Nat) (a w : World), Upd S a w → S b → Upd S a (w.setCells b o vs)
  | [], _, _, _, h, _ => h
  | v :: r, o, a, w, h, hb => Upd.setCells r (o + 1) a _ (h.setCell ⟨b, o, none⟩ v (fun _ => hb)) hb

/-- 'clear(s)' at elements of any number of cells. -/
theorem run_clear_cells {P : Program} (w : World) (t e ty : TypeId) (z : Value) (Z : List Value) (ht : P.underlying t = some (.slice e)) (hv : ∀ w, (zeroValue e).run P w = .ok z w) (b o n c : Nat) (hn : 0 < n) (hZ : (Builtin.zeroCells z.cells n).toList = Z)
    (h1 : ∀ v ∈ Z, v.oneCell' = true) (hc : ∀ j, j < Z.length → (w.cell? ⟨b, o + j, none⟩).isSome = true) (hf : ∀ j, j < Z.length → w.frozen? ⟨b, o + j, none⟩ = false) :
    (Builtin.clear_ #[t] ty #[.slice (some ⟨b, o, none⟩) n c]).run P w = .ok (.tuple #[]) (w.setCells b o Z) := by
  have hst := run_storeCells_cells (P := P) b o Z 0 w (by simpa using hc) (by simpa using hf) h1
  simp only [Nat.add_zero] at hst
  obtain ⟨m, rfl⟩ : ∃ m, n = m + 1 := ⟨n - 1, by omega⟩
  simp [Builtin.clear_, run_underlying ht, hv, hZ, hst]
def zFr : Fr := ⟨0, 0⟩
theorem zero_cells (n : Nat) : (Builtin.zeroCells (Value.agg #[.int .i64 0, .int .u64 0]).cells n).toList = cfs (List.replicate n zFr) := by
  rw [show (Value.agg #[.int .i64 0, .int .u64 0]).cells = #[.int .i64 0, .int .u64 0] from rfl]
  induction n with
  | zero => simp [Builtin.zeroCells, cfs]
  | succ n ih =>
    rw [List.replicate_succ', cfs_append, ← ih]
    simp only [Builtin.zeroCells]
    have e : (n + 1) * (#[Value.int .i64 0, .int .u64 0] : Array Value).size = n * 2 + 1 + 1 := by show (n + 1) * 2 = _; omega
    rw [e]
    simp only [Array.range_succ, Array.toList_map, Array.toList_append, Array.map_append]
    simp [Nat.mul_mod_left, Nat.add_mod, cfs, cf, zFr]

/-- The frames of which a copy still waits. -/
def keepF (l : List Fr) : List Fr := l.filter fun y => !decide (y.bits = 0)
theorem keepF_yes {l : List Fr} {j : Nat} {x : Fr} (h : l[j]? = some x) (hx : decide (x.bits = 0) = false) : keepF (l.take (j + 1)) = keepF (l.take j) ++ [x] := by
  unfold keepF
  rw [List.take_add_one, h, List.filter_append]
  simp [hx]
theorem keepF_no {l : List Fr} {j : Nat} {x : Fr} (h : l[j]? = some x) (hx : decide (x.bits = 0) = true) : keepF (l.take (j + 1)) = keepF (l.take j) := by
  unfold keepF
  rw [List.take_add_one, h, List.filter_append]
  simp [hx]
theorem keepF_all {l : List Fr} (h : ∀ x ∈ l, decide (x.bits = 0) = false) : keepF l = l := by
  unfold keepF
  rw [List.filter_eq_self]
  intro x hx
  rw [h x hx]; rfl

/-- The loop's state: i frames are kept, frame j is next; L is what the row holds. -/
structure DlM (w : World) (g : Nat) (fs : List Fr) (sp : List Value) (i j : Nat) (L : List Fr) (wr : World) : Prop where
  hl : L.length = fs.length
  ij : i < j
  ht : L.take i = keepF (fs.take j)
  hd : L.drop j = fs.drop j
  hb : Blk wr g 62 (cfs L ++ sp)
  u : Upd (fun k => k = g) w wr
def DlRel (w : World) (g : Nat) (fs : List Fr) (sp : List Value) (vi vj : Value) (wr : World) : Prop :=
  ∃ (i j : Nat) (L : List Fr), j ≤ fs.length ∧ vi = .int .i64 i ∧ vj = .int .i64 j ∧ DlM w g fs sp i j L wr
theorem DlM.below {w wr w' : World} {g : Nat} {fs : List Fr} {sp : List Value} {i j : Nat} {L : List Fr} (h : DlM w g fs sp i j L wr) (q : Below wr.heap.size wr w') : DlM w g fs sp i j L w' :=
  ⟨h.hl, h.ij, h.ht, h.hd, h.hb.upd (S := fun _ => False) (Upd.of_below q) id, Upd.then h.u (Upd.of_below (S := fun k => k = g) q) (fun _ _ h => h)⟩
theorem drop_get {α : Type} {L l : List α} {j : Nat} {x : α} (h : L.drop j = l.drop j) (hx : l[j]? = some x) : L[j]? = some x := by
  have h1 : (L.drop j)[0]? = (l.drop j)[0]? := by rw [h]
  rw [List.getElem?_drop, List.getElem?_drop] at h1
  simpa [hx] using h1
theorem drop_drop1 {α : Type} {L l : List α} {j : Nat} (h : L.drop j = l.drop j) : L.drop (j + 1) = l.drop (j + 1) := by
  rw [← List.drop_drop, ← List.drop_drop, h]
theorem DlM.skip {w wr : World} {g : Nat} {fs : List Fr} {sp : List Value} {i j : Nat} {L : List Fr} (h : DlM w g fs sp i j L wr) {x : Fr} (hx : fs[j]? = some x) (hp : decide (x.bits = 0) = true) : DlM w g fs sp i (j + 1) L wr :=
  ⟨h.hl, Nat.lt_succ_of_lt h.ij, by rw [keepF_no hx hp]; exact h.ht, drop_drop1 h.hd, h.hb, h.u⟩
theorem DlM.keep {w wr : World} {g : Nat} {fs : List Fr} {sp : List Value} {i j : Nat} {L : List Fr} (h : DlM w g fs sp i j L wr) {x : Fr} (hx : fs[j]? = some x) (hp : decide (x.bits = 0) = false) :
    DlM w g fs sp (i + 1) (j + 1) (L.set i x) ((wr.setCell ⟨g, i * 2, none⟩ (.int .i64 x.id)).setCell ⟨g, i * 2 + 1, none⟩ (.int .u64 (x.bits : Int))) := by
  have hj := get_lt hx
  have hil : i < L.length := by rw [h.hl]; have := h.ij; omega
  obtain ⟨y, hy⟩ : ∃ y, L[i]? = some y := ⟨L[i], by simp [hil]⟩
  have hlen := cfs_len L
  refine ⟨by rw [List.length_set]; exact h.hl, by have := h.ij; omega, ?_, ?_, ?_, ?_⟩
  · rw [List.take_add_one, List.take_set_of_le (Nat.le_refl _), get_set_self hy, h.ht, keepF_yes hx hp]; rfl
  · rw [List.drop_set_of_lt (by have := h.ij; omega)]; exact drop_drop1 h.hd
  · have e : cfs (L.set i x) = ((cfs L).set (i * 2) (.int .i64 x.id)).set (i * 2 + 1) (.int .u64 (x.bits : Int)) := by
      rw [cfs_setA hy, cfs_setB (get_set_self hy _)]; simp
    have h1 := (h.hb.set (i * 2) (.int .i64 x.id)).set (i * 2 + 1) (.int .u64 (x.bits : Int))
    rw [List.set_append_left _ _ (by omega), List.set_append_left _ _ (by simp; omega), ← e] at h1
    exact h1
  · exact (h.u.setCell _ _ (fun _ => rfl)).setCell _ _ (fun _ => rfl)

def DelPost (w : World) (base : Nat) (v : Value) (fs : List Fr) (e : Ending) (w' : World) : Prop :=
  ∃ v', e = .returned v' ∧ w'.ownsRow base 62 2 v' (keepF fs).length (cfs (keepF fs)) ∧ v'.ownBlock = v.ownBlock ∧ Upd (fun k => v.ownBlock = some k) w w'

set_option maxHeartbeats 4000000 in
set_option maxRecDepth 100000 in
theorem del_any (w : World) (base : Nat) (a : Option Addr) (c : Nat) (fs : List Fr) (hown : w.ownsRow base 62 2 (.slice a fs.length c) fs.length (cfs fs)) (hl : fs.length ≤ 1000) (h8 : ∀ x ∈ fs, x.bits < 256) :
    Calls Try.prog 36 #[.slice a fs.length c, .func (.func 37) #[] #[]] w (DelPost w base (.slice a fs.length c) fs) := by
  have OWN := Lib.hid hown
  have I := Lib.hid (idx_del w a c fs (ownF_sl hown) hl)
  clear hown h8
  go_enter Try.func36, Try.ntmps36
  go_wp2_with fail
  refine I.out.mono ?_
  rintro e w1 ⟨r, rfl, hr, hb⟩
  have B1 := Lib.hid hb; clear hb
  rcases hr with ⟨rfl, hno⟩ | ⟨k, x, rfl, hx, hp, hbefore⟩
  · have hkeep : Hid (keepF fs = fs) := keepF_all fun x hx => by
      obtain ⟨j, hj⟩ := List.mem_iff_getElem?.1 hx
      exact hno j x hj
    clear hno
    go_wp2_with fail
    go_ret
    refine ⟨_, rfl, ?_, rfl, Upd.of_below B1.out⟩
    rw [hkeep.out]
    exact own_upd (S := fun _ => False) OWN.out (Upd.of_below B1.out) (fun _ _ => id)
  · have hkl := get_lt hx
    obtain ⟨g, sp, c', hv, hg, hbk, _, hcap, hcm⟩ := ownF_blk OWN.out (by intro e; rw [e] at hkl; simp at hkl)
    cases hv
    have M0 : Hid (DlM w g fs sp k (k + 1) fs w1) := by
      refine ⟨rfl, by omega, ?_, rfl, hbk.upd (S := fun _ => False) (Upd.of_below B1.out) id, Upd.of_below B1.out⟩
      rw [keepF_no hx hp, keepF_all]
      intro y hy
      obtain ⟨j, hj⟩ := List.mem_iff_getElem?.1 hy
      have hjk : j < k := by have := get_lt hj; simp at this; omega
      rw [List.getElem?_take_of_lt hjk] at hj
      exact hbefore j y hjk hj
    have HX := Lib.hid hx
    clear hx hp hbefore hbk OWN I
    generalize hN : fs.length = n at *
    have HN := Lib.hid hN; clear hN
    have hnc : n ≤ c := by omega
    have hneg : ((k : Int) == -1) = false := by rw [beq_eq_false_iff_ne]; omega
    go_wp2_with fail
    clear hneg
    go_loopw [5, 6] (fun vi vj wr => DlRel w g fs sp vi vj wr) (fun _ vj _ => n - (intOf vj).toNat)
    case atStart => exact ⟨k, k + 1, fs, by rw [HN.out]; omega, rfl, by go_num, M0.out⟩
    case round =>
      obtain ⟨i, j, L, hj, rfl, rfl, hM⟩ := hrel
      have HM := Lib.hid hM; have hj' : j ≤ n := by rw [HN.out] at hj; exact hj
      have hij := hM.ij
      clear hM hj M0
      by_cases hlt : j < n
      · obtain ⟨y, hy⟩ : ∃ y, fs[j]? = some y := ⟨fs[j]'(by rw [HN.out]; exact hlt), by simp⟩
        have HY := Lib.hid hy
        obtain ⟨c1, c2⟩ := blkF HM.out.hb (drop_get HM.out.hd hy)
        obtain ⟨yid, yb⟩ := y
        dsimp only at c1 c2
        have P := Lib.hid fun w => step2_any ⟨yid, yb⟩ w
        have BX : Hid (Blk (wr.alloc (.cells #[.int .i64 yid, .int .u64 (yb : Int)] 62)) wr.heap.size 62 [.int .i64 yid, .int .u64 (yb : Int)]) := Blk.new wr _ [.int .i64 yid, .int .u64 (yb : Int)]
        have HMA := Lib.hid (HM.out.below ((Below.refl _ wr).alloc (Nat.le_refl _) (.cells #[.int .i64 yid, .int .u64 (yb : Int)] 62)))
        have hgl := HM.out.hb.lt
        clear hy
        cases hp : decide (yb = 0) with
        | true =>
          have HP := Lib.hid hp
          have P' : Hid (∀ w, Calls Try.prog 37 #[.agg #[.int .i64 yid, .int .u64 (yb : Int)]] w fun e w' => e = .returned (.bool true) ∧ Below w.heap.size w w') := fun w => (P.out w).mono fun e w' ⟨h1, h2⟩ => ⟨by rw [h1]; exact congrArg (fun b => Ending.returned (.bool b)) hp, h2⟩
          clear hp P
          go_wp2_with fail
          refine (P'.out _).mono ?_
          rintro e w2 ⟨rfl, hb⟩
          have M2 := Lib.hid ((HMA.out.below hb).skip HY.out HP.out); clear hb
          go_wp2_with fail
          go_roundw
          case rel => exact ⟨i, j + 1, L, by rw [HN.out]; omega, rfl, by go_num, M2.out⟩
          case measure => simp [intOf]; omega
        | false =>
          have HP := Lib.hid hp
          have P' : Hid (∀ w, Calls Try.prog 37 #[.agg #[.int .i64 yid, .int .u64 (yb : Int)]] w fun e w' => e = .returned (.bool false) ∧ Below w.heap.size w w') := fun w => (P.out w).mono fun e w' ⟨h1, h2⟩ => ⟨by rw [h1]; exact congrArg (fun b => Ending.returned (.bool b)) hp, h2⟩
          clear hp P
          go_wp2_with fail
          refine (P'.out _).mono ?_
          rintro e w2 ⟨rfl, hb⟩
          have M2 := Lib.hid (HMA.out.below hb)
          have BX2 := BX.out.upd (S := fun _ => False) (Upd.of_below hb) id
          have x0 := BX2.cell (i := 0) rfl
          have x1 := BX2.cell (i := 1) rfl
          obtain ⟨z, hz⟩ : ∃ z, L[i]? = some z := ⟨L[i]'(by rw [M2.out.hl, HN.out]; omega), by simp⟩
          obtain ⟨d1, d2⟩ := blkF M2.out.hb hz
          have f1 := M2.out.hb.free (i * 2)
          have f2 := M2.out.hb.free (i * 2 + 1)
          have hin : (i : Int) < (n : Int) := by omega
          have FIN := Lib.hid (M2.out.keep HY.out HP.out)
          clear hb BX2 hz c1 c2
          go_wp2_with fail
          go_roundw
          case rel => exact ⟨i + 1, j + 1, _, by rw [HN.out]; omega, by go_num, by go_num, FIN.out⟩
          case measure => simp [intOf]; omega
      · obtain rfl : j = n := by omega
        have hlen := cfs_len L
        have hL := HM.out.hl
        have hkf : Hid (L.take i = keepF fs) := by show _ = _; rw [HM.out.ht, List.take_of_length_le (by rw [HN.out]; exact Nat.le_refl _)]
        have hki : Hid ((keepF fs).length = i) := by show _ = _; rw [← hkf.out, List.length_take]; rw [HN.out] at hL; omega
        have hzl := cfs_len (List.replicate (j - i) zFr)
        have hcl := run_clear_cells (P := Try.prog) wr 57 62 0 (.agg #[.int .i64 0, .int .u64 0]) (cfs (List.replicate (j - i) zFr)) Try.underlying57 (fun _ => by kernel_rfl) g (i * 2) (j - i) (c - i) (by omega) (zero_cells _)
          (by intro v hv; obtain ⟨y, _, hy⟩ := List.mem_flatMap.1 hv; simp [cf] at hy; rcases hy with rfl | rfl <;> rfl)
          (by
            intro q hq
            rw [HN.out] at hL
            have hq2 : i * 2 + q < (cfs L ++ sp).length := by simp [hlen, hL]; simp [hzl] at hq; omega
            rw [HM.out.hb.cell (List.getElem?_eq_getElem hq2)]; rfl)
          (fun q hq => HM.out.hb.free _)
        have K : Hid (Blk (wr.setCells g (i * 2) (cfs (List.replicate (j - i) zFr))) g 62 (cfs (keepF fs) ++ (cfs (List.replicate (j - i) zFr) ++ sp))) := by
          rw [HN.out] at hL
          have h1 := Blk.setCells (cfs (List.replicate (j - i) zFr)) (i * 2) wr _ HM.out.hb (by simp [hlen, hzl, hL]; omega)
          have e1 : (cfs L ++ sp).take (i * 2) = cfs (keepF fs) := by
            rw [← hkf.out]
            have e2 : cfs L = cfs (L.take i) ++ cfs (L.drop i) := by rw [← cfs_append, List.take_append_drop]
            rw [e2, List.append_assoc, List.take_append_of_le_length (by rw [cfs_len, List.length_take]; omega), List.take_of_length_le (by rw [cfs_len, List.length_take]; omega)]
          have e3 : (cfs L ++ sp).drop (i * 2 + (cfs (List.replicate (j - i) zFr)).length) = sp := by
            rw [hzl, List.length_replicate, show i * 2 + (j - i) * 2 = (cfs L).length by rw [hlen, hL]; omega, List.drop_append_of_le_length (Nat.le_refl _), List.drop_length]; rfl
          rw [e1, e3, List.append_assoc] at h1
          exact h1
        have U := Lib.hid (Upd.setCells (S := fun k => k = g) (cfs (List.replicate (j - i) zFr)) (i * 2) w wr HM.out.u rfl)
        have b1 : (i : Int) ≤ (j : Int) := by omega
        have b2 : (j : Int) ≤ (c : Int) := by omega
        have b3 : ¬ i = c := by omega
        have b4 : ¬ c = i := by omega
        have b5 : (i : Int) ≤ (c : Int) := by omega
        have b6 : (0 : Int) ≤ (i : Int) := by omega
        clear hL hlen
        go_wp2_with fail
        go_ret
        have hkl2 := cfs_len (keepF fs)
        refine ⟨_, rfl, ⟨hkl2, .inr ⟨g, c, _, by rw [hki.out]; rfl, hg, K.out, by rw [hki.out]; omega, hcm, ?_, ?_⟩⟩, rfl, U.out.mono fun k _ hk => by rw [hk]; rfl⟩
        · rw [hki.out] at hkl2
          simp only [List.size_toArray, List.length_append, hkl2, hzl, List.length_replicate]
          omega
        · rw [← hkl2]; simp
end Go.Proofs.Yteomiofmaopkhaa
