/-
  slices.IndexFunc and slices.DeleteFunc at the closure of message.Box.drop; drop.
-/
import Derived.Test.YtjljjohoipnhhaaBoxD
import Derived.Lib.SliceRun
namespace Go.Proofs.Ytjljjohoipnhhaa
open Go.RowKit
set_option linter.unusedVariables false

/-- Every open message has a state. -/
def AllSt (its : List It) (st : List Nat) : Prop := ∀ x ∈ its, ∃ s, st[x.n]? = some s ∧ s ≤ 5
theorem AllSt.set {its : List It} {st : List Nat} (h : AllSt its st) (n k : Nat) (hk : k ≤ 5) : AllSt its (st.set n k) := by
  intro x hx
  obtain ⟨s, h1, h2⟩ := h x hx
  rw [List.getElem?_set]
  by_cases e : n = x.n
  · rw [if_pos e, if_pos (by rw [e]; exact get_lt h1)]; exact ⟨k, rfl, hk⟩
  · rw [if_neg e]; exact ⟨s, h1, h2⟩
def dpN (x : It) : Nat := x.n
def dpP (p : Int → Nat → Bool) (x : It) : Bool := p x.dl x.n
abbrev DP (p : Int → Nat → Bool) (k : Nat) (l : List It) (st : List Nat) : List It × List Nat := dropF dpN (dpP p) k l st
theorem dropF_one {α : Type} (n : α → Nat) (p : α → Bool) (k : Nat) (x : α) (st : List Nat) : dropF n p k [x] st = if st[n x]? = some 1 ∧ p x = true then ([], st.set (n x) k) else ([x], st) := rfl
theorem dp_snoc (p : Int → Nat → Bool) (k : Nat) (its : List It) (st : List Nat) {j : Nat} {x : It} (h : its[j]? = some x) :
    DP p k (its.take (j + 1)) st = (if delB p (DP p k (its.take j) st).2 x = true then (DP p k (its.take j) st).1 else (DP p k (its.take j) st).1 ++ [x], delS p k (DP p k (its.take j) st).2 x) := by
  rw [List.take_add_one, h]
  simp only [DP, Option.toList_some]
  rw [dropF_append, dropF_one]
  by_cases hd : (dropF dpN (dpP p) k (List.take j its) st).2[dpN x]? = some 1 ∧ dpP p x = true
  · have e : delB p (dropF dpN (dpP p) k (List.take j its) st).2 x = true := decide_eq_true hd
    unfold delS
    rw [if_pos hd, if_pos e, if_pos e, List.append_nil]; rfl
  · have e : ¬ delB p (dropF dpN (dpP p) k (List.take j its) st).2 x = true := fun h => hd (of_decide_eq_true h)
    unfold delS
    rw [if_neg hd, if_neg e, if_neg e]
theorem AllSt.dp {its : List It} {st : List Nat} (h : AllSt its st) (p : Int → Nat → Bool) (k : Nat) (hk : k ≤ 5) : ∀ j, AllSt its (DP p k (its.take j) st).2 := by
  intro j
  induction j with
  | zero => simpa [DP, dropF] using h
  | succ j ih =>
    cases hx : its[j]? with
    | none =>
      rw [List.take_add_one, hx]
      simpa using ih
    | some x =>
      rw [dp_snoc p k its st hx]
      show AllSt its (delS p k _ x)
      unfold delS
      split
      · exact ih.set _ _ hk
      · exact ih

def delV (bc cc sc : Nat) : Value := .func (.func 40) #[] #[.pointer (some ⟨bc, 0, none⟩), .pointer (some ⟨cc, 0, none⟩), .pointer (some ⟨sc, 0, none⟩)]
def IxRel (w : World) (base b : Nat) (room : Int) (qv sv : Value) (its : List It) (st : List Nat) (p : Int → Nat → Bool) (i : Value) (wr : World) : Prop :=
  ∃ k : Nat, k ≤ its.length ∧ i = .int .i64 k ∧ (∀ (j : Nat) (y : It), j < k → its[j]? = some y → delB p st y = false) ∧ BoxR wr base b room qv sv its st ∧ Upd (chS b sv) w wr
def IxPost (w : World) (base b : Nat) (room : Int) (qv sv : Value) (its : List It) (st : List Nat) (p : Int → Nat → Bool) (k : Nat) (e : Ending) (w' : World) : Prop :=
  Upd (chS b sv) w w' ∧ ((e = .returned (.int .i64 (-1)) ∧ (∀ y ∈ its, delB p st y = false) ∧ BoxR w' base b room qv sv its st) ∨
    ∃ (j : Nat) (x : It), e = .returned (.int .i64 j) ∧ its[j]? = some x ∧ delB p st x = true ∧ (∀ (i : Nat) (y : It), i < j → its[i]? = some y → delB p st y = false) ∧ BoxR w' base b room qv sv its (st.set x.n k))

set_option maxHeartbeats 4000000 in
set_option maxRecDepth 100000 in
theorem ix_any (w : World) (base b : Nat) (room : Int) (a : Option Addr) (c : Nat) (sv : Value) (its : List It) (st : List Nat) (h : BoxAt w base b room (.slice a its.length c) sv its st) (bc cc sc tb : Nat) (cv : Value) (p : Int → Nat → Bool) (k : Nat) (hk : k ≤ 5)
    (hc : Cap w b (.slice a its.length c) sv its bc cc sc tb cv p k) (ha : AllSt its st) (hl : st.length ≤ 100000) (hil : its.length ≤ 100000) :
    Calls Try.prog 42 #[.slice a its.length c, .func (.func 40) #[] #[.pointer (some ⟨bc, 0, none⟩), .pointer (some ⟨cc, 0, none⟩), .pointer (some ⟨sc, 0, none⟩)]] w (IxPost w base b room (.slice a its.length c) sv its st p k) := by
  have H := Lib.hid h; have HC := Lib.hid hc; have HA := Lib.hid ha
  have PT := Lib.hid (nodup_parts h.r.nd)
  clear h hc ha
  generalize hqv : (Value.slice a its.length c) = qv at *
  have HQV := Lib.hid hqv
  rw [← hqv]
  clear hqv
  generalize hN : its.length = n at *
  have HN := Lib.hid hN; clear hN
  go_enter Try.func42, Try.ntmps42
  go_wp2_with fail
  go_loopw [8] (fun i wr => IxRel w base b room qv sv its st p i wr) (fun i _ => n - (intOf i).toNat)
  case atStart => exact ⟨0, Nat.zero_le _, rfl, fun j y h => by omega, H.out.r, Upd.refl _ _⟩
  case round =>
    obtain ⟨j, hj, rfl, hv, hb, hu⟩ := hrel
    have HV := Lib.hid hv; have HB := Lib.hid hb; have HU := Lib.hid hu
    have hj' : j ≤ n := by rw [HN.out] at hj; exact hj
    clear hv hb hu hj
    by_cases hlt : j < n
    · obtain ⟨x, hx⟩ : ∃ x, its[j]? = some x := ⟨its[j]'(by rw [HN.out]; exact hlt), by simp⟩
      have HX := Lib.hid hx
      have hmem := Lib.hid (List.mem_of_getElem? hx)
      obtain ⟨s, hs, hs5⟩ := HA.out x hmem.out
      have hrow : Vw It.ptr 67 wr base qv its := H.out.q.upd HU.out (fun g hg hS => by
        rcases hS with hS | hS
        · exact PT.out.bq g hg hS
        · exact PT.out.qs g hg hS)
      rw [← HQV.out] at hrow
      obtain ⟨oka, ca⟩ := hrow.sl j x hx
      unfold It.ptr at ca
      have D := Lib.hid (drop1_any wr base b room qv sv its st HB.out bc cc sc tb cv p k hk (HC.out.upd HU.out fun _ => ch_foot) x hmem.out s hs hs5 hl)
      unfold Drop1Post at D
      clear hx hrow hs hs5
      cases hd : delB p st x with
      | true =>
        have HD := Lib.hid hd
        rw [hd] at D
        clear hd
        go_wp2_with fail
        refine D.out.mono ?_
        rintro e w1 ⟨rfl, h1, h2⟩
        have R1 := Lib.hid h1; have U1 := Lib.hid (HU.out.trans h2)
        clear h1 h2
        go_wp2_with fail
        go_ret
        refine ⟨U1.out, .inr ⟨j, x, rfl, HX.out, HD.out, HV.out, ?_⟩⟩
        have := R1.out
        unfold delS at this
        rw [if_pos HD.out] at this
        rw [HQV.out]
        exact this
      | false =>
        have HD := Lib.hid hd
        rw [hd] at D
        clear hd
        go_wp2_with fail
        refine D.out.mono ?_
        rintro e w1 ⟨rfl, h1, h2⟩
        unfold delS at h1
        rw [if_neg (by rw [HD.out]; decide)] at h1
        have R1 := Lib.hid h1; have U1 := Lib.hid (HU.out.trans h2)
        clear h1 h2
        have HV2 : Hid (∀ (i : Nat) (y : It), i < j + 1 → its[i]? = some y → delB p st y = false) := by
          intro i y hi hy
          by_cases e : i < j
          · exact HV.out i y e hy
          · obtain rfl : i = j := by omega
            have := HX.out.symm.trans hy
            cases this
            exact HD.out
        go_wp2_with fail
        go_roundw
        case rel => exact ⟨j + 1, by rw [HN.out]; omega, by go_num, HV2.out, R1.out, U1.out⟩
        case measure => simp [intOf]; omega
    · obtain rfl : j = n := by omega
      go_wp2_with fail
      go_ret
      rw [HQV.out]
      exact ⟨HU.out, .inl ⟨rfl, fun y hy => by obtain ⟨i, hi⟩ := List.mem_iff_getElem?.1 hy; exact HV.out i y (by rw [← HN.out]; exact get_lt hi) hi, HB.out⟩⟩

/-- DeleteFunc's loop: i messages are kept, message j is next; L is what the row holds. -/
structure DfM (w : World) (base b : Nat) (room : Int) (qv sv : Value) (its : List It) (st : List Nat) (p : Int → Nat → Bool) (k i j : Nat) (L : List It) (wr : World) : Prop where
  hl : L.length = its.length
  ij : i < j
  ht : L.take i = (DP p k (its.take j) st).1
  hi : (DP p k (its.take j) st).1.length = i
  hd : L.drop j = its.drop j
  hr : BoxR wr base b room qv sv its (DP p k (its.take j) st).2
  hq : Vw It.ptr 67 wr base qv L
  u : Upd (fun j => chS b sv j ∨ qv.ownBlock = some j) w wr
def DfRel (w : World) (base b : Nat) (room : Int) (qv sv : Value) (its : List It) (st : List Nat) (p : Int → Nat → Bool) (k : Nat) (vi vj : Value) (wr : World) : Prop :=
  ∃ (i j : Nat) (L : List It), j ≤ its.length ∧ vi = .int .i64 i ∧ vj = .int .i64 j ∧ DfM w base b room qv sv its st p k i j L wr
theorem drop_get {α : Type} {L l : List α} {j : Nat} {x : α} (h : L.drop j = l.drop j) (hx : l[j]? = some x) : L[j]? = some x := by
  have h1 : (L.drop j)[0]? = (l.drop j)[0]? := by rw [h]
  rw [List.getElem?_drop, List.getElem?_drop] at h1
  simpa [hx] using h1
theorem drop_drop1 {α : Type} {L l : List α} {j : Nat} (h : L.drop j = l.drop j) : L.drop (j + 1) = l.drop (j + 1) := by
  rw [← List.drop_drop, ← List.drop_drop, h]
theorem Vw.addr {α : Type} {f : α → Value} {T : TypeId} {w : World} {base : Nat} {a : Option Addr} {n c : Nat} {xs : List α} (h : Vw f T w base (.slice a n c) xs) (hx : xs ≠ []) : ∃ g o, a = some ⟨g, o, none⟩ := by
  rcases h with ⟨_, h⟩ | ⟨g, o, c', h, _⟩
  · exact absurd h hx
  · cases h; exact ⟨g, o, rfl⟩
theorem get_set_self {α : Type} {l : List α} {c : Nat} {x : α} (h : l[c]? = some x) (y : α) : (l.set c y)[c]? = some y := by rw [List.getElem?_set_self (get_lt h)]
section
variable {w wr w' : World} {base b : Nat} {room : Int} {qv sv : Value} {its : List It} {st : List Nat} {p : Int → Nat → Bool} {k i j : Nat} {L : List It}
theorem BoxR.updq {S : Nat → Prop} (h : BoxR w base b room qv sv its st) (u : Upd S w w') (hb : ¬ S b) (hs : ∀ k, sv.ownBlock = some k → ¬ S k) (hi : ∀ k ∈ itFoot its, ¬ S k) : BoxR w' base b room qv sv its st :=
  ⟨h.hb.upd u hb, h.hs.upd u hs, fun x hx => (h.hi x hx).upd u fun k hk => hi _ (in_itFoot hx hk), h.hbb, h.nd⟩
theorem DfM.skip (h : DfM w base b room qv sv its st p k i j L wr) {x : It} (hx : its[j]? = some x) (hd : delB p (DP p k (its.take j) st).2 x = true)
    (hr : BoxR w' base b room qv sv its (delS p k (DP p k (its.take j) st).2 x)) (u : Upd (chS b sv) wr w') : DfM w base b room qv sv its st p k i (j + 1) L w' := by
  have P := nodup_parts h.hr.nd
  have e := dp_snoc p k its st hx
  rw [if_pos hd] at e
  refine ⟨h.hl, Nat.lt_succ_of_lt h.ij, by rw [e]; exact h.ht, by rw [e]; exact h.hi, drop_drop1 h.hd, by rw [e]; exact hr, h.hq.upd u ?_, h.u.trans (u.mono fun _ _ h => .inl h)⟩
  intro g hg hS
  rcases hS with hS | hS
  · exact P.bq g hg hS
  · exact P.qs g hg hS
theorem DfM.keep (h : DfM w base b room qv sv its st p k i j L wr) {x : It} (hx : its[j]? = some x) (hd : delB p (DP p k (its.take j) st).2 x = false)
    (hr : BoxR w' base b room qv sv its (delS p k (DP p k (its.take j) st).2 x)) (u : Upd (chS b sv) wr w') {a : Option Addr} {n c : Nat} (hqv : qv = .slice a n c) :
    DfM w base b room qv sv its st p k (i + 1) (j + 1) (L.set i x) (w'.setCell (adr a i) x.ptr) := by
  have P := nodup_parts h.hr.nd
  have e := dp_snoc p k its st hx
  rw [if_neg (by rw [hd]; decide)] at e
  have hj := get_lt hx
  have hil : i < L.length := by rw [h.hl]; have := h.ij; omega
  obtain ⟨y, hy⟩ : ∃ y, L[i]? = some y := ⟨L[i], by simp [hil]⟩
  have hq' : Vw It.ptr 67 w' base qv L := h.hq.upd u fun g hg hS => by
    rcases hS with hS | hS
    · exact P.bq g hg hS
    · exact P.qs g hg hS
  have hg : qv.ownBlock = some (adr a i).block := by
    rw [hqv] at hq' ⊢
    have := (hq'.sl i y hy).1
    cases a with
    | none => simp [okAd] at this
    | some x => rfl
  have us : Upd (fun j => qv.ownBlock = some j) w' (w'.setCell (adr a i) x.ptr) := (Upd.refl _ _).setCell _ _ fun _ => hg
  refine ⟨by rw [List.length_set]; exact h.hl, by have := h.ij; omega, ?_, by rw [e]; simp [h.hi], ?_, ?_, ?_, ?_⟩
  · rw [e, List.take_add_one, List.take_set_of_le (Nat.le_refl _), get_set_self hy, h.ht]; rfl
  · rw [List.drop_set_of_lt (by have := h.ij; omega)]; exact drop_drop1 h.hd
  · rw [e]
    exact hr.updq us (fun hS => P.bq _ hS rfl) (fun j hj hS => P.qs _ hS hj) (fun j hj hS => P.qi _ hS hj)
  · subst hqv; exact hq'.set hil x
  · exact (h.u.trans (u.mono fun _ _ h => .inl h)).trans (us.mono fun _ _ h => .inr h)
/-- The row is cut and what is behind is cleared. -/
theorem DfM.fin (h : DfM w base b room qv sv its st p k i its.length L wr) {g o c : Nat} (hqv : qv = .slice (some ⟨g, o, none⟩) its.length c) (T : Nat) (hT : T = its.length - i) :
    (∀ j, j < T → (wr.cell? ⟨g, o + i + j, none⟩).isSome = true) ∧ (∀ j, j < T → wr.frozen? ⟨g, o + i + j, none⟩ = false) ∧ i < c ∧ its.length ≤ c ∧
    Vw It.ptr 67 (wr.setCells g (o + i) (List.replicate T (.pointer none))) base (.slice (some ⟨g, o, none⟩) i c) (DP p k its st).1 ∧
    BoxR (wr.setCells g (o + i) (List.replicate T (.pointer none))) base b room qv sv its (DP p k its st).2 ∧
    Upd (fun j => chS b sv j ∨ qv.ownBlock = some j) w (wr.setCells g (o + i) (List.replicate T (.pointer none))) := by
  subst hT
  have P := nodup_parts h.hr.nd
  have hl := h.hl
  have hij := h.ij
  have ht := h.ht
  have hi := h.hi
  have hr := h.hr
  have hu := h.u
  rw [List.take_length] at ht hi hr
  subst hqv
  rcases h.hq with ⟨e, _⟩ | ⟨g', o', c', e, h1, h2, h3, h4, h5⟩
  · cases e
  · simp only [Value.slice.injEq, Option.some.injEq, Addr.mk.injEq, and_true] at e
    obtain ⟨⟨rfl, rfl⟩, _, rfl⟩ := e
    rcases h5 with h5 | ⟨pre, sp, rfl, hb, e2⟩
    · omega
    have hu2 : Upd (fun j => j = g) wr (wr.setCells g (pre.length + i) (List.replicate (its.length - i) (.pointer none))) := Upd.setCells _ _ _ _ (Upd.refl _ _) rfl
    have hlen : (pre ++ (L.map It.ptr ++ sp)).length = pre.length + its.length + sp.length := by simp [hl]; omega
    refine ⟨fun j hj => ?_, fun j _ => hb.free _, by omega, by omega, ?_, ?_, hu.trans (hu2.mono fun j _ hj => by rw [hj]; exact .inr rfl)⟩
    · rw [hb.cell (List.getElem?_eq_getElem (by omega))]; rfl
    · have hk := Blk.setCells (List.replicate (its.length - i) (.pointer none)) (pre.length + i) wr _ hb (by simp [hl]; omega)
      refine .inr ⟨g, pre.length, c, by rw [hi], h1, by rw [size_setCells']; exact h2, by omega, h4, .inr ⟨pre, List.replicate (its.length - i) (.pointer none) ++ sp, rfl, ?_, by simp; omega⟩⟩
      have e1 : (pre ++ (L.map It.ptr ++ sp)).take (pre.length + i) = pre ++ (DP p k its st).1.map It.ptr := by
        rw [List.take_length_add_append, List.take_append_of_le_length (by simp; omega), ← List.map_take, ht]
      have e3 : (pre ++ (L.map It.ptr ++ sp)).drop (pre.length + i + (List.replicate (its.length - i) (Value.pointer none)).length) = sp := by
        rw [List.length_replicate, show pre.length + i + (its.length - i) = pre.length + (L.map It.ptr).length by simp; omega, List.drop_length_add_append, List.drop_left]
      rw [e1, e3] at hk
      simpa [List.append_assoc] using hk
    · exact hr.updq hu2 (fun e => P.bq b (by rw [e]; rfl) rfl) (fun j hj e => P.qs j (by rw [e]; rfl) hj) (fun j hj e => P.qi j (by rw [e]; rfl) hj)
end
/-- What DeleteFunc leaves. -/
def DfPost (w : World) (base b : Nat) (room : Int) (qv sv : Value) (its : List It) (st : List Nat) (p : Int → Nat → Bool) (k : Nat) (e : Ending) (w' : World) : Prop :=
  ∃ v, e = .returned v ∧ Vw It.ptr 67 w' base v (DP p k its st).1 ∧ (v.ownBlock = qv.ownBlock) ∧ BoxR w' base b room qv sv its (DP p k its st).2 ∧ Upd (fun j => chS b sv j ∨ qv.ownBlock = some j) w w'

set_option maxHeartbeats 4000000 in
set_option maxRecDepth 100000 in
theorem df_any (w : World) (base b : Nat) (room : Int) (a : Option Addr) (c : Nat) (sv : Value) (its : List It) (st : List Nat) (h : BoxAt w base b room (.slice a its.length c) sv its st) (bc cc sc tb : Nat) (cv : Value) (p : Int → Nat → Bool) (k : Nat) (hk : k ≤ 5)
    (hc : Cap w b (.slice a its.length c) sv its bc cc sc tb cv p k) (ha : AllSt its st) (hl : st.length ≤ 100000) (hil : its.length ≤ 100000) :
    Calls Try.prog 39 #[.slice a its.length c, .func (.func 40) #[] #[.pointer (some ⟨bc, 0, none⟩), .pointer (some ⟨cc, 0, none⟩), .pointer (some ⟨sc, 0, none⟩)]] w (DfPost w base b room (.slice a its.length c) sv its st p k) := by
  have I := Lib.hid (ix_any w base b room a c sv its st h bc cc sc tb cv p k hk hc ha hl hil)
  have H := Lib.hid h; have HC := Lib.hid hc; have HA := Lib.hid ha
  have PT := Lib.hid (nodup_parts h.r.nd)
  clear h hc ha
  go_enter Try.func39, Try.ntmps39
  go_wp2_with fail
  refine I.out.mono ?_
  rintro e w1 ⟨hu, hr⟩
  have U1 := Lib.hid hu; clear hu
  rcases hr with ⟨rfl, hno, hR⟩ | ⟨j, x, rfl, hx, hd, hbefore, hR⟩
  · have R1 := Lib.hid hR
    have hdp : Hid (DP p k its st = (its, st)) := dropF_none _ _ _ _ _ fun y hy => by
      have := hno y hy
      intro hh
      exact absurd (show delB p st y = true from decide_eq_true hh) (by rw [this]; decide)
    clear hno hR
    go_wp2_with fail
    go_ret
    refine ⟨_, rfl, ?_, rfl, ?_, U1.out.mono fun _ _ h => .inl h⟩
    · rw [hdp.out]
      exact H.out.q.upd U1.out fun g hg hS => by
        rcases hS with hS | hS
        · exact PT.out.bq g hg hS
        · exact PT.out.qs g hg hS
    · rw [hdp.out]; exact R1.out
  · have hjl := get_lt hx
    have hDPj : Hid (DP p k (its.take j) st = (its.take j, st)) := dropF_none _ _ _ _ _ fun y hy => by
      obtain ⟨i, hi⟩ := List.mem_iff_getElem?.1 hy
      have hij : i < j := by have := get_lt hi; simp at this; omega
      rw [List.getElem?_take_of_lt hij] at hi
      have := hbefore i y hij hi
      intro hh
      exact absurd (show delB p st y = true from decide_eq_true hh) (by rw [this]; decide)
    have M0 : Hid (DfM w base b room (.slice a its.length c) sv its st p k j (j + 1) its w1) := by
      have e := dp_snoc p k its st hx
      rw [hDPj.out] at e
      simp only at e
      rw [if_pos hd] at e
      unfold delS at e
      rw [if_pos hd] at e
      refine ⟨rfl, Nat.lt_succ_self _, by rw [e], by rw [e]; simp; omega, rfl, by rw [e]; exact hR, ?_, U1.out.mono fun _ _ h => .inl h⟩
      exact H.out.q.upd U1.out fun g hg hS => by
        rcases hS with hS | hS
        · exact PT.out.bq g hg hS
        · exact PT.out.qs g hg hS
    clear hx hd hbefore hR hDPj
    generalize hN : its.length = n at *
    have HN := Lib.hid hN; clear hN
    have hneg : ((j : Int) == -1) = false := by rw [beq_eq_false_iff_ne]; omega
    go_wp2_with fail
    clear hneg
    go_loopw [5, 6] (fun vi vj wr => DfRel w base b room (.slice a n c) sv its st p k vi vj wr) (fun _ vj _ => n - (intOf vj).toNat)
    case atStart => exact ⟨j, j + 1, its, by rw [HN.out]; omega, rfl, by go_num, M0.out⟩
    case round =>
      obtain ⟨i, j, L, hj, rfl, rfl, hM⟩ := hrel
      have HM := Lib.hid hM; have hj' : j ≤ n := by rw [HN.out] at hj; exact hj
      have hij := hM.ij
      clear hM hj M0
      by_cases hlt : j < n
      · obtain ⟨x, hx⟩ : ∃ x, its[j]? = some x := ⟨its[j]'(by rw [HN.out]; exact hlt), by simp⟩
        have HX := Lib.hid hx
        have hmem := Lib.hid (List.mem_of_getElem? hx)
        obtain ⟨s, hs, hs5⟩ := HA.out.dp p k hk j x hmem.out
        obtain ⟨oka, ca⟩ := HM.out.hq.sl j x (drop_get HM.out.hd hx)
        unfold It.ptr at ca
        have D := Lib.hid (drop1_any wr base b room (.slice a n c) sv its (DP p k (its.take j) st).2 HM.out.hr bc cc sc tb cv p k hk (HC.out.upd HM.out.u (fun i hi => by
          rcases hi with hi | hi
          · exact ch_foot hi
          · exact in_boxFoot (.inr (.inl hi)))) x hmem.out s hs hs5 (by rw [dropF_len]; exact hl))
        unfold Drop1Post at D
        clear hx hs hs5
        cases hd : delB p (DP p k (its.take j) st).2 x with
        | true =>
          have HD := Lib.hid hd
          rw [hd] at D
          clear hd
          go_wp2_with fail
          refine D.out.mono ?_
          rintro e w2 ⟨rfl, h1, h2⟩
          have M2 := Lib.hid (HM.out.skip HX.out HD.out h1 h2)
          clear h1 h2
          go_wp2_with fail
          go_roundw
          case rel => exact ⟨i, j + 1, L, by rw [HN.out]; omega, rfl, by go_num, M2.out⟩
          case measure => simp [intOf]; omega
        | false =>
          have HD := Lib.hid hd
          rw [hd] at D
          clear hd
          go_wp2_with fail
          refine D.out.mono ?_
          rintro e w2 ⟨rfl, h1, h2⟩
          have M2 := Lib.hid (HM.out.keep HX.out HD.out h1 h2 rfl)
          have hq2 := HM.out.hq.upd h2 (fun g hg hS => by
            rcases hS with hS | hS
            · exact PT.out.bq g hg hS
            · exact PT.out.qs g hg hS)
          have hil : i < L.length := by rw [HM.out.hl, HN.out]; omega
          obtain ⟨y, hy⟩ : ∃ y, L[i]? = some y := ⟨L[i], by simp [hil]⟩
          have d1 := (hq2.sl i y hy).2
          have f1 := hq2.free hil
          have hin : (i : Int) < (n : Int) := by omega
          clear h1 h2 hq2 hil hy
          go_wp2_with fail
          go_roundw
          case rel => exact ⟨i + 1, j + 1, _, by rw [HN.out]; omega, by go_num, by go_num, M2.out⟩
          case measure => simp [intOf]; omega
      · obtain rfl : j = n := by omega
        obtain ⟨g, o, rfl⟩ := HM.out.hq.addr (by intro e; have := HM.out.hl; rw [e, HN.out] at this; simp at this; omega)
        have M1 : DfM w base b room (.slice (some ⟨g, o, none⟩) its.length c) sv its st p k i its.length L wr := by rw [HN.out]; exact HM.out
        have F := M1.fin rfl (j - i) (by rw [HN.out])
        rw [HN.out] at F
        obtain ⟨F1, F2, F3, F4, F5, F6, F7⟩ := F
        have FV := Lib.hid F5; have FR := Lib.hid F6; have FU := Lib.hid F7
        have hcl := Lib.run_clear_slice (P := Try.prog) wr 64 67 0 (.pointer none) Try.underlying64 (fun _ => by kernel_rfl) rfl rfl g (o + i) (j - i) (c - i) (by omega) F1 F2
        have b1 : (i : Int) ≤ (j : Int) := by omega
        have b2 : (j : Int) ≤ (c : Int) := by omega
        have b3 : ¬ i = c := by omega
        have b4 : ¬ c = i := by omega
        have b5 : (i : Int) ≤ (c : Int) := by omega
        have b6 : (0 : Int) ≤ (i : Int) := by omega
        clear M1 F1 F2 F5 F6 F7 HM I
        go_wp2_with fail
        go_ret
        exact ⟨_, rfl, FV.out, rfl, FR.out, FU.out⟩
end Go.Proofs.Ytjljjohoipnhhaa
