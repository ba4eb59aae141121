/-
  slices.IndexFunc and slices.DeleteFunc at the closure of message.Box.drop; drop.
  message.Box: drop, Cancel, State, Counts, New.
  slices.Delete of the first message; State, Counts, New.
-/
import Derived.Test.YtkaaoomliepijaaGreatQBoxD
import Derived.Lib.SliceRun
namespace Go.Proofs.YtkaaoomliepijaaGreat
open Go.RowKit
set_option linter.unusedVariables false

/-- Every open message has a state. -/
def AllSt (its : List It) (st : List Nat) : Prop := ∀ x ∈ its, ∃ s, st[x.n]? = some s ∧ s ≤ 5
theorem AllSt.set {its : List It} {st : List Nat} (h : AllSt its st) (n k : Nat) (hk : k ≤ 5) : AllSt its (st.set n k) := by
  intro x hx
  obtain ⟨s, h1, h2⟩ := h x hx
  rw [List.getElem?_set]
  by_cases e : n = x.n
  · rw [if_pos e, if_pos (by rw [e]; exact get_lt h1)]; exact ⟨k, rfl, hk⟩
  · rw [if_neg e]; exact ⟨s, h1, h2⟩
def dpN (x : It) : Nat := x.n
def dpP (p : Int → Nat → Bool) (x : It) : Bool := p x.dl x.n
abbrev DP (p : Int → Nat → Bool) (k : Nat) (l : List It) (st : List Nat) : List It × List Nat := dropF dpN (dpP p) k l st
theorem dropF_one {α : Type} (n : α → Nat) (p : α → Bool) (k : Nat) (x : α) (st : List Nat) : dropF n p k [x] st = if st[n x]? = some 1 ∧ p x = true then ([], st.set (n x) k) else ([x], st) := rfl
theorem dp_snoc (p : Int → Nat → Bool) (k : Nat) (its : List It) (st : List Nat) {j : Nat} {x : It} (h : its[j]? = some x) :
    DP p k (its.take (j + 1)) st = (if delB p (DP p k (its.take j) st).2 x = true then (DP p k (its.take j) st).1 else (DP p k (its.take j) st).1 ++ [x], delS p k (DP p k (its.take j) st).2 x) := by
  rw [List.take_add_one, h]
  simp only [DP, Option.toList_some]
  rw [dropF_append, dropF_one]
  by_cases hd : (dropF dpN (dpP p) k (List.take j its) st).2[dpN x]? = some 1 ∧ dpP p x = true
  · have e : delB p (dropF dpN (dpP p) k (List.take j its) st).2 x = true := decide_eq_true hd
    unfold delS
    rw [if_pos hd, if_pos e, if_pos e, List.append_nil]; rfl
  · have e : ¬ delB p (dropF dpN (dpP p) k (List.take j its) st).2 x = true := fun h => hd (of_decide_eq_true h)
    unfold delS
    rw [if_neg hd, if_neg e, if_neg e]
theorem AllSt.dp {its : List It} {st : List Nat} (h : AllSt its st) (p : Int → Nat → Bool) (k : Nat) (hk : k ≤ 5) : ∀ j, AllSt its (DP p k (its.take j) st).2 := by
  intro j
  induction j with
  | zero => simpa [DP, dropF] using h
  | succ j ih =>
    cases hx : its[j]? with
    | none =>
      rw [List.take_add_one, hx]
      simpa using ih
    | some x =>
      rw [dp_snoc p k its st hx]
      show AllSt its (delS p k _ x)
      unfold delS
      split
      · exact ih.set _ _ hk
      · exact ih

def delV (bc cc sc : Nat) : Value := .func (.func 74) #[] #[.pointer (some ⟨bc, 0, none⟩), .pointer (some ⟨cc, 0, none⟩), .pointer (some ⟨sc, 0, none⟩)]
def IxRel (w : World) (base b : Nat) (room : Int) (qv sv : Value) (its : List It) (st : List Nat) (p : Int → Nat → Bool) (i : Value) (wr : World) : Prop :=
  ∃ k : Nat, k ≤ its.length ∧ i = .int .i64 k ∧ (∀ (j : Nat) (y : It), j < k → its[j]? = some y → delB p st y = false) ∧ BoxR wr base b room qv sv its st ∧ Upd (chS b sv) w wr
def IxPost (w : World) (base b : Nat) (room : Int) (qv sv : Value) (its : List It) (st : List Nat) (p : Int → Nat → Bool) (k : Nat) (e : Ending) (w' : World) : Prop :=
  Upd (chS b sv) w w' ∧ ((e = .returned (.int .i64 (-1)) ∧ (∀ y ∈ its, delB p st y = false) ∧ BoxR w' base b room qv sv its st) ∨
    ∃ (j : Nat) (x : It), e = .returned (.int .i64 j) ∧ its[j]? = some x ∧ delB p st x = true ∧ (∀ (i : Nat) (y : It), i < j → its[i]? = some y → delB p st y = false) ∧ BoxR w' base b room qv sv its (st.set x.n k))

set_option maxHeartbeats 4000000 in
set_option maxRecDepth 100000 in
theorem ix_any (w : World) (base b : Nat) (room : Int) (a : Option Addr) (c : Nat) (sv : Value) (its : List It) (st : List Nat) (h : BoxAt w base b room (.slice a its.length c) sv its st) (bc cc sc tb : Nat) (cv : Value) (p : Int → Nat → Bool) (k : Nat) (hk : k ≤ 5)
    (hc : Cap w b (.slice a its.length c) sv its bc cc sc tb cv p k) (ha : AllSt its st) (hl : st.length ≤ 100000) (hil : its.length ≤ 100000) :
    Calls Tryz.prog 82 #[.slice a its.length c, .func (.func 74) #[] #[.pointer (some ⟨bc, 0, none⟩), .pointer (some ⟨cc, 0, none⟩), .pointer (some ⟨sc, 0, none⟩)]] w (IxPost w base b room (.slice a its.length c) sv its st p k) := by
  have H := Lib.hid h; have HC := Lib.hid hc; have HA := Lib.hid ha
  have PT := Lib.hid (nodup_parts h.r.nd)
  clear h hc ha
  generalize hqv : (Value.slice a its.length c) = qv at *
  have HQV := Lib.hid hqv
  rw [← hqv]
  clear hqv
  generalize hN : its.length = n at *
  have HN := Lib.hid hN; clear hN
  go_enter Tryz.func82, Tryz.ntmps82
  go_wp2_with fail
  go_loopw [8] (fun i wr => IxRel w base b room qv sv its st p i wr) (fun i _ => n - (intOf i).toNat)
  case atStart => exact ⟨0, Nat.zero_le _, rfl, fun j y h => by omega, H.out.r, Upd.refl _ _⟩
  case round =>
    obtain ⟨j, hj, rfl, hv, hb, hu⟩ := hrel
    have HV := Lib.hid hv; have HB := Lib.hid hb; have HU := Lib.hid hu
    have hj' : j ≤ n := by rw [HN.out] at hj; exact hj
    clear hv hb hu hj
    by_cases hlt : j < n
    · obtain ⟨x, hx⟩ : ∃ x, its[j]? = some x := ⟨its[j]'(by rw [HN.out]; exact hlt), by simp⟩
      have HX := Lib.hid hx
      have hmem := Lib.hid (List.mem_of_getElem? hx)
      obtain ⟨s, hs, hs5⟩ := HA.out x hmem.out
      have hrow : Vw It.ptr 111 wr base qv its := H.out.q.upd HU.out (fun g hg hS => by
        rcases hS with hS | hS
        · exact PT.out.bq g hg hS
        · exact PT.out.qs g hg hS)
      rw [← HQV.out] at hrow
      obtain ⟨oka, ca⟩ := hrow.sl j x hx
      unfold It.ptr at ca
      have D := Lib.hid (drop1_any wr base b room qv sv its st HB.out bc cc sc tb cv p k hk (HC.out.upd HU.out fun _ => ch_foot) x hmem.out s hs hs5 hl)
      unfold Drop1Post at D
      clear hx hrow hs hs5
      cases hd : delB p st x with
      | true =>
        have HD := Lib.hid hd
        rw [hd] at D
        clear hd
        go_wp2_with fail
        refine D.out.mono ?_
        rintro e w1 ⟨rfl, h1, h2⟩
        have R1 := Lib.hid h1; have U1 := Lib.hid (HU.out.trans h2)
        clear h1 h2
        go_wp2_with fail
        go_ret
        refine ⟨U1.out, .inr ⟨j, x, rfl, HX.out, HD.out, HV.out, ?_⟩⟩
        have := R1.out
        unfold delS at this
        rw [if_pos HD.out] at this
        rw [HQV.out]
        exact this
      | false =>
        have HD := Lib.hid hd
        rw [hd] at D
        clear hd
        go_wp2_with fail
        refine D.out.mono ?_
        rintro e w1 ⟨rfl, h1, h2⟩
        unfold delS at h1
        rw [if_neg (by rw [HD.out]; decide)] at h1
        have R1 := Lib.hid h1; have U1 := Lib.hid (HU.out.trans h2)
        clear h1 h2
        have HV2 : Hid (∀ (i : Nat) (y : It), i < j + 1 → its[i]? = some y → delB p st y = false) := by
          intro i y hi hy
          by_cases e : i < j
          · exact HV.out i y e hy
          · obtain rfl : i = j := by omega
            have := HX.out.symm.trans hy
            cases this
            exact HD.out
        go_wp2_with fail
        go_roundw
        case rel => exact ⟨j + 1, by rw [HN.out]; omega, by go_num, HV2.out, R1.out, U1.out⟩
        case measure => simp [intOf]; omega
    · obtain rfl : j = n := by omega
      go_wp2_with fail
      go_ret
      rw [HQV.out]
      exact ⟨HU.out, .inl ⟨rfl, fun y hy => by obtain ⟨i, hi⟩ := List.mem_iff_getElem?.1 hy; exact HV.out i y (by rw [← HN.out]; exact get_lt hi) hi, HB.out⟩⟩

/-- DeleteFunc's loop: i messages are kept, message j is next; L is what the row holds. -/
structure DfM (w : World) (base b : Nat) (room : Int) (qv sv : Value) (its : List It) (st : List Nat) (p : Int → Nat → Bool) (k i j : Nat) (L : List It) (wr : World) : Prop where
  hl : L.length = its.length
  ij : i < j
  ht : L.take i = (DP p k (its.take j) st).1
  hi : (DP p k (its.take j) st).1.length = i
  hd : L.drop j = its.drop j
  hr : BoxR wr base b room qv sv its (DP p k (its.take j) st).2
  hq : Vw It.ptr 111 wr base qv L
  u : Upd (fun j => chS b sv j ∨ qv.ownBlock = some j) w wr
def DfRel (w : World) (base b : Nat) (room : Int) (qv sv : Value) (its : List It) (st : List Nat) (p : Int → Nat → Bool) (k : Nat) (vi vj : Value) (wr : World) : Prop :=
  ∃ (i j : Nat) (L : List It), j ≤ its.length ∧ vi = .int .i64 i ∧ vj = .int .i64 j ∧ DfM w base b room qv sv its st p k i j L wr
theorem drop_get {α : Type} {L l : List α} {j : Nat} {x : α} (h : L.drop j = l.drop j) (hx : l[j]? = some x) : L[j]? = some x := by
  have h1 : (L.drop j)[0]? = (l.drop j)[0]? := by rw [h]
  rw [List.getElem?_drop, List.getElem?_drop] at h1
  simpa [hx] using h1
theorem drop_drop1 {α : Type} {L l : List α} {j : Nat} (h : L.drop j = l.drop j) : L.drop (j + 1) = l.drop (j + 1) := by
  rw [← List.drop_drop, ← List.drop_drop, h]
theorem Vw.addr {α : Type} {f : α → Value} {T : TypeId} {w : World} {base : Nat} {a : Option Addr} {n c : Nat} {xs : List α} (h : Vw f T w base (.slice a n c) xs) (hx : xs ≠ []) : ∃ g o, a = some ⟨g, o, none⟩ := by
  rcases h with ⟨_, h⟩ | ⟨g, o, c', h, _⟩
  · exact absurd h hx
  · cases h; exact ⟨g, o, rfl⟩
theorem get_set_self {α : Type} {l : List α} {c : Nat} {x : α} (h : l[c]? = some x) (y : α) : (l.set c y)[c]? = some y := by rw [List.getElem?_set_self (get_lt h)]
section
variable {w wr w' : World} {base b : Nat} {room : Int} {qv sv : Value} {its : List It} {st : List Nat} {p : Int → Nat → Bool} {k i j : Nat} {L : List It}
theorem BoxR.updq {S : Nat → Prop} (h : BoxR w base b room qv sv its st) (u : Upd S w w') (hb : ¬ S b) (hs : ∀ k, sv.ownBlock = some k → ¬ S k) (hi : ∀ k ∈ itFoot its, ¬ S k) : BoxR w' base b room qv sv its st :=
  ⟨h.hb.upd u hb, h.hs.upd u hs, fun x hx => (h.hi x hx).upd u fun k hk => hi _ (in_itFoot hx hk), h.hbb, h.nd⟩
theorem DfM.skip (h : DfM w base b room qv sv its st p k i j L wr) {x : It} (hx : its[j]? = some x) (hd : delB p (DP p k (its.take j) st).2 x = true)
    (hr : BoxR w' base b room qv sv its (delS p k (DP p k (its.take j) st).2 x)) (u : Upd (chS b sv) wr w') : DfM w base b room qv sv its st p k i (j + 1) L w' := by
  have P := nodup_parts h.hr.nd
  have e := dp_snoc p k its st hx
  rw [if_pos hd] at e
  refine ⟨h.hl, Nat.lt_succ_of_lt h.ij, by rw [e]; exact h.ht, by rw [e]; exact h.hi, drop_drop1 h.hd, by rw [e]; exact hr, h.hq.upd u ?_, h.u.trans (u.mono fun _ _ h => .inl h)⟩
  intro g hg hS
  rcases hS with hS | hS
  · exact P.bq g hg hS
  · exact P.qs g hg hS
theorem DfM.keep (h : DfM w base b room qv sv its st p k i j L wr) {x : It} (hx : its[j]? = some x) (hd : delB p (DP p k (its.take j) st).2 x = false)
    (hr : BoxR w' base b room qv sv its (delS p k (DP p k (its.take j) st).2 x)) (u : Upd (chS b sv) wr w') {a : Option Addr} {n c : Nat} (hqv : qv = .slice a n c) :
    DfM w base b room qv sv its st p k (i + 1) (j + 1) (L.set i x) (w'.setCell (adr a i) x.ptr) := by
  have P := nodup_parts h.hr.nd
  have e := dp_snoc p k its st hx
  rw [if_neg (by rw [hd]; decide)] at e
  have hj := get_lt hx
  have hil : i < L.length := by rw [h.hl]; have := h.ij; omega
  obtain ⟨y, hy⟩ : ∃ y, L[i]? = some y := ⟨L[i], by simp [hil]⟩
  have hq' : Vw It.ptr 111 w' base qv L := h.hq.upd u fun g hg hS => by
    rcases hS with hS | hS
    · exact P.bq g hg hS
    · exact P.qs g hg hS
  have hg : qv.ownBlock = some (adr a i).block := by
    rw [hqv] at hq' ⊢
    have := (hq'.sl i y hy).1
    cases a with
    | none => simp [okAd] at this
    | some x => rfl
  have us : Upd (fun j => qv.ownBlock = some j) w' (w'.setCell (adr a i) x.ptr) := (Upd.refl _ _).setCell _ _ fun _ => hg
  refine ⟨by rw [List.length_set]; exact h.hl, by have := h.ij; omega, ?_, by rw [e]; simp [h.hi], ?_, ?_, ?_, ?_⟩
  · rw [e, List.take_add_one, List.take_set_of_le (Nat.le_refl _), get_set_self hy, h.ht]; rfl
  · rw [List.drop_set_of_lt (by have := h.ij; omega)]; exact drop_drop1 h.hd
  · rw [e]
    exact hr.updq us (fun hS => P.bq _ hS rfl) (fun j hj hS => P.qs _ hS hj) (fun j hj hS => P.qi _ hS hj)
  · subst hqv; exact hq'.set hil x
  · exact (h.u.trans (u.mono fun _ _ h => .inl h)).trans (us.mono fun _ _ h => .inr h)
/-- The row is cut and what is behind is cleared. -/
theorem DfM.fin (h : DfM w base b room qv sv its st p k i its.length L wr) {g o c : Nat} (hqv : qv = .slice (some ⟨g, o, none⟩) its.length c) (T : Nat) (hT : T = its.length - i) :
    (∀ j, j < T → (wr.cell? ⟨g, o + i + j, none⟩).isSome = true) ∧ (∀ j, j < T → wr.frozen? ⟨g, o + i + j, none⟩ = false) ∧ i < c ∧ its.length ≤ c ∧
    Vw It.ptr 111 (wr.setCells g (o + i) (List.replicate T (.pointer none))) base (.slice (some ⟨g, o, none⟩) i c) (DP p k its st).1 ∧
    BoxR (wr.setCells g (o + i) (List.replicate T (.pointer none))) base b room qv sv its (DP p k its st).2 ∧
    Upd (fun j => chS b sv j ∨ qv.ownBlock = some j) w (wr.setCells g (o + i) (List.replicate T (.pointer none))) := by
  subst hT
  have P := nodup_parts h.hr.nd
  have hl := h.hl
  have hij := h.ij
  have ht := h.ht
  have hi := h.hi
  have hr := h.hr
  have hu := h.u
  rw [List.take_length] at ht hi hr
  subst hqv
  rcases h.hq with ⟨e, _⟩ | ⟨g', o', c', e, h1, h2, h3, h4, h5⟩
  · cases e
  · simp only [Value.slice.injEq, Option.some.injEq, Addr.mk.injEq, and_true] at e
    obtain ⟨⟨rfl, rfl⟩, _, rfl⟩ := e
    rcases h5 with h5 | ⟨pre, sp, rfl, hb, e2⟩
    · omega
    have hu2 : Upd (fun j => j = g) wr (wr.setCells g (pre.length + i) (List.replicate (its.length - i) (.pointer none))) := Upd.setCells _ _ _ _ (Upd.refl _ _) rfl
    have hlen : (pre ++ (L.map It.ptr ++ sp)).length = pre.length + its.length + sp.length := by simp [hl]; omega
    refine ⟨fun j hj => ?_, fun j _ => hb.free _, by omega, by omega, ?_, ?_, hu.trans (hu2.mono fun j _ hj => by rw [hj]; exact .inr rfl)⟩
    · rw [hb.cell (List.getElem?_eq_getElem (by omega))]; rfl
    · have hk := Blk.setCells (List.replicate (its.length - i) (.pointer none)) (pre.length + i) wr _ hb (by simp [hl]; omega)
      refine .inr ⟨g, pre.length, c, by rw [hi], h1, by rw [size_setCells']; exact h2, by omega, h4, .inr ⟨pre, List.replicate (its.length - i) (.pointer none) ++ sp, rfl, ?_, by simp; omega⟩⟩
      have e1 : (pre ++ (L.map It.ptr ++ sp)).take (pre.length + i) = pre ++ (DP p k its st).1.map It.ptr := by
        rw [List.take_length_add_append, List.take_append_of_le_length (by simp; omega), ← List.map_take, ht]
      have e3 : (pre ++ (L.map It.ptr ++ sp)).drop (pre.length + i + (List.replicate (its.length - i) (Value.pointer none)).length) = sp := by
        rw [List.length_replicate, show pre.length + i + (its.length - i) = pre.length + (L.map It.ptr).length by simp; omega, List.drop_length_add_append, List.drop_left]
      rw [e1, e3] at hk
      simpa [List.append_assoc] using hk
    · exact hr.updq hu2 (fun e => P.bq b (by rw [e]; rfl) rfl) (fun j hj e => P.qs j (by rw [e]; rfl) hj) (fun j hj e => P.qi j (by rw [e]; rfl) hj)
end
/-- What DeleteFunc leaves. -/
def DfPost (w : World) (base b : Nat) (room : Int) (qv sv : Value) (its : List It) (st : List Nat) (p : Int → Nat → Bool) (k : Nat) (e : Ending) (w' : World) : Prop :=
  ∃ v, e = .returned v ∧ Vw It.ptr 111 w' base v (DP p k its st).1 ∧ (v.ownBlock = qv.ownBlock) ∧ BoxR w' base b room qv sv its (DP p k its st).2 ∧ Upd (fun j => chS b sv j ∨ qv.ownBlock = some j) w w'

set_option maxHeartbeats 4000000 in
set_option maxRecDepth 100000 in
theorem df_any (w : World) (base b : Nat) (room : Int) (a : Option Addr) (c : Nat) (sv : Value) (its : List It) (st : List Nat) (h : BoxAt w base b room (.slice a its.length c) sv its st) (bc cc sc tb : Nat) (cv : Value) (p : Int → Nat → Bool) (k : Nat) (hk : k ≤ 5)
    (hc : Cap w b (.slice a its.length c) sv its bc cc sc tb cv p k) (ha : AllSt its st) (hl : st.length ≤ 100000) (hil : its.length ≤ 100000) :
    Calls Tryz.prog 73 #[.slice a its.length c, .func (.func 74) #[] #[.pointer (some ⟨bc, 0, none⟩), .pointer (some ⟨cc, 0, none⟩), .pointer (some ⟨sc, 0, none⟩)]] w (DfPost w base b room (.slice a its.length c) sv its st p k) := by
  have I := Lib.hid (ix_any w base b room a c sv its st h bc cc sc tb cv p k hk hc ha hl hil)
  have H := Lib.hid h; have HC := Lib.hid hc; have HA := Lib.hid ha
  have PT := Lib.hid (nodup_parts h.r.nd)
  clear h hc ha
  go_enter Tryz.func73, Tryz.ntmps73
  go_wp2_with fail
  refine I.out.mono ?_
  rintro e w1 ⟨hu, hr⟩
  have U1 := Lib.hid hu; clear hu
  rcases hr with ⟨rfl, hno, hR⟩ | ⟨j, x, rfl, hx, hd, hbefore, hR⟩
  · have R1 := Lib.hid hR
    have hdp : Hid (DP p k its st = (its, st)) := dropF_none _ _ _ _ _ fun y hy => by
      have := hno y hy
      intro hh
      exact absurd (show delB p st y = true from decide_eq_true hh) (by rw [this]; decide)
    clear hno hR
    go_wp2_with fail
    go_ret
    refine ⟨_, rfl, ?_, rfl, ?_, U1.out.mono fun _ _ h => .inl h⟩
    · rw [hdp.out]
      exact H.out.q.upd U1.out fun g hg hS => by
        rcases hS with hS | hS
        · exact PT.out.bq g hg hS
        · exact PT.out.qs g hg hS
    · rw [hdp.out]; exact R1.out
  · have hjl := get_lt hx
    have hDPj : Hid (DP p k (its.take j) st = (its.take j, st)) := dropF_none _ _ _ _ _ fun y hy => by
      obtain ⟨i, hi⟩ := List.mem_iff_getElem?.1 hy
      have hij : i < j := by have := get_lt hi; simp at this; omega
      rw [List.getElem?_take_of_lt hij] at hi
      have := hbefore i y hij hi
      intro hh
      exact absurd (show delB p st y = true from decide_eq_true hh) (by rw [this]; decide)
    have M0 : Hid (DfM w base b room (.slice a its.length c) sv its st p k j (j + 1) its w1) := by
      have e := dp_snoc p k its st hx
      rw [hDPj.out] at e
      simp only at e
      rw [if_pos hd] at e
      unfold delS at e
      rw [if_pos hd] at e
      refine ⟨rfl, Nat.lt_succ_self _, by rw [e], by rw [e]; simp; omega, rfl, by rw [e]; exact hR, ?_, U1.out.mono fun _ _ h => .inl h⟩
      exact H.out.q.upd U1.out fun g hg hS => by
        rcases hS with hS | hS
        · exact PT.out.bq g hg hS
        · exact PT.out.qs g hg hS
    clear hx hd hbefore hR hDPj
    generalize hN : its.length = n at *
    have HN := Lib.hid hN; clear hN
    have hneg : ((j : Int) == -1) = false := by rw [beq_eq_false_iff_ne]; omega
    go_wp2_with fail
    clear hneg
    go_loopw [5, 6] (fun vi vj wr => DfRel w base b room (.slice a n c) sv its st p k vi vj wr) (fun _ vj _ => n - (intOf vj).toNat)
    case atStart => exact ⟨j, j + 1, its, by rw [HN.out]; omega, rfl, by go_num, M0.out⟩
    case round =>
      obtain ⟨i, j, L, hj, rfl, rfl, hM⟩ := hrel
      have HM := Lib.hid hM; have hj' : j ≤ n := by rw [HN.out] at hj; exact hj
      have hij := hM.ij
      clear hM hj M0
      by_cases hlt : j < n
      · obtain ⟨x, hx⟩ : ∃ x, its[j]? = some x := ⟨its[j]'(by rw [HN.out]; exact hlt), by simp⟩
        have HX := Lib.hid hx
        have hmem := Lib.hid (List.mem_of_getElem? hx)
        obtain ⟨s, hs, hs5⟩ := HA.out.dp p k hk j x hmem.out
        obtain ⟨oka, ca⟩ := HM.out.hq.sl j x (drop_get HM.out.hd hx)
        unfold It.ptr at ca
        have D := Lib.hid (drop1_any wr base b room (.slice a n c) sv its (DP p k (its.take j) st).2 HM.out.hr bc cc sc tb cv p k hk (HC.out.upd HM.out.u (fun i hi => by
          rcases hi with hi | hi
          · exact ch_foot hi
          · exact in_boxFoot (.inr (.inl hi)))) x hmem.out s hs hs5 (by rw [dropF_len]; exact hl))
        unfold Drop1Post at D
        clear hx hs hs5
        cases hd : delB p (DP p k (its.take j) st).2 x with
        | true =>
          have HD := Lib.hid hd
          rw [hd] at D
          clear hd
          go_wp2_with fail
          refine D.out.mono ?_
          rintro e w2 ⟨rfl, h1, h2⟩
          have M2 := Lib.hid (HM.out.skip HX.out HD.out h1 h2)
          clear h1 h2
          go_wp2_with fail
          go_roundw
          case rel => exact ⟨i, j + 1, L, by rw [HN.out]; omega, rfl, by go_num, M2.out⟩
          case measure => simp [intOf]; omega
        | false =>
          have HD := Lib.hid hd
          rw [hd] at D
          clear hd
          go_wp2_with fail
          refine D.out.mono ?_
          rintro e w2 ⟨rfl, h1, h2⟩
          have M2 := Lib.hid (HM.out.keep HX.out HD.out h1 h2 rfl)
          have hq2 := HM.out.hq.upd h2 (fun g hg hS => by
            rcases hS with hS | hS
            · exact PT.out.bq g hg hS
            · exact PT.out.qs g hg hS)
          have hil : i < L.length := by rw [HM.out.hl, HN.out]; omega
          obtain ⟨y, hy⟩ : ∃ y, L[i]? = some y := ⟨L[i], by simp [hil]⟩
          have d1 := (hq2.sl i y hy).2
          have f1 := hq2.free hil
          have hin : (i : Int) < (n : Int) := by omega
          clear h1 h2 hq2 hil hy
          go_wp2_with fail
          go_roundw
          case rel => exact ⟨i + 1, j + 1, _, by rw [HN.out]; omega, by go_num, by go_num, M2.out⟩
          case measure => simp [intOf]; omega
      · obtain rfl : j = n := by omega
        obtain ⟨g, o, rfl⟩ := HM.out.hq.addr (by intro e; have := HM.out.hl; rw [e, HN.out] at this; simp at this; omega)
        have M1 : DfM w base b room (.slice (some ⟨g, o, none⟩) its.length c) sv its st p k i its.length L wr := by rw [HN.out]; exact HM.out
        have F := M1.fin rfl (j - i) (by rw [HN.out])
        rw [HN.out] at F
        obtain ⟨F1, F2, F3, F4, F5, F6, F7⟩ := F
        have FV := Lib.hid F5; have FR := Lib.hid F6; have FU := Lib.hid F7
        have hcl := Lib.run_clear_slice (P := Tryz.prog) wr 79 111 0 (.pointer none) Tryz.underlying79 (fun _ => by kernel_rfl) rfl rfl g (o + i) (j - i) (c - i) (by omega) F1 F2
        have b1 : (i : Int) ≤ (j : Int) := by omega
        have b2 : (j : Int) ≤ (c : Int) := by omega
        have b3 : ¬ i = c := by omega
        have b4 : ¬ c = i := by omega
        have b5 : (i : Int) ≤ (c : Int) := by omega
        have b6 : (0 : Int) ≤ (i : Int) := by omega
        clear M1 F1 F2 F5 F6 F7 HM I
        go_wp2_with fail
        go_ret
        exact ⟨_, rfl, FV.out, rfl, FR.out, FU.out⟩
end Go.Proofs.YtkaaoomliepijaaGreat
namespace Go.Proofs.YtkaaoomliepijaaGreat
open Go.RowKit
set_option linter.unusedVariables false

def footS (b : Nat) (qv sv : Value) (its : List It) (k : Nat) : Prop := k ∈ boxFoot b qv sv its
/-- What 'drop' leaves. -/
def DropM (w : World) (base b : Nat) (room : Int) (qv sv : Value) (its : List It) (st : List Nat) (p : Int → Nat → Bool) (k : Nat) (w' : World) : Prop :=
  ∃ qv', BoxAt w' base b room qv' sv (DP p k its st).1 (DP p k its st).2 ∧ qv'.ownBlock = qv.ownBlock ∧ Upd (footS b qv sv its) w w'
theorem DropM.drew {w : World} {base b : Nat} {room : Int} {qv sv : Value} {its : List It} {st : List Nat} {p : Int → Nat → Bool} {k : Nat} {w' : World} (h : DropM w base b room qv sv its st p k w') : DropM w base b room qv sv its st p k w'.drew := by
  obtain ⟨v, h1, h2, h3⟩ := h
  exact ⟨v, h1.below (Qt.refl _).drew.bel, h2, h3.drew⟩
theorem dp_sub (p : Int → Nat → Bool) (k : Nat) (its : List It) (st : List Nat) : (DP p k its st).1.Sublist its := dropF_sub _ _ _ _ _
section
variable {w w' : World} {base b : Nat} {room : Int} {qv sv : Value} {its l : List It} {st : List Nat} {p : Int → Nat → Bool} {k : Nat}
theorem BoxR.storeQ (h : BoxR w base b room qv sv its st) {v : Value} (hv : Vw It.ptr 111 w base v l) (hs : l.Sublist its) (ho : v.ownBlock = qv.ownBlock) :
    BoxAt (w.setCell ⟨b, 1, none⟩ v) base b room v sv l st := by
  have P := nodup_parts h.nd
  have u : Upd (fun j => j = b) w (w.setCell ⟨b, 1, none⟩ v) := (Upd.refl _ _).setCell _ _ fun _ => rfl
  refine ⟨⟨?_, h.hs.upd u fun g hg e => P.bs g hg e, fun x hx => (h.hi x (hs.subset hx)).upd u fun j hj e => P.bi (by rw [← e]; exact in_itFoot (hs.subset hx) hj), h.hbb, ?_⟩, hv.upd u fun g hg e => P.bq g (by rw [← ho]; exact hg) e⟩
  · simpa using h.hb.set 1 v
  · refine parts_nodup ((P.q' (qv' := v) fun j hj => .inl (by rw [← ho]; exact hj)).sub hs)
theorem BoxAt.nfoot (h : BoxAt w base b room qv sv its st) {j : Nat} (hj : w.heap.size ≤ j) : j ∉ boxFoot b qv sv its := fun e => by have := (h.lt e).2; omega
end

structure DrW (w : World) (base b : Nat) (room : Int) (qv sv : Value) (its : List It) (st : List Nat) (bc cc sc tb : Nat) (cv : Value) (p : Int → Nat → Bool) (k : Nat) (w' : World) : Prop where
  at' : BoxAt w' base b room qv sv its st
  cap : Cap w' b qv sv its bc cc sc tb cv p k
  bel : Below w.heap.size w w'
theorem DrW.drew {w w' : World} {base b : Nat} {room : Int} {qv sv : Value} {its : List It} {st : List Nat} {bc cc sc tb : Nat} {cv : Value} {p : Int → Nat → Bool} {k : Nat} (h : DrW w base b room qv sv its st bc cc sc tb cv p k w') : DrW w base b room qv sv its st bc cc sc tb cv p k w'.drew :=
  ⟨h.at'.below (Qt.refl _).drew.bel, h.cap.upd (S := fun _ => False) (Upd.of_below (Qt.refl _).drew.bel) (fun _ h => h.elim), h.bel.trans (((Qt.refl _).drew.bel).mono h.bel.size)⟩

set_option maxHeartbeats 4000000 in
set_option maxRecDepth 100000 in
theorem drop_any (w : World) (base b : Nat) (room : Int) (a : Option Addr) (c : Nat) (sv : Value) (its : List It) (st : List Nat) (h : BoxAt w base b room (.slice a its.length c) sv its st) (tb : Nat) (cv : Value) (p : Int → Nat → Bool) (k : Nat) (hk : k ≤ 5)
    (hc : Cnd w cv tb p) (ht : tb ∉ boxFoot b (.slice a its.length c) sv its) (htl : tb < w.heap.size) (ha : AllSt its st) (hl : st.length ≤ 100000) (hil : its.length ≤ 100000) :
    Calls Tryz.prog 48 #[.pointer (some ⟨b, 0, none⟩), .int .i64 k, cv] w fun e w' => e = .returned (.tuple #[]) ∧ DropM w base b room (.slice a its.length c) sv its st p k w' := by
  have X : Hid (DrW w base b room (.slice a its.length c) sv its st w.heap.size (w.heap.size + 1 + 1) (w.heap.size + 1) tb cv p k
      (((w.alloc (.cells #[.pointer (some ⟨b, 0, none⟩)] 26)).alloc (.cells #[.int .i64 k] 3)).alloc (.cells #[cv] 114))) := by
    have B1 : Below w.heap.size w (w.alloc (.cells #[.pointer (some ⟨b, 0, none⟩)] 26)) := (Below.refl _ _).alloc (Nat.le_refl _) _
    have B2 := B1.alloc (by simp) (.cells #[.int .i64 k] 3)
    have B3 := B2.alloc (by simp; omega) (.cells #[cv] 114)
    refine ⟨h.below B3, ⟨?_, ?_, ?_, hc.upd (S := fun _ => False) (Upd.of_below B3) id, h.nfoot (Nat.le_refl _), h.nfoot (by omega), h.nfoot (by omega), ht⟩, B3⟩
    · exact ((Blk.new w _ [.pointer (some ⟨b, 0, none⟩)]).alloc _).alloc _
    · have := Blk.new ((w.alloc (.cells #[.pointer (some ⟨b, 0, none⟩)] 26)).alloc (.cells #[.int .i64 k] 3)) 114 [cv]
      simpa using this
    · have := (Blk.new (w.alloc (.cells #[.pointer (some ⟨b, 0, none⟩)] 26)) 3 [.int .i64 k]).alloc (.cells #[cv] 114)
      simpa using this
  have D : Hid (∀ w', DrW w base b room (.slice a its.length c) sv its st w.heap.size (w.heap.size + 1 + 1) (w.heap.size + 1) tb cv p k w' →
      Calls Tryz.prog 73 #[.slice a its.length c, .func (.func 74) #[] #[.pointer (some ⟨w.heap.size, 0, none⟩), .pointer (some ⟨w.heap.size + 1 + 1, 0, none⟩), .pointer (some ⟨w.heap.size + 1, 0, none⟩)]] w'
        fun e w2 => ∃ a' n' c', e = .returned (.slice a' n' c') ∧ w2.cell? ⟨b, 1, none⟩ = some (.slice a its.length c) ∧ w2.frozen? ⟨b, 1, none⟩ = false ∧ w2.cell? ⟨w.heap.size, 0, none⟩ = some (.pointer (some ⟨b, 0, none⟩)) ∧ DropM w base b room (.slice a its.length c) sv its st p k (w2.setCell ⟨b, 1, none⟩ (.slice a' n' c'))) := by
    intro w' hw
    refine (df_any w' base b room a c sv its st hw.at' _ _ _ tb cv p k hk hw.cap ha hl hil).mono ?_
    rintro e w2 ⟨v, rfl, hv, ho, hR, hu⟩
    have hu2 : Upd (footS b (.slice a its.length c) sv its) w w2 := Upd.then (Upd.of_below hw.bel) (hu.mono fun j _ hj => by
      rcases hj with hj | hj
      · exact ch_foot hj
      · exact in_boxFoot (.inr (.inl hj))) (fun _ _ h => h)
    obtain ⟨a', c', rfl⟩ := hv.shape
    refine ⟨a', _, c', rfl, hR.hb.cell rfl, hR.hb.free 1, ?_, _, hR.storeQ hv (dp_sub p k its st) ho, ho, hu2.setCell _ _ fun _ => in_boxFoot (.inl rfl)⟩
    have hbc := hw.cap.hb.upd hu (fun hj => hw.cap.nb (by
      rcases hj with hj | hj
      · exact ch_foot hj
      · exact in_boxFoot (.inr (.inl hj))))
    exact hbc.cell rfl
  have b1 := h.r.hb.cell (i := 1) rfl
  have hbl := h.r.hb.lt
  obtain ⟨f, rfl⟩ : ∃ f, cv = .func (.func f) #[] #[.pointer (some ⟨tb, 0, none⟩)] := by
    rcases hc with ⟨_, h, _⟩ | ⟨_, h, _⟩
    · exact ⟨_, h⟩
    · exact ⟨_, h⟩
  have b2 := X.out.at'.r.hb.cell (i := 1) rfl
  have b3 := X.out.cap.hb.cell (i := 0) rfl
  clear h hc ha
  generalize hN : its.length = n at *
  clear hN
  go_enter Tryz.func48, Tryz.ntmps48
  go_wp2_with fail
  go_region_law (first | (go_simp; go_at_call 73; refine (D.out _ (by first | exact X.out | exact X.out.drew)).mono ?_; rintro e w5 ⟨a', n', c', rfl, y1, y2, y3, h5⟩; have H5 := Lib.hid h5; clear h5))
  all_goals
    go_end0
    exact ⟨rfl, by first | exact H5.out | exact H5.out.drew | exact H5.out.drew.drew⟩
end Go.Proofs.YtkaaoomliepijaaGreat
namespace Go.Proofs.YtkaaoomliepijaaGreat
open Go.RowKit
set_option linter.unusedVariables false

theorem delq_wit (w : World) (g o n c : Nat) (x : It) (xs : List It) (pre sp : List Value) (ho : pre.length = o) (hb : Blk w g 111 (pre ++ ((x :: xs).map It.ptr ++ sp))) (hn : n = xs.length + 1) (hc : c = n + sp.length) :
    ∃ A : Addr, (if c = 1 then some (⟨g, o, none⟩ : Addr) else some ⟨g, o + 1, none⟩) = some A ∧ Hid (∀ j u, (xs.map It.ptr)[j]? = some u → w.drew.cell? (A.add j) = some u) := by
  by_cases h : c = 1
  · refine ⟨⟨g, o, none⟩, by simp [h], fun j u hu => ?_⟩
    have h0 : xs = [] := List.eq_nil_of_length_eq_zero (by omega)
    rw [h0] at hu
    simp at hu
  · refine ⟨⟨g, o + 1, none⟩, by simp [h], fun j u hu => ?_⟩
    rw [Addr.add_lit]
    refine hb.cell ?_
    have hj : j < (xs.map It.ptr).length := (List.getElem?_eq_some_iff.1 hu).1
    rw [List.getElem?_append_right (by omega), show o + 1 + j - pre.length = j + 1 by omega, List.map_cons, List.cons_append, List.getElem?_cons_succ, List.getElem?_append_left hj]
    exact hu

set_option maxHeartbeats 2000000 in
set_option maxRecDepth 1000000 in
theorem delq_blk (w : World) (g o n c : Nat) (x : It) (xs : List It) (pre sp : List Value) (ho : pre.length = o) (hb : Blk w g 111 (pre ++ ((x :: xs).map It.ptr ++ sp))) (hn : n = xs.length + 1) (hc : c = n + sp.length) (hm : c ≤ maxLen) :
    Calls Tryz.prog 52 #[.slice (some ⟨g, o, none⟩) n c, .int .i64 0, .int .i64 1] w fun e w' => e = .returned (.slice (some ⟨g, o, none⟩) xs.length c) ∧ Blk w' g 111 (pre ++ (xs.map It.ptr ++ (.pointer none) :: sp)) ∧ Upd (fun k => k = g) w w' := by
  obtain ⟨A, hA, hnews⟩ := delq_wit w g o n c x xs pre sp ho hb hn hc
  obtain ⟨i0, hi0, hz0, hz1, hz2⟩ := info_parts Tryz.infoItP
  have HB := Lib.hid hb
  have hfree : ∀ j, w.frozen? ⟨g, j, none⟩ = false := hb.free
  have s1 : Hid ((xs.map It.ptr).length = (n - 1) * 1) := by show _ = _; simp; omega
  have s2 : Hid (∀ u ∈ xs.map It.ptr, u.oneCell' = true) := one_map _ (fun _ => rfl) _
  have hsome : ∀ j, j < n → (w.cell? ⟨g, o + j, none⟩).isSome = true := by
    intro j hj
    have hlt : o + j < (pre ++ ((x :: xs).map It.ptr ++ sp)).length := by simp; omega
    rw [hb.cell (List.getElem?_eq_getElem hlt)]
    rfl
  have s3 : Hid (∀ j, j < (xs.map It.ptr).length → (w.drew.cell? ⟨g, o + 0 * 1 + j, none⟩).isSome = true ∧ w.drew.frozen? ⟨g, o + 0 * 1 + j, none⟩ = false) := by
    intro j hj
    have e : o + 0 * 1 + j = o + j := by omega
    rw [e]
    exact ⟨hsome j (by simp at hj; omega), hfree _⟩
  have hdrop : ∃ y : Value, ((x :: xs).map It.ptr ++ sp).drop xs.length = y :: sp := by
    refine ⟨((x :: xs).map It.ptr)[xs.length]'(by simp), ?_⟩
    rw [List.drop_append_of_le_length (by simp)]
    rw [show ((x :: xs).map It.ptr).drop xs.length = [((x :: xs).map It.ptr)[xs.length]'(by simp)] from by
      rw [List.drop_eq_getElem_cons (by simp), List.drop_eq_nil_of_le (by simp)]]
    rfl
  obtain ⟨y, hy⟩ := hdrop
  have K1 : Hid (Blk (w.drew.setCells g o (xs.map It.ptr)) g 111 (pre ++ (xs.map It.ptr ++ y :: sp))) := by
    show Blk _ _ _ _
    have := Blk.setCells (T := 111) (b := g) (xs.map It.ptr) o w.drew _ hb.drew (by simp; omega)
    rw [← ho, List.take_left, List.drop_length_add_append, List.length_map, hy, List.append_assoc, ho] at this
    exact this
  have hzv : ∀ w, (zeroValue 111).run Tryz.prog w = .ok (.pointer none) w := fun _ => by kernel_rfl
  have hcl := Lib.run_clear_slice (P := Tryz.prog) (w.drew.setCells g o (xs.map It.ptr)) 79 111 0 (.pointer none) Tryz.underlying79 hzv rfl rfl g (o + (n - 1)) (n - (n - 1)) (c - (n - 1)) (by omega)
    (fun j hj => by
      have e : o + (n - 1) + j = pre.length + (xs.map It.ptr).length := by simp; omega
      rw [e, K1.out.cell (i := pre.length + (xs.map It.ptr).length) (v := y) (by rw [List.getElem?_append_right (by omega), Nat.add_sub_cancel_left, List.getElem?_append_right (by omega)]; simp)]; rfl) (fun j hj => K1.out.free _)
  have K2 : Hid (Blk ((w.drew.setCells g o (xs.map It.ptr)).setCells g (o + xs.length) [.pointer none]) g 111 (pre ++ (xs.map It.ptr ++ (.pointer none) :: sp))) := by
    show Blk _ _ _ _
    have := Blk.setCells (T := 111) (b := g) [.pointer none] (o + xs.length) _ _ K1.out (by simp; omega)
    have e1 : (pre ++ (xs.map It.ptr ++ y :: sp)).take (o + xs.length) = pre ++ xs.map It.ptr := by
      rw [← ho, List.take_length_add_append, show xs.length = (xs.map It.ptr).length by simp, List.take_left]
    have e2 : (pre ++ (xs.map It.ptr ++ y :: sp)).drop (o + xs.length + [Value.pointer none].length) = sp := by
      rw [← ho, Nat.add_assoc, List.drop_length_add_append, show xs.length = (xs.map It.ptr).length by simp, List.drop_length_add_append]
      rfl
    rw [e1, e2] at this
    simpa [List.append_assoc] using this
  have U2 : Hid (Upd (fun k => k = g) w ((w.drew.setCells g o (xs.map It.ptr)).setCells g (o + xs.length) [.pointer none])) := Upd.setCells _ _ _ _ (Upd.setCells _ _ _ _ (Upd.refl _ w).drew rfl) rfl
  clear hb hsome hy hzv ho
  have b1 : 1 ≤ n := by omega
  have b2 : n ≤ c := by omega
  have b3 : (1 : Int) ≤ n := by omega
  have b4 : (0 : Int) ≤ (c : Int) := by omega
  have b5 : (1 : Int) ≤ (c : Int) := by omega
  have b6 : (n : Int) ≤ (c : Int) := by omega
  have HN := Lib.hid hn; have HC := Lib.hid hc; clear hn hc
  unfold maxLen at hm
  have h01 : ((0 : Int) == 1) = false := by decide
  go_enter Tryz.func52, Tryz.ntmps52
  go_wp2_with fail
  go_region_law (refine step_append_room rfl (.tmp 22) (.tmp 25) 79 rfl 111 i0 1 Tryz.underlying79 hi0 hz1 g o 0 c (by simp [Act.eval, Act.put]) A (n - 1) (c - 1) (xs.map It.ptr) (by simp [Act.eval, Act.put]) s1.out hnews.out s2.out (by omega) s3.out ?_)
  go_wp2_with fail
  go_ret
  have e1 : n - 1 = xs.length := by have := HN.out; omega
  have e2 : n - (n - 1) = 1 := by omega
  rw [e2, e1]
  exact ⟨rfl, K2.out, U2.out⟩
theorem delq_any (w : World) (base : Nat) (a : Option Addr) (n c : Nat) (x : It) (xs : List It) (h : Vw It.ptr 111 w base (.slice a n c) (x :: xs)) :
    Calls Tryz.prog 52 #[.slice a n c, .int .i64 0, .int .i64 1] w fun e w' => e = .returned (.slice a xs.length c) ∧ Vw It.ptr 111 w' base (.slice a xs.length c) xs ∧ Upd (fun k => (Value.slice a n c).ownBlock = some k) w w' := by
  rcases h with ⟨_, h⟩ | ⟨g, o, c', e, h1, h2, h3, h4, h5⟩
  · cases h
  · simp only [Value.slice.injEq] at e
    obtain ⟨rfl, rfl, rfl⟩ := e
    simp only [List.length_cons] at h3
    rcases h5 with h5 | ⟨pre, sp, ho, hb, e2⟩
    · omega
    refine (delq_blk w g o _ c x xs pre sp ho hb (by simp) (by simpa using e2) h4).mono ?_
    rintro e w' ⟨rfl, hb', hu⟩
    have hu' : Upd (fun k => (Value.slice (some ⟨g, o, none⟩) (x :: xs).length c).ownBlock = some k) w w' := hu.mono fun k _ hk => by rw [hk]; rfl
    refine ⟨rfl, .inr ⟨g, o, c, rfl, h1, Nat.lt_of_lt_of_le h2 hu.size, by omega, h4, .inr ⟨pre, _, ho, hb', ?_⟩⟩, hu'⟩
    simp at e2 ⊢
    omega

def stOf (st : List Nat) (n : Int) : Int := if n < 0 then 0 else ((st[n.toNat]?).getD 0 : Nat)
set_option maxHeartbeats 2000000 in
theorem state_any (w : World) (base b : Nat) (room : Int) (qv sv : Value) (its : List It) (st : List Nat) (h : BoxR w base b room qv sv its st) (hl : st.length ≤ 100000) (h5 : ∀ s ∈ st, s ≤ 5) (n : Int) :
    Calls Tryz.prog 12 #[.pointer (some ⟨b, 0, none⟩), .int .i64 n] w fun e w' => e = .returned (.int .i64 (stOf st n)) ∧ w = w' := by
  obtain ⟨a, c, rfl⟩ := h.hs.shape
  have b2 := h.hb.cell (i := 2) rfl
  have hsl := h.hs.sl
  unfold stOf
  by_cases h1 : n < 0
  · rw [if_pos h1]
    have hd : decide (n < 0) = true := by simpa using h1
    clear h hsl
    go_enter Tryz.func12, Tryz.ntmps12
    go_wp2
    go_ret
    exact ⟨rfl, rfl⟩
  · rw [if_neg h1]
    have hd : decide (n < 0) = false := by simpa using h1
    obtain ⟨k, rfl⟩ := Int.eq_ofNat_of_zero_le (show 0 ≤ n by omega)
    rw [Int.toNat_natCast]
    by_cases h2 : k < st.length
    · obtain ⟨s, hs⟩ : ∃ s, st[k]? = some s := ⟨st[k], by simp [h2]⟩
      obtain ⟨oka, ck⟩ := hsl k s hs
      unfold stV at ck
      rw [hs]
      show Calls _ _ _ _ fun e w' => e = .returned (.int .i64 (s : Int)) ∧ w = w'
      have hs5 := h5 s (List.mem_of_getElem? hs)
      have hd2 : decide (st.length ≤ k) = false := by simp; omega
      clear h hsl hs h1 h5
      go_enter Tryz.func12, Tryz.ntmps12
      go_wp2
      go_ret
      exact ⟨rfl, rfl⟩
    · rw [List.getElem?_eq_none (by omega)]
      show Calls _ _ _ _ fun e w' => e = .returned (.int .i64 0) ∧ w = w'
      have hd2 : decide (st.length ≤ k) = true := by simp; omega
      clear h hsl h1
      go_enter Tryz.func12, Tryz.ntmps12
      go_wp2
      go_ret
      exact ⟨rfl, rfl⟩

def BoxNew (w : World) (room : Int) (e : Ending) (w' : World) : Prop :=
  e = .returned (.tuple #[.pointer (some ⟨w.heap.size, 0, none⟩), .int .i64 0]) ∧ BoxAt w' w.heap.size w.heap.size room (.slice none 0 0) (.slice none 0 0) [] [] ∧ Below w.heap.size w w'
theorem boxNew_at (w : World) (room : Int) : BoxAt (w.alloc (.cells #[.int .i64 room, .slice none 0 0, .slice none 0 0, .int .i64 0, .int .i64 0, .int .i64 0, .int .i64 0, .int .i64 0, .int .i64 0] 82)) w.heap.size w.heap.size room (.slice none 0 0) (.slice none 0 0) [] [] :=
  ⟨⟨Blk.new w _ [.int .i64 room, .slice none 0 0, .slice none 0 0, .int .i64 0, .int .i64 0, .int .i64 0, .int .i64 0, .int .i64 0, .int .i64 0], Vw.nil _ _ _ _, (fun x hx => by cases hx), Nat.le_refl _, by simp [boxFoot, itFoot, Value.ownBlock]⟩, Vw.nil _ _ _ _⟩
set_option maxHeartbeats 2000000 in
theorem new_ok (w : World) (room : Int) (h1 : 1 ≤ room) (h2 : room ≤ 1000) : Calls Tryz.prog 16 #[.int .i64 room] w (BoxNew w room) := by
  have HN := Lib.hid (boxNew_at w room)
  have d1 : decide (room < 1) = false := by simp; omega
  have d2 : decide (1000 < room) = false := by simp; omega
  go_enter Tryz.func16, Tryz.ntmps16
  go_wp2
  go_ret2
  exact ⟨rfl, HN.out, (Below.refl _ _).alloc (Nat.le_refl _) _⟩
set_option maxHeartbeats 2000000 in
theorem new_bad (w : World) (room : Int) (h : room < 1 ∨ 1000 < room) : Calls Tryz.prog 16 #[.int .i64 room] w fun e w' => e = .returned (.tuple #[.pointer none, .int .i64 2]) ∧ w = w' := by
  rcases h with h | h
  · have d1 : decide (room < 1) = true := by simp; omega
    go_enter Tryz.func16, Tryz.ntmps16
    go_wp2
    go_ret2
    exact ⟨rfl, rfl⟩
  · have d1 : decide (room < 1) = false := by simp; omega
    have d2 : decide (1000 < room) = true := by simp; omega
    go_enter Tryz.func16, Tryz.ntmps16
    go_wp2
    go_ret2
    exact ⟨rfl, rfl⟩
end Go.Proofs.YtkaaoomliepijaaGreat
