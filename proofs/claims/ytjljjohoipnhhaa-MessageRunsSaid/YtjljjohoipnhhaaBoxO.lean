/-
  The walk of message.Box.Next.
-/
import Derived.Test.YtjljjohoipnhhaaBoxN
namespace Go.Proofs.Ytjljjohoipnhhaa
open Go.RowKit
set_option linter.unusedVariables false

def wantOf (ms : List Msg) (most : Int) : List Int := (sendL 0 ms most.toNat).2
def finOf (ms : List Msg) (most : Int) : List Msg := (sendL 0 ms most.toNat).1
/-- The box, and the bytes so far. -/
structure NxA (w0 : World) (base b : Nat) (room : Int) (F : Nat → Prop) (ov qv sv : Value) (its : List It) (st : List Nat) (ol : List Int) (w : World) : Prop where
  at' : BoxAt w base b room qv sv its st
  out : Vw (Value.int .u8) 5 w w0.heap.size ov ol
  on : ∀ k, ov.ownBlock = some k → k ∉ boxFoot b qv sv its
  ft : ∀ k ∈ boxFoot b qv sv its, F k
  u : Upd F w0 w
  fo : ∀ k, F k → k < w0.heap.size
section
variable {w0 w w' : World} {base b : Nat} {room : Int} {F : Nat → Prop} {ov qv sv : Value} {its l : List It} {st : List Nat} {ol : List Int}
theorem NxA.below (h : NxA w0 base b room F ov qv sv its st ol w) (q : Below w.heap.size w w') : NxA w0 base b room F ov qv sv its st ol w' :=
  ⟨h.at'.below q, h.out.below q, h.on, h.ft, Upd.then h.u (Upd.of_below (S := F) q) (fun _ _ h => h), h.fo⟩
theorem NxA.app (h : NxA w0 base b room F ov qv sv its st ol w) {ov' : Value} {ol' : List Int} (hv : Vw (Value.int .u8) 5 w' w0.heap.size ov' ol') (u : Upd (fun k => ov.ownBlock = some k) w w')
    (ho : ov'.ownBlock = ov.ownBlock ∨ ∀ g, ov'.ownBlock = some g → w.heap.size ≤ g) : NxA w0 base b room F ov' qv sv its st ol' w' := by
  refine ⟨h.at'.upd u fun k hk hS => h.on k hS hk, hv, fun k hk hf => ?_, h.ft, Upd.then h.u u fun i hi hs => ?_, h.fo⟩
  · rcases ho with e | e
    · exact h.on k (by rw [← e]; exact hk) hf
    · have := e k hk
      have := (h.at'.lt hf).2
      omega
  · have := (h.out.lt hs).1
    omega
theorem NxA.cut {x : It} (h : NxA w0 base b room F ov qv sv (x :: l) st ol w) {v : Value} {r : List Int} (hv : Vw (Value.int .u8) 5 w base v r) (ho : ∀ g, v.ownBlock = some g → x.rv.ownBlock = some g) :
    NxA w0 base b room F ov qv sv (⟨x.n, x.dl, r, x.b, v⟩ :: l) st ol (w.setCell ⟨x.b, 2, none⟩ v) := by
  obtain ⟨h1, h2⟩ := h.at'.r.storeRest hv ho
  have u : Upd (fun j => j = x.b) w (w.setCell ⟨x.b, 2, none⟩ v) := (Upd.refl _ _).setCell _ _ fun _ => rfl
  have hxf : x.b ∈ boxFoot b qv sv (x :: l) := in_boxFoot (.inr (.inr (.inr (in_itFoot (x := x) (by simp) (by simp [It.foot])))))
  have P := nodup_parts h.at'.r.nd
  refine ⟨⟨h1, (h.at'.q.upd u fun g hg e => P.qi g hg (by rw [e]; exact in_itFoot (x := x) (by simp) (by simp [It.foot]))).congr rfl⟩, h.out.upd u fun g hg e => h.on g hg (by rw [e]; exact hxf), fun k hk e => h.on k hk (h2 k e), fun k hk => h.ft k (h2 k hk), h.u.setCell _ _ fun _ => h.ft _ hxf, h.fo⟩
theorem NxA.chg {n k : Nat} (h : NxA w0 base b room F ov qv sv its st ol w) (hR : BoxR w' base b room qv sv its (st.set n k)) (u : Upd (chS b sv) w w') : NxA w0 base b room F ov qv sv its (st.set n k) ol w' := by
  have P := nodup_parts h.at'.r.nd
  refine ⟨⟨hR, h.at'.q.upd u fun g hg hS => ?_⟩, h.out.upd u fun g hg hS => h.on g hg (ch_foot hS), h.on, h.ft, h.u.trans (u.mono fun k _ hk => h.ft k (ch_foot hk)), h.fo⟩
  rcases hS with hS | hS
  · exact P.bq g hg hS
  · exact P.qs g hg hS
theorem NxA.del {x : It} {v : Value} (h : NxA w0 base b room F ov qv sv (x :: l) st ol w) (hv : Vw It.ptr 67 w' base v l) (u : Upd (fun k => qv.ownBlock = some k) w w') (ho : v.ownBlock = qv.ownBlock) :
    NxA w0 base b room F ov v sv l st ol (w'.setCell ⟨b, 1, none⟩ v) := by
  have P := nodup_parts h.at'.r.nd
  have hR : BoxR w' base b room qv sv (x :: l) st := h.at'.r.updq u (fun e => P.bq b e rfl) (fun k hk e => P.qs k e hk) (fun k hk e => P.qi k e hk)
  have hs : l.Sublist (x :: l) := List.sublist_cons_self _ _
  have hf : ∀ k ∈ boxFoot b v sv l, k ∈ boxFoot b qv sv (x :: l) := by
    intro k hk
    rcases of_boxFoot hk with h1 | h1 | h1 | h1
    · exact in_boxFoot (.inl h1)
    · exact in_boxFoot (.inr (.inl (by rw [← ho]; exact h1)))
    · exact in_boxFoot (.inr (.inr (.inl h1)))
    · exact in_boxFoot (.inr (.inr (.inr ((itFoot_sub hs).subset h1))))
  have hb : b ∈ boxFoot b qv sv (x :: l) := in_boxFoot (.inl rfl)
  have hu2 : Upd F w0 w' := h.u.trans (u.mono fun k _ hk => h.ft k (in_boxFoot (.inr (.inl hk))))
  refine ⟨hR.storeQ hv hs ho, ?_, fun k hk e => h.on k hk (hf k e), fun k hk => h.ft k (hf k hk), hu2.setCell _ _ fun _ => h.ft _ hb, h.fo⟩
  exact (h.out.upd u fun g hg e => h.on g hg (in_boxFoot (.inr (.inl e)))).upd (S := fun j => j = b) ((Upd.refl _ _).setCell _ _ fun _ => rfl) fun g hg e => h.on g hg (by rw [e]; exact hb)
end
/-- The loop of Next: the messages as they are, the bytes so far. -/
structure NxM (w0 : World) (base b : Nat) (room : Int) (F : Nat → Prop) (fin : List Msg) (want : List Int) (most : Int) (ov qv sv : Value) (its : List It) (ms : List Msg) (ol : List Int) (w : World) : Prop where
  a : NxA w0 base b room F ov qv sv its (ms.map Msg.st) ol w
  key : its.map It.key = queueL 0 ms
  ok : ∀ m ∈ ms, MsgOk m
  ln : ms.length ≤ 1000
  s1 : (sendL 0 ms (most.toNat - ol.length)).1 = fin
  s2 : ol ++ (sendL 0 ms (most.toNat - ol.length)).2 = want
  wl : want.length ≤ 100000000
theorem NxM.below {w0 w w' : World} {base b : Nat} {room : Int} {F : Nat → Prop} {fin : List Msg} {want : List Int} {most : Int} {ov qv sv : Value} {its : List It} {ms : List Msg} {ol : List Int} (h : NxM w0 base b room F fin want most ov qv sv its ms ol w) (q : Below w.heap.size w w') : NxM w0 base b room F fin want most ov qv sv its ms ol w' :=
  ⟨h.a.below q, h.key, h.ok, h.ln, h.s1, h.s2, h.wl⟩
/-- What Next leaves. -/
def NxPost (w0 : World) (base b : Nat) (room : Int) (F : Nat → Prop) (fin : List Msg) (want : List Int) (ov : Value) (w' : World) : Prop :=
  ∃ qv sv its, BoxAt w' base b room qv sv its (fin.map Msg.st) ∧ its.map It.key = queueL 0 fin ∧ Vw (Value.int .u8) 5 w' w0.heap.size ov want ∧ (∀ k ∈ boxFoot b qv sv its, F k) ∧ Upd F w0 w' ∧ ∀ m ∈ fin, MsgOk m
def NxRel (w0 : World) (base b : Nat) (room : Int) (F : Nat → Prop) (fin : List Msg) (want : List Int) (most : Int) (ov : Value) (w : World) : Prop :=
  ∃ qv sv its ms ol, NxM w0 base b room F fin want most ov qv sv its ms ol w
theorem NxM.done {w0 w : World} {base b : Nat} {room : Int} {F : Nat → Prop} {fin : List Msg} {want : List Int} {most : Int} {ov qv sv : Value} {its : List It} {ms : List Msg} {ol : List Int} (h : NxM w0 base b room F fin want most ov qv sv its ms ol w) (hd : its = [] ∨ most ≤ ol.length) :
    NxPost w0 base b room F fin want ov w := by
  have e : fin = ms ∧ want = ol := by
    rcases hd with rfl | hd
    · have hc := queueL_nil (i := 0) (ms := ms) (by rw [← h.key]; rfl)
      have e := sendL_closed 0 ms (most.toNat - ol.length) hc
      refine ⟨by rw [← h.s1, e], by rw [← h.s2, e]; simp⟩
    · have e0 : most.toNat - ol.length = 0 := by omega
      have e := sendL_zero 0 ms
      refine ⟨by rw [← h.s1, e0, e], by rw [← h.s2, e0, e]; simp⟩
  obtain ⟨rfl, rfl⟩ := e
  exact ⟨qv, sv, its, h.a.at', h.key, h.a.out, h.a.ft, h.a.u, h.ok⟩
theorem ol_le {w0 w : World} {base b : Nat} {room : Int} {F : Nat → Prop} {fin : List Msg} {want : List Int} {most : Int} {ov qv sv : Value} {its : List It} {ms : List Msg} {ol : List Int} (h : NxM w0 base b room F fin want most ov qv sv its ms ol w) : ol.length ≤ 100000000 := by
  have := congrArg List.length h.s2
  rw [List.length_append] at this
  have := h.wl
  omega

/-- The first message, and what it is behind the step. -/
structure Hd (x : It) (l : List It) (ms : List Msg) (a : List Msg) (m : Msg) (c : List Msg) : Prop where
  e : ms = a ++ m :: c
  ha : ∀ y ∈ a, 2 < y.st
  hm : m.st ≤ 2
  n : x.n = a.length
  dl : x.dl = m.dl
  r : x.rest = m.rest a.length
  q : l.map It.key = queueL (a.length + 1) c
theorem head_of {x : It} {l : List It} {ms : List Msg} (h : (x :: l).map It.key = queueL 0 ms) : ∃ a m c, Hd x l ms a m c := by
  rw [List.map_cons] at h
  obtain ⟨a, m, c, h1, h2, h3, h4, h5⟩ := queueL_head h.symm
  simp only [Nat.zero_add] at h4 h5
  unfold It.key at h4
  simp only [Prod.mk.injEq] at h4
  exact ⟨a, m, c, h1, h2, h3, h4.1, h4.2.1, h4.2.2, h5⟩
theorem Hd.len {x : It} {l : List It} {ms a : List Msg} {m : Msg} {c : List Msg} (h : Hd x l ms a m c) (ok : ∀ m ∈ ms, MsgOk m) : 1 ≤ x.rest.length ∧ x.rest.length ≤ 1005 := by
  have hk := ok m (by rw [h.e]; simp)
  have := hk.s h.hm
  have := hk.d2
  rw [h.r, rest_len]
  omega
theorem MsgOk.take {m : Msg} (h : MsgOk m) (hm : m.st ≤ 2) (i b : Nat) : MsgOk (m.take i b) := by
  have h1 := h.s hm
  have hl := rest_len m i
  unfold Msg.take
  split
  · exact h
  · split
    · exact ⟨h.d1, h.d2, h.dl, by show 1 ≤ 3; omega, by show 3 ≤ 5; omega, fun e => absurd (show (3 : Nat) = 1 from e) (by decide), fun e => absurd (show (3 : Nat) ≤ 2 from e) (by decide)⟩
    · rename_i h2 h3
      exact ⟨h.d1, h.d2, h.dl, by show 1 ≤ 2; omega, by show 2 ≤ 5; omega, fun e => absurd (show (2 : Nat) = 1 from e) (by decide), fun _ => by show m.out + min (m.rest i).length b < m.data.length + 5; omega⟩

/-- The step, in plain terms: the first message gives k bytes. -/
theorem NxM.next {w0 w w' : World} {base b : Nat} {room : Int} {F : Nat → Prop} {fin : List Msg} {want : List Int} {most : Int} {ov qv sv ov' qv' : Value} {x : It} {l its' : List It} {ms a c : List Msg} {m : Msg} {ol : List Int}
    (h : NxM w0 base b room F fin want most ov qv sv (x :: l) ms ol w) (hd : Hd x l ms a m c) {s : Nat} (hs : (m.take a.length (most.toNat - ol.length)).st = s)
    (hA : NxA w0 base b room F ov' qv' sv its' ((ms.map Msg.st).set x.n s) (ol ++ x.rest.take (most.toNat - ol.length)) w')
    (hk : its'.map It.key = if s ≤ 2 then (x.n, x.dl, x.rest.drop (min x.rest.length (most.toNat - ol.length))) :: l.map It.key else l.map It.key) :
    NxM w0 base b room F fin want most ov' qv' sv its' (a ++ m.take a.length (most.toNat - ol.length) :: c) (ol ++ x.rest.take (most.toNat - ol.length)) w' := by
  have hr := hd.r
  have hlen : 1 ≤ (m.rest (0 + a.length)).length := by rw [Nat.zero_add, ← hr]; exact (hd.len h.ok).1
  have hst := sendL_step 0 a m c (most.toNat - ol.length) hd.ha hd.hm hlen
  rw [← hd.e] at hst
  simp only [Nat.zero_add] at hst
  rw [← hr] at hst
  have e0 : most.toNat - (ol ++ x.rest.take (most.toNat - ol.length)).length = most.toNat - ol.length - min x.rest.length (most.toNat - ol.length) := by
    rw [List.length_append, List.length_take]; omega
  have h1 := h.s1
  have h2 := h.s2
  rw [hst] at h1 h2
  refine ⟨?_, ?_, ?_, ?_, by rw [e0]; exact h1, by rw [e0, List.append_assoc]; exact h2, h.wl⟩
  · have e := st_set a m (m.take a.length (most.toNat - ol.length)) c
    rw [← hd.e, hs] at e
    rw [e, ← hd.n]
    exact hA
  · rw [hk, queueL_append, queueL_closed 0 a hd.ha, List.nil_append, queueL_cons, hs, take_dl, Nat.zero_add, rest_take, ← hr, ← hd.dl, hd.q, hd.n]
  · intro y hy
    rcases List.mem_append.1 hy with hy | hy
    · exact h.ok y (by rw [hd.e]; simp [hy])
    · rcases List.mem_cons.1 hy with rfl | hy
      · exact (h.ok m (by rw [hd.e]; simp)).take hd.hm _ _
      · exact h.ok y (by rw [hd.e]; simp [hy])
  · have := h.ln
    rw [hd.e] at this
    simpa using this
end Go.Proofs.Ytjljjohoipnhhaa
