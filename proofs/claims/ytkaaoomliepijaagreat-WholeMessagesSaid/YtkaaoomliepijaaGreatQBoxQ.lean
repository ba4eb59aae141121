/-
  message.Box.Next.
  The walk of message.Box.Next.
  The contract of message.Box.Next.
-/
import Derived.Test.YtkaaoomliepijaaGreatQBoxH
namespace Go.Proofs.YtkaaoomliepijaaGreat
open Go.RowKit
set_option linter.unusedVariables false

theorem queueL_nil : ∀ {i : Nat} {ms : List Msg}, queueL i ms = [] → ∀ y ∈ ms, 2 < y.st
  | _, [], _, y, hy => by cases hy
  | i, m :: l, h, y, hy => by
    rw [queueL_cons] at h
    split at h
    · cases h
    · rename_i hm
      rcases List.mem_cons.1 hy with rfl | hy
      · omega
      · exact queueL_nil h y hy
theorem queueL_closed : ∀ (i : Nat) (a : List Msg), (∀ y ∈ a, 2 < y.st) → queueL i a = []
  | _, [], _ => rfl
  | i, m :: l, h => by
    rw [queueL_cons, if_neg (by have := h m (by simp); omega)]
    exact queueL_closed _ l fun y hy => h y (by simp [hy])
theorem queueL_head : ∀ {i : Nat} {ms : List Msg} {x : Nat × Int × List Int} {q : List (Nat × Int × List Int)}, queueL i ms = x :: q →
    ∃ a m c, ms = a ++ m :: c ∧ (∀ y ∈ a, 2 < y.st) ∧ m.st ≤ 2 ∧ x = (i + a.length, m.dl, m.rest (i + a.length)) ∧ q = queueL (i + a.length + 1) c
  | _, [], x, q, h => by cases h
  | i, m :: l, x, q, h => by
    rw [queueL_cons] at h
    split at h
    · rename_i hm
      simp only [List.cons.injEq] at h
      obtain ⟨h1, h2⟩ := h
      exact ⟨[], m, l, rfl, by simp, hm, by simp [h1], by simp [h2]⟩
    · rename_i hm
      obtain ⟨a, m', c, h1, h2, h3, h4, h5⟩ := queueL_head h
      refine ⟨m :: a, m', c, by rw [h1]; rfl, ?_, h3, ?_, ?_⟩
      · intro y hy
        rcases List.mem_cons.1 hy with rfl | hy
        · omega
        · exact h2 y hy
      · rw [h4, List.length_cons, show i + 1 + a.length = i + (a.length + 1) by omega]
      · rw [h5, List.length_cons, show i + 1 + a.length = i + (a.length + 1) by omega]
theorem rest_take (m : Msg) (i b : Nat) : (m.take i b).rest i = (m.rest i).drop (min (m.rest i).length b) := by
  unfold Msg.take
  split
  · rename_i h; rw [h]; rfl
  · split <;> (unfold Msg.rest; simp only [List.drop_drop])
theorem take_dl (m : Msg) (i b : Nat) : (m.take i b).dl = m.dl := by unfold Msg.take; split <;> (try split) <;> rfl
theorem st_set (a : List Msg) (m m' : Msg) (c : List Msg) : (a ++ m' :: c).map Msg.st = ((a ++ m :: c).map Msg.st).set a.length m'.st := by
  rw [List.map_append, List.map_append, List.map_cons, List.map_cons]
  have := set_pre (a.map Msg.st) m.st m'.st (c.map Msg.st)
  rw [List.length_map] at this
  exact this.symm
theorem Vw.congr {α β : Type} {f : α → Value} {g : β → Value} {T : TypeId} {w : World} {base : Nat} {v : Value} {xs : List α} {ys : List β} (h : Vw f T w base v xs) (he : xs.map f = ys.map g) : Vw g T w base v ys := by
  have hl : xs.length = ys.length := by have := congrArg List.length he; simpa using this
  rcases h with ⟨h1, h2⟩ | ⟨gb, o, c, h⟩
  · exact .inl ⟨h1, List.eq_nil_of_length_eq_zero (by rw [← hl, h2]; rfl)⟩
  · rw [hl, he] at h
    exact .inr ⟨gb, o, c, h⟩

section
variable {w w' : World} {base b : Nat} {room : Int} {qv sv : Value} {its l : List It} {st : List Nat}
/-- The first message's bytes are cut. -/
theorem BoxR.storeRest {x : It} (h : BoxR w base b room qv sv (x :: l) st) {v : Value} {r : List Int} (hv : Vw (Value.int .u8) 5 w base v r) (ho : ∀ g, v.ownBlock = some g → x.rv.ownBlock = some g) :
    BoxR (w.setCell ⟨x.b, 2, none⟩ v) base b room qv sv (⟨x.n, x.dl, r, x.b, v⟩ :: l) st ∧ (∀ k ∈ boxFoot b qv sv (⟨x.n, x.dl, r, x.b, v⟩ :: l), k ∈ boxFoot b qv sv (x :: l)) := by
  have P := nodup_parts h.nd
  have u : Upd (fun j => j = x.b) w (w.setCell ⟨x.b, 2, none⟩ v) := (Upd.refl _ _).setCell _ _ fun _ => rfl
  have hxf : x.b ∈ itFoot (x :: l) := in_itFoot (x := x) (by simp) (by simp [It.foot])
  have hx := h.hi x (by simp)
  have hii := P.ii
  rw [itFoot_cons] at hii
  have hxn : x.foot.Nodup := (List.nodup_append.1 hii).1
  have hxl : ∀ k ∈ x.foot, k ∉ itFoot l := fun k hk hk2 => (List.nodup_append.1 hii).2.2 k hk k hk2 rfl
  have hbv : ∀ g, v.ownBlock = some g → g ≠ x.b := by
    intro g hg e
    have := ho g hg
    unfold It.foot at hxn
    rw [this] at hxn
    simp at hxn
    exact hxn e.symm
  have hsub : ∀ k ∈ itFoot (⟨x.n, x.dl, r, x.b, v⟩ :: l), k ∈ itFoot (x :: l) := by
    intro k hk
    rw [itFoot_cons] at hk ⊢
    rcases List.mem_append.1 hk with hk | hk
    · refine List.mem_append.2 (.inl ?_)
      unfold It.foot at hk ⊢
      rcases List.mem_cons.1 hk with rfl | hk
      · exact List.mem_cons_self
      · exact List.mem_cons_of_mem _ (by simpa using ho k (by simpa using hk))
    · exact List.mem_append.2 (.inr hk)
  have hP : Parts b qv sv (⟨x.n, x.dl, r, x.b, v⟩ :: l) := by
    refine ⟨P.bq, P.bs, fun e => P.bi (hsub _ e), P.qs, fun k hk e => P.qi k hk (hsub _ e), fun k hk e => P.si k hk (hsub _ e), ?_⟩
    rw [itFoot_cons]
    refine List.nodup_append.2 ⟨?_, (List.nodup_append.1 hii).2.1, ?_⟩
    · unfold It.foot
      refine List.nodup_cons.2 ⟨fun e => ?_, opt_nodup _⟩
      exact hbv x.b (by simpa using e) rfl
    · rintro k hk j hj rfl
      refine hxl k ?_ hj
      unfold It.foot at hk ⊢
      rcases List.mem_cons.1 hk with rfl | hk
      · exact List.mem_cons_self
      · exact List.mem_cons_of_mem _ (by simpa using ho k (by simpa using hk))
  refine ⟨⟨h.hb.upd u fun e => P.bi (by rw [e]; exact hxf), h.hs.upd u fun g hg e => P.si g hg (by rw [e]; exact hxf), ?_, h.hbb, parts_nodup hP⟩, ?_⟩
  · intro y hy
    rcases List.mem_cons.1 hy with rfl | hy
    · exact ⟨by simpa using hx.hb.set 2 v, hv.upd u fun g hg e => hbv g hg e, hx.hx⟩
    · exact (h.hi y (by simp [hy])).upd u fun k hk e => hxl x.b (by simp [It.foot]) (by rw [← e]; exact in_itFoot hy hk)
  · intro k hk
    rcases of_boxFoot hk with h1 | h1 | h1 | h1
    · exact in_boxFoot (.inl h1)
    · exact in_boxFoot (.inr (.inl h1))
    · exact in_boxFoot (.inr (.inr (.inl h1)))
    · exact in_boxFoot (.inr (.inr (.inr (hsub k h1))))
end
end Go.Proofs.YtkaaoomliepijaaGreat
namespace Go.Proofs.YtkaaoomliepijaaGreat
open Go.RowKit
set_option linter.unusedVariables false

def wantOf (ms : List Msg) (most : Int) : List Int := (sendL 0 ms most.toNat).2
def finOf (ms : List Msg) (most : Int) : List Msg := (sendL 0 ms most.toNat).1
/-- The box, and the bytes so far. -/
structure NxA (w0 : World) (base b : Nat) (room : Int) (F : Nat → Prop) (ov qv sv : Value) (its : List It) (st : List Nat) (ol : List Int) (w : World) : Prop where
  at' : BoxAt w base b room qv sv its st
  out : Vw (Value.int .u8) 5 w w0.heap.size ov ol
  on : ∀ k, ov.ownBlock = some k → k ∉ boxFoot b qv sv its
  ft : ∀ k ∈ boxFoot b qv sv its, F k
  u : Upd F w0 w
  fo : ∀ k, F k → k < w0.heap.size
section
variable {w0 w w' : World} {base b : Nat} {room : Int} {F : Nat → Prop} {ov qv sv : Value} {its l : List It} {st : List Nat} {ol : List Int}
theorem NxA.below (h : NxA w0 base b room F ov qv sv its st ol w) (q : Below w.heap.size w w') : NxA w0 base b room F ov qv sv its st ol w' :=
  ⟨h.at'.below q, h.out.below q, h.on, h.ft, Upd.then h.u (Upd.of_below (S := F) q) (fun _ _ h => h), h.fo⟩
theorem NxA.app (h : NxA w0 base b room F ov qv sv its st ol w) {ov' : Value} {ol' : List Int} (hv : Vw (Value.int .u8) 5 w' w0.heap.size ov' ol') (u : Upd (fun k => ov.ownBlock = some k) w w')
    (ho : ov'.ownBlock = ov.ownBlock ∨ ∀ g, ov'.ownBlock = some g → w.heap.size ≤ g) : NxA w0 base b room F ov' qv sv its st ol' w' := by
  refine ⟨h.at'.upd u fun k hk hS => h.on k hS hk, hv, fun k hk hf => ?_, h.ft, Upd.then h.u u fun i hi hs => ?_, h.fo⟩
  · rcases ho with e | e
    · exact h.on k (by rw [← e]; exact hk) hf
    · have := e k hk
      have := (h.at'.lt hf).2
      omega
  · have := (h.out.lt hs).1
    omega
theorem NxA.cut {x : It} (h : NxA w0 base b room F ov qv sv (x :: l) st ol w) {v : Value} {r : List Int} (hv : Vw (Value.int .u8) 5 w base v r) (ho : ∀ g, v.ownBlock = some g → x.rv.ownBlock = some g) :
    NxA w0 base b room F ov qv sv (⟨x.n, x.dl, r, x.b, v⟩ :: l) st ol (w.setCell ⟨x.b, 2, none⟩ v) := by
  obtain ⟨h1, h2⟩ := h.at'.r.storeRest hv ho
  have u : Upd (fun j => j = x.b) w (w.setCell ⟨x.b, 2, none⟩ v) := (Upd.refl _ _).setCell _ _ fun _ => rfl
  have hxf : x.b ∈ boxFoot b qv sv (x :: l) := in_boxFoot (.inr (.inr (.inr (in_itFoot (x := x) (by simp) (by simp [It.foot])))))
  have P := nodup_parts h.at'.r.nd
  refine ⟨⟨h1, (h.at'.q.upd u fun g hg e => P.qi g hg (by rw [e]; exact in_itFoot (x := x) (by simp) (by simp [It.foot]))).congr rfl⟩, h.out.upd u fun g hg e => h.on g hg (by rw [e]; exact hxf), fun k hk e => h.on k hk (h2 k e), fun k hk => h.ft k (h2 k hk), h.u.setCell _ _ fun _ => h.ft _ hxf, h.fo⟩
theorem NxA.chg {n k : Nat} (h : NxA w0 base b room F ov qv sv its st ol w) (hR : BoxR w' base b room qv sv its (st.set n k)) (u : Upd (chS b sv) w w') : NxA w0 base b room F ov qv sv its (st.set n k) ol w' := by
  have P := nodup_parts h.at'.r.nd
  refine ⟨⟨hR, h.at'.q.upd u fun g hg hS => ?_⟩, h.out.upd u fun g hg hS => h.on g hg (ch_foot hS), h.on, h.ft, h.u.trans (u.mono fun k _ hk => h.ft k (ch_foot hk)), h.fo⟩
  rcases hS with hS | hS
  · exact P.bq g hg hS
  · exact P.qs g hg hS
theorem NxA.del {x : It} {v : Value} (h : NxA w0 base b room F ov qv sv (x :: l) st ol w) (hv : Vw It.ptr 111 w' base v l) (u : Upd (fun k => qv.ownBlock = some k) w w') (ho : v.ownBlock = qv.ownBlock) :
    NxA w0 base b room F ov v sv l st ol (w'.setCell ⟨b, 1, none⟩ v) := by
  have P := nodup_parts h.at'.r.nd
  have hR : BoxR w' base b room qv sv (x :: l) st := h.at'.r.updq u (fun e => P.bq b e rfl) (fun k hk e => P.qs k e hk) (fun k hk e => P.qi k e hk)
  have hs : l.Sublist (x :: l) := List.sublist_cons_self _ _
  have hf : ∀ k ∈ boxFoot b v sv l, k ∈ boxFoot b qv sv (x :: l) := by
    intro k hk
    rcases of_boxFoot hk with h1 | h1 | h1 | h1
    · exact in_boxFoot (.inl h1)
    · exact in_boxFoot (.inr (.inl (by rw [← ho]; exact h1)))
    · exact in_boxFoot (.inr (.inr (.inl h1)))
    · exact in_boxFoot (.inr (.inr (.inr ((itFoot_sub hs).subset h1))))
  have hb : b ∈ boxFoot b qv sv (x :: l) := in_boxFoot (.inl rfl)
  have hu2 : Upd F w0 w' := h.u.trans (u.mono fun k _ hk => h.ft k (in_boxFoot (.inr (.inl hk))))
  refine ⟨hR.storeQ hv hs ho, ?_, fun k hk e => h.on k hk (hf k e), fun k hk => h.ft k (hf k hk), hu2.setCell _ _ fun _ => h.ft _ hb, h.fo⟩
  exact (h.out.upd u fun g hg e => h.on g hg (in_boxFoot (.inr (.inl e)))).upd (S := fun j => j = b) ((Upd.refl _ _).setCell _ _ fun _ => rfl) fun g hg e => h.on g hg (by rw [e]; exact hb)
end
/-- The loop of Next: the messages as they are, the bytes so far. -/
structure NxM (w0 : World) (base b : Nat) (room : Int) (F : Nat → Prop) (fin : List Msg) (want : List Int) (most : Int) (ov qv sv : Value) (its : List It) (ms : List Msg) (ol : List Int) (w : World) : Prop where
  a : NxA w0 base b room F ov qv sv its (ms.map Msg.st) ol w
  key : its.map It.key = queueL 0 ms
  ok : ∀ m ∈ ms, MsgOk m
  ln : ms.length ≤ 1000
  s1 : (sendL 0 ms (most.toNat - ol.length)).1 = fin
  s2 : ol ++ (sendL 0 ms (most.toNat - ol.length)).2 = want
  wl : want.length ≤ 100000000
theorem NxM.below {w0 w w' : World} {base b : Nat} {room : Int} {F : Nat → Prop} {fin : List Msg} {want : List Int} {most : Int} {ov qv sv : Value} {its : List It} {ms : List Msg} {ol : List Int} (h : NxM w0 base b room F fin want most ov qv sv its ms ol w) (q : Below w.heap.size w w') : NxM w0 base b room F fin want most ov qv sv its ms ol w' :=
  ⟨h.a.below q, h.key, h.ok, h.ln, h.s1, h.s2, h.wl⟩
/-- What Next leaves. -/
def NxPost (w0 : World) (base b : Nat) (room : Int) (F : Nat → Prop) (fin : List Msg) (want : List Int) (ov : Value) (w' : World) : Prop :=
  ∃ qv sv its, BoxAt w' base b room qv sv its (fin.map Msg.st) ∧ its.map It.key = queueL 0 fin ∧ Vw (Value.int .u8) 5 w' w0.heap.size ov want ∧ (∀ k ∈ boxFoot b qv sv its, F k) ∧ Upd F w0 w' ∧ ∀ m ∈ fin, MsgOk m
def NxRel (w0 : World) (base b : Nat) (room : Int) (F : Nat → Prop) (fin : List Msg) (want : List Int) (most : Int) (ov : Value) (w : World) : Prop :=
  ∃ qv sv its ms ol, NxM w0 base b room F fin want most ov qv sv its ms ol w
theorem NxM.done {w0 w : World} {base b : Nat} {room : Int} {F : Nat → Prop} {fin : List Msg} {want : List Int} {most : Int} {ov qv sv : Value} {its : List It} {ms : List Msg} {ol : List Int} (h : NxM w0 base b room F fin want most ov qv sv its ms ol w) (hd : its = [] ∨ most ≤ ol.length) :
    NxPost w0 base b room F fin want ov w := by
  have e : fin = ms ∧ want = ol := by
    rcases hd with rfl | hd
    · have hc := queueL_nil (i := 0) (ms := ms) (by rw [← h.key]; rfl)
      have e := sendL_closed 0 ms (most.toNat - ol.length) hc
      refine ⟨by rw [← h.s1, e], by rw [← h.s2, e]; simp⟩
    · have e0 : most.toNat - ol.length = 0 := by omega
      have e := sendL_zero 0 ms
      refine ⟨by rw [← h.s1, e0, e], by rw [← h.s2, e0, e]; simp⟩
  obtain ⟨rfl, rfl⟩ := e
  exact ⟨qv, sv, its, h.a.at', h.key, h.a.out, h.a.ft, h.a.u, h.ok⟩
theorem ol_le {w0 w : World} {base b : Nat} {room : Int} {F : Nat → Prop} {fin : List Msg} {want : List Int} {most : Int} {ov qv sv : Value} {its : List It} {ms : List Msg} {ol : List Int} (h : NxM w0 base b room F fin want most ov qv sv its ms ol w) : ol.length ≤ 100000000 := by
  have := congrArg List.length h.s2
  rw [List.length_append] at this
  have := h.wl
  omega

/-- The first message, and what it is behind the step. -/
structure Hd (x : It) (l : List It) (ms : List Msg) (a : List Msg) (m : Msg) (c : List Msg) : Prop where
  e : ms = a ++ m :: c
  ha : ∀ y ∈ a, 2 < y.st
  hm : m.st ≤ 2
  n : x.n = a.length
  dl : x.dl = m.dl
  r : x.rest = m.rest a.length
  q : l.map It.key = queueL (a.length + 1) c
theorem head_of {x : It} {l : List It} {ms : List Msg} (h : (x :: l).map It.key = queueL 0 ms) : ∃ a m c, Hd x l ms a m c := by
  rw [List.map_cons] at h
  obtain ⟨a, m, c, h1, h2, h3, h4, h5⟩ := queueL_head h.symm
  simp only [Nat.zero_add] at h4 h5
  unfold It.key at h4
  simp only [Prod.mk.injEq] at h4
  exact ⟨a, m, c, h1, h2, h3, h4.1, h4.2.1, h4.2.2, h5⟩
theorem Hd.len {x : It} {l : List It} {ms a : List Msg} {m : Msg} {c : List Msg} (h : Hd x l ms a m c) (ok : ∀ m ∈ ms, MsgOk m) : 1 ≤ x.rest.length ∧ x.rest.length ≤ 1005 := by
  have hk := ok m (by rw [h.e]; simp)
  have := hk.s h.hm
  have := hk.d2
  rw [h.r, rest_len]
  omega
theorem MsgOk.take {m : Msg} (h : MsgOk m) (hm : m.st ≤ 2) (i b : Nat) : MsgOk (m.take i b) := by
  have h1 := h.s hm
  have hl := rest_len m i
  unfold Msg.take
  split
  · exact h
  · split
    · exact ⟨h.d1, h.d2, h.dl, by show 1 ≤ 3; omega, by show 3 ≤ 5; omega, fun e => absurd (show (3 : Nat) = 1 from e) (by decide), fun e => absurd (show (3 : Nat) ≤ 2 from e) (by decide)⟩
    · rename_i h2 h3
      exact ⟨h.d1, h.d2, h.dl, by show 1 ≤ 2; omega, by show 2 ≤ 5; omega, fun e => absurd (show (2 : Nat) = 1 from e) (by decide), fun _ => by show m.out + min (m.rest i).length b < m.data.length + 5; omega⟩

/-- The step, in plain terms: the first message gives k bytes. -/
theorem NxM.next {w0 w w' : World} {base b : Nat} {room : Int} {F : Nat → Prop} {fin : List Msg} {want : List Int} {most : Int} {ov qv sv ov' qv' : Value} {x : It} {l its' : List It} {ms a c : List Msg} {m : Msg} {ol : List Int}
    (h : NxM w0 base b room F fin want most ov qv sv (x :: l) ms ol w) (hd : Hd x l ms a m c) {s : Nat} (hs : (m.take a.length (most.toNat - ol.length)).st = s)
    (hA : NxA w0 base b room F ov' qv' sv its' ((ms.map Msg.st).set x.n s) (ol ++ x.rest.take (most.toNat - ol.length)) w')
    (hk : its'.map It.key = if s ≤ 2 then (x.n, x.dl, x.rest.drop (min x.rest.length (most.toNat - ol.length))) :: l.map It.key else l.map It.key) :
    NxM w0 base b room F fin want most ov' qv' sv its' (a ++ m.take a.length (most.toNat - ol.length) :: c) (ol ++ x.rest.take (most.toNat - ol.length)) w' := by
  have hr := hd.r
  have hlen : 1 ≤ (m.rest (0 + a.length)).length := by rw [Nat.zero_add, ← hr]; exact (hd.len h.ok).1
  have hst := sendL_step 0 a m c (most.toNat - ol.length) hd.ha hd.hm hlen
  rw [← hd.e] at hst
  simp only [Nat.zero_add] at hst
  rw [← hr] at hst
  have e0 : most.toNat - (ol ++ x.rest.take (most.toNat - ol.length)).length = most.toNat - ol.length - min x.rest.length (most.toNat - ol.length) := by
    rw [List.length_append, List.length_take]; omega
  have h1 := h.s1
  have h2 := h.s2
  rw [hst] at h1 h2
  refine ⟨?_, ?_, ?_, ?_, by rw [e0]; exact h1, by rw [e0, List.append_assoc]; exact h2, h.wl⟩
  · have e := st_set a m (m.take a.length (most.toNat - ol.length)) c
    rw [← hd.e, hs] at e
    rw [e, ← hd.n]
    exact hA
  · rw [hk, queueL_append, queueL_closed 0 a hd.ha, List.nil_append, queueL_cons, hs, take_dl, Nat.zero_add, rest_take, ← hr, ← hd.dl, hd.q, hd.n]
  · intro y hy
    rcases List.mem_append.1 hy with hy | hy
    · exact h.ok y (by rw [hd.e]; simp [hy])
    · rcases List.mem_cons.1 hy with rfl | hy
      · exact (h.ok m (by rw [hd.e]; simp)).take hd.hm _ _
      · exact h.ok y (by rw [hd.e]; simp [hy])
  · have := h.ln
    rw [hd.e] at this
    simpa using this
end Go.Proofs.YtkaaoomliepijaaGreat
namespace Go.Proofs.YtkaaoomliepijaaGreat
open Go.RowKit
set_option linter.unusedVariables false

theorem dp_model (p : Int → Nat → Bool) (k : Nat) (hk : 2 < k) {its : List It} {ms : List Msg} (h : its.map It.key = queueL 0 ms) :
    (DP p k its (ms.map Msg.st)).1.map It.key = queueL 0 (dropM p k 0 ms) ∧ (DP p k its (ms.map Msg.st)).2 = (dropM p k 0 ms).map Msg.st := by
  have h1 := dropF_map It.key (fun x : Nat × Int × List Int => x.1) (fun x => p x.2.1 x.1) k its (ms.map Msg.st)
  have h2 := dropF_queue p k hk ms []
  simp only [List.nil_append, List.length_nil] at h2
  rw [h, h2] at h1
  have e1 := congrArg Prod.fst h1
  have e2 := congrArg Prod.snd h1
  exact ⟨e1.symm, e2.symm⟩
theorem dropM_ok (p : Int → Nat → Bool) (k : Nat) (hk : 2 < k) (hk5 : k ≤ 5) {ms : List Msg} (ok : ∀ m ∈ ms, MsgOk m) : ∀ m ∈ dropM p k 0 ms, MsgOk m := by
  intro m hm
  obtain ⟨j, hj⟩ := List.mem_iff_getElem?.1 hm
  rw [dropM_get] at hj
  cases hx : ms[j]? with
  | none => rw [hx] at hj; cases hj
  | some y =>
    rw [hx] at hj
    simp only [Option.map_some, Option.some.injEq] at hj
    have h := ok y (List.mem_of_getElem? hx)
    subst hj
    unfold Msg.dropped
    split
    · exact ⟨h.d1, h.d2, h.dl, by show 1 ≤ k; omega, hk5, fun e => by have : k = 1 := e; omega, fun e => by have : k ≤ 2 := e; omega⟩
    · exact h
theorem allSt_of {its : List It} {ms : List Msg} (h : its.map It.key = queueL 0 ms) (ok : ∀ m ∈ ms, MsgOk m) : AllSt its (ms.map Msg.st) := by
  intro x hx
  have hm : It.key x ∈ queueL 0 ms := by rw [← h]; exact List.mem_map.2 ⟨x, hx, rfl⟩
  have hb := queueL_ge 0 ms _ hm
  have hlt : x.n < ms.length := by have := hb.2; simp [It.key] at this; exact this
  refine ⟨ms[x.n].st, by rw [List.getElem?_map, List.getElem?_eq_getElem hlt]; rfl, (ok _ (List.getElem_mem hlt)).s5⟩
theorem cutV_eq {rg ro n rc k : Nat} {A' : Option Addr} (h : (if rc = k then some (⟨rg, ro, none⟩ : Addr) else some ⟨rg, ro + k, none⟩) = A') (hk : k ≤ n) (hn : n ≤ rc) : cutV (some ⟨rg, ro, none⟩) n rc k = .slice A' (n - k) (rc - k) := by
  unfold cutV
  subst h
  by_cases e : rc = k
  · rw [if_pos e, if_pos e.symm, show n - k = 0 by omega, show rc - k = 0 by omega]
  · rw [if_neg e, if_neg (fun h => e h.symm)]
    rfl
theorem Vw.sl0 {α : Type} {f : α → Value} {T : TypeId} {w : World} {base : Nat} {v : Value} {xs : List α} (h : Vw f T w base v xs) {a : Option Addr} {n c : Nat} (e : v = .slice a n c) : Sl f w a xs := by
  subst e; exact h.sl
theorem Sl.take {α : Type} {f : α → Value} {w : World} {a : Option Addr} {xs : List α} (h : Sl f w a xs) (k : Nat) : Sl f w a (xs.take k) := by
  intro j x hj
  refine h j x ?_
  rw [List.getElem?_take] at hj
  split at hj
  · exact hj
  · cases hj
def lenV : Value → Nat
  | .slice _ n _ => n
  | _ => 0
theorem items_len {its : List It} {ms : List Msg} (h : its.map It.key = queueL 0 ms) : its.length ≤ ms.length := by
  have e := congrArg List.length h
  rw [List.length_map, queueL_len] at e
  rw [e]
  exact List.length_filter_le _ _

set_option maxHeartbeats 8000000 in
set_option maxRecDepth 100000 in
theorem next_any (w : World) (base b : Nat) (room : Int) (qv sv : Value) (its : List It) (ms : List Msg) (h : BoxAt w base b room qv sv its (ms.map Msg.st)) (key : its.map It.key = queueL 0 ms) (ok : ∀ m ∈ ms, MsgOk m) (ln : ms.length ≤ 1000)
    (tick most : Int) (hmost : most ≤ 9223372036854775807) (F : Nat → Prop) (hF : ∀ k ∈ boxFoot b qv sv its, F k) (hFl : ∀ k, F k → k < w.heap.size) (wl : (wantOf (dropM (pNext tick) 5 0 ms) most).length ≤ 100000000) (hbase : base ≤ w.heap.size) :
    Calls Tryz.prog 24 #[.pointer (some ⟨b, 0, none⟩), .int .i64 tick, .int .i64 most] w fun e w' => ∃ ov, e = .returned ov ∧ NxPost w base b room F (finOf (dropM (pNext tick) 5 0 ms) most) (wantOf (dropM (pNext tick) 5 0 ms) most) ov w' := by
  obtain ⟨qa, qc, rfl⟩ := h.q.shape
  have B1 : Below w.heap.size w (w.alloc (.cells #[.int .i64 tick] 3)) := (Below.refl _ _).alloc (Nat.le_refl _) _
  have hil := items_len key
  have DR := Lib.hid (drop_any (w.alloc (.cells #[.int .i64 tick] 3)) base b room qa qc sv its (ms.map Msg.st) (h.below B1) w.heap.size (.func (.func 50) #[] #[.pointer (some ⟨w.heap.size, 0, none⟩)]) (pNext tick) 5 (by decide)
    (.inl ⟨tick, rfl, Blk.new w _ [.int .i64 tick], rfl⟩) (h.nfoot (Nat.le_refl _)) (by simp) (allSt_of key ok) (by simp; omega) (by omega))
  obtain ⟨k1, k2⟩ := dp_model (pNext tick) 5 (by decide) key
  have M0 : Hid (∀ w2, DropM (w.alloc (.cells #[.int .i64 tick] 3)) base b room (.slice qa its.length qc) sv its (ms.map Msg.st) (pNext tick) 5 w2 →
      NxRel w base b room F (finOf (dropM (pNext tick) 5 0 ms) most) (wantOf (dropM (pNext tick) 5 0 ms) most) most (.slice none 0 0) w2) := by
    rintro w2 ⟨qv', h1, h2, h3⟩
    rw [k2] at h1
    refine ⟨qv', sv, _, dropM (pNext tick) 5 0 ms, [], ⟨h1, Vw.nil _ _ _ _, (fun k hk => by cases hk), ?_, Upd.then (Upd.of_below B1) (h3.mono fun k _ hk => hF k hk) (fun _ _ h => h), hFl⟩, k1, dropM_ok _ _ (by decide) (by decide) ok, by rw [dropM_len]; exact ln, rfl, rfl, wl⟩
    intro k hk
    refine hF k ?_
    rcases of_boxFoot hk with e | e | e | e
    · exact in_boxFoot (.inl e)
    · exact in_boxFoot (.inr (.inl (by rw [← h2]; exact e)))
    · exact in_boxFoot (.inr (.inr (.inl e)))
    · exact in_boxFoot (.inr (.inr (.inr ((itFoot_sub (dp_sub _ _ _ _)).subset e))))
  obtain ⟨i0, hi, hz0, hz1, hz2⟩ := info_parts Tryz.infoByte
  have HI := Lib.hid hi; have HZ0 := Lib.hid hz0; have HZ1 := Lib.hid hz1; have HZ2 := Lib.hid hz2
  have WL := Lib.hid wl
  generalize hfin : finOf (dropM (pNext tick) 5 0 ms) most = fin at *
  generalize hwant : wantOf (dropM (pNext tick) 5 0 ms) most = want at *
  clear hi hz0 hz1 hz2 h key ok k1 k2 hfin hwant hF hFl wl
  generalize its.length = n at *
  go_enter Tryz.func24, Tryz.ntmps24
  go_wp2_with fail
  refine DR.out.mono ?_
  rintro e w2 ⟨rfl, hD⟩
  have MM := Lib.hid (M0.out w2 hD)
  clear hD M0 DR B1
  go_wp2_with fail
  go_loopw [7] (fun ov wr => NxRel w base b room F fin want most ov wr) (fun ov _ => most.toNat - lenV ov)
  case atStart => exact MM.out
  case round =>
    clear MM
    obtain ⟨qv, sv, its, ms, ol, hM⟩ := hrel
    have hol := ol_le hM
    have HM := Lib.hid hM; clear hM
    obtain ⟨qa, qc, rfl⟩ := HM.out.a.at'.q.shape
    obtain ⟨oa, oc, rfl⟩ := HM.out.a.out.shape
    have b1 := HM.out.a.at'.r.hb.cell (i := 1) rfl
    cases its with
    | nil =>
      go_wp2_with fail
      go_ret
      exact ⟨_, rfl, HM.out.done (.inl rfl)⟩
    | cons x l =>
      by_cases hlt : most ≤ ol.length
      · have d1 : decide ((ol.length : Int) < most) = false := by simp; omega
        go_wp2_with fail
        go_ret
        exact ⟨_, rfl, HM.out.done (.inr hlt)⟩
      · obtain ⟨B, rfl⟩ := Int.eq_ofNat_of_zero_le (show 0 ≤ most by omega)
        obtain ⟨av, mv, cv, hd⟩ := head_of HM.out.key
        have HD := Lib.hid hd
        obtain ⟨hr1, hr2⟩ := hd.len HM.out.ok
        clear hd
        have hX := HM.out.a.at'.r.hi x (by simp)
        obtain ⟨ra, rc, erv⟩ := hX.hr.shape
        obtain ⟨oka, ca⟩ := HM.out.a.at'.q.sl 0 x rfl
        unfold It.ptr at ca
        obtain ⟨q0, q1, q2⟩ := item_cells hX
        rw [erv] at q2
        have hro := hX.hr
        rw [erv] at hro
        obtain ⟨rg, ro, rfl⟩ := hro.addr (by intro e; rw [e] at hr1; simp at hr1)
        have HRO := Lib.hid hro
        have ERV := Lib.hid erv
        have hrc : x.rest.length ≤ rc ∧ rc ≤ maxLen := by
          rcases hro with ⟨e, _⟩ | ⟨g', o', c', e, _, _, h3, h4, _⟩
          · cases e
          · cases e; exact ⟨h3, h4⟩
        obtain ⟨hrc1, hrc2⟩ := hrc
        unfold maxLen at hrc2
        clear hro erv hX
        obtain ⟨k, hB⟩ : ∃ k, B = ol.length + k := ⟨B - ol.length, by omega⟩
        have hk0 : 1 ≤ k := by omega
        have KK : Hid (((B : Nat) : Int).toNat - ol.length = k) := by show _ = _; omega
        have HB := Lib.hid hB
        have eS : (B : Int) - (ol.length : Int) = (k : Int) := by omega
        have d1 : decide (ol.length < B) = true := by simp; omega
        have hlt2 : ol.length < B := by omega
        clear hB hlt
        generalize hql : (x :: l).length = ql at *
        have hq0 : 0 < ql := by rw [← hql]; simp
        have HQL := Lib.hid hql; clear hql
        by_cases hk : x.rest.length ≤ k
        · have hk1 : (x.rest.length : Int) ≤ (k : Int) := by omega
          obtain ⟨A', hA⟩ : ∃ A', (if rc = x.rest.length then some (⟨rg, ro, none⟩ : Addr) else some ⟨rg, ro + x.rest.length, none⟩) = A' := ⟨_, rfl⟩
          have CV : Hid (cutV (some ⟨rg, ro, none⟩) x.rest.length rc x.rest.length = .slice A' (x.rest.length - x.rest.length) (rc - x.rest.length)) := cutV_eq hA (by omega) hrc1
          go_upto_region 8 with (fail)
          go_wp2_with (at_builtin; refine wpList_append_vw rfl _ _ 22 rfl w.heap.size 5 i0 _ 1 Tryz.underlying22 HI.out HZ0.out HZ1.out HZ2.out rfl (Value.int .u8) (fun _ => rfl) (.slice oa ol.length oc) ol rfl HM.out.a.out (some ⟨rg, ro, none⟩) rc (x.rest) rfl ?c1 ?c2 ?c3 ?c4 ?_)
          case c1 => exact (HM.out.a.at'.r.hi x (by simp)).hr.sl0 ERV.out
          case c2 => unfold maxLen; omega
          case c3 => omega
          case c4 => exact HM.out.a.u.size
          intro v' w3 h1 h2 h3
          obtain ⟨a', m', c', em, rfl⟩ : ∃ a' m' c', Hid (m' = ol.length + x.rest.length) ∧ v' = .slice a' m' c' := by
            obtain ⟨a', c', e⟩ := h1.shape
            refine ⟨a', _, c', ?_, e⟩
            show _ = _
            rw [List.length_append]
          have NA := Lib.hid (HM.out.a.app h1 h2 h3)
          clear h1 h2 h3 b1 q0 q1 q2
          have hX := NA.out.at'.r.hi x (by simp)
          obtain ⟨q0, q1, q2⟩ := item_cells hX
          have q3 := hX.hb.free 2
          have hv := hX.hr
          rw [ERV.out] at q2 hv
          have hv2 := hv.drop (k := x.rest.length) (by omega)
          rw [CV.out] at hv2
          have NB := Lib.hid (NA.out.cut hv2 (fun g hg => by
            rw [ERV.out]
            rw [← CV.out] at hg
            exact cutV_block (fun e => by cases e) hg))
          clear hX hv hv2
          go_upto_region 10 with (fail)
          rw [Nat.sub_self] at NB
          obtain ⟨w4, hw4⟩ : ∃ w4, w3.setCell ⟨x.b, 2, none⟩ (.slice A' 0 (rc - x.rest.length)) = w4 := ⟨_, rfl⟩
          rw [hw4] at NB ⊢
          clear hw4 q0 q1 q2 q3 hA
          have hX := NB.out.at'.r.hi _ (List.mem_cons_self)
          have q0 := hX.hb.cell (i := 0) rfl
          have q2 := hX.hb.cell (i := 2) rfl
          dsimp only at q0 q2
          clear hX
          have hst : (ms.map Msg.st)[x.n]? = some mv.st := by rw [HD.out.e, HD.out.n]; simp
          have CH := Lib.hid (change_any w4 base b room _ sv _ _ NB.out.at'.r x.n mv.st 3 hst (by have := HD.out.hm; omega) (by decide) (by rw [List.length_map]; have := HM.out.ln; omega))
          clear hst
          go_wp2_with fail
          refine CH.out.mono ?_
          rintro e w5 ⟨rfl, hR, hU⟩
          have NC := Lib.hid (NB.out.chg hR hU)
          clear hR hU CH q0 q2
          have b1 := NC.out.at'.r.hb.cell (i := 1) rfl
          have DQ := Lib.hid (delq_any w5 base qa ql qc _ l NC.out.at'.q)
          go_wp2_with fail
          refine DQ.out.mono ?_
          rintro e w6 ⟨rfl, hv, hu⟩
          have ND := Lib.hid (NC.out.del hv hu (by cases qa <;> rfl))
          have hR6 := NC.out.at'.r.updq hu (fun e => (nodup_parts NC.out.at'.r.nd).bq _ e rfl) (fun k hk e => (nodup_parts NC.out.at'.r.nd).qs k e hk) (fun k hk e => (nodup_parts NC.out.at'.r.nd).qi k e hk)
          have b1 := hR6.hb.cell (i := 1) rfl
          have b2 := hR6.hb.free 1
          clear hv hu hR6 DQ
          have e1 : Hid (mv.rest av.length = x.rest) := HD.out.r.symm
          have NX : Hid (NxM w base b room F fin want (B : Int) (.slice a' m' c') (.slice qa l.length qc) sv l (av ++ mv.take av.length k :: cv) (ol ++ x.rest) (w6.setCell ⟨b, 1, none⟩ (.slice qa l.length qc))) := by
            have e2 : x.rest.take k = x.rest := List.take_of_length_le hk
            have := HM.out.next HD.out (s := 3) (its' := l) (ov' := .slice a' m' c') (qv' := .slice qa l.length qc) (w' := w6.setCell ⟨b, 1, none⟩ (.slice qa l.length qc))
            rw [KK.out, e2] at this
            refine this ?_ ND.out (by rw [if_neg (by decide)])
            unfold Msg.take
            rw [e1.out, if_neg (by omega), if_pos (by omega)]
          go_wp2_with fail
          go_roundw
          case rel => exact ⟨_, _, _, _, _, NX.out⟩
          case measure =>
            have := em.out
            simp [lenV]
            omega
        · have hk1 : (k : Int) < (x.rest.length : Int) := by omega
          have TL : Hid ((x.rest.take k).length = k) := by show _ = _; rw [List.length_take]; omega
          obtain ⟨A', hA⟩ : ∃ A', (if rc = k then some (⟨rg, ro, none⟩ : Addr) else some ⟨rg, ro + k, none⟩) = A' := ⟨_, rfl⟩
          have CV : Hid (cutV (some ⟨rg, ro, none⟩) x.rest.length rc k = .slice A' (x.rest.length - k) (rc - k)) := cutV_eq hA (by omega) hrc1
          go_upto_region 8 with (fail)
          go_wp2_with (at_builtin; refine wpList_append_vw rfl _ _ 22 rfl w.heap.size 5 i0 _ 1 Tryz.underlying22 HI.out HZ0.out HZ1.out HZ2.out rfl (Value.int .u8) (fun _ => rfl) (.slice oa ol.length oc) ol rfl HM.out.a.out (some ⟨rg, ro, none⟩) rc (x.rest.take k) (by rw [TL.out]; rfl) ?c1 ?c2 ?c3 ?c4 ?_)
          case c1 => exact ((HM.out.a.at'.r.hi x (by simp)).hr.sl0 ERV.out).take k
          case c2 => rw [TL.out]; unfold maxLen; omega
          case c3 => rw [TL.out]; omega
          case c4 => exact HM.out.a.u.size
          intro v' w3 h1 h2 h3
          obtain ⟨a', m', c', em, rfl⟩ : ∃ a' m' c', Hid (m' = ol.length + k) ∧ v' = .slice a' m' c' := by
            obtain ⟨a', c', e⟩ := h1.shape
            refine ⟨a', _, c', ?_, e⟩
            show _ = _
            rw [List.length_append, TL.out]
          have NA := Lib.hid (HM.out.a.app h1 h2 h3)
          clear h1 h2 h3 b1 q0 q1 q2
          have hX := NA.out.at'.r.hi x (by simp)
          obtain ⟨q0, q1, q2⟩ := item_cells hX
          have q3 := hX.hb.free 2
          have hv := hX.hr
          rw [ERV.out] at q2 hv
          have hv2 := hv.drop (k := k) (by omega)
          rw [CV.out] at hv2
          have NB := Lib.hid (NA.out.cut hv2 (fun g hg => by
            rw [ERV.out]
            rw [← CV.out] at hg
            exact cutV_block (fun e => by cases e) hg))
          clear hX hv hv2
          go_upto_region 10 with (fail)
          skip
          obtain ⟨w4, hw4⟩ : ∃ w4, w3.setCell ⟨x.b, 2, none⟩ (.slice A' (x.rest.length - k) (rc - k)) = w4 := ⟨_, rfl⟩
          rw [hw4] at NB ⊢
          clear hw4 q0 q1 q2 q3 hA
          have hX := NB.out.at'.r.hi _ (List.mem_cons_self)
          have q0 := hX.hb.cell (i := 0) rfl
          have q2 := hX.hb.cell (i := 2) rfl
          dsimp only at q0 q2
          clear hX
          have hst : (ms.map Msg.st)[x.n]? = some mv.st := by rw [HD.out.e, HD.out.n]; simp
          have CH := Lib.hid (change_any w4 base b room _ sv _ _ NB.out.at'.r x.n mv.st 2 hst (by have := HD.out.hm; omega) (by decide) (by rw [List.length_map]; have := HM.out.ln; omega))
          clear hst
          go_wp2_with fail
          refine CH.out.mono ?_
          rintro e w5 ⟨rfl, hR, hU⟩
          have NC := Lib.hid (NB.out.chg hR hU)
          clear hR hU CH q0 q2
          go_wp2_with fail
          go_ret
          refine ⟨_, rfl, NxM.done (HM.out.next HD.out (s := 2) (qv' := .slice qa ql qc) (ov' := .slice a' m' c') (w' := w5) (its' := ⟨x.n, x.dl, x.rest.drop k, x.b, .slice A' (x.rest.length - k) (rc - k)⟩ :: l) ?_ ?_ ?_) (.inr ?_)⟩
          · rw [KK.out]
            unfold Msg.take
            rw [← HD.out.r, if_neg (by omega), if_neg (by omega)]
          · rw [KK.out]; exact NC.out
          · rw [KK.out, if_pos (by decide), Nat.min_eq_right (by omega)]; rfl
          · rw [KK.out, List.length_append, TL.out]
            have := HB.out
            omega
end Go.Proofs.YtkaaoomliepijaaGreat
