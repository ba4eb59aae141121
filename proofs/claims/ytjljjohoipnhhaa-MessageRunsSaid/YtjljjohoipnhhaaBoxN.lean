/-
  message.Box.Next.
-/
import Derived.Test.YtjljjohoipnhhaaBoxH
namespace Go.Proofs.Ytjljjohoipnhhaa
open Go.RowKit
set_option linter.unusedVariables false

theorem queueL_nil : ∀ {i : Nat} {ms : List Msg}, queueL i ms = [] → ∀ y ∈ ms, 2 < y.st
  | _, [], _, y, hy => by cases hy
  | i, m :: l, h, y, hy => by
    rw [queueL_cons] at h
    split at h
    · cases h
    · rename_i hm
      rcases List.mem_cons.1 hy with rfl | hy
      · omega
      · exact queueL_nil h y hy
theorem queueL_closed : ∀ (i : Nat) (a : List Msg), (∀ y ∈ a, 2 < y.st) → queueL i a = []
  | _, [], _ => rfl
  | i, m :: l, h => by
    rw [queueL_cons, if_neg (by have := h m (by simp); omega)]
    exact queueL_closed _ l fun y hy => h y (by simp [hy])
theorem queueL_head : ∀ {i : Nat} {ms : List Msg} {x : Nat × Int × List Int} {q : List (Nat × Int × List Int)}, queueL i ms = x :: q →
    ∃ a m c, ms = a ++ m :: c ∧ (∀ y ∈ a, 2 < y.st) ∧ m.st ≤ 2 ∧ x = (i + a.length, m.dl, m.rest (i + a.length)) ∧ q = queueL (i + a.length + 1) c
  | _, [], x, q, h => by cases h
  | i, m :: l, x, q, h => by
    rw [queueL_cons] at h
    split at h
    · rename_i hm
      simp only [List.cons.injEq] at h
      obtain ⟨h1, h2⟩ := h
      exact ⟨[], m, l, rfl, by simp, hm, by simp [h1], by simp [h2]⟩
    · rename_i hm
      obtain ⟨a, m', c, h1, h2, h3, h4, h5⟩ := queueL_head h
      refine ⟨m :: a, m', c, by rw [h1]; rfl, ?_, h3, ?_, ?_⟩
      · intro y hy
        rcases List.mem_cons.1 hy with rfl | hy
        · omega
        · exact h2 y hy
      · rw [h4, List.length_cons, show i + 1 + a.length = i + (a.length + 1) by omega]
      · rw [h5, List.length_cons, show i + 1 + a.length = i + (a.length + 1) by omega]
theorem rest_take (m : Msg) (i b : Nat) : (m.take i b).rest i = (m.rest i).drop (min (m.rest i).length b) := by
  unfold Msg.take
  split
  · rename_i h; rw [h]; rfl
  · split <;> (unfold Msg.rest; simp only [List.drop_drop])
theorem take_dl (m : Msg) (i b : Nat) : (m.take i b).dl = m.dl := by unfold Msg.take; split <;> (try split) <;> rfl
theorem st_set (a : List Msg) (m m' : Msg) (c : List Msg) : (a ++ m' :: c).map Msg.st = ((a ++ m :: c).map Msg.st).set a.length m'.st := by
  rw [List.map_append, List.map_append, List.map_cons, List.map_cons]
  have := set_pre (a.map Msg.st) m.st m'.st (c.map Msg.st)
  rw [List.length_map] at this
  exact this.symm
theorem Vw.congr {α β : Type} {f : α → Value} {g : β → Value} {T : TypeId} {w : World} {base : Nat} {v : Value} {xs : List α} {ys : List β} (h : Vw f T w base v xs) (he : xs.map f = ys.map g) : Vw g T w base v ys := by
  have hl : xs.length = ys.length := by have := congrArg List.length he; simpa using this
  rcases h with ⟨h1, h2⟩ | ⟨gb, o, c, h⟩
  · exact .inl ⟨h1, List.eq_nil_of_length_eq_zero (by rw [← hl, h2]; rfl)⟩
  · rw [hl, he] at h
    exact .inr ⟨gb, o, c, h⟩

section
variable {w w' : World} {base b : Nat} {room : Int} {qv sv : Value} {its l : List It} {st : List Nat}
/-- The first message's bytes are cut. -/
theorem BoxR.storeRest {x : It} (h : BoxR w base b room qv sv (x :: l) st) {v : Value} {r : List Int} (hv : Vw (Value.int .u8) 5 w base v r) (ho : ∀ g, v.ownBlock = some g → x.rv.ownBlock = some g) :
    BoxR (w.setCell ⟨x.b, 2, none⟩ v) base b room qv sv (⟨x.n, x.dl, r, x.b, v⟩ :: l) st ∧ (∀ k ∈ boxFoot b qv sv (⟨x.n, x.dl, r, x.b, v⟩ :: l), k ∈ boxFoot b qv sv (x :: l)) := by
  have P := nodup_parts h.nd
  have u : Upd (fun j => j = x.b) w (w.setCell ⟨x.b, 2, none⟩ v) := (Upd.refl _ _).setCell _ _ fun _ => rfl
  have hxf : x.b ∈ itFoot (x :: l) := in_itFoot (x := x) (by simp) (by simp [It.foot])
  have hx := h.hi x (by simp)
  have hii := P.ii
  rw [itFoot_cons] at hii
  have hxn : x.foot.Nodup := (List.nodup_append.1 hii).1
  have hxl : ∀ k ∈ x.foot, k ∉ itFoot l := fun k hk hk2 => (List.nodup_append.1 hii).2.2 k hk k hk2 rfl
  have hbv : ∀ g, v.ownBlock = some g → g ≠ x.b := by
    intro g hg e
    have := ho g hg
    unfold It.foot at hxn
    rw [this] at hxn
    simp at hxn
    exact hxn e.symm
  have hsub : ∀ k ∈ itFoot (⟨x.n, x.dl, r, x.b, v⟩ :: l), k ∈ itFoot (x :: l) := by
    intro k hk
    rw [itFoot_cons] at hk ⊢
    rcases List.mem_append.1 hk with hk | hk
    · refine List.mem_append.2 (.inl ?_)
      unfold It.foot at hk ⊢
      rcases List.mem_cons.1 hk with rfl | hk
      · exact List.mem_cons_self
      · exact List.mem_cons_of_mem _ (by simpa using ho k (by simpa using hk))
    · exact List.mem_append.2 (.inr hk)
  have hP : Parts b qv sv (⟨x.n, x.dl, r, x.b, v⟩ :: l) := by
    refine ⟨P.bq, P.bs, fun e => P.bi (hsub _ e), P.qs, fun k hk e => P.qi k hk (hsub _ e), fun k hk e => P.si k hk (hsub _ e), ?_⟩
    rw [itFoot_cons]
    refine List.nodup_append.2 ⟨?_, (List.nodup_append.1 hii).2.1, ?_⟩
    · unfold It.foot
      refine List.nodup_cons.2 ⟨fun e => ?_, opt_nodup _⟩
      exact hbv x.b (by simpa using e) rfl
    · rintro k hk j hj rfl
      refine hxl k ?_ hj
      unfold It.foot at hk ⊢
      rcases List.mem_cons.1 hk with rfl | hk
      · exact List.mem_cons_self
      · exact List.mem_cons_of_mem _ (by simpa using ho k (by simpa using hk))
  refine ⟨⟨h.hb.upd u fun e => P.bi (by rw [e]; exact hxf), h.hs.upd u fun g hg e => P.si g hg (by rw [e]; exact hxf), ?_, h.hbb, parts_nodup hP⟩, ?_⟩
  · intro y hy
    rcases List.mem_cons.1 hy with rfl | hy
    · exact ⟨by simpa using hx.hb.set 2 v, hv.upd u fun g hg e => hbv g hg e, hx.hx⟩
    · exact (h.hi y (by simp [hy])).upd u fun k hk e => hxl x.b (by simp [It.foot]) (by rw [← e]; exact in_itFoot hy hk)
  · intro k hk
    rcases of_boxFoot hk with h1 | h1 | h1 | h1
    · exact in_boxFoot (.inl h1)
    · exact in_boxFoot (.inr (.inl h1))
    · exact in_boxFoot (.inr (.inr (.inl h1)))
    · exact in_boxFoot (.inr (.inr (.inr (hsub k h1))))
end
end Go.Proofs.Ytjljjohoipnhhaa
