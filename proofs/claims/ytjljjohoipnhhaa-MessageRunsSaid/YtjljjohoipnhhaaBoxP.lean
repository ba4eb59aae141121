/-
  message.Box.Put: memory.
-/
import Derived.Test.YtjljjohoipnhhaaBoxW
import Derived.Test.YtjljjohoipnhhaaBoxN
namespace Go.Proofs.Ytjljjohoipnhhaa
open Go.RowKit
set_option linter.unusedVariables false

theorem wr8_eq (n : Nat) : wr8 (n : Int) = ((n % 256 : Nat) : Int) := by
  unfold wr8
  simp [IntKind.wrap, IntKind.bits, IntKind.signed]
theorem wr8_div (n k : Nat) : wr8 ((n : Int) / (k : Int)) = ((n / k % 256 : Nat) : Int) := by
  rw [← wr8_eq]; rfl
theorem form_eq (i : Nat) (hi : i ≤ 16777215) (d : List Int) (hd : d.length ≤ 1000) : numB (d.length : Int) 2 ++ numB (i : Int) 3 ++ d = form i d := by
  have e1 := wr8_div d.length 256
  have e2 := wr8_div i 256
  have e3 := wr8_div i 65536
  unfold numB form
  rw [if_pos rfl, if_neg (by decide)]
  simp only [List.cons_append, List.nil_append]
  rw [wr8_eq, wr8_eq, show ((d.length : Int) / 256) = (d.length : Int) / ((256 : Nat) : Int) from rfl, show ((i : Int) / 256) = (i : Int) / ((256 : Nat) : Int) from rfl, show ((i : Int) / 65536) = (i : Int) / ((65536 : Nat) : Int) from rfl, e1, e2, e3]
  rw [Nat.mod_eq_of_lt (show d.length / 256 < 256 by omega), Nat.mod_eq_of_lt (show i / 65536 < 256 by omega)]

/-- The box while a message is put into it. -/
structure PX (w0 : World) (base b : Nat) (room : Int) (F : Nat → Prop) (its : List It) (xb ib : Nat) (num : Nat) (dl : Int) (rv : Value) (xs : List Int) (qc sc : Value) (cn : List Value) (qits : List It) (sst : List Nat) (w : World) : Prop where
  hb : Blk w b 66 (.int .i64 room :: qc :: sc :: cn)
  hq : Vw It.ptr 67 w base qc qits
  hs : Vw stV 5 w base sc sst
  hi : ∀ x ∈ its, ItAt w base x
  hbb : base ≤ b
  xm : XM w base xb ib num dl rv xs
  pt : Parts b qc sc its
  nx : xb ∉ boxFoot b qc sc its
  ni : ib ∉ boxFoot b qc sc its
  nr : ∀ k, rv.ownBlock = some k → k ∉ boxFoot b qc sc its
  fo : ∀ k ∈ boxFoot b qc sc its, F k ∨ w0.heap.size ≤ k
  fi : w0.heap.size ≤ ib
  fx : w0.heap.size ≤ xb
  fr : ∀ k, rv.ownBlock = some k → w0.heap.size ≤ k
  u : Upd F w0 w
  hB : base ≤ w0.heap.size
section
variable {w0 w w1 w' : World} {base b : Nat} {room : Int} {F : Nat → Prop} {its : List It} {xb ib : Nat} {num : Nat} {dl : Int} {rv : Value} {xs : List Int} {qc sc : Value} {cn : List Value} {qits l : List It} {sst ss : List Nat}
theorem PX.upd {S : Nat → Prop} (h : PX w0 base b room F its xb ib num dl rv xs qc sc cn qits sst w) (u : Upd S w w') (hs : ∀ k ∈ boxFoot b qc sc its, ¬ S k) (h1 : ¬ S xb) (h2 : ¬ S ib) (h3 : ∀ k, rv.ownBlock = some k → ¬ S k) (hF : ∀ k, k < w0.heap.size → S k → F k) :
    PX w0 base b room F its xb ib num dl rv xs qc sc cn qits sst w' :=
  ⟨h.hb.upd u (hs _ (in_boxFoot (.inl rfl))), h.hq.upd u fun g hg => hs _ (in_boxFoot (.inr (.inl hg))), h.hs.upd u fun g hg => hs _ (in_boxFoot (.inr (.inr (.inl hg)))), fun x hx => (h.hi x hx).upd u fun k hk => hs _ (in_boxFoot (.inr (.inr (.inr (in_itFoot hx hk))))),
    h.hbb, h.xm.upd u h1 h2 h3, h.pt, h.nx, h.ni, h.nr, h.fo, h.fi, h.fx, h.fr, Upd.then h.u u hF, h.hB⟩
theorem PX.below (h : PX w0 base b room F its xb ib num dl rv xs qc sc cn qits sst w) (q : Below w.heap.size w w') : PX w0 base b room F its xb ib num dl rv xs qc sc cn qits sst w' :=
  h.upd (S := fun _ => False) (Upd.of_below q) (fun _ _ => id) id id (fun _ _ => id) (fun _ _ h => h.elim)
theorem PX.lt (h : PX w0 base b room F its xb ib num dl rv xs qc sc cn qits sst w) {k : Nat} (hk : k ∈ boxFoot b qc sc its) : base ≤ k ∧ k < w.heap.size := by
  rcases of_boxFoot hk with rfl | hk | hk | hk
  · exact ⟨h.hbb, h.hb.lt⟩
  · exact h.hq.lt hk
  · exact h.hs.lt hk
  · obtain ⟨x, hx, hk⟩ := mem_itFoot hk
    exact (h.hi x hx).lt hk
/-- The message's bytes grow. -/
theorem PX.bytes {rv' : Value} {xs' : List Int} (h : PX w0 base b room F its xb ib num dl rv xs qc sc cn qits sst w) (hp : XM w' base xb ib num dl rv' xs') (u : Upd (xmS ib rv) w w') (ho : rv'.ownBlock = rv.ownBlock ∨ ∀ g, rv'.ownBlock = some g → w.heap.size ≤ g) :
    PX w0 base b room F its xb ib num dl rv' xs' qc sc cn qits sst w' := by
  have hn : ∀ k ∈ boxFoot b qc sc its, ¬ xmS ib rv k := by
    rintro k hk (e | e)
    · exact h.ni (by rw [← e]; exact hk)
    · exact h.nr k e hk
  have hlt := h.u.size
  refine ⟨h.hb.upd u (hn _ (in_boxFoot (.inl rfl))), h.hq.upd u fun g hg => hn _ (in_boxFoot (.inr (.inl hg))), h.hs.upd u fun g hg => hn _ (in_boxFoot (.inr (.inr (.inl hg)))), fun x hx => (h.hi x hx).upd u fun k hk => hn _ (in_boxFoot (.inr (.inr (.inr (in_itFoot hx hk))))),
    h.hbb, hp, h.pt, h.nx, h.ni, ?_, h.fo, h.fi, h.fx, ?_, Upd.then h.u u ?_, h.hB⟩
  · intro k hk hf
    rcases ho with e | e
    · exact h.nr k (by rw [← e]; exact hk) hf
    · have := e k hk; have := (h.lt hf).2; omega
  · intro k hk
    rcases ho with e | e
    · exact h.fr k (by rw [← e]; exact hk)
    · have := e k hk; omega
  · rintro k hk (e | e)
    · have := h.fi; omega
    · have := h.fr k e; omega
/-- The queue grows. -/
theorem PX.appQ {q' : Value} (h : PX w0 base b room F its xb ib num dl rv xs qc sc cn qits sst w) (q : Below w.heap.size w w1) (hv : Vw It.ptr 67 w' base q' l) (u : Upd (fun k => qc.ownBlock = some k) w1 w') (ho : q'.ownBlock = qc.ownBlock ∨ ∀ g, q'.ownBlock = some g → w1.heap.size ≤ g) :
    (Blk w' b 66 (.int .i64 room :: qc :: sc :: cn) ∧ Blk w' xb 67 [.pointer (some ⟨ib, 0, none⟩)]) ∧ PX w0 base b room F its xb ib num dl rv xs q' sc cn l sst (w'.setCell ⟨b, 1, none⟩ q') := by
  have h1 := h.below q
  have P := h.pt
  have hq' : ∀ g, q'.ownBlock = some g → qc.ownBlock = some g ∨ w1.heap.size ≤ g := fun g hg => by
    rcases ho with e | e
    · exact .inl (by rw [← e]; exact hg)
    · exact .inr (e g hg)
  have hb' : Blk w' b 66 (.int .i64 room :: qc :: sc :: cn) := h1.hb.upd u fun e => P.bq b e rfl
  have hnf : ∀ g, q'.ownBlock = some g → qc.ownBlock = some g ∨ g ∉ boxFoot b qc sc its := fun g hg => (hq' g hg).imp id fun e hf => by have := (h1.lt hf).2; omega
  have hbq : ∀ g, q'.ownBlock = some g → g ≠ b := fun g hg e => by
    rcases hnf g hg with e' | e'
    · exact P.bq g e' e
    · exact e' (in_boxFoot (.inl e))
  have xm' : XM w' base xb ib num dl rv xs := h1.xm.upd u (fun e => h.nx (in_boxFoot (.inr (.inl e)))) (fun e => h.ni (in_boxFoot (.inr (.inl e)))) fun k hk e => h.nr k hk (in_boxFoot (.inr (.inl e)))
  have us : Upd (fun k => k = b) w' (w'.setCell ⟨b, 1, none⟩ q') := (Upd.refl _ _).setCell _ _ fun _ => rfl
  have hne : ∀ k ∈ boxFoot b q' sc its, k ∈ boxFoot b qc sc its ∨ w1.heap.size ≤ k := by
    intro k hk
    rcases of_boxFoot hk with e | e | e | e
    · exact .inl (in_boxFoot (.inl e))
    · exact (hq' k e).imp (fun e => in_boxFoot (.inr (.inl e))) id
    · exact .inl (in_boxFoot (.inr (.inr (.inl e))))
    · exact .inl (in_boxFoot (.inr (.inr (.inr e))))
  have hxl := h1.xm.hx.lt
  have hil := h1.xm.hi.lt
  refine ⟨⟨hb', xm'.hx⟩, ⟨by simpa using hb'.set 1 q', hv.upd us fun g hg e => hbq g hg e, (h1.hs.upd u fun g hg e => P.qs g e hg).upd us fun g hg e => P.bs g hg e, ?_, h.hbb, xm'.upd us (fun e => h.nx (in_boxFoot (.inl e))) (fun e => h.ni (in_boxFoot (.inl e))) (fun k hk e => h.nr k hk (in_boxFoot (.inl e))), P.q' hnf, ?_, ?_, ?_, ?_, h.fi, h.fx, h.fr, ?_, h.hB⟩⟩
  · intro x hx
    exact ((h1.hi x hx).upd u fun k hk e => P.qi k e (in_itFoot hx hk)).upd us fun k hk e => P.bi (by rw [← e]; exact in_itFoot hx hk)
  · intro e
    rcases hne _ e with e | e
    · exact h.nx e
    · omega
  · intro e
    rcases hne _ e with e | e
    · exact h.ni e
    · omega
  · intro k hk e
    rcases hne _ e with e | e
    · exact h.nr k hk e
    · have := (h1.xm.hr.lt hk).2; omega
  · intro k hk
    rcases hne k hk with e | e
    · exact h.fo k e
    · have := h1.u.size; exact .inr (by omega)
  · refine (Upd.then h1.u u fun k hk e => ?_).setCell _ _ fun hk => ?_
    · rcases h.fo k (in_boxFoot (.inr (.inl e))) with e | e
      · exact e
      · omega
    · rcases h.fo b (in_boxFoot (.inl rfl)) with e | e
      · exact e
      · simp at hk; omega
/-- The states grow. -/
theorem PX.appS {s' : Value} (h : PX w0 base b room F its xb ib num dl rv xs qc sc cn qits sst w) (q : Below w.heap.size w w1) (hv : Vw stV 5 w' base s' ss) (u : Upd (fun k => sc.ownBlock = some k) w1 w') (ho : s'.ownBlock = sc.ownBlock ∨ ∀ g, s'.ownBlock = some g → w1.heap.size ≤ g) :
    Blk w' b 66 (.int .i64 room :: qc :: sc :: cn) ∧ PX w0 base b room F its xb ib num dl rv xs qc s' cn qits ss (w'.setCell ⟨b, 2, none⟩ s') := by
  have h1 := h.below q
  have P := h.pt
  have hq' : ∀ g, s'.ownBlock = some g → sc.ownBlock = some g ∨ w1.heap.size ≤ g := fun g hg => by
    rcases ho with e | e
    · exact .inl (by rw [← e]; exact hg)
    · exact .inr (e g hg)
  have hb' : Blk w' b 66 (.int .i64 room :: qc :: sc :: cn) := h1.hb.upd u fun e => P.bs b e rfl
  have hnf : ∀ g, s'.ownBlock = some g → sc.ownBlock = some g ∨ g ∉ boxFoot b qc sc its := fun g hg => (hq' g hg).imp id fun e hf => by have := (h1.lt hf).2; omega
  have hbq : ∀ g, s'.ownBlock = some g → g ≠ b := fun g hg e => by
    rcases hnf g hg with e' | e'
    · exact P.bs g e' e
    · exact e' (in_boxFoot (.inl e))
  have xm' : XM w' base xb ib num dl rv xs := h1.xm.upd u (fun e => h.nx (in_boxFoot (.inr (.inr (.inl e))))) (fun e => h.ni (in_boxFoot (.inr (.inr (.inl e))))) fun k hk e => h.nr k hk (in_boxFoot (.inr (.inr (.inl e))))
  have us : Upd (fun k => k = b) w' (w'.setCell ⟨b, 2, none⟩ s') := (Upd.refl _ _).setCell _ _ fun _ => rfl
  have hne : ∀ k ∈ boxFoot b qc s' its, k ∈ boxFoot b qc sc its ∨ w1.heap.size ≤ k := by
    intro k hk
    rcases of_boxFoot hk with e | e | e | e
    · exact .inl (in_boxFoot (.inl e))
    · exact .inl (in_boxFoot (.inr (.inl e)))
    · exact (hq' k e).imp (fun e => in_boxFoot (.inr (.inr (.inl e)))) id
    · exact .inl (in_boxFoot (.inr (.inr (.inr e))))
  have hxl := h1.xm.hx.lt
  have hil := h1.xm.hi.lt
  refine ⟨hb', ⟨by simpa using hb'.set 2 s', (h1.hq.upd u fun g hg e => P.qs g hg e).upd us fun g hg e => P.bq g hg e, hv.upd us fun g hg e => hbq g hg e, ?_, h.hbb, xm'.upd us (fun e => h.nx (in_boxFoot (.inl e))) (fun e => h.ni (in_boxFoot (.inl e))) (fun k hk e => h.nr k hk (in_boxFoot (.inl e))), P.s' hnf, ?_, ?_, ?_, ?_, h.fi, h.fx, h.fr, ?_, h.hB⟩⟩
  · intro x hx
    exact ((h1.hi x hx).upd u fun k hk e => P.si k e (in_itFoot hx hk)).upd us fun k hk e => P.bi (by rw [← e]; exact in_itFoot hx hk)
  · intro e
    rcases hne _ e with e | e
    · exact h.nx e
    · omega
  · intro e
    rcases hne _ e with e | e
    · exact h.ni e
    · omega
  · intro k hk e
    rcases hne _ e with e | e
    · exact h.nr k hk e
    · have := (h1.xm.hr.lt hk).2; omega
  · intro k hk
    rcases hne k hk with e | e
    · exact h.fo k e
    · have := h1.u.size; exact .inr (by omega)
  · refine (Upd.then h1.u u fun k hk e => ?_).setCell _ _ fun hk => ?_
    · rcases h.fo k (in_boxFoot (.inr (.inr (.inl e)))) with e | e
      · exact e
      · omega
    · rcases h.fo b (in_boxFoot (.inl rfl)) with e | e
      · exact e
      · simp at hk; omega
/-- The count grows: the message is in the box. -/
theorem PX.fin {st : List Nat} (h : PX w0 base b room F its xb ib num dl rv xs qc sc (cnts st) (its ++ [⟨num, dl, xs, ib, rv⟩]) (st ++ [1]) w) :
    BoxAt (w.setCell ⟨b, 4, none⟩ (.int .i64 ((cnt st 1 : Int) + 1))) base b room qc sc (its ++ [⟨num, dl, xs, ib, rv⟩]) (st ++ [1]) ∧
      (∀ k ∈ boxFoot b qc sc (its ++ [⟨num, dl, xs, ib, rv⟩]), F k ∨ w0.heap.size ≤ k) ∧ Upd F w0 (w.setCell ⟨b, 4, none⟩ (.int .i64 ((cnt st 1 : Int) + 1))) := by
  have us : Upd (fun k => k = b) w (w.setCell ⟨b, 4, none⟩ (.int .i64 ((cnt st 1 : Int) + 1))) := (Upd.refl _ _).setCell _ _ fun _ => rfl
  have P := h.pt
  have hib : ib ≠ b := fun e => h.ni (in_boxFoot (.inl e))
  have hrb : ∀ k, rv.ownBlock = some k → k ≠ b := fun k hk e => h.nr k hk (in_boxFoot (.inl e))
  have hF : ∀ k ∈ itFoot (its ++ [⟨num, dl, xs, ib, rv⟩]), k ∈ itFoot its ∨ k = ib ∨ rv.ownBlock = some k := by
    intro k hk
    rw [itFoot_append] at hk
    rcases List.mem_append.1 hk with hk | hk
    · exact .inl hk
    · right
      simpa [itFoot, It.foot] using hk
  have hsub : ∀ k, k ∈ boxFoot b qc sc its → k ≠ ib ∧ rv.ownBlock ≠ some k := fun k hk => ⟨fun e => h.ni (by rw [← e]; exact hk), fun e => h.nr k e hk⟩
  refine ⟨⟨⟨?_, h.hs.upd us fun g hg e => P.bs g hg e, ?_, h.hbb, parts_nodup ?_⟩, h.hq.upd us fun g hg e => P.bq g hg e⟩, ?_, ?_⟩
  · have := h.hb.set 4 (.int .i64 ((cnt st 1 : Int) + 1))
    have e : ((.int .i64 room :: qc :: sc :: cnts st).set 4 (.int .i64 ((cnt st 1 : Int) + 1)) : List Value) = .int .i64 room :: qc :: sc :: cnts (st ++ [1]) := by
      simp [cnts, cnt_append, cnt]
    rw [e] at this
    exact this
  · intro x hx
    rcases List.mem_append.1 hx with hx | hx
    · exact (h.hi x hx).upd us fun k hk e => P.bi (by rw [← e]; exact in_itFoot hx hk)
    · obtain rfl := List.mem_singleton.1 hx
      exact ⟨h.xm.hi.upd us hib, h.xm.hr.upd us hrb, by have := h.fi; have := h.hB; show base ≤ ib; omega⟩
  · refine ⟨P.bq, P.bs, fun e => ?_, P.qs, fun k hk e => ?_, fun k hk e => ?_, ?_⟩
    · rcases hF _ e with e | e | e
      · exact P.bi e
      · exact hib e.symm
      · exact hrb b e rfl
    · rcases hF _ e with e | e | e
      · exact P.qi k hk e
      · exact (hsub k (in_boxFoot (.inr (.inl hk)))).1 e
      · exact (hsub k (in_boxFoot (.inr (.inl hk)))).2 e
    · rcases hF _ e with e | e | e
      · exact P.si k hk e
      · exact (hsub k (in_boxFoot (.inr (.inr (.inl hk))))).1 e
      · exact (hsub k (in_boxFoot (.inr (.inr (.inl hk))))).2 e
    · rw [itFoot_append]
      refine List.nodup_append.2 ⟨P.ii, ?_, ?_⟩
      · have hn := h.xm.ni
        simp only [itFoot, List.flatMap_cons, List.flatMap_nil, List.append_nil, It.foot]
        refine List.nodup_cons.2 ⟨fun e => hn (by simpa using e), opt_nodup _⟩
      · rintro k hk j hj rfl
        have hj' : k = ib ∨ rv.ownBlock = some k := by simpa [itFoot, It.foot] using hj
        have := hsub k (in_boxFoot (.inr (.inr (.inr hk))))
        rcases hj' with e | e
        · exact this.1 e
        · exact this.2 e
  · intro k hk
    rcases of_boxFoot hk with e | e | e | e
    · exact h.fo k (in_boxFoot (.inl e))
    · exact h.fo k (in_boxFoot (.inr (.inl e)))
    · exact h.fo k (in_boxFoot (.inr (.inr (.inl e))))
    · rcases hF k e with e | e | e
      · exact h.fo k (in_boxFoot (.inr (.inr (.inr e))))
      · rw [e]; exact .inr h.fi
      · exact .inr (h.fr k e)
  · refine h.u.setCell _ _ fun hk => ?_
    rcases h.fo b (in_boxFoot (.inl rfl)) with e | e
    · exact e
    · simp at hk; omega
end
end Go.Proofs.Ytjljjohoipnhhaa
