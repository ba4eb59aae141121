/-
  message.Box.Put: memory.
  The contract of message.Box.Put.
-/
import Derived.Test.YtkaaoomliepijaaGreatQBoxW
import Derived.Test.YtkaaoomliepijaaGreatQBoxQ
import Derived.Deep.CutBlock
namespace Go.Proofs.YtkaaoomliepijaaGreat
open Go.RowKit
set_option linter.unusedVariables false

theorem wr8_eq (n : Nat) : wr8 (n : Int) = ((n % 256 : Nat) : Int) := by
  unfold wr8
  simp [IntKind.wrap, IntKind.bits, IntKind.signed]
theorem wr8_div (n k : Nat) : wr8 ((n : Int) / (k : Int)) = ((n / k % 256 : Nat) : Int) := by
  rw [← wr8_eq]; rfl
theorem form_eq (i : Nat) (hi : i ≤ 16777215) (d : List Int) (hd : d.length ≤ 1000) : numB (d.length : Int) 2 ++ numB (i : Int) 3 ++ d = form i d := by
  have e1 := wr8_div d.length 256
  have e2 := wr8_div i 256
  have e3 := wr8_div i 65536
  unfold numB form
  rw [if_pos rfl, if_neg (by decide)]
  simp only [List.cons_append, List.nil_append]
  rw [wr8_eq, wr8_eq, show ((d.length : Int) / 256) = (d.length : Int) / ((256 : Nat) : Int) from rfl, show ((i : Int) / 256) = (i : Int) / ((256 : Nat) : Int) from rfl, show ((i : Int) / 65536) = (i : Int) / ((65536 : Nat) : Int) from rfl, e1, e2, e3]
  rw [Nat.mod_eq_of_lt (show d.length / 256 < 256 by omega), Nat.mod_eq_of_lt (show i / 65536 < 256 by omega)]

/-- The box while a message is put into it. -/
structure PX (w0 : World) (base b : Nat) (room : Int) (F : Nat → Prop) (its : List It) (xb ib : Nat) (num : Nat) (dl : Int) (rv : Value) (xs : List Int) (qc sc : Value) (cn : List Value) (qits : List It) (sst : List Nat) (w : World) : Prop where
  hb : Blk w b 82 (.int .i64 room :: qc :: sc :: cn)
  hq : Vw It.ptr 111 w base qc qits
  hs : Vw stV 5 w base sc sst
  hi : ∀ x ∈ its, ItAt w base x
  hbb : base ≤ b
  xm : XM w base xb ib num dl rv xs
  pt : Parts b qc sc its
  nx : xb ∉ boxFoot b qc sc its
  ni : ib ∉ boxFoot b qc sc its
  nr : ∀ k, rv.ownBlock = some k → k ∉ boxFoot b qc sc its
  fo : ∀ k ∈ boxFoot b qc sc its, F k ∨ w0.heap.size ≤ k
  fi : w0.heap.size ≤ ib
  fx : w0.heap.size ≤ xb
  fr : ∀ k, rv.ownBlock = some k → w0.heap.size ≤ k
  u : Upd F w0 w
  hB : base ≤ w0.heap.size
section
variable {w0 w w1 w' : World} {base b : Nat} {room : Int} {F : Nat → Prop} {its : List It} {xb ib : Nat} {num : Nat} {dl : Int} {rv : Value} {xs : List Int} {qc sc : Value} {cn : List Value} {qits l : List It} {sst ss : List Nat}
theorem PX.upd {S : Nat → Prop} (h : PX w0 base b room F its xb ib num dl rv xs qc sc cn qits sst w) (u : Upd S w w') (hs : ∀ k ∈ boxFoot b qc sc its, ¬ S k) (h1 : ¬ S xb) (h2 : ¬ S ib) (h3 : ∀ k, rv.ownBlock = some k → ¬ S k) (hF : ∀ k, k < w0.heap.size → S k → F k) :
    PX w0 base b room F its xb ib num dl rv xs qc sc cn qits sst w' :=
  ⟨h.hb.upd u (hs _ (in_boxFoot (.inl rfl))), h.hq.upd u fun g hg => hs _ (in_boxFoot (.inr (.inl hg))), h.hs.upd u fun g hg => hs _ (in_boxFoot (.inr (.inr (.inl hg)))), fun x hx => (h.hi x hx).upd u fun k hk => hs _ (in_boxFoot (.inr (.inr (.inr (in_itFoot hx hk))))),
    h.hbb, h.xm.upd u h1 h2 h3, h.pt, h.nx, h.ni, h.nr, h.fo, h.fi, h.fx, h.fr, Upd.then h.u u hF, h.hB⟩
theorem PX.below (h : PX w0 base b room F its xb ib num dl rv xs qc sc cn qits sst w) (q : Below w.heap.size w w') : PX w0 base b room F its xb ib num dl rv xs qc sc cn qits sst w' :=
  h.upd (S := fun _ => False) (Upd.of_below q) (fun _ _ => id) id id (fun _ _ => id) (fun _ _ h => h.elim)
theorem PX.lt (h : PX w0 base b room F its xb ib num dl rv xs qc sc cn qits sst w) {k : Nat} (hk : k ∈ boxFoot b qc sc its) : base ≤ k ∧ k < w.heap.size := by
  rcases of_boxFoot hk with rfl | hk | hk | hk
  · exact ⟨h.hbb, h.hb.lt⟩
  · exact h.hq.lt hk
  · exact h.hs.lt hk
  · obtain ⟨x, hx, hk⟩ := mem_itFoot hk
    exact (h.hi x hx).lt hk
/-- The message's bytes grow. -/
theorem PX.bytes {rv' : Value} {xs' : List Int} (h : PX w0 base b room F its xb ib num dl rv xs qc sc cn qits sst w) (hp : XM w' base xb ib num dl rv' xs') (u : Upd (xmS ib rv) w w') (ho : rv'.ownBlock = rv.ownBlock ∨ ∀ g, rv'.ownBlock = some g → w.heap.size ≤ g) :
    PX w0 base b room F its xb ib num dl rv' xs' qc sc cn qits sst w' := by
  have hn : ∀ k ∈ boxFoot b qc sc its, ¬ xmS ib rv k := by
    rintro k hk (e | e)
    · exact h.ni (by rw [← e]; exact hk)
    · exact h.nr k e hk
  have hlt := h.u.size
  refine ⟨h.hb.upd u (hn _ (in_boxFoot (.inl rfl))), h.hq.upd u fun g hg => hn _ (in_boxFoot (.inr (.inl hg))), h.hs.upd u fun g hg => hn _ (in_boxFoot (.inr (.inr (.inl hg)))), fun x hx => (h.hi x hx).upd u fun k hk => hn _ (in_boxFoot (.inr (.inr (.inr (in_itFoot hx hk))))),
    h.hbb, hp, h.pt, h.nx, h.ni, ?_, h.fo, h.fi, h.fx, ?_, Upd.then h.u u ?_, h.hB⟩
  · intro k hk hf
    rcases ho with e | e
    · exact h.nr k (by rw [← e]; exact hk) hf
    · have := e k hk; have := (h.lt hf).2; omega
  · intro k hk
    rcases ho with e | e
    · exact h.fr k (by rw [← e]; exact hk)
    · have := e k hk; omega
  · rintro k hk (e | e)
    · have := h.fi; omega
    · have := h.fr k e; omega
/-- The queue grows. -/
theorem PX.appQ {q' : Value} (h : PX w0 base b room F its xb ib num dl rv xs qc sc cn qits sst w) (q : Below w.heap.size w w1) (hv : Vw It.ptr 111 w' base q' l) (u : Upd (fun k => qc.ownBlock = some k) w1 w') (ho : q'.ownBlock = qc.ownBlock ∨ ∀ g, q'.ownBlock = some g → w1.heap.size ≤ g) :
    (Blk w' b 82 (.int .i64 room :: qc :: sc :: cn) ∧ Blk w' xb 111 [.pointer (some ⟨ib, 0, none⟩)]) ∧ PX w0 base b room F its xb ib num dl rv xs q' sc cn l sst (w'.setCell ⟨b, 1, none⟩ q') := by
  have h1 := h.below q
  have P := h.pt
  have hq' : ∀ g, q'.ownBlock = some g → qc.ownBlock = some g ∨ w1.heap.size ≤ g := fun g hg => by
    rcases ho with e | e
    · exact .inl (by rw [← e]; exact hg)
    · exact .inr (e g hg)
  have hb' : Blk w' b 82 (.int .i64 room :: qc :: sc :: cn) := h1.hb.upd u fun e => P.bq b e rfl
  have hnf : ∀ g, q'.ownBlock = some g → qc.ownBlock = some g ∨ g ∉ boxFoot b qc sc its := fun g hg => (hq' g hg).imp id fun e hf => by have := (h1.lt hf).2; omega
  have hbq : ∀ g, q'.ownBlock = some g → g ≠ b := fun g hg e => by
    rcases hnf g hg with e' | e'
    · exact P.bq g e' e
    · exact e' (in_boxFoot (.inl e))
  have xm' : XM w' base xb ib num dl rv xs := h1.xm.upd u (fun e => h.nx (in_boxFoot (.inr (.inl e)))) (fun e => h.ni (in_boxFoot (.inr (.inl e)))) fun k hk e => h.nr k hk (in_boxFoot (.inr (.inl e)))
  have us : Upd (fun k => k = b) w' (w'.setCell ⟨b, 1, none⟩ q') := (Upd.refl _ _).setCell _ _ fun _ => rfl
  have hne : ∀ k ∈ boxFoot b q' sc its, k ∈ boxFoot b qc sc its ∨ w1.heap.size ≤ k := by
    intro k hk
    rcases of_boxFoot hk with e | e | e | e
    · exact .inl (in_boxFoot (.inl e))
    · exact (hq' k e).imp (fun e => in_boxFoot (.inr (.inl e))) id
    · exact .inl (in_boxFoot (.inr (.inr (.inl e))))
    · exact .inl (in_boxFoot (.inr (.inr (.inr e))))
  have hxl := h1.xm.hx.lt
  have hil := h1.xm.hi.lt
  refine ⟨⟨hb', xm'.hx⟩, ⟨by simpa using hb'.set 1 q', hv.upd us fun g hg e => hbq g hg e, (h1.hs.upd u fun g hg e => P.qs g e hg).upd us fun g hg e => P.bs g hg e, ?_, h.hbb, xm'.upd us (fun e => h.nx (in_boxFoot (.inl e))) (fun e => h.ni (in_boxFoot (.inl e))) (fun k hk e => h.nr k hk (in_boxFoot (.inl e))), P.q' hnf, ?_, ?_, ?_, ?_, h.fi, h.fx, h.fr, ?_, h.hB⟩⟩
  · intro x hx
    exact ((h1.hi x hx).upd u fun k hk e => P.qi k e (in_itFoot hx hk)).upd us fun k hk e => P.bi (by rw [← e]; exact in_itFoot hx hk)
  · intro e
    rcases hne _ e with e | e
    · exact h.nx e
    · omega
  · intro e
    rcases hne _ e with e | e
    · exact h.ni e
    · omega
  · intro k hk e
    rcases hne _ e with e | e
    · exact h.nr k hk e
    · have := (h1.xm.hr.lt hk).2; omega
  · intro k hk
    rcases hne k hk with e | e
    · exact h.fo k e
    · have := h1.u.size; exact .inr (by omega)
  · refine (Upd.then h1.u u fun k hk e => ?_).setCell _ _ fun hk => ?_
    · rcases h.fo k (in_boxFoot (.inr (.inl e))) with e | e
      · exact e
      · omega
    · rcases h.fo b (in_boxFoot (.inl rfl)) with e | e
      · exact e
      · simp at hk; omega
/-- The states grow. -/
theorem PX.appS {s' : Value} (h : PX w0 base b room F its xb ib num dl rv xs qc sc cn qits sst w) (q : Below w.heap.size w w1) (hv : Vw stV 5 w' base s' ss) (u : Upd (fun k => sc.ownBlock = some k) w1 w') (ho : s'.ownBlock = sc.ownBlock ∨ ∀ g, s'.ownBlock = some g → w1.heap.size ≤ g) :
    Blk w' b 82 (.int .i64 room :: qc :: sc :: cn) ∧ PX w0 base b room F its xb ib num dl rv xs qc s' cn qits ss (w'.setCell ⟨b, 2, none⟩ s') := by
  have h1 := h.below q
  have P := h.pt
  have hq' : ∀ g, s'.ownBlock = some g → sc.ownBlock = some g ∨ w1.heap.size ≤ g := fun g hg => by
    rcases ho with e | e
    · exact .inl (by rw [← e]; exact hg)
    · exact .inr (e g hg)
  have hb' : Blk w' b 82 (.int .i64 room :: qc :: sc :: cn) := h1.hb.upd u fun e => P.bs b e rfl
  have hnf : ∀ g, s'.ownBlock = some g → sc.ownBlock = some g ∨ g ∉ boxFoot b qc sc its := fun g hg => (hq' g hg).imp id fun e hf => by have := (h1.lt hf).2; omega
  have hbq : ∀ g, s'.ownBlock = some g → g ≠ b := fun g hg e => by
    rcases hnf g hg with e' | e'
    · exact P.bs g e' e
    · exact e' (in_boxFoot (.inl e))
  have xm' : XM w' base xb ib num dl rv xs := h1.xm.upd u (fun e => h.nx (in_boxFoot (.inr (.inr (.inl e))))) (fun e => h.ni (in_boxFoot (.inr (.inr (.inl e))))) fun k hk e => h.nr k hk (in_boxFoot (.inr (.inr (.inl e))))
  have us : Upd (fun k => k = b) w' (w'.setCell ⟨b, 2, none⟩ s') := (Upd.refl _ _).setCell _ _ fun _ => rfl
  have hne : ∀ k ∈ boxFoot b qc s' its, k ∈ boxFoot b qc sc its ∨ w1.heap.size ≤ k := by
    intro k hk
    rcases of_boxFoot hk with e | e | e | e
    · exact .inl (in_boxFoot (.inl e))
    · exact .inl (in_boxFoot (.inr (.inl e)))
    · exact (hq' k e).imp (fun e => in_boxFoot (.inr (.inr (.inl e)))) id
    · exact .inl (in_boxFoot (.inr (.inr (.inr e))))
  have hxl := h1.xm.hx.lt
  have hil := h1.xm.hi.lt
  refine ⟨hb', ⟨by simpa using hb'.set 2 s', (h1.hq.upd u fun g hg e => P.qs g hg e).upd us fun g hg e => P.bq g hg e, hv.upd us fun g hg e => hbq g hg e, ?_, h.hbb, xm'.upd us (fun e => h.nx (in_boxFoot (.inl e))) (fun e => h.ni (in_boxFoot (.inl e))) (fun k hk e => h.nr k hk (in_boxFoot (.inl e))), P.s' hnf, ?_, ?_, ?_, ?_, h.fi, h.fx, h.fr, ?_, h.hB⟩⟩
  · intro x hx
    exact ((h1.hi x hx).upd u fun k hk e => P.si k e (in_itFoot hx hk)).upd us fun k hk e => P.bi (by rw [← e]; exact in_itFoot hx hk)
  · intro e
    rcases hne _ e with e | e
    · exact h.nx e
    · omega
  · intro e
    rcases hne _ e with e | e
    · exact h.ni e
    · omega
  · intro k hk e
    rcases hne _ e with e | e
    · exact h.nr k hk e
    · have := (h1.xm.hr.lt hk).2; omega
  · intro k hk
    rcases hne k hk with e | e
    · exact h.fo k e
    · have := h1.u.size; exact .inr (by omega)
  · refine (Upd.then h1.u u fun k hk e => ?_).setCell _ _ fun hk => ?_
    · rcases h.fo k (in_boxFoot (.inr (.inr (.inl e)))) with e | e
      · exact e
      · omega
    · rcases h.fo b (in_boxFoot (.inl rfl)) with e | e
      · exact e
      · simp at hk; omega
/-- The count grows: the message is in the box. -/
theorem PX.fin {st : List Nat} (h : PX w0 base b room F its xb ib num dl rv xs qc sc (cnts st) (its ++ [⟨num, dl, xs, ib, rv⟩]) (st ++ [1]) w) :
    BoxAt (w.setCell ⟨b, 4, none⟩ (.int .i64 ((cnt st 1 : Int) + 1))) base b room qc sc (its ++ [⟨num, dl, xs, ib, rv⟩]) (st ++ [1]) ∧
      (∀ k ∈ boxFoot b qc sc (its ++ [⟨num, dl, xs, ib, rv⟩]), F k ∨ w0.heap.size ≤ k) ∧ Upd F w0 (w.setCell ⟨b, 4, none⟩ (.int .i64 ((cnt st 1 : Int) + 1))) := by
  have us : Upd (fun k => k = b) w (w.setCell ⟨b, 4, none⟩ (.int .i64 ((cnt st 1 : Int) + 1))) := (Upd.refl _ _).setCell _ _ fun _ => rfl
  have P := h.pt
  have hib : ib ≠ b := fun e => h.ni (in_boxFoot (.inl e))
  have hrb : ∀ k, rv.ownBlock = some k → k ≠ b := fun k hk e => h.nr k hk (in_boxFoot (.inl e))
  have hF : ∀ k ∈ itFoot (its ++ [⟨num, dl, xs, ib, rv⟩]), k ∈ itFoot its ∨ k = ib ∨ rv.ownBlock = some k := by
    intro k hk
    rw [itFoot_append] at hk
    rcases List.mem_append.1 hk with hk | hk
    · exact .inl hk
    · right
      simpa [itFoot, It.foot] using hk
  have hsub : ∀ k, k ∈ boxFoot b qc sc its → k ≠ ib ∧ rv.ownBlock ≠ some k := fun k hk => ⟨fun e => h.ni (by rw [← e]; exact hk), fun e => h.nr k e hk⟩
  refine ⟨⟨⟨?_, h.hs.upd us fun g hg e => P.bs g hg e, ?_, h.hbb, parts_nodup ?_⟩, h.hq.upd us fun g hg e => P.bq g hg e⟩, ?_, ?_⟩
  · have := h.hb.set 4 (.int .i64 ((cnt st 1 : Int) + 1))
    have e : ((.int .i64 room :: qc :: sc :: cnts st).set 4 (.int .i64 ((cnt st 1 : Int) + 1)) : List Value) = .int .i64 room :: qc :: sc :: cnts (st ++ [1]) := by
      simp [cnts, cnt_append, cnt]
    rw [e] at this
    exact this
  · intro x hx
    rcases List.mem_append.1 hx with hx | hx
    · exact (h.hi x hx).upd us fun k hk e => P.bi (by rw [← e]; exact in_itFoot hx hk)
    · obtain rfl := List.mem_singleton.1 hx
      exact ⟨h.xm.hi.upd us hib, h.xm.hr.upd us hrb, by have := h.fi; have := h.hB; show base ≤ ib; omega⟩
  · refine ⟨P.bq, P.bs, fun e => ?_, P.qs, fun k hk e => ?_, fun k hk e => ?_, ?_⟩
    · rcases hF _ e with e | e | e
      · exact P.bi e
      · exact hib e.symm
      · exact hrb b e rfl
    · rcases hF _ e with e | e | e
      · exact P.qi k hk e
      · exact (hsub k (in_boxFoot (.inr (.inl hk)))).1 e
      · exact (hsub k (in_boxFoot (.inr (.inl hk)))).2 e
    · rcases hF _ e with e | e | e
      · exact P.si k hk e
      · exact (hsub k (in_boxFoot (.inr (.inr (.inl hk))))).1 e
      · exact (hsub k (in_boxFoot (.inr (.inr (.inl hk))))).2 e
    · rw [itFoot_append]
      refine List.nodup_append.2 ⟨P.ii, ?_, ?_⟩
      · have hn := h.xm.ni
        simp only [itFoot, List.flatMap_cons, List.flatMap_nil, List.append_nil, It.foot]
        refine List.nodup_cons.2 ⟨fun e => hn (by simpa using e), opt_nodup _⟩
      · rintro k hk j hj rfl
        have hj' : k = ib ∨ rv.ownBlock = some k := by simpa [itFoot, It.foot] using hj
        have := hsub k (in_boxFoot (.inr (.inr (.inr hk))))
        rcases hj' with e | e
        · exact this.1 e
        · exact this.2 e
  · intro k hk
    rcases of_boxFoot hk with e | e | e | e
    · exact h.fo k (in_boxFoot (.inl e))
    · exact h.fo k (in_boxFoot (.inr (.inl e)))
    · exact h.fo k (in_boxFoot (.inr (.inr (.inl e))))
    · rcases hF k e with e | e | e
      · exact h.fo k (in_boxFoot (.inr (.inr (.inr e))))
      · rw [e]; exact .inr h.fi
      · exact .inr (h.fr k e)
  · refine h.u.setCell _ _ fun hk => ?_
    rcases h.fo b (in_boxFoot (.inl rfl)) with e | e
    · exact e
    · simp at hk; omega
end
end Go.Proofs.YtkaaoomliepijaaGreat
namespace Go.Proofs.YtkaaoomliepijaaGreat
open Go.RowKit
set_option linter.unusedVariables false

set_option maxHeartbeats 2000000 in
theorem put_bad (w : World) (b : Nat) (da : Option Addr) (n dc : Nat) (dl : Int) (hn : n ≤ maxLen) (h : n < 1 ∨ 1000 < n ∨ dl < -1) :
    Calls Tryz.prog 44 #[.pointer (some ⟨b, 0, none⟩), .slice da n dc, .int .i64 dl] w fun e w' => e = .returned (.tuple #[.int .i64 (-1), .int .i64 2]) ∧ w = w' := by
  unfold maxLen at hn
  rcases h with h | h
  · obtain rfl : n = 0 := by omega
    go_enter Tryz.func44, Tryz.ntmps44
    go_wp2_with fail
    go_ret2
    exact ⟨rfl, rfl⟩
  · by_cases h0 : n < 1
    · obtain rfl : n = 0 := by omega
      go_enter Tryz.func44, Tryz.ntmps44
      go_wp2_with fail
      go_ret2
      exact ⟨rfl, rfl⟩
    · by_cases h1 : 1000 < n
      · have e0 : (1 : Int) ≤ (n : Int) := by omega
        have e1 : (1000 : Int) < (n : Int) := by omega
        clear h
        go_enter Tryz.func44, Tryz.ntmps44
        go_wp2_with fail
        go_ret2
        exact ⟨rfl, rfl⟩
      · have e0 : (1 : Int) ≤ (n : Int) := by omega
        have e1 : (n : Int) ≤ 1000 := by omega
        have e2 : dl < -1 := by omega
        clear h
        go_enter Tryz.func44, Tryz.ntmps44
        go_wp2_with fail
        go_ret2
        exact ⟨rfl, rfl⟩

set_option maxHeartbeats 2000000 in
set_option maxRecDepth 100000 in
theorem put_full (w : World) (base b : Nat) (room : Int) (qv sv : Value) (its : List It) (st : List Nat) (h : BoxAt w base b room qv sv its st) (hst : st.length ≤ 100000) (da : Option Addr) (n dc : Nat) (dl : Int) (h0 : 1 ≤ n) (h1 : n ≤ 1000) (h2 : -1 ≤ dl) (hr : room ≤ its.length) :
    Calls Tryz.prog 44 #[.pointer (some ⟨b, 0, none⟩), .slice da n dc, .int .i64 dl] w fun e w' => e = .returned (.tuple #[.int .i64 (-1), .int .i64 5]) ∧ Qt w w' := by
  obtain ⟨qa, qc, rfl⟩ := h.q.shape
  obtain ⟨sa, sc, rfl⟩ := h.r.hs.shape
  have b0 := h.r.hb.cell (i := 0) rfl
  have b1 := h.r.hb.cell (i := 1) rfl
  have b2 := h.r.hb.cell (i := 2) rfl
  have d1 : decide (room ≤ (its.length : Int)) = true := by simpa using hr
  clear h
  generalize its.length = m at *
  generalize st.length = k at *
  go_enter Tryz.func44, Tryz.ntmps44
  go_wp2_with fail
  go_quiet (fail)
  go_wp2_with fail
  go_ret2
  exact ⟨rfl, _, rfl⟩

theorem one_gen {α : Type} {f : α → Value} {w w' : World} {T : TypeId} {x : α} (h : w'.heap = (w.alloc (.cells #[f x] T)).heap) : Sl f w' (some ⟨w.heap.size, 0, none⟩) [x] := by
  intro j y hj
  have hlt := get_lt hj
  obtain rfl : j = 0 := by simp at hlt; exact hlt
  simp at hj
  subst hj
  have hb : Blk w' w.heap.size T [f x] := (Blk.new w T [f x]).of_heap (by rw [h])
  refine ⟨rfl, ?_⟩
  rw [adr_mk]
  exact hb.cell rfl
theorem one_slp {w w' : World} {T : TypeId} {x : It} (he : w'.heap = w'.heap) (h : w'.heap = (w.alloc (.cells #[x.ptr] T)).heap) : Sl It.ptr w' (some ⟨w.heap.size, 0, none⟩) [x] := by
  intro j y hj
  have hlt := get_lt hj
  obtain rfl : j = 0 := by simp at hlt; exact hlt
  simp at hj
  subst hj
  have hb : Blk w' w.heap.size T [x.ptr] := (Blk.new w T [x.ptr]).of_heap (by rw [h])
  refine ⟨rfl, ?_⟩
  rw [adr_mk]
  exact hb.cell rfl
theorem px_start {w : World} {base b : Nat} {room : Int} {qv sv : Value} {its : List It} {st : List Nat} (h : BoxAt w base b room qv sv its st) {F : Nat → Prop} (hF : ∀ k ∈ boxFoot b qv sv its, F k) (hB : base ≤ w.heap.size) (dl : Int) :
    PX w base b room F its (w.heap.size + 1) w.heap.size st.length dl (.slice none 0 0) [] qv sv (cnts st) its st
      ((w.alloc (.cells #[.int .i64 (st.length : Int), .int .i64 dl, .slice none 0 0] 113)).alloc (.cells #[.pointer (some ⟨w.heap.size, 0, none⟩)] 111)) := by
  have B1 : Below w.heap.size w (w.alloc (.cells #[.int .i64 (st.length : Int), .int .i64 dl, .slice none 0 0] 113)) := (Below.refl _ _).alloc (Nat.le_refl _) _
  have B2 := B1.alloc (by simp) (.cells #[.pointer (some ⟨w.heap.size, 0, none⟩)] 111)
  have hb := h.below B2
  have hx : Blk ((w.alloc (.cells #[.int .i64 (st.length : Int), .int .i64 dl, .slice none 0 0] 113)).alloc (.cells #[.pointer (some ⟨w.heap.size, 0, none⟩)] 111)) (w.heap.size + 1) 111 [.pointer (some ⟨w.heap.size, 0, none⟩)] := by
    have := Blk.new (w.alloc (.cells #[.int .i64 (st.length : Int), .int .i64 dl, .slice none 0 0] 113)) 111 [.pointer (some ⟨w.heap.size, 0, none⟩)]
    simpa using this
  exact ⟨hb.r.hb, hb.q, hb.r.hs, hb.r.hi, h.r.hbb, ⟨hx, (Blk.new w _ [.int .i64 (st.length : Int), .int .i64 dl, .slice none 0 0]).alloc _, Vw.nil _ _ _ _, by omega, (fun e => by cases e), (fun e => by cases e)⟩, nodup_parts h.r.nd, h.nfoot (by omega), h.nfoot (Nat.le_refl _), (fun k hk => by cases hk), fun k hk => .inl (hF k hk), Nat.le_refl _, by omega, (fun k hk => by cases hk), Upd.of_below B2, hB⟩
def PxAny (w0 : World) (base b : Nat) (room : Int) (F : Nat → Prop) (its : List It) (xb ib num : Nat) (dl : Int) (xs : List Int) (cn : List Value) (qits : List It) (sst : List Nat) (w : World) : Prop :=
  ∃ rv qc sc, PX w0 base b room F its xb ib num dl rv xs qc sc cn qits sst w
theorem PxAny.drew {w0 : World} {base b : Nat} {room : Int} {F : Nat → Prop} {its : List It} {xb ib num : Nat} {dl : Int} {xs : List Int} {cn : List Value} {qits : List It} {sst : List Nat} {w : World} (h : PxAny w0 base b room F its xb ib num dl xs cn qits sst w) : PxAny w0 base b room F its xb ib num dl xs cn qits sst w.drew := by
  obtain ⟨a, c, d, h⟩ := h
  exact ⟨a, c, d, h.below (Qt.refl _).drew.bel⟩
def PutPost (w : World) (base b : Nat) (room : Int) (F : Nat → Prop) (its : List It) (st : List Nat) (dl : Int) (xs : List Int) (w' : World) : Prop :=
  ∃ qv' sv' x, x.key = (st.length, dl, xs) ∧ BoxAt w' base b room qv' sv' (its ++ [x]) (st ++ [1]) ∧ (∀ k ∈ boxFoot b qv' sv' (its ++ [x]), F k ∨ w.heap.size ≤ k) ∧ Upd F w w'

set_option maxHeartbeats 16000000 in
set_option maxRecDepth 100000 in
theorem put_ok (w : World) (base b : Nat) (room : Int) (qv sv : Value) (its : List It) (st : List Nat) (h : BoxAt w base b room qv sv its st) (hst : st.length ≤ 100000) (hil : its.length ≤ 100000) (da : Option Addr) (dc : Nat) (data : List Int) (hd : Sl (Value.int .u8) w da data) (dl : Int) (h0 : 1 ≤ data.length) (h1 : data.length ≤ 1000) (h2 : -1 ≤ dl) (hr : its.length < room)
    (F : Nat → Prop) (hF : ∀ k ∈ boxFoot b qv sv its, F k) (hFl : ∀ k, F k → k < w.heap.size) (hda : ∀ k, F k → (da.getD default).block ≠ k) (hbase : base ≤ w.heap.size) :
    Calls Tryz.prog 44 #[.pointer (some ⟨b, 0, none⟩), .slice da data.length dc, .int .i64 dl] w fun e w' => e = .returned (.tuple #[.int .i64 st.length, .int .i64 0]) ∧ PutPost w base b room F its st dl (numB (data.length : Int) 2 ++ numB (st.length : Int) 3 ++ data) w' := by
  have H := Lib.hid h; have HD := Lib.hid hd; have HF := Lib.hid hF; have HFL := Lib.hid hFl; have HDA := Lib.hid hda
  obtain ⟨qa, qc, rfl⟩ := h.q.shape
  obtain ⟨sa, sc, rfl⟩ := h.r.hs.shape
  have b0 := h.r.hb.cell (i := 0) rfl
  have b1 := h.r.hb.cell (i := 1) rfl
  have b2 := h.r.hb.cell (i := 2) rfl
  have d1 : decide (room ≤ (its.length : Int)) = false := by simp; omega
  have d2 : decide ((16777215 : Int) < (st.length : Int)) = false := by simp; omega
  have dn0 : (1 : Int) ≤ (data.length : Int) := by omega
  have dn1 : (data.length : Int) ≤ 1000 := by omega
  clear h hd hF hFl hda
  go_enter Tryz.func44, Tryz.ntmps44
  go_wp2_with fail
  go_quiet (fail)
  have Q1 : Hid (Qt w (w.drewN nq)) := (Qt.refl w).drewN nq
  generalize w.drewN nq = w1 at *
  clear b0 b1 b2 d1 d2
  have hz : w1.heap.size = w.heap.size := by rw [Q1.out.heap]
  have HZ := Lib.hid hz; clear hz
  have P0 := Lib.hid (px_start (H.out.below Q1.out.bel) HF.out (by rw [HZ.out]; exact hbase) dl)
  have W2 := Lib.hid (write2_any _ base _ _ _ dl _ [] P0.out.xm (data.length : Int) (by omega) (by omega) (by simp) (by rw [World.size_alloc, World.size_alloc, HZ.out]; omega))
  go_wp2_with fail
  refine W2.out.mono ?_
  rintro e w2 ⟨rfl, rv2, g1, g2, g3⟩
  have P2 := Lib.hid (P0.out.bytes g1 g2 g3)
  clear g1 g2 g3 W2 P0
  have hz2 := P2.out.u.size
  have W3 := Lib.hid (write3_any _ base _ _ _ dl _ _ P2.out.xm (st.length : Int) (by omega) (by omega) (by simp [numB]) (by rw [HZ.out] at hz2; omega))
  go_wp2_with fail
  refine W3.out.mono ?_
  rintro e w3 ⟨rfl, rv3, g1, g2, g3⟩
  have P3 := Lib.hid (P2.out.bytes g1 g2 g3)
  clear g1 g2 g3 W3 P2 hz2
  obtain ⟨L, hL⟩ : ∃ L, [] ++ numB (data.length : Int) 2 ++ numB (st.length : Int) 3 = L := ⟨_, rfl⟩
  have hLl : L.length ≤ 5 := by rw [← hL]; simp [numB]
  rw [hL] at P3
  have HL := Lib.hid hL
  obtain ⟨ra, rc, rfl⟩ := P3.out.xm.hr.shape
  have SD : Hid (Sl (Value.int .u8) w3.drew da data) := ((HD.out.qt Q1.out).upd P3.out.u fun _ hk => HDA.out _ hk rfl).qt (Qt.refl _).drew
  obtain ⟨i0, hi, hz0, hz1, hz2⟩ := info_parts Tryz.infoByte
  have HI := Lib.hid hi; have HZ0 := Lib.hid hz0; have HZ1 := Lib.hid hz1; have HZ2 := Lib.hid hz2
  obtain ⟨i1, hi, hz0, hz1, hz2⟩ := info_parts Tryz.infoItP
  have JI := Lib.hid hi; have JZ0 := Lib.hid hz0; have JZ1 := Lib.hid hz1; have JZ2 := Lib.hid hz2
  clear hi hz0 hz1 hz2 hL
  have hb3 : base ≤ w3.heap.size := by have := P3.out.u.size; have := P3.out.hB; omega
  have e3 := P3.out.xm.hx.cell (i := 0) rfl
  have e4 := P3.out.xm.hi.cell (i := 2) rfl
  go_upto_region 12 with (fail)
  go_cut [] (fun w => PxAny w1 base b room F its (w1.heap.size + 1) w1.heap.size st.length dl (L ++ data) (cnts st) its st w)
  case first =>
    go_region_law (first | (refine step_append_vw (by rfl) _ _ 22 (by rfl) base 5 i0 _ 1 Tryz.underlying22 HI.out HZ0.out HZ1.out HZ2.out rfl (Value.int .u8) (fun _ => rfl) (.slice ra L.length rc) L (by rfl) (P3.out.xm.hr.upd (S := fun _ => False) (w' := w3.drew) (Upd.of_below (Qt.refl _).drew.bel) (fun _ _ => id)) da dc data (by rfl) SD.out (by unfold maxLen; omega) (by omega) (by simp; omega) ?_; intro v' w5 g1 g2 g3; obtain ⟨a', m', c', rfl⟩ := g1.shape3; have X := Lib.hid (P3.out.xm.app (w0 := w3) (Qt.refl w3).drew.bel g1 g2 g3); clear g1 g2 g3 e3 e4; have y1 := X.out.hx.cell (i := 0) rfl; have y2 := X.out.hi.cell (i := 2) rfl; have y3 := X.out.hi.free 2))
    all_goals
      have ST := Lib.hid X.out.store
      have OW := Lib.hid X.out.ow
      clear X y1 y2 y3
      go_wp2_with fail
      go_meet
      have FF : PxAny w1 base b room F its (w1.heap.size + 1) w1.heap.size st.length dl (L ++ data) (cnts st) its st (w5.setCell ⟨w1.heap.size, 2, none⟩ (.slice a' m' c')) := ⟨_, _, _, P3.out.bytes ST.out.1 ST.out.2 OW.out⟩
      first | exact FF | exact FF.drew | exact FF.drew.drew
  case rest =>
    clear e3 e4 P3 SD hb3
    obtain ⟨rv, qv, sv, hP⟩ := hcut
    have P4 := Lib.hid hP; clear hP
    obtain ⟨qa, qc, rfl⟩ := P4.out.hq.shape
    obtain ⟨new, hnew⟩ : ∃ new : It, new = ⟨st.length, dl, L ++ data, w1.heap.size, rv⟩ := ⟨_, rfl⟩
    have NEW := Lib.hid hnew; clear hnew
    have hb4 : base ≤ wc.heap.size := by have := P4.out.u.size; have := P4.out.hB; omega
    have PA := Lib.hid (P4.out.below ((Below.refl _ wc).alloc (Nat.le_refl _) (.cells #[.pointer (some ⟨w1.heap.size, 0, none⟩)] 111)))
    have e1 := P4.out.hb.cell (i := 1) rfl
    have e3 := P4.out.xm.hx.cell (i := 0) rfl
    have e1' := PA.out.hb.cell (i := 1) rfl
    have e3' := PA.out.xm.hx.cell (i := 0) rfl
    have BW : Hid (Below wc.heap.size wc (wc.alloc (.cells #[.pointer (some ⟨w1.heap.size, 0, none⟩)] 111)).drew) := ((Below.refl _ wc).alloc (Nat.le_refl _) _).trans ((Qt.refl _).drew.bel.mono (by simp))
    have VQ : Hid (Vw It.ptr 111 (wc.alloc (.cells #[.pointer (some ⟨w1.heap.size, 0, none⟩)] 111)).drew base (.slice qa its.length qc) its) := P4.out.hq.below BW.out
    have SN : Hid (Sl It.ptr (wc.alloc (.cells #[.pointer (some ⟨w1.heap.size, 0, none⟩)] 111)).drew (some ⟨wc.heap.size, 0, none⟩) [new]) := one_slp (w := wc) rfl (by rw [NEW.out]; rfl)
    go_upto_region 13 with (fail)
    go_cut [] (fun w => ∃ rv' qv sv, rv' = rv ∧ PX w1 base b room F its (w1.heap.size + 1) w1.heap.size st.length dl rv (L ++ data) qv sv (cnts st) (its ++ [new]) st w)
    case first =>
      go_region_law (first | (refine step_append_vw (by rfl) _ _ 79 (by rfl) base 111 i1 _ 8 Tryz.underlying79 JI.out JZ0.out JZ1.out JZ2.out rfl It.ptr (fun _ => rfl) (.slice qa its.length qc) its (by rfl) VQ.out (some ⟨wc.heap.size, 0, none⟩) 1 [new] (by rfl) SN.out (by unfold maxLen; simp; omega) (by simp; omega) (by simp; omega) ?_; intro v' w5 g1 g2 g3; obtain ⟨a', m', c', rfl⟩ := g1.shape3; have X := Lib.hid (P4.out.appQ BW.out g1 g2 g3); clear g1 g2 g3 e1 e3 e1' e3'; have y1 := X.out.1.1.cell (i := 1) rfl; have y2 := X.out.1.1.free 1; have y3 := X.out.1.2.cell (i := 0) rfl))
      all_goals
        have FF := X.out.2
        clear X y1 y2 y3
        go_wp2_with fail
        go_meet
        first | exact ⟨_, _, _, rfl, FF⟩ | exact ⟨_, _, _, rfl, FF.below (Qt.refl _).drew.bel⟩ | exact ⟨_, _, _, rfl, FF.below (Qt.refl _).drew.drew.bel⟩
    case rest =>
      clear e1 e3 e1' e3' P4 PA BW VQ SN hb4
      obtain ⟨_, qv2, sv2, rfl, hP⟩ := hcut
      have P5 := Lib.hid hP; clear hP
      obtain ⟨sa, sc, rfl⟩ := P5.out.hs.shape
      have hb5 : base ≤ wc.heap.size := by have := P5.out.u.size; have := P5.out.hB; omega
      have BW : Hid (Below wc.heap.size wc (wc.alloc (.cells #[.int .u8 1] 5))) := (Below.refl _ wc).alloc (Nat.le_refl _) _
      have PA := Lib.hid (P5.out.below BW.out)
      have e1 := P5.out.hb.cell (i := 2) rfl
      have e1' := PA.out.hb.cell (i := 2) rfl
      have c3 := cnt_le st 1
      go_upto_region 15 with (at_builtin; refine wpList_append_vw rfl _ _ 22 rfl base 5 i0 _ 1 Tryz.underlying22 HI.out HZ0.out HZ1.out HZ2.out rfl stV (fun _ => rfl) (.slice sa st.length sc) st rfl (P5.out.hs.below BW.out) (some ⟨wc.heap.size, 0, none⟩) 1 [1] rfl (one_gen rfl) ?c1 ?c2 ?c3 ?_)
      case c1 => unfold maxLen; simp; omega
      case c2 => simp; omega
      case c3 => simp; omega
      intro v' w5 g1 g2 g3
      obtain ⟨a', m', c', rfl⟩ := g1.shape3
      have X := Lib.hid (P5.out.appS BW.out g1 g2 (by rw [World.size_alloc]; exact g3))
      have y1 := X.out.1.cell (i := 2) rfl
      have y2 := X.out.1.free 2
      clear g1 g2 g3 e1 e1' PA BW P5 hb5
      go_upto_region 15 with (fail)
      have P6 := X.out.2
      obtain ⟨w6, hw6⟩ : ∃ w6, w5.setCell ⟨b, 2, none⟩ (.slice a' m' c') = w6 := ⟨_, rfl⟩
      rw [hw6] at P6 ⊢
      rw [NEW.out] at P6
      have HP := Lib.hid P6
      have z1 := P6.hb.cell (i := 4) rfl
      have z2 := P6.hb.free 4
      clear hw6 X y1 y2 P6
      have FIN := Lib.hid HP.out.fin
      generalize cnt st 1 = n1 at *
      go_region
      go_wp2_with fail
      go_ret2
      refine ⟨rfl, _, _, _, ?_, FIN.out.1.below (Qt.refl _).drew.bel, ?_, ?_⟩
      · have e := HL.out
        rw [List.nil_append] at e
        rw [e]
        rfl
      · intro k hk
        rw [← HZ.out]
        exact FIN.out.2.1 k hk
      · exact (Upd.then (Upd.of_below Q1.out.bel) FIN.out.2.2 (fun _ _ h => h)).drew
end Go.Proofs.YtkaaoomliepijaaGreat
