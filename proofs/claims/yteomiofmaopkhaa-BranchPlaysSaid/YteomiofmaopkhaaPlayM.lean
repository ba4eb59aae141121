/-
  The two forks side by side: memory, and the contracts of the methods on it.
-/
import Derived.Test.YteomiofmaopkhaaRefS
namespace Go.Proofs.Yteomiofmaopkhaa
open Go.RowKit
set_option linter.unusedVariables false

def putC (o room : Int) (fs : List Fr) (nid : Int) (outs : List Int) : Int × List Fr :=
  match putMask o outs 0 with
  | none => (1, fs)
  | some m => if fs.any (fun y => y.id == nid) = true then (8, fs) else if room ≤ fs.length then (5, fs) else (0, fs ++ [⟨nid, m⟩])
def aPut (o room : Int) (ys : List AF) (nid : Int) (outs : List Int) : Int × List AF :=
  if wrongL o [] outs = true then (1, ys) else if ys.any (fun y => y.1 == nid) = true then (8, ys) else if (ys.length : Int) = room then (5, ys) else (0, ys ++ [(nid, outs)])
/-- What holds between the two states, and the bounds. -/
structure PlP (o : Nat) (room : Int) (n : Nat) (fs : List Fr) (freed : Int) (ys : List AF) : Prop where
  co : CoL fs ys
  fr : (fs.length : Int) ≤ room
  f0 : 0 ≤ freed
  cnt : freed + fs.length ≤ n
  ln : ∀ y ∈ ys, y.2.length ≤ 12
  rng : ∀ y ∈ ys, ∀ z ∈ y.2, 0 ≤ z ∧ z < (o : Int)
theorem CoL.b8 : ∀ {fs : List Fr} {ys : List AF}, CoL fs ys → ∀ x ∈ fs, x.bits < 256
  | [], [], _, x, hx => by simp at hx
  | a :: xs, b :: ys, h, x, hx => by
    rcases List.mem_cons.1 hx with rfl | hx
    · exact h.1.lt
    · exact CoL.b8 h.2 x hx
  | [], _ :: _, h, _, _ => h.elim
  | _ :: _, [], h, _, _ => h.elim
theorem put_same {o : Nat} {room : Int} {n : Nat} {fs : List Fr} {freed : Int} {ys : List AF} (h : PlP o room n fs freed ys) (ho : o ≤ 8) (nid : Int) (outs : List Int) : (putC o room fs nid outs).1 = (aPut o room ys nid outs).1 := by
  unfold putC aPut
  have hw := putMask_wrong (o := o) outs [] 0 (fun j => by unfold hasB; simp)
  have hl := h.co.len
  have hf := h.fr
  rw [← h.co.any, ← hl]
  cases e : putMask (o : Int) outs 0 with
  | none => rw [e] at hw; simp at hw; simp [← hw]
  | some m =>
    rw [e] at hw
    simp at hw
    rw [hw]
    dsimp only
    rw [if_neg (show ¬ false = true by decide)]
    split
    · rfl
    · by_cases hr : (fs.length : Int) = room
      · rw [if_pos (by omega), if_pos hr]
      · rw [if_neg (by omega), if_neg hr]
theorem PlP.put {o : Nat} {room : Int} {n : Nat} {fs : List Fr} {freed : Int} {ys : List AF} (h : PlP o room n fs freed ys) (ho : o ≤ 8) (nid : Int) (outs : List Int) (hl : outs.length ≤ 12) : PlP o room (n + 1) (putC o room fs nid outs).2 freed (aPut o room ys nid outs).2 := by
  have hw := putMask_wrong (o := o) outs [] 0 (fun j => by unfold hasB; simp)
  have hlen := h.co.len
  have h1 : PlP o room (n + 1) fs freed ys := ⟨h.co, h.fr, h.f0, by have := h.cnt; omega, h.ln, h.rng⟩
  have hf := h.fr
  unfold putC aPut
  rw [← h.co.any, ← hlen]
  cases e : putMask (o : Int) outs 0 with
  | none => rw [e] at hw; simp at hw; simp [← hw]; exact h1
  | some m =>
    rw [e] at hw
    simp at hw
    rw [hw]
    dsimp only
    rw [if_neg (show ¬ false = true by decide)]
    split
    · exact h1
    · by_cases hr : (fs.length : Int) = room
      · rw [if_pos (by omega), if_pos hr]; exact h1
      · rw [if_neg (by omega), if_neg hr]
        have ho2 := putMask_out _ _ _ e
        refine ⟨h.co.app (Co.put (by omega) e), by simp; omega, h.f0, by have := h.cnt; simp; omega, fun y hy => ?_, fun y hy => ?_⟩
        · rcases List.mem_append.1 hy with hy | hy
          · exact h.ln y hy
          · rw [List.mem_singleton.1 hy]; exact hl
        · rcases List.mem_append.1 hy with hy | hy
          · exact h.rng y hy
          · rw [List.mem_singleton.1 hy]; exact ho2
theorem aTake_mem {k : Int} : ∀ {fs : List AF} {p : Int × List AF}, aTake k fs = some p → ∀ y ∈ p.2, ∃ x ∈ fs, y.2.length ≤ x.2.length ∧ ∀ z ∈ y.2, z ∈ x.2
  | [], p, h => by simp [aTake] at h
  | a :: l, p, h => by
    unfold aTake at h
    split at h
    · simp at h
      subst h
      intro y hy
      rcases List.mem_cons.1 hy with rfl | hy
      · exact ⟨a, List.mem_cons_self, List.length_filter_le _ _, fun z hz => (List.mem_filter.1 hz).1⟩
      · exact ⟨y, List.mem_cons_of_mem _ hy, Nat.le_refl _, fun _ h => h⟩
    · cases e : aTake k l with
      | none => rw [e] at h; simp at h
      | some q =>
        rw [e] at h
        simp at h
        subst h
        intro y hy
        rcases List.mem_cons.1 hy with rfl | hy
        · exact ⟨y, List.mem_cons_self, Nat.le_refl _, fun _ h => h⟩
        · obtain ⟨x, hx, h1⟩ := aTake_mem e y hy
          exact ⟨x, List.mem_cons_of_mem _ hx, h1⟩
theorem aStepK_mem (k : Int) (rd : Bool) (fs : List AF) : ∀ y ∈ (aStepK k rd fs).2, ∃ x ∈ fs, y.2.length ≤ x.2.length ∧ ∀ z ∈ y.2, z ∈ x.2 := by
  unfold aStepK
  split
  · cases e : aTake k fs with
    | none => exact fun y hy => ⟨y, hy, Nat.le_refl _, fun _ h => h⟩
    | some p => exact aTake_mem e
  · exact fun y hy => ⟨y, hy, Nat.le_refl _, fun _ h => h⟩
theorem aStepAll_mem : ∀ (rs : List Bool) (k : Nat) (fs : List AF), ∀ y ∈ (aStepAll rs k fs).2, ∃ x ∈ fs, y.2.length ≤ x.2.length ∧ ∀ z ∈ y.2, z ∈ x.2
  | [], _, fs, y, hy => ⟨y, hy, Nat.le_refl _, fun _ h => h⟩
  | r :: rs, k, fs, y, hy => by
    obtain ⟨x, hx, h1, h2⟩ := aStepAll_mem rs (k + 1) (aStepK k r fs).2 y hy
    obtain ⟨z, hz, h3, h4⟩ := aStepK_mem k r fs x hx
    exact ⟨z, hz, Nat.le_trans h1 h3, fun u hu => h4 u (h2 u hu)⟩
theorem aStepAll_len : ∀ (rs : List Bool) (k : Nat) (fs : List AF), (aStepAll rs k fs).2.length = fs.length
  | [], _, _ => rfl
  | r :: rs, k, fs => (aStepAll_len rs (k + 1) (aStepK k r fs).2).trans (aStepK_len _ _ _)
theorem PlP.step {o : Nat} {room : Int} {n : Nat} {fs : List Fr} {freed : Int} {ys : List AF} (h : PlP o room n fs freed ys) (rd : List Bool) (hr : rd.length ≤ 8) :
    PlP o room (n + 1) (keepF (stepAll rd 0 fs).2) (freed + ((fs.length : Int) - (keepF (stepAll rd 0 fs).2).length)) (aKeep (aStepAll rd 0 ys).2) := by
  have hc := (CoL.stepAll rd 0 (by omega) h.co).2
  have h1 := (stepAll_len rd 0 fs).1
  have h2 := keepF_len_le (stepAll rd 0 fs).2
  have hf := h.fr; have hf0 := h.f0; have hcn := h.cnt
  refine ⟨hc.keep, by omega, by omega, by omega, fun y hy => ?_, fun y hy z hz => ?_⟩
  · obtain ⟨x, hx, h3, _⟩ := aStepAll_mem rd 0 ys y (List.mem_filter.1 hy).1
    have := h.ln x hx
    omega
  · obtain ⟨x, hx, _, h4⟩ := aStepAll_mem rd 0 ys y (List.mem_filter.1 hy).1
    exact h.rng x hx z (h4 z hz)

/-- The memory: the two forks, and the operation at hand. -/
structure PL (w0 : World) (b rb o : Nat) (room : Int) (fs : List Fr) (freed : Int) (ys : List AF) (fr2 : Int) (bx : Nat) (xv : List Value) (w : World) : Prop where
  ex : ∃ v v2 rs, FkAt w w0.heap.size b o room v fs freed ∧ RfAt w w0.heap.size rb o room v2 rs fr2 ∧ rs.map ab = ys
  hx : Blk w bx 28 xv
  bel : Below w0.heap.size w0 w
section
variable {w0 w w' : World} {b rb o : Nat} {room : Int} {fs : List Fr} {freed : Int} {ys : List AF} {fr2 : Int} {bx : Nat} {xv : List Value}
theorem PL.below (h : PL w0 b rb o room fs freed ys fr2 bx xv w) (q : Below w.heap.size w w') : PL w0 b rb o room fs freed ys fr2 bx xv w' := by
  obtain ⟨⟨v, v2, rs, hF, hR, e⟩, hx, hb⟩ := h
  exact ⟨⟨v, v2, rs, hF.below q, hR.below q, e⟩, hx.upd (S := fun _ => False) (Upd.of_below q) id, hb.trans (q.mono hb.size)⟩
theorem PL.qt (h : PL w0 b rb o room fs freed ys fr2 bx xv w) (q : Qt w w') : PL w0 b rb o room fs freed ys fr2 bx xv w' := h.below q.bel
/-- What the branch's methods write is of its own types. -/
theorem fk_ty {base : Nat} {o room : Int} {v : Value} {fs : List Fr} {freed : Int} (h : FkAt w base b o room v fs freed) {g : Nat} (hg : fkS b v g) : tyIn w [59, 62] g := by
  rcases hg with rfl | hg
  · exact ⟨_, _, by simp, h.hb⟩
  · obtain ⟨cs, hb, _⟩ := own_ty h.own hg
    exact ⟨_, cs, by simp, hb⟩
theorem rf_ty {base : Nat} {o room : Int} {v : Value} {rs : List RF} {freed : Int} (h : RfAt w base rb o room v rs freed) {g : Nat} (hg : rfS rb v g) : tyIn w [42, 67] g := by
  rcases hg with rfl | hg
  · exact ⟨_, _, by simp, h.hb⟩
  · obtain ⟨cs, hb, _⟩ := own_ty h.own hg
    exact ⟨_, cs, by simp, hb⟩
theorem ty_apart {ts us : List TypeId} {g : Nat} (h : tyIn w ts g) (h' : tyIn w us g) (hd : ∀ t ∈ ts, ¬ t ∈ us) : False := by
  obtain ⟨T, cs, hT, hb⟩ := h
  obtain ⟨U, ds, hU, hb2⟩ := h'
  have := blk_ty hb hb2
  subst this
  exact hd _ hT hU
theorem PL.fk (h : PL w0 b rb o room fs freed ys fr2 bx xv w) {v : Value} (hF0 : FkAt w w0.heap.size b o room v fs freed) {v' : Value} {fs' : List Fr} {freed' : Int} (u : Upd (fkS b v) w w') (hF : FkAt w' w0.heap.size b o room v' fs' freed') :
    PL w0 b rb o room fs' freed' ys fr2 bx xv w' := by
  obtain ⟨⟨_, v2, rs, _, hR, e⟩, hx, hb⟩ := h
  refine ⟨⟨v', v2, rs, hF, hR.upd u (fun g h1 _ h2 => ty_apart h1 (fk_ty hF0 h2) (by decide)), e⟩, hx.upd u (fun h2 => ty_apart ⟨_, _, List.mem_singleton.2 rfl, hx⟩ (fk_ty hF0 h2) (by decide)), Upd.below hb u hb.size (fun i hi => (hF0.f_lt hi).2)⟩
theorem rf_base {base : Nat} {o room : Int} {v : Value} {rs : List RF} {freed : Int} (h : RfAt w base rb o room v rs freed) {g : Nat} (hg : rfS rb v g) : base ≤ g := by
  rcases hg with rfl | hg
  · exact h.bb
  · exact (own_lt h.own hg).2
theorem PL.rf (h : PL w0 b rb o room fs freed ys fr2 bx xv w) {v2 : Value} {rs : List RF} (hR0 : RfAt w w0.heap.size rb o room v2 rs fr2) {v' : Value} {rs' : List RF} {fr' : Int} (u : Upd (rfS rb v2) w w') (hR : RfAt w' w0.heap.size rb o room v' rs' fr') :
    PL w0 b rb o room fs freed (rs'.map ab) fr' bx xv w' := by
  obtain ⟨⟨v, _, _, hF, _, _⟩, hx, hb⟩ := h
  have hne : ∀ T cs g, Blk w g T cs → T ≠ 42 → T ≠ 67 → ¬ rfS rb v2 g := fun T cs g hbk h1 h2 h3 => by
    obtain ⟨U, ds, hU, hb2⟩ := rf_ty hR0 h3
    have := blk_ty hbk hb2
    subst this
    simp at hU
    rcases hU with e | e
    · exact h1 e
    · exact h2 e
  refine ⟨⟨v, v', rs', hF.upd u (hne _ _ _ hF.hb (by decide) (by decide)) (fun g hg => ?_), hR, rfl⟩, hx.upd u (hne _ _ _ hx (by decide) (by decide)), Upd.below hb u hb.size (fun i hi => rf_base hR0 hi)⟩
  obtain ⟨cs, hb, _⟩ := own_ty hF.own hg
  exact hne _ cs g hb (by decide) (by decide)
def PlBPut (w0 : World) (b rb o : Nat) (room : Int) (fs : List Fr) (freed : Int) (ys : List AF) (fr2 : Int) (bx : Nat) (xv : List Value) (nid : Int) (outs : List Int) (e : Ending) (w' : World) : Prop :=
  e = .returned (.int .i64 (putC o room fs nid outs).1) ∧ PL w0 b rb o room (putC o room fs nid outs).2 freed ys fr2 bx xv w'
theorem pl_bput {n : Nat} (h : PL w0 b rb o room fs freed ys fr2 bx xv w) (hp : PlP o room n fs freed ys) (ho : o ≤ 8) (h64 : room ≤ 64) (nid : Int) (a : Option Addr) (c : Nat) (outs : List Int) (hs : SlI w a outs) (h1 : 1 ≤ outs.length) (h2 : outs.length ≤ 1000) :
    Calls Try.prog 18 #[.pointer (some ⟨b, 0, none⟩), .int .i64 nid, .slice a outs.length c] w (PlBPut w0 b rb o room fs freed ys fr2 bx xv nid outs) := by
  obtain ⟨v, v2, rs, hF, hR, e⟩ := h.ex
  have hfr := hp.fr
  refine (put_any w _ b o room v fs freed nid hF a c outs hs h1 h2 (by omega) (by omega) h64 h.bel.size).mono ?_
  unfold PlBPut putC
  rintro e w' (⟨g1, he, hb⟩ | ⟨m, g1, ⟨g2, he, hb⟩ | ⟨g2, g3, he, hb⟩ | ⟨g2, g3, he, v', hF', hU, _⟩⟩)
  · rw [g1]; exact ⟨he, h.below hb⟩
  · rw [g1]; dsimp only; rw [if_pos g2]; exact ⟨he, h.below hb⟩
  · rw [g1]; dsimp only; rw [if_neg (by rw [g2]; decide), if_pos g3]; exact ⟨he, h.below hb⟩
  · rw [g1]; dsimp only; rw [if_neg (by rw [g2]; decide), if_neg (by omega)]; exact ⟨he, h.fk hF hU hF'⟩
def PlRPut (w0 : World) (b rb o : Nat) (room : Int) (fs : List Fr) (freed : Int) (ys : List AF) (fr2 : Int) (bx : Nat) (xv : List Value) (nid : Int) (outs : List Int) (e : Ending) (w' : World) : Prop :=
  e = .returned (.int .i64 (aPut o room ys nid outs).1) ∧ PL w0 b rb o room fs freed (aPut o room ys nid outs).2 fr2 bx xv w'
theorem pl_rput (h : PL w0 b rb o room fs freed ys fr2 bx xv w) (hl : ys.length ≤ 1000) (nid : Int) (a : Option Addr) (c : Nat) (outs : List Int) (hs : SlI w a outs) (h1 : 1 ≤ outs.length) (h2 : outs.length ≤ 1000) :
    Calls Try.prog 19 #[.pointer (some ⟨rb, 0, none⟩), .int .i64 nid, .slice a outs.length c] w (PlRPut w0 b rb o room fs freed ys fr2 bx xv nid outs) := by
  obtain ⟨v, v2, rs, hF, hR, e⟩ := h.ex
  subst e
  have hany : rs.any (fun y => y.id == nid) = (rs.map ab).any (fun y => y.1 == nid) := by rw [List.any_map]; rfl
  refine (refPut_any w _ rb o room v2 rs fr2 nid hR a c outs hs h2 (by simpa using hl) h.bel.size).mono ?_
  unfold PlRPut aPut
  rintro e w' (⟨g1, he, hq⟩ | ⟨g1, g2, ⟨g3, he, hq⟩ | ⟨g3, g4, he, hq⟩ | ⟨g3, g4, he, v', a', c', hR', hU⟩⟩)
  · rw [if_pos (by rcases g1 with g1 | g1; omega; exact g1)]; exact ⟨he, h.qt hq⟩
  · rw [if_neg (by rw [g2]; decide), ← hany, if_pos g3]; exact ⟨he, h.qt hq⟩
  · rw [if_neg (by rw [g2]; decide), ← hany, if_neg (by rw [g3]; decide), if_pos (by simpa using g4)]; exact ⟨he, h.qt hq⟩
  · rw [if_neg (by rw [g2]; decide), ← hany, if_neg (by rw [g3]; decide), if_neg (by simpa using g4)]
    refine ⟨he, ?_⟩
    have := h.rf hR hU hR'
    rw [List.map_append] at this
    exact this
def PlBStep (w0 : World) (b rb o : Nat) (room : Int) (fs : List Fr) (freed : Int) (ys : List AF) (fr2 : Int) (bx : Nat) (xv : List Value) (rd : List Bool) (w : World) (e : Ending) (w' : World) : Prop :=
  e = .returned (.slice (some ⟨w.heap.size, 0, none⟩) o o) ∧ Blk w' w.heap.size 3 ((stepAll rd 0 fs).1.map (Value.int .i64)) ∧ PL w0 b rb o room (keepF (stepAll rd 0 fs).2) (freed + ((fs.length : Int) - (keepF (stepAll rd 0 fs).2).length)) ys fr2 bx xv w'
theorem pl_bstep {n : Nat} (h : PL w0 b rb o room fs freed ys fr2 bx xv w) (hp : PlP o room n fs freed ys) (ho1 : 1 ≤ o) (ho : o ≤ 8) (h64 : room ≤ 64) (hn : n ≤ 1000) (a : Option Addr) (c : Nat) (rd : List Bool) (hs : SlB w0 a rd) (hr : rd.length = o) :
    Calls Try.prog 20 #[.pointer (some ⟨b, 0, none⟩), .slice a o c] w (PlBStep w0 b rb o room fs freed ys fr2 bx xv rd w) := by
  obtain ⟨v, v2, rs, hF, hR, e⟩ := h.ex
  have hfr := hp.fr; have hcn := hp.cnt
  have hold : (a.getD default).block < w0.heap.size := hs.old (by intro e; rw [e] at hr; simp at hr; omega)
  refine (step_any w _ b o room v fs freed hF a c rd (hs.below h.bel) hr ho ho1 (by omega) hp.co.b8 hp.f0 (by omega) (fun hj => by have := (hF.f_lt hj).2; omega)).mono ?_
  rintro e w' ⟨v', he, hb, hF', hU, _⟩
  exact ⟨he, hb, h.fk hF hU hF'⟩
def PlRStep (w0 : World) (b rb o : Nat) (room : Int) (fs : List Fr) (freed : Int) (ys : List AF) (fr2 : Int) (bx : Nat) (xv : List Value) (rd : List Bool) (w : World) (e : Ending) (w' : World) : Prop :=
  ∃ a c, e = .returned (.slice a (aStepAll rd 0 ys).1.length c) ∧ SlI w' a (aStepAll rd 0 ys).1 ∧ (∀ g cs, Blk w g 3 cs → Blk w' g 3 cs) ∧ PL w0 b rb o room fs freed (aKeep (aStepAll rd 0 ys).2) (fr2 + ((ys.length : Int) - (aKeep (aStepAll rd 0 ys).2).length)) bx xv w'
theorem pl_rstep {n : Nat} {fs0 : List Fr} (h : PL w0 b rb o room fs freed ys fr2 bx xv w) (hp : PlP o room n fs0 fr2 ys) (ho1 : 1 ≤ o) (ho : o ≤ 8) (h64 : room ≤ 64) (hn : n ≤ 1000) (a : Option Addr) (c : Nat) (rd : List Bool) (hs : SlB w0 a rd) (hr : rd.length = o) :
    Calls Try.prog 21 #[.pointer (some ⟨rb, 0, none⟩), .slice a o c] w (PlRStep w0 b rb o room fs freed ys fr2 bx xv rd w) := by
  obtain ⟨v, v2, rs, hF, hR, e⟩ := h.ex
  subst e
  have hfr := hp.fr; have hcn := hp.cnt
  have hlen : fs0.length = rs.length := by simpa using hp.co.len
  have hold : (a.getD default).block < w0.heap.size := hs.old (by intro e; rw [e] at hr; simp at hr; omega)
  refine (refStep_any w _ rb o room v2 rs fr2 hR a c rd (hs.below h.bel) hr ho (by omega) (fun r hr => by have := hp.ln (ab r) (List.mem_map.2 ⟨r, hr, rfl⟩); exact Nat.le_trans this (by omega)) hp.f0 (by omega) h.bel.size (fun hj => by have := rf_base hR hj; omega)).mono ?_
  rintro e w' ⟨vo, v', rs', he, hrw, hR', hk, hU⟩
  obtain ⟨a', c', rfl, hrest⟩ := hrw
  refine ⟨a', c', he, Rw.sl ⟨a', c', rfl, hrest⟩, fun g cs hb => hb.upd hU (fun hs => ?_), ?_⟩
  · obtain ⟨U, ds, hU2, hb2⟩ := rf_ty hR hs
    have := blk_ty hb hb2
    subst this
    exact absurd hU2 (by decide)
  · have h3 := h.rf hR hU hR'
    rw [hk] at h3
    rw [← hk, List.length_map, List.length_map, hk]
    exact h3
end
end Go.Proofs.Yteomiofmaopkhaa
