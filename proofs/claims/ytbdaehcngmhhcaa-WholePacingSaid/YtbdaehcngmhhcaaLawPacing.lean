/-
  How a net that came in is opened: slices of rational numbers and of flows.
  How a net that came in is opened.
  The law WholePacing at every net and number of ticks.
-/
import Derived.Test.YtbdaehcngmhhcaaNet
import Derived.Deep.Strs
import Derived.Test.YtbdaehcngmhhcaaRows
import Derived.OpenShut
import Derived.Test.YtbdaehcngmhhcaaWh
namespace Go.Proofs.Ytbdaehcngmhhcaa
open Go.RowKit Go.ChangeShapes Go.WideShapes Go.ChangeAt
set_option linter.unusedVariables false

section
variable {α : Type} {H : Type} {enc : TypeId × Value → H} {P : Program} {w : World} {held : Bool}
theorem recs_open {α : Type} [Inhabited α] {f : α → List Value} {s : Nat} (Q : α → Prop) {t e : TypeId} {fuel : Nat} {v : Value} {x : DataW H × List MemPlace} (ht : P.underlying t = some (.slice e)) (hc : P.cellsOf e = s) (hs : 0 < s) (hfl : ∀ y, (f y).length = s)
    (hf : ∀ n cs r, cs.length = s → DataW.trod enc P w 0 (fun _ => true) held n e cs = some r → ∃ y, cs = f y ∧ Q y)
    (h : DataW.trod enc P w 0 (fun _ => true) held fuel t [v] = some x) :
    ∃ a c xs, v = .slice a xs.length c ∧ SlC f s w a xs ∧ (∀ y ∈ xs, Q y) ∧ xs.length ≤ c ∧ c ≤ maxLen := by
  rcases Deep.open_slice ht h with ⟨e1, _⟩ | ⟨a, len, cap, m, n, D, Pl, e1, hb, hl, hm, hmm, _, hx⟩
  · refine ⟨none, 0, [], by simpa using e1, ?_, by simp, by simp, by unfold maxLen; omega⟩
    intro j x hj
    simp at hj
  · simp only [if_true] at hmm
    subst hmm
    rw [hc] at hx
    obtain ⟨B, hB⟩ := Deep.choose_lt (α := α) (n := m) (p := fun i y => (∀ k v, (f y)[k]? = some v → w.cell? ((a.add (i * s)).add k) = some v) ∧ Q y) (fun i hi => by
      obtain ⟨cs', g1, g2⟩ := hx i hi
      obtain ⟨_, hlen, hcell⟩ := World.cells?_some g1
      obtain ⟨y, hy, hq⟩ := hf _ _ _ hlen g2
      refine ⟨y, fun k v hk => ?_, hq⟩
      rw [← hy] at hk
      rw [hcell k (by rw [← hlen]; exact get_lt hk)]
      exact hk)
    refine ⟨some a, m, (List.range len).map B, by simpa using e1, ?_, ?_, by simpa using hl, hm⟩
    · intro j y hj k v hk
      simp only [List.getElem?_map] at hj
      obtain ⟨i, hi, rfl⟩ := Option.map_eq_some_iff.1 hj
      have hlt : j < len := by
        rcases Nat.lt_or_ge j len with h | h
        · exact h
        · rw [List.getElem?_eq_none (by simpa using h)] at hi; simp at hi
      rw [List.getElem?_range hlt] at hi
      obtain rfl := Option.some.inj hi
      have b0 := (hB j (by omega)).1 k v hk
      have h00 : (f (B 0))[0]? = some ((f (B 0))[0]'(by rw [hfl]; exact hs)) := List.getElem?_eq_getElem _
      have h0 := (hB 0 (by omega)).1 0 _ h00
      have hsp : a.spot.isNone = true := by
        have : a.spot = none := by simpa [Addr.add] using World.cell?_spot h0
        simp [this]
      have ea : ∀ j, a.add j = adr (some a) j := fun j => add_eq a j hsp
      rw [ea, adr_add] at b0
      exact ⟨hsp, b0⟩
    · intro y hy
      obtain ⟨i, hi, rfl⟩ := List.mem_map.1 hy
      exact (hB i (by have := List.mem_range.1 hi; omega)).2
theorem i64_of {n : Int} (h : (Lit.int .i64 n).wf = true) : I64 n := by
  unfold I64
  simpa [Lit.wf, IntKind.min, IntKind.max, IntKind.signed, IntKind.bits] using h
theorem rat_open {e : TypeId} {f0 f1 : Field} {n : Nat} {cs : List Value} {r : DataW H × List MemPlace} (hs : P.underlying e = some (.struct #[f0, f1])) (o0 : f0.offset = 0) (o1 : f1.offset = 1)
    (h1 : P.underlying f0.type = some (.int .i64)) (h2 : P.underlying f1.type = some (.int .i64)) (c1 : P.cellsOf f0.type = 1) (c2 : P.cellsOf f1.type = 1) (hl : cs.length = 2)
    (h : DataW.trod enc P w 0 (fun _ => true) held n e cs = some r) : ∃ y, cs = rC y ∧ I64 y.n ∧ I64 y.d := by
  obtain ⟨xs, n', _, _, _, hlen, hf⟩ := DataW.trod_struct hs h
  have k0 := hf 0 f0 rfl
  have k1 := hf 1 f1 rfl
  rw [o0, c1] at k0
  rw [o1, c2] at k1
  match cs, hl, xs, hlen with
  | [u0, u1], _, [y0, y1], _ =>
    obtain ⟨m0, q0, _, w0⟩ := DataW.trod_int h1 k0
    obtain ⟨m1, q1, _, w1⟩ := DataW.trod_int h2 k1
    simp at q0 q1
    subst q0 q1
    exact ⟨⟨m0, m1⟩, rfl, i64_of w0, i64_of w1⟩
theorem SlC.one {f : α → Value} {w : World} {a : Option Addr} {xs : List α} (h : SlC (fun y => [f y]) 1 w a xs) : Sl f w a xs := fun j x hj => by
  have := h j x hj 0 (f x) rfl
  rwa [Nat.mul_one, Nat.add_zero] at this
def FlOk (w : World) (f : Fw) : Prop := SlI w f.la f.lk ∧ f.lk.length ≤ f.lc ∧ f.lc ≤ maxLen ∧ I64 f.dm.n ∧ I64 f.dm.d
theorem flow_open {e q : TypeId} {f0 f1 f2 g0 g1 : Field} {n : Nat} {cs : List Value} {r : DataW H × List MemPlace} (hs : P.underlying e = some (.struct #[f0, f1, f2])) (o0 : f0.offset = 0) (o1 : f1.offset = 1) (o2 : f2.offset = 2)
    (h0 : P.underlying f0.type = some (.slice q)) (hq : P.underlying q = some (.int .i64)) (cq : P.cellsOf q = 1) (h1 : P.underlying f1.type = some .bool) (c0 : P.cellsOf f0.type = 1) (c1 : P.cellsOf f1.type = 1) (c2 : P.cellsOf f2.type = 2)
    (hr : P.underlying f2.type = some (.struct #[g0, g1])) (p0 : g0.offset = 0) (p1 : g1.offset = 1) (k1 : P.underlying g0.type = some (.int .i64)) (k2 : P.underlying g1.type = some (.int .i64)) (d1 : P.cellsOf g0.type = 1) (d2 : P.cellsOf g1.type = 1) (hl : cs.length = 4)
    (h : DataW.trod enc P w 0 (fun _ => true) held n e cs = some r) : ∃ y, cs = fC y ∧ FlOk w y := by
  obtain ⟨y0, y1, y2, n', _, _, j0, j1, j2⟩ := Deep.trod_struct3 hs h
  rw [o0, c0] at j0
  rw [o1, c1] at j1
  rw [o2, c2] at j2
  match cs, hl with
  | [u0, u1, u2, u3], _ =>
    obtain ⟨a, c, xs, e0, hS, _, hcl, hcm⟩ := recs_open (α := Int) (f := fun y => [Value.int .i64 y]) (s := 1) (fun _ => True) h0 cq (by omega) (fun _ => rfl) (fun n cs r hl hh => by
      obtain ⟨m0, q0, _, w0⟩ := DataW.trod_int hq hh
      exact ⟨m0, q0, trivial⟩) j0
    obtain ⟨b, e1, _⟩ := DataW.trod_bool h1 j1
    obtain ⟨y, e2, w2, w3⟩ := rat_open hr p0 p1 k1 k2 d1 d2 rfl j2
    simp at e1
    have e2' : [u2, u3] = rC y := e2
    unfold rC at e2'
    simp at e2'
    obtain ⟨e3, e4⟩ := e2'
    subst e0 e1 e3 e4
    exact ⟨⟨a, c, xs, b, y⟩, rfl, hS.one, hcl, hcm, w2, w3⟩
end
end Go.Proofs.Ytbdaehcngmhhcaa
namespace Go.Proofs.Ytbdaehcngmhhcaa
open Go.RowKit Go.ChangeShapes Go.WideShapes Go.ChangeAt
set_option linter.unusedVariables false

set_option maxRecDepth 100000 in
theorem net_open {H : Type} {enc : TypeId × Value → H} {w : World} {held : Bool} {v : Value} {d : DataW H} {ps : List MemPlace} {base : Nat}
    (h : DataW.Trod enc Try.prog w 0 (fun _ => true) held 25 v d ps) (hv0 : Value.okWide Try.prog w .any base 25 v) :
    ∃ (ca fa : Option Addr) (cc fc : Nat) (caps : List Rq) (fls : List Fw), v = netV ca fa cc fc caps fls ∧ NetAt w ca fa caps fls ∧ (∀ c ∈ caps, I64 (Rq.n c) ∧ I64 c.d) ∧ (∀ f ∈ fls, I64 (Fw.dm f).n ∧ I64 f.dm.d) ∧ (∀ f ∈ fls, (Fw.lk f).length ≤ maxLen) ∧ caps.length ≤ maxLen ∧ fls.length ≤ maxLen := by
  obtain ⟨fuel, hf⟩ := h
  obtain ⟨cs, rfl, hcs⟩ := okWide_struct Try.underlying25 hv0
  have q0 : Try.prog.cellsOf 25 = 2 := by kernel_rfl
  have q1 : Try.prog.cellsOf 22 = 1 := by kernel_rfl
  have q2 : Try.prog.cellsOf 23 = 1 := by kernel_rfl
  have q3 : Try.prog.cellsOf 29 = 2 := by kernel_rfl
  have q4 : Try.prog.cellsOf 35 = 4 := by kernel_rfl
  have q5 : Try.prog.cellsOf 3 = 1 := by kernel_rfl
  have q6 : Try.prog.cellsOf 4 = 1 := by kernel_rfl
  have q7 : Try.prog.cellsOf 33 = 1 := by kernel_rfl
  rw [q0] at hcs
  obtain ⟨u0, u1, rfl⟩ : ∃ u0 u1, cs = #[u0, u1] := by
    obtain ⟨l⟩ := cs
    match l, hcs with
    | [u0, u1], _ => exact ⟨u0, u1, rfl⟩
  obtain ⟨xs, n', _, _, _, hl2, hf2⟩ := DataW.trod_struct Try.underlying25 hf
  match xs, hl2 with
  | [y0, y1], _ =>
    have k0 : DataW.trod enc Try.prog w 0 (fun _ => true) held n' 22 [u0] = some y0 := by
      have := hf2 0 _ rfl
      change DataW.trod enc Try.prog w 0 (fun _ => true) held n' 22 (([u0, u1].drop 0).take (Try.prog.cellsOf 22)) = some y0 at this
      rw [q1] at this
      exact this
    have k1 : DataW.trod enc Try.prog w 0 (fun _ => true) held n' 23 [u1] = some y1 := by
      have := hf2 1 _ rfl
      change DataW.trod enc Try.prog w 0 (fun _ => true) held n' 23 (([u0, u1].drop 1).take (Try.prog.cellsOf 23)) = some y1 at this
      rw [q2] at this
      exact this
    obtain ⟨ca, cc, caps, rfl, hC, hCq, hCl, hCm⟩ := recs_open (α := Rq) (f := rC) (s := 2) (fun y => I64 y.n ∧ I64 y.d) Try.underlying22 q3 (by omega) rC_len (fun n cs r hl hh => rat_open Try.underlying29 rfl rfl Try.underlying3 Try.underlying3 q5 q5 hl hh) k0
    obtain ⟨fa, fc, fls, rfl, hF, hFq, hFl, hFm⟩ := recs_open (α := Fw) (f := fC) (s := 4) (FlOk w) Try.underlying23 q4 (by omega) fC_len (fun n cs r hl hh => flow_open Try.underlying35 rfl rfl rfl Try.underlying33 Try.underlying3 q5 Try.underlying4 q7 q6 q3 Try.underlying29 rfl rfl Try.underlying3 Try.underlying3 q5 q5 hl hh) k1
    exact ⟨ca, fa, cc, fc, caps, fls, rfl, ⟨hC, hF, fun f hf => (hFq f hf).1, fun f hf => (hFq f hf).2.1⟩, hCq, fun f hf => (hFq f hf).2.2.2, fun f hf => Nat.le_trans (hFq f hf).2.1 (hFq f hf).2.2.1, Nat.le_trans hCl hCm, Nat.le_trans hFl hFm⟩
end Go.Proofs.Ytbdaehcngmhhcaa
namespace Go.Proofs.Ytbdaehcngmhhcaa
open Go.RowKit
set_option linter.unusedVariables false

set_option maxRecDepth 100000 in
set_option maxHeartbeats 1000000 in
theorem whole_false (w : World) (ca fa : Option Addr) (cc fc : Nat) (caps : List Rq) (fls : List Fw) (tk : Nat)
    (MD : ∀ w', Below w.heap.size w w' → Calls Try.prog 5 #[netV ca fa cc fc caps fls] w' fun e w2 => e = .returned (.bool false) ∧ Below w'.heap.size w' w2) :
    Calls Try.prog 3 #[netV ca fa cc fc caps fls, .int .u8 tk] w fun e w' => e = .returned (.bool true) ∧ Below w.heap.size w w' := by
  have AW := Lib.hid awake_any
  unfold netV at MD ⊢
  replace MD := Lib.hid MD
  generalize caps.length = n at *
  generalize fls.length = m at *
  go_enter Try.func3, Try.ntmps3
  go_wp2_with fail
  refine (AW.out _).mono ?_
  rintro e w1 ⟨rfl, hb⟩
  have B1 := Lib.hid (below_then (alloc_belQ w (.cells #[.slice ca n cc, .slice fa m fc] 25)) hb (by simp))
  have X1 := (Blk.new w 25 [.slice ca n cc, .slice fa m fc]).bel hb
  have x0 := X1.cell (i := 0) rfl
  have x1 := X1.cell (i := 1) rfl
  have xz := X1.lt
  clear hb X1
  go_wp2_with fail
  refine (MD.out _ B1.out).mono ?_
  rintro e w2 ⟨rfl, hb⟩
  have B2 := Lib.hid (below_then B1.out hb B1.out.size)
  clear hb
  go_wp2_with fail
  go_ret
  exact ⟨rfl, B2.out⟩
theorem wholePacing_walk (w : World) (ca fa : Option Addr) (cc fc : Nat) (caps : List Rq) (fls : List Fw) (h : NetAt w ca fa caps fls) (hc : ∀ c ∈ caps, I64 (Rq.n c) ∧ I64 c.d) (hf : ∀ f ∈ fls, I64 (Fw.dm f).n ∧ I64 f.dm.d) (hk : ∀ f ∈ fls, (Fw.lk f).length ≤ maxLen)
    (hcl : caps.length ≤ maxLen) (hfl : fls.length ≤ maxLen) (t : Int) (ht : (Lit.int .u8 t).wf = true) :
    Calls Try.prog 3 #[netV ca fa cc fc caps fls, .int .u8 t] w fun e w' => e = .returned (.bool true) ∧ Below w.heap.size w w' := by
  have ht2 : 0 ≤ t ∧ t ≤ 255 := by simpa [Lit.wf, IntKind.min, IntKind.max, IntKind.signed, IntKind.bits] using ht
  obtain ⟨tk, rfl⟩ : ∃ tk : Nat, t = tk := ⟨t.toNat, by omega⟩
  have MD := fun w' (q : Below w.heap.size w w') => modest_any w' ca fa cc fc caps fls (h.below q) hcl hfl hc hf hk
  cases hm : modB caps fls with
  | false => rw [hm] at MD; exact whole_false w ca fa cc fc caps fls tk MD
  | true => rw [hm] at MD; exact whole_true w ca fa cc fc caps fls h (Md12.of hm) hk tk (by omega) MD
end Go.Proofs.Ytbdaehcngmhhcaa
