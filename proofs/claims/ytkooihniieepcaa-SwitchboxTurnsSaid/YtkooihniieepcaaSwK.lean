/-
  switchbox: what Step does to a box, plainly.
-/
import Derived.Test.YtkooihniieepcaaSwJ
namespace Go.Proofs.Ytkooihniieepcaa
open Go.RowKit
set_option linter.unusedVariables false

/-- The box's model, the moves and the frames so far. -/
structure SS where
  M : Md
  mv : List Mv
  fr : List Fr
def popM (M : Md) (p c : Nat) : Md := mdQ M p c (M.q p c).tail (freX (M.gv p c))
def itr {α : Type} (f : α → α) : Nat → α → α
  | 0, s => s
  | n + 1, s => f (itr f n s)
def dOne (p c : Nat) (s : SS) : SS := ⟨popM s.M p c, s.mv ++ [⟨p, c, -1⟩], s.fr ++ [(s.M.q p c).headD default]⟩
def dCls (d : Nat → Nat → Nat) (p n : Nat) (s : SS) : SS := (List.range n).foldl (fun s c => itr (dOne p c) (d p c) s) s
def dPrt (d : Nat → Nat → Nat) (K n : Nat) (s : SS) : SS := (List.range n).foldl (fun s p => dCls d p K s) s
theorem dCls_succ (d : Nat → Nat → Nat) (p n : Nat) (s : SS) : dCls d p (n + 1) s = itr (dOne p n) (d p n) (dCls d p n s) := by
  unfold dCls; rw [List.range_succ, List.foldl_append]; rfl
theorem dPrt_succ (d : Nat → Nat → Nat) (K n : Nat) (s : SS) : dPrt d K (n + 1) s = dCls d n K (dPrt d K n s) := by
  unfold dPrt; rw [List.range_succ, List.foldl_append]; rfl
/-- The class that input i sends to output k: the first from its pointer on that is ready. -/
def clsOf (K : Nat) (M : Md) (o : Nat → Nat → Int) (i k : Nat) : Option Nat := ((List.range K).map fun n => (M.ptr i + n) % K).find? (rdyB M o i k)
def takM (M : Md) (k c : Nat) : Md := { M with tk := upd2 M.tk k c (takX (M.tk k c)) }
def ptrM (M : Md) (i x : Nat) : Md := { M with ptr := Bar.upd M.ptr i x }
def sOne (K i k c : Nat) (s : SS) : SS := ⟨ptrM (takM (popM s.M i c) k c) i ((c + 1) % K), s.mv ++ [⟨i, c, k⟩], s.fr ++ [(s.M.q i c).headD default]⟩
/-- Input i, matched with m (-1: with none). -/
def sIn (K : Nat) (o : Nat → Nat → Int) (m : Int) (i : Nat) (s : SS) : SS :=
  if m < 0 then s else match clsOf K s.M o i m.toNat with | some c => sOne K i m.toNat c s | none => s
def sAll (K : Nat) (o : Nat → Nat → Int) (m : Nat → Int) (n : Nat) (s : SS) : SS := (List.range n).foldl (fun s i => sIn K o (m i) i s) s
theorem sAll_succ (K : Nat) (o : Nat → Nat → Int) (m : Nat → Int) (n : Nat) (s : SS) : sAll K o m (n + 1) s = sIn K o (m n) n (sAll K o m n s) := by
  unfold sAll; rw [List.range_succ, List.foldl_append]; rfl
end Go.Proofs.Ytkooihniieepcaa
