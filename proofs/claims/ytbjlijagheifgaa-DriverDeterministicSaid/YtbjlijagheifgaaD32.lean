/-
  Texts of Ytbjlijagheifgaa, merged.
-/
import Derived.Test.YtbjlijagheifgaaD9
import Derived.Test.YtbjlijagheifgaaD11
set_option linter.unusedSimpArgs false
set_option linter.unusedVariables false
namespace Go.Side
section
open Go Go.Conc Go.ConcN
section
variable {P:Program} {Shun:Loc→Prop} {T:Terr} {g g':Goroutine} {w:World} {Q:Machine→Trace→Prop} {B:Nat}
theorem silent_beside(F:World→World)(hs:g.status= .running)(hg:∀w₁,Rely true T w w₁→stepG P true g w₁= .go g' (F w₁) #[])(hk:∀w₁,Rely true T w w₁→∀{gs:Array Goroutine} {sl:Option (Nat×Nat)} {t:Trace} {q:Nat→Nat},Past Shun B t→Leavers P t gs q→gs[0]?=some g'→Comes P Q (crowd gs (F w₁) sl) t):
  ∀{gs:Array Goroutine} {sl:Option (Nat×Nat)} {t:Trace} {q:Nat→Nat},Past Shun B t→Leavers P t gs q→gs[0]?=some g→Comes P Q (crowd gs w sl) t:=by
 have key:∀(M:Nat) {gs:Array Goroutine} {w₁:World} {sl:Option (Nat×Nat)} {t:Trace} {q:Nat→Nat},sumTo gs.size q=M→Rely true T w w₁→Past Shun B t→Leavers P t gs q→gs[0]?=some g→Comes P Q (crowd gs w₁ sl) t:=by
  intro M
  induction M using Nat.strongRecOn with
  |_ M ihM=>
   intro gs w₁ sl t q hM hr hP hL h0
   subst hM
   have hlt:0<gs.size:=(Array.getElem?_eq_some_iff.1 h0).1
   have haw:∀x∈gs,awake x:=by
    intro x hx
    obtain⟨i,hi,rfl⟩:=Array.mem_iff_getElem.1 hx
    rcases Nat.eq_zero_or_pos i with rfl|hpos
    ·have:gs[0]=g:=by simpa[Array.getElem?_eq_getElem hi] using h0
     rw[this];exact awake_of (.inl hs)
    ·exact awake_of ((hL.old i _ hpos (Array.getElem?_eq_getElem hi)).status.elim .inl fun x=>.inr (.inr x))
   obtain⟨i,x,d,sl',hi,hx,hst⟩:=crowd_pick (P:=P) (w:=w₁) (sl:=sl) haw ⟨0,g,h0,hs⟩
   have hr':=hr.trans (Rely.at true T w₁ d)
   rcases Nat.eq_zero_or_pos i with rfl|hpos
   ·obtain rfl:x=g:=by rw[h0] at hi;exact(Option.some.inj hi).symm
    have hgo:=hg (w₁.at d) hr'
    have hrunT:=runT_crowd_go (P:=P) (sl:=sl') (i:=0) hi (show stepG P (0==0) x (w₁.at d)=_ from hgo)
    have hu:∀op∈MemOp.ofEvents 0 x.frame.fn x.frame.place #[],op.g=0:=fun op hop=>by obtain⟨e,_,rfl⟩:=Conc.mem_ofEvents hop;rfl
    have he:t++MemOp.ofEvents 0 x.frame.fn x.frame.place #[]=t:=by simp[MemOp.ofEvents]
    refine .step (hst.trans hrunT) ?_
    rw[he]
    refine hk (w₁.at d) hr' hP (q:=q) ⟨fun j y hj hy=>?_,fun j hj=>?_⟩ (gs_same _ _ hlt)
    ·have hne:0≠j:=by omega
     rw[Array.getElem?_setIfInBounds_ne hne,Array.getElem?_map] at hy
     obtain⟨z,hz,rfl⟩:=Option.map_eq_some_iff.1 hy
     have hq:=hL.old j z hj hz
     rw[woken_quitsD hq]
     exact hq
    ·exact hL.above j (by simpa using hj)
   ·have hq:=hL.old i x hpos hi
    have hi0:(i==0)=false:=by simp;omega
    have hil:i<gs.size:=(Array.getElem?_eq_some_iff.1 hi).1
    cases hqi:q i with
    |zero=>rw[hqi] at hq;rw[hq.1] at hx;cases hx
    |succ k=>
     rw[hqi] at hq
     rcases hq with⟨hf,_⟩|⟨_,x',es,hm,hstp,hq'⟩
     ·rw[hf] at hx;cases hx
     have hrunT:=runT_crowd_go (P:=P) (sl:=sl') (i:=i) hi (by rw[hi0];exact hstp (w₁.at d))
     have hu:∀op∈MemOp.ofEvents i x.frame.fn x.frame.place es,op.g=i:=fun op hop=>by obtain⟨e,_,rfl⟩:=Conc.mem_ofEvents hop;rfl
     have hsz:((gs.map (woken P x x' (w₁.at d))).setIfInBounds i x').size=gs.size:=by simp
     have hsum:sumTo gs.size (upd q i k)+(k+1)=sumTo gs.size q+k:=by
      have:=sumTo_upd q k id hil
      simpa[hqi] using this
     refine .step (hst.trans hrunT) (ihM _ (by rw[hsz];omega) (q:=upd q i k) rfl hr' (hP.mute (by omega) hm) ⟨fun j y hj hy=>?_,fun j hj=>?_⟩ ?_)
     ·by_cases hji:i=j
      ·subst hji
       rw[gs_same _ _ hil] at hy
       obtain rfl:=Option.some.inj hy
       rw[upd_same,Deaf_own]
       exact hq'
      ·rw[gs_new _ _ hji] at hy
       obtain⟨z,hz,rfl⟩:=Option.map_eq_some_iff.1 hy
       have hqj:=hL.old j z hj hz
       rw[woken_quitsD hqj,upd_ne q k (Ne.symm hji),Deaf_other t hji _ hu]
       exact hqj
     ·rw[Deaf_other t (g':=i) (by simp at hj;omega) _ hu]
      exact hL.above j (by simpa using hj)
     ·rw[gs_new _ _ (by omega),h0]
      simp[woken_run hs]
 intro gs sl t q hP hL h0
 exact key _ rfl (Rely.refl _ _ _) hP hL h0
end
structure SilB(P:Program)(Shun:Loc→Prop)(B:Nat)(Q:Machine→Trace→Prop)(g:Goroutine)(w:World):Prop where
 run:∀{gs:Array Goroutine} {sl:Option (Nat×Nat)} {t:Trace} {q:Nat→Nat},Past Shun B t→Leavers P t gs q→gs[0]?=some g→Comes P Q (crowd gs w sl) t
section
variable {P:Program} {Shun:Loc→Prop} {B:Nat} {Q:Machine→Trace→Prop} {T:Terr} {g g':Goroutine} {w:World} {b:Frame} {a:Act} {k:List Item} {cs:List Frame} {ops:Array Oper} {i:Nat} {rest:List Nat} {o:Oper}
theorem SilB.step(T:Terr)(F:World→World)(hs:g.status= .running)(hg:∀w₁,Rely true T w w₁→stepG P true g w₁= .go g' (F w₁) #[])(hk:∀w₁,Rely true T w w₁→SilB P Shun B Q g' (F w₁)):SilB P Shun B Q g w:=
 ⟨fun hP hL h0=>silent_beside (T:=T) F hs hg (fun w₁ r _ _ _ _ hP hL h0=>(hk w₁ r).run hP hL h0) hP hL h0⟩
theorem SilB.made(T:Terr)(v:World→Value)(ob:Obj)(ho:ops[i]?=some o)(hw:Region.wanted o (yielded ops a.tmps)=true)(hk:b.kind≠ .early)(x:Value)(hx:∀w₁,Rely true T w w₁→v w₁=x)(hr:∀w₁,(execOp a.eval o).run P w₁= .ok (.value (v w₁)) (w₁.alloc ob))(he:∀w₁,(execOp a.eval o).events P w₁ #[]= #[])(kk:∀w₁,Rely true T w w₁→SilB P Shun B Q (G (b.at (a.put o.dst x) (.inRegion ops rest::k)) cs) (w₁.alloc ob)):SilB P Shun B Q (G (b.at a (.inRegion ops (i::rest)::k)) cs) w:=by
 refine SilB.step T (fun w₁=>w₁.alloc ob) rfl (fun w₁ r=>?_) kk
 rw[stepG_value ho hw hk (hr w₁),hx w₁ r]
 unfold listed
 rw[he,seen_none]
end
end
end Go.Side
