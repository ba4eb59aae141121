/-
  Texts of Ytbjlijagheifgaa, merged.
-/
import Derived.Conc.Beside
set_option linter.unusedSimpArgs false
set_option linter.unusedVariables false
namespace Go.Side
section
open Go
structure Like(H:Nat→Prop)(w w₂:World):Prop where
 size:w₂.heap.size=w.heap.size
 same:∀b,¬H b→w₂.heap[b]?=w.heap[b]?
 hid:∀b,H b→∃c e,w.heap[b]?=some (.cells c e (0,0))∧w₂.heap[b]?=some (.cells #[] e (0,0))
 os:w₂.os=w.os
 out:w₂.output=w.output
def Dud:Halt→Prop
 | .unsupported _| .stuck _=>True
 |_=>False
inductive PlainSem(ob:Bool)(P:Program){α:Type}(Q:α→Prop):Sem α→Prop
 |pure {a:α}:Q a→PlainSem ob P Q (.pure a)
 |load {m:Mode} {a:Addr} {k:Value→Sem α}:(∀v,PlainSem ob P Q (k v))→PlainSem ob P Q (.load m a k)
 |store {m:Mode} {a:Addr} {v:Value} {k:Sem α}:PlainSem ob P Q k→PlainSem ob P Q (.store m a v k)
 |new {o:Obj} {k:Nat→Sem α}:(∀r,PlainSem ob P Q (k r))→PlainSem ob P Q (.new o k)
 |shape {r:Nat} {k:Option (TypeId×Nat)→Sem α}:(∀x y,x.map (·.1)=y.map (·.1)→k x=k y)→(∀x,PlainSem ob P Q (k x))→PlainSem ob P Q (.shape r k)
 |shapeD {r:Nat} {k:Option (TypeId×Nat)→Sem α}:(∀e w es,∃h w' es',(k (some (e,0))).runT P w es=(.halt h w',es')∧Dud h)→(∀x,PlainSem ob P Q (k x))→PlainSem ob P Q (.shape r k)
 |frozen {a:Addr} {k:Bool→Sem α}:(∀b,PlainSem ob P Q (k b))→PlainSem ob P Q (.frozen a k)
 |getObj {r:Nat} {k:Obj→Sem α}:(∀o,PlainSem ob P Q (k o))→PlainSem ob P Q (.getObj r k)
 |setObj {r:Nat} {o:Obj} {k:Sem α}:ob=true→PlainSem ob P Q k→PlainSem ob P Q (.setObj r o k)
 |choose {q:Question} {k:Nat→Sem α}:(∀n,PlainSem ob P Q (k n))→PlainSem ob P Q (.choose q k)
 |program {k:Program→Sem α}:PlainSem ob P Q (k P)→PlainSem ob P Q (.program k)
 |room {k:Sem α}:PlainSem ob P Q k→PlainSem ob P Q (.mark .noRoom k)
 |halt {h:Halt}:(∃v,h= .panic v)∨Dud h→PlainSem ob P Q (.halt h)
 |doomed {s:Sem α}:(∀w es,∃h w' es',s.runT P w es=(.halt h w',es')∧Dud h)→PlainSem ob P Q s
theorem bind_halts{P:Program}{α β:Type}{f:α→Sem β}:∀(s:Sem α) (w:World) (es:Array Event) (hh:Halt) (w':World) (es':Array Event),s.runT P w es=(.halt hh w',es')→(s.bind f).runT P w es=(.halt hh w',es'):=by
 intro s
 induction s with
 |pure a=>intro w es hh w' es' e;simp[Sem.runT] at e
 |load m a k ih=>
  intro w es hh w' es' e
  simp only[Sem.bind,Sem.runT] at e⊢
  cases hc:w.cell? a with
  |some v=>simp only[hc] at e⊢;exact ih _ _ _ _ _ _ e
  |none=>
   simp only[hc] at e⊢
   cases hf:w.farLoad P a (m== .atomic) with
   |ok r=>simp only[hf] at e⊢;exact ih _ _ _ _ _ _ e
   |error x=>simp only[hf,Prod.mk.injEq,Result.halt.injEq] at e⊢;exact e
 |store m a v k ih=>
  intro w es hh w' es' e
  have main:∀(r:Result α×Array Event) (r':Result β×Array Event),r=(match w.cell? a with
    |some _=>if w.frozen? a then(.halt (.unsupported (.unsafePointer "a write to bytes that a string shares")) w,es) else k.runT P (w.setCell a v) (es.push ⟨.cell a,true,m== .atomic⟩)
    |none=>match w.farStore P a v (m== .atomic) with
     | .ok (w,touched)=>k.runT P w (es++touched.toArray.map (⟨.cell ·,true,m== .atomic⟩))
     | .error h=>(.halt h w,es))→
    r'=(match w.cell? a with
    |some _=>if w.frozen? a then(.halt (.unsupported (.unsafePointer "a write to bytes that a string shares")) w,es) else(k.bind f).runT P (w.setCell a v) (es.push ⟨.cell a,true,m== .atomic⟩)
    |none=>match w.farStore P a v (m== .atomic) with
     | .ok (w,touched)=>(k.bind f).runT P w (es++touched.toArray.map (⟨.cell ·,true,m== .atomic⟩))
     | .error h=>(.halt h w,es))→r=(.halt hh w',es')→r'=(.halt hh w',es'):=by
   intro r r' er er' e
   rw[er] at e
   rw[er']
   cases hc:w.cell? a with
   |some v0=>
    simp only[hc] at e⊢
    by_cases hz:w.frozen? a=true
    ·simp only[hz,if_true,Prod.mk.injEq,Result.halt.injEq] at e⊢;exact e
    ·simp only[hz,Bool.false_eq_true,if_false] at e⊢;exact ih _ _ _ _ _ e
   |none=>
    simp only[hc] at e⊢
    cases hf:w.farStore P a v (m== .atomic) with
    |ok r=>simp only[hf] at e⊢;exact ih _ _ _ _ _ e
    |error x=>simp only[hf,Prod.mk.injEq,Result.halt.injEq] at e⊢;exact e
  cases v with
  |agg _=>simp only[Sem.bind,Sem.runT,Prod.mk.injEq,Result.halt.injEq] at e⊢;exact e
  |tuple _=>simp only[Sem.bind,Sem.runT,Prod.mk.injEq,Result.halt.injEq] at e⊢;exact e
  |_=>exact main _ _ rfl rfl e
 |new o k ih=>intro w es hh w' es' e;exact ih _ _ _ _ _ _ e
 |shape r k ih=>intro w es hh w' es' e;exact ih _ _ _ _ _ _ e
 |freeze a n k ih=>intro w es hh w' es' e;exact ih _ _ _ _ _ e
 |frozen a k ih=>intro w es hh w' es' e;exact ih _ _ _ _ _ _ e
 |getObj r k ih=>
  intro w es hh w' es' e
  simp only[Sem.bind,Sem.runT] at e⊢
  cases hr:w.heap[r]? with
  |none=>simp only[hr,Prod.mk.injEq,Result.halt.injEq] at e⊢;exact e
  |some o=>cases o<;>simp only[hr] at e⊢ <;>first
   |exact ih _ _ _ _ _ _ e
   |(simp only[Prod.mk.injEq,Result.halt.injEq] at e⊢;exact e)
 |setObj r o k ih=>
  intro w es hh w' es' e
  simp only[Sem.bind,Sem.runT] at e⊢
  cases hr:w.heap[r]? with
  |none=>simp only[hr,Prod.mk.injEq,Result.halt.injEq] at e⊢;exact e
  |some o=>cases o<;>simp only[hr] at e⊢ <;>first
   |exact ih _ _ _ _ _ e
   |(simp only[Prod.mk.injEq,Result.halt.injEq] at e⊢;exact e)
 |choose q k ih=>
  intro w es hh w' es' e
  simp only[Sem.bind,Sem.runT] at e⊢
  by_cases hq:q.forced=true
  ·simp only[hq,if_true] at e⊢;exact ih _ _ _ _ _ _ e
  ·simp only[hq,Bool.false_eq_true,if_false] at e⊢;exact ih _ _ _ _ _ _ e
 |sys c k ih=>intro w es hh w' es' e;exact ih _ _ _ _ _ _ e
 |program k ih=>intro w es hh w' es' e;exact ih _ _ _ _ _ _ e
 |mark m k ih=>intro w es hh w' es' e;exact ih _ _ _ _ _ e
 |halt h=>intro w es hh w' es' e;simp only[Sem.bind,Sem.runT,Prod.mk.injEq,Result.halt.injEq] at e⊢;exact e
theorem PlainSem.bind{ob:Bool}{P:Program}{α β:Type}{Q:α→Prop}{Q':β→Prop}{s:Sem α}{f:α→Sem β}(hs:PlainSem ob P Q s)(hf:∀a,Q a→PlainSem ob P Q' (f a)):PlainSem ob P Q' (s.bind f):=by
 induction hs with
 |pure h=>exact hf _ h
 |load _ ih=>exact .load ih
 |store _ ih=>exact .store ih
 |new _ ih=>exact .new ih
 |shape he _ ih=>exact .shape (fun x y h=>by simp only[he x y h]) ih
 |shapeD hd _ ih=>
  refine .shapeD (fun e w es=>?_) ih
  obtain⟨hh,w',es',e',hn⟩:=hd e w es
  exact⟨hh,w',es',bind_halts _ w es hh w' es' e',hn⟩
 |frozen _ ih=>exact .frozen ih
 |getObj _ ih=>exact .getObj ih
 |setObj e _ ih=>exact .setObj e ih
 |choose _ ih=>exact .choose ih
 |program _ ih=>exact .program ih
 |room _ ih=>exact .room ih
 |halt h=>exact .halt h
 |@doomed s h=>
  refine .doomed fun w es=>?_
  obtain⟨hh,w',es',e,hn⟩:=h w es
  exact⟨hh,w',es',bind_halts s w es hh w' es' e,hn⟩
theorem PlainSem.mono{ob:Bool}{P:Program}{α:Type}{Q Q':α→Prop}{s:Sem α}(hs:PlainSem ob P Q s)(h:∀a,Q a→Q' a):PlainSem ob P Q' s:=by
 induction hs with
 |pure hq=>exact .pure (h _ hq)
 |load _ ih=>exact .load ih
 |store _ ih=>exact .store ih
 |new _ ih=>exact .new ih
 |shape he _ ih=>exact .shape he ih
 |shapeD hd _ ih=>exact .shapeD hd ih
 |frozen _ ih=>exact .frozen ih
 |getObj _ ih=>exact .getObj ih
 |setObj e _ ih=>exact .setObj e ih
 |choose _ ih=>exact .choose ih
 |program _ ih=>exact .program ih
 |room _ ih=>exact .room ih
 |halt h=>exact .halt h
 |doomed h=>exact .doomed h
theorem PlainSem.leaf{ob:Bool}{P:Program}{α:Type}{Q:α→Prop}{s:Sem α}(hs:PlainSem ob P Q s):∀(w:World) (es:Array Event) (a:α) (u:World) (es':Array Event),s.runT P w es=(.ok a u,es')→Q a:=by
 induction hs with
 |pure hq=>intro w es a u es' e;simp only[Sem.runT,Prod.mk.injEq,Result.ok.injEq] at e;exact e.1.1▸hq
 |load _ ih=>
         intro w es a u es' e;simp only[Sem.runT] at e;repeat' split at e
         all_goals first|exact ih _ _ _ _ _ _ e|simp at e
 |@store m a v k _ ih=>
  intro w es a' u es' e
  cases v<;>simp only[Sem.runT] at e<;>(repeat' split at e)<;>first|exact ih _ _ _ _ _ e|simp at e
 |new _ ih=>intro w es a u es' e;exact ih _ _ _ _ _ _ e
 |shape _ _ ih=>intro w es a u es' e;exact ih _ _ _ _ _ _ e
 |shapeD _ _ ih=>intro w es a u es' e;exact ih _ _ _ _ _ _ e
 |frozen _ ih=>intro w es a u es' e;exact ih _ _ _ _ _ _ e
 |getObj _ ih=>
  intro w es a u es' e;simp only[Sem.runT] at e;repeat' split at e
  all_goals first|exact ih _ _ _ _ _ _ e|simp at e
 |setObj _ _ ih=>
  intro w es a u es' e;simp only[Sem.runT] at e;repeat' split at e
  all_goals first|exact ih _ _ _ _ _ e|simp at e
 |choose _ ih=>intro w es a u es' e;simp only[Sem.runT] at e;split at e<;>exact ih _ _ _ _ _ _ e
 |program _ ih=>intro w es a u es' e;exact ih _ _ _ _ _ e
 |room _ ih=>intro w es a u es' e;exact ih _ _ _ _ _ e
 |halt h=>intro w es a u es' e;simp[Sem.runT] at e
 |doomed h=>
  intro w es a u es' e
  obtain⟨hh,w',es'',e',_⟩:=h w es
  rw[e'] at e
  simp at e
def EvP(ob:Bool)(H:Nat→Prop)(N:Nat)(e:Event):Prop:=
 match e.loc with
 | .cell a=>a.block<N∧¬H a.block
 | .obj r=>(e.write=true→ob=true)∧r<N∧¬H r
 | .mark m=>m= .noRoom
 |_=>False
theorem EvP.mono{ob:Bool}{H:Nat→Prop}{N N':Nat}(h:N≤N'){e:Event}(he:EvP ob H N e):EvP ob H N' e:=by
 obtain⟨l,wr,s⟩:=e
 cases l<;>simp only[EvP] at he⊢
 ·exact⟨Nat.lt_of_lt_of_le he.1 h,he.2⟩
 ·exact⟨he.1,Nat.lt_of_lt_of_le he.2.1 h,he.2.2⟩
 ·exact he
structure Tied(ob:Bool)(H:Nat→Prop)(n:Nat)(w w₂ u u₂:World):Prop where
 like:Like H u u₂
 drawn:u.drawn=w.drawn+n
 drawn₂:u₂.drawn=w₂.drawn+n
 tape:u.tape=w.tape
 tape₂:u₂.tape=w₂.tape
 grown:w.heap.size≤u.heap.size
 os:u.os=w.os
 out:u.output=w.output
 keep:∀b,H b→u.heap[b]?=w.heap[b]?
 objs:ob=false→∀(b:Nat) (o:Obj),w.heap[b]?=some o→(∀c e f,o≠Obj.cells c e f)→u.heap[b]?=some o
def Evs(ob:Bool)(H:Nat→Prop)(N:Nat)(es es₂:Array Event):Prop:=∀e∈es₂,e∈es∨EvP ob H N e
def Fits{α:Type}(ob:Bool)(H:Nat→Prop)(n:Nat)(w w₂:World)(es:Array Event)(r r₂:Result α×Array Event):Prop:=
 match r₂ with
 |(.ok a u₂,es₂)=>∃u,r=(.ok a u,es₂)∧Tied ob H n w w₂ u u₂∧Evs ob H u.heap.size es es₂
 |(.halt (.panic v) u₂,es₂)=>∃u,r=(.halt (.panic v) u,es₂)∧Tied ob H n w w₂ u u₂∧Evs ob H u.heap.size es es₂
 |(.halt h _,_)=>Dud h
def Agree(n:Nat)(w w₂:World):Prop:=∀i,i<n→∀q,w₂.tape (w₂.drawn+i) q=w.tape (w.drawn+i) q
section
variable {ob:Bool} {H:Nat→Prop} {P:Program}
theorem Fits.pre{α:Type}{n:Nat}{w w₂ v v₂:World}{es es':Array Event}{r r₂:Result α×Array Event}(h:Fits ob H n v v₂ es' r r₂)(hd:v.drawn=w.drawn)(hd₂:v₂.drawn=w₂.drawn)(ht:v.tape=w.tape)(ht₂:v₂.tape=w₂.tape)(hso:v.os=w.os∧v.output=w.output)(hg:w.heap.size≤v.heap.size)(hk:∀b,H b→v.heap[b]?=w.heap[b]?)(ho:ob=false→∀(b:Nat) (o:Obj),w.heap[b]?=some o→(∀c e f,o≠Obj.cells c e f)→v.heap[b]?=some o)(he:Evs ob H v.heap.size es es'):Fits ob H n w w₂ es r r₂:=by
 have ev:∀u:World,v.heap.size≤u.heap.size→∀es₂,Evs ob H u.heap.size es' es₂→Evs ob H u.heap.size es es₂:=fun u hu es₂ h2 e hm=>by
  rcases h2 e hm with h|h
  ·exact(he e h).imp id (EvP.mono hu)
  ·exact .inr h
 match r₂,h with
 |(.ok a u₂,es₂),⟨u,e,t,x⟩=>exact⟨u,e,⟨t.like,t.drawn.trans (by rw[hd]),t.drawn₂.trans (by rw[hd₂]),t.tape.trans ht,t.tape₂.trans ht₂,Nat.le_trans hg t.grown,t.os.trans hso.1,t.out.trans hso.2,fun b hb=>(t.keep b hb).trans (hk b hb),fun e0 b o h1 h2=>t.objs e0 b o (ho e0 b o h1 h2) h2⟩,ev u t.grown es₂ x⟩
 |(.halt (.panic b) u₂,es₂),⟨u,e,t,x⟩=>exact⟨u,e,⟨t.like,t.drawn.trans (by rw[hd]),t.drawn₂.trans (by rw[hd₂]),t.tape.trans ht,t.tape₂.trans ht₂,Nat.le_trans hg t.grown,t.os.trans hso.1,t.out.trans hso.2,fun b hb=>(t.keep b hb).trans (hk b hb),fun e0 b o h1 h2=>t.objs e0 b o (ho e0 b o h1 h2) h2⟩,ev u t.grown es₂ x⟩
 |(.halt .blocked _,_),h=>exact h.elim
 |(.halt .waiting _,_),h=>exact h.elim
 |(.halt (.exit _) _,_),h=>exact h.elim
 |(.halt (.fatal _) _,_),h=>exact h.elim
 |(.halt (.throw _) _,_),h=>exact h.elim
 |(.halt .goexit _,_),h=>exact h.elim
 |(.halt (.unsupported _) _,_),_=>trivial
 |(.halt (.stuck _) _,_),_=>trivial
theorem Fits.draw{α:Type}{n:Nat}{w w₂:World}{es:Array Event}{r r₂:Result α×Array Event}(h:Fits ob H n {w with drawn:=w.drawn+1} {w₂ with drawn:=w₂.drawn+1} es r r₂):Fits ob H (n+1) w w₂ es r r₂:=by
 match r₂,h with
 |(.ok a u₂,es₂),⟨u,e,t,x⟩=>exact⟨u,e,⟨t.like,t.drawn.trans (by simp;omega),t.drawn₂.trans (by simp;omega),t.tape,t.tape₂,t.grown,t.os,t.out,t.keep,t.objs⟩,x⟩
 |(.halt (.panic b) u₂,es₂),⟨u,e,t,x⟩=>exact⟨u,e,⟨t.like,t.drawn.trans (by simp;omega),t.drawn₂.trans (by simp;omega),t.tape,t.tape₂,t.grown,t.os,t.out,t.keep,t.objs⟩,x⟩
 |(.halt .blocked _,_),h=>exact h.elim
 |(.halt .waiting _,_),h=>exact h.elim
 |(.halt (.exit _) _,_),h=>exact h.elim
 |(.halt (.fatal _) _,_),h=>exact h.elim
 |(.halt (.throw _) _,_),h=>exact h.elim
 |(.halt .goexit _,_),h=>exact h.elim
 |(.halt (.unsupported _) _,_),_=>trivial
 |(.halt (.stuck _) _,_),_=>trivial
theorem Fits.bad{α:Type}{n:Nat}{w w₂ u₂:World}{es es₂:Array Event}{r:Result α×Array Event}{h:Halt}(hn:Dud h):Fits ob H n w w₂ es r (.halt h u₂,es₂):=by
 cases h<;>first|exact hn.elim|exact hn
theorem Like.not_hid{w w₂:World}(L:Like H w w₂){a:Addr}{v:Value}(h:w₂.cell? a=some v):¬H a.block:=fun hb=>by
 obtain⟨_,e,_,he⟩:=L.hid a.block hb
 simp only[World.cell?,he] at h
 split at h<;>simp at h
theorem Like.cell{w w₂:World}(L:Like H w w₂){a:Addr}(h:¬H a.block):w₂.cell? a=w.cell? a:=by simp only[World.cell?,L.same _ h]
theorem Like.frozen_eq{w w₂:World}(L:Like H w w₂)(a:Addr):w₂.frozen? a=w.frozen? a:=by
 by_cases h:H a.block
 ·obtain⟨c,e,h1,h2⟩:=L.hid _ h
  simp[World.frozen?,h1,h2]
 ·simp only[World.frozen?,L.same _ h]
theorem Like.lt_of_get{w:World}{b:Nat}{o:Obj}(h:w.heap[b]?=some o):b<w.heap.size:=(Array.getElem?_eq_some_iff.1 h).1
theorem lt_of_cell{w:World}{a:Addr}{v:Value}(h:w.cell? a=some v):a.block<w.heap.size:=by
 unfold World.cell? at h
 split at h
 ·rename_i hb;exact Like.lt_of_get hb
 ·cases h
theorem Like.setCell{w w₂:World}(L:Like H w w₂){a:Addr}(h:¬H a.block)(v:Value):Like H (w.setCell a v) (w₂.setCell a v):=by
 refine⟨by simp[World.setCell,L.size],fun b hb=>?_,fun b hb=>?_,L.os,L.out⟩
 ·simp only[World.setCell,Array.getElem?_modify,L.same b hb]
 ·have hne:a.block≠b:=fun e=>h (e▸hb)
  simp only[World.setCell,Array.getElem?_modify,if_neg hne]
  exact L.hid b hb
theorem Like.push{w w₂:World}(L:Like H w w₂)(o:Obj):Like H {w with heap:=w.heap.push o} {w₂ with heap:=w₂.heap.push o}:=by
 have hlt:∀b,H b→b<w.heap.size:=fun b hb=>by
  obtain⟨c,e,h1,_⟩:=L.hid b hb
  exact Like.lt_of_get h1
 refine⟨by simp[L.size],fun b hb=>?_,fun b hb=>?_,L.os,L.out⟩
 ·simp only[Array.getElem?_push,L.size,L.same b hb]
 ·have h1:=hlt b hb
  have hne:¬b=w.heap.size:=by omega
  simp only[Array.getElem?_push,L.size,if_neg hne]
  exact L.hid b hb
theorem Like.setObj{w w₂:World}(L:Like H w w₂){r:Nat}(h:¬H r)(o:Obj):Like H {w with heap:=w.heap.setIfInBounds r o} {w₂ with heap:=w₂.heap.setIfInBounds r o}:=by
 refine⟨by simp[L.size],fun b hb=>?_,fun b hb=>?_,L.os,L.out⟩
 ·by_cases e:r=b
  ·subst e
   simp[Array.getElem?_setIfInBounds,L.size]
  ·simp only[Array.getElem?_setIfInBounds_ne e]
   exact L.same b hb
 ·have e:r≠b:=fun e=>h (e▸hb)
  simp only[Array.getElem?_setIfInBounds_ne e]
  exact L.hid b hb
theorem Like.draw{w w₂:World}(L:Like H w w₂)(d d₂:Nat):Like H {w with drawn:=d} {w₂ with drawn:=d₂}:=⟨L.size,L.same,L.hid,L.os,L.out⟩
theorem Like.shape{w w₂:World}(L:Like H w w₂)(r:Nat):(w₂.shape? r).map (·.1)=(w.shape? r).map (·.1):=by
 by_cases h:H r
 ·obtain⟨c,e,h1,h2⟩:=L.hid _ h
  simp[World.shape?,h1,h2]
 ·simp only[World.shape?,L.same _ h]
end
end
section
open Go
variable {H:Nat→Prop} {P:Program}
theorem seenCells_empty(e:TypeId){fuel x stop:Nat}(h:x<stop):∃s,seenCells P #[] e fuel x stop= .error s:=by
 cases fuel with
 |zero=>exact⟨_,rfl⟩
 |succ f=>
  unfold seenCells
  rw[if_neg (by omega)]
  simp only
  split
  ·exact⟨_,rfl⟩
  ·split
   ·exact⟨_,rfl⟩
   ·exact⟨"memory seen as another type: behind the end of what is seen",by simp⟩
theorem bytes_pos{v:Value}{bs:List UInt8}(h:v.bytes?=some bs):0<bs.length:=by
 cases v<;>simp only[Value.bytes?,Option.some.injEq,reduceCtorEq] at h<;>subst h
 ·simp
 ·rename_i k n;cases k<;>simp[leBytes,IntKind.bits]
 ·rename_i k b;cases k<;>simp[leBytes,FloatKind.bytes]
 ·rename_i k a b;cases k<;>simp[leBytes,FloatKind.bytes]
theorem seen_hid{w₂:World}{at_:Addr}{u:TypeId}{k:Addr}{atomic:Bool}{e:TypeId}{fr:Nat×Nat}(h:w₂.heap[at_.block]?=some (.cells #[] e fr)):∃s,w₂.seen P at_ u k atomic= .error s:=by
 unfold World.seen
 simp only[h,bind,Except.bind,pure,Except.pure,throw,throwThe,MonadExceptOf.throw]
 split
 ·exact⟨_,rfl⟩
 cases h1:plainCell P P.depth u k.off with
 |none=>exact⟨_,rfl⟩
 |some like=>
  simp only
  cases h2:like.bytes? with
  |none=>exact⟨_,rfl⟩
  |some bs=>
   simp only[Option.map_some]
   cases h3:byteOfCell P P.depth u k.off with
   |none=>exact⟨_,rfl⟩
   |some β=>
    simp only
    split
    ·exact⟨_,rfl⟩
    ·cases h4:byteOfCell P P.depth e (at_.off%P.cellsOf e) with
     |none=>exact⟨_,rfl⟩
     |some b0=>
      simp only
      have hp:=bytes_pos h2
      obtain⟨s,hs⟩:=seenCells_empty (P:=P) e (fuel:=bs.length+1) (x:=at_.off/P.cellsOf e*P.bytesOf e+b0+β) (stop:=at_.off/P.cellsOf e*P.bytesOf e+b0+β+bs.length) (by omega)
      exact⟨s,by simp only[hs]⟩
theorem seen_like{w w₂:World}{at_:Addr}(h:w₂.heap[at_.block]?=w.heap[at_.block]?)(u:TypeId)(k:Addr)(atomic:Bool):w₂.seen P at_ u k atomic=w.seen P at_ u k atomic:=by
 unfold World.seen
 simp only[h]
theorem seen_none{w:World}{at_:Addr}{u:TypeId}{a:Addr}{atomic:Bool}(hat:w.heap[at_.block]?=none):∃s,w.seen P at_ u a atomic= .error s:=by
 unfold World.seen
 simp only[hat,bind,Except.bind,pure,Except.pure,throw,throwThe,MonadExceptOf.throw]
 split
 ·exact⟨_,rfl⟩
 ·cases plainCell P P.depth u a.off with
  |none=>exact⟨_,rfl⟩
  |some like=>
   simp only
   cases like.bytes? with
   |none=>exact⟨_,rfl⟩
   |some bs=>
    simp only[Option.map_some]
    cases byteOfCell P P.depth u a.off with
    |none=>exact⟨_,rfl⟩
    |some β=>exact⟨_,rfl⟩
theorem farLoad_like{w w₂:World}(L:Like H w w₂){a:Addr}{atomic:Bool}{v:Value}{tt:List Addr}(h:w₂.farLoad P a atomic= .ok (v,tt)):
  w.farLoad P a atomic= .ok (v,tt)∧(w.cell? a=none∨H a.block)∧¬H a.block∧∀x∈tt,x.block<w.heap.size∧¬H x.block:=by
 have hnh:¬H a.block:=fun hb=>by
  obtain⟨_,e,_,he⟩:=L.hid _ hb
  simp[World.farLoad,he] at h
 have hs:=L.same _ hnh
 unfold World.farLoad at h⊢
 rw[hs] at h
 cases hb:w.heap[a.block]? with
 |none=>simp[hb] at h
 |some o=>
  cases o with
  |view at_ u=>
   simp only[hb] at h⊢
   have hnt:¬H at_.block:=fun ht=>by
    obtain⟨_,e,_,he⟩:=L.hid _ ht
    obtain⟨s,hs⟩:=seen_hid (P:=P) (u:=u) (k:=a) (atomic:=atomic) he
    simp[World.viewLoad,hs,bind,Except.bind] at h
   have hsv:=seen_like (P:=P) (L.same _ hnt) u a atomic
   have hv:w₂.viewLoad P at_ u a atomic=w.viewLoad P at_ u a atomic:=by unfold World.viewLoad;rw[hsv]
   rw[hv] at h
   refine⟨h,.inl (by simp[World.cell?,hb]),hnh,?_⟩
   intro x hx
   cases hvl:w.viewLoad P at_ u a atomic with
   |error s=>simp[hvl] at h
   |ok r=>
    simp only[hvl,Except.ok.injEq] at h
    subst h
    have hblk:x.block=at_.block:=by
     unfold World.viewLoad at hvl
     cases hse:w.seen P at_ u a atomic with
     |error s=>simp[hse,bind,Except.bind] at hvl
     |ok y=>
      obtain⟨c,e,fr,first,like,cells⟩:=y
      simp only[hse,bind,Except.bind,pure,Except.pure] at hvl
      split at hvl
      ·simp only[Except.ok.injEq,Prod.mk.injEq] at hvl
       obtain⟨_,rfl⟩:=hvl
       obtain⟨z,_,rfl⟩:=List.mem_map.1 hx
       rfl
      ·simp[throw,throwThe,MonadExceptOf.throw] at hvl
    rw[hblk]
    refine⟨?_,hnt⟩
    cases hat:w.heap[at_.block]? with
    |some o=>exact Like.lt_of_get hat
    |none=>
     exfalso
     unfold World.viewLoad at hvl
     have:∃s,w.seen P at_ u a atomic= .error s:=seen_none hat
     obtain⟨s,hs⟩:=this
     simp[hs,bind,Except.bind] at hvl
  |_=>simp[hb] at h
def SameStore(at_:Addr)(w w':World)(r r':Except String (World×List Addr)):Prop:=
 (∃s,r= .error s∧r'= .error s)∨∃c e fr tt,r= .ok ({w with heap:=w.heap.setIfInBounds at_.block (.cells c e fr)},tt)∧
  r'= .ok ({w' with heap:=w'.heap.setIfInBounds at_.block (.cells c e fr)},tt)∧∀x∈tt,x.block=at_.block
theorem viewStore_same(w w':World)(at_:Addr)(u:TypeId)(k:Addr)(v:Value)(atomic:Bool)(h:w'.seen P at_ u k atomic=w.seen P at_ u k atomic):
  SameStore at_ w w' (w.viewStore P at_ u k v atomic) (w'.viewStore P at_ u k v atomic):=by
 unfold World.viewStore
 rw[h]
 cases ht:tight P P.depth u with
 |false=>exact .inl ⟨_,rfl,rfl⟩
 |true=>
  cases hse:w.seen P at_ u k atomic with
  |error s=>exact .inl ⟨_,rfl,rfl⟩
  |ok y=>
   obtain⟨c,e,fr,first,like,cells⟩:=y
   cases hb:v.bytes? with
   |none=>exact .inl ⟨_,rfl,rfl⟩
   |some bs=>
    simp only[Bool.not_true,Bool.false_eq_true,if_false]
    dsimp only[bind,Except.bind,pure,Except.pure]
    split
    ·exact .inl ⟨_,rfl,rfl⟩
    ·generalize List.foldlM (m:=Except String) _ c cells=q
     cases q with
     |error s=>exact .inl ⟨_,rfl,rfl⟩
     |ok c'=>exact .inr ⟨c',e,fr,_,rfl,rfl,fun x hx=>by obtain⟨z,_,rfl⟩:=List.mem_map.1 hx;rfl⟩
theorem viewStore_seen{w:World}{at_:Addr}{u:TypeId}{k:Addr}{v:Value}{atomic:Bool}{s:String}(h:w.seen P at_ u k atomic= .error s):∃s,w.viewStore P at_ u k v atomic= .error s:=by
 unfold World.viewStore
 rw[h]
 cases ht:tight P P.depth u<;>exact⟨_,rfl⟩
theorem farStore_like{w w₂ u₂:World}(L:Like H w w₂){a:Addr}{v:Value}{atomic:Bool}{tt:List Addr}(h:w₂.farStore P a v atomic= .ok (u₂,tt)):
  ∃u,w.farStore P a v atomic= .ok (u,tt)∧¬H a.block∧w.cell? a=none∧Like H u u₂∧u.drawn=w.drawn∧u₂.drawn=w₂.drawn∧u.tape=w.tape∧u₂.tape=w₂.tape∧u.heap.size=w.heap.size∧(∀b,H b→u.heap[b]?=w.heap[b]?)∧∀x∈tt,x.block<w.heap.size∧¬H x.block:=by
 have hnh:¬H a.block:=fun hb=>by
  obtain⟨_,e,_,he⟩:=L.hid _ hb
  simp[World.farStore,he] at h
 have hs:=L.same _ hnh
 unfold World.farStore at h⊢
 rw[hs] at h
 cases hb:w.heap[a.block]? with
 |none=>simp[hb] at h
 |some o=>
  cases o with
  |view at_ u=>
   simp only[hb] at h⊢
   have hnt:¬H at_.block:=fun ht=>by
    obtain⟨_,e,_,he⟩:=L.hid _ ht
    obtain⟨s,hs⟩:=seen_hid (P:=P) (u:=u) (k:=a) (atomic:=atomic) he
    obtain⟨s',hs'⟩:=viewStore_seen (v:=v) hs
    simp[hs'] at h
   have hsv:=seen_like (P:=P) (L.same _ hnt) u a atomic
   rcases viewStore_same (P:=P) w w₂ at_ u a v atomic hsv with⟨s,_,h2⟩|⟨c,e,fr,t2,h1,h2,h3⟩
   ·simp[h2] at h
   ·simp only[h2,Except.ok.injEq,Prod.mk.injEq] at h
    obtain⟨rfl,rfl⟩:=h
    refine⟨_,by rw[h1],hnh,by simp[World.cell?,hb],L.setObj hnt _,rfl,rfl,rfl,rfl,by simp,fun b hb=>Array.getElem?_setIfInBounds_ne (fun e':at_.block=b=>hnt (by rw[e'];exact hb)),fun x hx=>⟨?_,by rw[h3 x hx];exact hnt⟩⟩
    rw[h3 x hx]
    cases hat:w.heap[at_.block]? with
    |some o=>exact Like.lt_of_get hat
    |none=>
     exfalso
     have:∃s,w.seen P at_ u a atomic= .error s:=seen_none hat
     obtain⟨s,hs⟩:=this
     obtain⟨s',hs'⟩:=viewStore_seen (v:=v) hs
     simp[hs'] at h1
  |_=>simp[hb] at h
theorem seen_other{w:World}{at_:Addr}{u:TypeId}{a:Addr}{atomic:Bool}{o:Obj}(hat:w.heap[at_.block]?=some o)(hn:∀c e f,o≠Obj.cells c e f):∃s,w.seen P at_ u a atomic= .error s:=by
 unfold World.seen
 simp only[hat,bind,Except.bind,pure,Except.pure,throw,throwThe,MonadExceptOf.throw]
 split
 ·exact⟨_,rfl⟩
 ·cases plainCell P P.depth u a.off with
  |none=>exact⟨_,rfl⟩
  |some like=>
   simp only
   cases like.bytes? with
   |none=>exact⟨_,rfl⟩
   |some bs=>
    simp only[Option.map_some]
    cases byteOfCell P P.depth u a.off with
    |none=>exact⟨_,rfl⟩
    |some β=>cases o<;>first|exact absurd rfl (hn _ _ _)|exact⟨_,rfl⟩
theorem noCell_dud(w:World)(a:Addr)(s:String):Dud (w.noCell a s):=by
 unfold World.noCell
 split<;>trivial
theorem farLoad_dud{w:World}{a:Addr}{atomic:Bool}{x:Halt}(h:w.farLoad P a atomic= .error x):Dud x:=by
 unfold World.farLoad at h
 split at h
 ·split at h
  ·cases h
  ·cases h;trivial
 ·cases h;exact noCell_dud _ _ _
theorem farStore_dud{w:World}{a:Addr}{v:Value}{atomic:Bool}{x:Halt}(h:w.farStore P a v atomic= .error x):Dud x:=by
 unfold World.farStore at h
 split at h
 ·split at h
  ·cases h
  ·cases h;trivial
 ·cases h;exact noCell_dud _ _ _
theorem farStore_objs{w u:World}{a:Addr}{v:Value}{atomic:Bool}{tt:List Addr}(h:w.farStore P a v atomic= .ok (u,tt))(b:Nat)(o:Obj)(hb:w.heap[b]?=some o)(hn:∀c e f,o≠Obj.cells c e f):u.heap[b]?=some o:=by
 unfold World.farStore at h
 cases hx:w.heap[a.block]? with
 |none=>simp[hx] at h
 |some x=>
  cases x with
  |view at_ t=>
   simp only[hx] at h
   rcases viewStore_same (P:=P) w w at_ t a v atomic rfl with⟨s,h1,_⟩|⟨c,e,fr,t2,h1,_,_⟩
   ·simp[h1] at h
   ·simp only[h1,Except.ok.injEq,Prod.mk.injEq] at h
    obtain⟨rfl,_⟩:=h
    by_cases he:at_.block=b
    ·subst he
     obtain⟨s,hs⟩:=seen_other (P:=P) (u:=t) (a:=a) (atomic:=atomic) hb hn
     obtain⟨s',hs'⟩:=viewStore_seen (v:=v) hs
     rw[hs'] at h1;cases h1
    ·simp only
     rw[Array.getElem?_setIfInBounds_ne he]
     exact hb
  |_=>simp[hx] at h
theorem farStore_os{w u:World}{a:Addr}{v:Value}{atomic:Bool}{tt:List Addr}(h:w.farStore P a v atomic= .ok (u,tt)):u.os=w.os∧u.output=w.output:=by
 unfold World.farStore at h
 cases hx:w.heap[a.block]? with
 |none=>simp[hx] at h
 |some x=>
  cases x with
  |view at_ t=>
   simp only[hx] at h
   rcases viewStore_same (P:=P) w w at_ t a v atomic rfl with⟨s,h1,_⟩|⟨c,e,fr,t2,h1,_,_⟩
   ·simp[h1] at h
   ·simp only[h1,Except.ok.injEq,Prod.mk.injEq] at h
    obtain⟨rfl,_⟩:=h
    exact⟨rfl,rfl⟩
  |_=>simp[hx] at h
theorem farStore_any{w w₂ w₀ u₂:World}(L:Like H w w₂)(L₀:Like H w w₀){a:Addr}{v:Value}{atomic:Bool}{tt:List Addr}(h:w₂.farStore P a v atomic= .ok (u₂,tt)):∃u₀,w₀.farStore P a v atomic= .ok (u₀,tt):=by
 have hnh:¬H a.block:=fun hb=>by
  obtain⟨_,e,_,he⟩:=L.hid _ hb
  simp[World.farStore,he] at h
 unfold World.farStore at h⊢
 rw[L₀.same _ hnh,←L.same _ hnh]
 cases hb:w₂.heap[a.block]? with
 |none=>simp[hb] at h
 |some o=>
  cases o with
  |view at_ u=>
   simp only[hb] at h⊢
   have hnt:¬H at_.block:=fun ht=>by
    obtain⟨_,e,_,he⟩:=L.hid _ ht
    obtain⟨s,hs⟩:=seen_hid (P:=P) (u:=u) (k:=a) (atomic:=atomic) he
    obtain⟨s',hs'⟩:=viewStore_seen (v:=v) hs
    simp[hs'] at h
   have hsv:=seen_like (P:=P) ((L₀.same _ hnt).trans (L.same _ hnt).symm) u a atomic
   rcases viewStore_same (P:=P) w₂ w₀ at_ u a v atomic hsv with⟨s,h1,_⟩|⟨c,e,fr,t2,h1,h2,h3⟩
   ·simp[h1] at h
   ·simp only[h1,Except.ok.injEq,Prod.mk.injEq] at h
    obtain⟨rfl,rfl⟩:=h
    exact⟨_,by rw[h2]⟩
  |_=>simp[hb] at h
end
section
open Go
variable {ob:Bool} {H:Nat→Prop} {P:Program}
theorem Evs.refl(N:Nat)(es:Array Event):Evs ob H N es es:=fun _ h=>.inl h
theorem Evs.push{N:Nat}{es:Array Event}{e:Event}(h:EvP ob H N e):Evs ob H N es (es.push e):=fun x hx=>by
 rcases Array.mem_push.1 hx with h'|rfl
 ·exact .inl h'
 ·exact .inr h
theorem Evs.app{N:Nat}{es us:Array Event}(h:∀e∈us,EvP ob H N e):Evs ob H N es (es++us):=fun x hx=>(Array.mem_append.1 hx).imp id (h x)
theorem Agree.of_eq{n:Nat}{w w₂ v v₂:World}(h:Agree n w w₂)(hd:v.drawn=w.drawn)(hd₂:v₂.drawn=w₂.drawn)(ht:v.tape=w.tape)(ht₂:v₂.tape=w₂.tape):Agree n v v₂:=fun i hi q=>by
 rw[hd,hd₂,ht,ht₂];exact h i hi q
theorem setCell_ne{w:World}{a:Addr}(v:Value){b:Nat}(h:a.block≠b):(w.setCell a v).heap[b]?=w.heap[b]?:=by
 simp only[World.setCell,Array.getElem?_modify,if_neg h]
theorem setCell_obj{w:World}{a:Addr}(v:Value){b:Nat}{o:Obj}(h:w.heap[b]?=some o)(hn:∀c e f,o≠Obj.cells c e f):(w.setCell a v).heap[b]?=some o:=by
 simp only[World.setCell,Array.getElem?_modify]
 split
 ·rw[h]
  cases o<;>first|rfl|exact absurd rfl (hn _ _ _)
 ·exact h
theorem push_lt{w:World}(o:Obj){b:Nat}(h:b<w.heap.size):(w.heap.push o)[b]?=w.heap[b]?:=by
 rw[Array.getElem?_push,if_neg (by omega)]
def Couples{α:Type}(ob:Bool)(H:Nat→Prop)(P:Program)(s:Sem α):Prop:=
 ∀(w:World) (es:Array Event) (w₀:World),Like H w w₀→∃n,∀w₂,Like H w w₂→Agree n w w₂→Fits ob H n w w₂ es (s.runT P w es) (s.runT P w₂ es)
theorem couple{α:Type}{Q:α→Prop}{s:Sem α}(hs:PlainSem ob P Q s):Couples ob H P s:=by
 induction hs with
 |pure _=>exact fun w es w₀ _=>⟨0,fun w₂ L _=>⟨w,rfl,⟨L,rfl,rfl,rfl,rfl,Nat.le_refl _,rfl,rfl,fun _ _=>rfl,fun _ _ _ h _=>h⟩,Evs.refl _ _⟩⟩
 |@load m a k _ ih=>
  intro w es w₀ L₀
  by_cases hb:H a.block
  ·refine⟨0,fun w₂ L _=>?_⟩
   have hc:w₂.cell? a=none:=by
    cases h:w₂.cell? a with
    |none=>rfl
    |some v=>exact absurd hb (L.not_hid h)
   have hf:∃x,w₂.farLoad P a (m== .atomic)= .error x∧Dud x:=by
    obtain⟨_,e,_,he⟩:=L.hid _ hb
    exact⟨.stuck "load: no such cell",by simp[World.farLoad,World.noCell,he],trivial⟩
   obtain⟨x,hx,hn⟩:=hf
   simp only[Sem.runT,hc,hx]
   exact Fits.bad hn
  ·cases hc:w.cell? a with
   |some v=>
    obtain⟨n,hn⟩:=ih v w (es.push ⟨.cell a,false,m== .atomic⟩) w₀ L₀
    refine⟨n,fun w₂ L A=>?_⟩
    have hc₂:w₂.cell? a=some v:=(L.cell hb).trans hc
    simp only[Sem.runT,hc,hc₂]
    exact(hn w₂ L A).pre rfl rfl rfl rfl ⟨rfl,rfl⟩ (Nat.le_refl _) (fun _ _=>rfl) (fun _ _ _ h _=>h) (Evs.push ⟨lt_of_cell hc,hb⟩)
   |none=>
    cases hf:w.farLoad P a (m== .atomic) with
    |error x=>
     refine⟨0,fun w₂ L A=>?_⟩
     have hc₂:w₂.cell? a=none:=(L.cell hb).trans hc
     cases hf₂:w₂.farLoad P a (m== .atomic) with
     |ok r=>
      obtain⟨v,tt⟩:=r
      have:=(farLoad_like L hf₂).1
      rw[hf] at this;cases this
     |error y=>
      simp only[Sem.runT,hc₂,hf₂]
      exact Fits.bad (farLoad_dud hf₂)
    |ok r=>
     obtain⟨v,tt⟩:=r
     obtain⟨n,hn⟩:=ih v w (es++tt.toArray.map (⟨.cell ·,false,m== .atomic⟩)) w₀ L₀
     refine⟨n,fun w₂ L A=>?_⟩
     have hc₂:w₂.cell? a=none:=(L.cell hb).trans hc
     cases hf₂:w₂.farLoad P a (m== .atomic) with
     |error y=>
      simp only[Sem.runT,hc₂,hf₂]
      exact Fits.bad (farLoad_dud hf₂)
     |ok r₂=>
      obtain⟨v₂,tt₂⟩:=r₂
      obtain⟨e1,_,_,hin⟩:=farLoad_like L hf₂
      rw[hf] at e1
      simp only[Except.ok.injEq,Prod.mk.injEq] at e1
      obtain⟨rfl,rfl⟩:=e1
      simp only[Sem.runT,hc,hf,hc₂,hf₂]
      refine(hn w₂ L A).pre rfl rfl rfl rfl ⟨rfl,rfl⟩ (Nat.le_refl _) (fun _ _=>rfl) (fun _ _ _ h _=>h) (Evs.app fun e he=>?_)
      simp only[List.map_toArray,List.mem_toArray,List.mem_map] at he
      obtain⟨x,hx,rfl⟩:=he
      exact hin x hx
 |@store m a v k _ ih=>
  have agg:(∀w es,∃h,(Sem.store m a v k).runT P w es=(.halt h w,es)∧Dud h)∨
    (∀w es,(Sem.store m a v k).runT P w es=match w.cell? a with
      |some _=>if w.frozen? a then(.halt (.unsupported (.unsafePointer "a write to bytes that a string shares")) w,es) else k.runT P (w.setCell a v) (es.push ⟨.cell a,true,m== .atomic⟩)
      |none=>match w.farStore P a v (m== .atomic) with
       | .ok (w,touched)=>k.runT P w (es++touched.toArray.map (⟨.cell ·,true,m== .atomic⟩))
       | .error h=>(.halt h w,es)):=by
   cases v with
   |agg _=>exact .inl fun w es=>⟨_,rfl,trivial⟩
   |tuple _=>exact .inl fun w es=>⟨_,rfl,trivial⟩
   |_=>exact .inr fun w es=>rfl
  intro w es w₀ L₀
  rcases agg with agg|agg
  ·refine⟨0,fun w₂ L _=>?_⟩
   obtain⟨h,e,hn⟩:=agg w₂ es
   rw[e]
   exact Fits.bad hn
  have far:∀w₂:World,w₂.cell? a=none→(∀u tt,w₂.farStore P a v (m== .atomic)≠ .ok (u,tt))→∀n r,Fits ob H n w w₂ es r ((Sem.store m a v k).runT P w₂ es):=by
   intro w₂ hc₂ hno n r
   rw[agg]
   cases hf₂:w₂.farStore P a v (m== .atomic) with
   |ok r₂=>exact absurd hf₂ (hno r₂.1 r₂.2)
   |error y=>
    simp only[hc₂]
    exact Fits.bad (farStore_dud hf₂)
  by_cases hb:H a.block
  ·refine⟨0,fun w₂ L _=>far w₂ ?_ (fun u tt h=>?_) _ _⟩
   ·cases h:w₂.cell? a with
    |none=>rfl
    |some v=>exact absurd hb (L.not_hid h)
   ·obtain⟨_,_,hnh,_⟩:=farStore_like L h
    exact hnh hb
  ·cases hc:w.cell? a with
   |some v0=>
    by_cases hz:w.frozen? a=true
    ·refine⟨0,fun w₂ L A=>?_⟩
     rw[agg w₂ es]
     simp only[(L.cell hb).trans hc,L.frozen_eq,hz,if_true]
     exact Fits.bad trivial
    ·obtain⟨n,hn⟩:=ih (w.setCell a v) (es.push ⟨.cell a,true,m== .atomic⟩) (w₀.setCell a v) (L₀.setCell hb v)
     refine⟨n,fun w₂ L A=>?_⟩
     rw[agg w₂ es,agg w es]
     simp only[(L.cell hb).trans hc,hc,L.frozen_eq,hz,Bool.false_eq_true,if_false]
     refine(hn _ (L.setCell hb v) (A.of_eq rfl rfl rfl rfl)).pre rfl rfl rfl rfl ⟨rfl,rfl⟩ (by simp[World.setCell]) (fun b h=>setCell_ne _ (fun e=>hb (e▸h))) (fun _ b o h1 h2=>setCell_obj _ h1 h2) (Evs.push ⟨?_,hb⟩)
     simpa[World.setCell] using lt_of_cell hc
   |none=>
    cases hf₀:w₀.farStore P a v (m== .atomic) with
    |error x=>
     refine⟨0,fun w₂ L A=>far w₂ ((L.cell hb).trans hc) (fun u tt h=>?_) _ _⟩
     have h1:=farStore_any L L₀ h
     obtain⟨u₀,h1⟩:=h1
     rw[hf₀] at h1;cases h1
    |ok r=>
     obtain⟨u₀,tt⟩:=r
     obtain⟨u,e1,_,_,Lu,d1,d2,t1,t2,sz,hkp,hin⟩:=farStore_like L₀ hf₀
     have hob:=farStore_objs (P:=P) e1
     obtain⟨n,hn⟩:=ih u (es++tt.toArray.map (⟨.cell ·,true,m== .atomic⟩)) u₀ Lu
     refine⟨n,fun w₂ L A=>?_⟩
     cases hf₂:w₂.farStore P a v (m== .atomic) with
     |error y=>exact far w₂ ((L.cell hb).trans hc) (fun u tt h=>by rw[hf₂] at h;cases h) _ _
     |ok r₂=>
      obtain⟨u₂,tt₂⟩:=r₂
      obtain⟨u',e2,_,_,Lu₂,d3,d4,t3,t4,sz',_,_⟩:=farStore_like L hf₂
      rw[e1] at e2
      simp only[Except.ok.injEq,Prod.mk.injEq] at e2
      obtain⟨rfl,rfl⟩:=e2
      rw[agg w₂ es,agg w es]
      simp only[hc,e1,(L.cell hb).trans hc,hf₂]
      refine(hn _ Lu₂ (A.of_eq d3 d4 t3 t4)).pre d3 d4 t3 t4 (farStore_os (P:=P) e1) (by omega) (fun b h=>hkp b h) (fun _ b o h1 h2=>hob b o h1 h2) (Evs.app fun e he=>?_)
      simp only[List.map_toArray,List.mem_toArray,List.mem_map] at he
      obtain⟨x,hx,rfl⟩:=he
      exact⟨by rw[sz];exact(hin x hx).1,(hin x hx).2⟩
 |@new o k _ ih=>
  intro w es w₀ L₀
  obtain⟨n,hn⟩:=ih w.heap.size {w with heap:=w.heap.push o} es {w₀ with heap:=w₀.heap.push o} (L₀.push o)
  refine⟨n,fun w₂ L A=>?_⟩
  simp only[Sem.runT,L.size]
  exact(hn _ (L.push o) (A.of_eq rfl rfl rfl rfl)).pre rfl rfl rfl rfl ⟨rfl,rfl⟩ (by simp) (fun b h=>push_lt o (Like.lt_of_get (L.hid b h).choose_spec.choose_spec.1)) (fun _ b o' h1 _=>(push_lt o (Like.lt_of_get h1)).trans h1) (Evs.refl _ _)
 |@shape r k he _ ih=>
  intro w es w₀ L₀
  obtain⟨n,hn⟩:=ih (w.shape? r) w es w₀ L₀
  refine⟨n,fun w₂ L A=>?_⟩
  simp only[Sem.runT,he _ _ (L.shape r)]
  exact hn w₂ L A
 |@shapeD r k hd _ ih=>
  intro w es w₀ L₀
  by_cases hb:H r
  ·refine⟨0,fun w₂ L _=>?_⟩
   obtain⟨c,e,_,he⟩:=L.hid _ hb
   obtain⟨h,w',es',e',hn⟩:=hd e w₂ es
   have:(Sem.shape r k).runT P w₂ es=(.halt h w',es'):=by
    simp only[Sem.runT,World.shape?,he]
    exact e'
   rw[this]
   exact Fits.bad hn
  ·obtain⟨n,hn⟩:=ih (w.shape? r) w es w₀ L₀
   refine⟨n,fun w₂ L A=>?_⟩
   have e:w₂.shape? r=w.shape? r:=by simp only[World.shape?,L.same _ hb]
   simp only[Sem.runT,e]
   exact hn w₂ L A
 |@frozen a k _ ih=>
  intro w es w₀ L₀
  obtain⟨n,hn⟩:=ih (w.frozen? a) w es w₀ L₀
  refine⟨n,fun w₂ L A=>?_⟩
  simp only[Sem.runT,L.frozen_eq]
  exact hn w₂ L A
 |@getObj r k _ ih=>
  intro w es w₀ L₀
  by_cases hb:H r
  ·refine⟨0,fun w₂ L _=>?_⟩
   obtain⟨_,e,_,he⟩:=L.hid _ hb
   simp only[Sem.runT,he]
   exact Fits.bad trivial
  ·cases hr:w.heap[r]? with
   |none=>exact⟨0,fun w₂ L _=>by simp only[Sem.runT,(L.same _ hb).trans hr];exact Fits.bad trivial⟩
   |some o=>
    by_cases hco:∃c e f,o= .cells c e f
    ·obtain⟨c,e,f,rfl⟩:=hco
     exact⟨0,fun w₂ L _=>by simp only[Sem.runT,(L.same _ hb).trans hr];exact Fits.bad trivial⟩
    ·obtain⟨n,hn⟩:=ih o w (es.push ⟨.obj r,false,o.isChan⟩) w₀ L₀
     refine⟨n,fun w₂ L A=>?_⟩
     have hh:=(hn w₂ L A).pre (w:=w) (w₂:=w₂) (es:=es) rfl rfl rfl rfl ⟨rfl,rfl⟩ (Nat.le_refl _) (fun _ _=>rfl) (fun _ _ _ h _=>h) (Evs.push ⟨(fun e=>by cases e),Like.lt_of_get hr,hb⟩)
     cases o with
     |cells c e f=>exact absurd ⟨c,e,f,rfl⟩ hco
     |_=>simpa only[Sem.runT,(L.same _ hb).trans hr,hr] using hh
 |@setObj r o k hob _ ih=>
  intro w es w₀ L₀
  by_cases hb:H r
  ·refine⟨0,fun w₂ L _=>?_⟩
   obtain⟨_,e,_,he⟩:=L.hid _ hb
   simp only[Sem.runT,he]
   exact Fits.bad trivial
  ·cases hr:w.heap[r]? with
   |none=>exact⟨0,fun w₂ L _=>by simp only[Sem.runT,(L.same _ hb).trans hr];exact Fits.bad trivial⟩
   |some o'=>
    by_cases hco:∃c e f,o'= .cells c e f
    ·obtain⟨c,e,f,rfl⟩:=hco
     exact⟨0,fun w₂ L _=>by simp only[Sem.runT,(L.same _ hb).trans hr];exact Fits.bad trivial⟩
    ·obtain⟨n,hn⟩:=ih {w with heap:=w.heap.setIfInBounds r o} (es.push ⟨.obj r,true,o.isChan⟩) _ (L₀.setObj hb o)
     refine⟨n,fun w₂ L A=>?_⟩
     have hh:=(hn _ (L.setObj hb o) (A.of_eq rfl rfl rfl rfl)).pre (w:=w) (w₂:=w₂) (es:=es) rfl rfl rfl rfl ⟨rfl,rfl⟩ (by simp) (fun b h=>Array.getElem?_setIfInBounds_ne (fun e':r=b=>hb (by rw[e'];exact h))) (fun e=>by rw[hob] at e;cases e) (Evs.push ⟨fun _=>hob,by simpa using Like.lt_of_get hr,hb⟩)
     cases o' with
     |cells c e f=>exact absurd ⟨c,e,f,rfl⟩ hco
     |_=>simpa only[Sem.runT,(L.same _ hb).trans hr,hr] using hh
 |@choose q k _ ih=>
  intro w es w₀ L₀
  by_cases hq:q.forced=true
  ·obtain⟨n,hn⟩:=ih 0 w es w₀ L₀
   exact⟨n,fun w₂ L A=>by simpa only[Sem.runT,hq,if_true] using hn w₂ L A⟩
  ·obtain⟨n,hn⟩:=ih (q.cut (w.tape w.drawn q)) {w with drawn:=w.drawn+1} es {w₀ with drawn:=w₀.drawn+1} (L₀.draw _ _)
   refine⟨n+1,fun w₂ L A=>?_⟩
   have e0:w₂.tape w₂.drawn q=w.tape w.drawn q:=A 0 (by omega) q
   simp only[Sem.runT,hq,Bool.false_eq_true,if_false,e0]
   refine(hn _ (L.draw _ _) (fun i hi q'=>?_)).draw
   have:=A (i+1) (by omega) q'
   simpa[Nat.add_assoc,Nat.add_comm 1 i] using this
 |@program k _ ih=>
  intro w es w₀ L₀
  obtain⟨n,hn⟩:=ih w es w₀ L₀
  exact⟨n,fun w₂ L A=>hn w₂ L A⟩
 |@room k _ ih=>
  intro w es w₀ L₀
  obtain⟨n,hn⟩:=ih w (es.push ⟨.mark .noRoom,false,true⟩) w₀ L₀
  refine⟨n,fun w₂ L A=>?_⟩
  simp only[Sem.runT]
  exact(hn w₂ L A).pre rfl rfl rfl rfl ⟨rfl,rfl⟩ (Nat.le_refl _) (fun _ _=>rfl) (fun _ _ _ h _=>h) (Evs.push rfl)
 |halt h=>
  refine fun w es w₀ _=>⟨0,fun w₂ L _=>?_⟩
  rcases h with⟨v,rfl⟩|h
  ·exact⟨w,rfl,⟨L,rfl,rfl,rfl,rfl,Nat.le_refl _,rfl,rfl,fun _ _=>rfl,fun _ _ _ h _=>h⟩,Evs.refl _ _⟩
  ·exact Fits.bad h
 |doomed hd=>
  refine fun w es w₀ _=>⟨0,fun w₂ L _=>?_⟩
  obtain⟨h,w',es',e,hn⟩:=hd w₂ es
  rw[e]
  exact Fits.bad hn
end
end Go.Side
