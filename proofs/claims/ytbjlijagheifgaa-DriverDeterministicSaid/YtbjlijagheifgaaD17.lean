/-
  Texts of Ytbjlijagheifgaa, merged.
-/
import Derived.Test.YtbjlijagheifgaaD16
import Derived.Test.YtbjlijagheifgaaD12
import Derived.Test.YtbjlijagheifgaaD1
set_option linter.unusedSimpArgs false
set_option linter.unusedVariables false
namespace Go.Side
section
open Go
variable {ob:Bool} {P:Program}
def calleeOf:Value→Option (Option FuncId)
 | .func (.func f) _ _=>some (some f)
 | .func _ _ _=>some none
 |_=>none
structure Fns where
 l:List FuncId
 sl:List (FuncId×Nat)
 dl:List FuncId
def okFn(dl:List FuncId)(v:Value):Prop:=∀r,calleeOf v=some r→∃g,r=some g∧g∈dl
def LeafN(V:Value→Prop)(L:FuncId→Array Value→Prop):Next→Prop
 | .value v=>V v
 | .skip=>True
 | .enter f xs=>L f xs
 |_=>False
theorem leaf_val{V:Value→Prop}{L:FuncId→Array Value→Prop}(hV:∀v,V v){s:Sem Value}(h:Pl ob P s):PlainSem ob P (LeafN V L) (do pure (.value (←s)):Sem Next):=Pl.b h fun _=>pl_pure (hV _)
theorem leaf_unit{V:Value→Prop}{L:FuncId→Array Value→Prop}{s:Sem Unit}(h:Pl ob P s):PlainSem ob P (LeafN V L) (do s;pure .skip:Sem Next):=Pl.b h fun _=>pl_pure trivial
def goFunc(P:Program)(f:FuncId):Bool:=match P.funcs[f]? with|some fn=>fn.body.isSome&&fn.name != "runtime.NumGoroutine" |none=>false
theorem pl_callFunc{V:Value→Prop}{L:FuncId→Array Value→Prop}{f:FuncId}{args:Array Value}(h:goFunc P f=true)(hL:L f args):PlainSem ob P (LeafN V L) (callFunc f args):=by
 unfold callFunc
 refine PlainSem.bind plq_program fun p hp=>?_
 subst hp
 unfold goFunc at h
 cases e:p.funcs[f]? with
 |none=>exact pl_stuck _
 |some fn=>
  simp only[e,Bool.and_eq_true,bne_iff_ne,ne_eq] at h
  simp only
  rw[if_neg (by simpa using h.2),if_neg (by cases hb:fn.body<;>simp_all)]
  exact pl_pure hL
def fixedCallee:Operand→Option FuncId
 | .func f=>some f
 |_=>none
def Fns.own(L:Fns)(fn:Option FuncId)(d:Nat):Bool:=match fn with
 |none=>false
 |some f=>L.sl.contains (f,d)
def Fns.opnd(L:Fns)(fn:Option FuncId):Operand→Bool
 | .tmp m=>L.own fn m
 | .func g=>L.dl.contains g
 |_=>false
def Fns.put(L:Fns)(fn:Option FuncId)(o:Oper):Bool:=match o.dst with
 |none=>true
 |some d=> !L.own fn d||(match o.op with
  | .move x| .assign x=>L.opnd fn x
  | .makeFunc (.func g) _ _=>L.dl.contains g
  |_=>false)
def Fns.pass(L:Fns)(fn:Option FuncId)(f:FuncId)(args:Array Operand):Bool:=
 L.sl.all fun p=>p.1 !=f||(match args[p.2]? with|some x=>L.opnd fn x|none=>true)
def opPlain(ob:Bool)(fn:Option FuncId)(P:Program)(L:Fns)(o:Oper):Bool:=
 L.put fn o&&match o.op with
 | .move _| .assign _| .pick .. | .alloc _| .box .. | .build .. | .buildSlice .. | .load .. | .store .. | .unOp .. | .makeSlice .. | .slice .. | .fieldAddr .. | .indexAddr .. | .extract .. | .makeFunc .. =>true
 | .nilCheck _=>true
 | .binOp op t _ y _=>binPlain P op t y
 | .convert s d _=>(match P.underlying s,P.underlying d with|some (.int _),some (.int _)=>true|_,_=>false)
 | .call {callee:=.builtin .len,.. }=>true
 | .call {callee:=.builtin .append,argTypes,.. }=>(match argTypes[1]? with|some t=>(match P.underlying t with|some (.int _)=>false|_=>true)|none=>true)
 | .call {callee:=.value x,args,.. }=>(match fixedCallee x with|some f=>L.l.contains f&&L.pass fn f args|none=>L.opnd fn x)
 | .makeMap _ none=>true
 | .lookup t _ _ _=>intKeys P t
 | .mapUpdate t _ _ _=>ob&&intKeys P t
 |_=>false
structure Fns.OK(P:Program)(L:Fns):Prop where
 go:∀f∈L.l,goFunc P f=true
 sub:∀f∈L.dl,f∈L.l
 no:∀p∈L.sl,p.1∉L.dl
def SlotsA(fn:Option FuncId)(L:Fns)(a:Act):Prop:=∀d,L.own fn d=true→okFn L.dl (a.tmps.getD d undef)
def SlotsF(f:FuncId)(L:Fns)(args:Array Value):Prop:=∀d,(f,d)∈L.sl→okFn L.dl (args.getD d undef)
theorem okFn_undef{dl:List FuncId}:okFn dl undef:=fun r h=>by cases h
theorem okFn_opnd{fn:Option FuncId}{L:Fns}{a:Act}(h:SlotsA fn L a){x:Operand}(hx:L.opnd fn x=true):okFn L.dl (a.eval x):=by
 cases x<;>simp only[Fns.opnd,Bool.false_eq_true] at hx
 ·exact h _ hx
 ·intro r hr
  rename_i g
  exact⟨g,(Option.some.inj hr).symm,by simpa using hx⟩
theorem pl_followBlind:∀(l:List FieldStep) (t:TypeId) (x:Option Value),Pl ob P (followBlind l t x)
 |[],_,_=>pl_pure trivial
 |s::rest,t,x=>by
  unfold followBlind
  have hjp:∀t x,Pl ob P (followBlind rest t x):=pl_followBlind rest
  refine Pl.b (pl_underlying _) fun d=>?_
  split
  ·split
   ·split
    all_goals first
     |exact pl_pure trivial
     |exact pl_stuck _
     |exact hjp _ _
     |exact Pl.b (pl_part _ _ _) fun _=>hjp _ _
   ·exact pl_stuck _
  ·exact pl_stuck _
theorem pl_nilAhead:∀(n:Nat) (t:TypeId) (v:Value) (s:String),Pl ob P (nilAhead n t v s)
 |0,_,_,_=>pl_pure trivial
 |n+1,t,v,s=>by
  unfold nilAhead
  have hjp:∀t x,Pl ob P (nilAhead n t x s):=fun t x=>pl_nilAhead n t x s
  refine Pl.b (pl_typeInfo _) fun d=>?_
  split
  ·refine Pl.b (pl_followBlind _ _ _) fun r=>?_
   split
   ·exact pl_pure trivial
   ·split
    all_goals first
     |exact pl_pure trivial
     |exact pl_stuck _
     |exact hjp _ _
     |skip
    refine Pl.b (pl_underlying _) fun d=>?_
    split<;>exact pl_pure trivial
  ·exact pl_stuck _
theorem binPlain_nil{op:BinOp}{t:TypeId}{y:Operand}(h:binPlain P op t y=true)(ho:op= .eql∨op= .neq)(a:Act):eqPlain P t=true∨NilV (a.eval y):=by
 have h':(eqPlain P t||isNilConst y)=true:=by
  rcases ho with rfl|rfl<;>exact h
 rw[Bool.or_eq_true] at h'
 refine h'.imp id fun h'=>?_
 unfold isNilConst at h'
 split at h'
 ·exact .inl rfl
 ·exact .inr rfl
 ·cases h'
def PutsA(fn:Option FuncId)(L:Fns)(o:Oper)(v:Value):Prop:=∀d,o.dst=some d→L.own fn d=true→okFn L.dl v
def CallA(fn:Option FuncId)(L:Fns)(o:Oper)(f:FuncId)(args:Array Value):Prop:=f∈L.l∧SlotsF f L args∧∀d,o.dst=some d→L.own fn d=false
theorem plain_op{fn:Option FuncId}{L:Fns}{o:Oper}(h:opPlain ob fn P L o=true)(K:L.OK P)(a:Act)(hA:SlotsA fn L a):PlainSem ob P (LeafN (PutsA fn L o) (CallA fn L o)) (execOp a.eval o):=by
 unfold opPlain at h
 rw[Bool.and_eq_true] at h
 obtain⟨hput,h⟩:=h
 by_cases hown:∃d,o.dst=some d∧L.own fn d=true
 ·obtain⟨d,hd,hd'⟩:=hown
  unfold Fns.put at hput
  simp only[hd,hd',Bool.not_true,Bool.false_or] at hput
  unfold execOp
  split at hput<;>rename_i e<;>(try simp only[e])<;>(try dsimp only)
  ·exact pl_pure fun _ _ _=>okFn_opnd hA hput
  ·exact pl_pure fun _ _ _=>okFn_opnd hA hput
  ·rename_i g first captured
   refine PlainSem.bind (Q:=fun v=>v= .func (.func g) (first.map a.eval) (captured.map a.eval)) (.pure rfl) fun v hv=>pl_pure fun _ _ _ r hr=>?_
   subst hv
   exact⟨g,(Option.some.inj hr).symm,by simpa using hput⟩
  ·cases hput
 have hV:∀v,PutsA fn L o v:=fun v d h1 h2=>absurd ⟨d,h1,h2⟩ hown
 have hD:∀d,o.dst=some d→L.own fn d=false:=fun d h1=>by
  cases h2:L.own fn d with
  |false=>rfl
  |true=>exact absurd ⟨d,h1,h2⟩ hown
 unfold execOp
 split at h<;>rename_i e<;>simp only[e]<;>try dsimp only
 ·exact pl_pure (hV _)
 ·exact pl_pure (hV _)
 ·exact Pl.b (pl_asBool _) fun _=>pl_pure (hV _)
 ·exact leaf_val hV (pl_alloc _ _ _)
 ·exact leaf_val hV (pl_box _ _)
 ·exact leaf_val hV (pl_build _ _)
 ·exact leaf_val hV (pl_buildSlice _ _ _)
 ·exact leaf_val hV (pl_loadAt _ _)
 ·exact leaf_unit (pl_storeAt _ _ _)
 ·exact leaf_val hV (pl_unary _ _)
 ·exact leaf_val hV (pl_makeSlice _ _ _)
 ·exact leaf_val hV (pl_sliceAt _ _ _ _ _)
 ·exact leaf_val hV (pl_fieldAt _ _ _)
 ·exact leaf_val hV (pl_indexAt _ _ _)
 ·exact leaf_val hV (pl_extract _ _)
 ·exact leaf_val hV (pl_pure trivial)
 ·split
  any_goals exact pl_runtimePanic _
  any_goals exact pl_pure (hV _)
  split
  ·exact pl_runtimePanic _
  ·refine Pl.b pl_program fun p=>Pl.b (pl_nilAhead _ _ _ _) fun r=>?_
   split
   ·exact Pl.b (pl_unsup _) fun _=>pl_pure (hV _)
   ·exact pl_pure (hV _)
  ·exact pl_pure (hV _)
 ·rename_i op t x y t'
  have hb:=fun ho=>binPlain_nil h ho a
  refine leaf_val hV (Pl.b (pl_eqGuard _ _ _ _ _ _ fun ho=>?_) fun _=>pl_binOp _ _ hb)
  refine(hb ho).imp (fun he=>?_) id
  unfold eqPlain at he
  simp only[Bool.and_eq_true,Bool.not_eq_true'] at he
  refine⟨he.2,fun ms hm=>?_⟩
  rw[hm] at he
  cases he.1
 ·rename_i s d x
  split at h
  ·rename_i k k' e1 e2
   exact leaf_val hV (pl_convert e1 e2 _)
  ·cases h
 ·exact leaf_val hV (pl_len _ _ _)
 ·rename_i ts
  refine leaf_val hV (pl_append _ _ fun t ht k hk=>?_)
  simp[ht,hk] at h
 ·rename_i x args ts
  have hcal:∀g first captured,a.eval x= .func g first captured→∃f,g= .func f∧f∈L.l∧SlotsF f L (first++args.map a.eval++captured):=by
   intro g first captured he
   cases hx:fixedCallee x with
   |some f=>
    rw[hx] at h
    simp only[Bool.and_eq_true] at h
    obtain⟨h1,h2⟩:=h
    cases x<;>simp only[fixedCallee,Option.some.injEq,reduceCtorEq] at hx
    subst hx
    simp only[Act.eval,Value.func.injEq] at he
    obtain⟨rfl,rfl,rfl⟩:=he
    refine⟨_,rfl,by simpa using h1,fun d hd=>?_⟩
    unfold Fns.pass at h2
    rw[List.all_eq_true] at h2
    have h3:=h2 _ hd
    simp only[bne_self_eq_false,Bool.false_or] at h3
    have e:(#[]++args.map a.eval++ #[]).getD d undef=((args[d]?).map a.eval).getD undef:=by simp[Array.getD_eq_getD_getElem?]
    rw[e]
    cases hy:args[d]? with
    |none=>exact okFn_undef
    |some y=>rw[hy] at h3;exact okFn_opnd hA h3
   |none=>
    rw[hx] at h
    have h1:=okFn_opnd hA h
    rw[he] at h1
    cases g with
    |func f=>
     obtain⟨g',e,hm⟩:=h1 _ rfl
     obtain rfl:=Option.some.inj e
     exact⟨f,rfl,K.sub f hm,fun d hd=>absurd hm (K.no _ hd)⟩
    |_=>obtain⟨g',e,hm⟩:=h1 none rfl;cases e
  unfold resolve
  dsimp only
  unfold Deferred.ofValue
  split
  ·rename_i g first captured he
   obtain⟨f,rfl,hm,hs⟩:=hcal _ _ _ he
   refine PlainSem.bind (Q:=fun d=>d={target:=.fn (.func f) captured,args:=first++args.map a.eval}) (.pure rfl) fun d hd=>?_
   subst hd
   unfold invoke
   exact pl_callFunc (K.go f hm) ⟨hm,hs,hD⟩
  ·refine PlainSem.bind (Q:=fun d=>d.target= .nil) (.pure rfl) fun d hd=>?_
   unfold invoke
   rw[hd]
   exact pl_runtimePanic _
  ·exact PlainSem.bind (Q:=fun _=>False) (pl_stuck _) fun _ h=>h.elim
 ·exact leaf_val hV (pl_makeMap _)
 ·exact leaf_val hV (pl_lookup h _ _ _)
 ·rw[Bool.and_eq_true] at h
  obtain⟨rfl,h⟩:=h
  exact leaf_unit (pl_mapUpdate h _ _ _)
 ·cases h
end
section
open Go Go.Conc
structure Covers(ob:Bool)(H:Nat→Prop)(T:Terr)(w:World):Prop where
 cell:∀a:Addr,a.block<w.heap.size→¬H a.block→T.wr (.cell a)
 row:∀b:Nat,¬H b→(∃c e f,w.heap[b]?=some (Obj.cells c e f))→T.wr (.obj b)
 obj:ob=true→∀b:Nat,b<w.heap.size→¬H b→T.wr (.obj b)
 see:∀b:Nat,b<w.heap.size→¬H b→T.rd (.obj b)
 kn:∀b,T.kn b
structure Aft(ob:Bool)(H:Nat→Prop)(T:Terr)(w w':World):Prop where
 tape:w'.tape=w.tape
 os:w'.os=w.os
 out:w'.output=w.output
 size:w.heap.size≤w'.heap.size
 cell:∀a:Addr,H a.block→T.rd (.cell a)→w'.cell? a=w.cell? a
 kin:∀(b:Nat) (o:Obj),H b→w.heap[b]?=some o→∃o',w'.heap[b]?=some o'∧Kin o o'
 objs:ob=false→∀(b:Nat) (o:Obj),w.heap[b]?=some o→(∀c e f,o≠Obj.cells c e f)→w'.heap[b]?=some o
def lrun(P:Program):Nat→Goroutine→World→Option (Goroutine×World)
 |0,g,w=>some (g,w)
 |n+1,g,w=>match stepG P true g w with
  | .go g' w' _=>lrun P n g' w'
  |_=>none
section
variable {ob:Bool} {H:Nat→Prop} {P:Program} {T:Terr} {w w' w₁ w₂:World}
theorem lrun_add(a b:Nat)(g:Goroutine)(w:World):lrun P (a+b) g w=(lrun P a g w).bind fun x=>lrun P b x.1 x.2:=by
 induction a generalizing g w with
 |zero=>simp[lrun]
 |succ a ih=>
  rw[Nat.add_right_comm]
  simp only[lrun]
  cases stepG P true g w<;>simp[ih]
theorem Covers.rely(h:Covers ob H T w)(r:Rely true T w w₁):Covers ob H T w₁:=by
 have hs:=(r.quiet rfl).1
 refine⟨fun a ha hn=>h.cell a (by omega) hn,fun b hn ⟨c,e,f,hb⟩=>?_,fun e b hb hn=>h.obj e b (by omega) hn,fun b hb hn=>h.see b (by omega) hn,h.kn⟩
 have hlt:b<w.heap.size:=by have:=(Array.getElem?_eq_some_iff.1 hb).1;omega
 cases ho:w.heap[b]? with
 |none=>rw[Array.getElem?_eq_none_iff] at ho;omega
 |some o=>
  refine h.row b hn ?_
  by_cases hc:∃c e f,o=Obj.cells c e f
  ·obtain⟨c',e',f',rfl⟩:=hc
   exact⟨_,_,_,ho⟩
  ·have:=(r.quiet rfl).2 b o ho fun c e f x=>hc ⟨c,e,f,x⟩
   rw[hb] at this
   exact absurd ⟨_,_,_,(Option.some.inj this).symm⟩ hc
theorem like_rely(L:Like H w w₂)(h:Covers ob H T w)(r:Rely true T w w₁):Like H w₁ w₂:=by
 have hs:=(r.quiet rfl).1
 refine⟨L.size.trans hs.symm,fun b hn=>(L.same b hn).trans ?_,fun b hb=>?_,L.os.trans r.os.symm,L.out.trans r.out.symm⟩
 ·cases ho:w.heap[b]? with
  |none=>
   rw[Array.getElem?_eq_none_iff] at ho
   exact(Array.getElem?_eq_none_iff.2 (by omega)).symm
  |some o=>
   by_cases hc:∃c e f,o=Obj.cells c e f
   ·obtain⟨c,e,f,rfl⟩:=hc
    obtain⟨o',h1,c',rfl,h2⟩:=r.kin b _ (.inl (h.kn b)) ho
    have:c'=c:=by
     apply Array.ext_getElem?
     intro i
     have:=r.cell ⟨b,i,none⟩ (.inr (h.cell _ (Array.getElem?_eq_some_iff.1 ho).1 hn))
     simpa[World.cell?,h1,ho] using this
    rw[h1,this]
   ·exact((r.quiet rfl).2 b o ho fun c e f x=>hc ⟨c,e,f,x⟩).symm
 ·obtain⟨c,e,h1,h2⟩:=L.hid b hb
  obtain⟨o',h3,c',rfl,_⟩:=r.kin b _ (.inl (h.kn b)) h1
  exact⟨c',e,h3,h2⟩
theorem Aft.refl(ob:Bool)(H:Nat→Prop)(T:Terr)(w:World):Aft ob H T w w:=⟨rfl,rfl,rfl,Nat.le_refl _,fun _ _ _=>rfl,fun _ o _ h=>⟨o,h,.refl o⟩,fun _ _ _ h _=>h⟩
theorem Aft.rely{T':Terr}(h:Aft ob H T w w')(hT:∀l,T.rd l→T'.rd l)(hk:∀b,T'.kn b)(r:Rely true T' w' w₁):Aft ob H T w w₁:=
 ⟨r.tape.trans h.tape,r.os.trans h.os,r.out.trans h.out,Nat.le_trans h.size r.size,fun a ha hr=>(r.cell a (hT _ hr)).trans (h.cell a ha hr),
  fun b o hb ho=>let⟨o₁,h1,k1⟩:=h.kin b o hb ho;let⟨o₂,h2,k2⟩:=r.kin b o₁ (.inl (hk b)) h1;⟨o₂,h2,k1.trans k2⟩,
  fun e b o ho hn=>(r.quiet rfl).2 b o (h.objs e b o ho hn) hn⟩
theorem Aft.tied{n:Nat}{u u₂:World}(h:Aft ob H T w w')(t:Tied ob H n w' w₂ u u₂):Aft ob H T w u:=
 ⟨t.tape.trans h.tape,t.os.trans h.os,t.out.trans h.out,Nat.le_trans h.size t.grown,
  fun a ha hr=>by rw[←h.cell a ha hr];simp only[World.cell?,t.keep _ ha],
  fun b o hb ho=>by rw[t.keep b hb];exact h.kin b o hb ho,fun e b o ho hn=>t.objs e b o (h.objs e b o ho hn) hn⟩
end
def Coupled(ob:Bool)(H:Nat→Prop)(P:Program){Conf:Type}(lo tr:Conf→Goroutine)(WF:Conf→Prop)(c:Conf)(w:World):Prop:=
 (∃n,∀w₂,Like H w w₂→Agree n w w₂→∃o u es,stepG P true (lo c) w₂= .ended o u es)∨
 ∃n c' w' es,WF c'∧stepG P true (tr c) w= .go (tr c') w' es∧(∀e∈es,EvP ob H w'.heap.size e)∧
  ∀w₂,Like H w w₂→Agree n w w₂→(∃o u es,stepG P true (lo c) w₂= .ended o u es)∨∃u₂ es₂,stepG P true (lo c) w₂= .go (lo c') u₂ es₂∧Tied ob H n w w₂ w' u₂
def AgreeL(pre:List (Question→Nat))(w₂:World):Prop:=∀(i:Nat) (f:Question→Nat),pre[i]?=some f→∀q,w₂.tape (w₂.drawn+i) q=f q
def tapeOf(l:World)(pre:List (Question→Nat)):World:={l with tape:=fun j q=>((pre[j-l.drawn]?).map (· q)).getD 0}
theorem agree_tapeOf(l:World)(pre:List (Question→Nat)):AgreeL pre (tapeOf l pre):=by
 intro i f h q
 simp[tapeOf,h]
theorem Like.retape{H:Nat→Prop}{w l:World}(L:Like H w l)(τ:Nat→Question→Nat):Like H w {l with tape:=τ}:=⟨L.size,L.same,L.hid,L.os,L.out⟩
structure BSt(Conf:Type) where
 c:Conf
 w:World
 T:Terr
 pre:List (Question→Nat)
section
variable {ob:Bool} {H:Nat→Prop} {P:Program} {Conf:Type} {lo tr:Conf→Goroutine} {WF:Conf→Prop} {FinG:Goroutine→Prop} {E:Goroutine→World→Prop} {c₀:Conf} {w l₀:World} {T:Terr}
def BStop(ob:Bool)(H:Nat→Prop)(lo tr:Conf→Goroutine)(WF:Conf→Prop)(FinG:Goroutine→Prop)(E:Goroutine→World→Prop)(T:Terr)(w:World)(T':Terr)(g':Goroutine)(w':World):Prop:=
 ∃c' u,WF c'∧FinG (lo c')∧g'=tr c'∧Like H w' u∧E (lo c') u∧Covers ob H T' w'∧Aft ob H T w w'∧T'.ro=T.ro∧T'.kn=T.kn∧∀l,T'.wr l↔T.wr l∨Fresh w.heap.size w'.heap.size l
structure Bad(ob:Bool)(H:Nat→Prop)(P:Program)(lo tr:Conf→Goroutine)(WF:Conf→Prop)(FinG:Goroutine→Prop)(E:Goroutine→World→Prop)(c₀:Conf)(T:Terr)(w:World)(s:BSt Conf)(M:Nat):Prop where
 wf:WF s.c
 cov:Covers ob H s.T s.w
 aft:Aft ob H T w s.w
 ro:s.T.ro=T.ro
 kn:s.T.kn=T.kn
 wr:∀l,s.T.wr l↔T.wr l∨Fresh w.heap.size s.w.heap.size l
 like:∃l,Like H s.w l
 bad:¬GoesV P true true (BStop ob H lo tr WF FinG E T w) s.T (tr s.c) s.w
 run:∀w₂,Like H w w₂→AgreeL s.pre w₂→(∃u₂,lrun P M (lo c₀) w₂=some (lo s.c,u₂)∧Like H s.w u₂∧u₂.drawn=w₂.drawn+s.pre.length∧u₂.tape=w₂.tape)∧
  ∀K,K<M→∀g u,lrun P K (lo c₀) w₂=some (g,u)→¬FinG g
def Ends(H:Nat→Prop)(P:Program)(lo:Conf→Goroutine)(FinG:Goroutine→Prop)(E:Goroutine→World→Prop)(c₀:Conf)(w:World):Prop:=
 ∀w₂,Like H w w₂→∃N g u,lrun P N (lo c₀) w₂=some (g,u)∧FinG g∧E g u∧∀M,M<N→∀g' u',lrun P M (lo c₀) w₂=some (g',u')→¬FinG g'
theorem Bad.notFin{s:BSt Conf}{M:Nat}(LH:Ends H P lo FinG E c₀ w)(L₀:Like H w l₀)(h:Bad ob H P lo tr WF FinG E c₀ T w s M):¬FinG (lo s.c):=by
 intro hf
 have L:=L₀.retape (tapeOf l₀ s.pre).tape
 obtain⟨⟨u₂,h1,h2,_,_⟩,h5⟩:=h.run _ L (agree_tapeOf l₀ s.pre)
 obtain⟨N,g,u,k1,k2,k3,k4⟩:=LH _ L
 rcases Nat.lt_trichotomy N M with hlt|rfl|hgt
 ·exact h5 N hlt _ _ k1 k2
 ·rw[h1] at k1
  simp only[Option.some.injEq,Prod.mk.injEq] at k1
  obtain⟨rfl,rfl⟩:=k1
  exact h.bad (.stop fun w₁ r=>⟨s.c,u₂,h.wf,hf,rfl,like_rely h2 h.cov r,k3,h.cov.rely r,h.aft.rely (fun l hl=>by rcases hl with hl|hl;exact .inl (h.ro▸hl);exact .inr ((h.wr l).2 (.inl hl))) h.cov.kn r,h.ro,h.kn,fun l=>by rw[(r.quiet rfl).1];exact h.wr l⟩)
 ·exact k4 M hgt _ _ h1 hf
theorem Covers.tied{n:Nat}{T:Terr}{w w₂ w' u₂:World}(h:Covers ob H T w)(t:Tied ob H n w w₂ w' u₂):Covers ob H (T.grow w.heap.size w'.heap.size) w':=by
 refine⟨fun a ha hn=>?_,fun b hn ⟨c,e,f,hb⟩=>?_,fun e b hb hn=>?_,fun b hb hn=>?_,h.kn⟩
 ·rcases Nat.lt_or_ge a.block w.heap.size with hl|hl
  ·exact .inl (h.cell a hl hn)
  ·exact .inr ⟨hl,ha⟩
 ·have hb':=(Array.getElem?_eq_some_iff.1 hb).1
  rcases Nat.lt_or_ge b w.heap.size with hl|hl
  ·left
   cases ob with
   |true=>exact h.obj rfl b hl hn
   |false=>
    refine h.row b hn ?_
    by_cases hc:∃c e f,w.heap[b]=Obj.cells c e f
    ·obtain⟨c',e',f',hc⟩:=hc
     exact⟨c',e',f',by rw[Array.getElem?_eq_getElem hl,hc]⟩
    ·have:=t.objs rfl b _ (Array.getElem?_eq_getElem hl) fun c e f x=>hc ⟨c,e,f,x⟩
     rw[hb] at this
     exact absurd ⟨_,_,_,(Option.some.inj this).symm⟩ hc
  ·exact .inr ⟨hl,hb'⟩
 ·rcases Nat.lt_or_ge b w.heap.size with hl|hl
  ·exact .inl (h.obj e b hl hn)
  ·exact .inr ⟨hl,hb⟩
 ·rcases Nat.lt_or_ge b w.heap.size with hl|hl
  ·exact Terr.grow_of (h.see b hl hn)
  ·exact .inr (.inr ⟨hl,hb⟩)
theorem Covers.guar{n:Nat}{T:Terr}{w w₂ w' u₂:World}{es:Array Event}(h:Covers ob H T w)(t:Tied ob H n w w₂ w' u₂)(he:∀e∈es,EvP ob H w'.heap.size e):Guar true false T w w' es:=by
 classical
 have hc:=h.tied t
 refine⟨t.tape,t.os,t.out,t.grown,fun a ha hn=>?_,fun _ b hb hn=>?_,(fun e=>by cases e),(fun e=>by cases e),(fun e=>by cases e),fun e hm=>?_⟩
 ·have:H a.block:=Classical.byContradiction fun x=>hn (h.cell a ha x)
  simp only[World.cell?,t.keep _ this]
 ·by_cases hb':H b
  ·exact t.keep b hb'
  ·have ho:w.heap[b]?=some w.heap[b]:=Array.getElem?_eq_getElem hb
   cases ob with
   |true=>exact absurd (h.obj rfl b hb hb') hn
   |false=>
    rw[ho]
    refine t.objs rfl b _ ho fun c e f x=>hn (h.row b hb' ⟨c,e,f,by rw[ho,x]⟩)
 ·have:=he e hm
  obtain⟨l,wr,sy⟩:=e
  cases l with
  |cell a=>exact⟨this.1,.inr (hc.cell a this.1 this.2),fun _=>hc.cell a this.1 this.2⟩
  |obj r=>exact⟨this.2.1,hc.see r this.2.1 this.2.2,fun hw=>hc.obj (this.1 hw) r this.2.1 this.2.2⟩
  |mark m=>exact this
  |_=>exact this
theorem Bad.next{s:BSt Conf}{M:Nat}(htr:∀c,WF c→(tr c).status= .running)(CS:∀c w w₀,WF c→¬FinG (lo c)→Like H w w₀→Coupled ob H P lo tr WF c w)(LH:Ends H P lo FinG E c₀ w)(L₀:Like H w l₀)(h:Bad ob H P lo tr WF FinG E c₀ T w s M):
  ∃s',Bad ob H P lo tr WF FinG E c₀ T w s' (M+1)∧∃x,s'.pre=s.pre++x:=by
 have hnf:=h.notFin LH L₀
 obtain⟨w₁,r,hno⟩:∃w₁,Rely true s.T s.w w₁∧¬(stepG P true (tr s.c) w₁).goes fun g' w' es=>Guar true false s.T w₁ w' es∧GoesV P true true (BStop ob H lo tr WF FinG E T w) (s.T.grow w₁.heap.size w'.heap.size) g' w':=
  Classical.byContradiction fun hx=>h.bad (GoesV.next (htr _ h.wf) fun w₁ r=>Classical.byContradiction fun hy=>hx ⟨w₁,r,hy⟩)
 obtain⟨l,hl⟩:=h.like
 have ext:∀(n:Nat) (w₂:World),AgreeL (s.pre++(List.range n).map fun i=>w₁.tape (w₁.drawn+i)) w₂→AgreeL s.pre w₂∧∀u₂:World,u₂.drawn=w₂.drawn+s.pre.length→u₂.tape=w₂.tape→Agree n w₁ u₂:=by
  intro n w₂ ha
  refine⟨fun i f hf=>ha i f (by rw[List.getElem?_append_left (List.getElem?_eq_some_iff.1 hf).1];exact hf),fun u₂ hd ht i hi q=>?_⟩
  rw[hd,ht,Nat.add_assoc]
  refine ha (s.pre.length+i) _ ?_ q
  rw[List.getElem?_append_right (by omega)]
  simp[hi]
 have alive:∀w₂,Like H w w₂→AgreeL s.pre w₂→∀u₂,lrun P M (lo c₀) w₂=some (lo s.c,u₂)→¬∃o u es,stepG P true (lo s.c) u₂= .ended o u es:=by
  rintro w₂ L A u₂ hu ⟨o,u,es,he⟩
  obtain⟨N,g,v,k1,k2,_,_⟩:=LH w₂ L
  obtain⟨_,h5⟩:=h.run w₂ L A
  rcases Nat.lt_trichotomy N M with hlt|rfl|hgt
  ·exact h5 N hlt _ _ k1 k2
  ·rw[hu] at k1
   simp only[Option.some.injEq,Prod.mk.injEq] at k1
   exact hnf (k1.1▸k2)
  ·have e:N=M+(N-M-1+1):=by omega
   rw[e,lrun_add,hu] at k1
   simp[lrun,he] at k1
 rcases CS s.c w₁ l h.wf hnf (like_rely hl h.cov r) with⟨n,hd⟩|⟨n,c',w',es,hwf,hgo,hes,hall⟩
 ·exfalso
  have L:=L₀.retape (tapeOf l₀ (s.pre++(List.range n).map fun i=>w₁.tape (w₁.drawn+i))).tape
  have A:=ext n _ (agree_tapeOf l₀ _)
  obtain⟨⟨u₂,h1,h2,h3,h4⟩,_⟩:=h.run _ L A.1
  exact alive _ L A.1 u₂ h1 (hd u₂ (like_rely h2 h.cov r) (A.2 u₂ h3 h4))
 ·have each:∀w₂,Like H w w₂→AgreeL (s.pre++(List.range n).map fun i=>w₁.tape (w₁.drawn+i)) w₂→∃u₂ u₃ es₂,lrun P M (lo c₀) w₂=some (lo s.c,u₂)∧stepG P true (lo s.c) u₂= .go (lo c') u₃ es₂∧Tied ob H n w₁ u₂ w' u₃∧
    u₂.drawn=w₂.drawn+s.pre.length∧u₂.tape=w₂.tape:=by
   intro w₂ L A
   have A':=ext n _ A
   obtain⟨⟨u₂,h1,h2,h3,h4⟩,_⟩:=h.run _ L A'.1
   rcases hall u₂ (like_rely h2 h.cov r) (A'.2 u₂ h3 h4) with he|⟨u₃,es₂,h5,h6⟩
   ·exact absurd he (alive _ L A'.1 u₂ h1)
   ·exact⟨u₂,u₃,es₂,h1,h5,h6,h3,h4⟩
  obtain⟨u₂,u₃,es₂,_,_,ht,_,_⟩:=each _ (L₀.retape (tapeOf l₀ (s.pre++(List.range n).map fun i=>w₁.tape (w₁.drawn+i))).tape) (agree_tapeOf l₀ _)
  have hcov:=h.cov.rely r
  have hsz:=(r.quiet rfl).1
  refine⟨⟨c',w',s.T.grow w₁.heap.size w'.heap.size,s.pre++(List.range n).map fun i=>w₁.tape (w₁.drawn+i)⟩,⟨hwf,hcov.tied ht,?_,h.ro,h.kn,fun l=>?_,⟨u₃,ht.like⟩,fun hG=>hno ?_,fun w₂ L A=>⟨?_,fun K hK g u hg=>?_⟩⟩,_,rfl⟩
  ·exact(h.aft.rely (fun l hl=>by rcases hl with hl|hl;exact .inl (h.ro▸hl);exact .inr ((h.wr l).2 (.inl hl))) h.cov.kn r).tied ht
  ·simp only[Terr.grow]
   rw[h.wr l,hsz,or_assoc]
   refine or_congr Iff.rfl ?_
   have h1:=h.aft.size
   have h2:=ht.grown
   cases l<;>simp only[Fresh]<;>first|omega|simp
  ·rw[hgo,goes_go]
   exact⟨hcov.guar ht hes,hG⟩
  ·obtain⟨u₂,u₃,es₂,h1,h5,h6,h3,h4⟩:=each w₂ L A
   refine⟨u₃,by rw[lrun_add,h1];simp[lrun,h5],h6.like,by rw[h6.drawn₂,h3];simp;omega,h6.tape₂.trans h4⟩
  ·have A':=ext n _ A
   obtain⟨⟨u₂,h1,_,_,_⟩,h5⟩:=h.run _ L A'.1
   rcases Nat.lt_or_ge K M with hlt|hge
   ·exact h5 K hlt g u hg
   ·obtain rfl:K=M:=by omega
    rw[h1] at hg
    simp only[Option.some.injEq,Prod.mk.injEq] at hg
    exact hg.1▸hnf
theorem bar(htr:∀c,WF c→(tr c).status= .running)(CS:∀c w w₀,WF c→¬FinG (lo c)→Like H w w₀→Coupled ob H P lo tr WF c w)(hc:WF c₀)(cov:Covers ob H T w)(L₀:Like H w l₀)(LH:Ends H P lo FinG E c₀ w):GoesV P true true (BStop ob H lo tr WF FinG E T w) T (tr c₀) w:=by
 classical
 refine Classical.byContradiction fun hbad=>?_
 have b0:Bad ob H P lo tr WF FinG E c₀ T w ⟨c₀,w,T,[]⟩ 0:=by
  refine⟨hc,cov,.refl _ _ _ _,rfl,rfl,fun l=>?_,⟨l₀,L₀⟩,hbad,fun w₂ L _=>⟨⟨w₂,rfl,L,rfl,rfl⟩,fun K hK=>absurd hK (Nat.not_lt_zero _)⟩⟩
  have:¬Fresh w.heap.size w.heap.size l:=by cases l<;>simp only[Fresh]<;>first|omega|simp
  simp[this]
 let nx:(n:Nat)→{s//Bad ob H P lo tr WF FinG E c₀ T w s n}→{s//Bad ob H P lo tr WF FinG E c₀ T w s (n+1)}:=fun n s=>⟨(s.2.next htr CS LH L₀).choose,(s.2.next htr CS LH L₀).choose_spec.1⟩
 let sq:(n:Nat)→{s//Bad ob H P lo tr WF FinG E c₀ T w s n}:=fun n=>Nat.rec ⟨_,b0⟩ nx n
 have step:∀n,∃x,(sq (n+1)).1.pre=(sq n).1.pre++x:=fun n=>((sq n).2.next htr CS LH L₀).choose_spec.2
 have more:∀n k,∃x,(sq (n+k)).1.pre=(sq n).1.pre++x:=by
  intro n k
  induction k with
  |zero=>exact⟨[],by simp⟩
  |succ k ih=>
   obtain⟨x,hx⟩:=ih
   obtain⟨y,hy⟩:=step (n+k)
   exact⟨x++y,by rw[←Nat.add_assoc,hy,hx,List.append_assoc]⟩
 have mono:∀(n m i:Nat) (f:Question→Nat),n≤m→(sq n).1.pre[i]?=some f→(sq m).1.pre[i]?=some f:=by
  intro n m i f hnm hf
  obtain⟨x,hx⟩:=more n (m-n)
  rw[show n+(m-n)=m by omega] at hx
  rw[hx,List.getElem?_append_left (List.getElem?_eq_some_iff.1 hf).1]
  exact hf
 let τ:Nat→Question→Nat:=fun j q=>if hx:∃(n:Nat) (f:Question→Nat),(sq n).1.pre[j-l₀.drawn]?=some f then hx.choose_spec.choose q else 0
 have L:=L₀.retape τ
 have ag:∀n,AgreeL (sq n).1.pre {l₀ with tape:=τ}:=by
  intro n i f hf q
  have hx:∃(n:Nat) (f:Question→Nat),(sq n).1.pre[l₀.drawn+i-l₀.drawn]?=some f:=⟨n,f,by rw[Nat.add_sub_cancel_left];exact hf⟩
  show τ (l₀.drawn+i) q=f q
  simp only[τ]
  rw[dif_pos hx]
  have h1:=hx.choose_spec.choose_spec
  have key:∀(n' j:Nat) (f':Question→Nat),j=i→(sq n').1.pre[j]?=some f'→f'=f:=by
   intro n' j f' hj k1
   rw[hj] at k1
   rcases Nat.le_total n n' with hle|hle
   ·have:=mono _ _ _ _ hle hf
    rw[this] at k1
    exact(Option.some.inj k1).symm
   ·have:=mono _ _ _ _ hle k1
    rw[hf] at this
    exact(Option.some.inj this).symm
  exact congrFun (key _ _ _ (Nat.add_sub_cancel_left _ _) h1) q
 obtain⟨N,g,u,k1,k2,_,_⟩:=LH _ L
 obtain⟨⟨u₂,h1,_⟩,_⟩:=(sq N).2.run _ L (ag N)
 rw[h1] at k1
 simp only[Option.some.injEq,Prod.mk.injEq] at k1
 exact(sq N).2.notFin LH L₀ (k1.1▸k2)
end
end
end Go.Side
