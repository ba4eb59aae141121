/-
  Texts of Ytbjlijagheifgaa, merged.
-/
import Derived.Test.YtbjlijagheifgaaO38
import Derived.Test.YtbjlijagheifgaaO24
import Derived.Test.YtbjlijagheifgaaRows
import Derived.ProofKit
import Derived.OpenShut
import Derived.ShutString
import Derived.ChangeOld
import Derived.Deep.Slices
import Derived.Test.YtbjlijagheifgaaO37
set_option linter.unusedSimpArgs false
set_option linter.unusedVariables false
namespace Go.Side
section
open Go Go.Conc Go.ConcN Go.Proofs Go.RowKit Go.Proofs.Ytbjlijagheifgaa
theorem law_frame11: #[]++Array.replicate 45 undef= #[undef,undef,undef,undef,undef,undef,undef,undef,undef,undef,undef,undef,undef,undef,undef,undef,undef,undef,undef,undef,undef,undef,undef,undef,undef,undef,undef,undef,undef,undef,undef,undef,undef,undef,undef,undef,undef,undef,undef,undef,undef,undef,undef,undef,undef]:=by kernel_rfl
theorem law_ext{W:World}:ExtC (Ext W):=fun _ _ e h=>h.trans e
theorem law_start{W:World}{Qm:Machine→Trace→Prop}{fid q:Nat}{c0 s rest:Code}{ops:Array Oper}{a a1 a2:Act}{o:Oper}(hfn:∃fn,Try.prog.funcs[fid]?=some fn)(ho:ops[0]?=some o)(hsz:ops.size=2)(hog:o.guard=none)(hod:o.dst=some q)(hop:o.op= .call {callee:=.value (.func 11),args:= #[],argTypes:= #[]})(d0:a.defers=[])(d1:a1.defers=[])(p0:[Item.code c0].all (itemPlain false none Try.prog lawFns)=true)(p1:[Item.inRegion ops [1],Item.code s].all (itemPlain false none Try.prog lawFns)=true)(w0:∀u,c0.wp Try.prog (fun e a' u'=>e= .normal∧a'=a1∧u'=u) a u)(w1:∀u,ItemsWp Try.prog [.inRegion ops [1],.code s] (fun e a' u'=>e= .normal∧a'=a2∧u'=u) (a1.put (some q) (.bool true)) u)(kk:∀Shun' w',Kn W.heap.size Shun' w' (Ext W)→SB Try.prog Shun' Qm (G ((base fid).at a2 [.code rest]) []) w'):
  SB Try.prog (fun _=>False) Qm (G ((base fid).at a [.code (.seq c0 (.seq (.seq (.region 1 ops false) s) rest))]) []) W:=by
 have H:=gait_b Try.prog (fun _=>False) Qm
 have hk0:(base fid).kind≠ .early:=by simp[base]
 have hN:∀u,Ext W u→W.heap.size≤u.heap.size:=fun u e=>e.size
 have K:=kn_start W
 refine SB.into (H.seq (n:=0) (Kn.out K law_ext fun w₁ K₁=>?_))
 refine K₁.lone (items:=[.code c0]) (k:=[.code (.seq (.seq (.region 1 ops false) s) rest)]) lawOK hfn rfl p0 d0 (Q:=fun u e a' u'=>e= .normal∧a'=a1∧u'=u)
  (fun u e a' u' h=>.inl h.1) (fun u hu=>ItemsWp.code (w0 u)) (fun u a' u' w' hu ⟨_,ha,hw⟩ _ gen=>?_) (fun u a' u' w' todo _ h=>by cases h.1)
 subst ha
 subst hw
 have K₂:=gen _ law_ext hu
 clear gen hu K₁ w₁
 refine SB.into (H.seq (n:=2) ?_)
 refine H.seq (n:=1) ?_
 refine H.region (n:=0) (Kn.out K₂ law_ext fun w₃ K₃=>?_)
 rw[show List.range ops.size=[0,1] from by rw[hsz];rfl]
 refine SB.into (H.call (n:=0) (f:=11) (c:=b11) (args:= #[]) (ats:= #[]) ho (by simp[Region.wanted,hog]) hk0 hop Try.func11 (by decide) rfl (Kn.out K₃ law_ext fun w₅ K₆=>?_))
 rw[show Try.f11.ntmps=45 from Try.ntmps11]
 simp only[List.map_toArray,List.map_nil,List.size_toArray,List.length_nil,Nat.reduceSub,law_frame11]
 refine awake_sb K₆ law_ext hN _ _ _ _ _ _ _ _ _ _ _ _ _ _ _ _ _ _ _ _ _ _ _ _ _ _ _ _ _ _ _ _ _ _ _ _ _ _ _ _ _ _ _ _ _ (fun Shun' w' K₇=>?_)
 rw[Frame.finish_at,ho]
 show SB Try.prog Shun' Qm (G ((base fid).at (a'.put o.dst (.bool true)) ([.inRegion ops [1],.code s]++[.code rest])) []) w'
 rw[hod]
 refine K₇.lone (items:=[.inRegion ops [1],.code s]) (k:=[.code rest]) lawOK hfn rfl p1 (by rw[put_defers];exact d1) (Q:=fun u e a' u'=>e= .normal∧a'=a2∧u'=u)
  (fun u e a' u' h=>.inl h.1) (fun u hu=>w1 u) (fun u a' u' w8 hu ⟨_,ha,hw⟩ _ gen=>?_) (fun u a' u' w8 todo _ h=>by cases h.1)
 subst ha
 subst hw
 exact kk _ _ (gen _ law_ext hu)
noncomputable def opsR:Code→Array Oper
 | .region _ ops _=>ops
 |_=> #[]
def FinT(r:Nat)(u:World)(e:Exit)(a':Act)(u':World):Prop:=e= .ret∧a'.tmps.getD r undef= .bool true∧Below u.heap.size u u'
def FinN(r:Nat)(u:World):Exit→Act→World→Prop
 | .ret,a',u'=>a'.tmps.getD r undef= .bool true∧Below u.heap.size u u'
 |_,_,_=>False
theorem finN{P:Program}{r:Nat}{u:World}{items:List Item}{a:Act}(h:ItemsWp P items (FinN r u) a u):ItemsWp P items (FinT r u) a u:=fun b k cs=>by
 obtain⟨e,a',w',hq,hg⟩:=h b k cs
 refine⟨e,a',w',?_,hg⟩
 cases e<;>first|exact⟨rfl,hq.1,hq.2⟩|exact hq.elim
def GdQ(r:Nat)(u:World)(p:Prop)(fr:Act→Prop)(e:Exit)(a':Act)(u':World):Prop:=Below u.heap.size u u'∧((e= .ret∧a'.tmps.getD r undef= .bool true)∨(e= .normal∧p∧fr a'))
theorem law_tail{W w:World}{Shun:Loc→Prop}{fid r:Nat}{fn:Func}{items:List Item}{a:Act}{F:World→Prop}(K:Kn W.heap.size Shun w F)(hF:∀u,F u→Ext W u)(hfn:Try.prog.funcs[fid]?=some fn)(hr:fn.results= #[.tmp r])(hi:Try.prog.inits.idxOf? fid=none)(hd:a.defers=[])(hc:items.all (itemPlain false none Try.prog lawFns)=true)(LH:∀u,F u→ItemsWp Try.prog items (FinT r u) a u):
  SB Try.prog Shun (EndM Try.prog fun v w'=>v= .bool true∧Stood W w') (G ((base fid).at a items) []) w:=by
 have h:=K.lone (Qm:=EndM Try.prog fun v w'=>v= .bool true∧Stood W w') (b:=base fid) (a:=a) (items:=items) (k:=[]) (cs:=[]) lawOK ⟨_,hfn⟩ rfl hc hd (Q:=fun u=>FinT r u) (fun u e a' u' h=>.inr h.1) LH (fun u a' u' w' _ h=>by cases h.1) (fun u a' u' w8 todo hu ⟨_,h0,hb⟩ hd' gen=>sb_ends (gen _ law_ext ((hF u hu).trans (Ext.below hb))) hfn rfl hd' hr hi h0)
 rwa[List.append_nil] at h
end
section
open Go Go.Conc Go.ConcN Go.Proofs Go.RowKit Go.Proofs.Ytbjlijagheifgaa
theorem law_frame12(x y z:Value): #[x,y,z]++Array.replicate 76 undef= #[x,y,z,undef,undef,undef,undef,undef,undef,undef,undef,undef,undef,undef,undef,undef,undef,undef,undef,undef,undef,undef,undef,undef,undef,undef,undef,undef,undef,undef,undef,undef,undef,undef,undef,undef,undef,undef,undef,undef,undef,undef,undef,undef,undef,undef,undef,undef,undef,undef,undef,undef,undef,undef,undef,undef,undef,undef,undef,undef,undef,undef,undef,undef,undef,undef,undef,undef,undef,undef,undef,undef,undef,undef,undef,undef,undef,undef,undef]:=by kernel_rfl
theorem law_run{N:Nat}{Shun:Loc→Prop}{Qm:Machine→Trace→Prop}{w:World}{F:World→Prop}(K:Kn N Shun w F)(hF:ExtC F)(hN:∀u,F u→N≤u.heap.size){fid:Nat}{a:Act}{ops:Array Oper}{i:Nat}{rest:List Nat}{k:List Item}{o:Oper}{x y z:Operand}{ats:Array TypeId}{pt pc:Option Addr}{ct cc:Nat}{L:List TkD}{ch:Int}{chs:List Int}(ho:ops[i]?=some o)(hog:o.guard=none)(hop:o.op= .call {callee:=.value (.func 12),args:= #[x,y,z],argTypes:=ats})(ex:a.eval x= .slice pt L.length ct)(ey:a.eval y= .int .i64 ch)(ez:a.eval z= .slice pc chs.length cc)(hT:∀u,F u→SlT u pt L)(hC:∀u,F u→Sl (Value.int .i64) u pc chs)(hl:L.length≤maxLen)(hel:∀t∈L,∀x∈t.ops,x.el.length≤1000000)(kok:∀(s':PS) (S':List StepP) (Shun':Loc→Prop) (w':World) (v0 v1 v2:Value),validT ch L=true→Outc L chs s' S'→Kn N Shun' w' (fun u=>F u∧RunRes u v0 v1 v2 S' (sumsA L s') (stuckA L s'))→ SB Try.prog Shun' Qm (G ((base fid).at (a.put o.dst (.tuple #[.agg #[v0,v1,v2],.int .i64 0])) (.inRegion ops rest::k)) []) w')(kno:∀(w':World),validT ch L=false→Kn N Shun w' F→SB Try.prog Shun Qm (G ((base fid).at (a.put o.dst (.tuple #[.agg #[.slice none 0 0,.slice none 0 0,.slice none 0 0],.int .i64 1])) (.inRegion ops rest::k)) []) w'):
  SB Try.prog Shun Qm (G ((base fid).at a (.inRegion ops (i::rest)::k)) []) w:=by
 have H:=gait_b Try.prog Shun Qm
 have hk0:(base fid).kind≠ .early:=by simp[base]
 refine SB.into (H.call (n:=0) (f:=12) (c:=b12) (args:= #[x,y,z]) (ats:=ats) ho (by simp[Region.wanted,hog]) hk0 hop Try.func12 (by decide) rfl (Kn.out K hF fun w₆ K₆=>?_))
 rw[show Try.f12.ntmps=79 from Try.ntmps12]
 simp only[List.map_toArray,List.map_cons,List.map_nil,List.size_toArray,List.length_cons,List.length_nil,Nat.reduceAdd,Nat.reduceSub,ex,ey,ez,law_frame12]
 have fin:∀v:Value,((base fid).at a (.inRegion ops (i::rest)::k)).finish v=(base fid).at (a.put o.dst v) (.inRegion ops rest::k):=fun v=>by rw[Frame.finish_at,ho];rfl
 refine run_call K₆ hF hN (pt:=pt) (ct:=ct) (pc:=pc) (cc:=cc) (L:=L) (ch:=ch) (chs:=chs) hT hC hl hel _ _ _ _ _ _ _ _ _ _ _ _ _ _ _ _ _ _ _ _ _ _ _ _ _ _ _ _ _ _ _ _ _ _ _ _ _ _ _ _ _ _ _ _ _ _ _ _ _ _ _ _ _ _ _ _ _ _ _ _ _ _ _ _ _ _ _ _ _ _ _ _ _ _ _ _ (fun c' S' Shun₂ w' v0 v1 v2 hv hrun K₇=>?_) (fun w' hv K₇=>?_)
 ·obtain⟨ux,V7⟩:=View.ex K₇.sh
  have hE:∀t∈L,∀x∈t.ops,EL L (opv x)=x.el:=fun t ht x hx=>EL_eq (hT _ (K₇.all ux V7).1) ht hx
  obtain⟨s',hO,hs',hst⟩:=hrun.plain hE
  rw[hs',hst] at K₇
  rw[fin]
  exact kok s' S' _ _ v0 v1 v2 hv hO K₇
 ·rw[fin]
  exact kno _ hv K₇
end
end Go.Side
namespace Go.Proofs.Ytbjlijagheifgaa
section
open Go.RowKit Go.ChangeShapes Go.WideShapes Go.ChangeAt
open Go.ChangeMaps (open_string shut_string)
theorem Try.own:ownKnob Try.prog.godebug=none:=by kernel_rfl
theorem Try.laidOut:laidOutB Try.prog=true:=by kernel_rfl
section
variable {H:Type} {enc:TypeId×Value→H} {P:Program} {w:World} {held:Bool}
theorem sl_open{α:Type}[Inhabited α]{t e:TypeId}{fuel:Nat}{v:Value}{x:DataW H×List MemPlace}(f:α→Value)(Q:α→Prop)(ht:P.underlying t=some (.slice e))(hc:P.cellsOf e=1)(hf:∀n V r,DataW.trod enc P w 0 (fun _=>true) held n e [V]=some r→∃y,V=f y∧Q y)(h:DataW.trod enc P w 0 (fun _=>true) held fuel t [v]=some x):
  ∃a c xs,v= .slice a xs.length c∧Sl f w a xs∧(∀y∈xs,Q y)∧xs.length≤maxLen:=by
 rcases Deep.open_slice1 ht hc h with⟨h1,_⟩|⟨a,len,cap,m,n,V,D,Pl,h1,hb,hl,hm,hmm,_,hx⟩
 ·refine⟨none,0,[],by simpa using h1,?_,by simp,by simp⟩
  intro j x hj
  simp at hj
 ·simp only[if_true] at hmm
  subst hmm
  obtain⟨B,hB⟩:=Deep.choose_lt (α:=α) (n:=m) (p:=fun i y=>V i=f y∧Q y) (fun i hi=>hf _ _ _ (hx i hi).2)
  refine⟨some a,m,(List.range len).map B,by simpa using h1,?_,?_,by simp;omega⟩
  ·intro j y hj
   simp only[List.getElem?_map] at hj
   obtain⟨i,hi,rfl⟩:=Option.map_eq_some_iff.1 hj
   have hlt:j<len:=by
    rcases Nat.lt_or_ge j len with h|h
    ·exact h
    ·rw[List.getElem?_eq_none (by simpa using h)] at hi;simp at hi
   rw[List.getElem?_range hlt] at hi
   obtain rfl:=Option.some.inj hi
   have hcell:=(hx j (by omega)).1
   have hsp:a.spot.isNone=true:=by
    have h0:=(hx 0 (by omega)).1
    have:a.spot=none:=by simpa[Addr.add] using World.cell?_spot h0
    simp[this]
   refine⟨hsp,?_⟩
   rw[←(hB j (by omega)).1,←hcell,add_eq a j hsp]
   rfl
  ·intro y hy
   obtain⟨i,hi,rfl⟩:=List.mem_map.1 hy
   exact(hB i (by have:=List.mem_range.1 hi;omega)).2
def IntOk(k:IntKind)(n:Int):Prop:=(Lit.int k n).wf=true
theorem ints_open{t e:TypeId}{k:IntKind}{v:Value}{d:DataW H}{ps:List MemPlace}(ht:P.underlying t=some (.slice e))(he:P.underlying e=some (.int k))(hc:P.cellsOf e=1)(h:DataW.Trod enc P w 0 (fun _=>true) held t v d ps)(hv:∃a n c,v= .slice a n c):
  ∃a c xs,v= .slice a xs.length c∧Sl (Value.int k) w a xs∧(∀y∈xs,IntOk k y)∧xs.length≤maxLen:=by
 obtain⟨fuel,hf⟩:=h
 obtain⟨a,n,c,rfl⟩:=hv
 refine sl_open (Value.int k) (IntOk k) ht hc (fun n V r hr=>?_) hf
 obtain⟨i,h1,_,h3⟩:=DataW.trod_int he hr
 exact⟨i,by simpa using h1,h3⟩
structure RowOf(α:Type) where
 a:Option Addr
 c:Nat
 xs:List α
instance {α:Type}:Inhabited (RowOf α):=⟨⟨none,0,[]⟩⟩
def RowOf.val{α:Type}(r:RowOf α):Value:=.slice r.a r.xs.length r.c
end
end
section
open Go.RowKit Go.Side Go.ChangeShapes Go.WideShapes Go.ChangeAt
section
variable {H:Type} {enc:TypeId×Value→H} {P:Program} {w:World} {held:Bool}
theorem trod_struct4{t:TypeId}{f0 f1 f2 f3:Field}{fuel:Nat}{cs:List Value}{x:DataW H×List MemPlace}(ht:P.underlying t=some (.struct #[f0,f1,f2,f3]))(h:DataW.trod enc P w 0 (fun _=>true) held fuel t cs=some x):
  ∃y0 y1 y2 y3 n,cs.length=P.cellsOf t∧DataW.trod enc P w 0 (fun _=>true) held n f0.type ((cs.drop f0.offset).take (P.cellsOf f0.type))=some y0∧
   DataW.trod enc P w 0 (fun _=>true) held n f1.type ((cs.drop f1.offset).take (P.cellsOf f1.type))=some y1∧DataW.trod enc P w 0 (fun _=>true) held n f2.type ((cs.drop f2.offset).take (P.cellsOf f2.type))=some y2∧
   DataW.trod enc P w 0 (fun _=>true) held n f3.type ((cs.drop f3.offset).take (P.cellsOf f3.type))=some y3:=by
 obtain⟨xs,n,_,rfl,hl,hlen,hf⟩:=DataW.trod_struct ht h
 match xs,hlen with
 |[y0,y1,y2,y3],_=>exact⟨y0,y1,y2,y3,n,hl,by simpa using hf 0 f0 rfl,by simpa using hf 1 f1 rfl,by simpa using hf 2 f2 rfl,by simpa using hf 3 f3 rfl⟩
end
section
variable {H:Type} {enc:TypeId×Value→H} {w:World} {held:Bool}
set_option maxRecDepth 100000 in
theorem either_open{n:Nat}{u:Value}{y:DataW H×List MemPlace}(h:DataW.trod enc Try.prog w 0 (fun _=>true) held n 23 [u]=some y):
  ∃a c l,u= .slice a l.length c∧Sl (Value.int .i64) w a l∧l.length≤c∧c≤maxLen:=by
 obtain⟨a,c,l,rfl,s1,_,l1⟩:=sl_open (Value.int .i64) (fun _=>True) Try.underlying23 (by kernel_rfl) (fun n V r hr=>by
  obtain⟨i,h1,_,_⟩:=DataW.trod_int Try.underlying3 hr
  exact⟨i,by simpa using h1,trivial⟩) h
 refine⟨a,c,l,rfl,s1,?_⟩
 rcases Deep.open_slice Try.underlying23 h with⟨e1,_⟩|⟨a',len,cap,m,n,D,Pl,e1,hb,hl,hm,hmm,_,hx⟩
 ·simp only[List.cons.injEq,Value.slice.injEq,and_true] at e1
  obtain⟨_,h2,h3⟩:=e1
  rw[h2,h3];exact⟨Nat.le_refl _,Nat.zero_le _⟩
 ·simp only[List.cons.injEq,Value.slice.injEq,and_true] at e1
  obtain⟨_,h2,h3⟩:=e1
  rw[h2,h3];exact⟨hl,hm⟩
set_option maxRecDepth 100000 in
theorem task_open{n:Nat}{u:Value}{y:DataW H×List MemPlace}(h:DataW.trod enc Try.prog w 0 (fun _=>true) held n 26 [u]=some y):
  ∃t:TkD,u=tkv t∧TkOk w t:=by
 have hs:=Try.underlying29
 have hc:Try.prog.cellsOf 29=4:=by kernel_rfl
 have q1:Try.prog.cellsOf 3=1:=by kernel_rfl
 have q2:Try.prog.cellsOf 23=1:=by kernel_rfl
 rcases Deep.open_slice Try.underlying26 h with⟨e1,_⟩|⟨a,len,cap,m,n,D,Pl,e1,hb,hl,hm,hmm,_,hx⟩
 ·replace e1:=(List.cons.inj e1).1
  exact⟨⟨none,0,[]⟩,e1,fun j x hj=>by simp at hj,by simp,by simp[maxLen],by simp[maxLen]⟩
 ·replace e1:=(List.cons.inj e1).1
  simp only[if_true] at hmm
  subst hmm
  rw[hc] at hx
  obtain⟨B,hB⟩:=Deep.choose_lt (α:=OpD) (n:=m) (p:=fun i y=>w.cell? (a.add (i*4))=some (.int .i64 y.kind)∧w.cell? ((a.add (i*4)).add 1)=some (.int .i64 y.chan)∧w.cell? ((a.add (i*4)).add 2)=some (.int .i64 y.val)∧w.cell? ((a.add (i*4)).add 3)=some y.ev∧OpOk w y) (fun i hi=>by
   obtain⟨cs',g1,g2⟩:=hx i hi
   obtain⟨_,hlen,hcell⟩:=World.cells?_some g1
   obtain⟨y0,y1,y2,y3,n',_,k0,k1,k2,k3⟩:=trod_struct4 hs g2
   match cs',hlen with
   |[u0,u1,u2,u3],_=>
    have k0':DataW.trod enc Try.prog w 0 (fun _=>true) held n' 3 [u0]=some y0:=by
     have:=k0;rw[q1] at this;exact this
    have k1':DataW.trod enc Try.prog w 0 (fun _=>true) held n' 3 [u1]=some y1:=by
     have:=k1;rw[q1] at this;exact this
    have k2':DataW.trod enc Try.prog w 0 (fun _=>true) held n' 3 [u2]=some y2:=by
     have:=k2;rw[q1] at this;exact this
    have k3':DataW.trod enc Try.prog w 0 (fun _=>true) held n' 23 [u3]=some y3:=by
     have:=k3;rw[q2] at this;exact this
    obtain⟨m0,r0,_,j0⟩:=DataW.trod_int Try.underlying3 k0'
    obtain⟨m1,r1,_,j1⟩:=DataW.trod_int Try.underlying3 k1'
    obtain⟨m2,r2,_,j2⟩:=DataW.trod_int Try.underlying3 k2'
    obtain⟨ea,ec,el,rfl,s1,s2,s3⟩:=either_open k3'
    simp at r0 r1 r2
    subst r0 r1 r2
    have z0:=hcell 0 (by omega)
    have z1:=hcell 1 (by omega)
    have z2:=hcell 2 (by omega)
    have z3:=hcell 3 (by omega)
    exact⟨⟨m0,m1,m2,ea,ec,el⟩,by simpa[Addr.add] using z0,by simpa using z1,by simpa using z2,by simpa[OpD.ev] using z3,s1,by show el.length≤maxLen;omega,s2,s3⟩)
  refine⟨⟨some a,m,(List.range len).map B⟩,by rw[e1];simp[tkv],?_,?_,by simp;omega,by simp;omega⟩
  ·intro j y hj
   simp only[List.getElem?_map] at hj
   obtain⟨i,hi,rfl⟩:=Option.map_eq_some_iff.1 hj
   have hlt:j<len:=by
    rcases Nat.lt_or_ge j len with h|h
    ·exact h
    ·rw[List.getElem?_eq_none (by simpa using h)] at hi;simp at hi
   rw[List.getElem?_range hlt] at hi
   obtain rfl:=Option.some.inj hi
   have hsp:a.spot.isNone=true:=by
    have h0:=(hB 0 (by omega)).1
    have:a.spot=none:=by simpa[Addr.add] using World.cell?_spot h0
    simp[this]
   obtain⟨b0,b1,b2,b3,_⟩:=hB j (by omega)
   have ea:∀j,a.add j=adr (some a) j:=fun j=>add_eq a j hsp
   rw[ea] at b0
   rw[ea,adr_add] at b1 b2 b3
   exact⟨hsp,b0,b1,b2,b3⟩
  ·intro y hy
   obtain⟨i,hi,rfl⟩:=List.mem_map.1 hy
   exact(hB i (by have:=List.mem_range.1 hi;omega)).2.2.2.2
set_option maxRecDepth 100000 in
theorem tk_open{v:Value}{d:DataW H}{ps:List MemPlace}(h:DataW.Trod enc Try.prog w 0 (fun _=>true) held 25 v d ps)(hv0:Value.okWide Try.prog w .any 0 25 v):
  ∃a c xs,v= .slice a xs.length c∧SlT w a xs∧(∀t∈xs,True)∧xs.length≤maxLen:=by
 obtain⟨fuel,hf⟩:=h
 obtain⟨a0,n0,c0,rfl⟩:=okWide_slice Try.underlying25 hv0
 obtain⟨a,c,xs,h1,h2,h3,h4⟩:=sl_open tkv (TkOk w) Try.underlying25 (by kernel_rfl) (fun n V r hr=>task_open hr) hf
 exact⟨a,c,xs,h1,fun j t hj=>⟨(h2 j t hj).1,(h2 j t hj).2,h3 t (List.mem_of_getElem? hj)⟩,fun _ _=>trivial,h4⟩
end
end
end Go.Proofs.Ytbjlijagheifgaa
namespace Go.Side
section
open Go Go.ConcN Go.Proofs.Ytbjlijagheifgaa
section
variable {Q L:List TkD} (h:Q.map TkD.ops=L.map TkD.ops)
include h
end
end
end Go.Side
