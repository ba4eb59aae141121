/-
  Texts of Ytbjlijagheifgaa, merged.
-/
import Derived.Test.YtbjlijagheifgaaU40
import Derived.Test.YtbjlijagheifgaaU38
import Derived.Test.YtbjlijagheifgaaU39
import Derived.Test.YtbjlijagheifgaaU37
set_option linter.unusedSimpArgs false
set_option linter.unusedVariables false
namespace Go.Proofs.Ytbjlijagheifgaa
section
open Go.RowKit Go.Side Go.ChangeShapes Go.WideShapes Go.ChangeAt
section
variable {H:Type} {enc:TypeId×Value→H} {P:Program} {w:World} {held:Bool}
theorem trod_struct4{t:TypeId}{f0 f1 f2 f3:Field}{fuel:Nat}{cs:List Value}{x:DataW H×List MemPlace}(ht:P.underlying t=some (.struct #[f0,f1,f2,f3]))(h:DataW.trod enc P w 0 (fun _=>true) held fuel t cs=some x):
  ∃y0 y1 y2 y3 n,cs.length=P.cellsOf t∧DataW.trod enc P w 0 (fun _=>true) held n f0.type ((cs.drop f0.offset).take (P.cellsOf f0.type))=some y0∧
   DataW.trod enc P w 0 (fun _=>true) held n f1.type ((cs.drop f1.offset).take (P.cellsOf f1.type))=some y1∧DataW.trod enc P w 0 (fun _=>true) held n f2.type ((cs.drop f2.offset).take (P.cellsOf f2.type))=some y2∧
   DataW.trod enc P w 0 (fun _=>true) held n f3.type ((cs.drop f3.offset).take (P.cellsOf f3.type))=some y3:=by
 obtain⟨xs,n,_,rfl,hl,hlen,hf⟩:=DataW.trod_struct ht h
 match xs,hlen with
 |[y0,y1,y2,y3],_=>exact⟨y0,y1,y2,y3,n,hl,by simpa using hf 0 f0 rfl,by simpa using hf 1 f1 rfl,by simpa using hf 2 f2 rfl,by simpa using hf 3 f3 rfl⟩
end
section
variable {H:Type} {enc:TypeId×Value→H} {w:World} {held:Bool}
set_option maxRecDepth 100000 in
theorem either_open{n:Nat}{u:Value}{y:DataW H×List MemPlace}(h:DataW.trod enc Try.prog w 0 (fun _=>true) held n 23 [u]=some y):
  ∃a c l,u= .slice a l.length c∧Sl (Value.int .i64) w a l∧l.length≤c∧c≤maxLen:=by
 obtain⟨a,c,l,rfl,s1,_,l1⟩:=sl_open (Value.int .i64) (fun _=>True) Try.underlying23 (by kernel_rfl) (fun n V r hr=>by
  obtain⟨i,h1,_,_⟩:=DataW.trod_int Try.underlying3 hr
  exact⟨i,by simpa using h1,trivial⟩) h
 refine⟨a,c,l,rfl,s1,?_⟩
 rcases Deep.open_slice Try.underlying23 h with⟨e1,_⟩|⟨a',len,cap,m,n,D,Pl,e1,hb,hl,hm,hmm,_,hx⟩
 ·simp only[List.cons.injEq,Value.slice.injEq,and_true] at e1
  obtain⟨_,h2,h3⟩:=e1
  rw[h2,h3];exact⟨Nat.le_refl _,Nat.zero_le _⟩
 ·simp only[List.cons.injEq,Value.slice.injEq,and_true] at e1
  obtain⟨_,h2,h3⟩:=e1
  rw[h2,h3];exact⟨hl,hm⟩
set_option maxRecDepth 100000 in
theorem task_open{n:Nat}{u:Value}{y:DataW H×List MemPlace}(h:DataW.trod enc Try.prog w 0 (fun _=>true) held n 26 [u]=some y):
  ∃t:TkD,u=tkv t∧TkOk w t:=by
 have hs:=Try.underlying29
 have hc:Try.prog.cellsOf 29=4:=by kernel_rfl
 have q1:Try.prog.cellsOf 3=1:=by kernel_rfl
 have q2:Try.prog.cellsOf 23=1:=by kernel_rfl
 rcases Deep.open_slice Try.underlying26 h with⟨e1,_⟩|⟨a,len,cap,m,n,D,Pl,e1,hb,hl,hm,hmm,_,hx⟩
 ·replace e1:=(List.cons.inj e1).1
  exact⟨⟨none,0,[]⟩,e1,fun j x hj=>by simp at hj,by simp,by simp[maxLen],by simp[maxLen]⟩
 ·replace e1:=(List.cons.inj e1).1
  simp only[if_true] at hmm
  subst hmm
  rw[hc] at hx
  obtain⟨B,hB⟩:=Deep.choose_lt (α:=OpD) (n:=m) (p:=fun i y=>w.cell? (a.add (i*4))=some (.int .i64 y.kind)∧w.cell? ((a.add (i*4)).add 1)=some (.int .i64 y.chan)∧w.cell? ((a.add (i*4)).add 2)=some (.int .i64 y.val)∧w.cell? ((a.add (i*4)).add 3)=some y.ev∧OpOk w y) (fun i hi=>by
   obtain⟨cs',g1,g2⟩:=hx i hi
   obtain⟨_,hlen,hcell⟩:=World.cells?_some g1
   obtain⟨y0,y1,y2,y3,n',_,k0,k1,k2,k3⟩:=trod_struct4 hs g2
   match cs',hlen with
   |[u0,u1,u2,u3],_=>
    have k0':DataW.trod enc Try.prog w 0 (fun _=>true) held n' 3 [u0]=some y0:=by
     have:=k0;rw[q1] at this;exact this
    have k1':DataW.trod enc Try.prog w 0 (fun _=>true) held n' 3 [u1]=some y1:=by
     have:=k1;rw[q1] at this;exact this
    have k2':DataW.trod enc Try.prog w 0 (fun _=>true) held n' 3 [u2]=some y2:=by
     have:=k2;rw[q1] at this;exact this
    have k3':DataW.trod enc Try.prog w 0 (fun _=>true) held n' 23 [u3]=some y3:=by
     have:=k3;rw[q2] at this;exact this
    obtain⟨m0,r0,_,j0⟩:=DataW.trod_int Try.underlying3 k0'
    obtain⟨m1,r1,_,j1⟩:=DataW.trod_int Try.underlying3 k1'
    obtain⟨m2,r2,_,j2⟩:=DataW.trod_int Try.underlying3 k2'
    obtain⟨ea,ec,el,rfl,s1,s2,s3⟩:=either_open k3'
    simp at r0 r1 r2
    subst r0 r1 r2
    have z0:=hcell 0 (by omega)
    have z1:=hcell 1 (by omega)
    have z2:=hcell 2 (by omega)
    have z3:=hcell 3 (by omega)
    exact⟨⟨m0,m1,m2,ea,ec,el⟩,by simpa[Addr.add] using z0,by simpa using z1,by simpa using z2,by simpa[OpD.ev] using z3,s1,by show el.length≤maxLen;omega,s2,s3⟩)
  refine⟨⟨some a,m,(List.range len).map B⟩,by rw[e1];simp[tkv],?_,?_,by simp;omega,by simp;omega⟩
  ·intro j y hj
   simp only[List.getElem?_map] at hj
   obtain⟨i,hi,rfl⟩:=Option.map_eq_some_iff.1 hj
   have hlt:j<len:=by
    rcases Nat.lt_or_ge j len with h|h
    ·exact h
    ·rw[List.getElem?_eq_none (by simpa using h)] at hi;simp at hi
   rw[List.getElem?_range hlt] at hi
   obtain rfl:=Option.some.inj hi
   have hsp:a.spot.isNone=true:=by
    have h0:=(hB 0 (by omega)).1
    have:a.spot=none:=by simpa[Addr.add] using World.cell?_spot h0
    simp[this]
   obtain⟨b0,b1,b2,b3,_⟩:=hB j (by omega)
   have ea:∀j,a.add j=adr (some a) j:=fun j=>add_eq a j hsp
   rw[ea] at b0
   rw[ea,adr_add] at b1 b2 b3
   exact⟨hsp,b0,b1,b2,b3⟩
  ·intro y hy
   obtain⟨i,hi,rfl⟩:=List.mem_map.1 hy
   exact(hB i (by have:=List.mem_range.1 hi;omega)).2.2.2.2
set_option maxRecDepth 100000 in
theorem tk_open{v:Value}{d:DataW H}{ps:List MemPlace}(h:DataW.Trod enc Try.prog w 0 (fun _=>true) held 25 v d ps)(hv0:Value.okWide Try.prog w .any 0 25 v):
  ∃a c xs,v= .slice a xs.length c∧SlT w a xs∧(∀t∈xs,True)∧xs.length≤maxLen:=by
 obtain⟨fuel,hf⟩:=h
 obtain⟨a0,n0,c0,rfl⟩:=okWide_slice Try.underlying25 hv0
 obtain⟨a,c,xs,h1,h2,h3,h4⟩:=sl_open tkv (TkOk w) Try.underlying25 (by kernel_rfl) (fun n V r hr=>task_open hr) hf
 exact⟨a,c,xs,h1,fun j t hj=>⟨(h2 j t hj).1,(h2 j t hj).2,h3 t (List.mem_of_getElem? hj)⟩,fun _ _=>trivial,h4⟩
end
end
end Go.Proofs.Ytbjlijagheifgaa
namespace Go.Side
section
open Go Go.Conc Go.ConcN Go.Proofs Go.RowKit Go.Proofs.Ytbjlijagheifgaa
theorem law_frame11: #[]++Array.replicate 45 undef= #[undef,undef,undef,undef,undef,undef,undef,undef,undef,undef,undef,undef,undef,undef,undef,undef,undef,undef,undef,undef,undef,undef,undef,undef,undef,undef,undef,undef,undef,undef,undef,undef,undef,undef,undef,undef,undef,undef,undef,undef,undef,undef,undef,undef,undef]:=by kernel_rfl
theorem law_ext{W:World}:ExtC (Ext W):=fun _ _ e h=>h.trans e
theorem law_start{W:World}{Qm:Machine→Trace→Prop}{fid q:Nat}{c0 s rest:Code}{ops:Array Oper}{a a1 a2:Act}{o:Oper}(hfn:∃fn,Try.prog.funcs[fid]?=some fn)(ho:ops[0]?=some o)(hsz:ops.size=2)(hog:o.guard=none)(hod:o.dst=some q)(hop:o.op= .call {callee:=.value (.func 11),args:= #[],argTypes:= #[]})(d0:a.defers=[])(d1:a1.defers=[])(p0:[Item.code c0].all (itemPlain false none Try.prog lawFns)=true)(p1:[Item.inRegion ops [1],Item.code s].all (itemPlain false none Try.prog lawFns)=true)(w0:∀u,c0.wp Try.prog (fun e a' u'=>e= .normal∧a'=a1∧u'=u) a u)(w1:∀u,ItemsWp Try.prog [.inRegion ops [1],.code s] (fun e a' u'=>e= .normal∧a'=a2∧u'=u) (a1.put (some q) (.bool true)) u)(kk:∀Shun' w',Kn W.heap.size Shun' w' (Ext W)→SB Try.prog Shun' Qm (G ((base fid).at a2 [.code rest]) []) w'):
  SB Try.prog (fun _=>False) Qm (G ((base fid).at a [.code (.seq c0 (.seq (.seq (.region 1 ops false) s) rest))]) []) W:=by
 have H:=gait_b Try.prog (fun _=>False) Qm
 have hk0:(base fid).kind≠ .early:=by simp[base]
 have hN:∀u,Ext W u→W.heap.size≤u.heap.size:=fun u e=>e.size
 have K:=kn_start W
 refine SB.into (H.seq (n:=0) (Kn.out K law_ext fun w₁ K₁=>?_))
 refine K₁.lone (items:=[.code c0]) (k:=[.code (.seq (.seq (.region 1 ops false) s) rest)]) lawOK hfn rfl p0 d0 (Q:=fun u e a' u'=>e= .normal∧a'=a1∧u'=u)
  (fun u e a' u' h=>.inl h.1) (fun u hu=>ItemsWp.code (w0 u)) (fun u a' u' w' hu ⟨_,ha,hw⟩ _ gen=>?_) (fun u a' u' w' todo _ h=>by cases h.1)
 subst ha
 subst hw
 have K₂:=gen _ law_ext hu
 clear gen hu K₁ w₁
 refine SB.into (H.seq (n:=2) ?_)
 refine H.seq (n:=1) ?_
 refine H.region (n:=0) (Kn.out K₂ law_ext fun w₃ K₃=>?_)
 rw[show List.range ops.size=[0,1] from by rw[hsz];rfl]
 refine SB.into (H.call (n:=0) (f:=11) (c:=b11) (args:= #[]) (ats:= #[]) ho (by simp[Region.wanted,hog]) hk0 hop Try.func11 (by decide) rfl (Kn.out K₃ law_ext fun w₅ K₆=>?_))
 rw[show Try.f11.ntmps=45 from Try.ntmps11]
 simp only[List.map_toArray,List.map_nil,List.size_toArray,List.length_nil,Nat.reduceSub,law_frame11]
 refine awake_sb K₆ law_ext hN _ _ _ _ _ _ _ _ _ _ _ _ _ _ _ _ _ _ _ _ _ _ _ _ _ _ _ _ _ _ _ _ _ _ _ _ _ _ _ _ _ _ _ _ _ (fun Shun' w' K₇=>?_)
 rw[Frame.finish_at,ho]
 show SB Try.prog Shun' Qm (G ((base fid).at (a'.put o.dst (.bool true)) ([.inRegion ops [1],.code s]++[.code rest])) []) w'
 rw[hod]
 refine K₇.lone (items:=[.inRegion ops [1],.code s]) (k:=[.code rest]) lawOK hfn rfl p1 (by rw[put_defers];exact d1) (Q:=fun u e a' u'=>e= .normal∧a'=a2∧u'=u)
  (fun u e a' u' h=>.inl h.1) (fun u hu=>w1 u) (fun u a' u' w8 hu ⟨_,ha,hw⟩ _ gen=>?_) (fun u a' u' w8 todo _ h=>by cases h.1)
 subst ha
 subst hw
 exact kk _ _ (gen _ law_ext hu)
noncomputable def opsR:Code→Array Oper
 | .region _ ops _=>ops
 |_=> #[]
def FinT(r:Nat)(u:World)(e:Exit)(a':Act)(u':World):Prop:=e= .ret∧a'.tmps.getD r undef= .bool true∧Below u.heap.size u u'
def FinN(r:Nat)(u:World):Exit→Act→World→Prop
 | .ret,a',u'=>a'.tmps.getD r undef= .bool true∧Below u.heap.size u u'
 |_,_,_=>False
theorem finN{P:Program}{r:Nat}{u:World}{items:List Item}{a:Act}(h:ItemsWp P items (FinN r u) a u):ItemsWp P items (FinT r u) a u:=fun b k cs=>by
 obtain⟨e,a',w',hq,hg⟩:=h b k cs
 refine⟨e,a',w',?_,hg⟩
 cases e<;>first|exact⟨rfl,hq.1,hq.2⟩|exact hq.elim
def GdQ(r:Nat)(u:World)(p:Prop)(fr:Act→Prop)(e:Exit)(a':Act)(u':World):Prop:=Below u.heap.size u u'∧((e= .ret∧a'.tmps.getD r undef= .bool true)∨(e= .normal∧p∧fr a'))
theorem law_tail{W w:World}{Shun:Loc→Prop}{fid r:Nat}{fn:Func}{items:List Item}{a:Act}{F:World→Prop}(K:Kn W.heap.size Shun w F)(hF:∀u,F u→Ext W u)(hfn:Try.prog.funcs[fid]?=some fn)(hr:fn.results= #[.tmp r])(hi:Try.prog.inits.idxOf? fid=none)(hd:a.defers=[])(hc:items.all (itemPlain false none Try.prog lawFns)=true)(LH:∀u,F u→ItemsWp Try.prog items (FinT r u) a u):
  SB Try.prog Shun (EndM Try.prog fun v w'=>v= .bool true∧Stood W w') (G ((base fid).at a items) []) w:=by
 have h:=K.lone (Qm:=EndM Try.prog fun v w'=>v= .bool true∧Stood W w') (b:=base fid) (a:=a) (items:=items) (k:=[]) (cs:=[]) lawOK ⟨_,hfn⟩ rfl hc hd (Q:=fun u=>FinT r u) (fun u e a' u' h=>.inr h.1) LH (fun u a' u' w' _ h=>by cases h.1) (fun u a' u' w8 todo hu ⟨_,h0,hb⟩ hd' gen=>sb_ends (gen _ law_ext ((hF u hu).trans (Ext.below hb))) hfn rfl hd' hr hi h0)
 rwa[List.append_nil] at h
end
end Go.Side
namespace Go.Proofs.Ytbjlijagheifgaa
section
open Go.RowKit
set_option maxHeartbeats 8000000 in
set_option maxRecDepth 100000 in
theorem refValid_any(w:World)(a:Option Addr)(c:Nat)(L:List TkD)(ch:Int)(hs:SlT w a L)(hl:L.length≤maxLen):
  Calls Try.prog 14 #[.slice a L.length c,.int .i64 ch] w (VlPost w (validT ch L)):=by
 have S:=Lib.hid hs
 clear hs
 unfold maxLen at hl
 by_cases h1:L.length≤8
 case neg=>
  have E:Hid (validT ch L=false):=Lib.hid (by simp[validT,h1])
  have g1:decide ((L.length:Int)>8)=true:=by simp;omega
  generalize L.length=n at*
  clear h1
  go_enter Try.func14,Try.ntmps14
  go_wp2_with fail
  go_ret
  exact⟨by rw[E.out];rfl,Below.refl _ _⟩
 have g1:decide ((L.length:Int)>8)=false:=by simp;omega
 by_cases h2:ch<0
 ·have E:Hid (validT ch L=false):=Lib.hid (by have:¬0≤ch:=(by omega);simp[validT,this])
  have g2:decide (ch<0)=true:=by simpa using h2
  clear h2 h1
  go_enter Try.func14,Try.ntmps14
  go_wp2_with fail
  go_ret
  exact⟨by rw[E.out];rfl,Below.refl _ _⟩
 have g2:decide (ch<0)=false:=by simpa using h2
 by_cases h3:ch>8
 ·have E:Hid (validT ch L=false):=Lib.hid (by have:¬ch≤8:=(by omega);simp[validT,this])
  have g3:decide (ch>8)=true:=by simpa using h3
  clear h1 h2 h3
  go_enter Try.func14,Try.ntmps14
  go_wp2_with fail
  go_ret
  exact⟨by rw[E.out];rfl,Below.refl _ _⟩
 have g3:decide (ch>8)=false:=by simpa using h3
 have E:Hid (validT ch L=L.all fun t=>validL ch t.ops):=Lib.hid (by have e1:0≤ch:=(by omega);have e2:ch≤8:=(by omega);simp[validT,h1,e1,e2])
 clear h2 h3
 go_enter Try.func14,Try.ntmps14
 go_wp2_with fail
 go_loopw [5] (fun k wr=>∃i,i≤L.length∧k= .int .i64 (i:Int)∧validTo ch L i=true∧Below w.heap.size w wr) (fun k _=>L.length-(intOf k).toNat)
 case atStart=>exact⟨0,Nat.zero_le _,rfl,rfl,Below.refl _ _⟩
 case round=>
  obtain⟨i,hi,rfl,ht,hb⟩:=hrel
  have HT:=Lib.hid ht
  have HB:=Lib.hid hb
  clear ht hb
  by_cases hlt:i<L.length
  ·obtain⟨t,htk,hok,hcell,hto⟩:=(S.out.reads (Reads.below HB.out)).get hlt
   have hin:(i:Int)<(L.length:Int):=by omega
   by_cases h30:t.ops.length≤30
   case neg=>
    have X:Hid (validT ch L=false):=Lib.hid (by rw[E.out];exact all_false htk.out (by simp[validL,h30]))
    have g4:decide ((t.ops.length:Int)>30)=true:=by simp;omega
    clear h30
    go_wp2_with fail
    go_ret
    exact⟨by rw[X.out];rfl,HB.out⟩
   have g4:decide ((t.ops.length:Int)>30)=false:=by simp;omega
   go_wp2_with fail
   go_loopw [6] (fun k wx=>∃j,j≤t.ops.length∧k= .int .i64 (j:Int)∧goodTo ch t.ops j=true∧Below w.heap.size w wx) (fun k _=>t.ops.length-(intOf k).toNat)
   case atStart=>exact⟨0,Nat.zero_le _,rfl,rfl,HB.out⟩
   case round=>
    clear hcell hok g4
    obtain⟨j,hj,rfl,hg,hb⟩:=hrel
    have HG:=Lib.hid hg
    have HB2:=Lib.hid hb
    clear hg hb
    obtain⟨t',e1,hok',hcell',T2⟩:=(S.out.reads (Reads.below HB2.out)).get hlt
    obtain rfl:t'=t:=Option.some.inj (e1.out.symm.trans htk.out)
    clear e1
    by_cases hjt:j<t'.ops.length
    ·obtain⟨x,hx,hok,c0,c1,c2,c3⟩:=T2.out.row.get hjt
     have hjn:(j:Int)<(t'.ops.length:Int):=by omega
     have FX:=Lib.hid (fine_any wr x ch (T2.out.ops x (List.mem_of_getElem? hx.out)))
     have GS:=Lib.hid (goodTo_succ (ch:=ch) hx.out)
     have GX:Hid (validO ch x=false→validT ch L=false):=Lib.hid fun h=>by
      rw[E.out];exact all_false htk.out (by unfold validL;rw[all_false hx.out h,Bool.and_false])
     clear hx T2
     obtain⟨kd,cn,vl,ea,ec,el⟩:=x
     unfold OpD.agg OpD.ev at FX
     dsimp only at FX c0 c1 c2 c3
     cases hv:validO ch ⟨kd,cn,vl,ea,ec,el⟩ with
     |true=>
      rw[hv] at FX
      have X:Hid (goodTo ch t'.ops (j+1)=true):=Lib.hid (by rw[GS.out,HG.out,hv];rfl)
      clear hv GS GX
      go_wp2_with fail
      refine FX.out.mono ?_
      rintro e w9 ⟨rfl,hb9⟩
      have B9:=Lib.hid (HB2.out.trans (hb9.mono HB2.out.size))
      clear hb9
      go_wp2_with fail
      go_roundw
      case rel=>exact⟨j+1,by omega,by go_num,X.out,B9.out⟩
      case measure=>simp[intOf];omega
     |false=>
      rw[hv] at FX
      have X:=Lib.hid (GX.out hv)
      clear hv GS GX
      go_wp2_with fail
      refine FX.out.mono ?_
      rintro e w9 ⟨rfl,hb9⟩
      have B9:=Lib.hid (HB2.out.trans (hb9.mono HB2.out.size))
      clear hb9
      go_wp2_with fail
      go_ret
      exact⟨by rw[X.out];rfl,B9.out⟩
    ·obtain rfl:j=t'.ops.length:=by omega
     have X:Hid (validTo ch L (i+1)=true):=Lib.hid (by
      rw[validTo_succ htk.out,HT.out]
      unfold validL
      have h:=HG.out
      unfold goodTo at h
      rw[List.take_length] at h
      rw[h];simp[h30])
     go_wp2_with fail
     go_roundw
     case rel=>exact⟨i+1,by omega,by go_num,X.out,HB2.out⟩
     case measure=>simp[intOf];omega
  ·obtain rfl:i=L.length:=by omega
   have X:Hid (validT ch L=true):=Lib.hid (by
    rw[E.out]
    have h:=HT.out
    unfold validTo at h
    rwa[List.take_length] at h)
   go_wp2_with fail
   go_ret
   exact⟨by rw[X.out];rfl,HB.out⟩
end
end Go.Proofs.Ytbjlijagheifgaa
namespace Go.Side
section
open Go Go.Conc Go.ConcN Go.Proofs Go.RowKit Go.Proofs.Ytbjlijagheifgaa
noncomputable def b6:Code:=Try.f6.body.getD .skip
theorem validT_ops{ch:Int}{Q L:List TkD}(h:Q.map TkD.ops=L.map TkD.ops):validT ch Q=validT ch L:=by
 have e:∀L:List TkD,(L.all fun t=>validL ch t.ops)=(L.map TkD.ops).all (validL ch):=fun L=>by rw[List.all_map];rfl
 have hl:Q.length=L.length:=by simpa using congrArg List.length h
 unfold validT
 rw[e,e,h,hl]
def atTo(L:List TkD)(at_:List Int)(n:Nat):Bool:=(List.range n).all fun i=>match L[i]?,at_[i]? with
 |some t,some p=>decide (0≤p)&&decide (p≤t.ops.length)
 |_,_=>false
theorem atTo_succ{L:List TkD}{at_:List Int}{i:Nat}{t:TkD}{p:Int}(h:L[i]?=some t)(k:at_[i]?=some p):atTo L at_ (i+1)=(atTo L at_ i&&(decide (0≤p)&&decide (p≤t.ops.length))):=by
 simp[atTo,List.range_succ,h,k]
theorem ops_ok{w:World}{a:Option Addr}{Q L:List TkD}(hs:SlT w a L)(hQ:Q.map TkD.ops=L.map TkD.ops):∀t∈Q,∀x∈t.ops,OpOk w x:=fun t ht x hx=>by
 have h:t.ops∈L.map TkD.ops:=by rw[←hQ];exact List.mem_map_of_mem ht
 obtain⟨t',h1,h2⟩:=List.mem_map.1 h
 obtain⟨j,hj⟩:=List.getElem?_of_mem h1
 exact(hs j t' hj).2.2.ops x (by rw[h2];exact hx)
end
section
open Go Go.ConcN Go.RowKit Go.Proofs.Ytbjlijagheifgaa
theorem wpAnyH_step2{P:Program}{md:Region.Mode}{Q:Exit→Act→World→Prop}{l:List Oper}{S:World→Prop}{i j f:Nat}{o o2:Oper}{listed:Array Bool}{a:Act}{w:World}(hr:Region.ready md l.toArray listed=[i,j])(ho:l[i]?=some o)(ho2:l[j]?=some o2)(h:∀K':Act→World→Prop,Shut (∀a w,S w→(S w→wpAnyH P md l.toArray Q S f (listed.setIfInBounds i true) a w)→K' a w)→if Region.wanted o (yielded l.toArray a.tmps)=true then Oper.wp P o a w K' Q else K' (a.put o.dst undef) w)(h2:∀K':Act→World→Prop,Shut (∀a w,S w→(S w→wpAnyH P md l.toArray Q S f (listed.setIfInBounds j true) a w)→K' a w)→if Region.wanted o2 (yielded l.toArray a.tmps)=true then Oper.wp P o2 a w K' Q else K' (a.put o2.dst undef) w):
  wpAnyH P md l.toArray Q S (f+1) listed a w:=wpAnyH_ready hr (by simp) (AllReadyH.cons (by simpa using ho) h (AllReadyH.cons (by simpa using ho2) h2 AllReadyH.nil))
def rowA(n:Nat)(r:PS):List Value:=(List.range n).map fun k=>.int .i64 ((r k).1:Int)
def rowZ(n:Nat)(r:PS):List Value:=(List.range n).map fun k=>.int .i64 (r k).2
theorem range_set{α:Type}{f g:Nat→α}{n k:Nat}{v:α}(hk:k<n)(h1:g k=v)(h2:∀j,j≠k→g j=f j):((List.range n).map f).set k v=(List.range n).map g:=by
 apply List.ext_getElem?
 intro j
 rw[List.getElem?_set]
 simp only[List.length_map,List.length_range,List.getElem?_map]
 by_cases e:k=j
 ·subst e
  simp[hk,h1]
 ·rw[if_neg e]
  rcases Nat.lt_or_ge j n with h|h
  ·rw[List.getElem?_range h];simp[h2 j (fun x=>e x.symm)]
  ·simp[h]
theorem range_get{α:Type}(f:Nat→α){n k:Nat}(hk:k<n):((List.range n).map f)[k]?=some (f k):=by simp[hk]
structure PSm(w:World)(bA bZ n:Nat)(r:PS):Prop where
 at_:Blk w bA 3 (rowA n r)
 sm:Blk w bZ 3 (rowZ n r)
section
variable {w w':World} {bA bZ n k:Nat} {r q:PS}
theorem PSm.upd{S:Nat→Prop}(h:PSm w bA bZ n r)(U:Upd S w w')(h1:¬S bA)(h2:¬S bZ):PSm w' bA bZ n r:=⟨h.1.upd U h1,h.2.upd U h2⟩
theorem PSm.qt(h:PSm w bA bZ n r)(U:Qt w w'):PSm w' bA bZ n r:=⟨h.1.qt U,h.2.qt U⟩
theorem PSm.new(h:PSm w bA bZ n r)(q:Below w.heap.size w w'):PSm w' bA bZ n r:=h.upd (Upd.of_below (S:=fun _=>False) q) id id
theorem PSm.congr(h:PSm w bA bZ n r)(e:∀k,k<n→r k=q k):PSm w bA bZ n q:=by
 have e1:rowA n r=rowA n q:=List.map_congr_left fun k hk=>by rw[e k (List.mem_range.1 hk)]
 have e2:rowZ n r=rowZ n q:=List.map_congr_left fun k hk=>by rw[e k (List.mem_range.1 hk)]
 exact⟨e1▸h.1,e2▸h.2⟩
theorem PSm.getA(h:PSm w bA bZ n r)(hk:k<n):w.cell? ⟨bA,k,none⟩=some (.int .i64 ((r k).1:Int)):=h.1.cell (range_get _ hk)
theorem PSm.getZ(h:PSm w bA bZ n r)(hk:k<n):w.cell? ⟨bZ,k,none⟩=some (.int .i64 (r k).2):=h.2.cell (range_get _ hk)
theorem PSm.setA(h:PSm w bA bZ n r)(hne:bA≠bZ)(hk:k<n)(p:Nat):PSm (w.setCell ⟨bA,k,none⟩ (.int .i64 (p:Int))) bA bZ n (ConcN.upd r k (p,(r k).2)):=by
 refine⟨?_,?_⟩
 ·have:=h.1.set k (.int .i64 (p:Int))
  rwa[rowA,range_set (g:=fun j=>.int .i64 ((ConcN.upd r k (p,(r k).2) j).1:Int)) hk (by simp[upd_eq]) fun j hj=>by rw[upd_other _ _ hj]] at this
 ·have:=h.2.setO (a:=⟨bA,k,none⟩) (.int .i64 (p:Int)) (Ne.symm hne)
  have e:rowZ n (ConcN.upd r k (p,(r k).2))=rowZ n r:=List.map_congr_left fun j _=>by
   by_cases e:j=k
   ·subst e;rw[upd_eq]
   ·rw[upd_other _ _ e]
  rwa[e]
theorem PSm.setZ(h:PSm w bA bZ n r)(hne:bA≠bZ)(hk:k<n)(z:Int):PSm (w.setCell ⟨bZ,k,none⟩ (.int .i64 z)) bA bZ n (ConcN.upd r k ((r k).1,z)):=by
 refine⟨?_,?_⟩
 ·have:=h.1.setO (a:=⟨bZ,k,none⟩) (.int .i64 z) hne
  have e:rowA n (ConcN.upd r k ((r k).1,z))=rowA n r:=List.map_congr_left fun j _=>by
   by_cases e:j=k
   ·subst e;rw[upd_eq]
   ·rw[upd_other _ _ e]
  rwa[e]
 ·have:=h.2.set k (.int .i64 z)
  rwa[rowZ,range_set (g:=fun j=>.int .i64 (ConcN.upd r k ((r k).1,z) j).2) hk (by simp[upd_eq]) fun j hj=>by rw[upd_other _ _ hj]] at this
end
def Fit(L:List TkD)(r:PS):Prop:=∀(k:Nat) (t:TkD),L[k]?=some t→(r k).1≤t.ops.length
def Stp(L:List TkD)(r:PS)(k:Nat):Prop:=∀(t:TkD) (x:OpD),L[k]?=some t→t.ops[(r k).1]?=some x→x.kind≠4
theorem advL_le:∀(l:List OpD) (p:Nat) (z:Int),p≤(advL l p z).1∧(advL l p z).1≤p+l.length
 |[],p,z=>⟨Nat.le_refl _,Nat.le_refl _⟩
 |o::l,p,z=>by
  unfold advL
  split
  ·have:=advL_le l (p+1) (IntKind.i64.wrap (z+o.val))
   simp only[List.length_cons];omega
  ·simp
section
variable {L:List TkD} {r q s:PS} {i:Nat} {t:TkD} {x:OpD}
theorem Fit.adv(h:Fit L r):Fit L (advS L r):=fun k t ht=>by
 have h1:=h k t ht
 have h2:=advL_le (t.ops.drop (r k).1) (r k).1 (r k).2
 unfold advS
 rw[ht]
 simp only[List.length_drop] at h2⊢
 omega
theorem adv_ge(L:List TkD)(r:PS)(k:Nat):(r k).1≤(advS L r k).1:=by
 unfold advS
 cases h:L[k]? with
 |none=>exact Nat.le_refl _
 |some t=>exact(advL_le _ _ _).1
theorem adv_stop(h:Stp L r i):advS L r i=r i:=by
 unfold advS
 cases ht:L[i]? with
 |none=>rfl
 |some t=>exact advL_stop fun y hy=>h t y ht (by simpa using hy)
theorem adv_add(ht:L[i]?=some t)(hx:t.ops[(r i).1]?=some x)(hk:x.kind=4):advS L (upd r i ((r i).1+1,IntKind.i64.wrap ((r i).2+x.val)))=advS L r:=by
 funext k
 by_cases e:k=i
 ·subst e
  unfold advS
  rw[ht,upd_eq]
  have hl:(r k).1<t.ops.length:=(List.getElem?_eq_some_iff.1 hx).1
  have hd:t.ops.drop (r k).1=x::t.ops.drop ((r k).1+1):=by
   rw[List.drop_eq_getElem_cons hl]
   rw[List.getElem?_eq_getElem hl] at hx
   rw[Option.some.inj hx]
  simp only
  rw[hd,advL,if_pos hk]
 ·unfold advS
  rw[upd_other _ _ e]
structure Adv(L:List TkD)(s q:PS)(i:Nat):Prop where
 fit:Fit L q
 adv:advS L q=s
 stp:∀k,k<i→Stp L q k
theorem Adv.start(h:Fit L r):Adv L (advS L r) r 0:=⟨h,rfl,fun k hk=>by omega⟩
theorem Adv.next(h:Adv L s q i)(hs:Stp L q i):Adv L s q (i+1):=⟨h.fit,h.adv,fun k hk=>by
 by_cases e:k=i
 ·subst e;exact hs
 ·exact h.stp k (by omega)⟩
theorem Adv.add(h:Adv L s q i)(ht:L[i]?=some t)(hx:t.ops[(q i).1]?=some x)(hk:x.kind=4):Adv L s (upd q i ((q i).1+1,IntKind.i64.wrap ((q i).2+x.val))) i:=by
 refine⟨fun k t' ht'=>?_,by rw[adv_add ht hx hk];exact h.adv,fun k hk'=>?_⟩
 ·by_cases e:k=i
  ·subst e
   rw[upd_eq]
   obtain rfl:t=t':=Option.some.inj (ht.symm.trans ht')
   exact(List.getElem?_eq_some_iff.1 hx).1
  ·rw[upd_other _ _ e];exact h.fit k t' ht'
 ·intro t' y h1 h2
  rw[upd_other _ _ (by omega)] at h2
  exact h.stp k hk' t' y h1 h2
theorem Adv.done(h:Adv L s q L.length):∀k,k<L.length→q k=s k:=fun k hk=>by rw[←h.adv,adv_stop (h.stp k hk)]
theorem upd2(q:PS)(i p:Nat)(z:Int):upd (upd q i ((q i).1,z)) i (p,(upd q i ((q i).1,z) i).2)=upd q i (p,z):=by
 funext k
 by_cases e:k=i
 ·subst e;simp[upd_eq]
 ·simp[upd_other _ _ e]
end
section
variable {L:List TkD} {s:PS} {x:StepP}
theorem possS_get(h:x∈possS L s):x.fr<L.length∧x.tg<L.length∧x.fr≠x.tg∧(∃t,L[x.fr]?=some t∧(s x.fr).1<t.ops.length)∧∃t,L[x.tg]?=some t∧(s x.tg).1<t.ops.length:=by
 obtain⟨h1,h2,a,b,h3,h4,_⟩:=possD_mem h
 have f:∀{k:Nat} {a:OpD},offS L s k=some a→∃t,L[k]?=some t∧(s k).1<t.ops.length:=fun{k a} h=>by
  unfold offS at h
  cases ht:L[k]? with
  |none=>rw[ht] at h;cases h
  |some t=>rw[ht] at h;exact⟨t,rfl,(List.getElem?_eq_some_iff.1 h).1⟩
 exact⟨h1,h2,possS_ne h,f h3,f h4⟩
theorem Fit.step(h:Fit L s)(hx:x∈possS L s):Fit L (stepS s x):=fun k t ht=>by
 obtain⟨_,_,hne,⟨t1,e1,l1⟩,t2,e2,l2⟩:=possS_get hx
 unfold stepS
 by_cases a:k=x.tg
 ·subst a
  rw[upd_eq]
  obtain rfl:t2=t:=Option.some.inj (e2.symm.trans ht)
  exact l2
 ·rw[upd_other _ _ a]
  by_cases b:k=x.fr
  ·subst b
   rw[upd_eq]
   obtain rfl:t1=t:=Option.some.inj (e1.symm.trans ht)
   exact l1
  ·rw[upd_other _ _ b];exact h k t ht
def posT(n:Nat)(s:PS):Nat:=sumTo n fun k=>(s k).1
theorem posT_le{n m:Nat}(h:∀k,k<n→(s k).1≤m):posT n s≤n*m:=sumTo_le h
theorem sumTo_mono{f g:Nat→Nat}:∀{n:Nat},(∀k,k<n→f k≤g k)→sumTo n f≤sumTo n g
 |0,_=>Nat.le_refl _
 |n+1,h=>by
  have:=sumTo_mono (n:=n) fun k hk=>h k (by omega)
  have:=h n (by omega)
  simp only[sumTo];omega
theorem posT_adv(L:List TkD)(n:Nat)(s:PS):posT n s≤posT n (advS L s):=sumTo_mono fun k _=>adv_ge L s k
theorem posT_step(hx:x∈possS L s):posT L.length (stepS s x)=posT L.length s+2:=by
 obtain⟨h1,h2,hne,_⟩:=possS_get hx
 have e1:=sumTo_upd (j:=L.length) s ((s x.fr).1+1,(s x.fr).2) (fun y=>y.1) h1
 have e2:=sumTo_upd (j:=L.length) (upd s x.fr ((s x.fr).1+1,(s x.fr).2)) ((s x.tg).1+1,IntKind.i64.wrap ((s x.tg).2+x.vl)) (fun y=>y.1) h2
 rw[upd_other _ _ (Ne.symm hne)] at e2
 unfold posT stepS
 simp only at e1 e2
 omega
structure RunS(L:List TkD)(ch:List Int)(r:PS)(S:List StepP):Prop where
 fit:Fit L r
 cnt:2*S.length≤posT L.length r
 all:∀s' S',RunA L ch (advS L r) S s' S'→Outc L ch s' S'
theorem RunS.start(L:List TkD)(ch:List Int):RunS L ch (fun _=>(0,0)) []:=⟨fun _ _ _=>Nat.zero_le _,Nat.zero_le _,fun _ _ h=>h⟩
theorem RunS.step{ch:List Int}{r:PS}{S:List StepP}(h:RunS L ch r S)(hx:(possS L (advS L r))[pickP ch S.length (possS L (advS L r)).length]?=some x):RunS L ch (stepS (advS L r) x) (S++[x]):=by
 have hm:=List.mem_of_getElem? hx
 have h1:=posT_step hm
 have h2:=posT_adv L L.length r
 have h3:=h.cnt
 exact⟨h.fit.adv.step hm,by rw[List.length_append];simp;omega,fun s' S' k=>h.all s' S' (.step hx k)⟩
theorem RunS.len{ch:List Int}{r:PS}{S:List StepP}(h:RunS L ch r S)(hl:L.length≤8)(ho:∀t∈L,t.ops.length≤30):S.length≤120:=by
 have h1:posT L.length r≤L.length*30:=posT_le fun k hk=>Nat.le_trans (h.fit k _ (List.getElem?_eq_getElem hk)) (ho _ (List.getElem_mem hk))
 have h2:=h.cnt
 omega
theorem pick_lt(ch:List Int)(j:Nat){n:Nat}(h:0<n):pickP ch j n<n:=by
 unfold pickP
 split
 ·rename_i c _
  have h1:(c.tmod n)+n>0:=by have h2:=Int.lt_tmod_of_pos c (show(0:Int)<n by omega);omega
  have h2:=Int.tmod_lt_of_pos (c.tmod n+n) (show(0:Int)<n by omega)
  have h3:=Int.tmod_nonneg (a:=c.tmod n+n) n (by omega)
  omega
 ·exact h
end
end
end Go.Side
