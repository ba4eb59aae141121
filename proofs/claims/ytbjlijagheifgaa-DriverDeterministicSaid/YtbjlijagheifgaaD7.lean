/-
  Texts of Ytbjlijagheifgaa, merged.
-/
import Derived.Test.YtbjlijagheifgaaD6
set_option linter.unusedSimpArgs false
set_option linter.unusedVariables false
namespace Go.Side
section
open Go Go.Conc Go.ConcN
open Go.ConcR (KK WgAt stA smA rd wr wgBlock)
inductive Comes(P:Program)(Q:Machine→Trace→Prop):Machine→Trace→Prop
 |here {m:Machine} {t:Trace} (h:Q m t):Comes P Q m t
 |step {m m':Machine} {t ops:Trace} (h:stepT P m=(.next m',ops)) (k:Comes P Q m' (t++ops)):Comes P Q m t
theorem Comes.bind{P:Program}{Q Q':Machine→Trace→Prop}{m:Machine}{t:Trace}(h:Comes P Q m t)(k:∀m t,Q m t→Comes P Q' m t):Comes P Q' m t:=by
 induction h with
 |here h=>exact k _ _ h
 |step h _ ih=>exact .step h ih
theorem Comes.runs{P:Program}{Q:Machine→Trace→Prop}{m:Machine}{t:Trace}(h:Comes P Q m t):∃N m' t',runNT P N m t=(.next m',t')∧Q m' t':=by
 induction h with
 |here h=>exact⟨0,_,_,rfl,h⟩
 |step h _ ih=>
  obtain⟨N,m',t',h1,h2⟩:=ih
  exact⟨N+1,m',t',by simp only[runNT,h];exact h1,h2⟩
section
variable {σ:Type} {C:Fix σ} {g0 n:Nat} {ws:Nat→WV} {st:Nat→WState σ} {D D':Nat→WDat σ} {T T':Terr} {dS dS':Nat} {qcl qcl':Bool} {q q':Nat→Nat} {gs:Array Goroutine} {w w':World} {t u:Trace} {k:Nat}
def meas(g0 n:Nat)(D:Nat→WDat σ)(q:Nat→Nat):Nat×Nat:=(sumTo n fun k=>rank (D k).pos,(sumTo n fun k=>(D k).fuel)+sumTo g0 q)
theorem meas_rank{d:WDat σ}(hk:k<n)(h:rank d.pos<rank (D k).pos):Lt2 (meas g0 n (upd D k d) q) (meas g0 n D q):=by
 have:=sumTo_upd D d (fun d=>rank d.pos) hk
 exact Prod.Lex.left _ _ (by omega)
theorem meas_fuel{d:WDat σ}(hk:k<n)(h:rank d.pos=rank (D k).pos)(hf:d.fuel<(D k).fuel):Lt2 (meas g0 n (upd D k d) q) (meas g0 n D q):=by
 have h1:=sumTo_upd D d (fun d=>rank d.pos) hk
 have h2:=sumTo_upd D d WDat.fuel hk
 have e:(sumTo n fun a=>rank (upd D k d a).pos)=sumTo n fun a=>rank (D a).pos:=by omega
 simp only[meas,e]
 refine Prod.Lex.right _ ?_
 omega
theorem meas_quit{i f:Nat}(hi:i<g0)(hf:q i=f+1):Lt2 (meas g0 n D (upd q i f)) (meas g0 n D q):=by
 have h2:=sumTo_upd q f id hi
 have e:(sumTo g0 fun a=>id (upd q i f a))=sumTo g0 (upd q i f):=rfl
 have e':(sumTo g0 fun a=>id (q a))=sumTo g0 q:=rfl
 rw[e,e',hf] at h2
 refine Prod.Lex.right _ ?_
 simp only[id] at h2
 omega
structure RA(C:Fix σ)(g0 n:Nat)(ws:Nat→WV)(st:Nat→WState σ)(D:Nat→WDat σ)(T:Terr)(dS:Nat)(qcl:Bool)(q:Nat→Nat)(w:World)(t:Trace)(tag:CTag)(a:Goroutine)(gs':Array Goroutine)(w':World)(ops:Trace)(D':Nat→WDat σ)(q':Nat→Nat)(b1 b2:Int)(g g':Goroutine):Prop where
 net:Net C g0 n ws st D' T dS qcl q' gs' w' (t++ops)
 rely:∀b:Bool,(b=true→QuietS n st∧∀k,k<n→∀x s,(D k).pos≠ .fin x s false)→Rely b T w w'
 wg:WgAt C.ty C.Wg w' b1 b2
 zero:gs'[0]?=some (woken C.P g g' w' a)
 mode:∀tag',(tag'=tag∨(tag= .blk∧tag'= .w3))→(mayWake C.P g=true→g'.status= .running→tag'≠ .blk)→ConcN.Mode n (fun i=>wd (D' i)) tag' b1 b2
 less:Lt2 (meas g0 n D' q') (meas g0 n D q)
 rel:∀j,j<n→kst (D j).pos≠7→(D' j).rel=(D j).rel
 cnt:Vc n (fun i=>wd (D' i))≤Vc n (fun i=>wd (D i))
 pos:∀j,j<n→(D' j).pos=(D j).pos∨(∃N s,(D j).pos= .run N s∧(D' j).pos= .fin 7 s true∧mayWake C.P g=true∧g'.status= .running)∨(∃x x' s b,(D j).pos= .fin x s b∧(D' j).pos= .fin x' s b)
theorem round(N:Net C g0 n ws st D T dS qcl q gs w t){tag:CTag}{a1 a2:Int}(hn:n+pend tag≤2147483646)(hwg:WgAt C.ty C.Wg w a1 a2)(hm:ConcN.Mode n (fun i=>wd (D i)) tag a1 a2){a:Goroutine}(ha:gs[0]?=some a)(haw:awake a)(some1:∃(i:Nat) (g:Goroutine),gs[i]?=some g∧g.status= .running)(sl:Option (Nat×Nat)):
  (∃d sl',a.status= .running∧stepT C.P (crowd gs w sl)=runT C.P (crowd gs (w.at d) sl') 0)∨
  (∃gs' w' sl' ops D' q' b1 b2 g g',stepT C.P (crowd gs w sl)=(.next (crowd gs' w' sl'),ops)∧RA C g0 n ws st D T dS qcl q w t tag a gs' w' ops D' q' b1 b2 g g')∨
  (∃k g d sl',k<n∧gs[g0+k]?=some g∧g.status= .running∧stepT C.P (crowd gs w sl)=runT C.P (crowd gs (w.at d) sl') (g0+k)∧(WB C ws D (w.at d) k g∨WC C ws D (w.at d) k g)):=by
 have hp:=N.pos
 have hsz:=N.size
 have aw:∀g∈gs,awake g:=by
  intro g hg
  obtain⟨i,hi,rfl⟩:=Array.mem_iff_getElem.1 hg
  rcases Nat.eq_zero_or_pos i with rfl|hpos
  ·have:gs[0]=a:=by simpa[Array.getElem?_eq_getElem hi] using ha
   rw[this];exact haw
  ·by_cases hlt:i<g0
   ·exact awake_of ((N.old i _ hpos hlt (Array.getElem?_eq_getElem hi)).status.elim .inl fun x=>.inr (.inr x))
   ·obtain⟨y,hy,hs⟩:=N.sit (i-g0) (by omega)
    have e:g0+(i-g0)=i:=by omega
    rw[e,Array.getElem?_eq_getElem hi] at hy
    obtain rfl:=Option.some.inj hy
    cases hpos':(D (i-g0)).pos with
    |sendB M s s' x=>
     simp only[WSit,hpos'] at hs
     obtain⟨g1,z,e1,_⟩:=hs
     rw[e1];exact awake_of (.inr (.inl rfl))
    |selB M s=>
     simp only[WSit,hpos'] at hs
     obtain⟨g1,e1,_⟩:=hs
     rw[e1]
     cases qcl with
     |true=>exact awake_of (.inl rfl)
     |false=>exact awake_of (.inr (.inl rfl))
    |run M s=>exact awake_of ((WSit.status hs (by rw[hpos'];simp) (by rw[hpos'];simp)).elim .inl fun x=>.inr (.inr x))
    |sel M s=>exact awake_of ((WSit.status hs (by rw[hpos'];simp) (by rw[hpos'];simp)).elim .inl fun x=>.inr (.inr x))
    |fin x s b=>exact awake_of ((WSit.status hs (by rw[hpos'];simp) (by rw[hpos'];simp)).elim .inl fun x=>.inr (.inr x))
 obtain⟨i,g,d,sl',hi,hg,hst⟩:=crowd_pick (P:=C.P) (w:=w) (sl:=sl) aw some1
 rcases Nat.eq_zero_or_pos i with rfl|hpos
 ·left
  rw[ha] at hi
  obtain rfl:=Option.some.inj hi
  exact⟨d,sl',hg,hst⟩
 right
 have N1:=N.at d
 by_cases hlt:i<g0
 ·left
  obtain⟨g',es,f,hf,hstp,hN⟩:=N1.leave hpos hlt hi hg
  have hi0:(i==0)=false:=by simp;omega
  have hrun:=runT_crowd_go (P:=C.P) (sl:=sl') (i:=i) hi (by rw[hi0];exact hstp (w.at d))
  refine⟨_,_,sl',_,D,_,a1,a2,g,g',hst.trans hrun,hN _ _,fun b _=>Rely.at _ _ _ _,hwg,?_,fun tag' ht _=>hm.retag ht,meas_quit hlt hf,fun _ _ _=>rfl,Nat.le_refl _,fun j _=>.inl rfl⟩
  rw[gs_new _ _ (by omega),ha];rfl
 ·have hb:i<gs.size:=(Array.getElem?_eq_some_iff.1 hi).1
  obtain⟨k,rfl⟩:∃k,i=g0+k:=⟨i-g0,by omega⟩
  have hk:k<n:=by omega
  rcases wstep N1 hn hk hi hg hwg hm sl' with⟨g',w',ops,e,b1,b2,W⟩|hB|hC
  ·left
   refine⟨_,w',sl',ops,upd D k e,q,b1,b2,g,g',hst.trans W.run,W.net,fun b hb=>(Rely.at _ _ _ d).trans (W.rely b fun x=>⟨(hb x).1 k hk,(hb x).2 k hk⟩),W.wg,by rw[gs_new _ _ (by omega),ha];rfl,W.mode,?_,fun j hj hkj=>?_,?_,fun j hj=>?_⟩
   ·rcases W.pos with⟨h1,h2⟩|⟨M,s,h1,h2,_⟩|⟨x,x',s,b,h1,h2,h3⟩
    ·exact meas_fuel hk (by rw[h1]) h2
    ·exact meas_rank hk (by rw[h1,h2];simp[rank])
    ·exact meas_rank hk (by rw[h1,h2];exact h3)
   ·by_cases ej:j=k
    ·subst ej;rw[upd_eq];exact W.rel hkj
    ·rw[upd_other _ _ ej]
   ·have h:=Vc_upd (fun i=>wd (D i)) (wd e) hk
    have hle:cnt (wd e)≤cnt (wd (D k)):=by
     have hs:kst e.pos≤kst (D k).pos:=by
      rcases W.pos with⟨h1,h2⟩|⟨M,s,h1,h2,_⟩|⟨x,x',s,b,h1,h2,h3⟩
      ·rw[h1];exact Nat.le_refl _
      ·rw[h1,h2];exact Nat.le_refl _
      ·rw[h1,h2];simp only[kst];omega
     unfold cnt wd
     simp only
     split<;>split<;>omega
    rw[wd_upd]
    omega
   ·by_cases ej:j=k
    ·subst ej
     rw[upd_eq]
     rcases W.pos with⟨h1,h2⟩|h|⟨x,x',s,b,h1,h2,h3⟩
     ·exact .inl h1
     ·exact .inr (.inl h)
     ·exact .inr (.inr ⟨x,x',s,b,h1,h2⟩)
    ·rw[upd_other _ _ ej];exact .inl rfl
  ·exact .inr ⟨k,g,d,sl',hk,hi,hg,hst,.inl hB⟩
  ·exact .inr ⟨k,g,d,sl',hk,hi,hg,hst,.inr hC⟩
end
end
section
open Go Go.Conc Go.ConcN
open Go.ConcR (KK WgAt stA smA rd wr wgBlock)
def tagI(p:Nat):CTag:=.sp 0 (if p=0 then 9 else 0)
section
variable {σ:Type} {C:Fix σ} {g0 n:Nat} {ws:Nat→WV} {st:Nat→WState σ} {D D':Nat→WDat σ} {T T':Terr} {dS dS':Nat} {qcl qcl':Bool} {q q':Nat→Nat} {gs:Array Goroutine} {w w':World} {t u:Trace} {k p:Nat} {Q:Machine→Trace→Prop}
structure P1(C:Fix σ)(g0 n:Nat)(ws:Nat→WV)(st:Nat→WState σ)(D:Nat→WDat σ)(T:Terr)(dS p:Nat)(q:Nat→Nat)(gs:Array Goroutine)(w:World)(t:Trace):Prop where
 net:Net C g0 n ws st D T dS false q gs w t
 bound:n+pend (tagI p)≤2147483646
 grp:∃a1 a2,WgAt C.ty C.Wg w a1 a2∧ConcN.Mode n (fun i=>wd (D i)) (tagI p) a1 a2
 nofin:∀k,k<n→∀x s,(D k).pos≠ .fin x s false
theorem P1.round(H:P1 C g0 n ws st D T dS p q gs w t){a:Goroutine}(ha:gs[0]?=some a)(haw:awake a)(some1:∃(i:Nat) (g:Goroutine),gs[i]?=some g∧g.status= .running)(sl:Option (Nat×Nat)):
  (∃d sl',a.status= .running∧stepT C.P (crowd gs w sl)=runT C.P (crowd gs (w.at d) sl') 0)∨
  (∃gs' w' sl' ops D' q' g g',stepT C.P (crowd gs w sl)=(.next (crowd gs' w' sl'),ops)∧P1 C g0 n ws st D' T dS p q' gs' w' (t++ops)∧(∀b:Bool,(b=true→QuietS n st)→Rely b T w w')∧gs'[0]?=some (woken C.P g g' w' a)∧Lt2 (meas g0 n D' q') (meas g0 n D q)∧
   ∀j,j<n→(D' j).pos=(D j).pos∨(∃N s,(D j).pos= .run N s∧(D' j).pos= .fin 7 s true∧mayWake C.P g=true∧g'.status= .running)∨(∃x x' s b,(D j).pos= .fin x s b∧(D' j).pos= .fin x' s b))∨
  (∃k g d sl',k<n∧gs[g0+k]?=some g∧g.status= .running∧stepT C.P (crowd gs w sl)=runT C.P (crowd gs (w.at d) sl') (g0+k)∧(WB C ws D (w.at d) k g∨WC C ws D (w.at d) k g)):=by
 obtain⟨a1,a2,hwg,hm⟩:=H.grp
 rcases Go.Side.round H.net H.bound hwg hm ha haw some1 sl with h|⟨gs',w',sl',ops,D',q',b1,b2,g,g',hst,R⟩|h
 ·exact .inl h
 ·refine .inr (.inl ⟨gs',w',sl',ops,D',q',g,g',hst,⟨R.net,H.bound,⟨b1,b2,R.wg,R.mode _ (.inl rfl) fun _ _ e=>by cases e⟩,fun k hk x s e=>?_⟩,fun b hb=>R.rely b fun e=>⟨hb e,H.nofin⟩,R.zero,R.less,R.pos⟩)
  rcases R.pos k hk with h|⟨N,s',_,h,_⟩|⟨x',x'',s',b,h1,h2⟩
  ·exact H.nofin k hk x s (h▸e)
  ·rw[h] at e;cases e
  ·rw[h2] at e;cases e;exact H.nofin k hk _ _ h1
 ·exact .inr (.inr h)
theorem P1.at(H:P1 C g0 n ws st D T dS p q gs w t)(d:Nat):P1 C g0 n ws st D T dS p q gs (w.at d) t:=⟨H.net.at d,H.bound,H.grp,H.nofin⟩
theorem P1.parkB(H:P1 C g0 n ws st D T dS p q gs w t)(hk:k<n){g:Goroutine}(hg:gs[g0+k]?=some g)(hB:WB C ws D w k g)(sl:Option (Nat×Nat))(h0:∀x,gs[0]?=some x→offersAt x (ws k).of false=[]):
  ∃gs' d,runT C.P (crowd gs w sl) (g0+k)=(.next (crowd gs' w sl),#[])∧gs'[0]?=gs[0]?∧P1 C g0 n ws st (upd D k d) T dS p q gs' w t∧Lt2 (meas g0 n (upd D k d) q) (meas g0 n D q)∧∃M s s' x,d.pos= .sendB M s s' x:=by
 obtain⟨gs',d,h1,h2,h3,h4,h5,M,s,s',x,h6⟩:=wparkB H.net hk hg hB sl h0
 obtain⟨a1,a2,hwg,hm⟩:=H.grp
 refine⟨gs',d,h1,h2,⟨h3,H.bound,⟨a1,a2,hwg,mode_keep hm h4⟩,fun j hj x s=>?_⟩,meas_rank hk h5,M,s,s',x,h6⟩
 by_cases e:j=k
 ·subst e;rw[upd_eq,h6];simp
 ·rw[upd_other _ _ e];exact H.nofin j hj x s
theorem P1.parkC(H:P1 C g0 n ws st D T dS p q gs w t)(hk:k<n){g:Goroutine}(hg:gs[g0+k]?=some g)(hr:g.status= .running)(hC:WC C ws D w k g)(sl:Option (Nat×Nat))(h0:∀x,gs[0]?=some x→offersAt x (ws k).an true=[]∧offersAt x C.qc true=[]):
  ∃gs' d,runT C.P (crowd gs w sl) (g0+k)=(.next (crowd gs' w sl),#[])∧gs'[0]?=gs[0]?∧P1 C g0 n ws st (upd D k d) T dS p q gs' w t∧Lt2 (meas g0 n (upd D k d) q) (meas g0 n D q)∧∃M s,d.pos= .selB M s:=by
 obtain⟨gs',d,h1,h2,h3,h4,h5,M,s,h6⟩:=wparkC H.net hk hg hr hC sl h0
 obtain⟨a1,a2,hwg,hm⟩:=H.grp
 refine⟨gs',d,h1,h2,⟨h3,H.bound,⟨a1,a2,hwg,mode_keep hm h4⟩,fun j hj x s=>?_⟩,meas_rank hk h5,M,s,h6⟩
 by_cases e:j=k
 ·subst e;rw[upd_eq,h6];simp
 ·rw[upd_other _ _ e];exact H.nofin j hj x s
def Does(C:Fix σ)(Q:Machine→Trace→Prop)(m:Machine)(i:Nat)(t:Trace):Prop:=∃m' ops,runT C.P m i=(.next m',ops)∧Comes C.P Q m' (t++ops)
theorem Does.comes{m m':Machine}{i:Nat}(h:Does C Q m i t)(hs:stepT C.P m'=runT C.P m i):Comes C.P Q m' t:=by
 obtain⟨m₁,ops,h1,h2⟩:=h
 exact .step (hs.trans h1) h2
theorem lt2_wf:WellFounded Lt2:=(Prod.lex Nat.lt_wfRel Nat.lt_wfRel).wf
theorem until_run{b:Bool}(hb:b=true→QuietS n st){a:Goroutine}(hr:a.status= .running)(i:Option Nat)(h0:∀gs w₁ sl t D q,P1 C g0 n ws st D T dS p q gs w₁ t→gs[0]?=some a→Rely b T w w₁→(∀j,i=some j→isShut (D j).pos=true)→Does C Q (crowd gs w₁ sl) 0 t)(hi:∀j,i=some j→j<n):
  ∀{gs w₁ sl t D q},P1 C g0 n ws st D T dS p q gs w₁ t→gs[0]?=some a→Rely b T w w₁→(∀j,i=some j→isShut (D j).pos=true)→Comes C.P Q (crowd gs w₁ sl) t:=by
 have key:∀μ:Nat×Nat,∀{gs w₁ sl t D q},meas g0 n D q=μ→P1 C g0 n ws st D T dS p q gs w₁ t→gs[0]?=some a→Rely b T w w₁→(∀j,i=some j→isShut (D j).pos=true)→Comes C.P Q (crowd gs w₁ sl) t:=by
  intro μ
  induction μ using lt2_wf.induction with
  |_ μ ih=>
   intro gs w₁ sl t D q hμ H ha hrel hsh
   subst hμ
   have hoff:∀c bb,∀x,gs[0]?=some x→offersAt x c bb=[]:=fun c bb x hx=>by
    rw[ha] at hx
    obtain rfl:=Option.some.inj hx
    exact offers_of_status (.inl hr) _ _
   rcases H.round ha (awake_of (.inl hr)) ⟨0,a,ha,hr⟩ sl with⟨d,sl',_,hst⟩|⟨gs',w',sl',ops,D',q',g,g',hst,H',R,z,l,hp⟩|⟨k,g,d,sl',hk,hg,hgr,hst,hBC⟩
   ·exact(h0 gs (w₁.at d) sl' t D q (H.at d) ha (hrel.trans (Rely.at _ _ _ _)) hsh).comes hst
   ·refine .step hst (ih _ l rfl H' (by rw[z,woken_run hr]) (hrel.trans (R b hb)) fun j hj=>?_)
    have h1:=hsh j hj
    rcases hp j (hi j hj) with h|⟨N,s,_,h,_⟩|⟨x,x',s,b',h,h'⟩
    ·rw[h];exact h1
    ·rw[h];rfl
    ·cases b' with
     |true=>rw[h'];rfl
     |false=>exact absurd h (H.nofin j (hi j hj) _ _)
   ·have hrel':=hrel.trans (Rely.at b T w₁ d)
    have hshu:∀(e:WDat σ),isShut (D k).pos=false→∀j,i=some j→isShut (upd D k e j).pos=true:=fun e hf j hj=>by
     by_cases ej:j=k
     ·subst ej;rw[hsh j hj] at hf;cases hf
     ·rw[upd_other _ _ ej];exact hsh j hj
    rcases hBC with hB|hC
    ·obtain⟨gs',e,h1,h2,h3,h4,_⟩:=(H.at d).parkB hk hg hB sl' (hoff _ _)
     have hf:isShut (D k).pos=false:=by
      obtain⟨M,s,x,s',z,hpos,_⟩:=hB
      rw[hpos];rfl
     exact .step (hst.trans h1) (by rw[Array.append_empty];exact ih _ h4 rfl h3 (h2.trans ha) hrel' (hshu e hf))
    ·obtain⟨gs',e,h1,h2,h3,h4,_⟩:=(H.at d).parkC hk hg hgr hC sl' fun x hx=>⟨hoff _ _ x hx,hoff _ _ x hx⟩
     have hf:isShut (D k).pos=false:=by
      obtain⟨M,s,g1,hpos,_⟩:=hC
      rcases hpos with h|h<;>(rw[h];rfl)
     exact .step (hst.trans h1) (by rw[Array.append_empty];exact ih _ h4 rfl h3 (h2.trans ha) hrel' (hshu e hf))
 intro gs w₁ sl t D q H ha hrel hsh
 exact key _ rfl H ha hrel hsh
theorem run_running{v:WV}{d:WDat σ}{g:Goroutine}{qcl:Bool}(h:WSit C qcl v d g w){M:Nat}{s:σ}(hp:d.pos= .run M s):g.status= .running:=by
 simp only[WSit,hp] at h
 exact GoesN.running (fun _ _ _ x=>x.running.1) h.1
theorem sel_running{v:WV}{d:WDat σ}{g:Goroutine}{qcl:Bool}(h:WSit C qcl v d g w){M:Nat}{s:σ}(hp:d.pos= .sel M s):g.status= .running:=by
 simp only[WSit,hp] at h
 exact GoesN.running (fun _ _ _ x=>x.1) h.1
theorem until_rcv{i:Nat}(hi:i<n){g1:Goroutine}{z:Value}{sh:CommShape}(hB:∀gs w₁ sl t D q g,P1 C g0 n ws st D T dS p q gs w₁ t→gs[0]?=some (parked g1 #[rcase (ws i).of z] sh)→Rely false T w w₁→gs[g0+i]?=some g→WB C ws D w₁ i g→Does C Q (crowd gs w₁ sl) (g0+i) t)(hCl:∀gs w₁ sl t D q,P1 C g0 n ws st D T dS p q gs w₁ t→gs[0]?=some {parked g1 #[rcase (ws i).of z] sh with status:=.running}→Rely false T w w₁→isShut (D i).pos=true→Comes C.P Q (crowd gs w₁ sl) t):
  ∀{gs w₁ sl t D q},P1 C g0 n ws st D T dS p q gs w₁ t→gs[0]?=some (parked g1 #[rcase (ws i).of z] sh)→Rely false T w w₁→(∃M s,(D i).pos= .run M s)→Comes C.P Q (crowd gs w₁ sl) t:=by
 have key:∀μ:Nat×Nat,∀{gs w₁ sl t D q},meas g0 n D q=μ→P1 C g0 n ws st D T dS p q gs w₁ t→gs[0]?=some (parked g1 #[rcase (ws i).of z] sh)→Rely false T w w₁→(∃M s,(D i).pos= .run M s)→Comes C.P Q (crowd gs w₁ sl) t:=by
  intro μ
  induction μ using lt2_wf.induction with
  |_ μ ih=>
   intro gs w₁ sl t D q hμ H ha hrel ⟨M,s,hrun⟩
   subst hμ
   obtain⟨gi,hgi,hsi⟩:=H.net.sit i hi
   rcases H.round ha (awake_of (.inr (.inl rfl))) ⟨g0+i,gi,hgi,run_running hsi hrun⟩ sl with⟨d,sl',hbad,_⟩|⟨gs',w',sl',ops,D',q',g,g',hst,H',R,hz,l,hp⟩|⟨k,g,d,sl',hk,hg,hgr,hst,hBC⟩
   ·cases hbad
   ·have hrel':=hrel.trans (R false fun e=>by cases e)
    rcases hp i hi with h|⟨N,s',h1,h,hmw,hg'⟩|⟨x,x',s',b',h,h'⟩
    ·refine .step hst (ih _ l rfl H' ?_ hrel' ⟨M,s,h.trans hrun⟩)
     obtain⟨r,hc⟩:=H'.net.chans.of i hi
     rw[h,hrun] at hc
     rw[hz,woken_recv_open g g' hc]
    ·refine .step hst (hCl _ _ _ _ _ _ H' ?_ hrel' (by rw[h];rfl))
     obtain⟨r,hc⟩:=H'.net.chans.of i hi
     rw[h] at hc
     rw[hz]
     unfold woken
     rw[if_pos (by simp[hmw,hg']),again_recv_closed hc]
    ·rw[hrun] at h;cases h
   ·have hrel':=hrel.trans (Rely.at false T w₁ d)
    have hoff:∀c,∀x,gs[0]?=some x→offersAt x c true=[]:=fun c x hx=>by
     rw[ha] at hx
     obtain rfl:=Option.some.inj hx
     exact offersAt_parked_recv' ..
    rcases hBC with hB'|hC
    ·by_cases e:k=i
     ·subst e
      exact(hB gs (w₁.at d) sl' t D q g (H.at d) ha hrel' hg hB').comes hst
     ·obtain⟨gs',e',h1,h2,h3,h4,_⟩:=(H.at d).parkB hk hg hB' sl' fun x hx=>by
       rw[ha] at hx
       obtain rfl:=Option.some.inj hx
       rw[offersAt_parked_recv,if_neg ((H.net.chans.ne i hi).2.2.2 k hk e).1]
      exact .step (hst.trans h1) (by rw[Array.append_empty];exact ih _ h4 rfl h3 (h2.trans ha) hrel' ⟨M,s,by rw[upd_other _ _ (Ne.symm e)];exact hrun⟩)
    ·obtain⟨gs',e',h1,h2,h3,h4,_⟩:=(H.at d).parkC hk hg hgr hC sl' fun x hx=>⟨hoff _ x hx,hoff _ x hx⟩
     have e:k≠i:=fun e=>by
      subst e
      obtain⟨M',s',g1',hpos,_⟩:=hC
      rw[hrun] at hpos
      rcases hpos with h|h<;>cases h
     exact .step (hst.trans h1) (by rw[Array.append_empty];exact ih _ h4 rfl h3 (h2.trans ha) hrel' ⟨M,s,by rw[upd_other _ _ (Ne.symm e)];exact hrun⟩)
 intro gs w₁ sl t D q H ha hrel hsh
 exact key _ rfl H ha hrel hsh
theorem until_snd{i:Nat}(hi:i<n){g1:Goroutine}{v z:Value}{sh:CommShape}(hC:∀gs w₁ sl t D q g,P1 C g0 n ws st D T dS p q gs w₁ t→gs[0]?=some (parked g1 #[scase (ws i).an v z] sh)→Rely false T w w₁→gs[g0+i]?=some g→WC C ws D w₁ i g→Does C Q (crowd gs w₁ sl) (g0+i) t):
  ∀{gs w₁ sl t D q},P1 C g0 n ws st D T dS p q gs w₁ t→gs[0]?=some (parked g1 #[scase (ws i).an v z] sh)→Rely false T w w₁→(∃M s,(D i).pos= .sel M s)→Comes C.P Q (crowd gs w₁ sl) t:=by
 have key:∀μ:Nat×Nat,∀{gs w₁ sl t D q},meas g0 n D q=μ→P1 C g0 n ws st D T dS p q gs w₁ t→gs[0]?=some (parked g1 #[scase (ws i).an v z] sh)→Rely false T w w₁→(∃M s,(D i).pos= .sel M s)→Comes C.P Q (crowd gs w₁ sl) t:=by
  intro μ
  induction μ using lt2_wf.induction with
  |_ μ ih=>
   intro gs w₁ sl t D q hμ H ha hrel ⟨M,s,hrun⟩
   subst hμ
   obtain⟨gi,hgi,hsi⟩:=H.net.sit i hi
   rcases H.round ha (awake_of (.inr (.inl rfl))) ⟨g0+i,gi,hgi,sel_running hsi hrun⟩ sl with⟨d,sl',hbad,_⟩|⟨gs',w',sl',ops,D',q',g,g',hst,H',R,hz,l,hp⟩|⟨k,g,d,sl',hk,hg,hgr,hst,hBC⟩
   ·cases hbad
   ·have hrel':=hrel.trans (R false fun e=>by cases e)
    rcases hp i hi with h|⟨N,s',h1,h,hmw,hg'⟩|⟨x,x',s',b',h,h'⟩
    ·refine .step hst (ih _ l rfl H' ?_ hrel' ⟨M,s,h.trans hrun⟩)
     obtain⟨r,hc⟩:=H'.net.chans.an i hi
     rw[hz,woken_send_open g g' hc]
    ·rw[hrun] at h1;cases h1
    ·rw[hrun] at h;cases h
   ·have hrel':=hrel.trans (Rely.at false T w₁ d)
    rcases hBC with hB'|hC'
    ·obtain⟨gs',e',h1,h2,h3,h4,_⟩:=(H.at d).parkB hk hg hB' sl' fun x hx=>by
       rw[ha] at hx
       obtain rfl:=Option.some.inj hx
       exact offersAt_parked_send' ..
     have e:k≠i:=fun e=>by
      subst e
      obtain⟨M',s',x,s'',z',hpos,_⟩:=hB'
      rw[hrun] at hpos;cases hpos
     exact .step (hst.trans h1) (by rw[Array.append_empty];exact ih _ h4 rfl h3 (h2.trans ha) hrel' ⟨M,s,by rw[upd_other _ _ (Ne.symm e)];exact hrun⟩)
    ·by_cases e:k=i
     ·subst e
      exact(hC gs (w₁.at d) sl' t D q g (H.at d) ha hrel' hg hC').comes hst
     ·have hne:=H.net.chans.ne i hi
      obtain⟨gs',e',h1,h2,h3,h4,_⟩:=(H.at d).parkC hk hg hgr hC' sl' fun x hx=>by
       rw[ha] at hx
       obtain rfl:=Option.some.inj hx
       rw[offersAt_parked_send,offersAt_parked_send,if_neg (hne.2.2.2 k hk e).2.2,if_neg hne.2.2.1]
       exact⟨rfl,rfl⟩
      exact .step (hst.trans h1) (by rw[Array.append_empty];exact ih _ h4 rfl h3 (h2.trans ha) hrel' ⟨M,s,by rw[upd_other _ _ (Ne.symm e)];exact hrun⟩)
 intro gs w₁ sl t D q H ha hrel hsh
 exact key _ rfl H ha hrel hsh
end
end
end Go.Side
