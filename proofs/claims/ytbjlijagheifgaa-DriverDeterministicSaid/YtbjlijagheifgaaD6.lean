/-
  Texts of Ytbjlijagheifgaa, merged.
-/
import Derived.Test.YtbjlijagheifgaaD5
import Derived.Conc.CrowdStepW
set_option linter.unusedSimpArgs false
set_option linter.unusedVariables false
namespace Go.Side
section
open Go Go.Conc Go.ConcN
open Go.ConcR (KK WgAt stA smA rd wr wgBlock)
theorem GoesN.at{P:Program}{main q na:Bool}{Stop:Terr→Goroutine→World→Prop}{T:Terr}{g:Goroutine}{w:World}{f:Nat}(h:GoesN P main q na Stop f T g w):
  (∀w₁,Rely q T w w₁→Stop T g w₁)∨∃f' g' w' es,f=f'+1∧g.status= .running∧stepG P main g w= .go g' w' es∧Guar main na T w w' es∧GoesN P main q na Stop f' (T.grow w.heap.size w'.heap.size) g' w':=by
 cases f with
 |zero=>exact .inl h
 |succ f=>
  rcases h with h|⟨hs,h⟩
  ·exact .inl h
  ·obtain⟨g',w',es,e,G,h'⟩:=goes_iff.1 (h w (Rely.refl _ _ _))
   exact .inr ⟨f,g',w',es,rfl,hs,e,G,h'⟩
theorem GoesN.congrT{P:Program}{main q na:Bool}{Stop:Terr→Goroutine→World→Prop}{T T':Terr}{g:Goroutine}{w:World}{f:Nat}(h:GoesN P main q na Stop f T g w)(e:T=T'):GoesN P main q na Stop f T' g w:=e▸h
theorem wg_own{na:Bool}{T:Terr}{w w':World}{es:Array Event}{ty:TypeId}{Wg:Nat}{a b:Int}(G:Guar false na T w w' es)(hT:∀a:Addr,a.block=Wg→¬T.wr (.cell a))(h:WgAt ty Wg w a b):WgAt ty Wg w' a b:=by
 have hlt:Wg<w.heap.size:=(Array.getElem?_eq_some_iff.1 h).1
 obtain⟨o',h1,⟨c',e1,hsz,_⟩,_⟩:=G.kin rfl Wg _ h
 subst e1
 have hc:∀i:Nat,c'[i]?=(#[Value.int .u64 a,Value.int .u32 b]:Array Value)[i]?:=fun i=>by
  have:=G.cell ⟨Wg,i,none⟩ hlt (hT ⟨Wg,i,none⟩ rfl)
  simp only[World.cell?,h1,show w.heap[Wg]?=_ from h,wgBlock,Option.isSome_none,Bool.false_eq_true,if_false] at this
  exact this
 have hc':c'= #[Value.int .u64 a,Value.int .u32 b]:=Array.ext_getElem? hc
 subst hc'
 exact h1
section
variable {σ:Type} {C:Fix σ} {g0 n:Nat} {ws:Nat→WV} {st:Nat→WState σ} {D:Nat→WDat σ} {T T':Terr} {dS dS':Nat} {qcl qcl':Bool} {q:Nat→Nat} {gs:Array Goroutine} {w w':World} {t u:Trace} {k:Nat}
def kst:Pos σ→Nat
 | .fin st _ _=>min st 7
 |_=>7
def rank:Pos σ→Nat
 | .run _ _| .sel _ _=>10
 | .sendB _ _ _ _| .selB _ _=>9
 | .fin st _ _=>st
def wd(d:WDat σ):WD:=⟨kst d.pos,d.fuel,d.deaf⟩
theorem wd_upd(D:Nat→WDat σ)(k:Nat)(d:WDat σ):(fun i=>wd (upd D k d i))=upd (fun i=>wd (D i)) k (wd d):=by
 funext i
 by_cases e:i=k
 ·subst e;rw[upd_same,upd_same]
 ·rw[upd_ne _ _ e,upd_ne _ _ e]
theorem mode_keep{tag:CTag}{a b:Int}(h:ConcN.Mode n (fun i=>wd (D i)) tag a b){d:WDat σ}(e:kst d.pos=kst (D k).pos):ConcN.Mode n (fun i=>wd (upd D k d i)) tag a b:=by
 rw[wd_upd]
 have:=ConcN.Mode.same (i:=k) h d.fuel d.deaf
 simpa[wd,e] using this
structure WA(C:Fix σ)(g0 n:Nat)(ws:Nat→WV)(st:Nat→WState σ)(D:Nat→WDat σ)(T:Terr)(dS:Nat)(qcl:Bool)(q:Nat→Nat)(gs:Array Goroutine)(w:World)(sl:Option (Nat×Nat))(t:Trace)(tag:CTag)(k:Nat)(g:Goroutine)(g':Goroutine)(w':World)(ops:Trace)(d:WDat σ)(b1 b2:Int):Prop where
 run:runT C.P (crowd gs w sl) (g0+k)=(.next (crowd ((gs.map (woken C.P g g' w')).setIfInBounds (g0+k) g') w' sl),ops)
 net:Net C g0 n ws st (upd D k d) T dS qcl q ((gs.map (woken C.P g g' w')).setIfInBounds (g0+k) g') w' (t++ops)
 rely:∀b:Bool,(b=true→¬(st k).isBusy∧∀x s,(D k).pos≠ .fin x s false)→Rely b T w w'
 wg:WgAt C.ty C.Wg w' b1 b2
 mode:∀tag',(tag'=tag∨(tag= .blk∧tag'= .w3))→(mayWake C.P g=true→g'.status= .running→tag'≠ .blk)→ConcN.Mode n (fun i=>wd (upd D k d i)) tag' b1 b2
 pos:(d.pos=(D k).pos∧d.fuel<(D k).fuel)∨(∃N s,(D k).pos= .run N s∧d.pos= .fin 7 s true∧mayWake C.P g=true∧g'.status= .running)∨(∃x x' s b,(D k).pos= .fin x s b∧d.pos= .fin x' s b∧x'<x)
 rel:kst (D k).pos≠7→d.rel=(D k).rel
def WB(C:Fix σ)(ws:Nat→WV)(D:Nat→WDat σ)(w:World)(k:Nat)(g:Goroutine):Prop:=
 ∃N s x s' z,(D k).pos= .run (N+1) s∧C.nxt s=some (x,s')∧stepG C.P false g w= .comm g #[scase (ws k).of x z] true .send w #[]∧
  ∀w₁,Rely false (Tidle C (ws k) (D k).wr) w w₁→∃m,GoesN C.P false false true (AtSel C (AtRun C (ws k) N) (ws k) s') m (Tidle C (ws k) (D k).wr) (Conc.served g undef) w₁
def WC(C:Fix σ)(ws:Nat→WV)(D:Nat→WDat σ)(w:World)(k:Nat)(g:Goroutine):Prop:=
 ∃N s g1,((D k).pos= .sel N s∨(D k).pos= .selB N s)∧stepG C.P false g w= .comm g1 (selCases C (ws k)) true .select w #[]∧selCont C (ws k) N s (D k).wr g1 w∧(D k).deaf=0
theorem bk_cell'{Wg:Nat}(a:Addr)(wr:Bool)(h:a.block=Wg):Go.ConcR.Bk Wg ⟨.cell a,wr,true⟩:=.inr (.inr ⟨a,wr,rfl,h⟩)
theorem fin_iff{d d0:WDat σ}{x x':Nat}{s:σ}{b:Bool}(h:d0.pos= .fin x s b)(h':d.pos= .fin x' s b)(hx:x<8)(hx':x'<8):isShut d.pos=isShut d0.pos:=by
 rw[h,h']
 have h1:x≠8:=by omega
 have h2:x'≠8:=by omega
 simp[isShut,h1,h2]
theorem VSit.stage{gk:Nat}{vw:WState σ}{d0 d:WDat σ}{v:WV}{x x':Nat}{s:σ}{b:Bool}(h:VSit C gk vw d0 t v)(h0:d0.pos= .fin x s b)(h1:d.pos= .fin x' s b)(hsh:d.sh=d0.sh)(hr:d.rel=d0.rel)(hx:7≤x↔7≤x'):VSit C gk vw d t v:=by
 obtain⟨pos,fuel,deaf,wr,sh,rel⟩:=d0
 obtain⟨pos',fuel',deaf',wr',sh',rel'⟩:=d
 simp only at h0 h1 hsh hr
 subst h0;subst h1;subst hsh;subst hr
 cases b<;>simp only[VSit,hx] at h⊢ <;>exact h
theorem setCell_side{Wg:Nat}{a:Addr}{v:Value}{w:World}(ha:a.block=Wg):(∀b,b≠Wg→(w.setCell a v).heap[b]?=w.heap[b]?)∧(w.setCell a v).heap.size=w.heap.size∧(w.setCell a v).tape=w.tape∧(w.setCell a v).os=w.os∧(w.setCell a v).output=w.output:=by
 refine⟨fun b hb=>?_,by simp[World.setCell],rfl,rfl,rfl⟩
 simp only[World.setCell,Array.getElem?_modify]
 rw[if_neg (by rw[ha];exact Ne.symm hb)]
theorem wstep(N:Net C g0 n ws st D T dS qcl q gs w t){tag:CTag}{a1 a2:Int}(hn:n+pend tag≤2147483646)(hk:k<n){g:Goroutine}(hg:gs[g0+k]?=some g)(hrun:g.status= .running)(hwg:WgAt C.ty C.Wg w a1 a2)(hm:ConcN.Mode n (fun i=>wd (D i)) tag a1 a2)(sl:Option (Nat×Nat)):
  (∃g' w' ops d b1 b2,WA C g0 n ws st D T dS qcl q gs w sl t tag k g g' w' ops d b1 b2)∨WB C ws D w k g∨WC C ws D w k g:=by
 have hp:=N.pos
 obtain⟨g₁,hg₁,hs⟩:=N.sit k hk
 obtain rfl:g=g₁:=by rw[hg] at hg₁;exact Option.some.inj hg₁
 have hv:=N.view k hk
 have hV0:=hv
 have hi0:(g0+k==0)=false:=by simp;omega
 have runs:∀{g' w' es},stepG C.P false g w= .go g' w' es→runT C.P (crowd gs w sl) (g0+k)=(.next (crowd ((gs.map (woken C.P g g' w')).setIfInBounds (g0+k) g') w' sl),MemOp.ofEvents (g0+k) g.frame.fn g.frame.place es):=fun h=>runT_crowd_go hg (by rw[hi0];exact h)
 have own:∀{na:Bool} {f':Nat} {g':Goroutine} {w':World} {es:Array Event} {T0:Terr},wterr C (ws k) (D k)=T0→stepG C.P false g w= .go g' w' es→Guar false na T0 w w' es→(D k).rel=none→f'<(D k).fuel→
   WSit C qcl (ws k) {D k with fuel:=f',wr:=fun l=>(D k).wr l∨Fresh w.heap.size w'.heap.size l} g' w'→(na=false→(st k).isBusy)→
   ∃g' w' ops d b1 b2,WA C g0 n ws st D T dS qcl q gs w sl t tag k g g' w' ops d b1 b2:=by
  intro na f' g' w' es T0 hT hgo G hrel hf hsit hna
  subst hT
  obtain⟨N',R⟩:=N.wown hk hrel G f' hsit g.frame.fn g.frame.place
  refine⟨g',w',_,_,a1,a2,runs hgo,N',fun b hb=>?_,wg_own G (fun a ha h=>?_) hwg,fun tag' ht _=>Mode.retag (mode_keep hm rfl) ht,.inl ⟨rfl,hf⟩,fun _=>rfl⟩
  ·cases na with
   |true=>cases b;exact R.loud;exact R
   |false=>
    cases b with
    |false=>exact R
    |true=>exact absurd (hna rfl) (hb rfl).1
  ·exact(N.lay.lowW k hk _ (wterr_wr h)).2 (N.lay.wg a ha)
 have late:∀{f':Nat} {g':Goroutine} {w':World} {es:Array Event} {x:Nat} {s:σ} {b:Bool},(D k).pos= .fin x s b→stepG C.P false g w= .go g' w' es→Guar false true (Tnone C) w w' es→f'<(D k).fuel→
   WSit C qcl (ws k) {D k with fuel:=f'} g' w'→
   ∃g' w' ops d b1 b2,WA C g0 n ws st D T dS qcl q gs w sl t tag k g g' w' ops d b1 b2:=by
  intro f' g' w' es x s b hpos hgo G hf hsit
  obtain⟨N',R⟩:=N.wlate hk G f' hsit (hV0.same rfl rfl rfl) g.frame.fn g.frame.place
  exact⟨g',w',_,_,a1,a2,runs hgo,N',fun b _=>by cases b;exact R.loud;exact R,wg_own G (fun _ _ h=>h) hwg,fun tag' ht _=>Mode.retag (mode_keep hm rfl) ht,.inl ⟨rfl,hf⟩,fun _=>rfl⟩
 have book:∀{g':Goroutine} {w':World} {es:Array Event} {f' dd' x x':Nat} {s:σ} {b:Bool} {b1 b2:Int},(D k).pos= .fin x s b→x<7→x'<x→stepG C.P false g w= .go g' w' es→WgAt C.ty C.Wg w' b1 b2→
   ((∀b,b≠C.Wg→w'.heap[b]?=w.heap[b]?)∧w'.heap.size=w.heap.size∧w'.tape=w.tape∧w'.os=w.os∧w'.output=w.output)→(∀e∈es,Go.ConcR.Bk C.Wg e)→
   (∀(j:Nat) (e:Event),es[j]?=some e→(MemAct.ofEvent e).touch?=none∨((∃ad wr,e=⟨.cell ad,wr,true⟩)∧0<deafBehind (D k).deaf (es.extract 0 j)))→dd'=deafBehind (D k).deaf es→
   WSit C qcl (ws k) {D k with pos:=.fin x' s b,fuel:=f',deaf:=dd'} g' w'→
   (∀tag',(tag'=tag∨(tag= .blk∧tag'= .w3))→(mayWake C.P g=true→g'.status= .running→tag'≠ .blk)→ConcN.Mode n (upd (fun i=>wd (D i)) k ⟨x',f',dd'⟩) tag' b1 b2)→
   ∃g' w' ops d b1 b2,WA C g0 n ws st D T dS qcl q gs w sl t tag k g g' w' ops d b1 b2:=by
  intro g' w' es f' dd' x x' s b b1 b2 hpos hx7 hlt hgo hwg' hside hbk hes hdd hsit hmode
  have hx:7≤x↔7≤x':=by omega
  obtain⟨h1,h2,h3,h4,h5⟩:=hside
  obtain⟨N',R⟩:=N.watom hk hwg hwg' h1 h2 h3 h4 h5 hes hbk (d:={D k with pos:=.fin x' s b,fuel:=f',deaf:=dd'}) rfl rfl rfl (fin_iff hpos rfl (by omega) (by omega)) hdd hsit (hV0.stage hpos rfl rfl rfl hx) g.frame.fn g.frame.place
  refine⟨g',w',_,_,b1,b2,runs hgo,N',fun b _=>by cases b;exact R.loud;exact R,hwg',fun tag' ht hw=>?_,.inr (.inr ⟨x,x',s,b,hpos,rfl,hlt⟩),fun _=>rfl⟩
  rw[wd_upd]
  have e7:min x' 7=x':=by omega
  simpa[wd,kst,e7] using hmode tag' ht hw
 generalize hpos:(D k).pos=p at hs
 have hst:(wd (D k)).stage=kst p:=by simp[wd,hpos]
 cases p with
 |run M s=>
  simp only[WSit,hpos] at hs
  simp only[VSit,hpos] at hv
  rcases hs.1.at with hstop|⟨f',g',w',es,hf,_,hgo,G,hk'⟩
  ·have hstop':=hstop w (Rely.refl _ _ _)
   cases hnx:C.nxt s with
   |none=>
    have hx:∀r:Nat,w.heap[(ws k).of]?=some (.chan 0 #[] false r r false)→mayWake C.P g=true∧∃g',stepG C.P false g w= .go g' (w.setChan (ws k).of 0 #[] true r r false) (shutEvs (ws k).of)∧
      ∃m,GoesN C.P false false true (AtR0 C (ws k) (C.sum s) true) m (Tidle C (ws k) (D k).wr) g' (w.setChan (ws k).of 0 #[] true r r false):=by
     cases M<;>(unfold AtRun at hstop';rw[hnx] at hstop';exact hstop'.2.2)
    left
    obtain⟨r,hc⟩:=N.chans.of k hk
    simp only[isShut,hpos] at hc
    obtain⟨hmw,g',hgo,m,hG⟩:=hx r hc
    have N':=N.wclose hk hpos hnx m hc hG g.frame.fn g.frame.place (g:=g)
    have hr':g'.status= .running:=GoesN.running (fun _ _ _ x=>x.1) hG
    have hcw:∀l,T.wr l→∀j,j<n→(wterr C (ws k) (D k)).rd l→False:=fun l hl j hj h=>N.apart0 hk h hl
    have hno:¬T.wr (.obj (ws k).of):=fun h=>(N.lay.dS _ h k hk).1 (N.lay.cks k hk).1
    have hne:C.Wg≠(ws k).of:=fun e=>by
     have h1:w.heap[C.Wg]?=some (wgBlock C.ty a1 a2):=hwg
     rw[e,hc] at h1
     cases Option.some.inj h1
    refine⟨g',_,_,_,a1,a2,runs hgo,N',fun b hb=>?_,(setChan_ne hne).trans hwg,fun tag' ht _=>Mode.retag (mode_keep hm (by simp[kst,hpos])) ht,.inr (.inl ⟨M,s,hpos,rfl,hmw,hr'⟩),fun _=>rfl⟩
    cases b with
    |false=>exact rely_setChan hc hno
    |true=>exact absurd (by rw[hv.1];trivial) (hb rfl).1
   |some y=>
    obtain⟨x,s'⟩:=y
    right;left
    cases M with
    |zero=>unfold AtRun at hstop';rw[hnx] at hstop';exact hstop'.2.2.elim
    |succ M=>
     unfold AtRun at hstop'
     rw[hnx] at hstop'
     obtain⟨_,_,⟨z,hz⟩,hx⟩:=hstop'
     exact⟨M,s,x,s',z,hpos,hnx,hz,hx⟩
  ·left
   refine own (T0:=Tbusy C (ws k) (D k).wr) (f':=f') (by simp[wterr,hpos]) hgo G hv.2.2 (by omega) ?_ fun _=>by rw[hv.1];trivial
   simp only[WSit,hpos]
   exact⟨hk',hs.2⟩
 |sendB M s s' x=>
  simp only[WSit,hpos] at hs
  obtain⟨g1,z,rfl,_⟩:=hs
  cases hrun
 |sel M s=>
  simp only[WSit,hpos] at hs
  simp only[VSit,hpos] at hv
  rcases hs.1.at with hstop|⟨f',g',w',es,hf,_,hgo,G,hk'⟩
  ·right;right
   have h0:=hstop w (Rely.refl _ _ _)
   exact⟨M,s,g,.inl hpos,h0.2.2.1,hstop,hs.2⟩
  ·left
   refine own (T0:=Tidle C (ws k) (D k).wr) (f':=f') (by simp[wterr,hpos]) hgo G hv.2.2 (by omega) ?_ fun e=>by cases e
   simp only[WSit,hpos]
   exact⟨hk',hs.2⟩
 |selB M s=>
  simp only[WSit,hpos] at hs
  obtain⟨g1,hgx,hcont,hdf⟩:=hs
  right;right
  have h0:=hcont w (Rely.refl _ _ _)
  refine⟨M,s,g1,.inr hpos,?_,hcont,hdf⟩
  cases qcl with
  |false=>rw[hgx] at hrun;cases hrun
  |true=>
   rw[hgx]
   simp only[selStand,if_true]
   rw[stepG_tries]
   have e:({g1 with status:=.running}:Goroutine)=g1:=by rw[←h0.1]
   rw[e]
   exact h0.2.2.1
 |fin x s b=>
  left
  have bxs:∀{w':World} {d':WDat σ},(∀a:Addr,a.block≠C.Wg→a.block<w.heap.size→w'.cell? a=w.cell? a)→d'.wr=(D k).wr→Boxed C (ws k) (D k) s b w→Boxed C (ws k) d' s b w':=fun{w' d'} hc hd ⟨⟨h1,h2⟩,h3,h4⟩=>by
   have l3:=N.lay.lowW k hk _ h3
   have l4:=N.lay.lowW k hk _ h4
   refine⟨⟨(hc _ (fun e=>l3.2 (N.lay.wg _ e)) l3.1).trans h1,(hc _ (fun e=>l4.2 (N.lay.wg _ e)) l4.1).trans h2⟩,by rw[hd];exact h3,by rw[hd];exact h4⟩
  have bxg:∀{w':World} {d':WDat σ} {es:Array Event},Guar false true (Tnone C) w w' es→d'.wr=(D k).wr→Boxed C (ws k) (D k) s b w→Boxed C (ws k) d' s b w':=fun G hd h=>bxs (fun a _ hl=>G.cell a hl fun x=>x) hd h
  have bxc:∀{a:Addr} {v:Value} {d':WDat σ},a.block=C.Wg→d'.wr=(D k).wr→Boxed C (ws k) (D k) s b w→Boxed C (ws k) d' s b (w.setCell a v):=fun ha hd h=>bxs (fun a' ha' _=>by simp only[World.cell?,(setCell_side ha).1 _ ha']) hd h
  match x,hpos,hst,hs with
  |8,hpos,hst,hs=>
   simp only[WSit,hpos] at hs
   obtain⟨⟨hs1,hs2⟩,rfl⟩:=hs
   have hrel:(D k).rel=none:=by
    simp only[VSit,hpos] at hv
    exact hv.2.2.1 (by omega)
   rcases hs1.at with hstop|⟨f',g',w',es,hf,_,hgo,G,hk'⟩
   ·obtain⟨r,hc⟩:=N.chans.of k hk
    have hc':w.heap[(ws k).of]?=some (.chan 0 #[] false r r false):=by rw[hc,hpos];rfl
    obtain⟨hmw,g',hgo,m,hG⟩:=(hstop w (Rely.refl _ _ _)).2 r hc'
    have N':=N.wcloseQ hk hpos m hc' hG g.frame.fn g.frame.place (g:=g)
    have hno:¬T.wr (.obj (ws k).of):=fun h=>(N.lay.dS _ h k hk).1 (N.lay.cks k hk).1
    have hne:C.Wg≠(ws k).of:=fun e=>by
     have h1:w.heap[C.Wg]?=some (wgBlock C.ty a1 a2):=hwg
     rw[e,hc'] at h1
     cases Option.some.inj h1
    refine⟨g',_,_,_,a1,a2,runs hgo,N',fun b hb=>?_,(setChan_ne hne).trans hwg,fun tag' ht _=>Mode.retag (mode_keep hm (by simp[kst,hpos])) ht,.inr (.inr ⟨8,7,s,false,hpos,rfl,by omega⟩),fun h=>absurd (by simp[kst,hpos]) h⟩
    cases b with
    |false=>exact rely_setChan hc' hno
    |true=>exact absurd hpos ((hb rfl).2 _ _)
   ·refine own (T0:=Tidle C (ws k) (D k).wr) (f':=f') (by simp[wterr,hpos]) hgo G hrel (by omega) ?_ fun e=>by cases e
    simp only[WSit,hpos]
    exact⟨⟨hk',hs2⟩,trivial⟩
  |7,hpos,hst,hs=>
   have hrel:(D k).rel=none:=by
    simp only[VSit,hpos] at hv
    cases b with
    |true=>exact hv.2.1 (Nat.le_refl _)
    |false=>exact hv.2.2.1 (Nat.le_refl _)
   simp only[WSit,hpos] at hs
   rcases hs.1.at with hstop|⟨f',g',w',es,hf,_,hgo,G,hk'⟩
   ·obtain⟨_,hbx,hb2,hb3,g',hgo,m,hG⟩:=hstop w (Rely.refl _ _ _)
    have N':=N.wrelease hk hpos m hs.2 (g:=g) (g':=g') (by simp only[WSit];exact⟨hG,hs.2,hbx,hb2,hb3⟩) g.frame.fn g.frame.place
    refine⟨g',w,_,_,a1,a2,runs hgo,N',fun b _=>Rely.refl _ _ _,hwg,fun tag' ht _=>Mode.retag ?_ ht,.inr (.inr ⟨7,6,s,b,hpos,rfl,by omega⟩),fun h=>absurd (by simp[kst,hpos]) h⟩
    rw[wd_upd]
    exact Mode.counted hm hk (by simp[wd,hpos,kst]) (.inl rfl) _ _
   ·refine own (T0:=Tidle C (ws k) (D k).wr) (f':=f') (by simp[wterr,hpos]) hgo G hrel (by omega) ?_ fun e=>by cases e
    simp only[WSit,hpos]
    exact⟨hk',hs.2⟩
  |6,hpos,hst,hs=>
   simp only[WSit,hpos] at hs
   rcases Goes.cases hs.1 with hstop|⟨f',hf,hstep⟩
   ·obtain⟨_,g',hgo,m,hG⟩:=hstop w (Rely.refl _ _ _)
    refine book (x':=5) (f':=m) (dd':=1) hpos (by simp) (by omega) hgo hwg ⟨fun _ _=>rfl,rfl,rfl,rfl,rfl⟩ (by intro e he;simp at he;subst he;exact .inl rfl) (fun j e he=>.inl (by have:=Array.mem_of_getElem? he;simp at this;subst this;rfl)) (by rw[hs.2.1];simp[deafBehind,Go.ConcR.mk]) (by simp only[WSit];exact⟨hG,trivial,bxs (fun _ _ _=>rfl) rfl hs.2.2⟩) fun tag' ht _=>Mode.retag (Mode.counted hm hk (by rw[hst];simp[kst]) (.inr rfl) _ _) ht
   ·obtain⟨g',w',es,hgo,⟨rfl,rfl⟩,hk'⟩:=hstep w (Rely.refl _ _ _)
    exact late (f':=f') hpos hgo (Guar.idle _ _ _ _ (by simp)) (by omega) (by simp only[WSit,hpos];exact⟨hk',hs.2.1,bxs (fun _ _ _=>rfl) rfl hs.2.2⟩)
  |5,hpos,hst,hs=>
   simp only[WSit,hpos] at hs
   rcases Goes.cases hs.1 with hstop|⟨f',hf,hstep⟩
   ·obtain⟨_,hall⟩:=hstop w (Rely.refl _ _ _)
    have hst5:(wd (D k)).stage=5:=hst
    have hc1:cnt (wd (D k))=1:=by simp[cnt,hst5]
    have hV1:1≤Vc n (fun i=>wd (D i)):=by have:=le_sumTo (f:=fun x=>cnt (wd (D x))) hk;simp only[Vc];omega
    have hVn:=Vc_le n (fun i=>wd (D i))
    have bk2:∀e∈ #[rd (stA C.Wg),wr (stA C.Wg)],Go.ConcR.Bk C.Wg e:=by intro e he;simp at he;rcases he with rfl|rfl<;>exact bk_cell' _ _ rfl
    have df2:∀(j:Nat) (e:Event),(#[rd (stA C.Wg),wr (stA C.Wg)]:Array Event)[j]?=some e→(MemAct.ofEvent e).touch?=none∨((∃ad wr,e=⟨.cell ad,wr,true⟩)∧0<deafBehind (D k).deaf ((#[rd (stA C.Wg),wr (stA C.Wg)]:Array Event).extract 0 j)):=by
     intro j e he
     rw[hs.2.1]
     match j,he with
     |0,he=>simp at he;subst he;exact .inr ⟨⟨_,_,rfl⟩,by simp[deafBehind]⟩
     |1,he=>simp at he;subst he;exact .inr ⟨⟨_,_,rfl⟩,by simp[deafBehind,rd]⟩
     |j+2,he=>simp at he
    have hdd:1=deafBehind (D k).deaf #[rd (stA C.Wg),wr (stA C.Wg)]:=by rw[hs.2.1];simp[deafBehind,rd,wr]
    have hq0:∀q,cnt (⟨1,q,1⟩:WD)=0:=fun _=>rfl
    have opq:∀q,OpenSt n (fun i=>wd (D i))→OpenSt n (upd (fun i=>wd (D i)) k ⟨1,q,1⟩):=fun q h a ha=>by
     by_cases e:a=k
     ·subst e;rw[upd_same];simp
     ·rw[upd_ne _ _ e];exact h a ha
    have hwq:∀{q:Nat} {g':Goroutine} {v:Value},QuitsD C.P q 1 g'→WSit C qcl (ws k) {D k with pos:=.fin 1 s b,fuel:=q,deaf:=1} g' (w.setCell (stA C.Wg) v):=fun h=>by simp only[WSit];exact⟨h,bxc rfl rfl hs.2.2⟩
    cases hm with
    |opn h1 h2 h3=>
     obtain⟨v,hv'⟩:∃v,Vc n (fun i=>wd (D i))+pend tag=v+1:=⟨Vc n (fun i=>wd (D i))+pend tag-1,by omega⟩
     rw[hv'] at hwg
     have hw1:WgAt C.ty C.Wg w (((v:Nat)+1)*KK+((0:Nat):Int)) 0:=by simpa using hwg
     obtain⟨g',hgo,_,hq⟩:=hall v 0 (by omega) (by omega) hw1
     obtain⟨q',hq⟩:=hq (by omega)
     have hv2:Vc n (upd (fun i=>wd (D i)) k ⟨1,q',1⟩)+pend tag=v:=by have:=Vc_upd (fun i=>wd (D i)) (⟨1,q',1⟩:WD) hk;have:=hq0 q';omega
     refine book (x':=1) (f':=q') (dd':=1) hpos (by simp) (by omega) hgo (hwg.setSt _) (setCell_side rfl) bk2 df2 hdd (hwq hq) fun tag' ht _=>Mode.retag ?_ ht
     have e:((v:Nat):Int)*KK+((0:Nat):Int)=((Vc n (upd (fun i=>wd (D i)) k ⟨1,q',1⟩)+pend tag:Nat):Int)*KK:=by rw[hv2];simp
     rw[e]
     exact .opn h1 (opq q' h2) (fun vs ev=>by have:=h3 vs ev;omega)
    |reg h1 h2 h3=>
     obtain⟨v,hv'⟩:∃v,Vc n (fun i=>wd (D i))=v+1:=⟨Vc n (fun i=>wd (D i))-1,by omega⟩
     rw[hv'] at hwg
     have hp:pend tag=0:=by cases tag<;>first|rfl|exact h1.elim
     have hw1:WgAt C.ty C.Wg w (((v:Nat)+1)*KK+((1:Nat):Int)) 0:=by simpa using hwg
     obtain⟨g',hgo,hl,hq⟩:=hall v 1 (by omega) (by omega) hw1
     by_cases hv0:v=0
     ·subst hv0
      obtain⟨m₂,hG⟩:=hl ⟨rfl,rfl⟩
      refine book (x':=4) (f':=m₂) (dd':=1) hpos (by simp) (by omega) hgo (hwg.setSt _) (setCell_side rfl) bk2 df2 hdd (by simp only[WSit];exact⟨hG,trivial,bxc rfl rfl hs.2.2⟩) fun tag' ht _=>Mode.retag ?_ ht
      have hoth:∀a,a<n→a≠k→(wd (D a)).stage=1:=fun a ha e=>by
       have c0:cnt (wd (D a))=0:=others_uncounted hk hv' hc1 a ha e
       have h2':(wd (D a)).stage=7∨(wd (D a)).stage=6∨(wd (D a)).stage=5∨(wd (D a)).stage=1:=h2 a ha
       simp only[cnt] at c0
       split at c0<;>omega
      have:=ConcN.Mode.last (j:=n) (D:=upd (fun i=>wd (D i)) k ⟨4,m₂,1⟩) (tag:=tag) k h1 hk (by rw[upd_same];simp) (fun a ha e=>by rw[upd_ne _ _ e];exact hoth a ha e)
      rw[upd_same] at this
      simpa using this
     ·obtain⟨q',hq⟩:=hq (by omega)
      have hv2:Vc n (upd (fun i=>wd (D i)) k ⟨1,q',1⟩)=v:=by have:=Vc_upd (fun i=>wd (D i)) (⟨1,q',1⟩:WD) hk;have:=hq0 q';omega
      refine book (x':=1) (f':=q') (dd':=1) hpos (by simp) (by omega) hgo (hwg.setSt _) (setCell_side rfl) bk2 df2 hdd (hwq hq) fun tag' ht _=>Mode.retag ?_ ht
      have e:((v:Nat):Int)*KK+((1:Nat):Int)=((Vc n (upd (fun i=>wd (D i)) k ⟨1,q',1⟩):Nat):Int)*KK+1:=by rw[hv2];simp
      rw[e]
      exact .reg h1 (opq q' h2) (by omega)
    |last L _ h2 h3 h4=>
     by_cases e:k=L
     ·subst e
      have h3':(wd (D k)).stage=4∨(wd (D k)).stage=3∨(wd (D k)).stage=2:=h3
      omega
     ·have h4':(wd (D k)).stage=1:=h4 k hk e
      omega
    |sema h2=>have h2':(wd (D k)).stage=1:=h2 k hk;omega
    |fin _ h2=>have h2':(wd (D k)).stage=1:=h2 k hk;omega
   ·obtain⟨g',w',es,hgo,⟨rfl,rfl⟩,hk'⟩:=hstep w (Rely.refl _ _ _)
    exact late (f':=f') hpos hgo (Guar.idle _ _ _ _ (by simp)) (by omega) (by simp only[WSit,hpos];exact⟨hk',hs.2.1,bxs (fun _ _ _=>rfl) rfl hs.2.2⟩)
  |4,hpos,hst,hs=>
   have hst':(wd (D k)).stage=4:=hst
   simp only[WSit,hpos] at hs
   rcases Goes.cases hs.1 with hstop|⟨f',hf,hstep⟩
   ·obtain⟨_,hx⟩:=hstop w (Rely.refl _ _ _)
    obtain⟨hW3,hoth,rfl,rfl⟩:=hm.isLast hk (by omega)
    simp only[hst'] at hwg
    obtain⟨g',hgo,m₂,hG⟩:=hx (by simpa using hwg)
    refine book (x':=3) (f':=m₂) (dd':=1) hpos (by simp) (by omega) hgo hwg ⟨fun _ _=>rfl,rfl,rfl,rfl,rfl⟩ (by intro e he;simp at he;subst he;exact bk_cell' _ _ rfl) (fun j e he=>?_) (by rw[hs.2.1];simp[deafBehind,rd]) (by simp only[WSit];exact⟨hG,trivial,bxs (fun _ _ _=>rfl) rfl hs.2.2⟩) fun tag' ht _=>Mode.retag ?_ ht
    ·match j,he with
     |0,he=>simp at he;subst he;exact .inr ⟨⟨_,_,rfl⟩,by rw[hs.2.1];simp[deafBehind]⟩
     |j+1,he=>simp at he
    ·have:=ConcN.Mode.last (j:=n) (D:=upd (fun i=>wd (D i)) k ⟨3,m₂,1⟩) (tag:=tag) k hW3 hk (by rw[upd_same];simp) (fun a ha e=>by rw[upd_ne _ _ e];exact hoth a ha e)
     rw[upd_same] at this
     simpa using this
   ·obtain⟨g',w',es,hgo,⟨rfl,rfl⟩,hk'⟩:=hstep w (Rely.refl _ _ _)
    exact late (f':=f') hpos hgo (Guar.idle _ _ _ _ (by simp)) (by omega) (by simp only[WSit,hpos];exact⟨hk',hs.2.1,bxs (fun _ _ _=>rfl) rfl hs.2.2⟩)
  |3,hpos,hst,hs=>
   have hst':(wd (D k)).stage=3:=hst
   simp only[WSit,hpos] at hs
   rcases Goes.cases hs.1 with hstop|⟨f',hf,hstep⟩
   ·obtain⟨_,hx⟩:=hstop w (Rely.refl _ _ _)
    obtain⟨hW3,hoth,rfl,rfl⟩:=hm.isLast hk (by omega)
    simp only[hst'] at hwg
    obtain⟨g',hgo,m₂,hG⟩:=hx (by simpa using hwg)
    refine book (x':=2) (f':=m₂) (dd':=1) hpos (by simp) (by omega) hgo (hwg.setSt 0) (setCell_side rfl) (by intro e he;simp at he;subst he;exact bk_cell' _ _ rfl) (fun j e he=>?_) (by rw[hs.2.1];simp[deafBehind,wr]) (by simp only[WSit];exact⟨hG,trivial,bxc rfl rfl hs.2.2⟩) fun tag' ht _=>Mode.retag ?_ ht
    ·match j,he with
     |0,he=>simp at he;subst he;exact .inr ⟨⟨_,_,rfl⟩,by rw[hs.2.1];simp[deafBehind]⟩
     |j+1,he=>simp at he
    ·have:=ConcN.Mode.last (j:=n) (D:=upd (fun i=>wd (D i)) k ⟨2,m₂,1⟩) (tag:=tag) k hW3 hk (by rw[upd_same];simp) (fun a ha e=>by rw[upd_ne _ _ e];exact hoth a ha e)
     rw[upd_same] at this
     simpa using this
   ·obtain⟨g',w',es,hgo,⟨rfl,rfl⟩,hk'⟩:=hstep w (Rely.refl _ _ _)
    exact late (f':=f') hpos hgo (Guar.idle _ _ _ _ (by simp)) (by omega) (by simp only[WSit,hpos];exact⟨hk',hs.2.1,bxs (fun _ _ _=>rfl) rfl hs.2.2⟩)
  |2,hpos,hst,hs=>
   have hst':(wd (D k)).stage=2:=hst
   simp only[WSit,hpos] at hs
   rcases Goes.cases hs.1 with hstop|⟨f',hf,hstep⟩
   ·obtain⟨_,hmw,hx⟩:=hstop w (Rely.refl _ _ _)
    obtain⟨hW3,hoth,rfl,rfl⟩:=hm.isLast hk (by omega)
    simp only[hst'] at hwg
    obtain⟨g',hgo,q',hq⟩:=hx (by simpa using hwg)
    have hrun':g'.status= .running:=by
     cases q' with
     |zero=>exact absurd hq.2 (by decide)
     |succ q=>exact hq.elim (fun x=>absurd x.2 (by decide)) (fun x=>x.1)
    refine book (x':=1) (f':=q') (dd':=1) hpos (by simp) (by omega) hgo (hwg.setSm 1) (setCell_side rfl) (es:=semEvents (smA C.Wg)) ?_ (fun j e he=>?_) (by rw[hs.2.1];simp[deafBehind,semEvents]) (by simp only[WSit];exact⟨hq,bxc rfl rfl hs.2.2⟩) fun tag' ht hw=>?_
    ·intro e he
     simp[semEvents] at he
     rcases he with rfl|rfl|rfl|rfl
     ·exact .inl rfl
     ·exact bk_cell' _ _ rfl
     ·exact bk_cell' _ _ rfl
     ·exact .inr (.inl rfl)
    ·rw[hs.2.1]
     match j,he with
     |0,he=>simp[semEvents] at he;subst he;exact .inl rfl
     |1,he=>simp[semEvents] at he;subst he;exact .inr ⟨⟨_,_,rfl⟩,by simp[deafBehind,semEvents]⟩
     |2,he=>simp[semEvents] at he;subst he;exact .inr ⟨⟨_,_,rfl⟩,by simp[deafBehind,semEvents]⟩
     |3,he=>simp[semEvents] at he;subst he;exact .inl rfl
     |j+4,he=>simp[semEvents] at he
    ·have hnb:=hw hmw hrun'
     have e3:tag'= .w3:=by
      rcases ht with rfl|⟨_,rfl⟩
      ·cases tag'<;>first|rfl|exact absurd rfl hnb|exact hW3.elim
      ·rfl
     subst e3
     simp only[hst',if_true]
     refine .sema fun a ha=>?_
     by_cases e:a=k
     ·subst e;rw[upd_same]
     ·rw[upd_ne _ _ e];exact hoth a ha e
   ·obtain⟨g',w',es,hgo,⟨rfl,rfl⟩,hk'⟩:=hstep w (Rely.refl _ _ _)
    exact late (f':=f') hpos hgo (Guar.idle _ _ _ _ (by simp)) (by omega) (by simp only[WSit,hpos];exact⟨hk',hs.2.1,bxs (fun _ _ _=>rfl) rfl hs.2.2⟩)
  |1,hpos,hst,hs=>
   simp only[WSit,hpos] at hs
   cases hf:(D k).fuel with
   |zero=>rw[hf] at hs;rw[hs.1.1] at hrun;cases hrun
   |succ f=>
    rw[hf] at hs
    rcases hs.1 with⟨h0,_⟩|⟨_,g',es,hmu,hstp,hq⟩
    ·rw[h0] at hrun;cases hrun
    have N':=N.wquit hk hpos f hmu hq g.frame.fn g.frame.place (g:=g)
    exact⟨g',w,_,_,a1,a2,runs (hstp w),N',fun b _=>Rely.refl _ _ _,hwg,fun tag' ht _=>Mode.retag (mode_keep hm rfl) ht,.inl ⟨rfl,by rw[hf];exact Nat.lt_succ_self _⟩,fun _=>rfl⟩
  |0,hpos,hst,hs=>simp only[WSit,hpos] at hs
  |x+9,hpos,hst,hs=>simp only[WSit,hpos] at hs
end
end
section
open Go Go.Conc Go.ConcN
open Go.ConcR (KK WgAt stA smA rd wr wgBlock)
section
variable {σ:Type} {C:Fix σ} {g0 n:Nat} {ws:Nat→WV} {st:Nat→WState σ} {D:Nat→WDat σ} {T T':Terr} {dS dS':Nat} {qcl qcl':Bool} {q:Nat→Nat} {gs:Array Goroutine} {w w':World} {t u:Trace} {k:Nat}
theorem Net.leave(N:Net C g0 n ws st D T dS qcl q gs w t){i:Nat}(h0:0<i)(hi:i<g0){g:Goroutine}(hg:gs[i]?=some g)(hrun:g.status= .running):
  ∃g' es f,q i=f+1∧(∀w,stepG C.P false g w= .go g' w es)∧∀fn pos,Net C g0 n ws st D T dS qcl (upd q i f) ((gs.map (woken C.P g g' w)).setIfInBounds i g') w (t++MemOp.ofEvents i fn pos es):=by
 have hq:=N.old i g h0 hi hg
 have hs:=N.size
 cases hf:q i with
 |zero=>rw[hf] at hq;rw[hq.1] at hrun;cases hrun
 |succ f=>
  rw[hf] at hq
  rcases hq with⟨h1,_⟩|⟨_,g',es,hm,hstp,hq'⟩
  ·rw[h1] at hrun;cases hrun
  refine⟨g',es,f,rfl,hstp,fun fn pos=>?_⟩
  have hu:∀op∈MemOp.ofEvents i fn pos es,op.g=i:=fun op hop=>by obtain⟨e,_,rfl⟩:=Conc.mem_ofEvents hop;rfl
  have hmute:∀op∈MemOp.ofEvents i fn pos es,op.act.touch?=none:=fun op hop=>by obtain⟨e,he,rfl⟩:=Conc.mem_ofEvents hop;exact touch_mute (hm e he)
  refine⟨N.pos,by simpa using hs,fun j x h1 h2 hx=>?_,fun j hj=>?_,fun j hj=>?_,fun j hj=>VSit.app (N.view j hj),N.lay,N.chans,⟨N.tr.shares.mute hmute fun op hop=>?_,N.tr.quiet.app fun op hop x hx _=>(by rw[hmute op hop] at hx;cases hx),N.tr.norel.app fun op hop=>?_,?_,fun j hj=>?_,fun j hj r hr=>?_⟩,N.kn⟩
  ·by_cases e:i=j
   ·subst e
    rw[gs_same _ _ (by omega)] at hx
    obtain rfl:=Option.some.inj hx
    rw[upd_same,Deaf_own];exact hq'
   ·rw[gs_new _ _ e] at hx
    obtain⟨y,hy,rfl⟩:=Option.map_eq_some_iff.1 hx
    have hz:=N.old j y h1 h2 hy
    rw[woken_quitsD hz,upd_ne _ _ (Ne.symm e),Deaf_other t e _ hu]
    exact hz
  ·simp only[Array.size_setIfInBounds,Array.size_map] at hj
   rw[Deaf_other t (by omega) _ hu]
   exact N.above j hj
  ·obtain⟨x,hx,hsit⟩:=N.sit j hj
   refine⟨woken C.P g g' w x,by rw[gs_new _ _ (by omega),hx];rfl,WSit.woken hsit (fun hf=>?_) fun hq=>⟨N.chans.an j hj,0,hq▸N.chans.qc⟩⟩
   obtain⟨r,h⟩:=N.chans.of j hj
   refine⟨r,h.trans ?_⟩
   cases hp:(D j).pos with
   |fin x s b=>exact absurd hp (hf x s b)
   |_=>rfl
  ·obtain⟨e,he,rfl⟩:=Conc.mem_ofEvents hop;exact low_mute (hm e he) _
  ·obtain⟨e,he,rfl⟩:=Conc.mem_ofEvents hop
   have:=hm e he
   obtain⟨l,wr,sy⟩:=e
   intro e0
   cases l with
   |mark m=>cases m<;>first|(cases e0;done)|(cases this;done)
   |cell a=>cases this
   |obj r=>cases this
   |output=>cases this
   |goroutines=>cases this
  ·rw[Deaf_other t (by omega) _ hu];exact N.tr.deaf0
  ·rw[Deaf_other t (by omega) _ hu];exact N.tr.deafW j hj
  ·obtain⟨h1,h2⟩:=N.tr.rel j hj r hr
   exact⟨by rw[act?_old (lt_of_act? h1)];exact h1,(heard_old (lt_of_act? h1)).2 h2⟩
theorem offers_of_status{h:Goroutine}(hs:h.status= .running∨h.status= .finished)(r:Nat)(b:Bool):offersAt h r b=[]:=
 offersAt_of_not_blocked (by rcases hs with hs|hs<;>rw[hs]<;>simp) r b
theorem WSit.offers{v:WV}{d:WDat σ}{g:Goroutine}(h:WSit C qcl v d g w){c:Nat}{b:Bool}(h1:∀M s s' x,d.pos= .sendB M s s' x→¬(b=true∧v.of=c))(h2:∀M s,d.pos= .selB M s→qcl=false→¬(b=false∧(v.an=c∨C.qc=c))):offersAt g c b=[]:=by
 cases hp:d.pos with
 |sendB M s s' x=>
  simp only[WSit,hp] at h
  obtain⟨g1,z,rfl,_⟩:=h
  cases b with
  |true=>rw[offersAt_parked_send];rw[if_neg fun e=>h1 _ _ _ _ hp ⟨rfl,e⟩]
  |false=>rw[offersAt_parked_send']
 |selB M s=>
  simp only[WSit,hp] at h
  obtain⟨g1,rfl,_⟩:=h
  cases qcl with
  |true=>exact offersAt_of_not_blocked (by simp[selStand]) _ _
  |false=>
   have h2':=h2 _ _ hp rfl
   cases b with
   |true=>simp[offersAt,selStand,parked,selCases,rcase]
   |false=>
    have e1:v.an≠c:=fun e=>h2' ⟨rfl,.inl e⟩
    have e2:C.qc≠c:=fun e=>h2' ⟨rfl,.inr e⟩
    simp[offersAt,selStand,parked,selCases,rcase,e1,e2]
 |run M s=>exact offers_of_status (WSit.status h (by rw[hp];simp) (by rw[hp];simp)) _ _
 |sel M s=>exact offers_of_status (WSit.status h (by rw[hp];simp) (by rw[hp];simp)) _ _
 |fin x s b'=>exact offers_of_status (WSit.status h (by rw[hp];simp) (by rw[hp];simp)) _ _
theorem Net.offers(N:Net C g0 n ws st D T dS qcl q gs w t){c:Nat}{b:Bool}{i:Nat}{x:Goroutine}(hx:gs[i]?=some x)(hi:i≠0)(h1:∀j,j<n→i=g0+j→∀M s s' x,(D j).pos= .sendB M s s' x→¬(b=true∧(ws j).of=c))(h2:∀j,j<n→i=g0+j→∀M s,(D j).pos= .selB M s→qcl=false→¬(b=false∧((ws j).an=c∨C.qc=c))):offersAt x c b=[]:=by
 by_cases hlt:i<g0
 ·have hq:=N.old i x (by omega) hlt hx
  exact offers_of_status hq.status _ _
 ·have hsz:=N.size
  have hb:i<gs.size:=(Array.getElem?_eq_some_iff.1 hx).1
  obtain⟨y,hy,hs⟩:=N.sit (i-g0) (by omega)
  have e:g0+(i-g0)=i:=by omega
  rw[e,hx] at hy
  obtain rfl:=Option.some.inj hy
  exact hs.offers (h1 _ (by omega) (by omega)) (h2 _ (by omega) (by omega))
theorem no_partners{i c:Nat}{b:Bool}(h:∀m x,m≠i→gs[m]?=some x→offersAt x c b=[]):partners (gs.setIfInBounds i ph) c b=[]:=by
 refine partners_nil fun j x hx=>?_
 rcases getElem?_stand gs i j x hx with⟨_,rfl⟩|⟨hj,hx'⟩
 ·rfl
 ·exact h j x hj hx'
theorem one_partner{i j c m:Nat}{b:Bool}{y:Goroutine}(hij:j≠i)(hy:gs[j]?=some y)(ho:offersAt y c b=[m])(h:∀m x,m≠i→m≠j→gs[m]?=some x→offersAt x c b=[]):partners (gs.setIfInBounds i ph) c b=[(j,m)]:=by
 rw[partners_one (stand_get hij hy) fun k x hk hx=>?_,ho]
 ·rfl
 ·rcases getElem?_stand gs i k x hx with⟨_,rfl⟩|⟨hj,hx'⟩
  ·rfl
  ·exact h k x hj hk hx'
theorem wparkB(N:Net C g0 n ws st D T dS qcl q gs w t)(hk:k<n){g:Goroutine}(hg:gs[g0+k]?=some g)(hB:WB C ws D w k g)(sl:Option (Nat×Nat))(h0:∀x,gs[0]?=some x→offersAt x (ws k).of false=[]):
  ∃gs' d,runT C.P (crowd gs w sl) (g0+k)=(.next (crowd gs' w sl),#[])∧gs'[0]?=gs[0]?∧Net C g0 n ws st (upd D k d) T dS qcl q gs' w t∧kst d.pos=kst (D k).pos∧rank d.pos<rank (D k).pos∧∃M s s' x,d.pos= .sendB M s s' x:=by
 obtain⟨M,s,x,s',z,hpos,hnx,hst,hcont⟩:=hB
 have hp:=N.pos
 have hi0:(g0+k==0)=false:=by simp;omega
 obtain⟨r,hc⟩:=N.chans.of k hk
 simp only[isShut,hpos] at hc
 have hv:=N.view k hk
 have hdf:(D k).deaf=0:=by
  obtain⟨y,_,hs⟩:=N.sit k hk
  simp only[WSit,hpos] at hs
  exact hs.2
 have hparts:partners (gs.setIfInBounds (g0+k) ph) (ws k).of false=[]:=no_partners fun m y hm hy=>by
  by_cases e:m=0
  ·subst e;exact h0 y hy
  ·refine N.offers hy e (fun j hj _ M s s' x _ h=>by cases h.1) fun j hj _ M s _ _ h=>?_
   have hne:=N.chans.ne k hk
   rcases h.2 with h|h
   ·by_cases ej:j=k
    ·subst ej;exact hne.1 h.symm
    ·exact(hne.2.2.2 j hj ej).2.1 h.symm
   ·exact hne.2.1 h.symm
 have hrun:=crowd_waits (P:=C.P) (sl:=sl) hg (by rw[hi0];exact hst) fun cc hcc=>by
  simp at hcc
  subst hcc
  exact ways_send_none hc (by simp) hparts
 have hnil:∀(i:Nat) (fn:FuncId) (pos:String),MemOp.ofEvents i fn pos #[]= #[]:=fun i fn pos=>by rw[ofEvents_eq];simp
 rw[hnil] at hrun
 refine⟨_,{D k with pos:=.sendB M s s' x},hrun,by rw[Array.getElem?_setIfInBounds_ne (by omega)],?_,by simp[kst,hpos],by simp[rank,hpos],M,s,s',x,rfl⟩
 have hN:=N.wset (u:= #[]) hk (g':=parked g #[scase (ws k).of x z] .send) (d:={D k with pos:=.sendB M s s' x}) (by simp) (by simp) (by simp) (by simp) rfl rfl rfl (by simp[hpos,isShut]) (by simp[N.tr.deafW k hk]) ?_ ?_
 ·simpa using hN
 ·simp only[WSit]
  exact⟨g,z,rfl,hnx,hdf,hcont⟩
 ·simp only[VSit,hpos] at hv⊢
  exact hv
theorem wparkC(N:Net C g0 n ws st D T dS false q gs w t)(hk:k<n){g:Goroutine}(hg:gs[g0+k]?=some g)(hrun0:g.status= .running)(hC:WC C ws D w k g)(sl:Option (Nat×Nat))(h0:∀x,gs[0]?=some x→offersAt x (ws k).an true=[]∧offersAt x C.qc true=[]):
  ∃gs' d,runT C.P (crowd gs w sl) (g0+k)=(.next (crowd gs' w sl),#[])∧gs'[0]?=gs[0]?∧Net C g0 n ws st (upd D k d) T dS false q gs' w t∧kst d.pos=kst (D k).pos∧rank d.pos<rank (D k).pos∧∃M s,d.pos= .selB M s:=by
 obtain⟨M,s,g1,hpos,hst,hcont,hdf⟩:=hC
 have hp:=N.pos
 have hi0:(g0+k==0)=false:=by simp;omega
 have hpos':(D k).pos= .sel M s:=by
  rcases hpos with h|h
  ·exact h
  ·obtain⟨y,hy,hs⟩:=N.sit k hk
   rw[hg] at hy
   obtain rfl:=Option.some.inj hy
   simp only[WSit,h] at hs
   obtain⟨g2,rfl,_⟩:=hs
   simp[selStand,parked] at hrun0
 obtain⟨r,hc⟩:=N.chans.an k hk
 have hq:=N.chans.qc
 have hv:=N.view k hk
 have hne:=N.chans.ne k hk
 have hp1:partners (gs.setIfInBounds (g0+k) ph) (ws k).an true=[]:=no_partners fun m y hm hy=>by
  by_cases e:m=0
  ·subst e;exact(h0 y hy).1
  ·refine N.offers hy e (fun j hj _ M s s' x _ h=>?_) fun j hj _ M s _ _ h=>by cases h.1
   by_cases ej:j=k
   ·subst ej;exact hne.1 h.2
   ·exact((N.chans.ne j hj).2.2.2 k hk (Ne.symm ej)).2.1 h.2
 have hp2:partners (gs.setIfInBounds (g0+k) ph) C.qc true=[]:=no_partners fun m y hm hy=>by
  by_cases e:m=0
  ·subst e;exact(h0 y hy).2
  ·refine N.offers hy e (fun j hj _ M s s' x _ h=>?_) fun j hj _ M s _ _ h=>by cases h.1
   exact(N.chans.ne j hj).2.1 h.2
 have hrun:=crowd_waits (P:=C.P) (sl:=sl) hg (by rw[hi0];exact hst) fun cc hcc=>by
  simp[selCases] at hcc
  rcases hcc with rfl|rfl
  ·exact ways_recv_none hc hp1
  ·exact ways_recv_none hq hp2
 have hnil:∀(i:Nat) (fn:FuncId) (pos:String),MemOp.ofEvents i fn pos #[]= #[]:=fun i fn pos=>by rw[ofEvents_eq];simp
 rw[hnil] at hrun
 refine⟨_,{D k with pos:=.selB M s},hrun,by rw[Array.getElem?_setIfInBounds_ne (by omega)],?_,by simp[kst,hpos'],by simp[rank,hpos'],M,s,rfl⟩
 have hN:=N.wset (u:= #[]) hk (g':=parked g1 (selCases C (ws k)) .select) (d:={D k with pos:=.selB M s}) (by simp) (by simp) (by simp) (by simp) rfl rfl rfl (by simp[hpos',isShut]) (by simp[N.tr.deafW k hk]) ?_ ?_
 ·simpa using hN
 ·simp only[WSit]
  exact⟨g1,rfl,hcont,hdf⟩
 ·simp only[VSit,hpos'] at hv⊢
  exact hv
theorem wquitC(N:Net C g0 n ws st D T dS true q gs w t)(hk:k<n){g:Goroutine}(hg:gs[g0+k]?=some g)(hC:WC C ws D w k g)(sl:Option (Nat×Nat))(h0:∀x,gs[0]?=some x→offersAt x (ws k).an true=[]∧offersAt x C.qc true=[]):
  ∃gs' d ops,runT C.P (crowd gs w sl) (g0+k)=(.next (crowd gs' w sl),ops)∧gs'[0]?=gs[0]?∧Net C g0 n ws st (upd D k d) T dS true q gs' w (t++ops)∧kst d.pos=kst (D k).pos∧rank d.pos<rank (D k).pos∧∃s,d.pos= .fin 8 s false:=by
 obtain⟨M,s,g1,hpos,hst,hcont,hdf⟩:=hC
 have hp:=N.pos
 have hi0:(g0+k==0)=false:=by simp;omega
 obtain⟨r,hc⟩:=N.chans.an k hk
 have hq:=N.chans.qc
 have hv:=N.view k hk
 have hne:=N.chans.ne k hk
 have hp1:partners (gs.setIfInBounds (g0+k) ph) (ws k).an true=[]:=no_partners fun m y hm hy=>by
  by_cases e:m=0
  ·subst e;exact(h0 y hy).1
  ·refine N.offers hy e (fun j hj _ M s s' x _ h=>?_) fun j hj _ M s _ _ h=>by cases h.1
   by_cases ej:j=k
   ·subst ej;exact hne.1 h.2
   ·exact((N.chans.ne j hj).2.2.2 k hk (Ne.symm ej)).2.1 h.2
 have hp2:partners (gs.setIfInBounds (g0+k) ph) C.qc true=[]:=no_partners fun m y hm hy=>by
  by_cases e:m=0
  ·subst e;exact(h0 y hy).2
  ·refine N.offers hy e (fun j hj _ M s s' x _ h=>?_) fun j hj _ M s _ _ h=>by cases h.1
   exact(N.chans.ne j hj).2.1 h.2
 have hrun:=crowd_sel_recv_closed (P:=C.P) (sl:=sl) (k:=1) (z:=.agg #[]) hg (by rw[hi0];exact hst) rfl (fun m c' hm hc'=>by
  match m,hc' with
  |0,hc'=>simp[selCases] at hc';subst hc';exact ways_recv_none hc hp1
  |1,_=>exact absurd rfl hm
  |m+2,hc'=>simp[selCases] at hc') hq hp2
 have hnil:∀(i:Nat) (fn:FuncId) (pos:String),MemOp.ofEvents i fn pos #[]= #[]:=fun i fn pos=>by rw[ofEvents_eq];simp
 rw[hnil] at hrun
 obtain⟨_,_,_,_,hquit⟩:=hcont w (Rely.refl _ _ _)
 obtain⟨m,hG⟩:=hquit w (Rely.refl _ _ _)
 have mem:∀x∈ #[({g:=g0+k,fn:=g1.frame.fn,pos:=g1.frame.place,act:=.recvClosed C.qc}:MemOp)],x={g:=g0+k,fn:=g1.frame.fn,pos:=g1.frame.place,act:=.recvClosed C.qc}:=fun x h=>by simpa using h
 have hN:=N.wset (u:= #[({g:=g0+k,fn:=g1.frame.fn,pos:=g1.frame.place,act:=.recvClosed C.qc}:MemOp)]) hk (g':=g1.finishComm C.P (selCases C (ws k)) .select 1 (.agg #[]) false) (d:={D k with pos:=.fin 8 s false,fuel:=m}) (fun x h=>by rw[mem x h]) (fun x h=>by rw[mem x h];rfl)
  (fun x h=>by rw[mem x h];exact(Array.getElem?_eq_some_iff.1 hq).1) (fun x h=>by rw[mem x h];simp) rfl rfl rfl (by rcases hpos with h|h<;>simp[h,isShut]) (by rw[Deaf_still fun x h d=>by rw[mem x h];rfl];exact N.tr.deafW k hk) ?_ ?_
 ·refine⟨_,{D k with pos:=.fin 8 s false,fuel:=m},_,hrun,by rw[Array.getElem?_setIfInBounds_ne (by omega)],by simpa using hN,by rcases hpos with h|h<;>simp[kst,h],by rcases hpos with h|h<;>simp[rank,h],s,rfl⟩
 ·simp only[WSit]
  exact⟨⟨hG,hdf⟩,trivial⟩
 ·rcases hpos with h|h<;>(simp only[VSit,h] at hv⊢;exact⟨hv.1,hv.2.1,by simp[hv.2.2]⟩)
end
end
end Go.Side
