/-
  Texts of Ytbjlijagheifgaa, merged.
-/
import Derived.Test.YtbjlijagheifgaaD8
set_option linter.unusedSimpArgs false
set_option linter.unusedVariables false
namespace Go.Side
section
open Go Go.Conc Go.ConcN
open Go.ConcR (KK WgAt stA smA rd wr wgBlock)
inductive SPh where
 |kd|an|w1|w2 (vs:Nat)|ws|w3|blk|w4|ke|acq|anc
def SPh.tag:SPh→CTag
 | .kd=>.kd| .an=>.anch| .w1=>.w1| .w2 v=>.w2 v| .ws=>.w3| .w3=>.w3| .blk=>.blk| .w4=>.w4| .ke=>.ke| .acq=>.acq| .anc=>.ret
def SPh.deaf:SPh→Nat
 | .kd| .acq| .anc=>0
 |_=>1
def SPh.phi(n v:Nat):SPh→Nat
 | .kd=>8*n+8| .an=>8*v+7| .w1=>8*v+6| .w2 vs=>8*vs+5| .ws=>6| .w3=>5| .blk=>5| .w4=>4| .ke=>3| .acq=>2| .anc=>1
def SPh.fuel(f:Nat):SPh→Nat
 | .blk=>0
 |_=>f+1
section
variable {σ:Type} (C:Fix σ) (Anc:Goroutine→World→Prop) (An:Terr→Goroutine→World→Prop)
def CS:SPh→Nat→Terr→Goroutine→World→Prop
 | .kd,f,T,a,w=>GoesN C.P true false true (AtKd C An) f T a w
 | .an,f,T,a,w=>GoesN C.P true false true An f T a w
 | .w1,f,T,a,w=>GoesN C.P true false true (AtW1 C Anc An) f T a w
 | .w2 vs,f,T,a,w=>GoesN C.P true false true (AtW2 C Anc An vs) f T a w
 | .ws,f,T,a,w=>GoesN C.P true false true (AtWs C Anc) f T a w
 | .w3,f,T,a,w=>GoesN C.P true false true (AtW3 C Anc) f T a w
 | .blk,_,T,a,w=>∃g,a={g with status:=.blocked}∧∀w₁,Rely false T w w₁→AtW3 C Anc T g w₁
 | .w4,f,T,a,w=>GoesN C.P true false true (AtW4 C Anc) f T a w
 | .ke,f,T,a,w=>GoesN C.P true false true (AtKe C Anc) f T a w
 | .acq,f,T,a,w=>GoesN C.P true false true (AtAcq C Anc) f T a w
 | .anc,f,T,a,w=>GoesN C.P true false true (AtAnc Anc) f T a w
end
section
variable {σ:Type} {C:Fix σ} {g0 n:Nat} {ws:Nat→WV} {st:Nat→WState σ} {D D':Nat→WDat σ} {T T':Terr} {dS dS':Nat} {qcl qcl':Bool} {q q':Nat→Nat} {gs:Array Goroutine} {w w':World} {t u:Trace} {k p i:Nat} {Q:Machine→Trace→Prop}
 {Anc:Goroutine→World→Prop} {An:Terr→Goroutine→World→Prop} {ph:SPh} {f:Nat} {a:Goroutine}
theorem CS.rely{w₁:World}(h:CS C Anc An ph f T a w)(r:Rely false T w w₁):CS C Anc An ph f T a w₁:=by
 cases ph with
 |blk=>obtain⟨g,h1,h2⟩:=h;exact⟨g,h1,fun w₂ r₂=>h2 w₂ (r.trans r₂)⟩
 |_=>exact GoesN.rely h r
theorem CS.running(hAn:∀T g w,An T g w→g.status= .running)(h:CS C Anc An ph f T a w)(hb:ph≠ .blk):a.status= .running:=by
 cases ph with
 |blk=>exact absurd rfl hb
 |an=>exact GoesN.running hAn h
 |kd=>exact GoesN.running (fun _ _ _ x=>x.1) h
 |w1=>exact GoesN.running (fun _ _ _ x=>x.1) h
 |w2=>exact GoesN.running (fun _ _ _ x=>x.1) h
 |ws=>exact GoesN.running (fun _ _ _ x=>x.1) h
 |w3=>exact GoesN.running (fun _ _ _ x=>x.1) h
 |w4=>exact GoesN.running (fun _ _ _ x=>x.1) h
 |ke=>exact GoesN.running (fun _ _ _ x=>x.1) h
 |acq=>exact GoesN.running (fun _ _ _ x=>x.1) h
 |anc=>exact GoesN.running (fun _ _ _ x=>x.1) h
structure P2(C:Fix σ)(Anc:Goroutine→World→Prop)(An:Terr→Goroutine→World→Prop)(g0 n:Nat)(ws:Nat→WV)(st:Nat→WState σ)(D:Nat→WDat σ)(T:Terr)(ph:SPh)(f:Nat)(q:Nat→Nat)(gs:Array Goroutine)(w:World)(t:Trace):Prop where
 net:Net C g0 n ws st D T ph.deaf true q gs w t
 grp:∃a1 a2,WgAt C.ty C.Wg w a1 a2∧ConcN.Mode n (fun i=>wd (D i)) ph.tag a1 a2
 zero:∃a,gs[0]?=some a∧CS C Anc An ph f T a w
 acq:ph= .anc→∀k,k<n→∀r,(D k).rel=some r→Knows t 0 r
def meas2(g0 n:Nat)(D:Nat→WDat σ)(q:Nat→Nat)(ph:SPh)(f:Nat):Nat×Nat:=
 (ph.phi n (Vc n fun i=>wd (D i))+(meas g0 n D q).1,ph.fuel f+2*(meas g0 n D q).2)
theorem phi_mono'(n:Nat){v v':Nat}(h:v'≤v)(ph:SPh):ph.phi n v'≤ph.phi n v:=by
 cases ph<;>simp only[SPh.phi]<;>omega
theorem meas2_others{ph':SPh}{f':Nat}(h:Lt2 (meas g0 n D' q') (meas g0 n D q))(hV:Vc n (fun i=>wd (D' i))≤Vc n (fun i=>wd (D i)))(hp:(ph'=ph∧f'=f)∨(ph= .blk∧ph'= .w3∧f'=0)):Lt2 (meas2 g0 n D' q' ph' f') (meas2 g0 n D q ph f):=by
 have e1:ph'.phi n (Vc n fun i=>wd (D' i))≤ph.phi n (Vc n fun i=>wd (D i)):=by
  refine Nat.le_trans (phi_mono' n hV ph') ?_
  rcases hp with⟨rfl,_⟩|⟨rfl,rfl,_⟩<;>exact Nat.le_refl _
 have e2:ph'.fuel f'≤ph.fuel f+1:=by
  rcases hp with⟨rfl,rfl⟩|⟨rfl,rfl,rfl⟩
  ·omega
  ·simp[SPh.fuel]
 generalize hm:meas g0 n D q=m at h
 generalize hm':meas g0 n D' q'=m' at h
 unfold meas2
 rw[hm,hm']
 cases h with
 |left b1 b2 h=>exact Prod.Lex.left _ _ (by simp only;omega)
 |right a h=>
  rcases Nat.lt_or_ge (ph'.phi n (Vc n fun i=>wd (D' i))) (ph.phi n (Vc n fun i=>wd (D i))) with hlt|hge
  ·exact Prod.Lex.left _ _ (by simp only;omega)
  ·have:ph'.phi n (Vc n fun i=>wd (D' i))=ph.phi n (Vc n fun i=>wd (D i)):=by omega
   rw[this]
   exact Prod.Lex.right _ (by simp only;omega)
theorem meas2_own{ph':SPh}{f':Nat}(h:ph'.phi n (Vc n fun i=>wd (D i))<ph.phi n (Vc n fun i=>wd (D i))∨(ph'.phi n (Vc n fun i=>wd (D i))=ph.phi n (Vc n fun i=>wd (D i))∧ph'.fuel f'<ph.fuel f)):Lt2 (meas2 g0 n D q ph' f') (meas2 g0 n D q ph f):=by
 unfold meas2
 rcases h with h|⟨h,h'⟩
 ·exact Prod.Lex.left _ _ (by omega)
 ·rw[h];exact Prod.Lex.right _ (by omega)
theorem mode_open{tag tag':CTag}{a1 a2:Int}(h:ConcN.Mode n (fun i=>wd (D i)) tag a1 a2)(ho:isOpen tag)(ho':isOpen tag')(hp:pend tag'=pend tag)(hv:∀vs,tag'= .w2 vs→Vc n (fun i=>wd (D i))≤vs∧1≤vs):ConcN.Mode n (fun i=>wd (D i)) tag' a1 a2:=by
 cases h with
 |opn h1 h2 h3=>rw[←hp];exact .opn ho' h2 hv
 |reg h1 _ _=>cases tag<;>first|exact h1.elim|exact ho.elim
 |last L h1 _ _ _=>cases tag<;>first|exact h1.elim|exact ho.elim
 |sema h2=>exact ho.elim
 |fin h1 _=>cases tag<;>first|exact h1.elim|exact ho.elim
theorem mode_opn{tag:CTag}{a1 a2:Int}(h:ConcN.Mode n (fun i=>wd (D i)) tag a1 a2)(ho:isOpen tag):a1=((Vc n (fun i=>wd (D i))+pend tag:Nat):Int)*KK∧a2=0∧OpenSt n (fun i=>wd (D i))∧∀vs,tag= .w2 vs→Vc n (fun i=>wd (D i))≤vs∧1≤vs:=by
 cases h with
 |opn h1 h2 h3=>exact⟨rfl,rfl,h2,h3⟩
 |reg h1 _ _=>cases tag<;>first|exact h1.elim|exact ho.elim
 |last L h1 _ _ _=>cases tag<;>first|exact h1.elim|exact ho.elim
 |sema h2=>exact ho.elim
 |fin h1 _=>cases tag<;>first|exact h1.elim|exact ho.elim
theorem mode_fin{tag:CTag}{a1 a2:Int}(h:ConcN.Mode n (fun i=>wd (D i)) tag a1 a2)(ho:isFin tag):a1=0∧a2=0∧AllQuit n (fun i=>wd (D i)):=by
 cases h with
 |opn h1 h2 h3=>cases tag<;>first|exact h1.elim|exact ho.elim
 |reg h1 _ _=>cases tag<;>first|exact h1.elim|exact ho.elim
 |last L h1 _ _ _=>cases tag<;>first|exact h1.elim|exact ho.elim
 |sema h2=>exact ho.elim
 |fin h1 h2=>exact⟨rfl,rfl,h2⟩
theorem mode_w3{tag:CTag}{a1 a2:Int}(h:ConcN.Mode n (fun i=>wd (D i)) tag a1 a2)(ho:isW3 tag):(a2=0∧∀tag',isW3 tag'→ConcN.Mode n (fun i=>wd (D i)) tag' a1 a2)∨(tag= .w3∧a1=0∧a2=1∧AllQuit n (fun i=>wd (D i))):=by
 cases h with
 |opn h1 h2 h3=>cases tag<;>first|exact h1.elim|exact ho.elim
 |reg h1 h2 h3=>exact .inl ⟨rfl,fun tag' h=>.reg h h2 h3⟩
 |last L h1 h2 h3 h4=>exact .inl ⟨rfl,fun tag' h=>.last L h h2 h3 h4⟩
 |sema h2=>exact .inr ⟨rfl,rfl,rfl,h2⟩
 |fin h1 _=>cases tag<;>first|exact h1.elim|exact ho.elim
theorem quit_of_none(h:OpenSt n (fun i=>wd (D i)))(h0:Vc n (fun i=>wd (D i))=0):AllQuit n (fun i=>wd (D i)):=fun i hi=>by
 have h1:(wd (D i)).stage=7∨(wd (D i)).stage=6∨(wd (D i)).stage=5∨(wd (D i)).stage=1:=h i hi
 show(wd (D i)).stage=1
 have h2:=le_sumTo (f:=fun x=>cnt (wd (D x))) hi
 have h3:cnt (wd (D i))=0:=by simp only[Vc] at h0;omega
 simp only[cnt] at h3
 split at h3<;>omega
theorem some_runs(N:Net C g0 n ws st D T dS true q gs w t)(hq:QuietS n st){a1 a2:Int}(hm:ConcN.Mode n (fun i=>wd (D i)) .blk a1 a2):∃(i:Nat) (g:Goroutine),gs[i]?=some g∧g.status= .running:=by
 have go:∀k,k<n→(wd (D k)).stage≠1→∃(i:Nat) (g:Goroutine),gs[i]?=some g∧g.status= .running:=fun k hk hs=>by
  obtain⟨g,hg,hsit⟩:=N.sit k hk
  have hv:=N.view k hk
  have hb:=hq k hk
  refine⟨_,g,hg,?_⟩
  cases hp:(D k).pos with
  |run M s=>simp only[VSit,hp] at hv;exact absurd (by rw[hv.1];trivial) hb
  |sendB M s s' x=>simp only[VSit,hp] at hv;exact absurd (by rw[hv.1];trivial) hb
  |sel M s=>exact sel_running hsit hp
  |selB M s=>
   simp only[WSit,hp] at hsit
   obtain⟨g1,rfl,_⟩:=hsit
   rfl
  |fin x s b=>
   have hx:x≠1:=fun e=>hs (by simp[wd,kst,hp,e])
   match x,hp,hx with
   |8,hp,_=>simp only[WSit,hp] at hsit;exact GoesN.running (fun _ _ _ x=>x.1) hsit.1.1
   |7,hp,_=>simp only[WSit,hp] at hsit;exact GoesN.running (fun _ _ _ x=>x.1) hsit.1
   |6,hp,_=>simp only[WSit,hp] at hsit;exact Goes.running (fun _ _ x=>x.1) w (Rely.refl _ _ _) hsit.1
   |5,hp,_=>simp only[WSit,hp] at hsit;exact Goes.running (fun _ _ x=>x.1) w (Rely.refl _ _ _) hsit.1
   |4,hp,_=>simp only[WSit,hp] at hsit;exact Goes.running (fun _ _ x=>x.1) w (Rely.refl _ _ _) hsit.1
   |3,hp,_=>simp only[WSit,hp] at hsit;exact Goes.running (fun _ _ x=>x.1) w (Rely.refl _ _ _) hsit.1
   |2,hp,_=>simp only[WSit,hp] at hsit;exact Goes.running (fun _ _ x=>x.1) w (Rely.refl _ _ _) hsit.1
   |1,_,hx=>exact absurd rfl hx
   |0,hp,_=>simp only[WSit,hp] at hsit
   |x+9,hp,_=>simp only[WSit,hp] at hsit
 cases hm with
 |opn h1 _ _=>exact h1.elim
 |reg h1 h2 h3=>
  by_cases hx:∃k,k<n∧(wd (D k)).stage≠1
  ·obtain⟨k,hk,h⟩:=hx
   exact go k hk h
  ·have:Vc n (fun i=>wd (D i))≤0*n:=sumTo_le fun i hi=>by
    have:(wd (D i)).stage=1:=Classical.byContradiction fun h=>hx ⟨i,hi,h⟩
    simp[cnt,this]
   omega
 |last L h1 h2 h3 h4=>
  refine go L h2 ?_
  have h3':(wd (D L)).stage=4∨(wd (D L)).stage=3∨(wd (D L)).stage=2:=h3
  omega
 |fin h1 _=>exact h1.elim
theorem vc_le_upd{d:WDat σ}(hk:k<n)(h:kst d.pos=kst (D k).pos):Vc n (fun i=>wd (upd D k d i))=Vc n (fun i=>wd (D i)):=by
 rw[wd_upd]
 have:=Vc_upd (fun i=>wd (D i)) (wd d) hk
 have e:cnt (wd d)=cnt (wd (D k)):=by unfold cnt wd;simp only;rw[h]
 omega
end
end
section
open Go Go.Conc Go.ConcN
open Go.ConcR (KK WgAt stA smA rd wr wgBlock)
section
variable {σ:Type} {C:Fix σ} {g0 n:Nat} {ws:Nat→WV} {st:Nat→WState σ} {D D':Nat→WDat σ} {T T':Terr} {dS dS':Nat} {qcl qcl':Bool} {q q':Nat→Nat} {gs:Array Goroutine} {w w':World} {t u:Trace} {k p i:Nat} {Q:Machine→Trace→Prop}
 {Anc:Goroutine→World→Prop} {An:Terr→Goroutine→World→Prop} {ph:SPh} {f:Nat} {a:Goroutine}
structure JoinedAt(C:Fix σ)(Anc:Goroutine→World→Prop)(g0 n:Nat)(ws:Nat→WV)(st:Nat→WState σ)(m:Machine)(t:Trace):Prop where
 at':∃(gs:Array Goroutine) (w:World) (sl:Option (Nat×Nat)) (g:Goroutine) (q:Nat→Nat),m=crowd gs w sl∧gs[0]?=some g∧gs.size=g0+n∧g.status= .running∧Anc g w∧Past C.Sh w.heap.size t∧Leavers C.P t gs q∧
  ∀k,k<n→∃s b,((b=true∧st k= .ended s)∨(b=false∧st k= .offd s))∧BoxIs (ws k) (C.sum s) b w
theorem joined(N:Net C g0 n ws st D T 0 true q gs w t)(hq:QuietS n st){g:Goroutine}(hg:gs[0]?=some g)(hs:g.status= .running)(hA:Anc g w)(ha:AllQuit n (fun i=>wd (D i)))(hk:∀k,k<n→∀r,(D k).rel=some r→Knows t 0 r)(sl:Option (Nat×Nat)):JoinedAt C Anc g0 n ws st (crowd gs w sl) t:=by
 have hfin:∀k,k<n→∃s b,(D k).pos= .fin 1 s b:=fun k hkn=>by
  have h1:kst (D k).pos=1:=ha k hkn
  cases hp:(D k).pos with
  |fin x s b=>
          rw[hp] at h1;simp only[kst] at h1;obtain rfl:x=1:=by omega
          exact⟨s,b,rfl⟩
  |_=>rw[hp] at h1;cases h1
 have hrel:∀k,k<n→∃r,(D k).rel=some r∧(D k).sh=none:=fun k hkn=>by
  obtain⟨s,b,hp⟩:=hfin k hkn
  have hv:=N.view k hkn
  have hf:=VSit.free hv (hq k hkn)
  simp only[VSit,hp] at hv
  cases hr:(D k).rel with
  |some r=>exact⟨r,rfl,hf⟩
  |none=>
   rw[hr] at hv
   cases b with
   |true=>have:=hv.2;simp at this
   |false=>have:=hv.2.2;simp at this
 have hsz:=N.size
 refine⟨gs,w,sl,g,fun i=>if i<g0 then q i else(D (i-g0)).fuel,rfl,hg,hsz,hs,hA,?_,⟨fun i x hi hx=>?_,N.above⟩,fun k hkn=>?_⟩
 · -- all shares are goroutine 0's
  have H:Shares C.Sh (fun x l=>x= .gor 0∧(T.rd l∨∃k,k<n∧(D k).wr l)) w.heap.size (t++ #[]):=by
   refine N.tr.shares.pass (fun op h=>by simp at h) (fun op h=>by simp at h) (fun x l hx=>?_) (fun y l hy _=>?_)
   ·obtain⟨rfl,hx|⟨k,hkn,hx⟩⟩:=hx
    ·exact⟨.gor 0,.inl ⟨rfl,hx⟩,fun i h=>h.app _⟩
    ·obtain⟨r,hr,_⟩:=hrel k hkn
     refine⟨.at r,.inr ⟨k,hkn,.inl ⟨by simp[who,hr],.inr hx⟩⟩,fun i h=>?_⟩
     rw[Array.append_empty]
     obtain⟨qq,op,h1,h2,h3⟩:=hk k hkn r hr
     refine⟨qq,op,h1,h2,?_⟩
     rcases(show Before t i r from h) with rfl|h'
     ·exact h3
     ·rcases h3 with rfl|h3
      ·exact .inr h'
      ·exact .inr (h'.trans h3)
   ·rcases hy with⟨rfl,hy⟩|⟨k,hkn,⟨rfl,hy⟩|⟨hy,_⟩⟩
    ·exact⟨.gor 0,⟨rfl,.inl hy⟩,fun i h=>h.app _⟩
    ·obtain⟨r,hr,_⟩:=hrel k hkn
     refine⟨.gor 0,⟨rfl,?_⟩,fun i h=>?_⟩
     ·rcases hy with hy|hy
      ·exact .inl (N.lay.ck k hkn _ hy)
      ·exact .inr ⟨k,hkn,hy⟩
     ·rw[Array.append_empty]
      simp only[who,hr] at h
      obtain⟨qq,op,h1,h2,h3⟩:=hk k hkn r hr
      refine⟨qq,op,h1,h2,?_⟩
      rcases(show Before t i r from h) with rfl|h'
      ·exact h3
      ·rcases h3 with rfl|h3
       ·exact .inr h'
       ·exact .inr (h'.trans h3)
    ·obtain⟨r,_,hs'⟩:=hrel k hkn
     rw[hs'] at hy;cases hy
  rw[Array.append_empty] at H
  exact H.toPast N.tr.deaf0 fun l hm hl hsh=>⟨⟨rfl,N.lay.cov l hm hl hsh⟩,fun x hx=>hx.1⟩
 ·by_cases hlt:i<g0
  ·rw[if_pos hlt];exact N.old i x hi hlt hx
  ·rw[if_neg hlt]
   have hb:i<gs.size:=(Array.getElem?_eq_some_iff.1 hx).1
   obtain⟨y,hy,hsit⟩:=N.sit (i-g0) (by omega)
   have e:g0+(i-g0)=i:=by omega
   rw[e,hx] at hy
   obtain rfl:=Option.some.inj hy
   obtain⟨s,b,hp⟩:=hfin (i-g0) (by omega)
   simp only[WSit,hp] at hsit
   have hdf:=N.tr.deafW (i-g0) (by omega)
   rw[e] at hdf
   rw[hdf]
   exact hsit.1
 ·obtain⟨s,b,hp⟩:=hfin k hkn
  obtain⟨y,_,hsit⟩:=N.sit k hkn
  have hv:=N.view k hkn
  simp only[WSit,hp] at hsit
  simp only[VSit,hp] at hv
  refine⟨s,b,?_,hsit.2.1⟩
  cases b with
  |true=>
   rcases hv.1 with⟨h,_⟩|⟨h,_⟩
   ·exact absurd (by rw[h];trivial) (hq k hkn)
   ·exact .inl ⟨rfl,h⟩
  |false=>exact .inr ⟨rfl,hv.1⟩
theorem again_blocked{g:Goroutine}{w:World}(h1:g.status= .running)(h2:g.offers=none):Goroutine.again w {g with status:=.blocked}=g:=by
 cases g
 simp only at h1 h2
 subst h1;subst h2
 rfl
theorem acq_app(h:∀k,k<n→∀r,(D k).rel=some r→Knows t 0 r)(u:Trace):∀k,k<n→∀r,(D k).rel=some r→Knows (t++u) 0 r:=fun k hk r hr=>(h k hk r hr).app u
set_option maxHeartbeats 1600000 in
theorem wait_comes(hAn:∀T g w,An T g w→g.status= .running)(hAnW:∀T g w,An T g w→∃m,GoesN C.P true false true (AtW1 C Anc An) m T g w)(hn:n≤2147483646)(hq:QuietS n st):
  ∀{D ph f q gs w sl t},P2 C Anc An g0 n ws st D T ph f q gs w t→Comes C.P (JoinedAt C Anc g0 n ws st) (crowd gs w sl) t:=by
 have key:∀μ:Nat×Nat,∀{D ph f q gs w sl t},meas2 g0 n D q ph f=μ→P2 C Anc An g0 n ws st D T ph f q gs w t→Comes C.P (JoinedAt C Anc g0 n ws st) (crowd gs w sl) t:=by
  intro μ
  induction μ using lt2_wf.induction with
  |_ μ ih=>
   intro D ph f q gs w sl t hμ H
   subst hμ
   obtain⟨a,h0,hCS⟩:=H.zero
   obtain⟨a1,a2,hwg,hm⟩:=H.grp
   have hpp:=H.net.pos
   have hsz:=H.net.size
   have hpend:pend ph.tag=0:=by cases ph<;>rfl
   have haw:awake a:=by
    by_cases hb:ph= .blk
    ·subst hb;obtain⟨g,rfl,_⟩:=hCS;exact awake_of (.inr (.inl rfl))
    ·exact awake_of (.inl (hCS.running hAn hb))
   have hsome:∃(i:Nat) (g:Goroutine),gs[i]?=some g∧g.status= .running:=by
    by_cases hb:ph= .blk
    ·subst hb;exact some_runs H.net hq hm
    ·exact⟨0,a,h0,hCS.running hAn hb⟩
   have hoff:∀c b,offersAt a c b=[]:=fun c b=>by
    by_cases hb:ph= .blk
    ·subst hb
     obtain⟨g,rfl,hg⟩:=hCS
     have:=(hg w (Rely.refl _ _ _)).2.1
     simp[offersAt,this]
    ·exact offers_of_status (.inl (hCS.running hAn hb)) _ _
   rcases Go.Side.round H.net (by omega) hwg hm h0 haw hsome sl with⟨d,sl',hrun,hst⟩|⟨gs',w',sl',ops,D',q',b1,b2,g,g',hst,R⟩|⟨k,g,d,sl',hk,hg,hgr,hst,hBC⟩
   · -- goroutine 0
    have N1:=H.net.at d
    replace hwg:WgAt C.ty C.Wg (w.at d) a1 a2:=hwg
    have back:Rely false T (w.at d) w:=Rely.at false T (w.at d) w.drawn
    have hC1:=hCS.rely (Rely.at false T w d)
    have hVn:=Vc_le n (fun i=>wd (D i))
    have next:∀{g':Goroutine} {w':World} {es:Array Event} {ph':SPh} {f':Nat} {b1 b2:Int},stepG C.P true a (w.at d)= .go g' w' es→
      Net C g0 n ws st D T ph'.deaf true q ((gs.map (woken C.P a g' w')).setIfInBounds 0 g') w' (t++MemOp.ofEvents 0 a.frame.fn a.frame.place es)→WgAt C.ty C.Wg w' b1 b2→ConcN.Mode n (fun i=>wd (D i)) ph'.tag b1 b2→CS C Anc An ph' f' T g' w'→
      (ph'= .anc→∀k,k<n→∀r,(D k).rel=some r→Knows (t++MemOp.ofEvents 0 a.frame.fn a.frame.place es) 0 r)→Lt2 (meas2 g0 n D q ph' f') (meas2 g0 n D q ph f)→Comes C.P (JoinedAt C Anc g0 n ws st) (crowd gs w sl) t:=
     fun hgo hN hwg' hm' hcs hacq' hlt=>.step (hst.trans (runT_crowd_go (i:=0) h0 hgo)) (ih _ hlt rfl ⟨hN,⟨_,_,hwg',hm'⟩,⟨_,zero_get (by omega),hcs⟩,hacq'⟩)
    have own:∀{f':Nat} {g':Goroutine} {w':World} {es:Array Event},ph≠ .blk→f'<f→stepG C.P true a (w.at d)= .go g' w' es→Guar true true T (w.at d) w' es→CS C Anc An ph f' T g' w'→Comes C.P (JoinedAt C Anc g0 n ws st) (crowd gs w sl) t:=by
     intro f' g' w' es hb hf hgo G hcs
     have hN:=N1.sown G a.frame.fn a.frame.place (g:=a) (g':=g')
     rw[G.still rfl,grow_same] at hN
     refine next hgo hN (wg_main G N1.lay.wgo hwg) hm hcs (fun e=>acq_app (H.acq e) _) (meas2_own (.inr ⟨rfl,?_⟩))
     cases ph<;>first|exact absurd rfl hb|(simp only[SPh.fuel];omega)
    have cell1:∀b:Bool,∀e∈ #[if b then rd (stA C.Wg) else wr (stA C.Wg)],Go.ConcR.Bk C.Wg e:=by
     intro b e he;simp at he;subst he;cases b<;>exact bk_cell' _ _ rfl
    have rdEv:∀e∈ #[rd (stA C.Wg)],Go.ConcR.Bk C.Wg e:=cell1 true
    have side0:(∀b,b≠C.Wg→(w.at d).heap[b]?=(w.at d).heap[b]?):=fun _ _=>rfl
    have stay:∀{T':Terr} {w':World},Guar true true T (w.at d) w' #[]→True:=fun _=>trivial
    cases ph with
    |kd=>
     rcases GoesN.at hC1 with hstop|⟨f',g',w',es,hf,_,hgo,G,hk'⟩
     ·obtain⟨_,g',hgo,m,hG⟩:=hstop _ (Rely.refl _ _ _)
      exact next (ph':=.an) (f':=m) hgo (N1.smark (m:=.disable) rfl trivial (by simp) (by simp[deafBehind,Go.ConcR.mk,SPh.deaf]) _ _) hwg (mode_open hm trivial trivial rfl fun vs e=>by cases e) hG (fun e=>by cases e) (meas2_own (.inl (by simp only[SPh.phi];omega)))
     ·exact own (by simp) (by omega) hgo G (GoesN.congrT hk' (by rw[G.still rfl,grow_same]))
    |an=>
     rcases GoesN.at hC1 with hstop|⟨f',g',w',es,hf,_,hgo,G,hk'⟩
     ·obtain⟨m,hG⟩:=hAnW _ _ _ (hstop _ back)
      exact ih _ (meas2_own (ph':=.w1) (f':=m) (.inl (by simp only[SPh.phi];omega))) rfl ⟨H.net,⟨a1,a2,hwg,mode_open hm trivial trivial rfl fun vs e=>by cases e⟩,⟨a,h0,hG⟩,fun e=>by cases e⟩
     ·exact own (by simp) (by omega) hgo G (GoesN.congrT hk' (by rw[G.still rfl,grow_same]))
    |w1=>
     rcases GoesN.at hC1 with hstop|⟨f',g',w',es,hf,_,hgo,G,hk'⟩
     ·obtain⟨_,hx⟩:=hstop _ (Rely.refl _ _ _)
      obtain⟨rfl,rfl,hO,_⟩:=mode_opn hm trivial
      simp only[SPh.tag,pend,Nat.add_zero] at hwg hm
      obtain⟨g',hgo,hz,hnz⟩:=hx _ (by omega) hwg
      obtain⟨hN,_⟩:=N1.satom (g:=a) (g':=g') (es:= #[rd (stA C.Wg)]) (dS':=1) hwg hwg side0 rfl rfl rfl rfl rdEv (by simp[deafBehind,rd,SPh.deaf]) a.frame.fn a.frame.place
      by_cases h0v:Vc n (fun i=>wd (D i))=0
      ·obtain⟨m,hG⟩:=hz h0v
       refine next (ph':=.ke) (f':=m) hgo hN hwg ?_ hG (fun e=>by cases e) (meas2_own (.inl (by simp only[SPh.phi];omega)))
       rw[h0v]
       have:=ConcN.Mode.fin (j:=n) (D:=fun i=>wd (D i)) (tag:=SPh.ke.tag) trivial (quit_of_none hO h0v)
       simpa using this
      ·obtain⟨m,hG⟩:=hnz h0v
       exact next (ph':=.w2 (Vc n fun i=>wd (D i))) (f':=m) hgo hN hwg (mode_open hm trivial trivial rfl fun vs e=>by cases e;omega) hG (fun e=>by cases e) (meas2_own (.inl (by simp only[SPh.phi];omega)))
     ·exact own (by simp) (by omega) hgo G (GoesN.congrT hk' (by rw[G.still rfl,grow_same]))
    |w2 vs=>
     rcases GoesN.at hC1 with hstop|⟨f',g',w',es,hf,_,hgo,G,hk'⟩
     ·obtain⟨_,hx⟩:=hstop _ (Rely.refl _ _ _)
      obtain⟨rfl,rfl,hO,hv⟩:=mode_opn hm trivial
      have hv':=hv vs rfl
      simp only[SPh.tag,pend,Nat.add_zero] at hwg hm
      obtain⟨heq,hne⟩:=hx _ (by omega) hwg
      by_cases e:Vc n (fun i=>wd (D i))=vs
      ·obtain⟨g',hgo,m,hG⟩:=heq e
       obtain⟨hs1,hs2,hs3,hs4,hs5⟩:=setCell_side (w:=w.at d) (v:=.int .u64 (((Vc n fun i=>wd (D i)):Nat)*KK+1)) (a:=stA C.Wg) (Wg:=C.Wg) rfl
       obtain⟨hN,_⟩:=N1.satom (g:=a) (g':=g') (es:= #[rd (stA C.Wg),wr (stA C.Wg)]) (dS':=1) hwg (WgAt.setSt hwg _) hs1 hs2 hs3 hs4 hs5 (by intro e he;simp at he;rcases he with rfl|rfl<;>exact bk_cell' _ _ rfl) (by simp[deafBehind,rd,wr,SPh.deaf]) a.frame.fn a.frame.place
       exact next (ph':=.ws) (f':=m) hgo hN (WgAt.setSt hwg _) (.reg trivial hO (by omega)) hG (fun e=>by cases e) (meas2_own (.inl (by simp only[SPh.phi];omega)))
      ·obtain⟨g',hgo,m,hG⟩:=hne e
       obtain⟨hN,_⟩:=N1.satom (g:=a) (g':=g') (es:= #[rd (stA C.Wg)]) (dS':=1) hwg hwg side0 rfl rfl rfl rfl rdEv (by simp[deafBehind,rd,SPh.deaf]) a.frame.fn a.frame.place
       exact next (ph':=.an) (f':=m) hgo hN hwg (mode_open hm trivial trivial rfl fun vs e=>by cases e) hG (fun e=>by cases e) (meas2_own (.inl (by simp only[SPh.phi];omega)))
     ·exact own (by simp) (by omega) hgo G (GoesN.congrT hk' (by rw[G.still rfl,grow_same]))
    |ws=>
     rcases GoesN.at hC1 with hstop|⟨f',g',w',es,hf,_,hgo,G,hk'⟩
     ·obtain⟨_,g',hgo,m,hG⟩:=hstop _ (Rely.refl _ _ _)
      exact next (ph':=.w3) (f':=m) hgo (N1.ssaid (.inr rfl) _ _) hwg hm hG (fun e=>by cases e) (meas2_own (.inl (by simp only[SPh.phi];omega)))
     ·exact own (by simp) (by omega) hgo G (GoesN.congrT hk' (by rw[G.still rfl,grow_same]))
    |w3=>
     rcases GoesN.at hC1 with hstop|⟨f',g',w',es,hf,_,hgo,G,hk'⟩
     ·obtain⟨_,_,hblk,hup⟩:=hstop _ (Rely.refl _ _ _)
      rcases mode_w3 hm trivial with⟨rfl,hmm⟩|⟨_,rfl,rfl,hAQ⟩
      ·have hgo:=hblk ⟨_,hwg⟩
       have G:Guar true true T (w.at d) (w.at d) #[]:=Guar.idle _ _ _ _ (by simp)
       have hN:=N1.sown G a.frame.fn a.frame.place (g:=a) (g':={a with status:=.blocked})
       rw[grow_same] at hN
       exact next (ph':=.blk) (f':=0) hgo hN hwg (hmm _ trivial) ⟨a,rfl,hstop⟩ (fun e=>by cases e) (meas2_own (.inr ⟨rfl,by simp[SPh.fuel]⟩))
      ·obtain⟨g',hgo,m,hG⟩:=hup hwg
       obtain⟨hs1,hs2,hs3,hs4,hs5⟩:=setCell_side (w:=w.at d) (v:=.int .u32 0) (a:=smA C.Wg) (Wg:=C.Wg) rfl
       obtain⟨hN,_⟩:=N1.satom (g:=a) (g':=g') (es:=semEvents (smA C.Wg)) (dS':=1) hwg (WgAt.setSm hwg 0) hs1 hs2 hs3 hs4 hs5 (by
        intro e he
        simp[semEvents] at he
        rcases he with rfl|rfl|rfl|rfl
        ·exact .inl rfl
        ·exact bk_cell' _ _ rfl
        ·exact bk_cell' _ _ rfl
        ·exact .inr (.inl rfl)) (by simp[deafBehind,semEvents,SPh.deaf]) a.frame.fn a.frame.place
       exact next (ph':=.w4) (f':=m) hgo hN (WgAt.setSm hwg 0) (.fin trivial hAQ) hG (fun e=>by cases e) (meas2_own (.inl (by simp only[SPh.phi];omega)))
     ·exact own (by simp) (by omega) hgo G (GoesN.congrT hk' (by rw[G.still rfl,grow_same]))
    |blk=>
     obtain⟨g,rfl,_⟩:=hCS
     cases hrun
    |w4=>
     rcases GoesN.at hC1 with hstop|⟨f',g',w',es,hf,_,hgo,G,hk'⟩
     ·obtain⟨_,hx⟩:=hstop _ (Rely.refl _ _ _)
      obtain⟨rfl,rfl,hAQ⟩:=mode_fin hm trivial
      obtain⟨g',hgo,m,hG⟩:=hx hwg
      obtain⟨hN,_⟩:=N1.satom (g:=a) (g':=g') (es:= #[rd (stA C.Wg)]) (dS':=1) hwg hwg side0 rfl rfl rfl rfl rdEv (by simp[deafBehind,rd,SPh.deaf]) a.frame.fn a.frame.place
      exact next (ph':=.ke) (f':=m) hgo hN hwg (.fin trivial hAQ) hG (fun e=>by cases e) (meas2_own (.inl (by simp only[SPh.phi];omega)))
     ·exact own (by simp) (by omega) hgo G (GoesN.congrT hk' (by rw[G.still rfl,grow_same]))
    |ke=>
     rcases GoesN.at hC1 with hstop|⟨f',g',w',es,hf,_,hgo,G,hk'⟩
     ·obtain⟨_,g',hgo,m,hG⟩:=hstop _ (Rely.refl _ _ _)
      obtain⟨rfl,rfl,hAQ⟩:=mode_fin hm trivial
      exact next (ph':=.acq) (f':=m) hgo (N1.smark (m:=.enable) rfl trivial (by simp) (by simp[deafBehind,Go.ConcR.mk,SPh.deaf]) _ _) hwg (.fin trivial hAQ) hG (fun e=>by cases e) (meas2_own (.inl (by simp only[SPh.phi];omega)))
     ·exact own (by simp) (by omega) hgo G (GoesN.congrT hk' (by rw[G.still rfl,grow_same]))
    |acq=>
     rcases GoesN.at hC1 with hstop|⟨f',g',w',es,hf,_,hgo,G,hk'⟩
     ·obtain⟨_,g',hgo,m,hG⟩:=hstop _ (Rely.refl _ _ _)
      obtain⟨rfl,rfl,hAQ⟩:=mode_fin hm trivial
      have hlow:(MemAct.mark (.acquire (stA C.Wg))).low (w.at d).heap.size:=N1.lay.sh _ (N1.lay.wg (stA C.Wg) rfl)
      refine next (ph':=.anc) (f':=m) hgo (N1.smark (m:=.acquire (stA C.Wg)) rfl hlow (by simp) (by simp[deafBehind,Go.ConcR.mk,SPh.deaf]) _ _) hwg (.fin trivial hAQ) hG (fun _ k hk r hr=>?_) (meas2_own (.inl (by simp only[SPh.phi];omega)))
      obtain⟨h1,h2⟩:=N1.tr.rel k hk r hr
      rw[ofEvents_one]
      exact acquire_knows (op:={g:=0,fn:=a.frame.fn,pos:=a.frame.place,act:=.mark (.acquire (stA C.Wg))}) h1 h2 N1.tr.norel N1.tr.deaf0 rfl (.inl rfl)
     ·exact own (by simp) (by omega) hgo G (GoesN.congrT hk' (by rw[G.still rfl,grow_same]))
    |anc=>
     rcases GoesN.at hC1 with hstop|⟨f',g',w',es,hf,_,hgo,G,hk'⟩
     ·obtain⟨hs,hA⟩:=hstop _ back
      obtain⟨_,_,hAQ⟩:=mode_fin hm trivial
      exact .here (joined H.net hq h0 hs hA hAQ (H.acq rfl) sl)
     ·exact own (by simp) (by omega) hgo G (GoesN.congrT hk' (by rw[G.still rfl,grow_same]))
   · -- the others
    refine .step hst ?_
    have hrel:=R.rely false fun e=>(by cases e)
    have hacq:∀{ph'},ph'=SPh.anc→ph= .anc→∀k,k<n→∀r,(D' k).rel=some r→Knows (t++ops) 0 r:=by
     intro ph' _ e k hk r hr
     subst e
     obtain⟨_,_,hAQ⟩:=mode_fin hm trivial
     rw[R.rel k hk (by have h1:kst (D k).pos=1:=hAQ k hk;omega)] at hr
     exact(H.acq rfl k hk r hr).app _
    by_cases hb:ph= .blk
    ·subst hb
     obtain⟨g1,rfl,hW⟩:=hCS
     obtain⟨hr1,ho1,_⟩:=hW w (Rely.refl _ _ _)
     by_cases hwk:(mayWake C.P g&&g'.status != .blocked&&g'.status != .waiting)=true
     ·refine ih _ (meas2_others (ph':=.w3) (f':=0) R.less R.cnt (.inr ⟨rfl,rfl,rfl⟩)) rfl ⟨R.net,⟨b1,b2,R.wg,R.mode _ (.inr ⟨rfl,rfl⟩) fun _ _ e=>by cases e⟩,⟨g1,?_,fun w₂ r₂=>hW w₂ (hrel.trans r₂)⟩,fun e=>by cases e⟩
      rw[R.zero]
      unfold woken
      rw[if_pos hwk]
      exact congrArg some (again_blocked hr1 ho1)
     ·refine ih _ (meas2_others (ph':=.blk) (f':=f) R.less R.cnt (.inl ⟨rfl,rfl⟩)) rfl ⟨R.net,⟨b1,b2,R.wg,R.mode _ (.inl rfl) fun h1 h2 _=>hwk (by simp[h1,h2])⟩,⟨_,?_,g1,rfl,fun w₂ r₂=>hW w₂ (hrel.trans r₂)⟩,fun e=>by cases e⟩
      rw[R.zero]
      unfold woken
      rw[if_neg hwk]
    ·have hra:=hCS.running hAn hb
     refine ih _ (meas2_others R.less R.cnt (.inl ⟨rfl,rfl⟩)) rfl ⟨R.net,⟨b1,b2,R.wg,R.mode _ (.inl rfl) fun _ _ e=>?_⟩,⟨a,by rw[R.zero,woken_run hra],hCS.rely hrel⟩,fun e=>hacq e e⟩
     cases ph<;>first|exact absurd rfl hb|cases e
   · -- a select finds quit closed
    rcases hBC with⟨M,s,x,s',z,hpos,_⟩|hC
    ·have hv:=H.net.view k hk
     simp only[VSit,hpos] at hv
     exact absurd (by rw[hv.1];trivial) (hq k hk)
    ·obtain⟨gs',e,ops,h1,h2,h3,h4,h5,s,h6⟩:=wquitC (H.net.at d) hk hg hC sl' fun x hx=>by
      rw[h0] at hx
      obtain rfl:=Option.some.inj hx
      exact⟨hoff _ _,hoff _ _⟩
     have hkp:kst (D k).pos=7:=by
      obtain⟨M,s,g1,hp,_⟩:=hC
      rcases hp with h|h<;>(rw[h];rfl)
     refine .step (hst.trans h1) (ih _ (meas2_others (ph':=ph) (f':=f) (meas_rank hk h5) (Nat.le_of_eq (vc_le_upd hk h4)) (.inl ⟨rfl,rfl⟩)) rfl ⟨h3,⟨a1,a2,hwg,mode_keep hm h4⟩,⟨a,h2.trans h0,hCS.rely (Rely.at _ _ _ _)⟩,fun e=>?_⟩)
     subst e
     obtain⟨_,_,hAQ⟩:=mode_fin hm trivial
     have h1:kst (D k).pos=1:=hAQ k hk
     omega
 intro D ph f q gs w sl t H
 exact key _ rfl H
end
end
section
open Go Go.Conc Go.ConcN
open Go.ConcR (KK WgAt stA smA rd wr wgBlock)
section
variable {σ:Type} {C:Fix σ} {g0 n:Nat} {ws:Nat→WV} {st:Nat→WState σ} {D:Nat→WDat σ} {T:Terr} {q:Nat→Nat} {gs:Array Goroutine} {w:World} {t:Trace} {sl:Option (Nat×Nat)} {d p:Nat} {g:Goroutine}
 {Anc:Nat→(Nat→WV)→(Nat→WState σ)→Goroutine→World→Prop}
theorem SW.joins(h:SW C Anc T d p n ws st g w)(H:P1 C g0 n ws st D T d p q gs w t)(h0:gs[0]?=some g):Comes C.P (fun m t=>∃n ws st,QuietS n st∧JoinedAt C (Anc n ws st) g0 n ws st m t) (crowd gs w sl) t:=by
 refine(h.comes H h0).bind fun m t hw=>?_
 obtain⟨n,ws,st,D,T,q,gs,w,sl,g,a1,a2,rfl,N,hg,hq,hn,hwg,hm,An,hAn,hAnW,m,hG⟩:=hw.at'
 refine(wait_comes (ph:=.kd) (f:=m) hAn hAnW hn hq ⟨N,⟨a1,a2,hwg,mode_open hm trivial trivial rfl fun vs e=>by cases e⟩,⟨g,hg,hG⟩,fun e=>by cases e⟩).bind fun m t h=>.here ⟨n,ws,st,hq,h⟩
def T0(C:Fix σ)(N:Nat):Terr:=⟨fun l=>l.low N∧¬C.Sh l,fun l=>l.low N∧¬C.Sh l∧l≠ .obj C.Wg∧l≠ .obj C.qc,fun _=>True⟩
theorem T0_rd{N:Nat}{l:Loc}:(T0 C N).rd l↔l.low N∧¬C.Sh l:=⟨fun h=>h.elim id fun h=>⟨h.1,h.2.1⟩,.inl⟩
theorem P1.start{Shun:Loc→Prop}{B:Nat}(hP:Past Shun B t)(hL:Leavers C.P t gs q)(hsz:0<gs.size)(hB:B≤C.Wg)(hBN:B≤w.heap.size)(hSh:C.Sh=fun l=>Shun l∨∃a,l= .cell a∧a.block=C.Wg)(hlow:∀l,Shun l→l.low w.heap.size)(hwg:WgAt C.ty C.Wg w 0 0)(hq:w.heap[C.qc]?=some (.chan 0 #[] false 0 0 false))(hR:∀l,C.R0 l→l.low w.heap.size∧¬C.Sh l∧l≠ .obj C.Wg∧l≠ .obj C.qc)(ws:Nat→WV)(st:Nat→WState σ)(D:Nat→WDat σ):
  P1 C gs.size 0 ws st D (T0 C w.heap.size) 0 0 q gs w t:=by
 have hwl:C.Wg<w.heap.size:=(Array.getElem?_eq_some_iff.1 hwg).1
 refine⟨⟨hsz,rfl,fun i g h1 _ hg=>hL.old i g h1 hg,hL.above,fun k hk=>by omega,fun k hk=>by omega,⟨fun l _ k hk=>by omega,fun k hk=>by omega,fun k hk=>by omega,fun l hl=>T0_rd.2 ⟨(hR l hl).1,(hR l hl).2.1⟩,fun l hl=>T0_rd.1 hl,fun k hk=>by omega,fun l hl=>?_,fun a ha=>?_,fun h=>h.2.2.1 rfl,fun h=>h.2.2.2 rfl,fun k hk=>by omega,fun k hk=>by omega,⟨fun h=>(hR _ h).2.2.1 rfl,fun h=>(hR _ h).2.2.2 rfl⟩,fun l _ hl hs=>.inl (T0_rd.2 ⟨hl,hs⟩),fun k hk=>by omega⟩,
  ⟨fun k hk=>by omega,fun k hk=>by omega,hq,fun k hk=>by omega⟩,⟨?_,quiet_ofPast hP hB,?_,hP.hears,fun k hk=>by omega,fun k hk=>by omega⟩,fun _=>trivial⟩,by simp[tagI,pend],⟨0,0,hwg,?_⟩,fun k hk=>by omega⟩
 ·rw[hSh] at hl
  rcases hl with hl|⟨a,rfl,ha⟩
  ·exact hlow l hl
  ·show a.block<_;omega
 ·rw[hSh];exact .inr ⟨a,rfl,ha⟩
 ·have H:=Shares.ofPast (B':=w.heap.size) (Wg:=C.Wg) hP hB hBN
  rw[←hSh] at H
  have H':Shares C.Sh (HoldOf C gs.size 0 ws D (T0 C w.heap.size)) w.heap.size (t++ #[]):=by
   refine H.pass (fun op h=>by simp at h) (fun op h=>by simp at h) (fun x l hx=>?_) (fun y l hy hx=>?_)
   ·rcases hx with⟨rfl,hx⟩|⟨k,hk,_⟩
    ·have h:=(T0_rd.1 hx).2
     rw[hSh] at h
     exact⟨.gor 0,⟨rfl,fun h'=>h (.inl h'),fun h'=>h (.inr h')⟩,fun i h=>h.app _⟩
    ·omega
   ·obtain⟨x,hx⟩:=hx
    refine⟨x,hx,fun i h=>?_⟩
    rcases hx with⟨rfl,_⟩|⟨k,hk,_⟩
    ·rw[hy.1] at h;exact h.app _
    ·omega
  rwa[Array.append_empty] at H'
 ·intro i h
  obtain⟨op,h1,h2⟩:=Option.map_eq_some_iff.1 h
  have:=hP.seen op (mem_of_getElem? h1)
  rw[h2] at this
  have:C.Wg<B:=this
  omega
 ·have:=ConcN.Mode.opn (j:=0) (D:=fun i=>wd (D i)) (tag:=tagI 0) trivial (fun i hi=>by omega) (fun vs e=>by cases e)
  simpa[tagI,pend,Vc,sumTo] using this
end
end
section
open Go Go.Conc Go.ConcN
section
variable {P:Program} {Shun:Loc→Prop} {T T':Terr} {g:Goroutine} {w:World} {q:Nat→Nat} {gs:Array Goroutine} {t:Trace} {sl:Option (Nat×Nat)} {Stop:Terr→Goroutine→World→Prop} {Q:Machine→Trace→Prop}
structure Rest(P:Program)(Shun:Loc→Prop)(gs:Array Goroutine)(w:World)(t:Trace):Prop where
 past:Past Shun w.heap.size t
 leave:∃q,Leavers P t gs q
 low:∀l,Shun l→l.low w.heap.size
theorem Rest.at(h:Rest P Shun gs w t)(d:Nat):Rest P Shun gs (w.at d) t:=⟨h.past,h.leave,h.low⟩
theorem evL_of{main na:Bool}{w':World}{es:Array Event}(G:Guar main na T w w' es)(hT:∀l,T.rd l→¬Shun l)(hlow:∀l,Shun l→l.low w.heap.size):∀e∈es,EvL Shun w'.heap.size e:=by
 intro e he
 have h:=G.evs e he
 refine⟨fun x hx hs=>?_,(evT_deaf h).1,(evT_deaf h).2,evT_low h⟩
 obtain⟨h1,_⟩:=evT_touch h hx
 rcases Terr.grow_rd.1 h1 with h1|h1
 ·exact absurd hs (hT _ h1)
 ·exact absurd h1 (not_fresh (hlow _ hs))
theorem GoesV.beside(h:GoesV P true true Stop T g w)(hstop:∀T g w,Stop T g w→(∀l,T.rd l→¬Shun l)→∀{gs sl t},Rest P Shun gs w t→gs[0]?=some g→Comes P Q (crowd gs w sl) t):
  (∀l,T.rd l→¬Shun l)→∀{gs sl t},Rest P Shun gs w t→gs[0]?=some g→Comes P Q (crowd gs w sl) t:=by
 induction h with
 |stop h=>
  intro hT gs sl t R h0
  exact hstop _ _ _ (h _ (Rely.refl _ _ _)) hT R h0
 |@step T g w G' W' E' hs hg _ ih=>
  intro hT
  have key:∀(M:Nat) {gs:Array Goroutine} {w₁:World} {sl:Option (Nat×Nat)} {t:Trace} {q:Nat→Nat},sumTo gs.size q=M→Rely true T w w₁→Past Shun w₁.heap.size t→Leavers P t gs q→(∀l,Shun l→l.low w₁.heap.size)→gs[0]?=some g→Comes P Q (crowd gs w₁ sl) t:=by
   intro M
   induction M using Nat.strongRecOn with
   |_ M ihM=>
    intro gs w₁ sl t q hM hr hP hL hlow h0
    subst hM
    have hlt:0<gs.size:=(Array.getElem?_eq_some_iff.1 h0).1
    have haw:∀x∈gs,awake x:=by
     intro x hx
     obtain⟨i,hi,rfl⟩:=Array.mem_iff_getElem.1 hx
     rcases Nat.eq_zero_or_pos i with rfl|hpos
     ·have:gs[0]=g:=by simpa[Array.getElem?_eq_getElem hi] using h0
      rw[this];exact awake_of (.inl hs)
     ·exact awake_of ((hL.old i _ hpos (Array.getElem?_eq_getElem hi)).status.elim .inl fun x=>.inr (.inr x))
    obtain⟨i,x,d,sl',hi,hx,hst⟩:=crowd_pick (P:=P) (w:=w₁) (sl:=sl) haw ⟨0,g,h0,hs⟩
    have hr':=hr.trans (Rely.at true T w₁ d)
    rcases Nat.eq_zero_or_pos i with rfl|hpos
    ·obtain rfl:x=g:=by rw[h0] at hi;exact(Option.some.inj hi).symm
     obtain⟨hgo,G⟩:=hg (w₁.at d) hr'
     have hrunT:=runT_crowd_go (P:=P) (sl:=sl') (i:=0) hi (show stepG P (0==0) x (w₁.at d)=_ from hgo)
     have hu:∀op∈MemOp.ofEvents 0 x.frame.fn x.frame.place (E' (w₁.at d)),op.g=0:=fun op hop=>by obtain⟨e,_,rfl⟩:=Conc.mem_ofEvents hop;rfl
     refine .step (hst.trans hrunT) (ih (w₁.at d) hr' (fun l hl hsh=>?_) ⟨(hP.mono G.size).own (evL_of G hT hlow),⟨q,⟨fun j y hj hy=>?_,fun j hj=>?_⟩⟩,fun l hl=>Loc.low_mono G.size (hlow l hl)⟩ (gs_same _ _ hlt))
     ·rcases Terr.grow_rd.1 hl with h|h
      ·exact hT l h hsh
      ·exact not_fresh (hlow l hsh) h
     ·have hne:0≠j:=by omega
      rw[Array.getElem?_setIfInBounds_ne hne,Array.getElem?_map] at hy
      obtain⟨z,hz,rfl⟩:=Option.map_eq_some_iff.1 hy
      have hq:=hL.old j z hj hz
      rw[woken_quitsD hq,Deaf_other t (by omega) _ hu]
      exact hq
     ·rw[Deaf_other t (g':=0) (by simp at hj;omega) _ hu]
      exact hL.above j (by simpa using hj)
    ·have hq:=hL.old i x hpos hi
     have hi0:(i==0)=false:=by simp;omega
     have hil:i<gs.size:=(Array.getElem?_eq_some_iff.1 hi).1
     cases hqi:q i with
     |zero=>rw[hqi] at hq;rw[hq.1] at hx;cases hx
     |succ k=>
      rw[hqi] at hq
      rcases hq with⟨hf,_⟩|⟨_,x',es,hm,hstp,hq'⟩
      ·rw[hf] at hx;cases hx
      have hrunT:=runT_crowd_go (P:=P) (sl:=sl') (i:=i) hi (by rw[hi0];exact hstp (w₁.at d))
      have hu:∀op∈MemOp.ofEvents i x.frame.fn x.frame.place es,op.g=i:=fun op hop=>by obtain⟨e,_,rfl⟩:=Conc.mem_ofEvents hop;rfl
      have hsz:((gs.map (woken P x x' (w₁.at d))).setIfInBounds i x').size=gs.size:=by simp
      have hsum:sumTo gs.size (upd q i k)+(k+1)=sumTo gs.size q+k:=by
       have:=sumTo_upd q k id hil
       simpa[hqi] using this
      refine .step (hst.trans hrunT) (ihM _ (by rw[hsz];omega) (q:=upd q i k) rfl hr' (hP.mute (by omega) hm) ⟨fun j y hj hy=>?_,fun j hj=>?_⟩ hlow ?_)
      ·by_cases hji:i=j
       ·subst hji
        rw[gs_same _ _ hil] at hy
        obtain rfl:=Option.some.inj hy
        rw[upd_same,Deaf_own]
        exact hq'
       ·rw[gs_new _ _ hji] at hy
        obtain⟨z,hz,rfl⟩:=Option.map_eq_some_iff.1 hy
        have hqj:=hL.old j z hj hz
        rw[woken_quitsD hqj,upd_ne q k (Ne.symm hji),Deaf_other t hji _ hu]
        exact hqj
      ·rw[Deaf_other t (g':=i) (by simp at hj;omega) _ hu]
       exact hL.above j (by simpa using hj)
      ·rw[gs_new _ _ (by omega),h0]
       simp[woken_run hs]
  intro gs sl t R h0
  obtain⟨q,hL⟩:=R.leave
  exact key _ rfl (Rely.refl _ _ _) R.past hL R.low h0
theorem comes_ends{B:Nat}{Post:Value→World→Prop}{m:Machine}(h:Comes P (fun m t=>∃gs w sl g Shun,m=crowd gs w sl∧gs[0]?=some g∧Rest P Shun gs w t∧∀d,AtEnd P Shun w.heap.size Post g (w.at d)) m t):
  ∃N last o w' t',runNT P (N+1) m t=(.ended o w',t')∧runN P N m= .next last∧step P last= .ended o w'∧Conc.Good P Post last o w' t':=by
 induction h with
 |here h=>
  obtain⟨gs,w,sl,g,Shun,rfl,h0,R,hE⟩:=h
  obtain⟨q,hL⟩:=R.leave
  exact beside_ends (Shun:=Shun) (B:=w.heap.size) (D:=fun _ _ es=>∀e∈es,EvL Shun w.heap.size e) (fun _ _ _ h=>h) (n:=0) h0 hL R.past fun w₁ ⟨d,e⟩=>e▸hE d
 |step h _ ih=>
  obtain⟨N,last,o,w',t',h1,h2,h3,h4⟩:=ih
  exact⟨N+1,last,o,w',t',by rw[runNT_succ_next h];exact h1,by rw[runN_succ_next h];exact h2,h3,h4⟩
theorem rest_nil(g:Goroutine)(w:World):Rest P (fun _=>False) #[g] w #[]:=⟨past_nil.mono (Nat.zero_le _),⟨_,leavers_one P g⟩,fun _ h=>h.elim⟩
end
end
end Go.Side
