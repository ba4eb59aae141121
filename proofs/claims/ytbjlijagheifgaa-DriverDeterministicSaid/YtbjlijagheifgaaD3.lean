/-
  Texts of Ytbjlijagheifgaa, merged.
-/
import Derived.Test.YtbjlijagheifgaaD2
import Derived.Conc.WrBase2
import Derived.Conc.CrowdBase
set_option linter.unusedSimpArgs false
set_option linter.unusedVariables false
namespace Go.Side
section
open Go Go.Conc Go.ConcN
open Go.ConcR (KK WgAt stA smA rd wr mk)
theorem Shares.congr{Sh:Loc→Prop}{Hold Hold':Who→Loc→Prop}{B:Nat}{t:Trace}(H:Shares Sh Hold B t)(h:∀x l,Hold' x l↔Hold x l):Shares Sh Hold' B t:=by
 have:Hold'=Hold:=funext fun x=>funext fun l=>propext (h x l)
 rw[this];exact H
theorem low_of_fresh{N N':Nat}{l:Loc}(h:Fresh N N' l):l.low N':=by
 cases l<;>first|exact h.2|exact h.elim
theorem low_or_fresh{N N':Nat}{l:Loc}(hm:l.isMemory=true)(h:l.low N'):l.low N∨Fresh N N' l:=by
 cases l with
 |cell a=>exact(Nat.lt_or_ge a.block N).imp id fun x=>⟨x,h⟩
 |obj r=>exact(Nat.lt_or_ge r N).imp id fun x=>⟨x,h⟩
 |_=>exact .inl trivial
theorem fresh_not{N N':Nat}{l:Loc}(h:l.low N):¬Fresh N N' l:=not_fresh h
section
variable {σ:Type} {C:Fix σ} {g0 n:Nat} {ws:Nat→WV} {st:Nat→WState σ} {D:Nat→WDat σ} {T:Terr} {dS:Nat} {qcl:Bool} {q:Nat→Nat} {gs:Array Goroutine} {w w':World} {t:Trace} {k:Nat}
theorem wterr_rd{v:WV}{d:WDat σ}{l:Loc}(h:(wterr C v d).rd l):v.ck l∨C.R0 l∨d.wr l:=by
 unfold wterr at h
 split at h
 ·rcases h with(h|h)|h
  ·exact .inl h
  ·exact .inr (.inl h)
  ·exact .inr (.inr h)
 ·rcases h with h|h
  ·exact .inl h
  ·exact .inr (.inr h)
 ·rcases h with h|h
  ·exact .inl h
  ·exact .inr (.inr h)
 ·rcases h with h|h
  ·exact .inr (.inr h.2)
  ·exact h.elim
 ·rcases h with h|h
  ·exact .inl h
  ·exact .inr (.inr h)
theorem wterr_wr{v:WV}{d:WDat σ}{l:Loc}(h:(wterr C v d).wr l):d.wr l:=by
 unfold wterr at h
 split at h
 ·exact h
 ·exact h
 ·exact h
 ·exact h.elim
 ·exact h
theorem Lay.wlow(L:Lay C n ws D T w)(hk:k<n){l:Loc}(h:(wterr C (ws k) (D k)).rd l):l.low w.heap.size:=by
 rcases wterr_rd h with h|h|h
 ·exact(L.low _ (L.ck k hk _ h)).1
 ·exact(L.low _ (L.r0 _ h)).1
 ·exact(L.lowW k hk _ h).1
theorem Lay.rely0(L:Lay C n ws D T w)(hk:k<n){na:Bool}{es:Array Event}(G:Guar false na (wterr C (ws k) (D k)) w w' es):Rely na T w w':=by
 refine rely_of_guar G (fun l hl hw=>?_) (fun a ha=>(L.low _ ha).1) (fun b _ e=>by cases e) (fun e=>⟨rfl,e⟩) fun e=>by cases e
 exact(L.dW k hk l (wterr_wr hw)).1 hl
theorem Lay.relyW(L:Lay C n ws D T w)(hk:k<n){na:Bool}{es:Array Event}(G:Guar false na (wterr C (ws k) (D k)) w w' es){j:Nat}(hj:j<n)(hne:j≠k):Rely false (wterr C (ws j) (D j)) w w':=by
 refine rely_of_guar G (fun l hl hw=>?_) (fun a ha=>L.wlow hj ha) (fun b _ e=>by cases e) (fun e=>by cases e) fun e=>by cases e
 have:=L.dW k hk l (wterr_wr hw)
 rcases wterr_rd hl with h|h|h
 ·exact(this.2.2.2 j hj hne).1 h
 ·exact this.2.1 h
 ·exact(this.2.2.2 j hj hne).2 h
theorem upd_eq{α:Type}(f:Nat→α)(i:Nat)(x:α):upd f i x i=x:=by simp[upd]
theorem upd_other{α:Type}(f:Nat→α){i j:Nat}(x:α)(h:j≠i):upd f i x j=f j:=by simp[upd,h]
theorem Lay.grow(L:Lay C n ws D T w)(hk:k<n)(hs:w.heap.size≤w'.heap.size){d:WDat σ}(hsh:d.sh≠none→(D k).sh≠none)(hwr:d.wr=fun l=>(D k).wr l∨Fresh w.heap.size w'.heap.size l):Lay C n ws (upd D k d) T w':=by
 have mono:∀{l:Loc},l.low w.heap.size→l.low w'.heap.size:=fun h=>Loc.low_mono hs h
 refine⟨fun l hl j hj=>?_,fun j hj l hl=>?_,L.ck,L.r0,fun l hl=>⟨mono (L.low l hl).1,(L.low l hl).2⟩,fun j hj l hl=>?_,fun l hl=>mono (L.sh l hl),L.wg,L.wgo,L.qco,L.cks,L.ckr,L.r0n,fun l hm hl hs'=>?_,fun j hj=>?_⟩
 ·have h:=L.dS l hl j hj
  have hlow:=(L.low l (.inr hl)).1
  by_cases e:j=k
  ·subst e
   rw[upd_eq,hwr]
   exact⟨h.1,fun x=>x.elim h.2.1 (fresh_not hlow),fun x=>h.2.2 (hsh x)⟩
  ·rw[upd_other _ _ e];exact h
 ·by_cases e:j=k
  ·subst e
   rw[upd_eq,hwr] at hl
   rcases hl with hl|hl
   ·have h:=L.dW j hj l hl
    exact⟨h.1,h.2.1,h.2.2.1,fun k' hk' hne=>by rw[upd_other _ _ hne];exact h.2.2.2 k' hk' hne⟩
   ·refine⟨fun x=>fresh_not (L.low l x).1 hl,fun x=>fresh_not (L.low l (L.r0 l x)).1 hl,fun x=>fresh_not (L.low l (L.ck j hj l x)).1 hl,fun k' hk' hne=>?_⟩
    rw[upd_other _ _ hne]
    exact⟨fun x=>fresh_not (L.low l (L.ck k' hk' l x)).1 hl,fun x=>fresh_not (L.lowW k' hk' l x).1 hl⟩
  ·rw[upd_other _ _ e] at hl
   have h:=L.dW j hj l hl
   refine⟨h.1,h.2.1,h.2.2.1,fun k' hk' hne=>?_⟩
   have h':=h.2.2.2 k' hk' hne
   by_cases e':k'=k
   ·subst e'
    rw[upd_eq,hwr]
    exact⟨h'.1,fun x=>x.elim h'.2 (fresh_not (L.lowW j hj l hl).1)⟩
   ·rw[upd_other _ _ e'];exact h'
 ·by_cases e:j=k
  ·subst e
   rw[upd_eq,hwr] at hl
   rcases hl with hl|hl
   ·exact⟨mono (L.lowW j hj l hl).1,(L.lowW j hj l hl).2⟩
   ·exact⟨low_of_fresh hl,fun hsx=>fresh_not (L.sh l hsx) hl⟩
  ·rw[upd_other _ _ e] at hl
   exact⟨mono (L.lowW j hj l hl).1,(L.lowW j hj l hl).2⟩
 ·rcases low_or_fresh hm hl (N:=w.heap.size) with h|h
  ·rcases L.cov l hm h hs' with h|⟨j,hj,h⟩
   ·exact .inl h
   ·refine .inr ⟨j,hj,?_⟩
    by_cases e:j=k
    ·subst e;rw[upd_eq,hwr];exact .inl h
    ·rw[upd_other _ _ e];exact h
  ·exact .inr ⟨k,hk,by rw[upd_eq,hwr];exact .inr h⟩
 ·by_cases e:j=k
  ·subst e;rw[upd_eq,hwr];exact .inl (L.bxo j hj)
  ·rw[upd_other _ _ e];exact L.bxo j hj
theorem Chans.guar{na:Bool}{Tk:Terr}{es:Array Event}(H:Chans C n ws D qcl w)(G:Guar false na Tk w w' es){d:WDat σ}(hp':isShut d.pos=isShut (D k).pos):Chans C n ws (upd D k d) qcl w':=by
 have st:∀{c cap s r:Nat} {buf:Array Value} {cl tm:Bool},w.heap[c]?=some (.chan cap buf cl s r tm)→w'.heap[c]?=some (.chan cap buf cl s r tm):=fun{c cap s r buf cl tm} h=>by
  obtain⟨o',h1,_,h2⟩:=G.kin rfl _ _ h
  rw[h1,h2 fun _ _ _=>by simp]
 refine⟨fun j hj=>?_,fun j hj=>(H.an j hj).imp fun r h=>st h,st H.qc,H.ne⟩
 obtain⟨r,h⟩:=H.of j hj
 refine⟨r,st ?_⟩
 rw[h]
 by_cases e:j=k
 ·subst e
  rw[upd_eq,hp']
 ·rw[upd_other _ _ e]
theorem gs_new{i j:Nat}(f:Goroutine→Goroutine)(x:Goroutine)(h:i≠j):((gs.map f).setIfInBounds i x)[j]?=(gs[j]?).map f:=by
 rw[Array.getElem?_setIfInBounds_ne h,Array.getElem?_map]
theorem gs_same{i:Nat}(f:Goroutine→Goroutine)(x:Goroutine)(h:i<gs.size):((gs.map f).setIfInBounds i x)[i]?=some x:=by
 rw[Array.getElem?_setIfInBounds_self_of_lt (by simpa using h)]
theorem Net.others(N:Net C g0 n ws st D T dS qcl q gs w t)(hk:k<n){g g':Goroutine}{d:WDat σ}(hch:Chans C n ws (upd D k d) qcl w')(hr:∀j,j<n→j≠k→Rely false (wterr C (ws j) (D j)) w w')(hsit:WSit C qcl (ws k) d g' w'):
  ∀j,j<n→∃x,((gs.map (woken C.P g g' w')).setIfInBounds (g0+k) g')[g0+j]?=some x∧WSit C qcl (ws j) (upd D k d j) x w':=by
 intro j hj
 by_cases e:j=k
 ·subst e
  refine⟨g',gs_same _ _ (by rw[N.size];omega),by rw[upd_eq];exact hsit⟩
 ·obtain⟨x,hx,hs⟩:=N.sit j hj
  rw[upd_other _ _ e]
  refine⟨woken C.P g g' w' x,by rw[gs_new _ _ (by omega),hx];rfl,WSit.rely (WSit.woken hs (fun hf=>?_) fun hq=>⟨hch.an j hj,0,hq▸hch.qc⟩) (hr j hj e)⟩
  obtain⟨r,h⟩:=hch.of j hj
  rw[upd_other _ _ e] at h
  refine⟨r,h.trans ?_⟩
  cases hp:(D j).pos with
  |fin x s b=>exact absurd hp (hf x s b)
  |_=>rfl
theorem Net.olds(N:Net C g0 n ws st D T dS qcl q gs w t)(hk:k<n){g g':Goroutine}{u:Trace}(hu:∀op∈u,op.g=g0+k):
  ∀(i:Nat) (x:Goroutine),0<i→i<g0→((gs.map (woken C.P g g' w')).setIfInBounds (g0+k) g')[i]?=some x→QuitsD C.P (q i) (Deaf (t++u) i) x:=by
 intro i x h1 h2 hx
 rw[gs_new _ _ (by omega)] at hx
 obtain⟨y,hy,rfl⟩:=Option.map_eq_some_iff.1 hx
 have hq:=N.old i y h1 h2 hy
 rw[woken_quitsD hq,Deaf_other t (by omega) u hu]
 exact hq
theorem Net.aboves(N:Net C g0 n ws st D T dS qcl q gs w t)(hk:k<n){f:Goroutine→Goroutine}{g':Goroutine}{u:Trace}(hu:∀op∈u,op.g=g0+k):
  ∀j,((gs.map f).setIfInBounds (g0+k) g').size≤j→Deaf (t++u) j=0:=by
 intro j hj
 have hs:=N.size
 simp only[Array.size_setIfInBounds,Array.size_map] at hj
 rw[Deaf_other t (by omega) u hu]
 exact N.above j hj
theorem VSit.same{gk:Nat}{vw:WState σ}{d d':WDat σ}{v:WV}(h:VSit C gk vw d t v)(h1:d'.pos=d.pos)(h2:d'.sh=d.sh)(h3:d'.rel=d.rel):VSit C gk vw d' t v:=by
 obtain⟨pos,fuel,deaf,wr,sh,rel⟩:=d
 obtain⟨pos',fuel',deaf',wr',sh',rel'⟩:=d'
 simp only at h1 h2 h3
 subst h1;subst h2;subst h3
 exact h
theorem norel_of_evT{Tk:Terr}{N:Nat}{es:Array Event}(h:∀e∈es,EvT Tk N e){g:Nat}{fn:FuncId}{pos:String}{a:Addr}:∀op∈MemOp.ofEvents g fn pos es,op.act≠ .mark (.release a):=by
 intro op hop e0
 obtain⟨e,he,rfl⟩:=Conc.mem_ofEvents hop
 have:=h e he
 obtain⟨l,wr,sy⟩:=e
 cases l with
 |mark m=>have hm:m= .noRoom:=this;subst hm;cases e0
 |cell a=>cases wr<;>cases sy<;>cases e0
 |obj r=>cases wr<;>cases sy<;>cases e0
 |_=>exact this.elim
theorem Net.wown(N:Net C g0 n ws st D T dS qcl q gs w t)(hk:k<n){g g':Goroutine}{es:Array Event}{na:Bool}(hrel:(D k).rel=none)(G:Guar false na (wterr C (ws k) (D k)) w w' es)(f:Nat)(hsit:WSit C qcl (ws k) {D k with fuel:=f,wr:=fun l=>(D k).wr l∨Fresh w.heap.size w'.heap.size l} g' w')(fn:FuncId)(pos:String):
  Net C g0 n ws st (upd D k {D k with fuel:=f,wr:=fun l=>(D k).wr l∨Fresh w.heap.size w'.heap.size l}) T dS qcl q ((gs.map (woken C.P g g' w')).setIfInBounds (g0+k) g') w' (t++MemOp.ofEvents (g0+k) fn pos es)∧Rely na T w w':=by
 have hu:∀op∈MemOp.ofEvents (g0+k) fn pos es,op.g=g0+k:=fun op hop=>by obtain⟨e,_,rfl⟩:=Conc.mem_ofEvents hop;rfl
 have hr0:=N.lay.rely0 hk G
 generalize hd:({D k with fuel:=f,wr:=fun l=>(D k).wr l∨Fresh w.heap.size w'.heap.size l}:WDat σ)=d at hsit
 have e1:d.pos=(D k).pos:=by rw[←hd]
 have e2:d.sh=(D k).sh:=by rw[←hd]
 have e3:d.rel=(D k).rel:=by rw[←hd]
 have e4:d.deaf=(D k).deaf:=by rw[←hd]
 have e5:d.wr=fun l=>(D k).wr l∨Fresh w.heap.size w'.heap.size l:=by rw[←hd]
 have hch:=N.chans.guar (d:=d) G (by rw[e1])
 have hlay:=N.lay.grow (d:=d) (w':=w') hk G.size (by rw[e2];exact id) e5
 have hp:=N.pos
 have hdeaf:Deaf (t++MemOp.ofEvents (g0+k) fn pos es) (g0+k)=Deaf t (g0+k):=by
  rw[Deaf_own]
  exact deafBehind_still (fun e he=>evT_deaf (G.evs e he)) _
 have hrd:∀l,(wterr C (ws k) (D k)).rd l→¬C.Sh l:=fun l hl=>by
  rcases wterr_rd hl with h|h|h
  ·exact(N.lay.low _ (N.lay.ck k hk _ h)).2
  ·exact(N.lay.low _ (N.lay.r0 _ h)).2
  ·exact(N.lay.lowW k hk _ h).2
 refine⟨⟨hp,by simpa using N.size,N.olds hk hu,N.aboves hk hu,N.others hk hch (fun j hj e=>N.lay.relyW hk G hj e) hsit,fun j hj=>?_,hlay,hch,⟨?_,?_,N.tr.norel.app (norel_of_evT G.evs),?_,fun j hj=>?_,fun j hj r hr=>?_⟩,N.kn⟩,hr0⟩
 ·by_cases e:j=k
  ·subst e;rw[upd_eq];exact(VSit.app (N.view j hj)).same e1 e2 e3
  ·rw[upd_other _ _ e];exact VSit.app (N.view j hj)
 · -- shares
  have hshold:∀l,(wterr C (ws k) (D k)).rd l→HoldOf C g0 n ws D T (.gor (g0+k)) l:=fun l hl=>by
   have hwho:who (g0+k) (D k)= .gor (g0+k):=by simp[who,hrel]
   have hv:=N.view k hk
   unfold wterr at hl
   split at hl
   ·rename_i N' s hpos
    rcases hl with(h|h)|h
    ·exact .inr ⟨k,hk,.inl ⟨hwho.symm,.inl h⟩⟩
    ·refine .inr ⟨k,hk,.inr ⟨?_,h⟩⟩
     simp only[VSit,hpos] at hv
     exact hv.2.1
    ·exact .inr ⟨k,hk,.inl ⟨hwho.symm,.inr h⟩⟩
   ·exact .inr ⟨k,hk,.inl ⟨hwho.symm,hl⟩⟩
   ·exact .inr ⟨k,hk,.inl ⟨hwho.symm,hl⟩⟩
   ·rcases hl with h|h
    ·exact .inr ⟨k,hk,.inl ⟨hwho.symm,.inr h.2⟩⟩
    ·exact h.elim
   ·exact .inr ⟨k,hk,.inl ⟨hwho.symm,hl⟩⟩
  have hsole:∀l,(wterr C (ws k) (D k)).wr l→∀x,HoldOf C g0 n ws D T x l→x= .gor (g0+k):=fun l hl x hx=>by
   have h:=N.lay.dW k hk l (wterr_wr hl)
   rcases hx with⟨_,hx⟩|⟨j,hj,⟨hx,h'⟩|⟨_,hx⟩⟩
   ·exact absurd hx h.1
   ·by_cases e:j=k
    ·subst e;rw[hx];simp[who,hrel]
    ·rcases h' with h'|h'
     ·exact absurd h' (h.2.2.2 j hj e).1
     ·exact absurd h' (h.2.2.2 j hj e).2
   ·exact absurd hx h.2.1
  have hdom:∀x l,HoldOf C g0 n ws D T x l→l.low w.heap.size:=fun x l hx=>by
   rcases hx with⟨_,hx⟩|⟨j,hj,⟨_,h'|h'⟩|⟨_,hx⟩⟩
   ·exact(N.lay.low _ hx).1
   ·exact(N.lay.low _ (N.lay.ck j hj _ h')).1
   ·exact(N.lay.lowW j hj _ h').1
   ·exact(N.lay.low _ (N.lay.r0 _ hx)).1
  refine(N.tr.shares.step (g:=g0+k) G (fun l hl=>⟨hshold l hl,hrd l hl⟩) hsole hdom N.lay.sh fn pos).congr fun x l=>?_
  constructor
  ·rintro(hx|⟨j,hj,hx⟩)
   ·exact .inl (.inl hx)
   ·by_cases e:j=k
    ·subst e
     rw[upd_eq] at hx
     rcases hx with⟨hx,h'|h'⟩|⟨hx,h'⟩
     ·exact .inl (.inr ⟨j,hj,.inl ⟨by rw[hx];simp[who,e3],.inl h'⟩⟩)
     ·rw[e5] at h'
      rcases h' with h'|h'
      ·exact .inl (.inr ⟨j,hj,.inl ⟨by rw[hx];simp[who,e3],.inr h'⟩⟩)
      ·exact .inr ⟨by rw[hx];simp[who,e3,hrel],h'⟩
     ·exact .inl (.inr ⟨j,hj,.inr ⟨by rw[←e2];exact hx,h'⟩⟩)
    ·rw[upd_other _ _ e] at hx
     exact .inl (.inr ⟨j,hj,hx⟩)
  ·rintro((hx|⟨j,hj,hx⟩)|⟨hx,h'⟩)
   ·exact .inl hx
   ·refine .inr ⟨j,hj,?_⟩
    by_cases e:j=k
    ·subst e
     rw[upd_eq,e5,e2]
     rcases hx with⟨hx,h'|h'⟩|hx
     ·exact .inl ⟨by rw[hx];simp[who,e3],.inl h'⟩
     ·exact .inl ⟨by rw[hx];simp[who,e3],.inr (.inl h')⟩
     ·exact .inr hx
    ·rw[upd_other _ _ e];exact hx
   ·refine .inr ⟨k,hk,.inl ⟨?_,.inr ?_⟩⟩
    ·rw[upd_eq,hx];simp[who,e3,hrel]
    ·rw[upd_eq,e5];exact .inr h'
 · -- quiet
  refine N.tr.quiet.app fun op hop x hx hs=>?_
  obtain⟨e,he,rfl⟩:=Conc.mem_ofEvents hop
  obtain⟨h1,_⟩:=evT_touch (G.evs e he) hx
  obtain⟨a,ha,hb⟩:=hs
  rw[Terr.grow_rd] at h1
  have hsh:=N.lay.wg a hb
  rw[←ha] at hsh
  rcases h1 with h1|h1
  ·exact absurd hsh (hrd _ h1)
  ·exact absurd h1 (fresh_not (N.lay.sh _ hsh))
 ·rw[Deaf_other t (by omega) _ hu];exact N.tr.deaf0
 ·by_cases e:j=k
  ·subst e;rw[upd_eq,e4,hdeaf];exact N.tr.deafW j hj
  ·rw[upd_other _ _ e,Deaf_other t (by omega) _ hu];exact N.tr.deafW j hj
 ·have:(D j).rel=some r:=by
   by_cases e:j=k
   ·subst e;rw[upd_eq,e3] at hr;exact hr
   ·rw[upd_other _ _ e] at hr;exact hr
  obtain⟨h1,h2⟩:=N.tr.rel j hj r this
  exact⟨by rw[act?_old (lt_of_act? h1)];exact h1,(heard_old (lt_of_act? h1)).2 h2⟩
end
end
section
open Go Go.Conc Go.ConcN
open Go.ConcR (KK WgAt stA smA rd wr mk)
section
variable {σ:Type} {C:Fix σ} {g0 n:Nat} {ws:Nat→WV} {st:Nat→WState σ} {D:Nat→WDat σ} {T:Terr} {dS:Nat} {qcl:Bool} {q:Nat→Nat} {gs:Array Goroutine} {w w':World} {t u:Trace} {k:Nat}
theorem Net.put(N:Net C g0 n ws st D T dS qcl q gs w t)(hk:k<n){g g':Goroutine}{d:WDat σ}(hu:∀op∈u,op.g=g0+k)(hch:Chans C n ws (upd D k d) qcl w')(hlay:Lay C n ws (upd D k d) T w')(hsh:Shares C.Sh (HoldOf C g0 n ws (upd D k d) T) w'.heap.size (t++u))(hq:Quiet (fun l=>∃a,l= .cell a∧a.block=C.Wg) (t++u))(hnr:NoRelease (stA C.Wg) (t++u))(hdf:Deaf (t++u) (g0+k)=d.deaf)(hr:∀j,j<n→j≠k→Rely false (wterr C (ws j) (D j)) w w')(hsit:WSit C qcl (ws k) d g' w')(hv:VSit C (g0+k) (st k) d (t++u) (ws k))(hrel:∀r,d.rel=some r→(t++u).act? r=some (.mark (.releaseMerge (stA C.Wg)))∧(t++u).heard r):
  Net C g0 n ws st (upd D k d) T dS qcl q ((gs.map (woken C.P g g' w')).setIfInBounds (g0+k) g') w' (t++u):=by
 have hp:=N.pos
 refine⟨hp,by simpa using N.size,N.olds hk hu,N.aboves hk hu,N.others hk hch hr hsit,fun j hj=>?_,hlay,hch,⟨hsh,hq,hnr,?_,fun j hj=>?_,fun j hj r hr'=>?_⟩,N.kn⟩
 ·by_cases e:j=k
  ·subst e;rw[upd_eq];exact hv
  ·rw[upd_other _ _ e];exact VSit.app (N.view j hj)
 ·rw[Deaf_other t (by omega) _ hu];exact N.tr.deaf0
 ·by_cases e:j=k
  ·subst e;rw[upd_eq,hdf]
  ·rw[upd_other _ _ e,Deaf_other t (by omega) _ hu];exact N.tr.deafW j hj
 ·by_cases e:j=k
  ·subst e;rw[upd_eq] at hr';exact hrel r hr'
  ·rw[upd_other _ _ e] at hr'
   obtain⟨h1,h2⟩:=N.tr.rel j hj r hr'
   exact⟨by rw[act?_old (lt_of_act? h1)];exact h1,(heard_old (lt_of_act? h1)).2 h2⟩
theorem Lay.same(L:Lay C n ws D T w)(hs:w'.heap.size=w.heap.size){d:WDat σ}(hw:d.wr=(D k).wr)(hsh:d.sh≠none→(D k).sh≠none):Lay C n ws (upd D k d) T w':=by
 have ew:∀j,(upd D k d j).wr=(D j).wr:=fun j=>by
  by_cases e:j=k
  ·subst e;rw[upd_eq,hw]
  ·rw[upd_other _ _ e]
 have es:∀j,(upd D k d j).sh≠none→(D j).sh≠none:=fun j h=>by
  by_cases e:j=k
  ·subst e;rw[upd_eq] at h;exact hsh h
  ·rw[upd_other _ _ e] at h;exact h
 refine⟨fun l hl j hj=>?_,fun j hj l hl=>?_,L.ck,L.r0,fun l hl=>by rw[hs];exact L.low l hl,fun j hj l hl=>?_,fun l hl=>by rw[hs];exact L.sh l hl,L.wg,L.wgo,L.qco,L.cks,L.ckr,L.r0n,fun l hm hl hs'=>(L.cov l hm (by rw[←hs];exact hl) hs').imp id fun⟨j,hj,h⟩=>⟨j,hj,by rw[ew];exact h⟩,fun j hj=>by rw[ew];exact L.bxo j hj⟩
 ·have h:=L.dS l hl j hj
  rw[ew]
  exact⟨h.1,h.2.1,fun x=>h.2.2 (es j x)⟩
 ·rw[ew] at hl
  have h:=L.dW j hj l hl
  exact⟨h.1,h.2.1,h.2.2.1,fun k' hk' hne=>by rw[ew];exact h.2.2.2 k' hk' hne⟩
 ·rw[ew] at hl;rw[hs];exact L.lowW j hj l hl
theorem Chans.same(H:Chans C n ws D qcl w)(ho:∀(b:Nat) (o:Obj),w.heap[b]?=some o→(∀c e f,o≠Obj.cells c e f)→w'.heap[b]?=some o){d:WDat σ}(hp':isShut d.pos=isShut (D k).pos):Chans C n ws (upd D k d) qcl w':=by
 have st:∀{c cap s r:Nat} {buf:Array Value} {cl tm:Bool},w.heap[c]?=some (.chan cap buf cl s r tm)→w'.heap[c]?=some (.chan cap buf cl s r tm):=fun{c cap s r buf cl tm} h=>ho _ _ h fun _ _ _=>by simp
 refine⟨fun j hj=>?_,fun j hj=>(H.an j hj).imp fun r h=>st h,st H.qc,H.ne⟩
 obtain⟨r,h⟩:=H.of j hj
 refine⟨r,st ?_⟩
 rw[h]
 by_cases e:j=k
 ·subst e
  rw[upd_eq,hp']
 ·rw[upd_other _ _ e]
theorem hold_same{d:WDat σ}(hw:d.wr=(D k).wr)(hsh:d.sh=(D k).sh)(hr:d.rel=(D k).rel)(x:Who)(l:Loc):HoldOf C g0 n ws (upd D k d) T x l↔HoldOf C g0 n ws D T x l:=by
 have key:∀j,((x=who (g0+j) (upd D k d j)∧((ws j).ck l∨(upd D k d j).wr l))∨((upd D k d j).sh=some x∧C.R0 l))↔((x=who (g0+j) (D j)∧((ws j).ck l∨(D j).wr l))∨((D j).sh=some x∧C.R0 l)):=fun j=>by
  by_cases e:j=k
  ·subst e;rw[upd_eq];simp only[who,hw,hsh,hr]
  ·rw[upd_other _ _ e]
 unfold HoldOf
 simp only[key]
theorem Net.wmute(N:Net C g0 n ws st D T dS qcl q gs w t)(hk:k<n){g g':Goroutine}{d:WDat σ}(hu:∀op∈u,op.g=g0+k)(hn:∀op∈u,op.act.touch?=none)(hl:∀op∈u,op.act.low w.heap.size)(hnr:∀op∈u,op.act≠ .mark (.release (stA C.Wg)))(hw:d.wr=(D k).wr)(hsh:d.sh=(D k).sh)(hr:d.rel=(D k).rel)(hp:isShut d.pos=isShut (D k).pos)(hdf:Deaf (t++u) (g0+k)=d.deaf)(hsit:WSit C qcl (ws k) d g' w)(hv:VSit C (g0+k) (st k) d (t++u) (ws k)):
  Net C g0 n ws st (upd D k d) T dS qcl q ((gs.map (woken C.P g g' w)).setIfInBounds (g0+k) g') w (t++u):=by
 refine N.put hk hu (N.chans.same (fun _ _ h _=>h) hp) (N.lay.same rfl hw (by rw[hsh];exact id)) ((N.tr.shares.mute hn hl).congr (hold_same hw hsh hr)) (N.tr.quiet.app fun op hop x hx _=>by rw[hn op hop] at hx;cases hx) (N.tr.norel.app hnr) hdf (fun j hj e=>Rely.refl _ _ _) hsit hv fun r h=>?_
 rw[hr] at h
 obtain⟨h1,h2⟩:=N.tr.rel k hk r h
 exact⟨by rw[act?_old (lt_of_act? h1)];exact h1,(heard_old (lt_of_act? h1)).2 h2⟩
theorem Net.wlate(N:Net C g0 n ws st D T dS qcl q gs w t)(hk:k<n){g g':Goroutine}{es:Array Event}(G:Guar false true (Tnone C) w w' es)(f:Nat)(hsit:WSit C qcl (ws k) {D k with fuel:=f} g' w')(hv:VSit C (g0+k) (st k) {D k with fuel:=f} t (ws k))(fn:FuncId)(pos:String):
  Net C g0 n ws st (upd D k {D k with fuel:=f}) T dS qcl q ((gs.map (woken C.P g g' w')).setIfInBounds (g0+k) g') w' (t++MemOp.ofEvents (g0+k) fn pos es)∧Rely true T w w':=by
 have hu:∀op∈MemOp.ofEvents (g0+k) fn pos es,op.g=g0+k:=fun op hop=>by obtain⟨e,_,rfl⟩:=Conc.mem_ofEvents hop;rfl
 have hs:=G.still rfl
 have hn:∀op∈MemOp.ofEvents (g0+k) fn pos es,op.act.touch?=none:=fun op hop=>by
  obtain⟨e,he,rfl⟩:=Conc.mem_ofEvents hop
  cases hx:(MemAct.ofEvent e).touch? with
  |none=>rfl
  |some x=>
   have:=(evT_touch (G.evs e he) hx).1
   rw[Terr.grow_rd,hs] at this
   rcases this with(h|h)|h
   ·exact h.elim
   ·exact h.elim
   ·exact absurd h (by cases x.loc<;>simp only[Fresh]<;>first|omega|simp)
 have hobj:∀(b:Nat) (o:Obj),w.heap[b]?=some o→(∀c e f,o≠Obj.cells c e f)→w'.heap[b]?=some o:=fun b o ho hno=>by
  obtain⟨o',h1,_,h2⟩:=G.kin rfl b o ho
  rw[h1,h2 hno]
 refine⟨N.put hk hu (N.chans.same hobj rfl) (N.lay.same hs rfl id) ?_ (N.tr.quiet.app fun op hop x hx _=>by rw[hn op hop] at hx;cases hx) (N.tr.norel.app (norel_of_evT G.evs)) ?_ (fun j hj e=>?_) hsit (VSit.app hv) fun r h=>?_,?_⟩
 ·rw[hs]
  exact(N.tr.shares.mute hn fun op hop=>by obtain⟨e,he,rfl⟩:=Conc.mem_ofEvents hop;rw[←hs];exact evT_low (G.evs e he)).congr (hold_same rfl rfl rfl)
 ·rw[Deaf_own,deafBehind_still fun e he=>evT_deaf (G.evs e he)]
  exact N.tr.deafW k hk
 ·exact rely_of_guar G (fun _ _ h=>h) (fun a ha=>N.lay.wlow hj ha) (fun b _ e=>by cases e) (fun e=>by cases e) fun e=>by cases e
 ·obtain⟨h1,h2⟩:=N.tr.rel k hk r h
  exact⟨by rw[act?_old (lt_of_act? h1)];exact h1,(heard_old (lt_of_act? h1)).2 h2⟩
 ·exact rely_of_guar G (fun _ _ h=>h) (fun a ha=>(N.lay.low _ ha).1) (fun b _ e=>by cases e) (fun _=>⟨rfl,rfl⟩) fun e=>by cases e
theorem ofEvents_one(g:Nat)(fn:FuncId)(pos:String)(m:Mark):MemOp.ofEvents g fn pos #[mk m]= #[{g,fn,pos,act:=.mark m}]:=by
 rw[ofEvents_eq];simp[mk,MemAct.ofEvent]
theorem Net.wrelease(N:Net C g0 n ws st D T dS qcl q gs w t)(hk:k<n){g g':Goroutine}{s:σ}{b:Bool}(hpos:(D k).pos= .fin 7 s b)(f:Nat)(hdeaf:(D k).deaf=0)(hsit:WSit C qcl (ws k) {D k with pos:=.fin 6 s b,fuel:=f,rel:=some t.size} g' w)(fn:FuncId)(pos:String):
  Net C g0 n ws st (upd D k {D k with pos:=.fin 6 s b,fuel:=f,rel:=some t.size}) T dS qcl q ((gs.map (woken C.P g g' w)).setIfInBounds (g0+k) g') w (t++MemOp.ofEvents (g0+k) fn pos #[Go.ConcR.mk (.releaseMerge (stA C.Wg))]):=by
 have hv:=N.view k hk
 have hrel:(D k).rel=none:=by
  simp only[VSit,hpos] at hv
  cases b with
  |true=>exact hv.2.1 (Nat.le_refl _)
  |false=>exact hv.2.2.1 (Nat.le_refl _)
 have hdt:Deaf t (g0+k)=0:=(N.tr.deafW k hk).trans hdeaf
 have RB:=RelBy.new (a:=stA C.Wg) hdt fn pos
 rw[ofEvents_one] at RB⊢
 generalize hop:({g:=g0+k,fn:=fn,pos:=pos,act:=.mark (.releaseMerge (stA C.Wg))}:MemOp)=op at RB⊢
 have hlast:(t++ #[op])[t.size]?=some op:=by simp
 have hwg:C.Wg<w.heap.size:=by
  have:=N.lay.sh _ (N.lay.wg (stA C.Wg) rfl)
  exact this
 have mem:∀{x:MemOp},x∈ #[op]→x=op:=fun h=>by simpa using h
 refine N.put hk (fun x hx=>by rw[mem hx,←hop]) (N.chans.same (fun _ _ h _=>h) ?_) (N.lay.same rfl rfl id) ?_ (N.tr.quiet.app fun x hx y hy _=>by rw[mem hx,←hop] at hy;cases hy) (N.tr.norel.app fun x hx=>by rw[mem hx,←hop];simp) ?_ (fun j hj e=>Rely.refl _ _ _) hsit ?_ fun r hr=>?_
 ·simp[hpos,isShut]
 ·refine N.tr.shares.pass (fun x hx=>by rw[mem hx,←hop];rfl) (fun x hx=>by rw[mem hx,←hop];exact hwg) (fun x l hx=>?_) (fun y l hy _=>?_)
  ·rcases hx with hx|⟨j,hj,hx⟩
   ·exact⟨x,.inl hx,fun i h=>h.app _⟩
   ·by_cases e:j=k
    ·subst e
     rw[upd_eq] at hx
     rcases hx with⟨rfl,hx⟩|hx
     ·refine⟨.gor (g0+j),.inr ⟨j,hj,.inl ⟨by simp[who,hrel],hx⟩⟩,fun i h=>?_⟩
      exact Go.Side.lay (g:=g0+j) h (Nat.le_refl _) hlast (by rw[←hop])
     ·exact⟨x,.inr ⟨j,hj,.inr hx⟩,fun i h=>h.app _⟩
    ·rw[upd_other _ _ e] at hx
     exact⟨x,.inr ⟨j,hj,hx⟩,fun i h=>h.app _⟩
  ·rcases hy with hy|⟨j,hj,hy⟩
   ·exact⟨y,.inl hy,fun i h=>h.app _⟩
   ·by_cases e:j=k
    ·subst e
     rcases hy with⟨rfl,hy⟩|hy
     ·refine⟨.at t.size,.inr ⟨j,hj,.inl ⟨by rw[upd_eq];rfl,by rw[upd_eq];exact hy⟩⟩,fun i h=>?_⟩
      simp only[who,hrel] at h
      exact Go.Side.lay (g:=g0+j) h (Nat.le_refl _) hlast (by rw[←hop])
     ·exact⟨y,.inr ⟨j,hj,.inr (by rw[upd_eq];exact hy)⟩,fun i h=>h.app _⟩
    ·exact⟨y,.inr ⟨j,hj,by rw[upd_other _ _ e];exact hy⟩,fun i h=>h.app _⟩
 ·rw[Deaf_push,hdt,←hop]
  simp[deafStep,hdeaf]
 ·have hv':=VSit.app (u:= #[op]) hv
  simp only[VSit,hpos] at hv'⊢
  cases b with
  |true=>exact⟨hv'.1,by simp⟩
  |false=>exact⟨hv'.1,hv'.2.1,by simp⟩
 ·simp only[Option.some.injEq] at hr
  subst hr
  exact⟨RB.act,RB.heard⟩
theorem Net.wquit(N:Net C g0 n ws st D T dS qcl q gs w t)(hk:k<n){g g':Goroutine}{s:σ}{b:Bool}(hpos:(D k).pos= .fin 1 s b)(f:Nat){es:Array Event}(hm:∀e∈es,e.mute=true)(hq:QuitsD C.P f (deafBehind (D k).deaf es) g')(fn:FuncId)(pos:String):
  Net C g0 n ws st (upd D k {D k with fuel:=f,deaf:=deafBehind (D k).deaf es}) T dS qcl q ((gs.map (woken C.P g g' w)).setIfInBounds (g0+k) g') w (t++MemOp.ofEvents (g0+k) fn pos es):=by
 refine N.wmute hk (fun op hop=>by obtain⟨e,_,rfl⟩:=Conc.mem_ofEvents hop;rfl) (fun op hop=>by obtain⟨e,he,rfl⟩:=Conc.mem_ofEvents hop;exact touch_mute (hm e he)) (fun op hop=>by obtain⟨e,he,rfl⟩:=Conc.mem_ofEvents hop;exact low_mute (hm e he) _) (fun op hop=>?_) rfl rfl rfl rfl ?_ ?_ ?_
 ·obtain⟨e,he,rfl⟩:=Conc.mem_ofEvents hop
  have:=hm e he
  obtain⟨l,wr,sy⟩:=e
  intro e0
  cases l with
  |mark m=>cases m<;>first|(cases e0;done)|(cases this;done)
  |cell a=>cases this
  |obj r=>cases this
  |output=>cases this
  |goroutines=>cases this
 ·rw[Deaf_own,N.tr.deafW k hk]
 ·obtain⟨x,_,hx⟩:=N.sit k hk
  simp only[WSit,hpos] at hx⊢
  exact⟨hq,hx.2⟩
 ·have hv:=VSit.app (u:=MemOp.ofEvents (g0+k) fn pos es) (N.view k hk)
  exact hv.same rfl rfl rfl
theorem Net.watom(N:Net C g0 n ws st D T dS qcl q gs w t)(hk:k<n){g g':Goroutine}{es:Array Event}{d:WDat σ}{a1 a2 b1 b2:Int}(hg1:WgAt C.ty C.Wg w a1 a2)(hg2:WgAt C.ty C.Wg w' b1 b2)(hside:∀b,b≠C.Wg→w'.heap[b]?=w.heap[b]?)(hsz:w'.heap.size=w.heap.size)(htp:w'.tape=w.tape)(hos:w'.os=w.os)(hout:w'.output=w.output)(hes:∀(j:Nat) (e:Event),es[j]?=some e→(MemAct.ofEvent e).touch?=none∨((∃ad wr,e=⟨.cell ad,wr,true⟩)∧0<deafBehind (D k).deaf (es.extract 0 j)))(hbk:∀e∈es,Go.ConcR.Bk C.Wg e)(hw:d.wr=(D k).wr)(hsh:d.sh=(D k).sh)(hr:d.rel=(D k).rel)(hp:isShut d.pos=isShut (D k).pos)(hdf:d.deaf=deafBehind (D k).deaf es)(hsit:WSit C qcl (ws k) d g' w')(hv:VSit C (g0+k) (st k) d t (ws k))(fn:FuncId)(pos:String):
  Net C g0 n ws st (upd D k d) T dS qcl q ((gs.map (woken C.P g g' w')).setIfInBounds (g0+k) g') w' (t++MemOp.ofEvents (g0+k) fn pos es)∧Rely true T w w':=by
 have hu:∀op∈MemOp.ofEvents (g0+k) fn pos es,op.g=g0+k:=fun op hop=>by obtain⟨e,_,rfl⟩:=Conc.mem_ofEvents hop;rfl
 have rel:∀T':Terr,(∀a:Addr,T'.rd (.cell a)→¬C.Sh (.cell a))→Rely true T' w w':=fun T' hT=>by
  refine⟨htp,hos,hout,by omega,fun a ha=>?_,fun b o _ ho=>?_,fun r o _ ho hno=>?_,fun _ b hb hl=>?_,fun _=>⟨hsz,fun b o ho hno=>?_⟩⟩
  ·have:a.block≠C.Wg:=fun e=>hT a ha (N.lay.wg a e)
   simp only[World.cell?,hside _ this]
  ·by_cases e:b=C.Wg
   ·subst e
    rw[show w.heap[C.Wg]?=_ from hg1] at ho
    obtain rfl:=Option.some.inj ho
    exact⟨_,hg2,_,rfl,rfl,fun _=>⟨_,_,rfl⟩⟩
   ·exact⟨o,(hside b e).trans ho,.refl o⟩
  ·by_cases e:r=C.Wg
   ·subst e
    rw[show w.heap[C.Wg]?=_ from hg1] at ho
    exact absurd (Option.some.inj ho).symm (hno _ _ _)
   ·exact(hside r e).trans ho
  ·rcases hb with hb|⟨c,e,hb⟩
   ·omega
   ·by_cases e':b=C.Wg
    ·subst e';exact⟨_,_,hg2⟩
    ·exact⟨_,_,(hside b e').trans hb⟩
  ·by_cases e:b=C.Wg
   ·subst e
    rw[show w.heap[C.Wg]?=_ from hg1] at ho
    exact absurd (Option.some.inj ho).symm (hno _ _ _)
   ·exact(hside b e).trans ho
 have hrd:∀j,j<n→∀l,(wterr C (ws j) (D j)).rd l→¬C.Sh l:=fun j hj l hl=>by
  rcases wterr_rd hl with h|h|h
  ·exact(N.lay.low _ (N.lay.ck j hj _ h)).2
  ·exact(N.lay.low _ (N.lay.r0 _ h)).2
  ·exact(N.lay.lowW j hj _ h).2
 have touch:∀op∈MemOp.ofEvents (g0+k) fn pos es,∀b,op.act.touch?=some b→(∃a,b.loc= .cell a∧a.block=C.Wg)∧b.kind= .atomic:=fun op hop b hb=>by
  obtain⟨e,he,rfl⟩:=Conc.mem_ofEvents hop
  rcases hbk e he with h1|h1|⟨a,wr,rfl,ha⟩
  ·simp only[Go.ConcR.ofEvent_loc_mark h1] at hb;cases hb
  ·simp only[Go.ConcR.ofEvent_loc_mark h1] at hb;cases hb
  ·simp only[Go.ConcR.ofEvent_cell,MemAct.touch?,Option.some.injEq] at hb
   subst hb
   exact⟨⟨a,rfl,ha⟩,rfl⟩
 have hwg:C.Wg<w.heap.size:=by
  have:=N.lay.sh _ (N.lay.wg (stA C.Wg) rfl)
  exact this
 have hlow:∀op∈MemOp.ofEvents (g0+k) fn pos es,op.act.low w.heap.size:=fun op hop=>by
  obtain⟨e,he,rfl⟩:=Conc.mem_ofEvents hop
  rcases hbk e he with h1|h1|⟨a,wr,rfl,ha⟩
  ·simp only[Go.ConcR.ofEvent_loc_mark h1];trivial
  ·simp only[Go.ConcR.ofEvent_loc_mark h1];trivial
  ·simp only[Go.ConcR.ofEvent_cell]
   show a.block<_
   rw[ha];exact hwg
 refine⟨N.put hk hu (N.chans.same (fun b o ho hno=>?_) hp) (N.lay.same hsz hw (by rw[hsh];exact id)) ?_ (N.tr.quiet.app fun op hop x hx _=>?_) (N.tr.norel.app fun op hop e0=>?_) ?_ (fun j hj e=>(rel _ fun a ha=>hrd j hj _ ha).loud) hsit (VSit.app hv) fun r h=>?_,rel T fun a ha=>(N.lay.low _ ha).2⟩
 ·by_cases e:b=C.Wg
  ·subst e
   rw[show w.heap[C.Wg]?=_ from hg1] at ho
   exact absurd (Option.some.inj ho).symm (hno _ _ _)
  ·exact(hside b e).trans ho
 ·rw[hsz]
  refine(N.tr.shares.atom (Wp:=fun l=>∃a,l= .cell a∧a.block=C.Wg) N.tr.quiet (fun l ⟨a,e,h⟩=>by rw[e];exact N.lay.wg a h) hu (fun op hop b hb _=>?_) (.inr fun i op hi hop b hb=>?_) hlow).congr (hold_same hw hsh hr)
  ·obtain⟨h1,h2⟩:=touch op hop b hb
   exact⟨h1,by rw[h2];simp,by rw[h2];simp⟩
  ·have hopu:op∈MemOp.ofEvents (g0+k) fn pos es:=by
    rcases getElem?_append_cases hop with⟨h,_⟩|⟨_,h⟩
    ·omega
    ·exact h
   refine⟨(touch op hopu b hb).2,fun⟨g1,hg,hd⟩=>?_⟩
   have e1:(MemOp.ofEvents (g0+k) fn pos es)[i-t.size]?=some op:=by
    rw[Array.getElem?_append_right hi] at hop
    exact hop
   rw[ofEvents_eq,Array.getElem?_map] at e1
   obtain⟨e,he,rfl⟩:=Option.map_eq_some_iff.1 e1
   have hle:i-t.size≤es.size:=Nat.le_of_lt (Array.getElem?_eq_some_iff.1 he).1
   rcases hes _ e he with h0|⟨_,hpos⟩
   ·rw[h0] at hb;cases hb
   ·have hgg:g1=g0+k:=by
     rw[gOf hop] at hg
     exact(Option.some.inj hg).symm
    subst hgg
    have:=deaf_inside t (g0+k) fn pos es (i-t.size) hle
    rw[show t.size+(i-t.size)=i by omega,hd,N.tr.deafW k hk] at this
    omega
 ·obtain⟨_,h2⟩:=touch op hop x hx
  rw[h2]
  exact⟨by simp,by simp⟩
 ·obtain⟨e,he,rfl⟩:=Conc.mem_ofEvents hop
  rcases hbk e he with h1|h1|⟨a,wr,rfl,ha⟩
  ·simp only[Go.ConcR.ofEvent_loc_mark h1] at e0;cases e0
  ·simp only[Go.ConcR.ofEvent_loc_mark h1] at e0;cases e0
  ·simp only[Go.ConcR.ofEvent_cell] at e0;cases e0
 ·rw[Deaf_own,N.tr.deafW k hk,hdf]
 ·rw[hr] at h
  obtain⟨h1,h2⟩:=N.tr.rel k hk r h
  exact⟨by rw[act?_old (lt_of_act? h1)];exact h1,(heard_old (lt_of_act? h1)).2 h2⟩
end
end
section
open Go Go.Conc Go.ConcN
section
variable {P:Program} {gs:Array Goroutine} {w w₁:World} {sl:Option (Nat×Nat)} {i j kk:Nat} {g g₂ gj:Goroutine} {es:Array Event} {shape shj:CommShape} {blocking:Bool}
 {c cap s r:Nat} {buf:Array Value} {closed tm:Bool} {v z zj:Value} {cs cases:Array CommCase}
theorem send_meets_at(hi:gs[i]?=some g)(h:stepG P (i==0) g w= .comm g₂ #[scase c v z] blocking shape w₁ es)(hc:w₁.heap[c]?=some (.chan cap buf false s r tm))(hij:j≠i)(hj:gs[j]?=some (parked gj cs shj))(hk:cs[kk]?=some (rcase c zj))(hp:partners (gs.setIfInBounds i ph) c false=[(j,kk)]):
  runT P (crowd gs w sl) i=(.next (crowd ((gs.setIfInBounds j (gj.finishComm P cs shj kk v true)).setIfInBounds i (g₂.finishComm P #[scase c v z] shape 0 undef false)) (w₁.setChan c cap buf false (s+1) (r+1) tm) sl),
   MemOp.ofEvents i g.frame.fn g.frame.place es++meet i j g₂.frame.fn g₂.frame.place gj.frame.fn gj.frame.place c s r cap):=by
 rw[runT_crowd_comm hi h]
 have hj':=stand_get (i:=i) hij hj
 have hfp:=finishPartner_at P (gs.setIfInBounds i ph) hj' (cs:=cs) (sh:=shj) rfl kk v
 have hgd:(gs.setIfInBounds i ph).getD j default=parked gj cs shj:=by rw[Array.getD_eq_getD_getElem?,hj'];rfl
 have hn:((cs[kk]?).map (·.send.isNone)).getD false=true:=by rw[hk];rfl
 rw[hn] at hfp
 simp[communicate,ways,scase,hc,hp,choose,Sem.run,Question.forced,bind,Sem.bind,pure,World.setChan,crowd,hfp,hgd,set_stand2,parked,hj',meet]
 rfl
theorem sel_meets(hi:gs[i]?=some g)(h:stepG P (i==0) g w= .comm g₂ cases blocking shape w₁ es)(hk:cases[kk]?=some (rcase c z))(ho:∀(m:Nat) (c':CommCase),m≠kk→cases[m]?=some c'→NoWays w₁ (gs.setIfInBounds i ph) c')(hc:w₁.heap[c]?=some (.chan cap #[] closed s r tm))(hij:j≠i)(hj:gs[j]?=some (parked gj #[scase c v zj] shj))(hp:partners (gs.setIfInBounds i ph) c true=[(j,0)]):
  runT P (crowd gs w sl) i=(.next (crowd ((gs.setIfInBounds j (gj.finishComm P #[scase c v zj] shj 0 undef false)).setIfInBounds i (g₂.finishComm P cases shape kk v true)) (w₁.setChan c cap #[] closed (s+1) (r+1) tm) sl),
   MemOp.ofEvents i g.frame.fn g.frame.place es++meet j i gj.frame.fn gj.frame.place g₂.frame.fn g₂.frame.place c s r cap):=by
 rw[runT_crowd_comm hi h]
 have hj':=stand_get (i:=i) hij hj
 have hfp:=finishPartner_at P (gs.setIfInBounds i ph) hj' (cs:= #[scase c v zj]) (sh:=shj) rfl 0 undef
 have hgd:(gs.setIfInBounds i ph).getD j default=parked gj #[scase c v zj] shj:=by rw[Array.getD_eq_getD_getElem?,hj'];rfl
 have hov:offeredValue (gs.setIfInBounds i ph) j 0=v:=by simp[offeredValue,hj',parked,scase]
 have hw:ways w₁ (gs.setIfInBounds i ph) (rcase c z)=[.partner j 0]:=by simp[ways,rcase,hc,hp]
 unfold communicate
 simp only[ready_one hk (by rw[hw];simp) ho,hw]
 rw[if_neg]
 ·simp[choose,Sem.run,Question.forced,bind,Sem.bind,pure,rcase,hc,hov,hgd,hfp,World.setChan,crowd,set_stand2,scase,parked,meet,hj']
  rfl
 ·rw[Bool.not_eq_true];exact any_ill (made_of_one hk (made_recv z hc) ho)
end
end
end Go.Side
