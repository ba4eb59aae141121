/-
  Texts of Ytbjlijagheifgaa, merged.
-/
import Derived.Test.YtbjlijagheifgaaD3
set_option linter.unusedSimpArgs false
set_option linter.unusedVariables false
namespace Go.Side
section
open Go Go.Conc Go.ConcN
open Go.ConcR (KK WgAt stA smA rd wr)
section
variable {σ:Type} {C:Fix σ} {g0 n:Nat} {ws:Nat→WV} {st:Nat→WState σ} {D:Nat→WDat σ} {T T':Terr} {dS:Nat} {qcl:Bool} {q:Nat→Nat} {gs:Array Goroutine} {w w':World} {t u:Trace} {k:Nat}
theorem rely_setChan{T:Terr}{w:World}{c cap s r s' r':Nat}{buf buf':Array Value}{cl cl' tm:Bool}(hc:w.heap[c]?=some (.chan cap buf cl s r tm))(ho:¬T.wr (.obj c)):Rely false T w (w.setChan c cap buf' cl' s' r' tm):=by
 have other:∀b,b≠c→(w.setChan c cap buf' cl' s' r' tm).heap[b]?=w.heap[b]?:=fun b h=>by simp[World.setChan,Array.getElem?_setIfInBounds_ne (Ne.symm h)]
 have same:(w.setChan c cap buf' cl' s' r' tm).heap[c]?=some (.chan cap buf' cl' s' r' tm):=by
  have:=(Array.getElem?_eq_some_iff.1 hc).1
  simp[World.setChan,this]
 refine⟨rfl,rfl,rfl,by simp[World.setChan],fun a ha=>?_,fun b o _ hb=>?_,fun r o hr hb hn=>?_,fun _ b hb hl=>?_,fun e=>by cases e⟩
 ·by_cases e:a.block=c
  ·simp only[World.cell?,e,same,hc]
  ·simp only[World.cell?,other _ e]
 ·by_cases e:b=c
  ·subst e
   rw[hc] at hb
   obtain rfl:=Option.some.inj hb
   exact⟨_,same,_,_,_,_,rfl⟩
  ·exact⟨o,(other b e).trans hb,.refl o⟩
 ·by_cases e:r=c
  ·subst e;exact absurd hr ho
  ·exact(other r e).trans hb
 ·rcases hb with hb|⟨c',e,hb⟩
  ·simp[World.setChan] at hl;omega
  ·by_cases e':b=c
   ·subst e';rw[hc] at hb;cases Option.some.inj hb
   ·exact⟨_,_,(other b e').trans hb⟩
theorem setChan_get{w:World}{c cap s r s' r':Nat}{buf buf':Array Value}{cl cl' tm:Bool}(hc:w.heap[c]?=some (.chan cap buf cl s r tm)):(w.setChan c cap buf' cl' s' r' tm).heap[c]?=some (.chan cap buf' cl' s' r' tm):=by
 have:=(Array.getElem?_eq_some_iff.1 hc).1
 simp[World.setChan,this]
theorem setChan_ne{w:World}{b c cap s' r':Nat}{buf':Array Value}{cl' tm:Bool}(h:b≠c):(w.setChan c cap buf' cl' s' r' tm).heap[b]?=w.heap[b]?:=by
 simp[World.setChan,Array.getElem?_setIfInBounds_ne (Ne.symm h)]
theorem VSit.free{gk:Nat}{vw:WState σ}{d:WDat σ}{v:WV}(h:VSit C gk vw d t v)(hb:¬vw.isBusy):d.sh=none:=by
 obtain⟨pos,fuel,deaf,wr,sh,rel⟩:=d
 cases pos with
 |run N s=>exact absurd (by rw[h.1];trivial) hb
 |sendB N s s' x=>exact absurd (by rw[h.1];trivial) hb
 |sel N s=>exact h.2.1
 |selB N s=>exact h.2.1
 |fin x s b=>
  cases b with
  |false=>exact h.2.1
  |true=>
   rcases h.1 with⟨h1,_⟩|⟨_,h1⟩
   ·exact absurd (by rw[h1];trivial) hb
   ·exact h1
theorem Lay.turn(L:Lay C n ws D T w)(hs:w'.heap.size=w.heap.size){d:WDat σ}(hw:d.wr=(D k).wr)(hrd:∀l,T'.rd l↔T.rd l)(hwr:∀l,T'.wr l→(T.wr l∨C.R0 l))(hfree:∀l,T'.wr l→C.R0 l→∀j,j<n→(upd D k d j).sh=none):Lay C n ws (upd D k d) T' w':=by
 have ew:∀j,(upd D k d j).wr=(D j).wr:=fun j=>by
  by_cases e:j=k
  ·subst e;rw[upd_eq,hw]
  ·rw[upd_other _ _ e]
 refine⟨fun l hl j hj=>?_,fun j hj l hl=>?_,fun j hj l hl=>(hrd l).2 (L.ck j hj l hl),fun l hl=>(hrd l).2 (L.r0 l hl),fun l hl=>by rw[hs];exact L.low l ((hrd l).1 hl),fun j hj l hl=>?_,fun l hl=>by rw[hs];exact L.sh l hl,L.wg,fun h=>?_,fun h=>?_,L.cks,L.ckr,L.r0n,fun l hm hl hs'=>(L.cov l hm (by rw[←hs];exact hl) hs').imp (fun h=>(hrd l).2 h) fun⟨j,hj,h⟩=>⟨j,hj,by rw[ew];exact h⟩,fun j hj=>by rw[ew];exact L.bxo j hj⟩
 ·rw[ew]
  rcases hwr l hl with h|h
  ·have h':=L.dS l h j hj
   exact⟨h'.1,h'.2.1,fun hsh hR=>hsh (hfree l hl hR j hj)⟩
  ·exact⟨fun hc=>L.ckr j hj l hc h,fun hx=>(L.dW j hj l hx).2.1 h,fun hsh hR=>hsh (hfree l hl hR j hj)⟩
 ·rw[ew] at hl
  have h:=L.dW j hj l hl
  exact⟨fun x=>h.1 ((hrd l).1 x),h.2.1,h.2.2.1,fun k' hk' hne=>by rw[ew];exact h.2.2.2 k' hk' hne⟩
 ·rw[ew] at hl;rw[hs];exact L.lowW j hj l hl
 ·exact(hwr _ h).elim L.wgo L.r0n.1
 ·exact(hwr _ h).elim L.qco L.r0n.2
theorem two_get{i j m:Nat}(x y:Goroutine)(hi:m≠i)(hj:m≠j):((gs.setIfInBounds i x).setIfInBounds j y)[m]?=gs[m]?:=by
 rw[Array.getElem?_setIfInBounds_ne (Ne.symm hj),Array.getElem?_setIfInBounds_ne (Ne.symm hi)]
theorem Net.meets(N:Net C g0 n ws st D T 0 qcl q gs w t)(hk:k<n){gs':Array Goroutine}{gk:Goroutine}{d:WDat σ}{vw:WState σ}{a b:Nat}{fa:FuncId}{pa:String}{fb:FuncId}{pb:String}{c s:Nat}(hab:(a=0∧b=g0+k)∨(a=g0+k∧b=0))(hcase:c=(ws k).of∨c=(ws k).an)(hc:w.heap[c]?=some (.chan 0 #[] false s s false))(hsz:gs'.size=gs.size)(hgs:∀m,m≠0→m≠g0+k→gs'[m]?=gs[m]?)(hgk:gs'[g0+k]?=some gk)(hw:d.wr=(D k).wr)(hr:d.rel=(D k).rel)(hdf:(D k).deaf=0)(hdf':d.deaf=0)(hp1:∀x s b,(D k).pos≠ .fin x s b)(hp2:∀x s b,d.pos≠ .fin x s b)(hrd:∀l,T'.rd l↔T.rd l)(hwr:∀l,T'.wr l→(T.wr l∨C.R0 l))(hfree:∀l,T'.wr l→C.R0 l→∀j,j<n→(upd D k d j).sh=none)(hkn:T'.kn=T.kn)(hshare:(b=0∧d.sh=none∧(D k).sh=some (.gor (g0+k)))∨(b=g0+k∧d.sh=some (.gor (g0+k))∧(D k).sh=none))(hsit:WSit C qcl (ws k) d gk (w.setChan c 0 #[] false (s+1) (s+1) false))(hv:VSit C (g0+k) vw d (t++meet a b fa pa fb pb c s s 0) (ws k)):
  Net C g0 n ws (upd st k vw) (upd D k d) T' 0 qcl q gs' (w.setChan c 0 #[] false (s+1) (s+1) false) (t++meet a b fa pa fb pb c s s 0):=by
 have hp:=N.pos
 have hne:=N.chans.ne k hk
 have hcb:c<w.heap.size:=(Array.getElem?_eq_some_iff.1 hc).1
 have hsize:(w.setChan c 0 #[] false (s+1) (s+1) false).heap.size=w.heap.size:=by simp[World.setChan]
 have hst:∀j,Deaf (t++meet a b fa pa fb pb c s s 0) j=Deaf t j:=fun j=>Deaf_still (meet_deaf j)
 have hcc:∀j,j<n→¬(D j).wr (.obj c):=fun j hj h=>by
  have hx:=N.lay.dW j hj _ h
  have hck:(ws k).ck (.obj c):=by rcases hcase with rfl|rfl;exact(N.lay.cks k hk).1;exact(N.lay.cks k hk).2
  by_cases e:k=j
  ·subst e;exact hx.2.2.1 hck
  ·exact(hx.2.2.2 k hk e).1 hck
 refine⟨hp,hsz.trans N.size,fun i x h1 h2 hx=>?_,fun j hj=>?_,fun j hj=>?_,fun j hj=>?_,N.lay.turn hsize hw hrd hwr hfree,⟨fun j hj=>?_,fun j hj=>?_,?_,N.chans.ne⟩,⟨?_,N.tr.quiet.app fun op hop x hx _=>(by rw[meet_mute op hop] at hx;cases hx),N.tr.norel.app fun op hop e=>?_,by rw[hst];exact N.tr.deaf0,fun j hj=>?_,fun j hj r hr'=>?_⟩,fun b=>by rw[hkn];exact N.kn b⟩
 ·rw[hgs i (by omega) (by omega)] at hx
  rw[hst];exact N.old i x h1 h2 hx
 ·rw[hsz] at hj
  rw[hst];exact N.above j hj
 ·by_cases e:j=k
  ·subst e;rw[upd_eq];exact⟨gk,hgk,hsit⟩
  ·rw[upd_other _ _ e]
   obtain⟨x,hx,hs⟩:=N.sit j hj
   exact⟨x,by rw[hgs _ (by omega) (by omega)];exact hx,WSit.rely hs (rely_setChan hc fun h=>hcc j hj (wterr_wr h))⟩
 ·by_cases e:j=k
  ·subst e;rw[upd_eq,upd_eq];exact hv
  ·rw[upd_other _ _ e,upd_other _ _ e];exact VSit.app (N.view j hj)
 ·obtain⟨r,h⟩:=N.chans.of j hj
  by_cases e:j=k
  ·subst e
   have hop:isShut (upd D j d j).pos=false:=by
    rw[upd_eq]
    cases hpp:d.pos with
    |fin x s b=>exact absurd hpp (hp2 x s b)
    |_=>rfl
   rw[hop]
   by_cases ec:(ws j).of=c
   ·rw[ec];exact⟨_,setChan_get hc⟩
   ·refine⟨r,(setChan_ne ec).trans (h.trans ?_)⟩
    cases hpp:(D j).pos with
    |fin x s b=>exact absurd hpp (hp1 x s b)
    |_=>rfl
  ·rw[upd_other _ _ e]
   refine⟨r,(setChan_ne ?_).trans h⟩
   have h1:=hne.2.2.2 j hj e
   rcases hcase with rfl|rfl
   ·exact fun x=>h1.1 x.symm
   ·exact fun x=>(N.chans.ne j hj).2.2.2 k hk (Ne.symm e) |>.2.1 x
 ·obtain⟨r,h⟩:=N.chans.an j hj
  by_cases ec:(ws j).an=c
  ·rw[ec];exact⟨_,setChan_get hc⟩
  ·exact⟨r,(setChan_ne ec).trans h⟩
 ·refine(setChan_ne ?_).trans N.chans.qc
  rcases hcase with rfl|rfl
  ·exact Ne.symm hne.2.1
  ·exact Ne.symm hne.2.2.1
 ·rw[hsize]
  have h0:Deaf t 0=0:=N.tr.deaf0
  have hk0:Deaf t (g0+k)=0:=(N.tr.deafW k hk).trans hdf
  have kn:∀i,Knows t a i→Knows (t++meet a b fa pa fb pb c s s 0) b i:=fun i h=>by
   rcases hab with⟨rfl,rfl⟩|⟨rfl,rfl⟩
   ·exact meet_knows h0 hk0 h
   ·exact meet_knows hk0 h0 h
  have hwho:∀j,who (g0+j) (upd D k d j)=who (g0+j) (D j):=fun j=>by
   by_cases e:j=k
   ·subst e;rw[upd_eq];simp only[who,hr]
   ·rw[upd_other _ _ e]
  have hwj:∀j,(upd D k d j).wr=(D j).wr:=fun j=>by
   by_cases e:j=k
   ·subst e;rw[upd_eq,hw]
   ·rw[upd_other _ _ e]
  refine N.tr.shares.pass meet_mute (meet_low hcb) (fun x l hx=>?_) (fun y l hy _=>?_)
  ·rcases hx with⟨rfl,hx⟩|⟨j,hj,⟨hx,h'⟩|⟨hx,h'⟩⟩
   ·exact⟨_,.inl ⟨rfl,(hrd l).1 hx⟩,fun i h=>h.app _⟩
   ·exact⟨x,.inr ⟨j,hj,.inl ⟨by rw[←hwho];exact hx,by rw[←hwj];exact h'⟩⟩,fun i h=>h.app _⟩
   ·by_cases e:j=k
    ·subst e
     rw[upd_eq] at hx
     rcases hshare with⟨_,hs,_⟩|⟨rfl,hs,_⟩
     ·rw[hs] at hx;cases hx
     ·rw[hs] at hx
      obtain rfl:=Option.some.inj hx
      have ha:a=0:=by omega
      subst ha
      exact⟨.gor 0,.inl ⟨rfl,N.lay.r0 l h'⟩,kn⟩
    ·rw[upd_other _ _ e] at hx
     exact⟨x,.inr ⟨j,hj,.inr ⟨hx,h'⟩⟩,fun i h=>h.app _⟩
  ·rcases hy with⟨rfl,hy⟩|⟨j,hj,⟨hy,h'⟩|⟨hy,h'⟩⟩
   ·exact⟨_,.inl ⟨rfl,(hrd l).2 hy⟩,fun i h=>h.app _⟩
   ·exact⟨y,.inr ⟨j,hj,.inl ⟨by rw[hwho];exact hy,by rw[hwj];exact h'⟩⟩,fun i h=>h.app _⟩
   ·by_cases e:j=k
    ·subst e
     rcases hshare with⟨rfl,_,hs⟩|⟨_,_,hs⟩
     ·rw[hs] at hy
      obtain rfl:=Option.some.inj hy
      have ha:a=g0+j:=by omega
      subst ha
      exact⟨.gor 0,.inl ⟨rfl,(hrd l).2 (N.lay.r0 l h')⟩,kn⟩
     ·rw[hs] at hy;cases hy
    ·exact⟨y,.inr ⟨j,hj,.inr ⟨by rw[upd_other _ _ e];exact hy,h'⟩⟩,fun i h=>h.app _⟩
 ·simp only[meet,List.mem_toArray,List.mem_cons,List.not_mem_nil,or_false] at hop
  rcases hop with rfl|rfl|rfl|rfl<;>cases e
 ·rw[hst]
  by_cases e:j=k
  ·subst e;rw[upd_eq,hdf',N.tr.deafW j hj,hdf]
  ·rw[upd_other _ _ e];exact N.tr.deafW j hj
 ·have hr2:(D j).rel=some r:=by
   by_cases e:j=k
   ·subst e;rw[upd_eq,hr] at hr';exact hr'
   ·rw[upd_other _ _ e] at hr';exact hr'
  obtain⟨h1,h2⟩:=N.tr.rel j hj r hr2
  exact⟨by rw[act?_old (lt_of_act? h1)];exact h1,(heard_old (lt_of_act? h1)).2 h2⟩
end
end
section
open Go Go.Conc Go.ConcN
open Go.ConcR (KK WgAt stA smA rd wr)
section
variable {σ:Type} {C:Fix σ} {g0 n:Nat} {ws:Nat→WV} {st:Nat→WState σ} {D:Nat→WDat σ} {T T':Terr} {dS dS':Nat} {qcl qcl':Bool} {q:Nat→Nat} {gs:Array Goroutine} {w w':World} {t u:Trace} {k:Nat}
theorem Net.set0(N:Net C g0 n ws st D T dS qcl q gs w t)(x:Goroutine):Net C g0 n ws st D T dS qcl q (gs.setIfInBounds 0 x) w t:=by
 have hp:=N.pos
 refine⟨hp,by simpa using N.size,fun i y h1 h2 hy=>N.old i y h1 h2 (by rw[Array.getElem?_setIfInBounds_ne (by omega)] at hy;exact hy),fun j hj=>N.above j (by simpa using hj),fun j hj=>?_,N.view,N.lay,N.chans,N.tr,N.kn⟩
 obtain⟨y,hy,hs⟩:=N.sit j hj
 exact⟨y,by rw[Array.getElem?_setIfInBounds_ne (by omega)];exact hy,hs⟩
theorem Net.at(N:Net C g0 n ws st D T dS qcl q gs w t)(d:Nat):Net C g0 n ws st D T dS qcl q gs (w.at d) t:=by
 refine⟨N.pos,N.size,N.old,N.above,fun j hj=>?_,N.view,⟨N.lay.dS,N.lay.dW,N.lay.ck,N.lay.r0,N.lay.low,N.lay.lowW,N.lay.sh,N.lay.wg,N.lay.wgo,N.lay.qco,N.lay.cks,N.lay.ckr,N.lay.r0n,N.lay.cov,N.lay.bxo⟩,⟨N.chans.of,N.chans.an,N.chans.qc,N.chans.ne⟩,N.tr,N.kn⟩
 obtain⟨y,hy,hs⟩:=N.sit j hj
 exact⟨y,hy,WSit.rely hs (Rely.at _ _ _ _)⟩
theorem Net.sput(N:Net C g0 n ws st D T dS qcl q gs w t){g g':Goroutine}(hu:∀op∈u,op.g=0)(hch:Chans C n ws D qcl' w')(hlay:Lay C n ws D T' w')(hsh:Shares C.Sh (HoldOf C g0 n ws D T') w'.heap.size (t++u))(hq:Quiet (fun l=>∃a,l= .cell a∧a.block=C.Wg) (t++u))(hnr:NoRelease (stA C.Wg) (t++u))(hd0:Deaf (t++u) 0=dS')(hr:∀j,j<n→Rely false (wterr C (ws j) (D j)) w w')(hkn:∀b,T'.kn b)(hq':qcl'=qcl∨(qcl=false∧qcl'=true∧mayWake C.P g=true∧g'.status= .running):=by exact .inl rfl):
  Net C g0 n ws st D T' dS' qcl' q ((gs.map (woken C.P g g' w')).setIfInBounds 0 g') w' (t++u):=by
 have hp:=N.pos
 refine⟨hp,by simpa using N.size,fun i y h1 h2 hy=>?_,fun j hj=>?_,fun j hj=>?_,fun j hj=>VSit.app (N.view j hj),hlay,hch,⟨hsh,hq,hnr,hd0,fun j hj=>?_,fun j hj r hr'=>?_⟩,hkn⟩
 ·rw[gs_new _ _ (by omega)] at hy
  obtain⟨z,hz,rfl⟩:=Option.map_eq_some_iff.1 hy
  have hz':=N.old i z h1 h2 hz
  rw[woken_quitsD hz',Deaf_other t (by omega) u hu]
  exact hz'
 ·have hs:=N.size
  simp only[Array.size_setIfInBounds,Array.size_map] at hj
  rw[Deaf_other t (by omega) u hu]
  exact N.above j hj
 ·obtain⟨x,hx,hs⟩:=N.sit j hj
  have hof:(∀st s b,(D j).pos≠ .fin st s b)→∃r,w'.heap[(ws j).of]?=some (.chan 0 #[] false r r false):=fun hf=>by
   obtain⟨r,h⟩:=hch.of j hj
   refine⟨r,h.trans ?_⟩
   cases hp:(D j).pos with
   |fin x s b=>exact absurd hp (hf x s b)
   |_=>rfl
  refine⟨woken C.P g g' w' x,by rw[gs_new _ _ (by omega),hx];rfl,WSit.rely ?_ (hr j hj)⟩
  rcases hq' with rfl|⟨rfl,rfl,hm,hg'⟩
  ·exact WSit.woken hs hof fun hq=>⟨hch.an j hj,0,hq▸hch.qc⟩
  ·exact WSit.wokenUp hs hof ⟨0,hch.qc⟩ hm hg'
 ·rw[Deaf_other t (by omega) u hu];exact N.tr.deafW j hj
 ·obtain⟨h1,h2⟩:=N.tr.rel j hj r hr'
  exact⟨by rw[act?_old (lt_of_act? h1)];exact h1,(heard_old (lt_of_act? h1)).2 h2⟩
theorem Net.apart0(N:Net C g0 n ws st D T dS qcl q gs w t){j:Nat}(hj:j<n){l:Loc}(h:(wterr C (ws j) (D j)).rd l):¬T.wr l:=by
 intro hw
 have hS:=N.lay.dS l hw j hj
 have hv:=N.view j hj
 unfold wterr at h
 split at h
 ·rename_i N' s hpos
  rcases h with(h|h)|h
  ·exact hS.1 h
  ·refine hS.2.2 ?_ h
   simp only[VSit,hpos] at hv
   rw[hv.2.1];simp
  ·exact hS.2.1 h
 ·rcases h with h|h
  ·exact hS.1 h
  ·exact hS.2.1 h
 ·rcases h with h|h
  ·exact hS.1 h
  ·exact hS.2.1 h
 ·rcases h with h|h
  ·exact hS.2.1 h.2
  ·exact h
 ·rcases h with h|h
  ·exact hS.1 h
  ·exact hS.2.1 h
theorem wterr_kn{v:WV}{d:WDat σ}{b:Nat}(h:(wterr C v d).kn b):b=C.Wg∨b=v.bx:=by
 unfold wterr at h
 split at h<;>exact h
theorem Lay.growS(L:Lay C n ws D T w)(hs:w.heap.size≤w'.heap.size)(hqc:C.qc<w.heap.size):Lay C n ws D (T.grow w.heap.size w'.heap.size) w':=by
 have mono:∀{l:Loc},l.low w.heap.size→l.low w'.heap.size:=fun h=>Loc.low_mono hs h
 have hck:∀k,k<n→∀l,(ws k).ck l→¬Fresh w.heap.size w'.heap.size l:=fun k hk l h=>fresh_not (L.low l (L.ck k hk l h)).1
 refine⟨fun l hl j hj=>?_,fun j hj l hl=>?_,fun j hj l hl=>Terr.grow_of (L.ck j hj l hl),fun l hl=>Terr.grow_of (L.r0 l hl),fun l hl=>?_,fun j hj l hl=>⟨mono (L.lowW j hj l hl).1,(L.lowW j hj l hl).2⟩,fun l hl=>mono (L.sh l hl),L.wg,fun h=>?_,fun h=>?_,L.cks,L.ckr,L.r0n,fun l hm hl hs'=>?_,L.bxo⟩
 ·rcases hl with hl|hl
  ·exact L.dS l hl j hj
  ·exact⟨fun x=>hck j hj l x hl,fun x=>fresh_not (L.lowW j hj l x).1 hl,fun _ x=>fresh_not (L.low l (L.r0 l x)).1 hl⟩
 ·have h:=L.dW j hj l hl
  refine⟨fun x=>?_,h.2.1,h.2.2.1,h.2.2.2⟩
  rcases Terr.grow_rd.1 x with x|x
  ·exact h.1 x
  ·exact fresh_not (L.lowW j hj l hl).1 x
 ·rcases Terr.grow_rd.1 hl with x|x
  ·exact⟨mono (L.low l x).1,(L.low l x).2⟩
  ·exact⟨low_of_fresh x,fun hsx=>fresh_not (L.sh l hsx) x⟩
 ·rcases h with h|h
  ·exact L.wgo h
  ·have:=L.sh _ (L.wg (stA C.Wg) rfl)
   have h1:C.Wg<w.heap.size:=this
   exact absurd h.1 (by omega)
 ·rcases h with h|h
  ·exact L.qco h
  ·exact absurd h.1 (by omega)
 ·rcases low_or_fresh hm hl (N:=w.heap.size) with h|h
  ·exact(L.cov l hm h hs').imp Terr.grow_of id
  ·exact .inl (Terr.grow_rd.2 (.inr h))
theorem Net.sown(N:Net C g0 n ws st D T dS qcl q gs w t){g g':Goroutine}{es:Array Event}{na:Bool}(G:Guar true na T w w' es)(fn:FuncId)(pos:String):
  Net C g0 n ws st D (T.grow w.heap.size w'.heap.size) dS qcl q ((gs.map (woken C.P g g' w')).setIfInBounds 0 g') w' (t++MemOp.ofEvents 0 fn pos es):=by
 have hqc:C.qc<w.heap.size:=(Array.getElem?_eq_some_iff.1 N.chans.qc).1
 have hu:∀op∈MemOp.ofEvents 0 fn pos es,op.g=0:=fun op hop=>by obtain⟨e,_,rfl⟩:=Conc.mem_ofEvents hop;rfl
 have hst:∀{b:Nat} {o:Obj},¬T.wr (.obj b)→w.heap[b]?=some o→w'.heap[b]?=some o:=fun{b o} hb ho=>(G.block rfl b (Array.getElem?_eq_some_iff.1 ho).1 hb).trans ho
 have hdom:∀x l,HoldOf C g0 n ws D T x l→l.low w.heap.size:=fun x l hx=>by
  rcases hx with⟨_,hx⟩|⟨j,hj,⟨_,h'|h'⟩|⟨_,hx⟩⟩
  ·exact(N.lay.low _ hx).1
  ·exact(N.lay.low _ (N.lay.ck j hj _ h')).1
  ·exact(N.lay.lowW j hj _ h').1
  ·exact(N.lay.low _ (N.lay.r0 _ hx)).1
 refine N.sput hu ⟨fun j hj=>?_,fun j hj=>?_,hst N.lay.qco N.chans.qc,N.chans.ne⟩ (N.lay.growS G.size hqc) ?_ (N.tr.quiet.app fun op hop x hx hs=>?_) (N.tr.norel.app (norel_of_evT G.evs)) ?_ (fun j hj=>?_) N.kn
 ·obtain⟨r,h⟩:=N.chans.of j hj
  exact⟨r,hst (fun hx=>(N.lay.dS _ hx j hj).1 (N.lay.cks j hj).1) h⟩
 ·obtain⟨r,h⟩:=N.chans.an j hj
  exact⟨r,hst (fun hx=>(N.lay.dS _ hx j hj).1 (N.lay.cks j hj).2) h⟩
 ·refine(N.tr.shares.step (g:=0) G (fun l hl=>⟨.inl ⟨rfl,hl⟩,(N.lay.low l hl).2⟩) (fun l hl x hx=>?_) hdom N.lay.sh fn pos).congr fun x l=>?_
  ·rcases hx with⟨hx,_⟩|⟨j,hj,⟨_,h'⟩|⟨h',hx⟩⟩
   ·exact hx
   ·have h:=N.lay.dS l hl j hj
    rcases h' with h'|h'
    ·exact absurd h' h.1
    ·exact absurd h' h.2.1
   ·exact absurd hx ((N.lay.dS l hl j hj).2.2 (by rw[h'];simp))
  ·unfold HoldOf
   rw[Terr.grow_rd]
   constructor
   ·rintro(⟨h1,h2|h2⟩|h)
    ·exact .inl (.inl ⟨h1,h2⟩)
    ·exact .inr ⟨h1,h2⟩
    ·exact .inl (.inr h)
   ·rintro((⟨h1,h2⟩|h)|⟨h1,h2⟩)
    ·exact .inl ⟨h1,.inl h2⟩
    ·exact .inr h
    ·exact .inl ⟨h1,.inr h2⟩
 ·obtain⟨e,he,rfl⟩:=Conc.mem_ofEvents hop
  obtain⟨h1,_⟩:=evT_touch (G.evs e he) hx
  obtain⟨a,ha,hb⟩:=hs
  have hsh:=N.lay.wg a hb
  rw[←ha] at hsh
  rcases Terr.grow_rd.1 h1 with h1|h1
  ·exact absurd hsh (N.lay.low _ h1).2
  ·exact absurd h1 (fresh_not (N.lay.sh _ hsh))
 ·rw[Deaf_own,deafBehind_still fun e he=>evT_deaf (G.evs e he)]
  exact N.tr.deaf0
 ·exact rely_of_guar G (fun l hl=>N.apart0 hj hl) (fun a ha=>N.lay.wlow hj ha) (fun b hb _=>by rcases wterr_kn hb with rfl|rfl;exact N.lay.wgo;exact fun hw=>(N.lay.dS _ hw j hj).2.1 (N.lay.bxo j hj)) (fun e=>by cases e) fun _ h=>(by have:=wterr_kn (h (C.Wg+(ws j).bx+1));omega)
theorem Net.smark(N:Net C g0 n ws st D T dS qcl q gs w t){g g':Goroutine}{m:Mark}(hm:(MemAct.mark m).touch?=none)(hlow:(MemAct.mark m).low w.heap.size)(hnr:m≠ .release (stA C.Wg))(hd:deafBehind dS #[Go.ConcR.mk m]=dS')(fn:FuncId)(pos:String):
  Net C g0 n ws st D T dS' qcl q ((gs.map (woken C.P g g' w)).setIfInBounds 0 g') w (t++MemOp.ofEvents 0 fn pos #[Go.ConcR.mk m]):=by
 have he:MemOp.ofEvents 0 fn pos #[Go.ConcR.mk m]= #[{g:=0,fn,pos,act:=.mark m}]:=ofEvents_one 0 fn pos m
 have mem:∀op∈MemOp.ofEvents 0 fn pos #[Go.ConcR.mk m],op={g:=0,fn,pos,act:=.mark m}:=fun op h=>by rw[he] at h;simpa using h
 refine N.sput (fun op h=>by rw[mem op h]) N.chans N.lay (N.tr.shares.mute (fun op h=>by rw[mem op h];exact hm) (fun op h=>by rw[mem op h];exact hlow)) (N.tr.quiet.app fun op h x hx _=>by rw[mem op h,hm] at hx;cases hx) (N.tr.norel.app fun op h e=>by rw[mem op h] at e;cases e;exact hnr rfl) ?_ (fun j hj=>Rely.refl _ _ _) N.kn
 rw[Deaf_own,N.tr.deaf0]
 exact hd
theorem Net.ssaid(N:Net C g0 n ws st D T dS qcl q gs w t){g g':Goroutine}{m:Mark}(hm:m= .read (smA C.Wg)∨m= .write (smA C.Wg))(fn:FuncId)(pos:String):
  Net C g0 n ws st D T dS qcl q ((gs.map (woken C.P g g' w)).setIfInBounds 0 g') w (t++MemOp.ofEvents 0 fn pos #[Go.ConcR.mk m]):=by
 have he:MemOp.ofEvents 0 fn pos #[Go.ConcR.mk m]= #[{g:=0,fn,pos,act:=.mark m}]:=ofEvents_one 0 fn pos m
 have mem:∀op∈MemOp.ofEvents 0 fn pos #[Go.ConcR.mk m],op={g:=0,fn,pos,act:=.mark m}:=fun op h=>by rw[he] at h;simpa using h
 have hu:∀op∈MemOp.ofEvents 0 fn pos #[Go.ConcR.mk m],op.g=0:=fun op h=>by rw[mem op h]
 have hwg:C.Wg<w.heap.size:=by
  have:=N.lay.sh _ (N.lay.wg (stA C.Wg) rfl)
  exact this
 have ht:∀op∈MemOp.ofEvents 0 fn pos #[Go.ConcR.mk m],∀x,op.act.touch?=some x→x.loc= .cell (smA C.Wg)∧x.kind= .said:=fun op h x hx=>by
  rw[mem op h] at hx
  rcases hm with rfl|rfl<;>(simp only[MemAct.touch?,Option.some.injEq] at hx;subst hx;exact⟨rfl,rfl⟩)
 refine N.sput hu N.chans N.lay (N.tr.shares.atom (Wp:=fun l=>∃a,l= .cell a∧a.block=C.Wg) N.tr.quiet (fun l ⟨a,e,h⟩=>by rw[e];exact N.lay.wg a h) hu (fun op h x hx _=>⟨⟨_,(ht op h x hx).1,rfl⟩,by rw[(ht op h x hx).2];simp,fun _=>rfl⟩) (.inl rfl) fun op h=>?_)
  (N.tr.quiet.app fun op h x hx _=>⟨by rw[(ht op h x hx).2];simp,fun _=>hu op h⟩) (N.tr.norel.app fun op h e=>by rw[mem op h] at e;cases e;rcases hm with h|h<;>cases h) ?_ (fun j hj=>Rely.refl _ _ _) N.kn
 ·rw[mem op h]
  rcases hm with rfl|rfl<;>exact hwg
 ·rw[Deaf_own,N.tr.deaf0]
  rcases hm with rfl|rfl<;>rfl
theorem Net.satom(N:Net C g0 n ws st D T dS qcl q gs w t){g g':Goroutine}{es:Array Event}{a1 a2 b1 b2:Int}(hg1:WgAt C.ty C.Wg w a1 a2)(hg2:WgAt C.ty C.Wg w' b1 b2)(hside:∀b,b≠C.Wg→w'.heap[b]?=w.heap[b]?)(hsz:w'.heap.size=w.heap.size)(htp:w'.tape=w.tape)(hos:w'.os=w.os)(hout:w'.output=w.output)(hbk:∀e∈es,Go.ConcR.Bk C.Wg e)(hdf:deafBehind dS es=dS')(fn:FuncId)(pos:String):
  Net C g0 n ws st D T dS' qcl q ((gs.map (woken C.P g g' w')).setIfInBounds 0 g') w' (t++MemOp.ofEvents 0 fn pos es)∧Rely true T w w':=by
 have hu:∀op∈MemOp.ofEvents 0 fn pos es,op.g=0:=fun op hop=>by obtain⟨e,_,rfl⟩:=Conc.mem_ofEvents hop;rfl
 have rel:∀T':Terr,(∀a:Addr,T'.rd (.cell a)→¬C.Sh (.cell a))→Rely true T' w w':=fun T' hT=>by
  refine⟨htp,hos,hout,by omega,fun a ha=>?_,fun b o _ ho=>?_,fun r o _ ho hno=>?_,fun _ b hb hl=>?_,fun _=>⟨hsz,fun b o ho hno=>?_⟩⟩
  ·have:a.block≠C.Wg:=fun e=>hT a ha (N.lay.wg a e)
   simp only[World.cell?,hside _ this]
  ·by_cases e:b=C.Wg
   ·subst e
    rw[show w.heap[C.Wg]?=_ from hg1] at ho
    obtain rfl:=Option.some.inj ho
    exact⟨_,hg2,_,rfl,rfl,fun _=>⟨_,_,rfl⟩⟩
   ·exact⟨o,(hside b e).trans ho,.refl o⟩
  ·by_cases e:r=C.Wg
   ·subst e
    rw[show w.heap[C.Wg]?=_ from hg1] at ho
    exact absurd (Option.some.inj ho).symm (hno _ _ _)
   ·exact(hside r e).trans ho
  ·rcases hb with hb|⟨c,e,hb⟩
   ·omega
   ·by_cases e':b=C.Wg
    ·subst e';exact⟨_,_,hg2⟩
    ·exact⟨_,_,(hside b e').trans hb⟩
  ·by_cases e:b=C.Wg
   ·subst e
    rw[show w.heap[C.Wg]?=_ from hg1] at ho
    exact absurd (Option.some.inj ho).symm (hno _ _ _)
   ·exact(hside b e).trans ho
 have hobj:∀{b:Nat} {o:Obj},w.heap[b]?=some o→(∀c e f,o≠Obj.cells c e f)→w'.heap[b]?=some o:=fun{b o} ho hno=>by
  by_cases e:b=C.Wg
  ·subst e
   rw[show w.heap[C.Wg]?=_ from hg1] at ho
   exact absurd (Option.some.inj ho).symm (hno _ _ _)
  ·exact(hside b e).trans ho
 have touch:∀op∈MemOp.ofEvents 0 fn pos es,∀b,op.act.touch?=some b→(∃a,b.loc= .cell a∧a.block=C.Wg)∧b.kind= .atomic:=fun op hop b hb=>by
  obtain⟨e,he,rfl⟩:=Conc.mem_ofEvents hop
  rcases hbk e he with h1|h1|⟨a,wr,rfl,ha⟩
  ·simp only[Go.ConcR.ofEvent_loc_mark h1] at hb;cases hb
  ·simp only[Go.ConcR.ofEvent_loc_mark h1] at hb;cases hb
  ·simp only[Go.ConcR.ofEvent_cell,MemAct.touch?,Option.some.injEq] at hb
   subst hb
   exact⟨⟨a,rfl,ha⟩,rfl⟩
 have hwg:C.Wg<w.heap.size:=by
  have:=N.lay.sh _ (N.lay.wg (stA C.Wg) rfl)
  exact this
 have hrd:∀j,j<n→∀l,(wterr C (ws j) (D j)).rd l→¬C.Sh l:=fun j hj l hl=>by
  rcases wterr_rd hl with h|h|h
  ·exact(N.lay.low _ (N.lay.ck j hj _ h)).2
  ·exact(N.lay.low _ (N.lay.r0 _ h)).2
  ·exact(N.lay.lowW j hj _ h).2
 refine⟨N.sput hu ⟨fun j hj=>(N.chans.of j hj).imp fun r h=>hobj h fun _ _ _=>by simp,fun j hj=>(N.chans.an j hj).imp fun r h=>hobj h fun _ _ _=>by simp,hobj N.chans.qc fun _ _ _=>by simp,N.chans.ne⟩
  ⟨N.lay.dS,N.lay.dW,N.lay.ck,N.lay.r0,fun l hl=>by rw[hsz];exact N.lay.low l hl,fun j hj l hl=>by rw[hsz];exact N.lay.lowW j hj l hl,fun l hl=>by rw[hsz];exact N.lay.sh l hl,N.lay.wg,N.lay.wgo,N.lay.qco,N.lay.cks,N.lay.ckr,N.lay.r0n,fun l hm hl hs'=>N.lay.cov l hm (by rw[←hsz];exact hl) hs',N.lay.bxo⟩ ?_
  (N.tr.quiet.app fun op hop x hx _=>?_) (N.tr.norel.app fun op hop e0=>?_) (by rw[Deaf_own,N.tr.deaf0];exact hdf) (fun j hj=>(rel _ fun a ha=>hrd j hj _ ha).loud) N.kn,rel T fun a ha=>(N.lay.low _ ha).2⟩
 ·rw[hsz]
  refine N.tr.shares.atom (Wp:=fun l=>∃a,l= .cell a∧a.block=C.Wg) N.tr.quiet (fun l ⟨a,e,h⟩=>by rw[e];exact N.lay.wg a h) hu (fun op hop b hb _=>?_) (.inl rfl) fun op hop=>?_
  ·obtain⟨h1,h2⟩:=touch op hop b hb
   exact⟨h1,by rw[h2];simp,by rw[h2];simp⟩
  ·obtain⟨e,he,rfl⟩:=Conc.mem_ofEvents hop
   rcases hbk e he with h1|h1|⟨a,wr,rfl,ha⟩
   ·simp only[Go.ConcR.ofEvent_loc_mark h1];trivial
   ·simp only[Go.ConcR.ofEvent_loc_mark h1];trivial
   ·simp only[Go.ConcR.ofEvent_cell]
    show a.block<_
    rw[ha];exact hwg
 ·obtain⟨_,h2⟩:=touch op hop x hx
  rw[h2]
  exact⟨by simp,by simp⟩
 ·obtain⟨e,he,rfl⟩:=Conc.mem_ofEvents hop
  rcases hbk e he with h1|h1|⟨a,wr,rfl,ha⟩
  ·simp only[Go.ConcR.ofEvent_loc_mark h1] at e0;cases e0
  ·simp only[Go.ConcR.ofEvent_loc_mark h1] at e0;cases e0
  ·simp only[Go.ConcR.ofEvent_cell] at e0;cases e0
end
end
section
open Go Go.Conc Go.ConcN
open Go.ConcR (KK WgAt stA smA rd wr)
section
variable {σ:Type} {C:Fix σ} {g0 n:Nat} {ws:Nat→WV} {st:Nat→WState σ} {D:Nat→WDat σ} {T T':Terr} {dS dS':Nat} {qcl qcl':Bool} {q:Nat→Nat} {gs:Array Goroutine} {w w':World} {t u:Trace} {k:Nat}
theorem lt_succ_cases{j n:Nat}(h:j<n+1):j<n∨j=n:=by omega
theorem Net.sgo(N:Net C g0 n ws st D T 0 qcl q gs w t){v:WV}{s:σ}{M m:Nat}{wk:Loc→Prop}{g' child:Goroutine}(hof:w.heap[v.of]?=some (.chan 0 #[] false 0 0 false))(han:w.heap[v.an]?=some (.chan 0 #[] false 0 0 false))(oof:T.wr (.obj v.of))(oan:T.wr (.obj v.an))(hne:v.of≠v.an)(hck:∀l,v.ck l→T.rd l)(hwk:∀l,wk l→T.wr l)(hR:∀l,C.R0 l→T.rd l)(hwc:∀l,wk l→¬v.ck l∧¬C.R0 l)(hcr:∀l,v.ck l→¬C.R0 l)(cof:v.ck (.obj v.of))(can:v.ck (.obj v.an))(hbo:wk (.obj v.bx))(hrd:∀l,T'.rd l↔T.rd l∧¬wk l)(hwr:∀l,T'.wr l→T.wr l∧¬v.ck l∧¬wk l∧¬C.R0 l)(hkn:T'.kn=T.kn)(hch:GoesN C.P false false false (AtRun C v M s) m (Tbusy C v wk) child w)(fn fn':FuncId)(pos:String):
  Net C g0 (n+1) (upd ws n v) (upd st n (.busy s)) (upd D n ⟨.run M s,m,0,wk,some (.gor (g0+n)),none⟩) T' 0 qcl q ((gs.setIfInBounds 0 g').push child) w
   (t++ #[{g:=0,fn,pos,act:=.go (g0+n)},{g:=g0+n,fn:=fn',pos,act:=.start}]):=by
 have hp:=N.pos
 generalize hx:({g:=0,fn,pos,act:=.go (g0+n)}:MemOp)=x
 generalize hy:({g:=g0+n,fn:=fn',pos,act:=.start}:MemOp)=y
 have mem:∀op∈ #[x,y],op=x∨op=y:=fun op h=>by simpa using h
 have hmute:∀op∈ #[x,y],op.act.touch?=none:=fun op h=>by rcases mem op h with rfl|rfl;rw[←hx];rfl;rw[←hy];rfl
 have hstill:∀j,∀op∈ #[x,y],∀d,deafStep j d op=d:=fun j op h d=>by rcases mem op h with rfl|rfl;rw[←hx];rfl;rw[←hy];rfl
 have hst:∀j,Deaf (t++ #[x,y]) j=Deaf t j:=fun j=>Deaf_still (hstill j)
 have hdn:Deaf t (g0+n)=0:=N.above _ (by rw[N.size];omega)
 have lo:∀{j:Nat},j<n→upd ws n v j=ws j∧upd st n (.busy s) j=st j∧upd D n ⟨.run M s,m,0,wk,some (.gor (g0+n)),none⟩ j=D j:=fun{j} h=>⟨upd_other _ _ (by omega),upd_other _ _ (by omega),upd_other _ _ (by omega)⟩
 have nk:∀j,j<n→∀l,wk l→¬(ws j).ck l∧¬(D j).wr l:=fun j hj l h=>⟨(N.lay.dS l (hwk l h) j hj).1,(N.lay.dS l (hwk l h) j hj).2.1⟩
 have fresh:∀j,j<n→v.of≠(ws j).of∧v.of≠(ws j).an∧v.an≠(ws j).of∧v.an≠(ws j).an:=fun j hj=>by
  have h1:=(N.lay.dS _ oof j hj).1
  have h2:=(N.lay.dS _ oan j hj).1
  have c:=N.lay.cks j hj
  exact⟨fun e=>h1 (e▸c.1),fun e=>h1 (e▸c.2),fun e=>h2 (e▸c.1),fun e=>h2 (e▸c.2)⟩
 have hq1:v.of≠C.qc:=fun e=>N.lay.qco (e▸oof)
 have hq2:v.an≠C.qc:=fun e=>N.lay.qco (e▸oan)
 refine⟨hp,by simp[N.size];omega,fun i z h1 h2 hz=>?_,fun j hj=>?_,fun j hj=>?_,fun j hj=>?_,⟨fun l hl j hj=>?_,fun j hj l hl=>?_,fun j hj l hl=>?_,fun l hl=>?_,fun l hl=>N.lay.low l ((hrd l).1 hl).1,fun j hj l hl=>?_,N.lay.sh,N.lay.wg,fun h=>N.lay.wgo (hwr _ h).1,fun h=>N.lay.qco (hwr _ h).1,fun j hj=>?_,fun j hj l hl=>?_,N.lay.r0n,fun l hm' hl hs'=>?_,fun j hj=>?_⟩,
  ⟨fun j hj=>?_,fun j hj=>?_,N.chans.qc,fun j hj=>?_⟩,⟨?_,N.tr.quiet.app fun op h z hz _=>(by rw[hmute op h] at hz;cases hz),N.tr.norel.app fun op h e=>?_,by rw[hst];exact N.tr.deaf0,fun j hj=>?_,fun j hj r hr'=>?_⟩,fun b=>by rw[hkn];exact N.kn b⟩
 ·have:((gs.setIfInBounds 0 g').push child)[i]?=gs[i]?:=by
   have hs:=N.size
   rw[Array.getElem?_push,if_neg (by simp;omega),Array.getElem?_setIfInBounds_ne (by omega)]
  rw[this] at hz
  rw[hst];exact N.old i z h1 h2 hz
 ·rw[hst]
  have hs:=N.size
  simp at hj
  exact N.above j (by omega)
 ·rcases lt_succ_cases hj with hj|rfl
  ·obtain⟨z,hz,hs⟩:=N.sit j hj
   have hs':=N.size
   rw[(lo hj).1,(lo hj).2.2]
   exact⟨z,by rw[Array.getElem?_push,if_neg (by simp;omega),Array.getElem?_setIfInBounds_ne (by omega)];exact hz,hs⟩
  ·have hs':=N.size
   rw[upd_eq,upd_eq]
   exact⟨child,by rw[Array.getElem?_push,if_pos (by simp;omega)],hch,rfl⟩
 ·rcases lt_succ_cases hj with hj|rfl
  ·rw[(lo hj).1,(lo hj).2.1,(lo hj).2.2];exact VSit.app (N.view j hj)
  ·rw[upd_eq,upd_eq,upd_eq];exact⟨rfl,rfl,rfl⟩
 ·have h:=hwr l hl
  rcases lt_succ_cases hj with hj|rfl
  ·rw[(lo hj).1,(lo hj).2.2]
   have h':=N.lay.dS l h.1 j hj
   exact⟨h'.1,h'.2.1,fun _=>h.2.2.2⟩
  ·rw[upd_eq,upd_eq];exact⟨h.2.1,h.2.2.1,fun _=>h.2.2.2⟩
 ·rcases lt_succ_cases hj with hj|rfl
  ·rw[(lo hj).2.2] at hl
   have h:=N.lay.dW j hj l hl
   rw[(lo hj).1]
   refine⟨fun x=>h.1 ((hrd l).1 x).1,h.2.1,h.2.2.1,fun k' hk' hne'=>?_⟩
   rcases lt_succ_cases hk' with hk'|rfl
   ·rw[(lo hk').1,(lo hk').2.2];exact h.2.2.2 k' hk' hne'
   ·rw[upd_eq,upd_eq];exact⟨fun x=>h.1 (hck l x),fun x=>(nk j hj l x).2 hl⟩
  ·rw[upd_eq] at hl
   rw[upd_eq]
   refine⟨fun x=>((hrd l).1 x).2 hl,(hwc l hl).2,(hwc l hl).1,fun k' hk' hne'=>?_⟩
   rcases lt_succ_cases hk' with hk'|rfl
   ·rw[(lo hk').1,(lo hk').2.2];exact nk k' hk' l hl
   ·exact absurd rfl hne'
 ·rcases lt_succ_cases hj with hj|rfl
  ·rw[(lo hj).1] at hl;exact(hrd l).2 ⟨N.lay.ck j hj l hl,fun x=>(nk j hj l x).1 hl⟩
  ·rw[upd_eq] at hl;exact(hrd l).2 ⟨hck l hl,fun x=>(hwc l x).1 hl⟩
 ·exact(hrd l).2 ⟨hR l hl,fun x=>(hwc l x).2 hl⟩
 ·rcases lt_succ_cases hj with hj|rfl
  ·rw[(lo hj).2.2] at hl;exact N.lay.lowW j hj l hl
  ·rw[upd_eq] at hl;exact N.lay.low l (.inr (hwk l hl))
 ·rcases lt_succ_cases hj with hj|rfl
  ·rw[(lo hj).1];exact N.lay.cks j hj
  ·rw[upd_eq];exact⟨cof,can⟩
 ·rcases lt_succ_cases hj with hj|rfl
  ·rw[(lo hj).1] at hl;exact N.lay.ckr j hj l hl
  ·rw[upd_eq] at hl;exact hcr l hl
 ·by_cases e:wk l
  ·exact .inr ⟨n,by omega,by rw[upd_eq];exact e⟩
  ·exact(N.lay.cov l hm' hl hs').imp (fun h=>(hrd l).2 ⟨h,e⟩) fun⟨j,hj,h⟩=>⟨j,by omega,by rw[(lo hj).2.2];exact h⟩
 ·rcases lt_succ_cases hj with hj|rfl
  ·rw[(lo hj).1,(lo hj).2.2];exact N.lay.bxo j hj
  ·rw[upd_eq,upd_eq];exact hbo
 ·rcases lt_succ_cases hj with hj|rfl
  ·rw[(lo hj).1,(lo hj).2.2];exact N.chans.of j hj
  ·rw[upd_eq,upd_eq];exact⟨0,hof⟩
 ·rcases lt_succ_cases hj with hj|rfl
  ·rw[(lo hj).1];exact N.chans.an j hj
  ·rw[upd_eq];exact⟨0,han⟩
 ·rcases lt_succ_cases hj with hj|rfl
  ·rw[(lo hj).1]
   have h:=N.chans.ne j hj
   refine⟨h.1,h.2.1,h.2.2.1,fun k' hk' hne'=>?_⟩
   rcases lt_succ_cases hk' with hk'|rfl
   ·rw[(lo hk').1];exact h.2.2.2 k' hk' hne'
   ·rw[upd_eq]
    have f:=fresh j hj
    exact⟨Ne.symm f.1,Ne.symm f.2.2.1,Ne.symm f.2.2.2⟩
  ·rw[upd_eq]
   refine⟨hne,hq1,hq2,fun k' hk' hne'=>?_⟩
   rcases lt_succ_cases hk' with hk'|rfl
   ·rw[(lo hk').1]
    have f:=fresh k' hk'
    exact⟨f.1,f.2.1,f.2.2.2⟩
   ·exact absurd rfl hne'
 · -- shares
  have fk:∀i,Knows t 0 i→Knows (t++ #[x,y]) (g0+n) i:=fun i h=>by
   have h0:Deaf t 0=0:=N.tr.deaf0
   exact fork_knows (k:=g0+n) (x:=x) (y:=y) ⟨by rw[←hx],by rw[←hx]⟩ ⟨by rw[←hy],by rw[←hy]⟩ h0 hdn h
  refine N.tr.shares.pass hmute (fun op h=>by rcases mem op h with rfl|rfl;rw[←hx];trivial;rw[←hy];trivial) (fun z l hz=>?_) (fun z l hz _=>?_)
  ·rcases hz with⟨rfl,hz⟩|⟨j,hj,hz⟩
   ·exact⟨_,.inl ⟨rfl,((hrd l).1 hz).1⟩,fun i h=>h.app _⟩
   ·rcases lt_succ_cases hj with hj|rfl
    ·rw[(lo hj).1,(lo hj).2.2] at hz
     exact⟨z,.inr ⟨j,hj,hz⟩,fun i h=>h.app _⟩
    ·rw[upd_eq,upd_eq] at hz
     rcases hz with⟨rfl,hz|hz⟩|⟨hz,h'⟩
     ·exact⟨.gor 0,.inl ⟨rfl,hck l hz⟩,fk⟩
     ·exact⟨.gor 0,.inl ⟨rfl,.inr (hwk l hz)⟩,fk⟩
     ·obtain rfl:=Option.some.inj hz
      exact⟨.gor 0,.inl ⟨rfl,hR l h'⟩,fk⟩
  ·rcases hz with⟨rfl,hz⟩|⟨j,hj,hz⟩
   ·by_cases e:wk l
    ·exact⟨.gor (g0+n),.inr ⟨n,by omega,.inl ⟨by rw[upd_eq];rfl,by rw[upd_eq,upd_eq];exact .inr e⟩⟩,fk⟩
    ·exact⟨_,.inl ⟨rfl,(hrd l).2 ⟨hz,e⟩⟩,fun i h=>h.app _⟩
   ·exact⟨z,.inr ⟨j,by omega,by rw[(lo hj).1,(lo hj).2.2];exact hz⟩,fun i h=>h.app _⟩
 ·rcases mem op h with rfl|rfl
  ·rw[←hx] at e;cases e
  ·rw[←hy] at e;cases e
 ·rw[hst]
  rcases lt_succ_cases hj with hj|rfl
  ·rw[(lo hj).2.2];exact N.tr.deafW j hj
  ·rw[upd_eq];exact hdn
 ·rcases lt_succ_cases hj with hj|rfl
  ·rw[(lo hj).2.2] at hr'
   obtain⟨h1,h2⟩:=N.tr.rel j hj r hr'
   exact⟨by rw[act?_old (lt_of_act? h1)];exact h1,(heard_old (lt_of_act? h1)).2 h2⟩
  ·rw[upd_eq] at hr';cases hr'
end
end
end Go.Side
