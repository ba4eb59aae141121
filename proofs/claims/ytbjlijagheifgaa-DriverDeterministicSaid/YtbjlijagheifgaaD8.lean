/-
  Texts of Ytbjlijagheifgaa, merged.
-/
import Derived.Test.YtbjlijagheifgaaD7
set_option linter.unusedSimpArgs false
set_option linter.unusedVariables false
namespace Go.Side
section
open Go Go.Conc Go.ConcN
open Go.ConcR (KK WgAt stA smA rd wr wgBlock)
section
variable {σ:Type} {C:Fix σ} {g0 n:Nat} {ws:Nat→WV} {st:Nat→WState σ} {D D':Nat→WDat σ} {T T':Terr} {dS dS':Nat} {qcl qcl':Bool} {q q':Nat→Nat} {gs:Array Goroutine} {w w':World} {t u:Trace} {k p i:Nat} {Q:Machine→Trace→Prop}
theorem wg_chan{c cap s r s' r':Nat}{buf buf':Array Value}{cl cl' tm:Bool}{a1 a2:Int}(h:WgAt C.ty C.Wg w a1 a2)(hc:w.heap[c]?=some (.chan cap buf cl s r tm)):WgAt C.ty C.Wg (w.setChan c cap buf' cl' s' r' tm) a1 a2:=by
 refine(setChan_ne fun e=>?_).trans h
 have h1:w.heap[C.Wg]?=some (wgBlock C.ty a1 a2):=h
 rw[e,hc] at h1
 cases Option.some.inj h1
theorem noWr(N:Net C g0 n ws st D T dS qcl q gs w t)(hk:k<n){c:Nat}(hc:c=(ws k).of∨c=(ws k).an):∀j,j<n→¬(D j).wr (.obj c):=fun j hj h=>by
 have hx:=N.lay.dW j hj _ h
 have hck:(ws k).ck (.obj c):=by rcases hc with rfl|rfl;exact(N.lay.cks k hk).1;exact(N.lay.cks k hk).2
 by_cases e:k=j
 ·subst e;exact hx.2.2.1 hck
 ·exact(hx.2.2.2 k hk e).1 hck
theorem P1.recvd(H:P1 C g0 n ws st D T 0 0 q gs w t)(hi:i<n){s s':σ}{x:Value}(hst:st i= .busy s)(hn:C.nxt s=some (x,s')){M r:Nat}{gk a':Goroutine}{gs':Array Goroutine}(hpos:(∃M0,(D i).pos= .run M0 s)∨∃M0,(D i).pos= .sendB M0 s s' x)(hdf:(D i).deaf=0)(hc:w.heap[(ws i).of]?=some (.chan 0 #[] false r r false))(hcont:∀w₁,Rely false (Tidle C (ws i) (D i).wr) w w₁→∃m,GoesN C.P false false true (AtSel C (AtRun C (ws i) M) (ws i) s') m (Tidle C (ws i) (D i).wr) gk w₁)(hsz:gs'.size=gs.size)(hgs:∀m,m≠0→m≠g0+i→gs'[m]?=gs[m]?)(hgk:gs'[g0+i]?=some gk)(hrd:∀l,T'.rd l↔T.rd l)(hwr:∀l,T'.wr l→T.wr l∨(C.R0 l∧QuietS n (upd st i (.offd s'))))(hkn:T'.kn=T.kn)(fa:FuncId)(pa:String)(fb:FuncId)(pb:String):
  ∃D',P1 C g0 n ws (upd st i (.offd s')) D' T' 0 0 q gs' (w.setChan (ws i).of 0 #[] false (r+1) (r+1) false) (t++meet (g0+i) 0 fa pa fb pb (ws i).of r r 0):=by
 have N:=H.net
 have hv:=N.view i hi
 have hsh:(D i).sh=some (.gor (g0+i))∧(D i).rel=none:=by
  rcases hpos with⟨M0,h⟩|⟨M0,h⟩<;>(simp only[VSit,h] at hv;exact hv.2)
 obtain⟨m,hG⟩:=hcont (w.setChan (ws i).of 0 #[] false (r+1) (r+1) false) (rely_setChan hc fun h=>noWr N hi (.inl rfl) i hi h)
 generalize hd:({D i with pos:=.sel M s',fuel:=m,sh:=none}:WDat σ)=d
 have e1:d.pos= .sel M s':=by rw[←hd]
 have e2:d.fuel=m:=by rw[←hd]
 have e3:d.sh=none:=by rw[←hd]
 have e4:d.wr=(D i).wr:=by rw[←hd]
 have e5:d.rel=(D i).rel:=by rw[←hd]
 have e6:d.deaf=0:=by rw[←hd];exact hdf
 have hfin:∀x s b,(D i).pos≠ .fin x s b:=by
  rcases hpos with⟨M0,h⟩|⟨M0,h⟩<;>(rw[h];simp)
 have hview:∀t',VSit C (g0+i) (.offd s') d t' (ws i):=fun t'=>by simp only[VSit,e1];exact⟨trivial,e3,e5.trans hsh.2⟩
 have hN:=N.meets hi (gs':=gs') (gk:=gk) (d:=d) (vw:=.offd s') (T':=T') (fa:=fa) (pa:=pa) (fb:=fb) (pb:=pb) (.inr ⟨rfl,rfl⟩) (.inl rfl) hc hsz hgs hgk e4 e5 hdf e6 hfin (by rw[e1];simp) hrd (fun l hl=>(hwr l hl).imp id And.left) (fun l hl hR j hj=>?_) hkn (.inl ⟨rfl,e3,hsh.1⟩) ?_ (hview _)
 ·obtain⟨a1,a2,hwg,hm⟩:=H.grp
  refine⟨_,hN,H.bound,⟨a1,a2,wg_chan hwg hc,mode_keep hm ?_⟩,fun j hj x s=>?_⟩
  ·rw[e1];rcases hpos with⟨M0,h⟩|⟨M0,h⟩<;>simp[kst,h]
  ·by_cases e:j=i
   ·subst e;rw[upd_eq,e1];simp
   ·rw[upd_other _ _ e];exact H.nofin j hj x s
 ·by_cases e:j=i
  ·subst e;rw[upd_eq,e3]
  ·rw[upd_other _ _ e]
   rcases hwr l hl with h|⟨_,hq⟩
   ·cases hx:(D j).sh with
    |none=>rfl
    |some y=>exact absurd hR ((N.lay.dS l h j hj).2.2 (by rw[hx];simp))
   ·have:=hq j hj
    rw[upd_other _ _ e] at this
    exact VSit.free (N.view j hj) this
 ·simp only[WSit,e1]
  rw[e2,e4]
  exact⟨hG,e6⟩
theorem P1.sent(H:P1 C g0 n ws st D T 0 0 q gs w t)(hi:i<n){s:σ}{x:Int}(hst:st i= .offd s){M r m:Nat}{gk:Goroutine}{gs':Array Goroutine}(hpos:(D i).pos= .sel M s∨(D i).pos= .selB M s)(hdf:(D i).deaf=0)(hc:w.heap[(ws i).an]?=some (.chan 0 #[] false r r false))(hG:GoesN C.P false false false (AtRun C (ws i) M (C.ans s x)) m (Tbusy C (ws i) (D i).wr) gk (w.setChan (ws i).an 0 #[] false (r+1) (r+1) false))(hsz:gs'.size=gs.size)(hgs:∀m,m≠0→m≠g0+i→gs'[m]?=gs[m]?)(hgk:gs'[g0+i]?=some gk)(hrd:∀l,T'.rd l↔T.rd l)(hwr:∀l,T'.wr l→T.wr l∧¬C.R0 l)(hkn:T'.kn=T.kn)(fa:FuncId)(pa:String)(fb:FuncId)(pb:String):
  ∃D',P1 C g0 n ws (upd st i (.busy (C.ans s x))) D' T' 0 0 q gs' (w.setChan (ws i).an 0 #[] false (r+1) (r+1) false) (t++meet 0 (g0+i) fa pa fb pb (ws i).an r r 0):=by
 have N:=H.net
 have hv:=N.view i hi
 have hsh:(D i).sh=none∧(D i).rel=none:=by
  rcases hpos with h|h<;>(simp only[VSit,h] at hv;exact hv.2)
 generalize hd:({D i with pos:=.run M (C.ans s x),fuel:=m,sh:=some (.gor (g0+i))}:WDat σ)=d
 have e1:d.pos= .run M (C.ans s x):=by rw[←hd]
 have e2:d.fuel=m:=by rw[←hd]
 have e3:d.sh=some (.gor (g0+i)):=by rw[←hd]
 have e4:d.wr=(D i).wr:=by rw[←hd]
 have e5:d.rel=(D i).rel:=by rw[←hd]
 have e6:d.deaf=0:=by rw[←hd];exact hdf
 have hfin:∀x s b,(D i).pos≠ .fin x s b:=by
  rcases hpos with h|h<;>(rw[h];simp)
 have hN:=N.meets hi (gs':=gs') (gk:=gk) (d:=d) (vw:=.busy (C.ans s x)) (T':=T') (fa:=fa) (pa:=pa) (fb:=fb) (pb:=pb) (.inl ⟨rfl,rfl⟩) (.inr rfl) hc hsz hgs hgk e4 e5 hdf e6 hfin (by rw[e1];simp) hrd (fun l hl=>.inl (hwr l hl).1) (fun l hl hR j hj=>absurd hR (hwr l hl).2) hkn (.inr ⟨rfl,e3,hsh.1⟩) ?_ (by simp only[VSit,e1];exact⟨trivial,e3,e5.trans hsh.2⟩)
 ·obtain⟨a1,a2,hwg,hm⟩:=H.grp
  refine⟨_,hN,H.bound,⟨a1,a2,wg_chan hwg hc,mode_keep hm ?_⟩,fun j hj x s=>?_⟩
  ·rw[e1];rcases hpos with h|h<;>simp[kst,h]
  ·by_cases e:j=i
   ·subst e;rw[upd_eq,e1];simp
   ·rw[upd_other _ _ e];exact H.nofin j hj x s
 ·simp only[WSit,e1]
  rw[e2,e4]
  exact⟨hG,e6⟩
structure AtWait(C:Fix σ)(Anc:Nat→(Nat→WV)→(Nat→WState σ)→Goroutine→World→Prop)(g0:Nat)(m:Machine)(t:Trace):Prop where
 at':∃(n:Nat) (ws:Nat→WV) (st:Nat→WState σ) (D:Nat→WDat σ) (T:Terr) (q:Nat→Nat) (gs:Array Goroutine) (w:World) (sl:Option (Nat×Nat)) (g:Goroutine) (a1 a2:Int),
  m=crowd gs w sl∧Net C g0 n ws st D T 0 true q gs w t∧gs[0]?=some g∧QuietS n st∧n≤2147483646∧WgAt C.ty C.Wg w a1 a2∧ConcN.Mode n (fun i=>wd (D i)) (tagI 0) a1 a2∧Waits C (Anc n ws st) T g w
theorem wg_main{na:Bool}{es:Array Event}{a b:Int}(G:Guar true na T w w' es)(hT:¬T.wr (.obj C.Wg))(h:WgAt C.ty C.Wg w a b):WgAt C.ty C.Wg w' a b:=
 (G.block rfl C.Wg (Array.getElem?_eq_some_iff.1 h).1 hT).trans h
theorem zero_get{f:Goroutine→Goroutine}{g':Goroutine}(h:0<gs.size):((gs.map f).setIfInBounds 0 g')[0]?=some g':=gs_same _ _ h
variable {Anc:Nat→(Nat→WV)→(Nat→WState σ)→Goroutine→World→Prop}
theorem SW.comes{d p n:Nat}{ws:Nat→WV}{st:Nat→WState σ}{T:Terr}{g:Goroutine}{w:World}(h:SW C Anc T d p n ws st g w):
  ∀{gs sl t D q},P1 C g0 n ws st D T d p q gs w t→gs[0]?=some g→Comes C.P (AtWait C Anc g0) (crowd gs w sl) t:=by
 induction h with
 |@own T d p n ws st g w b hq Stop h k ih=>
  clear k
  induction h with
  |stop h=>
   intro gs sl t D q H hg
   exact ih _ _ _ (h _ (Rely.refl _ _ _)) H hg
  |@step T g w G' W' E' hs hg _ ihv=>
   intro gs sl t D q H h0
   refine until_run hq hs none (fun gs w₁ sl t D q H h0 r _=>?_) (fun _ e=>by cases e) H h0 (Rely.refl _ _ _) fun _ e=>by cases e
   obtain⟨hst,G⟩:=hg w₁ r
   have hN:=H.net.sown G g.frame.fn g.frame.place (g:=g) (g':=G' w₁)
   have hsz:=H.net.size
   have hpp:=H.net.pos
   refine⟨_,_,runT_crowd_go (i:=0) h0 hst,ihv w₁ r ⟨hN,H.bound,?_,H.nofin⟩ (zero_get (by omega))⟩
   obtain⟨a1,a2,h1,h2⟩:=H.grp
   exact⟨a1,a2,wg_main G H.net.lay.wgo h1,h2⟩
 |disable g' hs h k ih=>
  intro gs sl t D q H h0
  refine until_run (b:=false) (fun e=>by cases e) hs none (fun gs w₁ sl t D q H h0 r _=>?_) (fun _ e=>by cases e) H h0 (Rely.refl _ _ _) fun _ e=>by cases e
  have hsz:=H.net.size
  have hpp:=H.net.pos
  exact⟨_,_,runT_crowd_go (i:=0) h0 (h w₁ r),ih w₁ r ⟨H.net.smark (m:=.disable) rfl trivial (by simp) (by simp[deafBehind,Go.ConcR.mk]) _ _,H.bound,H.grp,H.nofin⟩ (zero_get (by omega))⟩
 |enable g' hs h k ih=>
  intro gs sl t D q H h0
  refine until_run (b:=false) (fun e=>by cases e) hs none (fun gs w₁ sl t D q H h0 r _=>?_) (fun _ e=>by cases e) H h0 (Rely.refl _ _ _) fun _ e=>by cases e
  have hsz:=H.net.size
  have hpp:=H.net.pos
  exact⟨_,_,runT_crowd_go (i:=0) h0 (h w₁ r),ih w₁ r ⟨H.net.smark (m:=.enable) rfl trivial (by simp) (by simp[deafBehind,Go.ConcR.mk]) _ _,H.bound,H.grp,H.nofin⟩ (zero_get (by omega))⟩
 |said g' hs h k ih=>
  intro gs sl t D q H h0
  refine until_run (b:=false) (fun e=>by cases e) hs none (fun gs w₁ sl t D q H h0 r _=>?_) (fun _ e=>by cases e) H h0 (Rely.refl _ _ _) fun _ e=>by cases e
  have hsz:=H.net.size
  have hpp:=H.net.pos
  exact⟨_,_,runT_crowd_go (i:=0) h0 (h w₁ r),ih w₁ r ⟨H.net.ssaid (.inl rfl) _ _,H.bound,H.grp,H.nofin⟩ (zero_get (by omega))⟩
 |@add T n ws st g w G' hs hb h k ih=>
  intro gs sl t D q H h0
  refine until_run (b:=false) (fun e=>by cases e) hs none (fun gs w₁ sl t D q H h0 r _=>?_) (fun _ e=>by cases e) H h0 (Rely.refl _ _ _) fun _ e=>by cases e
  have hsz:=H.net.size
  have hpp:=H.net.pos
  obtain⟨a1,a2,hwg,hm⟩:=H.grp
  have hVn:=Vc_le n (fun i=>wd (D i))
  cases hm with
  |opn h1 h2 h3=>
   have hwg':WgAt C.ty C.Wg w₁ (((Vc n fun i=>wd (D i)):Nat)*KK) 0:=by simpa[tagI,pend] using hwg
   have hst:=h w₁ r _ (by omega) hwg'
   obtain⟨hs1,hs2,hs3,hs4,hs5⟩:=setCell_side (w:=w₁) (v:=.int .u64 ((((Vc n fun i=>wd (D i)):Nat)+1)*KK)) (a:=stA C.Wg) (Wg:=C.Wg) rfl
   obtain⟨hN,hR⟩:=H.net.satom (g:=g) (g':=G' (Vc n fun i=>wd (D i))) (es:= #[rd (stA C.Wg),wr (stA C.Wg)]) (dS':=1) hwg' (hwg'.setSt _) hs1 hs2 hs3 hs4 hs5 (by intro e he;simp at he;rcases he with rfl|rfl<;>exact bk_cell' _ _ rfl) (by simp[deafBehind,rd,wr]) g.frame.fn g.frame.place
   refine⟨_,_,runT_crowd_go (i:=0) h0 hst,ih _ (by omega) _ (r.trans hR.loud) ⟨hN,by simp[tagI,pend];omega,⟨_,_,hwg'.setSt _,?_⟩,H.nofin⟩ (zero_get (by omega))⟩
   have:=ConcN.Mode.opn (j:=n) (D:=fun i=>wd (D i)) (tag:=tagI 1) trivial h2 (fun vs e=>by cases e)
   simpa[tagI,pend] using this
  |reg h1 _ _=>exact h1.elim
  |last L h1 _ _ _=>exact h1.elim
  |fin h1 _=>exact h1.elim
 |@go T n ws st g w v s N wk T' g' child hs h hc hof han oof oan hne hck hwk hR hwc hcr cof can hbo hrd hwr hkn hch k ih=>
  intro gs sl t D q H h0
  refine until_run (b:=false) (fun e=>by cases e) hs none (fun gs w₁ sl t D q H h0 r _=>?_) (fun _ e=>by cases e) H h0 (Rely.refl _ _ _) fun _ e=>by cases e
  have hsz:=H.net.size
  have hpp:=H.net.pos
  obtain⟨m,hG⟩:=hch w₁ r
  have hN:=H.net.sgo (own_chan r oof hof) (own_chan r oan han) oof oan hne hck hwk hR hwc hcr cof can hbo hrd hwr hkn hG (g':=g') g.frame.fn child.frame.fn g.frame.place
  refine⟨_,_,runT_crowd_spawn (i:=0) h0 (h w₁ r),?_⟩
  have e:t++((MemOp.ofEvents 0 g.frame.fn g.frame.place #[]).push {g:=0,fn:=g.frame.fn,pos:=g.frame.place,act:=.go gs.size} |>.push {g:=gs.size,fn:=child.frame.fn,pos:=g.frame.place,act:=.start})=
    t++ #[{g:=0,fn:=g.frame.fn,pos:=g.frame.place,act:=.go (g0+n)},{g:=g0+n,fn:=child.frame.fn,pos:=g.frame.place,act:=.start}]:=by
   rw[ofEvents_eq,hsz];simp
  rw[e]
  refine ih w₁ r ⟨hN,?_,?_,fun j hj x s=>?_⟩ ?_
  ·have:=H.bound;simp[tagI,pend] at this⊢;omega
  ·obtain⟨a1,a2,hwg,hm⟩:=H.grp
   refine⟨a1,a2,hwg,?_⟩
   cases hm with
   |opn h1 h2 h3=>
    have hV:Vc (n+1) (fun i=>wd (upd D n ⟨.run N s,m,0,wk,some (.gor (g0+n)),none⟩ i))=Vc n (fun i=>wd (D i))+1:=by
     simp only[Vc,sumTo]
     rw[upd_eq,sumTo_congr (g:=fun i=>cnt (wd (D i))) fun i hi=>by rw[upd_other _ _ (by omega)]]
     rfl
    have:=ConcN.Mode.opn (j:=n+1) (D:=fun i=>wd (upd D n ⟨.run N s,m,0,wk,some (.gor (g0+n)),none⟩ i)) (tag:=tagI 0) trivial (fun i hi=>?_) (fun vs e=>by cases e)
    ·rw[hV] at this
     simpa[tagI,pend] using this
    ·rcases lt_succ_cases hi with hi|rfl
     ·simp only[upd_other D _ (show i≠n by omega)];exact h2 i hi
     ·simp[upd_eq,wd,kst]
   |reg h1 _ _=>exact h1.elim
   |last L h1 _ _ _=>exact h1.elim
   |fin h1 _=>exact h1.elim
  ·rcases lt_succ_cases hj with hj|rfl
   ·rw[upd_other _ _ (by omega)];exact H.nofin j hj x s
   ·rw[upd_eq];simp
  ·rw[Array.getElem?_push,if_neg (by simp;omega)]
   exact Array.getElem?_setIfInBounds_self_of_lt (by omega)
 |@recv T n ws st g w i s s' x z T' hi hst hn hs ho h hrd hwr hkn k ih=>
  intro gs sl t D q H h0
  have hpp:=H.net.pos
  have hB:∀gs w₁ sl t D q g2,P1 C g0 n ws st D T 0 0 q gs w₁ t→gs[0]?=some (parked g #[rcase (ws i).of z] (.recv true))→Rely false T w w₁→gs[g0+i]?=some g2→WB C ws D w₁ i g2→Does C (AtWait C Anc g0) (crowd gs w₁ sl) (g0+i) t:=by
   intro gs w₁ sl t D q g2 H h0 r hg2 ⟨M,s1,x1,s1',z1,hpos,hn1,hstep,hcont⟩
   have hv:=H.net.view i hi
   have e:s1=s:=by
    simp only[VSit,hpos] at hv
    rw[hst] at hv
    exact(WState.busy.inj hv.1).symm
   subst e
   rw[hn] at hn1
   obtain⟨rfl,rfl⟩:=Prod.mk.inj (Option.some.inj hn1)
   obtain⟨r0,hc⟩:=H.net.chans.of i hi
   simp only[isShut,hpos] at hc
   have hi0:(g0+i==0)=false:=by simp;omega
   have hparts:partners (gs.setIfInBounds (g0+i) ph) (ws i).of false=[(0,0)]:=one_partner (by omega) h0 (by rw[offersAt_parked_recv,if_pos rfl]) fun m y hm hm0 hy=>by
    refine H.net.offers hy hm0 (fun j hj _ M s s' x _ h=>by cases h.1) fun j hj _ M s _ _ h=>?_
    have hne:=H.net.chans.ne i hi
    rcases h.2 with h|h
    ·by_cases ej:j=i
     ·subst ej;exact hne.1 h.symm
     ·exact(hne.2.2.2 j hj ej).2.1 h.symm
    ·exact hne.2.1 h.symm
   have hrun:=crowd_send_meets (P:=C.P) (sl:=sl) hg2 (by rw[hi0];exact hstep) hc (by omega) h0 hparts
   have hdf:(D i).deaf=0:=by
    obtain⟨y,_,hs⟩:=H.net.sit i hi
    simp only[WSit,hpos] at hs
    exact hs.2
   have hsz:=H.net.size
   obtain⟨D',H'⟩:=H.recvd (gs':=(gs.setIfInBounds 0 (g.finishComm C.P #[rcase (ws i).of z] (.recv true) 0 x true)).setIfInBounds (g0+i) (g2.finishComm C.P #[scase (ws i).of x z1] .send 0 undef false)) (a':=g) hi hst hn (.inl ⟨_,hpos⟩) hdf hc hcont
    (by simp) (fun m h1 h2=>two_get _ _ h1 h2) (Array.getElem?_setIfInBounds_self_of_lt (by simp;omega)) hrd hwr hkn g2.frame.fn g2.frame.place g.frame.fn g.frame.place
   refine⟨_,_,hrun,?_⟩
   have e:MemOp.ofEvents (g0+i) g2.frame.fn g2.frame.place #[]++ #[{g:=g0+i,fn:=g2.frame.fn,pos:=g2.frame.place,act:=.send (ws i).of r0},{g:=0,fn:=g.frame.fn,pos:=g.frame.place,act:=.recv (ws i).of r0 0},{g:=g0+i,fn:=g2.frame.fn,pos:=g2.frame.place,act:=.sendDone (ws i).of r0},{g:=0,fn:=g.frame.fn,pos:=g.frame.place,act:=.recvDone (ws i).of r0}]=meet (g0+i) 0 g2.frame.fn g2.frame.place g.frame.fn g.frame.place (ws i).of r0 r0 0:=by
    rw[ofEvents_eq];simp[meet]
   rw[e]
   refine ih _ (r.trans (rely_setChan hc fun h=>(H.net.lay.dS _ h i hi).1 (H.net.lay.cks i hi).1)) H' ?_
   rw[Array.getElem?_setIfInBounds_ne (by omega),Array.getElem?_setIfInBounds_self_of_lt (by omega),finishComm_recv]
   rfl
  refine until_run (b:=false) (fun e=>by cases e) hs none (fun gs w₁ sl t D q H h0 r _=>?_) (fun _ e=>by cases e) H h0 (Rely.refl _ _ _) fun _ e=>by cases e
  have hsz:=H.net.size
  have hv:=H.net.view i hi
  obtain⟨gi,hgi,hsi⟩:=H.net.sit i hi
  obtain⟨r0,hc⟩:=H.net.chans.of i hi
  have hne:=H.net.chans.ne i hi
  have hnil:∀(i:Nat) (fn:FuncId) (pos:String),MemOp.ofEvents i fn pos #[]= #[]:=fun i fn pos=>by rw[ofEvents_eq];simp
  have hothers:∀m y,m≠0→m≠g0+i→gs[m]?=some y→offersAt y (ws i).of true=[]:=fun m y hm hmi hy=>by
   refine H.net.offers hy hm (fun j hj ej M s s' x _ h=>?_) fun j hj _ M s _ _ h=>by cases h.1
   exact(hne.2.2.2 j hj fun e=>hmi (by rw[ej,e])).1 h.2.symm
  cases hpos:(D i).pos with
  |run M s1=>
   have hparts:partners (gs.setIfInBounds 0 ph) (ws i).of true=[]:=no_partners fun m y hm hy=>by
    by_cases e:m=g0+i
    ·subst e
     rw[hgi] at hy
     obtain rfl:=Option.some.inj hy
     exact offers_of_status (.inl (run_running hsi hpos)) _ _
    ·exact hothers m y hm e hy
   rw[hpos] at hc
   have hrun:=crowd_waits (P:=C.P) (sl:=sl) (i:=0) h0 (h w₁ r) fun cc hcc=>by
    simp at hcc
    subst hcc
    exact ways_recv_none hc hparts
   rw[hnil] at hrun
   refine⟨_,_,hrun,?_⟩
   rw[Array.append_empty]
   refine until_rcv (w:=w) hi (fun gs w₁ sl t D q g2 H h0 r hg2 hB'=>hB gs w₁ sl t D q g2 H h0 r hg2 hB') (fun gs w₁ sl t D q H h0 r hsh=>?_) ⟨H.net.set0 _,H.bound,H.grp,H.nofin⟩ (Array.getElem?_setIfInBounds_self_of_lt (by omega)) r ⟨M,s1,hpos⟩
   have hv:=H.net.view i hi
   cases hp:(D i).pos with
   |fin x' s2 b=>
    rw[hp] at hsh
    obtain rfl:b=true:=by
     cases b with
     |true=>rfl
     |false=>exact absurd hp (H.nofin i hi _ _)
    simp only[VSit,hp] at hv
    rw[hst] at hv
    rcases hv.1 with⟨e,e',_⟩|⟨e,_⟩
    ·rw[←WState.busy.inj e,hn] at e';cases e'
    ·cases e
   |_=>rw[hp] at hsh;cases hsh
  |sendB M s1 s1' x1=>
   simp only[WSit,hpos] at hsi
   obtain⟨g1,z1,rfl,hn1,hdf,hcont⟩:=hsi
   simp only[VSit,hpos] at hv
   have e:s1=s:=by rw[hst] at hv;exact(WState.busy.inj hv.1).symm
   subst e
   rw[hn] at hn1
   obtain⟨rfl,rfl⟩:=Prod.mk.inj (Option.some.inj hn1)
   rw[hpos] at hc
   have hparts:partners (gs.setIfInBounds 0 ph) (ws i).of true=[(g0+i,0)]:=one_partner (by omega) hgi (by rw[offersAt_parked_send,if_pos rfl]) fun m y hm hm0 hy=>hothers m y hm hm0 hy
   have hrun:=crowd_recv_meets (P:=C.P) (sl:=sl) (i:=0) h0 (h w₁ r) hc (by omega) hgi hparts
   obtain⟨D',H'⟩:=H.recvd (gs':=(gs.setIfInBounds (g0+i) (g1.finishComm C.P #[scase (ws i).of x z1] .send 0 undef false)).setIfInBounds 0 (g.finishComm C.P #[rcase (ws i).of z] (.recv true) 0 x true)) (a':=g) hi hst hn (.inr ⟨_,hpos⟩) hdf hc hcont
    (by simp) (fun m h1 h2=>two_get _ _ h2 h1) (by rw[Array.getElem?_setIfInBounds_ne (by omega)];exact Array.getElem?_setIfInBounds_self_of_lt (by omega)) hrd hwr hkn g1.frame.fn g1.frame.place g.frame.fn g.frame.place
   refine⟨_,_,hrun,?_⟩
   have e:MemOp.ofEvents 0 g.frame.fn g.frame.place #[]++ #[{g:=g0+i,fn:=g1.frame.fn,pos:=g1.frame.place,act:=.send (ws i).of r0},{g:=0,fn:=g.frame.fn,pos:=g.frame.place,act:=.recv (ws i).of r0 0},{g:=g0+i,fn:=g1.frame.fn,pos:=g1.frame.place,act:=.sendDone (ws i).of r0},{g:=0,fn:=g.frame.fn,pos:=g.frame.place,act:=.recvDone (ws i).of r0}]=meet (g0+i) 0 g1.frame.fn g1.frame.place g.frame.fn g.frame.place (ws i).of r0 r0 0:=by
    rw[hnil];simp[meet]
   rw[e]
   refine ih _ (r.trans (rely_setChan hc fun h=>(H.net.lay.dS _ h i hi).1 (H.net.lay.cks i hi).1)) H' ?_
   rw[Array.getElem?_setIfInBounds_self_of_lt (by simp;omega),finishComm_recv]
   rfl
  |sel M s1=>simp only[VSit,hpos] at hv;rw[hst] at hv;cases hv.1
  |selB M s1=>simp only[VSit,hpos] at hv;rw[hst] at hv;cases hv.1
  |fin x' s1 b=>
   cases b with
   |false=>exact absurd hpos (H.nofin i hi _ _)
   |true=>
    simp only[VSit,hpos] at hv
    rw[hst] at hv
    rcases hv.1 with⟨e,e',_⟩|⟨e,_⟩
    ·rw[←WState.busy.inj e,hn] at e';cases e'
    ·cases e
 |@recvEnd T n ws st g w i s z T' hi hst hn hs ho h hrd hwr hkn k ih=>
  intro gs sl t D q H h0
  have hpp:=H.net.pos
  have hnil:∀(i:Nat) (fn:FuncId) (pos:String),MemOp.ofEvents i fn pos #[]= #[]:=fun i fn pos=>by rw[ofEvents_eq];simp
  have hend:∀gs w₁ sl t D q a,P1 C g0 n ws st D T 0 0 q gs w₁ t→gs[0]?=some a→(∀w₁,stepG C.P true a w₁=stepG C.P true g w₁)→Rely false T w w₁→isShut (D i).pos=true→Does C (AtWait C Anc g0) (crowd gs w₁ sl) 0 t:=by
   intro gs w₁ sl t D q a H h0 hsame r hsh
   obtain⟨r0,hc⟩:=H.net.chans.of i hi
   rw[hsh] at hc
   have hne:=H.net.chans.ne i hi
   have hsz:=H.net.size
   cases hp:(D i).pos with
   |fin x' s2 b=>
    rw[hp] at hsh
    obtain rfl:b=true:=by
     cases b with
     |true=>rfl
     |false=>exact absurd hp (H.nofin i hi _ _)
    have hparts:partners (gs.setIfInBounds 0 ph) (ws i).of true=[]:=no_partners fun m y hm hy=>by
     refine H.net.offers hy hm (fun j hj ej M s s' x hpj h=>?_) fun j hj _ M s _ _ h=>by cases h.1
     by_cases e:j=i
     ·subst e;rw[hp] at hpj;cases hpj
     ·exact(hne.2.2.2 j hj e).1 h.2.symm
    have hrun:=crowd_recv_closed (P:=C.P) (sl:=sl) (i:=0) h0 ((hsame w₁).trans (h w₁ r)) hc hparts
    have hes:s2=s:=by
     have hv:=H.net.view i hi
     simp only[VSit,hp] at hv
     rw[hst] at hv
     rcases hv.1 with⟨e,_⟩|⟨e,_⟩
     ·exact(WState.busy.inj e).symm
     ·cases e
    subst hes
    have hN:=H.net.recvEnd (g':=g.finishComm C.P #[rcase (ws i).of z] (.recv true) 0 z false) hi hp hst hrd hwr hkn g.frame.fn g.frame.place
    refine⟨_,_,hrun,?_⟩
    rw[hnil,Array.empty_append]
    refine ih w₁ r ⟨hN,H.bound,?_,fun j hj x s=>?_⟩ ?_
    ·obtain⟨a1,a2,h1,h2⟩:=H.grp
     exact⟨a1,a2,h1,mode_keep h2 rfl⟩
    ·by_cases e:j=i
     ·subst e;rw[upd_eq];exact H.nofin j hj x s
     ·rw[upd_other _ _ e];exact H.nofin j hj x s
    ·rw[Array.getElem?_setIfInBounds_self_of_lt (by omega),finishComm_recv]
     rfl
   |_=>rw[hp] at hsh;cases hsh
  refine until_run (b:=false) (fun e=>by cases e) hs none (fun gs w₁ sl t D q H h0 r _=>?_) (fun _ e=>by cases e) H h0 (Rely.refl _ _ _) fun _ e=>by cases e
  have hsz:=H.net.size
  have hv:=H.net.view i hi
  obtain⟨gi,hgi,hsi⟩:=H.net.sit i hi
  obtain⟨r0,hc⟩:=H.net.chans.of i hi
  have hne:=H.net.chans.ne i hi
  cases hpos:(D i).pos with
  |run M s1=>
   have hparts:partners (gs.setIfInBounds 0 ph) (ws i).of true=[]:=no_partners fun m y hm hy=>by
    refine H.net.offers hy hm (fun j hj ej M s s' x hpj h=>?_) fun j hj _ M s _ _ h=>by cases h.1
    by_cases e:j=i
    ·subst e;rw[hpos] at hpj;cases hpj
    ·exact(hne.2.2.2 j hj e).1 h.2.symm
   rw[hpos] at hc
   have hrun:=crowd_waits (P:=C.P) (sl:=sl) (i:=0) h0 (h w₁ r) fun cc hcc=>by
    simp at hcc
    subst hcc
    exact ways_recv_none hc hparts
   rw[hnil] at hrun
   refine⟨_,_,hrun,?_⟩
   rw[Array.append_empty]
   refine until_rcv (w:=w) hi (fun gs w₁ sl t D q g2 H h0 r hg2 hB'=>?_) (fun gs w₁ sl t D q H h0 r hsh=>?_) ⟨H.net.set0 _,H.bound,H.grp,H.nofin⟩ (Array.getElem?_setIfInBounds_self_of_lt (by omega)) r ⟨M,s1,hpos⟩
   · -- it offers nothing more
    obtain⟨M,s2,x2,s2',z2,hp2,hn2,_⟩:=hB'
    have hv:=H.net.view i hi
    simp only[VSit,hp2] at hv
    rw[hst] at hv
    rw[←WState.busy.inj hv.1,hn] at hn2;cases hn2
   ·have hsame:∀w₁,stepG C.P true {parked g #[rcase (ws i).of z] (.recv true) with status:=.running} w₁=stepG C.P true g w₁:=fun w₁=>by
     rw[stepG_tries]
     have e:({g with status:=.running}:Goroutine)=g:=by rw[←hs]
     rw[e]
    exact until_run (b:=false) (w:=w) (fun e=>by cases e) rfl (some i) (fun gs w₁ sl t D q H h0 r hsh=>hend gs w₁ sl t D q _ H h0 hsame r (hsh i rfl)) (fun j e=>by cases e;exact hi) H h0 r fun j e=>by cases e;exact hsh
  |sendB M s1 s1' x1=>
   simp only[WSit,hpos] at hsi
   obtain⟨g1,z1,_,hn1,_⟩:=hsi
   simp only[VSit,hpos] at hv
   rw[hst] at hv
   rw[←WState.busy.inj hv.1,hn] at hn1;cases hn1
  |sel M s1=>simp only[VSit,hpos] at hv;rw[hst] at hv;cases hv.1
  |selB M s1=>simp only[VSit,hpos] at hv;rw[hst] at hv;cases hv.1
  |fin x' s1 b=>
   cases b with
   |false=>exact absurd hpos (H.nofin i hi _ _)
   |true=>exact hend gs w₁ sl t D q g H h0 (fun _=>rfl) r (by rw[hpos];rfl)
 |@send T n ws st g w i s x z T' hi hst hs ho h hgood hR hrd hwr hkn k ih=>
  intro gs sl t D q H h0
  have hpp:=H.net.pos
  have hnil:∀(i:Nat) (fn:FuncId) (pos:String),MemOp.ofEvents i fn pos #[]= #[]:=fun i fn pos=>by rw[ofEvents_eq];simp
  have hC:∀gs w₁ sl t D q g2,P1 C g0 n ws st D T 0 0 q gs w₁ t→gs[0]?=some (parked g #[scase (ws i).an (.int .i64 x) z] .send)→Rely false T w w₁→gs[g0+i]?=some g2→WC C ws D w₁ i g2→Does C (AtWait C Anc g0) (crowd gs w₁ sl) (g0+i) t:=by
   intro gs w₁ sl t D q g2 H h0 r hg2 ⟨M,s1,g1,hpos,hstep,hcont,hdf⟩
   have hv:=H.net.view i hi
   have e:s1=s:=by
    rcases hpos with hp|hp<;>(simp only[VSit,hp] at hv;rw[hst] at hv;exact(WState.offd.inj hv.1).symm)
   subst e
   obtain⟨r0,hc⟩:=H.net.chans.an i hi
   have hi0:(g0+i==0)=false:=by simp;omega
   have hne:=H.net.chans.ne i hi
   have hsz:=H.net.size
   have hparts:partners (gs.setIfInBounds (g0+i) ph) (ws i).an true=[(0,0)]:=one_partner (by omega) h0 (by rw[offersAt_parked_send,if_pos rfl]) fun m y hm hm0 hy=>by
    refine H.net.offers hy hm0 (fun j hj ej M s s' x hpj h=>?_) fun j hj _ M s _ _ h=>by cases h.1
    by_cases e:j=i
    ·subst e;exact hne.1 h.2
    ·exact(H.net.chans.ne j hj).2.2.2 i hi (Ne.symm e) |>.2.1 h.2
   have hpq:partners (gs.setIfInBounds (g0+i) ph) C.qc true=[]:=no_partners fun m y hm hy=>by
    by_cases e:m=0
    ·subst e
     rw[h0] at hy
     obtain rfl:=Option.some.inj hy
     rw[offersAt_parked_send,if_neg hne.2.2.1]
    ·refine H.net.offers hy e (fun j hj ej M s s' x hpj h=>?_) fun j hj _ M s _ _ h=>by cases h.1
     exact(H.net.chans.ne j hj).2.1 h.2
   have hrun:=sel_meets (P:=C.P) (sl:=sl) (kk:=0) hg2 (by rw[hi0];exact hstep) rfl (fun m c' hm hc'=>by
    match m,hc' with
    |0,_=>exact absurd rfl hm
    |1,hc'=>simp[selCases] at hc';subst hc';exact ways_recv_none H.net.chans.qc hpq
    |m+2,hc'=>simp[selCases] at hc') hc (by omega) h0 hparts
   obtain⟨_,_,_,hans,_⟩:=hcont w₁ (Rely.refl _ _ _)
   obtain⟨m,hG⟩:=hans x (w₁.setChan (ws i).an 0 #[] false (r0+1) (r0+1) false) (rely_setChan hc fun h=>noWr H.net hi (.inr rfl) i hi h) (C.good_keep _ _ (fun a ha=>(rely_setChan (T:=Tbusy C (ws i) (D i).wr) hc fun h=>noWr H.net hi (.inr rfl) i hi h).cell a (.inl (.inr ha))) (hgood w₁ r))
   obtain⟨D',H'⟩:=H.sent (x:=x) (gs':=(gs.setIfInBounds 0 (g.finishComm C.P #[scase (ws i).an (.int .i64 x) z] .send 0 undef false)).setIfInBounds (g0+i) (g1.finishComm C.P (selCases C (ws i)) .select 0 (.int .i64 x) true)) hi hst hpos hdf hc hG
    (by simp) (fun m h1 h2=>two_get _ _ h1 h2) (Array.getElem?_setIfInBounds_self_of_lt (by simp;omega)) hrd hwr hkn g.frame.fn g.frame.place g1.frame.fn g1.frame.place
   refine⟨_,_,hrun,?_⟩
   rw[hnil,Array.empty_append]
   refine ih _ (r.trans (rely_setChan hc fun h=>(H.net.lay.dS _ h i hi).1 (H.net.lay.cks i hi).2)) H' ?_
   rw[Array.getElem?_setIfInBounds_ne (by omega),Array.getElem?_setIfInBounds_self_of_lt (by omega),finishComm_send]
  refine until_run (b:=false) (fun e=>by cases e) hs none (fun gs w₁ sl t D q H h0 r _=>?_) (fun _ e=>by cases e) H h0 (Rely.refl _ _ _) fun _ e=>by cases e
  have hsz:=H.net.size
  have hv:=H.net.view i hi
  obtain⟨gi,hgi,hsi⟩:=H.net.sit i hi
  obtain⟨r0,hc⟩:=H.net.chans.an i hi
  have hne:=H.net.chans.ne i hi
  have hothers:∀m y,m≠0→m≠g0+i→gs[m]?=some y→offersAt y (ws i).an false=[]:=fun m y hm hmi hy=>by
   refine H.net.offers hy hm (fun j hj ej M s s' x _ h=>by cases h.1) fun j hj ej M s _ _ h=>?_
   have ne:j≠i:=fun e=>hmi (by rw[ej,e])
   rcases h.2 with h|h
   ·exact(hne.2.2.2 j hj ne).2.2 h.symm
   ·exact hne.2.2.1 h.symm
  cases hpos:(D i).pos with
  |run M s1=>simp only[VSit,hpos] at hv;rw[hst] at hv;cases hv.1
  |sendB M s1 s1' x1=>simp only[VSit,hpos] at hv;rw[hst] at hv;cases hv.1
  |sel M s1=>
   have hparts:partners (gs.setIfInBounds 0 ph) (ws i).an false=[]:=no_partners fun m y hm hy=>by
    by_cases e:m=g0+i
    ·subst e
     rw[hgi] at hy
     obtain rfl:=Option.some.inj hy
     exact offers_of_status (.inl (sel_running hsi hpos)) _ _
    ·exact hothers m y hm e hy
   have hrun:=crowd_waits (P:=C.P) (sl:=sl) (i:=0) h0 (h w₁ r) fun cc hcc=>by
    simp at hcc
    subst hcc
    exact ways_send_none hc (by simp) hparts
   rw[hnil] at hrun
   refine⟨_,_,hrun,?_⟩
   rw[Array.append_empty]
   exact until_snd (w:=w) hi (fun gs w₁ sl t D q g2 H h0 r hg2 hB'=>hC gs w₁ sl t D q g2 H h0 r hg2 hB') ⟨H.net.set0 _,H.bound,H.grp,H.nofin⟩ (Array.getElem?_setIfInBounds_self_of_lt (by omega)) r ⟨M,s1,hpos⟩
  |selB M s1=>
   simp only[WSit,hpos,selStand] at hsi
   obtain⟨g1,rfl,hcont,hdf⟩:=hsi
   simp only[Bool.false_eq_true,if_false] at hgi
   simp only[VSit,hpos] at hv
   have e:s1=s:=by rw[hst] at hv;exact(WState.offd.inj hv.1).symm
   subst e
   have hparts:partners (gs.setIfInBounds 0 ph) (ws i).an false=[(g0+i,0)]:=one_partner (by omega) hgi (by simp[offersAt,parked,selCases,rcase,Ne.symm hne.2.2.1]) fun m y hm hm0 hy=>hothers m y hm hm0 hy
   have hrun:=send_meets_at (P:=C.P) (sl:=sl) (i:=0) (kk:=0) h0 (h w₁ r) hc (by omega) hgi rfl hparts
   obtain⟨_,_,_,hans,_⟩:=hcont w₁ (Rely.refl _ _ _)
   obtain⟨m,hG⟩:=hans x (w₁.setChan (ws i).an 0 #[] false (r0+1) (r0+1) false) (rely_setChan hc fun h=>noWr H.net hi (.inr rfl) i hi h) (C.good_keep _ _ (fun a ha=>(rely_setChan (T:=Tbusy C (ws i) (D i).wr) hc fun h=>noWr H.net hi (.inr rfl) i hi h).cell a (.inl (.inr ha))) (hgood w₁ r))
   obtain⟨D',H'⟩:=H.sent (x:=x) (gs':=(gs.setIfInBounds (g0+i) (g1.finishComm C.P (selCases C (ws i)) .select 0 (.int .i64 x) true)).setIfInBounds 0 (g.finishComm C.P #[scase (ws i).an (.int .i64 x) z] .send 0 undef false)) hi hst (.inr hpos) hdf hc hG
    (by simp) (fun m h1 h2=>two_get _ _ h2 h1) (by rw[Array.getElem?_setIfInBounds_ne (by omega)];exact Array.getElem?_setIfInBounds_self_of_lt (by omega)) hrd hwr hkn g.frame.fn g.frame.place g1.frame.fn g1.frame.place
   refine⟨_,_,hrun,?_⟩
   rw[hnil,Array.empty_append]
   refine ih _ (r.trans (rely_setChan hc fun h=>(H.net.lay.dS _ h i hi).1 (H.net.lay.cks i hi).2)) H' ?_
   rw[Array.getElem?_setIfInBounds_self_of_lt (by simp;omega),finishComm_send]
  |fin x' s1 b=>
   cases b with
   |false=>exact absurd hpos (H.nofin i hi _ _)
   |true=>
    simp only[VSit,hpos] at hv
    rw[hst] at hv
    rcases hv.1 with⟨e,_⟩|⟨e,_⟩<;>cases e
 |@shut T n ws st g w g' hq hs hm ho h hs' k=>
  intro gs sl t D q H h0
  refine until_run (b:=false) (fun e=>by cases e) hs none (fun gs w₁ sl t D q H h0 r _=>?_) (fun _ e=>by cases e) H h0 (Rely.refl _ _ _) fun _ e=>by cases e
  have hsz:=H.net.size
  have hpp:=H.net.pos
  have hc:=H.net.chans.qc
  obtain⟨a1,a2,hwg,hmode⟩:=H.grp
  have hN:=H.net.sshut ho hm hs' g.frame.fn g.frame.place
  refine⟨_,_,runT_crowd_go (i:=0) h0 (h w₁ r hc),.here ⟨n,ws,st,D,T,q,_,_,sl,g',a1,a2,rfl,hN,zero_get (by omega),hq,?_,wg_chan hwg hc,hmode,?_⟩⟩
  ·have:=H.bound;simp[tagI,pend] at this;omega
  ·exact k _ (r.trans (rely_setChan hc H.net.lay.qco))
end
end
end Go.Side
