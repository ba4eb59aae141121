/-
  Texts of Ytbjlijagheifgaa, merged.
-/
import Derived.Test.YtbjlijagheifgaaD37
import Derived.Test.YtbjlijagheifgaaD35
import Derived.Test.YtbjlijagheifgaaD24
import Derived.Maps.OwnSet
import Derived.Maps.Views
set_option linter.unusedSimpArgs false
set_option linter.unusedVariables false
namespace Go.Side
section
open Go Go.ConcN Go.RowKit Go.Proofs.Ytbjlijagheifgaa
def rowA(n:Nat)(r:PS):List Value:=(List.range n).map fun k=>.int .i64 ((r k).1:Int)
def rowZ(n:Nat)(r:PS):List Value:=(List.range n).map fun k=>.int .i64 (r k).2
structure PSm(w:World)(bA bZ n:Nat)(r:PS):Prop where
 at_:Blk w bA 3 (rowA n r)
 sm:Blk w bZ 3 (rowZ n r)
section
variable {w w':World} {bA bZ n k:Nat} {r q:PS}
theorem PSm.upd{S:Nat→Prop}(h:PSm w bA bZ n r)(U:Upd S w w')(h1:¬S bA)(h2:¬S bZ):PSm w' bA bZ n r:=⟨h.1.upd U h1,h.2.upd U h2⟩
theorem PSm.qt(h:PSm w bA bZ n r)(U:Qt w w'):PSm w' bA bZ n r:=⟨h.1.qt U,h.2.qt U⟩
theorem PSm.new(h:PSm w bA bZ n r)(q:Below w.heap.size w w'):PSm w' bA bZ n r:=h.upd (Upd.of_below (S:=fun _=>False) q) id id
theorem PSm.congr(h:PSm w bA bZ n r)(e:∀k,k<n→r k=q k):PSm w bA bZ n q:=by
 have e1:rowA n r=rowA n q:=List.map_congr_left fun k hk=>by rw[e k (List.mem_range.1 hk)]
 have e2:rowZ n r=rowZ n q:=List.map_congr_left fun k hk=>by rw[e k (List.mem_range.1 hk)]
 exact⟨e1▸h.1,e2▸h.2⟩
end
def Fit(L:List TkD)(r:PS):Prop:=∀(k:Nat) (t:TkD),L[k]?=some t→(r k).1≤t.ops.length
def Stp(L:List TkD)(r:PS)(k:Nat):Prop:=∀(t:TkD) (x:OpD),L[k]?=some t→t.ops[(r k).1]?=some x→x.kind≠4
theorem advL_le:∀(l:List OpD) (p:Nat) (z:Int),p≤(advL l p z).1∧(advL l p z).1≤p+l.length
 |[],p,z=>⟨Nat.le_refl _,Nat.le_refl _⟩
 |o::l,p,z=>by
  unfold advL
  split
  ·have:=advL_le l (p+1) (IntKind.i64.wrap (z+o.val))
   simp only[List.length_cons];omega
  ·simp
section
variable {L:List TkD} {r q s:PS} {i:Nat} {t:TkD} {x:OpD}
theorem Fit.adv(h:Fit L r):Fit L (advS L r):=fun k t ht=>by
 have h1:=h k t ht
 have h2:=advL_le (t.ops.drop (r k).1) (r k).1 (r k).2
 unfold advS
 rw[ht]
 simp only[List.length_drop] at h2⊢
 omega
theorem adv_ge(L:List TkD)(r:PS)(k:Nat):(r k).1≤(advS L r k).1:=by
 unfold advS
 cases h:L[k]? with
 |none=>exact Nat.le_refl _
 |some t=>exact(advL_le _ _ _).1
theorem adv_stop(h:Stp L r i):advS L r i=r i:=by
 unfold advS
 cases ht:L[i]? with
 |none=>rfl
 |some t=>exact advL_stop fun y hy=>h t y ht (by simpa using hy)
theorem adv_add(ht:L[i]?=some t)(hx:t.ops[(r i).1]?=some x)(hk:x.kind=4):advS L (upd r i ((r i).1+1,IntKind.i64.wrap ((r i).2+x.val)))=advS L r:=by
 funext k
 by_cases e:k=i
 ·subst e
  unfold advS
  rw[ht,upd_eq]
  have hl:(r k).1<t.ops.length:=(List.getElem?_eq_some_iff.1 hx).1
  have hd:t.ops.drop (r k).1=x::t.ops.drop ((r k).1+1):=by
   rw[List.drop_eq_getElem_cons hl]
   rw[List.getElem?_eq_getElem hl] at hx
   rw[Option.some.inj hx]
  simp only
  rw[hd,advL,if_pos hk]
 ·unfold advS
  rw[upd_other _ _ e]
theorem advS_adv(L:List TkD)(r:PS):∀k,Stp L (advS L r) k:=by
 intro k t x ht hx
 unfold advS at hx
 rw[ht] at hx
 obtain⟨m,h1,_,h3⟩:=advL_spec (t.ops.drop (r k).1) (r k).1 (r k).2
 simp only at hx
 rw[h1] at hx
 exact h3 x (by rw[List.getElem?_drop];exact hx)
structure Adv(L:List TkD)(s q:PS)(i:Nat):Prop where
 fit:Fit L q
 adv:advS L q=s
 stp:∀k,k<i→Stp L q k
theorem Adv.start(h:Fit L r):Adv L (advS L r) r 0:=⟨h,rfl,fun k hk=>by omega⟩
theorem Adv.next(h:Adv L s q i)(hs:Stp L q i):Adv L s q (i+1):=⟨h.fit,h.adv,fun k hk=>by
 by_cases e:k=i
 ·subst e;exact hs
 ·exact h.stp k (by omega)⟩
theorem Adv.add(h:Adv L s q i)(ht:L[i]?=some t)(hx:t.ops[(q i).1]?=some x)(hk:x.kind=4):Adv L s (upd q i ((q i).1+1,IntKind.i64.wrap ((q i).2+x.val))) i:=by
 refine⟨fun k t' ht'=>?_,by rw[adv_add ht hx hk];exact h.adv,fun k hk'=>?_⟩
 ·by_cases e:k=i
  ·subst e
   rw[upd_eq]
   obtain rfl:t=t':=Option.some.inj (ht.symm.trans ht')
   exact(List.getElem?_eq_some_iff.1 hx).1
  ·rw[upd_other _ _ e];exact h.fit k t' ht'
 ·intro t' y h1 h2
  rw[upd_other _ _ (by omega)] at h2
  exact h.stp k hk' t' y h1 h2
theorem Adv.done(h:Adv L s q L.length):∀k,k<L.length→q k=s k:=fun k hk=>by rw[←h.adv,adv_stop (h.stp k hk)]
end
section
variable {L:List TkD} {s:PS} {x:StepP}
theorem possS_get(h:x∈possS L s):x.fr<L.length∧x.tg<L.length∧x.fr≠x.tg∧(∃t,L[x.fr]?=some t∧(s x.fr).1<t.ops.length)∧∃t,L[x.tg]?=some t∧(s x.tg).1<t.ops.length:=by
 obtain⟨h1,h2,a,b,h3,h4,_⟩:=possD_mem h
 have f:∀{k:Nat} {a:OpD},offS L s k=some a→∃t,L[k]?=some t∧(s k).1<t.ops.length:=fun{k a} h=>by
  unfold offS at h
  cases ht:L[k]? with
  |none=>rw[ht] at h;cases h
  |some t=>rw[ht] at h;exact⟨t,rfl,(List.getElem?_eq_some_iff.1 h).1⟩
 exact⟨h1,h2,possS_ne h,f h3,f h4⟩
theorem Fit.step(h:Fit L s)(hx:x∈possS L s):Fit L (stepS s x):=fun k t ht=>by
 obtain⟨_,_,hne,⟨t1,e1,l1⟩,t2,e2,l2⟩:=possS_get hx
 unfold stepS
 by_cases a:k=x.tg
 ·subst a
  rw[upd_eq]
  obtain rfl:t2=t:=Option.some.inj (e2.symm.trans ht)
  exact l2
 ·rw[upd_other _ _ a]
  by_cases b:k=x.fr
  ·subst b
   rw[upd_eq]
   obtain rfl:t1=t:=Option.some.inj (e1.symm.trans ht)
   exact l1
  ·rw[upd_other _ _ b];exact h k t ht
def posT(n:Nat)(s:PS):Nat:=sumTo n fun k=>(s k).1
theorem posT_le{n m:Nat}(h:∀k,k<n→(s k).1≤m):posT n s≤n*m:=sumTo_le h
theorem sumTo_mono{f g:Nat→Nat}:∀{n:Nat},(∀k,k<n→f k≤g k)→sumTo n f≤sumTo n g
 |0,_=>Nat.le_refl _
 |n+1,h=>by
  have:=sumTo_mono (n:=n) fun k hk=>h k (by omega)
  have:=h n (by omega)
  simp only[sumTo];omega
theorem posT_adv(L:List TkD)(n:Nat)(s:PS):posT n s≤posT n (advS L s):=sumTo_mono fun k _=>adv_ge L s k
theorem posT_step(hx:x∈possS L s):posT L.length (stepS s x)=posT L.length s+2:=by
 obtain⟨h1,h2,hne,_⟩:=possS_get hx
 have e1:=sumTo_upd (j:=L.length) s ((s x.fr).1+1,(s x.fr).2) (fun y=>y.1) h1
 have e2:=sumTo_upd (j:=L.length) (upd s x.fr ((s x.fr).1+1,(s x.fr).2)) ((s x.tg).1+1,IntKind.i64.wrap ((s x.tg).2+x.vl)) (fun y=>y.1) h2
 rw[upd_other _ _ (Ne.symm hne)] at e2
 unfold posT stepS
 simp only at e1 e2
 omega
structure RunS(L:List TkD)(ch:List Int)(r:PS)(S:List StepP):Prop where
 fit:Fit L r
 cnt:2*S.length≤posT L.length r
 all:∀s' S',RunA L ch (advS L r) S s' S'→Outc L ch s' S'
theorem RunS.start(L:List TkD)(ch:List Int):RunS L ch (fun _=>(0,0)) []:=⟨fun _ _ _=>Nat.zero_le _,Nat.zero_le _,fun _ _ h=>h⟩
theorem RunS.step{ch:List Int}{r:PS}{S:List StepP}(h:RunS L ch r S)(hx:(possS L (advS L r))[pickP ch S.length (possS L (advS L r)).length]?=some x):RunS L ch (stepS (advS L r) x) (S++[x]):=by
 have hm:=List.mem_of_getElem? hx
 have h1:=posT_step hm
 have h2:=posT_adv L L.length r
 have h3:=h.cnt
 exact⟨h.fit.adv.step hm,by rw[List.length_append];simp;omega,fun s' S' k=>h.all s' S' (.step hx k)⟩
theorem RunS.len{ch:List Int}{r:PS}{S:List StepP}(h:RunS L ch r S)(hl:L.length≤8)(ho:∀t∈L,t.ops.length≤30):S.length≤120:=by
 have h1:posT L.length r≤L.length*30:=posT_le fun k hk=>Nat.le_trans (h.fit k _ (List.getElem?_eq_getElem hk)) (ho _ (List.getElem_mem hk))
 have h2:=h.cnt
 omega
end
end
section
open Go Go.ConcN Go.Proofs.Ytbjlijagheifgaa
structure NoRace(L:List TkD):Prop where
 snd:∃m:Int→Option Nat,∀(i:Nat) (t:TkD),L[i]?=some t→∀o∈t.ops,o.kind=1→m o.chan=some i
 rcv:∃m:Int→Option Nat,∀(i:Nat) (t:TkD),L[i]?=some t→∀o∈t.ops,o.kind=2→m o.chan=some i
 sel:∀(i:Nat) (t:TkD),L[i]?=some t→∀o∈t.ops,o.kind≠3
inductive StpN(L:List TkD):PS→Nat→PS→Prop
 |done {s:PS} (h:possS L s=[]):StpN L s 0 s
 |step {s s':PS} {n:Nat} {x:StepP} (h:x∈possS L s) (k:StpN L (advS L (stepS s x)) n s'):StpN L s (n+1) s'
theorem stpN_of{L:List TkD}{ch:List Int}{s s':PS}{S S':List StepP}(h:RunA L ch s S s' S'):∃n,S'.length=S.length+n∧StpN L s n s':=by
 induction h with
 |done h=>exact⟨0,rfl,.done h⟩
 |step h _ ih=>
  obtain⟨n,h1,h2⟩:=ih
  refine⟨n+1,?_,.step (List.mem_of_getElem? h) h2⟩
  rw[h1,List.length_append,List.length_singleton]
  omega
section
variable {L:List TkD} {s r:PS} {x y:StepP} {k:Nat}
theorem offS_mem{a:OpD}(h:offS L s k=some a):∃t,L[k]?=some t∧a∈t.ops:=by
 unfold offS at h
 cases ht:L[k]? with
 |none=>rw[ht] at h;cases h
 |some t=>rw[ht] at h;exact⟨t,rfl,List.mem_of_getElem? h⟩
theorem offS_congr(h:s k=r k):offS L s k=offS L r k:=by unfold offS;rw[h]
theorem advS_congr(h:s k=r k):advS L s k=advS L r k:=by unfold advS;rw[h]
theorem stepS_congr(h:s k=r k):stepS s x k=stepS r x k:=by
 unfold stepS
 by_cases a:k=x.tg
 ·subst a
  rw[upd_eq,upd_eq,h]
 ·rw[upd_other _ _ a,upd_other _ _ a]
  by_cases b:k=x.fr
  ·subst b
   rw[upd_eq,upd_eq,h]
  ·rw[upd_other _ _ b,upd_other _ _ b,h]
theorem stepS_other(h1:k≠x.fr)(h2:k≠x.tg):stepS s x k=s k:=by
 unfold stepS
 rw[upd_other _ _ h2,upd_other _ _ h1]
theorem advS_idem(s:PS):advS L (advS L s)=advS L s:=funext fun k=>adv_stop (advS_adv L s k)
theorem poss_spec(N:NoRace L)(h:x∈possS L s):x.fr<L.length∧x.tg<L.length∧∃a b,offS L s x.fr=some a∧offS L s x.tg=some b∧a.kind=1∧b.kind=2∧x.vl=a.val∧x.ch=a.chan∧b.chan=a.chan:=by
 obtain⟨h1,h2,a,b,h3,h4,h5,h6,h7,h8,h9⟩:=possD_mem h
 obtain⟨t,ht,hb⟩:=offS_mem h4
 have hb2:b.kind=2:=h6.resolve_right (N.sel _ t ht b hb)
 refine⟨h1,h2,a,b,h3,h4,h5,hb2,h7,h8,?_⟩
 unfold takesD at h9
 simp only[hb2] at h9
 simpa using h9
theorem poss_put{a b:OpD}(h1:x.fr<L.length)(h2:x.tg<L.length)(h3:offS L s x.fr=some a)(h4:offS L s x.tg=some b)(h5:a.kind=1)(h6:b.kind=2)(h7:x.vl=a.val)(h8:x.ch=a.chan)(h9:b.chan=a.chan):x∈possS L s:=by
 unfold possS possD
 refine List.mem_flatMap.2 ⟨x.fr,List.mem_range.2 h1,?_⟩
 rw[h3]
 simp only[h5,if_true]
 refine List.mem_map.2 ⟨x.tg,List.mem_filter.2 ⟨List.mem_range.2 h2,?_⟩,?_⟩
 ·rw[h4]
  simp[takesD,h6,h9]
 ·rw[←h7,←h8]
theorem NoRace.snd1(N:NoRace L){f g:Nat}{a b:OpD}{r:PS}(h:offS L s f=some a)(k:offS L r g=some b)(ha:a.kind=1)(hb:b.kind=1)(e:a.chan=b.chan):f=g:=by
 obtain⟨m,hm⟩:=N.snd
 obtain⟨t,ht,h1⟩:=offS_mem h
 obtain⟨t',ht',h2⟩:=offS_mem k
 have p:=hm f t ht a h1 ha
 have q:=hm g t' ht' b h2 hb
 rw[e,q] at p
 exact(Option.some.inj p).symm
theorem NoRace.rcv1(N:NoRace L){f g:Nat}{a b:OpD}{r:PS}(h:offS L s f=some a)(k:offS L r g=some b)(ha:a.kind=2)(hb:b.kind=2)(e:a.chan=b.chan):f=g:=by
 obtain⟨m,hm⟩:=N.rcv
 obtain⟨t,ht,h1⟩:=offS_mem h
 obtain⟨t',ht',h2⟩:=offS_mem k
 have p:=hm f t ht a h1 ha
 have q:=hm g t' ht' b h2 hb
 rw[e,q] at p
 exact(Option.some.inj p).symm
theorem poss_apart(N:NoRace L)(hx:x∈possS L s)(hy:y∈possS L s)(hne:x≠y):x.fr≠y.fr∧x.fr≠y.tg∧x.tg≠y.fr∧x.tg≠y.tg:=by
 obtain⟨_,_,a,b,h1,h2,h3,h4,h5,h6,h7⟩:=poss_spec N hx
 obtain⟨_,_,c,d,k1,k2,k3,k4,k5,k6,k7⟩:=poss_spec N hy
 have same:x.fr=y.fr→x.tg=y.tg→False:=fun e f=>by
  rw[e,k1] at h1
  obtain rfl:=Option.some.inj h1
  apply hne
  obtain⟨x1,x2,x3,x4⟩:=x
  obtain⟨y1,y2,y3,y4⟩:=y
  simp only at e f h5 h6 k5 k6
  subst e;subst f
  rw[h5,h6,k5,k6]
 refine⟨fun e=>?_,fun e=>?_,fun e=>?_,fun e=>?_⟩
 ·have h1':=h1
  rw[e,k1] at h1'
  obtain rfl:=Option.some.inj h1'
  exact same e (N.rcv1 h2 k2 h4 k4 (h7.trans k7.symm))
 ·rw[e,k2] at h1
  obtain rfl:=Option.some.inj h1
  omega
 ·rw[e,k1] at h2
  obtain rfl:=Option.some.inj h2
  omega
 ·have h2':=h2
  rw[e,k2] at h2'
  obtain rfl:=Option.some.inj h2'
  exact same (N.snd1 h1 k1 h3 k3 (h7.symm.trans k7)) e
def nxS(L:List TkD)(s:PS)(x:StepP):PS:=advS L (stepS s x)
theorem nxS_other(hs:advS L s=s)(h1:k≠x.fr)(h2:k≠x.tg):nxS L s x k=s k:=by
 unfold nxS
 rw[advS_congr (r:=s) (stepS_other h1 h2),hs]
theorem nxS_congr(h:s k=r k):nxS L s x k=nxS L r x k:=advS_congr (stepS_congr h)
theorem poss_keep(N:NoRace L)(hs:advS L s=s)(hx:x∈possS L s)(hy:y∈possS L s)(hne:x≠y):y∈possS L (nxS L s x):=by
 obtain⟨a1,a2,a3,a4⟩:=poss_apart N hx hy hne
 obtain⟨l1,l2,c,d,k1,k2,k3,k4,k5,k6,k7⟩:=poss_spec N hy
 exact poss_put l1 l2 (by rw[offS_congr (nxS_other hs a1.symm a3.symm)];exact k1) (by rw[offS_congr (nxS_other hs a2.symm a4.symm)];exact k2) k3 k4 k5 k6 k7
theorem poss_swap(N:NoRace L)(hs:advS L s=s)(hx:x∈possS L s)(hy:y∈possS L s)(hne:x≠y):nxS L (nxS L s x) y=nxS L (nxS L s y) x:=by
 obtain⟨a1,a2,a3,a4⟩:=poss_apart N hx hy hne
 have st:∀z,advS L (nxS L s z)=nxS L s z:=fun z=>advS_idem _
 funext k
 by_cases h:k=x.fr∨k=x.tg
 ·have h1:k≠y.fr:=by rcases h with rfl|rfl<;>assumption
  have h2:k≠y.tg:=by rcases h with rfl|rfl<;>assumption
  rw[nxS_other (st x) h1 h2]
  exact nxS_congr (nxS_other hs h1 h2).symm
 ·have h1:k≠x.fr:=fun e=>h (.inl e)
  have h2:k≠x.tg:=fun e=>h (.inr e)
  rw[nxS_other (st y) h1 h2]
  exact nxS_congr (nxS_other hs h1 h2)
end
theorem StpN.strip{L:List TkD}(N:NoRace L){s s':PS}{n:Nat}(h:StpN L s n s'):advS L s=s→∀x∈possS L s,∃m,n=m+1∧StpN L (nxS L s x) m s':=by
 induction h with
 |done h=>intro _ x hx;rw[h] at hx;cases hx
 |@step s s' n y hy k ih=>
  intro hs x hx
  by_cases e:x=y
  ·subst e;exact⟨n,rfl,k⟩
  ·obtain⟨m,rfl,hm⟩:=ih (advS_idem _) x (poss_keep N hs hy hx (Ne.symm e))
   refine⟨m+1,rfl,.step (poss_keep N hs hx hy e) ?_⟩
   show StpN L (nxS L (nxS L s x) y) m s'
   rw[poss_swap N hs hx hy e]
   exact hm
theorem StpN.uniq{L:List TkD}(N:NoRace L){s s₁:PS}{n:Nat}(h:StpN L s n s₁):advS L s=s→∀m s₂,StpN L s m s₂→n=m∧s₁=s₂:=by
 induction h with
 |done h=>
  intro _ m s₂ k
  cases k with
  |done=>exact⟨rfl,rfl⟩
  |step hx=>rw[h] at hx;cases hx
 |@step s s' n y hy k ih=>
  intro hs m s₂ k2
  obtain⟨m',rfl,hm⟩:=k2.strip N hs y hy
  obtain⟨rfl,rfl⟩:=ih (advS_idem _) m' s₂ hm
  exact⟨rfl,rfl⟩
theorem outc_same2{L:List TkD}(N:NoRace L){ca cb:List Int}{s₁ s₂:PS}{S₁ S₂:List StepP}(h:Outc L ca s₁ S₁)(k:Outc L cb s₂ S₂):s₁=s₂∧S₁.length=S₂.length:=by
 obtain⟨n,h1,h2⟩:=stpN_of h
 obtain⟨m,k1,k2⟩:=stpN_of k
 obtain⟨rfl,rfl⟩:=h2.uniq N (advS_idem _) m s₂ k2
 exact⟨rfl,by rw[h1,k1]⟩
end
end Go.Side
namespace Go.Proofs.Ytbjlijagheifgaa
section
open Go.RowKit
def opBig(x:OpD):Bool:=decide (20<x.el.length)
def tkBig(t:TkD):Bool:=decide (60<t.ops.length)||t.ops.any opBig
def greatB(L:List TkD):Bool:=decide (40<L.length)||L.any tkBig
theorem great_small{L:List TkD}(h:greatB L=false):L.length≤40∧∀t∈L,t.ops.length≤60∧∀x∈t.ops,x.el.length≤20:=by
 unfold greatB at h
 simp only[Bool.or_eq_false_iff,decide_eq_false_iff_not,List.any_eq_false] at h
 refine⟨by omega,fun t ht=>?_⟩
 have:=h.2 t ht
 unfold tkBig at this
 simp only[Bool.or_eq_true,decide_eq_true_eq,not_or,List.any_eq_true,not_exists,not_and] at this
 refine⟨by omega,fun x hx=>?_⟩
 have:=this.2 x hx
 unfold opBig at this
 simp only[decide_eq_true_eq] at this
 omega
set_option maxHeartbeats 2000000 in
theorem great1_any(x:OpD)(w:World):
  Calls Try.prog 33 #[.agg #[.int .i64 x.kind,.int .i64 x.chan,.int .i64 x.val,.slice x.ea x.el.length x.ec]] w fun e w'=>e= .returned (.bool (opBig x))∧Below w.heap.size w w':=by
 unfold opBig
 have h:Hid (decide ((20:Int)<(x.el.length:Int))=decide (20<x.el.length)):=by show _=_;rw[decide_eq_decide];omega
 generalize decide (20<x.el.length)=b at*
 generalize x.el.length=m at*
 generalize x.ea=ea at*
 generalize x.ec=ec at*
 generalize x.kind=k1 at*
 generalize x.chan=k2 at*
 generalize x.val=k3 at*
 go_enter Try.func33,Try.ntmps33
 go_wp2_with fail
 go_ret
 exact⟨ret_bool h.out,(Below.refl _ _).alloc (Nat.le_refl _) _⟩
def BgPost(xs:List OpD)(w:World)(e:Ending)(w':World):Prop:=∃r:Int,e= .returned (.int .i64 r)∧decide (0≤r)=xs.any opBig∧Below w.heap.size w w'
def BgRel(xs:List OpD)(w:World)(i:Value)(wr:World):Prop:=∃k:Nat,k≤xs.length∧i= .int .i64 k∧(xs.take k).any opBig=false∧Below w.heap.size w wr
set_option maxHeartbeats 4000000 in
set_option maxRecDepth 100000 in
theorem bigIdx_any(w:World)(a:Option Addr)(c:Nat)(xs:List OpD)(hs:SlOp w a xs)(hl:xs.length≤maxLen):
  Calls Try.prog 59 #[.slice a xs.length c,.func (.func 33) #[] #[]] w (BgPost xs w):=by
 have S:=Lib.hid hs
 clear hs
 unfold maxLen at hl
 go_enter Try.func59,Try.ntmps59
 go_wp2_with fail
 go_loopw [8] (fun i wr=>BgRel xs w i wr) (fun i _=>xs.length-(intOf i).toNat)
 case atStart=>exact⟨0,Nat.zero_le _,rfl,rfl,Below.refl _ _⟩
 case round=>
  obtain⟨k,hk,rfl,hno,hB⟩:=hrel
  have HB:=Lib.hid hB;have NO:=Lib.hid hno
  clear hB hno
  by_cases hlt:k<xs.length
  ·obtain⟨x,ex,okx,c0,c1,c2,c3⟩:=(S.out.reads (Reads.below HB.out)).get (k:=k) hlt
   have hst:Hid ((xs.take (k+1)).any opBig=opBig x):=by
    show _=_
    rw[List.take_add_one,ex.out,List.any_append,NO.out]
    simp
   have F:=Lib.hid (great1_any x wr)
   cases hb:opBig x with
   |true=>
    have hany:Hid (xs.any opBig=true):=by show _=_;rw[List.any_eq_true];exact⟨x,List.mem_of_getElem? ex.out,hb⟩
    rw[hb] at F
    clear hb
    go_wp2_with fail
    refine F.out.mono ?_
    rintro e w1 ⟨rfl,hb⟩
    have B1:=Lib.hid (HB.out.trans (hb.mono HB.out.size));clear hb
    go_wp2_with fail
    go_ret
    exact⟨_,rfl,by rw[hany.out];simp,B1.out⟩
   |false=>
    rw[hb] at F hst
    clear hb
    go_wp2_with fail
    refine F.out.mono ?_
    rintro e w1 ⟨rfl,hb⟩
    have B1:=Lib.hid (HB.out.trans (hb.mono HB.out.size));clear hb
    go_wp2_with fail
    go_roundw
    case rel=>exact⟨k+1,by omega,by go_num,hst.out,B1.out⟩
    case measure=>simp[intOf];omega
  ·obtain rfl:k=xs.length:=by omega
   have hany:Hid (xs.any opBig=false):=by
    have h:=NO.out
    rw[List.take_length] at h
    exact h
   go_wp2_with fail
   go_ret
   exact⟨_,rfl,by rw[hany.out];rfl,HB.out⟩
def GbPost(w:World)(r:Bool)(e:Ending)(w':World):Prop:=e= .returned (.bool r)∧Below w.heap.size w w'
set_option maxHeartbeats 4000000 in
theorem bigHas_any(w:World)(a:Option Addr)(c:Nat)(xs:List OpD)(hs:SlOp w a xs)(hl:xs.length≤maxLen):
  Calls Try.prog 32 #[.slice a xs.length c,.func (.func 33) #[] #[]] w (GbPost w (xs.any opBig)):=by
 have I:=Lib.hid (bigIdx_any w a c xs hs hl)
 clear hs hl
 generalize xs.length=m at*
 go_enter Try.func32,Try.ntmps32
 go_wp2_with fail
 refine I.out.mono ?_
 rintro e w1 ⟨r,rfl,hr,hb⟩
 have HR:=Lib.hid hr
 clear hr
 go_wp2_with fail
 go_ret
 exact⟨by rw[←HR.out];rfl,hb⟩
def GrRel(L:List TkD)(w:World)(i:Value)(wr:World):Prop:=∃k:Nat,k≤L.length∧i= .int .i64 k∧(L.take k).any tkBig=false∧Below w.heap.size w wr
set_option maxHeartbeats 4000000 in
set_option maxRecDepth 100000 in
theorem great_any(w:World)(a:Option Addr)(c:Nat)(L:List TkD)(hs:SlT w a L)(hl:L.length≤maxLen):
  Calls Try.prog 13 #[.slice a L.length c] w (GbPost w (greatB L)):=by
 have S:=Lib.hid hs
 clear hs
 unfold maxLen at hl
 by_cases h1:40<L.length
 ·have e1:Hid (greatB L=true):=by show _=_;unfold greatB;simp[h1]
  have e2:(40:Int)<(L.length:Int):=by omega
  rw[e1.out]
  clear S
  generalize L.length=n at*
  clear h1
  go_enter Try.func13,Try.ntmps13
  go_wp2_with fail
  go_ret
  exact⟨rfl,Below.refl _ _⟩
 ·have GB:Hid (greatB L=L.any tkBig):=by show _=_;unfold greatB;simp[h1]
  have e2:¬(40:Int)<(L.length:Int):=by omega
  rw[GB.out]
  clear GB
  obtain⟨n,hn⟩:∃n,L.length=n:=⟨_,rfl⟩
  have HN:=Lib.hid hn
  rw[hn] at e2 h1⊢
  clear hn hl
  go_enter Try.func13,Try.ntmps13
  go_wp2_with fail
  go_loopw [10] (fun i wr=>GrRel L w i wr) (fun i _=>n-(intOf i).toNat)
  case atStart=>exact⟨0,Nat.zero_le _,rfl,rfl,Below.refl _ _⟩
  case round=>
   obtain⟨k,hk,rfl,hno,hB⟩:=hrel
   have HB:=Lib.hid hB;have NO:=Lib.hid hno
   rw[HN.out] at hk
   clear hB hno
   by_cases hlt:k<n
   ·obtain⟨t,ht,okt,c0,TO⟩:=(S.out.reads (Reads.below HB.out)).get (k:=k) (by rw[HN.out];exact hlt)
    have hst:Hid ((L.take (k+1)).any tkBig=tkBig t):=by
     show _=_
     rw[List.take_add_one,ht.out,List.any_append,NO.out]
     simp
    have hany:Hid (tkBig t=true→L.any tkBig=true):=Lib.hid fun h=>List.any_eq_true.2 ⟨t,List.mem_of_getElem? ht.out,h⟩
    have htl:=TO.out.len
    unfold maxLen at htl
    have C:=Lib.hid (bigHas_any wr t.a t.c t.ops TO.out.row TO.out.len)
    have TB:Hid (tkBig t=(decide (60<t.ops.length)||t.ops.any opBig)):=Lib.hid rfl
    generalize tkBig t=tb at*
    generalize t.ops.any opBig=ab at*
    generalize t.ops.length=m at*
    generalize t.a=ta at*
    generalize t.c=tc at*
    clear TO ht
    by_cases h60:60<m
    ·obtain rfl:tb=true:=by rw[TB.out];simp[h60]
     have hi60:(60:Int)<(m:Int):=by omega
     have HA:=Lib.hid (hany.out rfl)
     clear C TB h60 hst hany
     go_wp2_with fail
     go_ret
     exact⟨by rw[HA.out];rfl,HB.out⟩
    ·have hi60:¬(60:Int)<(m:Int):=by omega
     obtain rfl:tb=ab:=by rw[TB.out];simp[h60]
     clear TB h60
     cases tb with
     |true=>
      have HA:=Lib.hid (hany.out rfl)
      clear hst hany
      go_wp2_with fail
      refine C.out.mono ?_
      rintro e w1 ⟨rfl,hb⟩
      have B1:=Lib.hid (HB.out.trans (hb.mono HB.out.size));clear hb
      go_wp2_with fail
      go_ret
      exact⟨by rw[HA.out];rfl,B1.out⟩
     |false=>
      clear hany
      go_wp2_with fail
      refine C.out.mono ?_
      rintro e w1 ⟨rfl,hb⟩
      have B1:=Lib.hid (HB.out.trans (hb.mono HB.out.size));clear hb
      go_wp2_with fail
      go_roundw
      case rel=>exact⟨k+1,by rw[HN.out];omega,by go_num,hst.out,B1.out⟩
      case measure=>simp[intOf];omega
   ·obtain rfl:k=n:=by omega
    have hany:Hid (L.any tkBig=false):=by
     have h:=NO.out
     rw[←HN.out,List.take_length] at h
     exact h
    go_wp2_with fail
    go_ret
    exact⟨by rw[hany.out];rfl,HB.out⟩
end
section
open Go.RowKit
def mpV(F:Int→Option Nat)(c:Int):Int:=match F c with|some x=>(x:Int)|none=>0
def MpAt(w:World)(b n:Nat)(F:Int→Option Nat):Prop:=
 ∃D:DataW Unit,w.ownsMap Try.prog 3 (plainElem Try.prog 3) b n D∧∀c:Int,0≤c→c≤1000→Maps.has D (.int .i64 c)=(F c).isSome∧D.atKey (.int .i64 c) (.lit (.int .i64 0))= .lit (.int .i64 (mpV F c))
theorem mp_wf{c:Int}(h0:0≤c)(h1:c≤1000):(Lit.int .i64 c).wf=true:=by
 simp[Lit.wf,IntKind.min,IntKind.max,IntKind.signed,IntKind.bits]
 omega
theorem mp_key{c:Int}(h0:0≤c)(h1:c≤1000):keyOf Try.prog 3 (.int .i64 c)=some (.int .i64 c):=Maps.keyOf_int_mk Try.underlying3 (mp_wf h0 h1)
theorem mp_keyed:Maps.Keyed Try.prog 3:=Maps.int_keyed Try.underlying3
def mpPut(F:Int→Option Nat)(c:Int)(x:Nat):Int→Option Nat:=fun d=>if d=c then some x else F d
theorem mpInfo:(Try.prog.info? 3).map (fun i=>(i.zero,i.size))=some (some (.int .i64 0),1):=by kernel_rfl
theorem mp_zero(w:World):(zeroValue 3).run Try.prog w= .ok (.int .i64 0) w:=by
 have h:=mpInfo
 cases hi:Try.prog.info? 3 with
 |none=>rw[hi] at h;cases h
 |some i=>
  rw[hi] at h
  simp at h
  simp[zeroValue,typeInfo,hi,h.1,go_sem]
section
variable {w w':World} {b n:Nat} {F:Int→Option Nat} {S:Nat→Prop}
theorem MpAt.lt(h:MpAt w b n F):b<w.heap.size:=by obtain⟨D,h1, -⟩:=h;exact h1.lt
theorem MpAt.upd(h:MpAt w b n F)(u:Upd S w w')(hs:¬S b):MpAt w' b n F:=by
 obtain⟨D,⟨es,clock,hb,r⟩,h2⟩:=h
 exact⟨D,⟨es,clock,(u.block b (Array.getElem?_eq_some_iff.1 hb).1 hs).trans hb,r⟩,h2⟩
theorem MpAt.below(h:MpAt w b n F)(u:Below w.heap.size w w'):MpAt w' b n F:=h.upd (Upd.of_below (S:=fun _=>False) u) id
theorem MpAt.made(w:World):MpAt (w.alloc (.map #[] 0)) w.heap.size 0 fun _=>none:=⟨.map [],World.ownsMap_made _ _ _ _,fun c _ _=>⟨rfl,rfl⟩⟩
theorem MpAt.look(h:MpAt w b n F){c:Int}(h0:0≤c)(h1:c≤1000):(Instr.lookup 58 (.map (some b)) (.int .i64 c) true).run Try.prog w= .ok (.tuple #[.int .i64 (mpV F c),.bool (F c).isSome]) w:=by
 obtain⟨D,hD,h2⟩:=h
 obtain⟨g1,g2⟩:=h2 c h0 h1
 obtain⟨v,ps,hr,hv⟩:=hD.look_ok mp_keyed Try.underlying58 (mp_zero w) (plainElem_int Try.underlying3 (by decide)) (mp_key h0 h1)
 rw[g1] at hr
 rw[g2] at hv
 obtain⟨x,rfl,hx,_⟩:=plainElem_int_inv Try.underlying3 hv
 have e:x=mpV F c:=by
  have:=congrArg Prod.fst hx
  simp at this
  exact this.symm
 rw[←e]
 exact hr
theorem mp_turned_upd{b:Nat}(h:w.mapTurned w' b):Upd (fun k=>k=b) w w':=by
 obtain⟨es,clock,es',clock',hb,rfl⟩:=h
 exact⟨rfl,rfl,rfl,by simp[Go.ChangeMaps.setBlock],fun i hi hne=>Go.ChangeMaps.heap_setBlock_other hb _ hne⟩
theorem mp_ne{c d:Int}(h:d≠c):(Lit.int .i64 d)≠ .int .i64 c:=fun e=>by injection e with _ e;exact h e
theorem MpAt.store(h:MpAt w b n F)(hn:n<maxLen){c:Int}(h0:0≤c)(h1:c≤1000){x:Nat}(hx:x≤1000):
  ∃w',(Instr.mapUpdate 58 (.map (some b)) (.int .i64 c) (.int .i64 (x:Int))).run Try.prog w= .ok () w'∧MpAt w' b (n+1) (mpPut F c x)∧Upd (fun k=>k=b) w w':=by
 obtain⟨D,hD,h2⟩:=h
 obtain⟨w',hr,ho,ht⟩:=hD.store mp_keyed Try.underlying58 hn (mp_key h0 h1) (plainElem_int Try.underlying3 (mp_wf (c:=(x:Int)) (by omega) (by omega)))
 refine⟨w',hr,⟨_,ho,fun d e0 e1=>?_⟩,mp_turned_upd ht⟩
 unfold mpV mpPut
 by_cases e:d=c
 ·subst e
  rw[if_pos rfl]
  exact⟨Maps.has_put_same hD.isMap (mp_keyed.key (mp_key h0 h1)) _,Maps.atKey_put_same hD.isMap (mp_keyed.key (mp_key h0 h1)) _ _⟩
 ·rw[if_neg e,Maps.has_put_other (mp_ne e),Maps.atKey_put_other (mp_ne e)]
  exact h2 d e0 e1
end
end
end Go.Proofs.Ytbjlijagheifgaa
