/-
  Texts of Ytbjlijagheifgaa, merged.
-/
import Derived.Test.YtbjlijagheifgaaC38
import Derived.Test.YtbjlijagheifgaaC37
import Derived.Test.YtbjlijagheifgaaC26
set_option linter.unusedSimpArgs false
set_option linter.unusedVariables false
namespace Go.Proofs.Ytbjlijagheifgaa
section
open Go.RowKit Go.Side
def InV(w:World)(v:Value)(l:List Int):Prop:=∃a c,v= .slice a l.length c∧Sl (Value.int .i64) w a l
theorem InV.reads{w w':World}{v:Value}{l:List Int}(h:InV w v l)(q:Reads w w'):InV w' v l:=let⟨a,c,e,k⟩:=h;⟨a,c,e,k.reads q⟩
theorem StV.reads{w w':World}{v:Value}{S:List StepP}(h:StV w v S)(q:Reads w w'):StV w' v S:=let⟨a,c,e,k⟩:=h;⟨a,c,e,k.reads q⟩
def EqlPost(w:World)(p:Prop)(e:Ending)(w':World):Prop:=∃b,e= .returned (.bool b)∧(b=true↔p)∧Below w.heap.size w w'
set_option maxHeartbeats 8000000 in
set_option maxRecDepth 100000 in
theorem equal_any(w:World)(v0 v1 v2 u0 u1 u2:Value)(S T:List StepP)(s t s' t':List Int)(h0:StV w v0 S)(h1:InV w v1 s)(h2:InV w v2 s')(k0:StV w u0 T)(k1:InV w u1 t)(k2:InV w u2 t')(hl:S.length≤maxLen)(hl1:s.length≤maxLen)(hl2:s'.length≤maxLen):
  Calls Try.prog 17 #[.agg #[v0,v1,v2],.agg #[u0,u1,u2]] w (EqlPost w (S=T∧s=t∧s'=t')):=by
 have HS:Hid (∀W,Reads w W→Calls Try.prog 19 #[v0,u0] W (EqsPost W S T)):=Lib.hid fun W q=>by
  obtain⟨a,c,rfl,ha⟩:=h0.reads q
  obtain⟨b,d,rfl,hb⟩:=k0.reads q
  exact equalSt_any W a b c d S T ha hb hl
 have HI:Hid (∀W,Reads w W→Calls Try.prog 21 #[v1,u1] W fun e w'=>e= .returned (.bool (decide (s=t)))∧Qt W w'):=Lib.hid fun W q=>by
  obtain⟨a,c,rfl,ha⟩:=h1.reads q
  obtain⟨b,d,rfl,hb⟩:=k1.reads q
  exact equalInt_any W a b c d s t ha hb hl1
 have HJ:Hid (∀W,Reads w W→Calls Try.prog 21 #[v2,u2] W fun e w'=>e= .returned (.bool (decide (s'=t')))∧Qt W w'):=Lib.hid fun W q=>by
  obtain⟨a,c,rfl,ha⟩:=h2.reads q
  obtain⟨b,d,rfl,hb⟩:=k2.reads q
  exact equalInt_any W a b c d s' t' ha hb hl2
 have o0:v0.oneCell'=true:=by obtain⟨_,_,rfl,_⟩:=h0;rfl
 have o1:v1.oneCell'=true:=by obtain⟨_,_,rfl,_⟩:=h1;rfl
 have o2:v2.oneCell'=true:=by obtain⟨_,_,rfl,_⟩:=h2;rfl
 have q0:u0.oneCell'=true:=by obtain⟨_,_,rfl,_⟩:=k0;rfl
 have q1:u1.oneCell'=true:=by obtain⟨_,_,rfl,_⟩:=k1;rfl
 have q2:u2.oneCell'=true:=by obtain⟨_,_,rfl,_⟩:=k2;rfl
 obtain⟨b0,c0,rfl, -⟩:=h0
 obtain⟨b1,c1,rfl, -⟩:=h1
 obtain⟨b2,c2,rfl, -⟩:=h2
 obtain⟨d0,e0,rfl, -⟩:=k0
 obtain⟨d1,e1,rfl, -⟩:=k1
 obtain⟨d2,e2,rfl, -⟩:=k2
 clear hl hl1 hl2 o0 o1 o2 q0 q1 q2
 generalize S.length=n0 at*
 generalize s.length=n1 at*
 generalize s'.length=n2 at*
 generalize T.length=m0 at*
 generalize t.length=m1 at*
 generalize t'.length=m2 at*
 go_enter Try.func17,Try.ntmps17
 go_upto_region 1 with(fail)
 obtain⟨W,hW⟩:∃W,W=(w.alloc (Obj.cells #[.slice b0 n0 c0,.slice b1 n1 c1,.slice b2 n2 c2] 32)).alloc (Obj.cells #[.slice d0 m0 e0,.slice d1 m1 e1,.slice d2 m2 e2] 32):=⟨_,rfl⟩
 rw[←hW]
 have BW:Hid (Below w.heap.size w W):=Lib.hid (by rw[hW];exact((Below.refl _ _).alloc (Nat.le_refl _) _).alloc (by simp) _)
 have FC:Hid (∀w1,Qt W w1→((w1.cell? ⟨w.heap.size,0,none⟩=some (.slice b0 n0 c0)∧w1.cell? ⟨w.heap.size,1,none⟩=some (.slice b1 n1 c1))∧(w1.cell? ⟨w.heap.size,2,none⟩=some (.slice b2 n2 c2)∧w1.cell? ⟨w.heap.size+1,0,none⟩=some (.slice d0 m0 e0))∧w1.cell? ⟨w.heap.size+1,1,none⟩=some (.slice d1 m1 e1)∧w1.cell? ⟨w.heap.size+1,2,none⟩=some (.slice d2 m2 e2))):=Lib.hid fun w1 q=>by
  have q':=q.reads
  have h1:=(Blk.new w 32 [.slice b0 n0 c0,.slice b1 n1 c1,.slice b2 n2 c2]).upd (S:=fun _=>False) (Upd.of_below ((Below.refl _ _).alloc (Nat.le_refl _) (Obj.cells #[.slice d0 m0 e0,.slice d1 m1 e1,.slice d2 m2 e2] 32))) id
  have h2:=Blk.new (w.alloc (Obj.cells #[.slice b0 n0 c0,.slice b1 n1 c1,.slice b2 n2 c2] 32)) 32 [.slice d0 m0 e0,.slice d1 m1 e1,.slice d2 m2 e2]
  rw[World.size_alloc] at h2
  subst hW
  exact⟨⟨q' _ _ (h1.cell (i:=0) rfl),q' _ _ (h1.cell (i:=1) rfl)⟩,⟨q' _ _ (h1.cell (i:=2) rfl),q' _ _ (h2.cell (i:=0) rfl)⟩,q' _ _ (h2.cell (i:=1) rfl),q' _ _ (h2.cell (i:=2) rfl)⟩
 clear hW
 generalize hbx:w.heap.size=bx at*
 obtain⟨⟨x0,x1⟩,⟨x2,y0⟩,y1,y2⟩:=FC.out W (Qt.refl _)
 have RW:Hid (Reads w W):=Lib.hid (Reads.below (by rw[hbx];exact BW.out))
 have HBX:=Lib.hid hbx
 clear hbx
 have C0:=Lib.hid (HS.out W RW.out)
 have RR:Hid (∀W1,Qt W W1→Reads w W1):=Lib.hid fun W1 q p v h=>q.reads p v (RW.out p v h)
 have FIN:Hid (∀(b:Bool) (W1:World),Qt W W1→(b=true↔(S=T∧s=t∧s'=t'))→EqlPost w (S=T∧s=t∧s'=t') (.returned (.bool b)) W1):=Lib.hid fun b W1 q h=>⟨b,rfl,h,by rw[HBX.out];exact BW.out.trans (q.below _)⟩
 clear HS RW HBX BW
 go_wp2_with fail
 refine C0.out.mono ?_
 rintro e w1 ⟨b,rfl,hb,hq⟩
 have Q1:=Lib.hid hq
 have R1:=Lib.hid (RR.out w1 hq)
 obtain⟨⟨x0,x1⟩,⟨x2,y0⟩,y1,y2⟩:=FC.out w1 hq
 clear hq C0
 cases b with
 |false=>
  have X:Hid (false=true↔(S=T∧s=t∧s'=t')):=Lib.hid ⟨(fun h=>by cases h),fun h=>hb.2 h.1⟩
  clear hb
  go_wp2_with fail
  go_ret
  exact FIN.out _ _ Q1.out X.out
 |true=>
  have X1:Hid (S=T):=Lib.hid (hb.1 rfl)
  clear hb
  have C1:=Lib.hid (HI.out w1 R1.out)
  clear HI
  have D1:Hid (∀b1,decide (s=t)=b1→(b1=true↔s=t)):=Lib.hid fun b1 h=>by rw[←h];simp
  generalize decide (s=t)=b1 at*
  have D1:=Lib.hid (D1.out b1 rfl)
  go_wp2_with fail
  refine C1.out.mono ?_
  rintro e w2 ⟨rfl,hq⟩
  have Q2:=Lib.hid (Q1.out.trans hq)
  have R2:=Lib.hid (RR.out w2 Q2.out)
  obtain⟨⟨x0,x1⟩,⟨x2,y0⟩,y1,y2⟩:=FC.out w2 Q2.out
  clear hq C1 Q1 R1
  cases b1 with
  |false=>
   have X:Hid (false=true↔(S=T∧s=t∧s'=t')):=Lib.hid ⟨(fun h=>by cases h),fun h=>D1.out.2 h.2.1⟩
   go_wp2_with fail
   go_ret
   exact FIN.out _ _ Q2.out X.out
  |true=>
   have X2:Hid (s=t):=Lib.hid (D1.out.1 rfl)
   have C2:=Lib.hid (HJ.out w2 R2.out)
   clear HJ
   have D2:Hid (∀b1,decide (s'=t')=b1→(b1=true↔s'=t')):=Lib.hid fun b1 h=>by rw[←h];simp
   generalize decide (s'=t')=b2 at*
   have D2:=Lib.hid (D2.out b2 rfl)
   have X:Hid (b2=true↔(S=T∧s=t∧s'=t')):=Lib.hid ⟨fun h=>⟨X1.out,X2.out,D2.out.1 h⟩,fun h=>D2.out.2 h.2.2⟩
   clear D1 X1 X2
   go_wp2_with fail
   refine C2.out.mono ?_
   rintro e w3 ⟨rfl,hq⟩
   have Q3:=Lib.hid (Q2.out.trans hq)
   clear hq
   go_wp2_with fail
   go_ret
   exact FIN.out _ _ Q3.out X.out
end
end Go.Proofs.Ytbjlijagheifgaa
namespace Go.Side
section
open Go Go.ConcN Go.RowKit Go.Proofs.Ytbjlijagheifgaa
theorem wpAnyH_step2{P:Program}{md:Region.Mode}{Q:Exit→Act→World→Prop}{l:List Oper}{S:World→Prop}{i j f:Nat}{o o2:Oper}{listed:Array Bool}{a:Act}{w:World}(hr:Region.ready md l.toArray listed=[i,j])(ho:l[i]?=some o)(ho2:l[j]?=some o2)(h:∀K':Act→World→Prop,Shut (∀a w,S w→(S w→wpAnyH P md l.toArray Q S f (listed.setIfInBounds i true) a w)→K' a w)→if Region.wanted o (yielded l.toArray a.tmps)=true then Oper.wp P o a w K' Q else K' (a.put o.dst undef) w)(h2:∀K':Act→World→Prop,Shut (∀a w,S w→(S w→wpAnyH P md l.toArray Q S f (listed.setIfInBounds j true) a w)→K' a w)→if Region.wanted o2 (yielded l.toArray a.tmps)=true then Oper.wp P o2 a w K' Q else K' (a.put o2.dst undef) w):
  wpAnyH P md l.toArray Q S (f+1) listed a w:=wpAnyH_ready hr (by simp) (AllReadyH.cons (by simpa using ho) h (AllReadyH.cons (by simpa using ho2) h2 AllReadyH.nil))
def rowA(n:Nat)(r:PS):List Value:=(List.range n).map fun k=>.int .i64 ((r k).1:Int)
def rowZ(n:Nat)(r:PS):List Value:=(List.range n).map fun k=>.int .i64 (r k).2
theorem range_set{α:Type}{f g:Nat→α}{n k:Nat}{v:α}(hk:k<n)(h1:g k=v)(h2:∀j,j≠k→g j=f j):((List.range n).map f).set k v=(List.range n).map g:=by
 apply List.ext_getElem?
 intro j
 rw[List.getElem?_set]
 simp only[List.length_map,List.length_range,List.getElem?_map]
 by_cases e:k=j
 ·subst e
  simp[hk,h1]
 ·rw[if_neg e]
  rcases Nat.lt_or_ge j n with h|h
  ·rw[List.getElem?_range h];simp[h2 j (fun x=>e x.symm)]
  ·simp[h]
theorem range_get{α:Type}(f:Nat→α){n k:Nat}(hk:k<n):((List.range n).map f)[k]?=some (f k):=by simp[hk]
structure PSm(w:World)(bA bZ n:Nat)(r:PS):Prop where
 at_:Blk w bA 3 (rowA n r)
 sm:Blk w bZ 3 (rowZ n r)
section
variable {w w':World} {bA bZ n k:Nat} {r q:PS}
theorem PSm.upd{S:Nat→Prop}(h:PSm w bA bZ n r)(U:Upd S w w')(h1:¬S bA)(h2:¬S bZ):PSm w' bA bZ n r:=⟨h.1.upd U h1,h.2.upd U h2⟩
theorem PSm.qt(h:PSm w bA bZ n r)(U:Qt w w'):PSm w' bA bZ n r:=⟨h.1.qt U,h.2.qt U⟩
theorem PSm.new(h:PSm w bA bZ n r)(q:Below w.heap.size w w'):PSm w' bA bZ n r:=h.upd (Upd.of_below (S:=fun _=>False) q) id id
theorem PSm.congr(h:PSm w bA bZ n r)(e:∀k,k<n→r k=q k):PSm w bA bZ n q:=by
 have e1:rowA n r=rowA n q:=List.map_congr_left fun k hk=>by rw[e k (List.mem_range.1 hk)]
 have e2:rowZ n r=rowZ n q:=List.map_congr_left fun k hk=>by rw[e k (List.mem_range.1 hk)]
 exact⟨e1▸h.1,e2▸h.2⟩
theorem PSm.getA(h:PSm w bA bZ n r)(hk:k<n):w.cell? ⟨bA,k,none⟩=some (.int .i64 ((r k).1:Int)):=h.1.cell (range_get _ hk)
theorem PSm.getZ(h:PSm w bA bZ n r)(hk:k<n):w.cell? ⟨bZ,k,none⟩=some (.int .i64 (r k).2):=h.2.cell (range_get _ hk)
theorem PSm.setA(h:PSm w bA bZ n r)(hne:bA≠bZ)(hk:k<n)(p:Nat):PSm (w.setCell ⟨bA,k,none⟩ (.int .i64 (p:Int))) bA bZ n (ConcN.upd r k (p,(r k).2)):=by
 refine⟨?_,?_⟩
 ·have:=h.1.set k (.int .i64 (p:Int))
  rwa[rowA,range_set (g:=fun j=>.int .i64 ((ConcN.upd r k (p,(r k).2) j).1:Int)) hk (by simp[upd_eq]) fun j hj=>by rw[upd_other _ _ hj]] at this
 ·have:=h.2.setO (a:=⟨bA,k,none⟩) (.int .i64 (p:Int)) (Ne.symm hne)
  have e:rowZ n (ConcN.upd r k (p,(r k).2))=rowZ n r:=List.map_congr_left fun j _=>by
   by_cases e:j=k
   ·subst e;rw[upd_eq]
   ·rw[upd_other _ _ e]
  rwa[e]
theorem PSm.setZ(h:PSm w bA bZ n r)(hne:bA≠bZ)(hk:k<n)(z:Int):PSm (w.setCell ⟨bZ,k,none⟩ (.int .i64 z)) bA bZ n (ConcN.upd r k ((r k).1,z)):=by
 refine⟨?_,?_⟩
 ·have:=h.1.setO (a:=⟨bZ,k,none⟩) (.int .i64 z) hne
  have e:rowA n (ConcN.upd r k ((r k).1,z))=rowA n r:=List.map_congr_left fun j _=>by
   by_cases e:j=k
   ·subst e;rw[upd_eq]
   ·rw[upd_other _ _ e]
  rwa[e]
 ·have:=h.2.set k (.int .i64 z)
  rwa[rowZ,range_set (g:=fun j=>.int .i64 (ConcN.upd r k ((r k).1,z) j).2) hk (by simp[upd_eq]) fun j hj=>by rw[upd_other _ _ hj]] at this
end
def Fit(L:List TkD)(r:PS):Prop:=∀(k:Nat) (t:TkD),L[k]?=some t→(r k).1≤t.ops.length
def Stp(L:List TkD)(r:PS)(k:Nat):Prop:=∀(t:TkD) (x:OpD),L[k]?=some t→t.ops[(r k).1]?=some x→x.kind≠4
theorem advL_le:∀(l:List OpD) (p:Nat) (z:Int),p≤(advL l p z).1∧(advL l p z).1≤p+l.length
 |[],p,z=>⟨Nat.le_refl _,Nat.le_refl _⟩
 |o::l,p,z=>by
  unfold advL
  split
  ·have:=advL_le l (p+1) (IntKind.i64.wrap (z+o.val))
   simp only[List.length_cons];omega
  ·simp
section
variable {L:List TkD} {r q s:PS} {i:Nat} {t:TkD} {x:OpD}
theorem Fit.adv(h:Fit L r):Fit L (advS L r):=fun k t ht=>by
 have h1:=h k t ht
 have h2:=advL_le (t.ops.drop (r k).1) (r k).1 (r k).2
 unfold advS
 rw[ht]
 simp only[List.length_drop] at h2⊢
 omega
theorem adv_ge(L:List TkD)(r:PS)(k:Nat):(r k).1≤(advS L r k).1:=by
 unfold advS
 cases h:L[k]? with
 |none=>exact Nat.le_refl _
 |some t=>exact(advL_le _ _ _).1
theorem adv_stop(h:Stp L r i):advS L r i=r i:=by
 unfold advS
 cases ht:L[i]? with
 |none=>rfl
 |some t=>exact advL_stop fun y hy=>h t y ht (by simpa using hy)
theorem adv_add(ht:L[i]?=some t)(hx:t.ops[(r i).1]?=some x)(hk:x.kind=4):advS L (upd r i ((r i).1+1,IntKind.i64.wrap ((r i).2+x.val)))=advS L r:=by
 funext k
 by_cases e:k=i
 ·subst e
  unfold advS
  rw[ht,upd_eq]
  have hl:(r k).1<t.ops.length:=(List.getElem?_eq_some_iff.1 hx).1
  have hd:t.ops.drop (r k).1=x::t.ops.drop ((r k).1+1):=by
   rw[List.drop_eq_getElem_cons hl]
   rw[List.getElem?_eq_getElem hl] at hx
   rw[Option.some.inj hx]
  simp only
  rw[hd,advL,if_pos hk]
 ·unfold advS
  rw[upd_other _ _ e]
structure Adv(L:List TkD)(s q:PS)(i:Nat):Prop where
 fit:Fit L q
 adv:advS L q=s
 stp:∀k,k<i→Stp L q k
theorem Adv.start(h:Fit L r):Adv L (advS L r) r 0:=⟨h,rfl,fun k hk=>by omega⟩
theorem Adv.next(h:Adv L s q i)(hs:Stp L q i):Adv L s q (i+1):=⟨h.fit,h.adv,fun k hk=>by
 by_cases e:k=i
 ·subst e;exact hs
 ·exact h.stp k (by omega)⟩
theorem Adv.add(h:Adv L s q i)(ht:L[i]?=some t)(hx:t.ops[(q i).1]?=some x)(hk:x.kind=4):Adv L s (upd q i ((q i).1+1,IntKind.i64.wrap ((q i).2+x.val))) i:=by
 refine⟨fun k t' ht'=>?_,by rw[adv_add ht hx hk];exact h.adv,fun k hk'=>?_⟩
 ·by_cases e:k=i
  ·subst e
   rw[upd_eq]
   obtain rfl:t=t':=Option.some.inj (ht.symm.trans ht')
   exact(List.getElem?_eq_some_iff.1 hx).1
  ·rw[upd_other _ _ e];exact h.fit k t' ht'
 ·intro t' y h1 h2
  rw[upd_other _ _ (by omega)] at h2
  exact h.stp k hk' t' y h1 h2
theorem Adv.done(h:Adv L s q L.length):∀k,k<L.length→q k=s k:=fun k hk=>by rw[←h.adv,adv_stop (h.stp k hk)]
theorem upd2(q:PS)(i p:Nat)(z:Int):upd (upd q i ((q i).1,z)) i (p,(upd q i ((q i).1,z) i).2)=upd q i (p,z):=by
 funext k
 by_cases e:k=i
 ·subst e;simp[upd_eq]
 ·simp[upd_other _ _ e]
end
section
variable {L:List TkD} {s:PS} {x:StepP}
theorem possS_get(h:x∈possS L s):x.fr<L.length∧x.tg<L.length∧x.fr≠x.tg∧(∃t,L[x.fr]?=some t∧(s x.fr).1<t.ops.length)∧∃t,L[x.tg]?=some t∧(s x.tg).1<t.ops.length:=by
 obtain⟨h1,h2,a,b,h3,h4,_⟩:=possD_mem h
 have f:∀{k:Nat} {a:OpD},offS L s k=some a→∃t,L[k]?=some t∧(s k).1<t.ops.length:=fun{k a} h=>by
  unfold offS at h
  cases ht:L[k]? with
  |none=>rw[ht] at h;cases h
  |some t=>rw[ht] at h;exact⟨t,rfl,(List.getElem?_eq_some_iff.1 h).1⟩
 exact⟨h1,h2,possS_ne h,f h3,f h4⟩
theorem Fit.step(h:Fit L s)(hx:x∈possS L s):Fit L (stepS s x):=fun k t ht=>by
 obtain⟨_,_,hne,⟨t1,e1,l1⟩,t2,e2,l2⟩:=possS_get hx
 unfold stepS
 by_cases a:k=x.tg
 ·subst a
  rw[upd_eq]
  obtain rfl:t2=t:=Option.some.inj (e2.symm.trans ht)
  exact l2
 ·rw[upd_other _ _ a]
  by_cases b:k=x.fr
  ·subst b
   rw[upd_eq]
   obtain rfl:t1=t:=Option.some.inj (e1.symm.trans ht)
   exact l1
  ·rw[upd_other _ _ b];exact h k t ht
def posT(n:Nat)(s:PS):Nat:=sumTo n fun k=>(s k).1
theorem posT_le{n m:Nat}(h:∀k,k<n→(s k).1≤m):posT n s≤n*m:=sumTo_le h
theorem sumTo_mono{f g:Nat→Nat}:∀{n:Nat},(∀k,k<n→f k≤g k)→sumTo n f≤sumTo n g
 |0,_=>Nat.le_refl _
 |n+1,h=>by
  have:=sumTo_mono (n:=n) fun k hk=>h k (by omega)
  have:=h n (by omega)
  simp only[sumTo];omega
theorem posT_adv(L:List TkD)(n:Nat)(s:PS):posT n s≤posT n (advS L s):=sumTo_mono fun k _=>adv_ge L s k
theorem posT_step(hx:x∈possS L s):posT L.length (stepS s x)=posT L.length s+2:=by
 obtain⟨h1,h2,hne,_⟩:=possS_get hx
 have e1:=sumTo_upd (j:=L.length) s ((s x.fr).1+1,(s x.fr).2) (fun y=>y.1) h1
 have e2:=sumTo_upd (j:=L.length) (upd s x.fr ((s x.fr).1+1,(s x.fr).2)) ((s x.tg).1+1,IntKind.i64.wrap ((s x.tg).2+x.vl)) (fun y=>y.1) h2
 rw[upd_other _ _ (Ne.symm hne)] at e2
 unfold posT stepS
 simp only at e1 e2
 omega
structure RunS(L:List TkD)(ch:List Int)(r:PS)(S:List StepP):Prop where
 fit:Fit L r
 cnt:2*S.length≤posT L.length r
 all:∀s' S',RunA L ch (advS L r) S s' S'→Outc L ch s' S'
theorem RunS.start(L:List TkD)(ch:List Int):RunS L ch (fun _=>(0,0)) []:=⟨fun _ _ _=>Nat.zero_le _,Nat.zero_le _,fun _ _ h=>h⟩
theorem RunS.step{ch:List Int}{r:PS}{S:List StepP}(h:RunS L ch r S)(hx:(possS L (advS L r))[pickP ch S.length (possS L (advS L r)).length]?=some x):RunS L ch (stepS (advS L r) x) (S++[x]):=by
 have hm:=List.mem_of_getElem? hx
 have h1:=posT_step hm
 have h2:=posT_adv L L.length r
 have h3:=h.cnt
 exact⟨h.fit.adv.step hm,by rw[List.length_append];simp;omega,fun s' S' k=>h.all s' S' (.step hx k)⟩
theorem RunS.len{ch:List Int}{r:PS}{S:List StepP}(h:RunS L ch r S)(hl:L.length≤8)(ho:∀t∈L,t.ops.length≤30):S.length≤120:=by
 have h1:posT L.length r≤L.length*30:=posT_le fun k hk=>Nat.le_trans (h.fit k _ (List.getElem?_eq_getElem hk)) (ho _ (List.getElem_mem hk))
 have h2:=h.cnt
 omega
end
end
end Go.Side
namespace Go.Proofs.Ytbjlijagheifgaa
section
open Go.RowKit Go.Side Go.ConcN
theorem made_int(n:Nat):madeCells (Value.int .i64 0).cells (n*1)=(rowA n fun _=>(0,0)).toArray:=by
 simp only[Nat.mul_one,rowA]
 apply Array.ext_getElem?
 intro j
 rcases Nat.lt_or_ge j n with h|h
 ·simp[madeCells,Value.cells,h]
  rw[Nat.mod_one];rfl
 ·simp[madeCells,Value.cells,h]
theorem mk_ints(w:World)(n:Nat)(h:n≤1000000):(Instr.makeSlice 23 (.int .i64 n) (.int .i64 n)).run Try.prog w= .ok (.slice (some ⟨w.heap.size,0,none⟩) n n) (w.alloc (.cells (rowA n fun _=>(0,0)).toArray 3 (0,0))):=by
 obtain⟨i0,hi,hz0,hz1,hz2⟩:=info_parts Try.infoInt
 have h:=run_make (P:=Try.prog) (w:=w) 23 3 i0 (.int .i64 0) Try.underlying23 hi hz0 .i64 .i64 n n (by omega) (by omega) (by rw[hz2];omega) (by omega)
 rw[hz1,Int.toNat_natCast,made_int] at h
 exact h
structure RfM(w:World)(n bA bZ bo rb:Nat)(r:PS)(S:List StepP)(v:Value)(wr:World):Prop where
 ps:PSm wr bA bZ n r
 out:Blk wr bo 46 [v,.slice none 0 0,.slice none 0 0,.slice none 0 0]
 res:Blk wr rb 46 [.slice none 0 0,.slice none 0 0,.slice none 0 0,.slice none 0 0]
 own:wr.ownsRow w.heap.size 89 4 v S.length (flC stC S)
 bel:Below w.heap.size w wr
theorem rowZ_zero(n:Nat):(rowZ n fun _=>(0,0))=rowA n fun _=>(0,0):=List.map_congr_left fun _ _=>rfl
def at_L(n:Nat)(s:PS):List Int:=(List.range n).map fun k=>((s k).1:Int)
theorem at_L_len(n:Nat)(s:PS):(at_L n s).length=n:=by simp[at_L]
theorem psm_slA{w:World}{bA bZ n:Nat}{r:PS}(h:PSm w bA bZ n r):Sl (Value.int .i64) w (some ⟨bA,0,none⟩) (at_L n r):=by
 have:=h.at_
 rw[show rowA n r=(at_L n r).map (Value.int .i64) from by simp[rowA,at_L]] at this
 exact this.sl
theorem at_L_ok{L:List TkD}{s:PS}(h:Fit L s):atOk L (at_L L.length s)=true:=by
 unfold atOk
 rw[List.all_eq_true]
 intro i hi
 have hi:=List.mem_range.1 hi
 have h1:L[i]?=some L[i]:=List.getElem?_eq_getElem hi
 have h2:(at_L L.length s)[i]?=some ((s i).1:Int):=range_get _ hi
 rw[h1,h2]
 have:=h i _ h1
 simp;omega
theorem at_L_poss(L:List TkD)(s:PS):possD L.length (offAt L ((at_L L.length s).map Int.toNat))=possS L s:=by
 refine possD_congr fun k hk=>?_
 have h2:((at_L L.length s).map Int.toNat)[k]?=some (s k).1:=by rw[List.getElem?_map,show(at_L L.length s)[k]?=some ((s k).1:Int) from range_get _ hk];simp
 unfold offAt offS
 rw[h2]
 rfl
theorem RfM.congr{w wr:World}{n bA bZ bo rb:Nat}{r q:PS}{S:List StepP}{v:Value}(h:RfM w n bA bZ bo rb r S v wr)(e:∀k,k<n→r k=q k):RfM w n bA bZ bo rb q S v wr:=⟨h.ps.congr e,h.out,h.res,h.own,h.bel⟩
theorem RfM.new{w wr wx:World}{n bA bZ bo rb:Nat}{r:PS}{S:List StepP}{v:Value}(h:RfM w n bA bZ bo rb r S v wr)(q:Below wr.heap.size wr wx):RfM w n bA bZ bo rb r S v wx:=
 ⟨h.ps.new q,h.out.upd (S:=fun _=>False) (Upd.of_below q) id,h.res.upd (S:=fun _=>False) (Upd.of_below q) id,own_upd h.own (Upd.of_below (S:=fun _=>False) q) (fun _ _=>id),h.bel.trans (q.mono h.bel.size)⟩
def lenAt(w:World)(b:Nat):Nat:=match w.cell? ⟨b,0,none⟩ with
 |some (.slice _ m _)=>m
 |_=>0
def posAt(w:World)(b i:Nat):Nat:=match w.cell? ⟨b,i,none⟩ with
 |some (.int _ z)=>z.toNat
 |_=>0
theorem RfM.len{w wr:World}{n bA bZ bo rb:Nat}{r:PS}{S:List StepP}{a:Option Addr}{m c:Nat}(h:RfM w n bA bZ bo rb r S (.slice a m c) wr):lenAt wr bo=m:=by
 unfold lenAt
 rw[h.out.cell (i:=0) rfl]
theorem RfM.pos{w wr:World}{n bA bZ bo rb i:Nat}{r:PS}{S:List StepP}{v:Value}(h:RfM w n bA bZ bo rb r S v wr)(hi:i<n):posAt wr bA i=(r i).1:=by
 unfold posAt
 rw[h.ps.getA hi]
 simp
theorem RfM.qt{w wr wx:World}{n bA bZ bo rb:Nat}{r:PS}{S:List StepP}{v:Value}(h:RfM w n bA bZ bo rb r S v wr)(q:Qt wr wx):RfM w n bA bZ bo rb r S v wx:=
 ⟨h.ps.qt q,h.out.qt q,h.res.qt q,own_upd h.own (Upd.of_below (S:=fun _=>False) q.bel) (fun _ _=>id),h.bel.trans (q.below _)⟩
structure RfB(w:World)(bA bZ bo rb:Nat):Prop where
 az:bA≠bZ
 ao:bA≠bo
 ar:bA≠rb
 zo:bZ≠bo
 zr:bZ≠rb
 or:bo≠rb
 la:w.heap.size≤bA
 lz:w.heap.size≤bZ
 lo:w.heap.size≤bo
theorem RfM.setA{w wr:World}{n bA bZ bo rb i:Nat}{r:PS}{S:List StepP}{v:Value}(h:RfM w n bA bZ bo rb r S v wr)(hb:RfB w bA bZ bo rb)(hi:i<n)(p:Nat):RfM w n bA bZ bo rb (upd r i (p,(r i).2)) S v (wr.setCell ⟨bA,i,none⟩ (.int .i64 (p:Int))):=by
 have U:Upd (fun k=>k=bA) wr (wr.setCell ⟨bA,i,none⟩ (.int .i64 (p:Int))):=(Upd.refl _ _).setCell _ _ (fun _=>rfl)
 exact⟨h.ps.setA hb.az hi p,h.out.upd U hb.ao.symm,h.res.upd U hb.ar.symm,own_upd h.own U fun g hg e=>own_type h.own h.ps.at_ (by decide) (e▸hg),Upd.below h.bel U h.bel.size fun k hk=>hk▸hb.la⟩
theorem RfM.setZ{w wr:World}{n bA bZ bo rb i:Nat}{r:PS}{S:List StepP}{v:Value}(h:RfM w n bA bZ bo rb r S v wr)(hb:RfB w bA bZ bo rb)(hi:i<n)(z:Int):RfM w n bA bZ bo rb (upd r i ((r i).1,z)) S v (wr.setCell ⟨bZ,i,none⟩ (.int .i64 z)):=by
 have U:Upd (fun k=>k=bZ) wr (wr.setCell ⟨bZ,i,none⟩ (.int .i64 z)):=(Upd.refl _ _).setCell _ _ (fun _=>rfl)
 exact⟨h.ps.setZ hb.az hi z,h.out.upd U hb.zo.symm,h.res.upd U hb.zr.symm,own_upd h.own U fun g hg e=>own_type h.own h.ps.sm (by decide) (e▸hg),Upd.below h.bel U h.bel.size fun k hk=>hk▸hb.lz⟩
structure RfE(w w9:World)(n bA bZ bo rb:Nat)(s:PS)(S:List StepP)(v u:Value)(U:List Int)(wr:World):Prop where
 ps:PSm wr bA bZ n s
 out:Blk wr bo 46 [v,.slice none 0 0,u,.slice none 0 0]
 res:Blk wr rb 46 [.slice none 0 0,.slice none 0 0,.slice none 0 0,.slice none 0 0]
 own:wr.ownsRow w.heap.size 89 4 v S.length (flC stC S)
 stk:wr.ownsRow w9.heap.size 3 1 u U.length (U.map (Value.int .i64))
 la:bA<w9.heap.size
 lz:bZ<w9.heap.size
 bel:Below w.heap.size w wr
 sz:w9.heap.size≤wr.heap.size
section
variable {w w9 wr wx w6:World} {n bA bZ bo rb:Nat} {s:PS} {S:List StepP} {v u u':Value} {U:List Int} {o:Obj}
theorem RfE.new(h:RfE w w9 n bA bZ bo rb s S v u U wr)(q:Below wr.heap.size wr wx):RfE w w9 n bA bZ bo rb s S v u U wx:=
 ⟨h.ps.new q,h.out.upd (S:=fun _=>False) (Upd.of_below q) id,h.res.upd (S:=fun _=>False) (Upd.of_below q) id,own_upd h.own (Upd.of_below (S:=fun _=>False) q) (fun _ _=>id),own_upd h.stk (Upd.of_below (S:=fun _=>False) q) (fun _ _=>id),h.la,h.lz,h.bel.trans (q.mono h.bel.size),Nat.le_trans h.sz q.size⟩
theorem RfE.push(h:RfE w w9 n bA bZ bo rb s S v u U wr)(hb:RfB w bA bZ bo rb)(hw:w.heap.size≤w9.heap.size){k:Int}(g1:w6.ownsRow w9.heap.size 3 1 u' (U.length+1) (U.map (Value.int .i64)++[.int .i64 k]))(g2:(wr.alloc o).grownBy w6 u.ownBlock):
  RfE w w9 n bA bZ bo rb s S v u' (U++[k]) (w6.setCell ⟨bo,2,none⟩ u'):=by
 have A:=h.new ((Below.refl _ _).alloc (Nat.le_refl _) o)
 have U1:=Upd.of_grownV g2
 have hlt:∀g,u.ownBlock=some g→w9.heap.size≤g:=fun g hg=>(own_lt A.stk hg).2
 have p6:=A.ps.upd U1 (fun e=>by have:=hlt _ e;have:=h.la;omega) (fun e=>by have:=hlt _ e;have:=h.lz;omega)
 have o6:=A.out.upd U1 (own_type A.stk A.out (by decide))
 have r6:=A.res.upd U1 (own_type A.stk A.res (by decide))
 have w6':=own_upd A.own U1 fun g hg e=>by
  obtain⟨c,f,hc⟩:=own_cells A.own hg
  exact own_type A.stk hc (by decide) e
 have b6:=Upd.below A.bel U1 A.bel.size fun k hk=>Nat.le_trans hw (hlt _ hk)
 have U2:Upd (fun k=>k=bo) w6 (w6.setCell ⟨bo,2,none⟩ u'):=(Upd.refl _ _).setCell _ _ (fun _=>rfl)
 refine⟨p6.upd U2 hb.ao hb.zo,o6.set 2 u',r6.upd U2 hb.or.symm,own_upd w6' U2 fun g hg e=>own_type w6' o6 (by decide) (e▸hg),?_,h.la,h.lz,Upd.below b6 U2 b6.size (fun k hk=>hk▸hb.lo),Nat.le_trans A.sz (Nat.le_trans U1.size U2.size)⟩
 rw[List.length_append,List.map_append]
 exact own_upd g1 U2 fun g hg e=>own_type g1 o6 (by decide) (e▸hg)
theorem RfE.qt(h:RfE w w9 n bA bZ bo rb s S v u U wr)(q:Qt wr wx):RfE w w9 n bA bZ bo rb s S v u U wx:=h.new q.bel
end
theorem RfM.push{w wr w6:World}{n bA bZ bo rb:Nat}{r:PS}{S:List StepP}{v v':Value}{o:Obj}{x:StepP}(h:RfM w n bA bZ bo rb r S v wr)(hb:RfB w bA bZ bo rb)(g1:w6.ownsRow w.heap.size 89 4 v' (S.length+1) (flC stC S++stC x))(g2:(wr.alloc o).grownBy w6 v.ownBlock):
  RfM w n bA bZ bo rb r (S++[x]) v' (w6.setCell ⟨bo,0,none⟩ v'):=by
 have A:=h.new ((Below.refl _ _).alloc (Nat.le_refl _) o)
 have U1:=Upd.of_grownV g2
 have p6:=A.ps.upd U1 (own_type A.own A.ps.at_ (by decide)) (own_type A.own A.ps.sm (by decide))
 have o6:=A.out.upd U1 (own_type A.own A.out (by decide))
 have r6:=A.res.upd U1 (own_type A.own A.res (by decide))
 have b6:=Upd.below A.bel U1 A.bel.size fun k hk=>(own_lt A.own hk).2
 have U2:Upd (fun k=>k=bo) w6 (w6.setCell ⟨bo,0,none⟩ v'):=(Upd.refl _ _).setCell _ _ (fun _=>rfl)
 refine⟨p6.upd U2 hb.ao hb.zo,o6.set 0 v',r6.upd U2 hb.or.symm,?_,Upd.below b6 U2 b6.size fun k hk=>hk▸hb.lo⟩
 rw[List.length_append,flC_append,flC_one]
 exact own_upd g1 U2 fun g hg e=>own_type g1 o6 (by decide) (e▸hg)
end
section
open Go.RowKit Go.Side Go.ConcN
theorem blk_ne{w:World}{b b':Nat}{T T':TypeId}{xs ys:List Value}(h:Blk w b T xs)(k:Blk w b' T' ys)(ht:T≠T'):b≠b':=fun e=>by
 subst e
 have h1:w.heap[b]?=_:=h
 have h2:w.heap[b]?=_:=k
 rw[h1] at h2
 simp only[Option.some.injEq,Obj.cells.injEq] at h2
 exact ht h2.2.1
structure RpM(w:World)(n bA bZ b3 b6 b7:Nat)(tv:Value)(r:PS)(wr:World):Prop where
 ps:PSm wr bA bZ n r
 c3:Blk wr b3 25 [tv]
 c6:Blk wr b6 23 [.slice (some ⟨bA,0,none⟩) n n]
 c7:Blk wr b7 23 [.slice (some ⟨bZ,0,none⟩) n n]
 az:bA≠bZ
 la:w.heap.size≤bA
 lz:w.heap.size≤bZ
 bel:Below w.heap.size w wr
section
variable {w wr wx:World} {n bA bZ b3 b6 b7 i:Nat} {tv:Value} {r q:PS}
theorem RpM.new(h:RpM w n bA bZ b3 b6 b7 tv r wr)(q:Below wr.heap.size wr wx):RpM w n bA bZ b3 b6 b7 tv r wx:=
 ⟨h.ps.new q,h.c3.upd (S:=fun _=>False) (Upd.of_below q) id,h.c6.upd (S:=fun _=>False) (Upd.of_below q) id,h.c7.upd (S:=fun _=>False) (Upd.of_below q) id,h.az,h.la,h.lz,h.bel.trans (q.mono h.bel.size)⟩
theorem RpM.qt(h:RpM w n bA bZ b3 b6 b7 tv r wr)(q:Qt wr wx):RpM w n bA bZ b3 b6 b7 tv r wx:=h.new q.bel
theorem RpM.congr(h:RpM w n bA bZ b3 b6 b7 tv r wr)(e:∀k,k<n→r k=q k):RpM w n bA bZ b3 b6 b7 tv q wr:=⟨h.ps.congr e,h.c3,h.c6,h.c7,h.az,h.la,h.lz,h.bel⟩
theorem RpM.setA(h:RpM w n bA bZ b3 b6 b7 tv r wr)(hi:i<n)(p:Nat):RpM w n bA bZ b3 b6 b7 tv (upd r i (p,(r i).2)) (wr.setCell ⟨bA,i,none⟩ (.int .i64 (p:Int))):=by
 have U:Upd (fun k=>k=bA) wr (wr.setCell ⟨bA,i,none⟩ (.int .i64 (p:Int))):=(Upd.refl _ _).setCell _ _ (fun _=>rfl)
 exact⟨h.ps.setA h.az hi p,h.c3.upd U (blk_ne h.c3 h.ps.at_ (by decide)),h.c6.upd U (blk_ne h.c6 h.ps.at_ (by decide)),h.c7.upd U (blk_ne h.c7 h.ps.at_ (by decide)),h.az,h.la,h.lz,Upd.below h.bel U h.bel.size fun k hk=>hk▸h.la⟩
theorem RpM.setZ(h:RpM w n bA bZ b3 b6 b7 tv r wr)(hi:i<n)(z:Int):RpM w n bA bZ b3 b6 b7 tv (upd r i ((r i).1,z)) (wr.setCell ⟨bZ,i,none⟩ (.int .i64 z)):=by
 have U:Upd (fun k=>k=bZ) wr (wr.setCell ⟨bZ,i,none⟩ (.int .i64 z)):=(Upd.refl _ _).setCell _ _ (fun _=>rfl)
 exact⟨h.ps.setZ h.az hi z,h.c3.upd U (blk_ne h.c3 h.ps.sm (by decide)),h.c6.upd U (blk_ne h.c6 h.ps.sm (by decide)),h.c7.upd U (blk_ne h.c7 h.ps.sm (by decide)),h.az,h.la,h.lz,Upd.below h.bel U h.bel.size fun k hk=>hk▸h.lz⟩
theorem RpM.pos(h:RpM w n bA bZ b3 b6 b7 tv r wr)(hi:i<n):posAt wr bA i=(r i).1:=by
 unfold posAt
 rw[h.ps.getA hi]
 simp
end
def AdPost(w:World)(L:List TkD)(bA bZ b3 b6 b7:Nat)(tv:Value)(r:PS)(e:Ending)(w':World):Prop:=e= .returned (.tuple #[])∧RpM w L.length bA bZ b3 b6 b7 tv (advS L r) w'
set_option maxHeartbeats 8000000 in
set_option maxRecDepth 100000 in
theorem add_any(w W:World)(a:Option Addr)(c:Nat)(L:List TkD)(bA bZ b3 b6 b7:Nat)(r:PS)(hs:SlT w a L)(hl:L.length≤8)(ho:∀t∈L,t.ops.length≤30)(hf:Fit L r)(hm:RpM w L.length bA bZ b3 b6 b7 (.slice a L.length c) r W):
  Calls Try.prog 38 #[.pointer (some ⟨b3,0,none⟩),.pointer (some ⟨b6,0,none⟩),.pointer (some ⟨b7,0,none⟩)] W (AdPost w L bA bZ b3 b6 b7 (.slice a L.length c) r):=by
 have SS:=Lib.hid hs
 have HO:=Lib.hid ho
 have M0:=Lib.hid hm
 have A0:=Lib.hid (Adv.start hf)
 clear hs ho hm hf
 obtain⟨n,hn⟩:∃n,L.length=n:=⟨_,rfl⟩
 have HN:=Lib.hid hn
 unfold AdPost
 rw[hn] at hl M0⊢
 clear hn
 have c3:W.cell? ⟨b3,0,none⟩=some (.slice a n c):=M0.out.c3.cell (i:=0) rfl
 go_enter Try.func38,Try.ntmps38
 go_wp2_with fail
 go_loopw [7] (fun v wx=>∃i q,i≤n∧v= .int .i64 (i:Int)∧RpM w n bA bZ b3 b6 b7 (.slice a n c) q wx∧Adv L (advS L r) q i) (fun v _=>n-(intOf v).toNat)
 case atStart=>exact⟨0,r,Nat.zero_le _,rfl,M0.out,A0.out⟩
 case round=>
  clear M0 A0 c3
  obtain⟨i,q,hi,rfl,hm,ha⟩:=hrel
  have M2:=Lib.hid hm
  have A2:=Lib.hid ha
  clear hm ha
  by_cases hlt:i<n
  ·have hin:(i:Int)<(n:Int):=by omega
   obtain⟨t,hts⟩:∃t,L[i]?=some t:=⟨_,List.getElem?_eq_getElem (by rw[HN.out];exact hlt)⟩
   have HT:=Lib.hid hts
   clear hts
   have TL:=Lib.hid (HO.out t (List.mem_of_getElem? HT.out))
   obtain⟨e1,e2,e3⟩:=(SS.out.reads (Reads.below M2.out.bel)) i t HT.out
   go_upto_region 3 with(fail)
   go_loopw [29] (fun _ wx=>∃q,RpM w n bA bZ b3 b6 b7 (.slice a n c) q wx∧Adv L (advS L r) q i) (fun _ wx=>30-posAt wx bA i)
   case atStart=>exact⟨q,M2.out,A2.out⟩
   case round=>
    clear M2 A2 e1 e2 e3
    obtain⟨q,hm,ha⟩:=hrel
    have M2:=Lib.hid hm
    have A2:=Lib.hid ha
    clear hm ha
    have PA:=Lib.hid (M2.out.pos hlt)
    have PL:=Lib.hid (A2.out.fit i t HT.out)
    have y6:wr.cell? ⟨b6,0,none⟩=some (.slice (some ⟨bA,0,none⟩) n n):=M2.out.c6.cell (i:=0) rfl
    have y7:wr.cell? ⟨b7,0,none⟩=some (.slice (some ⟨bZ,0,none⟩) n n):=M2.out.c7.cell (i:=0) rfl
    generalize hp:(q i).1=p at*
    have HP1:=Lib.hid hp
    clear hp
    have y0:wr.cell? ⟨bA,i,none⟩=some (.int .i64 (p:Int)):=by rw[←HP1.out];exact M2.out.ps.getA hlt
    obtain⟨e1,e2,e3⟩:=(SS.out.reads (Reads.below M2.out.bel)) i t HT.out
    by_cases hpl:p<t.ops.length
    ·obtain⟨x,hx,okx,x0,x1,x2,x3⟩:=e3.row.get hpl
     have hpn:(p:Int)<(t.ops.length:Int):=by omega
     by_cases hk:x.kind=4
     ·go_upto_region 4 with(fail)
      have A3:=Lib.hid (A2.out.add HT.out (by rw[HP1.out];exact hx.out) hk)
      have M4:=Lib.hid (M2.out.qt (Qt.refl wr).drew)
      have z0:wr.drew.cell? ⟨bZ,i,none⟩=some (.int .i64 (q i).2):=M4.out.ps.getZ hlt
      have y1:wr.drew.cell? ⟨bA,i,none⟩=some (.int .i64 (p:Int)):=by rw[←HP1.out];exact M4.out.ps.getA hlt
      have y8:wr.drew.cell? ⟨b6,0,none⟩=some (.slice (some ⟨bA,0,none⟩) n n):=M4.out.c6.cell (i:=0) rfl
      have y9:wr.drew.cell? ⟨b7,0,none⟩=some (.slice (some ⟨bZ,0,none⟩) n n):=M4.out.c7.cell (i:=0) rfl
      have x2':wr.drew.cell? (adr t.a (p*4+2))=some (.int .i64 x.val):=x2
      clear A2 e1 e2 e3 y0 y6 y7 x0 x1 x2 x3 hk
      rw[HP1.out] at A3
      generalize hz:(q i).2=z at*
      have HZ:=Lib.hid hz
      clear hz
      refine wp_region_lastH (fun wx=>(wx.cell? ⟨bA,i,none⟩=some (.int .i64 (p:Int))∧wx.cell? ⟨bZ,i,none⟩=some (.int .i64 z))∧(wx.cell? ⟨b6,0,none⟩=some (.slice (some ⟨bA,0,none⟩) n n)∧wx.cell? ⟨b7,0,none⟩=some (.slice (some ⟨bZ,0,none⟩) n n))∧wx.cell? (adr t.a (p*4+2))=some (.int .i64 x.val)) 14 15 (by kernel_rfl) (by kernel_rfl) rfl rfl ?_ (fun hHeld=>?_)
      ·(exact⟨⟨y1,z0⟩,⟨y8,y9⟩,x2'⟩)
      simp only[nopFor,List.set_cons_succ,List.set_cons_zero]
      iterate 15
       refine wpAnyH_takeN [0,1,2,3,4,5,6,7,8,9,10,11,12,13,14] (v:=?_) rfl rfl (by kernel_rfl) (by kernel_rfl) (by kernel_rfl) (fun _ _ _ h=>h) rfl ?_ hHeld ?_
       rotate_left
       ·intro w hSw
        try dsimp only at hSw
        go_simp
        all_goals with_reducible rfl
       try simp only[Act.put,List.setIfInBounds_toArray,List.set_cons_zero,List.set_cons_succ]
      refine wpAnyH_done (by kernel_rfl) ?_ _
      rw[LastQ_normal]
      clear hHeld
      have zf:=M4.out.ps.sm.free i
      go_upto_region 5 with(fail)
      have M5:=Lib.hid ((M2.out.setZ hlt (IntKind.i64.wrap (z+x.val))).qt (Qt.refl _).drew)
      rw[IntWalk.i64_left] at M5
      generalize World.drew (World.setCell wr _ _)=w5 at*
      have y1:w5.cell? ⟨bA,i,none⟩=some (.int .i64 (p:Int)):=by simpa[upd_eq,HP1.out] using M5.out.ps.getA hlt
      have y6:w5.cell? ⟨b6,0,none⟩=some (.slice (some ⟨bA,0,none⟩) n n):=M5.out.c6.cell (i:=0) rfl
      have yf:=M5.out.ps.at_.free i
      have M6:Hid (RpM w n bA bZ b3 b6 b7 (.slice a n c) (upd q i (p+1,IntKind.i64.wrap (z+x.val))) (w5.setCell ⟨bA,i,none⟩ (.int .i64 ((p:Int)+1)))):=Lib.hid (by
       have:=M5.out.setA hlt (p+1)
       rwa[upd2,show((p+1:Nat):Int)=(p:Int)+1 from by omega,←IntWalk.i64_left] at this)
      have PM:=Lib.hid (M6.out.pos hlt)
      rw[upd_eq] at PM
      have e7:IntKind.i64.wrap ((p:Int)+1)=(p:Int)+1:=IntWalk.i64_in _ (by have:=TL.out;omega)
      clear M5 M2 M4 y8 y9 z0 zf x2' okx
      go_wp2_with fail
      go_roundw
      case rel=>exact⟨_,M6.out,A3.out⟩
      case measure=>(have:=PM.out;have:=PA.out;have:=TL.out;omega)
     ·have hk':(x.kind==4)=false:=by simpa using hk
      have ST:Hid (Stp L q i):=Lib.hid fun t' x' h1 h2=>by
       obtain rfl:t=t':=Option.some.inj (HT.out.symm.trans h1)
       rw[HP1.out,hx.out] at h2
       rw[←Option.some.inj h2];exact hk
      clear hk hx x1 x2 x3
      go_wp2_with fail
      go_roundw
      case rel=>exact⟨i+1,q,by omega,by go_num,M2.out,A2.out.next ST.out⟩
      case measure=>simp[intOf];omega
    ·have hpn:decide (p<t.ops.length)=false:=by simpa using hpl
     have ST:Hid (Stp L q i):=Lib.hid fun t' x' h1 h2=>by
      obtain rfl:t=t':=Option.some.inj (HT.out.symm.trans h1)
      rw[HP1.out,List.getElem?_eq_none (by omega)] at h2
      cases h2
     go_wp2_with fail
     go_roundw
     case rel=>exact⟨i+1,q,by omega,by go_num,M2.out,A2.out.next ST.out⟩
     case measure=>simp[intOf];omega
  ·obtain rfl:i=n:=by omega
   have M3:Hid (RpM w i bA bZ b3 b6 b7 (.slice a i c) (advS L r) wr):=Lib.hid (M2.out.congr fun k hk=>by
    have h:=A2.out
    rw[←HN.out] at h hk
    exact h.done k hk)
   clear M2 A2
   go_wp2_with fail
   exact bodyPost_end (v:=.tuple #[]) (by simp[results,Try.results38,go_sem]) rfl ⟨rfl,M3.out⟩
end
section
open Go.RowKit Go.Side
instance:DecidableEq StepP:=fun a b=>by
 obtain⟨a1,a2,a3,a4⟩:=a
 obtain⟨b1,b2,b3,b4⟩:=b
 by_cases h:a1=b1∧a2=b2∧a3=b3∧a4=b4
 ·obtain⟨rfl,rfl,rfl,rfl⟩:=h;exact isTrue rfl
 ·exact isFalse fun e=>h (by simpa using e)
def IxPost(w:World)(xs:List StepP)(x:StepP)(e:Ending)(w':World):Prop:=∃r:Int,e= .returned (.int .i64 r)∧(0≤r↔x∈xs)∧Below w.heap.size w w'
def IxRel(W:World)(xs:List StepP)(x:StepP)(i:Value)(wr:World):Prop:=∃k:Nat,k≤xs.length∧i= .int .i64 k∧x∉xs.take k∧Qt W wr
set_option maxHeartbeats 4000000 in
set_option maxRecDepth 100000 in
theorem indexSt_any(w:World)(a:Option Addr)(c:Nat)(xs:List StepP)(x:StepP)(hx:SlSt w a xs)(hl:xs.length≤maxLen):
  Calls Try.prog 62 #[.slice a xs.length c,.agg #[.int .i64 x.fr,.int .i64 x.tg,.int .i64 x.ch,.int .i64 x.vl]] w (IxPost w xs x):=by
 unfold maxLen at hl
 have HX:=Lib.hid hx
 clear hx
 generalize hn:xs.length=n at*
 have HN:=Lib.hid hn;clear hn
 have B0:Hid (Below w.heap.size w (w.alloc (.cells #[.int .i64 x.fr,.int .i64 x.tg,.int .i64 x.ch,.int .i64 x.vl] 50))):=Lib.hid ((Below.refl _ _).alloc (Nat.le_refl _) _)
 have NB:Hid (Blk (w.alloc (.cells #[.int .i64 x.fr,.int .i64 x.tg,.int .i64 x.ch,.int .i64 x.vl] 50)) w.heap.size 50 (stC x)):=Lib.hid (Blk.new w 50 (stC x))
 go_enter Try.func62,Try.ntmps62
 go_upto_region 1 with(fail)
 generalize w.alloc (.cells #[.int .i64 x.fr,.int .i64 x.tg,.int .i64 x.ch,.int .i64 x.vl] 50)=W at*
 generalize hbx:w.heap.size=bx at*
 have HBX:=Lib.hid hbx
 clear hbx
 go_wp2_with fail
 go_loopw [8] (fun i wr=>IxRel W xs x i wr) (fun i _=>n-(intOf i).toNat)
 case atStart=>exact⟨0,Nat.zero_le _,rfl,by simp,Qt.refl _⟩
 case round=>
  obtain⟨k,hk,rfl,ht,hq⟩:=hrel
  have HT:=Lib.hid ht
  have HQ:=Lib.hid hq
  have hk':k≤n:=by rw[HN.out] at hk;exact hk
  clear hk ht
  have B1:=Lib.hid (B0.out.trans (hq.below _))
  by_cases hkn:k<n
  ·obtain⟨y,ey,oky,y0,y1,y2,y3⟩:=(HX.out.reads (Reads.below (by rw[HBX.out];exact B1.out:Below w.heap.size w wr))).get (k:=k) (by rw[HN.out];exact hkn)
   have x0:wr.cell? ⟨bx,0,none⟩=some (.int .i64 x.fr):=hq.reads _ _ (NB.out.cell (i:=0) rfl)
   have x1:wr.cell? ⟨bx,1,none⟩=some (.int .i64 x.tg):=hq.reads _ _ (NB.out.cell (i:=1) rfl)
   have x2:wr.cell? ⟨bx,2,none⟩=some (.int .i64 x.ch):=hq.reads _ _ (NB.out.cell (i:=2) rfl)
   have x3:wr.cell? ⟨bx,3,none⟩=some (.int .i64 x.vl):=hq.reads _ _ (NB.out.cell (i:=3) rfl)
   have hki:(k:Int)<(n:Int):=by omega
   have hfx:(Try.prog.fieldsOf 50).toList.length=4:=by kernel_rfl
   clear hq
   by_cases hxy:x=y
   ·subst hxy
    have X:Hid (x∈xs):=Lib.hid (List.mem_of_getElem? ey.out)
    clear hfx ey
    go_wp2_with fail
    go_quiet (fail)
    go_wp2_with fail
    go_ret
    exact⟨k,rfl,⟨fun _=>X.out,fun _=>by omega⟩,by rw[HBX.out];exact B1.out.trans ((Qt.refl wr).drewN _ |>.below _)⟩
   ·have HT':Hid (x∉xs.take (k+1)):=by
     show _∉_
     rw[List.take_add_one,ey.out]
     simp only[Option.toList_some,List.mem_append,List.mem_singleton]
     intro h
     rcases h with h|h
     ·exact HT.out h
     ·exact hxy h
    clear hfx ey
    obtain⟨f1,t1,d1,l1⟩:=x
    obtain⟨f2,t2,d2,l2⟩:=y
    dsimp only at x0 x1 x2 x3 y0 y1 y2 y3
    simp only[StepP.mk.injEq] at hxy
    have hxy':((f1:Int)==(f2:Int))=false∨(((f1:Int)==(f2:Int))=true∧((t1:Int)==(t2:Int))=false)∨(((f1:Int)==(f2:Int))=true∧((t1:Int)==(t2:Int))=true∧(d1==d2)=false)∨(((f1:Int)==(f2:Int))=true∧((t1:Int)==(t2:Int))=true∧(d1==d2)=true∧(l1==l2)=false):=by
     simp only[beq_eq_false_iff_ne,beq_iff_eq]
     omega
    clear hxy
    rcases hxy' with h0|⟨h0,h1⟩|⟨h0,h1,h2⟩|⟨h0,h1,h2,h3⟩
    all_goals
     go_wp2_with fail
     go_quiet (fail)
     go_wp2_with fail
     go_roundw
     case rel=>exact⟨k+1,by rw[HN.out];omega,by go_num,HT'.out,by exact HQ.out.drewN _⟩
     case measure=>simp[intOf];omega
  ·have X:Hid (x∉xs):=Lib.hid (by
    have h1:=HT.out
    have e1:=HN.out
    rwa[List.take_of_length_le (by omega)] at h1)
   go_wp2_with fail
   go_ret
   exact⟨-1,rfl,⟨fun h=>by omega,fun h=>absurd h X.out⟩,by rw[HBX.out];exact B1.out⟩
def CtPost(w:World)(xs:List StepP)(x:StepP)(e:Ending)(w':World):Prop:=∃b:Bool,e= .returned (.bool b)∧(b=true↔x∈xs)∧Below w.heap.size w w'
set_option maxHeartbeats 4000000 in
set_option maxRecDepth 100000 in
theorem containsSt_any(w:World)(a:Option Addr)(c:Nat)(xs:List StepP)(x:StepP)(hx:SlSt w a xs)(hl:xs.length≤maxLen):
  Calls Try.prog 39 #[.slice a xs.length c,.agg #[.int .i64 x.fr,.int .i64 x.tg,.int .i64 x.ch,.int .i64 x.vl]] w (CtPost w xs x):=by
 have B0:Hid (Below w.heap.size w (w.alloc (.cells #[.int .i64 x.fr,.int .i64 x.tg,.int .i64 x.ch,.int .i64 x.vl] 50))):=Lib.hid ((Below.refl _ _).alloc (Nat.le_refl _) _)
 have C:=Lib.hid (indexSt_any _ a c xs x (hx.reads (Reads.below B0.out)) hl)
 have NB:Hid (Blk (w.alloc (.cells #[.int .i64 x.fr,.int .i64 x.tg,.int .i64 x.ch,.int .i64 x.vl] 50)) w.heap.size 50 (stC x)):=Lib.hid (Blk.new w 50 (stC x))
 clear hx hl
 go_enter Try.func39,Try.ntmps39
 go_wp2_with fail
 refine C.out.mono ?_
 rintro e w1 ⟨i,rfl,hi,hb⟩
 have hr:Hid (decide (0≤i)=true↔x∈xs):=Lib.hid (by rw[decide_eq_true_eq];exact hi)
 have B1:=Lib.hid (B0.out.trans (hb.mono B0.out.size))
 generalize hd:decide (0≤i)=dd at*
 clear hi hb
 go_wp2_with fail
 go_ret
 exact⟨_,rfl,hr.out,B1.out⟩
end
end Go.Proofs.Ytbjlijagheifgaa
