/-
  Texts of Ytbjlijagheifgaa, merged.
-/
import Derived.Test.YtbjlijagheifgaaC40
import Derived.Test.YtbjlijagheifgaaC37
set_option linter.unusedSimpArgs false
set_option linter.unusedVariables false
namespace Go.Side
section
open Go Go.Conc Go.ConcN Go.Proofs Go.RowKit Go.Proofs.Ytbjlijagheifgaa
theorem own_ext{u u':World}{B T s n:Nat}{v:Value}{xs:List Value}(e:Ext u u')(h:u.ownsRow B T s v n xs):u'.ownsRow B T s v n xs:=by
 obtain⟨h1,h|⟨g,cap,cur,hv,hb,hg,r⟩⟩:=h
 ·exact⟨h1,.inl h⟩
 ·exact⟨h1,.inr ⟨g,cap,cur,hv,hb,e.all _ _ hg,r⟩⟩
def OwnF(F:World→Prop)(v:Value)(xs:List Int)(u:World):Prop:=∃u0,F u0∧Ext u0 u∧u.ownsRow u0.heap.size 3 1 v xs.length (xs.map (Value.int .i64))
section
variable {F:World→Prop} {v:Value} {xs ys:List Int} {u:World}
theorem OwnF.ext:ExtC (OwnF F v xs):=fun x y e ⟨u0,f,h,o⟩=>⟨u0,f,h.trans e,own_ext e o⟩
theorem OwnF.f(hF:ExtC F)(h:OwnF F v xs u):F u:=let⟨u0,f,e,_⟩:=h;hF _ _ e f
theorem OwnF.sl{a:Option Addr}{c:Nat}(h:OwnF F (.slice a xs.length c) xs u):Sl (Value.int .i64) u a xs:=fun j x hj=>
 let⟨_,_,_,o⟩:=h;ownC_all o j _ (by rw[List.getElem?_map,hj];rfl)
theorem OwnF.shape(h:OwnF F v xs u):∃a c,v= .slice a xs.length c:=let⟨_,_,_,o⟩:=h;let⟨a,c,e,_⟩:=own_shape o;⟨a,c,e⟩
end
theorem infoO:(Try.prog.info? 3).map (fun i=>(i.zero,i.size,i.bytes))=some (some (.int .i64 0),1,8):=by kernel_rfl
section
variable {N:Nat} {Shun:Loc→Prop} {Qm:Machine→Trace→Prop} {w:World} {F:World→Prop} {b:Frame} {a:Act} {ops:Array Oper} {i:Nat} {rest:List Nat} {k:List Item} {cs:List Frame} {o:Oper} {v:Value} {xs ys:List Int}
theorem sb_app{x y:Operand}{ad:Option Addr}{c:Nat}(K:Kn N Shun w (OwnF F v xs))(hF:ExtC F)(ho:ops[i]?=some o)(hg:o.guard=none)(hpl:opPlain false none Try.prog lawFns o=true)(hop:o.op= .call {callee:=.builtin .append,args:= #[x,y],argTypes:= #[23,23]})(ex:a.eval x=v)(ey:a.eval y= .slice ad ys.length c)(hy:∀u,F u→Sl (Value.int .i64) u ad ys)(hl:xs.length+ys.length≤1000000)(kk:∀v' w',Kn N Shun w' (OwnF F v' (xs++ys))→SB Try.prog Shun Qm (G (b.at (a.put o.dst v') (.inRegion ops rest::k)) cs) w'):
  SB Try.prog Shun Qm (G (b.at a (.inRegion ops (i::rest)::k)) cs) w:=by
 refine SB.op K settled lawOK.fns ho hg hpl (Q:=fun u v' u'=>OwnF F v' (xs++ys) u') (fun u ⟨u0,f0,e0,o0⟩=>?_) (fun u v' u' w' hu hq gen=>kk v' w' (gen _ OwnF.ext hq))
 obtain⟨i0,hi,hz0,hz1,hz2⟩:=info_parts infoO
 obtain⟨v',u',hr,h2,h3,h4⟩:=run_append_cells (P:=Try.prog) u u0.heap.size 23 o.type 3 i0 (.int .i64 0) 1 8 Try.underlying23 hi hz0 hz1 hz2 rfl (by decide) v xs.length (xs.map (Value.int .i64)) o0 ad ys.length c (ys.map (Value.int .i64)) (by simp)
  (fun j q hj=>by
   rw[List.getElem?_map] at hj
   cases hz:ys[j]? with
   |none=>rw[hz] at hj;cases hj
   |some z=>rw[hz] at hj;obtain rfl:=Option.some.inj hj;exact(e0.sl (hy u0 f0)) j z hz)
  (one_map _ (fun _=>rfl) _) (by unfold maxLen;omega) (by omega) e0.size
 refine⟨v',u',?_,u0,f0,?_,by simpa using h2⟩
 ·unfold execOp
  simp only[hop,resolve,invoke,builtin,Sem.run_bind,Sem.run_pure,Result.andThen_ok,List.map_toArray,List.map_cons,List.map_nil,ex,ey,hr]
 ·refine⟨Nat.le_trans e0.size h3.size,fun p q hq=>?_,h3.os.trans e0.os,h3.output.trans e0.out⟩
  have hp:p<u0.heap.size:=(Array.getElem?_eq_some_iff.1 hq).1
  rw[h3.block p (Nat.lt_of_lt_of_le hp e0.size) fun h=>by have:=(own_lt o0 h.symm).2;omega]
  exact e0.all p q hq
theorem sb_bld{x:Operand}{z:Int}(K:Kn N Shun w F)(ho:ops[i]?=some o)(hg:o.guard=none)(hpl:opPlain false none Try.prog lawFns o=true)(hop:o.op= .buildSlice 23 1 #[(0,x)])(ex:a.eval x= .int .i64 z)(kk:∀v' w',Kn N Shun w' (OwnF F v' [z])→SB Try.prog Shun Qm (G (b.at (a.put o.dst v') (.inRegion ops rest::k)) cs) w'):
  SB Try.prog Shun Qm (G (b.at a (.inRegion ops (i::rest)::k)) cs) w:=by
 refine SB.op K settled lawOK.fns ho hg hpl (Q:=fun u v' u'=>OwnF F v' [z] u') (fun u hu=>?_) (fun u v' u' w' hu hq gen=>kk v' w' (gen _ OwnF.ext hq))
 refine⟨.slice (some ⟨u.heap.size,0,none⟩) 1 1,u.alloc (.cells #[.int .i64 z] 3),?_,u,hu,Ext.below ((Below.refl _ _).alloc (Nat.le_refl _) _),?_⟩
 ·rw[exec_buildSlice (t:=23) (n:=1) (parts:= #[(0,x)]) hop]
  simp only[List.map_toArray,List.map_cons,List.map_nil,ex]
  go_simp
 ·exact⟨rfl,.inr ⟨u.heap.size,1,#[.int .i64 z],rfl,Nat.le_refl _,Rows_new _ _,Nat.le_refl _,by unfold maxLen;omega,by simp,by simp⟩⟩
noncomputable def b25:Code:=Try.f25.body.getD .skip
theorem p25:([Item.code b25].all (itemPlain false none Try.prog lawFns))=true:=by kernel_rfl
set_option maxHeartbeats 1000000 in
theorem wp25(w:World)(a:Option Addr)(c:Nat)(xs:List Int)(hs:Sl (Value.int .i64) w a xs)(hl:xs.length≤1000000)(u1 u2 u3 u4 u5 u6 u7:Value):
  ItemsWp Try.prog [.code b25] (fun e a' w'=>e= .ret∧(w'.ownsRow w.heap.size 3 1 (a'.tmps.getD 2 undef) xs.length (xs.map (Value.int .i64))∧Below w.heap.size w w')) ⟨#[.slice a xs.length c,u1,u2,u3,u4,u5,u6,u7],[]⟩ w:=by
 refine ItemsWp.code ?_
 unfold b25
 conv in Option.getD _ _=>whnf
 cases a with
 |none=>
  have h0:xs=[]:=by
   match xs,hs with
   |[],_=>rfl
   |x::l,hs=>exact absurd (hs 0 x rfl).1 (by simp[okAd])
  subst h0
  have he:=fun w=>Lib.run_eql_slice_nil (P:=Try.prog) w 23 _ none 0 c 0 0 Try.underlying23
  go_wp2_with fail
  exact⟨⟨rfl,.inl ⟨rfl,rfl⟩⟩,Below.refl _ _⟩
 |some ad=>
  have he:=fun w=>Lib.run_eql_slice_nil (P:=Try.prog) w 23 _ (some ad) xs.length c 0 0 Try.underlying23
  have hl1:=Lib.hid hl
  have HS:=Lib.hid hs
  clear hs hl
  obtain⟨i0,hi,hz0,hz1,hz2⟩:=info_parts infoO
  have HI:=Lib.hid hi;have HZ0:=Lib.hid hz0;have HZ1:=Lib.hid hz1;have HZ2:=Lib.hid hz2
  clear hi hz0 hz1 hz2
  go_wp2_with (at_builtin;refine wpList_append_own _ rfl _ _ 23 rfl w.heap.size 3 i0 _ 1 8 Try.underlying23 HI.out HZ0.out HZ1.out HZ2.out rfl (by decide) _ 0 [] rfl ?c0 ad xs.length c (xs.map (Value.int .i64)) rfl ?c1 ?c2 ?c3 ?c4 ?c5 ?c6 ?_)
  case c0=>exact own_empty _ _ _
  case c1=>simp
  case c2=>exact(HS.out.below ((Below.refl _ _).alloc (Nat.le_refl _) _)).news
  case c3=>exact one_map _ (fun _=>rfl) _
  case c4=>have:=hl1.out;unfold maxLen;omega
  case c5=>have:=hl1.out;omega
  case c6=>simp
  intro v' w1 hown hgr hnil
  have B:Below w.heap.size w w1:=((Below.refl _ _).alloc (Nat.le_refl _) _).grown hgr (by simp) (by intro k hk;simp[Value.ownBlock] at hk;omega)
  have HR:=Lib.hid hown
  have HB:=Lib.hid B
  clear hown hgr hnil B
  go_wp2_with fail
  exact⟨by simpa using HR.out,HB.out⟩
theorem frame25(x:Value): #[x]++Array.replicate 7 undef= #[x,undef,undef,undef,undef,undef,undef,undef]:=by kernel_rfl
theorem sb_clone{fid:Nat}{x:Operand}{ad:Option Addr}{c:Nat}{ats:Array TypeId}(K:Kn N Shun w F)(hF:ExtC F)(ho:ops[i]?=some o)(hog:o.guard=none)(hop:o.op= .call {callee:=.value (.func 25),args:= #[x],argTypes:=ats})(ex:a.eval x= .slice ad xs.length c)(hx:∀u,F u→Sl (Value.int .i64) u ad xs)(hl:xs.length≤1000000)(kk:∀v' w',Kn N Shun w' (OwnF F v' xs)→SB Try.prog Shun Qm (G ((base fid).at (a.put o.dst v') (.inRegion ops rest::k)) cs) w'):
  SB Try.prog Shun Qm (G ((base fid).at a (.inRegion ops (i::rest)::k)) cs) w:=by
 have H:=gait_b Try.prog Shun Qm
 have hk0:(base fid).kind≠ .early:=by simp[base]
 refine SB.into (H.call (n:=0) (f:=25) (c:=b25) (args:= #[x]) (ats:=ats) ho (by simp[Region.wanted,hog]) hk0 hop Try.func25 (by decide) rfl (Kn.out K hF fun w₆ K₆=>?_))
 rw[show Try.f25.ntmps=8 from Try.ntmps25]
 simp only[List.map_toArray,List.map_cons,List.map_nil,List.size_toArray,List.length_cons,List.length_nil,Nat.reduceAdd,Nat.reduceSub,ex,frame25]
 refine K₆.lone (b:=base 25) (items:=[.code b25]) (k:=[]) lawOK ⟨_,Try.func25⟩ rfl p25 rfl (Q:=fun u e a' u'=>e= .ret∧(u'.ownsRow u.heap.size 3 1 (a'.tmps.getD 2 undef) xs.length (xs.map (Value.int .i64))∧Below u.heap.size u u'))
  (fun u e a' u' h=>.inr h.1) (fun u hu=>wp25 u ad c xs (hx u hu) hl _ _ _ _ _ _ _) (fun u a' u' w' hu h=>by cases h.1) (fun u a' u' w' todo hu h hd gen=>?_)
 have K₇:=gen (OwnF F (a'.tmps.getD 2 undef) xs) OwnF.ext ⟨u,hu,Ext.below h.2.2,h.2.1⟩
 refine SB.leave K₇ Try.func25 rfl hd (Q:=fun u v u'=>v=a'.tmps.getD 2 undef∧u'=u) (fun u _=>⟨_,u,results_tmp rfl _ _ _,rfl,rfl⟩) fun u v u' w9 hu' ⟨hv,hu2⟩ gen'=>?_
 subst hv
 subst hu2
 rw[Frame.finish_at,ho]
 exact kk _ w9 (gen' _ OwnF.ext hu')
end
end
section
open Go Go.ConcN Go.Proofs.Ytbjlijagheifgaa
theorem RunA.grow{L:List TkD}{ch:List Int}{s s':PS}{S S':List StepP}(h:RunA L ch s S s' S'):S.length≤S'.length:=by
 induction h with
 |done _=>exact Nat.le_refl _
 |step _ _ ih=>rw[List.length_append] at ih;simp at ih;omega
theorem RunA.agree{L:List TkD}{ch ch':List Int}{s s':PS}{S S':List StepP}(h:RunA L ch s S s' S'):(∀j,S.length≤j→j<S'.length→∀n,pickP ch j n=pickP ch' j n)→RunA L ch' s S s' S':=by
 induction h with
 |done h=>exact fun _=>.done h
 |step h k ih=>
  intro e
  have hg:=k.grow
  rw[List.length_append] at hg
  simp at hg
  refine .step (by rw[←e _ (Nat.le_refl _) (by omega)];exact h) (ih fun j h1 h2 n=>e j ?_ h2 n)
  rw[List.length_append] at h1
  simp at h1
  omega
theorem outc_det{L:List TkD}{ch:List Int}{s₁ s₂:PS}{S₁ S₂:List StepP}(h:Outc L ch s₁ S₁)(k:Outc L ch s₂ S₂):s₁=s₂∧S₁=S₂:=RunA.det h k
theorem outc_more{L:List TkD}{ch more:List Int}{s':PS}{S':List StepP}(h:Outc L ch s' S')(hl:S'.length≤ch.length):Outc L (ch.take S'.length++more) s' S':=by
 refine RunA.agree h fun j _ hj n=>?_
 unfold pickP
 rw[List.getElem?_append_left (by rw[List.length_take];omega),List.getElem?_take,if_pos hj]
theorem outc_first{L:List TkD}{c:Int}{ch:List Int}{s':PS}{S':List StepP}{x:StepP}(h:Outc L (c::ch) s' S')(hx:(possS L (s0 L))[pickP (c::ch) 0 (possS L (s0 L)).length]?=some x):∃l,S'=x::l:=by
 unfold Outc at h
 cases h with
 |done h=>rw[h] at hx;cases hx
 |step h k=>
  simp only[List.length_nil] at h
  rw[hx] at h
  obtain rfl:=Option.some.inj h
  have:∀{s:PS} {S:List StepP} {s':PS} {S':List StepP},RunA L (c::ch) s S s' S'→∃l,S'=S++l:=fun h=>by
   induction h with
   |done _=>exact⟨[],by simp⟩
   |step _ _ ih=>obtain⟨l,e⟩:=ih;exact⟨[_]++l,by rw[e,List.append_assoc]⟩
  obtain⟨l,e⟩:=this k
  exact⟨l,by rw[e];rfl⟩
theorem outc_none{L:List TkD}{ch:List Int}{s':PS}{S':List StepP}(h:Outc L ch s' S')(hp:possS L (s0 L)=[]):S'=[]:=by
 unfold Outc at h
 cases h with
 |done _=>rfl
 |step h _=>rw[hp] at h;cases h
theorem pick_first{c k:Int}{n:Nat}{ch:List Int}(hk:0≤k)(hkn:k<n)(hc:c=k∨c=k-5*n):pickP (c::ch) 0 n=k.toNat:=by
 have hn:(0:Int)<n:=by omega
 have key:((c.tmod n)+n).tmod n=k:=by
  rcases hc with rfl|rfl
  ·rw[Int.tmod_eq_of_lt hk hkn,Int.tmod_eq_emod_of_nonneg (by omega),Int.add_emod_right,Int.emod_eq_of_lt hk hkn]
  ·by_cases h0:k=0
   ·subst h0
    have e:(0-5*(n:Int)).tmod n=0:=by
     rw[show(0-5*(n:Int))= -(5*n) by omega,Int.neg_tmod,Int.mul_tmod_left];rfl
    rw[e,Int.zero_add,Int.tmod_self]
   ·have e:(k-5*(n:Int)).tmod n=k-n:=by
     have h1:(k-5*(n:Int))= -((n-k)+4*n):=by omega
     rw[h1,Int.neg_tmod,Int.tmod_eq_emod_of_nonneg (by omega),Int.add_mul_emod_self_right,Int.emod_eq_of_lt (by omega) (by omega)]
     omega
    rw[e,show k-(n:Int)+n=k by omega,Int.tmod_eq_of_lt hk hkn]
 unfold pickP
 simp only[List.getElem?_cons_zero]
 rw[key]
theorem outc_same{L:List TkD}{k:Int}{ch:List Int}{s':PS}{S':List StepP}(hk:0≤k)(hkn:k<(possS L (s0 L)).length)(h:Outc L (k::ch) s' S'):Outc L ((k-5*((possS L (s0 L)).length:Nat))::ch) s' S':=by
 unfold Outc at h⊢
 cases h with
 |done h=>exact .done h
 |step h r=>
  simp only[List.length_nil] at h
  refine .step ?_ (r.agree fun j hj _ n=>?_)
  ·simp only[List.length_nil]
   rw[pick_first hk hkn (.inr rfl),←pick_first (ch:=ch) hk hkn (.inl rfl)]
   exact h
  ·have hj1:1≤j:=by simpa using hj
   obtain⟨i,rfl⟩:∃i,j=i+1:=⟨j-1,by omega⟩
   unfold pickP
   simp only[List.getElem?_cons_succ]
end
end Go.Side
