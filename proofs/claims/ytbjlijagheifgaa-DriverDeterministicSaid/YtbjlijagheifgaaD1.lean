/-
  Texts of Ytbjlijagheifgaa, merged.
-/
import Derived.Conc.Beside
import Derived.Conc.CrowdTrace
set_option linter.unusedSimpArgs false
set_option linter.unusedVariables false
namespace Go.Side
section
open Go Go.Conc Go.ConcN
inductive Who where
 |gor (g:Nat)
 |at(r:Nat)
def KnowsW(t:Trace):Who→Nat→Prop
 | .gor g,i=>Knows t g i
 | .at r,i=>Before t i r
theorem KnowsW.app{t:Trace}{x:Who}{i:Nat}(u:Trace)(h:KnowsW t x i):KnowsW (t++u) x i:=by
 cases x with
 |gor g=>exact Knows.app u h
 |«at» r=>exact Before.app u h
def Fresh(B B':Nat):Loc→Prop
 | .cell a=>B≤a.block∧a.block<B'
 | .obj r=>B≤r∧r<B'
 |_=>False
structure Shares(Sh:Loc→Prop)(Hold:Who→Loc→Prop)(B:Nat)(t:Trace):Prop where
 clean:∀said,¬Race said t
 wrote:∀i a,touchAt t i=some a→a.loc.isMemory=true→¬Sh a.loc→a.write=true→∀x,Hold x a.loc→KnowsW t x i
 read:∀i a,touchAt t i=some a→a.loc.isMemory=true→¬Sh a.loc→(∃x,Hold x a.loc)→∃x,Hold x a.loc∧KnowsW t x i
 sh:∀i a,touchAt t i=some a→a.loc.isMemory=true→Sh a.loc→Knows t 0 i∨(a.kind= .atomic∧¬t.heard i)
 seen:∀op∈t,op.act.low B
section
variable {Sh:Loc→Prop} {Hold Hold':Who→Loc→Prop} {B B':Nat} {t u:Trace} {g:Nat}
theorem noRace_mute{said:Bool}(h:¬Race said t)(hn:∀op∈u,op.act.touch?=none):¬Race said (t++u):=by
 rintro⟨i,j,hij,⟨a,b,ha,hb,hc⟩,n1,n2⟩
 obtain⟨x,hx,hxa⟩:=touch_of ha
 obtain⟨y,hy,hyb⟩:=touch_of hb
 rcases getElem?_append_cases hy with⟨hj,hy'⟩|⟨_,hyu⟩
 ·have hi:i<t.size:=Nat.lt_trans hij hj
  have hx':t[i]?=some x:=by rw[←getElem?_append_old (u:=u) hi];exact hx
  exact h ⟨i,j,hij,⟨a,b,by simp[Trace.act?,hx',hxa],by simp[Trace.act?,hy',hyb],hc⟩,fun e=>n1 (hb_app u e),fun e=>n2 (hb_app u e)⟩
 ·rw[hn y hyu] at hyb;cases hyb
theorem low_touch{x:MemAct}{a:Touch}(h:x.low B)(ha:x.touch?=some a):a.loc.low B:=by
 cases x with
 |access e=>simp only[MemAct.touch?,Option.some.injEq] at ha;subst ha;exact h
 |mark m=>cases m<;>simp only[MemAct.touch?,Option.some.injEq,reduceCtorEq] at ha<;>subst ha<;>exact h
 |_=>cases ha
theorem not_fresh{l:Loc}(h:l.low B):¬Fresh B B' l:=by
 cases l with
 |cell a=>exact fun x=>Nat.not_lt.2 x.1 h
 |obj r=>exact fun x=>Nat.not_lt.2 x.1 h
 |_=>exact fun x=>x
theorem Shares.low(H:Shares Sh Hold B t){i:Nat}{a:Touch}(ha:touchAt t i=some a):a.loc.low B:=by
 obtain⟨x,hx,hxa⟩:=touch_of ha
 exact low_touch (H.seen x (mem_of_getElem? hx)) hxa
theorem Shares.mono(H:Shares Sh Hold B t)(h:B≤B'):Shares Sh Hold B' t:=⟨H.clean,H.wrote,H.read,H.sh,fun op hop=>MemAct.low_mono h (H.seen op hop)⟩
theorem old_touch{i:Nat}{a:Touch}(ha:touchAt (t++u) i=some a):(i<t.size∧touchAt t i=some a)∨∃op∈u,(t++u)[i]?=some op∧op.act.touch?=some a∧t.size≤i:=by
 obtain⟨x,hx,hxa⟩:=touch_of ha
 rcases getElem?_append_cases hx with⟨hi,hx'⟩|⟨hi,hxu⟩
 ·exact .inl ⟨hi,by rw[touchAt_of hx'];exact hxa⟩
 ·exact .inr ⟨x,hxu,hx,hxa,hi⟩
theorem Shares.sh_old(H:Shares Sh Hold B t){i:Nat}{a:Touch}(hi:i<t.size)(ha:touchAt t i=some a)(hm:a.loc.isMemory=true)(hs:Sh a.loc):Knows (t++u) 0 i∨(a.kind= .atomic∧¬(t++u).heard i):=
 (H.sh i a ha hm hs).imp (Knows.app u) fun h=>⟨h.1,fun x=>h.2 ((heard_old hi).1 x)⟩
theorem Shares.own(H:Shares Sh Hold B t)(hu:∀op∈u,op.g=g)(hb:∀op∈u,∀b,op.act.touch?=some b→b.loc.isMemory=true→¬Sh b.loc∧Hold (.gor g) b.loc∧(b.write=true→∀x,Hold x b.loc→x= .gor g))(hl:∀op∈u,op.act.low B):Shares Sh Hold B (t++u):=by
 refine⟨fun said=>noRace_append (H.clean said) hu fun i a ha op hop b hbt hc=>?_,fun i a ha hm hs hw x hx=>?_,fun i a ha hm hs hx=>?_,fun i a ha hm hs=>?_,seen_app H.seen hl⟩
 ·obtain⟨h1,h2,h3⟩:=hb op hop b hbt (hc.1▸hc.2.1)
  cases hbw:b.write with
  |true=>
   obtain⟨x,hx,hk⟩:=H.read i a ha hc.2.1 (hc.1▸h1) ⟨_,hc.1▸h2⟩
   rw[h3 hbw x (hc.1▸hx)] at hk
   exact hk
  |false=>exact H.wrote i a ha hc.2.1 (hc.1▸h1) (hc.2.2.1.resolve_right (by simp[hbw])) _ (hc.1▸h2)
 ·rcases old_touch ha with⟨_,ha'⟩|⟨op,hop,hi,hoa,hti⟩
  ·exact(H.wrote i a ha' hm hs hw x hx).app u
  ·rw[(hb op hop a hoa hm).2.2 hw x hx,←hu op hop]
   exact knows_own hi
 ·rcases old_touch ha with⟨_,ha'⟩|⟨op,hop,hi,hoa,hti⟩
  ·obtain⟨x,h1,h2⟩:=H.read i a ha' hm hs hx
   exact⟨x,h1,h2.app u⟩
  ·refine⟨.gor g,(hb op hop a hoa hm).2.1,?_⟩
   rw[←hu op hop]
   exact knows_own hi
 ·rcases old_touch ha with⟨hi,ha'⟩|⟨op,hop,_,hoa,_⟩
  ·exact H.sh_old hi ha' hm hs
  ·exact absurd hs (hb op hop a hoa hm).1
theorem Shares.fresh(H:Shares Sh Hold B t)(g:Nat)(h:B≤B'):Shares Sh (fun x l=>Hold x l∨(x= .gor g∧Fresh B B' l)) B' t:=by
 refine⟨H.clean,fun i a ha hm hs hw x hx=>?_,fun i a ha hm hs hx=>?_,H.sh,fun op hop=>MemAct.low_mono h (H.seen op hop)⟩
 ·exact H.wrote i a ha hm hs hw x (hx.resolve_right fun y=>not_fresh (H.low ha) y.2)
 ·obtain⟨x,hx⟩:=hx
  obtain⟨y,h1,h2⟩:=H.read i a ha hm hs ⟨x,hx.resolve_right fun y=>not_fresh (H.low ha) y.2⟩
  exact⟨y,.inl h1,h2⟩
theorem Shares.pass(H:Shares Sh Hold B t)(hn:∀op∈u,op.act.touch?=none)(hl:∀op∈u,op.act.low B)(F:∀x l,Hold' x l→∃y,Hold y l∧∀i,KnowsW t y i→KnowsW (t++u) x i)(G:∀y l,Hold y l→(∃x,Hold' x l)→∃x,Hold' x l∧∀i,KnowsW t y i→KnowsW (t++u) x i):Shares Sh Hold' B (t++u):=by
 have old:∀{i:Nat} {a:Touch},touchAt (t++u) i=some a→i<t.size∧touchAt t i=some a:=fun ha=>by
  rcases old_touch ha with h|⟨op,hop,_,hoa,_⟩
  ·exact h
  ·rw[hn op hop] at hoa;cases hoa
 refine⟨fun said=>noRace_mute (H.clean said) hn,fun i a ha hm hs hw x hx=>?_,fun i a ha hm hs hx=>?_,fun i a ha hm hs=>H.sh_old (old ha).1 (old ha).2 hm hs,seen_app H.seen hl⟩
 ·obtain⟨y,hy,hk⟩:=F x _ hx
  exact hk i (H.wrote i a (old ha).2 hm hs hw y hy)
 ·obtain⟨x,hx'⟩:=hx
  obtain⟨y,hy,_⟩:=F x _ hx'
  obtain⟨z,hz,hk⟩:=H.read i a (old ha).2 hm hs ⟨y,hy⟩
  obtain⟨x',h1,h2⟩:=G z _ hz ⟨x,hx'⟩
  exact⟨x',h1,h2 i hk⟩
theorem Shares.mute(H:Shares Sh Hold B t)(hn:∀op∈u,op.act.touch?=none)(hl:∀op∈u,op.act.low B):Shares Sh Hold B (t++u):=
 H.pass hn hl (fun x _ h=>⟨x,h,fun _ k=>k.app u⟩) (fun y _ h _=>⟨y,h,fun _ k=>k.app u⟩)
theorem Shares.atom{Wp:Loc→Prop}(H:Shares Sh Hold B t)(Q:Quiet Wp t)(hW:∀l,Wp l→Sh l)(hu:∀op∈u,op.g=g)(hb:∀op∈u,∀b,op.act.touch?=some b→b.loc.isMemory=true→Wp b.loc∧b.kind≠ .plain∧(b.kind= .said→g=0))(hd:g=0∨∀i op,t.size≤i→(t++u)[i]?=some op→∀b,op.act.touch?=some b→b.kind= .atomic∧¬(t++u).heard i)(hl:∀op∈u,op.act.low B):Shares Sh Hold B (t++u):=by
 have old:∀{i:Nat} {a:Touch},touchAt (t++u) i=some a→a.loc.isMemory=true→¬Sh a.loc→touchAt t i=some a:=fun ha hm hs=>by
  rcases old_touch ha with h|⟨op,hop,_,hoa,_⟩
  ·exact h.2
  ·exact absurd (hW _ (hb op hop _ hoa hm).1) hs
 refine⟨fun said=>noRace_append (H.clean said) hu fun i a ha op hop b hbt hc=>?_,fun i a ha hm hs hw x hx=>(H.wrote i a (old ha hm hs) hm hs hw x hx).app u,fun i a ha hm hs hx=>?_,fun i a ha hm hs=>?_,seen_app H.seen hl⟩
 ·obtain⟨h1,h2,h3⟩:=hb op hop b hbt (hc.1▸hc.2.1)
  exact Quiet.known Q h1 h2 h3 i a ha hc
 ·obtain⟨x,h1,h2⟩:=H.read i a (old ha hm hs) hm hs hx
  exact⟨x,h1,h2.app u⟩
 ·rcases old_touch ha with⟨hi,ha'⟩|⟨op,hop,hi,hoa,hti⟩
  ·exact H.sh_old hi ha' hm hs
  ·rcases hd with rfl|hd
   ·left
    have:=knows_own hi
    rwa[hu op hop] at this
   ·exact .inr (hd i op hti hi a hoa)
end
section
variable {Sh:Loc→Prop} {Hold Hold':Who→Loc→Prop} {B B':Nat} {t u:Trace} {g:Nat}
theorem lay{i m:Nat}{op:MemOp}(h:Knows t g i)(hm:t.size≤m)(ho:(t++u)[m]?=some op)(hg:op.g=g):KnowsW (t++u) (.at m) i:=.inr (h.hb_new hm ho hg)
theorem take{i m q:Nat}{op:MemOp}(h:Before t i m)(e:HappensBefore (t++u) m q)(ho:(t++u)[q]?=some op)(hg:op.g=g):Knows (t++u) g i:=⟨q,op,ho,hg,.inr ((h.app u).hb e)⟩
def meet(h j:Nat)(fh:FuncId)(ph:String)(fj:FuncId)(pj:String)(c k r cap:Nat):Trace:=
 #[{g:=h,fn:=fh,pos:=ph,act:=.send c k},{g:=j,fn:=fj,pos:=pj,act:=.recv c r cap},{g:=h,fn:=fh,pos:=ph,act:=.sendDone c k},{g:=j,fn:=fj,pos:=pj,act:=.recvDone c r}]
theorem meet_mute{h j:Nat}{fh:FuncId}{ph:String}{fj:FuncId}{pj:String}{c k r cap:Nat}:∀op∈meet h j fh ph fj pj c k r cap,op.act.touch?=none:=by
 intro op hop
 simp only[meet,List.mem_toArray,List.mem_cons,List.not_mem_nil,or_false] at hop
 rcases hop with rfl|rfl|rfl|rfl<;>rfl
theorem meet_low{h j:Nat}{fh:FuncId}{ph:String}{fj:FuncId}{pj:String}{c k r cap:Nat}(hc:c<B):∀op∈meet h j fh ph fj pj c k r cap,op.act.low B:=by
 intro op hop
 simp only[meet,List.mem_toArray,List.mem_cons,List.not_mem_nil,or_false] at hop
 rcases hop with rfl|rfl|rfl|rfl<;>exact hc
theorem meet_deaf{h j:Nat}{fh:FuncId}{ph:String}{fj:FuncId}{pj:String}{c k r cap:Nat}(g':Nat):∀op∈meet h j fh ph fj pj c k r cap,∀d,deafStep g' d op=d:=by
 intro op hop d
 simp only[meet,List.mem_toArray,List.mem_cons,List.not_mem_nil,or_false] at hop
 rcases hop with rfl|rfl|rfl|rfl<;>rfl
theorem get_new(t u:Trace)(k:Nat):(t++u)[t.size+k]?=u[k]?:=by rw[Array.getElem?_append_right (Nat.le_add_right _ _)];simp
theorem deaf_still{g':Nat}(hq:∀op∈u,∀d,deafStep g' d op=d):∀k,k≤u.size→(t++u).deaf g' (t.size+k)=Deaf t g'
 |0,_=>deaf_old (Nat.le_refl _)
 |k+1,hk=>by
  have hy:(t++u)[t.size+k]?=some u[k]:=by rw[get_new];exact Array.getElem?_eq_getElem (by omega)
  rw[←Nat.add_assoc,deaf_succ hy,hq _ (Array.getElem_mem _),deaf_still hq k (by omega)]
theorem Deaf_still{g':Nat}(hq:∀op∈u,∀d,deafStep g' d op=d):Deaf (t++u) g'=Deaf t g':=by
 have:=deaf_still (t:=t) hq u.size (Nat.le_refl _)
 unfold Deaf
 rw[Array.size_append]
 exact this
theorem gOf{i:Nat}{op:MemOp}(h:t[i]?=some op):t.g? i=some op.g:=by simp[Trace.g?,h]
theorem meet_knows{h j:Nat}{fh:FuncId}{ph:String}{fj:FuncId}{pj:String}{c k cap i:Nat}(hh:Deaf t h=0)(hj:Deaf t j=0)(hk:Knows t h i):Knows (t++meet h j fh ph fj pj c k k cap) j i:=by
 have e0:(t++meet h j fh ph fj pj c k k cap)[t.size]?=some {g:=h,fn:=fh,pos:=ph,act:=.send c k}:=by simp[meet]
 have e3:(t++meet h j fh ph fj pj c k k cap)[t.size+3]?=some {g:=j,fn:=fj,pos:=pj,act:=.recvDone c k}:=by simp[meet]
 have edge:HappensBefore (t++meet h j fh ph fj pj c k k cap) t.size (t.size+3):=
  .single (.inr ⟨.handOver (act?_of e0) (act?_of e3),⟨h,gOf e0,by rw[deaf_old (Nat.le_refl _)];exact hh⟩,⟨j,gOf e3,by rw[deaf_still (meet_deaf j) 3 (by simp[meet])];exact hj⟩⟩)
 exact⟨t.size+3,_,e3,rfl,.inr ((hk.hb_new (Nat.le_refl _) e0 rfl).trans edge)⟩
theorem closed_knows{m c i:Nat}{op:MemOp}(hm:t.act? m=some (.close c))(hh:t.heard m)(hd:Deaf t op.g=0)(ho:op.act= .recvClosed c)(hk:Before t i m):Knows (t++ #[op]) op.g i:=by
 have hlt:=lt_of_act? hm
 have e0:(t++ #[op])[t.size]?=some op:=by simp
 have hh':(t++ #[op]).heard m:=(heard_old hlt).2 hh
 have edge:HappensBefore (t++ #[op]) m t.size:=
  .single (.inr ⟨.closed (by rw[act?_old hlt];exact hm) (by rw[act?_of e0,ho]),hh',⟨op.g,gOf e0,by rw[deaf_old (Nat.le_refl _)];exact hd⟩⟩)
 exact⟨t.size,op,e0,rfl,.inr ((hk.app _).hb edge)⟩
theorem acquire_knows{m i:Nat}{a:Addr}{op:MemOp}(hm:t.act? m=some (.mark (.releaseMerge a)))(hh:t.heard m)(hn:NoRelease a t)(hd:Deaf t op.g=0)(ho:op.act= .mark (.acquire a))(hk:Before t i m):Knows (t++ #[op]) op.g i:=by
 have hlt:=lt_of_act? hm
 have e0:(t++ #[op])[t.size]?=some op:=by simp
 have hn':NoRelease a (t++ #[op]):=hn.app fun x hx=>by
  simp only[List.mem_toArray,List.mem_cons,List.not_mem_nil,or_false] at hx
  subst hx
  rw[ho];simp
 have edge:HappensBefore (t++ #[op]) m t.size:=
  .single (.inr ⟨.marked hlt (.inr (by rw[act?_old hlt];exact hm)) (by rw[act?_of e0,ho]) (fun k _ _=>hn' k),(heard_old hlt).2 hh,⟨op.g,gOf e0,by rw[deaf_old (Nat.le_refl _)];exact hd⟩⟩)
 exact⟨t.size,op,e0,rfl,.inr ((hk.app _).hb edge)⟩
theorem Shares.ofPast{Shun:Loc→Prop}{Wg:Nat}(H:Past Shun B t)(hB:B≤Wg)(hB':B≤B'):
  Shares (fun l=>Shun l∨∃a,l= .cell a∧a.block=Wg) (fun x l=>x= .gor 0∧¬Shun l∧¬∃a,l= .cell a∧a.block=Wg) B' t:=by
 have low:∀{i:Nat} {a:Touch},touchAt t i=some a→a.loc.low B:=fun{i a} ha=>by
  obtain⟨x,hx,hxa⟩:=touch_of ha
  exact low_touch (H.seen x (mem_of_getElem? hx)) hxa
 have nw:∀{i:Nat} {a:Touch},touchAt t i=some a→¬∃ad,a.loc= .cell ad∧ad.block=Wg:=fun{i a} ha=>by
  rintro⟨ad,h1,h2⟩
  have:=low ha
  rw[h1] at this
  have:ad.block<B:=this
  omega
 have kn:∀i a,touchAt t i=some a→a.loc.isMemory=true→¬(Shun a.loc∨∃ad,a.loc= .cell ad∧ad.block=Wg)→Knows t 0 i:=fun i a ha hm hs=>(H.known i a ha hm).resolve_right fun x=>hs (.inl x.1)
 refine⟨H.clean,fun i a ha hm hs _ x hx=>by rw[hx.1];exact kn i a ha hm hs,fun i a ha hm hs _=>⟨.gor 0,⟨rfl,fun x=>hs (.inl x),fun x=>hs (.inr x)⟩,kn i a ha hm hs⟩,fun i a ha hm hs=>?_,fun op hop=>MemAct.low_mono hB' (H.seen op hop)⟩
 rcases H.known i a ha hm with hk|⟨_,hk⟩
 ·exact .inl hk
 ·by_cases hh:t.heard i
  ·left
   obtain⟨x,hx,hxa⟩:=touch_of ha
   by_cases hg:x.g=0
   ·have:=knows_own hx
    rwa[hg] at this
   ·obtain⟨j,hj,hb⟩:=H.over i x.g (gOf hx) hg ⟨a,ha,hm,.inr hh⟩
    obtain⟨y,hy,hyg⟩:=Option.map_eq_some_iff.1 hj
    exact⟨j,y,hy,hyg,.inr hb⟩
  ·exact .inr ⟨hk,hh⟩
theorem quiet_ofPast{Shun:Loc→Prop}{Wg:Nat}(H:Past Shun B t)(hB:B≤Wg):Quiet (fun l=>∃a,l= .cell a∧a.block=Wg) t:=by
 intro i op x hi hx ⟨a,ha,hb⟩
 have:x.loc.low B:=low_touch (H.seen op (mem_of_getElem? hi)) hx
 rw[ha] at this
 have:a.block<B:=this
 omega
theorem Shares.toPast(H:Shares Sh Hold B t)(hd:Deaf t 0=0)(h0:∀l,l.isMemory=true→l.low B→¬Sh l→Hold (.gor 0) l∧∀x,Hold x l→x= .gor 0):Past Sh B t:=by
 have kn:∀i a,touchAt t i=some a→a.loc.isMemory=true→¬Sh a.loc→Knows t 0 i:=fun i a ha hm hs=>by
  have:=h0 a.loc hm (H.low ha) hs
  obtain⟨x,hx,hk⟩:=H.read i a ha hm hs ⟨_,this.1⟩
  rw[this.2 x hx] at hk
  exact hk
 refine⟨H.clean,fun i a ha hm=>?_,fun i g hg hne ⟨x,hx,hm,hc⟩=>?_,hd,H.seen⟩
 ·by_cases hs:Sh a.loc
  ·exact(H.sh i a ha hm hs).imp id fun h=>⟨hs,h.1⟩
  ·exact .inl (kn i a ha hm hs)
 ·have hk:Knows t 0 i:=by
   by_cases hs:Sh x.loc
   ·refine(H.sh i x hx hm hs).resolve_right fun h=>?_
    rcases hc with hc|hc
    ·exact hc h.1
    ·exact h.2 hc
   ·exact kn i x hx hm hs
  obtain⟨q,z,hq,hz,hb⟩:=hk
  rcases hb with rfl|hb
  ·rw[gOf hq,hz] at hg
   exact absurd (Option.some.inj hg).symm hne
  ·exact⟨q,by rw[gOf hq,hz],hb⟩
end
end
section
open Go Go.Conc
structure Terr where
 ro:Loc→Prop
 wr:Loc→Prop
 kn:Nat→Prop
def Terr.rd(T:Terr)(l:Loc):Prop:=T.ro l∨T.wr l
def Terr.grow(T:Terr)(N N':Nat):Terr:={T with wr:=fun l=>T.wr l∨Fresh N N' l}
@[simp] theorem grow_same (T:Terr) (N:Nat):T.grow N N=T:=by
 have:∀l,¬Fresh N N l:=fun l h=>by cases l<;>first|exact h|(obtain⟨h1,h2⟩:=h;omega)
 simp[Terr.grow,this]
theorem Terr.grow_rd{T:Terr}{N N':Nat}{l:Loc}:(T.grow N N').rd l↔T.rd l∨Fresh N N' l:=by simp[Terr.rd,Terr.grow,or_assoc]
theorem Terr.grow_of{T:Terr}{N N':Nat}{l:Loc}(h:T.rd l):(T.grow N N').rd l:=Terr.grow_rd.2 (.inl h)
def IsWg(c:Array Value):Prop:=∃a b:Int,c= #[.int .u64 a,.int .u32 b]
def Kin:Obj→Obj→Prop
 | .cells c e f,o'=>∃c',o'= .cells c' e f∧c'.size=c.size∧(IsWg c→IsWg c')
 | .chan cap _ _ _ _ tm,o'=>∃buf cl s r,o'= .chan cap buf cl s r tm
 |o,o'=>o'=o
theorem Kin.refl(o:Obj):Kin o o:=by cases o<;>first|exact rfl|exact⟨_,rfl,rfl,id⟩|exact⟨_,_,_,_,rfl⟩
theorem Kin.trans{a b c:Obj}(h:Kin a b)(h':Kin b c):Kin a c:=by
 cases a<;>first
  |(obtain⟨_,rfl,e,k⟩:=h;obtain⟨c',rfl,e',k'⟩:=h';exact⟨c',rfl,e'.trans e,fun x=>k' (k x)⟩)
  |(obtain⟨_,_,_,_,rfl⟩:=h;obtain⟨_,_,_,_,rfl⟩:=h';exact⟨_,_,_,_,rfl⟩)
  |(cases(show b=_ from h);exact h')
def Row(w:World)(b:Nat):Prop:=∃c e,w.heap[b]?=some (Obj.cells c e (0,0))
structure Rely(q:Bool)(T:Terr)(w w₁:World):Prop where
 tape:w₁.tape=w.tape
 os:w₁.os=w.os
 out:w₁.output=w.output
 size:w.heap.size≤w₁.heap.size
 cell:∀a,T.rd (.cell a)→w₁.cell? a=w.cell? a
 kin:∀(b:Nat) (o:Obj),(T.kn b∨T.wr (.obj b))→w.heap[b]?=some o→∃o',w₁.heap[b]?=some o'∧Kin o o'
 own:∀(r:Nat) (o:Obj),T.wr (.obj r)→w.heap[r]?=some o→(∀c e f,o≠Obj.cells c e f)→w₁.heap[r]?=some o
 rows:(∀b,T.kn b)→∀b:Nat,(w.heap.size≤b∨Row w b)→b<w₁.heap.size→Row w₁ b
 quiet:q=true→w₁.heap.size=w.heap.size∧∀(b:Nat) (o:Obj),w.heap[b]?=some o→(∀c e f,o≠Obj.cells c e f)→w₁.heap[b]?=some o
def EvT(T:Terr)(N:Nat)(e:Event):Prop:=
 match e.loc with
 | .cell a=>a.block<N∧T.rd (.cell a)∧(e.write=true→T.wr (.cell a))
 | .obj r=>r<N∧T.rd (.obj r)∧(e.write=true→T.wr (.obj r))
 | .mark m=>m= .noRoom
 |_=>False
structure Guar(main na:Bool)(T:Terr)(w w':World)(es:Array Event):Prop where
 tape:w'.tape=w.tape
 os:w'.os=w.os
 out:w'.output=w.output
 size:w.heap.size≤w'.heap.size
 cell:∀a,a.block<w.heap.size→¬T.wr (.cell a)→w'.cell? a=w.cell? a
 block:main=true→∀b:Nat,b<w.heap.size→¬T.wr (.obj b)→w'.heap[b]?=w.heap[b]?
 kin:main=false→∀(b:Nat) (o:Obj),w.heap[b]?=some o→∃o',w'.heap[b]?=some o'∧Kin o o'∧((∀c e f,o≠Obj.cells c e f)→o'=o)
 still:na=true→w'.heap.size=w.heap.size
 rows:main=false→∀b:Nat,w.heap.size≤b→b<w'.heap.size→Row w' b
 evs:∀e∈es,EvT (T.grow w.heap.size w'.heap.size) w'.heap.size e
section
variable {q:Bool} {T:Terr} {w w₁ w₂:World}
theorem Rely.refl(q:Bool)(T:Terr)(w:World):Rely q T w w:=⟨rfl,rfl,rfl,Nat.le_refl _,fun _ _=>rfl,fun _ o _ h=>⟨o,h,.refl o⟩,fun _ _ _ h _=>h,fun _ b h hl=>h.elim (fun h=>absurd hl (Nat.not_lt_of_le h)) id,fun _=>⟨rfl,fun _ _ h _=>h⟩⟩
theorem Rely.at(q:Bool)(T:Terr)(w:World)(d:Nat):Rely q T w (w.at d):=⟨rfl,rfl,rfl,Nat.le_refl _,fun _ _=>rfl,fun _ o _ h=>⟨o,h,.refl o⟩,fun _ _ _ h _=>h,fun _ b h hl=>h.elim (fun h=>absurd hl (Nat.not_lt_of_le h)) id,fun _=>⟨rfl,fun _ _ h _=>h⟩⟩
theorem Rely.trans(h:Rely q T w w₁)(h':Rely q T w₁ w₂):Rely q T w w₂:=
 ⟨h'.tape.trans h.tape,h'.os.trans h.os,h'.out.trans h.out,Nat.le_trans h.size h'.size,fun a ha=>(h'.cell a ha).trans (h.cell a ha),
  fun b o hb ho=>let⟨o₁,h1,k1⟩:=h.kin b o hb ho;let⟨o₂,h2,k2⟩:=h'.kin b o₁ hb h1;⟨o₂,h2,k1.trans k2⟩,
  fun r o hr ho hn=>h'.own r o hr (h.own r o hr ho hn) hn,fun hk b hb hl=>(by
   rcases Nat.lt_or_ge b w₁.heap.size with h1|h1
   ·exact h'.rows hk b (.inr (h.rows hk b hb h1)) hl
   ·exact h'.rows hk b (.inl h1) hl),fun hq=>⟨(h'.quiet hq).1.trans (h.quiet hq).1,fun b o ho hn=>(h'.quiet hq).2 b o ((h.quiet hq).2 b o ho hn) hn⟩⟩
theorem Rely.loud(h:Rely q T w w₁):Rely false T w w₁:=⟨h.tape,h.os,h.out,h.size,h.cell,h.kin,h.own,h.rows,fun e=>by cases e⟩
theorem Rely.less{T':Terr}(h:Rely q T w w₁)(hr:∀l,T'.rd l→T.rd l)(hw:∀l,T'.wr l→T.wr l)(hk:∀b,T'.kn b→T.kn b):Rely q T' w w₁:=
 ⟨h.tape,h.os,h.out,h.size,fun a ha=>h.cell a (hr _ ha),fun b o hb=>h.kin b o (hb.imp (hk b) (hw _)),fun r o ho=>h.own r o (hw _ ho),fun k=>h.rows fun b=>hk b (k b),h.quiet⟩
theorem Guar.idle(main na:Bool)(T:Terr)(w:World){es:Array Event}(h:∀e∈es,EvT T w.heap.size e):Guar main na T w w es:=
 ⟨rfl,rfl,rfl,Nat.le_refl _,fun _ _ _=>rfl,fun _ _ _ _=>rfl,fun _ _ o h=>⟨o,h,.refl o,fun _=>rfl⟩,fun _=>rfl,fun _ b h1 h2=>absurd h2 (Nat.not_lt_of_le h1),by simpa using h⟩
end
theorem Guar.loud{main na:Bool}{T:Terr}{w w':World}{es:Array Event}(h:Guar main na T w w' es):Guar main false T w w' es:=⟨h.tape,h.os,h.out,h.size,h.cell,h.block,h.kin,(fun e=>by cases e),h.rows,h.evs⟩
def GoesN(P:Program)(main q na:Bool)(Stop:Terr→Goroutine→World→Prop):Nat→Terr→Goroutine→World→Prop
 |0,T,g,w=>∀w₁,Rely q T w w₁→Stop T g w₁
 |n+1,T,g,w=>(∀w₁,Rely q T w w₁→Stop T g w₁)∨(g.status= .running∧∀w₁,Rely q T w w₁→
   (stepG P main g w₁).goes fun g' w' es=>Guar main na T w₁ w' es∧GoesN P main q na Stop n (T.grow w₁.heap.size w'.heap.size) g' w')
inductive GoesV(P:Program)(main q:Bool)(Stop:Terr→Goroutine→World→Prop):Terr→Goroutine→World→Prop
 |stop {T:Terr} {g:Goroutine} {w:World} (h:∀w₁,Rely q T w w₁→Stop T g w₁):GoesV P main q Stop T g w
 |step {T:Terr} {g:Goroutine} {w:World} (G':World→Goroutine) (W':World→World) (E':World→Array Event) (hs:g.status= .running)
   (hg:∀w₁,Rely q T w w₁→stepG P main g w₁= .go (G' w₁) (W' w₁) (E' w₁)∧Guar main false T w₁ (W' w₁) (E' w₁))
   (h:∀w₁,Rely q T w w₁→GoesV P main q Stop (T.grow w₁.heap.size (W' w₁).heap.size) (G' w₁) (W' w₁)):GoesV P main q Stop T g w
section
variable {P:Program} {main q na:Bool} {Stop Stop':Terr→Goroutine→World→Prop} {T:Terr} {g g':Goroutine} {w w₁:World} {n:Nat}
theorem goes_iff{s:GStep}{K:Goroutine→World→Array Event→Prop}:s.goes K↔∃g w es,s= .go g w es∧K g w es:=by
 constructor
 ·intro h
  cases s<;>first|exact⟨_,_,_,rfl,h⟩|exact h.elim
 ·rintro⟨g,w,es,rfl,h⟩
  exact h
theorem GoesV.next(hs:g.status= .running)(h:∀w₁,Rely q T w w₁→(stepG P main g w₁).goes fun g' w' es=>Guar main false T w₁ w' es∧GoesV P main q Stop (T.grow w₁.heap.size w'.heap.size) g' w'):GoesV P main q Stop T g w:=by
 classical
 have h':∀w₁,∃x:Goroutine×World×Array Event,Rely q T w w₁→stepG P main g w₁= .go x.1 x.2.1 x.2.2∧Guar main false T w₁ x.2.1 x.2.2∧GoesV P main q Stop (T.grow w₁.heap.size x.2.1.heap.size) x.1 x.2.1:=fun w₁=>by
  by_cases hr:Rely q T w w₁
  ·obtain⟨a,b,c,e,k1,k2⟩:=goes_iff.1 (h w₁ hr)
   exact⟨(a,b,c),fun _=>⟨e,k1,k2⟩⟩
  ·exact⟨(g,w,#[]),fun x=>absurd x hr⟩
 exact .step (fun w₁=>(h' w₁).choose.1) (fun w₁=>(h' w₁).choose.2.1) (fun w₁=>(h' w₁).choose.2.2) hs
  (fun w₁ hr=>⟨((h' w₁).choose_spec hr).1,((h' w₁).choose_spec hr).2.1⟩) (fun w₁ hr=>((h' w₁).choose_spec hr).2.2)
theorem GoesV.rely(h:GoesV P main q Stop T g w)(r:Rely q T w w₁):GoesV P main q Stop T g w₁:=by
 cases h with
 |stop h=>exact .stop fun w₂ r₂=>h w₂ (r.trans r₂)
 |step G' W' E' hs hg h=>exact .step G' W' E' hs (fun w₂ r₂=>hg w₂ (r.trans r₂)) (fun w₂ r₂=>h w₂ (r.trans r₂))
theorem GoesV.bind(h:GoesV P main q Stop T g w)(k:∀T g w,Stop T g w→GoesV P main q Stop' T g w):GoesV P main q Stop' T g w:=by
 induction h with
 |stop h=>exact k _ _ _ (h _ (Rely.refl _ _ _))
 |step G' W' E' hs hg _ ih=>exact .step G' W' E' hs hg ih
theorem GoesV.mono(h:GoesV P main q Stop T g w)(k:∀T g w,Stop T g w→Stop' T g w):GoesV P main q Stop' T g w:=by
 induction h with
 |stop h=>exact .stop fun w₁ r=>k _ _ _ (h w₁ r)
 |step G' W' E' hs hg _ ih=>exact .step G' W' E' hs hg ih
theorem GoesN.toV(h:GoesN P main q na Stop n T g w):GoesV P main q Stop T g w:=by
 induction n generalizing T g w with
 |zero=>exact .stop h
 |succ n ih=>
  rcases h with h|⟨hs,h⟩
  ·exact .stop h
  ·refine .next hs fun w₁ r=>?_
   have:=h w₁ r
   rw[goes_iff] at this⊢
   obtain⟨a,b,c,e,k1,k2⟩:=this
   exact⟨a,b,c,e,k1.loud,ih k2⟩
theorem GoesN.stop(h:∀w₁,Rely q T w w₁→Stop T g w₁):GoesN P main q na Stop n T g w:=by
 cases n with
 |zero=>exact h
 |succ n=>exact .inl h
theorem GoesN.rely(h:GoesN P main q na Stop n T g w)(r:Rely q T w w₁):GoesN P main q na Stop n T g w₁:=by
 cases n with
 |zero=>exact fun w₂ r₂=>h w₂ (r.trans r₂)
 |succ n=>
  rcases h with h|⟨hs,h⟩
  ·exact .inl fun w₂ r₂=>h w₂ (r.trans r₂)
  ·exact .inr ⟨hs,fun w₂ r₂=>h w₂ (r.trans r₂)⟩
theorem GoesN.running(hst:∀T g w,Stop T g w→g.status= .running)(h:GoesN P main q na Stop n T g w):g.status= .running:=by
 cases n with
 |zero=>exact hst _ _ _ (h w (Rely.refl _ _ _))
 |succ n=>
  rcases h with h|⟨hs,_⟩
  ·exact hst _ _ _ (h w (Rely.refl _ _ _))
  ·exact hs
theorem GoesN.le{m:Nat}(hm:n≤m)(h:GoesN P main q na Stop n T g w):GoesN P main q na Stop m T g w:=by
 induction n generalizing m T g w with
 |zero=>exact .stop h
 |succ n ih=>
  obtain⟨m,rfl⟩:∃k,m=k+1:=⟨m-1,by omega⟩
  rcases h with h|⟨hs,h⟩
  ·exact .inl h
  ·refine .inr ⟨hs,fun w₁ r=>?_⟩
   have:=h w₁ r
   rw[goes_iff] at this⊢
   obtain⟨a,b,c,e,k1,k2⟩:=this
   exact⟨a,b,c,e,k1,ih (by omega) k2⟩
theorem GoesN.bind{m:Nat}(h:GoesN P main q na Stop n T g w)(k:∀T g w,Stop T g w→GoesN P main q na Stop' m T g w):GoesN P main q na Stop' (n+m) T g w:=by
 induction n generalizing T g w with
 |zero=>exact(k _ _ _ (h w (Rely.refl _ _ _))).le (by omega)
 |succ n ih=>
  rcases h with h|⟨hs,h⟩
  ·exact(k _ _ _ (h w (Rely.refl _ _ _))).le (by omega)
  ·rw[Nat.add_right_comm]
   refine .inr ⟨hs,fun w₁ r=>?_⟩
   have:=h w₁ r
   rw[goes_iff] at this⊢
   obtain⟨a,b,c,e,k1,k2⟩:=this
   exact⟨a,b,c,e,k1,ih k2⟩
theorem GoesN.ctl(hs:g.status= .running)(hg:∀w₁:World,stepG P main g w₁= .go g' w₁ #[])(h:GoesN P main q na Stop n T g' w):GoesN P main q na Stop (n+1) T g w:=by
 refine .inr ⟨hs,fun w₁ r=>?_⟩
 rw[hg w₁,goes_go,grow_same]
 exact⟨.idle _ _ _ _ (by simp),h.rely r⟩
theorem GoesN.read{E:Array Event}(hs:g.status= .running)(hg:∀w₁,Rely q T w w₁→stepG P main g w₁= .go g' w₁ E)(hE:∀e∈E,∃a,e=⟨.cell a,false,false⟩∧a.block<w.heap.size∧T.rd (.cell a))(h:GoesN P main q na Stop n T g' w):GoesN P main q na Stop (n+1) T g w:=by
 refine .inr ⟨hs,fun w₁ r=>?_⟩
 rw[hg w₁ r,goes_go,grow_same]
 refine⟨.idle _ _ _ _ fun e he=>?_,h.rely r⟩
 obtain⟨a,rfl,h1,h2⟩:=hE e he
 exact⟨Nat.lt_of_lt_of_le h1 r.size,h2,by simp⟩
end
end
section
open Go Go.Conc Go.ConcN
section
variable {main na q:Bool} {T T':Terr} {w w':World} {es:Array Event} {Sh:Loc→Prop} {Hold:Who→Loc→Prop} {t:Trace} {g:Nat} {N:Nat}
theorem rely_of_guar(h:Guar main na T w w' es)(hr:∀l,T'.rd l→¬T.wr l)(hlt:∀a:Addr,T'.rd (.cell a)→a.block<w.heap.size)(hk:∀b,T'.kn b→main=true→¬T.wr (.obj b))(hq:q=true→main=false∧na=true)(hkr:main=true→¬∀b,T'.kn b):Rely q T' w w':=by
 refine⟨h.tape,h.os,h.out,h.size,fun a ha=>h.cell a (hlt a ha) (hr _ ha),fun b o hb ho=>?_,fun r o hw ho hn=>?_,fun hall b hb hl=>?_,fun hq'=>⟨h.still (hq hq').2,fun b o ho hn=>?_⟩⟩
 ·cases main with
  |false=>
   obtain⟨o',h1,h2,_⟩:=h.kin rfl b o ho
   exact⟨o',h1,h2⟩
  |true=>
   exact⟨o,(h.block rfl b (Array.getElem?_eq_some_iff.1 ho).1 (hb.elim (fun hb=>hk b hb rfl) fun hb=>hr _ (.inr hb))).trans ho,.refl o⟩
 ·cases main with
  |false=>
   obtain⟨o',h1,_,h3⟩:=h.kin rfl r o ho
   rw[h1,h3 hn]
  |true=>exact(h.block rfl r (Array.getElem?_eq_some_iff.1 ho).1 (hr _ (.inr hw))).trans ho
 ·cases main with
  |true=>exact absurd hall (hkr rfl)
  |false=>
   rcases hb with hb|⟨c,e,hb⟩
   ·exact h.rows rfl b hb hl
   ·obtain⟨o',h1,⟨c',rfl,_⟩,_⟩:=h.kin rfl b _ hb
    exact⟨_,_,h1⟩
 ·obtain⟨o',h1,_,h3⟩:=h.kin (hq hq').1 b o ho
  rw[h1,h3 hn]
theorem evT_touch{e:Event}(h:EvT T N e){x:Touch}(hx:(MemAct.ofEvent e).touch?=some x):T.rd x.loc∧(x.write=true→T.wr x.loc):=by
 obtain⟨l,wr,sy⟩:=e
 cases l with
 |cell a=>
  have:MemAct.ofEvent ⟨.cell a,wr,sy⟩= .access ⟨.cell a,wr,sy⟩:=by cases wr<;>cases sy<;>rfl
  rw[this] at hx
  simp only[MemAct.touch?,Option.some.injEq] at hx
  subst hx
  exact⟨h.2.1,h.2.2⟩
 |obj r=>
  by_cases hc:wr=true∧sy=true
  ·obtain⟨rfl,rfl⟩:=hc
   cases hx
  ·have:MemAct.ofEvent ⟨.obj r,wr,sy⟩= .access ⟨.obj r,wr,sy⟩:=by cases wr<;>cases sy<;>first|rfl|exact absurd ⟨rfl,rfl⟩ hc
   rw[this] at hx
   simp only[MemAct.touch?,Option.some.injEq] at hx
   subst hx
   exact⟨h.2.1,h.2.2⟩
 |mark m=>
  have:m= .noRoom:=h
  subst this
  cases hx
 |output=>exact h.elim
 |goroutines=>exact h.elim
theorem evT_low{e:Event}(h:EvT T N e):(MemAct.ofEvent e).low N:=by
 obtain⟨l,wr,sy⟩:=e
 cases l with
 |cell a=>
  have:MemAct.ofEvent ⟨.cell a,wr,sy⟩= .access ⟨.cell a,wr,sy⟩:=by cases wr<;>cases sy<;>rfl
  rw[this]
  exact h.1
 |obj r=>cases wr<;>cases sy<;>exact h.1
 |mark m=>
  have:m= .noRoom:=h
  subst this
  trivial
 |output=>exact h.elim
 |goroutines=>exact h.elim
theorem evT_deaf{e:Event}(h:EvT T N e):e.loc≠ .mark .disable∧e.loc≠ .mark .enable:=by
 obtain⟨l,wr,sy⟩:=e
 cases l with
 |mark m=>
  have:m= .noRoom:=h
  subst this
  exact⟨by simp,by simp⟩
 |_=>exact⟨by simp,by simp⟩
theorem Shares.step(H:Shares Sh Hold w.heap.size t)(G:Guar main na T w w' es)(hT:∀l,T.rd l→Hold (.gor g) l∧¬Sh l)(hw:∀l,T.wr l→∀x,Hold x l→x= .gor g)(hdom:∀x l,Hold x l→l.low w.heap.size)(hsh:∀l,Sh l→l.low w.heap.size)(fn:FuncId)(pos:String):
  Shares Sh (fun x l=>Hold x l∨(x= .gor g∧Fresh w.heap.size w'.heap.size l)) w'.heap.size (t++MemOp.ofEvents g fn pos es):=by
 refine(H.fresh g G.size).own (fun op hop=>by obtain⟨e,_,rfl⟩:=Conc.mem_ofEvents hop;rfl) (fun op hop b hb hm=>?_) (fun op hop=>by obtain⟨e,he,rfl⟩:=Conc.mem_ofEvents hop;exact evT_low (G.evs e he))
 obtain⟨e,he,rfl⟩:=Conc.mem_ofEvents hop
 obtain⟨h1,h2⟩:=evT_touch (G.evs e he) hb
 rw[Terr.grow_rd] at h1
 refine⟨?_,h1.imp (fun x=>(hT _ x).1) (fun x=>⟨rfl,x⟩),fun hwr x hx=>?_⟩
 ·rcases h1 with h1|h1
  ·exact(hT _ h1).2
  ·exact fun hs=>not_fresh (hsh _ hs) h1
 ·rcases h2 hwr with h3|h3
  ·rcases hx with hx|hx
   ·exact hw _ h3 x hx
   ·exact hx.1
  ·rcases hx with hx|hx
   ·exact absurd h3 (not_fresh (hdom x _ hx))
   ·exact hx.1
end
end
end Go.Side
