/-
  Texts of Ytbjlijagheifgaa, merged.
-/
import Derived.Test.YtbjlijagheifgaaP38
import Derived.Test.YtbjlijagheifgaaP37
import Derived.Test.YtbjlijagheifgaaP26
import Derived.Test.YtbjlijagheifgaaP24
import Derived.Test.YtbjlijagheifgaaRows
import Derived.ProofKit
import Derived.OpenShut
import Derived.ShutString
import Derived.ChangeOld
import Derived.Deep.Slices
set_option linter.unusedSimpArgs false
set_option linter.unusedVariables false
namespace Go.Proofs.Ytbjlijagheifgaa
section
open Go.RowKit Go.Side Go.ConcN
structure RfM(w:World)(n bA bZ bo rb:Nat)(r:PS)(S:List StepP)(v:Value)(wr:World):Prop where
 ps:PSm wr bA bZ n r
 out:Blk wr bo 46 [v,.slice none 0 0,.slice none 0 0,.slice none 0 0]
 res:Blk wr rb 46 [.slice none 0 0,.slice none 0 0,.slice none 0 0,.slice none 0 0]
 own:wr.ownsRow w.heap.size 89 4 v S.length (flC stC S)
 bel:Below w.heap.size w wr
theorem RfM.congr{w wr:World}{n bA bZ bo rb:Nat}{r q:PS}{S:List StepP}{v:Value}(h:RfM w n bA bZ bo rb r S v wr)(e:∀k,k<n→r k=q k):RfM w n bA bZ bo rb q S v wr:=⟨h.ps.congr e,h.out,h.res,h.own,h.bel⟩
theorem RfM.new{w wr wx:World}{n bA bZ bo rb:Nat}{r:PS}{S:List StepP}{v:Value}(h:RfM w n bA bZ bo rb r S v wr)(q:Below wr.heap.size wr wx):RfM w n bA bZ bo rb r S v wx:=
 ⟨h.ps.new q,h.out.upd (S:=fun _=>False) (Upd.of_below q) id,h.res.upd (S:=fun _=>False) (Upd.of_below q) id,own_upd h.own (Upd.of_below (S:=fun _=>False) q) (fun _ _=>id),h.bel.trans (q.mono h.bel.size)⟩
def lenAt(w:World)(b:Nat):Nat:=match w.cell? ⟨b,0,none⟩ with
 |some (.slice _ m _)=>m
 |_=>0
def posAt(w:World)(b i:Nat):Nat:=match w.cell? ⟨b,i,none⟩ with
 |some (.int _ z)=>z.toNat
 |_=>0
theorem RfM.len{w wr:World}{n bA bZ bo rb:Nat}{r:PS}{S:List StepP}{a:Option Addr}{m c:Nat}(h:RfM w n bA bZ bo rb r S (.slice a m c) wr):lenAt wr bo=m:=by
 unfold lenAt
 rw[h.out.cell (i:=0) rfl]
theorem RfM.pos{w wr:World}{n bA bZ bo rb i:Nat}{r:PS}{S:List StepP}{v:Value}(h:RfM w n bA bZ bo rb r S v wr)(hi:i<n):posAt wr bA i=(r i).1:=by
 unfold posAt
 rw[h.ps.getA hi]
 simp
theorem RfM.qt{w wr wx:World}{n bA bZ bo rb:Nat}{r:PS}{S:List StepP}{v:Value}(h:RfM w n bA bZ bo rb r S v wr)(q:Qt wr wx):RfM w n bA bZ bo rb r S v wx:=
 ⟨h.ps.qt q,h.out.qt q,h.res.qt q,own_upd h.own (Upd.of_below (S:=fun _=>False) q.bel) (fun _ _=>id),h.bel.trans (q.below _)⟩
structure RfB(w:World)(bA bZ bo rb:Nat):Prop where
 az:bA≠bZ
 ao:bA≠bo
 ar:bA≠rb
 zo:bZ≠bo
 zr:bZ≠rb
 or:bo≠rb
 la:w.heap.size≤bA
 lz:w.heap.size≤bZ
 lo:w.heap.size≤bo
structure RfE(w w9:World)(n bA bZ bo rb:Nat)(s:PS)(S:List StepP)(v u:Value)(U:List Int)(wr:World):Prop where
 ps:PSm wr bA bZ n s
 out:Blk wr bo 46 [v,.slice none 0 0,u,.slice none 0 0]
 res:Blk wr rb 46 [.slice none 0 0,.slice none 0 0,.slice none 0 0,.slice none 0 0]
 own:wr.ownsRow w.heap.size 89 4 v S.length (flC stC S)
 stk:wr.ownsRow w9.heap.size 3 1 u U.length (U.map (Value.int .i64))
 la:bA<w9.heap.size
 lz:bZ<w9.heap.size
 bel:Below w.heap.size w wr
 sz:w9.heap.size≤wr.heap.size
section
variable {w w9 wr wx w6:World} {n bA bZ bo rb:Nat} {s:PS} {S:List StepP} {v u u':Value} {U:List Int} {o:Obj}
theorem RfE.new(h:RfE w w9 n bA bZ bo rb s S v u U wr)(q:Below wr.heap.size wr wx):RfE w w9 n bA bZ bo rb s S v u U wx:=
 ⟨h.ps.new q,h.out.upd (S:=fun _=>False) (Upd.of_below q) id,h.res.upd (S:=fun _=>False) (Upd.of_below q) id,own_upd h.own (Upd.of_below (S:=fun _=>False) q) (fun _ _=>id),own_upd h.stk (Upd.of_below (S:=fun _=>False) q) (fun _ _=>id),h.la,h.lz,h.bel.trans (q.mono h.bel.size),Nat.le_trans h.sz q.size⟩
theorem RfE.push(h:RfE w w9 n bA bZ bo rb s S v u U wr)(hb:RfB w bA bZ bo rb)(hw:w.heap.size≤w9.heap.size){k:Int}(g1:w6.ownsRow w9.heap.size 3 1 u' (U.length+1) (U.map (Value.int .i64)++[.int .i64 k]))(g2:(wr.alloc o).grownBy w6 u.ownBlock):
  RfE w w9 n bA bZ bo rb s S v u' (U++[k]) (w6.setCell ⟨bo,2,none⟩ u'):=by
 have A:=h.new ((Below.refl _ _).alloc (Nat.le_refl _) o)
 have U1:=Upd.of_grownV g2
 have hlt:∀g,u.ownBlock=some g→w9.heap.size≤g:=fun g hg=>(own_lt A.stk hg).2
 have p6:=A.ps.upd U1 (fun e=>by have:=hlt _ e;have:=h.la;omega) (fun e=>by have:=hlt _ e;have:=h.lz;omega)
 have o6:=A.out.upd U1 (own_type A.stk A.out (by decide))
 have r6:=A.res.upd U1 (own_type A.stk A.res (by decide))
 have w6':=own_upd A.own U1 fun g hg e=>by
  obtain⟨c,f,hc⟩:=own_cells A.own hg
  exact own_type A.stk hc (by decide) e
 have b6:=Upd.below A.bel U1 A.bel.size fun k hk=>Nat.le_trans hw (hlt _ hk)
 have U2:Upd (fun k=>k=bo) w6 (w6.setCell ⟨bo,2,none⟩ u'):=(Upd.refl _ _).setCell _ _ (fun _=>rfl)
 refine⟨p6.upd U2 hb.ao hb.zo,o6.set 2 u',r6.upd U2 hb.or.symm,own_upd w6' U2 fun g hg e=>own_type w6' o6 (by decide) (e▸hg),?_,h.la,h.lz,Upd.below b6 U2 b6.size (fun k hk=>hk▸hb.lo),Nat.le_trans A.sz (Nat.le_trans U1.size U2.size)⟩
 rw[List.length_append,List.map_append]
 exact own_upd g1 U2 fun g hg e=>own_type g1 o6 (by decide) (e▸hg)
theorem RfE.qt(h:RfE w w9 n bA bZ bo rb s S v u U wr)(q:Qt wr wx):RfE w w9 n bA bZ bo rb s S v u U wx:=h.new q.bel
end
theorem RfM.push{w wr w6:World}{n bA bZ bo rb:Nat}{r:PS}{S:List StepP}{v v':Value}{o:Obj}{x:StepP}(h:RfM w n bA bZ bo rb r S v wr)(hb:RfB w bA bZ bo rb)(g1:w6.ownsRow w.heap.size 89 4 v' (S.length+1) (flC stC S++stC x))(g2:(wr.alloc o).grownBy w6 v.ownBlock):
  RfM w n bA bZ bo rb r (S++[x]) v' (w6.setCell ⟨bo,0,none⟩ v'):=by
 have A:=h.new ((Below.refl _ _).alloc (Nat.le_refl _) o)
 have U1:=Upd.of_grownV g2
 have p6:=A.ps.upd U1 (own_type A.own A.ps.at_ (by decide)) (own_type A.own A.ps.sm (by decide))
 have o6:=A.out.upd U1 (own_type A.own A.out (by decide))
 have r6:=A.res.upd U1 (own_type A.own A.res (by decide))
 have b6:=Upd.below A.bel U1 A.bel.size fun k hk=>(own_lt A.own hk).2
 have U2:Upd (fun k=>k=bo) w6 (w6.setCell ⟨bo,0,none⟩ v'):=(Upd.refl _ _).setCell _ _ (fun _=>rfl)
 refine⟨p6.upd U2 hb.ao hb.zo,o6.set 0 v',r6.upd U2 hb.or.symm,?_,Upd.below b6 U2 b6.size fun k hk=>hk▸hb.lo⟩
 rw[List.length_append,flC_append,flC_one]
 exact own_upd g1 U2 fun g hg e=>own_type g1 o6 (by decide) (e▸hg)
end
section
open Go.RowKit Go.Side Go.ConcN
structure RpM(w:World)(n bA bZ b3 b6 b7:Nat)(tv:Value)(r:PS)(wr:World):Prop where
 ps:PSm wr bA bZ n r
 c3:Blk wr b3 25 [tv]
 c6:Blk wr b6 23 [.slice (some ⟨bA,0,none⟩) n n]
 c7:Blk wr b7 23 [.slice (some ⟨bZ,0,none⟩) n n]
 az:bA≠bZ
 la:w.heap.size≤bA
 lz:w.heap.size≤bZ
 bel:Below w.heap.size w wr
section
variable {w wr wx:World} {n bA bZ b3 b6 b7 i:Nat} {tv:Value} {r q:PS}
theorem RpM.new(h:RpM w n bA bZ b3 b6 b7 tv r wr)(q:Below wr.heap.size wr wx):RpM w n bA bZ b3 b6 b7 tv r wx:=
 ⟨h.ps.new q,h.c3.upd (S:=fun _=>False) (Upd.of_below q) id,h.c6.upd (S:=fun _=>False) (Upd.of_below q) id,h.c7.upd (S:=fun _=>False) (Upd.of_below q) id,h.az,h.la,h.lz,h.bel.trans (q.mono h.bel.size)⟩
theorem RpM.qt(h:RpM w n bA bZ b3 b6 b7 tv r wr)(q:Qt wr wx):RpM w n bA bZ b3 b6 b7 tv r wx:=h.new q.bel
theorem RpM.congr(h:RpM w n bA bZ b3 b6 b7 tv r wr)(e:∀k,k<n→r k=q k):RpM w n bA bZ b3 b6 b7 tv q wr:=⟨h.ps.congr e,h.c3,h.c6,h.c7,h.az,h.la,h.lz,h.bel⟩
theorem RpM.pos(h:RpM w n bA bZ b3 b6 b7 tv r wr)(hi:i<n):posAt wr bA i=(r i).1:=by
 unfold posAt
 rw[h.ps.getA hi]
 simp
end
end
section
open Go.RowKit Go.Side
instance:DecidableEq StepP:=fun a b=>by
 obtain⟨a1,a2,a3,a4⟩:=a
 obtain⟨b1,b2,b3,b4⟩:=b
 by_cases h:a1=b1∧a2=b2∧a3=b3∧a4=b4
 ·obtain⟨rfl,rfl,rfl,rfl⟩:=h;exact isTrue rfl
 ·exact isFalse fun e=>h (by simpa using e)
end
end Go.Proofs.Ytbjlijagheifgaa
namespace Go.Side
section
open Go Go.ConcN Go.Proofs.Ytbjlijagheifgaa
inductive Rep(L:List TkD):PS→List StepP→PS→Prop
 |nil {s:PS}:Rep L s [] s
 |cons {s s':PS} {x:StepP} {l:List StepP} (h:x∈possS L s) (k:Rep L (advS L (stepS s x)) l s'):Rep L s (x::l) s'
theorem Rep.fit{L:List TkD}{s s':PS}{l:List StepP}(h:Rep L s l s'):Fit L s→Fit L s':=by
 induction h with
 |nil=>exact id
 |cons h _ ih=>exact fun f=>ih (f.step h).adv
end
end Go.Side
namespace Go.Proofs.Ytbjlijagheifgaa
open Go.RowKit Go.Side Go.ConcN
section
variable {w W:World} {n b3 b6 b7:Nat} {tv:Value}
end
end Go.Proofs.Ytbjlijagheifgaa
namespace Go.Side
section
open Go Go.ConcN Go.Proofs.Ytbjlijagheifgaa
def pSend(i:Nat)(v:Int):OpD:=⟨1,i,v,none,0,[]⟩
def pRecv(i:Nat):OpD:=⟨2,i,0,none,0,[]⟩
def pipeT(n i:Nat)(vs:List Int):List OpD:=vs.flatMap fun v=>(if 0<i then[pRecv (i-1)] else[])++(if i+1<n then[pSend i v] else[])
theorem pipe_first{n:Nat}(hn:2≤n)(vs:List Int):pipeT n 0 vs=vs.map (pSend 0):=by
 unfold pipeT
 induction vs with
 |nil=>rfl
 |cons v vs ih=>
  rw[List.flatMap_cons,ih,if_neg (by omega),if_pos (by omega)]
  rfl
theorem pipe_last{n i:Nat}(hi:0<i)(hn:i+1=n)(vs:List Int):pipeT n i vs=vs.map fun _=>pRecv (i-1):=by
 unfold pipeT
 induction vs with
 |nil=>rfl
 |cons v vs ih=>
  rw[List.flatMap_cons,ih,if_pos hi,if_neg (by omega)]
  rfl
theorem pipe_mid{n i:Nat}(hi:0<i)(hn:i+1<n):∀(vs:List Int) (q:Nat),(pipeT n i vs)[2*q]?=(vs[q]?).map (fun _=>pRecv (i-1))∧(pipeT n i vs)[2*q+1]?=(vs[q]?).map (pSend i)
 |[],q=>by simp[pipeT]
 |v::vs,0=>by
  unfold pipeT
  rw[List.flatMap_cons,if_pos hi,if_pos hn]
  exact⟨rfl,rfl⟩
 |v::vs,q+1=>by
  have h:=pipe_mid hi hn vs q
  have e:pipeT n i (v::vs)=pRecv (i-1)::pSend i v::pipeT n i vs:=by
   unfold pipeT
   rw[List.flatMap_cons,if_pos hi,if_pos hn]
   rfl
  rw[e,show 2*(q+1)=2*q+1+1 by omega]
  simpa using h
theorem pipe_len{n i:Nat}(hn:2≤n)(hi:i<n)(vs:List Int):(pipeT n i vs).length=(if 0<i then vs.length else 0)+(if i+1<n then vs.length else 0):=by
 unfold pipeT
 induction vs with
 |nil=>simp
 |cons v vs ih=>
  rw[List.flatMap_cons,List.length_append,ih]
  by_cases h1:0<i<;>by_cases h2:i+1<n<;>simp[h1,h2]<;>omega
def pR(c:Nat→Nat)(i:Nat):Nat:=if i=0 then 0 else c (i-1)
def pC(n:Nat)(c:Nat→Nat)(i:Nat):Nat:=if i+1<n then c i else 0
structure PipI(n:Nat)(vs:List Int)(c:Nat→Nat)(s:PS)(S:List StepP):Prop where
 le:∀i,i+1<n→c i≤vs.length
 dn:∀i,i+2<n→c (i+1)≤c i∧c i≤c (i+1)+1
 pos:∀i,i<n→(s i).1=pR c i+pC n c i
 sum:∀i,i<n→(s i).2=((vs.take (pR c i)).sum)
 cnt:S.length=sumTo (n-1) c
section
variable {n:Nat} {vs:List Int} {c:Nat→Nat} {s:PS} {S:List StepP} {L:List TkD} {i:Nat}
theorem pip_ops(hL:L.map TkD.ops=(List.range n).map fun i=>pipeT n i vs)(hi:i<n):∃t,L[i]?=some t∧t.ops=pipeT n i vs:=by
 have h:=congrArg (fun l=>l[i]?) hL
 simp only[List.getElem?_map,List.getElem?_range hi,Option.map_some] at h
 cases ht:L[i]? with
 |none=>rw[ht] at h;cases h
 |some t=>rw[ht] at h;exact⟨t,rfl,Option.some.inj h⟩
theorem pip_len(hL:L.map TkD.ops=(List.range n).map fun i=>pipeT n i vs):L.length=n:=by simpa using congrArg List.length hL
def pOff(n:Nat)(vs:List Int)(c:Nat→Nat)(i:Nat):Option OpD:=
 if i=0 then(vs[c 0]?).map (pSend 0) else if i+1=n then(vs[c (i-1)]?).map fun _=>pRecv (i-1) else if c (i-1)=c i then(vs[c i]?).map fun _=>pRecv (i-1) else(vs[c i]?).map (pSend i)
theorem pip_off(hn:2≤n)(hL:L.map TkD.ops=(List.range n).map fun i=>pipeT n i vs)(I:PipI n vs c s S)(hi:i<n):offS L s i=pOff n vs c i:=by
 obtain⟨t,ht,ho⟩:=pip_ops hL hi
 unfold offS pOff
 rw[ht,Option.bind_some,ho,I.pos i hi]
 by_cases h0:i=0
 ·subst h0
  rw[if_pos rfl,pipe_first hn,List.getElem?_map]
  simp[pR,pC,show 0+1<n by omega]
 ·rw[if_neg h0]
  by_cases h1:i+1=n
  ·rw[if_pos h1,pipe_last (by omega) h1,List.getElem?_map]
   simp[pR,pC,h0,show¬i+1<n by omega]
  ·rw[if_neg h1]
   have hm:=pipe_mid (show 0<i by omega) (show i+1<n by omega) vs (c i)
   have hd:=I.dn (i-1) (by omega)
   rw[show i-1+1=i by omega] at hd
   have e:pR c i+pC n c i=c (i-1)+c i:=by simp[pR,pC,h0,show i+1<n by omega]
   rw[e]
   by_cases h2:c (i-1)=c i
   ·rw[if_pos h2,h2,show c i+c i=2*c i by omega]
    exact hm.1
   ·rw[if_neg h2,show c (i-1)+c i=2*c i+1 by omega]
    exact hm.2
theorem pip_adv(hn:2≤n)(hL:L.map TkD.ops=(List.range n).map fun i=>pipeT n i vs)(s:PS):advS L s=s:=by
 funext k
 refine adv_stop fun t x ht hx=>?_
 have hk:k<n:=by rw[←pip_len hL];exact(List.getElem?_eq_some_iff.1 ht).1
 obtain⟨t',ht',ho⟩:=pip_ops hL hk
 obtain rfl:t=t':=Option.some.inj (ht.symm.trans ht')
 have hm:=List.mem_of_getElem? hx
 rw[ho] at hm
 unfold pipeT at hm
 obtain⟨v,_,hm⟩:=List.mem_flatMap.1 hm
 rcases List.mem_append.1 hm with hm|hm
 ·split at hm
  ·simp only[List.mem_cons,List.not_mem_nil,or_false] at hm;subst hm;simp[pRecv]
  ·cases hm
 ·split at hm
  ·simp only[List.mem_cons,List.not_mem_nil,or_false] at hm;subst hm;simp[pSend]
  ·cases hm
theorem possD_put{n:Nat}{off:Nat→Option OpD}{f t:Nat}{a:OpD}(hf:f<n)(ht:t<n)(ha:off f=some a)(hk:a.kind=1)(hb:takesD (off t) a.chan=true):(⟨f,t,a.chan,a.val⟩:StepP)∈possD n off:=by
 unfold possD
 refine List.mem_flatMap.2 ⟨f,List.mem_range.2 hf,?_⟩
 rw[ha]
 simp only[hk,if_true]
 exact List.mem_map.2 ⟨t,List.mem_filter.2 ⟨List.mem_range.2 ht,hb⟩,rfl⟩
theorem pip_mem(hn:2≤n)(hL:L.map TkD.ops=(List.range n).map fun i=>pipeT n i vs)(I:PipI n vs c s S){x:StepP}(hx:x∈possS L s):
  ∃i v,i+1<n∧x.fr=i∧x.tg=i+1∧x.vl=v∧vs[c i]?=some v∧(i=0∨c (i-1)=c i+1)∧(i+2=n∨c i=c (i+1)):=by
 unfold possS at hx
 rw[pip_len hL] at hx
 obtain⟨h1,h2,a,b,ha,hb,ka,_,hv,_,hk⟩:=possD_mem hx
 rw[pip_off hn hL I h1] at ha
 rw[pip_off hn hL I h2] at hb
 have hsend:x.fr+1<n∧(vs[c x.fr]?=some a.val∧a.chan=(x.fr:Int))∧(x.fr=0∨c (x.fr-1)=c x.fr+1):=by
  unfold pOff at ha
  by_cases h0:x.fr=0
  ·rw[if_pos h0] at ha
   obtain⟨v,hv1,rfl⟩:=Option.map_eq_some_iff.1 ha
   rw[h0]
   exact⟨by omega,⟨hv1,rfl⟩,.inl rfl⟩
  ·rw[if_neg h0] at ha
   by_cases h3:x.fr+1=n
   ·rw[if_pos h3] at ha
    obtain⟨v,_,rfl⟩:=Option.map_eq_some_iff.1 ha
    cases ka
   ·rw[if_neg h3] at ha
    by_cases h4:c (x.fr-1)=c x.fr
    ·rw[if_pos h4] at ha
     obtain⟨v,_,rfl⟩:=Option.map_eq_some_iff.1 ha
     cases ka
    ·rw[if_neg h4] at ha
     obtain⟨v,hv1,rfl⟩:=Option.map_eq_some_iff.1 ha
     have hd:=I.dn (x.fr-1) (by omega)
     rw[show x.fr-1+1=x.fr by omega] at hd
     exact⟨by omega,⟨hv1,rfl⟩,.inr (by omega)⟩
 obtain⟨g1,⟨g2,g3⟩,g4⟩:=hsend
 have hrecv:x.tg=x.fr+1∧(x.fr+2=n∨c x.fr=c (x.fr+1)):=by
  rw[g3] at hk
  unfold pOff at hb
  by_cases h0:x.tg=0
  ·rw[if_pos h0] at hb
   obtain⟨v,_,rfl⟩:=Option.map_eq_some_iff.1 hb
   simp[takesD,pSend] at hk
  ·rw[if_neg h0] at hb
   by_cases h3:x.tg+1=n
   ·rw[if_pos h3] at hb
    obtain⟨v,_,rfl⟩:=Option.map_eq_some_iff.1 hb
    simp[takesD,pRecv] at hk
    exact⟨by omega,.inl (by omega)⟩
   ·rw[if_neg h3] at hb
    by_cases h4:c (x.tg-1)=c x.tg
    ·rw[if_pos h4] at hb
     obtain⟨v,_,rfl⟩:=Option.map_eq_some_iff.1 hb
     simp[takesD,pRecv] at hk
     have e:x.tg=x.fr+1:=by omega
     refine⟨e,.inr ?_⟩
     rw[e] at h4
     simpa using h4
    ·rw[if_neg h4] at hb
     obtain⟨v,_,rfl⟩:=Option.map_eq_some_iff.1 hb
     simp[takesD,pSend] at hk
 exact⟨x.fr,a.val,g1,rfl,hrecv.1,hv,g2,g4,hrecv.2⟩
theorem pip_go(hn:2≤n)(hL:L.map TkD.ops=(List.range n).map fun i=>pipeT n i vs)(I:PipI n vs c s S):∀(d i:Nat),n-i=d→i+1<n→c i<vs.length→(i=0∨c (i-1)=c i+1)→possS L s≠[]:=by
 intro d
 induction d with
 |zero=>intro i h1 h2;omega
 |succ d ih=>
  intro i h1 h2 h3 h4
  by_cases h5:i+2=n∨c i=c (i+1)
  ·have hs:offS L s i=(vs[c i]?).map (pSend i):=by
    rw[pip_off hn hL I (by omega)]
    unfold pOff
    by_cases h0:i=0
    ·subst h0;rw[if_pos rfl]
    ·rw[if_neg h0,if_neg (by omega),if_neg (by omega)]
   have hr:offS L s (i+1)=(vs[c i]?).map fun _=>pRecv i:=by
    rw[pip_off hn hL I (by omega)]
    unfold pOff
    rw[if_neg (by omega)]
    simp only[Nat.add_sub_cancel]
    by_cases h6:i+1+1=n
    ·rw[if_pos h6]
    ·rw[if_neg h6]
     have h7:c i=c (i+1):=by omega
     rw[if_pos h7,h7]
   rw[List.getElem?_eq_getElem h3] at hs hr
   intro e
   have hm:=possD_put (n:=L.length) (off:=offS L s) (f:=i) (t:=i+1) (by rw[pip_len hL];omega) (by rw[pip_len hL];omega) hs rfl (by rw[hr];simp[takesD,pRecv,pSend])
   have e':possD L.length (offS L s)=[]:=e
   rw[e'] at hm
   cases hm
  ·have hd:=I.dn i (by omega)
   exact ih (i+1) (by omega) (by omega) (by omega) (.inr (by simp;omega))
theorem pip_all(hn:2≤n)(hL:L.map TkD.ops=(List.range n).map fun i=>pipeT n i vs)(I:PipI n vs c s S)(he:possS L s=[]):∀i,i+1<n→c i=vs.length:=by
 intro i
 induction i with
 |zero=>
  intro h
  have h1:=I.le 0 h
  by_cases h2:c 0<vs.length
  ·exact absurd he (pip_go hn hL I _ 0 rfl h h2 (.inl rfl))
  ·omega
 |succ i ih=>
  intro h
  have h1:=I.le (i+1) h
  have h3:=ih (by omega)
  have hd:=I.dn i (by omega)
  by_cases h2:c (i+1)<vs.length
  ·exact absurd he (pip_go hn hL I _ (i+1) rfl h h2 (.inr (by simp;omega)))
  ·omega
theorem take_bound(hv:∀v∈vs, -32768≤v∧v≤32767):∀k:Nat, -32768*(k:Int)≤(vs.take k).sum∧(vs.take k).sum≤32767*k:=by
 intro k
 induction k with
 |zero=>simp
 |succ k ih=>
  rw[List.take_add_one]
  cases h:vs[k]? with
  |none=>simp;omega
  |some v=>
   have:=hv v (List.mem_of_getElem? h)
   simp;omega
theorem PipI.step(hn:2≤n)(hL:L.map TkD.ops=(List.range n).map fun i=>pipeT n i vs)(hv:∀v∈vs, -32768≤v∧v≤32767)(hl:vs.length≤10)(I:PipI n vs c s S){x:StepP}(hx:x∈possS L s):∃c',PipI n vs c' (stepS s x) (S++[x]):=by
 obtain⟨i,v,h1,h2,h3,h4,h5,h6,h7⟩:=pip_mem hn hL I hx
 have hlt:c i<vs.length:=(List.getElem?_eq_some_iff.1 h5).1
 refine⟨upd c i (c i+1),⟨fun j hj=>?_,fun j hj=>?_,fun k hk=>?_,fun k hk=>?_,?_⟩⟩
 ·by_cases e:j=i
  ·subst e;rw[upd_eq];omega
  ·rw[upd_other _ _ e];exact I.le j hj
 ·have hd:=I.dn j hj
  by_cases e:j=i
  ·subst e
   rw[upd_eq,upd_other _ _ (by omega)]
   rcases h7 with h7|h7<;>omega
  ·by_cases e2:j+1=i
   ·subst e2
    rw[upd_eq,upd_other _ _ (by omega)]
    rcases h6 with h6|h6
    ·omega
    ·simp at h6;omega
   ·rw[upd_other _ _ e,upd_other _ _ e2];exact hd
 ·have hp:=I.pos k hk
  unfold stepS
  rw[h2,h3]
  unfold pR pC at*
  by_cases e:k=i+1
  ·subst e
   rw[upd_eq]
   simp only[Nat.add_sub_cancel] at hp⊢
   rw[upd_eq,upd_other c _ (show i+1≠i by omega)]
   rw[if_neg (by omega)] at hp⊢
   omega
  ·rw[upd_other _ _ e]
   by_cases e2:k=i
   ·subst e2
    rw[upd_eq,upd_eq,if_pos h1]
    rw[if_pos h1] at hp
    by_cases e3:k=0
    ·rw[if_pos e3] at hp⊢;omega
    ·rw[if_neg e3] at hp⊢
     rw[upd_other _ _ (by omega)]
     omega
   ·rw[upd_other _ _ e2,upd_other c _ e2]
    by_cases e3:k=0
    ·rw[if_pos e3] at hp⊢;exact hp
    ·rw[if_neg e3] at hp⊢
     rw[upd_other _ _ (by omega)]
     exact hp
 ·have hp:=I.sum k hk
  unfold stepS
  rw[h2,h3]
  unfold pR at*
  by_cases e:k=i+1
  ·subst e
   rw[upd_eq]
   simp only[Nat.add_sub_cancel] at hp⊢
   rw[if_neg (by omega)] at hp⊢
   rw[upd_eq,hp,h4,List.take_add_one,h5]
   have hb:=take_bound hv (c i)
   have:=hv v (List.mem_of_getElem? h5)
   rw[IntWalk.i64_in _ (by omega)]
   simp
  ·rw[upd_other _ _ e]
   have e4:∀z,(upd c i z) (k-1)=c (k-1)∨k=0:=fun z=>by
    by_cases e3:k=0
    ·exact .inr e3
    ·exact .inl (upd_other _ _ (by omega))
   have e5:(if k=0 then 0 else upd c i (c i+1) (k-1))=if k=0 then 0 else c (k-1):=by
    rcases e4 (c i+1) with h|h
    ·rw[h]
    ·rw[if_pos h,if_pos h]
   rw[e5,←hp]
   by_cases e2:k=i
   ·subst e2;rw[upd_eq]
   ·rw[upd_other _ _ e2]
 ·have:=sumTo_upd c (c i+1) id (show i<n-1 by omega)
  simp only[id] at this
  rw[List.length_append,I.cnt]
  simp only[List.length_cons,List.length_nil]
  have e1:sumTo (n-1) (fun a=>upd c i (c i+1) a)=sumTo (n-1) (upd c i (c i+1)):=rfl
  have e2:sumTo (n-1) (fun a=>c a)=sumTo (n-1) c:=rfl
  omega
theorem pip_run{ch:List Int}(hn:2≤n)(hL:L.map TkD.ops=(List.range n).map fun i=>pipeT n i vs)(hv:∀v∈vs, -32768≤v∧v≤32767)(hl:vs.length≤10){s s':PS}{S S':List StepP}(h:RunA L ch s S s' S'):∀c,PipI n vs c s S→∃c',PipI n vs c' s' S'∧possS L s'=[]:=by
 induction h with
 |done h=>exact fun c I=>⟨c,I,h⟩
 |step h _ ih=>
  intro c I
  obtain⟨c',I'⟩:=I.step hn hL hv hl (List.mem_of_getElem? h)
  exact ih c' (by rw[pip_adv hn hL];exact I')
theorem sumTo_const{f:Nat→Nat}{m:Nat}:∀{k:Nat},(∀i,i<k→f i=m)→sumTo k f=k*m
 |0,_=>by simp[sumTo]
 |k+1,h=>by rw[sumTo,sumTo_const fun i hi=>h i (by omega),h k (by omega),Nat.succ_mul]
theorem pipe_out{ch:List Int}(hn:2≤n)(hL:L.map TkD.ops=(List.range n).map fun i=>pipeT n i vs)(hv:∀v∈vs, -32768≤v∧v≤32767)(hl:vs.length≤10){s':PS}{S':List StepP}(h:Outc L ch s' S'):
  S'.length=(n-1)*vs.length∧(∀i,0<i→i<n→(s' i).2=vs.sum)∧(s' 0).2=0∧stuckA L s'=[]:=by
 have I0:PipI n vs (fun _=>0) (s0 L) []:=by
  unfold s0
  rw[pip_adv hn hL]
  refine⟨fun _ _=>Nat.zero_le _,fun _ _=>⟨Nat.le_refl _,by omega⟩,fun i _=>?_,fun i _=>?_,?_⟩
  ·simp[pR,pC]
  ·simp[pR]
  ·rw[sumTo_const (m:=0) fun _ _=>rfl];simp
 obtain⟨c,I,he⟩:=pip_run hn hL hv hl h _ I0
 have hc:=pip_all hn hL I he
 refine⟨by rw[I.cnt,sumTo_const (m:=vs.length) fun i hi=>hc i (by omega)],fun i h0 hi=>?_,?_,?_⟩
 ·rw[I.sum i hi]
  unfold pR
  rw[if_neg (by omega),hc (i-1) (by omega),List.take_length]
 ·rw[I.sum 0 (by omega)]
  simp[pR]
 ·unfold stuckA
  rw[List.map_eq_nil_iff,List.filter_eq_nil_iff]
  intro k hk
  have hk:=List.mem_range.1 hk
  rw[pip_len hL] at hk
  rw[pip_off hn hL I hk]
  unfold pOff
  by_cases h0:k=0
  ·subst h0
   rw[if_pos rfl,hc 0 (by omega)];simp
  ·rw[if_neg h0]
   by_cases h1:k+1=n
   ·rw[if_pos h1,hc (k-1) (by omega)];simp
   ·rw[if_neg h1,hc (k-1) (by omega),hc k (by omega),if_pos rfl];simp
end
end
end Go.Side
namespace Go.Proofs.Ytbjlijagheifgaa
section
open Go.RowKit Go.Side
structure PD(B:Nat)(w:World)(v:Value)(L:List TkD):Prop where
 own:w.ownsRow B 26 1 v L.length (L.map tkv)
 tks:∀t∈L,w.ownsRow B 29 4 (tkv t) t.ops.length (flC opF t.ops)
section
variable {B:Nat} {w w':World} {v v':Value} {L:List TkD}
theorem PD.nil(B:Nat)(w:World):PD B w (.slice none 0 0) []:=⟨⟨rfl,.inl ⟨rfl,rfl⟩⟩,fun _ h=>by cases h⟩
theorem PD.upd{S:Nat→Prop}(h:PD B w v L)(U:Upd S w w')(h1:∀g,v.ownBlock=some g→¬S g)(hS:∀k c f,w.heap[k]?=some (.cells c 29 f)→¬S k):PD B w' v L:=
 ⟨own_upd h.own U h1,fun t ht=>own_upd (h.tks t ht) U fun g hg=>let⟨c,f,hc⟩:=own_cells (h.tks t ht) hg;hS g c f hc⟩
theorem PD.new(h:PD B w v L)(q:Below w.heap.size w w'):PD B w' v L:=h.upd (Upd.of_below (S:=fun _=>False) q) (fun _ _=>id) (fun _ _ _ _=>id)
theorem PD.push{t:TkD}(h:PD B w v L)(ht:w.ownsRow B 29 4 (tkv t) t.ops.length (flC opF t.ops))(g1:w'.ownsRow B 26 1 v' (L.length+1) (L.map tkv++[tkv t]))(g2:w.grownBy w' v.ownBlock):PD B w' v' (L++[t]):=by
 have U:=Upd.of_grownV g2
 have hS:∀k c f,w.heap[k]?=some (.cells c 29 f)→¬v.ownBlock=some k:=fun k c f hk=>own_type h.own hk (by decide)
 refine⟨by rw[List.map_append,List.length_append];exact g1,fun x hx=>?_⟩
 rcases List.mem_append.1 hx with hx|hx
 ·exact own_upd (h.tks x hx) U fun g hg=>let⟨c,f,hc⟩:=own_cells (h.tks x hx) hg;hS g c f hc
 ·simp only[List.mem_cons,List.not_mem_nil,or_false] at hx
  subst hx
  exact own_upd ht U fun g hg=>let⟨c,f,hc⟩:=own_cells ht hg;hS g c f hc
theorem PD.slT(h:PD B w v L)(ho:∀t∈L,∀x∈t.ops,OpOk w x):∃a c,v= .slice a L.length c∧SlT w a L:=by
 obtain⟨a,c,rfl, -⟩:=own_shape h.own
 refine⟨a,c,rfl,fun j t hj=>?_⟩
 have ht:=List.mem_of_getElem? hj
 have h1:=ownC_all h.own j (tkv t) (by rw[List.getElem?_map,hj];rfl)
 have h2:=h.tks t ht
 refine⟨h1.1,h1.2,fun k x hk=>?_,ho t ht,?_,?_⟩
 ·have f:∀i,i<4→∀u,(opF x)[i]?=some u→okAd t.a=true∧w.cell? (adr t.a (k*4+i))=some u:=fun i hi u hu=>ownC_cell opF_len (by decide) h2 hk hi hu
  exact⟨(f 0 (by omega) _ rfl).1,(f 0 (by omega) _ rfl).2,(f 1 (by omega) _ rfl).2,(f 2 (by omega) _ rfl).2,(f 3 (by omega) _ rfl).2⟩
 ·rcases h2.2 with⟨_,h3⟩|⟨g,cap,cur,hv,_,_,h3,h4,_⟩
  ·omega
  ·omega
 ·rcases h2.2 with⟨h5,h3⟩|⟨g,cap,cur,hv,_,_,h3,h4,_⟩
  ·simp only[tkv,Value.slice.injEq] at h5
   obtain⟨_,_,h6⟩:=h5
   rw[h3,h6]
   exact⟨Nat.le_refl _,by simp[maxLen]⟩
  ·simp only[tkv,Value.slice.injEq] at hv
   obtain⟨_,_,rfl⟩:=hv
   exact⟨h3,h4⟩
end
theorem opOk_nil{w:World}{x:OpD}(h1:x.el=[])(h2:x.ec=0):OpOk w x:=⟨fun j y hj=>(by rw[h1] at hj;cases hj),by rw[h1];exact Nat.zero_le _,by rw[h1,h2];exact⟨Nat.le_refl _,Nat.zero_le _⟩⟩
theorem pipe_nil{n i:Nat}{vs:List Int}:∀x∈pipeT n i vs,x.el=[]∧x.ec=0:=by
 intro x hx
 unfold pipeT at hx
 obtain⟨v,_,hm⟩:=List.mem_flatMap.1 hx
 rcases List.mem_append.1 hm with hm|hm
 ·split at hm
  ·simp only[List.mem_cons,List.not_mem_nil,or_false] at hm;subst hm;exact⟨rfl,rfl⟩
  ·cases hm
 ·split at hm
  ·simp only[List.mem_cons,List.not_mem_nil,or_false] at hm;subst hm;exact⟨rfl,rfl⟩
  ·cases hm
end
end Go.Proofs.Ytbjlijagheifgaa
namespace Go.Side
section
open Go Go.Conc Go.ConcN Go.Proofs Go.RowKit Go.Proofs.Ytbjlijagheifgaa
theorem law_frame11: #[]++Array.replicate 45 undef= #[undef,undef,undef,undef,undef,undef,undef,undef,undef,undef,undef,undef,undef,undef,undef,undef,undef,undef,undef,undef,undef,undef,undef,undef,undef,undef,undef,undef,undef,undef,undef,undef,undef,undef,undef,undef,undef,undef,undef,undef,undef,undef,undef,undef,undef]:=by kernel_rfl
theorem law_ext{W:World}:ExtC (Ext W):=fun _ _ e h=>h.trans e
theorem law_start{W:World}{Qm:Machine→Trace→Prop}{fid q:Nat}{c0 s rest:Code}{ops:Array Oper}{a a1 a2:Act}{o:Oper}(hfn:∃fn,Try.prog.funcs[fid]?=some fn)(ho:ops[0]?=some o)(hsz:ops.size=2)(hog:o.guard=none)(hod:o.dst=some q)(hop:o.op= .call {callee:=.value (.func 11),args:= #[],argTypes:= #[]})(d0:a.defers=[])(d1:a1.defers=[])(p0:[Item.code c0].all (itemPlain false none Try.prog lawFns)=true)(p1:[Item.inRegion ops [1],Item.code s].all (itemPlain false none Try.prog lawFns)=true)(w0:∀u,c0.wp Try.prog (fun e a' u'=>e= .normal∧a'=a1∧u'=u) a u)(w1:∀u,ItemsWp Try.prog [.inRegion ops [1],.code s] (fun e a' u'=>e= .normal∧a'=a2∧u'=u) (a1.put (some q) (.bool true)) u)(kk:∀Shun' w',Kn W.heap.size Shun' w' (Ext W)→SB Try.prog Shun' Qm (G ((base fid).at a2 [.code rest]) []) w'):
  SB Try.prog (fun _=>False) Qm (G ((base fid).at a [.code (.seq c0 (.seq (.seq (.region 1 ops false) s) rest))]) []) W:=by
 have H:=gait_b Try.prog (fun _=>False) Qm
 have hk0:(base fid).kind≠ .early:=by simp[base]
 have hN:∀u,Ext W u→W.heap.size≤u.heap.size:=fun u e=>e.size
 have K:=kn_start W
 refine SB.into (H.seq (n:=0) (Kn.out K law_ext fun w₁ K₁=>?_))
 refine K₁.lone (items:=[.code c0]) (k:=[.code (.seq (.seq (.region 1 ops false) s) rest)]) lawOK hfn rfl p0 d0 (Q:=fun u e a' u'=>e= .normal∧a'=a1∧u'=u)
  (fun u e a' u' h=>.inl h.1) (fun u hu=>ItemsWp.code (w0 u)) (fun u a' u' w' hu ⟨_,ha,hw⟩ _ gen=>?_) (fun u a' u' w' todo _ h=>by cases h.1)
 subst ha
 subst hw
 have K₂:=gen _ law_ext hu
 clear gen hu K₁ w₁
 refine SB.into (H.seq (n:=2) ?_)
 refine H.seq (n:=1) ?_
 refine H.region (n:=0) (Kn.out K₂ law_ext fun w₃ K₃=>?_)
 rw[show List.range ops.size=[0,1] from by rw[hsz];rfl]
 refine SB.into (H.call (n:=0) (f:=11) (c:=b11) (args:= #[]) (ats:= #[]) ho (by simp[Region.wanted,hog]) hk0 hop Try.func11 (by decide) rfl (Kn.out K₃ law_ext fun w₅ K₆=>?_))
 rw[show Try.f11.ntmps=45 from Try.ntmps11]
 simp only[List.map_toArray,List.map_nil,List.size_toArray,List.length_nil,Nat.reduceSub,law_frame11]
 refine awake_sb K₆ law_ext hN _ _ _ _ _ _ _ _ _ _ _ _ _ _ _ _ _ _ _ _ _ _ _ _ _ _ _ _ _ _ _ _ _ _ _ _ _ _ _ _ _ _ _ _ _ (fun Shun' w' K₇=>?_)
 rw[Frame.finish_at,ho]
 show SB Try.prog Shun' Qm (G ((base fid).at (a'.put o.dst (.bool true)) ([.inRegion ops [1],.code s]++[.code rest])) []) w'
 rw[hod]
 refine K₇.lone (items:=[.inRegion ops [1],.code s]) (k:=[.code rest]) lawOK hfn rfl p1 (by rw[put_defers];exact d1) (Q:=fun u e a' u'=>e= .normal∧a'=a2∧u'=u)
  (fun u e a' u' h=>.inl h.1) (fun u hu=>w1 u) (fun u a' u' w8 hu ⟨_,ha,hw⟩ _ gen=>?_) (fun u a' u' w8 todo _ h=>by cases h.1)
 subst ha
 subst hw
 exact kk _ _ (gen _ law_ext hu)
noncomputable def opsR:Code→Array Oper
 | .region _ ops _=>ops
 |_=> #[]
def FinT(r:Nat)(u:World)(e:Exit)(a':Act)(u':World):Prop:=e= .ret∧a'.tmps.getD r undef= .bool true∧Below u.heap.size u u'
def GdQ(r:Nat)(u:World)(p:Prop)(fr:Act→Prop)(e:Exit)(a':Act)(u':World):Prop:=Below u.heap.size u u'∧((e= .ret∧a'.tmps.getD r undef= .bool true)∨(e= .normal∧p∧fr a'))
theorem law_tail{W w:World}{Shun:Loc→Prop}{fid r:Nat}{fn:Func}{items:List Item}{a:Act}{F:World→Prop}(K:Kn W.heap.size Shun w F)(hF:∀u,F u→Ext W u)(hfn:Try.prog.funcs[fid]?=some fn)(hr:fn.results= #[.tmp r])(hi:Try.prog.inits.idxOf? fid=none)(hd:a.defers=[])(hc:items.all (itemPlain false none Try.prog lawFns)=true)(LH:∀u,F u→ItemsWp Try.prog items (FinT r u) a u):
  SB Try.prog Shun (EndM Try.prog fun v w'=>v= .bool true∧Stood W w') (G ((base fid).at a items) []) w:=by
 have h:=K.lone (Qm:=EndM Try.prog fun v w'=>v= .bool true∧Stood W w') (b:=base fid) (a:=a) (items:=items) (k:=[]) (cs:=[]) lawOK ⟨_,hfn⟩ rfl hc hd (Q:=fun u=>FinT r u) (fun u e a' u' h=>.inr h.1) LH (fun u a' u' w' _ h=>by cases h.1) (fun u a' u' w8 todo hu ⟨_,h0,hb⟩ hd' gen=>sb_ends (gen _ law_ext ((hF u hu).trans (Ext.below hb))) hfn rfl hd' hr hi h0)
 rwa[List.append_nil] at h
end
section
open Go Go.Conc Go.ConcN Go.Proofs Go.RowKit Go.Proofs.Ytbjlijagheifgaa
theorem law_frame12(x y z:Value): #[x,y,z]++Array.replicate 76 undef= #[x,y,z,undef,undef,undef,undef,undef,undef,undef,undef,undef,undef,undef,undef,undef,undef,undef,undef,undef,undef,undef,undef,undef,undef,undef,undef,undef,undef,undef,undef,undef,undef,undef,undef,undef,undef,undef,undef,undef,undef,undef,undef,undef,undef,undef,undef,undef,undef,undef,undef,undef,undef,undef,undef,undef,undef,undef,undef,undef,undef,undef,undef,undef,undef,undef,undef,undef,undef,undef,undef,undef,undef,undef,undef,undef,undef,undef,undef]:=by kernel_rfl
theorem law_run{N:Nat}{Shun:Loc→Prop}{Qm:Machine→Trace→Prop}{w:World}{F:World→Prop}(K:Kn N Shun w F)(hF:ExtC F)(hN:∀u,F u→N≤u.heap.size){fid:Nat}{a:Act}{ops:Array Oper}{i:Nat}{rest:List Nat}{k:List Item}{o:Oper}{x y z:Operand}{ats:Array TypeId}{pt pc:Option Addr}{ct cc:Nat}{L:List TkD}{ch:Int}{chs:List Int}(ho:ops[i]?=some o)(hog:o.guard=none)(hop:o.op= .call {callee:=.value (.func 12),args:= #[x,y,z],argTypes:=ats})(ex:a.eval x= .slice pt L.length ct)(ey:a.eval y= .int .i64 ch)(ez:a.eval z= .slice pc chs.length cc)(hT:∀u,F u→SlT u pt L)(hC:∀u,F u→Sl (Value.int .i64) u pc chs)(hl:L.length≤maxLen)(hel:∀t∈L,∀x∈t.ops,x.el.length≤1000000)(kok:∀(s':PS) (S':List StepP) (Shun':Loc→Prop) (w':World) (v0 v1 v2:Value),validT ch L=true→Outc L chs s' S'→Kn N Shun' w' (fun u=>F u∧RunRes u v0 v1 v2 S' (sumsA L s') (stuckA L s'))→ SB Try.prog Shun' Qm (G ((base fid).at (a.put o.dst (.tuple #[.agg #[v0,v1,v2],.int .i64 0])) (.inRegion ops rest::k)) []) w')(kno:∀(w':World),validT ch L=false→Kn N Shun w' F→SB Try.prog Shun Qm (G ((base fid).at (a.put o.dst (.tuple #[.agg #[.slice none 0 0,.slice none 0 0,.slice none 0 0],.int .i64 1])) (.inRegion ops rest::k)) []) w'):
  SB Try.prog Shun Qm (G ((base fid).at a (.inRegion ops (i::rest)::k)) []) w:=by
 have H:=gait_b Try.prog Shun Qm
 have hk0:(base fid).kind≠ .early:=by simp[base]
 refine SB.into (H.call (n:=0) (f:=12) (c:=b12) (args:= #[x,y,z]) (ats:=ats) ho (by simp[Region.wanted,hog]) hk0 hop Try.func12 (by decide) rfl (Kn.out K hF fun w₆ K₆=>?_))
 rw[show Try.f12.ntmps=79 from Try.ntmps12]
 simp only[List.map_toArray,List.map_cons,List.map_nil,List.size_toArray,List.length_cons,List.length_nil,Nat.reduceAdd,Nat.reduceSub,ex,ey,ez,law_frame12]
 have fin:∀v:Value,((base fid).at a (.inRegion ops (i::rest)::k)).finish v=(base fid).at (a.put o.dst v) (.inRegion ops rest::k):=fun v=>by rw[Frame.finish_at,ho];rfl
 refine run_call K₆ hF hN (pt:=pt) (ct:=ct) (pc:=pc) (cc:=cc) (L:=L) (ch:=ch) (chs:=chs) hT hC hl hel _ _ _ _ _ _ _ _ _ _ _ _ _ _ _ _ _ _ _ _ _ _ _ _ _ _ _ _ _ _ _ _ _ _ _ _ _ _ _ _ _ _ _ _ _ _ _ _ _ _ _ _ _ _ _ _ _ _ _ _ _ _ _ _ _ _ _ _ _ _ _ _ _ _ _ _ (fun c' S' Shun₂ w' v0 v1 v2 hv hrun K₇=>?_) (fun w' hv K₇=>?_)
 ·obtain⟨ux,V7⟩:=View.ex K₇.sh
  have hE:∀t∈L,∀x∈t.ops,EL L (opv x)=x.el:=fun t ht x hx=>EL_eq (hT _ (K₇.all ux V7).1) ht hx
  obtain⟨s',hO,hs',hst⟩:=hrun.plain hE
  rw[hs',hst] at K₇
  rw[fin]
  exact kok s' S' _ _ v0 v1 v2 hv hO K₇
 ·rw[fin]
  exact kno _ hv K₇
end
end Go.Side
namespace Go.Proofs.Ytbjlijagheifgaa
section
open Go.RowKit Go.ChangeShapes Go.WideShapes Go.ChangeAt
open Go.ChangeMaps (open_string shut_string)
theorem Try.own:ownKnob Try.prog.godebug=none:=by kernel_rfl
theorem Try.laidOut:laidOutB Try.prog=true:=by kernel_rfl
section
variable {H:Type} {enc:TypeId×Value→H} {P:Program} {w:World} {held:Bool}
theorem sl_open{α:Type}[Inhabited α]{t e:TypeId}{fuel:Nat}{v:Value}{x:DataW H×List MemPlace}(f:α→Value)(Q:α→Prop)(ht:P.underlying t=some (.slice e))(hc:P.cellsOf e=1)(hf:∀n V r,DataW.trod enc P w 0 (fun _=>true) held n e [V]=some r→∃y,V=f y∧Q y)(h:DataW.trod enc P w 0 (fun _=>true) held fuel t [v]=some x):
  ∃a c xs,v= .slice a xs.length c∧Sl f w a xs∧(∀y∈xs,Q y)∧xs.length≤maxLen:=by
 rcases Deep.open_slice1 ht hc h with⟨h1,_⟩|⟨a,len,cap,m,n,V,D,Pl,h1,hb,hl,hm,hmm,_,hx⟩
 ·refine⟨none,0,[],by simpa using h1,?_,by simp,by simp⟩
  intro j x hj
  simp at hj
 ·simp only[if_true] at hmm
  subst hmm
  obtain⟨B,hB⟩:=Deep.choose_lt (α:=α) (n:=m) (p:=fun i y=>V i=f y∧Q y) (fun i hi=>hf _ _ _ (hx i hi).2)
  refine⟨some a,m,(List.range len).map B,by simpa using h1,?_,?_,by simp;omega⟩
  ·intro j y hj
   simp only[List.getElem?_map] at hj
   obtain⟨i,hi,rfl⟩:=Option.map_eq_some_iff.1 hj
   have hlt:j<len:=by
    rcases Nat.lt_or_ge j len with h|h
    ·exact h
    ·rw[List.getElem?_eq_none (by simpa using h)] at hi;simp at hi
   rw[List.getElem?_range hlt] at hi
   obtain rfl:=Option.some.inj hi
   have hcell:=(hx j (by omega)).1
   have hsp:a.spot.isNone=true:=by
    have h0:=(hx 0 (by omega)).1
    have:a.spot=none:=by simpa[Addr.add] using World.cell?_spot h0
    simp[this]
   refine⟨hsp,?_⟩
   rw[←(hB j (by omega)).1,←hcell,add_eq a j hsp]
   rfl
  ·intro y hy
   obtain⟨i,hi,rfl⟩:=List.mem_map.1 hy
   exact(hB i (by have:=List.mem_range.1 hi;omega)).2
def IntOk(k:IntKind)(n:Int):Prop:=(Lit.int k n).wf=true
theorem ints_open{t e:TypeId}{k:IntKind}{v:Value}{d:DataW H}{ps:List MemPlace}(ht:P.underlying t=some (.slice e))(he:P.underlying e=some (.int k))(hc:P.cellsOf e=1)(h:DataW.Trod enc P w 0 (fun _=>true) held t v d ps)(hv:∃a n c,v= .slice a n c):
  ∃a c xs,v= .slice a xs.length c∧Sl (Value.int k) w a xs∧(∀y∈xs,IntOk k y)∧xs.length≤maxLen:=by
 obtain⟨fuel,hf⟩:=h
 obtain⟨a,n,c,rfl⟩:=hv
 refine sl_open (Value.int k) (IntOk k) ht hc (fun n V r hr=>?_) hf
 obtain⟨i,h1,_,h3⟩:=DataW.trod_int he hr
 exact⟨i,by simpa using h1,h3⟩
structure RowOf(α:Type) where
 a:Option Addr
 c:Nat
 xs:List α
instance {α:Type}:Inhabited (RowOf α):=⟨⟨none,0,[]⟩⟩
def RowOf.val{α:Type}(r:RowOf α):Value:=.slice r.a r.xs.length r.c
end
end
section
open Go.RowKit Go.Side Go.ChangeShapes Go.WideShapes Go.ChangeAt
section
variable {H:Type} {enc:TypeId×Value→H} {P:Program} {w:World} {held:Bool}
end
section
variable {H:Type} {enc:TypeId×Value→H} {w:World} {held:Bool}
end
end
end Go.Proofs.Ytbjlijagheifgaa
