/-
  Texts of Ytbjlijagheifgaa, merged.
-/
import Derived.Test.YtbjlijagheifgaaU38
import Derived.Test.YtbjlijagheifgaaU36
import Derived.Test.YtbjlijagheifgaaU26
import Derived.Test.YtbjlijagheifgaaU37
set_option linter.unusedSimpArgs false
set_option linter.unusedVariables false
namespace Go.Proofs.Ytbjlijagheifgaa
section
open Go.RowKit Go.Side
def opF(x:OpD):List Value:=[.int .i64 x.kind,.int .i64 x.chan,.int .i64 x.val,x.ev]
theorem opF_len(x:OpD):(opF x).length=4:=rfl
theorem opF_one:∀x,∀u∈opF x,u.oneCell'=true:=by
 intro x u h
 simp only[opF,OpD.ev,List.mem_cons,List.not_mem_nil,or_false] at h
 rcases h with rfl|rfl|rfl|rfl<;>rfl
structure PL(B:Nat)(w:World)(v:Value)(L:List TkD):Prop where
 own:w.ownsRow B 85 1 v L.length (L.map tkv)
 tks:∀t∈L,w.ownsRow B 87 4 (tkv t) t.ops.length (flC opF t.ops)
theorem own_cells{w:World}{base:Nat}{e:TypeId}{size:Nat}{v:Value}{n:Nat}{xs:List Value}(h:w.ownsRow base e size v n xs){g:Nat}(hg:v.ownBlock=some g):∃c f,w.heap[g]?=some (.cells c e f):=by
 rcases h.2 with⟨rfl,_⟩|⟨g',cap,cur,rfl,_,hh,_⟩
 ·cases hg
 ·obtain rfl:g'=g:=Option.some.inj hg
  exact⟨_,_,hh⟩
section
variable {B:Nat} {w w':World} {v v':Value} {L:List TkD}
theorem PL.nil(B:Nat)(w:World):PL B w (.slice none 0 0) []:=⟨⟨rfl,.inl ⟨rfl,rfl⟩⟩,fun _ h=>by cases h⟩
theorem PL.upd{S:Nat→Prop}(h:PL B w v L)(U:Upd S w w')(h1:∀g,v.ownBlock=some g→¬S g)(hS:∀k c f,w.heap[k]?=some (.cells c 87 f)→¬S k):PL B w' v L:=
 ⟨own_upd h.own U h1,fun t ht=>own_upd (h.tks t ht) U fun g hg=>let⟨c,f,hc⟩:=own_cells (h.tks t ht) hg;hS g c f hc⟩
theorem PL.new(h:PL B w v L)(q:Below w.heap.size w w'):PL B w' v L:=h.upd (Upd.of_below (S:=fun _=>False) q) (fun _ _=>id) (fun _ _ _ _=>id)
theorem PL.push{t:TkD}(h:PL B w v L)(ht:w.ownsRow B 87 4 (tkv t) t.ops.length (flC opF t.ops))(g1:w'.ownsRow B 85 1 v' (L.length+1) (L.map tkv++[tkv t]))(g2:w.grownBy w' v.ownBlock):PL B w' v' (L++[t]):=by
 have U:=Upd.of_grownV g2
 have hS:∀k c f,w.heap[k]?=some (.cells c 87 f)→¬v.ownBlock=some k:=fun k c f hk=>own_type h.own hk (by decide)
 refine⟨by rw[List.map_append,List.length_append];exact g1,fun x hx=>?_⟩
 rcases List.mem_append.1 hx with hx|hx
 ·exact own_upd (h.tks x hx) U fun g hg=>let⟨c,f,hc⟩:=own_cells (h.tks x hx) hg;hS g c f hc
 ·simp only[List.mem_cons,List.not_mem_nil,or_false] at hx
  subst hx
  exact own_upd ht U fun g hg=>let⟨c,f,hc⟩:=own_cells ht hg;hS g c f hc
theorem PL.slT(h:PL B w v L)(ho:∀t∈L,∀x∈t.ops,OpOk w x):∃a c,v= .slice a L.length c∧SlT w a L:=by
 obtain⟨a,c,rfl, -⟩:=own_shape h.own
 refine⟨a,c,rfl,fun j t hj=>?_⟩
 have ht:=List.mem_of_getElem? hj
 have h1:=ownC_all h.own j (tkv t) (by rw[List.getElem?_map,hj];rfl)
 have h2:=h.tks t ht
 refine⟨h1.1,h1.2,fun k x hk=>?_,ho t ht,?_,?_⟩
 ·have f:∀i,i<4→∀u,(opF x)[i]?=some u→okAd t.a=true∧w.cell? (adr t.a (k*4+i))=some u:=fun i hi u hu=>ownC_cell opF_len (by decide) h2 hk hi hu
  exact⟨(f 0 (by omega) _ rfl).1,(f 0 (by omega) _ rfl).2,(f 1 (by omega) _ rfl).2,(f 2 (by omega) _ rfl).2,(f 3 (by omega) _ rfl).2⟩
 ·rcases h2.2 with⟨_,h3⟩|⟨g,cap,cur,hv,_,_,h3,h4,_⟩
  ·omega
  ·omega
 ·rcases h2.2 with⟨h5,h3⟩|⟨g,cap,cur,hv,_,_,h3,h4,_⟩
  ·simp only[tkv,Value.slice.injEq] at h5
   obtain⟨_,_,h6⟩:=h5
   rw[h3,h6]
   exact⟨Nat.le_refl _,by simp[maxLen]⟩
  ·simp only[tkv,Value.slice.injEq] at hv
   obtain⟨_,_,rfl⟩:=hv
   exact⟨h3,h4⟩
end
theorem infoRT:(Try.prog.info? 85).map (fun i=>(i.zero,i.size,i.bytes))=some (some (.slice none 0 0),1,24):=by kernel_rfl
theorem infoRO:(Try.prog.info? 87).map (fun i=>(i.zero,i.size,i.bytes))=some (some (.agg #[.int .i64 0,.int .i64 0,.int .i64 0,.slice none 0 0]),4,48):=by kernel_rfl
def PlRel(w:World)(L:List TkD)(v k:Value)(wr:World):Prop:=∃i Q,i≤L.length∧k= .int .i64 (i:Int)∧PL w.heap.size wr v Q∧Q.map TkD.ops=(L.take i).map TkD.ops∧Below w.heap.size w wr
def PlRow(W:World)(t:TkD)(v k:Value)(wr:World):Prop:=∃j,j≤t.ops.length∧k= .int .i64 (j:Int)∧wr.ownsRow W.heap.size 87 4 v j (flC opF (t.ops.take j))∧Below W.heap.size W wr
def PlPost(w:World)(L:List TkD)(e:Ending)(w':World):Prop:=∃v Q,e= .returned v∧PL w.heap.size w' v Q∧Q.map TkD.ops=L.map TkD.ops∧Below w.heap.size w w'
set_option maxHeartbeats 8000000 in
set_option maxRecDepth 100000 in
theorem plain_any(w:World)(a:Option Addr)(c:Nat)(L:List TkD)(hs:SlT w a L)(hl:L.length≤40)(hl2:∀t∈L,t.ops.length≤60):
  Calls Try.prog 15 #[.slice a L.length c] w (PlPost w L):=by
 have S:=Lib.hid hs
 have HL2:=Lib.hid hl2
 clear hs hl2
 obtain⟨i1,hi,hz0,hz1,hz2⟩:=info_parts infoRT
 have JI:=Lib.hid hi;have JZ0:=Lib.hid hz0;have JZ1:=Lib.hid hz1;have JZ2:=Lib.hid hz2
 clear hi hz0 hz1 hz2
 obtain⟨i2,hi,hz0,hz1,hz2⟩:=info_parts infoRO
 have KI:=Lib.hid hi;have KZ0:=Lib.hid hz0;have KZ1:=Lib.hid hz1;have KZ2:=Lib.hid hz2
 clear hi hz0 hz1 hz2
 generalize hn:L.length=n at*
 have HN:=Lib.hid hn
 clear hn
 go_enter Try.func15,Try.ntmps15
 go_wp2_with fail
 go_loopw [3,11] (fun v k wr=>PlRel w L v k wr) (fun _ k _=>n-(intOf k).toNat)
 case atStart=>exact⟨0,[],Nat.zero_le _,rfl,PL.nil _ _,rfl,Below.refl _ _⟩
 case round=>
  obtain⟨i,Q,hi,rfl,hP,hQ,hB⟩:=hrel
  obtain⟨a0,k0,rfl, -⟩:=own_shape hP.own
  have hQl:Q.length=i:=by have:=congrArg List.length hQ;rw[HN.out] at hi;simp only[List.length_map,List.length_take,HN.out] at this;omega
  have P:=Lib.hid hP;have HQ:=Lib.hid hQ;have HB:=Lib.hid hB;have QL:=Lib.hid hQl
  rw[HN.out] at hi
  clear hP hQ hB hQl
  by_cases hlt:i<n
  ·obtain⟨t,ht,okt,c0,TO⟩:=(S.out.reads (Reads.below HB.out)).get (k:=i) (by rw[HN.out];exact hlt)
   have hin:(i:Int)<(n:Int):=by omega
   have hm:t.ops.length≤60:=HL2.out t (List.mem_of_getElem? ht.out)
   go_upto_region 7 with(fail)
   obtain⟨wo,hwo⟩:∃wo,wo=wr:=⟨_,rfl⟩
   subst hwo
   generalize hm':t.ops.length=m at*
   have HM:=Lib.hid hm'
   clear hm'
   go_loopw [6,17] (fun v k wx=>PlRow wo t v k wx) (fun _ k _=>m-(intOf k).toNat)
   case atStart=>exact⟨0,Nat.zero_le _,rfl,⟨rfl,.inl ⟨rfl,rfl⟩⟩,Below.refl _ _⟩
   case round=>
    obtain⟨j,hj,rfl,hR,hB2⟩:=hrel
    obtain⟨a2,k2,rfl, -⟩:=own_shape hR
    have R:=Lib.hid hR;have HB2:=Lib.hid hB2
    rw[HM.out] at hj
    clear hR hB2
    by_cases hjm:j<m
    ·obtain⟨x,hx,okx,x0,x1,x2,x3⟩:=(TO.out.row.reads (Reads.below HB2.out)).get (k:=j) (by rw[HM.out];exact hjm)
     have hjn:(j:Int)<(m:Int):=by omega
     go_upto_region 9 with(fail)
     obtain⟨W5,hW5⟩:∃W5,W5=wr.alloc (.cells #[.int .i64 x.kind,.int .i64 x.chan,.int .i64 x.val,.slice x.ea x.el.length x.ec] 29):=⟨_,rfl⟩
     rw[←hW5]
     have NB:Hid (Blk W5 wr.heap.size 29 (opF x)):=Lib.hid (by rw[hW5];exact Blk.new wr _ (opF x))
     have QW:Hid (Below wr.heap.size wr W5):=Lib.hid (by rw[hW5];exact(Below.refl _ _).alloc (Nat.le_refl _) _)
     have TX:Hid (t.ops.take (j+1)=t.ops.take j++[x]):=Lib.hid (by rw[List.take_add_one,hx.out];rfl)
     have R5:=Lib.hid (own_upd R.out (Upd.of_below (S:=fun _=>False) QW.out) (fun _ _=>id))
     have B5:=Lib.hid (HB2.out.trans (QW.out.mono HB2.out.size))
     have y0:=NB.out.cell (i:=0) rfl
     have y1:=NB.out.cell (i:=1) rfl
     have y2:=NB.out.cell (i:=2) rfl
     have y3:W5.cell? ⟨wr.heap.size,3,none⟩=some (.slice x.ea x.el.length x.ec):=NB.out.cell (i:=3) rfl
     clear x0 x1 x2 x3 hx okx hW5 R QW
     go_wp2_with (at_builtin;refine wpList_append_cells rfl _ _ 85 rfl wo.heap.size 87 i2 _ 4 48 Try.underlying85 KI.out KZ0.out KZ1.out KZ2.out rfl (by decide) (.slice a2 j k2) j (flC opF (t.ops.take j)) rfl ?ownA (some ⟨W5.heap.size,0,none⟩) 1 1 (opF x) rfl rfl ?c1A (opF_one x) ?c3A ?c4A ?c5A ?kkA)
     case ownA=>exact own_upd R5.out (Upd.of_below (S:=fun _=>False) ((Below.refl _ _).alloc (Nat.le_refl _) _)) (fun _ _=>id)
     case c1A=>exact fun i u hi=>⟨rfl,by rw[adr_mk,Nat.zero_add];exact(Blk.new W5 87 (opF x)).cell hi⟩
     case c3A=>(unfold maxLen;omega)
     case c4A=>omega
     case c5A=>(have:=B5.out.size;simp;omega)
     intro v1 w6 g1 g2 g3
     have B6:=Lib.hid (Upd.below (B5.out.alloc B5.out.size _) (Upd.of_grownV g2) (by have:=B5.out.size;simp;omega) (fun k hk=>(own_lt R5.out hk).2))
     have R6:Hid (w6.ownsRow wo.heap.size 87 4 v1 (j+1) (flC opF (t.ops.take (j+1)))):=Lib.hid (by rw[TX.out,flC_append,flC_one];exact g1)
     obtain⟨a3,k3,rfl, -⟩:=own_shape g1
     clear g1 g2 g3 R5 B5 NB TX y0 y1 y2 y3
     go_wp2_with fail
     go_roundw
     case rel=>exact⟨j+1,by rw[HM.out];omega,by go_num,R6.out,B6.out⟩
     case measure=>(simp[intOf];omega)
    ·obtain rfl:j=m:=by omega
     have R1:Hid (wr.ownsRow wo.heap.size 87 4 (.slice a2 j k2) j (flC opF t.ops)):=Lib.hid (by have:=R.out;rw[←HM.out,List.take_length,HM.out] at this;exact this)
     have P1:=Lib.hid (P.out.new HB2.out)
     have B1:=Lib.hid (HB.out.trans (HB2.out.mono HB.out.size))
     clear R P HB2
     go_wp2_with (at_builtin;refine wpList_append_cells rfl _ _ 40 rfl w.heap.size 85 i1 _ 1 24 Try.underlying40 JI.out JZ0.out JZ1.out JZ2.out rfl (by decide) (.slice a0 Q.length k0) Q.length (Q.map tkv) rfl ?ownB (some ⟨wr.heap.size,0,none⟩) 1 1 [.slice a2 j k2] rfl rfl ?c1B ?c2B ?c3B ?c4B ?c5B ?kkB)
     case ownB=>exact(P1.out.new ((Below.refl _ _).alloc (Nat.le_refl _) _)).own
     case c1B=>exact fun i u hi=>⟨rfl,by rw[adr_mk,Nat.zero_add];exact(Blk.new wr 85 [.slice a2 j k2]).cell hi⟩
     case c2B=>exact fun u hu=>by simp only[List.mem_cons,List.not_mem_nil,or_false] at hu;subst hu;rfl
     case c3B=>(have:=QL.out;unfold maxLen;omega)
     case c4B=>(have:=QL.out;omega)
     case c5B=>(have:=B1.out.size;simp;omega)
     intro v1 w6 g1 g2 g3
     have P2:=Lib.hid ((P1.out.new ((Below.refl _ _).alloc (Nat.le_refl _) _)).push (t:=⟨a2,k2,t.ops⟩) (by
      show World.ownsRow _ _ _ _ (.slice a2 t.ops.length k2) _ _
      rw[HM.out]
      exact own_upd (own_rebase R1.out HB.out.size) (Upd.of_below (S:=fun _=>False) ((Below.refl _ _).alloc (Nat.le_refl _) _)) (fun _ _=>id)) (by show World.ownsRow _ _ _ _ _ _ (_++[.slice a2 t.ops.length k2]);rw[HM.out];exact g1) g2)
     have B2:=Lib.hid (Upd.below (B1.out.alloc B1.out.size _) (Upd.of_grownV g2) (by have:=B1.out.size;simp;omega) (fun k hk=>(own_lt P1.out.own hk).2))
     have Q2:Hid ((Q++[(⟨a2,k2,t.ops⟩:TkD)]).map TkD.ops=(L.take (i+1)).map TkD.ops):=Lib.hid (by rw[List.take_add_one,ht.out,List.map_append,List.map_append,HQ.out];rfl)
     obtain⟨a3,k3,rfl, -⟩:=own_shape g1
     clear g1 g2 g3 R1 P1 B1
     go_wp2_with fail
     go_roundw
     case rel=>exact⟨i+1,Q++[(⟨a2,k2,t.ops⟩:TkD)],by rw[HN.out];omega,by go_num,P2.out,Q2.out,B2.out⟩
     case measure=>(simp[intOf];omega)
  ·obtain rfl:i=n:=by omega
   go_wp2_with fail
   go_ret
   exact⟨_,Q,rfl,P.out,by rw[HQ.out,←HN.out,List.take_length],HB.out⟩
end
section
open Go.RowKit
set_option maxHeartbeats 2000000 in
theorem in_any(w:World)(a:Option Addr)(c:Nat)(xs:List Int)(x:Int)(hx:Sl (Value.int .i64) w a xs)(hl:xs.length≤maxLen):
  Calls Try.prog 60 #[.slice a xs.length c,(Value.int .i64) x] w fun e w'=>e= .returned (.bool (decide (x∈xs)))∧w'=w:=by
 unfold maxLen at hl
 have HX:=Lib.hid hx;clear hx
 generalize hR:decide (x∈xs)=r
 have HR:=Lib.hid hR;clear hR
 generalize hn:xs.length=n at*
 have HN:=Lib.hid hn;clear hn
 go_enter Try.func60,Try.ntmps60
 go_wp2_with fail
 go_loop [5] (fun i=>∃k:Nat,k≤n∧i= .int .i64 k∧Hid (x∉xs.take k)) (fun i=>n-(intOf i).toNat)
 case atStart=>exact⟨0,Nat.zero_le _,rfl,by show _∉_;simp⟩
 case round=>
  obtain⟨k,hk,rfl,ht⟩:=hrel
  by_cases hkn:k<n
  ·obtain⟨y,ey,oky,cy⟩:=HX.out.get (k:=k) (by rw[HN.out];exact hkn)
   have hki:(k:Int)<(n:Int):=by omega
   by_cases hxy:y=x
   ·have hb:(y==x)=true:=by simp[hxy]
    have hmem:Hid (true=r):=by show _=_;rw[←HR.out];symm;rw[decide_eq_true_eq,←hxy];exact List.mem_of_getElem? ey.out
    clear hxy
    go_wp2_with fail
    go_ret
    exact⟨ret_bool hmem.out,rfl⟩
   ·have hb:(y==x)=false:=by simp[hxy]
    have HT':Hid (x∉xs.take (k+1)):=by
     show _∉_
     rw[List.take_add_one,ey.out]
     simp only[Option.toList_some,List.mem_append,List.mem_singleton]
     intro h
     rcases h with h|h
     ·exact ht.out h
     ·exact hxy h.symm
    clear hxy
    go_wp2_with fail
    go_round
    case rel=>exact⟨k+1,by omega,by go_num,HT'⟩
    case measure=>simp[intOf];omega
  ·have hmem:Hid (false=r):=by
    show _=_
    rw[←HR.out]
    symm
    have h1:=ht.out
    have e1:=HN.out
    rw[List.take_of_length_le (by omega)] at h1
    simpa using h1
   obtain rfl:k=n:=by omega
   go_wp2_with fail
   go_ret
   exact⟨ret_bool hmem.out,rfl⟩
set_option maxHeartbeats 8000000 in
set_option maxRecDepth 100000 in
theorem fine_any(w:World)(x:OpD)(ch:Int)(ho:OpOk w x):
  Calls Try.prog 34 #[x.agg,.int .i64 ch] w fun e w'=>e= .returned (.bool (validO ch x))∧Below w.heap.size w w':=by
 have O:=Lib.hid ho
 clear ho
 obtain⟨kd,cn,vl,ea,ec,el⟩:=x
 unfold OpD.agg OpD.ev
 dsimp only
 generalize hx:(⟨kd,cn,vl,ea,ec,el⟩:OpD)=x at*
 have q1:chOk ch x=(decide (0≤cn)&&decide (cn<ch)):=by subst hx;rfl
 have q2:vlOk x=(decide (-1073741824≤vl)&&decide (vl≤1073741824)):=by subst hx;rfl
 have Q3:Hid (validO ch x=if kd=1 then chOk ch x&&vlOk x else if kd=2 then chOk ch x else if kd=4 then vlOk x else if kd=3 then eithOk ch el&&decide (0<el.length) else false):=Lib.hid (by subst hx;rfl)
 have q4:Sl (Value.int .i64) w ea el:=by subst hx;exact O.out.sl
 have Q5:Hid (el.length≤maxLen):=Lib.hid (by subst hx;exact O.out.len)
 have Q6:Hid (el.length≤ec∧ec≤maxLen):=Lib.hid (by subst hx;exact O.out.cap)
 clear O hx
 have BB:Hid (Below w.heap.size w (w.alloc (.cells #[.int .i64 kd,.int .i64 cn,.int .i64 vl,.slice ea el.length ec] 87))):=Lib.hid ((Below.refl _ _).alloc (Nat.le_refl _) _)
 have SS:=Lib.hid (q4.below BB.out)
 have BK:=Lib.hid (Blk.new w 87 [.int .i64 kd,.int .i64 cn,.int .i64 vl,.slice ea el.length ec])
 clear q4
 have C3:(decide (cn<0)=true∧chOk ch x=false)∨(decide (cn<0)=false∧decide (cn≥ch)=true∧chOk ch x=false)∨(decide (cn<0)=false∧decide (cn≥ch)=false∧chOk ch x=true):=by
  rw[q1]
  simp only[decide_eq_true_eq,decide_eq_false_iff_not,Bool.and_eq_true,Bool.and_eq_false_iff]
  omega
 have V3:(decide (vl>1073741824)=true∧vlOk x=false)∨(decide (vl>1073741824)=false∧decide (vl< -1073741824)=true∧vlOk x=false)∨(decide (vl>1073741824)=false∧decide (vl< -1073741824)=false∧vlOk x=true):=by
  rw[q2]
  simp only[decide_eq_true_eq,decide_eq_false_iff_not,Bool.and_eq_true,Bool.and_eq_false_iff]
  omega
 generalize chOk ch x=cb at*
 generalize vlOk x=vb at*
 clear q1 q2
 generalize validO ch x=vo at*
 go_enter Try.func34,Try.ntmps34
 go_upto_region 1 with(fail)
 generalize w.alloc (.cells #[.int .i64 kd,.int .i64 cn,.int .i64 vl,.slice ea el.length ec] 87)=W at*
 have BK':Hid (Blk W w.heap.size 87 [.int .i64 kd,.int .i64 cn,.int .i64 vl,.slice ea el.length ec]):=BK
 clear BK
 have c0:=BK'.out.cell (i:=0) rfl
 have c1:=BK'.out.cell (i:=1) rfl
 have c2:=BK'.out.cell (i:=2) rfl
 have c3:=BK'.out.cell (i:=3) rfl
 generalize hbx:w.heap.size=bx at*
 have HBX:=Lib.hid hbx
 clear hbx
 have FIN:Hid (∀b,vo=b→Ending.returned (.bool b)= .returned (.bool vo)∧Below bx w W):=Lib.hid fun b h=>⟨by rw[h],BB.out⟩
 by_cases k1:kd=1
 ·subst k1
  have E:Hid (vo=(cb&&vb)):=Lib.hid (by rw[Q3.out];rfl)
  clear Q3
  rcases C3 with⟨h1,rfl⟩|⟨h1,h2,rfl⟩|⟨h1,h2,rfl⟩
  ·clear V3;go_wp2_with fail;go_ret;rw[HBX.out];exact FIN.out _ E.out
  ·clear V3;go_wp2_with fail;go_ret;rw[HBX.out];exact FIN.out _ E.out
  ·rcases V3 with⟨h3,rfl⟩|⟨h3,h4,rfl⟩|⟨h3,h4,rfl⟩
   all_goals(go_wp2_with fail;go_ret;rw[HBX.out];exact FIN.out _ E.out)
 by_cases k2:kd=2
 ·subst k2
  have E:Hid (vo=cb):=Lib.hid (by rw[Q3.out];rfl)
  clear Q3 V3
  rcases C3 with⟨h1,rfl⟩|⟨h1,h2,rfl⟩|⟨h1,h2,rfl⟩
  all_goals(go_wp2_with fail;go_ret;rw[HBX.out];exact FIN.out _ E.out)
 by_cases k4:kd=4
 ·subst k4
  have E:Hid (vo=vb):=Lib.hid (by rw[Q3.out];rfl)
  clear Q3 C3
  rcases V3 with⟨h3,rfl⟩|⟨h3,h4,rfl⟩|⟨h3,h4,rfl⟩
  all_goals(go_wp2_with fail;go_ret;rw[HBX.out];exact FIN.out _ E.out)
 by_cases k3:kd=3
 ·subst k3
  have E:Hid (vo=(eithOk ch el&&decide (0<el.length))):=Lib.hid (by rw[Q3.out];rfl)
  clear k1 k2 k4 Q3 C3 V3
  go_wp2_with fail
  go_loopw [5] (fun k wr=>∃i,i≤el.length∧k= .int .i64 (i:Int)∧eithTo ch el i=true∧Qt W wr) (fun k _=>el.length-(intOf k).toNat)
  case atStart=>exact⟨0,Nat.zero_le _,rfl,rfl,Qt.refl _⟩
  case round=>
   obtain⟨i,hi,rfl,ht,hq⟩:=hrel
   have HT:=Lib.hid ht;have HQ:=Lib.hid hq
   clear ht hq
   have z3:=HQ.out.reads _ _ c3
   by_cases hlt:i<el.length
   ·obtain⟨c,hc,hok,hcell⟩:=(SS.out.reads HQ.out.drew.reads).get hlt
    have y3:=HQ.out.drew.reads _ _ c3
    obtain⟨eb,eo,rfl⟩:=okAd_mk hok
    rw[adr_mk] at hcell
    have yc:=hcell
    have ES:=Lib.hid (eithTo_succ (ch:=ch) hc.out)
    have hcap:=Q6.out.1
    have hcm:=Q6.out.2
    have hlm:=Q5.out
    unfold maxLen at hcm hlm
    have hin:(i:Int)<(el.length:Int):=by omega
    have hiec:i≤ec:=by omega
    have CT:Hid (Calls Try.prog 60 #[.slice (some ⟨eb,eo,none⟩) i ec,.int .i64 c] wr.drew fun e w'=>e= .returned (.bool (decide (c∈el.take i)))∧w'=wr.drew):=Lib.hid (by
     have h:=in_any wr.drew (some ⟨eb,eo,none⟩) ec (el.take i) c (fun j y hj=>(SS.out.reads HQ.out.drew.reads) j y (by rw[List.getElem?_take] at hj;split at hj<;>first|exact hj|cases hj)) (by rw[List.length_take];unfold maxLen;omega)
     rw[List.length_take,Nat.min_eq_left hi] at h
     exact h)
    have FN:Hid (∀b:Bool,(decide (0≤c)&&(decide (c<ch)&& !decide (c∈el.take i)))=b→eithTo ch el (i+1)=b):=Lib.hid fun b hb=>by rw[ES.out,HT.out,hb];rfl
    have BD:Hid (eithTo ch el (i+1)=false→vo=false):=Lib.hid fun h=>by
     have h2:eithOk ch el=false:=eithTo_mono (by omega) h
     rw[E.out,h2];rfl
    have BQ:=Lib.hid (BB.out.trans (HQ.out.drew.below _))
    clear hc HT ES hok c0 c1 c2 c3 BK' hcell
    go_upto_region 12 with(fail)
    by_cases h1:c<0
    ·have g1:decide (c<0)=true:=by simpa using h1
     have X:Hid (vo=false):=Lib.hid (BD.out (FN.out _ (by simp;intro h;omega)))
     clear h1 FN BD
     refine wp_region_allH (fun wx=>wx.cell? ⟨bx,3,none⟩=some (.slice (some ⟨eb,eo,none⟩) el.length ec)∧wx.cell? ⟨eb,eo+i,none⟩=some (.int .i64 c)) 27 (by kernel_rfl) rfl ?_ (fun hHeld=>?_)
     ·(exact⟨y3,yc⟩)
     iterate 7
      refine wpAnyH_takeN [0,1,2,3,4,5,6] (v:=?_) rfl rfl (by kernel_rfl) (by kernel_rfl) (by kernel_rfl) (fun _ _ _ h=>h) rfl ?_ hHeld ?_
      rotate_left
      ·intro w hSw
       try dsimp only at hSw
       go_simp
       all_goals with_reducible rfl
      try simp only[Act.put,List.setIfInBounds_toArray,List.set_cons_zero,List.set_cons_succ]
     iterate 7
      refine wpAnyH_skipN [7,8,9,10,11,12,13] rfl rfl (by kernel_rfl) (by kernel_rfl) (by kernel_rfl) (fun _ _ _ h=>h) rfl hHeld ?_
      try simp only[Act.put,List.setIfInBounds_toArray,List.set_cons_zero,List.set_cons_succ]
     iterate 2
      refine wpAnyH_takeN [14,15] (v:=?_) rfl rfl (by kernel_rfl) (by kernel_rfl) (by kernel_rfl) (fun _ _ _ h=>h) rfl ?_ hHeld ?_
      rotate_left
      ·intro w hSw
       try dsimp only at hSw
       go_simp
       all_goals with_reducible rfl
      try simp only[Act.put,List.setIfInBounds_toArray,List.set_cons_zero,List.set_cons_succ]
     iterate 10
      refine wpAnyH_skipN [16,17,18,19,20,21,22,23,24,25] rfl rfl (by kernel_rfl) (by kernel_rfl) (by kernel_rfl) (fun _ _ _ h=>h) rfl hHeld ?_
      try simp only[Act.put,List.setIfInBounds_toArray,List.set_cons_zero,List.set_cons_succ]
     iterate 1
      refine wpAnyH_takeN [26] (v:=?_) rfl rfl (by kernel_rfl) (by kernel_rfl) (by kernel_rfl) (fun _ _ _ h=>h) rfl ?_ hHeld ?_
      rotate_left
      ·intro w hSw
       try dsimp only at hSw
       go_simp
       all_goals with_reducible rfl
      try simp only[Act.put,List.setIfInBounds_toArray,List.set_cons_zero,List.set_cons_succ]
     refine wpAnyH_done (by kernel_rfl) ?_ _
     clear hHeld
     go_wp2_with fail
     go_ret
     rw[HBX.out];exact⟨by rw[X.out];rfl,BQ.out⟩
    ·have g1:decide (c<0)=false:=by simpa using h1
     by_cases h2:c≥ch
     ·have g2:decide (c≥ch)=true:=by simpa using h2
      have X:Hid (vo=false):=Lib.hid (BD.out (FN.out _ (by simp;intro h h';omega)))
      clear h1 h2 FN BD
      refine wp_region_allH (fun wx=>wx.cell? ⟨bx,3,none⟩=some (.slice (some ⟨eb,eo,none⟩) el.length ec)∧wx.cell? ⟨eb,eo+i,none⟩=some (.int .i64 c)) 27 (by kernel_rfl) rfl ?_ (fun hHeld=>?_)
      ·(exact⟨y3,yc⟩)
      iterate 16
       refine wpAnyH_takeN [0,1,2,3,4,5,6,7,8,9,10,11,12,13,14,15] (v:=?_) rfl rfl (by kernel_rfl) (by kernel_rfl) (by kernel_rfl) (fun _ _ _ h=>h) rfl ?_ hHeld ?_
       rotate_left
       ·intro w hSw
        try dsimp only at hSw
        go_simp
        all_goals with_reducible rfl
       try simp only[Act.put,List.setIfInBounds_toArray,List.set_cons_zero,List.set_cons_succ]
      iterate 10
       refine wpAnyH_skipN [16,17,18,19,20,21,22,23,24,25] rfl rfl (by kernel_rfl) (by kernel_rfl) (by kernel_rfl) (fun _ _ _ h=>h) rfl hHeld ?_
       try simp only[Act.put,List.setIfInBounds_toArray,List.set_cons_zero,List.set_cons_succ]
      iterate 1
       refine wpAnyH_takeN [26] (v:=?_) rfl rfl (by kernel_rfl) (by kernel_rfl) (by kernel_rfl) (fun _ _ _ h=>h) rfl ?_ hHeld ?_
       rotate_left
       ·intro w hSw
        try dsimp only at hSw
        go_simp
        all_goals with_reducible rfl
       try simp only[Act.put,List.setIfInBounds_toArray,List.set_cons_zero,List.set_cons_succ]
      refine wpAnyH_done (by kernel_rfl) ?_ _
      clear hHeld
      go_wp2_with fail
      go_ret
      rw[HBX.out];exact⟨by rw[X.out];rfl,BQ.out⟩
     ·have g2:decide (c≥ch)=false:=by simpa using h2
      cases hct:decide (c∈el.take i) with
      |true=>
       have X:Hid (vo=false):=Lib.hid (BD.out (FN.out _ (by rw[hct];simp)))
       rw[hct] at CT
       clear h1 h2 FN BD hct
       refine wp_region_allH (fun wx=>wx.cell? ⟨bx,3,none⟩=some (.slice (some ⟨eb,eo,none⟩) el.length ec)∧wx.cell? ⟨eb,eo+i,none⟩=some (.int .i64 c)) 27 (by kernel_rfl) rfl ?_ (fun hHeld=>?_)
       ·(exact⟨y3,yc⟩)
       iterate 25
        refine wpAnyH_takeN [0,1,2,3,4,5,6,7,8,9,10,11,12,13,14,15,16,17,18,19,20,21,22,23,24] (v:=?_) rfl rfl (by kernel_rfl) (by kernel_rfl) (by kernel_rfl) (fun _ _ _ h=>h) rfl ?_ hHeld ?_
        rotate_left
        ·intro w hSw
         try dsimp only at hSw
         go_simp
         all_goals with_reducible rfl
        try simp only[Act.put,List.setIfInBounds_toArray,List.set_cons_zero,List.set_cons_succ]
       refine wpAnyH_step (i:=25) (by kernel_rfl) rfl (fun KK hK=>?_)
       (go_simp;(with_reducible refine CT.out.mono ?_);rintro e w9 ⟨rfl,rfl⟩;go_wp2_with fail)
       refine hK.out _ _ ?_ (fun hHeld=>?_)
       ·(exact⟨y3,yc⟩)
       clear hK KK
       try simp only[Act.put,List.setIfInBounds_toArray,List.set_cons_zero,List.set_cons_succ]
       iterate 1
        refine wpAnyH_takeN [26] (v:=?_) rfl rfl (by kernel_rfl) (by kernel_rfl) (by kernel_rfl) (fun _ _ _ h=>h) rfl ?_ hHeld ?_
        rotate_left
        ·intro w hSw
         try dsimp only at hSw
         go_simp
         all_goals with_reducible rfl
        try simp only[Act.put,List.setIfInBounds_toArray,List.set_cons_zero,List.set_cons_succ]
       refine wpAnyH_done (by kernel_rfl) ?_ _
       clear hHeld
       go_wp2_with fail
       go_ret
       rw[HBX.out];exact⟨by rw[X.out];rfl,BQ.out⟩
      |false=>
       have X:Hid (eithTo ch el (i+1)=true):=Lib.hid (FN.out _ (by rw[hct];simp;omega))
       rw[hct] at CT
       clear h1 h2 FN BD hct
       refine wp_region_allH (fun wx=>wx.cell? ⟨bx,3,none⟩=some (.slice (some ⟨eb,eo,none⟩) el.length ec)∧wx.cell? ⟨eb,eo+i,none⟩=some (.int .i64 c)) 27 (by kernel_rfl) rfl ?_ (fun hHeld=>?_)
       ·(exact⟨y3,yc⟩)
       iterate 25
        refine wpAnyH_takeN [0,1,2,3,4,5,6,7,8,9,10,11,12,13,14,15,16,17,18,19,20,21,22,23,24] (v:=?_) rfl rfl (by kernel_rfl) (by kernel_rfl) (by kernel_rfl) (fun _ _ _ h=>h) rfl ?_ hHeld ?_
        rotate_left
        ·intro w hSw
         try dsimp only at hSw
         go_simp
         all_goals with_reducible rfl
        try simp only[Act.put,List.setIfInBounds_toArray,List.set_cons_zero,List.set_cons_succ]
       refine wpAnyH_step (i:=25) (by kernel_rfl) rfl (fun KK hK=>?_)
       (go_simp;(with_reducible refine CT.out.mono ?_);rintro e w9 ⟨rfl,rfl⟩;go_wp2_with fail)
       refine hK.out _ _ ?_ (fun hHeld=>?_)
       ·(exact⟨y3,yc⟩)
       clear hK KK
       try simp only[Act.put,List.setIfInBounds_toArray,List.set_cons_zero,List.set_cons_succ]
       iterate 1
        refine wpAnyH_takeN [26] (v:=?_) rfl rfl (by kernel_rfl) (by kernel_rfl) (by kernel_rfl) (fun _ _ _ h=>h) rfl ?_ hHeld ?_
        rotate_left
        ·intro w hSw
         try dsimp only at hSw
         go_simp
         all_goals with_reducible rfl
        try simp only[Act.put,List.setIfInBounds_toArray,List.set_cons_zero,List.set_cons_succ]
       refine wpAnyH_done (by kernel_rfl) ?_ _
       clear hHeld
       go_wp2_with fail
       go_roundw
       case rel=>exact⟨i+1,by omega,by go_num,X.out,HQ.out.drew⟩
       case measure=>simp[intOf];omega
   ·obtain rfl:i=el.length:=by omega
    have E4:Hid (eithOk ch el=true):=HT
    have X:Hid (vo=decide (0<el.length)):=Lib.hid (by rw[E.out,E4.out];rfl)
    have BQ:=Lib.hid (BB.out.trans (HQ.out.below _))
    clear HT E E4
    go_wp2_with fail
    go_ret
    rw[HBX.out];exact⟨by rw[X.out];simp,BQ.out⟩
 ·have E:Hid (vo=false):=Lib.hid (by rw[Q3.out,if_neg k1,if_neg k2,if_neg k4,if_neg k3])
  clear C3 V3 Q3
  by_cases h0:kd<1
  ·have g0:decide (kd<1)=true:=by simpa using h0
   clear k1 k2 k3 k4 h0
   go_wp2_with fail;go_ret;rw[HBX.out];exact FIN.out _ E.out
  ·have g0:decide (kd<1)=false:=by simpa using h0
   have g1:decide (kd>4)=true:=by simp;omega
   clear k1 k2 k3 k4 h0
   go_wp2_with fail;go_ret;rw[HBX.out];exact FIN.out _ E.out
end
end Go.Proofs.Ytbjlijagheifgaa
