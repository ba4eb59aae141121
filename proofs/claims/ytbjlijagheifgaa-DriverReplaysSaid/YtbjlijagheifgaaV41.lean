/-
  Texts of Ytbjlijagheifgaa, merged.
-/
import Derived.Test.YtbjlijagheifgaaV40
import Derived.Test.YtbjlijagheifgaaV38
import Derived.Test.YtbjlijagheifgaaV37
import Derived.Test.YtbjlijagheifgaaV39
set_option linter.unusedSimpArgs false
set_option linter.unusedVariables false
namespace Go.Proofs.Ytbjlijagheifgaa
section
open Go.RowKit Go.Side Go.ChangeShapes Go.WideShapes Go.ChangeAt
section
variable {H:Type} {enc:TypeId×Value→H} {P:Program} {w:World} {held:Bool}
theorem trod_struct4{t:TypeId}{f0 f1 f2 f3:Field}{fuel:Nat}{cs:List Value}{x:DataW H×List MemPlace}(ht:P.underlying t=some (.struct #[f0,f1,f2,f3]))(h:DataW.trod enc P w 0 (fun _=>true) held fuel t cs=some x):
  ∃y0 y1 y2 y3 n,cs.length=P.cellsOf t∧DataW.trod enc P w 0 (fun _=>true) held n f0.type ((cs.drop f0.offset).take (P.cellsOf f0.type))=some y0∧
   DataW.trod enc P w 0 (fun _=>true) held n f1.type ((cs.drop f1.offset).take (P.cellsOf f1.type))=some y1∧DataW.trod enc P w 0 (fun _=>true) held n f2.type ((cs.drop f2.offset).take (P.cellsOf f2.type))=some y2∧
   DataW.trod enc P w 0 (fun _=>true) held n f3.type ((cs.drop f3.offset).take (P.cellsOf f3.type))=some y3:=by
 obtain⟨xs,n,_,rfl,hl,hlen,hf⟩:=DataW.trod_struct ht h
 match xs,hlen with
 |[y0,y1,y2,y3],_=>exact⟨y0,y1,y2,y3,n,hl,by simpa using hf 0 f0 rfl,by simpa using hf 1 f1 rfl,by simpa using hf 2 f2 rfl,by simpa using hf 3 f3 rfl⟩
end
section
variable {H:Type} {enc:TypeId×Value→H} {w:World} {held:Bool}
set_option maxRecDepth 100000 in
theorem either_open{n:Nat}{u:Value}{y:DataW H×List MemPlace}(h:DataW.trod enc Try.prog w 0 (fun _=>true) held n 23 [u]=some y):
  ∃a c l,u= .slice a l.length c∧Sl (Value.int .i64) w a l∧l.length≤c∧c≤maxLen:=by
 obtain⟨a,c,l,rfl,s1,_,l1⟩:=sl_open (Value.int .i64) (fun _=>True) Try.underlying23 (by kernel_rfl) (fun n V r hr=>by
  obtain⟨i,h1,_,_⟩:=DataW.trod_int Try.underlying3 hr
  exact⟨i,by simpa using h1,trivial⟩) h
 refine⟨a,c,l,rfl,s1,?_⟩
 rcases Deep.open_slice Try.underlying23 h with⟨e1,_⟩|⟨a',len,cap,m,n,D,Pl,e1,hb,hl,hm,hmm,_,hx⟩
 ·simp only[List.cons.injEq,Value.slice.injEq,and_true] at e1
  obtain⟨_,h2,h3⟩:=e1
  rw[h2,h3];exact⟨Nat.le_refl _,Nat.zero_le _⟩
 ·simp only[List.cons.injEq,Value.slice.injEq,and_true] at e1
  obtain⟨_,h2,h3⟩:=e1
  rw[h2,h3];exact⟨hl,hm⟩
set_option maxRecDepth 100000 in
theorem task_open{n:Nat}{u:Value}{y:DataW H×List MemPlace}(h:DataW.trod enc Try.prog w 0 (fun _=>true) held n 26 [u]=some y):
  ∃t:TkD,u=tkv t∧TkOk w t:=by
 have hs:=Try.underlying29
 have hc:Try.prog.cellsOf 29=4:=by kernel_rfl
 have q1:Try.prog.cellsOf 3=1:=by kernel_rfl
 have q2:Try.prog.cellsOf 23=1:=by kernel_rfl
 rcases Deep.open_slice Try.underlying26 h with⟨e1,_⟩|⟨a,len,cap,m,n,D,Pl,e1,hb,hl,hm,hmm,_,hx⟩
 ·replace e1:=(List.cons.inj e1).1
  exact⟨⟨none,0,[]⟩,e1,fun j x hj=>by simp at hj,by simp,by simp[maxLen],by simp[maxLen]⟩
 ·replace e1:=(List.cons.inj e1).1
  simp only[if_true] at hmm
  subst hmm
  rw[hc] at hx
  obtain⟨B,hB⟩:=Deep.choose_lt (α:=OpD) (n:=m) (p:=fun i y=>w.cell? (a.add (i*4))=some (.int .i64 y.kind)∧w.cell? ((a.add (i*4)).add 1)=some (.int .i64 y.chan)∧w.cell? ((a.add (i*4)).add 2)=some (.int .i64 y.val)∧w.cell? ((a.add (i*4)).add 3)=some y.ev∧OpOk w y) (fun i hi=>by
   obtain⟨cs',g1,g2⟩:=hx i hi
   obtain⟨_,hlen,hcell⟩:=World.cells?_some g1
   obtain⟨y0,y1,y2,y3,n',_,k0,k1,k2,k3⟩:=trod_struct4 hs g2
   match cs',hlen with
   |[u0,u1,u2,u3],_=>
    have k0':DataW.trod enc Try.prog w 0 (fun _=>true) held n' 3 [u0]=some y0:=by
     have:=k0;rw[q1] at this;exact this
    have k1':DataW.trod enc Try.prog w 0 (fun _=>true) held n' 3 [u1]=some y1:=by
     have:=k1;rw[q1] at this;exact this
    have k2':DataW.trod enc Try.prog w 0 (fun _=>true) held n' 3 [u2]=some y2:=by
     have:=k2;rw[q1] at this;exact this
    have k3':DataW.trod enc Try.prog w 0 (fun _=>true) held n' 23 [u3]=some y3:=by
     have:=k3;rw[q2] at this;exact this
    obtain⟨m0,r0,_,j0⟩:=DataW.trod_int Try.underlying3 k0'
    obtain⟨m1,r1,_,j1⟩:=DataW.trod_int Try.underlying3 k1'
    obtain⟨m2,r2,_,j2⟩:=DataW.trod_int Try.underlying3 k2'
    obtain⟨ea,ec,el,rfl,s1,s2,s3⟩:=either_open k3'
    simp at r0 r1 r2
    subst r0 r1 r2
    have z0:=hcell 0 (by omega)
    have z1:=hcell 1 (by omega)
    have z2:=hcell 2 (by omega)
    have z3:=hcell 3 (by omega)
    exact⟨⟨m0,m1,m2,ea,ec,el⟩,by simpa[Addr.add] using z0,by simpa using z1,by simpa using z2,by simpa[OpD.ev] using z3,s1,by show el.length≤maxLen;omega,s2,s3⟩)
  refine⟨⟨some a,m,(List.range len).map B⟩,by rw[e1];simp[tkv],?_,?_,by simp;omega,by simp;omega⟩
  ·intro j y hj
   simp only[List.getElem?_map] at hj
   obtain⟨i,hi,rfl⟩:=Option.map_eq_some_iff.1 hj
   have hlt:j<len:=by
    rcases Nat.lt_or_ge j len with h|h
    ·exact h
    ·rw[List.getElem?_eq_none (by simpa using h)] at hi;simp at hi
   rw[List.getElem?_range hlt] at hi
   obtain rfl:=Option.some.inj hi
   have hsp:a.spot.isNone=true:=by
    have h0:=(hB 0 (by omega)).1
    have:a.spot=none:=by simpa[Addr.add] using World.cell?_spot h0
    simp[this]
   obtain⟨b0,b1,b2,b3,_⟩:=hB j (by omega)
   have ea:∀j,a.add j=adr (some a) j:=fun j=>add_eq a j hsp
   rw[ea] at b0
   rw[ea,adr_add] at b1 b2 b3
   exact⟨hsp,b0,b1,b2,b3⟩
  ·intro y hy
   obtain⟨i,hi,rfl⟩:=List.mem_map.1 hy
   exact(hB i (by have:=List.mem_range.1 hi;omega)).2.2.2.2
set_option maxRecDepth 100000 in
theorem tk_open{v:Value}{d:DataW H}{ps:List MemPlace}(h:DataW.Trod enc Try.prog w 0 (fun _=>true) held 25 v d ps)(hv0:Value.okWide Try.prog w .any 0 25 v):
  ∃a c xs,v= .slice a xs.length c∧SlT w a xs∧(∀t∈xs,True)∧xs.length≤maxLen:=by
 obtain⟨fuel,hf⟩:=h
 obtain⟨a0,n0,c0,rfl⟩:=okWide_slice Try.underlying25 hv0
 obtain⟨a,c,xs,h1,h2,h3,h4⟩:=sl_open tkv (TkOk w) Try.underlying25 (by kernel_rfl) (fun n V r hr=>task_open hr) hf
 exact⟨a,c,xs,h1,fun j t hj=>⟨(h2 j t hj).1,(h2 j t hj).2,h3 t (List.mem_of_getElem? hj)⟩,fun _ _=>trivial,h4⟩
end
end
end Go.Proofs.Ytbjlijagheifgaa
namespace Go.Side
section
open Go Go.ConcN Go.Proofs.Ytbjlijagheifgaa
section
variable {Q L:List TkD} (h:Q.map TkD.ops=L.map TkD.ops)
include h
end
end
section
open Go Go.Conc Go.ConcN Go.Proofs Go.RowKit Go.Proofs.Ytbjlijagheifgaa
noncomputable def b7:Code:=Try.f7.body.getD .skip
noncomputable def ops7:Array Oper:=opsR (fstOf (fstOf (sndOf b7)))
noncomputable def c7r:Code:=sndOf (sndOf b7)
noncomputable def ops7r:Array Oper:=opsR (fstOf (sndOf c7r))
theorem b7_eq:b7= .seq (fstOf b7) (.seq (.seq (.region 1 ops7 false) (sndOf (fstOf (sndOf b7)))) c7r):=by rfl
theorem c7r_eq:c7r= .seq (fstOf c7r) (.seq (.region 5 ops7r false) (sndOf (sndOf c7r))):=by rfl
theorem p7_0:([Item.code (fstOf b7)].all (itemPlain false none Try.prog lawFns))=true:=by kernel_rfl
theorem p7_1:([Item.inRegion ops7 [1],Item.code (sndOf (fstOf (sndOf b7)))].all (itemPlain false none Try.prog lawFns))=true:=by kernel_rfl
theorem p7_2:([Item.code (fstOf c7r)].all (itemPlain false none Try.prog lawFns))=true:=by kernel_rfl
theorem p7_3:([Item.inRegion ops7r [4,5,6,7,8,9],Item.code (sndOf (sndOf c7r))].all (itemPlain false none Try.prog lawFns))=true:=by kernel_rfl
set_option maxRecDepth 100000 in
set_option maxHeartbeats 4000000 in
theorem wp7_0(u:World)(u0 u1 u2 u3 u4 u5 u6 u7 u8 u9 u10 u11 u12 u13 u14 u15 u16 u17 u18 u19 u20 u21 u22 u23 u24 u25 u26 u27 u28 u29 u30 u31 u32 u33 u34 u35 u36 u37 u38 u39 u40 u41 u42 u43 u44 u45 u46 u47 u48 u49 u50 u51 u52 u53 u54 u55 u56 u57 u58 u59 u60 u61 u62 u63 u64 u65 u66 u67 u68 u69 u70 u71 u72 u73 u74 u75 u76 u77 u78 u79 u80 u81 u82 u83 u84 u85:Value):(fstOf b7).wp Try.prog (fun e a' u'=>e= .normal∧a'=⟨#[u0,u1,u2,u3,u4,u5,.bool false,u7,u8,u9,u10,u11,u12,u13,u14,u15,u16,u17,u18,u19,u20,u21,u22,u23,u24,u25,u26,u27,u28,u29,u30,u31,u32,u33,u34,u35,u36,u37,u38,u39,u40,u41,u42,u43,u44,u45,u46,u47,u48,u49,u50,u51,u52,u53,u54,u55,u56,u57,u58,u59,u60,u61,u62,u63,u64,u65,u66,u67,u68,u69,u70,u71,u72,u73,u74,u75,u76,u77,u78,u79,u80,u81,u82,u83,u84,u85],[]⟩∧u'=u) ⟨#[u0,u1,u2,u3,u4,u5,u6,u7,u8,u9,u10,u11,u12,u13,u14,u15,u16,u17,u18,u19,u20,u21,u22,u23,u24,u25,u26,u27,u28,u29,u30,u31,u32,u33,u34,u35,u36,u37,u38,u39,u40,u41,u42,u43,u44,u45,u46,u47,u48,u49,u50,u51,u52,u53,u54,u55,u56,u57,u58,u59,u60,u61,u62,u63,u64,u65,u66,u67,u68,u69,u70,u71,u72,u73,u74,u75,u76,u77,u78,u79,u80,u81,u82,u83,u84,u85],[]⟩ u:=by
 unfold b7
 conv in Option.getD _ _=>whnf
 dsimp only[fstOf]
 go_wp2_with fail
set_option maxRecDepth 100000 in
set_option maxHeartbeats 4000000 in
theorem wp7_1(u:World)(u0 u1 u2 u3 u4 u5 u6 u7 u8 u9 u10 u11 u12 u13 u15 u16 u17 u18 u19 u20 u21 u22 u23 u24 u25 u26 u27 u28 u29 u30 u31 u32 u33 u34 u35 u36 u37 u38 u39 u40 u41 u42 u43 u44 u45 u46 u47 u48 u49 u50 u51 u52 u53 u54 u55 u56 u57 u58 u59 u60 u61 u62 u63 u64 u65 u66 u67 u68 u69 u70 u71 u72 u73 u74 u75 u76 u77 u78 u79 u80 u81 u82 u83 u84 u85:Value):ItemsWp Try.prog [.inRegion ops7 [1],.code (sndOf (fstOf (sndOf b7)))] (fun e a' u'=>e= .normal∧a'=⟨#[u0,u1,u2,u3,u4,u5,u6,u7,u8,u9,u10,u11,u12,u13,.bool true,.bool false,u16,u17,u18,u19,u20,u21,u22,u23,u24,u25,u26,u27,u28,u29,u30,u31,u32,u33,u34,u35,u36,u37,u38,u39,u40,u41,u42,u43,u44,u45,u46,u47,u48,u49,u50,u51,u52,u53,u54,u55,u56,u57,u58,u59,u60,u61,u62,u63,u64,u65,u66,u67,u68,u69,u70,u71,u72,u73,u74,u75,u76,u77,u78,u79,u80,u81,u82,u83,u84,u85],[]⟩∧u'=u) ⟨#[u0,u1,u2,u3,u4,u5,u6,u7,u8,u9,u10,u11,u12,u13,.bool true,u15,u16,u17,u18,u19,u20,u21,u22,u23,u24,u25,u26,u27,u28,u29,u30,u31,u32,u33,u34,u35,u36,u37,u38,u39,u40,u41,u42,u43,u44,u45,u46,u47,u48,u49,u50,u51,u52,u53,u54,u55,u56,u57,u58,u59,u60,u61,u62,u63,u64,u65,u66,u67,u68,u69,u70,u71,u72,u73,u74,u75,u76,u77,u78,u79,u80,u81,u82,u83,u84,u85],[]⟩ u:=by
 refine ItemsWp.then (k:=1) (l:=ops7.toList.drop 1) rfl rfl fun K hK=>?_
 conv in(occs:= *) ops7=>
  all_goals
   unfold ops7 opsR b7
   whnf
 unfold b7 at hK
 conv at hK in Option.getD _ _=>whnf
 dsimp only[sndOf,fstOf] at hK
 simp only[List.drop_succ_cons,List.drop_zero]
 go_wp2_with fail
set_option maxRecDepth 100000 in
set_option maxHeartbeats 4000000 in
theorem wp7_2(u:World)(a b:Option Addr)(c d:Nat)(L:List TkD)(ch:Int)(chs:List Int)(hs:SlT u a L)(hl:L.length≤maxLen)(hl2:chs.length≤maxLen)(u3 u4 u5 u6 u7 u8 u9 u10 u11 u12 u13 u14 u15 u16 u17 u18 u19 u20 u21 u22 u23 u24 u25 u26 u27 u28 u29 u30 u31 u32 u33 u34 u35 u36 u37 u38 u39 u40 u41 u42 u43 u44 u45 u46 u47 u48 u49 u50 u51 u52 u53 u54 u55 u56 u57 u58 u59 u60 u61 u62 u63 u64 u65 u66 u67 u68 u69 u70 u71 u72 u73 u74 u75 u76 u77 u78 u79 u80 u81 u82 u83 u84 u85:Value):
  (fstOf c7r).wp Try.prog (GdQ 6 u (greatB L=false∧chs.length≤300) fun a'=>∃v16 v17 v18 v19 v20 v21 v22,a'=⟨#[.slice a L.length c,.int .i64 ch,.slice b chs.length d,u3,u4,u5,u6,u7,u8,u9,u10,u11,u12,u13,u14,u15,v16,v17,v18,v19,v20,v21,v22,u23,u24,u25,u26,u27,u28,u29,u30,u31,u32,u33,u34,u35,u36,u37,u38,u39,u40,u41,u42,u43,u44,u45,u46,u47,u48,u49,u50,u51,u52,u53,u54,u55,u56,u57,u58,u59,u60,u61,u62,u63,u64,u65,u66,u67,u68,u69,u70,u71,u72,u73,u74,u75,u76,u77,u78,u79,u80,u81,u82,u83,u84,u85],[]⟩) ⟨#[.slice a L.length c,.int .i64 ch,.slice b chs.length d,u3,u4,u5,u6,u7,u8,u9,u10,u11,u12,u13,u14,u15,u16,u17,u18,u19,u20,u21,u22,u23,u24,u25,u26,u27,u28,u29,u30,u31,u32,u33,u34,u35,u36,u37,u38,u39,u40,u41,u42,u43,u44,u45,u46,u47,u48,u49,u50,u51,u52,u53,u54,u55,u56,u57,u58,u59,u60,u61,u62,u63,u64,u65,u66,u67,u68,u69,u70,u71,u72,u73,u74,u75,u76,u77,u78,u79,u80,u81,u82,u83,u84,u85],[]⟩ u:=by
 have G:=Lib.hid (great_any u a c L hs hl)
 clear hs
 unfold maxLen at hl hl2
 unfold c7r b7
 conv in Option.getD _ _=>whnf
 dsimp only[fstOf,sndOf]
 go_wp2_with fail
 refine G.out.mono ?_
 rintro e w1 ⟨rfl,hb⟩
 have B1:=Lib.hid hb
 clear G hb
 cases hg:greatB L with
 |true=>
  clear hg
  go_wp2_with fail
  exact⟨B1.out,.inl ⟨rfl,rfl⟩⟩
 |false=>
  have HG:=Lib.hid hg
  clear hg
  by_cases h3:300<chs.length
  ·have i3:(300:Int)<(chs.length:Int):=by omega
   clear h3
   go_wp2_with fail
   exact⟨B1.out,.inl ⟨rfl,rfl⟩⟩
  ·have i3:¬(300:Int)<(chs.length:Int):=by omega
   have H3:Hid (chs.length≤300):=Lib.hid (by omega)
   clear h3
   go_wp2_with fail
   exact⟨B1.out,.inr ⟨rfl,⟨HG.out,H3.out⟩,_,_,_,_,_,_,_,rfl⟩⟩
theorem rep_sumsA_len(L:List TkD)(s:PS):(sumsA L s).length=L.length:=by simp[sumsA]
theorem rep_stuckA_len(L:List TkD)(s:PS):(stuckA L s).length≤L.length:=by
 have:=List.length_filter_le (fun k=>(offS L s k).isSome) (List.range L.length)
 simpa[stuckA] using this
theorem rep_validT{ch:Int}{L:List TkD}(h:validT ch L=true):L.length≤8∧∀t∈L,t.ops.length≤30:=by
 unfold validT at h
 simp only[Bool.and_eq_true,decide_eq_true_eq,List.all_eq_true] at h
 refine⟨h.1,fun t ht=>?_⟩
 have:=h.2.2.2 t ht
 unfold validL at this
 simp only[Bool.and_eq_true,decide_eq_true_eq] at this
 exact this.1
set_option maxRecDepth 100000 in
set_option maxHeartbeats 8000000 in
theorem wp7_no(u:World)(a b:Option Addr)(c d:Nat)(L:List TkD)(ch:Int)(chs:List Int)(hs:SlT u a L)(hg:greatB L=false)(hv:validT ch L=false)(u3 u4 u5 u6 u7 u8 u9 u10 u11 u12 u13 u14 u15 u16 u17 u18 u19 u20 u21 u22 u23 u24 u25 u26 u28 u29 u30 u31 u32 u33 u34 u35 u36 u37 u38 u39 u40 u41 u42 u43 u44 u45 u46 u47 u48 u49 u50 u51 u52 u53 u54 u55 u56 u57 u58 u59 u60 u61 u62 u63 u64 u65 u66 u67 u68 u69 u70 u71 u72 u73 u74 u75 u76 u77 u78 u79 u80 u81 u82 u83 u84 u85:Value):
  ItemsWp Try.prog [.inRegion ops7r [4,5,6,7,8,9],.code (sndOf (sndOf c7r))] (FinT 6 u) ⟨#[.slice a L.length c,.int .i64 ch,.slice b chs.length d,u3,u4,u5,u6,u7,u8,u9,u10,u11,u12,u13,u14,u15,u16,u17,u18,u19,u20,u21,u22,u23,u24,u25,u26,.tuple #[.agg #[.slice none 0 0,.slice none 0 0,.slice none 0 0],.int .i64 1],u28,u29,u30,u31,u32,u33,u34,u35,u36,u37,u38,u39,u40,u41,u42,u43,u44,u45,u46,u47,u48,u49,u50,u51,u52,u53,u54,u55,u56,u57,u58,u59,u60,u61,u62,u63,u64,u65,u66,u67,u68,u69,u70,u71,u72,u73,u74,u75,u76,u77,u78,u79,u80,u81,u82,u83,u84,u85],[]⟩ u:=by
 have S:=Lib.hid hs
 obtain⟨gl,gt⟩:=great_small hg
 have HV:=Lib.hid hv
 clear hs hg gt hv
 refine ItemsWp.then (k:=4) (l:=ops7r.toList.drop 4) rfl rfl fun K hK=>?_
 conv in(occs:= *) ops7r=>
  all_goals
   unfold ops7r opsR c7r b7
   whnf
 unfold c7r b7 at hK
 conv at hK in Option.getD _ _=>whnf
 dsimp only[sndOf,fstOf] at hK
 simp only[List.drop_succ_cons,List.drop_zero]
 have B0:Hid (Below u.heap.size u (u.alloc (.cells #[.slice none 0 0,.slice none 0 0,.slice none 0 0] 32))):=Lib.hid ((Below.refl _ _).alloc (Nat.le_refl _) _)
 have VE:Hid (Calls Try.prog 16 #[.slice a L.length c,.int .i64 ch] (u.alloc (.cells #[.slice none 0 0,.slice none 0 0,.slice none 0 0] 32)) (VlPost (u.alloc (.cells #[.slice none 0 0,.slice none 0 0,.slice none 0 0] 32)) false)):=Lib.hid (by rw[←HV.out];exact validT_any _ a c L ch (S.out.reads (Reads.below B0.out)) (by unfold maxLen;omega))
 go_wp2_with fail
 refine VE.out.mono ?_
 rintro e w5 ⟨rfl,hb⟩
 have B5:=Lib.hid (B0.out.trans (hb.mono B0.out.size))
 clear VE hb B0
 go_wp2_with fail
 exact⟨rfl,rfl,B5.out⟩
theorem runA_len{L:List TkD}{ch:List Int}(hl:L.length≤8)(ho:∀t∈L,t.ops.length≤30){s s':PS}{S S':List StepP}(h:RunA L ch s S s' S'):∀r,s=advS L r→RunS L ch r S→S'.length≤120:=by
 induction h with
 |done h=>exact fun r _ R=>R.len hl ho
 |step h k ih=>
  intro r e R
  subst e
  exact ih _ rfl (R.step h)
theorem outc_len{L:List TkD}{ch:List Int}(hl:L.length≤8)(ho:∀t∈L,t.ops.length≤30){s':PS}{S':List StepP}(h:Outc L ch s' S'):S'.length≤120:=runA_len hl ho h (fun _=>(0,0)) rfl (RunS.start L ch)
def R7Rel(w:World)(L:List TkD)(s:PS)(n:Nat)(v k:Value)(wx:World):Prop:=
 ∃j ua uc,j≤n∧k= .int .i64 (j:Int)∧v= .slice ua (stuckL (fun k=> !(offS L s k).isSome) j).length uc∧wx.ownsRow w.heap.size 3 1 v (stuckL (fun k=> !(offS L s k).isSome) j).length ((stuckL (fun k=> !(offS L s k).isSome) j).map (Value.int .i64))∧Below w.heap.size w wx
theorem info7:(Try.prog.info? 3).map (fun i=>(i.zero,i.size,i.bytes))=some (some (.int .i64 0),1,8):=by kernel_rfl
set_option maxRecDepth 100000 in
set_option maxHeartbeats 8000000 in
theorem wp7_ok(u:World)(a b:Option Addr)(c d:Nat)(L:List TkD)(ch:Int)(chs:List Int)(s':PS)(S':List StepP)(v0 v1 v2:Value)(hs:SlT u a L)(hp:Sl (Value.int .i64) u b chs)(hg:greatB L=false)(hc:chs.length≤300)(hv:validT ch L=true)(hO:Outc L chs s' S')(hR:RunRes u v0 v1 v2 S' (sumsA L s') (stuckA L s'))(u3 u4 u5 u6 u7 u8 u9 u10 u11 u12 u13 u14 u15 u16 u17 u18 u19 u20 u21 u22 u23 u24 u25 u26 u28 u29 u30 u31 u32 u33 u34 u35 u36 u37 u38 u39 u40 u41 u42 u43 u44 u45 u46 u47 u48 u49 u50 u51 u52 u53 u54 u55 u56 u57 u58 u59 u60 u61 u62 u63 u64 u65 u66 u67 u68 u69 u70 u71 u72 u73 u74 u75 u76 u77 u78 u79 u80 u81 u82 u83 u84 u85:Value):
  ItemsWp Try.prog [.inRegion ops7r [4,5,6,7,8,9],.code (sndOf (sndOf c7r))] (FinN 6 u) ⟨#[.slice a L.length c,.int .i64 ch,.slice b chs.length d,u3,u4,u5,u6,u7,u8,u9,u10,u11,u12,u13,u14,u15,u16,u17,u18,u19,u20,u21,u22,u23,u24,u25,u26,.tuple #[.agg #[v0,v1,v2],.int .i64 0],u28,u29,u30,u31,u32,u33,u34,u35,u36,u37,u38,u39,u40,u41,u42,u43,u44,u45,u46,u47,u48,u49,u50,u51,u52,u53,u54,u55,u56,u57,u58,u59,u60,u61,u62,u63,u64,u65,u66,u67,u68,u69,u70,u71,u72,u73,u74,u75,u76,u77,u78,u79,u80,u81,u82,u83,u84,u85],[]⟩ u:=by
 have S:=Lib.hid hs
 obtain⟨gl,gt⟩:=great_small hg
 have HV:=Lib.hid hv
 obtain⟨l8,l30⟩:=rep_validT hv
 obtain⟨l,hl1,hrep,hend⟩:=rep_of hO
 rw[List.nil_append] at hl1
 subst hl1
 have REP:=Lib.hid hrep
 have REN:=Lib.hid hend
 have FT:=Lib.hid (hrep.fit (fit0 L))
 have SLN:=Lib.hid (outc_len l8 l30 hO)
 obtain⟨⟨a0,k0,rfl,r0⟩,⟨a1,k1,rfl,r1⟩,⟨a2,k2,rfl,r2⟩⟩:=hR
 have R0:=Lib.hid r0;have R1:=Lib.hid r1;have R2:=Lib.hid r2
 have ZL:=Lib.hid (rep_sumsA_len L s')
 have KL:=Lib.hid (rep_stuckA_len L s')
 have GE:Hid (∀t∈L,∀x∈t.ops,x.el.length≤1000000):=Lib.hid fun t ht x hx=>by have:=(gt t ht).2 x hx;omega
 have L30:=Lib.hid l30
 clear hs hp hg gt hO r0 r1 r2 hrep hend l30
 refine ItemsWp.then (k:=4) (l:=ops7r.toList.drop 4) rfl rfl fun K hK=>?_
 conv in(occs:= *) ops7r=>
  all_goals
   unfold ops7r opsR c7r b7
   whnf
 unfold c7r b7 at hK
 conv at hK in Option.getD _ _=>whnf
 dsimp only[sndOf,fstOf] at hK
 simp only[List.drop_succ_cons,List.drop_zero]
 obtain⟨n,hn⟩:∃n,L.length=n:=⟨_,rfl⟩
 have HN:=Lib.hid hn
 obtain⟨W0,hW⟩:∃W0,W0=u.alloc (.cells #[.slice a0 S'.length k0,.slice a1 (sumsA L s').length k1,.slice a2 (stuckA L s').length k2] 32):=⟨_,rfl⟩
 have NX:Hid (Blk W0 u.heap.size 32 [.slice a0 S'.length k0,.slice a1 (sumsA L s').length k1,.slice a2 (stuckA L s').length k2]):=Lib.hid (by rw[hW];exact Blk.new u _ _)
 have B0:Hid (Below u.heap.size u W0):=Lib.hid (by rw[hW];exact(Below.refl _ _).alloc (Nat.le_refl _) _)
 have x0:(u.alloc (.cells #[.slice a0 S'.length k0,.slice a1 (sumsA L s').length k1,.slice a2 (stuckA L s').length k2] 32)).cell? ⟨u.heap.size,0,none⟩=some (.slice a0 S'.length k0):=by rw[←hW];exact NX.out.cell (i:=0) rfl
 have RP:=Lib.hid (replay_any W0 a a0 c k0 L ch S' s' (S.out.reads (Reads.below B0.out)) (SlSt.reads R0.out (Reads.below B0.out)) hv REP.out l8 L30.out GE.out (by have:=SLN.out;omega))
 clear hn
 go_wp2_with fail
 rw[←hW]
 refine RP.out.mono ?_
 rintro e w3 ⟨p1,p2,rfl,⟨e1,f1,rfl,h1⟩,⟨e2,f2,rfl,h2⟩,hb⟩
 have B3:=Lib.hid (B0.out.trans (hb.mono B0.out.size))
 have N3:=Lib.hid (NX.out.upd (S:=fun _=>False) (Upd.of_below hb) id)
 have H1:=Lib.hid h1
 have Q1:=Lib.hid (R1.out.reads (Reads.below B3.out))
 have EQ:Hid (Calls Try.prog 21 #[.slice e2 (sumsA L s').length f2,.slice a1 (sumsA L s').length k1] w3 fun e w'=>e= .returned (.bool true)∧Qt w3 w'):=Lib.hid (by
  have h:=equalInt_any w3 e2 a1 f2 k1 (sumsA L s') (sumsA L s') h2 Q1.out (by rw[ZL.out];unfold maxLen;omega)
  simpa only[decide_true] using h)
 have z1:w3.cell? ⟨u.heap.size,1,none⟩=some (.slice a1 (sumsA L s').length k1):=N3.out.cell (i:=1) rfl
 clear x0 RP hW NX B0 h1 h2 hb Q1
 rw[at_L_len]
 clear W0
 go_wp2_with fail
 refine EQ.out.mono ?_
 rintro e w4 ⟨rfl,hq⟩
 have B4:=Lib.hid (B3.out.trans (hq.below _))
 have N4:=Lib.hid (N3.out.upd (S:=fun _=>False) (Upd.of_below (hq.below _)) id)
 have H4:=Lib.hid (H1.out.reads hq.reads)
 have S4:=Lib.hid (S.out.reads (Reads.below B4.out))
 have RD:Hid (Calls Try.prog 22 #[.slice a L.length c,.int .i64 ch,.slice e1 L.length f1] w4 (RdyPost w4 [])):=Lib.hid (by
  have h:=ready_any w4 a e1 c f1 L ch (at_L L.length s') S4.out H4.out (by unfold maxLen;omega) (by rw[at_L_len];unfold maxLen;omega) GE.out
  rw[readyD_poss HV.out FT.out,REN.out,at_L_len] at h
  exact h)
 clear EQ B3 N3 H1 z1 hq w3
 go_wp2_with fail
 refine RD.out.mono ?_
 rintro e w5 ⟨v,rfl,⟨ra,rc,rfl, -⟩,hb⟩
 have B5:=Lib.hid (B4.out.trans (hb.mono B4.out.size))
 have N5:=Lib.hid (N4.out.upd (S:=fun _=>False) (Upd.of_below hb) id)
 have H5:=Lib.hid (H4.out.reads (Reads.below hb))
 clear RD B4 N4 H4 S4 hb w4
 obtain⟨i1,hi,hz0,hz1,hz2⟩:=info_parts info7
 have KI:=Lib.hid hi;have KZ0:=Lib.hid hz0;have KZ1:=Lib.hid hz1;have KZ2:=Lib.hid hz2
 clear hi hz0 hz1 hz2
 simp only[List.length_nil] at*
 go_wp2_with fail
 go_loopw [12,64] (fun v k wx=>R7Rel w5 L s' L.length v k wx) (fun _ k _=>L.length-(intOf k).toNat)
 case atStart=>exact⟨0,none,0,Nat.zero_le _,rfl,rfl,⟨rfl,.inl ⟨rfl,rfl⟩⟩,Below.refl _ _⟩
 case round=>
  obtain⟨j,ua,uc,hj,rfl,rfl,hown,hB⟩:=hrel
  have OW0:=Lib.hid hown
  have B6:=Lib.hid hB
  have SS1:=Lib.hid (stuckL_succ (fun k=> !(offS L s' k).isSome) j)
  have SLL:=Lib.hid (stuckL_len (fun k=> !(offS L s' k).isSome) j)
  clear hown hB
  generalize hU:stuckL (fun k=> !(offS L s' k).isSome) j=U at*
  have HU:=Lib.hid hU
  clear hU
  generalize hul:U.length=ul at*
  have HUL:=Lib.hid hul
  clear hul
  have BU:=Lib.hid (B5.out.trans (B6.out.mono B5.out.size))
  by_cases hjt:j<L.length
  ·have hjn:(j:Int)<(L.length:Int):=by omega
   obtain⟨t,ht,okt,c0,TO⟩:=(S.out.reads (Reads.below BU.out)).get (k:=j) hjt
   have OF:Hid (offS L s' j=t.ops[(s' j).1]?):=Lib.hid (by unfold offS;rw[ht.out];rfl)
   have y0:okAd e1=true∧wr.cell? (adr e1 j)=some (.int .i64 ((s' j).1:Int)):=(H5.out.reads (Reads.below B6.out)) j _ (range_get _ hjt)
   obtain⟨y0,y1⟩:=y0
   have FQ:Hid (∀wq,Qt wr wq→(wq.ownsRow w5.heap.size 3 1 (.slice ua ul uc) ul (U.map (Value.int .i64))∧Below w5.heap.size w5 wq)):=Lib.hid fun wq q=>⟨own_upd OW0.out (Upd.of_below (S:=fun _=>False) q.bel) (fun _ _=>id),B6.out.trans (q.below _)⟩
   clear BU
   generalize(s' j).1=p at*
   by_cases hpl:p<t.ops.length
   ·have hpn:(p:Int)<(t.ops.length:Int):=by omega
    have SX:Hid (stuckL (fun k=> !(offS L s' k).isSome) (j+1)=U++[(j:Int)]):=Lib.hid (by
     rw[SS1.out,OF.out,List.getElem?_eq_getElem hpl];rfl)
    clear SS1 OF TO
    go_upto_region 16 with(go_quiet (fail))
    generalize hwq:World.drewN wr _=wq
    obtain⟨OW',BQ'⟩:=FQ.out wq (hwq▸(by exact(Qt.refl wr).drewN _))
    have OW:=Lib.hid OW'
    have BQ:=Lib.hid BQ'
    clear hwq OW' BQ' FQ OW0 B6 y0 y1 c0 okt ht
    go_wp2_with (at_builtin;refine wpList_append_cells rfl _ _ 23 rfl w5.heap.size 3 i1 _ 1 8 Try.underlying23 KI.out KZ0.out KZ1.out KZ2.out rfl (by decide) (.slice ua ul uc) ul (U.map (Value.int .i64)) rfl ?ownB (some ⟨wq.heap.size,0,none⟩) 1 1 [.int .i64 (j:Int)] rfl rfl ?c1B ?c2B ?c3B ?c4B ?c5B ?kkB)
    case ownB=>exact own_upd OW.out (Upd.of_below (S:=fun _=>False) ((Below.refl _ _).alloc (Nat.le_refl _) _)) (fun _ _=>id)
    case c1B=>exact fun i' u hi=>⟨rfl,by rw[adr_mk,Nat.zero_add];exact(Blk.new wq 3 [.int .i64 (j:Int)]).cell hi⟩
    case c2B=>exact fun u hu=>by simp only[List.mem_cons,List.not_mem_nil,or_false] at hu;subst hu;rfl
    case c3B=>(have:=SLL.out;unfold maxLen;omega)
    case c4B=>(have:=SLL.out;omega)
    case c5B=>(have:=BQ.out.size;simp;omega)
    intro v1 w6 g1 g2 g3
    have BN:=Lib.hid (Upd.below (BQ.out.alloc BQ.out.size _) (Upd.of_grownV g2) (by have:=BQ.out.size;simp;omega) (fun k hk=>(own_lt OW.out hk).2))
    obtain⟨a3,k3,rfl, -⟩:=own_shape g1
    have ON:Hid (w6.ownsRow w5.heap.size 3 1 (.slice a3 (ul+1) k3) (stuckL (fun k=> !(offS L s' k).isSome) (j+1)).length ((stuckL (fun k=> !(offS L s' k).isSome) (j+1)).map (Value.int .i64))):=Lib.hid (by
     rw[SX.out,List.length_append,HUL.out,List.map_append];exact g1)
    have EN:Hid (Value.slice a3 (ul+1) k3= .slice a3 (stuckL (fun k=> !(offS L s' k).isSome) (j+1)).length k3):=Lib.hid (by rw[SX.out,List.length_append,HUL.out];rfl)
    clear g1 g2 g3 OW BQ SX
    go_wp2_with fail
    go_roundw
    case rel=>exact⟨j+1,a3,k3,by omega,by go_num,EN.out,ON.out,BN.out⟩
    case measure=>(simp[intOf];omega)
   ·have SX:Hid (stuckL (fun k=> !(offS L s' k).isSome) (j+1)=U):=Lib.hid (by
     rw[SS1.out,OF.out,List.getElem?_eq_none (by omega)];rfl)
    have E4:Hid (∀wq,Qt wr wq→(wq.ownsRow w5.heap.size 3 1 (.slice ua ul uc) (stuckL (fun k=> !(offS L s' k).isSome) (j+1)).length ((stuckL (fun k=> !(offS L s' k).isSome) (j+1)).map (Value.int .i64))∧Below w5.heap.size w5 wq)):=Lib.hid fun wq q=>by
     rw[SX.out,HUL.out];exact FQ.out wq q
    have EN:Hid (Value.slice ua ul uc= .slice ua (stuckL (fun k=> !(offS L s' k).isSome) (j+1)).length uc):=Lib.hid (by rw[SX.out,HUL.out])
    have hpn:decide (p<t.ops.length)=false:=by simpa using hpl
    clear SS1 OF SX FQ
    go_wp2_with fail
    go_quiet (fail)
    go_wp2_with fail
    go_roundw
    case rel=>exact⟨j+1,ua,uc,by omega,by go_num,EN.out,(E4.out _ (by exact(Qt.refl wr).drewN _)).1,(E4.out _ (by exact(Qt.refl wr).drewN _)).2⟩
    case measure=>(simp[intOf];omega)
  ·have hjl:j=L.length:=by omega
   have UE:Hid (U=stuckA L s'):=Lib.hid (by
    rw[←HU.out,hjl]
    unfold stuckL stuckA
    simp)
   have N6:=Lib.hid (N5.out.upd (S:=fun _=>False) (Upd.of_below B6.out) id)
   have z2:wr.cell? ⟨u.heap.size,2,none⟩=some (.slice a2 (stuckA L s').length k2):=N6.out.cell (i:=2) rfl
   have EQ:Hid (Calls Try.prog 21 #[.slice ua ul uc,.slice a2 (stuckA L s').length k2] wr fun e w'=>e= .returned (.bool true)∧Qt wr w'):=Lib.hid (by
    have hsl:Sl (Value.int .i64) wr ua (stuckA L s'):=fun k y hk=>by
     rw[←UE.out] at hk
     exact ownC_all OW0.out k _ (by rw[List.getElem?_map,hk];rfl)
    have h:=equalInt_any wr ua a2 uc k2 (stuckA L s') (stuckA L s') hsl (R2.out.reads (Reads.below BU.out)) (by have:=KL.out;unfold maxLen;omega)
    rw[←UE.out,HUL.out,UE.out] at h
    simp only[decide_true] at h
    rw[←UE.out,HUL.out]
    exact h)
   clear SS1 HU SLL OW0 N6
   subst hjl
   go_wp2_with fail
   refine EQ.out.mono ?_
   rintro e w7 ⟨rfl,hq⟩
   have B7:=Lib.hid (BU.out.trans (hq.below _))
   clear EQ hq
   go_wp2_with fail
   exact⟨rfl,B7.out⟩
set_option maxRecDepth 100000 in
set_option maxHeartbeats 4000000 in
theorem repl_in(W:World)(a b:Option Addr)(c d:Nat)(L:List TkD)(ch:Int)(chs:List Int)(hs:SlT W a L)(hp:Sl (Value.int .i64) W b chs)(hl:L.length≤maxLen)(hl2:chs.length≤maxLen)(u3 u4 u5 u6 u7 u8 u9 u10 u11 u12 u13 u14 u15 u16 u17 u18 u19 u20 u21 u22 u23 u24 u25 u26 u27 u28 u29 u30 u31 u32 u33 u34 u35 u36 u37 u38 u39 u40 u41 u42 u43 u44 u45 u46 u47 u48 u49 u50 u51 u52 u53 u54 u55 u56 u57 u58 u59 u60 u61 u62 u63 u64 u65 u66 u67 u68 u69 u70 u71 u72 u73 u74 u75 u76 u77 u78 u79 u80 u81 u82 u83 u84 u85:Value):
  SB Try.prog (fun _=>False) (EndM Try.prog fun v w'=>v= .bool true∧Stood W w') (G ((base 7).at ⟨#[.slice a L.length c,.int .i64 ch,.slice b chs.length d,u3,u4,u5,u6,u7,u8,u9,u10,u11,u12,u13,u14,u15,u16,u17,u18,u19,u20,u21,u22,u23,u24,u25,u26,u27,u28,u29,u30,u31,u32,u33,u34,u35,u36,u37,u38,u39,u40,u41,u42,u43,u44,u45,u46,u47,u48,u49,u50,u51,u52,u53,u54,u55,u56,u57,u58,u59,u60,u61,u62,u63,u64,u65,u66,u67,u68,u69,u70,u71,u72,u73,u74,u75,u76,u77,u78,u79,u80,u81,u82,u83,u84,u85],[]⟩ [.code b7]) []) W:=by
 rw[b7_eq]
 refine law_start (q:=14) (a1:=⟨#[.slice a L.length c,.int .i64 ch,.slice b chs.length d,u3,u4,u5,.bool false,u7,u8,u9,u10,u11,u12,u13,u14,u15,u16,u17,u18,u19,u20,u21,u22,u23,u24,u25,u26,u27,u28,u29,u30,u31,u32,u33,u34,u35,u36,u37,u38,u39,u40,u41,u42,u43,u44,u45,u46,u47,u48,u49,u50,u51,u52,u53,u54,u55,u56,u57,u58,u59,u60,u61,u62,u63,u64,u65,u66,u67,u68,u69,u70,u71,u72,u73,u74,u75,u76,u77,u78,u79,u80,u81,u82,u83,u84,u85],[]⟩) (a2:=⟨#[.slice a L.length c,.int .i64 ch,.slice b chs.length d,u3,u4,u5,.bool false,u7,u8,u9,u10,u11,u12,u13,.bool true,.bool false,u16,u17,u18,u19,u20,u21,u22,u23,u24,u25,u26,u27,u28,u29,u30,u31,u32,u33,u34,u35,u36,u37,u38,u39,u40,u41,u42,u43,u44,u45,u46,u47,u48,u49,u50,u51,u52,u53,u54,u55,u56,u57,u58,u59,u60,u61,u62,u63,u64,u65,u66,u67,u68,u69,u70,u71,u72,u73,u74,u75,u76,u77,u78,u79,u80,u81,u82,u83,u84,u85],[]⟩) ⟨_,Try.func7⟩ (show ops7[0]?=some _ from rfl) rfl rfl rfl rfl rfl rfl p7_0 p7_1 (fun u=>wp7_0 u _ _ _ _ _ _ _ _ _ _ _ _ _ _ _ _ _ _ _ _ _ _ _ _ _ _ _ _ _ _ _ _ _ _ _ _ _ _ _ _ _ _ _ _ _ _ _ _ _ _ _ _ _ _ _ _ _ _ _ _ _ _ _ _ _ _ _ _ _ _ _ _ _ _ _ _ _ _ _ _ _ _ _ _ _ _) (fun u=>wp7_1 u _ _ _ _ _ _ _ _ _ _ _ _ _ _ _ _ _ _ _ _ _ _ _ _ _ _ _ _ _ _ _ _ _ _ _ _ _ _ _ _ _ _ _ _ _ _ _ _ _ _ _ _ _ _ _ _ _ _ _ _ _ _ _ _ _ _ _ _ _ _ _ _ _ _ _ _ _ _ _ _ _ _ _ _ _) (fun Shun' w' K=>?_)
 have H:=gait_b Try.prog Shun' (EndM Try.prog fun v w'=>v= .bool true∧Stood W w')
 have hk0:(base 7).kind≠ .early:=by decide
 rw[c7r_eq]
 refine SB.into (H.seq (n:=0) (Kn.out K law_ext fun w₁ K₁=>?_))
 refine K₁.lone (items:=[.code (fstOf c7r)]) (k:=[.code (.seq (.region 5 ops7r false) (sndOf (sndOf c7r)))]) lawOK ⟨_,Try.func7⟩ rfl p7_2 rfl (Q:=fun u=>GdQ 6 u (greatB L=false∧chs.length≤300) fun a'=>∃v16 v17 v18 v19 v20 v21 v22,a'=⟨#[.slice a L.length c,.int .i64 ch,.slice b chs.length d,u3,u4,u5,.bool false,u7,u8,u9,u10,u11,u12,u13,.bool true,.bool false,v16,v17,v18,v19,v20,v21,v22,u23,u24,u25,u26,u27,u28,u29,u30,u31,u32,u33,u34,u35,u36,u37,u38,u39,u40,u41,u42,u43,u44,u45,u46,u47,u48,u49,u50,u51,u52,u53,u54,u55,u56,u57,u58,u59,u60,u61,u62,u63,u64,u65,u66,u67,u68,u69,u70,u71,u72,u73,u74,u75,u76,u77,u78,u79,u80,u81,u82,u83,u84,u85],[]⟩)
  (fun u e a' u' h=>h.2.elim (fun h=>.inr h.1) (fun h=>.inl h.1)) (fun u hu=>ItemsWp.code (wp7_2 u a b c d L ch chs (slT_ext hs hu) hl hl2 _ _ _ _ _ _ _ _ _ _ _ _ _ _ _ _ _ _ _ _ _ _ _ _ _ _ _ _ _ _ _ _ _ _ _ _ _ _ _ _ _ _ _ _ _ _ _ _ _ _ _ _ _ _ _ _ _ _ _ _ _ _ _ _ _ _ _ _ _ _ _ _ _ _ _ _ _ _ _ _ _ _ _)) (fun u a' u' w2 hu h _ gen=>?_) (fun u a' u' w2 todo hu h hd gen=>?_)
 rotate_left
 ·rcases h.2 with⟨_,h6⟩|⟨h0,_⟩
  ·exact sb_ends (gen _ law_ext (hu.trans (Ext.below h.1))) Try.func7 rfl hd rfl (by kernel_rfl) h6
  ·cases h0
 obtain⟨hb,⟨h0,_⟩|⟨_,⟨hg,hc⟩,v16,v17,v18,v19,v20,v21,v22,ha⟩⟩:=h
 ·cases h0
 subst ha
 have K₂:=gen _ law_ext (hu.trans (Ext.below hb))
 clear gen hu hb K K₁ w₁ w'
 refine SB.into (H.seq (n:=4) ?_)
 refine H.region (n:=3) ?_
 rw[show List.range ops7r.size=[0,1,2,3,4,5,6,7,8,9] from rfl]
 refine H.pure (n:=2) _ (show ops7r[0]?=some _ from rfl) (by rfl) hk0 (fun _=>rfl) (fun _=>rfl) ?_
 refine H.pure (n:=1) _ (show ops7r[1]?=some _ from rfl) (by rfl) hk0 (fun _=>rfl) (fun _=>rfl) ?_
 refine H.pure (n:=0) _ (show ops7r[2]?=some _ from rfl) (by rfl) hk0 (fun _=>rfl) (fun _=>rfl) (Kn.out K₂ law_ext fun w₅ K₅=>?_)
 change SB Try.prog Shun' _ (G ((base 7).at ⟨#[.slice a L.length c,.int .i64 ch,.slice b chs.length d,u3,u4,u5,.bool false,u7,u8,u9,u10,u11,u12,u13,.bool true,.bool false,v16,v17,v18,v19,v20,v21,v22,u23,.slice a L.length c,.int .i64 ch,.slice b chs.length d,u27,u28,u29,u30,u31,u32,u33,u34,u35,u36,u37,u38,u39,u40,u41,u42,u43,u44,u45,u46,u47,u48,u49,u50,u51,u52,u53,u54,u55,u56,u57,u58,u59,u60,u61,u62,u63,u64,u65,u66,u67,u68,u69,u70,u71,u72,u73,u74,u75,u76,u77,u78,u79,u80,u81,u82,u83,u84,u85],[]⟩ (.inRegion ops7r [3,4,5,6,7,8,9]::[.code (sndOf (sndOf c7r))])) []) w₅
 obtain⟨gl,gt⟩:=great_small hg
 refine law_run K₅ law_ext (fun u e=>e.size) (pt:=a) (ct:=c) (pc:=b) (cc:=d) (L:=L) (ch:=ch) (chs:=chs) (show ops7r[3]?=some _ from rfl) rfl rfl rfl rfl rfl (fun u e=>slT_ext hs e) (fun u e=>e.sl hp) hl (fun t ht x hx=>by have:=(gt t ht).2 x hx;omega) (fun s' S' Shun₂ w' v0 v1 v2 hv hO K₇=>?_) (fun w' hv K₇=>?_)
 ·exact law_tail K₇ (fun u h=>h.1) Try.func7 rfl (by kernel_rfl) rfl p7_3 (fun u hu=>finN (wp7_ok u a b c d L ch chs s' S' v0 v1 v2 (slT_ext hs hu.1) (hu.1.sl hp) hg hc hv hO hu.2 _ _ _ _ _ _ _ _ _ _ _ _ _ _ _ _ _ _ _ _ _ _ _ _ _ _ _ _ _ _ _ _ _ _ _ _ _ _ _ _ _ _ _ _ _ _ _ _ _ _ _ _ _ _ _ _ _ _ _ _ _ _ _ _ _ _ _ _ _ _ _ _ _ _ _ _ _ _ _ _ _ _))
 ·exact law_tail K₇ (fun u h=>h) Try.func7 rfl (by kernel_rfl) rfl p7_3 (fun u hu=>wp7_no u a b c d L ch chs (slT_ext hs hu) hg hv _ _ _ _ _ _ _ _ _ _ _ _ _ _ _ _ _ _ _ _ _ _ _ _ _ _ _ _ _ _ _ _ _ _ _ _ _ _ _ _ _ _ _ _ _ _ _ _ _ _ _ _ _ _ _ _ _ _ _ _ _ _ _ _ _ _ _ _ _ _ _ _ _ _ _ _ _ _ _ _ _ _)
theorem frame7(x y z:Value): #[x,y,z]++Array.replicate 83 undef= #[x,y,z,undef,undef,undef,undef,undef,undef,undef,undef,undef,undef,undef,undef,undef,undef,undef,undef,undef,undef,undef,undef,undef,undef,undef,undef,undef,undef,undef,undef,undef,undef,undef,undef,undef,undef,undef,undef,undef,undef,undef,undef,undef,undef,undef,undef,undef,undef,undef,undef,undef,undef,undef,undef,undef,undef,undef,undef,undef,undef,undef,undef,undef,undef,undef,undef,undef,undef,undef,undef,undef,undef,undef,undef,undef,undef,undef,undef,undef,undef,undef,undef,undef,undef,undef]:=by kernel_rfl
set_option maxRecDepth 100000 in
theorem driverReplays_walk(W:World)(a:Option Addr)(c:Nat)(L:List TkD)(hs:SlT W a L)(_:∀t∈L,True)(hl:L.length≤maxLen)(ch:Int)(_:IntOk .i64 ch)(b:Option Addr)(d:Nat)(chs:List Int)(hp:Sl (Value.int .i64) W b chs)(_:∀y∈chs,IntOk .i64 y)(hl2:chs.length≤maxLen):
  Law Try.prog 7 #[.slice a L.length c,.int .i64 ch,.slice b chs.length d] W:=by
 have h:=repl_in W a b c d L ch chs hs hp hl hl2 undef undef undef undef undef undef undef undef undef undef undef undef undef undef undef undef undef undef undef undef undef undef undef undef undef undef undef undef undef undef undef undef undef undef undef undef undef undef undef undef undef undef undef undef undef undef undef undef undef undef undef undef undef undef undef undef undef undef undef undef undef undef undef undef undef undef undef undef undef undef undef undef undef undef undef undef undef undef undef undef undef undef undef
 rw[←frame7] at h
 exact sb_law h
end
end Go.Side
