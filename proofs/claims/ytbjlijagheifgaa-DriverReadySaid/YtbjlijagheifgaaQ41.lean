/-
  Texts of Ytbjlijagheifgaa, merged.
-/
import Derived.Test.YtbjlijagheifgaaQ39
import Derived.Test.YtbjlijagheifgaaQ40
set_option linter.unusedSimpArgs false
set_option linter.unusedVariables false
namespace Go.Proofs.Ytbjlijagheifgaa
section
open Go.RowKit
set_option maxHeartbeats 8000000 in
set_option maxRecDepth 100000 in
theorem refValid_any(w:World)(a:Option Addr)(c:Nat)(L:List TkD)(ch:Int)(hs:SlT w a L)(hl:L.length≤maxLen):
  Calls Try.prog 14 #[.slice a L.length c,.int .i64 ch] w (VlPost w (validT ch L)):=by
 have S:=Lib.hid hs
 clear hs
 unfold maxLen at hl
 by_cases h1:L.length≤8
 case neg=>
  have E:Hid (validT ch L=false):=Lib.hid (by simp[validT,h1])
  have g1:decide ((L.length:Int)>8)=true:=by simp;omega
  generalize L.length=n at*
  clear h1
  go_enter Try.func14,Try.ntmps14
  go_wp2_with fail
  go_ret
  exact⟨by rw[E.out];rfl,Below.refl _ _⟩
 have g1:decide ((L.length:Int)>8)=false:=by simp;omega
 by_cases h2:ch<0
 ·have E:Hid (validT ch L=false):=Lib.hid (by have:¬0≤ch:=(by omega);simp[validT,this])
  have g2:decide (ch<0)=true:=by simpa using h2
  clear h2 h1
  go_enter Try.func14,Try.ntmps14
  go_wp2_with fail
  go_ret
  exact⟨by rw[E.out];rfl,Below.refl _ _⟩
 have g2:decide (ch<0)=false:=by simpa using h2
 by_cases h3:ch>8
 ·have E:Hid (validT ch L=false):=Lib.hid (by have:¬ch≤8:=(by omega);simp[validT,this])
  have g3:decide (ch>8)=true:=by simpa using h3
  clear h1 h2 h3
  go_enter Try.func14,Try.ntmps14
  go_wp2_with fail
  go_ret
  exact⟨by rw[E.out];rfl,Below.refl _ _⟩
 have g3:decide (ch>8)=false:=by simpa using h3
 have E:Hid (validT ch L=L.all fun t=>validL ch t.ops):=Lib.hid (by have e1:0≤ch:=(by omega);have e2:ch≤8:=(by omega);simp[validT,h1,e1,e2])
 clear h2 h3
 go_enter Try.func14,Try.ntmps14
 go_wp2_with fail
 go_loopw [5] (fun k wr=>∃i,i≤L.length∧k= .int .i64 (i:Int)∧validTo ch L i=true∧Below w.heap.size w wr) (fun k _=>L.length-(intOf k).toNat)
 case atStart=>exact⟨0,Nat.zero_le _,rfl,rfl,Below.refl _ _⟩
 case round=>
  obtain⟨i,hi,rfl,ht,hb⟩:=hrel
  have HT:=Lib.hid ht
  have HB:=Lib.hid hb
  clear ht hb
  by_cases hlt:i<L.length
  ·obtain⟨t,htk,hok,hcell,hto⟩:=(S.out.reads (Reads.below HB.out)).get hlt
   have hin:(i:Int)<(L.length:Int):=by omega
   by_cases h30:t.ops.length≤30
   case neg=>
    have X:Hid (validT ch L=false):=Lib.hid (by rw[E.out];exact all_false htk.out (by simp[validL,h30]))
    have g4:decide ((t.ops.length:Int)>30)=true:=by simp;omega
    clear h30
    go_wp2_with fail
    go_ret
    exact⟨by rw[X.out];rfl,HB.out⟩
   have g4:decide ((t.ops.length:Int)>30)=false:=by simp;omega
   go_wp2_with fail
   go_loopw [6] (fun k wx=>∃j,j≤t.ops.length∧k= .int .i64 (j:Int)∧goodTo ch t.ops j=true∧Below w.heap.size w wx) (fun k _=>t.ops.length-(intOf k).toNat)
   case atStart=>exact⟨0,Nat.zero_le _,rfl,rfl,HB.out⟩
   case round=>
    clear hcell hok g4
    obtain⟨j,hj,rfl,hg,hb⟩:=hrel
    have HG:=Lib.hid hg
    have HB2:=Lib.hid hb
    clear hg hb
    obtain⟨t',e1,hok',hcell',T2⟩:=(S.out.reads (Reads.below HB2.out)).get hlt
    obtain rfl:t'=t:=Option.some.inj (e1.out.symm.trans htk.out)
    clear e1
    by_cases hjt:j<t'.ops.length
    ·obtain⟨x,hx,hok,c0,c1,c2,c3⟩:=T2.out.row.get hjt
     have hjn:(j:Int)<(t'.ops.length:Int):=by omega
     have FX:=Lib.hid (fine_any wr x ch (T2.out.ops x (List.mem_of_getElem? hx.out)))
     have GS:=Lib.hid (goodTo_succ (ch:=ch) hx.out)
     have GX:Hid (validO ch x=false→validT ch L=false):=Lib.hid fun h=>by
      rw[E.out];exact all_false htk.out (by unfold validL;rw[all_false hx.out h,Bool.and_false])
     clear hx T2
     obtain⟨kd,cn,vl,ea,ec,el⟩:=x
     unfold OpD.agg OpD.ev at FX
     dsimp only at FX c0 c1 c2 c3
     cases hv:validO ch ⟨kd,cn,vl,ea,ec,el⟩ with
     |true=>
      rw[hv] at FX
      have X:Hid (goodTo ch t'.ops (j+1)=true):=Lib.hid (by rw[GS.out,HG.out,hv];rfl)
      clear hv GS GX
      go_wp2_with fail
      refine FX.out.mono ?_
      rintro e w9 ⟨rfl,hb9⟩
      have B9:=Lib.hid (HB2.out.trans (hb9.mono HB2.out.size))
      clear hb9
      go_wp2_with fail
      go_roundw
      case rel=>exact⟨j+1,by omega,by go_num,X.out,B9.out⟩
      case measure=>simp[intOf];omega
     |false=>
      rw[hv] at FX
      have X:=Lib.hid (GX.out hv)
      clear hv GS GX
      go_wp2_with fail
      refine FX.out.mono ?_
      rintro e w9 ⟨rfl,hb9⟩
      have B9:=Lib.hid (HB2.out.trans (hb9.mono HB2.out.size))
      clear hb9
      go_wp2_with fail
      go_ret
      exact⟨by rw[X.out];rfl,B9.out⟩
    ·obtain rfl:j=t'.ops.length:=by omega
     have X:Hid (validTo ch L (i+1)=true):=Lib.hid (by
      rw[validTo_succ htk.out,HT.out]
      unfold validL
      have h:=HG.out
      unfold goodTo at h
      rw[List.take_length] at h
      rw[h];simp[h30])
     go_wp2_with fail
     go_roundw
     case rel=>exact⟨i+1,by omega,by go_num,X.out,HB2.out⟩
     case measure=>simp[intOf];omega
  ·obtain rfl:i=L.length:=by omega
   have X:Hid (validT ch L=true):=Lib.hid (by
    rw[E.out]
    have h:=HT.out
    unfold validTo at h
    rwa[List.take_length] at h)
   go_wp2_with fail
   go_ret
   exact⟨by rw[X.out];rfl,HB.out⟩
end
end Go.Proofs.Ytbjlijagheifgaa
namespace Go.Side
section
open Go Go.Conc Go.ConcN Go.Proofs Go.RowKit Go.Proofs.Ytbjlijagheifgaa
noncomputable def b6:Code:=Try.f6.body.getD .skip
noncomputable def ops6:Array Oper:=opsR (fstOf (fstOf (sndOf b6)))
theorem b6_eq:b6= .seq (fstOf b6) (.seq (.seq (.region 1 ops6 false) (sndOf (fstOf (sndOf b6)))) (sndOf (sndOf b6))):=by rfl
theorem p6_0:([Item.code (fstOf b6)].all (itemPlain false none Try.prog lawFns))=true:=by kernel_rfl
theorem p6_1:([Item.inRegion ops6 [1],Item.code (sndOf (fstOf (sndOf b6)))].all (itemPlain false none Try.prog lawFns))=true:=by kernel_rfl
theorem p6_2:([Item.code (sndOf (sndOf b6))].all (itemPlain false none Try.prog lawFns))=true:=by kernel_rfl
set_option maxRecDepth 100000 in
set_option maxHeartbeats 4000000 in
theorem wp6_0(u:World)(u0 u1 u2 u3 u4 u5 u6 u7 u8 u9 u10 u11 u12 u13 u14 u15 u16 u17 u18 u19 u20 u21 u22 u23 u24 u25 u26 u27 u28 u29 u30 u31 u32 u33 u34 u35 u36 u37 u38 u39 u40 u41 u42 u43 u44 u45 u46 u47 u48 u49 u50 u51 u52 u53 u54 u55 u56 u57 u58 u59 u60 u61 u62 u63 u64 u65 u66 u67 u68 u69 u70 u71:Value):(fstOf b6).wp Try.prog (fun e a' u'=>e= .normal∧a'=⟨#[u0,u1,u2,u3,u4,u5,.bool false,u7,u8,u9,u10,u11,u12,u13,u14,u15,u16,u17,u18,u19,u20,u21,u22,u23,u24,u25,u26,u27,u28,u29,u30,u31,u32,u33,u34,u35,u36,u37,u38,u39,u40,u41,u42,u43,u44,u45,u46,u47,u48,u49,u50,u51,u52,u53,u54,u55,u56,u57,u58,u59,u60,u61,u62,u63,u64,u65,u66,u67,u68,u69,u70,u71],[]⟩∧u'=u) ⟨#[u0,u1,u2,u3,u4,u5,u6,u7,u8,u9,u10,u11,u12,u13,u14,u15,u16,u17,u18,u19,u20,u21,u22,u23,u24,u25,u26,u27,u28,u29,u30,u31,u32,u33,u34,u35,u36,u37,u38,u39,u40,u41,u42,u43,u44,u45,u46,u47,u48,u49,u50,u51,u52,u53,u54,u55,u56,u57,u58,u59,u60,u61,u62,u63,u64,u65,u66,u67,u68,u69,u70,u71],[]⟩ u:=by
 unfold b6
 conv in Option.getD _ _=>whnf
 dsimp only[fstOf]
 go_wp2_with fail
set_option maxRecDepth 100000 in
set_option maxHeartbeats 4000000 in
theorem wp6_1(u:World)(u0 u1 u2 u3 u4 u5 u6 u7 u8 u9 u11 u12 u13 u14 u15 u16 u17 u18 u19 u20 u21 u22 u23 u24 u25 u26 u27 u28 u29 u30 u31 u32 u33 u34 u35 u36 u37 u38 u39 u40 u41 u42 u43 u44 u45 u46 u47 u48 u49 u50 u51 u52 u53 u54 u55 u56 u57 u58 u59 u60 u61 u62 u63 u64 u65 u66 u67 u68 u69 u70 u71:Value):ItemsWp Try.prog [.inRegion ops6 [1],.code (sndOf (fstOf (sndOf b6)))] (fun e a' u'=>e= .normal∧a'=⟨#[u0,u1,u2,u3,u4,u5,u6,u7,u8,u9,.bool true,.bool false,u12,u13,u14,u15,u16,u17,u18,u19,u20,u21,u22,u23,u24,u25,u26,u27,u28,u29,u30,u31,u32,u33,u34,u35,u36,u37,u38,u39,u40,u41,u42,u43,u44,u45,u46,u47,u48,u49,u50,u51,u52,u53,u54,u55,u56,u57,u58,u59,u60,u61,u62,u63,u64,u65,u66,u67,u68,u69,u70,u71],[]⟩∧u'=u) ⟨#[u0,u1,u2,u3,u4,u5,u6,u7,u8,u9,.bool true,u11,u12,u13,u14,u15,u16,u17,u18,u19,u20,u21,u22,u23,u24,u25,u26,u27,u28,u29,u30,u31,u32,u33,u34,u35,u36,u37,u38,u39,u40,u41,u42,u43,u44,u45,u46,u47,u48,u49,u50,u51,u52,u53,u54,u55,u56,u57,u58,u59,u60,u61,u62,u63,u64,u65,u66,u67,u68,u69,u70,u71],[]⟩ u:=by
 refine ItemsWp.then (k:=1) (l:=ops6.toList.drop 1) rfl rfl fun K hK=>?_
 conv in(occs:= *) ops6=>
  all_goals
   unfold ops6 opsR b6
   whnf
 unfold b6 at hK
 conv at hK in Option.getD _ _=>whnf
 dsimp only[sndOf,fstOf] at hK
 simp only[List.drop_succ_cons,List.drop_zero]
 go_wp2_with fail
theorem validT_ops{ch:Int}{Q L:List TkD}(h:Q.map TkD.ops=L.map TkD.ops):validT ch Q=validT ch L:=by
 have e:∀L:List TkD,(L.all fun t=>validL ch t.ops)=(L.map TkD.ops).all (validL ch):=fun L=>by rw[List.all_map];rfl
 have hl:Q.length=L.length:=by simpa using congrArg List.length h
 unfold validT
 rw[e,e,h,hl]
theorem offAt_ops{Q L:List TkD}(h:Q.map TkD.ops=L.map TkD.ops)(p:List Nat):offAt Q p=offAt L p:=by
 funext k
 have e:∀L:List TkD,offAt L p k=((L.map TkD.ops)[k]?).bind fun o=>(p[k]?).bind fun i=>o[i]?:=fun L=>by
  unfold offAt
  rw[List.getElem?_map]
  cases L[k]?<;>rfl
 rw[e,e,h]
def atTo(L:List TkD)(at_:List Int)(n:Nat):Bool:=(List.range n).all fun i=>match L[i]?,at_[i]? with
 |some t,some p=>decide (0≤p)&&decide (p≤t.ops.length)
 |_,_=>false
theorem atTo_succ{L:List TkD}{at_:List Int}{i:Nat}{t:TkD}{p:Int}(h:L[i]?=some t)(k:at_[i]?=some p):atTo L at_ (i+1)=(atTo L at_ i&&(decide (0≤p)&&decide (p≤t.ops.length))):=by
 simp[atTo,List.range_succ,h,k]
theorem atTo_ops{Q L:List TkD}(h:Q.map TkD.ops=L.map TkD.ops)(at_:List Int)(n:Nat):atTo Q at_ n=atTo L at_ n:=by
 have e:∀L:List TkD,atTo L at_ n=(List.range n).all fun i=>match (L.map TkD.ops)[i]?,at_[i]? with
  |some t,some p=>decide (0≤p)&&decide (p≤t.length)
  |_,_=>false:=fun L=>by
  unfold atTo
  congr 1
  funext i
  rw[List.getElem?_map]
  cases L[i]?<;>cases at_[i]?<;>rfl
 rw[e,e,h]
theorem ops_ok{w:World}{a:Option Addr}{Q L:List TkD}(hs:SlT w a L)(hQ:Q.map TkD.ops=L.map TkD.ops):∀t∈Q,∀x∈t.ops,OpOk w x:=fun t ht x hx=>by
 have h:t.ops∈L.map TkD.ops:=by rw[←hQ];exact List.mem_map_of_mem ht
 obtain⟨t',h1,h2⟩:=List.mem_map.1 h
 obtain⟨j,hj⟩:=List.getElem?_of_mem h1
 exact(hs j t' hj).2.2.ops x (by rw[h2];exact hx)
def RdRel(w:World)(n:Nat)(f:Nat→Bool)(v k:Value)(wr:World):Prop:=∃i,i≤n∧k= .int .i64 (i:Int)∧v= .bool (f i)∧Qt w wr
theorem srV_own{w:World}{base:Nat}{v:Value}{S:List StepP}{T:TypeId}(h:w.ownsRow base T 4 v S.length (flC stC S)):StV w v S:=by
 obtain⟨a,c,rfl,_⟩:=own_shape h
 refine⟨a,c,rfl,fun j s hj=>⟨(ownC_cell stC_len (by decide) h hj (k:=0) (by decide) rfl).1,fun i x hx=>?_⟩⟩
 have hi:i<4:=by
  rcases Nat.lt_or_ge i 4 with h|h
  ·exact h
  ·rw[List.getElem?_eq_none (by simpa[stC] using h)] at hx;cases hx
 exact(ownC_cell stC_len (by decide) h hj hi hx).2
set_option maxRecDepth 100000 in
set_option maxHeartbeats 8000000 in
theorem wp6_2(u:World)(a b:Option Addr)(c d:Nat)(L:List TkD)(ch:Int)(at_:List Int)(hs:SlT u a L)(hp:Sl (Value.int .i64) u b at_)(hl:L.length≤maxLen)(hl2:at_.length≤maxLen)(u3 u4 u5 u6 u7 u8 u9 u10 u11 u12 u13 u14 u15 u16 u17 u18 u19 u20 u21 u22 u23 u24 u25 u26 u27 u28 u29 u30 u31 u32 u33 u34 u35 u36 u37 u38 u39 u40 u41 u42 u43 u44 u45 u46 u47 u48 u49 u50 u51 u52 u53 u54 u55 u56 u57 u58 u59 u60 u61 u62 u63 u64 u65 u66 u67 u68 u69 u70 u71:Value):
  (sndOf (sndOf b6)).wp Try.prog (FinT 6 u) ⟨#[.slice a L.length c,.int .i64 ch,.slice b at_.length d,u3,u4,u5,u6,u7,u8,u9,u10,u11,u12,u13,u14,u15,u16,u17,u18,u19,u20,u21,u22,u23,u24,u25,u26,u27,u28,u29,u30,u31,u32,u33,u34,u35,u36,u37,u38,u39,u40,u41,u42,u43,u44,u45,u46,u47,u48,u49,u50,u51,u52,u53,u54,u55,u56,u57,u58,u59,u60,u61,u62,u63,u64,u65,u66,u67,u68,u69,u70,u71],[]⟩ u:=by
 have S:=Lib.hid hs
 have HP:=Lib.hid hp
 have G:=Lib.hid (great_any u a c L hs hl)
 clear hs hp
 unfold maxLen at hl hl2
 unfold b6
 conv in Option.getD _ _=>whnf
 dsimp only[sndOf]
 go_wp2_with fail
 refine G.out.mono ?_
 rintro e w1 ⟨rfl,hb⟩
 have B1:=Lib.hid hb
 clear G hb
 cases hg:greatB L with
 |true=>
  clear S HP hg
  go_wp2_with fail
  exact⟨rfl,rfl,B1.out⟩
 |false=>
 obtain⟨gl,gt⟩:=great_small hg
 have GT:=Lib.hid gt
 clear hg gt
 by_cases h60:60<at_.length
 ·have i60:(60:Int)<(at_.length:Int):=by omega
  clear S HP h60
  go_wp2_with fail
  exact⟨rfl,rfl,B1.out⟩
 have i60:¬(60:Int)<(at_.length:Int):=by omega
 have S1:=Lib.hid (S.out.reads (Reads.below B1.out))
 have P1:=Lib.hid (HP.out.reads (Reads.below B1.out))
 have RD:=Lib.hid (ready_any w1 a b c d L ch at_ S1.out P1.out (by unfold maxLen;omega) (by unfold maxLen;omega) fun t ht x hx=>by have:=(GT.out t ht).2 x hx;omega)
 go_wp2_with fail
 refine RD.out.mono ?_
 rintro e w2 ⟨v,rfl,hv,hb⟩
 obtain⟨la,lc,rfl,hls⟩:=hv
 have B2:=Lib.hid (B1.out.trans (hb.mono B1.out.size))
 have HV:=Lib.hid hls
 clear hb hls RD S1 P1 B1
 have S2:=Lib.hid (S.out.reads (Reads.below B2.out))
 have PN:=Lib.hid (plain_any w2 a c L S2.out gl fun t ht=>(GT.out t ht).1)
 go_wp2_with fail
 refine PN.out.mono ?_
 rintro e w3 ⟨v,Q,rfl,hP,hQ,hb⟩
 have B3:=Lib.hid (B2.out.trans (hb.mono B2.out.size))
 have HV3:=Lib.hid (HV.out.reads (Reads.below hb))
 have S3:=Lib.hid (S.out.reads (Reads.below B3.out))
 have P3:=Lib.hid (HP.out.reads (Reads.below B3.out))
 obtain⟨qa,qc,rfl,hqs⟩:=hP.slT (ops_ok S3.out hQ)
 have hql:Q.length=L.length:=by simpa using congrArg List.length hQ
 have VD:Hid (Calls Try.prog 14 #[.slice qa Q.length qc,.int .i64 ch] w3 (VlPost w3 (validT ch L))):=Lib.hid (by rw[←validT_ops hQ];exact refValid_any w3 qa qc Q ch hqs (by unfold maxLen;omega))
 have HQL:=Lib.hid hql
 clear HV PN S2 B2 hb hP hQ hqs hql
 have RE:Hid (readyD ch L at_=if(validT ch L&&(decide (at_.length=L.length)&&atTo L at_ L.length))=true then possD L.length (offAt L (at_.map Int.toNat)) else[]):=Lib.hid rfl
 have V8:Hid (validT ch L=true→L.length≤8):=Lib.hid fun h=>by
  unfold validT at h
  simp only[Bool.and_eq_true,decide_eq_true_eq] at h
  exact h.1
 generalize validT ch L=vt at*
 go_wp2_with fail
 refine VD.out.mono ?_
 rintro e w4 ⟨rfl,hb⟩
 have B4:=Lib.hid (B3.out.trans (hb.mono B3.out.size))
 have HV4:=Lib.hid (HV3.out.reads (Reads.below hb))
 have S4:=Lib.hid (S.out.reads (Reads.below B4.out))
 have P4:=Lib.hid (HP.out.reads (Reads.below B4.out))
 clear VD HV3 S3 P3 B3 hb
 clear w3 w2 w1
 generalize readyD ch L at_=R at*
 have QF:Hid (∀wx,Qt w4 wx→(SlSt wx la R∧Below u.heap.size u wx)∧SlT wx a L∧Sl (Value.int .i64) wx b at_):=Lib.hid fun wx q=>⟨⟨HV4.out.reads q.reads,B4.out.trans (q.below _)⟩,S4.out.reads q.reads,P4.out.reads q.reads⟩
 clear HV4 S4 P4 B4
 obtain⟨n,hn⟩:∃n,at_.length=n:=⟨_,rfl⟩
 have HN:=Lib.hid hn
 rw[hn] at hl2 h60 i60 RE⊢
 clear hn
 by_cases hv:vt=true∧n=L.length
 ·obtain⟨rfl,hnl⟩:=hv
  have HNL:=Lib.hid hnl
  have l8:=V8.out rfl
  have RE':Hid (R=if atTo L at_ n=true then possD L.length (offAt L (at_.map Int.toNat)) else[]):=Lib.hid (by rw[RE.out];simp[HNL.out])
  have hnb:((n:Int)==(L.length:Int))=true:=by simp[hnl]
  have n8:n≤8:=by omega
  clear RE V8 hnl
  go_wp2_with fail
  go_loopw [8,36] (fun v k wr=>RdRel w4 n (atTo L at_) v k wr) (fun _ k _=>n-(intOf k).toNat)
  case atStart=>exact⟨0,Nat.zero_le _,rfl,rfl,Qt.refl _⟩
  case round=>
   obtain⟨i,hi,rfl,rfl,hq⟩:=hrel
   have HQ:=Lib.hid hq
   obtain⟨⟨h1,h2⟩,h3,h4⟩:=QF.out wr hq
   have HV:=Lib.hid h1
   have BU:=Lib.hid h2
   have SU:=Lib.hid h3
   have PU:=Lib.hid h4
   clear hq h1 h2 h3 h4
   by_cases hlt:i<n
   ·have hin:(i:Int)<(n:Int):=by omega
    have hil:i<L.length:=by have:=HNL.out;omega
    obtain⟨t,ht,okt,c0,TO⟩:=SU.out.get (k:=i) (by rw[←HNL.out];exact hlt)
    obtain⟨p,hp,okp,cp⟩:=PU.out.get (k:=i) (by rw[HN.out];exact hlt)
    have TS:=Lib.hid (atTo_succ ht.out hp.out)
    cases hat:atTo L at_ i with
    |false=>
     have X:Hid (atTo L at_ (i+1)=false):=Lib.hid (by rw[TS.out,hat];rfl)
     clear hat TS
     go_wp2_with fail
     go_quiet (fail)
     go_wp2_with fail
     go_roundw
     case rel=>exact⟨i+1,by omega,by go_num,by rw[X.out],by exact HQ.out.drewN _⟩
     case measure=>simp[intOf];omega
    |true=>
     by_cases h0:0≤p
     ·by_cases h1:p≤(t.ops.length:Int)
      ·have X:Hid (atTo L at_ (i+1)=true):=Lib.hid (by rw[TS.out,hat];simp[h0,h1])
       have g0:decide (p≥0)=true:=by simpa using h0
       clear hat TS h0
       go_wp2_with fail
       go_quiet (fail)
       go_wp2_with fail
       go_roundw
       case rel=>exact⟨i+1,by omega,by go_num,by rw[X.out],by exact HQ.out.drewN _⟩
       case measure=>simp[intOf];omega
      ·have X:Hid (atTo L at_ (i+1)=false):=Lib.hid (by rw[TS.out,hat];simp;omega)
       have g0:decide (p≥0)=true:=by simpa using h0
       have g1:decide (p≤(t.ops.length:Int))=false:=by simpa using h1
       clear hat TS h0
       go_wp2_with fail
       go_quiet (fail)
       go_wp2_with fail
       go_roundw
       case rel=>exact⟨i+1,by omega,by go_num,by rw[X.out],by exact HQ.out.drewN _⟩
       case measure=>simp[intOf];omega
     ·have X:Hid (atTo L at_ (i+1)=false):=Lib.hid (by rw[TS.out,hat];simp;omega)
      have g0:decide (p≥0)=false:=by simpa using h0
      clear hat TS h0
      go_wp2_with fail
      go_quiet (fail)
      go_wp2_with fail
      go_roundw
      case rel=>exact⟨i+1,by omega,by go_num,by rw[X.out],by exact HQ.out.drewN _⟩
      case measure=>simp[intOf];omega
   ·obtain rfl:i=n:=by omega
    cases hat:atTo L at_ i with
    |false=>
     obtain rfl:R=[]:=by rw[RE'.out,hat];rfl
     clear hat RE'
     go_wp2_with fail
     exact⟨rfl,rfl,BU.out⟩
    |true=>
     have PN:=Lib.hid (plain_any wr a c L SU.out gl fun t ht=>(GT.out t ht).1)
     have RP:Hid (R=possD L.length (offAt L (at_.map Int.toNat))):=Lib.hid (by rw[RE'.out,hat];rfl)
     have HAT:=Lib.hid hat
     clear hat RE'
     go_wp2_with fail
     refine PN.out.mono ?_
     rintro e w5 ⟨v,Q2,rfl,hP,hQ,hb⟩
     have BU5:=Lib.hid (BU.out.trans (hb.mono BU.out.size))
     have HV5:=Lib.hid (HV.out.reads (Reads.below hb))
     have PU5:=Lib.hid (PU.out.reads (Reads.below hb))
     obtain⟨ra,rc,rfl,hqs⟩:=hP.slT (ops_ok (SU.out.reads (Reads.below hb)) hQ)
     have hql2:Q2.length=L.length:=by simpa using congrArg List.length hQ
     have RR:Hid (Calls Try.prog 23 #[.slice ra Q2.length rc,.slice b i d] w5 (SrPost w5 R)):=Lib.hid (by
      have h1:Q2.length≤8:=by omega
      have h2:at_.length=Q2.length:=HN.out.trans (HNL.out.trans hql2.symm)
      have h3:atOk Q2 at_=true:=by
       show atTo Q2 at_ Q2.length=true
       rw[atTo_ops hQ,hql2]
       exact HNL.out▸HAT.out
      have h:=refReady_any w5 ra b rc d Q2 at_ hqs PU5.out h1 h2 h3
      have e:possD Q2.length (offAt Q2 (at_.map Int.toNat))=R:=by rw[offAt_ops hQ,hql2];exact RP.out.symm
      rw[e,HN.out] at h
      exact h)
     clear PN HV PU SU BU hb hP hQ hqs hql2
     go_wp2_with fail
     refine RR.out.mono ?_
     rintro e w6 ⟨v,rfl,ho,hb⟩
     have BU6:=Lib.hid (BU5.out.trans (hb.mono BU5.out.size))
     have HV6:=Lib.hid (HV5.out.reads (Reads.below hb))
     have RL:Hid (R.length≤100000):=Lib.hid (by
      rw[RP.out]
      have:=possDU_len L.length (offAt L (at_.map Int.toNat)) L.length
      have e:possDU L.length (offAt L (at_.map Int.toNat)) L.length=possD L.length (offAt L (at_.map Int.toNat)):=rfl
      rw[e] at this
      have:L.length*L.length≤8*8:=Nat.mul_le_mul l8 l8
      omega)
     obtain⟨sa,sc,rfl,hs6⟩:=srV_own ho
     have SP:=Lib.hid (steps_any w6 sa sc R hs6 RL.out)
     clear RR HV5 PU5 BU5 hb ho hs6
     go_wp2_with fail
     refine SP.out.mono ?_
     rintro e w7 ⟨v,rfl,⟨ta,tc,rfl,ht⟩,hb⟩
     have BU7:=Lib.hid (BU6.out.trans (hb.mono BU6.out.size))
     have EQ:=Lib.hid (equalSt_any w7 la ta lc tc R R (HV6.out.reads (Reads.below hb)) ht (by have:=RL.out;unfold maxLen;omega))
     clear SP HV6 BU6 hb ht
     go_wp2_with fail
     refine EQ.out.mono ?_
     rintro e w8 ⟨bb,rfl,hbb,hq⟩
     obtain rfl:bb=true:=hbb.2 rfl
     have BU8:=Lib.hid (BU7.out.trans (hq.below _))
     clear EQ hbb hq BU7
     go_wp2_with fail
     exact⟨rfl,rfl,BU8.out⟩
 ·have hR:R=[]:=by rw[RE.out,if_neg];intro h;simp only[Bool.and_eq_true,decide_eq_true_eq] at h;exact hv ⟨h.1,h.2.1⟩
  subst hR
  have hc:vt=false∨vt=true∧((n:Int)==(L.length:Int))=false:=by
   cases vt
   ·exact .inl rfl
   ·refine .inr ⟨rfl,?_⟩
    simp only[beq_eq_false_iff_ne]
    intro h
    exact hv ⟨rfl,by omega⟩
  clear hv RE V8
  rcases hc with rfl|⟨rfl,hne⟩
  all_goals
   go_wp2_with fail
   go_loopw [8,36] (fun v k wr=>RdRel w4 n (fun _=>false) v k wr) (fun _ k _=>n-(intOf k).toNat)
   case atStart=>exact⟨0,Nat.zero_le _,rfl,rfl,Qt.refl _⟩
   case round=>
    obtain⟨i,hi,rfl,rfl,hq⟩:=hrel
    have HQ:=Lib.hid hq
    obtain⟨⟨-,h2⟩, -, -⟩:=QF.out wr hq
    have BU:=Lib.hid h2
    clear hq h2
    by_cases hlt:i<n
    ·have hin:(i:Int)<(n:Int):=by omega
     go_wp2_with fail
     go_quiet (fail)
     go_wp2_with fail
     go_roundw
     case rel=>exact⟨i+1,by omega,by go_num,rfl,by exact HQ.out.drewN _⟩
     case measure=>simp[intOf];omega
    ·obtain rfl:i=n:=by omega
     go_wp2_with fail
     exact⟨rfl,rfl,BU.out⟩
set_option maxRecDepth 100000 in
set_option maxHeartbeats 4000000 in
theorem ready_in(W:World)(a b:Option Addr)(c d:Nat)(L:List TkD)(ch:Int)(at_:List Int)(hs:SlT W a L)(hp:Sl (Value.int .i64) W b at_)(hl:L.length≤maxLen)(hl2:at_.length≤maxLen)(u3 u4 u5 u6 u7 u8 u9 u10 u11 u12 u13 u14 u15 u16 u17 u18 u19 u20 u21 u22 u23 u24 u25 u26 u27 u28 u29 u30 u31 u32 u33 u34 u35 u36 u37 u38 u39 u40 u41 u42 u43 u44 u45 u46 u47 u48 u49 u50 u51 u52 u53 u54 u55 u56 u57 u58 u59 u60 u61 u62 u63 u64 u65 u66 u67 u68 u69 u70 u71:Value):
  SB Try.prog (fun _=>False) (EndM Try.prog fun v w'=>v= .bool true∧Stood W w') (G ((base 6).at ⟨#[.slice a L.length c,.int .i64 ch,.slice b at_.length d,u3,u4,u5,u6,u7,u8,u9,u10,u11,u12,u13,u14,u15,u16,u17,u18,u19,u20,u21,u22,u23,u24,u25,u26,u27,u28,u29,u30,u31,u32,u33,u34,u35,u36,u37,u38,u39,u40,u41,u42,u43,u44,u45,u46,u47,u48,u49,u50,u51,u52,u53,u54,u55,u56,u57,u58,u59,u60,u61,u62,u63,u64,u65,u66,u67,u68,u69,u70,u71],[]⟩ [.code b6]) []) W:=by
 rw[b6_eq]
 refine law_start (q:=10) (a1:=⟨#[.slice a L.length c,.int .i64 ch,.slice b at_.length d,u3,u4,u5,.bool false,u7,u8,u9,u10,u11,u12,u13,u14,u15,u16,u17,u18,u19,u20,u21,u22,u23,u24,u25,u26,u27,u28,u29,u30,u31,u32,u33,u34,u35,u36,u37,u38,u39,u40,u41,u42,u43,u44,u45,u46,u47,u48,u49,u50,u51,u52,u53,u54,u55,u56,u57,u58,u59,u60,u61,u62,u63,u64,u65,u66,u67,u68,u69,u70,u71],[]⟩) (a2:=⟨#[.slice a L.length c,.int .i64 ch,.slice b at_.length d,u3,u4,u5,.bool false,u7,u8,u9,.bool true,.bool false,u12,u13,u14,u15,u16,u17,u18,u19,u20,u21,u22,u23,u24,u25,u26,u27,u28,u29,u30,u31,u32,u33,u34,u35,u36,u37,u38,u39,u40,u41,u42,u43,u44,u45,u46,u47,u48,u49,u50,u51,u52,u53,u54,u55,u56,u57,u58,u59,u60,u61,u62,u63,u64,u65,u66,u67,u68,u69,u70,u71],[]⟩) ⟨_,Try.func6⟩ (show ops6[0]?=some _ from rfl) rfl rfl rfl rfl rfl rfl p6_0 p6_1 (fun u=>wp6_0 u _ _ _ _ _ _ _ _ _ _ _ _ _ _ _ _ _ _ _ _ _ _ _ _ _ _ _ _ _ _ _ _ _ _ _ _ _ _ _ _ _ _ _ _ _ _ _ _ _ _ _ _ _ _ _ _ _ _ _ _ _ _ _ _ _ _ _ _ _ _ _ _) (fun u=>wp6_1 u _ _ _ _ _ _ _ _ _ _ _ _ _ _ _ _ _ _ _ _ _ _ _ _ _ _ _ _ _ _ _ _ _ _ _ _ _ _ _ _ _ _ _ _ _ _ _ _ _ _ _ _ _ _ _ _ _ _ _ _ _ _ _ _ _ _ _ _ _ _ _) (fun Shun' w' K=>?_)
 exact law_tail K (fun u h=>h) Try.func6 rfl (by kernel_rfl) rfl p6_2 (fun u hu=>ItemsWp.code (wp6_2 u a b c d L ch at_ (slT_ext hs hu) (hu.sl hp) hl hl2 _ _ _ _ _ _ _ _ _ _ _ _ _ _ _ _ _ _ _ _ _ _ _ _ _ _ _ _ _ _ _ _ _ _ _ _ _ _ _ _ _ _ _ _ _ _ _ _ _ _ _ _ _ _ _ _ _ _ _ _ _ _ _ _ _ _ _ _ _))
theorem frame6(x y z:Value): #[x,y,z]++Array.replicate 69 undef= #[x,y,z,undef,undef,undef,undef,undef,undef,undef,undef,undef,undef,undef,undef,undef,undef,undef,undef,undef,undef,undef,undef,undef,undef,undef,undef,undef,undef,undef,undef,undef,undef,undef,undef,undef,undef,undef,undef,undef,undef,undef,undef,undef,undef,undef,undef,undef,undef,undef,undef,undef,undef,undef,undef,undef,undef,undef,undef,undef,undef,undef,undef,undef,undef,undef,undef,undef,undef,undef,undef,undef]:=by kernel_rfl
set_option maxRecDepth 100000 in
theorem driverReady_walk(W:World)(a:Option Addr)(c:Nat)(L:List TkD)(hs:SlT W a L)(_:∀t∈L,True)(hl:L.length≤maxLen)(ch:Int)(_:IntOk .i64 ch)(b:Option Addr)(d:Nat)(at_:List Int)(hp:Sl (Value.int .i64) W b at_)(_:∀y∈at_,IntOk .i64 y)(hl2:at_.length≤maxLen):
  Law Try.prog 6 #[.slice a L.length c,.int .i64 ch,.slice b at_.length d] W:=by
 have h:=ready_in W a b c d L ch at_ hs hp hl hl2 undef undef undef undef undef undef undef undef undef undef undef undef undef undef undef undef undef undef undef undef undef undef undef undef undef undef undef undef undef undef undef undef undef undef undef undef undef undef undef undef undef undef undef undef undef undef undef undef undef undef undef undef undef undef undef undef undef undef undef undef undef undef undef undef undef undef undef undef undef
 rw[←frame6] at h
 exact sb_law h
end
end Go.Side
