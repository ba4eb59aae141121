/-
  Texts of Ytbjlijagheifgaa, merged.
-/
import Derived.Test.YtbjlijagheifgaaO41
import Derived.Test.YtbjlijagheifgaaO39
import Derived.Test.YtbjlijagheifgaaO40
set_option linter.unusedSimpArgs false
set_option linter.unusedVariables false
namespace Go.Side
section
open Go Go.Conc Go.ConcN Go.Proofs Go.RowKit Go.Proofs.Ytbjlijagheifgaa
noncomputable def b8:Code:=Try.f8.body.getD .skip
noncomputable def ops8:Array Oper:=opsR (fstOf (fstOf (sndOf b8)))
noncomputable def c8r:Code:=sndOf (sndOf b8)
noncomputable def ops8r:Array Oper:=opsR (fstOf (sndOf c8r))
theorem b8_eq:b8= .seq (fstOf b8) (.seq (.seq (.region 1 ops8 false) (sndOf (fstOf (sndOf b8)))) c8r):=by rfl
theorem c8r_eq:c8r= .seq (fstOf c8r) (.seq (.region 5 ops8r false) (sndOf (sndOf c8r))):=by rfl
theorem p8_0:([Item.code (fstOf b8)].all (itemPlain false none Try.prog lawFns))=true:=by kernel_rfl
theorem p8_1:([Item.inRegion ops8 [1],Item.code (sndOf (fstOf (sndOf b8)))].all (itemPlain false none Try.prog lawFns))=true:=by kernel_rfl
theorem p8_2:([Item.code (fstOf c8r)].all (itemPlain false none Try.prog lawFns))=true:=by kernel_rfl
theorem p8_3:([Item.inRegion ops8r [4,5,6,7,8,9],Item.code (sndOf (sndOf c8r))].all (itemPlain false none Try.prog lawFns))=true:=by kernel_rfl
set_option maxRecDepth 100000 in
set_option maxHeartbeats 4000000 in
theorem wp8_0(u:World)(u0 u1 u2 u3 u4 u5 u6 u7 u8 u9 u10 u11 u12 u13 u14 u15 u16 u17 u18 u19 u20 u21 u22 u23 u24 u25 u26 u27 u28 u29 u30 u31 u32 u33 u34 u35 u36 u37 u38 u39 u40 u41 u42 u43 u44 u45 u46 u47 u48 u49 u50 u51 u52 u53 u54 u55 u56 u57 u58 u59 u60 u61 u62 u63 u64 u65 u66 u67 u68 u69 u70 u71 u72 u73 u74 u75 u76 u77 u78 u79 u80 u81 u82 u83 u84 u85 u86 u87 u88 u89 u90 u91 u92 u93 u94 u95 u96 u97 u98 u99 u100 u101 u102 u103 u104 u105 u106 u107 u108 u109 u110 u111 u112 u113 u114 u115 u116 u117 u118 u119 u120 u121 u122 u123 u124 u125 u126 u127 u128 u129 u130 u131 u132:Value):(fstOf b8).wp Try.prog (fun e a' u'=>e= .normal∧a'=⟨#[u0,u1,u2,u3,u4,u5,.bool false,u7,u8,u9,u10,u11,u12,u13,u14,u15,u16,u17,u18,u19,u20,u21,u22,u23,u24,u25,u26,u27,u28,u29,u30,u31,u32,u33,u34,u35,u36,u37,u38,u39,u40,u41,u42,u43,u44,u45,u46,u47,u48,u49,u50,u51,u52,u53,u54,u55,u56,u57,u58,u59,u60,u61,u62,u63,u64,u65,u66,u67,u68,u69,u70,u71,u72,u73,u74,u75,u76,u77,u78,u79,u80,u81,u82,u83,u84,u85,u86,u87,u88,u89,u90,u91,u92,u93,u94,u95,u96,u97,u98,u99,u100,u101,u102,u103,u104,u105,u106,u107,u108,u109,u110,u111,u112,u113,u114,u115,u116,u117,u118,u119,u120,u121,u122,u123,u124,u125,u126,u127,u128,u129,u130,u131,u132],[]⟩∧u'=u) ⟨#[u0,u1,u2,u3,u4,u5,u6,u7,u8,u9,u10,u11,u12,u13,u14,u15,u16,u17,u18,u19,u20,u21,u22,u23,u24,u25,u26,u27,u28,u29,u30,u31,u32,u33,u34,u35,u36,u37,u38,u39,u40,u41,u42,u43,u44,u45,u46,u47,u48,u49,u50,u51,u52,u53,u54,u55,u56,u57,u58,u59,u60,u61,u62,u63,u64,u65,u66,u67,u68,u69,u70,u71,u72,u73,u74,u75,u76,u77,u78,u79,u80,u81,u82,u83,u84,u85,u86,u87,u88,u89,u90,u91,u92,u93,u94,u95,u96,u97,u98,u99,u100,u101,u102,u103,u104,u105,u106,u107,u108,u109,u110,u111,u112,u113,u114,u115,u116,u117,u118,u119,u120,u121,u122,u123,u124,u125,u126,u127,u128,u129,u130,u131,u132],[]⟩ u:=by
 unfold b8
 conv in Option.getD _ _=>whnf
 dsimp only[fstOf]
 go_wp2_with fail
set_option maxRecDepth 100000 in
set_option maxHeartbeats 4000000 in
theorem wp8_1(u:World)(u0 u1 u2 u3 u4 u5 u6 u7 u8 u9 u10 u11 u12 u13 u14 u15 u16 u17 u18 u19 u20 u21 u22 u24 u25 u26 u27 u28 u29 u30 u31 u32 u33 u34 u35 u36 u37 u38 u39 u40 u41 u42 u43 u44 u45 u46 u47 u48 u49 u50 u51 u52 u53 u54 u55 u56 u57 u58 u59 u60 u61 u62 u63 u64 u65 u66 u67 u68 u69 u70 u71 u72 u73 u74 u75 u76 u77 u78 u79 u80 u81 u82 u83 u84 u85 u86 u87 u88 u89 u90 u91 u92 u93 u94 u95 u96 u97 u98 u99 u100 u101 u102 u103 u104 u105 u106 u107 u108 u109 u110 u111 u112 u113 u114 u115 u116 u117 u118 u119 u120 u121 u122 u123 u124 u125 u126 u127 u128 u129 u130 u131 u132:Value):ItemsWp Try.prog [.inRegion ops8 [1],.code (sndOf (fstOf (sndOf b8)))] (fun e a' u'=>e= .normal∧a'=⟨#[u0,u1,u2,u3,u4,u5,u6,u7,u8,u9,u10,u11,u12,u13,u14,u15,u16,u17,u18,u19,u20,u21,u22,.bool true,.bool false,u25,u26,u27,u28,u29,u30,u31,u32,u33,u34,u35,u36,u37,u38,u39,u40,u41,u42,u43,u44,u45,u46,u47,u48,u49,u50,u51,u52,u53,u54,u55,u56,u57,u58,u59,u60,u61,u62,u63,u64,u65,u66,u67,u68,u69,u70,u71,u72,u73,u74,u75,u76,u77,u78,u79,u80,u81,u82,u83,u84,u85,u86,u87,u88,u89,u90,u91,u92,u93,u94,u95,u96,u97,u98,u99,u100,u101,u102,u103,u104,u105,u106,u107,u108,u109,u110,u111,u112,u113,u114,u115,u116,u117,u118,u119,u120,u121,u122,u123,u124,u125,u126,u127,u128,u129,u130,u131,u132],[]⟩∧u'=u) ⟨#[u0,u1,u2,u3,u4,u5,u6,u7,u8,u9,u10,u11,u12,u13,u14,u15,u16,u17,u18,u19,u20,u21,u22,.bool true,u24,u25,u26,u27,u28,u29,u30,u31,u32,u33,u34,u35,u36,u37,u38,u39,u40,u41,u42,u43,u44,u45,u46,u47,u48,u49,u50,u51,u52,u53,u54,u55,u56,u57,u58,u59,u60,u61,u62,u63,u64,u65,u66,u67,u68,u69,u70,u71,u72,u73,u74,u75,u76,u77,u78,u79,u80,u81,u82,u83,u84,u85,u86,u87,u88,u89,u90,u91,u92,u93,u94,u95,u96,u97,u98,u99,u100,u101,u102,u103,u104,u105,u106,u107,u108,u109,u110,u111,u112,u113,u114,u115,u116,u117,u118,u119,u120,u121,u122,u123,u124,u125,u126,u127,u128,u129,u130,u131,u132],[]⟩ u:=by
 refine ItemsWp.then (k:=1) (l:=ops8.toList.drop 1) rfl rfl fun K hK=>?_
 conv in(occs:= *) ops8=>
  all_goals
   unfold ops8 opsR b8
   whnf
 unfold b8 at hK
 conv at hK in Option.getD _ _=>whnf
 dsimp only[sndOf,fstOf] at hK
 simp only[List.drop_succ_cons,List.drop_zero]
 go_wp2_with fail
set_option maxRecDepth 100000 in
set_option maxHeartbeats 4000000 in
theorem wp8_2(u:World)(a b:Option Addr)(c d:Nat)(L:List TkD)(ch:Int)(chs:List Int)(hs:SlT u a L)(hl:L.length≤maxLen)(hl2:chs.length≤maxLen)(u3 u4 u5 u6 u7 u8 u9 u10 u11 u12 u13 u14 u15 u16 u17 u18 u19 u20 u21 u22 u23 u24 u25 u26 u27 u28 u29 u30 u31 u32 u33 u34 u35 u36 u37 u38 u39 u40 u41 u42 u43 u44 u45 u46 u47 u48 u49 u50 u51 u52 u53 u54 u55 u56 u57 u58 u59 u60 u61 u62 u63 u64 u65 u66 u67 u68 u69 u70 u71 u72 u73 u74 u75 u76 u77 u78 u79 u80 u81 u82 u83 u84 u85 u86 u87 u88 u89 u90 u91 u92 u93 u94 u95 u96 u97 u98 u99 u100 u101 u102 u103 u104 u105 u106 u107 u108 u109 u110 u111 u112 u113 u114 u115 u116 u117 u118 u119 u120 u121 u122 u123 u124 u125 u126 u127 u128 u129 u130 u131 u132:Value):
  (fstOf c8r).wp Try.prog (GdQ 6 u (greatB L=false∧chs.length≤300) fun a'=>∃v25 v26 v27 v28 v29 v30 v31,a'=⟨#[.slice a L.length c,.int .i64 ch,.slice b chs.length d,u3,u4,u5,u6,u7,u8,u9,u10,u11,u12,u13,u14,u15,u16,u17,u18,u19,u20,u21,u22,u23,u24,v25,v26,v27,v28,v29,v30,v31,u32,u33,u34,u35,u36,u37,u38,u39,u40,u41,u42,u43,u44,u45,u46,u47,u48,u49,u50,u51,u52,u53,u54,u55,u56,u57,u58,u59,u60,u61,u62,u63,u64,u65,u66,u67,u68,u69,u70,u71,u72,u73,u74,u75,u76,u77,u78,u79,u80,u81,u82,u83,u84,u85,u86,u87,u88,u89,u90,u91,u92,u93,u94,u95,u96,u97,u98,u99,u100,u101,u102,u103,u104,u105,u106,u107,u108,u109,u110,u111,u112,u113,u114,u115,u116,u117,u118,u119,u120,u121,u122,u123,u124,u125,u126,u127,u128,u129,u130,u131,u132],[]⟩) ⟨#[.slice a L.length c,.int .i64 ch,.slice b chs.length d,u3,u4,u5,u6,u7,u8,u9,u10,u11,u12,u13,u14,u15,u16,u17,u18,u19,u20,u21,u22,u23,u24,u25,u26,u27,u28,u29,u30,u31,u32,u33,u34,u35,u36,u37,u38,u39,u40,u41,u42,u43,u44,u45,u46,u47,u48,u49,u50,u51,u52,u53,u54,u55,u56,u57,u58,u59,u60,u61,u62,u63,u64,u65,u66,u67,u68,u69,u70,u71,u72,u73,u74,u75,u76,u77,u78,u79,u80,u81,u82,u83,u84,u85,u86,u87,u88,u89,u90,u91,u92,u93,u94,u95,u96,u97,u98,u99,u100,u101,u102,u103,u104,u105,u106,u107,u108,u109,u110,u111,u112,u113,u114,u115,u116,u117,u118,u119,u120,u121,u122,u123,u124,u125,u126,u127,u128,u129,u130,u131,u132],[]⟩ u:=by
 have G:=Lib.hid (great_any u a c L hs hl)
 clear hs
 unfold maxLen at hl hl2
 unfold c8r b8
 conv in Option.getD _ _=>whnf
 dsimp only[fstOf,sndOf]
 go_wp2_with fail
 refine G.out.mono ?_
 rintro e w1 ⟨rfl,hb⟩
 have B1:=Lib.hid hb
 clear G hb
 cases hg:greatB L with
 |true=>
  clear hg
  go_wp2_with fail
  exact⟨B1.out,.inl ⟨rfl,rfl⟩⟩
 |false=>
  have HG:=Lib.hid hg
  clear hg
  by_cases h3:300<chs.length
  ·have i3:(300:Int)<(chs.length:Int):=by omega
   clear h3
   go_wp2_with fail
   exact⟨B1.out,.inl ⟨rfl,rfl⟩⟩
  ·have i3:¬(300:Int)<(chs.length:Int):=by omega
   have H3:Hid (chs.length≤300):=Lib.hid (by omega)
   clear h3
   go_wp2_with fail
   exact⟨B1.out,.inr ⟨rfl,⟨HG.out,H3.out⟩,_,_,_,_,_,_,_,rfl⟩⟩
theorem rep_sumsA_len(L:List TkD)(s:PS):(sumsA L s).length=L.length:=by simp[sumsA]
theorem rep_validT{ch:Int}{L:List TkD}(h:validT ch L=true):L.length≤8∧∀t∈L,t.ops.length≤30:=by
 unfold validT at h
 simp only[Bool.and_eq_true,decide_eq_true_eq,List.all_eq_true] at h
 refine⟨h.1,fun t ht=>?_⟩
 have:=h.2.2.2 t ht
 unfold validL at this
 simp only[Bool.and_eq_true,decide_eq_true_eq] at this
 exact this.1
theorem runA_len{L:List TkD}{ch:List Int}(hl:L.length≤8)(ho:∀t∈L,t.ops.length≤30){s s':PS}{S S':List StepP}(h:RunA L ch s S s' S'):∀r,s=advS L r→RunS L ch r S→S'.length≤120:=by
 induction h with
 |done h=>exact fun r _ R=>R.len hl ho
 |step h k ih=>
  intro r e R
  subst e
  exact ih _ rfl (R.step h)
theorem outc_len{L:List TkD}{ch:List Int}(hl:L.length≤8)(ho:∀t∈L,t.ops.length≤30){s':PS}{S':List StepP}(h:Outc L ch s' S'):S'.length≤120:=runA_len hl ho h (fun _=>(0,0)) rfl (RunS.start L ch)
set_option maxRecDepth 100000 in
set_option maxHeartbeats 8000000 in
theorem wp8_no(u:World)(a b:Option Addr)(c d:Nat)(L:List TkD)(ch:Int)(chs:List Int)(u3 u4 u5 u6 u7 u8 u9 u10 u11 u12 u13 u14 u15 u16 u17 u18 u19 u20 u21 u22 u23 u24 u25 u26 u27 u28 u29 u30 u31 u32 u33 u34 u35 u37 u38 u39 u40 u41 u42 u43 u44 u45 u46 u47 u48 u49 u50 u51 u52 u53 u54 u55 u56 u57 u58 u59 u60 u61 u62 u63 u64 u65 u66 u67 u68 u69 u70 u71 u72 u73 u74 u75 u76 u77 u78 u79 u80 u81 u82 u83 u84 u85 u86 u87 u88 u89 u90 u91 u92 u93 u94 u95 u96 u97 u98 u99 u100 u101 u102 u103 u104 u105 u106 u107 u108 u109 u110 u111 u112 u113 u114 u115 u116 u117 u118 u119 u120 u121 u122 u123 u124 u125 u126 u127 u128 u129 u130 u131 u132:Value):
  ItemsWp Try.prog [.inRegion ops8r [4,5,6,7,8,9],.code (sndOf (sndOf c8r))] (FinT 6 u) ⟨#[.slice a L.length c,.int .i64 ch,.slice b chs.length d,u3,u4,u5,u6,u7,u8,u9,u10,u11,u12,u13,u14,u15,u16,u17,u18,u19,u20,u21,u22,u23,u24,u25,u26,u27,u28,u29,u30,u31,u32,u33,u34,u35,.tuple #[.agg #[.slice none 0 0,.slice none 0 0,.slice none 0 0],.int .i64 1],u37,u38,u39,u40,u41,u42,u43,u44,u45,u46,u47,u48,u49,u50,u51,u52,u53,u54,u55,u56,u57,u58,u59,u60,u61,u62,u63,u64,u65,u66,u67,u68,u69,u70,u71,u72,u73,u74,u75,u76,u77,u78,u79,u80,u81,u82,u83,u84,u85,u86,u87,u88,u89,u90,u91,u92,u93,u94,u95,u96,u97,u98,u99,u100,u101,u102,u103,u104,u105,u106,u107,u108,u109,u110,u111,u112,u113,u114,u115,u116,u117,u118,u119,u120,u121,u122,u123,u124,u125,u126,u127,u128,u129,u130,u131,u132],[]⟩ u:=by
 refine ItemsWp.then (k:=4) (l:=ops8r.toList.drop 4) rfl rfl fun K hK=>?_
 conv in(occs:= *) ops8r=>
  all_goals
   unfold ops8r opsR c8r b8
   whnf
 unfold c8r b8 at hK
 conv at hK in Option.getD _ _=>whnf
 dsimp only[sndOf,fstOf] at hK
 simp only[List.drop_succ_cons,List.drop_zero]
 have B0:Hid (Below u.heap.size u (u.alloc (.cells #[.slice none 0 0,.slice none 0 0,.slice none 0 0] 32))):=Lib.hid ((Below.refl _ _).alloc (Nat.le_refl _) _)
 go_wp2_with fail
 exact⟨rfl,rfl,B0.out⟩
theorem info8:(Try.prog.info? 3).map (fun i=>(i.zero,i.size,i.bytes))=some (some (.int .i64 0),1,8):=by kernel_rfl
def Num(z x:Int):Prop:=Eqm z x∧ -9223372036854775808≤z∧z≤9223372036854775807
theorem Num.zero{z x:Int}(h:Num z x)(hx:x=0):z=0:=by
 obtain⟨h1,h2,h3⟩:=h
 unfold Eqm at h1
 omega
theorem Num.zero'{z x:Int}(h:Num z x)(hx:Eqm x 0):z=0:=by
 obtain⟨h1,h2,h3⟩:=h
 unfold Eqm at h1 hx
 omega
theorem rep_fr{L:List TkD}{s s':PS}{l:List StepP}(h:Rep L s l s'):∀x∈l,x.fr<L.length:=by
 induction h with
 |nil=>intro x hx;cases hx
 |cons h _ ih=>
  intro y hy
  rcases List.mem_cons.1 hy with rfl|hy
  ·exact(possS_get h).1
  ·exact ih y hy
theorem sent_sum{n:Nat}:∀(S:List StepP),(∀x∈S,x.fr<n)→sumT n (fun k=>(sentL S k).sum)=vlS S
 |[],_=>by
  have:∀n,sumT n (fun k=>(sentL [] k).sum)=0:=fun n=>by
   induction n with
   |zero=>rfl
   |succ n ih=>rw[sumT_succ,ih];rfl
  rw[this];rfl
 |x::S,h=>by
  have e:(fun k=>(sentL (x::S) k).sum)=fun k=>if k=x.fr then(sentL S k).sum+x.vl else(sentL S k).sum:=by
   funext k
   by_cases hk:k=x.fr
   ·subst hk
    simp[sentL];omega
   ·rw[if_neg hk]
    have:(x.fr==k)=false:=by simp;exact fun e=>hk e.symm
    simp[sentL,this]
  rw[e,sumT_one _ _ _ (h x (List.mem_cons_self ..)),sent_sum S fun y hy=>h y (List.mem_cons_of_mem _ hy)]
  simp[vlS];omega
def O1Rel(w:World)(sm:List Int)(v k:Value)(wr:World):Prop:=∃(j:Nat) (z:Int),j≤sm.length∧k= .int .i64 (j:Int)∧v= .int .i64 z∧Num z (sm.take j).sum∧wr=w
def O2Rel(w:World)(L:List TkD)(s:PS)(S:List StepP)(T:Int)(v k:Value)(wr:World):Prop:=∃(i:Nat) (z:Int),i≤L.length∧k= .int .i64 (i:Int)∧v= .int .i64 z∧Num z (T-sumT i (fun k=>addL (preK L s k)+(sentL S k).sum))∧Below w.heap.size w wr
def O3Rel(w:World)(l:List OpD)(p:Nat)(X:Int)(v v2 k:Value)(wr:World):Prop:=∃(q:Nat) (z:Int) (ua:Option Addr) (uc:Nat),q≤p∧k= .int .i64 (q:Int)∧v= .int .i64 z∧Num z (X-addL (l.take q))∧v2= .slice ua (wantL (l.take q)).length uc∧wr.ownsRow w.heap.size 3 1 v2 (wantL (l.take q)).length ((wantL (l.take q)).map (Value.int .i64))∧Below w.heap.size w wr
def O4Rel(w:World)(S:List StepP)(i:Nat)(X:Int)(v v2 k:Value)(wr:World):Prop:=∃(q:Nat) (z:Int) (ua:Option Addr) (uc:Nat),q≤S.length∧k= .int .i64 (q:Int)∧v= .int .i64 z∧Num z (X-(sentL (S.take q) i).sum)∧v2= .slice ua (sentL (S.take q) i).length uc∧wr.ownsRow w.heap.size 3 1 v2 (sentL (S.take q) i).length ((sentL (S.take q) i).map (Value.int .i64))∧Below w.heap.size w wr
theorem wrap_rng(a:Int): -9223372036854775808≤wrap64 a∧wrap64 a≤9223372036854775807:=by
 rw[←IntWalk.i64_left,IntKind.wrap_i64];omega
theorem Num.add{z x:Int}(h:Num z x)(v:Int):Num (wrap64 (z+v)) (x+v):=⟨by rw[←IntWalk.i64_left];exact(eqm_wrap _).trans (h.1.add (Eqm.refl v)),wrap_rng _⟩
theorem Num.sub{z x:Int}(h:Num z x)(v:Int):Num (wrap64 (z-v)) (x-v):=⟨by rw[←IntWalk.i64_left];exact(eqm_wrap _).trans (h.1.sub (Eqm.refl v)),wrap_rng _⟩
set_option maxRecDepth 100000 in
set_option maxHeartbeats 8000000 in
theorem wp8_ok(u:World)(a b:Option Addr)(c d:Nat)(L:List TkD)(ch:Int)(chs:List Int)(s':PS)(S':List StepP)(v0 v1 v2:Value)(hs:SlT u a L)(hg:greatB L=false)(hv:validT ch L=true)(hO:Outc L chs s' S')(hR:RunRes u v0 v1 v2 S' (sumsA L s') (stuckA L s'))(u3 u4 u5 u6 u7 u8 u9 u10 u11 u12 u13 u14 u15 u16 u17 u18 u19 u20 u21 u22 u23 u24 u25 u26 u27 u28 u29 u30 u31 u32 u33 u34 u35 u37 u38 u39 u40 u41 u42 u43 u44 u45 u46 u47 u48 u49 u50 u51 u52 u53 u54 u55 u56 u57 u58 u59 u60 u61 u62 u63 u64 u65 u66 u67 u68 u69 u70 u71 u72 u73 u74 u75 u76 u77 u78 u79 u80 u81 u82 u83 u84 u85 u86 u87 u88 u89 u90 u91 u92 u93 u94 u95 u96 u97 u98 u99 u100 u101 u102 u103 u104 u105 u106 u107 u108 u109 u110 u111 u112 u113 u114 u115 u116 u117 u118 u119 u120 u121 u122 u123 u124 u125 u126 u127 u128 u129 u130 u131 u132:Value):
  ItemsWp Try.prog [.inRegion ops8r [4,5,6,7,8,9],.code (sndOf (sndOf c8r))] (FinN 6 u) ⟨#[.slice a L.length c,.int .i64 ch,.slice b chs.length d,u3,u4,u5,u6,u7,u8,u9,u10,u11,u12,u13,u14,u15,u16,u17,u18,u19,u20,u21,u22,u23,u24,u25,u26,u27,u28,u29,u30,u31,u32,u33,u34,u35,.tuple #[.agg #[v0,v1,v2],.int .i64 0],u37,u38,u39,u40,u41,u42,u43,u44,u45,u46,u47,u48,u49,u50,u51,u52,u53,u54,u55,u56,u57,u58,u59,u60,u61,u62,u63,u64,u65,u66,u67,u68,u69,u70,u71,u72,u73,u74,u75,u76,u77,u78,u79,u80,u81,u82,u83,u84,u85,u86,u87,u88,u89,u90,u91,u92,u93,u94,u95,u96,u97,u98,u99,u100,u101,u102,u103,u104,u105,u106,u107,u108,u109,u110,u111,u112,u113,u114,u115,u116,u117,u118,u119,u120,u121,u122,u123,u124,u125,u126,u127,u128,u129,u130,u131,u132],[]⟩ u:=by
 have S:=Lib.hid hs
 obtain⟨gl,gt⟩:=great_small hg
 obtain⟨l8,l30⟩:=rep_validT hv
 have ON:=Lib.hid (onc_of hO)
 obtain⟨l,hl1,hrep, -⟩:=rep_of hO
 rw[List.nil_append] at hl1
 subst hl1
 have REP:=Lib.hid hrep
 have SLN:=Lib.hid (outc_len l8 l30 hO)
 obtain⟨⟨a0,k0,rfl,r0⟩,⟨a1,k1,rfl,r1⟩,⟨a2,k2,rfl,r2⟩⟩:=hR
 have R0:=Lib.hid r0;have R1:=Lib.hid r1
 have ZL:=Lib.hid (rep_sumsA_len L s')
 have GE:Hid (∀t∈L,∀x∈t.ops,x.el.length≤1000000):=Lib.hid fun t ht x hx=>by have:=(gt t ht).2 x hx;omega
 have L30:=Lib.hid l30
 clear hs hg gt hO r0 r1 r2 hrep l30
 generalize hsl:S'.length=sl at*
 have HSL:=Lib.hid hsl
 clear hsl
 refine ItemsWp.then (k:=4) (l:=ops8r.toList.drop 4) rfl rfl fun K hK=>?_
 conv in(occs:= *) ops8r=>
  all_goals
   unfold ops8r opsR c8r b8
   whnf
 unfold c8r b8 at hK
 conv at hK in Option.getD _ _=>whnf
 dsimp only[sndOf,fstOf] at hK
 simp only[List.drop_succ_cons,List.drop_zero]
 obtain⟨W0,hW⟩:∃W0,W0=u.alloc (.cells #[.slice a0 sl k0,.slice a1 (sumsA L s').length k1,.slice a2 (stuckA L s').length k2] 32):=⟨_,rfl⟩
 have NX:Hid (Blk W0 u.heap.size 32 [.slice a0 sl k0,.slice a1 (sumsA L s').length k1,.slice a2 (stuckA L s').length k2]):=Lib.hid (by rw[hW];exact Blk.new u _ _)
 have B0:Hid (Below u.heap.size u W0):=Lib.hid (by rw[hW];exact(Below.refl _ _).alloc (Nat.le_refl _) _)
 have x0:(u.alloc (.cells #[.slice a0 sl k0,.slice a1 (sumsA L s').length k1,.slice a2 (stuckA L s').length k2] 32)).cell? ⟨u.heap.size,0,none⟩=some (.slice a0 sl k0):=by rw[←hW];exact NX.out.cell (i:=0) rfl
 have RP:=Lib.hid (replay_any W0 a a0 c k0 L ch S' s' (S.out.reads (Reads.below B0.out)) (SlSt.reads R0.out (Reads.below B0.out)) hv REP.out l8 L30.out GE.out (by rw[HSL.out];have:=SLN.out;omega))
 rw[HSL.out] at RP
 go_wp2_with fail
 rw[←hW]
 refine RP.out.mono ?_
 rintro e w3 ⟨p1,p2,rfl,⟨e1,f1,rfl,h1⟩,⟨e2,f2,rfl,h2⟩,hb⟩
 have B3:=Lib.hid (B0.out.trans (hb.mono B0.out.size))
 have N3:=Lib.hid (NX.out.upd (S:=fun _=>False) (Upd.of_below hb) id)
 have H1:=Lib.hid h1
 have z0:w3.cell? ⟨u.heap.size,0,none⟩=some (.slice a0 sl k0):=N3.out.cell (i:=0) rfl
 have z1:w3.cell? ⟨u.heap.size,1,none⟩=some (.slice a1 (sumsA L s').length k1):=N3.out.cell (i:=1) rfl
 clear x0 RP hW NX B0 h1 h2 hb
 rw[at_L_len]
 clear W0
 generalize hsm:sumsA L s'=sm at*
 have HSM:=Lib.hid hsm
 clear hsm
 generalize hml:sm.length=ml at*
 have HML:=Lib.hid hml
 clear hml
 have hnb:((ml:Int)!=(L.length:Int))=false:=by simp[ZL.out]
 go_wp2_with fail
 have RA:=Lib.hid (R1.out.reads (Reads.below B3.out))
 have hml8:ml≤8:=by rw[ZL.out];exact l8
 go_loopw [12,63] (fun v k wr=>O1Rel w3 sm v k wr) (fun _ k _=>ml-(intOf k).toNat)
 case atStart=>exact⟨0,0,Nat.zero_le _,rfl,rfl,⟨Eqm.refl _,by omega,by omega⟩,rfl⟩
 case round=>
  obtain⟨j,z,hj,rfl,rfl,hz,rfl⟩:=hrel
  have NZ:=Lib.hid hz
  clear hz
  rw[HML.out] at hj
  by_cases hjt:j<ml
  ·have hjn:(j:Int)<(ml:Int):=by omega
   obtain⟨y,hy,oky,cy⟩:=RA.out.get (k:=j) (by rw[HML.out];exact hjt)
   have N2:Hid (Num (wrap64 (z+y)) (sm.take (j+1)).sum):=Lib.hid (by
    rw[List.take_add_one,hy.out]
    simpa using NZ.out.add y)
   clear hy
   go_wp2_with fail
   go_roundw
   case rel=>exact⟨j+1,_,by rw[HML.out];omega,by go_num,rfl,N2.out,rfl⟩
   case measure=>(simp[intOf];omega)
  ·obtain rfl:j=ml:=by omega
   have NT:Hid (Num z (sm.sum-sumT 0 fun k=>addL (preK L s' k)+(sentL S' k).sum)):=Lib.hid (by
    have:=NZ.out
    rw[←HML.out,List.take_length] at this
    simpa[sumT] using this)
   clear NZ RA
   obtain⟨w5,hw5⟩:∃w5,w5=wr:=⟨_,rfl⟩
   subst hw5
   have OF:Hid (Fit L s'):=Lib.hid ON.out.fit
   go_wp2_with fail
   go_loopw [12,73] (fun v k wx=>O2Rel w5 L s' S' sm.sum v k wx) (fun _ k _=>L.length-(intOf k).toNat)
   case atStart=>exact⟨0,z,Nat.zero_le _,rfl,rfl,NT.out,Below.refl _ _⟩
   case round=>
    clear NT
    obtain⟨i,z2,hi,rfl,rfl,hz,hB⟩:=hrel
    have NZ:=Lib.hid hz
    have BI:=Lib.hid hB
    clear hz hB
    obtain⟨w6,hw6⟩:∃w6,w6=wr:=⟨_,rfl⟩
    subst hw6
    have BU:=Lib.hid (B3.out.trans (BI.out.mono B3.out.size))
    by_cases hit:i<L.length
    ·have hin:(i:Int)<(L.length:Int):=by omega
     obtain⟨t,ht,okt,c0,TO⟩:=(S.out.reads (Reads.below BU.out)).get (k:=i) hit
     have y1:okAd e1=true∧w6.cell? (adr e1 i)=some (.int .i64 ((s' i).1:Int)):=(H1.out.reads (Reads.below BI.out)) i _ (range_get _ hit)
     obtain⟨oke,y1⟩:=y1
     have PK:Hid (preK L s' i=t.ops.take (s' i).1):=Lib.hid (by unfold preK;rw[ht.out];rfl)
     have WS:Hid (wantL (t.ops.take (s' i).1)=sentL S' i):=Lib.hid (by rw[←PK.out];exact ON.out.snd i hit)
     have hpm:(s' i).1≤t.ops.length:=OF.out i t ht.out
     have hm30:t.ops.length≤30:=L30.out t (List.mem_of_getElem? ht.out)
     have NS:Hid (∀x,Num x (sm.sum-sumT i (fun k=>addL (preK L s' k)+(sentL S' k).sum)-addL (t.ops.take (s' i).1)-(sentL S' i).sum)→Num x (sm.sum-sumT (i+1) (fun k=>addL (preK L s' k)+(sentL S' k).sum))):=Lib.hid fun x hx=>by
      rw[sumT_succ,PK.out]
      have e:sm.sum-(sumT i (fun k=>addL (preK L s' k)+(sentL S' k).sum)+(addL (t.ops.take (s' i).1)+(sentL S' i).sum))=sm.sum-sumT i (fun k=>addL (preK L s' k)+(sentL S' k).sum)-addL (t.ops.take (s' i).1)-(sentL S' i).sum:=by omega
      rw[e];exact hx
     have hc1:=TO.out.cap.1
     have hc2:=TO.out.cap.2
     unfold maxLen at hc2
     clear PK ht
     generalize sm.sum-sumT i (fun k=>addL (preK L s' k)+(sentL S' k).sum)=X at*
     generalize(s' i).1=p at*
     have hpc:p≤t.c:=by omega
     go_wp2_with fail
     go_loopw [12,18,85] (fun v v2 k wx=>O3Rel w6 t.ops p X v v2 k wx) (fun _ _ k _=>p-(intOf k).toNat)
     case atStart=>exact⟨0,z2,none,0,Nat.zero_le _,rfl,rfl,by simpa[addL] using NZ.out,rfl,⟨rfl,.inl ⟨rfl,rfl⟩⟩,Below.refl _ _⟩
     case round=>
      clear c0 y1
      obtain⟨q,z3,ua,uc,hq,rfl,rfl,hz,rfl,hown,hB⟩:=hrel
      have NQ:=Lib.hid hz
      have OQ:=Lib.hid hown
      have BQ:=Lib.hid hB
      have WL:Hid ((wantL (t.ops.take q)).length≤q):=Lib.hid (by
       unfold wantL
       rw[List.length_map]
       exact Nat.le_trans (List.length_filter_le _ _) (by rw[List.length_take];omega))
      clear hz hown hB
      generalize hU:wantL (t.ops.take q)=U at*
      have HU:=Lib.hid hU
      clear hU
      generalize hul:U.length=ul at*
      have HUL:=Lib.hid hul
      clear hul
      by_cases hqp:q<p
      ·have hqn:(q:Int)<(p:Int):=by omega
       obtain⟨x,hx,okx,x0,x1,x2,x3⟩:=(TO.out.row.reads (Reads.below BQ.out)).get (k:=q) (by omega)
       have TX:Hid (t.ops.take (q+1)=t.ops.take q++[x]):=Lib.hid (by rw[List.take_add_one,hx.out];rfl)
       clear hx
       go_upto_region 24 with(fail)
       obtain⟨W7,hW7⟩:∃W7,W7=wr.alloc (.cells #[.int .i64 x.kind,.int .i64 x.chan,.int .i64 x.val,.slice x.ea x.el.length x.ec] 29):=⟨_,rfl⟩
       rw[←hW7]
       have NB:Hid (Blk W7 wr.heap.size 29 (opF x)):=Lib.hid (by rw[hW7];exact Blk.new wr _ (opF x))
       have Q7:Hid (Below wr.heap.size wr W7):=Lib.hid (by rw[hW7];exact(Below.refl _ _).alloc (Nat.le_refl _) _)
       have O7:=Lib.hid (own_upd OQ.out (Upd.of_below (S:=fun _=>False) Q7.out) (fun _ _=>id))
       have B7:=Lib.hid (BQ.out.trans (Q7.out.mono BQ.out.size))
       have y0:W7.cell? ⟨wr.heap.size,0,none⟩=some (.int .i64 x.kind):=NB.out.cell (i:=0) rfl
       have y2:W7.cell? ⟨wr.heap.size,2,none⟩=some (.int .i64 x.val):=NB.out.cell (i:=2) rfl
       clear hW7 OQ BQ Q7 NB x0 x1 x2 x3 okx
       generalize wr.heap.size=bx at*
       clear wr
       by_cases k4:x.kind=4
       ·have e1:wantL (t.ops.take (q+1))=U:=by rw[TX.out,wantL_app,HU.out];simp[wantL,k4]
        have N7:Hid (Num (wrap64 (z3-x.val)) (X-addL (t.ops.take (q+1)))):=Lib.hid (by
         rw[TX.out,addL_app]
         have:=NQ.out.sub x.val
         have e:X-(addL (t.ops.take q)+addL [x])=X-addL (t.ops.take q)-x.val:=by simp[addL,k4];omega
         rwa[e])
        rw[k4] at y0
        have REL:Hid (∀wx,wx=W7→O3Rel w6 t.ops p X (.int .i64 (wrap64 (z3-x.val))) (.slice ua ul uc) (.int .i64 ((q+1:Nat):Int)) wx):=Lib.hid fun wx e=>⟨q+1,_,ua,uc,by omega,rfl,rfl,N7.out,by rw[e1,HUL.out],by rw[e1,HUL.out,e];exact O7.out,e▸B7.out⟩
        clear e1 N7 O7 B7 TX NQ k4
        go_wp2_with fail
        go_roundw
        case rel=>exact(show(.int .i64 ((q+1:Nat):Int):Value)=_ from by go_num)▸REL.out _ rfl
        case measure=>(simp[intOf];omega)
       ·by_cases k1:x.kind=1
        ·have e1:wantL (t.ops.take (q+1))=U++[x.val]:=by rw[TX.out,wantL_app,HU.out];simp[wantL,k1]
         have N7:Hid (Num z3 (X-addL (t.ops.take (q+1)))):=Lib.hid (by
          rw[TX.out,addL_app]
          have e:X-(addL (t.ops.take q)+addL [x])=X-addL (t.ops.take q):=by simp[addL,k1]
          rw[e];exact NQ.out)
         rw[k1] at y0
         have E1:=Lib.hid e1
         clear e1 k4 k1 TX NQ
         obtain⟨i1,hi,hz0,hz1,hz2⟩:=info_parts info8
         have KI:=Lib.hid hi;have KZ0:=Lib.hid hz0;have KZ1:=Lib.hid hz1;have KZ2:=Lib.hid hz2
         clear hi hz0 hz1 hz2
         go_wp2_with (at_builtin;refine wpList_append_cells rfl _ _ 23 rfl w6.heap.size 3 i1 _ 1 8 Try.underlying23 KI.out KZ0.out KZ1.out KZ2.out rfl (by decide) (.slice ua ul uc) ul (U.map (Value.int .i64)) rfl ?ownA (some ⟨W7.heap.size,0,none⟩) 1 1 [.int .i64 x.val] rfl rfl ?c1A ?c2A ?c3A ?c4A ?c5A ?kkA)
         case ownA=>exact own_upd O7.out (Upd.of_below (S:=fun _=>False) ((Below.refl _ _).alloc (Nat.le_refl _) _)) (fun _ _=>id)
         case c1A=>exact fun i' u hi=>⟨rfl,by rw[adr_mk,Nat.zero_add];exact(Blk.new W7 3 [.int .i64 x.val]).cell hi⟩
         case c2A=>exact fun u hu=>by simp only[List.mem_cons,List.not_mem_nil,or_false] at hu;subst hu;rfl
         case c3A=>(have:=WL.out;unfold maxLen;omega)
         case c4A=>(have:=WL.out;omega)
         case c5A=>(have:=B7.out.size;simp;omega)
         intro v1 w8 g1 g2 g3
         have B8:=Lib.hid (Upd.below (B7.out.alloc B7.out.size _) (Upd.of_grownV g2) (by have:=B7.out.size;simp;omega) (fun k hk=>(own_lt O7.out hk).2))
         obtain⟨a3,k3,rfl, -⟩:=own_shape g1
         have O8:Hid (w8.ownsRow w6.heap.size 3 1 (.slice a3 (ul+1) k3) (wantL (t.ops.take (q+1))).length ((wantL (t.ops.take (q+1))).map (Value.int .i64))):=Lib.hid (by rw[E1.out,List.length_append,HUL.out,List.map_append];exact g1)
         have EN:Hid (Value.slice a3 (ul+1) k3= .slice a3 (wantL (t.ops.take (q+1))).length k3):=Lib.hid (by rw[E1.out,List.length_append,HUL.out];rfl)
         clear g1 g2 g3 O7 B7 E1
         go_wp2_with fail
         go_roundw
         case rel=>exact⟨q+1,z3,a3,k3,by omega,by go_num,rfl,N7.out,EN.out,O8.out,B8.out⟩
         case measure=>(simp[intOf];omega)
        ·have e1:wantL (t.ops.take (q+1))=U:=by rw[TX.out,wantL_app,HU.out];simp[wantL,k1]
         have N7:Hid (Num z3 (X-addL (t.ops.take (q+1)))):=Lib.hid (by
          rw[TX.out,addL_app]
          have e:X-(addL (t.ops.take q)+addL [x])=X-addL (t.ops.take q):=by simp[addL,k4]
          rw[e];exact NQ.out)
         have b4:(x.kind==4)=false:=by simpa using k4
         have b1:(x.kind==1)=false:=by simpa using k1
         have O8:Hid (W7.ownsRow w6.heap.size 3 1 (.slice ua ul uc) (wantL (t.ops.take (q+1))).length ((wantL (t.ops.take (q+1))).map (Value.int .i64))):=Lib.hid (by rw[e1,HUL.out];exact O7.out)
         have EN:Hid (Value.slice ua ul uc= .slice ua (wantL (t.ops.take (q+1))).length uc):=Lib.hid (by rw[e1,HUL.out])
         clear e1 k4 k1 TX NQ O7
         go_wp2_with fail
         go_roundw
         case rel=>exact⟨q+1,z3,ua,uc,by omega,by go_num,rfl,N7.out,EN.out,O8.out,B7.out⟩
         case measure=>(simp[intOf];omega)
      ·obtain rfl:q=p:=by omega
       obtain⟨w7,hw7⟩:∃w7,w7=wr:=⟨_,rfl⟩
       subst hw7
       have N7:=Lib.hid ((N3.out.upd (S:=fun _=>False) (Upd.of_below BI.out) id).upd (S:=fun _=>False) (Upd.of_below BQ.out) id)
       have z0':w7.cell? ⟨u.heap.size,0,none⟩=some (.slice a0 sl k0):=N7.out.cell (i:=0) rfl
       have BU7:=Lib.hid (BU.out.trans (BQ.out.mono BU.out.size))
       have UE:Hid (U=sentL S' i):=Lib.hid (by rw[←HU.out];exact WS.out)
       have R7:=Lib.hid (SlSt.reads R0.out (Reads.below BU7.out))
       clear z0 z1 TO okt HU WS
       go_wp2_with fail
       go_loopw [12,17,108] (fun v v2 k wx=>O4Rel w7 S' i (X-addL (t.ops.take q)) v v2 k wx) (fun _ _ k _=>sl-(intOf k).toNat)
       case atStart=>exact⟨0,z3,none,0,Nat.zero_le _,rfl,rfl,by simpa[sentL] using NQ.out,rfl,⟨rfl,.inl ⟨rfl,rfl⟩⟩,Below.refl _ _⟩
       case round=>
        clear NQ z0'
        obtain⟨y,z4,va,vc,hy,rfl,rfl,hz,rfl,hown,hB⟩:=hrel
        have NY:=Lib.hid hz
        have OY:=Lib.hid hown
        have BY:=Lib.hid hB
        rw[HSL.out] at hy
        have VL:Hid ((sentL (S'.take y) i).length≤y):=Lib.hid (by
         unfold sentL
         rw[List.length_map]
         exact Nat.le_trans (List.length_filter_le _ _) (by rw[List.length_take];omega))
        clear hz hown hB
        generalize hV:sentL (S'.take y) i=V at*
        have HV2:=Lib.hid hV
        clear hV
        generalize hvl:V.length=vl at*
        have HVL:=Lib.hid hvl
        clear hvl
        have sl120:sl≤120:=SLN.out
        by_cases hys:y<sl
        ·have hyn:(y:Int)<(sl:Int):=by omega
         obtain⟨x,hx,okx,x0,x1,x2,x3⟩:=(R7.out.reads (Reads.below BY.out)).get (k:=y) (by rw[HSL.out];exact hys)
         have TX:Hid (S'.take (y+1)=S'.take y++[x]):=Lib.hid (by rw[List.take_add_one,hx.out];rfl)
         clear hx
         go_upto_region 32 with(fail)
         obtain⟨W8,hW8⟩:∃W8,W8=wr.alloc (.cells #[.int .i64 x.fr,.int .i64 x.tg,.int .i64 x.ch,.int .i64 x.vl] 50):=⟨_,rfl⟩
         rw[←hW8]
         have NB:Hid (Blk W8 wr.heap.size 50 (stC x)):=Lib.hid (by rw[hW8];exact Blk.new wr _ (stC x))
         have Q8:Hid (Below wr.heap.size wr W8):=Lib.hid (by rw[hW8];exact(Below.refl _ _).alloc (Nat.le_refl _) _)
         have O8:=Lib.hid (own_upd OY.out (Upd.of_below (S:=fun _=>False) Q8.out) (fun _ _=>id))
         have B8:=Lib.hid (BY.out.trans (Q8.out.mono BY.out.size))
         have y0:W8.cell? ⟨wr.heap.size,0,none⟩=some (.int .i64 x.fr):=NB.out.cell (i:=0) rfl
         have y3:W8.cell? ⟨wr.heap.size,3,none⟩=some (.int .i64 x.vl):=NB.out.cell (i:=3) rfl
         clear hW8 OY BY Q8 x0 x1 x2 x3 okx
         generalize wr.heap.size=bx at*
         clear wr
         by_cases kf:x.fr=i
         ·have bf:((x.fr:Int)==(i:Int))=true:=by simp[kf]
          have e1:sentL (S'.take (y+1)) i=V++[x.vl]:=by rw[TX.out,sentL_app,HV2.out];simp[sentL,kf]
          have N8:Hid (Num (wrap64 (z4-x.vl)) (X-addL (t.ops.take q)-(sentL (S'.take (y+1)) i).sum)):=Lib.hid (by
           rw[e1]
           have:=NY.out.sub x.vl
           have e:X-addL (t.ops.take q)-(V++[x.vl]).sum=X-addL (t.ops.take q)-V.sum-x.vl:=by simp;omega
           rwa[e])
          have E1:=Lib.hid e1
          have NB8:=NB
          clear e1 kf TX NY
          obtain⟨i1,hi,hz0,hz1,hz2⟩:=info_parts info8
          have KI:=Lib.hid hi;have KZ0:=Lib.hid hz0;have KZ1:=Lib.hid hz1;have KZ2:=Lib.hid hz2
          clear hi hz0 hz1 hz2
          go_wp2_with (at_builtin;refine wpList_append_cells rfl _ _ 23 rfl w7.heap.size 3 i1 _ 1 8 Try.underlying23 KI.out KZ0.out KZ1.out KZ2.out rfl (by decide) (.slice va vl vc) vl (V.map (Value.int .i64)) rfl ?ownB (some ⟨W8.heap.size,0,none⟩) 1 1 [.int .i64 x.vl] rfl rfl ?c1B ?c2B ?c3B ?c4B ?c5B ?kkB)
          case ownB=>exact own_upd O8.out (Upd.of_below (S:=fun _=>False) ((Below.refl _ _).alloc (Nat.le_refl _) _)) (fun _ _=>id)
          case c1B=>exact fun i' u hi=>⟨rfl,by rw[adr_mk,Nat.zero_add];exact(Blk.new W8 3 [.int .i64 x.vl]).cell hi⟩
          case c2B=>exact fun u hu=>by simp only[List.mem_cons,List.not_mem_nil,or_false] at hu;subst hu;rfl
          case c3B=>(have:=VL.out;unfold maxLen;omega)
          case c4B=>(have:=VL.out;omega)
          case c5B=>(have:=B8.out.size;simp;omega)
          intro v1 w9 g1 g2 g3
          have B9:=Lib.hid (Upd.below (B8.out.alloc B8.out.size _) (Upd.of_grownV g2) (by have:=B8.out.size;simp;omega) (fun k hk=>(own_lt O8.out hk).2))
          have NB9:=Lib.hid ((NB8.out.alloc (.cells #[.int .i64 x.vl] 3)).upd (Upd.of_grownV g2) (own_type (own_upd O8.out (Upd.of_below (S:=fun _=>False) ((Below.refl _ _).alloc (Nat.le_refl _) _)) (fun _ _=>id)) (NB8.out.alloc (.cells #[.int .i64 x.vl] 3)) (by decide)))
          have y3':w9.cell? ⟨bx,3,none⟩=some (.int .i64 x.vl):=NB9.out.cell (i:=3) rfl
          obtain⟨a3,k3,rfl, -⟩:=own_shape g1
          have O9:Hid (w9.ownsRow w7.heap.size 3 1 (.slice a3 (vl+1) k3) (sentL (S'.take (y+1)) i).length ((sentL (S'.take (y+1)) i).map (Value.int .i64))):=Lib.hid (by rw[E1.out,List.length_append,HVL.out,List.map_append];exact g1)
          have EN:Hid (Value.slice a3 (vl+1) k3= .slice a3 (sentL (S'.take (y+1)) i).length k3):=Lib.hid (by rw[E1.out,List.length_append,HVL.out];rfl)
          clear g1 g2 g3 O8 B8 E1 NB8 NB9 NB y0 y3
          go_wp2_with fail
          go_roundw
          case rel=>exact⟨y+1,_,a3,k3,by rw[HSL.out];omega,by go_num,rfl,N8.out,EN.out,O9.out,B9.out⟩
          case measure=>(simp[intOf];omega)
         ·have bf:((x.fr:Int)==(i:Int))=false:=by simp;omega
          have e1:sentL (S'.take (y+1)) i=V:=by
           rw[TX.out,sentL_app,HV2.out]
           have:(x.fr==i)=false:=by simpa using kf
           simp[sentL,this]
          have N8:Hid (Num z4 (X-addL (t.ops.take q)-(sentL (S'.take (y+1)) i).sum)):=Lib.hid (by rw[e1];exact NY.out)
          have O9:Hid (W8.ownsRow w7.heap.size 3 1 (.slice va vl vc) (sentL (S'.take (y+1)) i).length ((sentL (S'.take (y+1)) i).map (Value.int .i64))):=Lib.hid (by rw[e1,HVL.out];exact O8.out)
          have EN:Hid (Value.slice va vl vc= .slice va (sentL (S'.take (y+1)) i).length vc):=Lib.hid (by rw[e1,HVL.out])
          clear e1 kf TX NY O8 NB
          go_wp2_with fail
          go_roundw
          case rel=>exact⟨y+1,z4,va,vc,by rw[HSL.out];omega,by go_num,rfl,N8.out,EN.out,O9.out,B8.out⟩
          case measure=>(simp[intOf];omega)
        ·obtain rfl:y=sl:=by omega
         have VE:Hid (V=sentL S' i):=Lib.hid (by rw[←HV2.out,←HSL.out,List.take_length])
         have NN:Hid (Num z4 (sm.sum-sumT (i+1) (fun k=>addL (preK L s' k)+(sentL S' k).sum))):=Lib.hid (NS.out z4 (by rw[←VE.out];exact NY.out))
         have OU:=Lib.hid (own_upd OQ.out (Upd.of_below (S:=fun _=>False) BY.out) (fun _ _=>id))
         have EQ:Hid (Calls Try.prog 21 #[.slice va vl vc,.slice ua ul uc] wr fun e w'=>e= .returned (.bool true)∧Qt wr w'):=Lib.hid (by
          have s1:Sl (Value.int .i64) wr va V:=fun k y hk=>ownC_all OY.out k _ (by rw[List.getElem?_map,hk];rfl)
          have s2:Sl (Value.int .i64) wr ua U:=fun k y hk=>ownC_all OU.out k _ (by rw[List.getElem?_map,hk];rfl)
          have h:=equalInt_any wr va ua vc uc V U s1 s2 (by rw[HVL.out];have:=VL.out;unfold maxLen;omega)
          rw[HVL.out,HUL.out,VE.out,UE.out] at h
          simpa only[decide_true] using h)
         have BN:=Lib.hid (BQ.out.trans (BY.out.mono BQ.out.size))
         have BN2:=Lib.hid (BI.out.trans (BN.out.mono BI.out.size))
         clear NY VE OU OY OQ VL UE
         go_wp2_with fail
         refine EQ.out.mono ?_
         rintro e w8 ⟨rfl,hq⟩
         have BN3:=Lib.hid (BN2.out.trans (hq.below _))
         clear EQ hq
         go_wp2_with fail
         go_roundw
         case rel=>exact⟨i+1,z4,by omega,by go_num,rfl,NN.out,BN3.out⟩
         case measure=>(simp[intOf];omega)
    ·obtain hil:i=L.length:=by omega
     have ZZ:Hid (z2=0):=Lib.hid (NZ.out.zero' (by
      rw[hil]
      have h1:=ON.out.sum
      have h2:=sent_sum S' (rep_fr REP.out)
      have h3:sm.sum=sumT L.length fun k=>(s' k).2:=by rw[←HSM.out];rfl
      rw[h3,sumT_add,h2]
      unfold Eqm at*
      omega))
     rw[ZZ.out]
     clear ZZ NZ
     subst hil
     go_wp2_with fail
     exact⟨rfl,BU.out⟩
set_option maxRecDepth 100000 in
set_option maxHeartbeats 4000000 in
theorem once_in(W:World)(a b:Option Addr)(c d:Nat)(L:List TkD)(ch:Int)(chs:List Int)(hs:SlT W a L)(hp:Sl (Value.int .i64) W b chs)(hl:L.length≤maxLen)(hl2:chs.length≤maxLen)(u3 u4 u5 u6 u7 u8 u9 u10 u11 u12 u13 u14 u15 u16 u17 u18 u19 u20 u21 u22 u23 u24 u25 u26 u27 u28 u29 u30 u31 u32 u33 u34 u35 u36 u37 u38 u39 u40 u41 u42 u43 u44 u45 u46 u47 u48 u49 u50 u51 u52 u53 u54 u55 u56 u57 u58 u59 u60 u61 u62 u63 u64 u65 u66 u67 u68 u69 u70 u71 u72 u73 u74 u75 u76 u77 u78 u79 u80 u81 u82 u83 u84 u85 u86 u87 u88 u89 u90 u91 u92 u93 u94 u95 u96 u97 u98 u99 u100 u101 u102 u103 u104 u105 u106 u107 u108 u109 u110 u111 u112 u113 u114 u115 u116 u117 u118 u119 u120 u121 u122 u123 u124 u125 u126 u127 u128 u129 u130 u131 u132:Value):
  SB Try.prog (fun _=>False) (EndM Try.prog fun v w'=>v= .bool true∧Stood W w') (G ((base 8).at ⟨#[.slice a L.length c,.int .i64 ch,.slice b chs.length d,u3,u4,u5,u6,u7,u8,u9,u10,u11,u12,u13,u14,u15,u16,u17,u18,u19,u20,u21,u22,u23,u24,u25,u26,u27,u28,u29,u30,u31,u32,u33,u34,u35,u36,u37,u38,u39,u40,u41,u42,u43,u44,u45,u46,u47,u48,u49,u50,u51,u52,u53,u54,u55,u56,u57,u58,u59,u60,u61,u62,u63,u64,u65,u66,u67,u68,u69,u70,u71,u72,u73,u74,u75,u76,u77,u78,u79,u80,u81,u82,u83,u84,u85,u86,u87,u88,u89,u90,u91,u92,u93,u94,u95,u96,u97,u98,u99,u100,u101,u102,u103,u104,u105,u106,u107,u108,u109,u110,u111,u112,u113,u114,u115,u116,u117,u118,u119,u120,u121,u122,u123,u124,u125,u126,u127,u128,u129,u130,u131,u132],[]⟩ [.code b8]) []) W:=by
 rw[b8_eq]
 refine law_start (q:=23) (a1:=⟨#[.slice a L.length c,.int .i64 ch,.slice b chs.length d,u3,u4,u5,.bool false,u7,u8,u9,u10,u11,u12,u13,u14,u15,u16,u17,u18,u19,u20,u21,u22,u23,u24,u25,u26,u27,u28,u29,u30,u31,u32,u33,u34,u35,u36,u37,u38,u39,u40,u41,u42,u43,u44,u45,u46,u47,u48,u49,u50,u51,u52,u53,u54,u55,u56,u57,u58,u59,u60,u61,u62,u63,u64,u65,u66,u67,u68,u69,u70,u71,u72,u73,u74,u75,u76,u77,u78,u79,u80,u81,u82,u83,u84,u85,u86,u87,u88,u89,u90,u91,u92,u93,u94,u95,u96,u97,u98,u99,u100,u101,u102,u103,u104,u105,u106,u107,u108,u109,u110,u111,u112,u113,u114,u115,u116,u117,u118,u119,u120,u121,u122,u123,u124,u125,u126,u127,u128,u129,u130,u131,u132],[]⟩) (a2:=⟨#[.slice a L.length c,.int .i64 ch,.slice b chs.length d,u3,u4,u5,.bool false,u7,u8,u9,u10,u11,u12,u13,u14,u15,u16,u17,u18,u19,u20,u21,u22,.bool true,.bool false,u25,u26,u27,u28,u29,u30,u31,u32,u33,u34,u35,u36,u37,u38,u39,u40,u41,u42,u43,u44,u45,u46,u47,u48,u49,u50,u51,u52,u53,u54,u55,u56,u57,u58,u59,u60,u61,u62,u63,u64,u65,u66,u67,u68,u69,u70,u71,u72,u73,u74,u75,u76,u77,u78,u79,u80,u81,u82,u83,u84,u85,u86,u87,u88,u89,u90,u91,u92,u93,u94,u95,u96,u97,u98,u99,u100,u101,u102,u103,u104,u105,u106,u107,u108,u109,u110,u111,u112,u113,u114,u115,u116,u117,u118,u119,u120,u121,u122,u123,u124,u125,u126,u127,u128,u129,u130,u131,u132],[]⟩) ⟨_,Try.func8⟩ (show ops8[0]?=some _ from rfl) rfl rfl rfl rfl rfl rfl p8_0 p8_1 (fun u=>wp8_0 u _ _ _ _ _ _ _ _ _ _ _ _ _ _ _ _ _ _ _ _ _ _ _ _ _ _ _ _ _ _ _ _ _ _ _ _ _ _ _ _ _ _ _ _ _ _ _ _ _ _ _ _ _ _ _ _ _ _ _ _ _ _ _ _ _ _ _ _ _ _ _ _ _ _ _ _ _ _ _ _ _ _ _ _ _ _ _ _ _ _ _ _ _ _ _ _ _ _ _ _ _ _ _ _ _ _ _ _ _ _ _ _ _ _ _ _ _ _ _ _ _ _ _ _ _ _ _ _ _ _ _ _ _) (fun u=>wp8_1 u _ _ _ _ _ _ _ _ _ _ _ _ _ _ _ _ _ _ _ _ _ _ _ _ _ _ _ _ _ _ _ _ _ _ _ _ _ _ _ _ _ _ _ _ _ _ _ _ _ _ _ _ _ _ _ _ _ _ _ _ _ _ _ _ _ _ _ _ _ _ _ _ _ _ _ _ _ _ _ _ _ _ _ _ _ _ _ _ _ _ _ _ _ _ _ _ _ _ _ _ _ _ _ _ _ _ _ _ _ _ _ _ _ _ _ _ _ _ _ _ _ _ _ _ _ _ _ _ _ _ _ _) (fun Shun' w' K=>?_)
 have H:=gait_b Try.prog Shun' (EndM Try.prog fun v w'=>v= .bool true∧Stood W w')
 have hk0:(base 8).kind≠ .early:=by decide
 rw[c8r_eq]
 refine SB.into (H.seq (n:=0) (Kn.out K law_ext fun w₁ K₁=>?_))
 refine K₁.lone (items:=[.code (fstOf c8r)]) (k:=[.code (.seq (.region 5 ops8r false) (sndOf (sndOf c8r)))]) lawOK ⟨_,Try.func8⟩ rfl p8_2 rfl (Q:=fun u=>GdQ 6 u (greatB L=false∧chs.length≤300) fun a'=>∃v25 v26 v27 v28 v29 v30 v31,a'=⟨#[.slice a L.length c,.int .i64 ch,.slice b chs.length d,u3,u4,u5,.bool false,u7,u8,u9,u10,u11,u12,u13,u14,u15,u16,u17,u18,u19,u20,u21,u22,.bool true,.bool false,v25,v26,v27,v28,v29,v30,v31,u32,u33,u34,u35,u36,u37,u38,u39,u40,u41,u42,u43,u44,u45,u46,u47,u48,u49,u50,u51,u52,u53,u54,u55,u56,u57,u58,u59,u60,u61,u62,u63,u64,u65,u66,u67,u68,u69,u70,u71,u72,u73,u74,u75,u76,u77,u78,u79,u80,u81,u82,u83,u84,u85,u86,u87,u88,u89,u90,u91,u92,u93,u94,u95,u96,u97,u98,u99,u100,u101,u102,u103,u104,u105,u106,u107,u108,u109,u110,u111,u112,u113,u114,u115,u116,u117,u118,u119,u120,u121,u122,u123,u124,u125,u126,u127,u128,u129,u130,u131,u132],[]⟩)
  (fun u e a' u' h=>h.2.elim (fun h=>.inr h.1) (fun h=>.inl h.1)) (fun u hu=>ItemsWp.code (wp8_2 u a b c d L ch chs (slT_ext hs hu) hl hl2 _ _ _ _ _ _ _ _ _ _ _ _ _ _ _ _ _ _ _ _ _ _ _ _ _ _ _ _ _ _ _ _ _ _ _ _ _ _ _ _ _ _ _ _ _ _ _ _ _ _ _ _ _ _ _ _ _ _ _ _ _ _ _ _ _ _ _ _ _ _ _ _ _ _ _ _ _ _ _ _ _ _ _ _ _ _ _ _ _ _ _ _ _ _ _ _ _ _ _ _ _ _ _ _ _ _ _ _ _ _ _ _ _ _ _ _ _ _ _ _ _ _ _ _ _ _ _ _ _ _)) (fun u a' u' w2 hu h _ gen=>?_) (fun u a' u' w2 todo hu h hd gen=>?_)
 rotate_left
 ·rcases h.2 with⟨_,h6⟩|⟨h0,_⟩
  ·exact sb_ends (gen _ law_ext (hu.trans (Ext.below h.1))) Try.func8 rfl hd rfl (by kernel_rfl) h6
  ·cases h0
 obtain⟨hb,⟨h0,_⟩|⟨_,⟨hg,hc⟩,v25,v26,v27,v28,v29,v30,v31,ha⟩⟩:=h
 ·cases h0
 subst ha
 have K₂:=gen _ law_ext (hu.trans (Ext.below hb))
 clear gen hu hb K K₁ w₁ w'
 refine SB.into (H.seq (n:=4) ?_)
 refine H.region (n:=3) ?_
 rw[show List.range ops8r.size=[0,1,2,3,4,5,6,7,8,9] from rfl]
 refine H.pure (n:=2) _ (show ops8r[0]?=some _ from rfl) (by rfl) hk0 (fun _=>rfl) (fun _=>rfl) ?_
 refine H.pure (n:=1) _ (show ops8r[1]?=some _ from rfl) (by rfl) hk0 (fun _=>rfl) (fun _=>rfl) ?_
 refine H.pure (n:=0) _ (show ops8r[2]?=some _ from rfl) (by rfl) hk0 (fun _=>rfl) (fun _=>rfl) (Kn.out K₂ law_ext fun w₅ K₅=>?_)
 change SB Try.prog Shun' _ (G ((base 8).at ⟨#[.slice a L.length c,.int .i64 ch,.slice b chs.length d,u3,u4,u5,.bool false,u7,u8,u9,u10,u11,u12,u13,u14,u15,u16,u17,u18,u19,u20,u21,u22,.bool true,.bool false,v25,v26,v27,v28,v29,v30,v31,u32,.slice a L.length c,.int .i64 ch,.slice b chs.length d,u36,u37,u38,u39,u40,u41,u42,u43,u44,u45,u46,u47,u48,u49,u50,u51,u52,u53,u54,u55,u56,u57,u58,u59,u60,u61,u62,u63,u64,u65,u66,u67,u68,u69,u70,u71,u72,u73,u74,u75,u76,u77,u78,u79,u80,u81,u82,u83,u84,u85,u86,u87,u88,u89,u90,u91,u92,u93,u94,u95,u96,u97,u98,u99,u100,u101,u102,u103,u104,u105,u106,u107,u108,u109,u110,u111,u112,u113,u114,u115,u116,u117,u118,u119,u120,u121,u122,u123,u124,u125,u126,u127,u128,u129,u130,u131,u132],[]⟩ (.inRegion ops8r [3,4,5,6,7,8,9]::[.code (sndOf (sndOf c8r))])) []) w₅
 obtain⟨gl,gt⟩:=great_small hg
 refine law_run K₅ law_ext (fun u e=>e.size) (pt:=a) (ct:=c) (pc:=b) (cc:=d) (L:=L) (ch:=ch) (chs:=chs) (show ops8r[3]?=some _ from rfl) rfl rfl rfl rfl rfl (fun u e=>slT_ext hs e) (fun u e=>e.sl hp) hl (fun t ht x hx=>by have:=(gt t ht).2 x hx;omega) (fun s' S' Shun₂ w' v0 v1 v2 hv hO K₇=>?_) (fun w' hv K₇=>?_)
 ·exact law_tail K₇ (fun u h=>h.1) Try.func8 rfl (by kernel_rfl) rfl p8_3 (fun u hu=>finN (wp8_ok u a b c d L ch chs s' S' v0 v1 v2 (slT_ext hs hu.1) hg hv hO hu.2 _ _ _ _ _ _ _ _ _ _ _ _ _ _ _ _ _ _ _ _ _ _ _ _ _ _ _ _ _ _ _ _ _ _ _ _ _ _ _ _ _ _ _ _ _ _ _ _ _ _ _ _ _ _ _ _ _ _ _ _ _ _ _ _ _ _ _ _ _ _ _ _ _ _ _ _ _ _ _ _ _ _ _ _ _ _ _ _ _ _ _ _ _ _ _ _ _ _ _ _ _ _ _ _ _ _ _ _ _ _ _ _ _ _ _ _ _ _ _ _ _ _ _ _ _ _ _ _ _))
 ·exact law_tail K₇ (fun u h=>h) Try.func8 rfl (by kernel_rfl) rfl p8_3 (fun u hu=>wp8_no u a b c d L ch chs _ _ _ _ _ _ _ _ _ _ _ _ _ _ _ _ _ _ _ _ _ _ _ _ _ _ _ _ _ _ _ _ _ _ _ _ _ _ _ _ _ _ _ _ _ _ _ _ _ _ _ _ _ _ _ _ _ _ _ _ _ _ _ _ _ _ _ _ _ _ _ _ _ _ _ _ _ _ _ _ _ _ _ _ _ _ _ _ _ _ _ _ _ _ _ _ _ _ _ _ _ _ _ _ _ _ _ _ _ _ _ _ _ _ _ _ _ _ _ _ _ _ _ _ _ _ _ _ _)
theorem frame8(x y z:Value): #[x,y,z]++Array.replicate 130 undef= #[x,y,z,undef,undef,undef,undef,undef,undef,undef,undef,undef,undef,undef,undef,undef,undef,undef,undef,undef,undef,undef,undef,undef,undef,undef,undef,undef,undef,undef,undef,undef,undef,undef,undef,undef,undef,undef,undef,undef,undef,undef,undef,undef,undef,undef,undef,undef,undef,undef,undef,undef,undef,undef,undef,undef,undef,undef,undef,undef,undef,undef,undef,undef,undef,undef,undef,undef,undef,undef,undef,undef,undef,undef,undef,undef,undef,undef,undef,undef,undef,undef,undef,undef,undef,undef,undef,undef,undef,undef,undef,undef,undef,undef,undef,undef,undef,undef,undef,undef,undef,undef,undef,undef,undef,undef,undef,undef,undef,undef,undef,undef,undef,undef,undef,undef,undef,undef,undef,undef,undef,undef,undef,undef,undef,undef,undef,undef,undef,undef,undef,undef,undef]:=by kernel_rfl
set_option maxRecDepth 100000 in
theorem driverOnce_walk(W:World)(a:Option Addr)(c:Nat)(L:List TkD)(hs:SlT W a L)(_:∀t∈L,True)(hl:L.length≤maxLen)(ch:Int)(_:IntOk .i64 ch)(b:Option Addr)(d:Nat)(chs:List Int)(hp:Sl (Value.int .i64) W b chs)(_:∀y∈chs,IntOk .i64 y)(hl2:chs.length≤maxLen):
  Law Try.prog 8 #[.slice a L.length c,.int .i64 ch,.slice b chs.length d] W:=by
 have h:=once_in W a b c d L ch chs hs hp hl hl2 undef undef undef undef undef undef undef undef undef undef undef undef undef undef undef undef undef undef undef undef undef undef undef undef undef undef undef undef undef undef undef undef undef undef undef undef undef undef undef undef undef undef undef undef undef undef undef undef undef undef undef undef undef undef undef undef undef undef undef undef undef undef undef undef undef undef undef undef undef undef undef undef undef undef undef undef undef undef undef undef undef undef undef undef undef undef undef undef undef undef undef undef undef undef undef undef undef undef undef undef undef undef undef undef undef undef undef undef undef undef undef undef undef undef undef undef undef undef undef undef undef undef undef undef undef undef undef undef undef undef
 rw[←frame8] at h
 exact sb_law h
end
end Go.Side
