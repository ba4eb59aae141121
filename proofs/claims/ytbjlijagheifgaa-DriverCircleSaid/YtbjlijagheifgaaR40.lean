/-
  Texts of Ytbjlijagheifgaa, merged.
-/
import Derived.Test.YtbjlijagheifgaaR39
set_option linter.unusedSimpArgs false
set_option linter.unusedVariables false
namespace Go.Side
section
open Go Go.Conc Go.ConcN Go.Proofs Go.RowKit Go.Proofs.Ytbjlijagheifgaa
theorem frame11: #[]++Array.replicate 45 undef= #[undef,undef,undef,undef,undef,undef,undef,undef,undef,undef,undef,undef,undef,undef,undef,undef,undef,undef,undef,undef,undef,undef,undef,undef,undef,undef,undef,undef,undef,undef,undef,undef,undef,undef,undef,undef,undef,undef,undef,undef,undef,undef,undef,undef,undef]:=by kernel_rfl
theorem frame4(x y z v:Value): #[x,y,z,v]++Array.replicate 93 undef= #[x,y,z,v,undef,undef,undef,undef,undef,undef,undef,undef,undef,undef,undef,undef,undef,undef,undef,undef,undef,undef,undef,undef,undef,undef,undef,undef,undef,undef,undef,undef,undef,undef,undef,undef,undef,undef,undef,undef,undef,undef,undef,undef,undef,undef,undef,undef,undef,undef,undef,undef,undef,undef,undef,undef,undef,undef,undef,undef,undef,undef,undef,undef,undef,undef,undef,undef,undef,undef,undef,undef,undef,undef,undef,undef,undef,undef,undef,undef,undef,undef,undef,undef,undef,undef,undef,undef,undef,undef,undef,undef,undef,undef,undef,undef,undef]:=by kernel_rfl
theorem ext_C{W:World}:ExtC (Ext W):=fun _ _ e h=>h.trans e
set_option maxRecDepth 100000 in
set_option maxHeartbeats 4000000 in
theorem circle_in(W:World)(t q:Nat)(ht:t≤255)(hq:q≤255)(r:Bool)(a:Option Addr)(c:Nat)(ch:List Int)(hs:Sl (Value.int .i64) W a ch)(hm:ch.length≤maxLen)(u4 u5 u6 u7 u8 u9 u10 u11 u12 u13 u14 u15 u16 u17 u18 u19 u20 u21 u22 u23 u24 u25 u26 u27 u28 u29 u30 u31 u32 u33 u34 u35 u36 u37 u38 u39 u40 u41 u42 u43 u44 u45 u46 u47 u48 u49 u50 u51 u52 u53 u54 u55 u56 u57 u58 u59 u60 u61 u62 u63 u64 u65 u66 u67 u68 u69 u70 u71 u72 u73 u74 u75 u76 u77 u78 u79 u80 u81 u82 u83 u84 u85 u86 u87 u88 u89 u90 u91 u92 u93 u94 u95 u96:Value):
  SB Try.prog (fun _=>False) (EndM Try.prog fun v w'=>v= .bool true∧Stood W w') (G ((base 4).at ⟨#[.int .u8 (t:Int),.int .u8 (q:Int),.bool r,.slice a ch.length c,u4,u5,u6,u7,u8,u9,u10,u11,u12,u13,u14,u15,u16,u17,u18,u19,u20,u21,u22,u23,u24,u25,u26,u27,u28,u29,u30,u31,u32,u33,u34,u35,u36,u37,u38,u39,u40,u41,u42,u43,u44,u45,u46,u47,u48,u49,u50,u51,u52,u53,u54,u55,u56,u57,u58,u59,u60,u61,u62,u63,u64,u65,u66,u67,u68,u69,u70,u71,u72,u73,u74,u75,u76,u77,u78,u79,u80,u81,u82,u83,u84,u85,u86,u87,u88,u89,u90,u91,u92,u93,u94,u95,u96],[]⟩ [.code b4]) []) W:=by
 have H:=gait_b Try.prog (fun _=>False) (EndM Try.prog fun v w'=>v= .bool true∧Stood W w')
 have hk0:(base 4).kind≠ .early:=by decide
 have hN:∀u,Ext W u→W.heap.size≤u.heap.size:=fun u e=>e.size
 have K:=kn_start W
 rw[show b4=c4 0 from rfl,c4_seq 0 (by decide)]
 refine SB.into (H.seq (n:=0) (Kn.out K ext_C fun w₁ K₁=>?_))
 refine K₁.lone (items:=[.code (fstOf (c4 0))]) (k:=[.code (c4 1)]) lawOK ⟨_,Try.func4⟩ rfl p4_0 rfl (Q:=fun u e a' u'=>e= .normal∧a'=⟨#[.int .u8 (t:Int),.int .u8 (q:Int),.bool r,.slice a ch.length c,u4,u5,u6,u7,.bool false,u9,u10,u11,u12,u13,u14,u15,u16,u17,u18,u19,u20,u21,u22,u23,u24,u25,u26,u27,u28,u29,u30,u31,u32,u33,u34,u35,u36,u37,u38,u39,u40,u41,u42,u43,u44,u45,u46,u47,u48,u49,u50,u51,u52,u53,u54,u55,u56,u57,u58,u59,u60,u61,u62,u63,u64,u65,u66,u67,u68,u69,u70,u71,u72,u73,u74,u75,u76,u77,u78,u79,u80,u81,u82,u83,u84,u85,u86,u87,u88,u89,u90,u91,u92,u93,u94,u95,u96],[]⟩∧u'=u)
  (fun u e a' u' h=>.inl h.1) (fun u hu=>ItemsWp.code (wp_c4_0 u _ _ _ _ _ _ _ _ _ _ _ _ _ _ _ _ _ _ _ _ _ _ _ _ _ _ _ _ _ _ _ _ _ _ _ _ _ _ _ _ _ _ _ _ _ _ _ _ _ _ _ _ _ _ _ _ _ _ _ _ _ _ _ _ _ _ _ _ _ _ _ _ _ _ _ _ _ _ _ _ _ _ _ _ _ _ _ _ _ _ _ _ _ _ _ _ _)) (fun u a' u' w' hu ⟨_,ha,hw⟩ _ gen=>?_) (fun u a' u' w' todo _ h=>by cases h.1)
 subst ha
 subst hw
 have K₂:=gen _ ext_C hu
 clear gen hu K₁ w₁
 rw[c4_seq 1 (by decide)]
 refine SB.into (H.seq (n:=2) ?_)
 rw[c4_1]
 refine H.seq (n:=1) ?_
 refine H.region (n:=0) (Kn.out K₂ ext_C fun w₃ K₃=>?_)
 rw[show List.range ops4_1.size=[0,1] from rfl]
 refine SB.into (H.call (n:=0) (f:=11) (c:=b11) (args:= #[]) (ats:= #[]) (show ops4_1[0]?=some _ from rfl) (by rfl) hk0 rfl Try.func11 (by decide) rfl (Kn.out K₃ ext_C fun w₅ K₆=>?_))
 rw[show Try.f11.ntmps=45 from Try.ntmps11]
 simp only[List.map_toArray,List.map_nil,List.size_toArray,List.length_nil,Nat.reduceSub,frame11]
 refine awake_sb K₆ ext_C hN _ _ _ _ _ _ _ _ _ _ _ _ _ _ _ _ _ _ _ _ _ _ _ _ _ _ _ _ _ _ _ _ _ _ _ _ _ _ _ _ _ _ _ _ _ (fun Shun' w' K₇=>?_)
 clear K₂ K₃ K₆ w₃ w₅ H
 have H:=gait_b Try.prog Shun' (EndM Try.prog fun v w'=>v= .bool true∧Stood W w')
 rw[Frame.finish_at]
 change SB Try.prog Shun' _ (G ((base 4).at ⟨#[.int .u8 (t:Int),.int .u8 (q:Int),.bool r,.slice a ch.length c,u4,u5,u6,u7,.bool false,u9,u10,u11,u12,u13,u14,.bool true,u16,u17,u18,u19,u20,u21,u22,u23,u24,u25,u26,u27,u28,u29,u30,u31,u32,u33,u34,u35,u36,u37,u38,u39,u40,u41,u42,u43,u44,u45,u46,u47,u48,u49,u50,u51,u52,u53,u54,u55,u56,u57,u58,u59,u60,u61,u62,u63,u64,u65,u66,u67,u68,u69,u70,u71,u72,u73,u74,u75,u76,u77,u78,u79,u80,u81,u82,u83,u84,u85,u86,u87,u88,u89,u90,u91,u92,u93,u94,u95,u96],[]⟩ (.inRegion ops4_1 [1]:: .code (sndOf (fstOf (c4 1)))::[.code (c4 2)])) []) w'
 refine K₇.lone (items:=[.inRegion ops4_1 [1],.code (sndOf (fstOf (c4 1)))]) (k:=[.code (c4 2)]) lawOK ⟨_,Try.func4⟩ rfl p4_1 rfl (Q:=fun u e a' u'=>e= .normal∧a'=⟨#[.int .u8 (t:Int),.int .u8 (q:Int),.bool r,.slice a ch.length c,u4,u5,u6,u7,.bool false,u9,u10,u11,u12,u13,u14,.bool true,.bool false,u17,u18,u19,u20,u21,u22,u23,u24,u25,u26,u27,u28,u29,u30,u31,u32,u33,u34,u35,u36,u37,u38,u39,u40,u41,u42,u43,u44,u45,u46,u47,u48,u49,u50,u51,u52,u53,u54,u55,u56,u57,u58,u59,u60,u61,u62,u63,u64,u65,u66,u67,u68,u69,u70,u71,u72,u73,u74,u75,u76,u77,u78,u79,u80,u81,u82,u83,u84,u85,u86,u87,u88,u89,u90,u91,u92,u93,u94,u95,u96],[]⟩∧u'=u)
  (fun u e a' u' h=>.inl h.1) (fun u hu=>wp_c4_1 u _ _ _ _ _ _ _ _ _ _ _ _ _ _ _ _ _ _ _ _ _ _ _ _ _ _ _ _ _ _ _ _ _ _ _ _ _ _ _ _ _ _ _ _ _ _ _ _ _ _ _ _ _ _ _ _ _ _ _ _ _ _ _ _ _ _ _ _ _ _ _ _ _ _ _ _ _ _ _ _ _ _ _ _ _ _ _ _ _ _ _ _ _ _ _ _) (fun u a' u' w8 hu ⟨_,ha,hw⟩ _ gen=>?_) (fun u a' u' w8 todo _ h=>by cases h.1)
 subst ha
 subst hw
 have K₂:=gen _ ext_C hu
 clear gen hu K₇ w'
 rw[c4_seq 2 (by decide)]
 refine SB.into (H.seq (n:=0) (Kn.out K₂ ext_C fun w₁ K₁=>?_))
 refine K₁.lone (items:=[.code (fstOf (c4 2))]) (k:=[.code (c4 3)]) lawOK ⟨_,Try.func4⟩ rfl p4_2 rfl (Q:=fun u e a' u'=>e= .normal∧(∃v17 v18 v19 v20,a'=⟨#[.int .u8 (t:Int),.int .u8 (q:Int),.bool r,.slice a ch.length c,u4,u5,u6,u7,.bool false,.int .i64 ((2+t%7:Nat):Int),u10,u11,u12,u13,u14,.bool true,.bool false,v17,v18,v19,v20,u21,u22,u23,u24,u25,u26,u27,u28,u29,u30,u31,u32,u33,u34,u35,u36,u37,u38,u39,u40,u41,u42,u43,u44,u45,u46,u47,u48,u49,u50,u51,u52,u53,u54,u55,u56,u57,u58,u59,u60,u61,u62,u63,u64,u65,u66,u67,u68,u69,u70,u71,u72,u73,u74,u75,u76,u77,u78,u79,u80,u81,u82,u83,u84,u85,u86,u87,u88,u89,u90,u91,u92,u93,u94,u95,u96],[]⟩)∧u'=u)
  (fun u e a' u' h=>.inl h.1) (fun u hu=>ItemsWp.code (wp_c4_2 u t ht _ _ _ _ _ _ _ _ _ _ _ _ _ _ _ _ _ _ _ _ _ _ _ _ _ _ _ _ _ _ _ _ _ _ _ _ _ _ _ _ _ _ _ _ _ _ _ _ _ _ _ _ _ _ _ _ _ _ _ _ _ _ _ _ _ _ _ _ _ _ _ _ _ _ _ _ _ _ _ _ _ _ _ _ _ _ _ _ _ _ _ _ _ _ _ _)) (fun u a' u' w' hu ⟨_,⟨v17,v18,v19,v20,ha⟩,hw⟩ _ gen=>?_) (fun u a' u' w' todo _ h=>by cases h.1)
 subst ha
 subst hw
 have K₂':=gen _ ext_C hu
 clear gen hu K₁ K₂ w₁ w8
 obtain⟨n,hnn⟩:∃n,n=2+t%7:=⟨_,rfl⟩
 have hn:2≤n∧n≤8:=by omega
 rw[←hnn]
 clear hnn
 rw[c4_seq 3 (by decide)]
 refine SB.into (H.seq (n:=0) (Kn.out K₂' ext_C fun w₁ K₁=>?_))
 refine K₁.lone (items:=[.code (fstOf (c4 3))]) (k:=[.code (c4 4)]) lawOK ⟨_,Try.func4⟩ rfl p4_3 rfl (Q:=fun u e a' u'=>u'=u∧((e= .ret∧a'.tmps.getD 8 undef= .bool true)∨(e= .normal∧ch.length≤300∧(∃v21 v22 v23,a'=⟨#[.int .u8 (t:Int),.int .u8 (q:Int),.bool r,.slice a ch.length c,u4,u5,u6,u7,.bool false,.int .i64 (n:Int),u10,u11,u12,u13,u14,.bool true,.bool false,v17,v18,v19,v20,v21,v22,v23,u24,u25,u26,u27,u28,u29,u30,u31,u32,u33,u34,u35,u36,u37,u38,u39,u40,u41,u42,u43,u44,u45,u46,u47,u48,u49,u50,u51,u52,u53,u54,u55,u56,u57,u58,u59,u60,u61,u62,u63,u64,u65,u66,u67,u68,u69,u70,u71,u72,u73,u74,u75,u76,u77,u78,u79,u80,u81,u82,u83,u84,u85,u86,u87,u88,u89,u90,u91,u92,u93,u94,u95,u96],[]⟩))))
  (fun u e a' u' h=>h.2.elim (fun h=>.inr h.1) (fun h=>.inl h.1)) (fun u hu=>ItemsWp.code (wp_c4_3 u a c ch hm _ _ _ _ _ _ _ _ _ _ _ _ _ _ _ _ _ _ _ _ _ _ _ _ _ _ _ _ _ _ _ _ _ _ _ _ _ _ _ _ _ _ _ _ _ _ _ _ _ _ _ _ _ _ _ _ _ _ _ _ _ _ _ _ _ _ _ _ _ _ _ _ _ _ _ _ _ _ _ _ _ _ _ _ _ _ _ _ _ _ _ _ _ _ _ _)) (fun u a' u' w2 hu ⟨hw,h⟩ _ gen=>?_) (fun u a' u' w2 todo hu ⟨hw,h⟩ hd gen=>?_)
 rotate_left
 ·subst hw
  rcases h with⟨_,h8⟩|⟨h,_⟩
  ·exact sb_ends (gen _ ext_C hu) Try.func4 rfl hd rfl (by kernel_rfl) h8
  ·cases h
 subst hw
 rcases h with⟨h,_⟩|⟨_,_,v21,v22,v23,ha⟩
 ·cases h
 subst ha
 have K₂:=gen _ ext_C hu
 clear gen hu K₁ K₂' w₁ w'
 rw[c4_seq 4 (by decide)]
 refine SB.into (H.seq (n:=0) (Kn.out K₂ ext_C fun w₁ K₁=>?_))
 refine K₁.lone (items:=[.code (fstOf (c4 4))]) (k:=[.code (c4 5)]) lawOK ⟨_,Try.func4⟩ rfl p4_4 rfl (Q:=fun u e a' u'=>e= .normal∧a'=⟨#[.int .u8 (t:Int),.int .u8 (q:Int),.bool r,.slice a ch.length c,u4,u5,u6,u7,.bool false,.int .i64 (n:Int),.slice none 0 0,u11,u12,u13,u14,.bool true,.bool false,v17,v18,v19,v20,v21,v22,v23,u24,u25,u26,u27,u28,u29,u30,u31,u32,u33,u34,u35,u36,u37,u38,u39,u40,u41,u42,u43,u44,u45,u46,u47,u48,u49,u50,u51,u52,u53,u54,u55,u56,u57,u58,u59,u60,u61,u62,u63,u64,u65,u66,u67,u68,u69,u70,u71,u72,u73,u74,u75,u76,u77,u78,u79,u80,u81,u82,u83,u84,u85,u86,u87,u88,u89,u90,u91,u92,u93,u94,u95,u96],[]⟩∧u'=u)
  (fun u e a' u' h=>.inl h.1) (fun u hu=>ItemsWp.code (wp_c4_4 u _ _ _ _ _ _ _ _ _ _ _ _ _ _ _ _ _ _ _ _ _ _ _ _ _ _ _ _ _ _ _ _ _ _ _ _ _ _ _ _ _ _ _ _ _ _ _ _ _ _ _ _ _ _ _ _ _ _ _ _ _ _ _ _ _ _ _ _ _ _ _ _ _ _ _ _ _ _ _ _ _ _ _ _ _ _ _ _ _ _ _ _ _ _ _ _ _)) (fun u a' u' w' hu ⟨_,ha,hw⟩ _ gen=>?_) (fun u a' u' w' todo _ h=>by cases h.1)
 subst ha
 subst hw
 have K₃:=gen _ ext_C hu
 clear gen hu K₁ K₂ w₁ w2
 rw[c4_seq 5 (by decide)]
 refine SB.into (H.seq (n:=0) (Kn.out K₃ ext_C fun w₁ K₁=>?_))
 refine K₁.lone (items:=[.code (fstOf (c4 5))]) (k:=[.code (c4 6)]) lawOK ⟨_,Try.func4⟩ rfl p4_5 rfl (Q:=fun u=>QN fun a' u'=>CirLp u n q r a' u' fun v f=>⟨#[.int .u8 (t:Int),.int .u8 (q:Int),.bool r,.slice a ch.length c,u4,u5,u6,u7,.bool false,.int .i64 (n:Int),v,f 11,f 12,u13,u14,.bool true,.bool false,v17,v18,v19,v20,v21,v22,v23,f 24,f 25,f 26,f 27,f 28,f 29,f 30,f 31,f 32,f 33,f 34,f 35,f 36,f 37,f 38,f 39,f 40,f 41,f 42,f 43,f 44,f 45,f 46,f 47,f 48,f 49,f 50,f 51,f 52,f 53,f 54,f 55,f 56,f 57,f 58,f 59,f 60,f 61,f 62,f 63,u64,u65,u66,u67,u68,u69,u70,u71,u72,u73,u74,u75,u76,u77,u78,u79,u80,u81,u82,u83,u84,u85,u86,u87,u88,u89,u90,u91,u92,u93,u94,u95,u96],[]⟩)
  (fun u e a' u' h=>by cases e<;>first|exact .inl rfl|exact h.elim) (fun u hu=>ItemsWp.code (wp_c4_5 u n q r hn hq _ _ _ _ _ _ _ _ _ _ _ _ _ _ _ _ _ _ _ _ _ _ _ _ _ _ _ _ _ _ _ _ _ _ _ _ _ _ _ _ _ _ _ _ _ _ _ _ _ _ _ _ _ _ _ _ _ _ _ _ _ _ _ _ _ _ _ _ _ _ _ _ _ _ _ _ _ _ _ _ _ _ _ _ _ _ _ _ _ _ _ _ _)) (fun u a' u' w' hu h _ gen=>?_) (fun u a' u' w' todo _ h=>h.elim)
 obtain⟨v,L,hCL,hops,hbel,f,ha⟩:=h
 subst ha
 have hL:L.length=n:=by simpa using congrArg List.length hops
 have hne:L≠[]:=fun e=>by rw[e] at hL;simp at hL;omega
 obtain⟨g,k,rfl,hT⟩:=hCL.slT hne
 have hel:=hCL.el
 let F₁:World→Prop:=fun x=>Ext W x∧SlT x (some ⟨g,0,none⟩) L
 have hF₁:ExtC F₁:=fun x y e h=>⟨h.1.trans e,slT_ext h.2 e⟩
 have K₄:=gen F₁ hF₁ ⟨hu.trans (Ext.below hbel),hT⟩
 clear gen hu hT hCL hbel K₁ K₃ w₁
 rw[c4_seq 6 (by decide)]
 refine SB.into (H.seq (n:=4) ?_)
 rw[c4_6]
 refine H.region (n:=3) ?_
 rw[show List.range ops4_15.size=[0,1,2,3,4,5,6,7,8,9] from rfl]
 refine H.pure (n:=2) _ (show ops4_15[0]?=some _ from rfl) (by rfl) hk0 (fun _=>rfl) (fun _=>rfl) ?_
 refine H.pure (n:=1) _ (show ops4_15[1]?=some _ from rfl) (by rfl) hk0 (fun _=>rfl) (fun _=>rfl) ?_
 refine H.pure (n:=0) _ (show ops4_15[2]?=some _ from rfl) (by rfl) hk0 (fun _=>rfl) (fun _=>rfl) (Kn.out K₄ hF₁ fun w₅ K₅=>?_)
 change SB Try.prog Shun' _ (G ((base 4).at ⟨#[.int .u8 (t:Int),.int .u8 (q:Int),.bool r,.slice a ch.length c,u4,u5,u6,u7,.bool false,.int .i64 (n:Int),.slice (some ⟨g,0,none⟩) L.length k,f 11,f 12,u13,u14,.bool true,.bool false,v17,v18,v19,v20,v21,v22,v23,f 24,f 25,f 26,f 27,f 28,f 29,f 30,f 31,f 32,f 33,f 34,f 35,f 36,f 37,f 38,f 39,f 40,f 41,f 42,f 43,f 44,f 45,f 46,f 47,f 48,f 49,f 50,f 51,f 52,f 53,f 54,f 55,f 56,f 57,f 58,f 59,f 60,f 61,f 62,f 63,u64,.slice (some ⟨g,0,none⟩) L.length k,.int .i64 (n:Int),.slice a ch.length c,u68,u69,u70,u71,u72,u73,u74,u75,u76,u77,u78,u79,u80,u81,u82,u83,u84,u85,u86,u87,u88,u89,u90,u91,u92,u93,u94,u95,u96],[]⟩ (.inRegion ops4_15 [3,4,5,6,7,8,9]::[.code (c4 7)])) []) w₅
 refine SB.into (H.call (n:=0) (f:=12) (c:=b12) (args:= #[.tmp 65,.tmp 66,.tmp 67]) (ats:= #[25,3,23]) (show ops4_15[3]?=some _ from rfl) (by rfl) hk0 rfl Try.func12 (by decide) rfl (Kn.out K₅ hF₁ fun w₆ K₆=>?_))
 rw[show Try.f12.ntmps=79 from Try.ntmps12]
 simp only[List.map_toArray,List.map_cons,List.map_nil,List.size_toArray,List.length_cons,List.length_nil,Nat.reduceAdd,Nat.reduceSub,Act.eval,Array.getD_eq_getD_getElem?,List.getElem?_toArray,List.getElem?_cons_succ,List.getElem?_cons_zero,Option.getD_some,frame12]
 change SB Try.prog Shun' _ (G ((base 12).at ⟨#[.slice (some ⟨g,0,none⟩) L.length k,.int .i64 (n:Int),.slice a ch.length c,undef,undef,undef,undef,undef,undef,undef,undef,undef,undef,undef,undef,undef,undef,undef,undef,undef,undef,undef,undef,undef,undef,undef,undef,undef,undef,undef,undef,undef,undef,undef,undef,undef,undef,undef,undef,undef,undef,undef,undef,undef,undef,undef,undef,undef,undef,undef,undef,undef,undef,undef,undef,undef,undef,undef,undef,undef,undef,undef,undef,undef,undef,undef,undef,undef,undef,undef,undef,undef,undef,undef,undef,undef,undef,undef,undef],[]⟩ [.code b12]) (_::[])) w₆
 refine run_call K₆ hF₁ (fun u h=>hN _ h.1) (pt:=some ⟨g,0,none⟩) (ct:=k) (pc:=a) (cc:=c) (L:=L) (ch:=(n:Int)) (chs:=ch) (fun u h=>h.2) (fun u h=>h.1.sl hs) (by unfold maxLen;omega) hel _ _ _ _ _ _ _ _ _ _ _ _ _ _ _ _ _ _ _ _ _ _ _ _ _ _ _ _ _ _ _ _ _ _ _ _ _ _ _ _ _ _ _ _ _ _ _ _ _ _ _ _ _ _ _ _ _ _ _ _ _ _ _ _ _ _ _ _ _ _ _ _ _ _ _ _ (fun c' S' Shun₂ w' v0 v1 v2 _ hrun K₇=>?_) (fun w' hv _=>by rw[cir_valid hn hops] at hv;cases hv)
 obtain⟨ux,V7⟩:=View.ex K₇.sh
 have hE:∀t∈L,∀x∈t.ops,EL L (opv x)=x.el:=fun t ht x hx=>EL_eq (K₇.all ux V7).1.2 ht hx
 obtain⟨s',hO,hs',hst⟩:=hrun.plain hE
 obtain⟨e2,e0⟩:=cir_run hn hops hO
 rw[hs',hst] at K₇
 rw[Frame.finish_at]
 change SB Try.prog Shun₂ _ (G ((base 4).at ⟨#[.int .u8 (t:Int),.int .u8 (q:Int),.bool r,.slice a ch.length c,u4,u5,u6,u7,.bool false,.int .i64 (n:Int),.slice (some ⟨g,0,none⟩) L.length k,f 11,f 12,u13,u14,.bool true,.bool false,v17,v18,v19,v20,v21,v22,v23,f 24,f 25,f 26,f 27,f 28,f 29,f 30,f 31,f 32,f 33,f 34,f 35,f 36,f 37,f 38,f 39,f 40,f 41,f 42,f 43,f 44,f 45,f 46,f 47,f 48,f 49,f 50,f 51,f 52,f 53,f 54,f 55,f 56,f 57,f 58,f 59,f 60,f 61,f 62,f 63,u64,.slice (some ⟨g,0,none⟩) L.length k,.int .i64 (n:Int),.slice a ch.length c,.tuple #[.agg #[v0,v1,v2],.int .i64 0],u69,u70,u71,u72,u73,u74,u75,u76,u77,u78,u79,u80,u81,u82,u83,u84,u85,u86,u87,u88,u89,u90,u91,u92,u93,u94,u95,u96],[]⟩ (.inRegion ops4_15 [4,5,6,7,8,9]::[.code (c4 7)])) []) w'
 refine K₇.lone (items:=[.inRegion ops4_15 [4,5,6,7,8,9],.code (c4 7)]) (k:=[]) lawOK ⟨_,Try.func4⟩ rfl p4_6 rfl (Q:=fun u e a' u'=>e= .ret∧a'.tmps.getD 8 undef= .bool true∧Below u.heap.size u u') (fun u e a' u' h=>.inr h.1) (fun u hu=>?_) (fun u a' u' w' _ h=>by cases h.1) fun u a' u' w8 todo hu ⟨_,h0,hb⟩ hd' gen=>?_
 ·obtain⟨⟨a0,k0,hv0, -⟩,⟨a1,k1,hv1, -⟩,⟨a2,k2,hv2, -⟩⟩:=hu.2
  rw[hv0,hv1,hv2]
  exact wp_c4_6 u a0 a1 a2 _ _ _ k0 k1 k2 n r hn e2 e0 _ _ _ _ _ _ _ _ _ _ _ _ _ _ _ _ _ _ _ _ _ _ _ _ _ _ _ _ _ _ _ _ _ _ _ _ _ _ _ _ _ _ _ _ _ _ _ _ _ _ _ _ _ _ _ _ _ _ _ _ _ _ _ _ _ _ _ _ _ _ _ _ _ _ _ _ _ _ _ _ _ _ _ _ _ _ _ _ _ _ _ _ _ _
 ·exact sb_ends (gen _ ext_C (hu.1.1.trans (Ext.below hb))) Try.func4 rfl hd' rfl (by kernel_rfl) h0
set_option maxRecDepth 100000 in
theorem driverCircle_law(W:World)(t q:Nat)(ht:t≤255)(hq:q≤255)(r:Bool)(a:Option Addr)(c:Nat)(ch:List Int)(hs:Sl (Value.int .i64) W a ch)(hm:ch.length≤maxLen):
  Law Try.prog 4 #[.int .u8 (t:Int),.int .u8 (q:Int),.bool r,.slice a ch.length c] W:=by
 have h:=circle_in W t q ht hq r a c ch hs hm undef undef undef undef undef undef undef undef undef undef undef undef undef undef undef undef undef undef undef undef undef undef undef undef undef undef undef undef undef undef undef undef undef undef undef undef undef undef undef undef undef undef undef undef undef undef undef undef undef undef undef undef undef undef undef undef undef undef undef undef undef undef undef undef undef undef undef undef undef undef undef undef undef undef undef undef undef undef undef undef undef undef undef undef undef undef undef undef undef undef undef undef undef
 rw[←frame4] at h
 exact sb_law h
theorem driverCircle_walk(W:World)(z0:Int)(w0:IntOk .u8 z0)(z1:Int)(w1:IntOk .u8 z1)(r:Bool)(a:Option Addr)(c:Nat)(ch:List Int)(hs:Sl (Value.int .i64) W a ch)(_:∀y∈ch,IntOk .i64 y)(hm:ch.length≤maxLen):
  Law Try.prog 4 #[.int .u8 z0,.int .u8 z1,.bool r,.slice a ch.length c] W:=by
 have b0:0≤z0∧z0≤255:=by simpa[IntOk,Lit.wf,IntKind.min,IntKind.max,IntKind.signed,IntKind.bits] using w0
 have b1:0≤z1∧z1≤255:=by simpa[IntOk,Lit.wf,IntKind.min,IntKind.max,IntKind.signed,IntKind.bits] using w1
 obtain⟨t,rfl⟩:=Int.eq_ofNat_of_zero_le b0.1
 obtain⟨q,rfl⟩:=Int.eq_ofNat_of_zero_le b1.1
 exact driverCircle_law W t q (by omega) (by omega) r a c ch hs hm
end
end Go.Side
