/-
  Texts of Ytbjlijagheifgaa, merged.
-/
import Derived.Test.YtbjlijagheifgaaP40
import Derived.Test.YtbjlijagheifgaaP39
set_option linter.unusedSimpArgs false
set_option linter.unusedVariables false
namespace Go.Side
section
open Go Go.Conc Go.ConcN Go.Proofs Go.RowKit Go.Proofs.Ytbjlijagheifgaa
theorem u8_in{n:Int}(h:IntOk .u8 n):0≤n∧n≤255:=by
 have h:(Lit.int .u8 n).wf=true:=h
 simpa[Lit.wf,IntKind.min,IntKind.max,IntKind.signed,IntKind.bits] using h
theorem i16_in{n:Int}(h:IntOk .i16 n): -32768≤n∧n≤32767:=by
 have h:(Lit.int .i16 n).wf=true:=h
 simpa[Lit.wf,IntKind.min,IntKind.max,IntKind.signed,IntKind.bits] using h
set_option maxRecDepth 100000 in
set_option maxHeartbeats 4000000 in
theorem pipe_in(W:World)(va b:Option Addr)(vc d t:Nat)(vs chs:List Int)(ht:t≤255)(hs:Sl (Value.int .i16) W va vs)(hv:∀v∈vs, -32768≤v∧v≤32767)(hp:Sl (Value.int .i64) W b chs)(hl:vs.length≤maxLen)(hl2:chs.length≤maxLen)(u3 u4 u5 u6 u7 u8 u9 u10 u11 u12 u13 u14 u15 u16 u17 u18 u19 u20 u21 u22 u23 u24 u25 u26 u27 u28 u29 u30 u31 u32 u33 u34 u35 u36 u37 u38 u39 u40 u41 u42 u43 u44 u45 u46 u47 u48 u49 u50 u51 u52 u53 u54 u55 u56 u57 u58 u59 u60 u61 u62 u63 u64 u65 u66 u67 u68 u69 u70 u71 u72 u73 u74 u75 u76 u77 u78 u79 u80 u81 u82 u83 u84 u85 u86 u87 u88 u89 u90 u91 u92 u93 u94 u95 u96 u97 u98 u99 u100 u101 u102 u103 u104 u105 u106 u107 u108 u109 u110 u111 u112 u113 u114 u115 u116 u117 u118 u119 u120 u121 u122:Value):
  SB Try.prog (fun _=>False) (EndM Try.prog fun v w'=>v= .bool true∧Stood W w') (G ((base 3).at ⟨#[.slice va vs.length vc,.int .u8 (t:Int),.slice b chs.length d,u3,u4,u5,u6,u7,u8,u9,u10,u11,u12,u13,u14,u15,u16,u17,u18,u19,u20,u21,u22,u23,u24,u25,u26,u27,u28,u29,u30,u31,u32,u33,u34,u35,u36,u37,u38,u39,u40,u41,u42,u43,u44,u45,u46,u47,u48,u49,u50,u51,u52,u53,u54,u55,u56,u57,u58,u59,u60,u61,u62,u63,u64,u65,u66,u67,u68,u69,u70,u71,u72,u73,u74,u75,u76,u77,u78,u79,u80,u81,u82,u83,u84,u85,u86,u87,u88,u89,u90,u91,u92,u93,u94,u95,u96,u97,u98,u99,u100,u101,u102,u103,u104,u105,u106,u107,u108,u109,u110,u111,u112,u113,u114,u115,u116,u117,u118,u119,u120,u121,u122],[]⟩ [.code b3]) []) W:=by
 rw[b3_eq]
 refine law_start (q:=17) (a1:=⟨#[.slice va vs.length vc,.int .u8 (t:Int),.slice b chs.length d,u3,u4,u5,.bool false,u7,u8,u9,u10,u11,u12,u13,u14,u15,u16,u17,u18,u19,u20,u21,u22,u23,u24,u25,u26,u27,u28,u29,u30,u31,u32,u33,u34,u35,u36,u37,u38,u39,u40,u41,u42,u43,u44,u45,u46,u47,u48,u49,u50,u51,u52,u53,u54,u55,u56,u57,u58,u59,u60,u61,u62,u63,u64,u65,u66,u67,u68,u69,u70,u71,u72,u73,u74,u75,u76,u77,u78,u79,u80,u81,u82,u83,u84,u85,u86,u87,u88,u89,u90,u91,u92,u93,u94,u95,u96,u97,u98,u99,u100,u101,u102,u103,u104,u105,u106,u107,u108,u109,u110,u111,u112,u113,u114,u115,u116,u117,u118,u119,u120,u121,u122],[]⟩) (a2:=⟨#[.slice va vs.length vc,.int .u8 (t:Int),.slice b chs.length d,u3,u4,u5,.bool false,u7,u8,u9,u10,u11,u12,u13,u14,u15,u16,.bool true,.bool false,u19,u20,u21,u22,u23,u24,u25,u26,u27,u28,u29,u30,u31,u32,u33,u34,u35,u36,u37,u38,u39,u40,u41,u42,u43,u44,u45,u46,u47,u48,u49,u50,u51,u52,u53,u54,u55,u56,u57,u58,u59,u60,u61,u62,u63,u64,u65,u66,u67,u68,u69,u70,u71,u72,u73,u74,u75,u76,u77,u78,u79,u80,u81,u82,u83,u84,u85,u86,u87,u88,u89,u90,u91,u92,u93,u94,u95,u96,u97,u98,u99,u100,u101,u102,u103,u104,u105,u106,u107,u108,u109,u110,u111,u112,u113,u114,u115,u116,u117,u118,u119,u120,u121,u122],[]⟩) ⟨_,Try.func3⟩ (show ops3[0]?=some _ from rfl) rfl rfl rfl rfl rfl rfl q3_0 q3_1 (fun u=>wq3_0 u _ _ _ _ _ _ _ _ _ _ _ _ _ _ _ _ _ _ _ _ _ _ _ _ _ _ _ _ _ _ _ _ _ _ _ _ _ _ _ _ _ _ _ _ _ _ _ _ _ _ _ _ _ _ _ _ _ _ _ _ _ _ _ _ _ _ _ _ _ _ _ _ _ _ _ _ _ _ _ _ _ _ _ _ _ _ _ _ _ _ _ _ _ _ _ _ _ _ _ _ _ _ _ _ _ _ _ _ _ _ _ _ _ _ _ _ _ _ _ _ _ _ _) (fun u=>wq3_1 u _ _ _ _ _ _ _ _ _ _ _ _ _ _ _ _ _ _ _ _ _ _ _ _ _ _ _ _ _ _ _ _ _ _ _ _ _ _ _ _ _ _ _ _ _ _ _ _ _ _ _ _ _ _ _ _ _ _ _ _ _ _ _ _ _ _ _ _ _ _ _ _ _ _ _ _ _ _ _ _ _ _ _ _ _ _ _ _ _ _ _ _ _ _ _ _ _ _ _ _ _ _ _ _ _ _ _ _ _ _ _ _ _ _ _ _ _ _ _ _ _ _) (fun Shun' w' K=>?_)
 have H:=gait_b Try.prog Shun' (EndM Try.prog fun v w'=>v= .bool true∧Stood W w')
 have hk0:(base 3).kind≠ .early:=by decide
 rw[d3_seq 0 (by decide)]
 refine SB.into (H.seq (n:=0) (Kn.out K law_ext fun w₁ K₁=>?_))
 refine K₁.lone (items:=[.code (fstOf (d3 0))]) (k:=[.code (d3 1)]) lawOK ⟨_,Try.func3⟩ rfl p3_0 rfl (Q:=fun u e a' u'=>e= .normal∧(∃v19 v20 v21 v22,a'=⟨#[.slice va vs.length vc,.int .u8 (t:Int),.slice b chs.length d,u3,u4,u5,.bool false,.int .i64 ((2+t%7:Nat):Int),u8,u9,u10,u11,u12,u13,u14,u15,u16,.bool true,.bool false,v19,v20,v21,v22,u23,u24,u25,u26,u27,u28,u29,u30,u31,u32,u33,u34,u35,u36,u37,u38,u39,u40,u41,u42,u43,u44,u45,u46,u47,u48,u49,u50,u51,u52,u53,u54,u55,u56,u57,u58,u59,u60,u61,u62,u63,u64,u65,u66,u67,u68,u69,u70,u71,u72,u73,u74,u75,u76,u77,u78,u79,u80,u81,u82,u83,u84,u85,u86,u87,u88,u89,u90,u91,u92,u93,u94,u95,u96,u97,u98,u99,u100,u101,u102,u103,u104,u105,u106,u107,u108,u109,u110,u111,u112,u113,u114,u115,u116,u117,u118,u119,u120,u121,u122],[]⟩)∧u'=u)
  (fun u e a' u' h=>.inl h.1) (fun u hu=>ItemsWp.code (wp3_0 u t ht _ _ _ _ _ _ _ _ _ _ _ _ _ _ _ _ _ _ _ _ _ _ _ _ _ _ _ _ _ _ _ _ _ _ _ _ _ _ _ _ _ _ _ _ _ _ _ _ _ _ _ _ _ _ _ _ _ _ _ _ _ _ _ _ _ _ _ _ _ _ _ _ _ _ _ _ _ _ _ _ _ _ _ _ _ _ _ _ _ _ _ _ _ _ _ _ _ _ _ _ _ _ _ _ _ _ _ _ _ _ _ _ _ _ _ _ _ _ _ _ _ _)) (fun u a' u' w' hu ⟨_,⟨v19,v20,v21,v22,ha⟩,hw⟩ _ gen=>?_) (fun u a' u' w' todo _ h=>by cases h.1)
 subst ha
 subst hw
 have K₂:=gen _ law_ext hu
 clear gen hu K₁ w₁ K
 obtain⟨n,hnn⟩:∃n,n=2+t%7:=⟨_,rfl⟩
 have hn:2≤n∧n≤8:=by omega
 rw[←hnn]
 clear hnn
 rw[d3_seq 1 (by decide)]
 refine SB.into (H.seq (n:=0) (Kn.out K₂ law_ext fun w₁ K₁=>?_))
 refine K₁.lone (items:=[.code (fstOf (d3 1))]) (k:=[.code (d3 2)]) lawOK ⟨_,Try.func3⟩ rfl p3_1 rfl (Q:=fun u=>GdQ 6 u (vs.length≤10∧chs.length≤300) fun a'=>∃v23 v24 v25 v26 v27 v28 v29 v30,a'=⟨#[.slice va vs.length vc,.int .u8 (t:Int),.slice b chs.length d,u3,u4,u5,.bool false,.int .i64 (n:Int),u8,u9,u10,u11,u12,u13,u14,u15,u16,.bool true,.bool false,v19,v20,v21,v22,v23,v24,v25,v26,v27,v28,v29,v30,u31,u32,u33,u34,u35,u36,u37,u38,u39,u40,u41,u42,u43,u44,u45,u46,u47,u48,u49,u50,u51,u52,u53,u54,u55,u56,u57,u58,u59,u60,u61,u62,u63,u64,u65,u66,u67,u68,u69,u70,u71,u72,u73,u74,u75,u76,u77,u78,u79,u80,u81,u82,u83,u84,u85,u86,u87,u88,u89,u90,u91,u92,u93,u94,u95,u96,u97,u98,u99,u100,u101,u102,u103,u104,u105,u106,u107,u108,u109,u110,u111,u112,u113,u114,u115,u116,u117,u118,u119,u120,u121,u122],[]⟩)
  (fun u e a' u' h=>h.2.elim (fun h=>.inr h.1) (fun h=>.inl h.1)) (fun u hu=>ItemsWp.code (wp3_1 u va b vc d vs.length chs.length hl hl2 _ _ _ _ _ _ _ _ _ _ _ _ _ _ _ _ _ _ _ _ _ _ _ _ _ _ _ _ _ _ _ _ _ _ _ _ _ _ _ _ _ _ _ _ _ _ _ _ _ _ _ _ _ _ _ _ _ _ _ _ _ _ _ _ _ _ _ _ _ _ _ _ _ _ _ _ _ _ _ _ _ _ _ _ _ _ _ _ _ _ _ _ _ _ _ _ _ _ _ _ _ _ _ _ _ _ _ _ _ _ _ _ _ _ _ _ _ _ _ _ _)) (fun u a' u' w2 hu h _ gen=>?_) (fun u a' u' w2 todo hu h hd gen=>?_)
 rotate_left
 ·rcases h.2 with⟨_,h6⟩|⟨h0,_⟩
  ·exact sb_ends (gen _ law_ext (hu.trans (Ext.below h.1))) Try.func3 rfl hd rfl (by kernel_rfl) h6
  ·cases h0
 obtain⟨hb,⟨h0,_⟩|⟨_,⟨hg,hc⟩,v23,v24,v25,v26,v27,v28,v29,v30,ha⟩⟩:=h
 ·cases h0
 subst ha
 have K₃:=gen _ law_ext (hu.trans (Ext.below hb))
 clear gen hu hb K₁ K₂ w₁
 rw[d3_seq 2 (by decide)]
 refine SB.into (H.seq (n:=0) (Kn.out K₃ law_ext fun w₁ K₁=>?_))
 refine K₁.lone (items:=[.code (fstOf (d3 2))]) (k:=[.code (d3 3)]) lawOK ⟨_,Try.func3⟩ rfl p3_2 rfl (Q:=fun u e a' u'=>e= .normal∧a'=⟨#[.slice va vs.length vc,.int .u8 (t:Int),.slice b chs.length d,u3,u4,u5,.bool false,.int .i64 (n:Int),.slice none 0 0,u9,u10,u11,u12,u13,u14,u15,u16,.bool true,.bool false,v19,v20,v21,v22,v23,v24,v25,v26,v27,v28,v29,v30,u31,u32,u33,u34,u35,u36,u37,u38,u39,u40,u41,u42,u43,u44,u45,u46,u47,u48,u49,u50,u51,u52,u53,u54,u55,u56,u57,u58,u59,u60,u61,u62,u63,u64,u65,u66,u67,u68,u69,u70,u71,u72,u73,u74,u75,u76,u77,u78,u79,u80,u81,u82,u83,u84,u85,u86,u87,u88,u89,u90,u91,u92,u93,u94,u95,u96,u97,u98,u99,u100,u101,u102,u103,u104,u105,u106,u107,u108,u109,u110,u111,u112,u113,u114,u115,u116,u117,u118,u119,u120,u121,u122],[]⟩∧u'=u)
  (fun u e a' u' h=>.inl h.1) (fun u hu=>ItemsWp.code (wp3_2 u _ _ _ _ _ _ _ _ _ _ _ _ _ _ _ _ _ _ _ _ _ _ _ _ _ _ _ _ _ _ _ _ _ _ _ _ _ _ _ _ _ _ _ _ _ _ _ _ _ _ _ _ _ _ _ _ _ _ _ _ _ _ _ _ _ _ _ _ _ _ _ _ _ _ _ _ _ _ _ _ _ _ _ _ _ _ _ _ _ _ _ _ _ _ _ _ _ _ _ _ _ _ _ _ _ _ _ _ _ _ _ _ _ _ _ _ _ _ _ _ _ _ _)) (fun u a' u' w' hu ⟨_,ha,hw⟩ _ gen=>?_) (fun u a' u' w' todo _ h=>by cases h.1)
 subst ha
 subst hw
 have K₄:=gen _ law_ext hu
 clear gen hu K₁ K₃ w₁
 rw[d3_seq 3 (by decide)]
 refine SB.into (H.seq (n:=0) (Kn.out K₄ law_ext fun w₁ K₁=>?_))
 refine K₁.lone (items:=[.code (fstOf (d3 3))]) (k:=[.code (d3 4)]) lawOK ⟨_,Try.func3⟩ rfl p3_3 rfl (Q:=fun u e a' u'=>e= .normal∧a'=⟨#[.slice va vs.length vc,.int .u8 (t:Int),.slice b chs.length d,u3,u4,u5,.bool false,.int .i64 (n:Int),.slice none 0 0,.int .i64 0,u10,u11,u12,u13,u14,u15,u16,.bool true,.bool false,v19,v20,v21,v22,v23,v24,v25,v26,v27,v28,v29,v30,u31,u32,u33,u34,u35,u36,u37,u38,u39,u40,u41,u42,u43,u44,u45,u46,u47,u48,u49,u50,u51,u52,u53,u54,u55,u56,u57,u58,u59,u60,u61,u62,u63,u64,u65,u66,u67,u68,u69,u70,u71,u72,u73,u74,u75,u76,u77,u78,u79,u80,u81,u82,u83,u84,u85,u86,u87,u88,u89,u90,u91,u92,u93,u94,u95,u96,u97,u98,u99,u100,u101,u102,u103,u104,u105,u106,u107,u108,u109,u110,u111,u112,u113,u114,u115,u116,u117,u118,u119,u120,u121,u122],[]⟩∧u'=u)
  (fun u e a' u' h=>.inl h.1) (fun u hu=>ItemsWp.code (wp3_3 u _ _ _ _ _ _ _ _ _ _ _ _ _ _ _ _ _ _ _ _ _ _ _ _ _ _ _ _ _ _ _ _ _ _ _ _ _ _ _ _ _ _ _ _ _ _ _ _ _ _ _ _ _ _ _ _ _ _ _ _ _ _ _ _ _ _ _ _ _ _ _ _ _ _ _ _ _ _ _ _ _ _ _ _ _ _ _ _ _ _ _ _ _ _ _ _ _ _ _ _ _ _ _ _ _ _ _ _ _ _ _ _ _ _ _ _ _ _ _ _ _ _ _)) (fun u a' u' w' hu ⟨_,ha,hw⟩ _ gen=>?_) (fun u a' u' w' todo _ h=>by cases h.1)
 subst ha
 subst hw
 have K₅:=gen _ law_ext hu
 clear gen hu K₁ K₄ w₁
 rw[d3_seq 4 (by decide)]
 refine SB.into (H.seq (n:=0) (Kn.out K₅ law_ext fun w₁ K₁=>?_))
 refine K₁.lone (items:=[.code (fstOf (d3 4))]) (k:=[.code (d3 5)]) lawOK ⟨_,Try.func3⟩ rfl p3_4 rfl (Q:=fun u=>QN3 fun a' u'=>P3Lp u n vs a' u' fun v f=>⟨#[.slice va vs.length vc,.int .u8 (t:Int),.slice b chs.length d,u3,u4,u5,.bool false,.int .i64 (n:Int),v,.int .i64 vs.sum,f 10,f 11,f 12,f 13,u14,u15,u16,.bool true,.bool false,v19,v20,v21,v22,v23,v24,v25,v26,v27,v28,v29,v30,f 31,f 32,f 33,f 34,f 35,f 36,f 37,f 38,f 39,f 40,f 41,f 42,f 43,f 44,f 45,f 46,f 47,f 48,f 49,f 50,f 51,f 52,f 53,f 54,f 55,f 56,f 57,f 58,f 59,f 60,f 61,f 62,f 63,f 64,f 65,f 66,f 67,f 68,f 69,f 70,f 71,u72,u73,u74,u75,u76,u77,u78,u79,u80,u81,u82,u83,u84,u85,u86,u87,u88,u89,u90,u91,u92,u93,u94,u95,u96,u97,u98,u99,u100,u101,u102,u103,u104,u105,u106,u107,u108,u109,u110,u111,u112,u113,u114,u115,u116,u117,u118,u119,u120,u121,u122],[]⟩)
  (fun u e a' u' h=>by cases e<;>first|exact .inl rfl|exact h.elim) (fun u hu=>ItemsWp.code (wp3_4 u n va vc vs hn (hu.sl hs) hg hv _ _ _ _ _ _ _ _ _ _ _ _ _ _ _ _ _ _ _ _ _ _ _ _ _ _ _ _ _ _ _ _ _ _ _ _ _ _ _ _ _ _ _ _ _ _ _ _ _ _ _ _ _ _ _ _ _ _ _ _ _ _ _ _ _ _ _ _ _ _ _ _ _ _ _ _ _ _ _ _ _ _ _ _ _ _ _ _ _ _ _ _ _ _ _ _ _ _ _ _ _ _ _ _ _ _ _ _ _ _ _ _ _ _ _ _ _ _ _)) (fun u a' u' w' hu h _ gen=>?_) (fun u a' u' w' todo _ h=>h.elim)
 obtain⟨v,Q,hPD,hQ,hbel,f,ha⟩:=h
 subst ha
 have hok:∀t∈Q,∀x∈t.ops,x.el=[]∧x.ec=0:=fun t ht x hx=>by
  have h:t.ops∈Q.map TkD.ops:=List.mem_map_of_mem ht
  rw[hQ] at h
  obtain⟨i,_,h2⟩:=List.mem_map.1 h
  exact pipe_nil (n:=n) (i:=i) (vs:=vs) x (by rw[h2];exact hx)
 obtain⟨ga,gc,rfl,hT⟩:=hPD.slT fun t ht x hx=>opOk_nil (hok t ht x hx).1 (hok t ht x hx).2
 have hQl:Q.length=n:=by simpa using congrArg List.length hQ
 let F₁:World→Prop:=fun x=>Ext W x∧SlT x ga Q
 have hF₁:ExtC F₁:=fun x y e h=>⟨h.1.trans e,slT_ext h.2 e⟩
 have K₆:=gen F₁ hF₁ ⟨hu.trans (Ext.below hbel),hT⟩
 clear gen hu hT hPD hbel K₁ K₅ w₁
 have e1:IntKind.i64.wrap ((n:Int)-1)=(n:Int)-1:=IntWalk.i64_in _ (by omega)
 rw[d3_seq 5 (by decide),d3_5]
 refine SB.into (H.seq (n:=5) ?_)
 refine H.region (n:=4) ?_
 rw[show List.range ops3r.size=[0,1,2,3,4,5,6,7,8,9,10] from rfl]
 refine H.pure (n:=3) _ (show ops3r[0]?=some _ from rfl) (by rfl) hk0 (fun _=>rfl) (fun _=>rfl) ?_
 refine H.pure (n:=2) _ (show ops3r[1]?=some _ from rfl) (by rfl) hk0 (fun _=>rfl) (fun _=>rfl) ?_
 have hr2:∀w₁,(execOp (Act.eval ⟨#[.slice va vs.length vc,.int .u8 (t:Int),.slice b chs.length d,u3,u4,u5,.bool false,.int .i64 (n:Int),.slice ga Q.length gc,.int .i64 vs.sum,f 10,f 11,f 12,f 13,u14,u15,u16,.bool true,.bool false,v19,v20,v21,v22,v23,v24,v25,v26,v27,v28,v29,v30,f 31,f 32,f 33,f 34,f 35,f 36,f 37,f 38,f 39,f 40,f 41,f 42,f 43,f 44,f 45,f 46,f 47,f 48,f 49,f 50,f 51,f 52,f 53,f 54,f 55,f 56,f 57,f 58,f 59,f 60,f 61,f 62,f 63,f 64,f 65,f 66,f 67,f 68,f 69,f 70,f 71,u72,.slice ga Q.length gc,.int .i64 (n:Int),u75,u76,u77,u78,u79,u80,u81,u82,u83,u84,u85,u86,u87,u88,u89,u90,u91,u92,u93,u94,u95,u96,u97,u98,u99,u100,u101,u102,u103,u104,u105,u106,u107,u108,u109,u110,u111,u112,u113,u114,u115,u116,u117,u118,u119,u120,u121,u122],[]⟩) {dst:=some 75,op:=.binOp .sub 3 (.tmp 74) (.const (.int .i64 1)) 3,type:=3,pos:= "law.go:283",after:= #[{on:=1,ground:=.data}],guard:=none}).run Try.prog w₁= .ok (.value (.int .i64 ((n:Int)-1))) w₁:=fun w₁=>run_eq_of fun K hK=>by go_simp;exact hK
 have he2:∀w₁,(execOp (Act.eval ⟨#[.slice va vs.length vc,.int .u8 (t:Int),.slice b chs.length d,u3,u4,u5,.bool false,.int .i64 (n:Int),.slice ga Q.length gc,.int .i64 vs.sum,f 10,f 11,f 12,f 13,u14,u15,u16,.bool true,.bool false,v19,v20,v21,v22,v23,v24,v25,v26,v27,v28,v29,v30,f 31,f 32,f 33,f 34,f 35,f 36,f 37,f 38,f 39,f 40,f 41,f 42,f 43,f 44,f 45,f 46,f 47,f 48,f 49,f 50,f 51,f 52,f 53,f 54,f 55,f 56,f 57,f 58,f 59,f 60,f 61,f 62,f 63,f 64,f 65,f 66,f 67,f 68,f 69,f 70,f 71,u72,.slice ga Q.length gc,.int .i64 (n:Int),u75,u76,u77,u78,u79,u80,u81,u82,u83,u84,u85,u86,u87,u88,u89,u90,u91,u92,u93,u94,u95,u96,u97,u98,u99,u100,u101,u102,u103,u104,u105,u106,u107,u108,u109,u110,u111,u112,u113,u114,u115,u116,u117,u118,u119,u120,u121,u122],[]⟩) {dst:=some 75,op:=.binOp .sub 3 (.tmp 74) (.const (.int .i64 1)) 3,type:=3,pos:= "law.go:283",after:= #[{on:=1,ground:=.data}],guard:=none}).events Try.prog w₁ #[]= #[]:=fun w₁=>by simp[go_sem]
 refine H.pure (n:=1) (.int .i64 ((n:Int)-1)) (show ops3r[2]?=some {dst:=some 75,op:=.binOp .sub 3 (.tmp 74) (.const (.int .i64 1)) 3,type:=3,pos:= "law.go:283",after:= #[{on:=1,ground:=.data}],guard:=none} from rfl) (by rfl) hk0 hr2 he2 ?_
 refine H.pure (n:=0) _ (show ops3r[3]?=some _ from rfl) (by rfl) hk0 (fun _=>rfl) (fun _=>rfl) (Kn.out K₆ hF₁ fun w₅ K₇=>?_)
 clear hr2 he2 K₆
 change SB Try.prog Shun' _ (G ((base 3).at ⟨#[.slice va vs.length vc,.int .u8 (t:Int),.slice b chs.length d,u3,u4,u5,.bool false,.int .i64 (n:Int),.slice ga Q.length gc,.int .i64 vs.sum,f 10,f 11,f 12,f 13,u14,u15,u16,.bool true,.bool false,v19,v20,v21,v22,v23,v24,v25,v26,v27,v28,v29,v30,f 31,f 32,f 33,f 34,f 35,f 36,f 37,f 38,f 39,f 40,f 41,f 42,f 43,f 44,f 45,f 46,f 47,f 48,f 49,f 50,f 51,f 52,f 53,f 54,f 55,f 56,f 57,f 58,f 59,f 60,f 61,f 62,f 63,f 64,f 65,f 66,f 67,f 68,f 69,f 70,f 71,u72,.slice ga Q.length gc,.int .i64 (n:Int),.int .i64 ((n:Int)-1),.slice b chs.length d,u77,u78,u79,u80,u81,u82,u83,u84,u85,u86,u87,u88,u89,u90,u91,u92,u93,u94,u95,u96,u97,u98,u99,u100,u101,u102,u103,u104,u105,u106,u107,u108,u109,u110,u111,u112,u113,u114,u115,u116,u117,u118,u119,u120,u121,u122],[]⟩ (.inRegion ops3r [4,5,6,7,8,9,10]::[.code (d3 6)])) []) w₅
 refine law_run K₇ hF₁ (fun u h=>h.1.size) (pt:=ga) (ct:=gc) (pc:=b) (cc:=d) (L:=Q) (ch:=(n:Int)-1) (chs:=chs) (show ops3r[4]?=some _ from rfl) rfl rfl rfl rfl rfl (fun u h=>h.2) (fun u h=>h.1.sl hp) (by rw[hQl];unfold maxLen;omega) (fun t ht x hx=>by rw[(hok t ht x hx).1];exact Nat.zero_le _) (fun s' S' Shun₂ w' v0 v1 v2 _ hO K₈=>?_) (fun w' hv0 K₈=>?_)
 ·obtain⟨h1,h2,h3,h4⟩:=pipe_out (vs:=vs) hn.1 hQ hv hg hO
  rw[h4] at K₈
  have hsl:(sumsA Q s').length=n:=by simp[sumsA,hQl]
  have hsi:∀i,i<n→(sumsA Q s')[i]?=some (s' i).2:=fun i hi=>by simp[sumsA,hQl,List.getElem?_range hi]
  exact law_tail K₈ (fun u h=>h.1.1) Try.func3 rfl (by kernel_rfl) rfl p3_5 (fun u hu=>wp3_5 u va vc vs.length n vs.sum S' (sumsA Q s') v0 v1 v2 hu.2 hn hg h1 hsl (by rw[hsi 0 (by omega),h3]) (fun i h0 hi=>by rw[hsi i hi,h2 i h0 hi]) _ _ _ _ _ _ _ _ _ _ _ _ _ _ _ _ _ _ _ _ _ _ _ _ _ _ _ _ _ _ _ _ _ _ _ _ _ _ _ _ _ _ _ _ _ _ _ _ _ _ _ _ _ _ _ _ _ _ _ _ _ _ _ _ _ _ _ _ _ _ _ _ _ _ _ _ _ _ _ _ _ _ _ _ _ _ _ _ _ _ _ _ _ _ _ _ _ _ _ _ _ _ _ _ _ _ _ _ _ _ _ _ _ _ _ _ _ _ _)
 ·rw[pipe_valid hn hQ hv hg] at hv0
  cases hv0
theorem frame3(x y z:Value): #[x,y,z]++Array.replicate 120 undef= #[x,y,z,undef,undef,undef,undef,undef,undef,undef,undef,undef,undef,undef,undef,undef,undef,undef,undef,undef,undef,undef,undef,undef,undef,undef,undef,undef,undef,undef,undef,undef,undef,undef,undef,undef,undef,undef,undef,undef,undef,undef,undef,undef,undef,undef,undef,undef,undef,undef,undef,undef,undef,undef,undef,undef,undef,undef,undef,undef,undef,undef,undef,undef,undef,undef,undef,undef,undef,undef,undef,undef,undef,undef,undef,undef,undef,undef,undef,undef,undef,undef,undef,undef,undef,undef,undef,undef,undef,undef,undef,undef,undef,undef,undef,undef,undef,undef,undef,undef,undef,undef,undef,undef,undef,undef,undef,undef,undef,undef,undef,undef,undef,undef,undef,undef,undef,undef,undef,undef,undef,undef,undef]:=by kernel_rfl
set_option maxRecDepth 100000 in
theorem driverPipeline_walk(W:World)(va:Option Addr)(vc:Nat)(vs:List Int)(hs:Sl (Value.int .i16) W va vs)(hv:∀y∈vs,IntOk .i16 y)(hl:vs.length≤maxLen)(t:Int)(ht:IntOk .u8 t)(b:Option Addr)(d:Nat)(chs:List Int)(hp:Sl (Value.int .i64) W b chs)(_:∀y∈chs,IntOk .i64 y)(hl2:chs.length≤maxLen):
  Law Try.prog 3 #[.slice va vs.length vc,.int .u8 t,.slice b chs.length d] W:=by
 obtain⟨m,rfl⟩:∃m:Nat,t=(m:Int):=⟨t.toNat,by have h:=u8_in ht;omega⟩
 have h:=pipe_in W va b vc d m vs chs (by have h:=u8_in ht;omega) hs (fun v hv0=>i16_in (hv v hv0)) hp hl hl2 undef undef undef undef undef undef undef undef undef undef undef undef undef undef undef undef undef undef undef undef undef undef undef undef undef undef undef undef undef undef undef undef undef undef undef undef undef undef undef undef undef undef undef undef undef undef undef undef undef undef undef undef undef undef undef undef undef undef undef undef undef undef undef undef undef undef undef undef undef undef undef undef undef undef undef undef undef undef undef undef undef undef undef undef undef undef undef undef undef undef undef undef undef undef undef undef undef undef undef undef undef undef undef undef undef undef undef undef undef undef undef undef undef undef undef undef undef undef undef undef
 rw[←frame3] at h
 exact sb_law h
end
end Go.Side
