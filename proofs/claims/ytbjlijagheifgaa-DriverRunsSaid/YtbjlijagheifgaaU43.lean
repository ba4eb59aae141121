/-
  Texts of Ytbjlijagheifgaa, merged.
-/
import Derived.Test.YtbjlijagheifgaaU41
import Derived.Test.YtbjlijagheifgaaU37
import Derived.Test.YtbjlijagheifgaaU42
set_option linter.unusedSimpArgs false
set_option linter.unusedVariables false
namespace Go.Side
section
open Go Go.Conc Go.ConcN Go.Proofs Go.RowKit Go.Proofs.Ytbjlijagheifgaa
theorem law_frame12(x y z:Value): #[x,y,z]++Array.replicate 76 undef= #[x,y,z,undef,undef,undef,undef,undef,undef,undef,undef,undef,undef,undef,undef,undef,undef,undef,undef,undef,undef,undef,undef,undef,undef,undef,undef,undef,undef,undef,undef,undef,undef,undef,undef,undef,undef,undef,undef,undef,undef,undef,undef,undef,undef,undef,undef,undef,undef,undef,undef,undef,undef,undef,undef,undef,undef,undef,undef,undef,undef,undef,undef,undef,undef,undef,undef,undef,undef,undef,undef,undef,undef,undef,undef,undef,undef,undef,undef]:=by kernel_rfl
theorem law_run{N:Nat}{Shun:Loc→Prop}{Qm:Machine→Trace→Prop}{w:World}{F:World→Prop}(K:Kn N Shun w F)(hF:ExtC F)(hN:∀u,F u→N≤u.heap.size){fid:Nat}{a:Act}{ops:Array Oper}{i:Nat}{rest:List Nat}{k:List Item}{o:Oper}{x y z:Operand}{ats:Array TypeId}{pt pc:Option Addr}{ct cc:Nat}{L:List TkD}{ch:Int}{chs:List Int}(ho:ops[i]?=some o)(hog:o.guard=none)(hop:o.op= .call {callee:=.value (.func 12),args:= #[x,y,z],argTypes:=ats})(ex:a.eval x= .slice pt L.length ct)(ey:a.eval y= .int .i64 ch)(ez:a.eval z= .slice pc chs.length cc)(hT:∀u,F u→SlT u pt L)(hC:∀u,F u→Sl (Value.int .i64) u pc chs)(hl:L.length≤maxLen)(hel:∀t∈L,∀x∈t.ops,x.el.length≤1000000)(kok:∀(s':PS) (S':List StepP) (Shun':Loc→Prop) (w':World) (v0 v1 v2:Value),validT ch L=true→Outc L chs s' S'→Kn N Shun' w' (fun u=>F u∧RunRes u v0 v1 v2 S' (sumsA L s') (stuckA L s'))→ SB Try.prog Shun' Qm (G ((base fid).at (a.put o.dst (.tuple #[.agg #[v0,v1,v2],.int .i64 0])) (.inRegion ops rest::k)) []) w')(kno:∀(w':World),validT ch L=false→Kn N Shun w' F→SB Try.prog Shun Qm (G ((base fid).at (a.put o.dst (.tuple #[.agg #[.slice none 0 0,.slice none 0 0,.slice none 0 0],.int .i64 1])) (.inRegion ops rest::k)) []) w'):
  SB Try.prog Shun Qm (G ((base fid).at a (.inRegion ops (i::rest)::k)) []) w:=by
 have H:=gait_b Try.prog Shun Qm
 have hk0:(base fid).kind≠ .early:=by simp[base]
 refine SB.into (H.call (n:=0) (f:=12) (c:=b12) (args:= #[x,y,z]) (ats:=ats) ho (by simp[Region.wanted,hog]) hk0 hop Try.func12 (by decide) rfl (Kn.out K hF fun w₆ K₆=>?_))
 rw[show Try.f12.ntmps=79 from Try.ntmps12]
 simp only[List.map_toArray,List.map_cons,List.map_nil,List.size_toArray,List.length_cons,List.length_nil,Nat.reduceAdd,Nat.reduceSub,ex,ey,ez,law_frame12]
 have fin:∀v:Value,((base fid).at a (.inRegion ops (i::rest)::k)).finish v=(base fid).at (a.put o.dst v) (.inRegion ops rest::k):=fun v=>by rw[Frame.finish_at,ho];rfl
 refine run_call K₆ hF hN (pt:=pt) (ct:=ct) (pc:=pc) (cc:=cc) (L:=L) (ch:=ch) (chs:=chs) hT hC hl hel _ _ _ _ _ _ _ _ _ _ _ _ _ _ _ _ _ _ _ _ _ _ _ _ _ _ _ _ _ _ _ _ _ _ _ _ _ _ _ _ _ _ _ _ _ _ _ _ _ _ _ _ _ _ _ _ _ _ _ _ _ _ _ _ _ _ _ _ _ _ _ _ _ _ _ _ (fun c' S' Shun₂ w' v0 v1 v2 hv hrun K₇=>?_) (fun w' hv K₇=>?_)
 ·obtain⟨ux,V7⟩:=View.ex K₇.sh
  have hE:∀t∈L,∀x∈t.ops,EL L (opv x)=x.el:=fun t ht x hx=>EL_eq (hT _ (K₇.all ux V7).1) ht hx
  obtain⟨s',hO,hs',hst⟩:=hrun.plain hE
  rw[hs',hst] at K₇
  rw[fin]
  exact kok s' S' _ _ v0 v1 v2 hv hO K₇
 ·rw[fin]
  exact kno _ hv K₇
end
section
open Go Go.ConcN Go.Proofs.Ytbjlijagheifgaa
section
variable {Q L:List TkD} (h:Q.map TkD.ops=L.map TkD.ops)
include h
theorem ops_len:Q.length=L.length:=by simpa using congrArg List.length h
theorem ops_at(k:Nat):(Q[k]?).map TkD.ops=(L[k]?).map TkD.ops:=by
 have:=congrArg (fun l=>l[k]?) h
 simpa using this
theorem advS_ops:advS Q=advS L:=by
 funext s k
 have e:=ops_at h k
 unfold advS
 cases hq:Q[k]? with
 |none=>
  cases hl:L[k]? with
  |none=>rfl
  |some t=>rw[hq,hl] at e;cases e
 |some t=>
  cases hl:L[k]? with
  |none=>rw[hq,hl] at e;cases e
  |some t'=>
   rw[hq,hl] at e
   have e:=Option.some.inj e
   simp only[e]
theorem offS_ops:offS Q=offS L:=by
 funext s k
 have e:=ops_at h k
 unfold offS
 cases hq:Q[k]? with
 |none=>
  cases hl:L[k]? with
  |none=>rfl
  |some t=>rw[hq,hl] at e;cases e
 |some t=>
  cases hl:L[k]? with
  |none=>rw[hq,hl] at e;cases e
  |some t'=>
   rw[hq,hl] at e
   have e:=Option.some.inj e
   simp only[Option.bind_some,e]
theorem possS_ops:possS Q=possS L:=by
 funext s
 unfold possS
 rw[ops_len h,offS_ops h]
theorem sumsA_ops:sumsA Q=sumsA L:=by
 funext s
 unfold sumsA
 rw[ops_len h]
theorem stuckA_ops:stuckA Q=stuckA L:=by
 funext s
 unfold stuckA
 rw[ops_len h,offS_ops h]
theorem runA_ops{ch:List Int}{s s':PS}{S S':List StepP}(k:RunA Q ch s S s' S'):RunA L ch s S s' S':=by
 induction k with
 |done e=>exact .done (by rw[←possS_ops h];exact e)
 |step e _ ih=>
  rw[possS_ops h] at e
  rw[advS_ops h] at ih
  exact .step e ih
theorem outc_ops{ch:List Int}{s':PS}{S':List StepP}(k:Outc Q ch s' S'):Outc L ch s' S':=by
 have:=runA_ops h k
 unfold Outc
 have e:s0 Q=s0 L:=by unfold s0;rw[advS_ops h]
 rwa[e] at this
end
end
section
open Go Go.Conc Go.ConcN Go.Proofs Go.RowKit Go.Proofs.Ytbjlijagheifgaa
noncomputable def b5:Code:=Try.f5.body.getD .skip
noncomputable def ops5:Array Oper:=opsR (fstOf (fstOf (sndOf b5)))
noncomputable def c5r:Code:=sndOf (sndOf b5)
noncomputable def ops5r:Array Oper:=opsR (fstOf (sndOf c5r))
theorem b5_eq:b5= .seq (fstOf b5) (.seq (.seq (.region 1 ops5 false) (sndOf (fstOf (sndOf b5)))) c5r):=by rfl
theorem c5r_eq:c5r= .seq (fstOf c5r) (.seq (.region 5 ops5r false) (sndOf (sndOf c5r))):=by rfl
theorem p5_0:([Item.code (fstOf b5)].all (itemPlain false none Try.prog lawFns))=true:=by kernel_rfl
theorem p5_1:([Item.inRegion ops5 [1],Item.code (sndOf (fstOf (sndOf b5)))].all (itemPlain false none Try.prog lawFns))=true:=by kernel_rfl
theorem p5_2:([Item.code (fstOf c5r)].all (itemPlain false none Try.prog lawFns))=true:=by kernel_rfl
theorem p5_3:([Item.inRegion ops5r [4,5,6,7,8,9],Item.code (sndOf (sndOf c5r))].all (itemPlain false none Try.prog lawFns))=true:=by kernel_rfl
set_option maxRecDepth 100000 in
set_option maxHeartbeats 4000000 in
theorem wp5_0(u:World)(u0 u1 u2 u3 u4 u5 u6 u7 u8 u9 u10 u11 u12 u13 u14 u15 u16 u17 u18 u19 u20 u21 u22 u23 u24 u25 u26 u27 u28 u29 u30 u31 u32 u33 u34 u35 u36 u37 u38 u39 u40 u41 u42 u43 u44 u45 u46 u47 u48 u49 u50 u51 u52 u53 u54 u55 u56 u57 u58 u59 u60 u61 u62 u63 u64 u65 u66 u67 u68 u69 u70 u71 u72:Value):(fstOf b5).wp Try.prog (fun e a' u'=>e= .normal∧a'=⟨#[u0,u1,u2,u3,u4,u5,.bool false,u7,u8,u9,u10,u11,u12,u13,u14,u15,u16,u17,u18,u19,u20,u21,u22,u23,u24,u25,u26,u27,u28,u29,u30,u31,u32,u33,u34,u35,u36,u37,u38,u39,u40,u41,u42,u43,u44,u45,u46,u47,u48,u49,u50,u51,u52,u53,u54,u55,u56,u57,u58,u59,u60,u61,u62,u63,u64,u65,u66,u67,u68,u69,u70,u71,u72],[]⟩∧u'=u) ⟨#[u0,u1,u2,u3,u4,u5,u6,u7,u8,u9,u10,u11,u12,u13,u14,u15,u16,u17,u18,u19,u20,u21,u22,u23,u24,u25,u26,u27,u28,u29,u30,u31,u32,u33,u34,u35,u36,u37,u38,u39,u40,u41,u42,u43,u44,u45,u46,u47,u48,u49,u50,u51,u52,u53,u54,u55,u56,u57,u58,u59,u60,u61,u62,u63,u64,u65,u66,u67,u68,u69,u70,u71,u72],[]⟩ u:=by
 unfold b5
 conv in Option.getD _ _=>whnf
 dsimp only[fstOf]
 go_wp2_with fail
set_option maxRecDepth 100000 in
set_option maxHeartbeats 4000000 in
theorem wp5_1(u:World)(u0 u1 u2 u3 u4 u5 u6 u7 u8 u9 u10 u12 u13 u14 u15 u16 u17 u18 u19 u20 u21 u22 u23 u24 u25 u26 u27 u28 u29 u30 u31 u32 u33 u34 u35 u36 u37 u38 u39 u40 u41 u42 u43 u44 u45 u46 u47 u48 u49 u50 u51 u52 u53 u54 u55 u56 u57 u58 u59 u60 u61 u62 u63 u64 u65 u66 u67 u68 u69 u70 u71 u72:Value):ItemsWp Try.prog [.inRegion ops5 [1],.code (sndOf (fstOf (sndOf b5)))] (fun e a' u'=>e= .normal∧a'=⟨#[u0,u1,u2,u3,u4,u5,u6,u7,u8,u9,u10,.bool true,.bool false,u13,u14,u15,u16,u17,u18,u19,u20,u21,u22,u23,u24,u25,u26,u27,u28,u29,u30,u31,u32,u33,u34,u35,u36,u37,u38,u39,u40,u41,u42,u43,u44,u45,u46,u47,u48,u49,u50,u51,u52,u53,u54,u55,u56,u57,u58,u59,u60,u61,u62,u63,u64,u65,u66,u67,u68,u69,u70,u71,u72],[]⟩∧u'=u) ⟨#[u0,u1,u2,u3,u4,u5,u6,u7,u8,u9,u10,.bool true,u12,u13,u14,u15,u16,u17,u18,u19,u20,u21,u22,u23,u24,u25,u26,u27,u28,u29,u30,u31,u32,u33,u34,u35,u36,u37,u38,u39,u40,u41,u42,u43,u44,u45,u46,u47,u48,u49,u50,u51,u52,u53,u54,u55,u56,u57,u58,u59,u60,u61,u62,u63,u64,u65,u66,u67,u68,u69,u70,u71,u72],[]⟩ u:=by
 refine ItemsWp.then (k:=1) (l:=ops5.toList.drop 1) rfl rfl fun K hK=>?_
 conv in(occs:= *) ops5=>
  all_goals
   unfold ops5 opsR b5
   whnf
 unfold b5 at hK
 conv at hK in Option.getD _ _=>whnf
 dsimp only[sndOf,fstOf] at hK
 simp only[List.drop_succ_cons,List.drop_zero]
 go_wp2_with fail
set_option maxRecDepth 100000 in
set_option maxHeartbeats 4000000 in
theorem wp5_2(u:World)(a b:Option Addr)(c d:Nat)(L:List TkD)(ch:Int)(chs:List Int)(hs:SlT u a L)(hl:L.length≤maxLen)(hl2:chs.length≤maxLen)(u3 u4 u5 u6 u7 u8 u9 u10 u11 u12 u13 u14 u15 u16 u17 u18 u19 u20 u21 u22 u23 u24 u25 u26 u27 u28 u29 u30 u31 u32 u33 u34 u35 u36 u37 u38 u39 u40 u41 u42 u43 u44 u45 u46 u47 u48 u49 u50 u51 u52 u53 u54 u55 u56 u57 u58 u59 u60 u61 u62 u63 u64 u65 u66 u67 u68 u69 u70 u71 u72:Value):
  (fstOf c5r).wp Try.prog (GdQ 6 u (greatB L=false∧chs.length≤300) fun a'=>∃v13 v14 v15 v16 v17 v18 v19,a'=⟨#[.slice a L.length c,.int .i64 ch,.slice b chs.length d,u3,u4,u5,u6,u7,u8,u9,u10,u11,u12,v13,v14,v15,v16,v17,v18,v19,u20,u21,u22,u23,u24,u25,u26,u27,u28,u29,u30,u31,u32,u33,u34,u35,u36,u37,u38,u39,u40,u41,u42,u43,u44,u45,u46,u47,u48,u49,u50,u51,u52,u53,u54,u55,u56,u57,u58,u59,u60,u61,u62,u63,u64,u65,u66,u67,u68,u69,u70,u71,u72],[]⟩) ⟨#[.slice a L.length c,.int .i64 ch,.slice b chs.length d,u3,u4,u5,u6,u7,u8,u9,u10,u11,u12,u13,u14,u15,u16,u17,u18,u19,u20,u21,u22,u23,u24,u25,u26,u27,u28,u29,u30,u31,u32,u33,u34,u35,u36,u37,u38,u39,u40,u41,u42,u43,u44,u45,u46,u47,u48,u49,u50,u51,u52,u53,u54,u55,u56,u57,u58,u59,u60,u61,u62,u63,u64,u65,u66,u67,u68,u69,u70,u71,u72],[]⟩ u:=by
 have G:=Lib.hid (great_any u a c L hs hl)
 clear hs
 unfold maxLen at hl hl2
 unfold c5r b5
 conv in Option.getD _ _=>whnf
 dsimp only[fstOf,sndOf]
 go_wp2_with fail
 refine G.out.mono ?_
 rintro e w1 ⟨rfl,hb⟩
 have B1:=Lib.hid hb
 clear G hb
 cases hg:greatB L with
 |true=>
  clear hg
  go_wp2_with fail
  exact⟨B1.out,.inl ⟨rfl,rfl⟩⟩
 |false=>
  have HG:=Lib.hid hg
  clear hg
  by_cases h3:300<chs.length
  ·have i3:(300:Int)<(chs.length:Int):=by omega
   clear h3
   go_wp2_with fail
   exact⟨B1.out,.inl ⟨rfl,rfl⟩⟩
  ·have i3:¬(300:Int)<(chs.length:Int):=by omega
   have H3:Hid (chs.length≤300):=Lib.hid (by omega)
   clear h3
   go_wp2_with fail
   exact⟨B1.out,.inr ⟨rfl,⟨HG.out,H3.out⟩,_,_,_,_,_,_,_,rfl⟩⟩
theorem inV_nil(w:World):InV w (.slice none 0 0) []:=⟨none,0,rfl,fun j s hj=>by cases hj⟩
set_option maxRecDepth 100000 in
set_option maxHeartbeats 8000000 in
theorem wp5_no(u:World)(a b:Option Addr)(c d:Nat)(L:List TkD)(ch:Int)(chs:List Int)(hs:SlT u a L)(hg:greatB L=false)(hv:validT ch L=false)(u3 u4 u5 u6 u7 u8 u9 u10 u11 u12 u13 u14 u15 u16 u17 u18 u19 u20 u21 u22 u23 u25 u26 u27 u28 u29 u30 u31 u32 u33 u34 u35 u36 u37 u38 u39 u40 u41 u42 u43 u44 u45 u46 u47 u48 u49 u50 u51 u52 u53 u54 u55 u56 u57 u58 u59 u60 u61 u62 u63 u64 u65 u66 u67 u68 u69 u70 u71 u72:Value):
  ItemsWp Try.prog [.inRegion ops5r [4,5,6,7,8,9],.code (sndOf (sndOf c5r))] (FinT 6 u) ⟨#[.slice a L.length c,.int .i64 ch,.slice b chs.length d,u3,u4,u5,u6,u7,u8,u9,u10,u11,u12,u13,u14,u15,u16,u17,u18,u19,u20,u21,u22,u23,.tuple #[.agg #[.slice none 0 0,.slice none 0 0,.slice none 0 0],.int .i64 1],u25,u26,u27,u28,u29,u30,u31,u32,u33,u34,u35,u36,u37,u38,u39,u40,u41,u42,u43,u44,u45,u46,u47,u48,u49,u50,u51,u52,u53,u54,u55,u56,u57,u58,u59,u60,u61,u62,u63,u64,u65,u66,u67,u68,u69,u70,u71,u72],[]⟩ u:=by
 have S:=Lib.hid hs
 obtain⟨gl,gt⟩:=great_small hg
 have GT:=Lib.hid gt
 have HV:=Lib.hid hv
 clear hs hg gt hv
 refine ItemsWp.then (k:=4) (l:=ops5r.toList.drop 4) rfl rfl fun K hK=>?_
 conv in(occs:= *) ops5r=>
  all_goals
   unfold ops5r opsR c5r b5
   whnf
 unfold c5r b5 at hK
 conv at hK in Option.getD _ _=>whnf
 dsimp only[sndOf,fstOf] at hK
 simp only[List.drop_succ_cons,List.drop_zero]
 have BX:Hid (∀w',Below u.heap.size (u.alloc (.cells #[.slice none 0 0,.slice none 0 0,.slice none 0 0] 32)) w'→True):=Lib.hid fun _ _=>trivial
 have NX:=Lib.hid (Blk.new u 32 [.slice none 0 0,.slice none 0 0,.slice none 0 0])
 have B0:Hid (Below u.heap.size u (u.alloc (.cells #[.slice none 0 0,.slice none 0 0,.slice none 0 0] 32))):=Lib.hid ((Below.refl _ _).alloc (Nat.le_refl _) _)
 have PN:=Lib.hid (plain_any _ a c L (S.out.reads (Reads.below B0.out)) gl fun t ht=>(GT.out t ht).1)
 clear BX
 go_wp2_with fail
 refine PN.out.mono ?_
 rintro e w3 ⟨v,Q,rfl,hP,hQ,hb⟩
 have B3:=Lib.hid (B0.out.trans (hb.mono B0.out.size))
 have S3:=Lib.hid (S.out.reads (Reads.below B3.out))
 have N3:=Lib.hid (NX.out.upd (S:=fun _=>False) (Upd.of_below hb) id)
 obtain⟨qa,qc,rfl,hqs⟩:=hP.slT (ops_ok S3.out hQ)
 have hql:Q.length=L.length:=by simpa using congrArg List.length hQ
 have VD:Hid (Calls Try.prog 14 #[.slice qa Q.length qc,.int .i64 ch] w3 (VlPost w3 false)):=Lib.hid (by rw[←HV.out,←validT_ops hQ];exact refValid_any w3 qa qc Q ch hqs (by unfold maxLen;omega))
 clear PN hb hP hQ hqs hql B0 NX
 go_wp2_with fail
 refine VD.out.mono ?_
 rintro e w4 ⟨rfl,hb⟩
 have B4:=Lib.hid (B3.out.trans (hb.mono B3.out.size))
 have S4:=Lib.hid (S.out.reads (Reads.below B4.out))
 have N4:=Lib.hid (N3.out.upd (S:=fun _=>False) (Upd.of_below hb) id)
 have VE:Hid (Calls Try.prog 16 #[.slice a L.length c,.int .i64 ch] w4 (VlPost w4 false)):=Lib.hid (by rw[←HV.out];exact validT_any w4 a c L ch S4.out (by unfold maxLen;omega))
 clear VD B3 S3 N3 hb w3
 go_wp2_with fail
 refine VE.out.mono ?_
 rintro e w5 ⟨rfl,hb⟩
 have B5:=Lib.hid (B4.out.trans (hb.mono B4.out.size))
 have N5:=Lib.hid (N4.out.upd (S:=fun _=>False) (Upd.of_below hb) id)
 have y0:w5.cell? ⟨u.heap.size,0,none⟩=some (.slice none 0 0):=N5.out.cell (i:=0) rfl
 have y1:w5.cell? ⟨u.heap.size,1,none⟩=some (.slice none 0 0):=N5.out.cell (i:=1) rfl
 have y2:w5.cell? ⟨u.heap.size,2,none⟩=some (.slice none 0 0):=N5.out.cell (i:=2) rfl
 have EQ:=Lib.hid (equal_any w5 (.slice none 0 0) (.slice none 0 0) (.slice none 0 0) (.slice none 0 0) (.slice none 0 0) (.slice none 0 0) [] [] [] [] [] [] (stV_nil _) (inV_nil _) (inV_nil _) (stV_nil _) (inV_nil _) (inV_nil _) (by simp) (by simp) (by simp))
 clear VE B4 S4 N4 hb w4
 go_wp2_with fail
 refine EQ.out.mono ?_
 rintro e w6 ⟨bb,rfl,hbb,hb⟩
 obtain rfl:bb=true:=hbb.2 (by simp)
 have B6:=Lib.hid (B5.out.trans (hb.mono B5.out.size))
 clear EQ hbb hb
 go_wp2_with fail
 exact⟨rfl,rfl,B6.out⟩
theorem sumsA_len(L:List TkD)(s:PS):(sumsA L s).length=L.length:=by simp[sumsA]
theorem stuckA_len(L:List TkD)(s:PS):(stuckA L s).length≤L.length:=by
 have:=List.length_filter_le (fun k=>(offS L s k).isSome) (List.range L.length)
 simpa[stuckA] using this
theorem validT_small{ch:Int}{L:List TkD}(h:validT ch L=true):L.length≤8∧∀t∈L,t.ops.length≤30:=by
 unfold validT at h
 simp only[Bool.and_eq_true,decide_eq_true_eq,List.all_eq_true] at h
 refine⟨h.1,fun t ht=>?_⟩
 have:=h.2.2.2 t ht
 unfold validL at this
 simp only[Bool.and_eq_true,decide_eq_true_eq] at this
 exact this.1
set_option maxRecDepth 100000 in
set_option maxHeartbeats 8000000 in
theorem wp5_ok(u:World)(a b:Option Addr)(c d:Nat)(L:List TkD)(ch:Int)(chs:List Int)(s':PS)(S':List StepP)(v0 v1 v2:Value)(hs:SlT u a L)(hp:Sl (Value.int .i64) u b chs)(hg:greatB L=false)(hc:chs.length≤300)(hv:validT ch L=true)(hO:Outc L chs s' S')(hR:RunRes u v0 v1 v2 S' (sumsA L s') (stuckA L s'))(u3 u4 u5 u6 u7 u8 u9 u10 u11 u12 u13 u14 u15 u16 u17 u18 u19 u20 u21 u22 u23 u25 u26 u27 u28 u29 u30 u31 u32 u33 u34 u35 u36 u37 u38 u39 u40 u41 u42 u43 u44 u45 u46 u47 u48 u49 u50 u51 u52 u53 u54 u55 u56 u57 u58 u59 u60 u61 u62 u63 u64 u65 u66 u67 u68 u69 u70 u71 u72:Value):
  ItemsWp Try.prog [.inRegion ops5r [4,5,6,7,8,9],.code (sndOf (sndOf c5r))] (FinN 6 u) ⟨#[.slice a L.length c,.int .i64 ch,.slice b chs.length d,u3,u4,u5,u6,u7,u8,u9,u10,u11,u12,u13,u14,u15,u16,u17,u18,u19,u20,u21,u22,u23,.tuple #[.agg #[v0,v1,v2],.int .i64 0],u25,u26,u27,u28,u29,u30,u31,u32,u33,u34,u35,u36,u37,u38,u39,u40,u41,u42,u43,u44,u45,u46,u47,u48,u49,u50,u51,u52,u53,u54,u55,u56,u57,u58,u59,u60,u61,u62,u63,u64,u65,u66,u67,u68,u69,u70,u71,u72],[]⟩ u:=by
 have S:=Lib.hid hs
 have HP:=Lib.hid hp
 obtain⟨gl,gt⟩:=great_small hg
 have GT:=Lib.hid gt
 have HV:=Lib.hid hv
 have VS:=Lib.hid (validT_small hv)
 have OO:=Lib.hid hO
 obtain⟨⟨a0,k0,rfl,r0⟩,⟨a1,k1,rfl,r1⟩,⟨a2,k2,rfl,r2⟩⟩:=hR
 have R0:=Lib.hid r0;have R1:=Lib.hid r1;have R2:=Lib.hid r2
 have ZL:=Lib.hid (sumsA_len L s')
 have KL:=Lib.hid (stuckA_len L s')
 clear hs hp hg gt hv hO r0 r1 r2
 generalize hsm:sumsA L s'=sm at*
 generalize hsk:stuckA L s'=sk at*
 have HSM:=Lib.hid hsm
 have HSK:=Lib.hid hsk
 clear hsm hsk
 refine ItemsWp.then (k:=4) (l:=ops5r.toList.drop 4) rfl rfl fun K hK=>?_
 conv in(occs:= *) ops5r=>
  all_goals
   unfold ops5r opsR c5r b5
   whnf
 unfold c5r b5 at hK
 conv at hK in Option.getD _ _=>whnf
 dsimp only[sndOf,fstOf] at hK
 simp only[List.drop_succ_cons,List.drop_zero]
 have NX:=Lib.hid (Blk.new u 32 [.slice a0 S'.length k0,.slice a1 sm.length k1,.slice a2 sk.length k2])
 have B0:Hid (Below u.heap.size u (u.alloc (.cells #[.slice a0 S'.length k0,.slice a1 sm.length k1,.slice a2 sk.length k2] 32))):=Lib.hid ((Below.refl _ _).alloc (Nat.le_refl _) _)
 have PN:=Lib.hid (plain_any _ a c L (S.out.reads (Reads.below B0.out)) gl fun t ht=>(GT.out t ht).1)
 go_wp2_with fail
 refine PN.out.mono ?_
 rintro e w3 ⟨v,Q,rfl,hP,hQ,hb⟩
 have B3:=Lib.hid (B0.out.trans (hb.mono B0.out.size))
 have S3:=Lib.hid (S.out.reads (Reads.below B3.out))
 have N3:=Lib.hid (NX.out.upd (S:=fun _=>False) (Upd.of_below hb) id)
 obtain⟨qa,qc,rfl,hqs⟩:=hP.slT (ops_ok S3.out hQ)
 have hql:Q.length=L.length:=by simpa using congrArg List.length hQ
 have VD:Hid (Calls Try.prog 14 #[.slice qa Q.length qc,.int .i64 ch] w3 (VlPost w3 true)):=Lib.hid (by rw[←HV.out,←validT_ops hQ];exact refValid_any w3 qa qc Q ch hqs (by unfold maxLen;omega))
 clear PN hb hP hQ hqs hql B0 NX
 go_wp2_with fail
 refine VD.out.mono ?_
 rintro e w4 ⟨rfl,hb⟩
 have B4:=Lib.hid (B3.out.trans (hb.mono B3.out.size))
 have S4:=Lib.hid (S.out.reads (Reads.below B4.out))
 have N4:=Lib.hid (N3.out.upd (S:=fun _=>False) (Upd.of_below hb) id)
 have VE:Hid (Calls Try.prog 16 #[.slice a L.length c,.int .i64 ch] w4 (VlPost w4 true)):=Lib.hid (by rw[←HV.out];exact validT_any w4 a c L ch S4.out (by unfold maxLen;omega))
 clear VD B3 S3 N3 hb w3
 go_wp2_with fail
 refine VE.out.mono ?_
 rintro e w5 ⟨rfl,hb⟩
 have B5:=Lib.hid (B4.out.trans (hb.mono B4.out.size))
 have N5:=Lib.hid (N4.out.upd (S:=fun _=>False) (Upd.of_below hb) id)
 have S5:=Lib.hid (S.out.reads (Reads.below B5.out))
 have PN:=Lib.hid (plain_any w5 a c L S5.out gl fun t ht=>(GT.out t ht).1)
 clear VE B4 S4 N4 hb w4
 go_wp2_with fail
 refine PN.out.mono ?_
 rintro e w6 ⟨v,Q2,rfl,hP,hQ,hb⟩
 have B6:=Lib.hid (B5.out.trans (hb.mono B5.out.size))
 have S6:=Lib.hid (S.out.reads (Reads.below B6.out))
 have N6:=Lib.hid (N5.out.upd (S:=fun _=>False) (Upd.of_below hb) id)
 obtain⟨ra,rc,rfl,hqs⟩:=hP.slT (ops_ok S6.out hQ)
 have hql:Q2.length=L.length:=by simpa using congrArg List.length hQ
 have hqo:∀t∈Q2,t.ops.length≤30:=fun t ht=>by
  have h:t.ops∈L.map TkD.ops:=by rw[←hQ];exact List.mem_map_of_mem ht
  obtain⟨t',h1,h2⟩:=List.mem_map.1 h
  rw[←h2];exact VS.out.2 t' h1
 have RN:=Lib.hid (refRun_any w6 ra b rc d Q2 chs hqs (HP.out.reads (Reads.below B6.out)) (by have:=VS.out.1;omega) hqo hc)
 have HQ:=Lib.hid hQ
 clear PN hb hP hQ hqs hql hqo B5 N5 S5 S6 w5
 go_wp2_with fail
 refine RN.out.mono ?_
 rintro e w7 ⟨s2,S2,x0,x1,x2,x3,rfl,hO2,⟨e0,f0,rfl,h0⟩,⟨e1,f1,rfl,h1⟩,⟨e2,f2,rfl,h2⟩,hl2,⟨e3,m3,f3,rfl⟩,hb⟩
 obtain⟨rfl,rfl⟩:=RunA.det OO.out (outc_ops HQ.out hO2)
 rw[sumsA_ops HQ.out,HSM.out] at h1
 rw[stuckA_ops HQ.out,HSK.out] at h2
 rw[sumsA_ops HQ.out,HSM.out,stuckA_ops HQ.out,HSK.out]
 have B7:=Lib.hid (B6.out.trans (hb.mono B6.out.size))
 have N7:=Lib.hid (N6.out.upd (S:=fun _=>False) (Upd.of_below hb) id)
 have T0:=Lib.hid h0;have T1:=Lib.hid h1;have T2:=Lib.hid h2
 have L2:=Lib.hid hl2
 clear RN hO2 h0 h1 h2 hb B6 N6 HQ hl2 w6
 go_upto_region 12 with(fail)
 obtain⟨W,hW⟩:∃W,W=w7.alloc (.cells #[.slice e0 S'.length f0,.slice e1 sm.length f1,.slice e2 sk.length f2,.slice e3 m3 f3] 46):=⟨_,rfl⟩
 rw[←hW]
 have QW:Hid (Below w7.heap.size w7 W):=Lib.hid (by rw[hW];exact(Below.refl _ _).alloc (Nat.le_refl _) _)
 have NY:Hid (Blk W w7.heap.size 46 [.slice e0 S'.length f0,.slice e1 sm.length f1,.slice e2 sk.length f2,.slice e3 m3 f3]):=Lib.hid (by rw[hW];exact Blk.new w7 _ _)
 have NW:=Lib.hid (N7.out.upd (S:=fun _=>False) (Upd.of_below QW.out) id)
 have BW:=Lib.hid (B7.out.trans (QW.out.mono B7.out.size))
 have RB:Hid (Reads u W):=Lib.hid (Reads.below BW.out)
 have RQ:Hid (Reads w7 W):=Lib.hid (Reads.below QW.out)
 clear hW QW N7 B7
 generalize w7.heap.size=by_ at*
 have FX:Hid (∀wx,Below W.heap.size W wx→((wx.cell? ⟨u.heap.size,0,none⟩=some (.slice a0 S'.length k0)∧wx.cell? ⟨u.heap.size,1,none⟩=some (.slice a1 sm.length k1))∧(wx.cell? ⟨u.heap.size,2,none⟩=some (.slice a2 sk.length k2)∧wx.cell? ⟨by_,0,none⟩=some (.slice e0 S'.length f0))∧wx.cell? ⟨by_,1,none⟩=some (.slice e1 sm.length f1)∧wx.cell? ⟨by_,2,none⟩=some (.slice e2 sk.length f2))):=Lib.hid fun wx q=>by
  have n1:=NW.out.upd (S:=fun _=>False) (Upd.of_below q) id
  have n2:=NY.out.upd (S:=fun _=>False) (Upd.of_below q) id
  exact⟨⟨n1.cell (i:=0) rfl,n1.cell (i:=1) rfl⟩,⟨n1.cell (i:=2) rfl,n2.cell (i:=0) rfl⟩,n2.cell (i:=1) rfl,n2.cell (i:=2) rfl⟩
 have C0:Hid (Below W.heap.size W W.drew):=Lib.hid ((Qt.refl W).drew.below _)
 have ST:=Lib.hid (steps_any W.drew e0 f0 S' (T0.out.reads fun p v h=>C0.out.cell (World.block_lt_of_cell? _ _ (RQ.out p v h))▸RQ.out p v h) (by have:=L2.out;omega))
 have FIN:Hid (∀wx,Below W.heap.size W wx→Below u.heap.size u wx):=Lib.hid fun wx q=>BW.out.trans (q.mono BW.out.size)
 have RR:Hid (∀wx,Below W.heap.size W wx→Reads u wx∧Reads w7 wx):=Lib.hid fun wx q=>⟨fun p v h=>(Reads.below q) p v (RB.out p v h),fun p v h=>(Reads.below q) p v (RQ.out p v h)⟩
 obtain⟨⟨y0,y1⟩,⟨y2,y3⟩,y4,y5⟩:=FX.out _ C0.out
 refine wp_region_allH (fun wx=>((wx.cell? ⟨u.heap.size,0,none⟩=some (.slice a0 S'.length k0)∧wx.cell? ⟨u.heap.size,1,none⟩=some (.slice a1 sm.length k1))∧(wx.cell? ⟨u.heap.size,2,none⟩=some (.slice a2 sk.length k2)∧wx.cell? ⟨by_,0,none⟩=some (.slice e0 S'.length f0))∧wx.cell? ⟨by_,1,none⟩=some (.slice e1 sm.length f1)∧wx.cell? ⟨by_,2,none⟩=some (.slice e2 sk.length f2))) 25 (by kernel_rfl) rfl ?_ (fun hHeld=>?_)
 ·(exact⟨⟨y0,y1⟩,⟨y2,y3⟩,y4,y5⟩)
 iterate 7
  refine wpAnyH_takeN [0,1,2,3,4,5,6] (v:=?_) rfl rfl (by kernel_rfl) (by kernel_rfl) (by kernel_rfl) (fun _ _ _ h=>h) rfl ?_ hHeld ?_
  rotate_left
  ·intro w hSw
   try dsimp only at hSw
   go_simp
   all_goals with_reducible rfl
  try simp only[Act.put,List.setIfInBounds_toArray,List.set_cons_zero,List.set_cons_succ]
 refine wpAnyH_step (i:=7) (by kernel_rfl) rfl (fun KK hK=>?_)
 (go_simp;(with_reducible refine ST.out.mono ?_);rintro e w8 ⟨v,rfl,⟨ta,tc,rfl,ht⟩,hb⟩;have C1:=Lib.hid (C0.out.trans (hb.mono C0.out.size));have EQ:=Lib.hid (equalSt_any w8 a0 ta k0 tc S' S' (R0.out.reads (RR.out _ C1.out).1) ht (by have:=L2.out;unfold maxLen;omega));clear hb ht;go_wp2_with fail)
 refine hK.out _ _ ?_ (fun hHeld=>?_)
 ·(first|exact FX.out _ C4.out|exact FX.out _ C3.out|exact FX.out _ C2.out|exact FX.out _ C1.out)
 clear hK KK
 try simp only[Act.put,List.setIfInBounds_toArray,List.set_cons_zero,List.set_cons_succ]
 refine wpAnyH_step (i:=8) (by kernel_rfl) rfl (fun KK hK=>?_)
 (go_simp;(with_reducible refine EQ.out.mono ?_);rintro e w9 ⟨bb,rfl,hbb,hq⟩;obtain rfl:bb=true:=hbb.2 rfl;have C2:=Lib.hid (C1.out.trans (hq.below _));have E1:=Lib.hid (equalInt_any w9 a1 e1 k1 f1 sm sm (R1.out.reads (RR.out _ C2.out).1) (T1.out.reads (RR.out _ C2.out).2) (by have:=ZL.out;unfold maxLen;omega));clear hbb hq;go_wp2_with fail)
 refine hK.out _ _ ?_ (fun hHeld=>?_)
 ·(first|exact FX.out _ C4.out|exact FX.out _ C3.out|exact FX.out _ C2.out|exact FX.out _ C1.out)
 clear hK KK
 try simp only[Act.put,List.setIfInBounds_toArray,List.set_cons_zero,List.set_cons_succ]
 iterate 6
  refine wpAnyH_takeN [9,10,11,12,13,14] (v:=?_) rfl rfl (by kernel_rfl) (by kernel_rfl) (by kernel_rfl) (fun _ _ _ h=>h) rfl ?_ hHeld ?_
  rotate_left
  ·intro w hSw
   try dsimp only at hSw
   go_simp
   all_goals with_reducible rfl
  try simp only[Act.put,List.setIfInBounds_toArray,List.set_cons_zero,List.set_cons_succ]
 refine wpAnyH_step (i:=15) (by kernel_rfl) rfl (fun KK hK=>?_)
 (go_simp;(with_reducible refine E1.out.mono ?_);rintro e w10 ⟨rfl,hq⟩;simp only[decide_true];have C3:=Lib.hid (C2.out.trans (hq.below _));have E2:=Lib.hid (equalInt_any w10 a2 e2 k2 f2 sk sk (R2.out.reads (RR.out _ C3.out).1) (T2.out.reads (RR.out _ C3.out).2) (by have:=KL.out;unfold maxLen;omega));clear hq;go_wp2_with fail)
 refine hK.out _ _ ?_ (fun hHeld=>?_)
 ·(first|exact FX.out _ C4.out|exact FX.out _ C3.out|exact FX.out _ C2.out|exact FX.out _ C1.out)
 clear hK KK
 try simp only[Act.put,List.setIfInBounds_toArray,List.set_cons_zero,List.set_cons_succ]
 iterate 6
  refine wpAnyH_takeN [16,17,18,19,20,21] (v:=?_) rfl rfl (by kernel_rfl) (by kernel_rfl) (by kernel_rfl) (fun _ _ _ h=>h) rfl ?_ hHeld ?_
  rotate_left
  ·intro w hSw
   try dsimp only at hSw
   go_simp
   all_goals with_reducible rfl
  try simp only[Act.put,List.setIfInBounds_toArray,List.set_cons_zero,List.set_cons_succ]
 refine wpAnyH_step (i:=22) (by kernel_rfl) rfl (fun KK hK=>?_)
 (go_simp;(with_reducible refine E2.out.mono ?_);rintro e w11 ⟨rfl,hq⟩;simp only[decide_true];have C4:=Lib.hid (C3.out.trans (hq.below _));clear hq;go_wp2_with fail)
 refine hK.out _ _ ?_ (fun hHeld=>?_)
 ·(first|exact FX.out _ C4.out|exact FX.out _ C3.out|exact FX.out _ C2.out|exact FX.out _ C1.out)
 clear hK KK
 try simp only[Act.put,List.setIfInBounds_toArray,List.set_cons_zero,List.set_cons_succ]
 iterate 2
  refine wpAnyH_takeN [23,24] (v:=?_) rfl rfl (by kernel_rfl) (by kernel_rfl) (by kernel_rfl) (fun _ _ _ h=>h) rfl ?_ hHeld ?_
  rotate_left
  ·intro w hSw
   try dsimp only at hSw
   go_simp
   all_goals with_reducible rfl
  try simp only[Act.put,List.setIfInBounds_toArray,List.set_cons_zero,List.set_cons_succ]
 refine wpAnyH_done (by kernel_rfl) ?_ _
 repeat clear hHeld
 go_wp2_with fail
 exact⟨rfl,FIN.out _ C4.out⟩
set_option maxRecDepth 100000 in
set_option maxHeartbeats 4000000 in
theorem runs_in(W:World)(a b:Option Addr)(c d:Nat)(L:List TkD)(ch:Int)(chs:List Int)(hs:SlT W a L)(hp:Sl (Value.int .i64) W b chs)(hl:L.length≤maxLen)(hl2:chs.length≤maxLen)(u3 u4 u5 u6 u7 u8 u9 u10 u11 u12 u13 u14 u15 u16 u17 u18 u19 u20 u21 u22 u23 u24 u25 u26 u27 u28 u29 u30 u31 u32 u33 u34 u35 u36 u37 u38 u39 u40 u41 u42 u43 u44 u45 u46 u47 u48 u49 u50 u51 u52 u53 u54 u55 u56 u57 u58 u59 u60 u61 u62 u63 u64 u65 u66 u67 u68 u69 u70 u71 u72:Value):
  SB Try.prog (fun _=>False) (EndM Try.prog fun v w'=>v= .bool true∧Stood W w') (G ((base 5).at ⟨#[.slice a L.length c,.int .i64 ch,.slice b chs.length d,u3,u4,u5,u6,u7,u8,u9,u10,u11,u12,u13,u14,u15,u16,u17,u18,u19,u20,u21,u22,u23,u24,u25,u26,u27,u28,u29,u30,u31,u32,u33,u34,u35,u36,u37,u38,u39,u40,u41,u42,u43,u44,u45,u46,u47,u48,u49,u50,u51,u52,u53,u54,u55,u56,u57,u58,u59,u60,u61,u62,u63,u64,u65,u66,u67,u68,u69,u70,u71,u72],[]⟩ [.code b5]) []) W:=by
 rw[b5_eq]
 refine law_start (q:=11) (a1:=⟨#[.slice a L.length c,.int .i64 ch,.slice b chs.length d,u3,u4,u5,.bool false,u7,u8,u9,u10,u11,u12,u13,u14,u15,u16,u17,u18,u19,u20,u21,u22,u23,u24,u25,u26,u27,u28,u29,u30,u31,u32,u33,u34,u35,u36,u37,u38,u39,u40,u41,u42,u43,u44,u45,u46,u47,u48,u49,u50,u51,u52,u53,u54,u55,u56,u57,u58,u59,u60,u61,u62,u63,u64,u65,u66,u67,u68,u69,u70,u71,u72],[]⟩) (a2:=⟨#[.slice a L.length c,.int .i64 ch,.slice b chs.length d,u3,u4,u5,.bool false,u7,u8,u9,u10,.bool true,.bool false,u13,u14,u15,u16,u17,u18,u19,u20,u21,u22,u23,u24,u25,u26,u27,u28,u29,u30,u31,u32,u33,u34,u35,u36,u37,u38,u39,u40,u41,u42,u43,u44,u45,u46,u47,u48,u49,u50,u51,u52,u53,u54,u55,u56,u57,u58,u59,u60,u61,u62,u63,u64,u65,u66,u67,u68,u69,u70,u71,u72],[]⟩) ⟨_,Try.func5⟩ (show ops5[0]?=some _ from rfl) rfl rfl rfl rfl rfl rfl p5_0 p5_1 (fun u=>wp5_0 u _ _ _ _ _ _ _ _ _ _ _ _ _ _ _ _ _ _ _ _ _ _ _ _ _ _ _ _ _ _ _ _ _ _ _ _ _ _ _ _ _ _ _ _ _ _ _ _ _ _ _ _ _ _ _ _ _ _ _ _ _ _ _ _ _ _ _ _ _ _ _ _ _) (fun u=>wp5_1 u _ _ _ _ _ _ _ _ _ _ _ _ _ _ _ _ _ _ _ _ _ _ _ _ _ _ _ _ _ _ _ _ _ _ _ _ _ _ _ _ _ _ _ _ _ _ _ _ _ _ _ _ _ _ _ _ _ _ _ _ _ _ _ _ _ _ _ _ _ _ _ _) (fun Shun' w' K=>?_)
 have H:=gait_b Try.prog Shun' (EndM Try.prog fun v w'=>v= .bool true∧Stood W w')
 have hk0:(base 5).kind≠ .early:=by decide
 rw[c5r_eq]
 refine SB.into (H.seq (n:=0) (Kn.out K law_ext fun w₁ K₁=>?_))
 refine K₁.lone (items:=[.code (fstOf c5r)]) (k:=[.code (.seq (.region 5 ops5r false) (sndOf (sndOf c5r)))]) lawOK ⟨_,Try.func5⟩ rfl p5_2 rfl (Q:=fun u=>GdQ 6 u (greatB L=false∧chs.length≤300) fun a'=>∃v13 v14 v15 v16 v17 v18 v19,a'=⟨#[.slice a L.length c,.int .i64 ch,.slice b chs.length d,u3,u4,u5,.bool false,u7,u8,u9,u10,.bool true,.bool false,v13,v14,v15,v16,v17,v18,v19,u20,u21,u22,u23,u24,u25,u26,u27,u28,u29,u30,u31,u32,u33,u34,u35,u36,u37,u38,u39,u40,u41,u42,u43,u44,u45,u46,u47,u48,u49,u50,u51,u52,u53,u54,u55,u56,u57,u58,u59,u60,u61,u62,u63,u64,u65,u66,u67,u68,u69,u70,u71,u72],[]⟩)
  (fun u e a' u' h=>h.2.elim (fun h=>.inr h.1) (fun h=>.inl h.1)) (fun u hu=>ItemsWp.code (wp5_2 u a b c d L ch chs (slT_ext hs hu) hl hl2 _ _ _ _ _ _ _ _ _ _ _ _ _ _ _ _ _ _ _ _ _ _ _ _ _ _ _ _ _ _ _ _ _ _ _ _ _ _ _ _ _ _ _ _ _ _ _ _ _ _ _ _ _ _ _ _ _ _ _ _ _ _ _ _ _ _ _ _ _ _)) (fun u a' u' w2 hu h _ gen=>?_) (fun u a' u' w2 todo hu h hd gen=>?_)
 rotate_left
 ·rcases h.2 with⟨_,h6⟩|⟨h0,_⟩
  ·exact sb_ends (gen _ law_ext (hu.trans (Ext.below h.1))) Try.func5 rfl hd rfl (by kernel_rfl) h6
  ·cases h0
 obtain⟨hb,⟨h0,_⟩|⟨_,⟨hg,hc⟩,v13,v14,v15,v16,v17,v18,v19,ha⟩⟩:=h
 ·cases h0
 subst ha
 have K₂:=gen _ law_ext (hu.trans (Ext.below hb))
 clear gen hu hb K K₁ w₁ w'
 refine SB.into (H.seq (n:=4) ?_)
 refine H.region (n:=3) ?_
 rw[show List.range ops5r.size=[0,1,2,3,4,5,6,7,8,9] from rfl]
 refine H.pure (n:=2) _ (show ops5r[0]?=some _ from rfl) (by rfl) hk0 (fun _=>rfl) (fun _=>rfl) ?_
 refine H.pure (n:=1) _ (show ops5r[1]?=some _ from rfl) (by rfl) hk0 (fun _=>rfl) (fun _=>rfl) ?_
 refine H.pure (n:=0) _ (show ops5r[2]?=some _ from rfl) (by rfl) hk0 (fun _=>rfl) (fun _=>rfl) (Kn.out K₂ law_ext fun w₅ K₅=>?_)
 change SB Try.prog Shun' _ (G ((base 5).at ⟨#[.slice a L.length c,.int .i64 ch,.slice b chs.length d,u3,u4,u5,.bool false,u7,u8,u9,u10,.bool true,.bool false,v13,v14,v15,v16,v17,v18,v19,u20,.slice a L.length c,.int .i64 ch,.slice b chs.length d,u24,u25,u26,u27,u28,u29,u30,u31,u32,u33,u34,u35,u36,u37,u38,u39,u40,u41,u42,u43,u44,u45,u46,u47,u48,u49,u50,u51,u52,u53,u54,u55,u56,u57,u58,u59,u60,u61,u62,u63,u64,u65,u66,u67,u68,u69,u70,u71,u72],[]⟩ (.inRegion ops5r [3,4,5,6,7,8,9]::[.code (sndOf (sndOf c5r))])) []) w₅
 obtain⟨gl,gt⟩:=great_small hg
 refine law_run K₅ law_ext (fun u e=>e.size) (pt:=a) (ct:=c) (pc:=b) (cc:=d) (L:=L) (ch:=ch) (chs:=chs) (show ops5r[3]?=some _ from rfl) rfl rfl rfl rfl rfl (fun u e=>slT_ext hs e) (fun u e=>e.sl hp) hl (fun t ht x hx=>by have:=(gt t ht).2 x hx;omega) (fun s' S' Shun₂ w' v0 v1 v2 hv hO K₇=>?_) (fun w' hv K₇=>?_)
 ·exact law_tail K₇ (fun u h=>h.1) Try.func5 rfl (by kernel_rfl) rfl p5_3 (fun u hu=>finN (wp5_ok u a b c d L ch chs s' S' v0 v1 v2 (slT_ext hs hu.1) (hu.1.sl hp) hg hc hv hO hu.2 _ _ _ _ _ _ _ _ _ _ _ _ _ _ _ _ _ _ _ _ _ _ _ _ _ _ _ _ _ _ _ _ _ _ _ _ _ _ _ _ _ _ _ _ _ _ _ _ _ _ _ _ _ _ _ _ _ _ _ _ _ _ _ _ _ _ _ _ _))
 ·exact law_tail K₇ (fun u h=>h) Try.func5 rfl (by kernel_rfl) rfl p5_3 (fun u hu=>wp5_no u a b c d L ch chs (slT_ext hs hu) hg hv _ _ _ _ _ _ _ _ _ _ _ _ _ _ _ _ _ _ _ _ _ _ _ _ _ _ _ _ _ _ _ _ _ _ _ _ _ _ _ _ _ _ _ _ _ _ _ _ _ _ _ _ _ _ _ _ _ _ _ _ _ _ _ _ _ _ _ _ _)
theorem frame5(x y z:Value): #[x,y,z]++Array.replicate 70 undef= #[x,y,z,undef,undef,undef,undef,undef,undef,undef,undef,undef,undef,undef,undef,undef,undef,undef,undef,undef,undef,undef,undef,undef,undef,undef,undef,undef,undef,undef,undef,undef,undef,undef,undef,undef,undef,undef,undef,undef,undef,undef,undef,undef,undef,undef,undef,undef,undef,undef,undef,undef,undef,undef,undef,undef,undef,undef,undef,undef,undef,undef,undef,undef,undef,undef,undef,undef,undef,undef,undef,undef,undef]:=by kernel_rfl
set_option maxRecDepth 100000 in
theorem driverRuns_walk(W:World)(a:Option Addr)(c:Nat)(L:List TkD)(hs:SlT W a L)(_:∀t∈L,True)(hl:L.length≤maxLen)(ch:Int)(_:IntOk .i64 ch)(b:Option Addr)(d:Nat)(chs:List Int)(hp:Sl (Value.int .i64) W b chs)(_:∀y∈chs,IntOk .i64 y)(hl2:chs.length≤maxLen):
  Law Try.prog 5 #[.slice a L.length c,.int .i64 ch,.slice b chs.length d] W:=by
 have h:=runs_in W a b c d L ch chs hs hp hl hl2 undef undef undef undef undef undef undef undef undef undef undef undef undef undef undef undef undef undef undef undef undef undef undef undef undef undef undef undef undef undef undef undef undef undef undef undef undef undef undef undef undef undef undef undef undef undef undef undef undef undef undef undef undef undef undef undef undef undef undef undef undef undef undef undef undef undef undef undef undef undef
 rw[←frame5] at h
 exact sb_law h
end
end Go.Side
