/-
  Texts of Ytbjlijagheifgaa, merged.
-/
import Derived.Test.YtbjlijagheifgaaD29
import Derived.Test.YtbjlijagheifgaaD23
set_option linter.unusedSimpArgs false
set_option linter.unusedVariables false
namespace Go.Side
section
open Go Go.Conc Go.ConcN Go.Proofs Go.RowKit Go.Proofs.Ytbjlijagheifgaa
noncomputable def lp30b:Code:=(loopIn rest30).getD .skip
set_option maxRecDepth 100000 in
set_option maxHeartbeats 8000000 in
theorem sched_rest{C:Fix Wk}{Anc:Nat→(Nat→WV)→(Nat→WState Wk)→Goroutine→World→Prop}{w₀:World}{p:Plc}{n:Nat}{ws:Nat→WV}{E:OpV→List Int}{task:Nat→List OpV}(hP:C.P=Try.prog)(hn:C.nxt=Wk.nxt)(ha:C.ans=Wk.ans)(hg0:C.good w₀)(hW:Whole C.R0)(hlow:∀l,C.R0 l→l.low w₀.heap.size)(hp:p.ok w₀.heap.size)(hn8:n≤8)(hx:∀k,k<n→∀x,x∈task k→EithR C.R0 w₀ E x){ch:List Int}{pc:Option Addr}{cc:Nat}(hch:∀j v,ch[j]?=some v→∃b o,pc=some ⟨b,o,none⟩∧w₀.cell? ⟨b,o+j,none⟩=some (.int .i64 v)∧C.R0 (.cell ⟨b,o+j,none⟩)){b₀:Frame}{a₀:Act}{ops:Array Oper}{j:Nat}{rest:List Nat}{k k₀:List Item}{cs:List Frame}:
  ∀(m:Nat) (c:Cf) (S:List StepP) (st:Nat→WState Wk) (nx:Nat→Option (Nat×OpV)) (ex:List (Nat×Array Value×TypeId)) (sa:Option Addr) (sc:Nat) (T:Terr) (w:World) (u3 u4 u7 u9 u10 u11 u12 u13 u14 u15 u16 u17 u18 u19 u20 u21 u22 u23 u24 u25 u26 u27 u28 u29 u30 u31 u32 u33 u34 u35 u36 u37 u38 u39 u40 u41 u42 u43 u44 u45 u46 u47 u48 u49 u50 u51 u52 u53 u54 u55 u56 u57 u58 u59 u60 u61 u62 u63 u64 u65 u66 u67 u68 u69 u70 u71 u72 u73 u74 u75 u76 u77 u78 u79 u80 u81 u82 u83 u84:Value),measC n c=m→S.length+m≤100000→
   SL C w₀ {p with ex:=ex} n ws st nx T w→StR ex sa sc S→Inv task n c st nx→
   (∀(c':Cf) (S':List StepP) (st':Nat→WState Wk) (nx':Nat→Option (Nat×OpV)) (ex':List (Nat×Array Value×TypeId)) (sa':Option Addr) (sc':Nat) (T':Terr) (w':World),RunTo E n ch c S c' S'→Inv task n c' st' nx'→StR ex' sa' sc' S'→SL C w₀ {p with ex:=ex'} n ws st' nx' T' w'→
    SW C Anc T' 0 0 n ws st' (G (b₀.at (a₀.put ((ops[j]?).bind (·.dst)) (.slice sa' S'.length sc')) (.inRegion ops rest::k₀)) cs) w')→
   SWn C Anc 0 0 n ws st 2000 T (G ((base 30).at ⟨#[.slice (some ⟨p.bws,0,none⟩) n n,.slice pc ch.length cc,.pointer (some ⟨p.bW,0,none⟩),u3,u4,.pointer (some ⟨p.bN,0,none⟩),.func (.func 53) #[] #[.pointer (some ⟨p.bN,0,none⟩),.pointer (some ⟨p.bW,0,none⟩)],u7,.slice sa S.length sc,u9,u10,u11,u12,u13,u14,u15,u16,u17,u18,u19,u20,u21,u22,u23,u24,u25,u26,u27,u28,u29,u30,u31,u32,u33,u34,u35,u36,u37,u38,u39,u40,u41,u42,u43,u44,u45,u46,u47,u48,u49,u50,u51,u52,u53,u54,u55,u56,u57,u58,u59,u60,u61,u62,u63,u64,u65,u66,u67,u68,u69,u70,u71,u72,u73,u74,u75,u76,u77,u78,u79,u80,u81,u82,u83,u84],[]⟩ (.code lp30b:: .inLoop lp30b::k)) (b₀.at a₀ (.inRegion ops (j::rest)::k₀)::cs)) w:=by
 have hk0:(base 30).kind≠ .early:=by decide
 intro m
 induction m using Nat.strongRecOn with
 |_ m ih=>
 intro c S st nx ex sa sc T w u3 u4 u7 u9 u10 u11 u12 u13 u14 u15 u16 u17 u18 u19 u20 u21 u22 u23 u24 u25 u26 u27 u28 u29 u30 u31 u32 u33 u34 u35 u36 u37 u38 u39 u40 u41 u42 u43 u44 u45 u46 u47 u48 u49 u50 u51 u52 u53 u54 u55 u56 u57 u58 u59 u60 u61 u62 u63 u64 u65 u66 u67 u68 u69 u70 u71 u72 u73 u74 u75 u76 u77 u78 u79 u80 u81 u82 u83 u84 hm hl R hS I kk
 have H:=gait_w C Anc 0 0 n ws st
 rw[hP] at H
 conv in Item.code lp30b=>{arg 1;whnf}
 refine H.block ?_
 refine H.seq ?_
 refine piece_poss hP hW hlow R I.quiet hn8 (fun k hk b x e=>hx k hk x (I.op k hk x (by rw[←I.nx k hk,e];rfl))) _ _ _ _ _ _ _ _ _ _ _ _ _ _ _ _ _ _ _ _ _ _ _ _ _ _ _ _ _ _ _ _ _ _ _ _ _ _ _ _ _ _ _ _ _ _ _ _ _ _ _ _ _ _ _ _ _ _ _ _ _ _ _ _ _ _ _ _ _ _ _ _ _ _ _ _ _ _ _ _ _ _ _ _ fun la lc T1 w1 hLs R1=>?_
 have hleq:possP E n (fun k=>(nx k).map (·.2))=possP E n fun k=>(c k).1:=possP_congr I.nx
 rw[hleq] at hLs⊢
 generalize hl':possP E n (fun k=>(c k).1)=l at hLs⊢
 have hll:l.length≤64:=by
  have h1:=possU_len E n (fun k=>(c k).1) n
  rw[possU_all,hl'] at h1
  have h2:n*n≤8*8:=Nat.mul_le_mul hn8 hn8
  omega
 clear R hleq
 show SWn C Anc 0 0 n ws st 1500 T1 _ w1
 walk_nrm
 refine H.seq ?_
 refine H.region ?_
 simp only[List.size_toArray,List.length_cons,List.length_nil,Nat.reduceAdd,Nat.zero_add,List.range,List.range.loop]
 co_applyP Gait.pure H _ rfl (by rfl) hk0 (fun _=>run_eq_of ?run1) (fun _=>?evs1) ?rest1
 case run1=>intro K hK;go_simp;exact hK
 case evs1=>simp[go_sem]
 walk_nrm
 co_applyP Gait.pure H _ rfl (by rfl) hk0 (fun _=>run_eq_of ?run2) (fun _=>?evs2) ?rest2
 case run2=>intro K hK;go_simp;exact hK
 case evs2=>simp[go_sem]
 walk_nrm
 co_applyP Gait.pure H _ rfl (by rfl) hk0 (fun _=>run_eq_of ?run3) (fun _=>?evs3) ?rest3
 case run3=>intro K hK;go_simp;exact hK
 case evs3=>simp[go_sem]
 walk_nrm
 refine H.regionEnd ?_
 refine H.seq ?_
 refine H.seq ?_
 refine H.region ?_
 simp only[List.size_toArray,List.length_cons,List.length_nil,Nat.reduceAdd,Nat.zero_add,List.range,List.range.loop]
 co_applyP Gait.pure H _ rfl (by rfl) hk0 (fun _=>run_eq_of ?run4) (fun _=>?evs4) ?rest4
 case run4=>intro K hK;go_simp;exact hK
 case evs4=>simp[go_sem]
 walk_nrm
 by_cases hl0:l=[]
 ·subst hl0
  co_applyP Gait.pure H _ rfl (by rfl) hk0 (fun _=>run_eq_of ?run5) (fun _=>?evs5) ?rest5
  case run5=>intro K hK;go_simp;exact hK
  case evs5=>simp[go_sem]
  walk_nrm
  refine H.regionEnd ?_
  refine H.cond true rfl ?_
  simp only[if_true,if_false,Bool.false_eq_true,↓reduceIte]
  refine H.seq ?_
  refine H.region ?_
  simp only[List.size_toArray,List.length_cons,List.length_nil,Nat.reduceAdd,Nat.zero_add,List.range,List.range.loop]
  co_applyP Gait.pure H _ rfl (by rfl) hk0 (fun _=>run_eq_of ?run6) (fun _=>?evs6) ?rest6
  case run6=>intro K hK;go_simp;exact hK
  case evs6=>simp[go_sem]
  walk_nrm
  co_applyP Gait.pure H _ rfl (by rfl) hk0 (fun _=>run_eq_of ?run7) (fun _=>?evs7) ?rest7
  case run7=>intro K hK;go_simp;exact hK
  case evs7=>simp[go_sem]
  walk_nrm
  refine H.regionEnd ?_
  refine H.ret ?_
  refine H.leave1 rfl rfl Try.func30 rfl ?_
  exact kk c S st nx ex sa sc T1 w1 (RunTo.done hl') I hS R1
 ·have hlen:0<l.length:=List.length_pos_iff.2 hl0
  have hb:((l.length:Int)==0)=false:=by rw[beq_eq_false_iff_ne];omega
  have hb2:¬(l.length:Int)=0:=by omega
  co_applyP Gait.pure H _ rfl (by rfl) hk0 (fun _=>run_eq_of ?run8) (fun _=>?evs8) ?rest8
  case run8=>intro K hK;go_simp;exact hK
  case evs8=>simp[go_sem,hb,hb2]
  walk_nrm
  refine H.regionEnd ?_
  refine H.cond false rfl ?_
  simp only[if_true,if_false,Bool.false_eq_true,↓reduceIte]
  refine H.skip ?_
  refine H.seq ?_
  refine H.region ?_
  simp only[List.size_toArray,List.length_cons,List.length_nil,Nat.reduceAdd,Nat.zero_add,List.range,List.range.loop]
  co_applyP Gait.pure H _ rfl (by rfl) hk0 (fun _=>run_eq_of ?run9) (fun _=>?evs9) ?rest9
  case run9=>intro K hK;go_simp;exact hK
  case evs9=>simp[go_sem]
  walk_nrm
  refine H.regionEnd ?_
  refine H.seq ?_
  refine H.seq ?_
  refine H.region ?_
  simp only[List.size_toArray,List.length_cons,List.length_nil,Nat.reduceAdd,Nat.zero_add,List.range,List.range.loop]
  co_applyP Gait.pure H _ rfl (by rfl) hk0 (fun _=>run_eq_of ?run10) (fun _=>?evs10) ?rest10
  case run10=>intro K hK;go_simp;exact hK
  case evs10=>simp[go_sem]
  walk_nrm
  co_applyP Gait.pure H _ rfl (by rfl) hk0 (fun _=>run_eq_of ?run11) (fun _=>?evs11) ?rest11
  case run11=>intro K hK;go_simp;exact hK
  case evs11=>simp[go_sem]
  walk_nrm
  co_applyP Gait.pure H _ rfl (by rfl) hk0 (fun _=>run_eq_of ?run12) (fun _=>?evs12) ?rest12
  case run12=>intro K hK;go_simp;exact hK
  case evs12=>simp[go_sem]
  walk_nrm
  co_applyP Gait.pure H _ rfl (by rfl) hk0 (fun _=>run_eq_of ?run13) (fun _=>?evs13) ?rest13
  case run13=>intro K hK;go_simp;exact hK
  case evs13=>simp[go_sem]
  walk_nrm
  by_cases hlt:S.length<ch.length
  ·have hdec:decide (S.length<ch.length)=true:=by simpa using hlt
   have hN0:(0:Int)<(l.length:Int):=by omega
   obtain⟨cv,hcv⟩:∃cv,ch[S.length]?=some cv:=⟨_,List.getElem?_eq_getElem hlt⟩
   obtain⟨cb,co,rfl,y0,y0R⟩:=hch _ _ hcv
   have q0:w1.cell? ⟨cb,co+S.length,none⟩=some (.int .i64 cv):=(R1.kp.cell _ y0R).trans y0
   have q0r:=R1.gi.r0 _ y0R
   have t1:=Int.tmod_lt_of_pos cv hN0
   have t2:=Int.lt_tmod_of_pos cv hN0
   have hpk:pickP ch S.length l.length=((cv.tmod l.length+l.length).tmod l.length).toNat:=by simp only[pickP,hcv]
   have hN64:(l.length:Int)≤64:=by omega
   generalize hNN:(l.length:Int)=N at hN0 t1 t2 hpk hN64
   generalize hxx:cv.tmod N=x at t1 t2 hpk
   have t3:=Int.tmod_lt_of_pos (x+N) hN0
   have t4:=Int.tmod_nonneg N (show 0≤x+N by omega)
   have e1:IntKind.i64.wrap x=x:=by rw[IntKind.wrap_i64];omega
   have e2:IntKind.i64.wrap (x+N)=x+N:=by rw[IntKind.wrap_i64];omega
   have e3:IntKind.i64.wrap ((x+N).tmod N)=(x+N).tmod N:=by rw[IntKind.wrap_i64];omega
   have hpl:pickP ch S.length l.length<l.length:=by rw[hpk];omega
   obtain⟨s,hs⟩:∃s,l[pickP ch S.length l.length]?=some s:=⟨_,List.getElem?_eq_getElem hpl⟩
   have hmem:s∈possP E n fun k=>(c k).1:=by rw[hl'];exact List.mem_of_getElem? hs
   have ep:(x+N).tmod N=((pickP ch S.length l.length:Nat):Int):=by rw[hpk,Int.toNat_of_nonneg t4]
   have EP:=Lib.hid ep
   clear ep hpk
   have hN1:(N==0)=false:=by rw[beq_eq_false_iff_ne];omega
   have hN2:¬N=0:=by omega
   subst hxx
   subst hNN
   co_applyP Gait.pure H _ rfl (by rfl) hk0 (fun _=>run_eq_of ?run14) (fun _=>?evs14) ?rest14
   case run14=>intro K hK;go_simp;exact hK
   case evs14=>simp[go_sem,hdec]
   walk_nrm
   refine H.regionEnd ?_
   refine H.cond true rfl ?_
   simp only[if_true,if_false,Bool.false_eq_true,↓reduceIte]
   refine H.region ?_
   simp only[List.size_toArray,List.length_cons,List.length_nil,Nat.reduceAdd,Nat.zero_add,List.range,List.range.loop]
   co_applyP Gait.pure H _ rfl (by rfl) hk0 (fun _=>run_eq_of ?run15) (fun _=>?evs15) ?rest15
   case run15=>intro K hK;go_simp;exact hK
   case evs15=>simp[go_sem]
   walk_nrm
   co_applyP Gait.pure H _ rfl (by rfl) hk0 (fun _=>run_eq_of ?run16) (fun _=>?evs16) ?rest16
   case run16=>intro K hK;go_simp;exact hK
   case evs16=>simp[go_sem]
   walk_nrm
   co_applyP Gait.pure H _ rfl (by rfl) hk0 (fun _=>run_eq_of ?run17) (fun _=>?evs17) ?rest17
   case run17=>intro K hK;go_simp;exact hK
   case evs17=>simp[go_sem]
   walk_nrm
   co_applyP Gait.pure H _ rfl (by rfl) hk0 (fun _=>run_eq_of ?run18) (fun _=>?evs18) ?rest18
   case run18=>intro K hK;go_simp;exact hK
   case evs18=>simp[go_sem,hlt]
   walk_nrm
   co_applyP Gait.read H _ rfl (by rfl) hk0 (fun w₁ r=>⟨run_eq_of ?run19,?evs19⟩) ?rest19
   case run19=>have k0:=(r.cell _ q0r).trans q0;intro K hK;go_simp;exact hK
   case evs19=>have k0:=(r.cell _ q0r).trans q0;intro e he;simp[go_sem,k0] at he;subst he;exact⟨_,rfl,World.block_lt_of_cell? _ _ k0,q0r⟩
   walk_nrm
   co_applyP Gait.pure H _ rfl (by rfl) hk0 (fun _=>run_eq_of ?run20) (fun _=>?evs20) ?rest20
   case run20=>intro K hK;go_simp;exact hK
   case evs20=>simp[go_sem]
   walk_nrm
   co_applyP Gait.pure H _ rfl (by rfl) hk0 (fun _=>run_eq_of ?run21) (fun _=>?evs21) ?rest21
   case run21=>intro K hK;go_simp;exact hK
   case evs21=>simp[go_sem,hb,hb2,e1]
   walk_nrm
   co_applyP Gait.pure H _ rfl (by rfl) hk0 (fun _=>run_eq_of ?run22) (fun _=>?evs22) ?rest22
   case run22=>intro K hK;go_simp;exact hK
   case evs22=>simp[go_sem]
   walk_nrm
   co_applyP Gait.pure H _ rfl (by rfl) hk0 (fun _=>run_eq_of ?run23) (fun _=>?evs23) ?rest23
   case run23=>intro K hK;go_simp;exact hK
   case evs23=>simp[go_sem,e2]
   walk_nrm
   co_applyP Gait.pure H _ rfl (by rfl) hk0 (fun _=>run_eq_of ?run24) (fun _=>?evs24) ?rest24
   case run24=>intro K hK;go_simp;exact hK
   case evs24=>simp[go_sem]
   walk_nrm
   co_applyP Gait.pure H _ rfl (by rfl) hk0 (fun _=>run_eq_of ?run25) (fun _=>?evs25) ?rest25
   case run25=>intro K hK;go_simp;exact hK
   case evs25=>simp[go_sem,hb,hb2,e3]
   walk_nrm
   co_applyP Gait.pure H _ rfl (by rfl) hk0 (fun _=>run_eq_of ?run26) (fun _=>?evs26) ?rest26
   case run26=>intro K hK;go_simp;exact hK
   case evs26=>simp[go_sem]
   walk_nrm
   rw[EP.out]
   refine H.regionEnd ?_
   show SWn C Anc 0 0 n ws st 1000 T1 _ w1
   refine sched_take hP hn ha hg0 hlow hp hx R1 hS I (by omega) hLs hs hmem _ _ _ _ _ _ _ _ _ _ _ _ _ _ _ _ _ _ _ _ _ _ _ _ _ _ _ _ _ _ _ _ _ _ _ _ _ _ _ _ _ _ _ _ _ _ _ _ _ _ _ _ _ _ _ _ _ _ _ _ _ _ _ _ _ _ _ _ _ _ _ _ _ _ _ _ _ _ fun st' nx' ex' sa' sc' T' w' v12 v49 v50 v51 v52 v53 v54 v55 v56 v57 v58 v59 v60 v61 v62 v63 v64 v65 v66 v67 v68 v69 v70 v71 v72 v73 v74 v75 v76 v77 v78 v79 v80 v81 v82 v83 v84 I' hS2 R'=>?_
   have H2:=gait_w C Anc 0 0 n ws st'
   rw[hP] at H2
   show SWn C Anc 0 0 n ws st' 100 T' _ w'
   refine H2.inBlock ?_
   refine H2.inLoop ?_
   exact ih _ (by rw[←hm];exact stepC_less E hmem) (stepC c s) (S++[s]) st' nx' ex' sa' sc' T' w' _ _ _ _ _ _ _ _ _ _ _ _ _ _ _ _ _ _ _ _ _ _ _ _ _ _ _ _ _ _ _ _ _ _ _ _ _ _ _ _ _ _ _ _ _ _ _ _ _ _ _ _ _ _ _ _ _ _ _ _ _ _ _ _ _ _ _ _ _ _ _ _ _ _ _ _ _ _ _ rfl (by have:=stepC_less E hmem;simp;omega) R' hS2 I' fun c' S' st' nx' ex' sa' sc' T' w' hr=>kk c' S' st' nx' ex' sa' sc' T' w' (RunTo.step (s:=s) (by rw[hl'];exact hs) hr)
  ·have hdec:decide (S.length<ch.length)=false:=by simpa using hlt
   have hpk:pickP ch S.length l.length=0:=by simp only[pickP,List.getElem?_eq_none (Nat.le_of_not_lt hlt)]
   obtain⟨s,hs⟩:∃s,l[pickP ch S.length l.length]?=some s:=⟨_,List.getElem?_eq_getElem (by rw[hpk];exact hlen)⟩
   have hmem:s∈possP E n fun k=>(c k).1:=by rw[hl'];exact List.mem_of_getElem? hs
   co_applyP Gait.pure H _ rfl (by rfl) hk0 (fun _=>run_eq_of ?run27) (fun _=>?evs27) ?rest27
   case run27=>intro K hK;go_simp;exact hK
   case evs27=>simp[go_sem,hdec]
   walk_nrm
   refine H.regionEnd ?_
   refine H.cond false rfl ?_
   simp only[if_true,if_false,Bool.false_eq_true,↓reduceIte]
   refine H.skip ?_
   rw[show(0:Int)=((pickP ch S.length l.length:Nat):Int) by rw[hpk];rfl]
   show SWn C Anc 0 0 n ws st 1000 T1 _ w1
   refine sched_take hP hn ha hg0 hlow hp hx R1 hS I (by omega) hLs hs hmem _ _ _ _ _ _ _ _ _ _ _ _ _ _ _ _ _ _ _ _ _ _ _ _ _ _ _ _ _ _ _ _ _ _ _ _ _ _ _ _ _ _ _ _ _ _ _ _ _ _ _ _ _ _ _ _ _ _ _ _ _ _ _ _ _ _ _ _ _ _ _ _ _ _ _ _ _ _ fun st' nx' ex' sa' sc' T' w' v12 v49 v50 v51 v52 v53 v54 v55 v56 v57 v58 v59 v60 v61 v62 v63 v64 v65 v66 v67 v68 v69 v70 v71 v72 v73 v74 v75 v76 v77 v78 v79 v80 v81 v82 v83 v84 I' hS2 R'=>?_
   have H2:=gait_w C Anc 0 0 n ws st'
   rw[hP] at H2
   show SWn C Anc 0 0 n ws st' 100 T' _ w'
   refine H2.inBlock ?_
   refine H2.inLoop ?_
   exact ih _ (by rw[←hm];exact stepC_less E hmem) (stepC c s) (S++[s]) st' nx' ex' sa' sc' T' w' _ _ _ _ _ _ _ _ _ _ _ _ _ _ _ _ _ _ _ _ _ _ _ _ _ _ _ _ _ _ _ _ _ _ _ _ _ _ _ _ _ _ _ _ _ _ _ _ _ _ _ _ _ _ _ _ _ _ _ _ _ _ _ _ _ _ _ _ _ _ _ _ _ _ _ _ _ _ _ rfl (by have:=stepC_less E hmem;simp;omega) R' hS2 I' fun c' S' st' nx' ex' sa' sc' T' w' hr=>kk c' S' st' nx' ex' sa' sc' T' w' (RunTo.step (s:=s) (by rw[hl'];exact hs) hr)
end
section
open Go Go.Conc Go.ConcN Go.Proofs Go.RowKit Go.Proofs.Ytbjlijagheifgaa
set_option maxRecDepth 100000 in
set_option maxHeartbeats 8000000 in
theorem sched_all{C:Fix Wk}{Anc:Nat→(Nat→WV)→(Nat→WState Wk)→Goroutine→World→Prop}{w₀:World}{n:Nat}{ws:Nat→WV}{st:Nat→WState Wk}{E:OpV→List Int}{task:Nat→List OpV}(hP:C.P=Try.prog)(hn:C.nxt=Wk.nxt)(ha:C.ans=Wk.ans)(hg0:C.good w₀)(hW:Whole C.R0)(hlow:∀l,C.R0 l→l.low w₀.heap.size)(hn8:n≤8)(hx:∀k,k<n→∀x,x∈task k→EithR C.R0 w₀ E x){ch:List Int}{pc:Option Addr}{cc:Nat}(hch:∀j v,ch[j]?=some v→∃b o,pc=some ⟨b,o,none⟩∧w₀.cell? ⟨b,o+j,none⟩=some (.int .i64 v)∧C.R0 (.cell ⟨b,o+j,none⟩)){bws bq:Nat}(hbws:w₀.heap.size≤bws)(hbq:w₀.heap.size≤bq)(hwb:bws≠bq){T:Terr}{w:World}(R:RL C w₀ T w n n ws bws bq)(hq0:n=0→∀l,C.R0 l→T.wr l)(hst:∀k,k<n→st k= .busy ⟨task k,0,none⟩)(hm:measC n (fun k=>fet ⟨task k,0,none⟩)≤100000){b₀:Frame}{a₀:Act}{ops:Array Oper}{j:Nat}{rest:List Nat}{k₀:List Item}{cs:List Frame}(kk:∀(p:Plc) (c':Cf) (S':List StepP) (st':Nat→WState Wk) (nx':Nat→Option (Nat×OpV)) (ex':List (Nat×Array Value×TypeId)) (sa':Option Addr) (sc':Nat) (T':Terr) (w':World),p.bws=bws→p.bq=bq→p.ok w₀.heap.size→RunTo E n ch (fun k=>fet ⟨task k,0,none⟩) [] c' S'→Inv task n c' st' nx'→StR ex' sa' sc' S'→SL C w₀ {p with ex:=ex'} n ws st' nx' T' w'→ SW C Anc T' 0 0 n ws st' (G (b₀.at (a₀.put ((ops[j]?).bind (·.dst)) (.slice sa' S'.length sc')) (.inRegion ops rest::k₀)) cs) w'):
  SWn C Anc 0 0 n ws st (300*n+400) T (G ((base 30).at ⟨#[.slice (some ⟨bws,0,none⟩) n n,.slice pc ch.length cc]++Array.replicate 83 undef,[]⟩ [.code (Try.f30.body.getD .skip)]) (b₀.at a₀ (.inRegion ops (j::rest)::k₀)::cs)) w:=by
 have hk0:(base 30).kind≠ .early:=by decide
 refine sched_enter hP hn hlow (fun k hk=>EithR.eiths (hx k hk)) (by omega) hbws hbq hwb R hq0 hst ?_
 intro p st nx T w V7 V19 V20 V21 V22 V23 V24 V25 e1 e2 e3 hp hS hH
 subst e1
 subst e2
 have H:=gait_w C Anc 0 0 n ws st
 rw[hP] at H
 conv in Item.code rest30=>{arg 1;whnf}
 show SWn C Anc 0 0 n ws st 3000 T _ w
 refine H.seq ?_
 refine H.region ?_
 simp only[List.size_toArray,List.length_cons,List.length_nil,Nat.reduceAdd,Nat.zero_add,List.range,List.range.loop]
 co_applyP Gait.pure H _ rfl (by rfl) hk0 (fun _=>run_eq_of ?run1) (fun _=>?evs1) ?rest1
 case run1=>intro K hK;go_simp;exact hK
 case evs1=>simp[go_sem]
 walk_nrm
 refine H.regionEnd ?_
 refine H.block ?_
 refine H.loop ?_
 have hS':SL C w₀ {p with ex:=[]} n ws st nx T w:=hS.withEx (l:=[]) fun y hy=>by cases hy
 exact sched_rest (E:=E) (task:=task) hP hn ha hg0 hW hlow hp hn8 hx hch _ (fun k=>fet ⟨task k,0,none⟩) [] st nx [] none 0 T w _ _ _ _ _ _ _ _ _ _ _ _ _ _ _ _ _ _ _ _ _ _ _ _ _ _ _ _ _ _ _ _ _ _ _ _ _ _ _ _ _ _ _ _ _ _ _ _ _ _ _ _ _ _ _ _ _ _ _ _ _ _ _ _ _ _ _ _ _ _ _ _ _ _ _ _ _ _ _ rfl (by simpa using hm) hS' (.inl ⟨rfl,rfl,rfl,rfl⟩) (Inv.start hH) fun c' S' st' nx' ex' sa' sc' T' w' hr I hSt R'=>kk p c' S' st' nx' ex' sa' sc' T' w' rfl rfl hp hr I hSt R'
end
section
open Go Go.Conc Go.ConcN Go.Proofs Go.Conc.Lib Go.ConcR.Gen
noncomputable def lp12:Code:=(loopIn (Try.f12.body.getD .skip)).getD .skip
set_option maxRecDepth 100000 in
set_option maxHeartbeats 8000000 in
theorem run_round{C:Fix Wk}{Anc:Nat→(Nat→WV)→(Nat→WState Wk)→Goroutine→World→Prop}(hP:C.P=Try.prog)(hty:C.ty=72)(hn:C.nxt=Wk.nxt)(ha:C.ans=Wk.ans)(hs:C.sum=Wk.all){L:List TaskR}{pt:Option Addr}{ct:Nat}{w₀:World}(hlow:∀l,C.R0 l→l.low w₀.heap.size)(hg:∀w,C.good w→TasksAt w pt L)(hR1:∀(j:Nat) b o,j<L.length→pt=some ⟨b,o,none⟩→C.R0 (.cell ⟨b,o+j,none⟩))(hR4:∀x∈L,∀j y b o,x.ops[j]?=some y→x.p=some ⟨b,o,none⟩→∀f,f<4→C.R0 (.cell ⟨b,o+j*4+f,none⟩))(hlen:∀x∈L,x.ops.length≤1000)(hG0:C.good w₀){n:Nat}(hnL:L.length=n)(hn8:n≤1000){bws bq:Nat}(hbws:w₀.heap.size≤bws)(hbq:w₀.heap.size≤bq)(hwb:bws≠bq)(hwg:w₀.heap.size≤C.Wg){i:Nat}(hi:i<n){x:TaskR}(hx:L[i]?=some x){ws:Nat→WV}{st:Nat→WState Wk}{T:Terr}{w:World}(R:RL C w₀ T w n i ws bws bq){k:List Item}{cs:List Frame}{u1 u2 u3 u4 u5 u6 u7 u11 u12 u13 u14 u15 u16 u17 u18 u19 u20 u21 u22 u23 u24 u25 u29 u30 u31 u32 u33 u34 u35 u36 u37 u38 u39 u40 u41 u42 u43 u44 u45 u46 u47 u48 u49 u50 u51 u52 u53 u54 u55 u56 u57 u58 u59 u60 u61 u62 u63 u64 u65 u66 u67 u68 u69 u70 u71 u72 u73 u74 u75 u76 u77 u78:Value}(kk:∀(v:WV) (T':Terr) (w':World) (V11 V12 V13 V29 V30 V31 V32 V33 V34 V35 V36 V37 V38 V39 V40 V41 V42 V43:Value),RL C w₀ T' w' n (i+1) (upd ws i v) bws bq→SW C Anc T' 0 0 (i+1) (upd ws i v) (upd st i (.busy ⟨x.ops,0,none⟩)) (G ((base 12).at ⟨#[.slice pt n ct,u1,u2,u3,u4,u5,u6,u7,.pointer (some ⟨C.Wg,0,none⟩),.pointer (some ⟨bq,0,none⟩),.slice (some ⟨bws,0,none⟩) n n,V11,V12,V13,u14,u15,u16,u17,u18,u19,u20,u21,u22,u23,u24,u25,.slice pt n ct,.int .i64 n,.int .i64 ((i+1:Nat):Int),V29,V30,V31,V32,V33,V34,V35,V36,V37,V38,V39,V40,V41,V42,V43,u44,u45,u46,u47,u48,u49,u50,u51,u52,u53,u54,u55,u56,u57,u58,u59,u60,u61,u62,u63,u64,u65,u66,u67,u68,u69,u70,u71,u72,u73,u74,u75,u76,u77,u78],[]⟩ k) cs) w'):
  SWn C Anc 0 0 i ws st 200 T (G ((base 12).at ⟨#[.slice pt n ct,u1,u2,u3,u4,u5,u6,u7,.pointer (some ⟨C.Wg,0,none⟩),.pointer (some ⟨bq,0,none⟩),.slice (some ⟨bws,0,none⟩) n n,u11,u12,u13,u14,u15,u16,u17,u18,u19,u20,u21,u22,u23,u24,u25,.slice pt n ct,.int .i64 n,.int .i64 i,u29,u30,u31,u32,u33,u34,u35,u36,u37,u38,u39,u40,u41,u42,u43,u44,u45,u46,u47,u48,u49,u50,u51,u52,u53,u54,u55,u56,u57,u58,u59,u60,u61,u62,u63,u64,u65,u66,u67,u68,u69,u70,u71,u72,u73,u74,u75,u76,u77,u78],[]⟩ (.code lp12::k)) cs) w:=by
 have hk0:(base 12).kind≠ .early:=by decide
 have H:=gait_w C Anc 0 0 i ws st
 rw[hP] at H
 have hG:=C.good_keep _ _ R.kp.cell hG0
 obtain⟨⟨tb,tf,rfl,hcx⟩,hrows⟩:=hg w hG i x hx
 have hcr:T.rd (.cell ⟨tb,tf+i,none⟩):=R.gi.r0 _ (hR1 i tb tf (by omega) rfl)
 have hxm:x∈L:=List.mem_of_getElem? hx
 have hdec:decide (i<n)=true:=by simpa using hi
 have hwi:IntKind.i64.wrap ((i:Int)+1)=(i:Int)+1:=by rw[IntKind.wrap_i64];omega
 conv in Item.code lp12=>{arg 1;whnf}
 refine H.seq ?_
 refine H.region ?_
 simp only[List.size_toArray,List.length_cons,List.length_nil,Nat.reduceAdd,Nat.zero_add,List.range,List.range.loop]
 co_applyP Gait.pure H _ rfl (by rfl) hk0 (fun _=>run_eq_of ?run1) (fun _=>?evs1) ?rest1
 case run1=>intro K hK;go_simp;exact hK
 case evs1=>simp[go_sem]
 walk_nrm
 refine H.regionEnd ?_
 refine H.seq ?_
 refine H.cond true rfl ?_
 simp only[if_true,if_false,Bool.false_eq_true,↓reduceIte]
 refine H.skip ?_
 refine H.seq ?_
 refine H.block ?_
 refine H.seq ?_
 refine H.region ?_
 simp only[List.size_toArray,List.length_cons,List.length_nil,Nat.reduceAdd,Nat.zero_add,List.range,List.range.loop]
 co_applyP Gait.pure H _ rfl (by rfl) hk0 (fun _=>run_eq_of ?run2) (fun _=>?evs2) ?rest2
 case run2=>intro K hK;go_simp;exact hK
 case evs2=>simp[go_sem]
 walk_nrm
 co_applyP Gait.pure H _ rfl (by rfl) hk0 (fun _=>run_eq_of ?run3) (fun _=>?evs3) ?rest3
 case run3=>intro K hK;go_simp;exact hK
 case evs3=>simp[go_sem,hi]
 walk_nrm
 co_applyP Gait.read H _ rfl (by rfl) hk0 (fun w₁ r=>⟨run_eq_of ?run4,?evs4⟩) ?rest4
 case run4=>have k0:=(r.cell _ hcr).trans hcx;intro K hK;go_simp;exact hK
 case evs4=>have k0:=(r.cell _ hcr).trans hcx;intro e he;simp[go_sem,k0] at he;subst he;exact⟨_,rfl,World.block_lt_of_cell? _ _ k0,hcr⟩
 walk_nrm
 refine H.allot (fun s=>.pointer (some ⟨s,0,none⟩)) (.cells #[.slice none 0 0] 26 (0,0)) rfl (by rfl) hk0 (fun w₁=>by simp[go_sem]) (fun w₁=>by simp[go_sem]) fun w₁ r=>?_
 have R1:=R.rely r
 have hbo0:w₀.heap.size≤w₁.heap.size:=R1.kp.size
 have hbl:=R1.row.lt
 have hbql:bq<w₁.heap.size:=World.block_lt_of_cell? _ _ R1.q
 have hbxl:∀k,k<i→(ws k).bx<w₁.heap.size:=fun k hk=>(R1.bx k hk).1.lt
 have R2:=R1.fr (S:=fun _=>False) hlow (Fr.alloc _ _ _ (.cells #[.slice none 0 0] 26 (0,0))) (R1.gi.alloc _) (fun b hb=>hb.elim)
 have O2:=OwnR.new T w₁ #[.slice none 0 0] 26
 have hsz:=World.size_alloc w₁ (.cells #[.slice none 0 0] 26 (0,0))
 generalize w₁.alloc (.cells #[.slice none 0 0] 26 (0,0))=w2 at R2 O2 hsz⊢
 generalize hbo:w₁.heap.size=bo at R2 O2 hsz hbo0 hbl hbql hbxl⊢
 generalize T.grow bo (bo+1)=T2 at R2 O2⊢
 clear hcx hcr r R1 R
 walk_nrm
 co_applyP Gait.pure H _ rfl (by rfl) hk0 (fun _=>run_eq_of ?run5) (fun _=>?evs5) ?rest5
 case run5=>intro K hK;go_simp;exact hK
 case evs5=>simp[go_sem]
 walk_nrm
 refine H.store1 O2 0 (.slice x.p x.ops.length x.cap) rfl (by rfl) hk0 (fun w₁ O1=>?_) fun w₃ r O3=>?_
 ·have k0:=O1.cell (i:=0) rfl;have z0:=O1.free 0
  refine⟨by go_simp,fun e he=>?_⟩
  simp[go_sem,k0,z0] at he
  exact he
 have E3:=(O2.rely r).frSet 0 (.slice x.p x.ops.length x.cap) not_wg1
 have R3:=(R2.rely r).fr hlow E3 ((O2.rely r).giSet (R2.rely r).gi 0 _ not_wg1) (fun b hb=>by subst hb;exact⟨hbo0,by omega,by omega,fun k hk=>by have:=hbxl k hk;omega⟩)
 have hbo3:bo<(w₃.setCell ⟨bo,0,none⟩ (.slice x.p x.ops.length x.cap)).heap.size:=O3.lt
 generalize w₃.setCell ⟨bo,0,none⟩ (.slice x.p x.ops.length x.cap)=w4 at O3 R3 E3 hbo3⊢
 clear E3 R2 O2 r hsz hbo w₁ w2
 simp only[List.setIfInBounds_toArray,List.set_cons_zero] at O3
 walk_nrm
 refine H.regionEnd ?_
 refine H.seq ?_
 refine H.le (n:=8) (by omega) (run9 H hk0 R3.gi fun of an bx bw T5 w5 F5 I5 W5=>?_)
 have R5:=R3.fr hlow F5 I5 (fun b hb=>hb.elim)
 have O5:=O3.fr F5 (R3.gi.kn _) id
 have hbl5:bws<w4.heap.size:=R3.row.lt
 have hbq5:bq<w4.heap.size:=World.block_lt_of_cell? _ _ R3.q
 have hbx5:∀k,k<i→(ws k).bx<w4.heap.size:=fun k hk=>(R3.bx k hk).1.lt
 obtain⟨lo1,lo2,lo3,lo4⟩:=W5.lo
 have hk5:=R3.kp.size
 have hqc5:C.qc<w4.heap.size:=R3.gi.low _ R3.qo
 clear F5 I5 O3 R3
 show SWn C Anc 0 0 i ws st 100 T5 _ w5
 refine H.seq ?_
 refine H.region ?_
 simp only[List.size_toArray,List.length_cons,List.length_nil,Nat.reduceAdd,Nat.zero_add,List.range,List.range.loop]
 co_applyP Gait.pure H _ rfl (by rfl) hk0 (fun _=>run_eq_of ?run6) (fun _=>?evs6) ?rest6
 case run6=>intro K hK;go_simp;exact hK
 case evs6=>simp[go_sem]
 walk_nrm
 co_applyP Gait.pure H _ rfl (by rfl) hk0 (fun _=>run_eq_of ?run7) (fun _=>?evs7) ?rest7
 case run7=>intro K hK;go_simp;exact hK
 case evs7=>simp[go_sem]
 walk_nrm
 have vw:w5.cell? ⟨bw,0,none⟩=some (.pointer (some ⟨bx,0,none⟩)):=W5.var.cell rfl
 have vwr:T5.rd (.cell ⟨bw,0,none⟩):=W5.var.rd 0
 co_applyP Gait.read H _ rfl (by rfl) hk0 (fun w₁ r=>⟨run_eq_of ?run8,?evs8⟩) ?rest8
 case run8=>have k0:=(r.cell _ vwr).trans vw;intro K hK;go_simp;exact hK
 case evs8=>have k0:=(r.cell _ vwr).trans vw;intro e he;simp[go_sem,k0] at he;subst he;exact⟨_,rfl,World.block_lt_of_cell? _ _ k0,vwr⟩
 walk_nrm
 co_applyP Gait.pure H _ rfl (by rfl) hk0 (fun _=>run_eq_of ?run9) (fun _=>?evs9) ?rest9
 case run9=>intro K hK;go_simp;exact hK
 case evs9=>simp[go_sem,hi]
 walk_nrm
 refine H.store1 R5.row i (.pointer (some ⟨bx,0,none⟩)) rfl (by rfl) hk0 (fun w₁ O1=>?_) fun w₆ r O6=>?_
 ·have k0:=O1.cell (wsRow_get' hi);have z0:=O1.free i
  refine⟨by go_simp,fun e he=>?_⟩
  simp[go_sem,k0,z0] at he
  exact he
 rw[show(wsRow n i ws).setIfInBounds i (.pointer (some ⟨bx,0,none⟩))=wsRow n (i+1) (upd ws i (vOf of an bx bw bo bq)) from wsRow_set (ws:=ws) (v:=vOf of an bx bw bo bq) hi] at O6
 have E6:=(R5.row.rely r).frSet i (.pointer (some ⟨bx,0,none⟩)) wsRow_nw
 have Rr:=R5.rely r
 have I6:=Rr.row.giSet Rr.gi i (.pointer (some ⟨bx,0,none⟩)) wsRow_nw
 have hbwsx:bx≠bws:=by omega
 have hbwsw:bw≠bws:=by omega
 have hbwso:bo≠bws:=by omega
 have W6:NewW T5 (w₆.setCell ⟨bws,i,none⟩ (.pointer (some ⟨bx,0,none⟩))) w4.heap.size of an bx bw:=
  ⟨E6.own _ _ W5.ow (r.own _ _ W5.ow W5.oc fun _ _ _=>by simp) fun _ _ _=>by simp,E6.own _ _ W5.aw (r.own _ _ W5.aw W5.ac fun _ _ _=>by simp) fun _ _ _=>by simp,W5.ow,W5.aw,W5.ne,(W5.box.rely r).fr E6 (R5.gi.kn _) hbwsx,(W5.var.rely r).fr E6 (R5.gi.kn _) hbwsw,W5.lo⟩
 have O6':=(O5.rely r).fr E6 (R5.gi.kn _) hbwso
 have kp6:Kp C.R0 w₀ (w₆.setCell ⟨bws,i,none⟩ (.pointer (some ⟨bx,0,none⟩))):=Rr.kp.fr Rr.gi.r0 Rr.gi.kn Rr.gi.ob hlow (fun b hb=>by subst hb;exact hbws) E6
 have q6:(w₆.setCell ⟨bws,i,none⟩ (.pointer (some ⟨bx,0,none⟩))).cell? ⟨bq,0,none⟩=some (.chan (some C.qc)):=(E6.cell _ Rr.qr (World.block_lt_of_cell? _ _ Rr.q) (fun e=>hwb e.symm)).trans Rr.q
 have qrow6:=row_fr Rr.qrow E6 (R5.gi.kn _)
 have wg6:=wgLive_fr Rr.wg E6 (R5.gi.kn _)
 have bx6:∀k,k<i→BoxF T5 (ws k) (w₆.setCell ⟨bws,i,none⟩ (.pointer (some ⟨bx,0,none⟩)))∧w₀.heap.size≤(ws k).bx∧(ws k).bx≠bws:=fun k hk=>⟨(Rr.bx k hk).1.fr E6 (Rr.bx k hk).2.2 (Rr.bx k hk).1.lt,(Rr.bx k hk).2⟩
 have qr6:=Rr.qr
 have qo6:=Rr.qo
 have wgn6:=Rr.wgn
 generalize w₆.setCell ⟨bws,i,none⟩ (.pointer (some ⟨bx,0,none⟩))=w6 at E6 I6 W6 O6 O6' kp6 q6 qrow6 wg6 bx6⊢
 clear E6 Rr r R5 W5 O5 vw vwr w₆ w5
 walk_nrm
 refine H.regionEnd ?_
 refine H.seq ?_
 refine H.region ?_
 simp only[List.size_toArray,List.length_cons,List.length_nil,Nat.reduceAdd,Nat.zero_add,List.range,List.range.loop]
 refine H.call (f:=26) (fn:=addFn Try.link) (c:=body_add Try.link) rfl (by rfl) hk0 rfl Try.wgLib.f_add (nm_add Try.link) rfl ?_
 rw[show(addFn Try.link).ntmps=117 from rfl]
 simp only[Act.eval,List.map_toArray,List.map_cons,List.map_nil,List.size_toArray,List.length_cons,List.length_nil,Nat.reduceAdd,Nat.reduceSub,Array.getD_eq_getD_getElem?,List.getElem?_toArray,List.getElem?_cons_succ,List.getElem?_cons_zero,Option.getD_some]
 refine add_sw (L:=Try.link) (by rw[hP];exact Try.wgLib) hty (I6.kn _) (by omega) (w0:=w6) ⟨by rw[show Try.link.tWg=C.ty from hty.symm];exact wg6,Rely.refl _ _ _⟩ fun w₇ hway=>?_
 have r:=hway.2
 have I7:=I6.rely r
 have O7:=O6.rely r
 have O7':=O6'.rely r
 have W7:NewW T5 w₇ w4.heap.size of an bx bw:=⟨r.own _ _ W6.ow W6.oc fun _ _ _=>by simp,r.own _ _ W6.aw W6.ac fun _ _ _=>by simp,W6.ow,W6.aw,W6.ne,W6.box.rely r,W6.var.rely r,W6.lo⟩
 have kp7:=kp6.rely I6.r0 I6.kn I6.ob r
 have q7:=(r.cell _ qr6).trans q6
 have qrow7:Row w₇ bq:=row_kin qrow6 fun o ho=>r.kin bq o (.inl (I6.kn _)) ho
 have wg7:=wgLive_rely r (I6.kn _) wg6
 have bx7:∀k,k<i→BoxF T5 (ws k) w₇∧w₀.heap.size≤(ws k).bx∧(ws k).bx≠bws:=fun k hk=>⟨(bx6 k hk).1.rely r,(bx6 k hk).2⟩
 clear hway r I6 O6 O6' W6 kp6 q6 qrow6 wg6 bx6 w6
 have H1:=gait_w C Anc 0 1 i ws st
 rw[hP] at H1
 show SWn C Anc 0 1 i ws st 100 T5 _ w₇
 walk_nrm
 refine H1.regionEnd ?_
 refine H1.region ?_
 simp only[List.size_toArray,List.length_cons,List.length_nil,Nat.reduceAdd,Nat.zero_add,List.range,List.range.loop]
 co_applyP Gait.pure H1 _ rfl (by rfl) hk0 (fun _=>run_eq_of ?run10) (fun _=>?evs10) ?rest10
 case run10=>intro K hK;go_simp;exact hK
 case evs10=>simp[go_sem]
 walk_nrm
 have hno:∀(a:Addr),w₀.heap.size≤a.block→¬C.R0 (.cell a):=fun a ha hx=>by have:a.block<w₀.heap.size:=hlow _ hx;omega
 have hnob:∀b,w₀.heap.size≤b→¬C.R0 (.obj b):=fun b ha hx=>by have:b<w₀.heap.size:=hlow _ hx;omega
 have bxlo:w₀.heap.size≤bx:=by omega
 refine SW.goAt (vOf of an bx bw bo bq) ⟨x.ops,0,none⟩ x.ops.length (wkOf bx) (T':=TGo T5 (ckOf of an bx bw bo bq) (wkOf bx) C.R0) (call27 C.Wg bw bo bq) rfl (by rfl) hk0 (fun w₁=>by rw[hP];simp[go_sem,call27]) (fun w₁=>by rw[hP];simp[go_sem]) rfl W7.oc W7.ac W7.ow W7.aw W7.ne ?_ ?_ I7.r0 ?_ ?_ (.inr (.inr (.inr (.inr (.inr (.inl rfl)))))) (.inr (.inr (.inr (.inr (.inr (.inr rfl)))))) (.inr (.inr rfl)) (fun l=>TGo_rd) (fun l h=>h) rfl ?_ ?_
 ·rintro l (rfl|rfl|rfl|rfl|rfl|rfl|rfl)
  ·exact W7.box.rd 0
  ·exact W7.box.rd 1
  ·exact W7.var.rd 0
  ·exact O7'.rd 0
  ·exact qr6
  ·exact .inr W7.ow
  ·exact .inr W7.aw
 ·rintro l (rfl|rfl|rfl)
  ·exact W7.box.cells _ rfl
  ·exact W7.box.cells _ rfl
  ·exact W7.box.obj
 ·rintro l (rfl|rfl|rfl)
  ·refine⟨?_,hno _ bxlo⟩
   rintro(e|e|e|e|e|e|e)<;>first|(cases e;done)|skip
   all_goals(simp at e;have:=W7.box.heap;first|(rw[e,W7.var.heap] at this;simp at this;done)|(rw[e,O7'.heap] at this;simp at this;done)|(omega))
  ·refine⟨?_,hno _ bxlo⟩
   rintro(e|e|e|e|e|e|e)<;>first|(cases e;done)|skip
   all_goals(simp at e;have:=W7.box.heap;first|(rw[e,W7.var.heap] at this;simp at this;done)|(rw[e,O7'.heap] at this;simp at this;done)|(omega))
  ·refine⟨?_,hnob _ bxlo⟩
   rintro(e|e|e|e|e|e|e)<;>first|(cases e;done)|skip
   ·have:=W7.box.heap;rw[Loc.obj.inj e,W7.oc] at this;cases this
   ·have:=W7.box.heap;rw[Loc.obj.inj e,W7.ac] at this;cases this
 ·rintro l (rfl|rfl|rfl|rfl|rfl|rfl|rfl)
  ·exact hno _ bxlo
  ·exact hno _ bxlo
  ·exact hno ⟨bw,0,none⟩ (by show w₀.heap.size≤bw;omega)
  ·exact hno ⟨bo,0,none⟩ (by show w₀.heap.size≤bo;omega)
  ·exact hno ⟨bq,0,none⟩ hbq
  ·exact hnob _ (by omega)
  ·exact hnob _ (by omega)
 · -- the worker
  intro w₈ r
  have B8:=W7.box.rely r
  have I8:=I7.rely r
  rw[show born C.P (call27 C.Wg bw bo bq)=born Try.prog (call27 C.Wg bw bo bq) by rw[hP]]
  refine worker_goes (v:=vOf of an bx bw bo bq) (wr:=wkOf bx) (N0:=w₀.heap.size) (bw:=bw) (bo:=bo) (bq:=bq) (cap:=x.cap) (p:=x.p) hP hty hn ha hs (fun w h=>(hg w h i x hx).2) (fun j y b o h1 h2=>hR4 x hxm j y b o h1 h2) (hno _ bxlo) (by have:=hlen x hxm;omega) (fun a h=>hlow _ h) (.inr (.inr (.inl rfl))) (.inr (.inr (.inr (.inl rfl)))) (.inr (.inr (.inr (.inr (.inl rfl)))))
   ⟨.inl rfl,.inr (.inl rfl),.inl rfl,.inr (.inl rfl)⟩ ⟨B8.cell rfl,B8.cell rfl,B8.cell rfl,B8.cell rfl,⟨_,B8.heap,rfl⟩,wgLive_rely r (I7.kn _) wg7⟩ (C.good_keep _ _ (fun a ha=>(kp7.rely I7.r0 I7.kn I7.ob r).cell a ha) hG0) ((kp7.rely I7.r0 I7.kn I7.ob r).size) ((W7.var.rely r).cell rfl) ((O7'.rely r).cell rfl) ((r.cell _ qr6).trans q7)
 · -- on
  intro w₈ r
  have H2:=gait_w C Anc 0 0 (i+1) (upd ws i (vOf of an bx bw bo bq)) (upd st i (.busy ⟨x.ops,0,none⟩))
  rw[hP] at H2
  show SWn C Anc 0 0 (i+1) (upd ws i (vOf of an bx bw bo bq)) (upd st i (.busy ⟨x.ops,0,none⟩)) 100 _ _ w₈
  have I8:=I7.rely r
  have B8:=W7.box.rely r
  have I9:GI C.R0 (TGo T5 (ckOf of an bx bw bo bq) (wkOf bx) C.R0) w₈:=I8.go hlow bxlo (by omega) (by omega) hbq (by omega) (by omega) ⟨_,_,B8.heap⟩ ⟨_,_,(W7.var.rely r).heap⟩ ⟨_,_,(O7'.rely r).heap⟩ (row_kin qrow7 fun o ho=>r.kin bq o (.inl (I7.kn _)) ho) ⟨_,_,_,_,_,_,r.own _ _ W7.ow W7.oc fun _ _ _=>by simp⟩ ⟨_,_,_,_,_,_,r.own _ _ W7.aw W7.ac fun _ _ _=>by simp⟩
  have O8:=O7.rely r
  have R9:RL C w₀ (TGo T5 (ckOf of an bx bw bo bq) (wkOf bx) C.R0) w₈ n (i+1) (upd ws i (vOf of an bx bw bo bq)) bws bq:=by
   refine⟨I9,kp7.rely I7.r0 I7.kn I7.ob r,⟨fun a ha=>⟨O8.cells a ha,?_,?_,hno a (by omega)⟩,⟨O8.obj,?_,?_,hnob _ hbws⟩,O8.heap⟩,(r.cell _ qr6).trans q7,TGo_rd.2 ⟨qr6,?_⟩,row_kin qrow7 fun o ho=>r.kin bq o (.inl (I7.kn _)) ho,wgLive_rely r (I7.kn _) wg7,fun k hk=>?_,TGo_rd.2 ⟨qo6,fun hw=>by rcases hw with e|e|e<;>first|(cases e;done)|(have:=Loc.obj.inj e;omega)⟩,fun a ha hr=>wgn6 a ha (TGo_rd.1 hr).1⟩
   ·rintro(e|e|e|e|e|e|e)<;>first|(cases e;done)|(have:=Loc.cell.inj e;subst this;simp at ha;omega)
   ·rintro(e|e|e)<;>first|(cases e;done)|(have:=Loc.cell.inj e;subst this;simp at ha;omega)
   ·rintro(e|e|e|e|e|e|e)<;>first|(cases e;done)|(have:=Loc.obj.inj e;omega)
   ·rintro(e|e|e)<;>first|(cases e;done)|(have:=Loc.obj.inj e;omega)
   ·rintro(e|e|e)<;>first|(cases e;done)|(simp at e;done)
   ·by_cases e:k=i
    ·subst e
     rw[upd_eq]
     refine⟨⟨B8.cell rfl,B8.cell rfl,TGo_rd.2 ⟨B8.rd 0,?_⟩,TGo_rd.2 ⟨B8.rd 1,?_⟩⟩,bxlo,hbwsx⟩
     ·rintro(e|e|e)<;>first|(cases e;done)|(simp at e;done)
     ·rintro(e|e|e)<;>first|(cases e;done)|(simp at e;done)
    ·rw[upd_other _ _ e]
     have hB:=bx7 k (by omega)
     have hB':=hB.1.rely r
     refine⟨⟨hB'.c0,hB'.c1,TGo_rd.2 ⟨hB'.r0,?_⟩,TGo_rd.2 ⟨hB'.r1,?_⟩⟩,hB.2⟩
     ·rintro(e|e|e)<;>first|(cases e;done)|(simp at e;done)
     ·rintro(e|e|e)<;>first|(cases e;done)|(simp at e;done)
  clear I7 I8 I9 B8 O8 O7 O7' W7 kp7 q7 qrow7 wg7 bx7 r w₇
  walk_nrm
  refine H2.regionEnd ?_
  refine H2.inBlock ?_
  refine H2.region ?_
  simp only[List.size_toArray,List.length_cons,List.length_nil,Nat.reduceAdd,Nat.zero_add,List.range,List.range.loop]
  co_applyP Gait.pure H2 _ rfl (by rfl) hk0 (fun _=>run_eq_of ?run11) (fun _=>?evs11) ?rest11
  case run11=>intro K hK;go_simp;exact hK
  case evs11=>simp[go_sem]
  walk_nrm
  co_applyP Gait.pure H2 _ rfl (by rfl) hk0 (fun _=>run_eq_of ?run12) (fun _=>?evs12) ?rest12
  case run12=>intro K hK;go_simp;exact hK
  case evs12=>simp[go_sem]
  walk_nrm
  refine H2.regionEnd ?_
  rw[show((i:Int)+1)=((i+1:Nat):Int) by omega]
  exact kk _ _ _ _ _ _ _ _ _ _ _ _ _ _ _ _ _ _ _ _ _ R9
end
end Go.Side
