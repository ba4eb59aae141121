/-
  Texts of Ytbjlijagheifgaa, merged.
-/
import Derived.Test.YtbjlijagheifgaaD33
import Derived.Test.YtbjlijagheifgaaD26
import Derived.Test.YtbjlijagheifgaaD25
import Derived.Test.YtbjlijagheifgaaD31
set_option linter.unusedSimpArgs false
set_option linter.unusedVariables false
namespace Go.Side
section
open Go Go.Conc Go.ConcN Go.Proofs Go.RowKit Go.Conc.Lib Go.ConcR.Gen Go.ConcN.Gen Go.Proofs.Ytbjlijagheifgaa
theorem info75:(Try.prog.info? 75).map (fun i=>(i.zero,i.size,i.bytes))=some (some (.pointer none),1,8):=by kernel_rfl
theorem wsRow_zero(n:Nat)(ws:Nat→WV):(nxRow n fun _=>none)=wsRow n 0 ws:=by
 unfold nxRow wsRow
 congr 1
set_option maxRecDepth 100000 in
set_option maxHeartbeats 8000000 in
theorem run_script{C:Fix Wk}{Anc:Nat→(Nat→WV)→(Nat→WState Wk)→Goroutine→World→Prop}{Shun:Loc→Prop}{w₀ w':World}(hP:C.P=Try.prog)(hty:C.ty=72)(hn:C.nxt=Wk.nxt)(ha:C.ans=Wk.ans)(hs:C.sum=Wk.all)(F:FixAt C Shun w₀)(S:ShunAt Shun w₀)(B:Begun Shun w₀ w'){L:List TaskR}{pt:Option Addr}{ct n:Nat}{E:OpV→List Int}(hg:∀w,C.good w→TasksAt w pt L)(hR1:∀(j:Nat) b o,j<L.length→pt=some ⟨b,o,none⟩→C.R0 (.cell ⟨b,o+j,none⟩))(hR4:∀x∈L,∀j y b o,x.ops[j]?=some y→x.p=some ⟨b,o,none⟩→∀f,f<4→C.R0 (.cell ⟨b,o+j*4+f,none⟩))(hlen:∀x∈L,x.ops.length≤1000)(hG0:C.good w₀)(hnL:L.length=n)(hn8:n≤8){ws:Nat→WV}{st:Nat→WState Wk}{k:List Item}{cs:List Frame}(u1 u2 u3 u4 u5 u6 u7 u9 u10 u11 u12 u13 u14 u15 u16 u17 u18 u19 u20 u21 u23 u24 u25 u26 u27 u28 u29 u30 u31 u32 u33 u34 u35 u36 u37 u38 u39 u40 u41 u42 u43 u44 u45 u46 u47 u48 u49 u50 u51 u52 u53 u54 u55 u56 u57 u58 u59 u60 u61 u62 u63 u64 u65 u66 u67 u68 u69 u70 u71 u72 u73 u74 u75 u76 u77 u78:Value)(kk:∀(bws bq:Nat) (ws:Nat→WV) (st:Nat→WState Wk) (T:Terr) (w:World) (v11 v12 v13 v23 v24 v25 v29 v30 v31 v32 v33 v34 v35 v36 v37 v38 v39 v40 v41 v42 v43:Value),w₀.heap.size≤bws→w₀.heap.size≤bq→bws≠bq→RL C w₀ T w n n ws bws bq→(n=0→∀l,C.R0 l→T.wr l)→(∀q x,q<n→L[q]?=some x→st q= .busy ⟨x.ops,0,none⟩)→ SW C Anc T 0 0 n ws st (G ((base 12).at ⟨#[.slice pt n ct,u1,u2,u3,u4,u5,u6,u7,.pointer (some ⟨C.Wg,0,none⟩),.pointer (some ⟨bq,0,none⟩),.slice (some ⟨bws,0,none⟩) n n,v11,v12,v13,u14,u15,u16,u17,u18,u19,u20,u21,.chan (some C.qc),v23,v24,v25,.slice pt n ct,.int .i64 n,.int .i64 n,v29,v30,v31,v32,v33,v34,v35,v36,v37,v38,v39,v40,v41,v42,v43,u44,u45,u46,u47,u48,u49,u50,u51,u52,u53,u54,u55,u56,u57,u58,u59,u60,u61,u62,u63,u64,u65,u66,u67,u68,u69,u70,u71,u72,u73,u74,u75,u76,u77,u78],[]⟩ (.code t12_14::k)) cs) w):
  SWn C Anc 0 0 0 ws st 3000 (T0 C w'.heap.size) (G ((base 12).at ⟨#[.slice pt n ct,u1,u2,u3,u4,u5,u6,u7,.pointer (some ⟨C.Wg,0,none⟩),u9,u10,u11,u12,u13,u14,u15,u16,u17,u18,u19,u20,u21,.chan (some C.qc),u23,u24,u25,u26,u27,u28,u29,u30,u31,u32,u33,u34,u35,u36,u37,u38,u39,u40,u41,u42,u43,u44,u45,u46,u47,u48,u49,u50,u51,u52,u53,u54,u55,u56,u57,u58,u59,u60,u61,u62,u63,u64,u65,u66,u67,u68,u69,u70,u71,u72,u73,u74,u75,u76,u77,u78],[]⟩ (.inRegion ops12_4 [1,2]:: .code t12_5::k)) cs) w':=by
 have hk0:(base 12).kind≠ .early:=by decide
 have I:=F.gi S B
 have K:=B.kp F
 have hqo:=F.qo S B
 have hwgn:=F.wgn w'.heap.size
 have hown:=F.own0 S B
 have hlow:=F.low
 have hsz:=B.size
 have hWg:WgLive C.ty C.Wg w':=⟨0,0,by rw[hty,F.Wg];exact B.wg⟩
 have hWgl:w₀.heap.size≤C.Wg:=by rw[F.Wg];exact Nat.le_refl _
 have hWg2:C.Wg<w'.heap.size:=by rw[F.Wg];omega
 generalize T0 C w'.heap.size=T at I hqo hwgn hown⊢
 clear F S B
 obtain⟨i0,hi,hz0,hz1,hz2⟩:=info_parts info75
 have hmk:∀w:World,(Instr.makeSlice 74 (.int .i64 n) (.int .i64 n)).run Try.prog w= .ok (.slice (some ⟨w.heap.size,0,none⟩) n n) (w.alloc (.cells (nxRow n fun _=>none) 75 (0,0))):=fun w=>by
  have h:=run_make (P:=Try.prog) (w:=w) 74 75 i0 (.pointer none) Try.underlying74 hi hz0 .i64 .i64 n n (by omega) (by omega) (by rw[hz2];omega) (by omega)
  rw[hz1,Int.toNat_natCast,made_ptr] at h
  exact h
 have hme:∀w:World,(Instr.makeSlice 74 (.int .i64 n) (.int .i64 n)).events Try.prog w #[]= #[]:=fun w=>events_make (P:=Try.prog) w 74 75 i0 (.pointer none) Try.underlying74 hi hz0 .i64 .i64 n n (by omega) (by omega) (by rw[hz2];omega) (by omega) (by rw[hz2];simp;omega) #[]
 have H:=gait_w C Anc 0 0 0 ws st
 rw[hP] at H
 conv in Item.inRegion ops12_4 _=>{arg 1;whnf}
 conv in Item.code t12_5=>{arg 1;whnf}
 refine H.allot (fun s=>.pointer (some ⟨s,0,none⟩)) (.cells #[.chan none] 73 (0,0)) rfl (by rfl) hk0 (fun w₁=>by simp[go_sem]) (fun w₁=>by simp[go_sem]) fun w₁ r=>?_
 have F1:=Fr.alloc (fun _=>False) T w₁ (.cells #[.chan none] 73 (0,0))
 have I1:=(I.rely r).alloc (.cells #[.chan none] 73 (0,0))
 have K1:=(K.rely I.r0 I.kn I.ob r).fr I.r0 I.kn I.ob hlow (fun b hb=>hb.elim) F1
 have W0:=wgLive_rely r (I.kn _) hWg
 have W1:=wgLive_fr W0 F1 (I.kn _)
 have q1:=F1.rd hqo
 have g1:=wgn_fr F1 W0 hwgn
 have n1:∀l,C.R0 l→(T.grow w₁.heap.size (w₁.heap.size+1)).wr l:=fun l hl=>.inl (hown l hl)
 have O1:=OwnR.new T w₁ #[.chan none] 73
 have hb1:w₀.heap.size≤w₁.heap.size:=(K.rely I.r0 I.kn I.ob r).size
 clear F1 W0 I K hWg hqo hwgn hown r hWg2 hsz
 generalize w₁.alloc (.cells #[.chan none] 73 (0,0))=w2 at I1 K1 W1 O1⊢
 generalize w₁.heap.size=bq at I1 q1 g1 n1 O1 hb1⊢
 generalize T.grow bq (bq+1)=T1 at I1 q1 g1 n1 O1⊢
 clear w₁ w' T
 walk_nrm
 refine H.store1 O1 0 (.chan (some C.qc)) rfl (by rfl) hk0 (fun w₁ O1=>?_) fun w₁ r O2=>?_
 ·have k0:=O1.cell (i:=0) rfl;have z0:=O1.free 0
  refine⟨by go_simp,fun e he=>?_⟩
  simp[go_sem,k0,z0] at he
  exact he
 have E2:=(O1.rely r).frSet 0 (.chan (some C.qc)) not_wg1
 have I2:=(O1.rely r).giSet (I1.rely r) 0 (.chan (some C.qc)) not_wg1
 have K2:=(K1.rely I1.r0 I1.kn I1.ob r).fr I1.r0 I1.kn I1.ob hlow (fun b hb=>by subst hb;exact hb1) E2
 have W2:=wgLive_fr (wgLive_rely r (I1.kn _) W1) E2 (I1.kn _)
 simp only[List.setIfInBounds_toArray,List.set_cons_zero] at O2
 generalize w₁.setCell ⟨bq,0,none⟩ (.chan (some C.qc))=w3 at I2 K2 W2 O2 E2⊢
 clear E2 I1 K1 W1 O1 r w₁ w2
 walk_nrm
 refine H.regionEnd ?_
 refine H.seq ?_
 refine H.region ?_
 simp only[List.size_toArray,List.length_cons,List.length_nil,Nat.reduceAdd,Nat.zero_add,List.range,List.range.loop]
 co_applyP Gait.pure H _ rfl (by rfl) hk0 (fun _=>run_eq_of ?run1) (fun _=>?evs1) ?rest1
 case run1=>intro K hK;go_simp;exact hK
 case evs1=>simp[go_sem]
 walk_nrm
 co_applyP Gait.pure H _ rfl (by rfl) hk0 (fun _=>run_eq_of ?run2) (fun _=>?evs2) ?rest2
 case run2=>intro K hK;go_simp;exact hK
 case evs2=>simp[go_sem]
 walk_nrm
 refine H.allot (fun s=>.slice (some ⟨s,0,none⟩) n n) (.cells (nxRow n fun _=>none) 75 (0,0)) rfl (by rfl) hk0 (fun w₁=>by simp[go_sem,hmk]) (fun w₁=>by simp[go_sem,hme]) fun w₁ r=>?_
 have F3:=Fr.alloc (fun _=>False) T1 w₁ (.cells (nxRow n fun _=>none) 75 (0,0))
 have I3:=(I2.rely r).alloc (.cells (nxRow n fun _=>none) 75 (0,0))
 have K3:=(K2.rely I2.r0 I2.kn I2.ob r).fr I2.r0 I2.kn I2.ob hlow (fun b hb=>hb.elim) F3
 have W3:=wgLive_rely r (I2.kn _) W2
 have R3:RL C w₀ (T1.grow w₁.heap.size (w₁.heap.size+1)) (w₁.alloc (.cells (nxRow n fun _=>none) 75 (0,0))) n 0 ws w₁.heap.size bq:=
  ⟨I3,K3,by rw[wsRow_zero n ws];exact OwnR.new T1 w₁ _ 75,((O2.rely r).fr F3 (I2.kn _) id).cell (i:=0) rfl,((O2.rely r).fr F3 (I2.kn _) id).rd 0,⟨_,_,((O2.rely r).fr F3 (I2.kn _) id).heap⟩,wgLive_fr W3 F3 (I2.kn _),(fun k hk=>by omega),F3.rd q1,wgn_fr F3 W3 g1⟩
 have hbw:w₀.heap.size≤w₁.heap.size:=(K2.rely I2.r0 I2.kn I2.ob r).size
 have hne:w₁.heap.size≠bq:=fun e=>by have:=(O2.rely r).lt;omega
 have n3:∀l,C.R0 l→(T1.grow w₁.heap.size (w₁.heap.size+1)).wr l:=fun l hl=>.inl (n1 l hl)
 clear F3 I3 K3 W3 I2 K2 W2 O2 r n1 q1 g1
 generalize w₁.alloc (.cells (nxRow n fun _=>none) 75 (0,0))=w4 at R3⊢
 generalize w₁.heap.size=bws at R3 hbw hne n3⊢
 generalize T1.grow bws (bws+1)=T3 at R3 n3⊢
 clear w₁ w3 T1
 walk_nrm
 co_applyP Gait.pure H _ rfl (by rfl) hk0 (fun _=>run_eq_of ?run3) (fun _=>?evs3) ?rest3
 case run3=>intro K hK;go_simp;exact hK
 case evs3=>simp[go_sem]
 walk_nrm
 refine H.regionEnd ?_
 refine H.seq ?_
 refine H.seq ?_
 refine H.region ?_
 simp only[List.size_toArray,List.length_cons,List.length_nil,Nat.reduceAdd,Nat.zero_add,List.range,List.range.loop]
 co_applyP Gait.pure H _ rfl (by rfl) hk0 (fun _=>run_eq_of ?run4) (fun _=>?evs4) ?rest4
 case run4=>intro K hK;go_simp;exact hK
 case evs4=>simp[go_sem]
 walk_nrm
 co_applyP Gait.pure H _ rfl (by rfl) hk0 (fun _=>run_eq_of ?run5) (fun _=>?evs5) ?rest5
 case run5=>intro K hK;go_simp;exact hK
 case evs5=>simp[go_sem]
 walk_nrm
 co_applyP Gait.pure H _ rfl (by rfl) hk0 (fun _=>run_eq_of ?run6) (fun _=>?evs6) ?rest6
 case run6=>intro K hK;go_simp;exact hK
 case evs6=>simp[go_sem]
 walk_nrm
 refine H.regionEnd ?_
 refine H.block ?_
 refine H.loop ?_
 exact H.le (n:=300) (by omega) (run_loop hP hty hn ha hs hlow hg hR1 hR4 hlen hG0 hnL (by omega) hbw hb1 hne hWgl n 0 (by omega) ws st T3 w4 _ _ _ _ _ _ _ _ _ _ _ _ _ _ _ _ _ _ _ _ _ _ _ _ _ _ _ _ _ _ _ _ _ _ _ _ _ _ _ _ _ _ _ _ _ _ _ _ _ _ _ _ _ _ _ _ _ _ _ _ _ _ _ _ _ _ _ _ _ _ _ _ R3 (fun _=>n3) (fun q x hq=>by omega) fun ws st T w v11 v12 v13 v29 v30 v31 v32 v33 v34 v35 v36 v37 v38 v39 v40 v41 v42 v43 R hq hst=>kk bws bq ws st T w _ _ _ _ _ _ _ _ _ _ _ _ _ _ _ _ _ _ _ _ _ hbw hb1 hne R hq hst)
end
section
open Go Go.Conc Go.ConcN Go.Proofs Go.RowKit Go.Conc.Lib Go.ConcR.Gen Go.ConcN.Gen Go.Proofs.Ytbjlijagheifgaa
set_option maxRecDepth 100000 in
set_option maxHeartbeats 8000000 in
theorem run_joins{C:Fix Wk}{Anc:Nat→(Nat→WV)→(Nat→WState Wk)→Goroutine→World→Prop}{Shun:Loc→Prop}{w₀:World}(hP:C.P=Try.prog)(hty:C.ty=72)(hn:C.nxt=Wk.nxt)(ha:C.ans=Wk.ans)(hs:C.sum=Wk.all)(F:FixAt C Shun w₀)(S:ShunAt Shun w₀)(hSl:∀l,Shun l→l.low w₀.heap.size){L:List TaskR}{pt:Option Addr}{ct n:Nat}{E:OpV→List Int}{task:Nat→List OpV}(hg:∀w,C.good w→TasksAt w pt L)(hR1:∀(j:Nat) b o,j<L.length→pt=some ⟨b,o,none⟩→C.R0 (.cell ⟨b,o+j,none⟩))(hR4:∀x∈L,∀j y b o,x.ops[j]?=some y→x.p=some ⟨b,o,none⟩→∀f,f<4→C.R0 (.cell ⟨b,o+j*4+f,none⟩))(hlen:∀x∈L,x.ops.length≤1000)(hG0:C.good w₀)(hnL:L.length=n)(hn8:n≤8)(htask:∀q x,L[q]?=some x→task q=x.ops)(hx:∀k,k<n→∀x,x∈task k→EithR C.R0 w₀ E x){ch:List Int}{pc:Option Addr}{cc:Nat}(hch:∀j v,ch[j]?=some v→∃b o,pc=some ⟨b,o,none⟩∧w₀.cell? ⟨b,o+j,none⟩=some (.int .i64 v)∧C.R0 (.cell ⟨b,o+j,none⟩))(hm:measC n (fun k=>fet ⟨task k,0,none⟩)≤100000){k:List Item}{cs:List Frame}(u1 u3 u4 u5 u6 u7 u8 u9 u10 u11 u12 u13 u14 u15 u16 u17 u18 u19 u20 u21 u22 u23 u24 u25 u26 u27 u28 u29 u30 u31 u32 u33 u34 u35 u36 u37 u38 u39 u40 u41 u42 u43 u44 u45 u46 u47 u48 u49 u50 u51 u52 u53 u54 u55 u56 u57 u58 u59 u60 u61 u62 u63 u64 u65 u66 u67 u68 u69 u70 u71 u72 u73 u74 u75 u76 u77 u78:Value)(kk:∀(p:Plc) (ws:Nat→WV) (c':Cf) (S':List StepP) (st':Nat→WState Wk) (nx':Nat→Option (Nat×OpV)) (ex':List (Nat×Array Value×TypeId)) (sa':Option Addr) (sc' bo bws bq:Nat) (T':Terr) (w':World) (v11 v12 v13 v23 v24 v25 v29 v30 v31 v32 v33 v34 v35 v36 v37 v38 v39 v40 v41 v42 v43:Value),p.bws=bws→p.bq=bq→p.ok w₀.heap.size→RunTo E n ch (fun k=>fet ⟨task k,0,none⟩) [] c' S'→Inv task n c' st' nx'→StR ex' sa' sc' S'→SL C w₀ {p with ex:=ex'} n ws st' nx' T' w'→ OwnR T' w' bo #[.slice sa' S'.length sc',.slice none 0 0,.slice none 0 0] 32→w₀.heap.size≤bo→∀w₁,Rely false T' w' w₁→Anc n ws st' (G ((base 12).at ⟨#[.slice pt n ct,u1,.slice pc ch.length cc,u3,u4,u5,u6,u7,.pointer (some ⟨C.Wg,0,none⟩),.pointer (some ⟨bq,0,none⟩),.slice (some ⟨bws,0,none⟩) n n,v11,v12,v13,.pointer (some ⟨bo,0,none⟩),u15,u16,u17,u18,u19,u20,u21,.chan (some C.qc),v23,v24,v25,.slice pt n ct,.int .i64 n,.int .i64 n,v29,v30,v31,v32,v33,v34,v35,v36,v37,v38,v39,v40,v41,v42,v43,.slice (some ⟨bws,0,none⟩) n n,.slice pc ch.length cc,.slice sa' S'.length sc',.agg #[.slice sa' S'.length sc',.slice none 0 0,.slice none 0 0],.chan (some C.qc),.tuple #[],u50,u51,u52,u53,u54,u55,u56,u57,u58,u59,u60,u61,u62,u63,u64,u65,u66,u67,u68,u69,u70,u71,u72,u73,u74,u75,u76,u77,u78],[]⟩ (.inRegion ops12_16 []:: .code t12_17::k)) cs) w₁){gs:Array Goroutine}{sl:Option (Nat×Nat)}{t:Trace}{q:Nat→Nat}(hPt:Past Shun w₀.heap.size t)(hL:Leavers C.P t gs q)(h0:gs[0]?=some (G ((base 12).at ⟨#[.slice pt n ct,u1,.slice pc ch.length cc,u3,u4,u5,u6,u7,u8,u9,u10,u11,u12,u13,u14,u15,u16,u17,u18,u19,u20,u21,u22,u23,u24,u25,u26,u27,u28,u29,u30,u31,u32,u33,u34,u35,u36,u37,u38,u39,u40,u41,u42,u43,u44,u45,u46,u47,u48,u49,u50,u51,u52,u53,u54,u55,u56,u57,u58,u59,u60,u61,u62,u63,u64,u65,u66,u67,u68,u69,u70,u71,u72,u73,u74,u75,u76,u77,u78],[]⟩ (.code t12_3::k)) cs)):
  Comes C.P (fun m t=>∃g0 n ws st,QuietS n st∧JoinedAt C (Anc n ws st) g0 n ws st m t) (crowd gs w₀ sl) t:=by
 refine(run_begin hP (w:=w₀) (B:=w₀.heap.size) hSl _ _ _ _ _ _ _ _ _ _ _ _ _ _ _ _ _ _ _ _ _ _ _ _ _ _ _ _ _ _ _ _ _ _ _ _ _ _ _ _ _ _ _ _ _ _ _ _ _ _ _ _ _ _ _ _ _ _ _ _ _ _ _ _ _ _ _ _ _ _ _ _ _ _ _ _ _ _ _ fun w' B=>⟨fun{gs sl t q} hPt hL h0=>?_⟩).run hPt hL h0
 have hlt:0<gs.size:=(Array.getElem?_eq_some_iff.1 h0).1
 have hsz:=B.size
 rw[←F.qc,←F.Wg] at h0
 refine(SW.joins (run_script (Anc:=Anc) (E:=E) hP hty hn ha hs F S B (L:=L) (pt:=pt) (ct:=ct) (n:=n) hg hR1 hR4 hlen hG0 hnL hn8 (ws:=fun _=>⟨0,0,0,fun _=>False⟩) (st:=fun _=>.ended ⟨[],0,none⟩) (k:=k) (cs:=cs) u1 (.slice pc ch.length cc) u3 u4 u5 u6 u7 u9 u10 u11 u12 u13 u14 u15 u16 u17 u18 u19 u20 u21 u23 u24 u25 u26 u27 u28 u29 u30 u31 u32 u33 u34 u35 u36 u37 u38 u39 u40 u41 u42 u43 u44 u45 u46 u47 u48 u49 u50 u51 u52 u53 u54 u55 u56 u57 u58 u59 u60 u61 u62 u63 u64 u65 u66 u67 u68 u69 u70 u71 u72 u73 u74 u75 u76 u77 u78 fun bws bq ws st T w v11 v12 v13 v23 v24 v25 v29 v30 v31 v32 v33 v34 v35 v36 v37 v38 v39 v40 v41 v42 v43 hbws hbq hne R hq hst=>?_) (P1.start hPt hL hlt (by rw[F.Wg];exact Nat.le_refl _) (by omega) F.Sh (fun l hl=>Loc.low_mono (by omega) (hSl l hl)) (by rw[hty,F.Wg];exact B.wg) (by rw[F.qc];exact B.qc) (fun l hl=>F.own0 S B l hl) _ _ (fun _=>⟨.fin 0 ⟨[],0,none⟩ true,0,0,fun _=>False,none,none⟩)) h0).bind fun m t ⟨n,ws,st,h⟩=>.here ⟨_,n,ws,st,h⟩
 have hst':∀k,k<n→st k= .busy ⟨task k,0,none⟩:=fun k hk=>by
  obtain⟨x,hx⟩:∃x,L[k]?=some x:=⟨_,List.getElem?_eq_getElem (by rw[hnL];exact hk)⟩
  rw[hst k x hk hx,htask k x hx]
 exact run_mid (E:=E) (task:=task) hP hty hn ha hG0 (F.whole S) F.low hn8 hx hch hbws hbq hne R hq hst' hm _ _ _ _ _ _ _ _ _ _ _ _ _ _ _ _ _ _ _ _ _ _ _ _ _ _ _ _ _ _ _ _ _ _ _ _ _ _ _ _ _ _ _ _ _ _ _ _ _ _ _ _ _ _ _ _ _ _ _ _ _ _ _ _ _ _ _ _ _ _ _ _ _ _ fun p c' S' st' nx' ex' sa' sc' bo T' w' e1 e2 hp hr I hS R' O hb w₁ r=>kk p ws c' S' st' nx' ex' sa' sc' bo bws bq T' w' _ _ _ _ _ _ _ _ _ _ _ _ _ _ _ _ _ _ _ _ _ e1 e2 hp hr I hS R' O hb w₁ r
end
end Go.Side
namespace Go.Proofs.Ytbjlijagheifgaa
section
open Go.RowKit Go.Side
def stuckL(dn:Nat→Bool)(i:Nat):List Int:=List.map (fun k:Nat=>(k:Int)) ((List.range i).filter fun k=> !dn k)
def sumsL(sm:Nat→Int)(i:Nat):List Int:=(List.range i).map sm
theorem stuckL_succ(dn:Nat→Bool)(i:Nat):stuckL dn (i+1)=if dn i then stuckL dn i else stuckL dn i++[(i:Int)]:=by
 unfold stuckL
 rw[List.range_succ,List.filter_append,List.map_append]
 cases h:dn i<;>simp[h]
theorem sumsL_succ(sm:Nat→Int)(i:Nat):sumsL sm (i+1)=sumsL sm i++[sm i]:=by simp[sumsL,List.range_succ]
theorem stuckL_len(dn:Nat→Bool)(i:Nat):(stuckL dn i).length≤i:=by
 have:=List.length_filter_le (fun k=> !dn k) (List.range i)
 simpa[stuckL] using this
structure EndAt(u:World)(bws bo rb n:Nat)(bx:Nat→Nat)(sm:Nat→Int)(dn:Nat→Bool)(vs:Value):Prop where
 row:∀k,k<n→u.cell? ⟨bws,k,none⟩=some (.pointer (some ⟨bx k,0,none⟩))
 sum:∀k,k<n→u.cell? ⟨bx k,2,none⟩=some (.int .i64 (sm k))
 done:∀k,k<n→u.cell? ⟨bx k,3,none⟩=some (.bool (dn k))
 out:∃v1 v2,Blk u bo 32 [vs,v1,v2]∧v1= .slice none 0 0∧v2= .slice none 0 0
 res:∃r0 r1 r2,Blk u rb 32 [r0,r1,r2]
 n1:bo≠rb
 n2:bws≠bo
 n3:∀k,k<n→bx k≠bo
structure EndMid(u:World)(bo:Nat)(vs:Value)(sm:Nat→Int)(dn:Nat→Bool)(i:Nat)(wr:World):Prop where
 out:∃v1 v2,Blk wr bo 32 [vs,v1,v2]∧wr.ownsRow u.heap.size 3 1 v1 i ((sumsL sm i).map (Value.int .i64))∧wr.ownsRow u.heap.size 3 1 v2 (stuckL dn i).length ((stuckL dn i).map (Value.int .i64))∧(∀g,v1.ownBlock=some g→v2.ownBlock≠some g)
 upd:Upd (fun k=>k=bo) u wr
end
section
open Go.RowKit Go.Side
theorem rt_wp{P:Program}{c:Code}{a:Act}{w:World}{Q:Act→World→Prop}(h:c.wp P (fun e a' u'=>match e with| .ret=>Q a' u'|_=>False) a w):c.wp P (fun e a' u'=>e= .ret∧Q a' u') a w:=
 Code.wp_mono (fun e a w q=>by cases e<;>first|exact⟨rfl,q⟩|exact q.elim) h
def EndPost(u:World)(bo rb n:Nat)(sm:Nat→Int)(dn:Nat→Bool)(vs:Value)(a':Act)(u':World):Prop:=
 a'.tmps.getD 6 undef= .pointer (some ⟨rb,0,none⟩)∧a'.tmps.getD 7 undef= .int .i64 0∧∃v1 v2,Blk u' rb 32 [vs,v1,v2]∧u'.ownsRow u.heap.size 3 1 v1 n ((sumsL sm n).map (Value.int .i64))∧u'.ownsRow u.heap.size 3 1 v2 (stuckL dn n).length ((stuckL dn n).map (Value.int .i64))∧Upd (fun k=>k=bo∨k=rb) u u'
set_option maxHeartbeats 4000000 in
set_option maxRecDepth 100000 in
theorem wp_end{u:World}{bws bo rb n:Nat}{bx:Nat→Nat}{sm:Nat→Int}{dn:Nat→Bool}{va:Option Addr}{vn vc:Nat}(h:EndAt u bws bo rb n bx sm dn (.slice va vn vc))(hn:n≤8)(u0 u1 u2 u3 u4 u5 u7 u8 u9 u11 u12 u13 u15 u16 u17 u18 u19 u20 u21 u22 u23 u24 u25 u26 u27 u28 u29 u30 u31 u32 u33 u34 u35 u36 u37 u38 u39 u40 u41 u42 u43 u44 u45 u46 u47 u48 u49 u50 u51 u52 u53 u54 u55 u56 u57 u58 u59 u60 u61 u62 u63 u64 u65 u66 u67 u68 u69 u70 u71 u72 u73 u74 u75 u76 u77 u78:Value):
  t12_17.wp Try.prog (fun e a' u'=>e= .ret∧EndPost u bo rb n sm dn (.slice va vn vc) a' u') ⟨#[u0,u1,u2,u3,u4,u5,.pointer (some ⟨rb,0,none⟩),u7,u8,u9,.slice (some ⟨bws,0,none⟩) n n,u11,u12,u13,.pointer (some ⟨bo,0,none⟩),u15,u16,u17,u18,u19,u20,u21,u22,u23,u24,u25,u26,u27,u28,u29,u30,u31,u32,u33,u34,u35,u36,u37,u38,u39,u40,u41,u42,u43,u44,u45,u46,u47,u48,u49,u50,u51,u52,u53,u54,u55,u56,u57,u58,u59,u60,u61,u62,u63,u64,u65,u66,u67,u68,u69,u70,u71,u72,u73,u74,u75,u76,u77,u78],[]⟩ u:=by
 have H:=Lib.hid h
 have HN:=Lib.hid hn
 obtain⟨i1,hi,hz0,hz1,hz2⟩:=info_parts Try.infoInt
 have JI:=Lib.hid hi;have JZ0:=Lib.hid hz0;have JZ1:=Lib.hid hz1;have JZ2:=Lib.hid hz2
 clear hi hz0 hz1 hz2
 clear h hn
 refine rt_wp ?_
 unfold t12_17
 conv in Option.getD (behindR _ _) _=>whnf
 go_wp2_with fail
 go_loopw [52] (fun k wr=>∃i,i≤n∧k= .int .i64 (i:Int)∧EndMid u bo (.slice va vn vc) sm dn i wr) (fun k _=>n-(intOf k).toNat)
 case atStart=>
  obtain⟨v1,v2,hb,rfl,rfl⟩:=H.out.out
  exact⟨0,Nat.zero_le _,rfl,⟨_,_,hb,World.ownsRow_nil _ _ _ _,World.ownsRow_nil _ _ _ _,fun g hg=>by cases hg⟩,Upd.refl _ _⟩
 case round=>
  obtain⟨i,hi,rfl,hM⟩:=hrel
  have M:=Lib.hid hM
  clear hM
  by_cases hlt:i<n
  ·have hin:(i:Int)<(n:Int):=by omega
   have hi8:(i:Int)<8:=by have:=HN.out;omega
   have hi0:(0:Int)≤(i:Int):=by omega
   have hold:∀{p:Addr} {v:Value},u.cell? p=some v→p.block≠bo→wr.cell? p=some v:=fun hv hp=>by rw[M.out.upd.cell (World.block_lt_of_cell? _ _ hv) hp];exact hv
   have r1:=hold (H.out.row i hlt) H.out.n2
   have r2:=hold (H.out.sum i hlt) (H.out.n3 i hlt)
   have r3:=hold (H.out.done i hlt) (H.out.n3 i hlt)
   obtain⟨v1,v2,hb,o1,o2,hne⟩:=M.out.out
   obtain⟨a1,c1',rfl, -⟩:=own_shape o1
   obtain⟨a2,c2',rfl, -⟩:=own_shape o2
   have hbu:bo<u.heap.size:=by obtain⟨_,_,x,_⟩:=H.out.out;exact x.lt
   have d1:=hb.cell (i:=1) rfl
   have z1:=hb.free 1
   have SF:Hid (∀wx,Upd (fun k=>(Value.slice a1 i c1').ownBlock=some k) wr wx→wx.cell? ⟨bo,1,none⟩=some (.slice a1 i c1')∧wx.cell? ⟨bx i,2,none⟩=some (.int .i64 (sm i))∧wx.frozen? ⟨bo,1,none⟩=false):=fun wx q=>by
    have nb:∀b,b<u.heap.size→¬(Value.slice a1 i c1').ownBlock=some b:=fun b hb' e=>by have:=(own_lt o1 e).2;omega
    have hb2:=hb.upd q (nb bo hbu)
    refine⟨hb2.cell (i:=1) rfl,?_,hb2.free 1⟩
    rw[q.cell (World.block_lt_of_cell? _ _ r2) (nb _ (World.block_lt_of_cell? _ _ (H.out.sum i hlt)))]
    exact r2
   have O1:=Lib.hid o1
   have O2:=Lib.hid o2
   have HB:=Lib.hid hb
   have HE:=Lib.hid hne
   have R3:=Lib.hid r3
   clear o1 o2 hb hne hold r3
   go_upto_region 20 with(fail)
   refine wp_region_lastH (fun wx=>wx.cell? ⟨bo,1,none⟩=some (.slice a1 i c1')∧wx.cell? ⟨bx i,2,none⟩=some (.int .i64 (sm i))∧wx.frozen? ⟨bo,1,none⟩=false) 9 10 (by kernel_rfl) (by kernel_rfl) rfl rfl ?_ (fun hHeld=>?_)
   ·(exact⟨d1,r2,z1⟩)
   simp only[nopFor,List.set_cons_succ,List.set_cons_zero]
   refine wpAnyH_takeL (i:=0) (v:=?_) rfl (by kernel_rfl) (by kernel_rfl) (by kernel_rfl) (fun _ _ _ h=>h) rfl ?_ hHeld ?_
   rotate_left
   ·intro w hSw
    try dsimp only at hSw
    go_simp
    all_goals with_reducible rfl
   try simp only[Act.put,List.setIfInBounds_toArray,List.set_cons_zero,List.set_cons_succ]
   refine wpAnyH_takeL (i:=1) (v:=?_) rfl (by kernel_rfl) (by kernel_rfl) (by kernel_rfl) (fun _ _ _ h=>h) rfl ?_ hHeld ?_
   rotate_left
   ·intro w hSw
    try dsimp only at hSw
    go_simp
    all_goals with_reducible rfl
   try simp only[Act.put,List.setIfInBounds_toArray,List.set_cons_zero,List.set_cons_succ]
   refine wpAnyH_takeL (i:=2) (v:=?_) rfl (by kernel_rfl) (by kernel_rfl) (by kernel_rfl) (fun _ _ _ h=>h) rfl ?_ hHeld ?_
   rotate_left
   ·intro w hSw
    try dsimp only at hSw
    go_simp
    all_goals with_reducible rfl
   try simp only[Act.put,List.setIfInBounds_toArray,List.set_cons_zero,List.set_cons_succ]
   refine wpAnyH_takeL (i:=3) (v:=?_) rfl (by kernel_rfl) (by kernel_rfl) (by kernel_rfl) (fun _ _ _ h=>h) rfl ?_ hHeld ?_
   rotate_left
   ·intro w hSw
    try dsimp only at hSw
    go_simp
    all_goals with_reducible rfl
   try simp only[Act.put,List.setIfInBounds_toArray,List.set_cons_zero,List.set_cons_succ]
   refine wpAnyH_takeL (i:=4) (v:=?_) rfl (by kernel_rfl) (by kernel_rfl) (by kernel_rfl) (fun _ _ _ h=>h) rfl ?_ hHeld ?_
   rotate_left
   ·intro w hSw
    try dsimp only at hSw
    go_simp
    all_goals with_reducible rfl
   try simp only[Act.put,List.setIfInBounds_toArray,List.set_cons_zero,List.set_cons_succ]
   refine wpAnyH_takeL (i:=5) (v:=?_) rfl (by kernel_rfl) (by kernel_rfl) (by kernel_rfl) (fun _ _ _ h=>h) rfl ?_ hHeld ?_
   rotate_left
   ·intro w hSw
    try dsimp only at hSw
    go_simp
    all_goals with_reducible rfl
   try simp only[Act.put,List.setIfInBounds_toArray,List.set_cons_zero,List.set_cons_succ]
   refine wpAnyH_step (i:=6) (by kernel_rfl) rfl (fun KK hK=>?_)
   (go_simp;have U8:Hid (Upd (fun k=>(Value.slice a1 i c1').ownBlock=some k) wr (wr.drew.alloc (.cells #[.int .i64 (sm i)] 3))):=Lib.hid (Upd.of_below (Below.alloc (Qt.refl wr).drew.bel (Nat.le_refl _) _));have A8:=Lib.hid (own_upd O1.out (Upd.of_below (S:=fun _=>False) (Below.alloc (Qt.refl wr).drew.bel (Nat.le_refl _) (.cells #[.int .i64 (sm i)] 3))) (fun _ _=>id)))
   refine hK.out _ _ ?_ (fun hHeld=>?_)
   ·(first|exact SF.out _ U9.out|exact SF.out _ U8.out)
   clear hK KK
   try simp only[Act.put,List.setIfInBounds_toArray,List.set_cons_zero,List.set_cons_succ]
   refine wpAnyH_step (i:=7) (by kernel_rfl) rfl (fun KK hK=>?_)
   (refine step_append_sl (by rfl) _ _ 23 (by rfl) u.heap.size 3 i1 _ 8 Try.underlying23 JI.out JZ0.out JZ1.out JZ2.out rfl (.slice a1 i c1') i ((sumsL sm i).map (Value.int .i64)) (by rfl) A8.out (Value.int .i64) (fun _=>rfl) (some ⟨wr.drew.heap.size,0,none⟩) 1 [sm i] (by rfl) ((Blk.new wr.drew 3 [.int .i64 (sm i)]).sl (xs:=[sm i])) (by simp;unfold maxLen;omega) (by simp;omega) (by have:=M.out.upd.size;simp;omega) ?_;intro v' w9 g1 g2 g3;obtain⟨a1b,c1b,rfl,_⟩:=own_shape g1;have U9:=Lib.hid (U8.out.trans (Upd.of_grownV g2));have O9:=Lib.hid g1;have E9:=Lib.hid g3;clear g1 g2 g3;obtain⟨z0,z2,z3⟩:=SF.out _ U9.out)
   refine hK.out _ _ ?_ (fun hHeld=>?_)
   ·(first|exact SF.out _ U9.out|exact SF.out _ U8.out)
   clear hK KK
   try simp only[Act.put,List.setIfInBounds_toArray,List.set_cons_zero,List.set_cons_succ]
   refine wpAnyH_takeL (i:=8) (v:=?_) rfl (by kernel_rfl) (by kernel_rfl) (by kernel_rfl) (fun _ _ _ h=>h) rfl ?_ hHeld ?_
   rotate_left
   ·intro w hSw
    try dsimp only at hSw
    go_simp
    all_goals with_reducible rfl
   try simp only[Act.put,List.setIfInBounds_toArray,List.set_cons_zero,List.set_cons_succ]
   refine wpAnyH_takeL (i:=9) (v:=?_) rfl (by kernel_rfl) (by kernel_rfl) (by kernel_rfl) (fun _ _ _ h=>h) rfl ?_ hHeld ?_
   rotate_left
   ·intro w hSw
    try dsimp only at hSw
    go_simp
    all_goals with_reducible rfl
   try simp only[Act.put,List.setIfInBounds_toArray,List.set_cons_zero,List.set_cons_succ]
   refine wpAnyH_done (by kernel_rfl) ?_ _
   rw[LastQ_normal]
   clear hHeld
   go_upto_region 21 with(fail)
   have E9':=E9.out
   have hbo1:∀g,(Value.slice a1 i c1').ownBlock=some g→bo≠g:=fun g hg e=>by have:=(own_lt O1.out hg).2;omega
   have hbW:Blk w9 bo 32 [.slice va vn vc,.slice a1 i c1',.slice a2 (stuckL dn i).length c2']:=HB.out.upd U9.out (fun h=>hbo1 _ h rfl)
   have hbW2:=hbW.set 1 (.slice a1b (i+[sm i].length) c1b)
   have hO9:w9.ownsRow u.heap.size 3 1 (Value.slice a1b (i+[sm i].length) c1b) (i+1) ((sumsL sm (i+1)).map (Value.int .i64)):=by
    have:=O9.out
    rw[←List.map_append,←sumsL_succ] at this
    exact this
   have hO1W:(w9.setCell ⟨bo,1,none⟩ (.slice a1b (i+[sm i].length) c1b)).ownsRow u.heap.size 3 1 (Value.slice a1b (i+[sm i].length) c1b) (i+1) ((sumsL sm (i+1)).map (Value.int .i64)):=
    own_upd hO9 ((Upd.refl (fun k=>k=bo) w9).setCell _ _ (fun _=>rfl)) (fun g hg e=>by have:=(own_lt hO9 hg).2;omega)
   have hO2W:(w9.setCell ⟨bo,1,none⟩ (.slice a1b (i+[sm i].length) c1b)).ownsRow u.heap.size 3 1 (Value.slice a2 (stuckL dn i).length c2') (stuckL dn i).length ((stuckL dn i).map (Value.int .i64)):=
    own_upd (own_upd O2.out U9.out (fun g hg h1=>HE.out g h1 hg)) ((Upd.refl (fun k=>k=bo) w9).setCell _ _ (fun _=>rfl)) (fun g hg e=>by have:=(own_lt O2.out hg).2;omega)
   have hEW:∀g,(Value.slice a1b (i+[sm i].length) c1b).ownBlock=some g→(Value.slice a2 (stuckL dn i).length c2').ownBlock≠some g:=fun g hg h2=>by
    rcases E9' with e|e
    ·exact HE.out g (e▸hg) h2
    ·rw[e] at hg
     have:=(own_lt O2.out h2).1
     have e2:=Option.some.inj hg
     simp at e2
     omega
   have hUW:Upd (fun k=>k=bo) u (w9.setCell ⟨bo,1,none⟩ (.slice a1b (i+[sm i].length) c1b)):=(M.out.upd.then U9.out (fun k hk h=>by have:=(own_lt O1.out h).2;omega)).setCell _ _ (fun _=>rfl)
   have hr3:(w9.setCell ⟨bo,1,none⟩ (.slice a1b (i+[sm i].length) c1b)).cell? ⟨bx i,3,none⟩=some (.bool (dn i)):=by
    rw[hUW.cell (World.block_lt_of_cell? _ _ (H.out.done i hlt)) (H.out.n3 i hlt)];exact H.out.done i hlt
   have HBW:Hid (Blk (w9.setCell ⟨bo,1,none⟩ (.slice a1b (i+[sm i].length) c1b)) bo 32 [.slice va vn vc,.slice a1b (i+[sm i].length) c1b,.slice a2 (stuckL dn i).length c2']):=Lib.hid (by simpa using hbW2)
   have O1W:=Lib.hid hO1W
   have O2W:=Lib.hid hO2W
   have EW:=Lib.hid hEW
   have UW:=Lib.hid hUW
   clear hbW hbW2 hO9 hO1W hO2W hEW hUW hbo1 E9' d1 z1 z0 z2 z3 r1 r2 O9 E9 U9 U8 A8 SF HB O1 O2 HE R3
   generalize w9.setCell ⟨bo,1,none⟩ (.slice a1b (i+[sm i].length) c1b)=W at*
   have M1:Hid (∀(v2:Value) (WW:World),Blk WW bo 32 [.slice va vn vc,.slice a1b (i+[sm i].length) c1b,v2]→WW.ownsRow u.heap.size 3 1 (Value.slice a1b (i+[sm i].length) c1b) (i+1) ((sumsL sm (i+1)).map (Value.int .i64))→WW.ownsRow u.heap.size 3 1 v2 (stuckL dn (i+1)).length ((stuckL dn (i+1)).map (Value.int .i64))→(∀g,(Value.slice a1b (i+[sm i].length) c1b).ownBlock=some g→v2.ownBlock≠some g)→Upd (fun k=>k=bo) u WW→EndMid u bo (.slice va vn vc) sm dn (i+1) WW):=Lib.hid fun v2 WW h1 h2 h3 h4 h5=>⟨⟨_,v2,h1,h2,h3,h4⟩,h5⟩
   cases hdn:dn i
   · -- not done:its number is gathered
    rw[hdn] at hr3
    have e2:stuckL dn (i+1)=stuckL dn i++[(i:Int)]:=by rw[stuckL_succ,hdn];rfl
    have ES:=Lib.hid e2
    have c2:=HBW.out.cell (i:=2) rfl
    have f2:=HBW.out.free 2
    have hsl:=stuckL_len dn i
    clear e2 hdn
    go_wp2_with (at_builtin;refine wpList_append_sl rfl _ _ 23 rfl u.heap.size 3 i1 _ 8 Try.underlying23 JI.out JZ0.out JZ1.out JZ2.out rfl (.slice a2 (stuckL dn i).length c2') (stuckL dn i).length ((stuckL dn i).map (Value.int .i64)) rfl ?own (Value.int .i64) (fun _=>rfl) (some ⟨W.heap.size,0,none⟩) 1 [(i:Int)] rfl ?sl ?c1 ?c2 ?c3 ?kk)
    case own=>exact own_upd O2W.out (Upd.of_below (S:=fun _=>False) (Below.alloc (Qt.refl W).bel (Nat.le_refl _) (.cells #[.int .i64 (i:Int)] 3))) (fun _ _=>id)
    case sl=>exact(Blk.new W 3 [.int .i64 (i:Int)]).sl (xs:=[(i:Int)])
    case c1=>simp;unfold maxLen;omega
    case c2=>simp;omega
    case c3=>have:=UW.out.size;simp;omega
    case kk=>
     intro v' w8 g1 g2 g3
     obtain⟨a2b,c2b,rfl,_⟩:=own_shape g1
     have hgrow:Upd (fun k=>(Value.slice a2 (stuckL dn i).length c2').ownBlock=some k) W w8:=(Upd.alloc (Upd.refl _ _) _).trans (Upd.of_grownV g2)
     have hne2:∀g,(Value.slice a2 (stuckL dn i).length c2').ownBlock=some g→bo≠g:=fun g hg e=>by have:=(own_lt O2W.out hg).2;omega
     have hb8:Blk w8 bo 32 [.slice va vn vc,.slice a1b (i+[sm i].length) c1b,.slice a2 (stuckL dn i).length c2']:=HBW.out.upd hgrow (fun h=>hne2 _ h rfl)
     have hb9:=hb8.set 2 (.slice a2b ((stuckL dn i).length+[(i:Int)].length) c2b)
     have hc8:=hb8.cell (i:=2) rfl
     have hf8:=hb8.free 2
     have us:Upd (fun k=>k=bo) w8 (w8.setCell ⟨bo,2,none⟩ (.slice a2b ((stuckL dn i).length+[(i:Int)].length) c2b)):=(Upd.refl _ _).setCell _ _ (fun _=>rfl)
     have ho1:=own_upd (own_upd O1W.out hgrow (fun g hg h=>EW.out g hg h)) us (fun g hg e=>by have:=(own_lt O1W.out hg).2;omega)
     have ho2:=own_upd g1 us (fun g hg e=>by have:=(own_lt g1 hg).2;omega)
     have hll:(stuckL dn i).length+[(i:Int)].length=(stuckL dn (i+1)).length:=by rw[ES.out];simp
     have hmm:(stuckL dn i).map (Value.int .i64)++[(i:Int)].map (Value.int .i64)=(stuckL dn (i+1)).map (Value.int .i64):=by rw[ES.out,List.map_append]
     have he:∀g,(Value.slice a1b (i+[sm i].length) c1b).ownBlock=some g→(Value.slice a2b ((stuckL dn i).length+[(i:Int)].length) c2b).ownBlock≠some g:=fun g hg h2=>by
      rcases g3 with e|e
      ·exact EW.out g hg (e▸h2)
      ·have h2':=e.symm.trans h2
       have:=(own_lt O1W.out hg).1
       have e2:=Option.some.inj h2'
       have e3:g=W.heap.size+1:=e2.symm
       omega
     have hu:Upd (fun k=>k=bo) u (w8.setCell ⟨bo,2,none⟩ (.slice a2b ((stuckL dn i).length+[(i:Int)].length) c2b)):=(UW.out.then hgrow (fun k hk h=>by have:=(own_lt O2W.out h).2;omega)).setCell _ _ (fun _=>rfl)
     have MM:Hid (EndMid u bo (.slice va vn vc) sm dn (i+1) (w8.setCell ⟨bo,2,none⟩ (.slice a2b ((stuckL dn i).length+[(i:Int)].length) c2b))):=Lib.hid (M1.out _ _ (by simpa using hb9) ho1 (by rw[←hll,←hmm];exact ho2) he hu)
     clear hb8 hb9 us ho1 ho2 hll hmm he hu hgrow hne2 g1 g2 g3 c2 f2 ES EW UW O1W O2W HBW M1 hr3
     go_wp2_with fail
     exact⟨⟨i+1,by omega,by go_num,MM.out⟩,by simp[intOf];omega⟩
   ·rw[hdn] at hr3
    have e2:stuckL dn (i+1)=stuckL dn i:=by rw[stuckL_succ,hdn];rfl
    have ES:=Lib.hid e2
    clear e2 hdn
    go_wp2_with fail
    exact⟨⟨i+1,by omega,by go_num,M1.out _ _ HBW.out O1W.out (by rw[ES.out];exact O2W.out) EW.out UW.out⟩,by simp[intOf];omega⟩
  ·obtain rfl:i=n:=by omega
   obtain⟨v1,v2,hb,o1,o2,hne⟩:=M.out.out
   obtain⟨q0,q1,q2,hr⟩:=H.out.res
   have hr':Blk wr rb 32 [q0,q1,q2]:=hr.upd M.out.upd (Ne.symm H.out.n1)
   have c0:=hb.cell (i:=0) rfl
   have c1:=hb.cell (i:=1) rfl
   have c2:=hb.cell (i:=2) rfl
   have e0:=hr'.cell (i:=0) rfl
   have e1:=hr'.cell (i:=1) rfl
   have e2:=hr'.cell (i:=2) rfl
   have z0:=hr'.free 0
   have z1:=hr'.free 1
   have z2:=hr'.free 2
   obtain⟨a1,c1',rfl, -⟩:=own_shape o1
   obtain⟨a2,c2',rfl, -⟩:=own_shape o2
   have W3:=((hr'.set 0 (.slice va vn vc)).set 1 (.slice a1 i c1')).set 2 (.slice a2 (stuckL dn i).length c2')
   have U3:Upd (fun k=>k=bo∨k=rb) u (((wr.setCell ⟨rb,0,none⟩ (.slice va vn vc)).setCell ⟨rb,1,none⟩ (.slice a1 i c1')).setCell ⟨rb,2,none⟩ (.slice a2 (stuckL dn i).length c2')):=(((M.out.upd.mono (fun _ _ h=>.inl h)).setCell _ _ (fun _=>.inr rfl)).setCell _ _ (fun _=>.inr rfl)).setCell _ _ (fun _=>.inr rfl)
   have hrl:=hr'.lt
   have hru:rb<u.heap.size:=by obtain⟨_,_,_,x⟩:=H.out.res;exact x.lt
   have U4:Upd (fun k=>k=rb) wr (((wr.setCell ⟨rb,0,none⟩ (.slice va vn vc)).setCell ⟨rb,1,none⟩ (.slice a1 i c1')).setCell ⟨rb,2,none⟩ (.slice a2 (stuckL dn i).length c2')):=(((Upd.refl (fun k=>k=rb) wr).setCell _ _ (fun _=>rfl)).setCell _ _ (fun _=>rfl)).setCell _ _ (fun _=>rfl)
   have o1':=own_upd o1 U4 (fun g hg e=>by have:=(own_lt o1 hg).2;omega)
   have o2':=own_upd o2 U4 (fun g hg e=>by have:=(own_lt o2 hg).2;omega)
   have FN:Hid (∀a':Act,a'.tmps.getD 6 undef= .pointer (some ⟨rb,0,none⟩)→a'.tmps.getD 7 undef= .int .i64 0→EndPost u bo rb i sm dn (.slice va vn vc) a' (((wr.setCell ⟨rb,0,none⟩ (.slice va vn vc)).setCell ⟨rb,1,none⟩ (.slice a1 i c1')).setCell ⟨rb,2,none⟩ (.slice a2 (stuckL dn i).length c2'))):=fun a' h6 h7=>⟨h6,h7,_,_,by simpa using W3,o1',o2',U3⟩
   clear o1' o2' U4 U3 W3
   go_wp2_with fail
   exact FN.out _ rfl rfl
end
end Go.Proofs.Ytbjlijagheifgaa
