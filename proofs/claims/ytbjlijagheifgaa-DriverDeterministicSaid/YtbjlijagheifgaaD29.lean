/-
  Texts of Ytbjlijagheifgaa, merged.
-/
import Derived.Test.YtbjlijagheifgaaD28
set_option linter.unusedSimpArgs false
set_option linter.unusedVariables false
namespace Go.Side
section
open Go Go.Conc Go.ConcN Go.Proofs Go.RowKit Go.Proofs.Ytbjlijagheifgaa
set_option maxRecDepth 100000 in
set_option maxHeartbeats 8000000 in
theorem sched_take{C:Fix Wk}{Anc:Nat→(Nat→WV)→(Nat→WState Wk)→Goroutine→World→Prop}{w₀:World}{p:Plc}{n:Nat}{ws:Nat→WV}{E:OpV→List Int}{task:Nat→List OpV}(hP:C.P=Try.prog)(hn:C.nxt=Wk.nxt)(ha:C.ans=Wk.ans)(hg0:C.good w₀)(hlow:∀l,C.R0 l→l.low w₀.heap.size)(hp:p.ok w₀.heap.size)(hx:∀k,k<n→∀x,x∈task k→EithR C.R0 w₀ E x){st:Nat→WState Wk}{nx:Nat→Option (Nat×OpV)}{T:Terr}{w:World}{ex:List (Nat×Array Value×TypeId)}{sa:Option Addr}{sc:Nat}{S:List StepP}{c:Cf}(R:SL C w₀ {p with ex:=ex} n ws st nx T w)(hS:StR ex sa sc S)(I:Inv task n c st nx)(hl:S.length≤100000){la:Option Addr}{lc:Nat}{l:List StepP}(hLs:LsAt T w la l){i:Nat}{s:StepP}(hi:l[i]?=some s)(hmem:s∈possP E n fun k=>(c k).1){k:List Item}{cs:List Frame}(u1 u3 u4 u7 u10 u12 u13 u14 u15 u16 u17 u18 u19 u20 u21 u22 u23 u24 u25 u26 u27 u28 u29 u30 u31 u32 u33 u34 u35 u36 u37 u38 u39 u40 u41 u42 u43 u44 u45 u46 u47 u48 u49 u50 u51 u52 u53 u54 u55 u56 u57 u58 u59 u60 u61 u62 u63 u64 u65 u66 u67 u68 u69 u70 u71 u72 u73 u74 u75 u76 u77 u78 u79 u80 u81 u82 u83 u84:Value)(kk:∀(st':Nat→WState Wk) (nx':Nat→Option (Nat×OpV)) (ex':List (Nat×Array Value×TypeId)) (sa':Option Addr) (sc':Nat) (T':Terr) (w':World) (v12 v49 v50 v51 v52 v53 v54 v55 v56 v57 v58 v59 v60 v61 v62 v63 v64 v65 v66 v67 v68 v69 v70 v71 v72 v73 v74 v75 v76 v77 v78 v79 v80 v81 v82 v83 v84:Value),Inv task n (stepC c s) st' nx'→StR ex' sa' sc' (S++[s])→SL C w₀ {p with ex:=ex'} n ws st' nx' T' w'→ SW C Anc T' 0 0 n ws st' (G ((base 30).at ⟨#[.slice (some ⟨p.bws,0,none⟩) n n,u1,.pointer (some ⟨p.bW,0,none⟩),u3,u4,.pointer (some ⟨p.bN,0,none⟩),.func (.func 53) #[] #[.pointer (some ⟨p.bN,0,none⟩),.pointer (some ⟨p.bW,0,none⟩)],u7,.slice sa' (S++[s]).length sc',.slice la l.length lc,u10,.int .i64 i,v12,u13,u14,u15,u16,u17,u18,u19,u20,u21,u22,u23,u24,u25,u26,u27,u28,u29,u30,u31,u32,u33,u34,u35,u36,u37,u38,u39,u40,u41,u42,u43,u44,u45,u46,u47,u48,v49,v50,v51,v52,v53,v54,v55,v56,v57,v58,v59,v60,v61,v62,v63,v64,v65,v66,v67,v68,v69,v70,v71,v72,v73,v74,v75,v76,v77,v78,v79,v80,v81,v82,v83,v84],[]⟩ k) cs) w'):
  SWn C Anc 0 0 n ws st 1000 T (G ((base 30).at ⟨#[.slice (some ⟨p.bws,0,none⟩) n n,u1,.pointer (some ⟨p.bW,0,none⟩),u3,u4,.pointer (some ⟨p.bN,0,none⟩),.func (.func 53) #[] #[.pointer (some ⟨p.bN,0,none⟩),.pointer (some ⟨p.bW,0,none⟩)],u7,.slice sa S.length sc,.slice la l.length lc,u10,.int .i64 i,u12,u13,u14,u15,u16,u17,u18,u19,u20,u21,u22,u23,u24,u25,u26,u27,u28,u29,u30,u31,u32,u33,u34,u35,u36,u37,u38,u39,u40,u41,u42,u43,u44,u45,u46,u47,u48,u49,u50,u51,u52,u53,u54,u55,u56,u57,u58,u59,u60,u61,u62,u63,u64,u65,u66,u67,u68,u69,u70,u71,u72,u73,u74,u75,u76,u77,u78,u79,u80,u81,u82,u83,u84],[]⟩ (.code tl30::k)) cs) w:=by
 have hk0:(base 30).kind≠ .early:=by decide
 obtain⟨h0,h1,a,b,ea,eb,hka,hkb,hvl,hch⟩:=possP_mem E hmem
 have hne:=possP_ne E hmem
 rcases hLs with rfl|⟨g,cur,rfl,O,hcur⟩
 ·simp at hi
 have hil:i<l.length:=by
  rcases Nat.lt_or_ge i l.length with h|h
  ·exact h
  ·rw[List.getElem?_eq_none h] at hi;cases hi
 have x0:w.cell? ⟨g,i*4,none⟩=some (.int .i64 s.fr):=O.cell (take_get hcur hi (j:=0) (by omega))
 have x1:w.cell? ⟨g,i*4+1,none⟩=some (.int .i64 s.tg):=O.cell (take_get hcur hi (j:=1) (by omega))
 have x2:w.cell? ⟨g,i*4+2,none⟩=some (.int .i64 s.ch):=O.cell (take_get hcur hi (j:=2) (by omega))
 have x3:w.cell? ⟨g,i*4+3,none⟩=some (.int .i64 s.vl):=O.cell (take_get hcur hi (j:=3) (by omega))
 have x0r:=O.rd (i*4)
 have x1r:=O.rd (i*4+1)
 have x2r:=O.rd (i*4+2)
 have x3r:=O.rd (i*4+3)
 have H:=gait_w C Anc 0 0 n ws st
 rw[hP] at H
 conv in Item.code tl30=>{arg 1;whnf}
 refine H.seq ?_
 refine H.region ?_
 simp only[List.size_toArray,List.length_cons,List.length_nil,Nat.reduceAdd,Nat.zero_add,List.range,List.range.loop]
 co_applyP Gait.pure H _ rfl (by rfl) hk0 (fun _=>run_eq_of ?run1) (fun _=>?evs1) ?rest1
 case run1=>intro K hK;go_simp;exact hK
 case evs1=>simp[go_sem]
 walk_nrm
 co_applyP Gait.pure H _ rfl (by rfl) hk0 (fun _=>run_eq_of ?run2) (fun _=>?evs2) ?rest2
 case run2=>intro K hK;go_simp;exact hK
 case evs2=>simp[go_sem]
 walk_nrm
 co_applyP Gait.pure H _ rfl (by rfl) hk0 (fun _=>run_eq_of ?run3) (fun _=>?evs3) ?rest3
 case run3=>intro K hK;go_simp;exact hK
 case evs3=>simp[go_sem,hil]
 walk_nrm
 co_applyP Gait.read H _ rfl (by rfl) hk0 (fun w₁ r=>⟨run_eq_of ?run4,?evs4⟩) ?rest4
 case run4=>have k0:=(r.cell _ x0r).trans x0;have k1:=(r.cell _ x1r).trans x1;have k2:=(r.cell _ x2r).trans x2;have k3:=(r.cell _ x3r).trans x3;intro K hK;go_simp;exact hK
 case evs4=>have k0:=(r.cell _ x0r).trans x0;have k1:=(r.cell _ x1r).trans x1;have k2:=(r.cell _ x2r).trans x2;have k3:=(r.cell _ x3r).trans x3;intro e he;simp[go_sem,k0,k1,k2,k3] at he;rcases he with rfl|rfl|rfl|rfl;exact⟨_,rfl,World.block_lt_of_cell? _ _ k0,x0r⟩;exact⟨_,rfl,World.block_lt_of_cell? _ _ k1,x1r⟩;exact⟨_,rfl,World.block_lt_of_cell? _ _ k2,x2r⟩;exact⟨_,rfl,World.block_lt_of_cell? _ _ k3,x3r⟩
 walk_nrm
 refine H.allot (fun s=>.pointer (some ⟨s,0,none⟩)) (.cells #[.int .i64 0,.int .i64 0,.int .i64 0,.int .i64 0] 50 (0,0)) rfl (by rfl) hk0 (fun w₁=>by simp[go_sem]) (fun w₁=>by simp[go_sem]) fun w₁ r=>?_
 have R1:=(R.rely r).fr (S:=fun _=>False) hlow (Fr.alloc _ _ _ (.cells #[.int .i64 0,.int .i64 0,.int .i64 0,.int .i64 0] 50 (0,0))) ((R.rely r).gi.alloc _) (fun b hb=>hb.elim) (fun b hb=>hb.elim)
 have O1:=OwnR.new T w₁ #[.int .i64 0,.int .i64 0,.int .i64 0,.int .i64 0] 50
 have hb0:w₀.heap.size≤w₁.heap.size:=(R.rely r).kp.size
 have l1:=(R.rely r).row.lt
 have l2:=(R.rely r).nrow.lt
 have l3:=(R.rely r).nvar.lt
 have l4:=(R.rely r).wvar.lt
 have l5:∀k,k<n→(ws k).bx<w₁.heap.size:=fun k hk=>((R.rely r).bx k hk).1.lt
 have l6:∀k,k<n→∀b x,nx k=some (b,x)→b<w₁.heap.size:=fun k hk b x e=>((R.rely r).op k hk b x e).1.lt
 have l7:p.bq<w₁.heap.size:=World.block_lt_of_cell? _ _ (R.rely r).q
 have l8:∀y,y∈ex→y.1<w₁.heap.size:=fun y hy=>((R.rely r).ex y hy).1.lt
 clear R r O x0 x1 x2 x3 x0r x1r x2r x3r
 generalize w₁.alloc (.cells #[.int .i64 0,.int .i64 0,.int .i64 0,.int .i64 0] 50 (0,0))=w2 at R1 O1⊢
 generalize w₁.heap.size=bs at R1 O1 hb0 l1 l2 l3 l4 l5 l6 l7 l8⊢
 generalize T.grow bs (bs+1)=T1 at R1 O1⊢
 clear w₁ w T
 walk_nrm
 refine H.store4 O1 (.int .i64 s.fr) (.int .i64 s.tg) (.int .i64 s.ch) (.int .i64 s.vl) rfl (by rfl) hk0 (fun w₁ O1=>?_) fun w₃ w4 r F O4 hI=>?_
 ·have p0:=O1.cell (i:=0) rfl;have p1:=O1.cell (i:=1) rfl;have p2:=O1.cell (i:=2) rfl;have p3:=O1.cell (i:=3) rfl
  have z0:=O1.free 0;have z1:=O1.free 1;have z2:=O1.free 2;have z3:=O1.free 3
  refine⟨by go_simp,fun e he=>?_⟩
  simp[go_sem,p0,p1,p2,p3,z0,z1,z2,z3] at he
  exact he
 have R4:=(R1.rely r).frB ⟨hp.l1,hp.l2,hp.l3,hp.l4,hp.l5,hp.d1,hp.d2,hp.d3⟩ hlow F (hI _ (R1.rely r).gi) hb0 (Nat.ne_of_lt l1) (Nat.ne_of_lt l2) (Nat.ne_of_lt l3) (Nat.ne_of_lt l4) (Nat.ne_of_lt l7) (fun k hk=>by have:=l5 k hk;omega) (fun k hk b x e=>by have:=l6 k hk b x e;omega) (fun y hy=>by have:=l8 y hy;omega)
 have R5:SL C w₀ {p with ex:=(bs,(stC s).toArray,50)::ex} n ws st nx T1 w4:=R4.withEx fun y hy=>by
  rcases List.mem_cons.1 hy with rfl|hy
  ·exact⟨O4,hb0,rfl,Nat.ne_of_lt l7,fun k hk=>Nat.ne_of_lt (l5 k hk)⟩
  ·exact R4.ex y hy
 have hneb:∀y,y∈ex→y.1≠bs:=fun y hy=>by have:=l8 y hy;omega
 clear F O4 R4 O1 hI r w₃ R1 w2 l1 l2 l3 l4 l5 l6 l7 l8
 walk_nrm
 refine H.regionEnd ?_
 refine H.seq ?_
 refine piece_app hP hp hlow R5 hneb I.quiet hS hl _ _ _ _ _ _ _ _ _ _ _ _ _ _ _ _ _ _ _ _ _ _ _ _ _ _ _ _ _ _ _ _ _ _ _ _ _ _ _ _ _ _ _ _ _ _ _ _ _ _ _ _ _ _ _ _ _ _ _ _ _ _ _ _ _ _ _ _ _ _ _ _ _ _ _ _ _ _ _ _ _ _ _ fun ex' sa' sc' V55 T2 w5 hS2 hneb2 R6=>?_
 clear R5 w4 T1 hneb
 show SWn C Anc 0 0 n ws st 900 T2 _ w5
 have hb1:=(R6.ex _ (List.mem_cons_self ..)).1
 have s0:w5.cell? ⟨bs,0,none⟩=some (.int .i64 s.fr):=hb1.cell (i:=0) rfl
 have s0r:=hb1.rd 0
 have s3:w5.cell? ⟨bs,3,none⟩=some (.int .i64 s.vl):=hb1.cell (i:=3) rfl
 have s3r:=hb1.rd 3
 have wv:w5.cell? ⟨p.bW,0,none⟩=some (.slice (some ⟨p.bws,0,none⟩) n n):=R6.wvar.cell (i:=0) rfl
 have wvr:T2.rd (.cell ⟨p.bW,0,none⟩):=R6.wvar.rd 0
 have wr:w5.cell? ⟨p.bws,s.fr,none⟩=some (.pointer (some ⟨(ws s.fr).bx,0,none⟩)):=R6.row.cell (wsRow_get h0 (Nat.le_refl n))
 have wrr:T2.rd (.cell ⟨p.bws,s.fr,none⟩):=R6.row.rd s.fr
 have bc:=(R6.bx s.fr h0).1.c1
 have bcr:=(R6.bx s.fr h0).1.r1
 refine H.seq ?_
 refine H.drawReads (fun j=>(([.slice (some ⟨p.bws,0,none⟩) n n,.pointer (some ⟨bs,0,none⟩),.int .i64 s.fr,.pointer (some ⟨p.bws,s.fr,none⟩),.pointer (some ⟨(ws s.fr).bx,0,none⟩),.pointer (some ⟨(ws s.fr).bx,0,none⟩),.pointer (some ⟨(ws s.fr).bx,1,none⟩),.chan (some (ws s.fr).an),.pointer (some ⟨bs,3,none⟩),.int .i64 s.vl]:List Value)[j]?).getD undef) 10 hk0 (by kernel_rfl) (by rfl) (by kernel_rfl) ?_ ?_
 ·intro j o hj ho S a hH hS hd
  obtain rfl|rfl|rfl|rfl|rfl|rfl|rfl|rfl|rfl|rfl:=(by omega:j=0∨j=1∨j=2∨j=3∨j=4∨j=5∨j=6∨j=7∨j=8∨j=9)
  ·simp only[List.getElem?_toArray,List.getElem?_cons_zero,List.getElem?_cons_succ,Option.some.injEq] at ho
   subst ho
   have e2:a.eval (.tmp 2)= .pointer (some ⟨p.bW,0,none⟩):=hH.old hS (by kernel_rfl)
   refine⟨rfl,fun w₁ r=>?_⟩
   generalize a.eval=ρ at*
   have k0:=(r.cell _ wvr).trans wv
   refine⟨?_,?_⟩
   ·show _=Result.ok (Next.value (.slice (some ⟨p.bws,0,none⟩) n n)) w₁
    go_simp
   ·intro e he
    simp[go_sem,e2,k0] at he
    subst he;exact⟨_,rfl,World.block_lt_of_cell? _ _ k0,wvr⟩
  ·simp only[List.getElem?_toArray,List.getElem?_cons_zero,List.getElem?_cons_succ,Option.some.injEq] at ho
   subst ho
   have e12:a.eval (.tmp 12)= .pointer (some ⟨bs,0,none⟩):=hH.old hS (by kernel_rfl)
   refine⟨rfl,fun w₁ r=>?_⟩
   generalize a.eval=ρ at*
   refine⟨?_,?_⟩
   ·show _=Result.ok (Next.value (.pointer (some ⟨bs,0,none⟩))) w₁
    go_simp
   ·intro e he
    simp[go_sem,e12] at he
  ·simp only[List.getElem?_toArray,List.getElem?_cons_zero,List.getElem?_cons_succ,Option.some.injEq] at ho
   subst ho
   have e58:a.eval (.tmp 58)= .pointer (some ⟨bs,0,none⟩):=hH.eval (hd ⟨1,.data⟩ (by simp)) rfl
   refine⟨rfl,fun w₁ r=>?_⟩
   generalize a.eval=ρ at*
   have k0:=(r.cell _ s0r).trans s0
   refine⟨?_,?_⟩
   ·show _=Result.ok (Next.value (.int .i64 s.fr)) w₁
    go_simp
   ·intro e he
    simp[go_sem,e58,k0] at he
    subst he;exact⟨_,rfl,World.block_lt_of_cell? _ _ k0,s0r⟩
  ·simp only[List.getElem?_toArray,List.getElem?_cons_zero,List.getElem?_cons_succ,Option.some.injEq] at ho
   subst ho
   have e57:a.eval (.tmp 57)= .slice (some ⟨p.bws,0,none⟩) n n:=hH.eval (hd ⟨0,.data⟩ (by simp)) rfl
   have e59:a.eval (.tmp 59)= .int .i64 s.fr:=hH.eval (hd ⟨2,.data⟩ (by simp)) rfl
   refine⟨rfl,fun w₁ r=>?_⟩
   generalize a.eval=ρ at*
   refine⟨?_,?_⟩
   ·show _=Result.ok (Next.value (.pointer (some ⟨p.bws,s.fr,none⟩))) w₁
    go_simp
   ·intro e he
    simp[go_sem,e57,e59,h0] at he
  ·simp only[List.getElem?_toArray,List.getElem?_cons_zero,List.getElem?_cons_succ,Option.some.injEq] at ho
   subst ho
   have e60:a.eval (.tmp 60)= .pointer (some ⟨p.bws,s.fr,none⟩):=hH.eval (hd ⟨3,.data⟩ (by simp)) rfl
   refine⟨rfl,fun w₁ r=>?_⟩
   generalize a.eval=ρ at*
   have k0:=(r.cell _ wrr).trans wr
   refine⟨?_,?_⟩
   ·show _=Result.ok (Next.value (.pointer (some ⟨(ws s.fr).bx,0,none⟩))) w₁
    go_simp
   ·intro e he
    simp[go_sem,e60,k0] at he
    subst he;exact⟨_,rfl,World.block_lt_of_cell? _ _ k0,wrr⟩
  ·simp only[List.getElem?_toArray,List.getElem?_cons_zero,List.getElem?_cons_succ,Option.some.injEq] at ho
   subst ho
   have e61:a.eval (.tmp 61)= .pointer (some ⟨(ws s.fr).bx,0,none⟩):=hH.eval (hd ⟨4,.data⟩ (by simp)) rfl
   refine⟨rfl,fun w₁ r=>?_⟩
   generalize a.eval=ρ at*
   refine⟨?_,?_⟩
   ·show _=Result.ok (Next.value (.pointer (some ⟨(ws s.fr).bx,0,none⟩))) w₁
    go_simp
   ·intro e he
    simp[go_sem,e61] at he
  ·simp only[List.getElem?_toArray,List.getElem?_cons_zero,List.getElem?_cons_succ,Option.some.injEq] at ho
   subst ho
   have e62:a.eval (.tmp 62)= .pointer (some ⟨(ws s.fr).bx,0,none⟩):=hH.eval (hd ⟨5,.data⟩ (by simp)) rfl
   refine⟨rfl,fun w₁ r=>?_⟩
   generalize a.eval=ρ at*
   refine⟨?_,?_⟩
   ·show _=Result.ok (Next.value (.pointer (some ⟨(ws s.fr).bx,1,none⟩))) w₁
    go_simp
   ·intro e he
    simp[go_sem,e62] at he
  ·simp only[List.getElem?_toArray,List.getElem?_cons_zero,List.getElem?_cons_succ,Option.some.injEq] at ho
   subst ho
   have e63:a.eval (.tmp 63)= .pointer (some ⟨(ws s.fr).bx,1,none⟩):=hH.eval (hd ⟨6,.data⟩ (by simp)) rfl
   refine⟨rfl,fun w₁ r=>?_⟩
   generalize a.eval=ρ at*
   have k0:=(r.cell _ bcr).trans bc
   refine⟨?_,?_⟩
   ·show _=Result.ok (Next.value (.chan (some (ws s.fr).an))) w₁
    go_simp
   ·intro e he
    simp[go_sem,e63,k0] at he
    subst he;exact⟨_,rfl,World.block_lt_of_cell? _ _ k0,bcr⟩
  ·simp only[List.getElem?_toArray,List.getElem?_cons_zero,List.getElem?_cons_succ,Option.some.injEq] at ho
   subst ho
   have e12:a.eval (.tmp 12)= .pointer (some ⟨bs,0,none⟩):=hH.old hS (by kernel_rfl)
   refine⟨rfl,fun w₁ r=>?_⟩
   generalize a.eval=ρ at*
   refine⟨?_,?_⟩
   ·show _=Result.ok (Next.value (.pointer (some ⟨bs,3,none⟩))) w₁
    go_simp
   ·intro e he
    simp[go_sem,e12] at he
  ·simp only[List.getElem?_toArray,List.getElem?_cons_zero,List.getElem?_cons_succ,Option.some.injEq] at ho
   subst ho
   have e65:a.eval (.tmp 65)= .pointer (some ⟨bs,3,none⟩):=hH.eval (hd ⟨8,.data⟩ (by simp)) rfl
   refine⟨rfl,fun w₁ r=>?_⟩
   generalize a.eval=ρ at*
   have k0:=(r.cell _ s3r).trans s3
   refine⟨?_,?_⟩
   ·show _=Result.ok (Next.value (.int .i64 s.vl)) w₁
    go_simp
   ·intro e he
    simp[go_sem,e65,k0] at he
    subst he;exact⟨_,rfl,World.block_lt_of_cell? _ _ k0,s3r⟩
 simp only[canon,List.range,List.range.loop,List.foldl_cons,List.foldl_nil,dOf,List.getElem?_toArray,List.getElem?_cons_zero,List.getElem?_cons_succ,Option.bind_some,Option.getD_some]
 walk_nrm
 refine SW.sendAt s.fr (c s.fr).2 s.vl (T':=TLend T2 C.R0) rfl (by rfl) hk0 rfl (by rfl) (by rfl) h0 (I.offd h0 ea) (fun w₁ r=>C.good_keep w₀ w₁ (R6.kp.rely R6.gi.r0 R6.gi.kn R6.gi.ob r).cell hg0) R6.gi.r0 (fun l=>TLend_rd) (fun l h=>h) rfl fun w6 r=>?_
 have hp6:({p with ex:=(bs,(stC s).toArray,50)::ex'}:Plc).ok w₀.heap.size:=⟨hp.l1,hp.l2,hp.l3,hp.l4,hp.l5,hp.d1,hp.d2,hp.d3⟩
 have R7:SL C w₀ {p with ex:=(bs,(stC s).toArray,50)::ex'} n ws (upd st s.fr (.busy (C.ans (c s.fr).2 s.vl))) nx (TLend T2 C.R0) w6:=(R6.rely r).terr hp6 hlow rfl (fun l=>TLend_rd) (fun l h=>.inl h.1) (fun l h=>(Classical.em (C.R0 l)).elim .inr fun hn=>.inl ⟨h,hn⟩) fun hq=>absurd (by rw[upd_eq];trivial) (hq s.fr h0)
 have hT3:∀l,(TLend T2 C.R0).wr l→¬C.R0 l:=fun l h=>h.2
 clear r R6 hb1 s0 s0r s3 s3r wv wvr wr wrr bc bcr w5
 generalize TLend T2 C.R0=T3 at R7 hT3⊢
 clear T2
 have H2:=gait_w C Anc 0 0 n ws (upd st s.fr (.busy (C.ans (c s.fr).2 s.vl)))
 rw[hP] at H2
 show SWn C Anc 0 0 n ws (upd st s.fr (.busy (C.ans (c s.fr).2 s.vl))) 800 T3 _ w6
 walk_nrm
 refine H2.regionEnd ?_
 refine H2.seq ?_
 have hb1:=(R7.ex _ (List.mem_cons_self ..)).1
 have s1:w6.cell? ⟨bs,1,none⟩=some (.int .i64 s.tg):=hb1.cell (i:=1) rfl
 have s1r:=hb1.rd 1
 have s3:w6.cell? ⟨bs,3,none⟩=some (.int .i64 s.vl):=hb1.cell (i:=3) rfl
 have s3r:=hb1.rd 3
 have wv:w6.cell? ⟨p.bW,0,none⟩=some (.slice (some ⟨p.bws,0,none⟩) n n):=R7.wvar.cell (i:=0) rfl
 have wvr:T3.rd (.cell ⟨p.bW,0,none⟩):=R7.wvar.rd 0
 have wr:w6.cell? ⟨p.bws,s.tg,none⟩=some (.pointer (some ⟨(ws s.tg).bx,0,none⟩)):=R7.row.cell (wsRow_get h1 (Nat.le_refl n))
 have wrr:T3.rd (.cell ⟨p.bws,s.tg,none⟩):=R7.row.rd s.tg
 have bc:=(R7.bx s.tg h1).1.c1
 have bcr:=(R7.bx s.tg h1).1.r1
 refine H2.drawReads (fun j=>(([.slice (some ⟨p.bws,0,none⟩) n n,.pointer (some ⟨bs,1,none⟩),.int .i64 s.tg,.pointer (some ⟨p.bws,s.tg,none⟩),.pointer (some ⟨(ws s.tg).bx,0,none⟩),.pointer (some ⟨(ws s.tg).bx,0,none⟩),.pointer (some ⟨(ws s.tg).bx,1,none⟩),.chan (some (ws s.tg).an),.pointer (some ⟨bs,3,none⟩),.int .i64 s.vl]:List Value)[j]?).getD undef) 10 hk0 (by kernel_rfl) (by rfl) (by kernel_rfl) ?_ ?_
 ·intro j o hj ho S a hH hS hd
  obtain rfl|rfl|rfl|rfl|rfl|rfl|rfl|rfl|rfl|rfl:=(by omega:j=0∨j=1∨j=2∨j=3∨j=4∨j=5∨j=6∨j=7∨j=8∨j=9)
  ·simp only[List.getElem?_toArray,List.getElem?_cons_zero,List.getElem?_cons_succ,Option.some.injEq] at ho
   subst ho
   have e2:a.eval (.tmp 2)= .pointer (some ⟨p.bW,0,none⟩):=hH.old hS (by kernel_rfl)
   refine⟨rfl,fun w₁ r=>?_⟩
   generalize a.eval=ρ at*
   have k0:=(r.cell _ wvr).trans wv
   refine⟨?_,?_⟩
   ·show _=Result.ok (Next.value (.slice (some ⟨p.bws,0,none⟩) n n)) w₁
    go_simp
   ·intro e he
    simp[go_sem,e2,k0] at he
    subst he;exact⟨_,rfl,World.block_lt_of_cell? _ _ k0,wvr⟩
  ·simp only[List.getElem?_toArray,List.getElem?_cons_zero,List.getElem?_cons_succ,Option.some.injEq] at ho
   subst ho
   have e12:a.eval (.tmp 12)= .pointer (some ⟨bs,0,none⟩):=hH.old hS (by kernel_rfl)
   refine⟨rfl,fun w₁ r=>?_⟩
   generalize a.eval=ρ at*
   refine⟨?_,?_⟩
   ·show _=Result.ok (Next.value (.pointer (some ⟨bs,1,none⟩))) w₁
    go_simp
   ·intro e he
    simp[go_sem,e12] at he
  ·simp only[List.getElem?_toArray,List.getElem?_cons_zero,List.getElem?_cons_succ,Option.some.injEq] at ho
   subst ho
   have e68:a.eval (.tmp 68)= .pointer (some ⟨bs,1,none⟩):=hH.eval (hd ⟨1,.data⟩ (by simp)) rfl
   refine⟨rfl,fun w₁ r=>?_⟩
   generalize a.eval=ρ at*
   have k0:=(r.cell _ s1r).trans s1
   refine⟨?_,?_⟩
   ·show _=Result.ok (Next.value (.int .i64 s.tg)) w₁
    go_simp
   ·intro e he
    simp[go_sem,e68,k0] at he
    subst he;exact⟨_,rfl,World.block_lt_of_cell? _ _ k0,s1r⟩
  ·simp only[List.getElem?_toArray,List.getElem?_cons_zero,List.getElem?_cons_succ,Option.some.injEq] at ho
   subst ho
   have e67:a.eval (.tmp 67)= .slice (some ⟨p.bws,0,none⟩) n n:=hH.eval (hd ⟨0,.data⟩ (by simp)) rfl
   have e69:a.eval (.tmp 69)= .int .i64 s.tg:=hH.eval (hd ⟨2,.data⟩ (by simp)) rfl
   refine⟨rfl,fun w₁ r=>?_⟩
   generalize a.eval=ρ at*
   refine⟨?_,?_⟩
   ·show _=Result.ok (Next.value (.pointer (some ⟨p.bws,s.tg,none⟩))) w₁
    go_simp
   ·intro e he
    simp[go_sem,e67,e69,h1] at he
  ·simp only[List.getElem?_toArray,List.getElem?_cons_zero,List.getElem?_cons_succ,Option.some.injEq] at ho
   subst ho
   have e70:a.eval (.tmp 70)= .pointer (some ⟨p.bws,s.tg,none⟩):=hH.eval (hd ⟨3,.data⟩ (by simp)) rfl
   refine⟨rfl,fun w₁ r=>?_⟩
   generalize a.eval=ρ at*
   have k0:=(r.cell _ wrr).trans wr
   refine⟨?_,?_⟩
   ·show _=Result.ok (Next.value (.pointer (some ⟨(ws s.tg).bx,0,none⟩))) w₁
    go_simp
   ·intro e he
    simp[go_sem,e70,k0] at he
    subst he;exact⟨_,rfl,World.block_lt_of_cell? _ _ k0,wrr⟩
  ·simp only[List.getElem?_toArray,List.getElem?_cons_zero,List.getElem?_cons_succ,Option.some.injEq] at ho
   subst ho
   have e71:a.eval (.tmp 71)= .pointer (some ⟨(ws s.tg).bx,0,none⟩):=hH.eval (hd ⟨4,.data⟩ (by simp)) rfl
   refine⟨rfl,fun w₁ r=>?_⟩
   generalize a.eval=ρ at*
   refine⟨?_,?_⟩
   ·show _=Result.ok (Next.value (.pointer (some ⟨(ws s.tg).bx,0,none⟩))) w₁
    go_simp
   ·intro e he
    simp[go_sem,e71] at he
  ·simp only[List.getElem?_toArray,List.getElem?_cons_zero,List.getElem?_cons_succ,Option.some.injEq] at ho
   subst ho
   have e72:a.eval (.tmp 72)= .pointer (some ⟨(ws s.tg).bx,0,none⟩):=hH.eval (hd ⟨5,.data⟩ (by simp)) rfl
   refine⟨rfl,fun w₁ r=>?_⟩
   generalize a.eval=ρ at*
   refine⟨?_,?_⟩
   ·show _=Result.ok (Next.value (.pointer (some ⟨(ws s.tg).bx,1,none⟩))) w₁
    go_simp
   ·intro e he
    simp[go_sem,e72] at he
  ·simp only[List.getElem?_toArray,List.getElem?_cons_zero,List.getElem?_cons_succ,Option.some.injEq] at ho
   subst ho
   have e73:a.eval (.tmp 73)= .pointer (some ⟨(ws s.tg).bx,1,none⟩):=hH.eval (hd ⟨6,.data⟩ (by simp)) rfl
   refine⟨rfl,fun w₁ r=>?_⟩
   generalize a.eval=ρ at*
   have k0:=(r.cell _ bcr).trans bc
   refine⟨?_,?_⟩
   ·show _=Result.ok (Next.value (.chan (some (ws s.tg).an))) w₁
    go_simp
   ·intro e he
    simp[go_sem,e73,k0] at he
    subst he;exact⟨_,rfl,World.block_lt_of_cell? _ _ k0,bcr⟩
  ·simp only[List.getElem?_toArray,List.getElem?_cons_zero,List.getElem?_cons_succ,Option.some.injEq] at ho
   subst ho
   have e12:a.eval (.tmp 12)= .pointer (some ⟨bs,0,none⟩):=hH.old hS (by kernel_rfl)
   refine⟨rfl,fun w₁ r=>?_⟩
   generalize a.eval=ρ at*
   refine⟨?_,?_⟩
   ·show _=Result.ok (Next.value (.pointer (some ⟨bs,3,none⟩))) w₁
    go_simp
   ·intro e he
    simp[go_sem,e12] at he
  ·simp only[List.getElem?_toArray,List.getElem?_cons_zero,List.getElem?_cons_succ,Option.some.injEq] at ho
   subst ho
   have e75:a.eval (.tmp 75)= .pointer (some ⟨bs,3,none⟩):=hH.eval (hd ⟨8,.data⟩ (by simp)) rfl
   refine⟨rfl,fun w₁ r=>?_⟩
   generalize a.eval=ρ at*
   have k0:=(r.cell _ s3r).trans s3
   refine⟨?_,?_⟩
   ·show _=Result.ok (Next.value (.int .i64 s.vl)) w₁
    go_simp
   ·intro e he
    simp[go_sem,e75,k0] at he
    subst he;exact⟨_,rfl,World.block_lt_of_cell? _ _ k0,s3r⟩
 simp only[canon,List.range,List.range.loop,List.foldl_cons,List.foldl_nil,dOf,List.getElem?_toArray,List.getElem?_cons_zero,List.getElem?_cons_succ,Option.bind_some,Option.getD_some]
 walk_nrm
 refine SW.sendAt s.tg (c s.tg).2 s.vl (T':=T3) rfl (by rfl) hk0 rfl (by rfl) (by rfl) h1 (by rw[upd_other _ _ (Ne.symm hne)];exact I.offd h1 eb) (fun w₁ r=>C.good_keep w₀ w₁ (R7.kp.rely R7.gi.r0 R7.gi.kn R7.gi.ob r).cell hg0) R7.gi.r0 (fun l=>Iff.rfl) (fun l h=>⟨h,hT3 l h⟩) rfl fun w7 r=>?_
 have R8:SL C w₀ {p with ex:=(bs,(stC s).toArray,50)::ex'} n ws (upd (upd st s.fr (.busy (C.ans (c s.fr).2 s.vl))) s.tg (.busy (C.ans (c s.tg).2 s.vl))) nx T3 w7:=(R7.rely r).terr hp6 hlow rfl (fun l=>Iff.rfl) (fun l h=>.inl h) (fun l h=>.inl h) fun hq=>absurd (by rw[upd_eq];trivial) (hq s.tg h1)
 clear r R7 hb1 s1 s1r s3 s3r wv wvr wr wrr bc bcr w6 hT3
 rw[ha] at R8⊢
 have H3:=gait_w C Anc 0 0 n ws (upd (upd st s.fr (.busy ((c s.fr).2.ans s.vl))) s.tg (.busy ((c s.tg).2.ans s.vl)))
 rw[hP] at H3
 show SWn C Anc 0 0 n ws (upd (upd st s.fr (.busy ((c s.fr).2.ans s.vl))) s.tg (.busy ((c s.tg).2.ans s.vl))) 700 T3 _ w7
 have s0:w7.cell? ⟨bs,0,none⟩=some (.int .i64 s.fr):=(R8.ex _ (List.mem_cons_self ..)).1.cell (i:=0) rfl
 have s0r:=(R8.ex _ (List.mem_cons_self ..)).1.rd 0
 walk_nrm
 refine H3.regionEnd ?_
 refine H3.seq ?_
 refine H3.region ?_
 simp only[List.size_toArray,List.length_cons,List.length_nil,Nat.reduceAdd,Nat.zero_add,List.range,List.range.loop]
 co_applyP Gait.pure H3 _ rfl (by rfl) hk0 (fun _=>run_eq_of ?run5) (fun _=>?evs5) ?rest5
 case run5=>intro K hK;go_simp;exact hK
 case evs5=>simp[go_sem]
 walk_nrm
 co_applyP Gait.pure H3 _ rfl (by rfl) hk0 (fun _=>run_eq_of ?run6) (fun _=>?evs6) ?rest6
 case run6=>intro K hK;go_simp;exact hK
 case evs6=>simp[go_sem]
 walk_nrm
 co_applyP Gait.read H3 _ rfl (by rfl) hk0 (fun w₁ r=>⟨run_eq_of ?run7,?evs7⟩) ?rest7
 case run7=>have k0:=(r.cell _ s0r).trans s0;intro K hK;go_simp;exact hK
 case evs7=>have k0:=(r.cell _ s0r).trans s0;intro e he;simp[go_sem,k0] at he;subst he;exact⟨_,rfl,World.block_lt_of_cell? _ _ k0,s0r⟩
 walk_nrm
 refine H3.callV (c:=Try.f53.body.getD .skip) rfl (by rfl) hk0 rfl rfl Try.func53 (by decide) rfl ?_
 rw[show Try.f53.ntmps=24 from Try.ntmps53]
 simp only[Act.eval,List.map_toArray,List.map_cons,List.map_nil,List.size_toArray,List.length_cons,List.length_nil,Nat.reduceAdd,Nat.reduceSub,Array.getD_eq_getD_getElem?,List.getElem?_toArray,List.getElem?_cons_succ,List.getElem?_cons_zero,Option.getD_some,List.append_toArray,List.cons_append,List.nil_append,Array.replicate_succ,Array.replicate_zero,List.push_toArray]
 refine H3.le (n:=200) (by omega) (fetch2 hP hn hlow hp6 R8 h0 (s:=(c s.fr).2.ans s.vl) (by rw[upd_other _ _ hne,upd_eq]) (EithR.eiths fun x hx'=>hx _ h0 x (I.rest _ h0 x hx')) fun y0 T4 w8 hy0 R9=>?_)
 clear R8 s0 s0r H3
 have H4:=gait_w C Anc 0 0 n ws (upd (upd (upd st s.fr (.busy ((c s.fr).2.ans s.vl))) s.tg (.busy ((c s.tg).2.ans s.vl))) s.fr (stOf (fet ((c s.fr).2.ans s.vl))))
 rw[hP] at H4
 show SWn C Anc 0 0 n ws (upd (upd (upd st s.fr (.busy ((c s.fr).2.ans s.vl))) s.tg (.busy ((c s.tg).2.ans s.vl))) s.fr (stOf (fet ((c s.fr).2.ans s.vl)))) 400 T4 _ w8
 have s1:w8.cell? ⟨bs,1,none⟩=some (.int .i64 s.tg):=(R9.ex _ (List.mem_cons_self ..)).1.cell (i:=1) rfl
 have s1r:=(R9.ex _ (List.mem_cons_self ..)).1.rd 1
 walk_nrm
 refine H4.regionEnd ?_
 refine H4.region ?_
 simp only[List.size_toArray,List.length_cons,List.length_nil,Nat.reduceAdd,Nat.zero_add,List.range,List.range.loop]
 co_applyP Gait.pure H4 _ rfl (by rfl) hk0 (fun _=>run_eq_of ?run8) (fun _=>?evs8) ?rest8
 case run8=>intro K hK;go_simp;exact hK
 case evs8=>simp[go_sem]
 walk_nrm
 co_applyP Gait.pure H4 _ rfl (by rfl) hk0 (fun _=>run_eq_of ?run9) (fun _=>?evs9) ?rest9
 case run9=>intro K hK;go_simp;exact hK
 case evs9=>simp[go_sem]
 walk_nrm
 co_applyP Gait.read H4 _ rfl (by rfl) hk0 (fun w₁ r=>⟨run_eq_of ?run10,?evs10⟩) ?rest10
 case run10=>have k0:=(r.cell _ s1r).trans s1;intro K hK;go_simp;exact hK
 case evs10=>have k0:=(r.cell _ s1r).trans s1;intro e he;simp[go_sem,k0] at he;subst he;exact⟨_,rfl,World.block_lt_of_cell? _ _ k0,s1r⟩
 walk_nrm
 refine H4.callV (c:=Try.f53.body.getD .skip) rfl (by rfl) hk0 rfl rfl Try.func53 (by decide) rfl ?_
 rw[show Try.f53.ntmps=24 from Try.ntmps53]
 simp only[Act.eval,List.map_toArray,List.map_cons,List.map_nil,List.size_toArray,List.length_cons,List.length_nil,Nat.reduceAdd,Nat.reduceSub,Array.getD_eq_getD_getElem?,List.getElem?_toArray,List.getElem?_cons_succ,List.getElem?_cons_zero,Option.getD_some,List.append_toArray,List.cons_append,List.nil_append,Array.replicate_succ,Array.replicate_zero,List.push_toArray]
 refine H4.le (n:=200) (by omega) (fetch2 hP hn hlow hp6 R9 h1 (s:=(c s.tg).2.ans s.vl) (by rw[upd_other _ _ (Ne.symm hne),upd_eq]) (EithR.eiths fun x hx'=>hx _ h1 x (I.rest _ h1 x hx')) fun y1 T5 w9 hy1 R10=>?_)
 clear R9 s1 s1r H4
 have H5:=gait_w C Anc 0 0 n ws (upd (upd (upd (upd st s.fr (.busy ((c s.fr).2.ans s.vl))) s.tg (.busy ((c s.tg).2.ans s.vl))) s.fr (stOf (fet ((c s.fr).2.ans s.vl)))) s.tg (stOf (fet ((c s.tg).2.ans s.vl))))
 rw[hP] at H5
 show SWn C Anc 0 0 n ws (upd (upd (upd (upd st s.fr (.busy ((c s.fr).2.ans s.vl))) s.tg (.busy ((c s.tg).2.ans s.vl))) s.fr (stOf (fet ((c s.fr).2.ans s.vl)))) s.tg (stOf (fet ((c s.tg).2.ans s.vl)))) 100 T5 _ w9
 walk_nrm
 refine H5.regionEnd ?_
 exact kk _ _ ex' sa' sc' T5 w9 _ _ _ _ _ _ _ _ _ _ _ _ _ _ _ _ _ _ _ _ _ _ _ _ _ _ _ _ _ _ _ _ _ _ _ _ _ (I.step h0 h1 hne hy0 hy1) hS2 (R10.withEx fun y hy=>R10.ex y (List.mem_cons_of_mem _ hy))
end
end Go.Side
