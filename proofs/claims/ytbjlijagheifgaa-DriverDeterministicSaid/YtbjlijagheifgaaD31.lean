/-
  Texts of Ytbjlijagheifgaa, merged.
-/
import Derived.Test.YtbjlijagheifgaaD30
import Derived.Test.YtbjlijagheifgaaD19
import Derived.Test.YtbjlijagheifgaaD11
import Derived.Test.YtbjlijagheifgaaD10
set_option linter.unusedSimpArgs false
set_option linter.unusedVariables false
namespace Go.Side
section
open Go Go.Conc Go.ConcN Go.Proofs Go.Conc.Lib Go.ConcR.Gen
set_option maxRecDepth 100000 in
set_option maxHeartbeats 8000000 in
theorem run_loop{C:Fix Wk}{Anc:Nat→(Nat→WV)→(Nat→WState Wk)→Goroutine→World→Prop}(hP:C.P=Try.prog)(hty:C.ty=72)(hn:C.nxt=Wk.nxt)(ha:C.ans=Wk.ans)(hs:C.sum=Wk.all){L:List TaskR}{pt:Option Addr}{ct:Nat}{w₀:World}(hlow:∀l,C.R0 l→l.low w₀.heap.size)(hg:∀w,C.good w→TasksAt w pt L)(hR1:∀(j:Nat) b o,j<L.length→pt=some ⟨b,o,none⟩→C.R0 (.cell ⟨b,o+j,none⟩))(hR4:∀x∈L,∀j y b o,x.ops[j]?=some y→x.p=some ⟨b,o,none⟩→∀f,f<4→C.R0 (.cell ⟨b,o+j*4+f,none⟩))(hlen:∀x∈L,x.ops.length≤1000)(hG0:C.good w₀){n:Nat}(hnL:L.length=n)(hn8:n≤1000){bws bq:Nat}(hbws:w₀.heap.size≤bws)(hbq:w₀.heap.size≤bq)(hwb:bws≠bq)(hwg:w₀.heap.size≤C.Wg){k:List Item}{cs:List Frame}:
  ∀(m i:Nat),i+m=n→∀(ws:Nat→WV) (st:Nat→WState Wk) (T:Terr) (w:World) (u1 u2 u3 u4 u5 u6 u7 u11 u12 u13 u14 u15 u16 u17 u18 u19 u20 u21 u22 u23 u24 u25 u29 u30 u31 u32 u33 u34 u35 u36 u37 u38 u39 u40 u41 u42 u43 u44 u45 u46 u47 u48 u49 u50 u51 u52 u53 u54 u55 u56 u57 u58 u59 u60 u61 u62 u63 u64 u65 u66 u67 u68 u69 u70 u71 u72 u73 u74 u75 u76 u77 u78:Value),RL C w₀ T w n i ws bws bq→(i=0→∀l,C.R0 l→T.wr l)→(∀q x,q<i→L[q]?=some x→st q= .busy ⟨x.ops,0,none⟩)→
   (∀(ws:Nat→WV) (st:Nat→WState Wk) (T:Terr) (w:World) (v11 v12 v13 v29 v30 v31 v32 v33 v34 v35 v36 v37 v38 v39 v40 v41 v42 v43:Value),RL C w₀ T w n n ws bws bq→(n=0→∀l,C.R0 l→T.wr l)→(∀q x,q<n→L[q]?=some x→st q= .busy ⟨x.ops,0,none⟩)→
    SW C Anc T 0 0 n ws st (G ((base 12).at ⟨#[.slice pt n ct,u1,u2,u3,u4,u5,u6,u7,.pointer (some ⟨C.Wg,0,none⟩),.pointer (some ⟨bq,0,none⟩),.slice (some ⟨bws,0,none⟩) n n,v11,v12,v13,u14,u15,u16,u17,u18,u19,u20,u21,u22,u23,u24,u25,.slice pt n ct,.int .i64 n,.int .i64 n,v29,v30,v31,v32,v33,v34,v35,v36,v37,v38,v39,v40,v41,v42,v43,u44,u45,u46,u47,u48,u49,u50,u51,u52,u53,u54,u55,u56,u57,u58,u59,u60,u61,u62,u63,u64,u65,u66,u67,u68,u69,u70,u71,u72,u73,u74,u75,u76,u77,u78],[]⟩ k) cs) w)→
   SWn C Anc 0 0 i ws st 300 T (G ((base 12).at ⟨#[.slice pt n ct,u1,u2,u3,u4,u5,u6,u7,.pointer (some ⟨C.Wg,0,none⟩),.pointer (some ⟨bq,0,none⟩),.slice (some ⟨bws,0,none⟩) n n,u11,u12,u13,u14,u15,u16,u17,u18,u19,u20,u21,u22,u23,u24,u25,.slice pt n ct,.int .i64 n,.int .i64 i,u29,u30,u31,u32,u33,u34,u35,u36,u37,u38,u39,u40,u41,u42,u43,u44,u45,u46,u47,u48,u49,u50,u51,u52,u53,u54,u55,u56,u57,u58,u59,u60,u61,u62,u63,u64,u65,u66,u67,u68,u69,u70,u71,u72,u73,u74,u75,u76,u77,u78],[]⟩ (.code lp12:: .inLoop lp12:: .inBlock 0::k)) cs) w:=by
 have hk0:(base 12).kind≠ .early:=by decide
 intro m
 induction m with
 |zero=>
  intro i him ws st T w u1 u2 u3 u4 u5 u6 u7 u11 u12 u13 u14 u15 u16 u17 u18 u19 u20 u21 u22 u23 u24 u25 u29 u30 u31 u32 u33 u34 u35 u36 u37 u38 u39 u40 u41 u42 u43 u44 u45 u46 u47 u48 u49 u50 u51 u52 u53 u54 u55 u56 u57 u58 u59 u60 u61 u62 u63 u64 u65 u66 u67 u68 u69 u70 u71 u72 u73 u74 u75 u76 u77 u78 R hq hst kk
  obtain rfl:i=n:=by omega
  have hdec:decide (i<i)=false:=by simp
  have H:=gait_w C Anc 0 0 i ws st
  rw[hP] at H
  conv in Item.code lp12=>{arg 1;whnf}
  refine H.seq ?_
  refine H.region ?_
  simp only[List.size_toArray,List.length_cons,List.length_nil,Nat.reduceAdd,Nat.zero_add,List.range,List.range.loop]
  co_applyP Gait.pure H _ rfl (by rfl) hk0 (fun _=>run_eq_of ?run1) (fun _=>?evs1) ?rest1
  case run1=>intro K hK;go_simp;exact hK
  case evs1=>simp[go_sem]
  walk_nrm
  refine H.regionEnd ?_
  refine H.seq ?_
  refine H.cond false rfl ?_
  simp only[if_true,if_false,Bool.false_eq_true,↓reduceIte]
  refine H.exit rfl ?_
  exact kk ws st T w _ _ _ _ _ _ _ _ _ _ _ _ _ _ _ _ _ _ R hq hst
 |succ m ih=>
  intro i him ws st T w u1 u2 u3 u4 u5 u6 u7 u11 u12 u13 u14 u15 u16 u17 u18 u19 u20 u21 u22 u23 u24 u25 u29 u30 u31 u32 u33 u34 u35 u36 u37 u38 u39 u40 u41 u42 u43 u44 u45 u46 u47 u48 u49 u50 u51 u52 u53 u54 u55 u56 u57 u58 u59 u60 u61 u62 u63 u64 u65 u66 u67 u68 u69 u70 u71 u72 u73 u74 u75 u76 u77 u78 R hq hst kk
  have hi:i<n:=by omega
  obtain⟨x,hx⟩:∃x,L[i]?=some x:=⟨_,List.getElem?_eq_getElem (by rw[hnL];exact hi)⟩
  refine run_round hP hty hn ha hs hlow hg hR1 hR4 hlen hG0 hnL hn8 hbws hbq hwb hwg hi hx R fun v T' w' V11 V12 V13 V29 V30 V31 V32 V33 V34 V35 V36 V37 V38 V39 V40 V41 V42 V43 R'=>?_
  have H2:=gait_w C Anc 0 0 (i+1) (upd ws i v) (upd st i (.busy ⟨x.ops,0,none⟩))
  rw[hP] at H2
  show SWn C Anc 0 0 (i+1) (upd ws i v) (upd st i (.busy ⟨x.ops,0,none⟩)) 400 T' _ w'
  refine H2.inLoop ?_
  exact ih (i+1) (by omega) _ _ _ _ _ _ _ _ _ _ _ _ _ _ _ _ _ _ _ _ _ _ _ _ _ _ _ _ _ _ _ _ _ _ _ _ _ _ _ _ _ _ _ _ _ _ _ _ _ _ _ _ _ _ _ _ _ _ _ _ _ _ _ _ _ _ _ _ _ _ _ _ _ _ _ _ R' (fun h=>by omega) (fun q y hq' hy=>by
   by_cases e:q=i
   ·subst e;rw[upd_eq];rw[hx] at hy;obtain rfl:=Option.some.inj hy;rfl
   ·rw[upd_other _ _ e];exact hst q y (by omega) hy) kk
end
section
open Go Go.Conc Go.ConcN
section
variable {T:Terr} {w:World}
theorem OwnR.put3{b:Nat}{a0 a1 a2 v0 v1 v2:Value}{e:TypeId}(h:OwnR T w b #[a0,a1,a2] e):OwnR T (((w.setCell ⟨b,0,none⟩ v0).setCell ⟨b,1,none⟩ v1).setCell ⟨b,2,none⟩ v2) b #[v0,v1,v2] e:=by
 have:=((h.set 0 v0).set 1 v1).set 2 v2
 simpa using this
end
theorem not_wg3{a b c:Value}:¬IsWg #[a,b,c]:=fun⟨x,y,h⟩=>by have:=congrArg Array.size h;simp at this
section
variable {P:Program} {q:Bool} {X:Nat→Terr→Goroutine→World→Prop} {T:Terr} {n:Nat} {b:Frame} {a:Act} {w:World} {k:List Item} {cs:List Frame} {ops:Array Oper} {i:Nat} {rest:List Nat} {o:Oper}
theorem Gait.store3(H:Gait P true q false X){B:Nat}{a0 a1 a2:Value}{e:TypeId}(O:OwnR T w B #[a0,a1,a2] e)(v0 v1 v2:Value)(ho:ops[i]?=some o)(hw:Region.wanted o (yielded ops a.tmps)=true)(hk:b.kind≠ .early)(h:∀w₁,OwnR T w₁ B #[a0,a1,a2] e→(execOp a.eval o).run P w₁= .ok .skip (((w₁.setCell ⟨B,0,none⟩ v0).setCell ⟨B,1,none⟩ v1).setCell ⟨B,2,none⟩ v2)∧ ∀e∈(execOp a.eval o).events P w₁ #[],e=⟨.cell ⟨B,0,none⟩,true,false⟩∨e=⟨.cell ⟨B,1,none⟩,true,false⟩∨e=⟨.cell ⟨B,2,none⟩,true,false⟩)(kk:∀w₁ w',Rely q T w w₁→Fr (· =B) T T w₁ w'→OwnR T w' B #[v0,v1,v2] e→(∀R0,GI R0 T w₁→GI R0 T w')→X n T (G (b.at (a.put o.dst undef) (.inRegion ops rest::k)) cs) w'):
  X (n+1) T (G (b.at a (.inRegion ops (i::rest)::k)) cs) w:=by
 refine H.turn ho hw hk fun w₁ r=>?_
 have O1:=O.rely r
 obtain⟨h1,h2⟩:=h w₁ O1
 have Z:Sets B w₁ (((w₁.setCell ⟨B,0,none⟩ v0).setCell ⟨B,1,none⟩ v1).setCell ⟨B,2,none⟩ v2):=((Sets.set w₁ ⟨B,0,none⟩ v0).trans (Sets.set _ ⟨B,1,none⟩ v1)).trans (Sets.set _ ⟨B,2,none⟩ v2)
 have O2:=O1.put3 (v0:=v0) (v1:=v1) (v2:=v2)
 refine⟨undef,_,.inr ⟨rfl,h1⟩,Z.guar O1.heap O2.heap rfl (fun j _=>O1.cells _ rfl) (fun _=>O1.obj) (fun e=>by cases e) fun e hm=>?_,?_⟩
 ·rcases h2 e (mem_listed hm) with rfl|rfl|rfl
  ·exact⟨0,rfl,O1.cells _ rfl⟩
  ·exact⟨1,rfl,O1.cells _ rfl⟩
  ·exact⟨2,rfl,O1.cells _ rfl⟩
 rw[Z.size,grow_same]
 exact kk w₁ _ r (Fr.sets Z O1.heap O2.heap rfl not_wg3) O2 fun R0 I=>I.sets Z O1.heap O2.heap rfl not_wg3
end
end
section
open Go Go.Conc Go.ConcN Go.Proofs Go.RowKit
section
variable {P:Program} {main:Bool} {b:Frame} {a:Act} {k:List Item} {cs:List Frame} {w:World} {ops:Array Oper} {i:Nat} {rest:List Nat} {o:Oper}
theorem close_step{x:Operand}{ty:TypeId}{r cap s rc:Nat}{buf:Array Value}{tm:Bool}(ho:ops[i]?=some o)(hw:Region.wanted o (yielded ops a.tmps)=true)(hk:b.kind≠ .early)(hop:o.op= .call {callee:=.builtin .close,args:= #[x],argTypes:= #[ty]})(hx:a.eval x= .chan (some r))(hc:w.heap[r]?=some (.chan cap buf false s rc tm))(hq:(P.funcs[b.fn]?).any (·.norace)=false):
  stepG P main (G (b.at a (.inRegion ops (i::rest)::k)) cs) w= .go (G (b.at (a.put o.dst (.tuple #[])) (.inRegion ops rest::k)) cs) (w.setChan r cap buf true s rc tm) (shutEvs r):=by
 have hr:(execOp a.eval o).run P w= .ok (.value (.tuple #[])) (w.setChan r cap buf true s rc tm):=by
  generalize a.eval=ρ at hx⊢
  unfold execOp
  simp[hop,resolve,invoke,go_sem,hx,run_close_open _ _ hc,World.setChan]
 have he:(execOp a.eval o).events P w #[]=shutEvs r:=by
  generalize a.eval=ρ at hx⊢
  unfold execOp
  simp[hop,resolve,invoke,go_sem,hx,events_close_open _ _ hc,shutEvs]
 have hl:seen P b.fn (shutEvs r)=shutEvs r:=seen_eq hq (by intro e he f;simp only[shutEvs,List.mem_toArray,List.mem_cons,List.not_mem_nil,or_false] at he;rcases he with rfl|rfl<;>simp)
 rw[stepG_value ho hw hk hr]
 unfold listed
 rw[he,hl]
end
end
section
open Go Go.Conc Go.ConcN Go.Proofs Go.RowKit Go.Conc.Lib Go.ConcR.Gen Go.ConcN.Gen Go.Proofs.Ytbjlijagheifgaa
noncomputable def t12_14:Code:=(seqAt 14 (Try.f12.body.getD .skip)).getD .skip
def behindR(i:Nat):Code→Option Code
 | .seq (.region j ops d) b=>bif Nat.beq j i then some b else behindR i b
 | .seq a b=>match behindR i a with
  |some c=>some c
  |none=>behindR i b
 | .block _ c=>behindR i c
 | .loop c=>behindR i c
 |_=>none
noncomputable def t12_17:Code:=(behindR 16 (Try.f12.body.getD .skip)).getD .skip
noncomputable def ops12_16:Array Oper:=match regOf 16 (Try.f12.body.getD .skip) with
 |some (.region _ ops _)=>ops
 |_=> #[]
@[go_sem] theorem run_build32 (a:Option Addr) (n c:Nat) (w:World):(Instr.build 32 #[(0,.slice a n c)]).run Try.prog w= .ok (.agg #[.slice a n c,.slice none 0 0,.slice none 0 0]) w:=run_build w 32 _ _ (by kernel_rfl)
@[go_sem] theorem events_build32 (a:Option Addr) (n c:Nat) (w:World) (es:Array Event):(Instr.build 32 #[(0,.slice a n c)]).events Try.prog w es=es:=by kernel_rfl
set_option maxRecDepth 100000 in
set_option maxHeartbeats 8000000 in
theorem run_mid{C:Fix Wk}{Anc:Nat→(Nat→WV)→(Nat→WState Wk)→Goroutine→World→Prop}{w₀:World}{n:Nat}{ws:Nat→WV}{st:Nat→WState Wk}{E:OpV→List Int}{task:Nat→List OpV}(hP:C.P=Try.prog)(hty:C.ty=72)(hn:C.nxt=Wk.nxt)(ha:C.ans=Wk.ans)(hg0:C.good w₀)(hW:Whole C.R0)(hlow:∀l,C.R0 l→l.low w₀.heap.size)(hn8:n≤8)(hx:∀k,k<n→∀x,x∈task k→EithR C.R0 w₀ E x){ch:List Int}{pc:Option Addr}{cc:Nat}(hch:∀j v,ch[j]?=some v→∃b o,pc=some ⟨b,o,none⟩∧w₀.cell? ⟨b,o+j,none⟩=some (.int .i64 v)∧C.R0 (.cell ⟨b,o+j,none⟩)){bws bq:Nat}(hbws:w₀.heap.size≤bws)(hbq:w₀.heap.size≤bq)(hwb:bws≠bq){T:Terr}{w:World}(R:RL C w₀ T w n n ws bws bq)(hq0:n=0→∀l,C.R0 l→T.wr l)(hst:∀k,k<n→st k= .busy ⟨task k,0,none⟩)(hm:measC n (fun k=>fet ⟨task k,0,none⟩)≤100000){pt:Option Addr}{ct:Nat}{k:List Item}{cs:List Frame}(u1 u3 u4 u5 u6 u7 u11 u12 u13 u14 u15 u16 u17 u18 u19 u20 u21 u22 u23 u24 u25 u26 u27 u28 u29 u30 u31 u32 u33 u34 u35 u36 u37 u38 u39 u40 u41 u42 u43 u44 u45 u46 u47 u48 u49 u50 u51 u52 u53 u54 u55 u56 u57 u58 u59 u60 u61 u62 u63 u64 u65 u66 u67 u68 u69 u70 u71 u72 u73 u74 u75 u76 u77 u78:Value)(kk:∀(p:Plc) (c':Cf) (S':List StepP) (st':Nat→WState Wk) (nx':Nat→Option (Nat×OpV)) (ex':List (Nat×Array Value×TypeId)) (sa':Option Addr) (sc' bo:Nat) (T':Terr) (w':World),p.bws=bws→p.bq=bq→p.ok w₀.heap.size→RunTo E n ch (fun k=>fet ⟨task k,0,none⟩) [] c' S'→Inv task n c' st' nx'→StR ex' sa' sc' S'→SL C w₀ {p with ex:=ex'} n ws st' nx' T' w'→ OwnR T' w' bo #[.slice sa' S'.length sc',.slice none 0 0,.slice none 0 0] 32→w₀.heap.size≤bo→∀w₁,Rely false T' w' w₁→Anc n ws st' (G ((base 12).at ⟨#[.slice pt n ct,u1,.slice pc ch.length cc,u3,u4,u5,u6,u7,.pointer (some ⟨C.Wg,0,none⟩),.pointer (some ⟨bq,0,none⟩),.slice (some ⟨bws,0,none⟩) n n,u11,u12,u13,.pointer (some ⟨bo,0,none⟩),u15,u16,u17,u18,u19,u20,u21,u22,u23,u24,u25,u26,u27,u28,u29,u30,u31,u32,u33,u34,u35,u36,u37,u38,u39,u40,u41,u42,u43,.slice (some ⟨bws,0,none⟩) n n,.slice pc ch.length cc,.slice sa' S'.length sc',.agg #[.slice sa' S'.length sc',.slice none 0 0,.slice none 0 0],.chan (some C.qc),.tuple #[],u50,u51,u52,u53,u54,u55,u56,u57,u58,u59,u60,u61,u62,u63,u64,u65,u66,u67,u68,u69,u70,u71,u72,u73,u74,u75,u76,u77,u78],[]⟩ (.inRegion ops12_16 []:: .code t12_17::k)) cs) w₁):
  SWn C Anc 0 0 n ws st 9000 T (G ((base 12).at ⟨#[.slice pt n ct,u1,.slice pc ch.length cc,u3,u4,u5,u6,u7,.pointer (some ⟨C.Wg,0,none⟩),.pointer (some ⟨bq,0,none⟩),.slice (some ⟨bws,0,none⟩) n n,u11,u12,u13,u14,u15,u16,u17,u18,u19,u20,u21,u22,u23,u24,u25,u26,u27,u28,u29,u30,u31,u32,u33,u34,u35,u36,u37,u38,u39,u40,u41,u42,u43,u44,u45,u46,u47,u48,u49,u50,u51,u52,u53,u54,u55,u56,u57,u58,u59,u60,u61,u62,u63,u64,u65,u66,u67,u68,u69,u70,u71,u72,u73,u74,u75,u76,u77,u78],[]⟩ (.code t12_14::k)) cs) w:=by
 have hk0:(base 12).kind≠ .early:=by decide
 have H:=gait_w C Anc 0 0 n ws st
 rw[hP] at H
 conv in Item.code t12_14=>{arg 1;whnf}
 refine H.seq ?_
 refine H.region ?_
 simp only[List.size_toArray,List.length_cons,List.length_nil,Nat.reduceAdd,Nat.zero_add,List.range,List.range.loop]
 co_applyP Gait.pure H _ rfl (by rfl) hk0 (fun _=>run_eq_of ?run1) (fun _=>?evs1) ?rest1
 case run1=>intro K hK;go_simp;exact hK
 case evs1=>simp[go_sem]
 walk_nrm
 co_applyP Gait.pure H _ rfl (by rfl) hk0 (fun _=>run_eq_of ?run2) (fun _=>?evs2) ?rest2
 case run2=>intro K hK;go_simp;exact hK
 case evs2=>simp[go_sem]
 walk_nrm
 refine H.call (f:=30) (c:=Try.f30.body.getD .skip) rfl (by rfl) hk0 rfl Try.func30 (by decide) rfl ?_
 rw[show Try.f30.ntmps=85 from Try.ntmps30]
 simp only[Act.eval,List.map_toArray,List.map_cons,List.map_nil,List.size_toArray,List.length_cons,List.length_nil,Nat.reduceAdd,Nat.reduceSub,Array.getD_eq_getD_getElem?,List.getElem?_toArray,List.getElem?_cons_succ,List.getElem?_cons_zero,Option.getD_some]
 refine H.le (n:=300*n+400) (by omega) (sched_all (E:=E) (task:=task) hP hn ha hg0 hW hlow hn8 hx hch hbws hbq hwb R hq0 hst hm fun p c' S' st' nx' ex' sa' sc' T1 w1 e1 e2 hp hrun I hS R1=>?_)
 subst e1
 subst e2
 have H2:=gait_w C Anc 0 0 n ws st'
 rw[hP] at H2
 show SWn C Anc 0 0 n ws st' 500 T1 _ w1
 walk_nrm
 co_applyP Gait.pure H2 _ rfl (by rfl) hk0 (fun _=>run_eq_of ?run3) (fun _=>?evs3) ?rest3
 case run3=>intro K hK;go_simp;exact hK
 case evs3=>simp[go_sem]
 walk_nrm
 refine H2.allot (fun s=>.pointer (some ⟨s,0,none⟩)) (.cells #[.slice none 0 0,.slice none 0 0,.slice none 0 0] 32 (0,0)) rfl (by rfl) hk0 (fun w₁=>by simp[go_sem]) (fun w₁=>by simp[go_sem]) fun w₁ r=>?_
 have R2:=(R1.rely r).fr (S:=fun _=>False) hlow (Fr.alloc _ _ _ (.cells #[.slice none 0 0,.slice none 0 0,.slice none 0 0] 32 (0,0))) ((R1.rely r).gi.alloc _) (fun b hb=>hb.elim) (fun b hb=>hb.elim)
 have O2:=OwnR.new T1 w₁ #[.slice none 0 0,.slice none 0 0,.slice none 0 0] 32
 have hb0:w₀.heap.size≤w₁.heap.size:=(R1.rely r).kp.size
 have l1:=(R1.rely r).row.lt
 have l2:=(R1.rely r).nrow.lt
 have l3:=(R1.rely r).nvar.lt
 have l4:=(R1.rely r).wvar.lt
 have l5:∀k,k<n→(ws k).bx<w₁.heap.size:=fun k hk=>((R1.rely r).bx k hk).1.lt
 have l6:∀k,k<n→∀b x,nx' k=some (b,x)→b<w₁.heap.size:=fun k hk b x e=>((R1.rely r).op k hk b x e).1.lt
 have l7:p.bq<w₁.heap.size:=World.block_lt_of_cell? _ _ (R1.rely r).q
 have l8:∀y,y∈ex'→y.1<w₁.heap.size:=fun y hy=>((R1.rely r).ex y hy).1.lt
 clear R1 r R
 generalize w₁.alloc (.cells #[.slice none 0 0,.slice none 0 0,.slice none 0 0] 32 (0,0))=w2 at R2 O2⊢
 generalize w₁.heap.size=bo at R2 O2 hb0 l1 l2 l3 l4 l5 l6 l7 l8⊢
 generalize T1.grow bo (bo+1)=T2 at R2 O2⊢
 clear w₁ w1 T1
 walk_nrm
 refine H2.store3 O2 (.slice sa' S'.length sc') (.slice none 0 0) (.slice none 0 0) rfl (by rfl) hk0 (fun w₁ O1=>?_) fun w₃ w4 r F O4 hI=>?_
 ·have p0:=O1.cell (i:=0) rfl;have p1:=O1.cell (i:=1) rfl;have p2:=O1.cell (i:=2) rfl
  have z0:=O1.free 0;have z1:=O1.free 1;have z2:=O1.free 2
  refine⟨by go_simp,fun e he=>?_⟩
  simp[go_sem,p0,p1,p2,z0,z1,z2] at he
  exact he
 have R4:=(R2.rely r).frB ⟨hp.l1,hp.l2,hp.l3,hp.l4,hp.l5,hp.d1,hp.d2,hp.d3⟩ hlow F (hI _ (R2.rely r).gi) hb0 (Nat.ne_of_lt l1) (Nat.ne_of_lt l2) (Nat.ne_of_lt l3) (Nat.ne_of_lt l4) (Nat.ne_of_lt l7) (fun k hk=>by have:=l5 k hk;omega) (fun k hk b x e=>by have:=l6 k hk b x e;omega) (fun y hy=>by have:=l8 y hy;omega)
 clear F hI r w₃ R2 O2 w2 l1 l2 l3 l4 l5 l6 l7 l8
 walk_nrm
 refine H2.regionEnd ?_
 refine H2.seq ?_
 refine H2.region ?_
 simp only[List.size_toArray,List.length_cons,List.length_nil,Nat.reduceAdd,Nat.zero_add,List.range,List.range.loop]
 have q0:w4.cell? ⟨p.bq,0,none⟩=some (.chan (some C.qc)):=R4.q
 have q0r:T2.rd (.cell ⟨p.bq,0,none⟩):=R4.qr
 co_applyP Gait.read H2 _ rfl (by rfl) hk0 (fun w₁ r=>⟨run_eq_of ?run4,?evs4⟩) ?rest4
 case run4=>have k0:=(r.cell _ q0r).trans q0;intro K hK;go_simp;exact hK
 case evs4=>have k0:=(r.cell _ q0r).trans q0;intro e he;simp[go_sem,k0] at he;subst he;exact⟨_,rfl,World.block_lt_of_cell? _ _ k0,q0r⟩
 walk_nrm
 show SW C Anc T2 0 0 n ws st' _ w4
 refine SW.shut _ I.quiet rfl (by rw[hP];rfl) R4.qo (fun w₁ r hc=>by rw[hP];exact close_step rfl (by rfl) hk0 rfl (by rfl) hc (by kernel_rfl)) rfl fun w₁ r=>?_
 have R5:=R4.rely r
 have O5:=O4.rely r
 clear R4 O4 r q0 q0r w4
 have hd:(ops12_16[0]?).bind (·.dst)=some 49:=by kernel_rfl
 refine⟨Head Try.link C T2 w₁ ((base 12).at ⟨#[.slice pt n ct,u1,.slice pc ch.length cc,u3,u4,u5,u6,u7,.pointer (some ⟨C.Wg,0,none⟩),.pointer (some ⟨p.bq,0,none⟩),.slice (some ⟨p.bws,0,none⟩) n n,u11,u12,u13,.pointer (some ⟨bo,0,none⟩),u15,u16,u17,u18,u19,u20,u21,u22,u23,u24,u25,u26,u27,u28,u29,u30,u31,u32,u33,u34,u35,u36,u37,u38,u39,u40,u41,u42,u43,.slice (some ⟨p.bws,0,none⟩) n n,.slice pc ch.length cc,.slice sa' S'.length sc',.agg #[.slice sa' S'.length sc',.slice none 0 0,.slice none 0 0],.chan (some C.qc),u49,u50,u51,u52,u53,u54,u55,u56,u57,u58,u59,u60,u61,u62,u63,u64,u65,u66,u67,u68,u69,u70,u71,u72,u73,u74,u75,u76,u77,u78],[]⟩ (.inRegion ops12_16 [0]:: .code t12_17::k)) cs,fun T' g w' h=>?_,fun T' g w' h=>wait_round (i₀:=0) (rest₀:=[]) (by rw[hP];exact Try.wgLib) hty (R5.gi.kn _) R5.wgn (fun w₂ hw=>by
   rw[hd]
   simp only[Act.put,List.setIfInBounds_toArray,List.set_cons_succ,List.set_cons_zero]
   exact kk p c' S' st' nx' ex' sa' sc' bo T2 w₁ rfl rfl hp hrun I hS R5 O5 hb0 w₂ hw.2) T' g w' h,?_⟩
 ·obtain⟨_,X,rfl,_⟩:=h
  rfl
 ·refine⟨20,?_⟩
  rw[hP]
  generalize hHd:Head Try.link C T2 w₁ ((base 12).at ⟨#[.slice pt n ct,u1,.slice pc ch.length cc,u3,u4,u5,u6,u7,.pointer (some ⟨C.Wg,0,none⟩),.pointer (some ⟨p.bq,0,none⟩),.slice (some ⟨p.bws,0,none⟩) n n,u11,u12,u13,.pointer (some ⟨bo,0,none⟩),u15,u16,u17,u18,u19,u20,u21,u22,u23,u24,u25,u26,u27,u28,u29,u30,u31,u32,u33,u34,u35,u36,u37,u38,u39,u40,u41,u42,u43,.slice (some ⟨p.bws,0,none⟩) n n,.slice pc ch.length cc,.slice sa' S'.length sc',.agg #[.slice sa' S'.length sc',.slice none 0 0,.slice none 0 0],.chan (some C.qc),u49,u50,u51,u52,u53,u54,u55,u56,u57,u58,u59,u60,u61,u62,u63,u64,u65,u66,u67,u68,u69,u70,u71,u72,u73,u74,u75,u76,u77,u78],[]⟩ (.inRegion ops12_16 [0]:: .code t12_17::k)) cs=hd'
  have H3:=gait_n Try.prog true false true (AtKd C hd')
  walk_nrm
  refine H3.regionEnd ?_
  refine H3.seq ?_
  refine H3.region ?_
  simp only[List.size_toArray,List.length_cons,List.length_nil,Nat.reduceAdd,Nat.zero_add,List.range,List.range.loop]
  refine H3.call (f:=31) (fn:=waitFn Try.link) (c:=body_wait Try.link) rfl (by rfl) hk0 rfl Try.wgLib.f_wait (nm_wait Try.link) rfl ?_
  rw[show(waitFn Try.link).ntmps=84 from rfl]
  simp only[Act.eval,List.map_toArray,List.map_cons,List.map_nil,List.size_toArray,List.length_cons,List.length_nil,Nat.reduceAdd,Nat.reduceSub,Array.getD_eq_getD_getElem?,List.getElem?_toArray,List.getElem?_cons_succ,List.getElem?_cons_zero,Option.getD_some]
  rw[←hHd,←hP]
  exact GoesN.le (show 12≤_ by omega) (wait_start (b₀:=base 12) (a₀:=⟨#[.slice pt n ct,u1,.slice pc ch.length cc,u3,u4,u5,u6,u7,.pointer (some ⟨C.Wg,0,none⟩),.pointer (some ⟨p.bq,0,none⟩),.slice (some ⟨p.bws,0,none⟩) n n,u11,u12,u13,.pointer (some ⟨bo,0,none⟩),u15,u16,u17,u18,u19,u20,u21,u22,u23,u24,u25,u26,u27,u28,u29,u30,u31,u32,u33,u34,u35,u36,u37,u38,u39,u40,u41,u42,u43,.slice (some ⟨p.bws,0,none⟩) n n,.slice pc ch.length cc,.slice sa' S'.length sc',.agg #[.slice sa' S'.length sc',.slice none 0 0,.slice none 0 0],.chan (some C.qc),u49,u50,u51,u52,u53,u54,u55,u56,u57,u58,u59,u60,u61,u62,u63,u64,u65,u66,u67,u68,u69,u70,u71,u72,u73,u74,u75,u76,u77,u78],[]⟩) (ops₀:=ops12_16) (i₀:=0) (rest₀:=[]) (k₀:=.code t12_17::k) (by rw[hP];exact Try.wgLib) (R5.gi.kn _) ⟨by rw[show Try.link.tWg=C.ty from hty.symm];exact R5.wg,Rely.refl _ _ _⟩)
end
end Go.Side
