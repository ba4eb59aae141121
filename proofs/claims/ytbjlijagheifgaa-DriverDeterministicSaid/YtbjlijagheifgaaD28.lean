/-
  Texts of Ytbjlijagheifgaa, merged.
-/
import Derived.Test.YtbjlijagheifgaaD27
set_option linter.unusedSimpArgs false
set_option linter.unusedVariables false
namespace Go.Side
section
open Go Go.Conc Go.ConcN Go.Proofs Go.RowKit
theorem info91:(Try.prog.info? 91).map (fun i=>(i.zero,i.size,i.bytes))=some (some (.pointer none),1,8):=by kernel_rfl
theorem made_ptr(n:Nat):madeCells (Value.pointer none).cells (n*1)=nxRow n fun _=>none:=by
 apply Array.ext_getElem?
 intro j
 simp only[madeCells,nxRow,Nat.mul_one,List.getElem?_toArray,List.getElem?_map]
 rcases Nat.lt_or_ge j n with h|h
 ·rw[List.getElem?_range h]
  simp[h,nxVal,Value.cells]
  rw[Nat.mod_one];rfl
 ·rw[List.getElem?_eq_none (by simpa using h),Array.getElem?_eq_none (by simpa using h)];rfl
noncomputable def rest30:Code:=(afterIn (Try.f30.body.getD .skip)).getD .skip
set_option maxRecDepth 100000 in
set_option maxHeartbeats 8000000 in
theorem sched_enter{C:Fix Wk}{Anc:Nat→(Nat→WV)→(Nat→WState Wk)→Goroutine→World→Prop}(hP:C.P=Try.prog)(hn:C.nxt=Wk.nxt){w₀:World}(hlow:∀l,C.R0 l→l.low w₀.heap.size){n:Nat}{ws:Nat→WV}{st:Nat→WState Wk}{task:Nat→List OpV}(hE:∀k,k<n→Eiths (task k))(hn8:n≤1000){bws bq:Nat}(hbws:w₀.heap.size≤bws)(hbq:w₀.heap.size≤bq)(hwb:bws≠bq){T:Terr}{w:World}(R:RL C w₀ T w n n ws bws bq)(hq0:n=0→∀l,C.R0 l→T.wr l)(hst:∀k,k<n→st k= .busy ⟨task k,0,none⟩){pc:Option Addr}{nc cc:Nat}{cs:List Frame}(kk:∀(p:Plc) (st:Nat→WState Wk) (nx:Nat→Option (Nat×OpV)) (T:Terr) (w:World) (V7 V19 V20 V21 V22 V23 V24 V25:Value),p.bws=bws→p.bq=bq→p.ex=[]→p.ok w₀.heap.size→SL C w₀ p n ws st nx T w→Half n n task st nx→SW C Anc T 0 0 n ws st (G ((base 30).at ⟨#[.slice (some ⟨bws,0,none⟩) n n,.slice pc nc cc,.pointer (some ⟨p.bW,0,none⟩),undef,.slice none 0 0,.pointer (some ⟨p.bN,0,none⟩),.func (.func 53) #[] #[.pointer (some ⟨p.bN,0,none⟩),.pointer (some ⟨p.bW,0,none⟩)],V7,undef,undef,undef,undef,undef,.slice (some ⟨bws,0,none⟩) n n,.int .i64 n,.slice (some ⟨p.bnx,0,none⟩) n n,.func (.func 53) #[] #[.pointer (some ⟨p.bN,0,none⟩),.pointer (some ⟨p.bW,0,none⟩)],.slice (some ⟨bws,0,none⟩) n n,.int .i64 n,V19,V20,V21,V22,V23,V24,V25,undef,undef,undef,undef,undef,undef,undef,undef,undef,undef,undef,undef,undef,undef,undef,undef,undef,undef,undef,undef,undef,undef,undef,undef,undef,undef,undef,undef,undef,undef,undef,undef,undef,undef,undef,undef,undef,undef,undef,undef,undef,undef,undef,undef,undef,undef,undef,undef,undef,undef,undef,undef,undef,undef,undef,undef,undef,undef,undef],[]⟩ [.code rest30]) cs) w):
  SWn C Anc 0 0 n ws st (300*n+400) T (G ((base 30).at ⟨#[.slice (some ⟨bws,0,none⟩) n n,.slice pc nc cc]++Array.replicate 83 undef,[]⟩ [.code (Try.f30.body.getD .skip)]) cs) w:=by
 have hk0:(base 30).kind≠ .early:=by decide
 obtain⟨i0,hi,hz0,hz1,hz2⟩:=info_parts info91
 have hmk:∀w:World,(Instr.makeSlice 90 (.int .i64 n) (.int .i64 n)).run Try.prog w= .ok (.slice (some ⟨w.heap.size,0,none⟩) n n) (w.alloc (.cells (nxRow n fun _=>none) 91 (0,0))):=fun w=>by
  have h:=run_make (P:=Try.prog) (w:=w) 90 91 i0 (.pointer none) Try.underlying90 hi hz0 .i64 .i64 n n (by omega) (by omega) (by rw[hz2];omega) (by omega)
  rw[hz1,Int.toNat_natCast,made_ptr] at h
  exact h
 have hme:∀w:World,(Instr.makeSlice 90 (.int .i64 n) (.int .i64 n)).events Try.prog w #[]= #[]:=fun w=>events_make (P:=Try.prog) w 90 91 i0 (.pointer none) Try.underlying90 hi hz0 .i64 .i64 n n (by omega) (by omega) (by rw[hz2];omega) (by omega) (by rw[hz2];simp;omega) #[]
 have H:=gait_w C Anc 0 0 n ws st
 rw[hP] at H
 simp only[Array.replicate_succ,Array.replicate_zero,List.push_toArray,List.append_toArray,List.cons_append,List.nil_append]
 conv in Option.getD _ _=>{dsimp only[Try.f30,Option.getD]}
 refine H.seq ?_
 refine H.region ?_
 simp only[List.size_toArray,List.length_cons,List.length_nil,Nat.reduceAdd,Nat.zero_add,List.range,List.range.loop]
 refine H.allot (fun s=>.pointer (some ⟨s,0,none⟩)) (.cells #[.slice (some ⟨bws,0,none⟩) n n] 74 (0,0)) rfl (by rfl) hk0 (fun w₁=>by simp[go_sem]) (fun w₁=>by simp[go_sem]) fun w₁ r=>?_
 have R1:=(R.rely r).fr (S:=fun _=>False) hlow (Fr.alloc _ _ _ (.cells #[.slice (some ⟨bws,0,none⟩) n n] 74 (0,0))) ((R.rely r).gi.alloc _) (fun b hb=>hb.elim)
 have OW:=OwnR.new T w₁ #[.slice (some ⟨bws,0,none⟩) n n] 74
 have l0:w₀.heap.size≤w₁.heap.size:=(R.rely r).kp.size
 have l1:=(R.rely r).row.lt
 have l2:bq<w₁.heap.size:=World.block_lt_of_cell? _ _ (R.rely r).q
 have l3:∀k,k<n→(ws k).bx<w₁.heap.size:=fun k hk=>((R.rely r).bx k hk).1.lt
 have hq1:n=0→∀l,C.R0 l→(T.grow w₁.heap.size (w₁.heap.size+1)).wr l:=fun e l hl=>.inl (hq0 e l hl)
 have hsz:=World.size_alloc w₁ (.cells #[.slice (some ⟨bws,0,none⟩) n n] 74 (0,0))
 generalize w₁.alloc (.cells #[.slice (some ⟨bws,0,none⟩) n n] 74 (0,0))=w2 at R1 OW hsz⊢
 clear R r hq0
 generalize w₁.heap.size=bW at R1 OW hsz l0 l1 l2 l3 hq1⊢
 generalize T.grow bW (bW+1)=T2 at R1 OW hq1⊢
 clear w₁ w T
 walk_nrm
 co_applyP Gait.pure H _ rfl (by rfl) hk0 (fun _=>run_eq_of ?run1) (fun _=>?evs1) ?rest1
 case run1=>intro K hK;go_simp;exact hK
 case evs1=>simp[go_sem]
 walk_nrm
 refine H.regionEnd ?_
 refine H.seq ?_
 refine H.region ?_
 simp only[List.size_toArray,List.length_cons,List.length_nil,Nat.reduceAdd,Nat.zero_add,List.range,List.range.loop]
 have c0:=OW.cell (i:=0) rfl
 have c0r:=OW.rd 0
 co_applyP Gait.read H _ rfl (by rfl) hk0 (fun w₁ r=>⟨run_eq_of ?run2,?evs2⟩) ?rest2
 case run2=>have k0:=(r.cell _ c0r).trans c0;intro K hK;go_simp;exact hK
 case evs2=>have k0:=(r.cell _ c0r).trans c0;intro e he;simp[go_sem,k0] at he;subst he;exact⟨_,rfl,World.block_lt_of_cell? _ _ k0,c0r⟩
 walk_nrm
 co_applyP Gait.pure H _ rfl (by rfl) hk0 (fun _=>run_eq_of ?run3) (fun _=>?evs3) ?rest3
 case run3=>intro K hK;go_simp;exact hK
 case evs3=>simp[go_sem]
 walk_nrm
 refine H.allot (fun s=>.slice (some ⟨s,0,none⟩) n n) (.cells (nxRow n fun _=>none) 91 (0,0)) rfl (by rfl) hk0 (fun w₁=>by simp[go_sem,hmk]) (fun w₁=>by simp[go_sem,hme]) fun w₁ r=>?_
 have R2:=(R1.rely r).fr (S:=fun _=>False) hlow (Fr.alloc _ _ _ (.cells (nxRow n fun _=>none) 91 (0,0))) ((R1.rely r).gi.alloc _) (fun b hb=>hb.elim)
 have OW2:=(OW.rely r).fr (Fr.alloc (fun _=>False) _ _ (.cells (nxRow n fun _=>none) 91 (0,0))) (R1.gi.kn _) id
 have ON:=OwnR.new T2 w₁ (nxRow n fun _=>none) 91
 have l4:bW+1≤w₁.heap.size:=by rw[←hsz];exact r.size
 have hq2:n=0→∀l,C.R0 l→(T2.grow w₁.heap.size (w₁.heap.size+1)).wr l:=fun e l hl=>.inl (hq1 e l hl)
 have hsz2:=World.size_alloc w₁ (.cells (nxRow n fun _=>none) 91 (0,0))
 generalize w₁.alloc (.cells (nxRow n fun _=>none) 91 (0,0))=w3 at R2 OW2 ON hsz2⊢
 clear R1 OW r hq1 c0 c0r hsz
 generalize w₁.heap.size=bnx at R2 OW2 ON hsz2 l4 hq2⊢
 generalize T2.grow bnx (bnx+1)=T3 at R2 OW2 ON hq2⊢
 clear w₁ w2 T2
 walk_nrm
 refine H.allot (fun s=>.pointer (some ⟨s,0,none⟩)) (.cells #[.slice none 0 0] 90 (0,0)) rfl (by rfl) hk0 (fun w₁=>by simp[go_sem]) (fun w₁=>by simp[go_sem]) fun w₁ r=>?_
 have R3:=(R2.rely r).fr (S:=fun _=>False) hlow (Fr.alloc _ _ _ (.cells #[.slice none 0 0] 90 (0,0))) ((R2.rely r).gi.alloc _) (fun b hb=>hb.elim)
 have OW3:=(OW2.rely r).fr (Fr.alloc (fun _=>False) _ _ (.cells #[.slice none 0 0] 90 (0,0))) (R2.gi.kn _) id
 have ON3:=(ON.rely r).fr (Fr.alloc (fun _=>False) _ _ (.cells #[.slice none 0 0] 90 (0,0))) (R2.gi.kn _) id
 have OV:=OwnR.new T3 w₁ #[.slice none 0 0] 90
 have l5:bnx+1≤w₁.heap.size:=by rw[←hsz2];exact r.size
 have hq3:n=0→∀l,C.R0 l→(T3.grow w₁.heap.size (w₁.heap.size+1)).wr l:=fun e l hl=>.inl (hq2 e l hl)
 generalize w₁.alloc (.cells #[.slice none 0 0] 90 (0,0))=w4 at R3 OW3 ON3 OV⊢
 clear R2 OW2 ON r hq2 hsz2
 generalize w₁.heap.size=bN at R3 OW3 ON3 OV l5 hq3⊢
 generalize T3.grow bN (bN+1)=T4 at R3 OW3 ON3 OV hq3⊢
 clear w₁ w3 T3
 walk_nrm
 refine H.store1 OV 0 (.slice (some ⟨bnx,0,none⟩) n n) rfl (by rfl) hk0 (fun w₁ O1=>?_) fun w₁ r O1=>?_
 ·have k0:=O1.cell (i:=0) rfl;have z0:=O1.free 0
  refine⟨by go_simp,fun e he=>?_⟩
  simp[go_sem,k0,z0] at he
  exact he
 have E:=(OV.rely r).frSet 0 (.slice (some ⟨bnx,0,none⟩) n n) not_wg1
 have R4:=(R3.rely r).fr hlow E ((OV.rely r).giSet (R3.rely r).gi 0 _ not_wg1) (fun b hb=>by subst hb;exact⟨by omega,by omega,by omega,fun k hk=>by have:=l3 k hk;omega⟩)
 have OW4:=(OW3.rely r).fr E (R3.gi.kn _) (by omega)
 have ON4:=(ON3.rely r).fr E (R3.gi.kn _) (by omega)
 simp only[List.setIfInBounds_toArray,List.set_cons_zero] at O1
 generalize w₁.setCell ⟨bN,0,none⟩ (.slice (some ⟨bnx,0,none⟩) n n)=w5 at R4 OW4 ON4 O1 E⊢
 clear E R3 OW3 ON3 OV r w₁ w4
 have hp:(⟨bws,bnx,bN,bW,bq,[]⟩:Plc).ok w₀.heap.size:=⟨hbws,by simp;omega,by simp;omega,by simp;omega,hbq,by simp;omega,by simp;omega,by simp;omega⟩
 have hS:SL C w₀ ⟨bws,bnx,bN,bW,bq,[]⟩ n ws st (fun _=>none) T4 w5:=
  ⟨R4.gi,R4.kp,R4.row,ON4,O1,OW4,R4.q,R4.qr,R4.qrow,R4.wg,fun k hk=>⟨(R4.bx k hk).1,(R4.bx k hk).2.1,(R4.bx k hk).2.2,by have:=l3 k hk;simp;omega,by have:=l3 k hk;simp;omega,by have:=l3 k hk;simp;omega⟩,(fun k hk b x e=>by cases e),fun hq=>hq3 (by
   rcases Nat.eq_zero_or_pos n with h|h
   ·exact h
   ·exact absurd (by rw[hst 0 h];trivial) (hq 0 h)),fun y hy=>(by cases hy),R4.qo,R4.wgn⟩
 clear R4 ON4 OW4 O1
 have hH:Half n 0 task st (fun _=>none):=fun k hk=>⟨fun h=>by omega,fun _=>hst k hk⟩
 walk_nrm
 refine H.regionEnd ?_
 refine H.seq ?_
 refine H.region ?_
 simp only[List.size_toArray,List.length_cons,List.length_nil,Nat.reduceAdd,Nat.zero_add,List.range,List.range.loop]
 co_applyP Gait.pure H _ rfl (by rfl) hk0 (fun _=>run_eq_of ?run4) (fun _=>?evs4) ?rest4
 case run4=>intro K hK;go_simp;exact hK
 case evs4=>simp[go_sem]
 walk_nrm
 co_applyP Gait.pure H _ rfl (by rfl) hk0 (fun _=>run_eq_of ?run5) (fun _=>?evs5) ?rest5
 case run5=>intro K hK;go_simp;exact hK
 case evs5=>simp[go_sem]
 walk_nrm
 refine H.regionEnd ?_
 refine H.seq ?_
 refine H.seq ?_
 refine H.region ?_
 simp only[List.size_toArray,List.length_cons,List.length_nil,Nat.reduceAdd,Nat.zero_add,List.range,List.range.loop]
 have c0:=hS.wvar.cell (i:=0) rfl
 have c0r:=hS.wvar.rd 0
 co_applyP Gait.read H _ rfl (by rfl) hk0 (fun w₁ r=>⟨run_eq_of ?run6,?evs6⟩) ?rest6
 case run6=>have k0:=(r.cell _ c0r).trans c0;intro K hK;go_simp;exact hK
 case evs6=>have k0:=(r.cell _ c0r).trans c0;intro e he;simp[go_sem,k0] at he;subst he;exact⟨_,rfl,World.block_lt_of_cell? _ _ k0,c0r⟩
 walk_nrm
 co_applyP Gait.pure H _ rfl (by rfl) hk0 (fun _=>run_eq_of ?run7) (fun _=>?evs7) ?rest7
 case run7=>intro K hK;go_simp;exact hK
 case evs7=>simp[go_sem]
 walk_nrm
 co_applyP Gait.pure H _ rfl (by rfl) hk0 (fun _=>run_eq_of ?run8) (fun _=>?evs8) ?rest8
 case run8=>intro K hK;go_simp;exact hK
 case evs8=>simp[go_sem]
 walk_nrm
 refine H.regionEnd ?_
 refine H.block ?_
 refine H.loop ?_
 refine H.le (by omega) (sched_loop hP hn hlow hp hE hn8 n 0 (by omega) st (fun _=>none) T4 w5 _ _ _ _ _ _ _ _ _ _ _ _ _ _ _ _ _ _ _ _ _ _ _ _ _ _ _ _ _ _ _ _ _ _ _ _ _ _ _ _ _ _ _ _ _ _ _ _ _ _ _ _ _ _ _ _ _ _ _ _ _ _ _ _ _ _ _ _ _ _ _ _ _ _ _ _ _ _ _ hS hH ?_)
 intro st nx T w V7 V19 V20 V21 V22 V23 V24 V25 hS hH
 exact kk _ st nx T w V7 V19 V20 V21 V22 V23 V24 V25 rfl rfl rfl hp hS hH
end
section
open Go Go.Conc Go.ConcN Go.Proofs Go.Proofs.Ytbjlijagheifgaa
def EithR(R0:Loc→Prop)(w₀:World)(E:OpV→List Int)(x:OpV):Prop:=
 ∃a c,x.eith= .slice a (E x).length c∧Sl (Value.int .i64) w₀ a (E x)∧(E x).length≤1000000∧∀j,j<(E x).length→R0 (.cell (adr a j))
def Whole(R0:Loc→Prop):Prop:=∀a a':Addr,R0 (.cell a)→a'.block=a.block→R0 (.cell a')
def entL(n:Nat)(nx:Nat→Option (Nat×OpV)):List Ent:=(List.range n).map fun k=>(nx k).map fun y=>(y.1,0,y.2)
theorem entL_len(n:Nat)(nx:Nat→Option (Nat×OpV)):(entL n nx).length=n:=by simp[entL]
theorem entL_get{n k:Nat}{nx:Nat→Option (Nat×OpV)}{e:Ent}(h:(entL n nx)[k]?=some e):k<n∧e=(nx k).map fun y=>(y.1,0,y.2):=by
 simp only[entL,List.getElem?_map] at h
 rcases Nat.lt_or_ge k n with hk|hk
 ·rw[List.getElem?_range hk] at h
  exact⟨hk,by simpa using h.symm⟩
 ·rw[List.getElem?_eq_none (by simpa using hk)] at h;cases h
theorem offE_ent{n k:Nat}{nx:Nat→Option (Nat×OpV)}(hk:k<n):offE (entL n nx) k=(nx k).map (·.2):=by
 have:(entL n nx)[k]?=some ((nx k).map fun y=>(y.1,0,y.2)):=by simp[entL,hk]
 rw[offE,this]
 cases nx k<;>rfl
theorem possP_congr{E:OpV→List Int}{n:Nat}{f g:Nat→Option OpV}(h:∀k,k<n→f k=g k):possP E n f=possP E n g:=by
 unfold possP
 have hr:∀a b,rowP E n f a b=rowP E n g a b:=fun a b=>by
  unfold rowP
  congr 1
  apply List.filter_congr
  intro t ht
  rw[h t (List.mem_range.1 ht)]
 rw[List.flatMap_def,List.flatMap_def]
 congr 1
 apply List.map_congr_left
 intro k hk
 rw[h k (List.mem_range.1 hk)]
 simp only[hr]
def LsAt(T:Terr)(w:World)(la:Option Addr)(l:List StepP):Prop:=l=[]∨∃g cur,la=some ⟨g,0,none⟩∧OwnR T w g cur 50∧cur.toList.take (l.length*4)=flC stC l
def StR(ex:List (Nat×Array Value×TypeId))(sa:Option Addr)(sc:Nat)(S:List StepP):Prop:=
 (sa=none∧sc=0∧S=[]∧ex=[])∨∃g cur,sa=some ⟨g,0,none⟩∧ex=[(g,cur,50)]∧S.length≤sc∧sc≤maxLen∧cur.size=sc*4∧cur.toList.take (S.length*4)=flC stC S
theorem take_get{cur:Array Value}{l:List StepP}(h:cur.toList.take (l.length*4)=flC stC l){i:Nat}{s:StepP}(hi:l[i]?=some s){j:Nat}(hj:j<4):cur[i*4+j]?=(stC s)[j]?:=by
 have hl:i<l.length:=by
  rcases Nat.lt_or_ge i l.length with h|h
  ·exact h
  ·rw[List.getElem?_eq_none h] at hi;cases hi
 rw[←flC_get (f:=stC) (s:=4) stC_len hi j hj,←h,List.getElem?_take,if_pos (by omega),Array.getElem?_toList]
section
variable {C:Fix Wk} {Anc:Nat→(Nat→WV)→(Nat→WState Wk)→Goroutine→World→Prop} {w₀ w w₁ w':World} {p:Plc} {n:Nat} {ws:Nat→WV} {st st':Nat→WState Wk} {nx:Nat→Option (Nat×OpV)} {T T':Terr} {E:OpV→List Int}
theorem LsAt.rely{la:Option Addr}{l:List StepP}{q:Bool}(h:LsAt T w la l)(r:Rely q T w w₁):LsAt T w₁ la l:=h.imp id fun⟨g,cur,h1,h2,h3⟩=>⟨g,cur,h1,h2.rely r,h3⟩
theorem SL.nxl(h:SL C w₀ p n ws st nx T w)(hR:∀l,C.R0 l→T.wr l)(hW:Whole C.R0)(hx:∀k,k<n→∀b x,nx k=some (b,x)→EithR C.R0 w₀ E x){u:World}(L:Like (HidB T w) w u):NxL u E (some ⟨p.bnx,0,none⟩) (entL n nx):=by
 refine⟨fun j e he=>?_,fun k b o x he=>?_⟩
 ·obtain⟨hj,rfl⟩:=entL_get he
  refine⟨rfl,?_⟩
  rw[adr_mk,Nat.zero_add,cell_of_row u p.bnx j _ 91 (0,0) (h.nrow.seen L),nxRow_get hj]
  cases nx j<;>rfl
 ·obtain⟨hk,e⟩:=entL_get he
  cases hy:nx k with
  |none=>rw[hy] at e;cases e
  |some y=>
   obtain⟨b',x'⟩:=y
   rw[hy] at e
   simp only[Option.map_some,Option.some.injEq,Prod.mk.injEq] at e
   obtain⟨rfl,rfl,rfl⟩:=e
   have hs:=(h.op k hk b x hy).1.seen L
   have hc:∀(j:Nat) (v:Value),(opCells x)[j]?=some v→u.cell? ⟨b,j,none⟩=some v:=fun j v hv=>by rw[cell_of_row u b j _ 29 (0,0) hs,hv]
   obtain⟨a,c,e1,e2,e3,e4⟩:=hx k hk b x hy
   refine⟨⟨hc 0 _ rfl,hc 1 _ rfl,hc 2 _ rfl,hc 3 _ rfl⟩,a,c,e1,fun j v hj=>?_,e3⟩
   obtain⟨k1,k2⟩:=e2 j v hj
   have hjl:j<(E x).length:=by
    rcases Nat.lt_or_ge j (E x).length with h|h
    ·exact h
    ·rw[List.getElem?_eq_none h] at hj;cases hj
   have r0:=e4 j hjl
   refine⟨k1,?_⟩
   have nh:¬HidB T w (adr a j).block:=not_hid fun a' ha=>hR _ (hW _ a' r0 ha)
   rw[World.cell?_of_block (L.same _ nh),h.kp.cell _ r0]
   exact k2
theorem fresh_own{u:World}{g:Nat}{cur:Array Value}(L:Like (HidB T w) w' u)(hwr:∀l,T'.wr l↔T.wr l∨Fresh w.heap.size w'.heap.size l)(hg:w.heap.size≤g)(h:u.heap[g]?=some (.cells cur 50 (0,0))):OwnR T' w' g cur 50:=by
 have h':w'.heap[g]?=some (.cells cur 50 (0,0)):=(L.same g fun⟨hl,_⟩=>by omega).symm.trans h
 have hlt:=(Array.getElem?_eq_some_iff.1 h').1
 exact⟨fun a ha=>(hwr _).2 (.inr ⟨by omega,by omega⟩),(hwr _).2 (.inr ⟨hg,hlt⟩),h'⟩
theorem plain30_9:codePlain false none Try.prog ⟨[36,61,68],[],[]⟩ (rg30 9)=true:=by kernel_rfl
theorem plain30_17:codePlain false none Try.prog ⟨[36,61,68],[],[]⟩ (rg30 17)=true:=by kernel_rfl
theorem piece_poss(hP:C.P=Try.prog)(hW:Whole C.R0)(hlow:∀l,C.R0 l→l.low w₀.heap.size)(R:SL C w₀ p n ws st nx T w)(hq:QuietS n st)(hn8:n≤8)(hx:∀k,k<n→∀b x,nx k=some (b,x)→EithR C.R0 w₀ E x){k:List Item}{cs:List Frame}(u0 u1 u2 u3 u4 u6 u7 u8 u9 u10 u11 u12 u13 u14 u15 u16 u17 u18 u19 u20 u21 u22 u23 u24 u25 u26 u27 u28 u29 u30 u31 u32 u33 u34 u35 u36 u37 u38 u39 u40 u41 u42 u43 u44 u45 u46 u47 u48 u49 u50 u51 u52 u53 u54 u55 u56 u57 u58 u59 u60 u61 u62 u63 u64 u65 u66 u67 u68 u69 u70 u71 u72 u73 u74 u75 u76 u77 u78 u79 u80 u81 u82 u83 u84:Value)(kk:∀la lc T' w',LsAt T' w' la (possP E n fun k=>(nx k).map (·.2))→SL C w₀ p n ws st nx T' w'→SW C Anc T' 0 0 n ws st (G ((base 30).at ⟨#[u0,u1,u2,u3,u4,.pointer (some ⟨p.bN,0,none⟩),u6,u7,u8,.slice la (possP E n fun k=>(nx k).map (·.2)).length lc,u10,u11,u12,u13,u14,u15,u16,u17,u18,u19,u20,u21,u22,u23,u24,u25,.slice (some ⟨p.bnx,0,none⟩) n n,.slice la (possP E n fun k=>(nx k).map (·.2)).length lc,u28,u29,u30,u31,u32,u33,u34,u35,u36,u37,u38,u39,u40,u41,u42,u43,u44,u45,u46,u47,u48,u49,u50,u51,u52,u53,u54,u55,u56,u57,u58,u59,u60,u61,u62,u63,u64,u65,u66,u67,u68,u69,u70,u71,u72,u73,u74,u75,u76,u77,u78,u79,u80,u81,u82,u83,u84],[]⟩ k) cs) w'):
  SW C Anc T 0 0 n ws st (G ((base 30).at ⟨#[u0,u1,u2,u3,u4,.pointer (some ⟨p.bN,0,none⟩),u6,u7,u8,u9,u10,u11,u12,u13,u14,u15,u16,u17,u18,u19,u20,u21,u22,u23,u24,u25,u26,u27,u28,u29,u30,u31,u32,u33,u34,u35,u36,u37,u38,u39,u40,u41,u42,u43,u44,u45,u46,u47,u48,u49,u50,u51,u52,u53,u54,u55,u56,u57,u58,u59,u60,u61,u62,u63,u64,u65,u66,u67,u68,u69,u70,u71,u72,u73,u74,u75,u76,u77,u78,u79,u80,u81,u82,u83,u84],[]⟩ (.code (rg30 9)::k)) cs) w:=by
 have hR:=R.rq hq
 have he:possP E n (offE (entL n nx))=possP E n fun k=>(nx k).map (·.2):=possP_congr fun k hk=>offE_ent hk
 refine SW.loneF (L:=⟨[36,61,68],[],[]⟩) (Q:=fun a' u'=>∃v,a'=⟨#[u0,u1,u2,u3,u4,.pointer (some ⟨p.bN,0,none⟩),u6,u7,u8,v,u10,u11,u12,u13,u14,u15,u16,u17,u18,u19,u20,u21,u22,u23,u24,u25,.slice (some ⟨p.bnx,0,none⟩) n n,v,u28,u29,u30,u31,u32,u33,u34,u35,u36,u37,u38,u39,u40,u41,u42,u43,u44,u45,u46,u47,u48,u49,u50,u51,u52,u53,u54,u55,u56,u57,u58,u59,u60,u61,u62,u63,u64,u65,u66,u67,u68,u69,u70,u71,u72,u73,u74,u75,u76,u77,u78,u79,u80,u81,u82,u83,u84],[]⟩∧u'.ownsRow w.heap.size 50 4 v (possP E n fun k=>(nx k).map (·.2)).length (flC stC (possP E n fun k=>(nx k).map (·.2)))∧Chg (fun _=>False) T w u')
  (by rw[hP];exact possOK) ⟨_,by rw[hP];exact Try.func30⟩ rfl (by rw[hP];exact plain30_9) rfl hq R.gi hR (fun u L=>?_) ?_
 ·rw[hP]
  have N:=R.nxl hR hW hx L
  have hc:u.cell? ⟨p.bN,0,none⟩=some (.slice (some ⟨p.bnx,0,none⟩) (entL n nx).length (entL n nx).length):=by rw[entL_len,cell_of_row u p.bN 0 _ 90 (0,0) (R.nvar.seen L)];rfl
  refine Code.wp_mono (fun e a' u' h=>h) (wp_r9 hc N (by rw[entL_len];exact hn8) _ _ _ _ _ _ _ _ _ _ _ _ _ _ _ _ _ _ _ _ _ _ _ _ _ _ _ _ _ _ _ _ _ _ _ _ _ _ _ _ _ _ _ _ _ _ _ _ _ _ _ _ _ _ _ _ _ _ _ _ _ _ _ _ _ _ _ _ _ _ _ _ _ _ _ _ _ _ _ _ _ _ _ _ fun v u' h1 h2=>?_)
  rw[entL_len] at h1⊢
  rw[he,L.size] at h1
  exact⟨v,rfl,h1,Chg.same L fun b hb=>h2.block b hb⟩
 ·rintro a' u w' T' ⟨v,rfl,h1,h2⟩ _ L I hro hkn hwr hF
  have F:=hF _ h2
  have R':=R.fr hlow F I (fun b hb=>hb.elim) (fun b hb=>hb.elim)
  rcases h1.2 with⟨rfl,h3⟩|⟨g,cap,cur,rfl,h3,h4,h5,h6,h7,h8⟩
  ·have h9:possP E n (fun k=>(nx k).map (·.2))=[]:=List.eq_nil_of_length_eq_zero h3
   have:=kk none 0 T' w' (.inl h9) R'
   rw[h3] at this
   exact this
  ·exact kk _ cap T' w' (.inr ⟨g,cur,rfl,fresh_own L hwr h3 h4,h8⟩) R'
theorem piece_app(hP:C.P=Try.prog)(hp:p.ok w₀.heap.size)(hlow:∀l,C.R0 l→l.low w₀.heap.size){ex:List (Nat×Array Value×TypeId)}{bs:Nat}{s:StepP}(R:SL C w₀ {p with ex:=(bs,(stC s).toArray,50)::ex} n ws st nx T w)(hne:∀y,y∈ex→y.1≠bs)(hq:QuietS n st){sa:Option Addr}{sc:Nat}{S:List StepP}(hS:StR ex sa sc S)(hl:S.length≤100000){k:List Item}{cs:List Frame}(u0 u1 u2 u3 u4 u5 u6 u7 u9 u10 u11 u13 u14 u15 u16 u17 u18 u19 u20 u21 u22 u23 u24 u25 u26 u27 u28 u29 u30 u31 u32 u33 u34 u35 u36 u37 u38 u39 u40 u41 u42 u43 u44 u45 u46 u47 u48 u49 u50 u51 u52 u53 u54 u55 u56 u57 u58 u59 u60 u61 u62 u63 u64 u65 u66 u67 u68 u69 u70 u71 u72 u73 u74 u75 u76 u77 u78 u79 u80 u81 u82 u83 u84:Value)(kk:∀ex' sa' sc' V55 T' w',StR ex' sa' sc' (S++[s])→(∀y,y∈ex'→y.1≠bs)→SL C w₀ {p with ex:=(bs,(stC s).toArray,50)::ex'} n ws st nx T' w'→SW C Anc T' 0 0 n ws st (G ((base 30).at ⟨#[u0,u1,u2,u3,u4,u5,u6,u7,.slice sa' (S++[s]).length sc',u9,u10,u11,.pointer (some ⟨bs,0,none⟩),u13,u14,u15,u16,u17,u18,u19,u20,u21,u22,u23,u24,u25,u26,u27,u28,u29,u30,u31,u32,u33,u34,u35,u36,u37,u38,u39,u40,u41,u42,u43,u44,u45,u46,u47,u48,u49,u50,u51,u52,.slice sa S.length sc,.agg #[.int .i64 s.fr,.int .i64 s.tg,.int .i64 s.ch,.int .i64 s.vl],V55,.slice sa' (S++[s]).length sc',u57,u58,u59,u60,u61,u62,u63,u64,u65,u66,u67,u68,u69,u70,u71,u72,u73,u74,u75,u76,u77,u78,u79,u80,u81,u82,u83,u84],[]⟩ k) cs) w'):
  SW C Anc T 0 0 n ws st (G ((base 30).at ⟨#[u0,u1,u2,u3,u4,u5,u6,u7,.slice sa S.length sc,u9,u10,u11,.pointer (some ⟨bs,0,none⟩),u13,u14,u15,u16,u17,u18,u19,u20,u21,u22,u23,u24,u25,u26,u27,u28,u29,u30,u31,u32,u33,u34,u35,u36,u37,u38,u39,u40,u41,u42,u43,u44,u45,u46,u47,u48,u49,u50,u51,u52,u53,u54,u55,u56,u57,u58,u59,u60,u61,u62,u63,u64,u65,u66,u67,u68,u69,u70,u71,u72,u73,u74,u75,u76,u77,u78,u79,u80,u81,u82,u83,u84],[]⟩ (.code (rg30 17)::k)) cs) w:=by
 have hR:=R.rq hq
 have hB:=R.ex _ (List.mem_cons_self ..)
 have hown:∀u,Like (HidB T w) w u→u.ownsRow w₀.heap.size 50 4 (.slice sa S.length sc) S.length (flC stC S):=fun u L=>by
  refine⟨flC_len stC_len S,?_⟩
  rcases hS with⟨rfl,rfl,rfl,rfl⟩|⟨g,cur,rfl,rfl,h1,h2,h3,h4⟩
  ·exact .inl ⟨rfl,rfl⟩
  ·have h5:=R.ex (g,cur,50) (List.mem_cons_of_mem _ (List.mem_cons_self ..))
   exact .inr ⟨g,sc,cur,rfl,h5.2.1,h5.1.seen L,h1,h2,h3,h4⟩
 have hsee:∀g,(Value.slice sa S.length sc).ownBlock=some g→∃cur,ex=[(g,cur,50)]:=fun g hg=>by
  rcases hS with⟨rfl,rfl,rfl,rfl⟩|⟨g',cur,rfl,rfl,h1,h2,h3,h4⟩
  ·cases hg
  ·obtain rfl:g'=g:=by simpa[Value.ownBlock] using hg
   exact⟨cur,rfl⟩
 refine SW.loneF (L:=⟨[36,61,68],[],[]⟩) (Q:=fun a' u'=>∃v V55,a'=⟨#[u0,u1,u2,u3,u4,u5,u6,u7,v,u9,u10,u11,.pointer (some ⟨bs,0,none⟩),u13,u14,u15,u16,u17,u18,u19,u20,u21,u22,u23,u24,u25,u26,u27,u28,u29,u30,u31,u32,u33,u34,u35,u36,u37,u38,u39,u40,u41,u42,u43,u44,u45,u46,u47,u48,u49,u50,u51,u52,.slice sa S.length sc,.agg #[.int .i64 s.fr,.int .i64 s.tg,.int .i64 s.ch,.int .i64 s.vl],V55,v,u57,u58,u59,u60,u61,u62,u63,u64,u65,u66,u67,u68,u69,u70,u71,u72,u73,u74,u75,u76,u77,u78,u79,u80,u81,u82,u83,u84],[]⟩∧u'.ownsRow w₀.heap.size 50 4 v (S.length+1) (flC stC (S++[s]))∧Chg (fun b=>(Value.slice sa S.length sc).ownBlock=some b) T w u'∧(v.ownBlock=(Value.slice sa S.length sc).ownBlock∨v.ownBlock=some (w.heap.size+1)))
  (by rw[hP];exact possOK) ⟨_,by rw[hP];exact Try.func30⟩ rfl (by rw[hP];exact plain30_17) rfl hq R.gi hR (fun u L=>?_) ?_
 ·rw[hP]
  refine Code.wp_mono (fun e a' u' h=>h) (wp_r17 (s:=s) (hB.1.seen L) (hown u L) (by rw[L.size];exact R.kp.size) hl _ _ _ _ _ _ _ _ _ _ _ _ _ _ _ _ _ _ _ _ _ _ _ _ _ _ _ _ _ _ _ _ _ _ _ _ _ _ _ _ _ _ _ _ _ _ _ _ _ _ _ _ _ _ _ _ _ _ _ _ _ _ _ _ _ _ _ _ _ _ _ _ _ _ _ _ _ _ _ _ _ _ _ fun v u' h1 h2 h3 h4=>?_)
  rw[L.size] at h4
  refine⟨v,_,rfl,h1,fun b hb nh=>⟨fun hS=>?_,fun o ho=>?_⟩,h4⟩
  ·exact(h2.block b (by rw[L.size];exact hb) hS).trans (L.same b nh)
  ·have ho':u.heap[b]?=some o:=(L.same b nh).trans ho
   by_cases hbs:(Value.slice sa S.length sc).ownBlock=some b
   ·exact h3 b hbs o ho'
   ·exact⟨o,(h2.block b (by rw[L.size];exact hb) hbs).trans ho',.refl o⟩
 ·rintro a' u w' T' ⟨v,V55,rfl,h1,h2,h3⟩ _ L I hro hkn hwr hF
  have F:=hF _ h2
  have R0:SL C w₀ {p with ex:=[(bs,(stC s).toArray,50)]} n ws st nx T w:=R.withEx (fun y hy=>R.ex y (by rcases List.mem_singleton.1 hy with rfl;exact List.mem_cons_self ..))
  have hp0:({p with ex:=[(bs,(stC s).toArray,50)]}:Plc).ok w₀.heap.size:=⟨hp.l1,hp.l2,hp.l3,hp.l4,hp.l5,hp.d1,hp.d2,hp.d3⟩
  have R1:SL C w₀ {p with ex:=[(bs,(stC s).toArray,50)]} n ws st nx T' w':=by
   cases hg:(Value.slice sa S.length sc).ownBlock with
   |none=>
    rw[hg] at F
    exact R0.fr hlow F I (fun b hb=>by cases hb) (fun b hb=>by cases hb)
   |some g=>
    obtain⟨cur,rfl⟩:=hsee g hg
    have hg':=R.ex (g,cur,50) (List.mem_cons_of_mem _ (List.mem_cons_self ..))
    have hne':=hne _ (List.mem_cons_self ..)
    have ty:∀{b:Nat} {c:Array Value} {e:TypeId} {f:Nat×Nat},w.heap[b]?=some (.cells c e f)→e≠50→b≠g:=fun h1 h2=>Ne.symm (R.exne (List.mem_cons_of_mem _ (List.mem_cons_self ..)) h1 h2)
    have F':Fr (· =g) T T' w w':=by
     have:(fun b=>(Value.slice sa S.length sc).ownBlock=some b)=fun b=>b=g:=by
      funext b
      rw[hg]
      exact propext ⟨fun h=>(Option.some.inj h).symm,fun h=>by rw[h]⟩
     rw[this] at F
     exact F
    exact R0.frB hp0 hlow F' I hg'.2.1 (ty R.row.heap (by decide)) (ty R.nrow.heap (by decide)) (ty R.nvar.heap (by decide)) (ty R.wvar.heap (by decide)) hg'.2.2.2.1 hg'.2.2.2.2 (fun k hk b x e=>ty (R.op k hk b x e).1.heap (by decide)) (fun y hy=>by rcases List.mem_singleton.1 hy with rfl;exact Ne.symm hne')
  have hb1:=R1.ex _ (List.mem_cons_self ..)
  rcases h1.2 with⟨rfl,h4⟩|⟨g,cap,cur,rfl,h4,h5,h6,h7,h8,h9⟩
  ·omega
  ·have hO:OwnR T' w' g cur 50∧p.bq≠g∧(∀k,k<n→(ws k).bx≠g)∧g≠bs:=by
    rcases h3 with h3|h3
    ·obtain⟨cur0,rfl⟩:=hsee g (by rw[←h3];rfl)
     have hg':=R.ex (g,cur0,50) (List.mem_cons_of_mem _ (List.mem_cons_self ..))
     have hne':=hne _ (List.mem_cons_self ..)
     exact⟨⟨fun a ha=>F.wr _ (hg'.1.cells a ha),F.wr _ hg'.1.obj,(L.same g (not_hid hg'.1.cells)).symm.trans h5⟩,hg'.2.2.2.1,hg'.2.2.2.2,hne'⟩
    ·obtain rfl:g=w.heap.size+1:=by simpa[Value.ownBlock] using h3
     exact⟨fresh_own L hwr (by omega) h5,fun e=>by have:=World.block_lt_of_cell? _ _ R.q;simp only at this;omega,fun k hk e=>by have:=(R.bx k hk).1.lt;omega,fun e=>by have:=hB.1.lt;simp only at this;omega⟩
   have R2:=R1.withEx (l:=[(bs,(stC s).toArray,50),(g,cur,50)]) fun y hy=>by
    simp only[List.mem_cons,List.not_mem_nil,or_false] at hy
    rcases hy with rfl|rfl
    ·exact hb1
    ·exact⟨hO.1,h4,rfl,hO.2.1,hO.2.2.1⟩
   have:=kk [(g,cur,50)] (some ⟨g,0,none⟩) cap V55 T' w' (.inr ⟨g,cur,rfl,rfl,by simpa using h6,h7,h8,by simpa using h9⟩) (fun y hy=>by rcases List.mem_singleton.1 hy with rfl;exact hO.2.2.2) R2
   rw[show(S++[s]).length=S.length+1 by simp] at this
   exact this
end
end
section
open Go Go.Conc Go.ConcN Go.Proofs Go.Proofs.Ytbjlijagheifgaa
def seqAt(i:Nat):Code→Option Code
 | .seq (.region j ops d) b=>bif Nat.beq j i then some (.seq (.region j ops d) b) else seqAt i b
 | .seq a b=>match seqAt i a with
  |some c=>some c
  |none=>seqAt i b
 | .block _ c=>seqAt i c
 | .loop c=>seqAt i c
 |_=>none
noncomputable def tl30:Code:=(seqAt 16 rest30).getD .skip
theorem nxo_mem{s s':Wk}{x:OpV}(h:s.nxo=some (x,s')):x∈s.rest∧∀y,y∈s'.rest→y∈s.rest:=by
 unfold Wk.nxo at h
 have hm:∀o,o∈(adds s.rest s.sum).1→o∈s.rest:=fun o=>adds_mem
 rcases hx:adds s.rest s.sum with⟨_|⟨o,l⟩,z⟩
 ·rw[hx] at h;cases h
 ·rw[hx] at h hm
  simp only[Option.some.injEq,Prod.mk.injEq] at h
  obtain⟨rfl,rfl⟩:=h
  exact⟨hm _ (List.mem_cons_self ..),fun y hy=>hm _ (List.mem_cons_of_mem _ hy)⟩
theorem fet_mem(s:Wk):(∀x,(fet s).1=some x→x∈s.rest)∧∀y,y∈(fet s).2.rest→y∈s.rest:=by
 unfold fet
 cases h:s.nxo with
 |none=>exact⟨fun x e=>(by cases e),fun y hy=>hy⟩
 |some z=>
  obtain⟨x,s'⟩:=z
  obtain⟨h1,h2⟩:=nxo_mem h
  exact⟨fun y e=>by obtain rfl:=Option.some.inj e;exact h1,h2⟩
structure Inv(task:Nat→List OpV)(n:Nat)(c:Cf)(st:Nat→WState Wk)(nx:Nat→Option (Nat×OpV)):Prop where
 st:∀k,k<n→st k=stOf (c k)
 nx:∀k,k<n→(nx k).map (·.2)=(c k).1
 op:∀k,k<n→∀x,(c k).1=some x→x∈task k
 rest:∀k,k<n→∀x,x∈(c k).2.rest→x∈task k
theorem Inv.quiet{task:Nat→List OpV}{n:Nat}{c:Cf}{st:Nat→WState Wk}{nx:Nat→Option (Nat×OpV)}(I:Inv task n c st nx):QuietS n st:=fun k hk hb=>by
 rw[I.st k hk,stOf] at hb
 split at hb<;>exact hb
theorem Inv.start{task:Nat→List OpV}{n:Nat}{st:Nat→WState Wk}{nx:Nat→Option (Nat×OpV)}(h:Half n n task st nx):Inv task n (fun k=>fet ⟨task k,0,none⟩) st nx:=
 ⟨fun k hk=>((h k hk).1 hk).1,fun k hk=>((h k hk).1 hk).2,fun k hk x e=>(fet_mem _).1 x e,fun k hk x e=>(fet_mem _).2 x e⟩
theorem Inv.offd{task:Nat→List OpV}{n:Nat}{c:Cf}{st:Nat→WState Wk}{nx:Nat→Option (Nat×OpV)}(I:Inv task n c st nx){k:Nat}(hk:k<n){a:OpV}(h:(c k).1=some a):st k= .offd (c k).2:=by rw[I.st k hk,stOf,h]
theorem Inv.step{task:Nat→List OpV}{n:Nat}{c:Cf}{st:Nat→WState Wk}{nx:Nat→Option (Nat×OpV)}(I:Inv task n c st nx){s:StepP}(h1:s.fr<n)(h2:s.tg<n)(hne:s.fr≠s.tg){x y:WState Wk}{a b:Option (Nat×OpV)}(ha:a.map (·.2)=(fet ((c s.fr).2.ans s.vl)).1)(hb:b.map (·.2)=(fet ((c s.tg).2.ans s.vl)).1):
  Inv task n (stepC c s) (upd (upd (upd (upd st s.fr x) s.tg y) s.fr (stOf (fet ((c s.fr).2.ans s.vl)))) s.tg (stOf (fet ((c s.tg).2.ans s.vl)))) (upd (upd nx s.fr a) s.tg b):=by
 have key:∀k,k<n→(∀x,(fet ((c k).2.ans s.vl)).1=some x→x∈task k)∧∀y,y∈(fet ((c k).2.ans s.vl)).2.rest→y∈task k:=fun k hk=>
  ⟨fun x e=>I.rest k hk x ((fet_mem ((c k).2.ans s.vl)).1 x e),fun y e=>I.rest k hk y ((fet_mem ((c k).2.ans s.vl)).2 y e)⟩
 have cs:∀k,(k=s.tg∧stepC c s k=fet ((c s.tg).2.ans s.vl))∨(k≠s.tg∧k=s.fr∧stepC c s k=fet ((c s.fr).2.ans s.vl))∨(k≠s.tg∧k≠s.fr∧stepC c s k=c k):=fun k=>by
  unfold stepC
  by_cases e1:k=s.tg
  ·subst e1;exact .inl ⟨rfl,upd_eq _ _ _⟩
  ·rw[upd_other _ _ e1]
   by_cases e2:k=s.fr
   ·subst e2;exact .inr (.inl ⟨e1,rfl,upd_eq _ _ _⟩)
   ·rw[upd_other _ _ e2];exact .inr (.inr ⟨e1,e2,rfl⟩)
 refine⟨fun k hk=>?_,fun k hk=>?_,fun k hk=>?_,fun k hk=>?_⟩<;>rcases cs k with⟨e,h⟩|⟨e1,e,h⟩|⟨e1,e2,h⟩<;>rw[h]
 ·subst e;rw[upd_eq]
 ·subst e;rw[upd_other _ _ e1,upd_eq]
 ·rw[upd_other _ _ e1,upd_other _ _ e2,upd_other _ _ e1,upd_other _ _ e2,I.st k hk]
 ·subst e;rw[upd_eq];exact hb
 ·subst e;rw[upd_other _ _ e1,upd_eq];exact ha
 ·rw[upd_other _ _ e1,upd_other _ _ e2,I.nx k hk]
 ·subst e;exact(key _ hk).1
 ·subst e;exact(key _ hk).1
 ·exact I.op k hk
 ·subst e;exact(key _ hk).2
 ·subst e;exact(key _ hk).2
 ·exact I.rest k hk
theorem EithR.eiths{R0:Loc→Prop}{w₀:World}{E:OpV→List Int}{l:List OpV}(h:∀x,x∈l→EithR R0 w₀ E x):Eiths l:=fun x hx=>by
 obtain⟨a,c,e,_⟩:=h x hx
 exact⟨a,_,c,e⟩
section
variable {C:Fix Wk} {Anc:Nat→(Nat→WV)→(Nat→WState Wk)→Goroutine→World→Prop} {w₀:World} {p:Plc} {n:Nat} {ws:Nat→WV} {E:OpV→List Int} {task:Nat→List OpV}
theorem fetch2(hP:C.P=Try.prog)(hn:C.nxt=Wk.nxt)(hlow:∀l,C.R0 l→l.low w₀.heap.size)(hp:p.ok w₀.heap.size){st:Nat→WState Wk}{nx:Nat→Option (Nat×OpV)}{T:Terr}{w:World}(R:SL C w₀ p n ws st nx T w){i:Nat}(hi:i<n){s:Wk}(hst:st i= .busy s)(hE:Eiths s.rest){b₀:Frame}{a₀:Act}{ops:Array Oper}{j:Nat}{rest:List Nat}{k:List Item}{cs:List Frame}{u3 u4 u5 u6 u7 u8 u9 u10 u11 u12 u13 u14 u15 u16 u17 u18 u19 u20 u21 u22 u23:Value}(kk:∀(y:Option (Nat×OpV)) (T':Terr) (w':World),y.map (·.2)=(fet s).1→SL C w₀ p n ws (upd st i (stOf (fet s))) (upd nx i y) T' w'→SW C Anc T' 0 0 n ws (upd st i (stOf (fet s))) (G (b₀.at (a₀.put ((ops[j]?).bind (·.dst)) (.tuple #[])) (.inRegion ops rest::k)) cs) w'):
  SWn C Anc 0 0 n ws st 200 T (G ((base 53).at ⟨#[.int .i64 i,.pointer (some ⟨p.bN,0,none⟩),.pointer (some ⟨p.bW,0,none⟩),u3,u4,u5,u6,u7,u8,u9,u10,u11,u12,u13,u14,u15,u16,u17,u18,u19,u20,u21,u22,u23],[]⟩ [.code (Try.f53.body.getD .skip)]) (b₀.at a₀ (.inRegion ops (j::rest)::k)::cs)) w:=by
 refine fetch hP hn hlow hp R hi hst (fun v s' e=>(nxt_eith hE e).1) ?_ ?_
 ·intro x s' b T' w' e R'
  have hf:=fet_some e
  have:=kk (some (b,x)) T' w' (by rw[hf];rfl)
  rw[hf] at this
  exact this R'
 ·intro T' w' e R'
  have hf:=fet_none e
  have:=kk none T' w' (by rw[hf];rfl)
  rw[hf] at this
  exact this R'
end
end
end Go.Side
