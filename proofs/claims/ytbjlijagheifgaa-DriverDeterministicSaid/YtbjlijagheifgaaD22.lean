/-
  Texts of Ytbjlijagheifgaa, merged.
-/
import Derived.Test.YtbjlijagheifgaaProg
import Derived.Conc.WgLib
import Derived.KernelRfl
import Derived.Test.YtbjlijagheifgaaD21
import Derived.Test.YtbjlijagheifgaaD10
set_option linter.unusedSimpArgs false
set_option linter.unusedVariables false
namespace Go.Proofs
section
abbrev Try.link:Go.Conc.Lib.WgLink:={add:=26,done:=28,wait:=31,relMerge:=40,disable:=41,enable:=42,inBubble:=43,associate:=44,fatal:=45,uOr:=46,uAdd:=47,raceRead:=48,uLoad:=49,uStore:=50,disassociate:=51,semrelease:=52,acquire:=54,isAssociated:=55,uCas:=56,raceWrite:=57,semacquire:=58,orU64:=63,addU64:=64,loadU64:=65,storeU64:=66,casU64:=67,tWgP:=95,tUP:=97,tAssoc:=98,tWg:=72,tAU:=69,tU64:=67,tUint:=102,tU32:=70,tPU32:=103,tPAU:=116,tPU64:=118,tNoCopy:=64,tANoCopy:=65,tAlign64:=66}
theorem Try.wgLib:Go.Conc.Lib.WgLib Try.prog Try.link:=
 ⟨Try.func26,Try.func28,Try.func31,Try.func40,Try.func41,Try.func42,Try.func43,Try.func44,Try.func45,Try.func46,Try.func47,Try.func48,Try.func49,Try.func50,Try.func51,Try.func52,Try.func54,Try.func55,Try.func56,Try.func57,Try.func58,Try.func63,Try.func64,Try.func65,Try.func66,Try.func67,Try.underlying95,Try.runUnderlying95,Try.sizeOf95,Try.isAgg95,Try.zeroValue95,Try.underlying97,Try.runUnderlying97,Try.sizeOf97,Try.isAgg97,Try.zeroValue97,Try.underlying98,Try.runUnderlying98,Try.sizeOf98,Try.isAgg98,Try.zeroValue98,Try.underlying72,Try.runUnderlying72,Try.sizeOf72,Try.isAgg72,Try.zeroValue72,Try.underlying69,Try.runUnderlying69,Try.sizeOf69,Try.isAgg69,Try.zeroValue69,Try.underlying67,Try.runUnderlying67,Try.sizeOf67,Try.isAgg67,Try.zeroValue67,Try.underlying102,Try.runUnderlying102,Try.sizeOf102,Try.isAgg102,Try.zeroValue102,Try.underlying70,Try.runUnderlying70,Try.sizeOf70,Try.isAgg70,Try.zeroValue70,Try.underlying103,Try.runUnderlying103,Try.sizeOf103,Try.isAgg103,Try.zeroValue103,Try.underlying116,Try.runUnderlying116,Try.sizeOf116,Try.isAgg116,Try.zeroValue116,Try.underlying118,Try.runUnderlying118,Try.sizeOf118,Try.isAgg118,Try.zeroValue118,Try.underlying0,Try.runUnderlying0,Try.sizeOf0,Try.isAgg0,Try.zeroValue0,Try.underlying3,Try.runUnderlying3,Try.sizeOf3,Try.isAgg3,Try.zeroValue3,Try.underlying4,Try.runUnderlying4,Try.sizeOf4,Try.isAgg4,Try.zeroValue4,Try.underlying9,Try.runUnderlying9,Try.sizeOf9,Try.isAgg9,Try.zeroValue9,Try.underlying20,Try.runUnderlying20,Try.sizeOf20,Try.isAgg20,Try.zeroValue20,Try.underlying21,Try.runUnderlying21,Try.sizeOf21,Try.isAgg21,Try.zeroValue21,(by kernel_rfl),(by kernel_rfl)⟩
end
end Go.Proofs
namespace Go.Side
section
open Go Go.Conc Go.ConcN Go.Proofs Go.RowKit Go.Conc.Lib Go.ConcR.Gen
open Go.ConcR (WgAt wgBlock Payload)
noncomputable def bot:Frame:={(default:Frame) with fn:=Try.prog.funcs.size,defers:=[],mode:=.panicking [goexitEntry]}
def call27(Wg bw bo bq:Nat):Deferred:={target:=.fn (.func 27) #[.pointer (some ⟨Wg,0,none⟩),.pointer (some ⟨bw,0,none⟩),.pointer (some ⟨bo,0,none⟩),.pointer (some ⟨bq,0,none⟩)],args:= #[]}
theorem born_step{Wg bw bo bq:Nat}(w:World):stepG Try.prog false (born Try.prog (call27 Wg bw bo bq)) w= .go (G ((baseD 27).at ⟨#[.pointer (some ⟨Wg,0,none⟩),.pointer (some ⟨bw,0,none⟩),.pointer (some ⟨bo,0,none⟩),.pointer (some ⟨bq,0,none⟩),undef,undef,undef,undef],[]⟩ [.code (Try.f27.body.getD .skip)]) [bot]) w #[]:=by
 have h1:¬Try.f27.name= "runtime.NumGoroutine" :=by decide
 have h2:Try.f27.body≠none:=by simp[Try.f27]
 have h3:=enter_atD (P:=Try.prog) (f:=27) (fn:=Try.f27) (c:=Try.f27.body.getD .skip) #[.pointer (some ⟨Wg,0,none⟩),.pointer (some ⟨bw,0,none⟩),.pointer (some ⟨bo,0,none⟩),.pointer (some ⟨bq,0,none⟩)] Try.func27 rfl
 simp only[Try.ntmps27,List.size_toArray,List.length_cons,List.length_nil,Nat.reduceAdd,Nat.reduceSub,Array.replicate_succ,Array.replicate_zero,List.push_toArray,List.append_toArray,List.nil_append,List.cons_append] at h3
 rw[←h3]
 simp[born,stepG,unwind,callDeferred,call27,invoke,callFunc,Try.func27,h1,h2,GStep.after,seen_none,G,bot]
theorem quits27(t:Array Value):QuitsD Try.prog 2 0 (G {(baseD 27).at ⟨t,[]⟩ [] with mode:=.returning} [bot]):=by
 refine QuitsD.ctl (g':=G bot []) rfl (fun w=>?_) ?_
 ·simp[G,stepG,unwind,doReturn,results,Frame.at,baseD,bot,Try.func27,Try.f27,seen,GStep.after,goexitEntry]
 refine QuitsD.ctl (g':={G bot [] with status:=.finished}) rfl (fun w=>?_) ⟨rfl,rfl⟩
 simp[G,stepG,unwind,bot,goexitEntry,Frame.catches]
 rfl
instance payI:Payload:=⟨3⟩
set_option maxRecDepth 100000 in
set_option maxHeartbeats 4000000 in
theorem worker_goes{C:Fix Wk}{v:WV}(hP:C.P=Try.prog)(hty:C.ty=72)(hn:C.nxt=Wk.nxt)(ha:C.ans=Wk.ans)(hs:C.sum=Wk.all){l0:List OpV}{p:Option Addr}{cap:Nat}(hg:∀w,C.good w→OpRows w p l0)(hR:∀j x b o,l0[j]?=some x→p=some ⟨b,o,none⟩→∀f,f<4→C.R0 (.cell ⟨b,o+j*4+f,none⟩))(hR2:¬C.R0 (.cell ⟨v.bx,2,none⟩))(hlen:l0.length≤4611686018427387904){N0:Nat}(hR0:∀a:Addr,C.R0 (.cell a)→a.block<N0){bw bo bq:Nat}(hcw:v.ck (.cell ⟨bw,0,none⟩))(hco:v.ck (.cell ⟨bo,0,none⟩))(hcq:v.ck (.cell ⟨bq,0,none⟩)){wr:Loc→Prop}{w:World}(S:WkS v wr)(B:WkB C v 0 false w)(hG:C.good w)(hN0:N0≤w.heap.size)(cw:w.cell? ⟨bw,0,none⟩=some (.pointer (some ⟨v.bx,0,none⟩)))(co:w.cell? ⟨bo,0,none⟩=some (.slice p l0.length cap))(cq:w.cell? ⟨bq,0,none⟩=some (.chan (some C.qc))):
  ∃m,GoesN C.P false false false (AtRun C v l0.length ⟨l0,0,none⟩) m (Tbusy C v wr) (born Try.prog (call27 C.Wg bw bo bq)) w:=by
 rw[hP]
 refine⟨100*l0.length+200,?_⟩
 have H:=gait_n Try.prog false false false (AtRun C v l0.length ⟨l0,0,none⟩)
 have hk0:(baseD 27).kind≠ .early:=by decide
 have hk1:(base 29).kind≠ .early:=by decide
 have cwr:(Tbusy C v wr).rd (.cell ⟨bw,0,none⟩):=.inl (.inl hcw)
 have cor:(Tbusy C v wr).rd (.cell ⟨bo,0,none⟩):=.inl (.inl hco)
 have cqr:(Tbusy C v wr).rd (.cell ⟨bq,0,none⟩):=.inl (.inl hcq)
 have k0:=B.c0
 have k0r:(Tbusy C v wr).rd (.cell ⟨v.bx,0,none⟩):=.inl (.inl S.k0)
 refine H.ctl rfl (fun w₁=>born_step w₁) ?_
 dsimp only[Try.f27,Option.getD]
 refine H.seq ?_
 refine H.region ?_
 simp only[List.size_toArray,List.length_cons,List.length_nil,Nat.reduceAdd,Nat.zero_add,List.range,List.range.loop]
 refine H.ctl rfl (fun w₁=>stepG_defer rfl (by rfl) hk0 rfl) ?_
 walk_nrm
 refine H.regionEnd ?_
 refine H.region ?_
 simp only[List.size_toArray,List.length_cons,List.length_nil,Nat.reduceAdd,Nat.zero_add,List.range,List.range.loop]
 co_applyP Gait.read H _ rfl (by rfl) hk0 (fun w₁ r=>⟨run_eq_of ?run1,?evs1⟩) ?rest1
 case run1=>have k0:=(r.cell _ cwr).trans cw;intro K hK;go_simp;exact hK
 case evs1=>have k0:=(r.cell _ cwr).trans cw;intro e he;simp[go_sem,k0] at he;subst he;exact⟨_,rfl,World.block_lt_of_cell? _ _ k0,cwr⟩
 walk_nrm
 co_applyP Gait.read H _ rfl (by rfl) hk0 (fun w₁ r=>⟨run_eq_of ?run2,?evs2⟩) ?rest2
 case run2=>have k0:=(r.cell _ cor).trans co;intro K hK;go_simp;exact hK
 case evs2=>have k0:=(r.cell _ cor).trans co;intro e he;simp[go_sem,k0] at he;subst he;exact⟨_,rfl,World.block_lt_of_cell? _ _ k0,cor⟩
 walk_nrm
 co_applyP Gait.read H _ rfl (by rfl) hk0 (fun w₁ r=>⟨run_eq_of ?run3,?evs3⟩) ?rest3
 case run3=>have k0:=(r.cell _ cqr).trans cq;intro K hK;go_simp;exact hK
 case evs3=>have k0:=(r.cell _ cqr).trans cq;intro e he;simp[go_sem,k0] at he;subst he;exact⟨_,rfl,World.block_lt_of_cell? _ _ k0,cqr⟩
 walk_nrm
 refine H.call rfl (by rfl) hk0 rfl Try.func29 (by decide) rfl ?_
 simp only[Try.ntmps29]
 walk_nrm
 refine H.seq ?_
 refine H.region ?_
 simp only[List.size_toArray,List.length_cons,List.length_nil,Nat.reduceAdd,Nat.zero_add,List.range,List.range.loop]
 co_applyP Gait.pure H _ rfl (by rfl) hk1 (fun _=>run_eq_of ?run4) (fun _=>?evs4) ?rest4
 case run4=>intro K hK;go_simp;exact hK
 case evs4=>simp[go_sem]
 walk_nrm
 co_applyP Gait.pure H _ rfl (by rfl) hk1 (fun _=>run_eq_of ?run5) (fun _=>?evs5) ?rest5
 case run5=>intro K hK;go_simp;exact hK
 case evs5=>simp[go_sem]
 walk_nrm
 co_applyP Gait.pure H _ rfl (by rfl) hk1 (fun _=>run_eq_of ?run6) (fun _=>?evs6) ?rest6
 case run6=>intro K hK;go_simp;exact hK
 case evs6=>simp[go_sem]
 walk_nrm
 co_applyP Gait.read H _ rfl (by rfl) hk1 (fun w₁ r=>⟨run_eq_of ?run7,?evs7⟩) ?rest7
 case run7=>have k0:=(r.cell _ k0r).trans k0;intro K hK;go_simp;exact hK
 case evs7=>have k0:=(r.cell _ k0r).trans k0;intro e he;simp[go_sem,k0] at he;subst he;exact⟨_,rfl,World.block_lt_of_cell? _ _ k0,k0r⟩
 walk_nrm
 refine H.ctl rfl (fun w₁=>stepG_defer_close rfl (by rfl) hk1 rfl rfl rfl) ?_
 walk_nrm
 refine H.regionEnd ?_
 refine H.seq ?_
 refine H.seq ?_
 refine H.region ?_
 simp only[List.size_toArray,List.length_cons,List.length_nil,Nat.reduceAdd,Nat.zero_add,List.range,List.range.loop]
 co_applyP Gait.pure H _ rfl (by rfl) hk1 (fun _=>run_eq_of ?run8) (fun _=>?evs8) ?rest8
 case run8=>intro K hK;go_simp;exact hK
 case evs8=>simp[go_sem]
 walk_nrm
 co_applyP Gait.pure H _ rfl (by rfl) hk1 (fun _=>run_eq_of ?run9) (fun _=>?evs9) ?rest9
 case run9=>intro K hK;go_simp;exact hK
 case evs9=>simp[go_sem]
 walk_nrm
 co_applyP Gait.pure H _ rfl (by rfl) hk1 (fun _=>run_eq_of ?run10) (fun _=>?evs10) ?rest10
 case run10=>intro K hK;go_simp;exact hK
 case evs10=>simp[go_sem]
 walk_nrm
 refine H.regionEnd ?_
 refine H.block ?_
 refine H.loop ?_
 refine GoesN.le (by omega) (wk_loop hP hn ha hs hg hR hR2 hlen hR0 ?_ l0 0 l0.length rfl (Nat.le_refl _) wr 0 w _ _ _ _ _ _ _ _ _ _ _ _ _ _ _ _ _ _ _ _ _ _ _ _ _ _ _ _ _ _ _ _ _ _ _ _ _ _ _ _ _ _ _ _ _ _ _ _ _ _ _ _ _ _ _ S B hG hN0)
 intro z d wr w tmps todo S B
 refine⟨60,?_⟩
 have H:=gait_n Try.prog false false true (AtR0 C v z d)
 refine H.leave0 rfl rfl Try.func29 rfl ?_
 walk_nrm
 refine H.regionEnd ?_
 refine H.ended ?_
 refine H.ctl rfl (fun w₁=>stepG_unwind_enter rfl Try.func28 (nm_done Try.link) rfl) ?_
 simp only[Try.ntmps28]
 walk_nrm
 have hd:∀tt:Array Value,GoesN Try.prog false false true (AtR0 C v z d) 30 (Tidle C v wr) (G ((baseD 28).at ⟨#[.pointer (some ⟨C.Wg,0,none⟩),undef,undef,undef],[]⟩ [.code (body_done Try.link)]) ({(baseD 27).at ⟨tt,[]⟩ [] with mode:=.returning}::[bot])) w:=fun tt=>by
  have hd:=done_goes (C:=C) (L:=Try.link) (v:=v) (T:=Tidle C v wr) (s:=z) (d:=d) (qt:=2) (by rw[hP];exact Try.wgLib) hty (.inl rfl) (.inr rfl) S.w2 S.w3 (c:={(baseD 27).at ⟨tt,[]⟩ [] with mode:=.returning}) (cs:=[bot]) rfl (by rw[hP];exact quits27 _) (w:=w) ⟨B.c2,B.c3⟩ B.wg
  rw[hP] at hd
  exact hd
 exact GoesN.le (by omega) (hd _)
end
end Go.Side
