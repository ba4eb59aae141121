/-
  Texts of Ytbjlijagheifgaa, merged.
-/
import Derived.Test.YtbjlijagheifgaaD32
import Derived.Test.YtbjlijagheifgaaD31
import Derived.Test.YtbjlijagheifgaaD26
set_option linter.unusedSimpArgs false
set_option linter.unusedVariables false
namespace Go.Side
section
open Go Go.Conc Go.ConcN Go.Proofs Go.RowKit Go.Conc.Lib Go.ConcR.Gen Go.ConcN.Gen Go.Proofs.Ytbjlijagheifgaa
open Go.ConcR (WgAt wgBlock)
def TS(Shun:Loc→Prop)(N:Nat):Terr:=⟨fun _=>False,fun l=>l.low N∧¬Shun l,fun _=>True⟩
theorem TS_own{Shun:Loc→Prop}{N b:Nat}{w:World}{c:Array Value}{e:TypeId}(hb:b<N)(hS:∀l,Shun l→l.low b)(h:w.heap[b]?=some (.cells c e (0,0))):OwnR (TS Shun N) w b c e:=
 ⟨fun a ha=>⟨show a.block<N by omega,fun hs=>by have:a.block<b:=hS _ hs;omega⟩,⟨hb,fun hs=>by have:b<b:=hS _ hs;omega⟩,h⟩
noncomputable def t12_3:Code:=(seqAt 3 (Try.f12.body.getD .skip)).getD .skip
noncomputable def t12_5:Code:=(behindR 4 (Try.f12.body.getD .skip)).getD .skip
noncomputable def ops12_4:Array Oper:=match regOf 4 (Try.f12.body.getD .skip) with
 |some (.region _ ops _)=>ops
 |_=> #[]
structure Begun(Shun:Loc→Prop)(w w':World):Prop where
 size:w'.heap.size=w.heap.size+2
 wg:WgAt 72 w.heap.size w' 0 0
 qc:w'.heap[w.heap.size+1]?=some (.chan 0 #[] false 0 0 false)
 cell:∀a:Addr,a.block<w.heap.size→¬Shun (.cell a)→w'.cell? a=w.cell? a
 kin:∀(b:Nat) (o:Obj),w.heap[b]?=some o→∃o',w'.heap[b]?=some o'∧Kin o o'
 row:∀b,Row w b→Row w' b
 obj:∀(b:Nat) (o:Obj),w.heap[b]?=some o→(∀c e f,o≠Obj.cells c e f)→w'.heap[b]?=some o
 os:w'.os=w.os
 out:w'.output=w.output
set_option maxRecDepth 100000 in
set_option maxHeartbeats 4000000 in
theorem run_begin{P:Program}(hP:P=Try.prog){Shun:Loc→Prop}{B:Nat}{Q:Machine→Trace→Prop}{w:World}(hlow:∀l,Shun l→l.low w.heap.size){k:List Item}{cs:List Frame}(u0 u1 u2 u3 u4 u5 u6 u7 u8 u9 u10 u11 u12 u13 u14 u15 u16 u17 u18 u19 u20 u21 u22 u23 u24 u25 u26 u27 u28 u29 u30 u31 u32 u33 u34 u35 u36 u37 u38 u39 u40 u41 u42 u43 u44 u45 u46 u47 u48 u49 u50 u51 u52 u53 u54 u55 u56 u57 u58 u59 u60 u61 u62 u63 u64 u65 u66 u67 u68 u69 u70 u71 u72 u73 u74 u75 u76 u77 u78:Value)(kk:∀w',Begun Shun w w'→SilB P Shun B Q (G ((base 12).at ⟨#[u0,u1,u2,u3,u4,u5,u6,u7,.pointer (some ⟨w.heap.size,0,none⟩),u9,u10,u11,u12,u13,u14,u15,u16,u17,u18,u19,u20,u21,.chan (some (w.heap.size+1)),u23,u24,u25,u26,u27,u28,u29,u30,u31,u32,u33,u34,u35,u36,u37,u38,u39,u40,u41,u42,u43,u44,u45,u46,u47,u48,u49,u50,u51,u52,u53,u54,u55,u56,u57,u58,u59,u60,u61,u62,u63,u64,u65,u66,u67,u68,u69,u70,u71,u72,u73,u74,u75,u76,u77,u78],[]⟩ (.inRegion ops12_4 [1,2]:: .code t12_5::k)) cs) w'):
  SilB P Shun B Q (G ((base 12).at ⟨#[u0,u1,u2,u3,u4,u5,u6,u7,u8,u9,u10,u11,u12,u13,u14,u15,u16,u17,u18,u19,u20,u21,u22,u23,u24,u25,u26,u27,u28,u29,u30,u31,u32,u33,u34,u35,u36,u37,u38,u39,u40,u41,u42,u43,u44,u45,u46,u47,u48,u49,u50,u51,u52,u53,u54,u55,u56,u57,u58,u59,u60,u61,u62,u63,u64,u65,u66,u67,u68,u69,u70,u71,u72,u73,u74,u75,u76,u77,u78],[]⟩ (.code t12_3::k)) cs) w:=by
 subst hP
 have hk0:(base 12).kind≠ .early:=by decide
 obtain⟨i73,h73⟩:=Option.isSome_iff_exists.1 (show(Try.prog.info? 63).isSome=true by kernel_rfl)
 have hmk:∀w:World,(Instr.makeChan 73 (.int .i64 0)).run Try.prog w= .ok (.chan (some w.heap.size)) (w.alloc (.chan 0 #[] false 0 0 false)):=fun w=>run_makeChan (P:=Try.prog) (w:=w) Try.underlying73 h73 .i64 0 (by omega) (by simp)
 have hme:∀w:World,(Instr.makeChan 73 (.int .i64 0)).events Try.prog w #[]= #[]:=fun w=>events_makeChan (P:=Try.prog) (w:=w) Try.underlying73 h73 .i64 0 (by omega) (by simp) #[]
 conv in Item.code t12_3=>{arg 1;whnf}
 refine SilB.step (TS Shun w.heap.size) id rfl (fun _ _=>stepG_seq) fun w1 r1=>?_
 refine SilB.step (TS Shun w.heap.size) id rfl (fun _ _=>stepG_region) fun w2 r2=>?_
 simp only[List.size_toArray,List.length_cons,List.length_nil,Nat.reduceAdd,Nat.zero_add,List.range,List.range.loop,id_eq] at r2⊢
 have r12:=r1.trans r2
 refine SilB.made (TS Shun w.heap.size) (fun w₁=>.pointer (some ⟨w₁.heap.size,0,none⟩)) (wgBlock 72 0 0) rfl (by rfl) hk0 (.pointer (some ⟨w.heap.size,0,none⟩)) (fun w₁ r=>by rw[((r12.trans r).quiet rfl).1]) (fun w₁=>by simp[go_sem,wgBlock]) (fun w₁=>by simp[go_sem]) fun w3 r3=>?_
 have r13:=r12.trans r3
 have e3:w3.heap.size=w.heap.size:=(r13.quiet rfl).1
 have hu:(w3.alloc (wgBlock 72 0 0)).heap.size=w.heap.size+1:=by rw[World.size_alloc,e3]
 have hun:(w3.alloc (wgBlock 72 0 0)).heap[w.heap.size]?=some (wgBlock 72 0 0):=by rw[←e3];exact heap_new1 w3 _
 have huo:∀b,b<w.heap.size→(w3.alloc (wgBlock 72 0 0)).heap[b]?=w3.heap[b]?:=fun b hb=>Below.heap_alloc w3 _ _ (by rw[e3];exact hb)
 have huos:(w3.alloc (wgBlock 72 0 0)).os=w3.os:=rfl
 have huou:(w3.alloc (wgBlock 72 0 0)).output=w3.output:=rfl
 generalize w3.alloc (wgBlock 72 0 0)=u at hu hun huo huos huou⊢
 simp only[Act.put,List.setIfInBounds_toArray,List.set_cons_succ,List.set_cons_zero]
 refine SilB.step (TS Shun (w.heap.size+1)) id rfl (fun _ _=>stepG_region_end) fun w4 r4=>?_
 refine SilB.step (TS Shun (w.heap.size+1)) id rfl (fun _ _=>stepG_seq) fun w5 r5=>?_
 refine SilB.step (TS Shun (w.heap.size+1)) id rfl (fun _ _=>stepG_region) fun w6 r6=>?_
 simp only[List.size_toArray,List.length_cons,List.length_nil,Nat.reduceAdd,Nat.zero_add,List.range,List.range.loop,id_eq] at r4 r5 r6⊢
 have r46:=(r4.trans r5).trans r6
 refine SilB.made (TS Shun (w.heap.size+1)) (fun w₁=>.chan (some w₁.heap.size)) (.chan 0 #[] false 0 0 false) rfl (by rfl) hk0 (.chan (some (w.heap.size+1))) (fun w₁ r=>by rw[((r46.trans r).quiet rfl).1,hu])
  (fun w₁=>by simp[go_sem,hmk]) (fun w₁=>by simp[go_sem,hme]) fun w7 r7=>?_
 have r47:=r46.trans r7
 have e7:w7.heap.size=w.heap.size+1:=(r47.quiet rfl).1.trans hu
 have rows:∀b,Row w b→Row (w7.alloc (.chan 0 #[] false 0 0 false)) b:=fun b h=>by
  have h1:=row_kin h fun o ho=>r13.kin b o (.inl trivial) ho
  have hb:b<w.heap.size:=by obtain⟨c,e,h⟩:=h;exact(Array.getElem?_eq_some_iff.1 h).1
  have h2:Row u b:=by obtain⟨c,e,h⟩:=h1;exact⟨c,e,(huo b hb).trans h⟩
  obtain⟨c,e,h3⟩:=row_kin h2 fun o ho=>r47.kin b o (.inl trivial) ho
  exact⟨c,e,(Below.heap_alloc w7 _ _ (by omega)).trans h3⟩
 have hO:=(TS_own (N:=w.heap.size+1) (by omega) hlow hun).rely r47
 have hBg:Begun Shun w (w7.alloc (.chan 0 #[] false 0 0 false)):=by
  refine⟨by rw[World.size_alloc,e7],(Below.heap_alloc w7 _ _ (by omega)).trans hO.heap,by rw[←e7];exact heap_new1 w7 _,fun a ha hS=>?_,fun b o ho=>?_,rows,fun b o ho hn=>?_,?_,?_⟩
  ·have c1:=r13.cell a (.inr ⟨ha,hS⟩)
   have c2:=r47.cell a (.inr ⟨show a.block<w.heap.size+1 by omega,hS⟩)
   rw[World.cell?_of_block (Below.heap_alloc w7 _ _ (by omega)),c2,World.cell?_of_block (huo _ ha),c1]
  ·have hb:=(Array.getElem?_eq_some_iff.1 ho).1
   obtain⟨o1,h1,k1⟩:=r13.kin b o (.inl trivial) ho
   obtain⟨o2,h2,k2⟩:=r47.kin b o1 (.inl trivial) ((huo b hb).trans h1)
   exact⟨o2,(Below.heap_alloc w7 _ _ (by omega)).trans h2,k1.trans k2⟩
  ·have hb:=(Array.getElem?_eq_some_iff.1 ho).1
   have h1:=(r13.quiet rfl).2 b o ho hn
   have h2:=(r47.quiet rfl).2 b o ((huo b hb).trans h1) hn
   exact(Below.heap_alloc w7 _ _ (by omega)).trans h2
  ·show w7.os=w.os
   rw[r47.os,huos,r13.os]
  ·show w7.output=w.output
   rw[r47.out,huou,r13.out]
 have:=kk _ hBg
 simp only[Act.put,List.setIfInBounds_toArray,List.set_cons_succ,List.set_cons_zero]
 exact this
end
section
open Go Go.Conc Go.ConcN Go.Proofs Go.RowKit Go.Conc.Lib Go.ConcR.Gen Go.ConcN.Gen Go.Proofs.Ytbjlijagheifgaa
open Go.ConcR (WgAt wgBlock)
structure FixAt(C:Fix Wk)(Shun:Loc→Prop)(w:World):Prop where
 Wg:C.Wg=w.heap.size
 qc:C.qc=w.heap.size+1
 Sh:C.Sh=fun l=>Shun l∨∃a,l= .cell a∧a.block=C.Wg
 R0:∀l,C.R0 l↔(∃a,l= .cell a)∧l.low w.heap.size∧¬Shun l
structure ShunAt(Shun:Loc→Prop)(w:World):Prop where
 cell:∀l,Shun l→∃a,l= .cell a
 whole:∀a a':Addr,Shun (.cell a)→a'.block=a.block→Shun (.cell a')
 row:∀a:Addr,Shun (.cell a)→Row w a.block
theorem FixAt.whole{C:Fix Wk}{Shun:Loc→Prop}{w:World}(F:FixAt C Shun w)(S:ShunAt Shun w):Whole C.R0:=fun a a' h e=>by
 obtain⟨_,h1,h2⟩:=(F.R0 _).1 h
 refine(F.R0 _).2 ⟨⟨a',rfl⟩,?_,fun hs=>h2 (S.whole a' a hs e.symm)⟩
 show a'.block<_
 rw[e];exact h1
theorem FixAt.gi{C:Fix Wk}{Shun:Loc→Prop}{w w':World}(F:FixAt C Shun w)(S:ShunAt Shun w)(B:Begun Shun w w'):GI C.R0 (T0 C w'.heap.size) w':=by
 have hsz:=B.size
 have hSh:∀l,C.Sh l↔Shun l∨∃a,l= .cell a∧a.block=C.Wg:=fun l=>by rw[F.Sh]
 refine⟨fun _=>trivial,fun l hl=>?_,fun l hl=>(T0_rd.1 hl).1,fun b hb=>?_,fun b hb=>?_,fun b hb=>?_⟩
 rotate_right 2
 ·obtain⟨_,h1,h2⟩:=(F.R0 _).1 hb
  have h3:b<w.heap.size:=h1
  refine⟨show b<_ by omega,fun hs=>?_,fun e=>?_,fun e=>?_⟩
  ·rcases(hSh _).1 hs with hs|⟨a',ea,_⟩
   ·obtain⟨a,e⟩:=S.cell _ hs;cases e
   ·cases ea
  ·have:=Loc.obj.inj e;rw[F.Wg] at this;omega
  ·have:=Loc.obj.inj e;rw[F.qc] at this;omega
 ·obtain⟨⟨a,e⟩,_⟩:=(F.R0 _).1 hb
  cases e
 ·obtain⟨_,h1,h2⟩:=(F.R0 l).1 hl
  refine T0_rd.2 ⟨Loc.low_mono (by omega) h1,fun hs=>?_⟩
  rcases(hSh l).1 hs with hs|⟨a,rfl,ha⟩
  ·exact h2 hs
  ·have:a.block<w.heap.size:=h1
   rw[ha,F.Wg] at this;omega
 ·by_cases e1:b=C.Wg
  ·subst e1
   refine .inr ⟨⟨_,_,by rw[F.Wg];exact B.wg⟩,⟨C.Wg,0,none⟩,rfl,fun h=>h.2.1 ((hSh _).2 (.inr ⟨_,rfl,rfl⟩)),fun h=>?_⟩
   have:C.Wg<w.heap.size:=((F.R0 _).1 h).2.1
   rw[F.Wg] at this;omega
  by_cases e2:Shun (.cell ⟨b,0,none⟩)
  ·exact .inr ⟨B.row b (S.row _ e2),⟨b,0,none⟩,rfl,fun h=>h.2.1 ((hSh _).2 (.inl e2)),fun h=>((F.R0 _).1 h).2.2 e2⟩
  have no:∀a:Addr,a.block=b→¬C.Sh (.cell a):=fun a ha hs=>by
   rcases(hSh _).1 hs with hs|⟨a',ea,h⟩
   ·exact e2 (S.whole a ⟨b,0,none⟩ hs ha.symm)
   ·obtain rfl:=Loc.cell.inj ea
    exact e1 (ha.symm.trans h)
  have no2:¬C.Sh (.obj b):=fun hs=>by
   rcases(hSh _).1 hs with hs|⟨a',ea,h⟩
   ·obtain⟨a,e⟩:=S.cell _ hs;cases e
   ·cases ea
  refine .inl ⟨fun a ha=>.inl ⟨show a.block<_ by rw[ha];exact hb,no a ha,(fun e=>by cases e),(fun e=>by cases e)⟩,fun⟨c,e,f,hc⟩=>.inl ⟨hb,no2,fun e=>e1 (Loc.obj.inj e),fun e=>?_⟩,T0_rd.2 ⟨hb,no2⟩⟩
  obtain rfl:=Loc.obj.inj e
  rw[F.qc,B.qc] at hc
  cases Option.some.inj hc
theorem Begun.kp{C:Fix Wk}{Shun:Loc→Prop}{w w':World}(F:FixAt C Shun w)(B:Begun Shun w w'):Kp C.R0 w w':=
 ⟨by have:=B.size;omega,fun a h=>B.cell a ((F.R0 _).1 h).2.1 ((F.R0 _).1 h).2.2,fun b o _ h=>B.kin b o h,B.os,B.out,fun b o _ h hn=>B.obj b o h hn⟩
theorem FixAt.wgn{C:Fix Wk}{Shun:Loc→Prop}{w:World}(F:FixAt C Shun w)(N:Nat):∀a:Addr,a.block=C.Wg→¬(T0 C N).rd (.cell a):=fun a ha h=>(T0_rd.1 h).2 (by rw[F.Sh];exact .inr ⟨a,rfl,ha⟩)
theorem FixAt.qo{C:Fix Wk}{Shun:Loc→Prop}{w w':World}(F:FixAt C Shun w)(S:ShunAt Shun w)(B:Begun Shun w w'):(T0 C w'.heap.size).rd (.obj C.qc):=T0_rd.2 ⟨show C.qc<_ by rw[F.qc,B.size];omega,fun h=>by
 rw[F.Sh] at h
 rcases h with h|⟨a,e,_⟩
 ·obtain⟨a,e⟩:=S.cell _ h;cases e
 ·cases e⟩
theorem FixAt.low{C:Fix Wk}{Shun:Loc→Prop}{w:World}(F:FixAt C Shun w):∀l,C.R0 l→l.low w.heap.size:=fun l h=>((F.R0 l).1 h).2.1
theorem FixAt.own0{C:Fix Wk}{Shun:Loc→Prop}{w w':World}(F:FixAt C Shun w)(S:ShunAt Shun w)(B:Begun Shun w w'):∀l,C.R0 l→(T0 C w'.heap.size).wr l:=fun l h=>by
 have I:=F.gi S B
 obtain⟨_,h1,h2⟩:=(F.R0 l).1 h
 have h3:=T0_rd.1 (I.r0 l h)
 refine⟨h3.1,h3.2,?_,?_⟩
 ·rintro rfl
  have:C.Wg<w.heap.size:=h1
  rw[F.Wg] at this;omega
 ·rintro rfl
  have:C.qc<w.heap.size:=h1
  rw[F.qc] at this;omega
end
section
open Go Go.Conc Go.ConcN
structure SB(P:Program)(Shun:Loc→Prop)(Q:Machine→Trace→Prop)(g:Goroutine)(w:World):Prop where
 run:∀{gs:Array Goroutine} {sl:Option (Nat×Nat)} {t:Trace},Rest P Shun gs w t→gs[0]?=some g→Comes P Q (crowd gs w sl) t
theorem TS_rd{Shun:Loc→Prop}{N:Nat}{l:Loc}:(TS Shun N).rd l↔l.low N∧¬Shun l:=⟨fun h=>h.elim False.elim id,.inr⟩
theorem ShunAt.gi{Shun:Loc→Prop}{w:World}(S:ShunAt Shun w):GI (fun _=>False) (TS Shun w.heap.size) w:=by
 refine⟨fun _=>trivial,fun l h=>h.elim,fun l h=>(TS_rd.1 h).1,fun b hb=>?_,fun b h=>h.elim,fun b h=>h⟩
 by_cases e2:Shun (.cell ⟨b,0,none⟩)
 ·exact .inr ⟨S.row _ e2,⟨b,0,none⟩,rfl,fun h=>h.2 e2,id⟩
 ·have no:∀a:Addr,a.block=b→¬Shun (.cell a):=fun a ha hs=>e2 (S.whole a ⟨b,0,none⟩ hs ha.symm)
  have no2:¬Shun (.obj b):=fun hs=>by obtain⟨a,e⟩:=S.cell _ hs;cases e
  exact .inl ⟨fun a ha=>.inl ⟨show a.block<_ by rw[ha];exact hb,no a ha⟩,fun _=>.inl ⟨hb,no2⟩,TS_rd.2 ⟨hb,no2⟩⟩
section
variable {P:Program} {Shun:Loc→Prop} {Qm:Machine→Trace→Prop} {b:Frame} {a:Act} {k:List Item} {cs:List Frame} {w:World} {L:Fns} {c:Code} {Q:Exit→Act→World→Prop}
end
end
section
open Go Go.Conc Go.ConcN
theorem SB.walk{P:Program}{Shun:Loc→Prop}{Qm:Machine→Trace→Prop}{T:Terr}{g:Goroutine}{w:World}(h:GoesV P true true (fun T g w=>(∀l,T.rd l→¬Shun l)→SB P Shun Qm g w) T g w)(hT:∀l,T.rd l→¬Shun l):SB P Shun Qm g w:=
 ⟨fun R h0=>GoesV.beside h (fun T' g' w' hs hT' {_ _ _} R' h0'=>(hs hT').run R' h0') hT R h0⟩
theorem SB.here{P:Program}{Shun:Loc→Prop}{Qm:Machine→Trace→Prop}{T:Terr}{g:Goroutine}{w:World}(h:∀w₁,Rely true T w w₁→SB P Shun Qm g w₁)(hT:∀l,T.rd l→¬Shun l):SB P Shun Qm g w:=
 SB.walk (T:=T) (.stop fun w₁ r _=>h w₁ r) hT
end
section
open Go Go.Conc Go.ConcN Go.RowKit Go.Proofs.Ytbjlijagheifgaa
abbrev View(Shun:Loc→Prop)(w u:World):Prop:=Like (HidB (TS Shun w.heap.size) w) w u
structure Ext(u u':World):Prop where
 size:u.heap.size≤u'.heap.size
 all:∀(b:Nat) (o:Obj),u.heap[b]?=some o→u'.heap[b]?=some o
 os:u'.os=u.os
 out:u'.output=u.output
theorem Ext.blk{u u':World}(h:Ext u u')(b:Nat)(c:Array Value)(e:TypeId)(f:Nat×Nat)(hb:u.heap[b]?=some (Obj.cells c e f)):u'.heap[b]?=some (Obj.cells c e f):=h.all b _ hb
theorem cell_cells{u:World}{a:Addr}{x:Value}(h:u.cell? a=some x):∃c e f,u.heap[a.block]?=some (.cells c e f):=by
 simp only[World.cell?] at h
 split at h
 ·exact⟨_,_,_,by assumption⟩
 ·cases h
theorem Ext.cell{u u':World}(h:Ext u u'){a:Addr}{x:Value}(e:u.cell? a=some x):u'.cell? a=some x:=by
 obtain⟨c,t,f,hb⟩:=cell_cells e
 exact(World.cell?_of_block (w:=u) ((h.blk _ _ _ _ hb).trans hb.symm)).trans e
theorem Ext.refl(u:World):Ext u u:=⟨Nat.le_refl _,fun _ _ h=>h,rfl,rfl⟩
theorem Ext.trans{a b c:World}(h:Ext a b)(k:Ext b c):Ext a c:=⟨Nat.le_trans h.size k.size,fun p x q=>k.all p x (h.all p x q),k.os.trans h.os,k.out.trans h.out⟩
theorem Ext.below{u u':World}(h:Below u.heap.size u u'):Ext u u':=⟨h.size,fun b o hb=>by rw[h.block b (Array.getElem?_eq_some_iff.1 hb).1];exact hb,h.os,h.output⟩
theorem Ext.upd{u u':World}(h:Upd (fun _=>False) u u'):Ext u u':=⟨h.size,fun b o hb=>by rw[h.block b (Array.getElem?_eq_some_iff.1 hb).1 id];exact hb,h.os,h.output⟩
theorem Ext.sl{α:Type}{f:α→Value}{u u':World}(h:Ext u u'){a:Option Addr}{xs:List α}(k:Sl f u a xs):Sl f u' a xs:=fun j x hj=>⟨(k j x hj).1,h.cell (k j x hj).2⟩
section
variable {Shun:Loc→Prop} {w w' u u' u₂:World}
theorem View.ex(S:ShunAt Shun w):∃u,View Shun w u:=like_exists fun b hb=>S.gi.hid (fun _ h=>h.elim) hb
theorem hidS{b:Nat}:HidB (TS Shun w.heap.size) w b↔b<w.heap.size∧∃a:Addr,a.block=b∧Shun (.cell a):=by
 constructor
 ·rintro⟨h,a,e,hn⟩
  exact⟨h,a,e,Classical.byContradiction fun hs=>hn ⟨show a.block<_ by rw[e];exact h,hs⟩⟩
 ·rintro⟨h,a,e,hs⟩
  exact⟨h,a,e,fun x=>x.2 hs⟩
theorem hid_same(S:ShunAt Shun w)(L:Like (HidB (TS Shun w.heap.size) w) w' u')(b:Nat):HidB (TS Shun w.heap.size) w b↔HidB (TS Shun w'.heap.size) w' b:=by
 constructor
 ·intro h
  obtain⟨c,e,h1,_⟩:=L.hid b h
  obtain⟨_,a,e,hs⟩:=hidS.1 h
  exact hidS.2 ⟨(Array.getElem?_eq_some_iff.1 h1).1,a,e,hs⟩
 ·intro h
  obtain⟨_,a',e',hs⟩:=hidS.1 h
  obtain⟨c,t,hr⟩:=S.row a' hs
  exact hidS.2 ⟨by rw[←e'];exact(Array.getElem?_eq_some_iff.1 hr).1,a',e',hs⟩
theorem View.move(S:ShunAt Shun w)(L:Like (HidB (TS Shun w.heap.size) w) w' u')(V:View Shun w' u₂):Ext u' u₂:=by
 refine⟨Nat.le_of_eq (L.size.trans V.size.symm),fun b o hb=>?_,V.os.trans L.os.symm,V.out.trans L.out.symm⟩
 by_cases h:HidB (TS Shun w.heap.size) w b
 ·obtain⟨c1,e1,h1,h2⟩:=L.hid b h
  obtain⟨c2,e2,h3,h4⟩:=V.hid b ((hid_same S L b).1 h)
  rw[h1] at h3
  simp only[Option.some.injEq,Obj.cells.injEq] at h3
  rw[h4,←h3.2.1,←h2]
  exact hb
 ·rw[V.same b fun h'=>h ((hid_same S L b).2 h'),←L.same b h]
  exact hb
end
section
variable {P:Program} {Shun:Loc→Prop} {Qm:Machine→Trace→Prop} {b:Frame} {a:Act} {items k:List Item} {cs:List Frame} {w:World} {L:Fns} {Q:Exit→Act→World→Prop}
theorem SB.lone(F:FuncsOK false P L)(hb:∃fn,P.funcs[b.fn]?=some fn)(hk:b.kind= .normal)(hc:∀x∈items,itemPlain false none P L x=true)(hd:a.defers=[])(S:ShunAt Shun w)(hQ:∀e a u,Q e a u→e= .normal∨e= .ret)(LH:∀u,View Shun w u→ItemsWp P items Q a u)(kk:∀a' u' w',Q .normal a' u'→a'.defers=[]→ShunAt Shun w'→(∀u₂,View Shun w' u₂→Ext u' u₂)→SB P Shun Qm (G (b.at a' k) cs) w')(kr:∀a' u' w' todo,Q .ret a' u'→a'.defers=[]→ShunAt Shun w'→(∀u₂,View Shun w' u₂→Ext u' u₂)→SB P Shun Qm (G {b.at a' todo with mode:=.returning} cs) w'):
  SB P Shun Qm (G (b.at a (items++k)) cs) w:=by
 have I:=S.gi
 obtain⟨l₀,L₀⟩:=View.ex S
 refine⟨fun R h0=>GoesV.beside (lone_items (fid:=none) F hb hk hc (.none L a) hd (I.covers fun _ h=>h.elim) L₀ hQ LH) (fun T' g' w' hst hT {gs sl t} R' h0'=>?_) (fun l hl=>(TS_rd.1 hl).2) R h0⟩
 obtain⟨a',u,hl,hd',hcase,_,A,hro,hkn,hwr⟩:=hst
 have S':ShunAt Shun w':=⟨S.cell,S.whole,fun a ha=>by
  have hr:=S.row a ha
  have hlt:a.block<w.heap.size:=by obtain⟨c,e,h⟩:=hr;exact(Array.getElem?_eq_some_iff.1 h).1
  exact row_kin hr fun o ho=>A.kin _ o ⟨hlt,a,rfl,fun h=>h.2 ha⟩ ho⟩
 rcases hcase with⟨hq',rfl⟩|⟨hq',todo,rfl⟩
 ·exact(kk a' u w' hq' hd' S' fun u₂ V=>View.move S hl V).run R' h0'
 ·exact(kr a' u w' todo hq' hd' S' fun u₂ V=>View.move S hl V).run R' h0'
end
def ExtC(F:World→Prop):Prop:=∀u u',Ext u u'→F u→F u'
structure Kn(N:Nat)(Shun:Loc→Prop)(w:World)(F:World→Prop):Prop where
 sh:ShunAt Shun w
 new:∀l,Shun l→¬l.low N
 all:∀u,View Shun w u→F u
theorem ShunAt.rely{Shun:Loc→Prop}{T:Terr}{q:Bool}{w w₁:World}(S:ShunAt Shun w)(hk:∀b,T.kn b)(r:Rely q T w w₁):ShunAt Shun w₁:=
 ⟨S.cell,S.whole,fun a ha=>row_kin (S.row a ha) fun o ho=>r.kin _ o (.inl (hk _)) ho⟩
theorem Kn.rely{Shun:Loc→Prop}{N:Nat}{F:World→Prop}{w w₁:World}(K:Kn N Shun w F)(hF:ExtC F)(r:Rely true (TS Shun w.heap.size) w w₁):Kn N Shun w₁ F:=by
 obtain⟨u,V⟩:=View.ex K.sh
 exact⟨K.sh.rely (fun _=>trivial) r,K.new,fun u₁ V₁=>hF u u₁ (View.move K.sh (like_rely V (K.sh.gi.covers fun _ h=>h.elim) r) V₁) (K.all u V)⟩
theorem Kn.mono{Shun:Loc→Prop}{N:Nat}{F F':World→Prop}{w:World}(K:Kn N Shun w F)(h:∀u,F u→F' u):Kn N Shun w F':=⟨K.sh,K.new,fun u V=>h u (K.all u V)⟩
section
variable {P:Program} {N:Nat} {Shun:Loc→Prop} {Qm:Machine→Trace→Prop} {b:Frame} {a:Act} {items k:List Item} {cs:List Frame} {w:World} {L:Fns} {F:World→Prop} {g:Goroutine}
theorem gait_b(P:Program)(Shun:Loc→Prop)(Qm:Machine→Trace→Prop):Gait P true true false (fun _ T g w=>(∀l,T.rd l→¬Shun l)→∀w₁,Rely true T w w₁→SB P Shun Qm g w₁):=by
 refine⟨fun{_ T g w} hs h hT w₁ r=>?_,fun h r hT w₂ r₂=>h hT w₂ (r.trans r₂),fun _ h=>h⟩
 refine SB.walk (T:=T) (.next hs fun w₂ r₂=>?_) hT
 obtain⟨g',w',es,e,hd,hg⟩:=goes_iff.1 (h w₂ (r.trans r₂))
 exact goes_iff.2 ⟨g',w',es,e,hd,.stop fun w₃ r₃ hT'=>hg hT' w₃ r₃⟩
theorem SB.into(h:(∀l,(TS Shun w.heap.size).rd l→¬Shun l)→∀w₁,Rely true (TS Shun w.heap.size) w w₁→SB P Shun Qm g w₁):SB P Shun Qm g w:=h (fun l hl=>(TS_rd.1 hl).2) w (Rely.refl _ _ _)
theorem Kn.out(K:Kn N Shun w F)(hF:ExtC F)(h:∀w₁,Kn N Shun w₁ F→SB P Shun Qm g w₁):(∀l,(TS Shun w.heap.size).rd l→¬Shun l)→∀w₁,Rely true (TS Shun w.heap.size) w w₁→SB P Shun Qm g w₁:=
 fun _ w₁ r=>h w₁ (K.rely hF r)
theorem Kn.lone(K:Kn N Shun w F)(OK:FuncsOK false P L)(hb:∃fn,P.funcs[b.fn]?=some fn)(hk:b.kind= .normal)(hc:items.all (itemPlain false none P L)=true)(hd:a.defers=[]){Q:World→Exit→Act→World→Prop}(hQ:∀u e a' u',Q u e a' u'→e= .normal∨e= .ret)(LH:∀u,F u→ItemsWp P items (Q u) a u)(kk:∀u a' u' w',F u→Q u .normal a' u'→a'.defers=[]→(∀F',ExtC F'→F' u'→Kn N Shun w' F')→SB P Shun Qm (G (b.at a' k) cs) w')(kr:∀u a' u' w' todo,F u→Q u .ret a' u'→a'.defers=[]→(∀F',ExtC F'→F' u'→Kn N Shun w' F')→SB P Shun Qm (G {b.at a' todo with mode:=.returning} cs) w'):
  SB P Shun Qm (G (b.at a (items++k)) cs) w:=by
 refine SB.lone (Q:=fun e a' u'=>∃u,F u∧Q u e a' u') OK hb hk (by simpa using hc) hd K.sh (fun e a' u' ⟨u,_,h⟩=>hQ u e a' u' h) (fun u V=>?_) (fun a' u' w' ⟨u,hu,h⟩ hd' S' hE=>kk u a' u' w' hu h hd' fun F' hF' hu'=>⟨S',K.new,fun u₂ V=>hF' _ _ (hE u₂ V) hu'⟩)
  (fun a' u' w' todo ⟨u,hu,h⟩ hd' S' hE=>kr u a' u' w' todo hu h hd' fun F' hF' hu'=>⟨S',K.new,fun u₂ V=>hF' _ _ (hE u₂ V) hu'⟩)
 exact fun b k cs=>let⟨e,a',w',hq,h⟩:=LH u (K.all u V) b k cs;⟨e,a',w',⟨u,K.all u V,hq⟩,h⟩
def oneC(P:Program)(b:Frame)(a:Act)(items k:List Item)(cs:List Frame):Option Local→Goroutine
 |none=>G (b.at a (items++k)) cs
 |some R=>R.plug P b a items k cs
theorem SB.op{ops:Array Oper}{i:Nat}{rest:List Nat}{o:Oper}(K:Kn N Shun w F)(hs:Settled P)(hOK:L.OK P)(ho:ops[i]?=some o)(hg:o.guard=none)(hpl:opPlain false none P L o=true){Q:World→Value→World→Prop}(LH:∀u,F u→∃v u',(execOp a.eval o).run P u= .ok (.value v) u'∧Q u v u')(kk:∀u v u' w',F u→Q u v u'→(∀F',ExtC F'→F' u'→Kn N Shun w' F')→SB P Shun Qm (G (b.at (a.put o.dst v) (.inRegion ops rest::k)) cs) w'):
  SB P Shun Qm (G (b.at a (.inRegion ops (i::rest)::k)) cs) w:=by
 have hw:Region.wanted o (yielded ops a.tmps)=true:=by simp[Region.wanted,hg]
 obtain⟨l₀,L₀⟩:=View.ex K.sh
 have I:=K.sh.gi
 let its:List Item:=[.inRegion ops (i::rest)]
 let lo:Option Local→Goroutine:=oneC P b a its endK [catcher P]
 let E:Goroutine→World→Prop:=fun g u'=>∃u v,F u∧Q u v u'∧g=lo (some (.run (a.put o.dst v) [.inRegion ops rest]))
 have hne:∀a',lo none≠lo (some (.run a' [.inRegion ops rest])):=fun a' h=>by
  have h1:=congrArg (fun g=>g.frame.todo) h
  simp only[lo,its,oneC,Local.plug,G,Frame.at,List.cons_append,List.nil_append,List.cons.injEq,Item.inRegion.injEq,and_true,true_and] at h1
  have:=congrArg List.length h1
  simp at this
 have hone:∀w₂,View Shun w w₂→∃v u',(execOp a.eval o).runT P w₂ #[]=(.ok (.value v) u',(execOp a.eval o).events P w₂ #[])∧Q w₂ v u':=fun w₂ V=>by
  obtain⟨v,u',h1,h2⟩:=LH w₂ (K.all w₂ V)
  exact⟨v,u',by rw[Sem.runT_eq,h1],h2⟩
 have main:=bar (ob:=false) (T:=TS Shun w.heap.size) (lo:=lo) (tr:=oneC P b a its k cs) (WF:=fun c=>∀R,c=some R→OneOK none L a its [.inRegion ops rest] R) (FinG:=fun g=>∃R,OneOK none L a its [.inRegion ops rest] R∧g=lo (some R)) (E:=E) (H:=HidB (TS Shun w.heap.size) w) (c₀:=none) (w:=w) (l₀:=l₀) (P:=P)
  (fun c _=>by cases c with|none=>rfl|some R=>cases R<;>rfl) ?_ (fun R h=>by cases h) (I.covers fun _ h=>h.elim) L₀ ?_
 ·refine⟨fun R h0=>GoesV.beside main (fun T' g' w' hst hT {gs sl t} R' h0'=>?_) (fun l hl=>(TS_rd.1 hl).2) R h0⟩
  obtain⟨c',u',hwf,hfin,rfl,hl,⟨u,v,hu,hq,he⟩,_,A,_,_,_⟩:=hst
  have S':ShunAt Shun w':=⟨K.sh.cell,K.sh.whole,fun a ha=>by
   have hr:=K.sh.row a ha
   have hlt:a.block<w.heap.size:=by obtain⟨c,e,h⟩:=hr;exact(Array.getElem?_eq_some_iff.1 h).1
   exact row_kin hr fun o ho=>A.kin _ o ⟨hlt,a,rfl,fun h=>h.2 ha⟩ ho⟩
  have fin:∀a1,c'=some (.run a1 [.inRegion ops rest])→Comes P Qm (crowd gs w' sl) t:=fun a1 hc=>by
   subst hc
   simp only[lo,oneC,Local.plug,G,Goroutine.mk.injEq,and_true] at he
   have h1:=congrArg Frame.tmps he
   have h2:=congrArg Frame.defers he
   simp only[Frame.at] at h1 h2
   obtain rfl:a1=a.put o.dst v:=by
    generalize a.put o.dst v=a2 at h1 h2
    obtain⟨t1,d1⟩:=a1
    obtain⟨t2,d2⟩:=a2
    simp only at h1 h2
    subst h1;subst h2;rfl
   exact(kk u v u' w' hu hq fun F' hF' hu'=>⟨S',K.new,fun u₂ V=>hF' _ _ (View.move K.sh hl V) hu'⟩).run R' h0'
  cases c' with
  |none=>exact absurd he (hne _)
  |some R=>
   have hR:=hwf R rfl
   cases R with
   |run a1 l=>
    obtain⟨rfl,_,_⟩:=hR
    exact fin a1 rfl
   |ret=>have:=congrArg (fun g=>g.frame.mode) he;simp[lo,oneC,Local.plug,G,Frame.at] at this
   |panic ch=>have:=congrArg (fun g=>g.frame.mode) he;simp[lo,oneC,Local.plug,G,Frame.at] at this
   |enter f args=>have:=congrArg (fun g=>g.callers.length) he;simp[lo,oneC,Local.plug,G] at this
 ·intro c w1 w1' hwf hnf Lw
  cases c with
  |some R=>exact absurd ⟨R,hwf R rfl,rfl⟩ hnf
  |none=>
   rcases step_one (b:=b) (i:=i) (rest:=rest) (ops:=ops) (r:=[]) hs hOK (by simpa[ho] using hpl) (.none L a) Lw with⟨n,hd⟩|⟨n,R,w',es,hR,hgo,hev,hall⟩
   ·exact .inl ⟨n,fun w₂ Lw A=>hd w₂ Lw A endK [catcher P] dead_end⟩
   ·refine .inr ⟨n,some R,w',es,fun R' e=>by cases e;exact hR,hgo k cs,hev,fun w₂ Lw A=>?_⟩
    rcases hall w₂ Lw A with h|⟨u₂,es₂,h1,h2⟩
    ·exact .inl (h endK [catcher P])
    ·exact .inr ⟨u₂,es₂,h1 endK [catcher P],h2⟩
 ·intro w₂ V
  obtain⟨v,u',h1,h2⟩:=hone w₂ V
  refine⟨1,lo (some (.run (a.put o.dst v) [.inRegion ops rest])),u',?_,⟨.run (a.put o.dst v) [.inRegion ops rest],show OneOK none L a its [.inRegion ops rest] (.run (a.put o.dst v) [.inRegion ops rest]) from⟨rfl,put_defers _ _,SlotsA.none _ _⟩,rfl⟩,⟨w₂,v,K.all w₂ V,h2,rfl⟩,fun M hM g' u'' hg' hf=>?_⟩
  ·simp only[lrun,lo,its,oneC,List.cons_append,List.nil_append]
   rw[apply_value ho hw h1]
   rfl
  ·obtain rfl:M=0:=by omega
   simp only[lrun,Option.some.injEq,Prod.mk.injEq] at hg'
   obtain⟨R,hR,ha'⟩:=hf
   have he:lo none=lo (some R):=hg'.1.trans ha'
   cases R with
   |run a1 l=>
    obtain⟨rfl,_,_⟩:=hR
    exact hne _ he
   |ret=>have:=congrArg (fun g=>g.frame.mode) he;simp[lo,oneC,Local.plug,G,Frame.at] at this
   |panic ch=>have:=congrArg (fun g=>g.frame.mode) he;simp[lo,oneC,Local.plug,G,Frame.at] at this
   |enter f args=>have:=congrArg (fun g=>g.callers.length) he;simp[lo,oneC,Local.plug,G] at this
theorem SB.leave{fn:Func}{todo:List Item}{c:Frame}(K:Kn N Shun w F)(hfn:P.funcs[b.fn]?=some fn)(hn:b.kind= .normal)(hd:a.defers=[]){Q:World→Value→World→Prop}(LH:∀u,F u→∃v u',(results fn a.tmps).run P u= .ok v u'∧Q u v u')(kk:∀u v u' w',F u→Q u v u'→(∀F',ExtC F'→F' u'→Kn N Shun w' F')→SB P Shun Qm (G (c.finish v) cs) w'):
  SB P Shun Qm (G {b.at a todo with mode:=.returning} (c::cs)) w:=by
 obtain⟨l₀,L₀⟩:=View.ex K.sh
 have I:=K.sh.gi
 let lo:Option Value→Goroutine:=fun x=>match x with
  |none=>G {b.at a todo with mode:=.returning} (c::cs)
  |some v=>G (c.finish v) cs
 let E:Goroutine→World→Prop:=fun g u'=>∃u v,F u∧Q u v u'∧g=lo (some v)
 have hne:∀v,lo none≠lo (some v):=fun v h=>by
  have:=congrArg (fun g=>g.callers.length) h
  simp[lo,G] at this
 have okstep:∀{w u:World} {v:Value} {es:Array Event},(results fn a.tmps).runT P w #[]=(.ok v u,es)→stepG P true (lo none) w= .go (lo (some v)) u (seen P b.fn es):=fun{w u v es} hr=>by
  show stepG P true (G _ (c::cs)) w=_
  exact ret_ok (fr:={b.at a todo with mode:=.returning}) rfl hd hn hfn hr
 have dudstep:∀{w u:World} {h:Halt} {es:Array Event},(results fn a.tmps).runT P w #[]=(.halt h u,es)→∃o u es,stepG P true (lo none) w= .ended o u es:=fun{w u h es} hr=>
  ret_dud (fr:={b.at a todo with mode:=.returning}) rfl hd hfn hr
 have main:=bar (ob:=false) (T:=TS Shun w.heap.size) (lo:=lo) (tr:=lo) (WF:=fun _=>True) (FinG:=fun g=>∃v,g=lo (some v)) (E:=E) (H:=HidB (TS Shun w.heap.size) w) (c₀:=none) (w:=w) (l₀:=l₀) (P:=P)
  (fun c _=>by cases c<;>rfl) ?_ trivial (I.covers fun _ h=>h.elim) L₀ ?_
 ·refine⟨fun R h0=>GoesV.beside main (fun T' g' w' hst hT {gs sl t} R' h0'=>?_) (fun l hl=>(TS_rd.1 hl).2) R h0⟩
  obtain⟨c',u',_,hfin,rfl,hl,⟨u,v,hu,hq,he⟩,_,A,_,_,_⟩:=hst
  have S':ShunAt Shun w':=⟨K.sh.cell,K.sh.whole,fun a ha=>by
   have hr:=K.sh.row a ha
   have hlt:a.block<w.heap.size:=by obtain⟨c,e,h⟩:=hr;exact(Array.getElem?_eq_some_iff.1 h).1
   exact row_kin hr fun o ho=>A.kin _ o ⟨hlt,a,rfl,fun h=>h.2 ha⟩ ho⟩
  rw[he] at h0'
  exact(kk u v u' w' hu hq fun F' hF' hu'=>⟨S',K.new,fun u₂ V=>hF' _ _ (View.move K.sh hl V) hu'⟩).run R' h0'
 ·intro c1 w1 w1' _ hnf Lw
  cases c1 with
  |some v=>exact absurd ⟨v,rfl⟩ hnf
  |none=>
   have pl:=pl_results (ob:=false) (P:=P) fn a.tmps
   obtain⟨n,hn'⟩:=couple (H:=HidB (TS Shun w.heap.size) w) pl w1 #[] w1' Lw
   cases hr:(results fn a.tmps).runT P w1 #[] with
   |mk r1 es=>
    have lone:∀w₂,Like (HidB (TS Shun w.heap.size) w) w1 w₂→Agree n w1 w₂→(∃h u₂ es₂,(results fn a.tmps).runT P w₂ #[]=(.halt h u₂,es₂))∨∃v u u₂,r1= .ok v u∧(results fn a.tmps).runT P w₂ #[]=(.ok v u₂,es)∧Tied false (HidB (TS Shun w.heap.size) w) n w1 w₂ u u₂∧Evs false (HidB (TS Shun w.heap.size) w) u.heap.size #[] es:=by
     intro w₂ Lw A
     have hf:=hn' w₂ Lw A
     rw[hr] at hf
     generalize(results fn a.tmps).runT P w₂ #[]=r2 at hf⊢
     match r2,hf with
     |(.ok x u₂,es₂),⟨u,e,t,hv⟩=>
      simp only[Prod.mk.injEq] at e
      obtain⟨rfl,rfl⟩:=e
      exact .inr ⟨x,u,u₂,rfl,rfl,t,hv⟩
     |(.halt h u₂,es₂),_=>exact .inl ⟨_,_,_,rfl⟩
    by_cases hall:∀w₂,Like (HidB (TS Shun w.heap.size) w) w1 w₂→Agree n w1 w₂→∃h u₂ es₂,(results fn a.tmps).runT P w₂ #[]=(.halt h u₂,es₂)
    ·refine .inl ⟨n,fun w₂ Lw A=>?_⟩
     obtain⟨h,u₂,es₂,h1⟩:=hall w₂ Lw A
     exact dudstep h1
    ·obtain⟨w₃,hw₃⟩:=Classical.not_forall.1 hall
     obtain⟨L₃,hw₃⟩:=Classical.not_imp.1 hw₃
     obtain⟨A₃,hw₃⟩:=Classical.not_imp.1 hw₃
     obtain⟨v,u,u₃,rfl,_,_,hev⟩:=(lone w₃ L₃ A₃).resolve_left hw₃
     refine .inr ⟨n,some v,u,seen P b.fn es,trivial,okstep hr,fun e he=>?_,fun w₂ Lw A=>?_⟩
     ·rcases hev e (mem_seen he) with h|h
      ·simp at h
      ·exact h
     ·rcases lone w₂ Lw A with⟨h,u₂,es₂,h1⟩|⟨v',u',u₂,e,h1,h2,_⟩
      ·exact .inl (dudstep h1)
      ·simp only[Result.ok.injEq] at e
       obtain⟨rfl,rfl⟩:=e
       exact .inr ⟨u₂,_,okstep h1,h2⟩
 ·intro w₂ V
  obtain⟨v,u',h1,h2⟩:=LH w₂ (K.all w₂ V)
  refine⟨1,lo (some v),u',?_,⟨_,rfl⟩,⟨w₂,v,K.all w₂ V,h2,rfl⟩,fun M hM g' u'' hg' hf=>?_⟩
  ·simp only[lrun]
   rw[okstep (by rw[Sem.runT_eq,h1])]
  ·obtain rfl:M=0:=by omega
   simp only[lrun,Option.some.injEq,Prod.mk.injEq] at hg'
   obtain⟨v',ha'⟩:=hf
   exact hne v' (hg'.1.trans ha')
def EndM(P:Program)(Post:Value→World→Prop)(m:Machine)(t:Trace):Prop:=∃gs w sl g Shun,m=crowd gs w sl∧gs[0]?=some g∧Rest P Shun gs w t∧∀d,AtEnd P Shun w.heap.size Post g (w.at d)
theorem Kn.back(K:Kn N Shun w F){u:World}(V:View Shun w u){b:Nat}(hb:b<N):u.heap[b]?=w.heap[b]?:=
 V.same b fun h=>by
  obtain⟨_,a,e,hs⟩:=hidS.1 h
  refine K.new _ hs ?_
  show a.block<N
  rw[e];exact hb
theorem SB.ends{fn:Func}{todo:List Item}{tm:Tmp}{Post:Value→World→Prop}(hfn:P.funcs[b.fn]?=some fn)(hn:b.kind= .normal)(hd:a.defers=[])(hr:fn.results= #[.tmp tm])(hi:P.inits.idxOf? b.fn=none)(h:∀d,Post (a.tmps.getD tm undef) (w.at d)):
  SB P Shun (EndM P Post) (G {b.at a todo with mode:=.returning} []) w:=by
 refine⟨fun{gs sl t} R h0=>.here ⟨gs,w,sl,_,Shun,rfl,h0,R,fun d=>⟨rfl,a.tmps.getD tm undef,#[],?_,by simp,h d⟩⟩⟩
 simp only[Frame.at] at*
 simp[G,stepG,unwind,doReturn,results,Frame.at,seen,GStep.after,hfn,hr,hd,hn,hi]
end
end
end Go.Side
