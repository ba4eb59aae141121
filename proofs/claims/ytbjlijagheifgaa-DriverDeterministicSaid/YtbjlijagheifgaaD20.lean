/-
  Texts of Ytbjlijagheifgaa, merged.
-/
import Derived.Test.YtbjlijagheifgaaD19
import Derived.Conc.CompanyMem
import Derived.Conc.SmallLaws
import Derived.Laws.NewBlocks
import Derived.RowKit
import Derived.Laws.Tables
set_option linter.unusedSimpArgs false
set_option linter.unusedVariables false
namespace Go.Side
section
open Go Go.Conc Go.Proofs Go.RowKit
noncomputable def r12_9:Code:=(regOf 9 (Try.f12.body.getD .skip)).getD .skip
theorem info29:(Try.prog.info? 29).isSome=true:=by kernel_rfl
theorem info3:(Try.prog.info? 3).isSome=true:=by kernel_rfl
@[go_sem] theorem run_build79 (a b:Option Nat) (w:World):(Instr.build 79 #[(0,.chan a),(1,.chan b)]).run Try.prog w= .ok (.agg #[.chan a,.chan b,.int .i64 0,.bool false]) w:=run_build w 79 _ _ (by kernel_rfl)
@[go_sem] theorem events_build79 (a b:Option Nat) (w:World) (es:Array Event):(Instr.build 79 #[(0,.chan a),(1,.chan b)]).events Try.prog w es=es:=by kernel_rfl
structure NewW(T:Terr)(w:World)(N of an bx bw:Nat):Prop where
 oc:w.heap[of]?=some (.chan 0 #[] false 0 0 false)
 ac:w.heap[an]?=some (.chan 0 #[] false 0 0 false)
 ow:T.wr (.obj of)
 aw:T.wr (.obj an)
 ne:of≠an
 box:OwnR T w bx #[.chan (some of),.chan (some an),.int .i64 0,.bool false] 79
 var:OwnR T w bw #[.pointer (some ⟨bx,0,none⟩)] 75
 lo:N≤of∧N≤an∧N≤bx∧N≤bw
theorem orders9:orders .any (match r12_9 with| .region _ ops _=>ops|_=> #[]) (match r12_9 with| .region _ ops _=>ops|_=> #[]).size (Array.replicate (match r12_9 with| .region _ ops _=>ops|_=> #[]).size false) []=[[0,1,2,3,4,5],[0,1,2,4,3,5],[0,1,4,2,3,5],[0,4,1,2,3,5],[1,0,2,3,4,5],[1,0,2,4,3,5],[1,0,4,2,3,5],[1,4,0,2,3,5],[4,0,1,2,3,5],[4,1,0,2,3,5]]:=by kernel_rfl
set_option maxRecDepth 100000 in
set_option maxHeartbeats 8000000 in
theorem run9{q:Bool}{X:Nat→Terr→Goroutine→World→Prop}(H:Gait Try.prog true q false X){R0:Loc→Prop}{T:Terr}{w:World}{b:Frame}{k:List Item}{cs:List Frame}{ds:List Deferred}(hk0:b.kind≠ .early)(I:GI R0 T w){u0 u1 u2 u3 u4 u5 u6 u7 u8 u9 u10 u11 u12 u13 u14 u15 u16 u17 u18 u19 u20 u21 u22 u23 u24 u25 u26 u27 u28 u29 u30 u31 u32 u33 u34 u35 u36 u37 u38 u39 u40 u41 u42 u43 u44 u45 u46 u47 u48 u49 u50 u51 u52 u53 u54 u55 u56 u57 u58 u59 u60 u61 u62 u63 u64 u65 u66 u67 u68 u69 u70 u71 u72 u73 u74 u75 u76 u77 u78:Value}(kk:∀(of an bx bw:Nat) (T':Terr) (w':World),Fr (fun _=>False) T T' w w'→GI R0 T' w'→NewW T' w' w.heap.size of an bx bw→X 0 T' (G (b.at ⟨#[u0,u1,u2,u3,u4,u5,u6,u7,u8,u9,u10,u11,u12,.pointer (some ⟨bw,0,none⟩),u14,u15,u16,u17,u18,u19,u20,u21,u22,u23,u24,u25,u26,u27,u28,u29,u30,u31,u32,.chan (some of),.chan (some an),.agg #[.chan (some of),.chan (some an),.int .i64 0,.bool false],.pointer (some ⟨bx,0,none⟩),u37,u38,u39,u40,u41,u42,u43,u44,u45,u46,u47,u48,u49,u50,u51,u52,u53,u54,u55,u56,u57,u58,u59,u60,u61,u62,u63,u64,u65,u66,u67,u68,u69,u70,u71,u72,u73,u74,u75,u76,u77,u78],ds⟩ k) cs) w'):
  X 8 T (G (b.at ⟨#[u0,u1,u2,u3,u4,u5,u6,u7,u8,u9,u10,u11,u12,u13,u14,u15,u16,u17,u18,u19,u20,u21,u22,u23,u24,u25,u26,u27,u28,u29,u30,u31,u32,u33,u34,u35,u36,u37,u38,u39,u40,u41,u42,u43,u44,u45,u46,u47,u48,u49,u50,u51,u52,u53,u54,u55,u56,u57,u58,u59,u60,u61,u62,u63,u64,u65,u66,u67,u68,u69,u70,u71,u72,u73,u74,u75,u76,u77,u78],ds⟩ (.code r12_9::k)) cs) w:=by
 obtain⟨i76,h76⟩:=Option.isSome_iff_exists.1 info29
 obtain⟨i77,h77⟩:=Option.isSome_iff_exists.1 info3
 have hmk:∀w:World,(Instr.makeChan 76 (.int .i64 0)).run Try.prog w= .ok (.chan (some w.heap.size)) (w.alloc (.chan 0 #[] false 0 0 false)):=fun w=>run_makeChan (P:=Try.prog) (w:=w) Try.underlying76 h76 .i64 0 (by omega) (by simp)
 have hml:∀w:World,(Instr.makeChan 77 (.int .i64 0)).run Try.prog w= .ok (.chan (some w.heap.size)) (w.alloc (.chan 0 #[] false 0 0 false)):=fun w=>run_makeChan (P:=Try.prog) (w:=w) Try.underlying77 h77 .i64 0 (by omega) (by simp)
 have hme:∀w:World,(Instr.makeChan 76 (.int .i64 0)).events Try.prog w #[]= #[]:=fun w=>events_makeChan (P:=Try.prog) (w:=w) Try.underlying76 h76 .i64 0 (by omega) (by simp) #[]
 have hmf:∀w:World,(Instr.makeChan 77 (.int .i64 0)).events Try.prog w #[]= #[]:=fun w=>events_makeChan (P:=Try.prog) (w:=w) Try.underlying77 h77 .i64 0 (by omega) (by simp) #[]
 have hk:∀b,T.kn b:=I.kn
 conv in Item.code r12_9=>{arg 1;whnf}
 refine H.draw (L:=[[0,1,2,3,4,5],[0,1,2,4,3,5],[0,1,4,2,3,5],[0,4,1,2,3,5],[1,0,2,3,4,5],[1,0,2,4,3,5],[1,0,4,2,3,5],[1,4,0,2,3,5],[4,0,1,2,3,5],[4,1,0,2,3,5]]) (by kernel_rfl) orders9 fun todo ht=>?_
 simp only[List.mem_cons,List.not_mem_nil,or_false] at ht
 rcases ht with rfl|rfl|rfl|rfl|rfl|rfl|rfl|rfl|rfl|rfl
 ·skip
  have F:Fr (fun _=>False) T T w w:=Fr.refl _ _ _
  refine H.allot (fun s=>.chan (some s)) (.chan 0 #[] false 0 0 false) rfl (by rfl) hk0 (fun w₁=>?_) (fun w₁=>?_) fun w₁ r=>?_
  ·simp[go_sem,hmk]
  ·simp[go_sem,hme]
  have D:=(Fr.rely (fun _=>False) r).trans (Fr.alloc _ _ w₁ (.chan 0 #[] false 0 0 false))
  replace I:=(I.rely r).alloc (.chan 0 #[] false 0 0 false)
  have hloof:w.heap.size≤w₁.heap.size:=Nat.le_trans F.size r.size
  have cof:=heap_new1 w₁ (.chan 0 #[] false 0 0 false)
  have wof:(T.grow w₁.heap.size (w₁.heap.size+1)).wr (.obj w₁.heap.size):=.inr ⟨Nat.le_refl _,Nat.lt_succ_self _⟩
  replace F:=F.trans D
  have hsz:=World.size_alloc w₁ (.chan 0 #[] false 0 0 false)
  clear D
  generalize w₁.alloc (.chan 0 #[] false 0 0 false)=wc at I F cof wof hloof hsz⊢
  generalize w₁.heap.size=of at I F cof wof hloof hsz⊢
  generalize T.grow of (of+1)=Tc at I F wof⊢
  clear hsz
  walk_nrm
  refine H.allot (fun s=>.chan (some s)) (.chan 0 #[] false 0 0 false) rfl (by rfl) hk0 (fun w₁=>?_) (fun w₁=>?_) fun w₁ r=>?_
  ·simp[go_sem,hml]
  ·simp[go_sem,hmf]
  have D:=(Fr.rely (fun _=>False) r).trans (Fr.alloc _ _ w₁ (.chan 0 #[] false 0 0 false))
  replace I:=(I.rely r).alloc (.chan 0 #[] false 0 0 false)
  have mof:=Nat.lt_of_lt_of_le (Array.getElem?_eq_some_iff.1 cof).1 r.size
  replace cof:=D.own _ _ wof cof (fun _ _ _=>by simp)
  replace wof:=D.wr _ wof
  have hne:of≠w₁.heap.size:=fun e=>by omega
  have hloan:w.heap.size≤w₁.heap.size:=Nat.le_trans F.size r.size
  have can:=heap_new1 w₁ (.chan 0 #[] false 0 0 false)
  have wan:(Tc.grow w₁.heap.size (w₁.heap.size+1)).wr (.obj w₁.heap.size):=.inr ⟨Nat.le_refl _,Nat.lt_succ_self _⟩
  replace F:=F.trans D
  have hsz:=World.size_alloc w₁ (.chan 0 #[] false 0 0 false)
  clear D
  clear mof
  generalize w₁.alloc (.chan 0 #[] false 0 0 false)=wc at I F cof wof can wan hne hloan hsz⊢
  generalize w₁.heap.size=an at I F cof wof can wan hne hloan hsz⊢
  generalize Tc.grow an (an+1)=Tc at I F wof wan⊢
  clear hsz
  walk_nrm
  co_applyP Gait.pure H _ rfl (by rfl) hk0 (fun _=>run_eq_of ?run1) (fun _=>?evs1) ?rest1
  case run1=>intro K hK;go_simp;exact hK
  case evs1=>simp[go_sem]
  walk_nrm
  refine H.allot (fun s=>.pointer (some ⟨s,0,none⟩)) (.cells #[.chan (some of),.chan (some an),.int .i64 0,.bool false] 79 (0,0)) rfl (by rfl) hk0 (fun w₁=>?_) (fun w₁=>?_) fun w₁ r=>?_
  ·simp[go_sem]
  ·simp[go_sem]
  have D:=(Fr.rely (fun _=>False) r).trans (Fr.alloc _ _ w₁ (.cells #[.chan (some of),.chan (some an),.int .i64 0,.bool false] 79 (0,0)))
  replace I:=(I.rely r).alloc (.cells #[.chan (some of),.chan (some an),.int .i64 0,.bool false] 79 (0,0))
  replace cof:=D.own _ _ wof cof (fun _ _ _=>by simp)
  replace wof:=D.wr _ wof
  replace can:=D.own _ _ wan can (fun _ _ _=>by simp)
  replace wan:=D.wr _ wan
  have hlobx:w.heap.size≤w₁.heap.size:=Nat.le_trans F.size r.size
  have Obx:=OwnR.new Tc w₁ #[.chan (some of),.chan (some an),.int .i64 0,.bool false] 79
  replace F:=F.trans D
  have hsz:=World.size_alloc w₁ (.cells #[.chan (some of),.chan (some an),.int .i64 0,.bool false] 79 (0,0))
  clear D
  generalize w₁.alloc (.cells #[.chan (some of),.chan (some an),.int .i64 0,.bool false] 79 (0,0))=wc at I F cof wof can wan Obx hne hlobx hsz⊢
  generalize w₁.heap.size=bx at I F cof wof can wan Obx hne hlobx hsz⊢
  generalize Tc.grow bx (bx+1)=Tc at I F wof wan Obx⊢
  clear hsz
  walk_nrm
  refine H.allot (fun s=>.pointer (some ⟨s,0,none⟩)) (.cells #[.pointer none] 75 (0,0)) rfl (by rfl) hk0 (fun w₁=>?_) (fun w₁=>?_) fun w₁ r=>?_
  ·simp[go_sem]
  ·simp[go_sem]
  have D:=(Fr.rely (fun _=>False) r).trans (Fr.alloc _ _ w₁ (.cells #[.pointer none] 75 (0,0)))
  replace I:=(I.rely r).alloc (.cells #[.pointer none] 75 (0,0))
  replace cof:=D.own _ _ wof cof (fun _ _ _=>by simp)
  replace wof:=D.wr _ wof
  replace can:=D.own _ _ wan can (fun _ _ _=>by simp)
  replace wan:=D.wr _ wan
  replace Obx:=Obx.fr D (by rw[F.kn];exact hk _) id
  have hlobw:w.heap.size≤w₁.heap.size:=Nat.le_trans F.size r.size
  have Obw:=OwnR.new Tc w₁ #[.pointer none] 75
  replace F:=F.trans D
  have hsz:=World.size_alloc w₁ (.cells #[.pointer none] 75 (0,0))
  clear D
  generalize w₁.alloc (.cells #[.pointer none] 75 (0,0))=wc at I F cof wof can wan Obx Obw hne hlobw hsz⊢
  generalize w₁.heap.size=bw at I F cof wof can wan Obx Obw hne hlobw hsz⊢
  generalize Tc.grow bw (bw+1)=Tc at I F wof wan Obx Obw⊢
  clear hsz
  walk_nrm
  refine H.store1 Obw 0 (.pointer (some ⟨bx,0,none⟩)) rfl (by rfl) hk0 (fun w₁ O1=>?_) fun w₁ r O1=>?_
  ·have k0:=O1.cell (i:=0) rfl;have z0:=O1.free 0
   refine⟨by go_simp,fun e he=>?_⟩
   simp[go_sem,k0,z0] at he
   exact he
  have D:=(Fr.rely (fun _=>False) r)
  have E:=(Obw.rely r).frSet 0 (.pointer (some ⟨bx,0,none⟩)) not_wg1
  have hxw:bx≠bw:=fun e=>by have h1:=Obx.heap;rw[e,Obw.heap] at h1;simp at h1
  have F1:=(F.trans D).then E fun x hx=>.inr (hx▸hlobw)
  have I1:=(Obw.rely r).giSet (I.rely r) 0 (.pointer (some ⟨bx,0,none⟩)) not_wg1
  refine H.regionEnd ?_
  refine H.le (Nat.zero_le _) (kk of an bx bw _ _ F1 I1 ⟨?_,?_,wof,wan,hne,?_,O1,hloof,hloan,hlobx,hlobw⟩)
  ·exact E.own _ _ wof (D.own _ _ wof cof fun _ _ _=>by simp) fun _ _ _=>by simp
  ·exact E.own _ _ wan (D.own _ _ wan can fun _ _ _=>by simp) fun _ _ _=>by simp
  ·exact(Obx.rely r).fr E (by rw[F.kn];exact hk _) hxw
 ·skip
  have F:Fr (fun _=>False) T T w w:=Fr.refl _ _ _
  refine H.allot (fun s=>.chan (some s)) (.chan 0 #[] false 0 0 false) rfl (by rfl) hk0 (fun w₁=>?_) (fun w₁=>?_) fun w₁ r=>?_
  ·simp[go_sem,hmk]
  ·simp[go_sem,hme]
  have D:=(Fr.rely (fun _=>False) r).trans (Fr.alloc _ _ w₁ (.chan 0 #[] false 0 0 false))
  replace I:=(I.rely r).alloc (.chan 0 #[] false 0 0 false)
  have hloof:w.heap.size≤w₁.heap.size:=Nat.le_trans F.size r.size
  have cof:=heap_new1 w₁ (.chan 0 #[] false 0 0 false)
  have wof:(T.grow w₁.heap.size (w₁.heap.size+1)).wr (.obj w₁.heap.size):=.inr ⟨Nat.le_refl _,Nat.lt_succ_self _⟩
  replace F:=F.trans D
  have hsz:=World.size_alloc w₁ (.chan 0 #[] false 0 0 false)
  clear D
  generalize w₁.alloc (.chan 0 #[] false 0 0 false)=wc at I F cof wof hloof hsz⊢
  generalize w₁.heap.size=of at I F cof wof hloof hsz⊢
  generalize T.grow of (of+1)=Tc at I F wof⊢
  clear hsz
  walk_nrm
  refine H.allot (fun s=>.chan (some s)) (.chan 0 #[] false 0 0 false) rfl (by rfl) hk0 (fun w₁=>?_) (fun w₁=>?_) fun w₁ r=>?_
  ·simp[go_sem,hml]
  ·simp[go_sem,hmf]
  have D:=(Fr.rely (fun _=>False) r).trans (Fr.alloc _ _ w₁ (.chan 0 #[] false 0 0 false))
  replace I:=(I.rely r).alloc (.chan 0 #[] false 0 0 false)
  have mof:=Nat.lt_of_lt_of_le (Array.getElem?_eq_some_iff.1 cof).1 r.size
  replace cof:=D.own _ _ wof cof (fun _ _ _=>by simp)
  replace wof:=D.wr _ wof
  have hne:of≠w₁.heap.size:=fun e=>by omega
  have hloan:w.heap.size≤w₁.heap.size:=Nat.le_trans F.size r.size
  have can:=heap_new1 w₁ (.chan 0 #[] false 0 0 false)
  have wan:(Tc.grow w₁.heap.size (w₁.heap.size+1)).wr (.obj w₁.heap.size):=.inr ⟨Nat.le_refl _,Nat.lt_succ_self _⟩
  replace F:=F.trans D
  have hsz:=World.size_alloc w₁ (.chan 0 #[] false 0 0 false)
  clear D
  clear mof
  generalize w₁.alloc (.chan 0 #[] false 0 0 false)=wc at I F cof wof can wan hne hloan hsz⊢
  generalize w₁.heap.size=an at I F cof wof can wan hne hloan hsz⊢
  generalize Tc.grow an (an+1)=Tc at I F wof wan⊢
  clear hsz
  walk_nrm
  co_applyP Gait.pure H _ rfl (by rfl) hk0 (fun _=>run_eq_of ?run2) (fun _=>?evs2) ?rest2
  case run2=>intro K hK;go_simp;exact hK
  case evs2=>simp[go_sem]
  walk_nrm
  refine H.allot (fun s=>.pointer (some ⟨s,0,none⟩)) (.cells #[.pointer none] 75 (0,0)) rfl (by rfl) hk0 (fun w₁=>?_) (fun w₁=>?_) fun w₁ r=>?_
  ·simp[go_sem]
  ·simp[go_sem]
  have D:=(Fr.rely (fun _=>False) r).trans (Fr.alloc _ _ w₁ (.cells #[.pointer none] 75 (0,0)))
  replace I:=(I.rely r).alloc (.cells #[.pointer none] 75 (0,0))
  replace cof:=D.own _ _ wof cof (fun _ _ _=>by simp)
  replace wof:=D.wr _ wof
  replace can:=D.own _ _ wan can (fun _ _ _=>by simp)
  replace wan:=D.wr _ wan
  have hlobw:w.heap.size≤w₁.heap.size:=Nat.le_trans F.size r.size
  have Obw:=OwnR.new Tc w₁ #[.pointer none] 75
  replace F:=F.trans D
  have hsz:=World.size_alloc w₁ (.cells #[.pointer none] 75 (0,0))
  clear D
  generalize w₁.alloc (.cells #[.pointer none] 75 (0,0))=wc at I F cof wof can wan Obw hne hlobw hsz⊢
  generalize w₁.heap.size=bw at I F cof wof can wan Obw hne hlobw hsz⊢
  generalize Tc.grow bw (bw+1)=Tc at I F wof wan Obw⊢
  clear hsz
  walk_nrm
  refine H.allot (fun s=>.pointer (some ⟨s,0,none⟩)) (.cells #[.chan (some of),.chan (some an),.int .i64 0,.bool false] 79 (0,0)) rfl (by rfl) hk0 (fun w₁=>?_) (fun w₁=>?_) fun w₁ r=>?_
  ·simp[go_sem]
  ·simp[go_sem]
  have D:=(Fr.rely (fun _=>False) r).trans (Fr.alloc _ _ w₁ (.cells #[.chan (some of),.chan (some an),.int .i64 0,.bool false] 79 (0,0)))
  replace I:=(I.rely r).alloc (.cells #[.chan (some of),.chan (some an),.int .i64 0,.bool false] 79 (0,0))
  replace cof:=D.own _ _ wof cof (fun _ _ _=>by simp)
  replace wof:=D.wr _ wof
  replace can:=D.own _ _ wan can (fun _ _ _=>by simp)
  replace wan:=D.wr _ wan
  replace Obw:=Obw.fr D (by rw[F.kn];exact hk _) id
  have hlobx:w.heap.size≤w₁.heap.size:=Nat.le_trans F.size r.size
  have Obx:=OwnR.new Tc w₁ #[.chan (some of),.chan (some an),.int .i64 0,.bool false] 79
  replace F:=F.trans D
  have hsz:=World.size_alloc w₁ (.cells #[.chan (some of),.chan (some an),.int .i64 0,.bool false] 79 (0,0))
  clear D
  generalize w₁.alloc (.cells #[.chan (some of),.chan (some an),.int .i64 0,.bool false] 79 (0,0))=wc at I F cof wof can wan Obw Obx hne hlobx hsz⊢
  generalize w₁.heap.size=bx at I F cof wof can wan Obw Obx hne hlobx hsz⊢
  generalize Tc.grow bx (bx+1)=Tc at I F wof wan Obw Obx⊢
  clear hsz
  walk_nrm
  refine H.store1 Obw 0 (.pointer (some ⟨bx,0,none⟩)) rfl (by rfl) hk0 (fun w₁ O1=>?_) fun w₁ r O1=>?_
  ·have k0:=O1.cell (i:=0) rfl;have z0:=O1.free 0
   refine⟨by go_simp,fun e he=>?_⟩
   simp[go_sem,k0,z0] at he
   exact he
  have D:=(Fr.rely (fun _=>False) r)
  have E:=(Obw.rely r).frSet 0 (.pointer (some ⟨bx,0,none⟩)) not_wg1
  have hxw:bx≠bw:=fun e=>by have h1:=Obx.heap;rw[e,Obw.heap] at h1;simp at h1
  have F1:=(F.trans D).then E fun x hx=>.inr (hx▸hlobw)
  have I1:=(Obw.rely r).giSet (I.rely r) 0 (.pointer (some ⟨bx,0,none⟩)) not_wg1
  refine H.regionEnd ?_
  refine H.le (Nat.zero_le _) (kk of an bx bw _ _ F1 I1 ⟨?_,?_,wof,wan,hne,?_,O1,hloof,hloan,hlobx,hlobw⟩)
  ·exact E.own _ _ wof (D.own _ _ wof cof fun _ _ _=>by simp) fun _ _ _=>by simp
  ·exact E.own _ _ wan (D.own _ _ wan can fun _ _ _=>by simp) fun _ _ _=>by simp
  ·exact(Obx.rely r).fr E (by rw[F.kn];exact hk _) hxw
 ·skip
  have F:Fr (fun _=>False) T T w w:=Fr.refl _ _ _
  refine H.allot (fun s=>.chan (some s)) (.chan 0 #[] false 0 0 false) rfl (by rfl) hk0 (fun w₁=>?_) (fun w₁=>?_) fun w₁ r=>?_
  ·simp[go_sem,hmk]
  ·simp[go_sem,hme]
  have D:=(Fr.rely (fun _=>False) r).trans (Fr.alloc _ _ w₁ (.chan 0 #[] false 0 0 false))
  replace I:=(I.rely r).alloc (.chan 0 #[] false 0 0 false)
  have hloof:w.heap.size≤w₁.heap.size:=Nat.le_trans F.size r.size
  have cof:=heap_new1 w₁ (.chan 0 #[] false 0 0 false)
  have wof:(T.grow w₁.heap.size (w₁.heap.size+1)).wr (.obj w₁.heap.size):=.inr ⟨Nat.le_refl _,Nat.lt_succ_self _⟩
  replace F:=F.trans D
  have hsz:=World.size_alloc w₁ (.chan 0 #[] false 0 0 false)
  clear D
  generalize w₁.alloc (.chan 0 #[] false 0 0 false)=wc at I F cof wof hloof hsz⊢
  generalize w₁.heap.size=of at I F cof wof hloof hsz⊢
  generalize T.grow of (of+1)=Tc at I F wof⊢
  clear hsz
  walk_nrm
  refine H.allot (fun s=>.chan (some s)) (.chan 0 #[] false 0 0 false) rfl (by rfl) hk0 (fun w₁=>?_) (fun w₁=>?_) fun w₁ r=>?_
  ·simp[go_sem,hml]
  ·simp[go_sem,hmf]
  have D:=(Fr.rely (fun _=>False) r).trans (Fr.alloc _ _ w₁ (.chan 0 #[] false 0 0 false))
  replace I:=(I.rely r).alloc (.chan 0 #[] false 0 0 false)
  have mof:=Nat.lt_of_lt_of_le (Array.getElem?_eq_some_iff.1 cof).1 r.size
  replace cof:=D.own _ _ wof cof (fun _ _ _=>by simp)
  replace wof:=D.wr _ wof
  have hne:of≠w₁.heap.size:=fun e=>by omega
  have hloan:w.heap.size≤w₁.heap.size:=Nat.le_trans F.size r.size
  have can:=heap_new1 w₁ (.chan 0 #[] false 0 0 false)
  have wan:(Tc.grow w₁.heap.size (w₁.heap.size+1)).wr (.obj w₁.heap.size):=.inr ⟨Nat.le_refl _,Nat.lt_succ_self _⟩
  replace F:=F.trans D
  have hsz:=World.size_alloc w₁ (.chan 0 #[] false 0 0 false)
  clear D
  clear mof
  generalize w₁.alloc (.chan 0 #[] false 0 0 false)=wc at I F cof wof can wan hne hloan hsz⊢
  generalize w₁.heap.size=an at I F cof wof can wan hne hloan hsz⊢
  generalize Tc.grow an (an+1)=Tc at I F wof wan⊢
  clear hsz
  walk_nrm
  refine H.allot (fun s=>.pointer (some ⟨s,0,none⟩)) (.cells #[.pointer none] 75 (0,0)) rfl (by rfl) hk0 (fun w₁=>?_) (fun w₁=>?_) fun w₁ r=>?_
  ·simp[go_sem]
  ·simp[go_sem]
  have D:=(Fr.rely (fun _=>False) r).trans (Fr.alloc _ _ w₁ (.cells #[.pointer none] 75 (0,0)))
  replace I:=(I.rely r).alloc (.cells #[.pointer none] 75 (0,0))
  replace cof:=D.own _ _ wof cof (fun _ _ _=>by simp)
  replace wof:=D.wr _ wof
  replace can:=D.own _ _ wan can (fun _ _ _=>by simp)
  replace wan:=D.wr _ wan
  have hlobw:w.heap.size≤w₁.heap.size:=Nat.le_trans F.size r.size
  have Obw:=OwnR.new Tc w₁ #[.pointer none] 75
  replace F:=F.trans D
  have hsz:=World.size_alloc w₁ (.cells #[.pointer none] 75 (0,0))
  clear D
  generalize w₁.alloc (.cells #[.pointer none] 75 (0,0))=wc at I F cof wof can wan Obw hne hlobw hsz⊢
  generalize w₁.heap.size=bw at I F cof wof can wan Obw hne hlobw hsz⊢
  generalize Tc.grow bw (bw+1)=Tc at I F wof wan Obw⊢
  clear hsz
  walk_nrm
  co_applyP Gait.pure H _ rfl (by rfl) hk0 (fun _=>run_eq_of ?run3) (fun _=>?evs3) ?rest3
  case run3=>intro K hK;go_simp;exact hK
  case evs3=>simp[go_sem]
  walk_nrm
  refine H.allot (fun s=>.pointer (some ⟨s,0,none⟩)) (.cells #[.chan (some of),.chan (some an),.int .i64 0,.bool false] 79 (0,0)) rfl (by rfl) hk0 (fun w₁=>?_) (fun w₁=>?_) fun w₁ r=>?_
  ·simp[go_sem]
  ·simp[go_sem]
  have D:=(Fr.rely (fun _=>False) r).trans (Fr.alloc _ _ w₁ (.cells #[.chan (some of),.chan (some an),.int .i64 0,.bool false] 79 (0,0)))
  replace I:=(I.rely r).alloc (.cells #[.chan (some of),.chan (some an),.int .i64 0,.bool false] 79 (0,0))
  replace cof:=D.own _ _ wof cof (fun _ _ _=>by simp)
  replace wof:=D.wr _ wof
  replace can:=D.own _ _ wan can (fun _ _ _=>by simp)
  replace wan:=D.wr _ wan
  replace Obw:=Obw.fr D (by rw[F.kn];exact hk _) id
  have hlobx:w.heap.size≤w₁.heap.size:=Nat.le_trans F.size r.size
  have Obx:=OwnR.new Tc w₁ #[.chan (some of),.chan (some an),.int .i64 0,.bool false] 79
  replace F:=F.trans D
  have hsz:=World.size_alloc w₁ (.cells #[.chan (some of),.chan (some an),.int .i64 0,.bool false] 79 (0,0))
  clear D
  generalize w₁.alloc (.cells #[.chan (some of),.chan (some an),.int .i64 0,.bool false] 79 (0,0))=wc at I F cof wof can wan Obw Obx hne hlobx hsz⊢
  generalize w₁.heap.size=bx at I F cof wof can wan Obw Obx hne hlobx hsz⊢
  generalize Tc.grow bx (bx+1)=Tc at I F wof wan Obw Obx⊢
  clear hsz
  walk_nrm
  refine H.store1 Obw 0 (.pointer (some ⟨bx,0,none⟩)) rfl (by rfl) hk0 (fun w₁ O1=>?_) fun w₁ r O1=>?_
  ·have k0:=O1.cell (i:=0) rfl;have z0:=O1.free 0
   refine⟨by go_simp,fun e he=>?_⟩
   simp[go_sem,k0,z0] at he
   exact he
  have D:=(Fr.rely (fun _=>False) r)
  have E:=(Obw.rely r).frSet 0 (.pointer (some ⟨bx,0,none⟩)) not_wg1
  have hxw:bx≠bw:=fun e=>by have h1:=Obx.heap;rw[e,Obw.heap] at h1;simp at h1
  have F1:=(F.trans D).then E fun x hx=>.inr (hx▸hlobw)
  have I1:=(Obw.rely r).giSet (I.rely r) 0 (.pointer (some ⟨bx,0,none⟩)) not_wg1
  refine H.regionEnd ?_
  refine H.le (Nat.zero_le _) (kk of an bx bw _ _ F1 I1 ⟨?_,?_,wof,wan,hne,?_,O1,hloof,hloan,hlobx,hlobw⟩)
  ·exact E.own _ _ wof (D.own _ _ wof cof fun _ _ _=>by simp) fun _ _ _=>by simp
  ·exact E.own _ _ wan (D.own _ _ wan can fun _ _ _=>by simp) fun _ _ _=>by simp
  ·exact(Obx.rely r).fr E (by rw[F.kn];exact hk _) hxw
 ·skip
  have F:Fr (fun _=>False) T T w w:=Fr.refl _ _ _
  refine H.allot (fun s=>.chan (some s)) (.chan 0 #[] false 0 0 false) rfl (by rfl) hk0 (fun w₁=>?_) (fun w₁=>?_) fun w₁ r=>?_
  ·simp[go_sem,hmk]
  ·simp[go_sem,hme]
  have D:=(Fr.rely (fun _=>False) r).trans (Fr.alloc _ _ w₁ (.chan 0 #[] false 0 0 false))
  replace I:=(I.rely r).alloc (.chan 0 #[] false 0 0 false)
  have hloof:w.heap.size≤w₁.heap.size:=Nat.le_trans F.size r.size
  have cof:=heap_new1 w₁ (.chan 0 #[] false 0 0 false)
  have wof:(T.grow w₁.heap.size (w₁.heap.size+1)).wr (.obj w₁.heap.size):=.inr ⟨Nat.le_refl _,Nat.lt_succ_self _⟩
  replace F:=F.trans D
  have hsz:=World.size_alloc w₁ (.chan 0 #[] false 0 0 false)
  clear D
  generalize w₁.alloc (.chan 0 #[] false 0 0 false)=wc at I F cof wof hloof hsz⊢
  generalize w₁.heap.size=of at I F cof wof hloof hsz⊢
  generalize T.grow of (of+1)=Tc at I F wof⊢
  clear hsz
  walk_nrm
  refine H.allot (fun s=>.pointer (some ⟨s,0,none⟩)) (.cells #[.pointer none] 75 (0,0)) rfl (by rfl) hk0 (fun w₁=>?_) (fun w₁=>?_) fun w₁ r=>?_
  ·simp[go_sem]
  ·simp[go_sem]
  have D:=(Fr.rely (fun _=>False) r).trans (Fr.alloc _ _ w₁ (.cells #[.pointer none] 75 (0,0)))
  replace I:=(I.rely r).alloc (.cells #[.pointer none] 75 (0,0))
  replace cof:=D.own _ _ wof cof (fun _ _ _=>by simp)
  replace wof:=D.wr _ wof
  have hlobw:w.heap.size≤w₁.heap.size:=Nat.le_trans F.size r.size
  have Obw:=OwnR.new Tc w₁ #[.pointer none] 75
  replace F:=F.trans D
  have hsz:=World.size_alloc w₁ (.cells #[.pointer none] 75 (0,0))
  clear D
  generalize w₁.alloc (.cells #[.pointer none] 75 (0,0))=wc at I F cof wof Obw hlobw hsz⊢
  generalize w₁.heap.size=bw at I F cof wof Obw hlobw hsz⊢
  generalize Tc.grow bw (bw+1)=Tc at I F wof Obw⊢
  clear hsz
  walk_nrm
  refine H.allot (fun s=>.chan (some s)) (.chan 0 #[] false 0 0 false) rfl (by rfl) hk0 (fun w₁=>?_) (fun w₁=>?_) fun w₁ r=>?_
  ·simp[go_sem,hml]
  ·simp[go_sem,hmf]
  have D:=(Fr.rely (fun _=>False) r).trans (Fr.alloc _ _ w₁ (.chan 0 #[] false 0 0 false))
  replace I:=(I.rely r).alloc (.chan 0 #[] false 0 0 false)
  have mof:=Nat.lt_of_lt_of_le (Array.getElem?_eq_some_iff.1 cof).1 r.size
  replace cof:=D.own _ _ wof cof (fun _ _ _=>by simp)
  replace wof:=D.wr _ wof
  replace Obw:=Obw.fr D (by rw[F.kn];exact hk _) id
  have hne:of≠w₁.heap.size:=fun e=>by omega
  have hloan:w.heap.size≤w₁.heap.size:=Nat.le_trans F.size r.size
  have can:=heap_new1 w₁ (.chan 0 #[] false 0 0 false)
  have wan:(Tc.grow w₁.heap.size (w₁.heap.size+1)).wr (.obj w₁.heap.size):=.inr ⟨Nat.le_refl _,Nat.lt_succ_self _⟩
  replace F:=F.trans D
  have hsz:=World.size_alloc w₁ (.chan 0 #[] false 0 0 false)
  clear D
  clear mof
  generalize w₁.alloc (.chan 0 #[] false 0 0 false)=wc at I F cof wof Obw can wan hne hloan hsz⊢
  generalize w₁.heap.size=an at I F cof wof Obw can wan hne hloan hsz⊢
  generalize Tc.grow an (an+1)=Tc at I F wof Obw wan⊢
  clear hsz
  walk_nrm
  co_applyP Gait.pure H _ rfl (by rfl) hk0 (fun _=>run_eq_of ?run4) (fun _=>?evs4) ?rest4
  case run4=>intro K hK;go_simp;exact hK
  case evs4=>simp[go_sem]
  walk_nrm
  refine H.allot (fun s=>.pointer (some ⟨s,0,none⟩)) (.cells #[.chan (some of),.chan (some an),.int .i64 0,.bool false] 79 (0,0)) rfl (by rfl) hk0 (fun w₁=>?_) (fun w₁=>?_) fun w₁ r=>?_
  ·simp[go_sem]
  ·simp[go_sem]
  have D:=(Fr.rely (fun _=>False) r).trans (Fr.alloc _ _ w₁ (.cells #[.chan (some of),.chan (some an),.int .i64 0,.bool false] 79 (0,0)))
  replace I:=(I.rely r).alloc (.cells #[.chan (some of),.chan (some an),.int .i64 0,.bool false] 79 (0,0))
  replace cof:=D.own _ _ wof cof (fun _ _ _=>by simp)
  replace wof:=D.wr _ wof
  replace Obw:=Obw.fr D (by rw[F.kn];exact hk _) id
  replace can:=D.own _ _ wan can (fun _ _ _=>by simp)
  replace wan:=D.wr _ wan
  have hlobx:w.heap.size≤w₁.heap.size:=Nat.le_trans F.size r.size
  have Obx:=OwnR.new Tc w₁ #[.chan (some of),.chan (some an),.int .i64 0,.bool false] 79
  replace F:=F.trans D
  have hsz:=World.size_alloc w₁ (.cells #[.chan (some of),.chan (some an),.int .i64 0,.bool false] 79 (0,0))
  clear D
  generalize w₁.alloc (.cells #[.chan (some of),.chan (some an),.int .i64 0,.bool false] 79 (0,0))=wc at I F cof wof Obw can wan Obx hne hlobx hsz⊢
  generalize w₁.heap.size=bx at I F cof wof Obw can wan Obx hne hlobx hsz⊢
  generalize Tc.grow bx (bx+1)=Tc at I F wof Obw wan Obx⊢
  clear hsz
  walk_nrm
  refine H.store1 Obw 0 (.pointer (some ⟨bx,0,none⟩)) rfl (by rfl) hk0 (fun w₁ O1=>?_) fun w₁ r O1=>?_
  ·have k0:=O1.cell (i:=0) rfl;have z0:=O1.free 0
   refine⟨by go_simp,fun e he=>?_⟩
   simp[go_sem,k0,z0] at he
   exact he
  have D:=(Fr.rely (fun _=>False) r)
  have E:=(Obw.rely r).frSet 0 (.pointer (some ⟨bx,0,none⟩)) not_wg1
  have hxw:bx≠bw:=fun e=>by have h1:=Obx.heap;rw[e,Obw.heap] at h1;simp at h1
  have F1:=(F.trans D).then E fun x hx=>.inr (hx▸hlobw)
  have I1:=(Obw.rely r).giSet (I.rely r) 0 (.pointer (some ⟨bx,0,none⟩)) not_wg1
  refine H.regionEnd ?_
  refine H.le (Nat.zero_le _) (kk of an bx bw _ _ F1 I1 ⟨?_,?_,wof,wan,hne,?_,O1,hloof,hloan,hlobx,hlobw⟩)
  ·exact E.own _ _ wof (D.own _ _ wof cof fun _ _ _=>by simp) fun _ _ _=>by simp
  ·exact E.own _ _ wan (D.own _ _ wan can fun _ _ _=>by simp) fun _ _ _=>by simp
  ·exact(Obx.rely r).fr E (by rw[F.kn];exact hk _) hxw
 ·skip
  have F:Fr (fun _=>False) T T w w:=Fr.refl _ _ _
  refine H.allot (fun s=>.chan (some s)) (.chan 0 #[] false 0 0 false) rfl (by rfl) hk0 (fun w₁=>?_) (fun w₁=>?_) fun w₁ r=>?_
  ·simp[go_sem,hml]
  ·simp[go_sem,hmf]
  have D:=(Fr.rely (fun _=>False) r).trans (Fr.alloc _ _ w₁ (.chan 0 #[] false 0 0 false))
  replace I:=(I.rely r).alloc (.chan 0 #[] false 0 0 false)
  have hloan:w.heap.size≤w₁.heap.size:=Nat.le_trans F.size r.size
  have can:=heap_new1 w₁ (.chan 0 #[] false 0 0 false)
  have wan:(T.grow w₁.heap.size (w₁.heap.size+1)).wr (.obj w₁.heap.size):=.inr ⟨Nat.le_refl _,Nat.lt_succ_self _⟩
  replace F:=F.trans D
  have hsz:=World.size_alloc w₁ (.chan 0 #[] false 0 0 false)
  clear D
  generalize w₁.alloc (.chan 0 #[] false 0 0 false)=wc at I F can wan hloan hsz⊢
  generalize w₁.heap.size=an at I F can wan hloan hsz⊢
  generalize T.grow an (an+1)=Tc at I F wan⊢
  clear hsz
  walk_nrm
  refine H.allot (fun s=>.chan (some s)) (.chan 0 #[] false 0 0 false) rfl (by rfl) hk0 (fun w₁=>?_) (fun w₁=>?_) fun w₁ r=>?_
  ·simp[go_sem,hmk]
  ·simp[go_sem,hme]
  have D:=(Fr.rely (fun _=>False) r).trans (Fr.alloc _ _ w₁ (.chan 0 #[] false 0 0 false))
  replace I:=(I.rely r).alloc (.chan 0 #[] false 0 0 false)
  have man:=Nat.lt_of_lt_of_le (Array.getElem?_eq_some_iff.1 can).1 r.size
  replace can:=D.own _ _ wan can (fun _ _ _=>by simp)
  replace wan:=D.wr _ wan
  have hne:w₁.heap.size≠an:=fun e=>by omega
  have hloof:w.heap.size≤w₁.heap.size:=Nat.le_trans F.size r.size
  have cof:=heap_new1 w₁ (.chan 0 #[] false 0 0 false)
  have wof:(Tc.grow w₁.heap.size (w₁.heap.size+1)).wr (.obj w₁.heap.size):=.inr ⟨Nat.le_refl _,Nat.lt_succ_self _⟩
  replace F:=F.trans D
  have hsz:=World.size_alloc w₁ (.chan 0 #[] false 0 0 false)
  clear D
  clear man
  generalize w₁.alloc (.chan 0 #[] false 0 0 false)=wc at I F can wan cof wof hne hloof hsz⊢
  generalize w₁.heap.size=of at I F can wan cof wof hne hloof hsz⊢
  generalize Tc.grow of (of+1)=Tc at I F wan wof⊢
  clear hsz
  walk_nrm
  co_applyP Gait.pure H _ rfl (by rfl) hk0 (fun _=>run_eq_of ?run5) (fun _=>?evs5) ?rest5
  case run5=>intro K hK;go_simp;exact hK
  case evs5=>simp[go_sem]
  walk_nrm
  refine H.allot (fun s=>.pointer (some ⟨s,0,none⟩)) (.cells #[.chan (some of),.chan (some an),.int .i64 0,.bool false] 79 (0,0)) rfl (by rfl) hk0 (fun w₁=>?_) (fun w₁=>?_) fun w₁ r=>?_
  ·simp[go_sem]
  ·simp[go_sem]
  have D:=(Fr.rely (fun _=>False) r).trans (Fr.alloc _ _ w₁ (.cells #[.chan (some of),.chan (some an),.int .i64 0,.bool false] 79 (0,0)))
  replace I:=(I.rely r).alloc (.cells #[.chan (some of),.chan (some an),.int .i64 0,.bool false] 79 (0,0))
  replace can:=D.own _ _ wan can (fun _ _ _=>by simp)
  replace wan:=D.wr _ wan
  replace cof:=D.own _ _ wof cof (fun _ _ _=>by simp)
  replace wof:=D.wr _ wof
  have hlobx:w.heap.size≤w₁.heap.size:=Nat.le_trans F.size r.size
  have Obx:=OwnR.new Tc w₁ #[.chan (some of),.chan (some an),.int .i64 0,.bool false] 79
  replace F:=F.trans D
  have hsz:=World.size_alloc w₁ (.cells #[.chan (some of),.chan (some an),.int .i64 0,.bool false] 79 (0,0))
  clear D
  generalize w₁.alloc (.cells #[.chan (some of),.chan (some an),.int .i64 0,.bool false] 79 (0,0))=wc at I F can wan cof wof Obx hne hlobx hsz⊢
  generalize w₁.heap.size=bx at I F can wan cof wof Obx hne hlobx hsz⊢
  generalize Tc.grow bx (bx+1)=Tc at I F wan wof Obx⊢
  clear hsz
  walk_nrm
  refine H.allot (fun s=>.pointer (some ⟨s,0,none⟩)) (.cells #[.pointer none] 75 (0,0)) rfl (by rfl) hk0 (fun w₁=>?_) (fun w₁=>?_) fun w₁ r=>?_
  ·simp[go_sem]
  ·simp[go_sem]
  have D:=(Fr.rely (fun _=>False) r).trans (Fr.alloc _ _ w₁ (.cells #[.pointer none] 75 (0,0)))
  replace I:=(I.rely r).alloc (.cells #[.pointer none] 75 (0,0))
  replace can:=D.own _ _ wan can (fun _ _ _=>by simp)
  replace wan:=D.wr _ wan
  replace cof:=D.own _ _ wof cof (fun _ _ _=>by simp)
  replace wof:=D.wr _ wof
  replace Obx:=Obx.fr D (by rw[F.kn];exact hk _) id
  have hlobw:w.heap.size≤w₁.heap.size:=Nat.le_trans F.size r.size
  have Obw:=OwnR.new Tc w₁ #[.pointer none] 75
  replace F:=F.trans D
  have hsz:=World.size_alloc w₁ (.cells #[.pointer none] 75 (0,0))
  clear D
  generalize w₁.alloc (.cells #[.pointer none] 75 (0,0))=wc at I F can wan cof wof Obx Obw hne hlobw hsz⊢
  generalize w₁.heap.size=bw at I F can wan cof wof Obx Obw hne hlobw hsz⊢
  generalize Tc.grow bw (bw+1)=Tc at I F wan wof Obx Obw⊢
  clear hsz
  walk_nrm
  refine H.store1 Obw 0 (.pointer (some ⟨bx,0,none⟩)) rfl (by rfl) hk0 (fun w₁ O1=>?_) fun w₁ r O1=>?_
  ·have k0:=O1.cell (i:=0) rfl;have z0:=O1.free 0
   refine⟨by go_simp,fun e he=>?_⟩
   simp[go_sem,k0,z0] at he
   exact he
  have D:=(Fr.rely (fun _=>False) r)
  have E:=(Obw.rely r).frSet 0 (.pointer (some ⟨bx,0,none⟩)) not_wg1
  have hxw:bx≠bw:=fun e=>by have h1:=Obx.heap;rw[e,Obw.heap] at h1;simp at h1
  have F1:=(F.trans D).then E fun x hx=>.inr (hx▸hlobw)
  have I1:=(Obw.rely r).giSet (I.rely r) 0 (.pointer (some ⟨bx,0,none⟩)) not_wg1
  refine H.regionEnd ?_
  refine H.le (Nat.zero_le _) (kk of an bx bw _ _ F1 I1 ⟨?_,?_,wof,wan,hne,?_,O1,hloof,hloan,hlobx,hlobw⟩)
  ·exact E.own _ _ wof (D.own _ _ wof cof fun _ _ _=>by simp) fun _ _ _=>by simp
  ·exact E.own _ _ wan (D.own _ _ wan can fun _ _ _=>by simp) fun _ _ _=>by simp
  ·exact(Obx.rely r).fr E (by rw[F.kn];exact hk _) hxw
 ·skip
  have F:Fr (fun _=>False) T T w w:=Fr.refl _ _ _
  refine H.allot (fun s=>.chan (some s)) (.chan 0 #[] false 0 0 false) rfl (by rfl) hk0 (fun w₁=>?_) (fun w₁=>?_) fun w₁ r=>?_
  ·simp[go_sem,hml]
  ·simp[go_sem,hmf]
  have D:=(Fr.rely (fun _=>False) r).trans (Fr.alloc _ _ w₁ (.chan 0 #[] false 0 0 false))
  replace I:=(I.rely r).alloc (.chan 0 #[] false 0 0 false)
  have hloan:w.heap.size≤w₁.heap.size:=Nat.le_trans F.size r.size
  have can:=heap_new1 w₁ (.chan 0 #[] false 0 0 false)
  have wan:(T.grow w₁.heap.size (w₁.heap.size+1)).wr (.obj w₁.heap.size):=.inr ⟨Nat.le_refl _,Nat.lt_succ_self _⟩
  replace F:=F.trans D
  have hsz:=World.size_alloc w₁ (.chan 0 #[] false 0 0 false)
  clear D
  generalize w₁.alloc (.chan 0 #[] false 0 0 false)=wc at I F can wan hloan hsz⊢
  generalize w₁.heap.size=an at I F can wan hloan hsz⊢
  generalize T.grow an (an+1)=Tc at I F wan⊢
  clear hsz
  walk_nrm
  refine H.allot (fun s=>.chan (some s)) (.chan 0 #[] false 0 0 false) rfl (by rfl) hk0 (fun w₁=>?_) (fun w₁=>?_) fun w₁ r=>?_
  ·simp[go_sem,hmk]
  ·simp[go_sem,hme]
  have D:=(Fr.rely (fun _=>False) r).trans (Fr.alloc _ _ w₁ (.chan 0 #[] false 0 0 false))
  replace I:=(I.rely r).alloc (.chan 0 #[] false 0 0 false)
  have man:=Nat.lt_of_lt_of_le (Array.getElem?_eq_some_iff.1 can).1 r.size
  replace can:=D.own _ _ wan can (fun _ _ _=>by simp)
  replace wan:=D.wr _ wan
  have hne:w₁.heap.size≠an:=fun e=>by omega
  have hloof:w.heap.size≤w₁.heap.size:=Nat.le_trans F.size r.size
  have cof:=heap_new1 w₁ (.chan 0 #[] false 0 0 false)
  have wof:(Tc.grow w₁.heap.size (w₁.heap.size+1)).wr (.obj w₁.heap.size):=.inr ⟨Nat.le_refl _,Nat.lt_succ_self _⟩
  replace F:=F.trans D
  have hsz:=World.size_alloc w₁ (.chan 0 #[] false 0 0 false)
  clear D
  clear man
  generalize w₁.alloc (.chan 0 #[] false 0 0 false)=wc at I F can wan cof wof hne hloof hsz⊢
  generalize w₁.heap.size=of at I F can wan cof wof hne hloof hsz⊢
  generalize Tc.grow of (of+1)=Tc at I F wan wof⊢
  clear hsz
  walk_nrm
  co_applyP Gait.pure H _ rfl (by rfl) hk0 (fun _=>run_eq_of ?run6) (fun _=>?evs6) ?rest6
  case run6=>intro K hK;go_simp;exact hK
  case evs6=>simp[go_sem]
  walk_nrm
  refine H.allot (fun s=>.pointer (some ⟨s,0,none⟩)) (.cells #[.pointer none] 75 (0,0)) rfl (by rfl) hk0 (fun w₁=>?_) (fun w₁=>?_) fun w₁ r=>?_
  ·simp[go_sem]
  ·simp[go_sem]
  have D:=(Fr.rely (fun _=>False) r).trans (Fr.alloc _ _ w₁ (.cells #[.pointer none] 75 (0,0)))
  replace I:=(I.rely r).alloc (.cells #[.pointer none] 75 (0,0))
  replace can:=D.own _ _ wan can (fun _ _ _=>by simp)
  replace wan:=D.wr _ wan
  replace cof:=D.own _ _ wof cof (fun _ _ _=>by simp)
  replace wof:=D.wr _ wof
  have hlobw:w.heap.size≤w₁.heap.size:=Nat.le_trans F.size r.size
  have Obw:=OwnR.new Tc w₁ #[.pointer none] 75
  replace F:=F.trans D
  have hsz:=World.size_alloc w₁ (.cells #[.pointer none] 75 (0,0))
  clear D
  generalize w₁.alloc (.cells #[.pointer none] 75 (0,0))=wc at I F can wan cof wof Obw hne hlobw hsz⊢
  generalize w₁.heap.size=bw at I F can wan cof wof Obw hne hlobw hsz⊢
  generalize Tc.grow bw (bw+1)=Tc at I F wan wof Obw⊢
  clear hsz
  walk_nrm
  refine H.allot (fun s=>.pointer (some ⟨s,0,none⟩)) (.cells #[.chan (some of),.chan (some an),.int .i64 0,.bool false] 79 (0,0)) rfl (by rfl) hk0 (fun w₁=>?_) (fun w₁=>?_) fun w₁ r=>?_
  ·simp[go_sem]
  ·simp[go_sem]
  have D:=(Fr.rely (fun _=>False) r).trans (Fr.alloc _ _ w₁ (.cells #[.chan (some of),.chan (some an),.int .i64 0,.bool false] 79 (0,0)))
  replace I:=(I.rely r).alloc (.cells #[.chan (some of),.chan (some an),.int .i64 0,.bool false] 79 (0,0))
  replace can:=D.own _ _ wan can (fun _ _ _=>by simp)
  replace wan:=D.wr _ wan
  replace cof:=D.own _ _ wof cof (fun _ _ _=>by simp)
  replace wof:=D.wr _ wof
  replace Obw:=Obw.fr D (by rw[F.kn];exact hk _) id
  have hlobx:w.heap.size≤w₁.heap.size:=Nat.le_trans F.size r.size
  have Obx:=OwnR.new Tc w₁ #[.chan (some of),.chan (some an),.int .i64 0,.bool false] 79
  replace F:=F.trans D
  have hsz:=World.size_alloc w₁ (.cells #[.chan (some of),.chan (some an),.int .i64 0,.bool false] 79 (0,0))
  clear D
  generalize w₁.alloc (.cells #[.chan (some of),.chan (some an),.int .i64 0,.bool false] 79 (0,0))=wc at I F can wan cof wof Obw Obx hne hlobx hsz⊢
  generalize w₁.heap.size=bx at I F can wan cof wof Obw Obx hne hlobx hsz⊢
  generalize Tc.grow bx (bx+1)=Tc at I F wan wof Obw Obx⊢
  clear hsz
  walk_nrm
  refine H.store1 Obw 0 (.pointer (some ⟨bx,0,none⟩)) rfl (by rfl) hk0 (fun w₁ O1=>?_) fun w₁ r O1=>?_
  ·have k0:=O1.cell (i:=0) rfl;have z0:=O1.free 0
   refine⟨by go_simp,fun e he=>?_⟩
   simp[go_sem,k0,z0] at he
   exact he
  have D:=(Fr.rely (fun _=>False) r)
  have E:=(Obw.rely r).frSet 0 (.pointer (some ⟨bx,0,none⟩)) not_wg1
  have hxw:bx≠bw:=fun e=>by have h1:=Obx.heap;rw[e,Obw.heap] at h1;simp at h1
  have F1:=(F.trans D).then E fun x hx=>.inr (hx▸hlobw)
  have I1:=(Obw.rely r).giSet (I.rely r) 0 (.pointer (some ⟨bx,0,none⟩)) not_wg1
  refine H.regionEnd ?_
  refine H.le (Nat.zero_le _) (kk of an bx bw _ _ F1 I1 ⟨?_,?_,wof,wan,hne,?_,O1,hloof,hloan,hlobx,hlobw⟩)
  ·exact E.own _ _ wof (D.own _ _ wof cof fun _ _ _=>by simp) fun _ _ _=>by simp
  ·exact E.own _ _ wan (D.own _ _ wan can fun _ _ _=>by simp) fun _ _ _=>by simp
  ·exact(Obx.rely r).fr E (by rw[F.kn];exact hk _) hxw
 ·skip
  have F:Fr (fun _=>False) T T w w:=Fr.refl _ _ _
  refine H.allot (fun s=>.chan (some s)) (.chan 0 #[] false 0 0 false) rfl (by rfl) hk0 (fun w₁=>?_) (fun w₁=>?_) fun w₁ r=>?_
  ·simp[go_sem,hml]
  ·simp[go_sem,hmf]
  have D:=(Fr.rely (fun _=>False) r).trans (Fr.alloc _ _ w₁ (.chan 0 #[] false 0 0 false))
  replace I:=(I.rely r).alloc (.chan 0 #[] false 0 0 false)
  have hloan:w.heap.size≤w₁.heap.size:=Nat.le_trans F.size r.size
  have can:=heap_new1 w₁ (.chan 0 #[] false 0 0 false)
  have wan:(T.grow w₁.heap.size (w₁.heap.size+1)).wr (.obj w₁.heap.size):=.inr ⟨Nat.le_refl _,Nat.lt_succ_self _⟩
  replace F:=F.trans D
  have hsz:=World.size_alloc w₁ (.chan 0 #[] false 0 0 false)
  clear D
  generalize w₁.alloc (.chan 0 #[] false 0 0 false)=wc at I F can wan hloan hsz⊢
  generalize w₁.heap.size=an at I F can wan hloan hsz⊢
  generalize T.grow an (an+1)=Tc at I F wan⊢
  clear hsz
  walk_nrm
  refine H.allot (fun s=>.chan (some s)) (.chan 0 #[] false 0 0 false) rfl (by rfl) hk0 (fun w₁=>?_) (fun w₁=>?_) fun w₁ r=>?_
  ·simp[go_sem,hmk]
  ·simp[go_sem,hme]
  have D:=(Fr.rely (fun _=>False) r).trans (Fr.alloc _ _ w₁ (.chan 0 #[] false 0 0 false))
  replace I:=(I.rely r).alloc (.chan 0 #[] false 0 0 false)
  have man:=Nat.lt_of_lt_of_le (Array.getElem?_eq_some_iff.1 can).1 r.size
  replace can:=D.own _ _ wan can (fun _ _ _=>by simp)
  replace wan:=D.wr _ wan
  have hne:w₁.heap.size≠an:=fun e=>by omega
  have hloof:w.heap.size≤w₁.heap.size:=Nat.le_trans F.size r.size
  have cof:=heap_new1 w₁ (.chan 0 #[] false 0 0 false)
  have wof:(Tc.grow w₁.heap.size (w₁.heap.size+1)).wr (.obj w₁.heap.size):=.inr ⟨Nat.le_refl _,Nat.lt_succ_self _⟩
  replace F:=F.trans D
  have hsz:=World.size_alloc w₁ (.chan 0 #[] false 0 0 false)
  clear D
  clear man
  generalize w₁.alloc (.chan 0 #[] false 0 0 false)=wc at I F can wan cof wof hne hloof hsz⊢
  generalize w₁.heap.size=of at I F can wan cof wof hne hloof hsz⊢
  generalize Tc.grow of (of+1)=Tc at I F wan wof⊢
  clear hsz
  walk_nrm
  refine H.allot (fun s=>.pointer (some ⟨s,0,none⟩)) (.cells #[.pointer none] 75 (0,0)) rfl (by rfl) hk0 (fun w₁=>?_) (fun w₁=>?_) fun w₁ r=>?_
  ·simp[go_sem]
  ·simp[go_sem]
  have D:=(Fr.rely (fun _=>False) r).trans (Fr.alloc _ _ w₁ (.cells #[.pointer none] 75 (0,0)))
  replace I:=(I.rely r).alloc (.cells #[.pointer none] 75 (0,0))
  replace can:=D.own _ _ wan can (fun _ _ _=>by simp)
  replace wan:=D.wr _ wan
  replace cof:=D.own _ _ wof cof (fun _ _ _=>by simp)
  replace wof:=D.wr _ wof
  have hlobw:w.heap.size≤w₁.heap.size:=Nat.le_trans F.size r.size
  have Obw:=OwnR.new Tc w₁ #[.pointer none] 75
  replace F:=F.trans D
  have hsz:=World.size_alloc w₁ (.cells #[.pointer none] 75 (0,0))
  clear D
  generalize w₁.alloc (.cells #[.pointer none] 75 (0,0))=wc at I F can wan cof wof Obw hne hlobw hsz⊢
  generalize w₁.heap.size=bw at I F can wan cof wof Obw hne hlobw hsz⊢
  generalize Tc.grow bw (bw+1)=Tc at I F wan wof Obw⊢
  clear hsz
  walk_nrm
  co_applyP Gait.pure H _ rfl (by rfl) hk0 (fun _=>run_eq_of ?run7) (fun _=>?evs7) ?rest7
  case run7=>intro K hK;go_simp;exact hK
  case evs7=>simp[go_sem]
  walk_nrm
  refine H.allot (fun s=>.pointer (some ⟨s,0,none⟩)) (.cells #[.chan (some of),.chan (some an),.int .i64 0,.bool false] 79 (0,0)) rfl (by rfl) hk0 (fun w₁=>?_) (fun w₁=>?_) fun w₁ r=>?_
  ·simp[go_sem]
  ·simp[go_sem]
  have D:=(Fr.rely (fun _=>False) r).trans (Fr.alloc _ _ w₁ (.cells #[.chan (some of),.chan (some an),.int .i64 0,.bool false] 79 (0,0)))
  replace I:=(I.rely r).alloc (.cells #[.chan (some of),.chan (some an),.int .i64 0,.bool false] 79 (0,0))
  replace can:=D.own _ _ wan can (fun _ _ _=>by simp)
  replace wan:=D.wr _ wan
  replace cof:=D.own _ _ wof cof (fun _ _ _=>by simp)
  replace wof:=D.wr _ wof
  replace Obw:=Obw.fr D (by rw[F.kn];exact hk _) id
  have hlobx:w.heap.size≤w₁.heap.size:=Nat.le_trans F.size r.size
  have Obx:=OwnR.new Tc w₁ #[.chan (some of),.chan (some an),.int .i64 0,.bool false] 79
  replace F:=F.trans D
  have hsz:=World.size_alloc w₁ (.cells #[.chan (some of),.chan (some an),.int .i64 0,.bool false] 79 (0,0))
  clear D
  generalize w₁.alloc (.cells #[.chan (some of),.chan (some an),.int .i64 0,.bool false] 79 (0,0))=wc at I F can wan cof wof Obw Obx hne hlobx hsz⊢
  generalize w₁.heap.size=bx at I F can wan cof wof Obw Obx hne hlobx hsz⊢
  generalize Tc.grow bx (bx+1)=Tc at I F wan wof Obw Obx⊢
  clear hsz
  walk_nrm
  refine H.store1 Obw 0 (.pointer (some ⟨bx,0,none⟩)) rfl (by rfl) hk0 (fun w₁ O1=>?_) fun w₁ r O1=>?_
  ·have k0:=O1.cell (i:=0) rfl;have z0:=O1.free 0
   refine⟨by go_simp,fun e he=>?_⟩
   simp[go_sem,k0,z0] at he
   exact he
  have D:=(Fr.rely (fun _=>False) r)
  have E:=(Obw.rely r).frSet 0 (.pointer (some ⟨bx,0,none⟩)) not_wg1
  have hxw:bx≠bw:=fun e=>by have h1:=Obx.heap;rw[e,Obw.heap] at h1;simp at h1
  have F1:=(F.trans D).then E fun x hx=>.inr (hx▸hlobw)
  have I1:=(Obw.rely r).giSet (I.rely r) 0 (.pointer (some ⟨bx,0,none⟩)) not_wg1
  refine H.regionEnd ?_
  refine H.le (Nat.zero_le _) (kk of an bx bw _ _ F1 I1 ⟨?_,?_,wof,wan,hne,?_,O1,hloof,hloan,hlobx,hlobw⟩)
  ·exact E.own _ _ wof (D.own _ _ wof cof fun _ _ _=>by simp) fun _ _ _=>by simp
  ·exact E.own _ _ wan (D.own _ _ wan can fun _ _ _=>by simp) fun _ _ _=>by simp
  ·exact(Obx.rely r).fr E (by rw[F.kn];exact hk _) hxw
 ·skip
  have F:Fr (fun _=>False) T T w w:=Fr.refl _ _ _
  refine H.allot (fun s=>.chan (some s)) (.chan 0 #[] false 0 0 false) rfl (by rfl) hk0 (fun w₁=>?_) (fun w₁=>?_) fun w₁ r=>?_
  ·simp[go_sem,hml]
  ·simp[go_sem,hmf]
  have D:=(Fr.rely (fun _=>False) r).trans (Fr.alloc _ _ w₁ (.chan 0 #[] false 0 0 false))
  replace I:=(I.rely r).alloc (.chan 0 #[] false 0 0 false)
  have hloan:w.heap.size≤w₁.heap.size:=Nat.le_trans F.size r.size
  have can:=heap_new1 w₁ (.chan 0 #[] false 0 0 false)
  have wan:(T.grow w₁.heap.size (w₁.heap.size+1)).wr (.obj w₁.heap.size):=.inr ⟨Nat.le_refl _,Nat.lt_succ_self _⟩
  replace F:=F.trans D
  have hsz:=World.size_alloc w₁ (.chan 0 #[] false 0 0 false)
  clear D
  generalize w₁.alloc (.chan 0 #[] false 0 0 false)=wc at I F can wan hloan hsz⊢
  generalize w₁.heap.size=an at I F can wan hloan hsz⊢
  generalize T.grow an (an+1)=Tc at I F wan⊢
  clear hsz
  walk_nrm
  refine H.allot (fun s=>.pointer (some ⟨s,0,none⟩)) (.cells #[.pointer none] 75 (0,0)) rfl (by rfl) hk0 (fun w₁=>?_) (fun w₁=>?_) fun w₁ r=>?_
  ·simp[go_sem]
  ·simp[go_sem]
  have D:=(Fr.rely (fun _=>False) r).trans (Fr.alloc _ _ w₁ (.cells #[.pointer none] 75 (0,0)))
  replace I:=(I.rely r).alloc (.cells #[.pointer none] 75 (0,0))
  replace can:=D.own _ _ wan can (fun _ _ _=>by simp)
  replace wan:=D.wr _ wan
  have hlobw:w.heap.size≤w₁.heap.size:=Nat.le_trans F.size r.size
  have Obw:=OwnR.new Tc w₁ #[.pointer none] 75
  replace F:=F.trans D
  have hsz:=World.size_alloc w₁ (.cells #[.pointer none] 75 (0,0))
  clear D
  generalize w₁.alloc (.cells #[.pointer none] 75 (0,0))=wc at I F can wan Obw hlobw hsz⊢
  generalize w₁.heap.size=bw at I F can wan Obw hlobw hsz⊢
  generalize Tc.grow bw (bw+1)=Tc at I F wan Obw⊢
  clear hsz
  walk_nrm
  refine H.allot (fun s=>.chan (some s)) (.chan 0 #[] false 0 0 false) rfl (by rfl) hk0 (fun w₁=>?_) (fun w₁=>?_) fun w₁ r=>?_
  ·simp[go_sem,hmk]
  ·simp[go_sem,hme]
  have D:=(Fr.rely (fun _=>False) r).trans (Fr.alloc _ _ w₁ (.chan 0 #[] false 0 0 false))
  replace I:=(I.rely r).alloc (.chan 0 #[] false 0 0 false)
  have man:=Nat.lt_of_lt_of_le (Array.getElem?_eq_some_iff.1 can).1 r.size
  replace can:=D.own _ _ wan can (fun _ _ _=>by simp)
  replace wan:=D.wr _ wan
  replace Obw:=Obw.fr D (by rw[F.kn];exact hk _) id
  have hne:w₁.heap.size≠an:=fun e=>by omega
  have hloof:w.heap.size≤w₁.heap.size:=Nat.le_trans F.size r.size
  have cof:=heap_new1 w₁ (.chan 0 #[] false 0 0 false)
  have wof:(Tc.grow w₁.heap.size (w₁.heap.size+1)).wr (.obj w₁.heap.size):=.inr ⟨Nat.le_refl _,Nat.lt_succ_self _⟩
  replace F:=F.trans D
  have hsz:=World.size_alloc w₁ (.chan 0 #[] false 0 0 false)
  clear D
  clear man
  generalize w₁.alloc (.chan 0 #[] false 0 0 false)=wc at I F can wan Obw cof wof hne hloof hsz⊢
  generalize w₁.heap.size=of at I F can wan Obw cof wof hne hloof hsz⊢
  generalize Tc.grow of (of+1)=Tc at I F wan Obw wof⊢
  clear hsz
  walk_nrm
  co_applyP Gait.pure H _ rfl (by rfl) hk0 (fun _=>run_eq_of ?run8) (fun _=>?evs8) ?rest8
  case run8=>intro K hK;go_simp;exact hK
  case evs8=>simp[go_sem]
  walk_nrm
  refine H.allot (fun s=>.pointer (some ⟨s,0,none⟩)) (.cells #[.chan (some of),.chan (some an),.int .i64 0,.bool false] 79 (0,0)) rfl (by rfl) hk0 (fun w₁=>?_) (fun w₁=>?_) fun w₁ r=>?_
  ·simp[go_sem]
  ·simp[go_sem]
  have D:=(Fr.rely (fun _=>False) r).trans (Fr.alloc _ _ w₁ (.cells #[.chan (some of),.chan (some an),.int .i64 0,.bool false] 79 (0,0)))
  replace I:=(I.rely r).alloc (.cells #[.chan (some of),.chan (some an),.int .i64 0,.bool false] 79 (0,0))
  replace can:=D.own _ _ wan can (fun _ _ _=>by simp)
  replace wan:=D.wr _ wan
  replace Obw:=Obw.fr D (by rw[F.kn];exact hk _) id
  replace cof:=D.own _ _ wof cof (fun _ _ _=>by simp)
  replace wof:=D.wr _ wof
  have hlobx:w.heap.size≤w₁.heap.size:=Nat.le_trans F.size r.size
  have Obx:=OwnR.new Tc w₁ #[.chan (some of),.chan (some an),.int .i64 0,.bool false] 79
  replace F:=F.trans D
  have hsz:=World.size_alloc w₁ (.cells #[.chan (some of),.chan (some an),.int .i64 0,.bool false] 79 (0,0))
  clear D
  generalize w₁.alloc (.cells #[.chan (some of),.chan (some an),.int .i64 0,.bool false] 79 (0,0))=wc at I F can wan Obw cof wof Obx hne hlobx hsz⊢
  generalize w₁.heap.size=bx at I F can wan Obw cof wof Obx hne hlobx hsz⊢
  generalize Tc.grow bx (bx+1)=Tc at I F wan Obw wof Obx⊢
  clear hsz
  walk_nrm
  refine H.store1 Obw 0 (.pointer (some ⟨bx,0,none⟩)) rfl (by rfl) hk0 (fun w₁ O1=>?_) fun w₁ r O1=>?_
  ·have k0:=O1.cell (i:=0) rfl;have z0:=O1.free 0
   refine⟨by go_simp,fun e he=>?_⟩
   simp[go_sem,k0,z0] at he
   exact he
  have D:=(Fr.rely (fun _=>False) r)
  have E:=(Obw.rely r).frSet 0 (.pointer (some ⟨bx,0,none⟩)) not_wg1
  have hxw:bx≠bw:=fun e=>by have h1:=Obx.heap;rw[e,Obw.heap] at h1;simp at h1
  have F1:=(F.trans D).then E fun x hx=>.inr (hx▸hlobw)
  have I1:=(Obw.rely r).giSet (I.rely r) 0 (.pointer (some ⟨bx,0,none⟩)) not_wg1
  refine H.regionEnd ?_
  refine H.le (Nat.zero_le _) (kk of an bx bw _ _ F1 I1 ⟨?_,?_,wof,wan,hne,?_,O1,hloof,hloan,hlobx,hlobw⟩)
  ·exact E.own _ _ wof (D.own _ _ wof cof fun _ _ _=>by simp) fun _ _ _=>by simp
  ·exact E.own _ _ wan (D.own _ _ wan can fun _ _ _=>by simp) fun _ _ _=>by simp
  ·exact(Obx.rely r).fr E (by rw[F.kn];exact hk _) hxw
 ·skip
  have F:Fr (fun _=>False) T T w w:=Fr.refl _ _ _
  refine H.allot (fun s=>.pointer (some ⟨s,0,none⟩)) (.cells #[.pointer none] 75 (0,0)) rfl (by rfl) hk0 (fun w₁=>?_) (fun w₁=>?_) fun w₁ r=>?_
  ·simp[go_sem]
  ·simp[go_sem]
  have D:=(Fr.rely (fun _=>False) r).trans (Fr.alloc _ _ w₁ (.cells #[.pointer none] 75 (0,0)))
  replace I:=(I.rely r).alloc (.cells #[.pointer none] 75 (0,0))
  have hlobw:w.heap.size≤w₁.heap.size:=Nat.le_trans F.size r.size
  have Obw:=OwnR.new T w₁ #[.pointer none] 75
  replace F:=F.trans D
  have hsz:=World.size_alloc w₁ (.cells #[.pointer none] 75 (0,0))
  clear D
  generalize w₁.alloc (.cells #[.pointer none] 75 (0,0))=wc at I F Obw hlobw hsz⊢
  generalize w₁.heap.size=bw at I F Obw hlobw hsz⊢
  generalize T.grow bw (bw+1)=Tc at I F Obw⊢
  clear hsz
  walk_nrm
  refine H.allot (fun s=>.chan (some s)) (.chan 0 #[] false 0 0 false) rfl (by rfl) hk0 (fun w₁=>?_) (fun w₁=>?_) fun w₁ r=>?_
  ·simp[go_sem,hmk]
  ·simp[go_sem,hme]
  have D:=(Fr.rely (fun _=>False) r).trans (Fr.alloc _ _ w₁ (.chan 0 #[] false 0 0 false))
  replace I:=(I.rely r).alloc (.chan 0 #[] false 0 0 false)
  replace Obw:=Obw.fr D (by rw[F.kn];exact hk _) id
  have hloof:w.heap.size≤w₁.heap.size:=Nat.le_trans F.size r.size
  have cof:=heap_new1 w₁ (.chan 0 #[] false 0 0 false)
  have wof:(Tc.grow w₁.heap.size (w₁.heap.size+1)).wr (.obj w₁.heap.size):=.inr ⟨Nat.le_refl _,Nat.lt_succ_self _⟩
  replace F:=F.trans D
  have hsz:=World.size_alloc w₁ (.chan 0 #[] false 0 0 false)
  clear D
  generalize w₁.alloc (.chan 0 #[] false 0 0 false)=wc at I F Obw cof wof hloof hsz⊢
  generalize w₁.heap.size=of at I F Obw cof wof hloof hsz⊢
  generalize Tc.grow of (of+1)=Tc at I F Obw wof⊢
  clear hsz
  walk_nrm
  refine H.allot (fun s=>.chan (some s)) (.chan 0 #[] false 0 0 false) rfl (by rfl) hk0 (fun w₁=>?_) (fun w₁=>?_) fun w₁ r=>?_
  ·simp[go_sem,hml]
  ·simp[go_sem,hmf]
  have D:=(Fr.rely (fun _=>False) r).trans (Fr.alloc _ _ w₁ (.chan 0 #[] false 0 0 false))
  replace I:=(I.rely r).alloc (.chan 0 #[] false 0 0 false)
  replace Obw:=Obw.fr D (by rw[F.kn];exact hk _) id
  have mof:=Nat.lt_of_lt_of_le (Array.getElem?_eq_some_iff.1 cof).1 r.size
  replace cof:=D.own _ _ wof cof (fun _ _ _=>by simp)
  replace wof:=D.wr _ wof
  have hne:of≠w₁.heap.size:=fun e=>by omega
  have hloan:w.heap.size≤w₁.heap.size:=Nat.le_trans F.size r.size
  have can:=heap_new1 w₁ (.chan 0 #[] false 0 0 false)
  have wan:(Tc.grow w₁.heap.size (w₁.heap.size+1)).wr (.obj w₁.heap.size):=.inr ⟨Nat.le_refl _,Nat.lt_succ_self _⟩
  replace F:=F.trans D
  have hsz:=World.size_alloc w₁ (.chan 0 #[] false 0 0 false)
  clear D
  clear mof
  generalize w₁.alloc (.chan 0 #[] false 0 0 false)=wc at I F Obw cof wof can wan hne hloan hsz⊢
  generalize w₁.heap.size=an at I F Obw cof wof can wan hne hloan hsz⊢
  generalize Tc.grow an (an+1)=Tc at I F Obw wof wan⊢
  clear hsz
  walk_nrm
  co_applyP Gait.pure H _ rfl (by rfl) hk0 (fun _=>run_eq_of ?run9) (fun _=>?evs9) ?rest9
  case run9=>intro K hK;go_simp;exact hK
  case evs9=>simp[go_sem]
  walk_nrm
  refine H.allot (fun s=>.pointer (some ⟨s,0,none⟩)) (.cells #[.chan (some of),.chan (some an),.int .i64 0,.bool false] 79 (0,0)) rfl (by rfl) hk0 (fun w₁=>?_) (fun w₁=>?_) fun w₁ r=>?_
  ·simp[go_sem]
  ·simp[go_sem]
  have D:=(Fr.rely (fun _=>False) r).trans (Fr.alloc _ _ w₁ (.cells #[.chan (some of),.chan (some an),.int .i64 0,.bool false] 79 (0,0)))
  replace I:=(I.rely r).alloc (.cells #[.chan (some of),.chan (some an),.int .i64 0,.bool false] 79 (0,0))
  replace Obw:=Obw.fr D (by rw[F.kn];exact hk _) id
  replace cof:=D.own _ _ wof cof (fun _ _ _=>by simp)
  replace wof:=D.wr _ wof
  replace can:=D.own _ _ wan can (fun _ _ _=>by simp)
  replace wan:=D.wr _ wan
  have hlobx:w.heap.size≤w₁.heap.size:=Nat.le_trans F.size r.size
  have Obx:=OwnR.new Tc w₁ #[.chan (some of),.chan (some an),.int .i64 0,.bool false] 79
  replace F:=F.trans D
  have hsz:=World.size_alloc w₁ (.cells #[.chan (some of),.chan (some an),.int .i64 0,.bool false] 79 (0,0))
  clear D
  generalize w₁.alloc (.cells #[.chan (some of),.chan (some an),.int .i64 0,.bool false] 79 (0,0))=wc at I F Obw cof wof can wan Obx hne hlobx hsz⊢
  generalize w₁.heap.size=bx at I F Obw cof wof can wan Obx hne hlobx hsz⊢
  generalize Tc.grow bx (bx+1)=Tc at I F Obw wof wan Obx⊢
  clear hsz
  walk_nrm
  refine H.store1 Obw 0 (.pointer (some ⟨bx,0,none⟩)) rfl (by rfl) hk0 (fun w₁ O1=>?_) fun w₁ r O1=>?_
  ·have k0:=O1.cell (i:=0) rfl;have z0:=O1.free 0
   refine⟨by go_simp,fun e he=>?_⟩
   simp[go_sem,k0,z0] at he
   exact he
  have D:=(Fr.rely (fun _=>False) r)
  have E:=(Obw.rely r).frSet 0 (.pointer (some ⟨bx,0,none⟩)) not_wg1
  have hxw:bx≠bw:=fun e=>by have h1:=Obx.heap;rw[e,Obw.heap] at h1;simp at h1
  have F1:=(F.trans D).then E fun x hx=>.inr (hx▸hlobw)
  have I1:=(Obw.rely r).giSet (I.rely r) 0 (.pointer (some ⟨bx,0,none⟩)) not_wg1
  refine H.regionEnd ?_
  refine H.le (Nat.zero_le _) (kk of an bx bw _ _ F1 I1 ⟨?_,?_,wof,wan,hne,?_,O1,hloof,hloan,hlobx,hlobw⟩)
  ·exact E.own _ _ wof (D.own _ _ wof cof fun _ _ _=>by simp) fun _ _ _=>by simp
  ·exact E.own _ _ wan (D.own _ _ wan can fun _ _ _=>by simp) fun _ _ _=>by simp
  ·exact(Obx.rely r).fr E (by rw[F.kn];exact hk _) hxw
 ·skip
  have F:Fr (fun _=>False) T T w w:=Fr.refl _ _ _
  refine H.allot (fun s=>.pointer (some ⟨s,0,none⟩)) (.cells #[.pointer none] 75 (0,0)) rfl (by rfl) hk0 (fun w₁=>?_) (fun w₁=>?_) fun w₁ r=>?_
  ·simp[go_sem]
  ·simp[go_sem]
  have D:=(Fr.rely (fun _=>False) r).trans (Fr.alloc _ _ w₁ (.cells #[.pointer none] 75 (0,0)))
  replace I:=(I.rely r).alloc (.cells #[.pointer none] 75 (0,0))
  have hlobw:w.heap.size≤w₁.heap.size:=Nat.le_trans F.size r.size
  have Obw:=OwnR.new T w₁ #[.pointer none] 75
  replace F:=F.trans D
  have hsz:=World.size_alloc w₁ (.cells #[.pointer none] 75 (0,0))
  clear D
  generalize w₁.alloc (.cells #[.pointer none] 75 (0,0))=wc at I F Obw hlobw hsz⊢
  generalize w₁.heap.size=bw at I F Obw hlobw hsz⊢
  generalize T.grow bw (bw+1)=Tc at I F Obw⊢
  clear hsz
  walk_nrm
  refine H.allot (fun s=>.chan (some s)) (.chan 0 #[] false 0 0 false) rfl (by rfl) hk0 (fun w₁=>?_) (fun w₁=>?_) fun w₁ r=>?_
  ·simp[go_sem,hml]
  ·simp[go_sem,hmf]
  have D:=(Fr.rely (fun _=>False) r).trans (Fr.alloc _ _ w₁ (.chan 0 #[] false 0 0 false))
  replace I:=(I.rely r).alloc (.chan 0 #[] false 0 0 false)
  replace Obw:=Obw.fr D (by rw[F.kn];exact hk _) id
  have hloan:w.heap.size≤w₁.heap.size:=Nat.le_trans F.size r.size
  have can:=heap_new1 w₁ (.chan 0 #[] false 0 0 false)
  have wan:(Tc.grow w₁.heap.size (w₁.heap.size+1)).wr (.obj w₁.heap.size):=.inr ⟨Nat.le_refl _,Nat.lt_succ_self _⟩
  replace F:=F.trans D
  have hsz:=World.size_alloc w₁ (.chan 0 #[] false 0 0 false)
  clear D
  generalize w₁.alloc (.chan 0 #[] false 0 0 false)=wc at I F Obw can wan hloan hsz⊢
  generalize w₁.heap.size=an at I F Obw can wan hloan hsz⊢
  generalize Tc.grow an (an+1)=Tc at I F Obw wan⊢
  clear hsz
  walk_nrm
  refine H.allot (fun s=>.chan (some s)) (.chan 0 #[] false 0 0 false) rfl (by rfl) hk0 (fun w₁=>?_) (fun w₁=>?_) fun w₁ r=>?_
  ·simp[go_sem,hmk]
  ·simp[go_sem,hme]
  have D:=(Fr.rely (fun _=>False) r).trans (Fr.alloc _ _ w₁ (.chan 0 #[] false 0 0 false))
  replace I:=(I.rely r).alloc (.chan 0 #[] false 0 0 false)
  replace Obw:=Obw.fr D (by rw[F.kn];exact hk _) id
  have man:=Nat.lt_of_lt_of_le (Array.getElem?_eq_some_iff.1 can).1 r.size
  replace can:=D.own _ _ wan can (fun _ _ _=>by simp)
  replace wan:=D.wr _ wan
  have hne:w₁.heap.size≠an:=fun e=>by omega
  have hloof:w.heap.size≤w₁.heap.size:=Nat.le_trans F.size r.size
  have cof:=heap_new1 w₁ (.chan 0 #[] false 0 0 false)
  have wof:(Tc.grow w₁.heap.size (w₁.heap.size+1)).wr (.obj w₁.heap.size):=.inr ⟨Nat.le_refl _,Nat.lt_succ_self _⟩
  replace F:=F.trans D
  have hsz:=World.size_alloc w₁ (.chan 0 #[] false 0 0 false)
  clear D
  clear man
  generalize w₁.alloc (.chan 0 #[] false 0 0 false)=wc at I F Obw can wan cof wof hne hloof hsz⊢
  generalize w₁.heap.size=of at I F Obw can wan cof wof hne hloof hsz⊢
  generalize Tc.grow of (of+1)=Tc at I F Obw wan wof⊢
  clear hsz
  walk_nrm
  co_applyP Gait.pure H _ rfl (by rfl) hk0 (fun _=>run_eq_of ?run10) (fun _=>?evs10) ?rest10
  case run10=>intro K hK;go_simp;exact hK
  case evs10=>simp[go_sem]
  walk_nrm
  refine H.allot (fun s=>.pointer (some ⟨s,0,none⟩)) (.cells #[.chan (some of),.chan (some an),.int .i64 0,.bool false] 79 (0,0)) rfl (by rfl) hk0 (fun w₁=>?_) (fun w₁=>?_) fun w₁ r=>?_
  ·simp[go_sem]
  ·simp[go_sem]
  have D:=(Fr.rely (fun _=>False) r).trans (Fr.alloc _ _ w₁ (.cells #[.chan (some of),.chan (some an),.int .i64 0,.bool false] 79 (0,0)))
  replace I:=(I.rely r).alloc (.cells #[.chan (some of),.chan (some an),.int .i64 0,.bool false] 79 (0,0))
  replace Obw:=Obw.fr D (by rw[F.kn];exact hk _) id
  replace can:=D.own _ _ wan can (fun _ _ _=>by simp)
  replace wan:=D.wr _ wan
  replace cof:=D.own _ _ wof cof (fun _ _ _=>by simp)
  replace wof:=D.wr _ wof
  have hlobx:w.heap.size≤w₁.heap.size:=Nat.le_trans F.size r.size
  have Obx:=OwnR.new Tc w₁ #[.chan (some of),.chan (some an),.int .i64 0,.bool false] 79
  replace F:=F.trans D
  have hsz:=World.size_alloc w₁ (.cells #[.chan (some of),.chan (some an),.int .i64 0,.bool false] 79 (0,0))
  clear D
  generalize w₁.alloc (.cells #[.chan (some of),.chan (some an),.int .i64 0,.bool false] 79 (0,0))=wc at I F Obw can wan cof wof Obx hne hlobx hsz⊢
  generalize w₁.heap.size=bx at I F Obw can wan cof wof Obx hne hlobx hsz⊢
  generalize Tc.grow bx (bx+1)=Tc at I F Obw wan wof Obx⊢
  clear hsz
  walk_nrm
  refine H.store1 Obw 0 (.pointer (some ⟨bx,0,none⟩)) rfl (by rfl) hk0 (fun w₁ O1=>?_) fun w₁ r O1=>?_
  ·have k0:=O1.cell (i:=0) rfl;have z0:=O1.free 0
   refine⟨by go_simp,fun e he=>?_⟩
   simp[go_sem,k0,z0] at he
   exact he
  have D:=(Fr.rely (fun _=>False) r)
  have E:=(Obw.rely r).frSet 0 (.pointer (some ⟨bx,0,none⟩)) not_wg1
  have hxw:bx≠bw:=fun e=>by have h1:=Obx.heap;rw[e,Obw.heap] at h1;simp at h1
  have F1:=(F.trans D).then E fun x hx=>.inr (hx▸hlobw)
  have I1:=(Obw.rely r).giSet (I.rely r) 0 (.pointer (some ⟨bx,0,none⟩)) not_wg1
  refine H.regionEnd ?_
  refine H.le (Nat.zero_le _) (kk of an bx bw _ _ F1 I1 ⟨?_,?_,wof,wan,hne,?_,O1,hloof,hloan,hlobx,hlobw⟩)
  ·exact E.own _ _ wof (D.own _ _ wof cof fun _ _ _=>by simp) fun _ _ _=>by simp
  ·exact E.own _ _ wan (D.own _ _ wan can fun _ _ _=>by simp) fun _ _ _=>by simp
  ·exact(Obx.rely r).fr E (by rw[F.kn];exact hk _) hxw
end
end Go.Side
