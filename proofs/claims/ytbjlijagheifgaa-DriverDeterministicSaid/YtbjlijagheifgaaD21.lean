/-
  Texts of Ytbjlijagheifgaa, merged.
-/
import Derived.Test.YtbjlijagheifgaaD11
import Derived.Conc.CompanyMem
set_option linter.unusedSimpArgs false
set_option linter.unusedVariables false
namespace Go.Side
section
open Go Go.Conc Go.ConcN Go.Proofs
open Go.ConcR (WgAt wgBlock)
noncomputable def lp29:Code:=(loopIn (Try.f29.body.getD .skip)).getD .skip
noncomputable def tail29:Code:=(afterIn (Try.f29.body.getD .skip)).getD .skip
structure OpC4(w:World)(b o:Nat)(x:OpV):Prop where
 c0:w.cell? ⟨b,o,none⟩=some (.int .i64 x.kind)
 c1:w.cell? ⟨b,o+1,none⟩=some (.int .i64 x.chan)
 c2:w.cell? ⟨b,o+2,none⟩=some (.int .i64 x.val)
 c3:w.cell? ⟨b,o+3,none⟩=some x.eith
def OpRows(w:World)(p:Option Addr)(l:List OpV):Prop:=∀(j:Nat) (x:OpV),l[j]?=some x→∃b o,p=some ⟨b,o,none⟩∧OpC4 w b (o+j*4) x∧∃q n c,x.eith= .slice q n c
structure WkS(v:WV)(wr:Loc→Prop):Prop where
 k0:v.ck (.cell ⟨v.bx,0,none⟩)
 k1:v.ck (.cell ⟨v.bx,1,none⟩)
 w2:wr (.cell ⟨v.bx,2,none⟩)
 w3:wr (.cell ⟨v.bx,3,none⟩)
structure WkB(C:Fix Wk)(v:WV)(z:Int)(d:Bool)(w:World):Prop where
 c0:w.cell? ⟨v.bx,0,none⟩=some (.chan (some v.of))
 c1:w.cell? ⟨v.bx,1,none⟩=some (.chan (some v.an))
 c2:w.cell? ⟨v.bx,2,none⟩=some (.int .i64 z)
 c3:w.cell? ⟨v.bx,3,none⟩=some (.bool d)
 box:∃c,w.heap[v.bx]?=some (.cells c 79 (0,0))∧c.size=4
 wg:WgLive C.ty C.Wg w
section
variable {C:Fix Wk} {v:WV} {wr:Loc→Prop} {z:Int} {d:Bool} {w w₁:World}
theorem idle_of_busy(r:Rely false (Tbusy C v wr) w w₁):Rely false (Tidle C v wr) w w₁:=r.less (fun l h=>h.elim (fun h=>.inl (.inl h)) .inr) (fun l h=>h) fun b h=>h
theorem WkB.rely(h:WkB C v z d w)(S:WkS v wr)(r:Rely false (Tidle C v wr) w w₁):WkB C v z d w₁:=by
 refine⟨(r.cell _ (.inl S.k0)).trans h.c0,(r.cell _ (.inl S.k1)).trans h.c1,(r.cell _ (.inr S.w2)).trans h.c2,(r.cell _ (.inr S.w3)).trans h.c3,?_,wgLive_rely r (.inl rfl) h.wg⟩
 obtain⟨c,h1,h2⟩:=h.box
 obtain⟨o',h3,c',rfl,h4,_⟩:=r.kin v.bx _ (.inl (.inr rfl)) h1
 exact⟨c',h3,h4.trans h2⟩
theorem WkS.mono{wr':Loc→Prop}(S:WkS v wr)(h:∀l,wr l→wr' l):WkS v wr':=⟨S.k0,S.k1,h _ S.w2,h _ S.w3⟩
theorem good_rely(h:C.good w)(r:Rely false (Tbusy C v wr) w w₁):C.good w₁:=C.good_keep _ _ (fun a ha=>r.cell a (.inl (.inr ha))) h
end
theorem norace29:(Try.prog.funcs[(base 29).fn]?).any (·.norace)=false:=by kernel_rfl
theorem cell_chan{w:World}{c cap s r s' r':Nat}{buf buf':Array Value}{cl cl' tm:Bool}(hc:w.heap[c]?=some (.chan cap buf cl s r tm))(a:Addr):(w.setChan c cap buf' cl' s' r' tm).cell? a=w.cell? a:=
 (rely_setChan (T:=⟨fun _=>True,fun _=>False,fun _=>True⟩) hc (fun h=>h)).cell a (.inl trivial)
section
variable {C:Fix Wk} {v:WV} {T:Terr} {na:Bool} {z:Int} {d:Bool} {w:World}
theorem WkB.ne(h:WkB C v z d w):C.Wg≠v.bx:=by
 intro e
 obtain⟨x,h1,h2⟩:=h.box
 obtain⟨a,b,h3⟩:=h.wg
 have h4:w.heap[C.Wg]?=some (wgBlock C.ty a b):=h3
 rw[e,h1] at h4
 have:=congrArg Array.size (Obj.cells.inj (Option.some.inj h4)).1
 rw[h2] at this;simp at this
theorem WkB.chan(h:WkB C v z d w){c cap s r s' r':Nat}{buf buf':Array Value}{cl cl' tm:Bool}(hc:w.heap[c]?=some (.chan cap buf cl s r tm)):WkB C v z d (w.setChan c cap buf' cl' s' r' tm):=by
 refine⟨(cell_chan hc _).trans h.c0,(cell_chan hc _).trans h.c1,(cell_chan hc _).trans h.c2,(cell_chan hc _).trans h.c3,?_,?_⟩
 ·obtain⟨x,h1,h2⟩:=h.box
  refine⟨x,(setChan_ne fun e=>?_).trans h1,h2⟩
  rw[←e,h1] at hc
  cases Option.some.inj hc
 ·obtain⟨a,b,h3⟩:=h.wg
  refine⟨a,b,(setChan_ne fun e=>?_).trans h3⟩
  rw[←e,show w.heap[C.Wg]?=_ from h3] at hc
  cases Option.some.inj hc
theorem WkB.free(h:WkB C v z d w)(i:Nat):w.frozen? ⟨v.bx,i,none⟩=false:=by
 obtain⟨x,h1,h2⟩:=h.box
 simp[World.frozen?,h1]
theorem WkB.set3(h:WkB C v z d w)(d':Bool):WkB C v z d' (w.setCell ⟨v.bx,3,none⟩ (.bool d')):=by
 obtain⟨x,h1,h2⟩:=h.box
 exact⟨(World.cell?_setCell_other _ _ _ _ (by simp)).trans h.c0,(World.cell?_setCell_other _ _ _ _ (by simp)).trans h.c1,(World.cell?_setCell_other _ _ _ _ (by simp)).trans h.c2,World.cell?_setCell_same _ _ _ h.c3,⟨_,set_heap h1 rfl,by simp[h2]⟩,(let⟨a,b,h3⟩:=h.wg;⟨a,b,(RowKit.Below.heap_setCell _ _ _ _ h.ne).trans h3⟩)⟩
theorem WkB.set2(h:WkB C v z d w)(z':Int):WkB C v z' d (w.setCell ⟨v.bx,2,none⟩ (.int .i64 z')):=by
 obtain⟨x,h1,h2⟩:=h.box
 exact⟨(World.cell?_setCell_other _ _ _ _ (by simp)).trans h.c0,(World.cell?_setCell_other _ _ _ _ (by simp)).trans h.c1,World.cell?_setCell_same _ _ _ h.c2,(World.cell?_setCell_other _ _ _ _ (by simp)).trans h.c3,⟨_,set_heap h1 rfl,by simp[h2]⟩,(let⟨a,b,h3⟩:=h.wg;⟨a,b,(RowKit.Below.heap_setCell _ _ _ _ h.ne).trans h3⟩)⟩
theorem WkB.guarI(h:WkB C v z d w){i:Nat}(hw:T.wr (.cell ⟨v.bx,i,none⟩))(u:Value){es:Array Event}(he:∀e∈es,e=⟨.cell ⟨v.bx,i,none⟩,true,false⟩):Guar false na T w (w.setCell ⟨v.bx,i,none⟩ u) es:=by
 obtain⟨x,h1,h2⟩:=h.box
 refine(Sets.set w ⟨v.bx,i,none⟩ u).guar h1 (set_heap h1 rfl) (by simp) (fun j hj=>?_) (fun e=>by cases e) (fun _=>by omega) fun e hm=>⟨i,he e hm,hw⟩
 by_cases e:i=j
 ·subst e;exact hw
 ·exact absurd (Array.getElem?_setIfInBounds_ne e) hj
theorem WkB.guar3(h:WkB C v z d w)(hw:T.wr (.cell ⟨v.bx,3,none⟩))(u:Value){es:Array Event}(he:∀e∈es,e=⟨.cell ⟨v.bx,3,none⟩,true,false⟩):Guar false na T w (w.setCell ⟨v.bx,3,none⟩ u) es:=h.guarI hw u he
theorem WkB.guar2(h:WkB C v z d w)(hw:T.wr (.cell ⟨v.bx,2,none⟩))(u:Value){es:Array Event}(he:∀e∈es,e=⟨.cell ⟨v.bx,2,none⟩,true,false⟩):Guar false na T w (w.setCell ⟨v.bx,2,none⟩ u) es:=h.guarI hw u he
end
theorem own_row{q:Bool}{T:Terr}{w w₁:World}{B:Nat}{c:Array Value}{e:TypeId}{f:Nat×Nat}(r:Rely q T w w₁)(ho:T.wr (.obj B))(hc:∀i,T.rd (.cell ⟨B,i,none⟩))(h:w.heap[B]?=some (.cells c e f)):w₁.heap[B]?=some (.cells c e f):=by
 obtain⟨o',h1,c',rfl,h2,_⟩:=r.kin B _ (.inr ho) h
 have:c'=c:=by
  apply Array.ext_getElem?
  intro i
  have:=r.cell ⟨B,i,none⟩ (hc i)
  simpa[World.cell?,h1,h] using this
 rw[h1,this]
theorem cell_row{w:World}{B:Nat}{c:Array Value}{e:TypeId}{f:Nat×Nat}(h:w.heap[B]?=some (.cells c e f)){i:Nat}{u:Value}(hu:c[i]?=some u):w.cell? ⟨B,i,none⟩=some u:=by simp[World.cell?,h,hu]
theorem free_row{w:World}{B:Nat}{c:Array Value}{e:TypeId}(h:w.heap[B]?=some (.cells c e (0,0)))(i:Nat):w.frozen? ⟨B,i,none⟩=false:=by simp[World.frozen?,h]
def put4(w:World)(B:Nat)(v0 v1 v2 v3:Value):World:=(((w.setCell ⟨B,0,none⟩ v0).setCell ⟨B,1,none⟩ v1).setCell ⟨B,2,none⟩ v2).setCell ⟨B,3,none⟩ v3
theorem put4_heap{w:World}{B:Nat}{a0 a1 a2 a3 v0 v1 v2 v3:Value}{e:TypeId}{f:Nat×Nat}(h:w.heap[B]?=some (.cells #[a0,a1,a2,a3] e f)):(put4 w B v0 v1 v2 v3).heap[B]?=some (.cells #[v0,v1,v2,v3] e f):=by
 have h1:=set_heap (A:=⟨B,0,none⟩) (v:=v0) h rfl
 have h2:=set_heap (A:=⟨B,1,none⟩) (v:=v1) h1 rfl
 have h3:=set_heap (A:=⟨B,2,none⟩) (v:=v2) h2 rfl
 exact set_heap (A:=⟨B,3,none⟩) (v:=v3) h3 rfl
theorem put4_sets(w:World)(B:Nat)(v0 v1 v2 v3:Value):Sets B w (put4 w B v0 v1 v2 v3):=
 (((Sets.set w ⟨B,0,none⟩ v0).trans (Sets.set _ ⟨B,1,none⟩ v1)).trans (Sets.set _ ⟨B,2,none⟩ v2)).trans (Sets.set _ ⟨B,3,none⟩ v3)
theorem atRun_congr{σ:Type}{C:Fix σ}{v:WV}{N:Nat}{s s':σ}(h:C.nxt s=C.nxt s')(hs:C.sum s=C.sum s'):AtRun C v N s=AtRun C v N s':=by
 funext T g w
 cases N<;>(unfold AtRun;rw[h,hs])
section
variable {C:Fix Wk} {v:WV} {z:Int} {d:Bool} {w w':World} {N0 B:Nat}
theorem WkB.sets(h:WkB C v z d w)(S:Sets B w w')(hne:v.bx≠B)(hne':C.Wg≠B):WkB C v z d w':=by
 have e:∀i,w'.cell? ⟨v.bx,i,none⟩=w.cell? ⟨v.bx,i,none⟩:=fun i=>by simp only[World.cell?,S.rest _ hne]
 obtain⟨x,h1,h2⟩:=h.box
 exact⟨(e _).trans h.c0,(e _).trans h.c1,(e _).trans h.c2,(e _).trans h.c3,⟨x,(S.rest _ hne).trans h1,h2⟩,(let⟨a,b,h3⟩:=h.wg;⟨a,b,(S.rest _ hne').trans h3⟩)⟩
theorem WkB.lt(h:WkB C v z d w):v.bx<w.heap.size:=by
 obtain⟨x,h1,h2⟩:=h.box
 exact(Array.getElem?_eq_some_iff.1 h1).1
theorem WkB.wlt(h:WkB C v z d w):C.Wg<w.heap.size:=by
 obtain⟨a,b,h3⟩:=h.wg
 exact(Array.getElem?_eq_some_iff.1 h3).1
theorem WkB.alloc(h:WkB C v z d w)(o:Obj):WkB C v z d (w.alloc o):=by
 have hl:=h.lt
 obtain⟨x,h1,h2⟩:=h.box
 exact⟨(World.cell?_alloc_lt _ _ _ hl).trans h.c0,(World.cell?_alloc_lt _ _ _ hl).trans h.c1,(World.cell?_alloc_lt _ _ _ hl).trans h.c2,(World.cell?_alloc_lt _ _ _ hl).trans h.c3,⟨x,(RowKit.Below.heap_alloc _ _ _ hl).trans h1,h2⟩,(let⟨a,b,h3⟩:=h.wg;⟨a,b,(RowKit.Below.heap_alloc _ _ _ (Array.getElem?_eq_some_iff.1 h3).1).trans h3⟩)⟩
theorem good_alloc(hR0:∀a:Addr,C.R0 (.cell a)→a.block<N0)(hN:N0≤w.heap.size)(h:C.good w)(o:Obj):C.good (w.alloc o):=
 C.good_keep _ _ (fun a ha=>World.cell?_alloc_lt _ _ _ (Nat.lt_of_lt_of_le (hR0 a ha) hN)) h
theorem good_sets(hR0:∀a:Addr,C.R0 (.cell a)→a.block<N0)(hN:N0≤B)(h:C.good w)(S:Sets B w w'):C.good w':=
 C.good_keep _ _ (fun a ha=>by
  have:=hR0 a ha
  simp only[World.cell?,S.rest a.block (by omega)]) h
theorem heap_new(w:World)(o:Obj):(w.alloc o).heap[w.heap.size]?=some o:=by show(w.heap.push _)[w.heap.size]?=_;simp
end
set_option maxRecDepth 100000 in
set_option maxHeartbeats 8000000 in
theorem wk_loop{C:Fix Wk}{v:WV}(hP:C.P=Try.prog)(hn:C.nxt=Wk.nxt)(ha:C.ans=Wk.ans)(hs:C.sum=Wk.all){l0:List OpV}{p:Option Addr}{cap:Nat}(hg:∀w,C.good w→OpRows w p l0)(hR:∀j x b o,l0[j]?=some x→p=some ⟨b,o,none⟩→∀f,f<4→C.R0 (.cell ⟨b,o+j*4+f,none⟩))(hR2:¬C.R0 (.cell ⟨v.bx,2,none⟩)){c:Frame}{cs:List Frame}(hlen:l0.length≤4611686018427387904){N0:Nat}(hR0:∀a:Addr,C.R0 (.cell a)→a.block<N0)(hend:∀z d wr w tmps todo,WkS v wr→WkB C v z d w→∃m,GoesN Try.prog false false true (AtR0 C v z d) m (Tidle C v wr) (G {(base 29).at ⟨tmps,[]⟩ todo with mode:=.returning} (c::cs)) w):
  ∀(l:List OpV) (i N:Nat),l0.drop i=l→l.length≤N→∀(wr:Loc→Prop) (z:Int) (w:World) (u3 u4 u5 u6 u7 u8 u9 u10 u11 u12 u16 u17 u18 u19 u20 u21 u22 u23 u24 u25 u26 u27 u28 u29 u30 u31 u32 u33 u34 u35 u36 u37 u38 u39 u40 u41 u42 u43 u44 u45 u46 u47 u48 u49 u50 u51 u52 u53 u54 u55 u56 u57 u58 u59 u60:Value),WkS v wr→WkB C v z false w→C.good w→N0≤w.heap.size→
   GoesN Try.prog false false false (AtRun C v N ⟨l,z,none⟩) (100*l.length+100) (Tbusy C v wr) (G ((base 29).at ⟨#[.pointer (some ⟨v.bx,0,none⟩),.slice p l0.length cap,.chan (some C.qc),u3,u4,u5,u6,u7,u8,u9,u10,u11,u12,.slice p l0.length cap,.int .i64 l0.length,.int .i64 i,u16,u17,u18,u19,u20,u21,u22,u23,u24,u25,u26,u27,u28,u29,u30,u31,u32,u33,u34,u35,u36,u37,u38,u39,u40,u41,u42,u43,u44,u45,u46,u47,u48,u49,u50,u51,u52,u53,u54,u55,u56,u57,u58,u59,u60],[dclose 76 v.of]⟩ (.code lp29:: .inLoop lp29:: .inBlock 0:: .code tail29::[])) (c::cs)) w:=by
 intro l
 have hk0:(base 29).kind≠ .early:=by decide
 induction l with
 |nil=>
  intro i N hd hN wr z w u3 u4 u5 u6 u7 u8 u9 u10 u11 u12 u16 u17 u18 u19 u20 u21 u22 u23 u24 u25 u26 u27 u28 u29 u30 u31 u32 u33 u34 u35 u36 u37 u38 u39 u40 u41 u42 u43 u44 u45 u46 u47 u48 u49 u50 u51 u52 u53 u54 u55 u56 u57 u58 u59 u60 S B hG hN0
  have hi:l0.length≤i:=by simpa using hd
  have hdec:decide (i<l0.length)=false:=by simp;omega
  have H:=gait_n Try.prog false false false (AtRun C v N ⟨[],z,none⟩)
  conv in Item.code lp29=>delta lp29;dsimp only[Try.f29,Option.getD,loopIn,Option.orElse]
  refine H.seq ?_
  refine H.region ?_
  simp only[List.size_toArray,List.length_cons,List.length_nil,Nat.reduceAdd,Nat.zero_add,List.range,List.range.loop]
  co_applyP Gait.pure H _ rfl (by rfl) hk0 (fun _=>run_eq_of ?run1) (fun _=>?evs1) ?rest1
  case run1=>intro K hK;go_simp;exact hK
  case evs1=>simp[go_sem]
  walk_nrm
  refine H.regionEnd ?_
  refine H.seq ?_
  refine H.cond false rfl ?_
  simp only[if_true,if_false,Bool.false_eq_true,↓reduceIte]
  refine H.exit rfl ?_
  conv in Item.code tail29=>delta tail29;dsimp only[Try.f29,Option.getD,afterIn,loopIn,Option.orElse]
  refine H.region ?_
  simp only[List.size_toArray,List.length_cons,List.length_nil,Nat.reduceAdd,Nat.zero_add,List.range,List.range.loop]
  co_applyP Gait.pure H _ rfl (by rfl) hk0 (fun _=>run_eq_of ?run2) (fun _=>?evs2) ?rest2
  case run2=>intro K hK;go_simp;exact hK
  case evs2=>simp[go_sem]
  walk_nrm
  co_applyP Gait.pure H _ rfl (by rfl) hk0 (fun _=>run_eq_of ?run3) (fun _=>?evs3) ?rest3
  case run3=>intro K hK;go_simp;exact hK
  case evs3=>simp[go_sem]
  walk_nrm
  co_applyP Gait.pure H _ rfl (by rfl) hk0 (fun _=>run_eq_of ?run4) (fun _=>?evs4) ?rest4
  case run4=>intro K hK;go_simp;exact hK
  case evs4=>simp[go_sem]
  walk_nrm
  refine H.turn rfl (by rfl) hk0 (fun w₁ r=>?_)
  have B1:=B.rely S (idle_of_busy r)
  refine⟨undef,w₁.setCell ⟨v.bx,3,none⟩ (.bool true),.inr ⟨rfl,?_⟩,B1.guar3 (T:=Tbusy C v wr) S.w3 _ ?_,?_⟩
  ·have c3:=B1.c3;have f3:=B1.free 3
   go_simp
  ·have c3:=B1.c3;have f3:=B1.free 3
   intro e he
   have hm:=mem_listed he
   simp[go_sem,c3,f3] at hm
   exact hm
  have B2:=B1.set3 true
  rw[World.size_setCell,grow_same]
  walk_nrm
  refine H.regionEnd ?_
  refine H.ended ?_
  generalize w₁.setCell ⟨v.bx,3,none⟩ (.bool true)=w2 at B2⊢
  refine GoesN.stop fun w3 r3=>?_
  have B3:=B2.rely S (idle_of_busy r3)
  unfold AtRun
  refine⟨rfl,rfl,?_⟩
  rw[hn]
  show∀r:Nat,_→_
  intro r hc
  refine⟨rfl,_,by rw[hP];exact stepG_unwind_close rfl hc norace29,?_⟩
  rw[hP,hs]
  exact hend z true wr _ _ _ S (B3.chan hc)
 |cons x l ih=>
  intro i N hd hN wr z w u3 u4 u5 u6 u7 u8 u9 u10 u11 u12 u16 u17 u18 u19 u20 u21 u22 u23 u24 u25 u26 u27 u28 u29 u30 u31 u32 u33 u34 u35 u36 u37 u38 u39 u40 u41 u42 u43 u44 u45 u46 u47 u48 u49 u50 u51 u52 u53 u54 u55 u56 u57 u58 u59 u60 S B hG hN0
  have H:=gait_n Try.prog false false false (AtRun C v N ⟨x::l,z,none⟩)
  have hlt:i<l0.length:=by
   rcases Nat.lt_or_ge i l0.length with h|h
   ·exact h
   ·rw[List.drop_eq_nil_of_le h] at hd;cases hd
  have hx:l0[i]?=some x:=by
   have:=List.getElem?_drop (xs:=l0) (i:=i) (j:=0)
   rw[hd] at this
   simpa using this.symm
  have hd':l0.drop (i+1)=l:=by rw[←List.drop_drop,hd];rfl
  have hdec:decide (i<l0.length)=true:=by simpa using hlt
  have hwi:IntKind.i64.wrap ((i:Int)+1)=(i:Int)+1:=by rw[IntKind.wrap_i64];omega
  obtain⟨b,o,rfl,OC,q',n',c',he⟩:=hg w hG i x hx
  have hR':=hR i x b o hx rfl
  have hadd:(⟨b,o,none⟩:Addr).add (i*4)=⟨b,o+i*4,none⟩:=by
   unfold Addr.add;split
   ·rename_i h;rw[h];rfl
   ·rfl
  conv in Item.code lp29=>delta lp29;dsimp only[Try.f29,Option.getD,loopIn,Option.orElse]
  refine H.seq ?_
  refine H.region ?_
  simp only[List.size_toArray,List.length_cons,List.length_nil,Nat.reduceAdd,Nat.zero_add,List.range,List.range.loop]
  co_applyP Gait.pure H _ rfl (by rfl) hk0 (fun _=>run_eq_of ?run5) (fun _=>?evs5) ?rest5
  case run5=>intro K hK;go_simp;exact hK
  case evs5=>simp[go_sem]
  walk_nrm
  refine H.regionEnd ?_
  refine H.seq ?_
  refine H.cond true rfl ?_
  simp only[if_true,if_false,Bool.false_eq_true,↓reduceIte]
  refine H.skip ?_
  refine H.seq ?_
  refine H.block ?_
  refine H.seq ?_
  refine H.region ?_
  simp only[List.size_toArray,List.length_cons,List.length_nil,Nat.reduceAdd,Nat.zero_add,List.range,List.range.loop]
  co_applyP Gait.pure H _ rfl (by rfl) hk0 (fun _=>run_eq_of ?run6) (fun _=>?evs6) ?rest6
  case run6=>intro K hK;go_simp;exact hK
  case evs6=>simp[go_sem,hlt]
  walk_nrm
  have kR:=fun f hf=>(show(Tbusy C v wr).rd (.cell ⟨b,o+i*4+f,none⟩) from .inl (.inr (hR' f hf)))
  have k0r:(Tbusy C v wr).rd (.cell ⟨b,o+i*4,none⟩):=kR 0 (by omega)
  have k1r:=kR 1 (by omega)
  have k2r:=kR 2 (by omega)
  have k3r:=kR 3 (by omega)
  have q0:=OC.c0
  have q1:=OC.c1
  have q2:=OC.c2
  have q3:=OC.c3
  rw[he] at q3
  co_applyP Gait.read H _ rfl (by rfl) hk0 (fun w₁ r=>⟨run_eq_of ?run7,?evs7⟩) ?rest7
  case run7=>have k0:=(r.cell _ k0r).trans q0;have k1:=(r.cell _ k1r).trans q1;have k2:=(r.cell _ k2r).trans q2;have k3:=(r.cell _ k3r).trans q3;intro K hK;go_simp;exact hK
  case evs7=>have k0:=(r.cell _ k0r).trans q0;have k1:=(r.cell _ k1r).trans q1;have k2:=(r.cell _ k2r).trans q2;have k3:=(r.cell _ k3r).trans q3;intro e he;simp[go_sem,k0,k1,k2,k3] at he;rcases he with rfl|rfl|rfl|rfl;exact⟨_,rfl,World.block_lt_of_cell? _ _ k0,k0r⟩;exact⟨_,rfl,World.block_lt_of_cell? _ _ k1,k1r⟩;exact⟨_,rfl,World.block_lt_of_cell? _ _ k2,k2r⟩;exact⟨_,rfl,World.block_lt_of_cell? _ _ k3,k3r⟩
  walk_nrm
  refine H.turn rfl (by rfl) hk0 (fun w₁ r=>?_)
  have B1:=B.rely S (idle_of_busy r)
  have G1:=good_rely hG r
  refine⟨.pointer (some ⟨w₁.heap.size,0,none⟩),w₁.alloc (.cells #[.int .i64 0,.int .i64 0,.int .i64 0,.slice none 0 0] 29),.inl (by go_simp),guar_alloc (fun _=>⟨_,_,rfl⟩) ?_,?_⟩
  ·intro e he
   have hm:=mem_listed he
   simp[go_sem] at hm
  have hS1:=r.size
  have B2:=B1.alloc (.cells #[.int .i64 0,.int .i64 0,.int .i64 0,.slice none 0 0] 29)
  have G2:=good_alloc hR0 (Nat.le_trans hN0 hS1) G1 (.cells #[.int .i64 0,.int .i64 0,.int .i64 0,.slice none 0 0] 29)
  have h2:=heap_new w₁ (.cells #[.int .i64 0,.int .i64 0,.int .i64 0,.slice none 0 0] 29)
  have hN2:N0≤(w₁.alloc (.cells #[.int .i64 0,.int .i64 0,.int .i64 0,.slice none 0 0] 29)).heap.size:=by rw[World.size_alloc];omega
  have hbx:=B1.lt
  have hwx:=B1.wlt
  have hNB:N0≤w₁.heap.size:=Nat.le_trans hN0 hS1
  rw[World.size_alloc]
  generalize w₁.alloc (.cells #[.int .i64 0,.int .i64 0,.int .i64 0,.slice none 0 0] 29)=w2 at B2 G2 h2 hN2⊢
  generalize w₁.heap.size=Bk at h2 hbx hwx hNB⊢
  generalize hwr':(fun l=>wr l∨Fresh Bk (Bk+1) l)=wr'
  have hT:(Tbusy C v wr).grow Bk (Bk+1)=Tbusy C v wr':=by rw[←hwr'];rfl
  rw[hT]
  have S':WkS v wr':=S.mono fun l h=>by rw[←hwr'];exact .inl h
  have ho:wr' (.obj Bk):=by rw[←hwr'];exact .inr ⟨Nat.le_refl _,Nat.lt_succ_self _⟩
  have hc:∀j,wr' (.cell ⟨Bk,j,none⟩):=fun j=>by rw[←hwr'];exact .inr ⟨Nat.le_refl _,Nat.lt_succ_self _⟩
  clear hT hwr' B1 G1 r hS1 kR k0r k1r k2r k3r q0 q1 q2 OC B hG hN0
  walk_nrm
  refine H.turn rfl (by rfl) hk0 (fun w3 r3=>?_)
  have h3:=own_row r3 ho (fun j=>.inr (hc j)) h2
  have B3:=B2.rely S' (idle_of_busy r3)
  have G3:=good_rely G2 r3
  have hN3:=Nat.le_trans hN2 r3.size
  refine⟨undef,put4 w3 Bk (.int .i64 x.kind) (.int .i64 x.chan) (.int .i64 x.val) (.slice q' n' c'),.inr ⟨rfl,?_⟩,(put4_sets w3 Bk _ _ _ _).guar h3 (put4_heap h3) rfl (fun j _=>hc j) (fun e=>by cases e) (fun _=>by simp) ?_,?_⟩
  ·have p0:=cell_row h3 (i:=0) rfl;have p1:=cell_row h3 (i:=1) rfl;have p2:=cell_row h3 (i:=2) rfl;have p3:=cell_row h3 (i:=3) rfl
   have z0:=free_row h3 0;have z1:=free_row h3 1;have z2:=free_row h3 2;have z3:=free_row h3 3
   unfold put4
   go_simp
  ·have p0:=cell_row h3 (i:=0) rfl;have p1:=cell_row h3 (i:=1) rfl;have p2:=cell_row h3 (i:=2) rfl;have p3:=cell_row h3 (i:=3) rfl
   have z0:=free_row h3 0;have z1:=free_row h3 1;have z2:=free_row h3 2;have z3:=free_row h3 3
   intro e he
   have hm:=mem_listed he
   simp[go_sem,p0,p1,p2,p3,z0,z1,z2,z3] at hm
   rcases hm with rfl|rfl|rfl|rfl
   ·exact⟨0,rfl,hc 0⟩
   ·exact⟨1,rfl,hc 1⟩
   ·exact⟨2,rfl,hc 2⟩
   ·exact⟨3,rfl,hc 3⟩
  have h4:=put4_heap (v0:=.int .i64 x.kind) (v1:=.int .i64 x.chan) (v2:=.int .i64 x.val) (v3:=.slice q' n' c') h3
  have Z:=put4_sets w3 Bk (.int .i64 x.kind) (.int .i64 x.chan) (.int .i64 x.val) (.slice q' n' c')
  have B4:=B3.sets Z (by omega) (by omega)
  have G4:=good_sets hR0 hNB G3 Z
  have hN4:N0≤(put4 w3 Bk (.int .i64 x.kind) (.int .i64 x.chan) (.int .i64 x.val) (.slice q' n' c')).heap.size:=by rw[Z.size];exact hN3
  rw[Z.size,grow_same]
  generalize put4 w3 Bk (.int .i64 x.kind) (.int .i64 x.chan) (.int .i64 x.val) (.slice q' n' c')=w4 at h4 Z B4 G4 hN4⊢
  clear Z r3 h3 B3 G3 hN3 w3 B2 G2 h2 hN2 w2
  walk_nrm
  refine H.regionEnd ?_
  refine H.seq ?_
  refine H.seq ?_
  refine H.region ?_
  simp only[List.size_toArray,List.length_cons,List.length_nil,Nat.reduceAdd,Nat.zero_add,List.range,List.range.loop]
  co_applyP Gait.pure H _ rfl (by rfl) hk0 (fun _=>run_eq_of ?run8) (fun _=>?evs8) ?rest8
  case run8=>intro K hK;go_simp;exact hK
  case evs8=>simp[go_sem]
  walk_nrm
  have t0:w4.cell? ⟨Bk,0,none⟩=some (.int .i64 x.kind):=cell_row h4 rfl
  have t0r:(Tbusy C v wr').rd (.cell ⟨Bk,0,none⟩):=.inr (hc 0)
  co_applyP Gait.read H _ rfl (by rfl) hk0 (fun w₁ r=>⟨run_eq_of ?run9,?evs9⟩) ?rest9
  case run9=>have k0:=(r.cell _ t0r).trans t0;intro K hK;go_simp;exact hK
  case evs9=>have k0:=(r.cell _ t0r).trans t0;intro e he;simp[go_sem,k0] at he;subst he;exact⟨_,rfl,World.block_lt_of_cell? _ _ k0,t0r⟩
  walk_nrm
  by_cases hk4:x.kind=4
  ·skip
   co_applyP Gait.pure H _ rfl (by rfl) hk0 (fun _=>run_eq_of ?run10) (fun _=>?evs10) ?rest10
   case run10=>intro K hK;go_simp;exact hK
   case evs10=>simp[go_sem]
   walk_nrm
   refine H.regionEnd ?_
   refine H.cond true rfl ?_
   simp only[if_true,if_false,Bool.false_eq_true,↓reduceIte]
   refine H.seq ?_
   have g2:=B4.c2
   have g2r:(Tbusy C v wr').rd (.cell ⟨v.bx,2,none⟩):=.inr S'.w2
   have t2:w4.cell? ⟨Bk,2,none⟩=some (.int .i64 x.val):=cell_row h4 rfl
   have t2r:(Tbusy C v wr').rd (.cell ⟨Bk,2,none⟩):=.inr (hc 2)
   refine H.drawReads (fun j=>(([.pointer (some ⟨v.bx,0,none⟩),.pointer (some ⟨v.bx,0,none⟩),.pointer (some ⟨v.bx,2,none⟩),.int .i64 z,.pointer (some ⟨Bk,2,none⟩),.int .i64 x.val,.int .i64 (IntKind.i64.wrap (z+x.val)),.pointer (some ⟨v.bx,0,none⟩),.pointer (some ⟨v.bx,2,none⟩)]:List Value)[j]?).getD undef) 9 hk0 (by kernel_rfl) (by rfl) (by kernel_rfl) ?_ ?_
   ·intro j o hj ho S a hH hS hd
    obtain rfl|rfl|rfl|rfl|rfl|rfl|rfl|rfl|rfl:=(by omega:j=0∨j=1∨j=2∨j=3∨j=4∨j=5∨j=6∨j=7∨j=8)
    ·simp only[List.getElem?_toArray,List.getElem?_cons_zero,List.getElem?_cons_succ,Option.some.injEq] at ho
     subst ho
     have e0:a.eval (.tmp 0)= .pointer (some ⟨v.bx,0,none⟩):=hH.old hS (by kernel_rfl)
     refine⟨rfl,fun w₁ r=>?_⟩
     generalize a.eval=ρ at*
     refine⟨?_,?_⟩
     ·show _=Result.ok (Next.value (.pointer (some ⟨v.bx,0,none⟩))) w₁
      go_simp
     ·intro e he
      simp[go_sem,e0] at he
    ·simp only[List.getElem?_toArray,List.getElem?_cons_zero,List.getElem?_cons_succ,Option.some.injEq] at ho
     subst ho
     have e22:a.eval (.tmp 22)= .pointer (some ⟨v.bx,0,none⟩):=hH.eval (hd ⟨0,.data⟩ (by simp)) rfl
     refine⟨rfl,fun w₁ r=>?_⟩
     generalize a.eval=ρ at*
     refine⟨?_,?_⟩
     ·show _=Result.ok (Next.value (.pointer (some ⟨v.bx,0,none⟩))) w₁
      go_simp
     ·intro e he
      simp[go_sem,e22] at he
    ·simp only[List.getElem?_toArray,List.getElem?_cons_zero,List.getElem?_cons_succ,Option.some.injEq] at ho
     subst ho
     have e23:a.eval (.tmp 23)= .pointer (some ⟨v.bx,0,none⟩):=hH.eval (hd ⟨1,.data⟩ (by simp)) rfl
     refine⟨rfl,fun w₁ r=>?_⟩
     generalize a.eval=ρ at*
     refine⟨?_,?_⟩
     ·show _=Result.ok (Next.value (.pointer (some ⟨v.bx,2,none⟩))) w₁
      go_simp
     ·intro e he
      simp[go_sem,e23] at he
    ·simp only[List.getElem?_toArray,List.getElem?_cons_zero,List.getElem?_cons_succ,Option.some.injEq] at ho
     subst ho
     have e24:a.eval (.tmp 24)= .pointer (some ⟨v.bx,2,none⟩):=hH.eval (hd ⟨2,.data⟩ (by simp)) rfl
     refine⟨rfl,fun w₁ r=>?_⟩
     generalize a.eval=ρ at*
     have k0:=(r.cell _ g2r).trans g2
     refine⟨?_,?_⟩
     ·show _=Result.ok (Next.value (.int .i64 z)) w₁
      go_simp
     ·intro e he
      simp[go_sem,e24,k0] at he
      subst he;exact⟨_,rfl,World.block_lt_of_cell? _ _ k0,g2r⟩
    ·simp only[List.getElem?_toArray,List.getElem?_cons_zero,List.getElem?_cons_succ,Option.some.injEq] at ho
     subst ho
     have e7:a.eval (.tmp 7)= .pointer (some ⟨Bk,0,none⟩):=hH.old hS (by kernel_rfl)
     refine⟨rfl,fun w₁ r=>?_⟩
     generalize a.eval=ρ at*
     refine⟨?_,?_⟩
     ·show _=Result.ok (Next.value (.pointer (some ⟨Bk,2,none⟩))) w₁
      go_simp
     ·intro e he
      simp[go_sem,e7] at he
    ·simp only[List.getElem?_toArray,List.getElem?_cons_zero,List.getElem?_cons_succ,Option.some.injEq] at ho
     subst ho
     have e26:a.eval (.tmp 26)= .pointer (some ⟨Bk,2,none⟩):=hH.eval (hd ⟨4,.data⟩ (by simp)) rfl
     refine⟨rfl,fun w₁ r=>?_⟩
     generalize a.eval=ρ at*
     have k0:=(r.cell _ t2r).trans t2
     refine⟨?_,?_⟩
     ·show _=Result.ok (Next.value (.int .i64 x.val)) w₁
      go_simp
     ·intro e he
      simp[go_sem,e26,k0] at he
      subst he;exact⟨_,rfl,World.block_lt_of_cell? _ _ k0,t2r⟩
    ·simp only[List.getElem?_toArray,List.getElem?_cons_zero,List.getElem?_cons_succ,Option.some.injEq] at ho
     subst ho
     have e25:a.eval (.tmp 25)= .int .i64 z:=hH.eval (hd ⟨3,.data⟩ (by simp)) rfl
     have e27:a.eval (.tmp 27)= .int .i64 x.val:=hH.eval (hd ⟨5,.data⟩ (by simp)) rfl
     refine⟨rfl,fun w₁ r=>?_⟩
     generalize a.eval=ρ at*
     refine⟨?_,?_⟩
     ·show _=Result.ok (Next.value (.int .i64 (IntKind.i64.wrap (z+x.val)))) w₁
      go_simp
     ·intro e he
      simp[go_sem,e25,e27] at he
    ·simp only[List.getElem?_toArray,List.getElem?_cons_zero,List.getElem?_cons_succ,Option.some.injEq] at ho
     subst ho
     have e22:a.eval (.tmp 22)= .pointer (some ⟨v.bx,0,none⟩):=hH.eval (hd ⟨0,.data⟩ (by simp)) rfl
     refine⟨rfl,fun w₁ r=>?_⟩
     generalize a.eval=ρ at*
     refine⟨?_,?_⟩
     ·show _=Result.ok (Next.value (.pointer (some ⟨v.bx,0,none⟩))) w₁
      go_simp
     ·intro e he
      simp[go_sem,e22] at he
    ·simp only[List.getElem?_toArray,List.getElem?_cons_zero,List.getElem?_cons_succ,Option.some.injEq] at ho
     subst ho
     have e29:a.eval (.tmp 29)= .pointer (some ⟨v.bx,0,none⟩):=hH.eval (hd ⟨7,.data⟩ (by simp)) rfl
     refine⟨rfl,fun w₁ r=>?_⟩
     generalize a.eval=ρ at*
     refine⟨?_,?_⟩
     ·show _=Result.ok (Next.value (.pointer (some ⟨v.bx,2,none⟩))) w₁
      go_simp
     ·intro e he
      simp[go_sem,e29] at he
   simp only[canon,List.range,List.range.loop,List.foldl_cons,List.foldl_nil,dOf,List.getElem?_toArray,List.getElem?_cons_zero,List.getElem?_cons_succ,Option.bind_some,Option.getD_some]
   walk_nrm
   refine H.turn rfl (by rfl) hk0 (fun w₅ r=>?_)
   have B5:=B4.rely S' (idle_of_busy r)
   have G5:=good_rely G4 r
   have hN5:=Nat.le_trans hN4 r.size
   refine⟨undef,w₅.setCell ⟨v.bx,2,none⟩ (.int .i64 (IntKind.i64.wrap (z+x.val))),.inr ⟨rfl,?_⟩,B5.guar2 (T:=Tbusy C v wr') S'.w2 _ ?_,?_⟩
   ·have c2:=B5.c2;have f2:=B5.free 2
    go_simp
   ·have c2:=B5.c2;have f2:=B5.free 2
    intro e he
    have hm:=mem_listed he
    simp[go_sem,c2,f2] at hm
    exact hm
   have Z:=Sets.set w₅ ⟨v.bx,2,none⟩ (.int .i64 (IntKind.i64.wrap (z+x.val)))
   have B6:=B5.set2 (IntKind.i64.wrap (z+x.val))
   have G6:C.good (w₅.setCell ⟨v.bx,2,none⟩ (.int .i64 (IntKind.i64.wrap (z+x.val)))):=C.good_keep _ _ (fun a ha=>World.cell?_setCell_other _ _ _ _ fun e=>hR2 (by rw[e];exact ha)) G5
   have hN6:N0≤(w₅.setCell ⟨v.bx,2,none⟩ (.int .i64 (IntKind.i64.wrap (z+x.val)))).heap.size:=by rw[Z.size];exact hN5
   rw[Z.size,grow_same]
   generalize w₅.setCell ⟨v.bx,2,none⟩ (.int .i64 (IntKind.i64.wrap (z+x.val)))=w6 at Z B6 G6 hN6⊢
   walk_nrm
   refine H.regionEnd ?_
   refine H.exit rfl ?_
   refine H.region ?_
   simp only[List.size_toArray,List.length_cons,List.length_nil,Nat.reduceAdd,Nat.zero_add,List.range,List.range.loop]
   co_applyP Gait.pure H _ rfl (by rfl) hk0 (fun _=>run_eq_of ?run11) (fun _=>?evs11) ?rest11
   case run11=>intro K hK;go_simp;exact hK
   case evs11=>simp[go_sem]
   walk_nrm
   co_applyP Gait.pure H _ rfl (by rfl) hk0 (fun _=>run_eq_of ?run12) (fun _=>?evs12) ?rest12
   case run12=>intro K hK;go_simp;exact hK
   case evs12=>simp[go_sem]
   walk_nrm
   refine H.regionEnd ?_
   refine H.inLoop ?_
   rw[show((i:Int)+1)=((i+1:Nat):Int) by omega]
   rw[atRun_congr (C:=C) (v:=v) (N:=N) (s:=(⟨x::l,z,none⟩:Wk)) (s':=(⟨l,IntKind.i64.wrap (z+x.val),none⟩:Wk)) (by rw[hn];simp only[Wk.nxt];rw[adds_add hk4]) (by rw[hs];simp only[Wk.all];rw[adds_add hk4])]
   exact GoesN.le (by omega) (ih (i+1) N hd' (by simp at hN;omega) wr' _ w6 _ _ _ _ _ _ _ _ _ _ _ _ _ _ _ _ _ _ _ _ _ _ _ _ _ _ _ _ _ _ _ _ _ _ _ _ _ _ _ _ _ _ _ _ _ _ _ _ _ _ _ _ _ _ _ S' B6 G6 hN6)
  ·have hk4b:(x.kind==4)=false:=by simpa using hk4
   co_applyP Gait.pure H _ rfl (by rfl) hk0 (fun _=>run_eq_of ?run13) (fun _=>?evs13) ?rest13
   case run13=>intro K hK;go_simp;exact hK
   case evs13=>simp[go_sem]
   walk_nrm
   refine H.regionEnd ?_
   refine H.cond false rfl ?_
   simp only[if_true,if_false,Bool.false_eq_true,↓reduceIte]
   refine H.skip ?_
   refine H.seq ?_
   have g0:=B4.c0
   have g0r:(Tbusy C v wr').rd (.cell ⟨v.bx,0,none⟩):=.inl (.inl S'.k0)
   have t1:w4.cell? ⟨Bk,1,none⟩=some (.int .i64 x.chan):=cell_row h4 rfl
   have t1r:(Tbusy C v wr').rd (.cell ⟨Bk,1,none⟩):=.inr (hc 1)
   have t2:w4.cell? ⟨Bk,2,none⟩=some (.int .i64 x.val):=cell_row h4 rfl
   have t2r:(Tbusy C v wr').rd (.cell ⟨Bk,2,none⟩):=.inr (hc 2)
   have t3:w4.cell? ⟨Bk,3,none⟩=some (.slice q' n' c'):=cell_row h4 rfl
   have t3r:(Tbusy C v wr').rd (.cell ⟨Bk,3,none⟩):=.inr (hc 3)
   refine H.drawReads (fun j=>(([.pointer (some ⟨v.bx,0,none⟩),.pointer (some ⟨v.bx,0,none⟩),.pointer (some ⟨v.bx,0,none⟩),.chan (some v.of),.agg #[.int .i64 x.kind,.int .i64 x.chan,.int .i64 x.val,.slice q' n' c']]:List Value)[j]?).getD undef) 5 hk0 (by kernel_rfl) (by rfl) (by kernel_rfl) ?_ ?_
   ·intro j o hj ho S a hH hS hd
    obtain rfl|rfl|rfl|rfl|rfl:=(by omega:j=0∨j=1∨j=2∨j=3∨j=4)
    ·simp only[List.getElem?_toArray,List.getElem?_cons_zero,List.getElem?_cons_succ,Option.some.injEq] at ho
     subst ho
     have e0:a.eval (.tmp 0)= .pointer (some ⟨v.bx,0,none⟩):=hH.old hS (by kernel_rfl)
     refine⟨rfl,fun w₁ r=>?_⟩
     generalize a.eval=ρ at*
     refine⟨?_,?_⟩
     ·show _=Result.ok (Next.value (.pointer (some ⟨v.bx,0,none⟩))) w₁
      go_simp
     ·intro e he
      simp[go_sem,e0] at he
    ·simp only[List.getElem?_toArray,List.getElem?_cons_zero,List.getElem?_cons_succ,Option.some.injEq] at ho
     subst ho
     have e31:a.eval (.tmp 31)= .pointer (some ⟨v.bx,0,none⟩):=hH.eval (hd ⟨0,.data⟩ (by simp)) rfl
     refine⟨rfl,fun w₁ r=>?_⟩
     generalize a.eval=ρ at*
     refine⟨?_,?_⟩
     ·show _=Result.ok (Next.value (.pointer (some ⟨v.bx,0,none⟩))) w₁
      go_simp
     ·intro e he
      simp[go_sem,e31] at he
    ·simp only[List.getElem?_toArray,List.getElem?_cons_zero,List.getElem?_cons_succ,Option.some.injEq] at ho
     subst ho
     have e32:a.eval (.tmp 32)= .pointer (some ⟨v.bx,0,none⟩):=hH.eval (hd ⟨1,.data⟩ (by simp)) rfl
     refine⟨rfl,fun w₁ r=>?_⟩
     generalize a.eval=ρ at*
     refine⟨?_,?_⟩
     ·show _=Result.ok (Next.value (.pointer (some ⟨v.bx,0,none⟩))) w₁
      go_simp
     ·intro e he
      simp[go_sem,e32] at he
    ·simp only[List.getElem?_toArray,List.getElem?_cons_zero,List.getElem?_cons_succ,Option.some.injEq] at ho
     subst ho
     have e33:a.eval (.tmp 33)= .pointer (some ⟨v.bx,0,none⟩):=hH.eval (hd ⟨2,.data⟩ (by simp)) rfl
     refine⟨rfl,fun w₁ r=>?_⟩
     generalize a.eval=ρ at*
     have k0:=(r.cell _ g0r).trans g0
     refine⟨?_,?_⟩
     ·show _=Result.ok (Next.value (.chan (some v.of))) w₁
      go_simp
     ·intro e he
      simp[go_sem,e33,k0] at he
      subst he;exact⟨_,rfl,World.block_lt_of_cell? _ _ k0,g0r⟩
    ·simp only[List.getElem?_toArray,List.getElem?_cons_zero,List.getElem?_cons_succ,Option.some.injEq] at ho
     subst ho
     have e7:a.eval (.tmp 7)= .pointer (some ⟨Bk,0,none⟩):=hH.old hS (by kernel_rfl)
     refine⟨rfl,fun w₁ r=>?_⟩
     generalize a.eval=ρ at*
     have k0:=(r.cell _ t0r).trans t0
     have k1:=(r.cell _ t1r).trans t1
     have k2:=(r.cell _ t2r).trans t2
     have k3:=(r.cell _ t3r).trans t3
     refine⟨?_,?_⟩
     ·show _=Result.ok (Next.value (.agg #[.int .i64 x.kind,.int .i64 x.chan,.int .i64 x.val,.slice q' n' c'])) w₁
      go_simp
     ·intro e he
      simp[go_sem,e7,k0,k1,k2,k3] at he
      rcases he with rfl|rfl|rfl|rfl;exact⟨_,rfl,World.block_lt_of_cell? _ _ k0,t0r⟩;exact⟨_,rfl,World.block_lt_of_cell? _ _ k1,t1r⟩;exact⟨_,rfl,World.block_lt_of_cell? _ _ k2,t2r⟩;exact⟨_,rfl,World.block_lt_of_cell? _ _ k3,t3r⟩
   simp only[canon,List.range,List.range.loop,List.foldl_cons,List.foldl_nil,dOf,List.getElem?_toArray,List.getElem?_cons_zero,List.getElem?_cons_succ,Option.bind_some,Option.getD_some]
   walk_nrm
   obtain⟨M,rfl⟩:∃M,N=M+1:=⟨N-1,by simp at hN;omega⟩
   refine GoesN.stop fun w₅ r₅=>?_
   have B5:=B4.rely S' (idle_of_busy r₅)
   have h5:=own_row r₅ ho (fun j=>.inr (hc j)) h4
   have hN5:=Nat.le_trans hN4 r₅.size
   clear r₅ t0 t0r t1 t1r t2 t2r t3 t3r g0 g0r h4 B4 G4 hN4 w4
   unfold AtRun
   refine⟨rfl,rfl,?_⟩
   have hnx:C.nxt ⟨x::l,z,none⟩=some (x.value,⟨l,z,some x.kind⟩):=by rw[hn];simp only[Wk.nxt];rw[adds_other hk4]
   rw[hnx]
   refine⟨⟨_,by rw[hP];exact send_step (c:=v.of) (x:=.tmp 34) (y:=.tmp 35) rfl (by rfl) hk0 rfl (by simp[Act.eval]) (by simp[Act.eval,OpV.value,he])⟩,fun w₆ r₆=>?_⟩
   have B6:=B5.rely S' r₆
   have h6:=own_row r₆ ho (fun j=>.inr (hc j)) h5
   have hN6:=Nat.le_trans hN5 r₆.size
   clear r₆ h5 B5 hN5 w₅
   rw[served_at]
   walk_nrm
   rw[hP]
   refine⟨100,?_⟩
   have H2:=gait_n Try.prog false false true (AtSel C (AtRun C v M) v ⟨l,z,some x.kind⟩)
   have q1:=B6.c1
   have q1r:(Tidle C v wr').rd (.cell ⟨v.bx,1,none⟩):=.inl S'.k1
   show GoesN _ _ _ _ _ _ (Tidle C v wr') _ _
   refine H2.regionEnd ?_
   refine H2.seq ?_
   refine H2.seq ?_
   refine H2.region ?_
   simp only[List.size_toArray,List.length_cons,List.length_nil,Nat.reduceAdd,Nat.zero_add,List.range,List.range.loop]
   co_applyP Gait.pure H2 _ rfl (by rfl) hk0 (fun _=>run_eq_of ?run14) (fun _=>?evs14) ?rest14
   case run14=>intro K hK;go_simp;exact hK
   case evs14=>simp[go_sem]
   walk_nrm
   co_applyP Gait.pure H2 _ rfl (by rfl) hk0 (fun _=>run_eq_of ?run15) (fun _=>?evs15) ?rest15
   case run15=>intro K hK;go_simp;exact hK
   case evs15=>simp[go_sem]
   walk_nrm
   co_applyP Gait.pure H2 _ rfl (by rfl) hk0 (fun _=>run_eq_of ?run16) (fun _=>?evs16) ?rest16
   case run16=>intro K hK;go_simp;exact hK
   case evs16=>simp[go_sem]
   walk_nrm
   co_applyP Gait.read H2 _ rfl (by rfl) hk0 (fun w₁ r=>⟨run_eq_of ?run17,?evs17⟩) ?rest17
   case run17=>have k0:=(r.cell _ q1r).trans q1;intro K hK;go_simp;exact hK
   case evs17=>have k0:=(r.cell _ q1r).trans q1;intro e he;simp[go_sem,k0] at he;subst he;exact⟨_,rfl,World.block_lt_of_cell? _ _ k0,q1r⟩
   walk_nrm
   refine H2.regionEnd ?_
   refine H2.region ?_
   simp only[List.size_toArray,List.length_cons,List.length_nil,Nat.reduceAdd,Nat.zero_add,List.range,List.range.loop]
   co_applyP Gait.pure H2 _ rfl (by rfl) hk0 (fun _=>run_eq_of ?run18) (fun _=>?evs18) ?rest18
   case run18=>intro K hK;go_simp;exact hK
   case evs18=>simp[go_sem]
   walk_nrm
   refine H2.regionEnd ?_
   refine H2.seq ?_
   refine H2.region ?_
   simp only[List.size_toArray,List.length_cons,List.length_nil,Nat.reduceAdd,Nat.zero_add,List.range,List.range.loop]
   refine GoesN.stop fun w₇ r₇=>?_
   have B7:=B6.rely S' r₇
   have h7:=own_row r₇ ho (fun j=>.inr (hc j)) h6
   have hN7:=Nat.le_trans hN6 r₇.size
   clear r₇ h6 B6 hN6 q1 q1r w₆
   refine⟨rfl,rfl,?_,fun y w₈ r₈ G8=>?_,fun w₈ r₈=>?_⟩
   ·rw[hP]
    rw[stepG_comm (cases:=selCases C v) (blocking:=true) (shape:=.select) (w':=w₇) rfl (by rfl) hk0 (by simp[go_sem,selCases,rcase])]
    unfold listed
    rw[show(execOp _ _).events _ _ _= #[] by simp[go_sem],seen_none]
   ·have B8:=B7.rely S' r₈
    have h8:=own_row r₈ ho (fun j=>.inr (hc j)) h7
    have hN8:=Nat.le_trans hN7 r₈.size
    clear r₈ h7 B7 hN7 w₇
    rw[hP,finishComm_served,served_at]
    have hcr:commResult (selCases C v) .select 0 (.int .i64 y) true= .tuple #[.int .i64 0,.bool true,.int .i64 y,.agg #[]]:=by simp[commResult,selCases,rcase,goInt]
    rw[hcr]
    refine⟨100*(l.length+1)+100,?_⟩
    have H3:=gait_n Try.prog false false false (AtRun C v M (C.ans ⟨l,z,some x.kind⟩ y))
    show GoesN _ _ _ _ _ _ (Tbusy C v wr') _ _
    walk_nrm
    co_applyP Gait.pure H3 _ rfl (by rfl) hk0 (fun _=>run_eq_of ?run19) (fun _=>?evs19) ?rest19
    case run19=>intro K hK;go_simp;exact hK
    case evs19=>simp[go_sem]
    walk_nrm
    co_applyP Gait.pure H3 _ rfl (by rfl) hk0 (fun _=>run_eq_of ?run20) (fun _=>?evs20) ?rest20
    case run20=>intro K hK;go_simp;exact hK
    case evs20=>simp[go_sem]
    walk_nrm
    co_applyP Gait.pure H3 _ rfl (by rfl) hk0 (fun _=>run_eq_of ?run21) (fun _=>?evs21) ?rest21
    case run21=>intro K hK;go_simp;exact hK
    case evs21=>simp[go_sem]
    walk_nrm
    refine H3.regionEnd ?_
    refine H3.block ?_
    refine H3.cond true rfl ?_
    simp only[if_true,if_false,Bool.false_eq_true,↓reduceIte]
    refine H3.seq ?_
    refine H3.region ?_
    simp only[List.size_toArray,List.length_cons,List.length_nil,Nat.reduceAdd,Nat.zero_add,List.range,List.range.loop]
    co_applyP Gait.pure H3 _ rfl (by rfl) hk0 (fun _=>run_eq_of ?run22) (fun _=>?evs22) ?rest22
    case run22=>intro K hK;go_simp;exact hK
    case evs22=>simp[go_sem]
    walk_nrm
    co_applyP Gait.pure H3 _ rfl (by rfl) hk0 (fun _=>run_eq_of ?run23) (fun _=>?evs23) ?rest23
    case run23=>intro K hK;go_simp;exact hK
    case evs23=>simp[go_sem]
    walk_nrm
    refine H3.regionEnd ?_
    refine H3.seq ?_
    refine H3.region ?_
    simp only[List.size_toArray,List.length_cons,List.length_nil,Nat.reduceAdd,Nat.zero_add,List.range,List.range.loop]
    co_applyP Gait.pure H3 _ rfl (by rfl) hk0 (fun _=>run_eq_of ?run24) (fun _=>?evs24) ?rest24
    case run24=>intro K hK;go_simp;exact hK
    case evs24=>simp[go_sem]
    walk_nrm
    have t0:w₈.cell? ⟨Bk,0,none⟩=some (.int .i64 x.kind):=cell_row h8 rfl
    have t0r:(Tbusy C v wr').rd (.cell ⟨Bk,0,none⟩):=.inr (hc 0)
    co_applyP Gait.read H3 _ rfl (by rfl) hk0 (fun w₁ r=>⟨run_eq_of ?run25,?evs25⟩) ?rest25
    case run25=>have k0:=(r.cell _ t0r).trans t0;intro K hK;go_simp;exact hK
    case evs25=>have k0:=(r.cell _ t0r).trans t0;intro e he;simp[go_sem,k0] at he;subst he;exact⟨_,rfl,World.block_lt_of_cell? _ _ k0,t0r⟩
    walk_nrm
    by_cases hk1:x.kind=1
    ·skip
     co_applyP Gait.pure H3 _ rfl (by rfl) hk0 (fun _=>run_eq_of ?run26) (fun _=>?evs26) ?rest26
     case run26=>intro K hK;go_simp;exact hK
     case evs26=>simp[go_sem]
     walk_nrm
     refine H3.regionEnd ?_
     refine H3.cond false rfl ?_
     simp only[if_true,if_false,Bool.false_eq_true,↓reduceIte]
     refine H3.skip ?_
     refine H3.inBlock ?_
     refine H3.inBlock ?_
     refine H3.region ?_
     simp only[List.size_toArray,List.length_cons,List.length_nil,Nat.reduceAdd,Nat.zero_add,List.range,List.range.loop]
     co_applyP Gait.pure H3 _ rfl (by rfl) hk0 (fun _=>run_eq_of ?run27) (fun _=>?evs27) ?rest27
     case run27=>intro K hK;go_simp;exact hK
     case evs27=>simp[go_sem]
     walk_nrm
     co_applyP Gait.pure H3 _ rfl (by rfl) hk0 (fun _=>run_eq_of ?run28) (fun _=>?evs28) ?rest28
     case run28=>intro K hK;go_simp;exact hK
     case evs28=>simp[go_sem]
     walk_nrm
     refine H3.regionEnd ?_
     refine H3.inLoop ?_
     have hans:C.ans ⟨l,z,some x.kind⟩ y=⟨l,z,none⟩:=by rw[ha];simp[Wk.ans,hk1]
     rw[hans,show((i:Int)+1)=((i+1:Nat):Int) by omega]
     exact GoesN.le (by omega) (ih (i+1) M hd' (by simp at hN;omega) wr' _ w₈ _ _ _ _ _ _ _ _ _ _ _ _ _ _ _ _ _ _ _ _ _ _ _ _ _ _ _ _ _ _ _ _ _ _ _ _ _ _ _ _ _ _ _ _ _ _ _ _ _ _ _ _ _ _ _ S' B8 G8 hN8)
    ·have hk1b:(x.kind !=1)=true:=by simpa using hk1
     co_applyP Gait.pure H3 _ rfl (by rfl) hk0 (fun _=>run_eq_of ?run29) (fun _=>?evs29) ?rest29
     case run29=>intro K hK;go_simp;exact hK
     case evs29=>simp[go_sem]
     walk_nrm
     refine H3.regionEnd ?_
     refine H3.cond true rfl ?_
     simp only[if_true,if_false,Bool.false_eq_true,↓reduceIte]
     have q2:=B8.c2
     have q2r:(Tbusy C v wr').rd (.cell ⟨v.bx,2,none⟩):=.inr S'.w2
     refine H3.region ?_
     simp only[List.size_toArray,List.length_cons,List.length_nil,Nat.reduceAdd,Nat.zero_add,List.range,List.range.loop]
     co_applyP Gait.pure H3 _ rfl (by rfl) hk0 (fun _=>run_eq_of ?run30) (fun _=>?evs30) ?rest30
     case run30=>intro K hK;go_simp;exact hK
     case evs30=>simp[go_sem]
     walk_nrm
     co_applyP Gait.pure H3 _ rfl (by rfl) hk0 (fun _=>run_eq_of ?run31) (fun _=>?evs31) ?rest31
     case run31=>intro K hK;go_simp;exact hK
     case evs31=>simp[go_sem]
     walk_nrm
     co_applyP Gait.pure H3 _ rfl (by rfl) hk0 (fun _=>run_eq_of ?run32) (fun _=>?evs32) ?rest32
     case run32=>intro K hK;go_simp;exact hK
     case evs32=>simp[go_sem]
     walk_nrm
     co_applyP Gait.read H3 _ rfl (by rfl) hk0 (fun w₁ r=>⟨run_eq_of ?run33,?evs33⟩) ?rest33
     case run33=>have k0:=(r.cell _ q2r).trans q2;intro K hK;go_simp;exact hK
     case evs33=>have k0:=(r.cell _ q2r).trans q2;intro e he;simp[go_sem,k0] at he;subst he;exact⟨_,rfl,World.block_lt_of_cell? _ _ k0,q2r⟩
     walk_nrm
     co_applyP Gait.pure H3 _ rfl (by rfl) hk0 (fun _=>run_eq_of ?run34) (fun _=>?evs34) ?rest34
     case run34=>intro K hK;go_simp;exact hK
     case evs34=>simp[go_sem]
     walk_nrm
     co_applyP Gait.pure H3 _ rfl (by rfl) hk0 (fun _=>run_eq_of ?run35) (fun _=>?evs35) ?rest35
     case run35=>intro K hK;go_simp;exact hK
     case evs35=>simp[go_sem]
     walk_nrm
     co_applyP Gait.pure H3 _ rfl (by rfl) hk0 (fun _=>run_eq_of ?run36) (fun _=>?evs36) ?rest36
     case run36=>intro K hK;go_simp;exact hK
     case evs36=>simp[go_sem]
     walk_nrm
     co_applyP Gait.pure H3 _ rfl (by rfl) hk0 (fun _=>run_eq_of ?run37) (fun _=>?evs37) ?rest37
     case run37=>intro K hK;go_simp;exact hK
     case evs37=>simp[go_sem]
     walk_nrm
     refine H3.turn rfl (by rfl) hk0 (fun w₉ r=>?_)
     have B9:=B8.rely S' (idle_of_busy r)
     have G9:=good_rely G8 r
     have hN9:=Nat.le_trans hN8 r.size
     refine⟨undef,w₉.setCell ⟨v.bx,2,none⟩ (.int .i64 (IntKind.i64.wrap (z+y))),.inr ⟨rfl,?_⟩,B9.guar2 (T:=Tbusy C v wr') S'.w2 _ ?_,?_⟩
     ·have c2:=B9.c2;have f2:=B9.free 2
      go_simp
     ·have c2:=B9.c2;have f2:=B9.free 2
      intro e he
      have hm:=mem_listed he
      simp[go_sem,c2,f2] at hm
      exact hm
     have Z:=Sets.set w₉ ⟨v.bx,2,none⟩ (.int .i64 (IntKind.i64.wrap (z+y)))
     have B6:=B9.set2 (IntKind.i64.wrap (z+y))
     have G6:C.good (w₉.setCell ⟨v.bx,2,none⟩ (.int .i64 (IntKind.i64.wrap (z+y)))):=C.good_keep _ _ (fun a ha=>World.cell?_setCell_other _ _ _ _ fun e=>hR2 (by rw[e];exact ha)) G9
     have hN6:N0≤(w₉.setCell ⟨v.bx,2,none⟩ (.int .i64 (IntKind.i64.wrap (z+y)))).heap.size:=by rw[Z.size];exact hN9
     rw[Z.size,grow_same]
     generalize w₉.setCell ⟨v.bx,2,none⟩ (.int .i64 (IntKind.i64.wrap (z+y)))=w6 at Z B6 G6 hN6⊢
     walk_nrm
     refine H3.regionEnd ?_
     refine H3.inBlock ?_
     refine H3.inBlock ?_
     refine H3.region ?_
     simp only[List.size_toArray,List.length_cons,List.length_nil,Nat.reduceAdd,Nat.zero_add,List.range,List.range.loop]
     co_applyP Gait.pure H3 _ rfl (by rfl) hk0 (fun _=>run_eq_of ?run38) (fun _=>?evs38) ?rest38
     case run38=>intro K hK;go_simp;exact hK
     case evs38=>simp[go_sem]
     walk_nrm
     co_applyP Gait.pure H3 _ rfl (by rfl) hk0 (fun _=>run_eq_of ?run39) (fun _=>?evs39) ?rest39
     case run39=>intro K hK;go_simp;exact hK
     case evs39=>simp[go_sem]
     walk_nrm
     refine H3.regionEnd ?_
     refine H3.inLoop ?_
     have hans:C.ans ⟨l,z,some x.kind⟩ y=⟨l,IntKind.i64.wrap (z+y),none⟩:=by rw[ha];simp[Wk.ans,hk1]
     rw[hans,show((i:Int)+1)=((i+1:Nat):Int) by omega]
     exact GoesN.le (by omega) (ih (i+1) M hd' (by simp at hN;omega) wr' _ w6 _ _ _ _ _ _ _ _ _ _ _ _ _ _ _ _ _ _ _ _ _ _ _ _ _ _ _ _ _ _ _ _ _ _ _ _ _ _ _ _ _ _ _ _ _ _ _ _ _ _ _ _ _ _ _ S' B6 G6 hN6)
   ·have B8:=B7.rely S' r₈
    clear r₈ h7 B7 hN7 w₇
    rw[hP,finishComm_served,served_at]
    have hcr:commResult (selCases C v) .select 1 (.agg #[]) false= .tuple #[.int .i64 1,.bool false,.int .i64 0,.agg #[]]:=by simp[commResult,selCases,rcase,goInt]
    rw[hcr]
    refine⟨100,?_⟩
    have H4:=gait_n Try.prog false false true (AtCl C v ⟨l,z,some x.kind⟩)
    show GoesN _ _ _ _ _ _ (Tidle C v wr') _ _
    walk_nrm
    co_applyP Gait.pure H4 _ rfl (by rfl) hk0 (fun _=>run_eq_of ?run40) (fun _=>?evs40) ?rest40
    case run40=>intro K hK;go_simp;exact hK
    case evs40=>simp[go_sem]
    walk_nrm
    co_applyP Gait.pure H4 _ rfl (by rfl) hk0 (fun _=>run_eq_of ?run41) (fun _=>?evs41) ?rest41
    case run41=>intro K hK;go_simp;exact hK
    case evs41=>simp[go_sem]
    walk_nrm
    co_applyP Gait.pure H4 _ rfl (by rfl) hk0 (fun _=>run_eq_of ?run42) (fun _=>?evs42) ?rest42
    case run42=>intro K hK;go_simp;exact hK
    case evs42=>simp[go_sem]
    walk_nrm
    refine H4.regionEnd ?_
    refine H4.block ?_
    refine H4.cond false rfl ?_
    simp only[if_true,if_false,Bool.false_eq_true,↓reduceIte]
    refine H4.cond true rfl ?_
    simp only[if_true,if_false,Bool.false_eq_true,↓reduceIte]
    refine H4.ret ?_
    refine GoesN.stop fun w3 r3=>?_
    have B3:=B8.rely S' r3
    refine⟨rfl,fun r hq=>⟨rfl,_,by rw[hP];exact stepG_unwind_close rfl hq norace29,?_⟩⟩
    rw[hP,hs]
    exact hend z false wr' _ _ _ S' (B3.chan hq)
end
end Go.Side
