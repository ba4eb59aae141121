/-
  Texts of Ytbjlijagheifgaa, merged.
-/
import Derived.Test.YtbjlijagheifgaaD26
import Derived.Test.YtbjlijagheifgaaD24
import Derived.Laws.MakeOwn
import Derived.Conc.AppendWalk
set_option linter.unusedSimpArgs false
set_option linter.unusedVariables false
namespace Go.Proofs.Ytbjlijagheifgaa
section
open Go.RowKit Go.Side
noncomputable def rg30(i:Nat):Code:=(regOf i (Try.f30.body.getD .skip)).getD .skip
theorem nm_wp{P:Program}{c:Code}{a:Act}{w:World}{Q:Act→World→Prop}(h:c.wp P (fun e a' u'=>match e with| .normal=>Q a' u'|_=>False) a w):c.wp P (fun e a' u'=>e= .normal∧Q a' u') a w:=
 Code.wp_mono (fun e a w q=>by cases e<;>first|exact⟨rfl,q⟩|exact q.elim) h
set_option maxHeartbeats 4000000 in
set_option maxRecDepth 100000 in
theorem wp_r9{bN bnx:Nat}{u:World}{E:OpV→List Int}{L:List Ent}(hc:u.cell? ⟨bN,0,none⟩=some (.slice (some ⟨bnx,0,none⟩) L.length L.length))(hN:NxL u E (some ⟨bnx,0,none⟩) L)(hl:L.length≤8){Q:Act→World→Prop}(u0 u1 u2 u3 u4 u6 u7 u8 u9 u10 u11 u12 u13 u14 u15 u16 u17 u18 u19 u20 u21 u22 u23 u24 u25 u26 u27 u28 u29 u30 u31 u32 u33 u34 u35 u36 u37 u38 u39 u40 u41 u42 u43 u44 u45 u46 u47 u48 u49 u50 u51 u52 u53 u54 u55 u56 u57 u58 u59 u60 u61 u62 u63 u64 u65 u66 u67 u68 u69 u70 u71 u72 u73 u74 u75 u76 u77 u78 u79 u80 u81 u82 u83 u84:Value)(kk:∀v u',u'.ownsRow u.heap.size 50 4 v (possP E L.length (offE L)).length (flC stC (possP E L.length (offE L)))→Below u.heap.size u u'→Q ⟨#[u0,u1,u2,u3,u4,.pointer (some ⟨bN,0,none⟩),u6,u7,u8,v,u10,u11,u12,u13,u14,u15,u16,u17,u18,u19,u20,u21,u22,u23,u24,u25,.slice (some ⟨bnx,0,none⟩) L.length L.length,v,u28,u29,u30,u31,u32,u33,u34,u35,u36,u37,u38,u39,u40,u41,u42,u43,u44,u45,u46,u47,u48,u49,u50,u51,u52,u53,u54,u55,u56,u57,u58,u59,u60,u61,u62,u63,u64,u65,u66,u67,u68,u69,u70,u71,u72,u73,u74,u75,u76,u77,u78,u79,u80,u81,u82,u83,u84],[]⟩ u'):
  (rg30 9).wp Try.prog (fun e a' u'=>e= .normal∧Q a' u') ⟨#[u0,u1,u2,u3,u4,.pointer (some ⟨bN,0,none⟩),u6,u7,u8,u9,u10,u11,u12,u13,u14,u15,u16,u17,u18,u19,u20,u21,u22,u23,u24,u25,u26,u27,u28,u29,u30,u31,u32,u33,u34,u35,u36,u37,u38,u39,u40,u41,u42,u43,u44,u45,u46,u47,u48,u49,u50,u51,u52,u53,u54,u55,u56,u57,u58,u59,u60,u61,u62,u63,u64,u65,u66,u67,u68,u69,u70,u71,u72,u73,u74,u75,u76,u77,u78,u79,u80,u81,u82,u83,u84],[]⟩ u:=by
 have PA:=Lib.hid (possible_any u E (some ⟨bnx,0,none⟩) L.length L hN hl)
 clear hN hl
 have KK:=Lib.hid kk
 clear kk
 refine nm_wp ?_
 unfold rg30
 conv in Option.getD (regOf _ _) _=>whnf
 go_wp2_with fail
 (with_reducible refine PA.out.mono ?_);rintro e w1 ⟨v,rfl,h1,h2⟩
 have H1:=Lib.hid h1
 have H2:=Lib.hid h2
 clear h1 h2
 go_wp2_with fail
 exact KK.out v w1 H1.out H2.out
section
variable {P:Program}
theorem wpList_append_k{ops:Array Oper}{rest:List Oper}{o:Oper}{a:Act}{w:World}{Q:Exit→Act→World→Prop}(hgd:o.guard=none)(s x:Operand)(t:TypeId)(ho:o.op= .call {callee:=.builtin .append,args:= #[s,x],argTypes:= #[t,t]})(base:Nat)(e:TypeId)(i:TypeInfo)(z:Value)(size bytes:Nat)(ht:P.underlying t=some (.slice e))(hi:P.info? e=some i)(hz:i.zero=some z)(hsize:i.size=size)(hby:i.bytes=bytes)(hzs:z.cells.size=size)(hsz:3≤size)(v:Value)(n:Nat)(xs:List Value)(hs:a.eval s=v)(hown:w.ownsRow base e size v n xs)(ad:Addr)(m c:Nat)(us:List Value)(hx:a.eval x= .slice (some ad) m c)(hl:us.length=m*size)(hr:∀j u,us[j]?=some u→w.cell? (ad.add j)=some u)(h1:∀u∈us,u.oneCell'=true)(h63:n+m≤maxLen)(hbytes:(n+m)*bytes≤140737488355328)(hbase:base≤w.heap.size)(h:∀v' w',w'.ownsRow base e size v' (n+m) (xs++us)→w.grownBy w' v.ownBlock→(v'.ownBlock=v.ownBlock∨v'.ownBlock=some w.heap.size)→(∀g,v.ownBlock=some g→∀o,w.heap[g]?=some o→∃o',w'.heap[g]?=some o'∧Kin o o')→wpList P ops Q rest (a.put o.dst v') w'):wpList P ops Q (o::rest) a w:=by
 refine wpList_plain hgd fun K hK=>?_
 obtain⟨v',w',hrun,h2,h3,_,h5⟩:=run_append_own_at (P:=P) w base t o.type e i z size bytes ht hi hz hsize hby hzs (by omega) v n xs hown ad m c us hl hr h1 h63 hbytes hbase
 have h6:=append_kin w base t o.type e i z size bytes ht hi hz hsize hby hsz v n xs hown ad m c us hl hr h1 h63 hbytes hrun
 unfold Oper.wp execOp
 simp only[ho,resolve,invoke,builtin,Sem.run_bind,Sem.run_pure,Result.andThen_ok,List.map_toArray,List.map_cons,List.map_nil,hs,hx,hrun]
 exact hK _ _ (h v' w' h2 h3 h5 h6)
end
set_option maxHeartbeats 4000000 in
set_option maxRecDepth 100000 in
theorem wp_r17{N0 bs:Nat}{u:World}{vS:Value}{S:List StepP}{s:StepP}(hB:Blk u bs 50 (stC s))(hS:u.ownsRow N0 50 4 vS S.length (flC stC S))(hN:N0≤u.heap.size)(hl:S.length≤100000){Q:Act→World→Prop}(u0 u1 u2 u3 u4 u5 u6 u7 u9 u10 u11 u13 u14 u15 u16 u17 u18 u19 u20 u21 u22 u23 u24 u25 u26 u27 u28 u29 u30 u31 u32 u33 u34 u35 u36 u37 u38 u39 u40 u41 u42 u43 u44 u45 u46 u47 u48 u49 u50 u51 u52 u53 u54 u55 u56 u57 u58 u59 u60 u61 u62 u63 u64 u65 u66 u67 u68 u69 u70 u71 u72 u73 u74 u75 u76 u77 u78 u79 u80 u81 u82 u83 u84:Value)(kk:∀v' u',u'.ownsRow N0 50 4 v' (S.length+1) (flC stC (S++[s]))→Upd (fun k=>vS.ownBlock=some k) u u'→(∀g,vS.ownBlock=some g→∀o,u.heap[g]?=some o→∃o',u'.heap[g]?=some o'∧Kin o o')→(v'.ownBlock=vS.ownBlock∨v'.ownBlock=some (u.heap.size+1))→Q ⟨#[u0,u1,u2,u3,u4,u5,u6,u7,v',u9,u10,u11,.pointer (some ⟨bs,0,none⟩),u13,u14,u15,u16,u17,u18,u19,u20,u21,u22,u23,u24,u25,u26,u27,u28,u29,u30,u31,u32,u33,u34,u35,u36,u37,u38,u39,u40,u41,u42,u43,u44,u45,u46,u47,u48,u49,u50,u51,u52,vS,.agg #[.int .i64 s.fr,.int .i64 s.tg,.int .i64 s.ch,.int .i64 s.vl],.slice (some ⟨u.heap.size,0,none⟩) 1 1,v',u57,u58,u59,u60,u61,u62,u63,u64,u65,u66,u67,u68,u69,u70,u71,u72,u73,u74,u75,u76,u77,u78,u79,u80,u81,u82,u83,u84],[]⟩ u'):
  (rg30 17).wp Try.prog (fun e a' u'=>e= .normal∧Q a' u') ⟨#[u0,u1,u2,u3,u4,u5,u6,u7,vS,u9,u10,u11,.pointer (some ⟨bs,0,none⟩),u13,u14,u15,u16,u17,u18,u19,u20,u21,u22,u23,u24,u25,u26,u27,u28,u29,u30,u31,u32,u33,u34,u35,u36,u37,u38,u39,u40,u41,u42,u43,u44,u45,u46,u47,u48,u49,u50,u51,u52,u53,u54,u55,u56,u57,u58,u59,u60,u61,u62,u63,u64,u65,u66,u67,u68,u69,u70,u71,u72,u73,u74,u75,u76,u77,u78,u79,u80,u81,u82,u83,u84],[]⟩ u:=by
 have KK:=Lib.hid kk
 have c0:=hB.cell (i:=0) rfl
 have c1:=hB.cell (i:=1) rfl
 have c2:=hB.cell (i:=2) rfl
 have c3:=hB.cell (i:=3) rfl
 obtain⟨i1,hi,hz0,hz1,hz2⟩:=info_parts Try.infoStep
 have JI:=Lib.hid hi;have JZ0:=Lib.hid hz0;have JZ1:=Lib.hid hz1;have JZ2:=Lib.hid hz2
 have HS:=Lib.hid hS
 have HN:=Lib.hid hN
 have HL:=Lib.hid hl
 clear kk hB hi hz0 hz1 hz2 hS hN hl
 have B1:Hid (Blk (u.alloc (.cells #[.int .i64 s.fr,.int .i64 s.tg,.int .i64 s.ch,.int .i64 s.vl] 50)) u.heap.size 50 (stC s)):=Blk.new u 50 (stC s)
 have O1:=Lib.hid (own_upd HS.out (Upd.of_below (S:=fun _=>False) ((Below.refl u.heap.size u).alloc (Nat.le_refl _) (.cells #[.int .i64 s.fr,.int .i64 s.tg,.int .i64 s.ch,.int .i64 s.vl] 50))) (fun _ _=>id))
 refine nm_wp ?_
 unfold rg30
 conv in Option.getD (regOf _ _) _=>whnf
 go_wp2_with (at_builtin;refine wpList_append_k rfl _ _ 30 rfl N0 50 i1 _ 4 32 Try.underlying30 JI.out JZ0.out JZ1.out JZ2.out rfl (by decide) vS S.length (flC stC S) rfl O1.out ⟨u.heap.size,0,none⟩ 1 1 (stC s) rfl rfl ?c0 (stC_one _) ?c1 ?c2 ?c3 ?_)
 case c0=>exact fun _ _ h=>h
 case c1=>have:=HL.out;unfold maxLen;omega
 case c2=>have:=HL.out;omega
 case c3=>have:=HN.out;simp;omega
 intro v' w1 g1 g2 g3 g4
 have H1:=Lib.hid g1
 have H2:=Lib.hid g2
 have H3:=Lib.hid g3
 have H4:=Lib.hid g4
 clear g1 g2 g3 g4
 go_wp2_with fail
 refine KK.out v' w1 (by rw[flC_append,flC_one];exact H1.out) ?_ ?_ (by simpa using H3.out)
 ·exact(Upd.of_below (S:=fun k=>vS.ownBlock=some k) ((Below.refl u.heap.size u).alloc (Nat.le_refl _) (.cells #[.int .i64 s.fr,.int .i64 s.tg,.int .i64 s.ch,.int .i64 s.vl] 50))).trans (Upd.of_grownV H2.out)
 ·intro g hg o ho
  exact H4.out g hg o (by rw[←ho];exact Below.heap_alloc _ _ _ (Array.getElem?_eq_some_iff.1 ho).1)
end
end Go.Proofs.Ytbjlijagheifgaa
namespace Go.Side
section
open Go Go.Conc Go.ConcN Go.Proofs
set_option maxRecDepth 100000 in
set_option maxHeartbeats 8000000 in
theorem fetch{C:Fix Wk}{Anc:Nat→(Nat→WV)→(Nat→WState Wk)→Goroutine→World→Prop}(hP:C.P=Try.prog)(hn:C.nxt=Wk.nxt){w₀:World}(hlow:∀l,C.R0 l→l.low w₀.heap.size){p:Plc}(hp:p.ok w₀.heap.size){n:Nat}{ws:Nat→WV}{st:Nat→WState Wk}{nx:Nat→Option (Nat×OpV)}{T:Terr}{w:World}(R:SL C w₀ p n ws st nx T w){i:Nat}(hi:i<n){s:Wk}(hst:st i= .busy s)(heith:∀x s',s.nxt=some (x,s')→∃y:OpV,x=y.value∧∃q m c,y.eith= .slice q m c){b₀:Frame}{a₀:Act}{ops:Array Oper}{j:Nat}{rest:List Nat}{k:List Item}{cs:List Frame}{u3 u4 u5 u6 u7 u8 u9 u10 u11 u12 u13 u14 u15 u16 u17 u18 u19 u20 u21 u22 u23:Value}(ks:∀(x:OpV) (s':Wk) (b:Nat) (T':Terr) (w':World),s.nxt=some (x.value,s')→SL C w₀ p n ws (upd st i (.offd s')) (upd nx i (some (b,x))) T' w'→SW C Anc T' 0 0 n ws (upd st i (.offd s')) (G (b₀.at (a₀.put ((ops[j]?).bind (·.dst)) (.tuple #[])) (.inRegion ops rest::k)) cs) w')(kn:∀(T':Terr) (w':World),s.nxt=none→SL C w₀ p n ws (upd st i (.ended s)) (upd nx i none) T' w'→SW C Anc T' 0 0 n ws (upd st i (.ended s)) (G (b₀.at (a₀.put ((ops[j]?).bind (·.dst)) (.tuple #[])) (.inRegion ops rest::k)) cs) w'):
  SWn C Anc 0 0 n ws st 200 T (G ((base 53).at ⟨#[.int .i64 i,.pointer (some ⟨p.bN,0,none⟩),.pointer (some ⟨p.bW,0,none⟩),u3,u4,u5,u6,u7,u8,u9,u10,u11,u12,u13,u14,u15,u16,u17,u18,u19,u20,u21,u22,u23],[]⟩ [.code (Try.f53.body.getD .skip)]) (b₀.at a₀ (.inRegion ops (j::rest)::k)::cs)) w:=by
 have hk0:(base 53).kind≠ .early:=by decide
 have H:=gait_w C Anc 0 0 n ws st
 rw[hP] at H
 dsimp only[Try.f53,Option.getD]
 have nv:=R.nvar.cell (i:=0) rfl
 have nvr:=R.nvar.rd 0
 refine H.seq ?_
 refine H.region ?_
 simp only[List.size_toArray,List.length_cons,List.length_nil,Nat.reduceAdd,Nat.zero_add,List.range,List.range.loop]
 co_applyP Gait.read H _ rfl (by rfl) hk0 (fun w₁ r=>⟨run_eq_of ?run1,?evs1⟩) ?rest1
 case run1=>have k0:=(r.cell _ nvr).trans nv;intro K hK;go_simp;exact hK
 case evs1=>have k0:=(r.cell _ nvr).trans nv;intro e he;simp[go_sem,k0] at he;subst he;exact⟨_,rfl,World.block_lt_of_cell? _ _ k0,nvr⟩
 walk_nrm
 co_applyP Gait.pure H _ rfl (by rfl) hk0 (fun _=>run_eq_of ?run2) (fun _=>?evs2) ?rest2
 case run2=>intro K hK;go_simp;exact hK
 case evs2=>simp[go_sem]
 walk_nrm
 co_applyP Gait.pure H _ rfl (by rfl) hk0 (fun _=>run_eq_of ?run3) (fun _=>?evs3) ?rest3
 case run3=>intro K hK;go_simp;exact hK
 case evs3=>simp[go_sem,hi]
 walk_nrm
 refine H.store1 R.nrow i (.pointer none) rfl (by rfl) hk0 (fun w₁ O1=>?_) fun w₁ r O1=>?_
 ·have k0:=O1.cell (nxRow_get hi);have z0:=O1.free i
  refine⟨by go_simp,fun e he=>?_⟩
  simp[go_sem,k0,z0] at he
  exact he
 have R1:=(R.rely r).setNx hp hlow hi (y:=none) (fun b x e=>by cases e)
 rw[show nxVal none= .pointer none from rfl] at R1
 generalize w₁.setCell ⟨p.bnx,i,none⟩ (.pointer none)=w1 at R1⊢
 clear O1 r w₁ nv nvr R w
 walk_nrm
 refine H.regionEnd ?_
 refine H.seq ?_
 refine H.region ?_
 simp only[List.size_toArray,List.length_cons,List.length_nil,Nat.reduceAdd,Nat.zero_add,List.range,List.range.loop]
 have wv:=R1.wvar.cell (i:=0) rfl
 have wvr:=R1.wvar.rd 0
 have wr:=R1.row.cell (wsRow_get hi (Nat.le_refl n))
 have wrr:=R1.row.rd i
 have bc:=(R1.bx i hi).1.c0
 have bcr:=(R1.bx i hi).1.r0
 co_applyP Gait.read H _ rfl (by rfl) hk0 (fun w₁ r=>⟨run_eq_of ?run4,?evs4⟩) ?rest4
 case run4=>have k0:=(r.cell _ wvr).trans wv;intro K hK;go_simp;exact hK
 case evs4=>have k0:=(r.cell _ wvr).trans wv;intro e he;simp[go_sem,k0] at he;subst he;exact⟨_,rfl,World.block_lt_of_cell? _ _ k0,wvr⟩
 walk_nrm
 co_applyP Gait.pure H _ rfl (by rfl) hk0 (fun _=>run_eq_of ?run5) (fun _=>?evs5) ?rest5
 case run5=>intro K hK;go_simp;exact hK
 case evs5=>simp[go_sem]
 walk_nrm
 co_applyP Gait.pure H _ rfl (by rfl) hk0 (fun _=>run_eq_of ?run6) (fun _=>?evs6) ?rest6
 case run6=>intro K hK;go_simp;exact hK
 case evs6=>simp[go_sem,hi]
 walk_nrm
 co_applyP Gait.read H _ rfl (by rfl) hk0 (fun w₁ r=>⟨run_eq_of ?run7,?evs7⟩) ?rest7
 case run7=>have k0:=(r.cell _ wrr).trans wr;intro K hK;go_simp;exact hK
 case evs7=>have k0:=(r.cell _ wrr).trans wr;intro e he;simp[go_sem,k0] at he;subst he;exact⟨_,rfl,World.block_lt_of_cell? _ _ k0,wrr⟩
 walk_nrm
 co_applyP Gait.pure H _ rfl (by rfl) hk0 (fun _=>run_eq_of ?run8) (fun _=>?evs8) ?rest8
 case run8=>intro K hK;go_simp;exact hK
 case evs8=>simp[go_sem]
 walk_nrm
 co_applyP Gait.pure H _ rfl (by rfl) hk0 (fun _=>run_eq_of ?run9) (fun _=>?evs9) ?rest9
 case run9=>intro K hK;go_simp;exact hK
 case evs9=>simp[go_sem]
 walk_nrm
 co_applyP Gait.read H _ rfl (by rfl) hk0 (fun w₁ r=>⟨run_eq_of ?run10,?evs10⟩) ?rest10
 case run10=>have k0:=(r.cell _ bcr).trans bc;intro K hK;go_simp;exact hK
 case evs10=>have k0:=(r.cell _ bcr).trans bc;intro e he;simp[go_sem,k0] at he;subst he;exact⟨_,rfl,World.block_lt_of_cell? _ _ k0,bcr⟩
 walk_nrm
 cases hnx:s.nxt with
 |none=>
  show SW C Anc T 0 0 n ws st _ w1
  refine SW.recvEndAt i s (.agg #[.int .i64 0,.int .i64 0,.int .i64 0,.slice none 0 0]) (T':=TBk T (fun l=>C.R0 l∧QuietS n (upd st i (.ended s)))) rfl (by rfl) hk0 (fun w₁=>by rw[hP];simp[go_sem,rcase]) (fun w₁=>by rw[hP];simp[go_sem]) hi hst (by rw[hn];exact hnx) (fun l=>TBk_rd fun l h=>R1.gi.r0 l h.1) (fun l h=>h) rfl fun w₂ r=>?_
  have R2:SL C w₀ p n ws (upd st i (.ended s)) (upd nx i none) (TBk T (fun l=>C.R0 l∧QuietS n (upd st i (.ended s)))) w₂:=(R1.rely r).terr hp hlow rfl (fun l=>TBk_rd fun l h=>R1.gi.r0 l h.1) (fun l h=>h.imp id And.left) (fun l h=>.inl (.inl h)) fun hq l hl=>.inr ⟨hl,hq⟩
  have H2:=gait_w C Anc 0 0 n ws (upd st i (.ended s))
  rw[hP] at H2
  show SWn C Anc 0 0 n ws (upd st i (.ended s)) 150 _ _ w₂
  clear r R1 wv wvr wr wrr bc bcr
  generalize TBk T (fun l=>C.R0 l∧QuietS n (upd st i (.ended s)))=T2 at R2⊢
  walk_nrm
  co_applyP Gait.pure H2 _ rfl (by rfl) hk0 (fun _=>run_eq_of ?run11) (fun _=>?evs11) ?rest11
  case run11=>intro K hK;go_simp;exact hK
  case evs11=>simp[go_sem]
  walk_nrm
  co_applyP Gait.pure H2 _ rfl (by rfl) hk0 (fun _=>run_eq_of ?run12) (fun _=>?evs12) ?rest12
  case run12=>intro K hK;go_simp;exact hK
  case evs12=>simp[go_sem]
  walk_nrm
  co_applyP Gait.pure H2 _ rfl (by rfl) hk0 (fun _=>run_eq_of ?run13) (fun _=>?evs13) ?rest13
  case run13=>intro K hK;go_simp;exact hK
  case evs13=>simp[go_sem]
  walk_nrm
  refine H2.allot (fun s=>.pointer (some ⟨s,0,none⟩)) (.cells #[.int .i64 0,.int .i64 0,.int .i64 0,.slice none 0 0] 29 (0,0)) rfl (by rfl) hk0 (fun w₁=>by simp[go_sem]) (fun w₁=>by simp[go_sem]) fun w₃ r=>?_
  have R3:=(R2.rely r).fr (S:=fun _=>False) hlow (Fr.alloc _ _ _ (.cells #[.int .i64 0,.int .i64 0,.int .i64 0,.slice none 0 0] 29 (0,0))) ((R2.rely r).gi.alloc _) (fun b hb=>hb.elim) (fun b hb=>hb.elim)
  have O3:=OwnR.new T2 w₃ #[.int .i64 0,.int .i64 0,.int .i64 0,.slice none 0 0] 29
  have hb0:w₀.heap.size≤w₃.heap.size:=(R2.rely r).kp.size
  have l1:=(R2.rely r).row.lt
  have l2:=(R2.rely r).nrow.lt
  have l3:=(R2.rely r).nvar.lt
  have l4:=(R2.rely r).wvar.lt
  have l5:∀k,k<n→(ws k).bx<w₃.heap.size:=fun k hk=>((R2.rely r).bx k hk).1.lt
  have l6:∀k,k<n→∀b x,upd nx i none k=some (b,x)→b<w₃.heap.size:=fun k hk b x e=>((R2.rely r).op k hk b x e).1.lt
  have l7:p.bq<w₃.heap.size:=World.block_lt_of_cell? _ _ (R2.rely r).q
  have l8:=(R2.rely r).wg
  clear r R2
  generalize w₃.alloc (.cells #[.int .i64 0,.int .i64 0,.int .i64 0,.slice none 0 0] 29 (0,0))=w3 at R3 O3⊢
  clear l8
  generalize w₃.heap.size=B at R3 O3 hb0 l1 l2 l3 l4 l5 l6 l7⊢
  generalize T2.grow B (B+1)=T3 at R3 O3⊢
  clear w₃ w₂ T2
  walk_nrm
  refine H2.store4 O3 (.int .i64 0) (.int .i64 0) (.int .i64 0) (.slice none 0 0) rfl (by rfl) hk0 (fun w₁ O1=>?_) fun w₃ w4 r F O4 hI=>?_
  ·have p0:=O1.cell (i:=0) rfl;have p1:=O1.cell (i:=1) rfl;have p2:=O1.cell (i:=2) rfl;have p3:=O1.cell (i:=3) rfl
   have z0:=O1.free 0;have z1:=O1.free 1;have z2:=O1.free 2;have z3:=O1.free 3
   refine⟨by go_simp,fun e he=>?_⟩
   simp[go_sem,p0,p1,p2,p3,z0,z1,z2,z3] at he
   exact he
  have R4:=(R3.rely r).frB hp hlow F (hI _ (R3.rely r).gi) hb0 (by omega) (by omega) (by omega) (by omega) (by omega) (fun k hk=>by have:=l5 k hk;omega) (fun k hk b x e=>by have:=l6 k hk b x e;omega) (fun y hy=>R3.exne hy O3.heap (by decide))
  clear F O3 R3 hI r w₃ w3
  walk_nrm
  co_applyP Gait.pure H2 _ rfl (by rfl) hk0 (fun _=>run_eq_of ?run14) (fun _=>?evs14) ?rest14
  case run14=>intro K hK;go_simp;exact hK
  case evs14=>simp[go_sem]
  walk_nrm
  refine H2.regionEnd ?_
  refine H2.seq ?_
  refine H2.region ?_
  simp only[List.size_toArray,List.length_cons,List.length_nil,Nat.reduceAdd,Nat.zero_add,List.range,List.range.loop]
  co_applyP Gait.pure H2 _ rfl (by rfl) hk0 (fun _=>run_eq_of ?run15) (fun _=>?evs15) ?rest15
  case run15=>intro K hK;go_simp;exact hK
  case evs15=>simp[go_sem]
  walk_nrm
  refine H2.regionEnd ?_
  refine H2.cond false rfl ?_
  simp only[if_true,if_false,Bool.false_eq_true,↓reduceIte]
  refine H2.skip ?_
  refine H2.ended ?_
  refine H2.leave0 rfl rfl Try.func53 rfl ?_
  exact kn _ _ hnx R4
 |some y=>
  obtain⟨xv,s'⟩:=y
  obtain⟨y,rfl,q,m,c,he⟩:=heith xv s' hnx
  have hyv:y.value= .agg #[.int .i64 y.kind,.int .i64 y.chan,.int .i64 y.val,.slice q m c]:=by simp only[OpV.value,he]
  show SW C Anc T 0 0 n ws st _ w1
  refine SW.recvAt i s s' y.value (.agg #[.int .i64 0,.int .i64 0,.int .i64 0,.slice none 0 0]) (T':=TBk T (fun l=>C.R0 l∧QuietS n (upd st i (.offd s')))) rfl (by rfl) hk0 (fun w₁=>by rw[hP];simp[go_sem,rcase]) (fun w₁=>by rw[hP];simp[go_sem]) hi hst (by rw[hn];exact hnx) (fun l=>TBk_rd fun l h=>R1.gi.r0 l h.1) (fun l h=>h) rfl fun w₂ r=>?_
  have R2:SL C w₀ p n ws (upd st i (.offd s')) (upd nx i none) (TBk T (fun l=>C.R0 l∧QuietS n (upd st i (.offd s')))) w₂:=(R1.rely r).terr hp hlow rfl (fun l=>TBk_rd fun l h=>R1.gi.r0 l h.1) (fun l h=>h.imp id And.left) (fun l h=>.inl (.inl h)) fun hq l hl=>.inr ⟨hl,hq⟩
  have H2:=gait_w C Anc 0 0 n ws (upd st i (.offd s'))
  rw[hP] at H2
  show SWn C Anc 0 0 n ws (upd st i (.offd s')) 150 _ _ w₂
  clear r R1 wv wvr wr wrr bc bcr
  generalize TBk T (fun l=>C.R0 l∧QuietS n (upd st i (.offd s')))=T2 at R2⊢
  rw[hyv]
  walk_nrm
  co_applyP Gait.pure H2 _ rfl (by rfl) hk0 (fun _=>run_eq_of ?run16) (fun _=>?evs16) ?rest16
  case run16=>intro K hK;go_simp;exact hK
  case evs16=>simp[go_sem]
  walk_nrm
  co_applyP Gait.pure H2 _ rfl (by rfl) hk0 (fun _=>run_eq_of ?run17) (fun _=>?evs17) ?rest17
  case run17=>intro K hK;go_simp;exact hK
  case evs17=>simp[go_sem]
  walk_nrm
  co_applyP Gait.pure H2 _ rfl (by rfl) hk0 (fun _=>run_eq_of ?run18) (fun _=>?evs18) ?rest18
  case run18=>intro K hK;go_simp;exact hK
  case evs18=>simp[go_sem]
  walk_nrm
  refine H2.allot (fun s=>.pointer (some ⟨s,0,none⟩)) (.cells #[.int .i64 0,.int .i64 0,.int .i64 0,.slice none 0 0] 29 (0,0)) rfl (by rfl) hk0 (fun w₁=>by simp[go_sem]) (fun w₁=>by simp[go_sem]) fun w₃ r=>?_
  have R3:=(R2.rely r).fr (S:=fun _=>False) hlow (Fr.alloc _ _ _ (.cells #[.int .i64 0,.int .i64 0,.int .i64 0,.slice none 0 0] 29 (0,0))) ((R2.rely r).gi.alloc _) (fun b hb=>hb.elim) (fun b hb=>hb.elim)
  have O3:=OwnR.new T2 w₃ #[.int .i64 0,.int .i64 0,.int .i64 0,.slice none 0 0] 29
  have hb0:w₀.heap.size≤w₃.heap.size:=(R2.rely r).kp.size
  have l1:=(R2.rely r).row.lt
  have l2:=(R2.rely r).nrow.lt
  have l3:=(R2.rely r).nvar.lt
  have l4:=(R2.rely r).wvar.lt
  have l5:∀k,k<n→(ws k).bx<w₃.heap.size:=fun k hk=>((R2.rely r).bx k hk).1.lt
  have l6:∀k,k<n→∀b x,upd nx i none k=some (b,x)→b<w₃.heap.size:=fun k hk b x e=>((R2.rely r).op k hk b x e).1.lt
  have l7:p.bq<w₃.heap.size:=World.block_lt_of_cell? _ _ (R2.rely r).q
  have l8:=(R2.rely r).wg
  clear r R2
  generalize w₃.alloc (.cells #[.int .i64 0,.int .i64 0,.int .i64 0,.slice none 0 0] 29 (0,0))=w3 at R3 O3⊢
  clear l8
  generalize w₃.heap.size=B at R3 O3 hb0 l1 l2 l3 l4 l5 l6 l7⊢
  generalize T2.grow B (B+1)=T3 at R3 O3⊢
  clear w₃ w₂ T2
  walk_nrm
  refine H2.store4 O3 (.int .i64 y.kind) (.int .i64 y.chan) (.int .i64 y.val) (.slice q m c) rfl (by rfl) hk0 (fun w₁ O1=>?_) fun w₃ w4 r F O4 hI=>?_
  ·have p0:=O1.cell (i:=0) rfl;have p1:=O1.cell (i:=1) rfl;have p2:=O1.cell (i:=2) rfl;have p3:=O1.cell (i:=3) rfl
   have z0:=O1.free 0;have z1:=O1.free 1;have z2:=O1.free 2;have z3:=O1.free 3
   refine⟨by go_simp,fun e he=>?_⟩
   simp[go_sem,p0,p1,p2,p3,z0,z1,z2,z3] at he
   exact he
  have R4:=(R3.rely r).frB hp hlow F (hI _ (R3.rely r).gi) hb0 (by omega) (by omega) (by omega) (by omega) (by omega) (fun k hk=>by have:=l5 k hk;omega) (fun k hk b x e=>by have:=l6 k hk b x e;omega) (fun y hy=>R3.exne hy O3.heap (by decide))
  clear F O3 R3 hI r w₃ w3
  walk_nrm
  co_applyP Gait.pure H2 _ rfl (by rfl) hk0 (fun _=>run_eq_of ?run19) (fun _=>?evs19) ?rest19
  case run19=>intro K hK;go_simp;exact hK
  case evs19=>simp[go_sem]
  walk_nrm
  refine H2.regionEnd ?_
  refine H2.seq ?_
  refine H2.region ?_
  simp only[List.size_toArray,List.length_cons,List.length_nil,Nat.reduceAdd,Nat.zero_add,List.range,List.range.loop]
  co_applyP Gait.pure H2 _ rfl (by rfl) hk0 (fun _=>run_eq_of ?run20) (fun _=>?evs20) ?rest20
  case run20=>intro K hK;go_simp;exact hK
  case evs20=>simp[go_sem]
  walk_nrm
  refine H2.regionEnd ?_
  refine H2.cond true rfl ?_
  simp only[if_true,if_false,Bool.false_eq_true,↓reduceIte]
  have nv:=R4.nvar.cell (i:=0) rfl
  have nvr:=R4.nvar.rd 0
  refine H2.region ?_
  simp only[List.size_toArray,List.length_cons,List.length_nil,Nat.reduceAdd,Nat.zero_add,List.range,List.range.loop]
  co_applyP Gait.read H2 _ rfl (by rfl) hk0 (fun w₁ r=>⟨run_eq_of ?run21,?evs21⟩) ?rest21
  case run21=>have k0:=(r.cell _ nvr).trans nv;intro K hK;go_simp;exact hK
  case evs21=>have k0:=(r.cell _ nvr).trans nv;intro e he;simp[go_sem,k0] at he;subst he;exact⟨_,rfl,World.block_lt_of_cell? _ _ k0,nvr⟩
  walk_nrm
  co_applyP Gait.pure H2 _ rfl (by rfl) hk0 (fun _=>run_eq_of ?run22) (fun _=>?evs22) ?rest22
  case run22=>intro K hK;go_simp;exact hK
  case evs22=>simp[go_sem]
  walk_nrm
  co_applyP Gait.pure H2 _ rfl (by rfl) hk0 (fun _=>run_eq_of ?run23) (fun _=>?evs23) ?rest23
  case run23=>intro K hK;go_simp;exact hK
  case evs23=>simp[go_sem,hi]
  walk_nrm
  refine H2.store1 R4.nrow i (.pointer (some ⟨B,0,none⟩)) rfl (by rfl) hk0 (fun w₁ O1=>?_) fun w₅ r O5=>?_
  ·have k0:=O1.cell (nxRow_get hi);have z0:=O1.free i
   refine⟨by go_simp,fun e he=>?_⟩
   simp[go_sem,k0,z0] at he
   exact he
  have R5:=(R4.rely r).setNx hp hlow hi (y:=some (B,y)) (fun b x e=>by
   cases e
   exact⟨by rw[show opCells y= #[.int .i64 y.kind,.int .i64 y.chan,.int .i64 y.val,.slice q m c] by simp only[opCells,he]];exact O4.rely r,hb0,by omega,by omega,by omega,by omega⟩)
  rw[show nxVal (some (B,y))= .pointer (some ⟨B,0,none⟩) from rfl,show upd (upd nx i none) i (some (B,y))=upd nx i (some (B,y)) from upd_upd nx i _ _] at R5
  generalize w₅.setCell ⟨p.bnx,i,none⟩ (.pointer (some ⟨B,0,none⟩))=w5 at R5⊢
  clear O5 r R4 O4 nv nvr w₅ w4
  walk_nrm
  refine H2.regionEnd ?_
  refine H2.ended ?_
  refine H2.leave0 rfl rfl Try.func53 rfl ?_
  exact ks y s' B _ _ hnx R5
end
section
open Go Go.Conc Go.ConcN Go.Proofs Go.RowKit
noncomputable def lp30:Code:=(loopIn (Try.f30.body.getD .skip)).getD .skip
def Half(n i:Nat)(task:Nat→List OpV)(st:Nat→WState Wk)(nx:Nat→Option (Nat×OpV)):Prop:=
 ∀k,k<n→(k<i→st k=stOf (fet ⟨task k,0,none⟩)∧(nx k).map (·.2)=(fet ⟨task k,0,none⟩).1)∧(i≤k→st k= .busy ⟨task k,0,none⟩)
def Eiths(l:List OpV):Prop:=∀x∈l,∃q m c,x.eith= .slice q m c
theorem adds_mem:∀{l:List OpV} {z:Int} {o:OpV},o∈(adds l z).1→o∈l
 |[],z,o,h=>h
 |x::l,z,o,h=>by
  unfold adds at h
  split at h
  ·exact List.mem_cons_of_mem _ (adds_mem h)
  ·exact h
theorem nxt_eith{s:Wk}(h:Eiths s.rest){v:Value}{s':Wk}(e:s.nxt=some (v,s')):(∃y:OpV,v=y.value∧∃q m c,y.eith= .slice q m c)∧Eiths s'.rest:=by
 unfold Wk.nxt at e
 have hm:∀o,o∈(adds s.rest s.sum).1→o∈s.rest:=fun o=>adds_mem
 rcases hx:adds s.rest s.sum with⟨_|⟨o,l⟩,z⟩
 ·rw[hx] at e;cases e
 ·rw[hx] at e hm
  simp only[Option.some.injEq,Prod.mk.injEq] at e
  obtain⟨rfl,rfl⟩:=e
  exact⟨⟨o,rfl,h o (hm o (List.mem_cons_self ..))⟩,fun x hx=>h x (hm x (List.mem_cons_of_mem _ hx))⟩
theorem Half.next{n i:Nat}{task:Nat→List OpV}{st:Nat→WState Wk}{nx:Nat→Option (Nat×OpV)}(h:Half n i task st nx){s:WState Wk}{y:Option (Nat×OpV)}(hs:s=stOf (fet ⟨task i,0,none⟩))(hy:y.map (·.2)=(fet ⟨task i,0,none⟩).1):Half n (i+1) task (upd st i s) (upd nx i y):=by
 intro k hk
 by_cases e:k=i
 ·subst e
  rw[upd_eq,upd_eq]
  exact⟨fun _=>⟨hs,hy⟩,fun h=>by omega⟩
 ·rw[upd_other _ _ e,upd_other _ _ e]
  exact⟨fun hlt=>(h k hk).1 (by omega),fun hle=>(h k hk).2 (by omega)⟩
set_option maxRecDepth 100000 in
set_option maxHeartbeats 8000000 in
theorem sched_loop{C:Fix Wk}{Anc:Nat→(Nat→WV)→(Nat→WState Wk)→Goroutine→World→Prop}(hP:C.P=Try.prog)(hn:C.nxt=Wk.nxt){w₀:World}(hlow:∀l,C.R0 l→l.low w₀.heap.size){p:Plc}(hp:p.ok w₀.heap.size){n:Nat}{ws:Nat→WV}{task:Nat→List OpV}(hE:∀k,k<n→Eiths (task k))(hn8:n≤1000){k:List Item}{cs:List Frame}
  :∀(m i:Nat),i+m=n→∀(st:Nat→WState Wk) (nx:Nat→Option (Nat×OpV)) (T:Terr) (w:World) (u1 u3 u4 u7 u8 u9 u10 u11 u12 u13 u14 u15 u16 u17 u20 u21 u22 u23 u24 u25 u26 u27 u28 u29 u30 u31 u32 u33 u34 u35 u36 u37 u38 u39 u40 u41 u42 u43 u44 u45 u46 u47 u48 u49 u50 u51 u52 u53 u54 u55 u56 u57 u58 u59 u60 u61 u62 u63 u64 u65 u66 u67 u68 u69 u70 u71 u72 u73 u74 u75 u76 u77 u78 u79 u80 u81 u82 u83 u84:Value),SL C w₀ p n ws st nx T w→Half n i task st nx→
  (∀(st:Nat→WState Wk) (nx:Nat→Option (Nat×OpV)) (T:Terr) (w:World) (V7 V19 V20 V21 V22 V23 V24 V25:Value),SL C w₀ p n ws st nx T w→Half n n task st nx→SW C Anc T 0 0 n ws st (G ((base 30).at ⟨#[.slice (some ⟨p.bws,0,none⟩) n n,u1,.pointer (some ⟨p.bW,0,none⟩),u3,u4,.pointer (some ⟨p.bN,0,none⟩),.func (.func 53) #[] #[.pointer (some ⟨p.bN,0,none⟩),.pointer (some ⟨p.bW,0,none⟩)],V7,u8,u9,u10,u11,u12,u13,u14,u15,u16,u17,.int .i64 n,V19,V20,V21,V22,V23,V24,V25,u26,u27,u28,u29,u30,u31,u32,u33,u34,u35,u36,u37,u38,u39,u40,u41,u42,u43,u44,u45,u46,u47,u48,u49,u50,u51,u52,u53,u54,u55,u56,u57,u58,u59,u60,u61,u62,u63,u64,u65,u66,u67,u68,u69,u70,u71,u72,u73,u74,u75,u76,u77,u78,u79,u80,u81,u82,u83,u84],[]⟩ k) cs) w)→
  SWn C Anc 0 0 n ws st (300*m+300) T (G ((base 30).at ⟨#[.slice (some ⟨p.bws,0,none⟩) n n,u1,.pointer (some ⟨p.bW,0,none⟩),u3,u4,.pointer (some ⟨p.bN,0,none⟩),.func (.func 53) #[] #[.pointer (some ⟨p.bN,0,none⟩),.pointer (some ⟨p.bW,0,none⟩)],u7,u8,u9,u10,u11,u12,u13,u14,u15,u16,u17,.int .i64 n,.int .i64 i,u20,u21,u22,u23,u24,u25,u26,u27,u28,u29,u30,u31,u32,u33,u34,u35,u36,u37,u38,u39,u40,u41,u42,u43,u44,u45,u46,u47,u48,u49,u50,u51,u52,u53,u54,u55,u56,u57,u58,u59,u60,u61,u62,u63,u64,u65,u66,u67,u68,u69,u70,u71,u72,u73,u74,u75,u76,u77,u78,u79,u80,u81,u82,u83,u84],[]⟩ (.code lp30:: .inLoop lp30:: .inBlock 0::k)) cs) w:=by
 have hk0:(base 30).kind≠ .early:=by decide
 intro m
 induction m with
 |zero=>
  intro i him st nx T w u1 u3 u4 u7 u8 u9 u10 u11 u12 u13 u14 u15 u16 u17 u20 u21 u22 u23 u24 u25 u26 u27 u28 u29 u30 u31 u32 u33 u34 u35 u36 u37 u38 u39 u40 u41 u42 u43 u44 u45 u46 u47 u48 u49 u50 u51 u52 u53 u54 u55 u56 u57 u58 u59 u60 u61 u62 u63 u64 u65 u66 u67 u68 u69 u70 u71 u72 u73 u74 u75 u76 u77 u78 u79 u80 u81 u82 u83 u84 R hH kk
  obtain rfl:i=n:=by omega
  have hdec:decide (i<i)=false:=by simp
  have H:=gait_w C Anc 0 0 i ws st
  rw[hP] at H
  conv in Item.code lp30=>{arg 1;whnf}
  refine H.seq ?_
  refine H.region ?_
  simp only[List.size_toArray,List.length_cons,List.length_nil,Nat.reduceAdd,Nat.zero_add,List.range,List.range.loop]
  co_applyP Gait.pure H _ rfl (by rfl) hk0 (fun _=>run_eq_of ?run1) (fun _=>?evs1) ?rest1
  case run1=>intro K hK;go_simp;exact hK
  case evs1=>simp[go_sem]
  walk_nrm
  refine H.regionEnd ?_
  refine H.seq ?_
  refine H.cond false rfl ?_
  simp only[if_true,if_false,Bool.false_eq_true,↓reduceIte]
  refine H.exit rfl ?_
  exact kk st nx T w _ _ _ _ _ _ _ _ R hH
 |succ m ih=>
  intro i him st nx T w u1 u3 u4 u7 u8 u9 u10 u11 u12 u13 u14 u15 u16 u17 u20 u21 u22 u23 u24 u25 u26 u27 u28 u29 u30 u31 u32 u33 u34 u35 u36 u37 u38 u39 u40 u41 u42 u43 u44 u45 u46 u47 u48 u49 u50 u51 u52 u53 u54 u55 u56 u57 u58 u59 u60 u61 u62 u63 u64 u65 u66 u67 u68 u69 u70 u71 u72 u73 u74 u75 u76 u77 u78 u79 u80 u81 u82 u83 u84 R hH kk
  have hi:i<n:=by omega
  have hdec:decide (i<n)=true:=by simpa using hi
  have hwi:IntKind.i64.wrap ((i:Int)+1)=(i:Int)+1:=by rw[IntKind.wrap_i64];omega
  have H:=gait_w C Anc 0 0 n ws st
  rw[hP] at H
  conv in Item.code lp30=>{arg 1;whnf}
  refine H.seq ?_
  refine H.region ?_
  simp only[List.size_toArray,List.length_cons,List.length_nil,Nat.reduceAdd,Nat.zero_add,List.range,List.range.loop]
  co_applyP Gait.pure H _ rfl (by rfl) hk0 (fun _=>run_eq_of ?run2) (fun _=>?evs2) ?rest2
  case run2=>intro K hK;go_simp;exact hK
  case evs2=>simp[go_sem]
  walk_nrm
  refine H.regionEnd ?_
  refine H.seq ?_
  refine H.cond true rfl ?_
  simp only[if_true,if_false,Bool.false_eq_true,↓reduceIte]
  refine H.skip ?_
  refine H.seq ?_
  refine H.block ?_
  refine H.seq ?_
  refine H.region ?_
  simp only[List.size_toArray,List.length_cons,List.length_nil,Nat.reduceAdd,Nat.zero_add,List.range,List.range.loop]
  co_applyP Gait.pure H _ rfl (by rfl) hk0 (fun _=>run_eq_of ?run3) (fun _=>?evs3) ?rest3
  case run3=>intro K hK;go_simp;exact hK
  case evs3=>simp[go_sem]
  walk_nrm
  co_applyP Gait.pure H _ rfl (by rfl) hk0 (fun _=>run_eq_of ?run4) (fun _=>?evs4) ?rest4
  case run4=>intro K hK;go_simp;exact hK
  case evs4=>simp[go_sem]
  walk_nrm
  refine H.regionEnd ?_
  refine H.region ?_
  simp only[List.size_toArray,List.length_cons,List.length_nil,Nat.reduceAdd,Nat.zero_add,List.range,List.range.loop]
  co_applyP Gait.pure H _ rfl (by rfl) hk0 (fun _=>run_eq_of ?run5) (fun _=>?evs5) ?rest5
  case run5=>intro K hK;go_simp;exact hK
  case evs5=>simp[go_sem]
  walk_nrm
  co_applyP Gait.pure H _ rfl (by rfl) hk0 (fun _=>run_eq_of ?run6) (fun _=>?evs6) ?rest6
  case run6=>intro K hK;go_simp;exact hK
  case evs6=>simp[go_sem]
  walk_nrm
  refine H.callV (c:=Try.f53.body.getD .skip) rfl (by rfl) hk0 rfl rfl Try.func53 (by decide) rfl ?_
  rw[show Try.f53.ntmps=24 from Try.ntmps53]
  simp only[Act.eval,List.map_toArray,List.map_cons,List.map_nil,List.size_toArray,List.length_cons,List.length_nil,Nat.reduceAdd,Nat.reduceSub,Array.getD_eq_getD_getElem?,List.getElem?_toArray,List.getElem?_cons_succ,List.getElem?_cons_zero,Option.getD_some,List.append_toArray,List.cons_append,List.nil_append,Array.replicate_succ,Array.replicate_zero,List.push_toArray]
  have hst:=(hH i hi).2 (Nat.le_refl _)
  refine H.le (n:=200) (by omega) (fetch hP hn hlow hp R hi hst (fun v s' e=>(nxt_eith (s:=⟨task i,0,none⟩) (hE i hi) e).1) ?_ ?_)
  ·intro x s' b T' w' e R'
   have hf:=fet_some e
   have hH':Half n (i+1) task (upd st i (.offd s')) (upd nx i (some (b,x))):=hH.next (by rw[hf];rfl) (by rw[hf];rfl)
   have H2:=gait_w C Anc 0 0 n ws (upd st i (.offd s'))
   rw[hP] at H2
   show SWn C Anc 0 0 n ws (upd st i (.offd s')) (300*m+400) _ _ w'
   walk_nrm
   refine H2.regionEnd ?_
   refine H2.inBlock ?_
   refine H2.region ?_
   simp only[List.size_toArray,List.length_cons,List.length_nil,Nat.reduceAdd,Nat.zero_add,List.range,List.range.loop]
   co_applyP Gait.pure H2 _ rfl (by rfl) hk0 (fun _=>run_eq_of ?run7) (fun _=>?evs7) ?rest7
   case run7=>intro K hK;go_simp;exact hK
   case evs7=>simp[go_sem]
   walk_nrm
   co_applyP Gait.pure H2 _ rfl (by rfl) hk0 (fun _=>run_eq_of ?run8) (fun _=>?evs8) ?rest8
   case run8=>intro K hK;go_simp;exact hK
   case evs8=>simp[go_sem]
   walk_nrm
   refine H2.regionEnd ?_
   refine H2.inLoop ?_
   rw[show((i:Int)+1)=((i+1:Nat):Int) by omega]
   exact H2.le (by omega) (ih (i+1) (by omega) _ _ _ _ _ _ _ _ _ _ _ _ _ _ _ _ _ _ _ _ _ _ _ _ _ _ _ _ _ _ _ _ _ _ _ _ _ _ _ _ _ _ _ _ _ _ _ _ _ _ _ _ _ _ _ _ _ _ _ _ _ _ _ _ _ _ _ _ _ _ _ _ _ _ _ _ _ _ _ _ _ _ _ R' hH' kk)
  ·intro T' w' e R'
   have hf:=fet_none e
   have hH':Half n (i+1) task (upd st i (.ended ⟨task i,0,none⟩)) (upd nx i none):=hH.next (by rw[hf];rfl) (by rw[hf];rfl)
   have H2:=gait_w C Anc 0 0 n ws (upd st i (.ended ⟨task i,0,none⟩))
   rw[hP] at H2
   show SWn C Anc 0 0 n ws (upd st i (.ended ⟨task i,0,none⟩)) (300*m+400) _ _ w'
   walk_nrm
   refine H2.regionEnd ?_
   refine H2.inBlock ?_
   refine H2.region ?_
   simp only[List.size_toArray,List.length_cons,List.length_nil,Nat.reduceAdd,Nat.zero_add,List.range,List.range.loop]
   co_applyP Gait.pure H2 _ rfl (by rfl) hk0 (fun _=>run_eq_of ?run9) (fun _=>?evs9) ?rest9
   case run9=>intro K hK;go_simp;exact hK
   case evs9=>simp[go_sem]
   walk_nrm
   co_applyP Gait.pure H2 _ rfl (by rfl) hk0 (fun _=>run_eq_of ?run10) (fun _=>?evs10) ?rest10
   case run10=>intro K hK;go_simp;exact hK
   case evs10=>simp[go_sem]
   walk_nrm
   refine H2.regionEnd ?_
   refine H2.inLoop ?_
   rw[show((i:Int)+1)=((i+1:Nat):Int) by omega]
   exact H2.le (by omega) (ih (i+1) (by omega) _ _ _ _ _ _ _ _ _ _ _ _ _ _ _ _ _ _ _ _ _ _ _ _ _ _ _ _ _ _ _ _ _ _ _ _ _ _ _ _ _ _ _ _ _ _ _ _ _ _ _ _ _ _ _ _ _ _ _ _ _ _ _ _ _ _ _ _ _ _ _ _ _ _ _ _ _ _ _ _ _ _ _ R' hH' kk)
end
end Go.Side
