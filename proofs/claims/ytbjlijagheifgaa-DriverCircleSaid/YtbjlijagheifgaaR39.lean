/-
  Texts of Ytbjlijagheifgaa, merged.
-/
import Derived.Test.YtbjlijagheifgaaR38
import Derived.Test.YtbjlijagheifgaaR24
import Derived.Test.YtbjlijagheifgaaRows
import Derived.ProofKit
import Derived.OpenShut
import Derived.ShutString
import Derived.ChangeOld
import Derived.Deep.Slices
set_option linter.unusedSimpArgs false
set_option linter.unusedVariables false
namespace Go.Side
section
open Go Go.Conc Go.ConcN Go.Proofs Go.RowKit Go.Proofs.Ytbjlijagheifgaa
theorem wpAnyH_step2{P:Program}{md:Region.Mode}{Q:Exit→Act→World→Prop}{l:List Oper}{S:World→Prop}{i j f:Nat}{o o2:Oper}{listed:Array Bool}{a:Act}{w:World}(hr:Region.ready md l.toArray listed=[i,j])(ho:l[i]?=some o)(ho2:l[j]?=some o2)(h:∀K':Act→World→Prop,Shut (∀a w,S w→(S w→wpAnyH P md l.toArray Q S f (listed.setIfInBounds i true) a w)→K' a w)→if Region.wanted o (yielded l.toArray a.tmps)=true then Oper.wp P o a w K' Q else K' (a.put o.dst undef) w)(h2:∀K':Act→World→Prop,Shut (∀a w,S w→(S w→wpAnyH P md l.toArray Q S f (listed.setIfInBounds j true) a w)→K' a w)→if Region.wanted o2 (yielded l.toArray a.tmps)=true then Oper.wp P o2 a w K' Q else K' (a.put o2.dst undef) w):
  wpAnyH P md l.toArray Q S (f+1) listed a w:=wpAnyH_ready hr (by simp) (AllReadyH.cons (by simpa using ho) h (AllReadyH.cons (by simpa using ho2) h2 AllReadyH.nil))
def cirS(i:Nat):OpD:=⟨1,i,1+(i:Int),none,0,[]⟩
def cirR(n i:Nat):OpD:=⟨2,((i:Int)+(n:Int)-1)%(n:Int),0,none,0,[]⟩
def cirT(n q:Nat)(r:Bool)(i:Nat):List OpD:=if(r&&decide (i=q%n))=true then[cirR n i,cirS i] else[cirS i,cirR n i]
theorem cirT_succ(n q:Nat)(r:Bool){i:Nat}{L:List TkD}(h:L.map TkD.ops=(List.range i).map (cirT n q r))(t:TkD)(ht:t.ops=cirT n q r i):(L++[t]).map TkD.ops=(List.range (i+1)).map (cirT n q r):=by
 rw[List.range_succ,List.map_append,List.map_append,h]
 simp[ht]
theorem info26:(Try.prog.info? 26).map (fun i=>(i.zero,i.size,i.bytes))=some (some (.slice none 0 0),1,24):=by kernel_rfl
def set8(W:World)(b:Nat)(w0 w1 w2 w3 w4 w5 w6 w7:Value):World:=((((((((W.setCell ⟨b,0,none⟩ w0).setCell ⟨b,1,none⟩ w1).setCell ⟨b,2,none⟩ w2).setCell ⟨b,3,none⟩ w3).setCell ⟨b,4,none⟩ w4).setCell ⟨b,5,none⟩ w5).setCell ⟨b,6,none⟩ w6).setCell ⟨b,7,none⟩ w7).drew
theorem set8_blk{W:World}{b:Nat}{T:TypeId}{v0 v1 v2 v3 v4 v5 v6 v7:Value}(w0 w1 w2 w3 w4 w5 w6 w7:Value)(h:Blk W b T [v0,v1,v2,v3,v4,v5,v6,v7]):Blk (set8 W b w0 w1 w2 w3 w4 w5 w6 w7) b T [w0,w1,w2,w3,w4,w5,w6,w7]:=
 ((((((((h.set 0 w0).set 1 w1).set 2 w2).set 3 w3).set 4 w4).set 5 w5).set 6 w6).set 7 w7).drew
theorem set8_upd(W:World)(b:Nat)(w0 w1 w2 w3 w4 w5 w6 w7:Value):Upd (fun k=>k=b) W (set8 W b w0 w1 w2 w3 w4 w5 w6 w7):=
 (((((((((Upd.refl (fun k=>k=b) W).setCell _ _ (fun _=>rfl)).setCell _ _ (fun _=>rfl)).setCell _ _ (fun _=>rfl)).setCell _ _ (fun _=>rfl)).setCell _ _ (fun _=>rfl)).setCell _ _ (fun _=>rfl)).setCell _ _ (fun _=>rfl)).setCell _ _ (fun _=>rfl)).drew
def QN(R:Act→World→Prop):Exit→Act→World→Prop
 | .normal,a,w=>R a w
 |_,_,_=>False
def CirLp(u:World)(n q:Nat)(r:Bool)(a':Act)(u':World)(nx:Value→(Nat→Value)→Act):Prop:=
 ∃v L,CL u' u.heap.size v L∧L.map TkD.ops=(List.range n).map (cirT n q r)∧Below u.heap.size u u'∧∃f:Nat→Value,a'=nx v f
set_option maxRecDepth 100000 in
set_option maxHeartbeats 8000000 in
theorem wp_c4_5(u:World)(n q:Nat)(r:Bool)(hn:2≤n∧n≤8)(hq:q≤255)(u0 u3 u4 u5 u6 u7 u8 u11 u12 u13 u14 u15 u16 u17 u18 u19 u20 u21 u22 u23 u24 u25 u26 u27 u28 u29 u30 u31 u32 u33 u34 u35 u36 u37 u38 u39 u40 u41 u42 u43 u44 u45 u46 u47 u48 u49 u50 u51 u52 u53 u54 u55 u56 u57 u58 u59 u60 u61 u62 u63 u64 u65 u66 u67 u68 u69 u70 u71 u72 u73 u74 u75 u76 u77 u78 u79 u80 u81 u82 u83 u84 u85 u86 u87 u88 u89 u90 u91 u92 u93 u94 u95 u96:Value):
  (fstOf (c4 5)).wp Try.prog (QN fun a' u'=>CirLp u n q r a' u' fun v f=>⟨#[u0,.int .u8 (q:Int),.bool r,u3,u4,u5,u6,u7,u8,.int .i64 (n:Int),v,f 11,f 12,u13,u14,u15,u16,u17,u18,u19,u20,u21,u22,u23,f 24,f 25,f 26,f 27,f 28,f 29,f 30,f 31,f 32,f 33,f 34,f 35,f 36,f 37,f 38,f 39,f 40,f 41,f 42,f 43,f 44,f 45,f 46,f 47,f 48,f 49,f 50,f 51,f 52,f 53,f 54,f 55,f 56,f 57,f 58,f 59,f 60,f 61,f 62,f 63,u64,u65,u66,u67,u68,u69,u70,u71,u72,u73,u74,u75,u76,u77,u78,u79,u80,u81,u82,u83,u84,u85,u86,u87,u88,u89,u90,u91,u92,u93,u94,u95,u96],[]⟩) ⟨#[u0,.int .u8 (q:Int),.bool r,u3,u4,u5,u6,u7,u8,.int .i64 (n:Int),.slice none 0 0,u11,u12,u13,u14,u15,u16,u17,u18,u19,u20,u21,u22,u23,u24,u25,u26,u27,u28,u29,u30,u31,u32,u33,u34,u35,u36,u37,u38,u39,u40,u41,u42,u43,u44,u45,u46,u47,u48,u49,u50,u51,u52,u53,u54,u55,u56,u57,u58,u59,u60,u61,u62,u63,u64,u65,u66,u67,u68,u69,u70,u71,u72,u73,u74,u75,u76,u77,u78,u79,u80,u81,u82,u83,u84,u85,u86,u87,u88,u89,u90,u91,u92,u93,u94,u95,u96],[]⟩ u:=by
 have A0:=Lib.hid (CL.nil u u.heap.size)
 have B0:=Lib.hid (Below.refl u.heap.size u)
 obtain⟨i1,hi,hz0,hz1,hz2⟩:=info_parts info26
 have JI:=Lib.hid hi;have JZ0:=Lib.hid hz0;have JZ1:=Lib.hid hz1;have JZ2:=Lib.hid hz2
 clear hi hz0 hz1 hz2
 unfold c4 c4 c4 c4 c4 c4 b4
 conv in Option.getD _ _=>whnf
 dsimp only[fstOf,sndOf]
 obtain⟨hn2,hn8⟩:=hn
 go_upto_region 8 with(fail)
 go_loopw [10,25] (fun v k wr=>∃i L,i≤n∧k= .int .i64 (i:Int)∧CL wr u.heap.size v L∧L.map TkD.ops=(List.range i).map (cirT n q r)∧Below u.heap.size u wr) (fun _ k _=>n-(intOf k).toNat)
 case atStart=>exact⟨0,[],Nat.zero_le _,rfl,A0.out,rfl,B0.out⟩
 case round=>
  clear A0 B0
  obtain⟨i,L,hi,rfl,hA,hL,hB⟩:=hrel
  obtain⟨a0,k0,rfl, -⟩:=own_shape hA.own
  have hLl:L.length=i:=by have:=congrArg List.length hL;simpa using this
  have A:=Lib.hid hA
  have HL:=Lib.hid hL
  have HB:=Lib.hid hB
  have LL:=Lib.hid hLl
  clear hA hL hB hLl
  by_cases hlt:i<n
  ·have hin:(i:Int)<(n:Int):=by omega
   go_upto_region 11 with(fail)
   have NB:Hid (Blk (wr.alloc (.cells (opC (cirS i)++opC (cirR n i)).toArray 29)) wr.heap.size 29 (opC (cirS i)++opC (cirR n i))):=Lib.hid (Blk.new wr 29 (opC (cirS i)++opC (cirR n i)))
   have QW:Hid (Below wr.heap.size wr (wr.alloc (.cells (opC (cirS i)++opC (cirR n i)).toArray 29))):=Lib.hid ((Below.refl _ _).alloc (Nat.le_refl _) _)
   have FIN:Hid (∀w',Below wr.heap.size wr w'→CL w' u.heap.size (.slice a0 L.length k0) L∧Below u.heap.size u w'):=Lib.hid fun w' q=>⟨A.out.new q,HB.out.trans (q.mono HB.out.size)⟩
   simp only[opC,cirS,cirR,List.cons_append,List.nil_append] at NB QW
   generalize hW:wr.alloc _=w5 at*
   have hbW:wr.heap.size<w5.heap.size:=NB.out.lt
   have hbu:u.heap.size≤wr.heap.size:=HB.out.size
   generalize wr.heap.size=b at*
   clear hW A HB
   by_cases hsw:r=true∧i=q%n
   ·obtain⟨rfl,hiq⟩:=hsw
    have hiz:(q:Int)%(n:Int)=(i:Int):=by omega
    have TO:Hid ([cirR n i,cirS i]=cirT n q true i):=Lib.hid (by unfold cirT;rw[if_pos (by simp[hiq])])
    have FS:Hid (∀w',w'=(set8 w5 b (.int .i64 2) (.int .i64 (((i:Int)+(n:Int)-1)%(n:Int))) (.int .i64 0) (.slice none 0 0) (.int .i64 1) (.int .i64 (i:Int)) (.int .i64 (1+(i:Int))) (.slice none 0 0))→TkS w' ⟨some ⟨b,0,none⟩,2,[cirR n i,cirS i]⟩∧Below b wr w'):=Lib.hid fun w' hw'=>by
     subst hw'
     exact⟨tks_two (x:=cirR n i) (y:=cirS i) (set8_blk _ _ _ _ _ _ _ _ NB.out) ⟨rfl,rfl,rfl⟩ ⟨rfl,rfl,rfl⟩,Upd.below QW.out (set8_upd w5 b _ _ _ _ _ _ _ _) (Nat.le_of_lt hbW) (fun k hk=>Nat.le_of_eq hk.symm)⟩
    clear hiq
    go_upto_region 12 with(fail)
    have y0:=NB.out.cell (i:=0) rfl
    have y1:=NB.out.cell (i:=1) rfl
    have y2:=NB.out.cell (i:=2) rfl
    have y3:=NB.out.cell (i:=3) rfl
    have y4:=NB.out.cell (i:=4) rfl
    have y5:=NB.out.cell (i:=5) rfl
    have y6:=NB.out.cell (i:=6) rfl
    have y7:=NB.out.cell (i:=7) rfl
    have yf:=NB.out.free
    refine wp_region_allH (fun _=>True) 12 (by kernel_rfl) rfl ?_ (fun hHeld=>?_)
    ·(trivial)
    refine wpAnyH_takeG (i:=0) (v:=?_) rfl (by kernel_rfl) (by kernel_rfl) (by kernel_rfl) (fun _ _ _ h=>h) rfl ?_ hHeld ?_
    rotate_left
    ·intro w hSw
     try dsimp only at hSw
     go_simp
     all_goals with_reducible rfl
    try simp only[Act.put,List.setIfInBounds_toArray,List.set_cons_zero,List.set_cons_succ]
    refine wpAnyH_takeG (i:=1) (v:=?_) rfl (by kernel_rfl) (by kernel_rfl) (by kernel_rfl) (fun _ _ _ h=>h) rfl ?_ hHeld ?_
    rotate_left
    ·intro w hSw
     try dsimp only at hSw
     go_simp
     all_goals with_reducible rfl
    try simp only[Act.put,List.setIfInBounds_toArray,List.set_cons_zero,List.set_cons_succ]
    refine wpAnyH_takeG (i:=2) (v:=?_) rfl (by kernel_rfl) (by kernel_rfl) (by kernel_rfl) (fun _ _ _ h=>h) rfl ?_ hHeld ?_
    rotate_left
    ·intro w hSw
     try dsimp only at hSw
     go_simp
     all_goals with_reducible rfl
    try simp only[Act.put,List.setIfInBounds_toArray,List.set_cons_zero,List.set_cons_succ]
    refine wpAnyH_takeG (i:=3) (v:=?_) rfl (by kernel_rfl) (by kernel_rfl) (by kernel_rfl) (fun _ _ _ h=>h) rfl ?_ hHeld ?_
    rotate_left
    ·intro w hSw
     try dsimp only at hSw
     go_simp
     all_goals with_reducible rfl
    try simp only[Act.put,List.setIfInBounds_toArray,List.set_cons_zero,List.set_cons_succ]
    refine wpAnyH_takeG (i:=5) (v:=?_) rfl (by kernel_rfl) (by kernel_rfl) (by kernel_rfl) (fun _ _ _ h=>h) rfl ?_ hHeld ?_
    rotate_left
    ·intro w hSw
     try dsimp only at hSw
     go_simp
     all_goals with_reducible rfl
    try simp only[Act.put,List.setIfInBounds_toArray,List.set_cons_zero,List.set_cons_succ]
    refine wpAnyH_takeG (i:=6) (v:=?_) rfl (by kernel_rfl) (by kernel_rfl) (by kernel_rfl) (fun _ _ _ h=>h) rfl ?_ hHeld ?_
    rotate_left
    ·intro w hSw
     try dsimp only at hSw
     go_simp
     all_goals with_reducible rfl
    try simp only[Act.put,List.setIfInBounds_toArray,List.set_cons_zero,List.set_cons_succ]
    refine wpAnyH_step2 (i:=4) (j:=7) (by kernel_rfl) rfl rfl (fun KK hK=>?_) (fun KK hK=>?_)
    ·skip
     (go_simp)
     refine hK.out _ _ ?_ (fun hHeld=>?_)
     ·(trivial)
     clear hK KK
     try simp only[Act.put,List.setIfInBounds_toArray,List.set_cons_zero,List.set_cons_succ]
     refine wpAnyH_step (i:=7) (by kernel_rfl) rfl (fun KK hK=>?_)
     (go_simp)
     refine hK.out _ _ ?_ (fun hHeld=>?_)
     ·(trivial)
     clear hK KK
     try simp only[Act.put,List.setIfInBounds_toArray,List.set_cons_zero,List.set_cons_succ]
     refine wpAnyH_takeG (i:=8) (v:=?_) rfl (by kernel_rfl) (by kernel_rfl) (by kernel_rfl) (fun _ _ _ h=>h) rfl ?_ hHeld ?_
     rotate_left
     ·intro w hSw
      try dsimp only at hSw
      go_simp
      all_goals with_reducible rfl
     try simp only[Act.put,List.setIfInBounds_toArray,List.set_cons_zero,List.set_cons_succ]
     refine wpAnyH_step (i:=9) (by kernel_rfl) rfl (fun KK hK=>?_)
     (go_simp)
     refine hK.out _ _ ?_ (fun hHeld=>?_)
     ·(trivial)
     clear hK KK
     try simp only[Act.put,List.setIfInBounds_toArray,List.set_cons_zero,List.set_cons_succ]
     refine wpAnyH_takeG (i:=10) (v:=?_) rfl (by kernel_rfl) (by kernel_rfl) (by kernel_rfl) (fun _ _ _ h=>h) rfl ?_ hHeld ?_
     rotate_left
     ·intro w hSw
      try dsimp only at hSw
      go_simp
      all_goals with_reducible rfl
     try simp only[Act.put,List.setIfInBounds_toArray,List.set_cons_zero,List.set_cons_succ]
     refine wpAnyH_step (i:=11) (by kernel_rfl) rfl (fun KK hK=>?_)
     (go_simp)
     refine hK.out _ _ ?_ (fun hHeld=>?_)
     ·(trivial)
     clear hK KK
     try simp only[Act.put,List.setIfInBounds_toArray,List.set_cons_zero,List.set_cons_succ]
     refine wpAnyH_done (by kernel_rfl) ?_ _
     (clear hHeld y0 y1 y2 y3 y4 y5 y6 y7 yf;generalize hw5:World.drew _=w5;have FS5:=FS.out w5 hw5.symm;have T5:=Lib.hid FS5.1;have C5:=Lib.hid (FIN.out _ FS5.2).1;have D5:=Lib.hid (FIN.out _ FS5.2).2;clear FS5 hw5 FS FIN NB QW hbW;go_wp2_with (at_builtin;refine wpList_append_cells rfl _ _ 25 rfl u.heap.size 26 i1 _ 1 24 Try.underlying25 JI.out JZ0.out JZ1.out JZ2.out rfl (by decide) (.slice a0 L.length k0) L.length (L.map tkv) rfl ?ownA1 (some ⟨w5.heap.size,0,none⟩) 1 1 [.slice (some ⟨b,0,none⟩) 2 2] rfl rfl ?c1A1 ?c2A1 ?c3A1 ?c4A1 ?c5A1 ?kkA1);(case ownA1=>exact(C5.out.new ((Below.refl _ _).alloc (Nat.le_refl _) _)).own);(case c1A1=>exact fun j u hj=>⟨rfl,by rw[adr_mk,Nat.zero_add];exact(Blk.new w5 26 [.slice (some ⟨b,0,none⟩) 2 2]).cell hj⟩);(case c2A1=>exact fun u hu=>by simp only[List.mem_cons,List.not_mem_nil,or_false] at hu;subst hu;rfl);(case c3A1=>(have:=LL.out;unfold maxLen;omega));(case c4A1=>(have:=LL.out;omega));(case c5A1=>(have:=D5.out.size;simp;omega));intro v1 w6 g1 g2 g3;have C6:=Lib.hid ((C5.out.new ((Below.refl _ _).alloc (Nat.le_refl _) _)).push (t:=⟨some ⟨b,0,none⟩,2,[cirR n i,cirS i]⟩) (T5.out.new ((Below.refl _ _).alloc (Nat.le_refl _) _)) g1 g2);have D6:=Lib.hid (Upd.below (D5.out.alloc D5.out.size _) (Upd.of_grownV g2) (by have:=D5.out.size;simp;omega) (fun k hk=>(own_lt C5.out.own hk).2));obtain⟨a1,k1,rfl, -⟩:=own_shape g1;clear g1 g2 g3 T5 C5 D5;go_wp2_with fail;go_roundw;(case rel=>exact⟨i+1,_,by omega,by go_num,C6.out,cirT_succ n q _ HL.out _ TO.out,D6.out⟩);(case measure=>(simp[intOf];omega)))
    ·skip
     (go_simp)
     refine hK.out _ _ ?_ (fun hHeld=>?_)
     ·(trivial)
     clear hK KK
     try simp only[Act.put,List.setIfInBounds_toArray,List.set_cons_zero,List.set_cons_succ]
     refine wpAnyH_step (i:=4) (by kernel_rfl) rfl (fun KK hK=>?_)
     (go_simp)
     refine hK.out _ _ ?_ (fun hHeld=>?_)
     ·(trivial)
     clear hK KK
     try simp only[Act.put,List.setIfInBounds_toArray,List.set_cons_zero,List.set_cons_succ]
     refine wpAnyH_takeG (i:=8) (v:=?_) rfl (by kernel_rfl) (by kernel_rfl) (by kernel_rfl) (fun _ _ _ h=>h) rfl ?_ hHeld ?_
     rotate_left
     ·intro w hSw
      try dsimp only at hSw
      go_simp
      all_goals with_reducible rfl
     try simp only[Act.put,List.setIfInBounds_toArray,List.set_cons_zero,List.set_cons_succ]
     refine wpAnyH_step (i:=9) (by kernel_rfl) rfl (fun KK hK=>?_)
     (go_simp)
     refine hK.out _ _ ?_ (fun hHeld=>?_)
     ·(trivial)
     clear hK KK
     try simp only[Act.put,List.setIfInBounds_toArray,List.set_cons_zero,List.set_cons_succ]
     refine wpAnyH_takeG (i:=10) (v:=?_) rfl (by kernel_rfl) (by kernel_rfl) (by kernel_rfl) (fun _ _ _ h=>h) rfl ?_ hHeld ?_
     rotate_left
     ·intro w hSw
      try dsimp only at hSw
      go_simp
      all_goals with_reducible rfl
     try simp only[Act.put,List.setIfInBounds_toArray,List.set_cons_zero,List.set_cons_succ]
     refine wpAnyH_step (i:=11) (by kernel_rfl) rfl (fun KK hK=>?_)
     (go_simp)
     refine hK.out _ _ ?_ (fun hHeld=>?_)
     ·(trivial)
     clear hK KK
     try simp only[Act.put,List.setIfInBounds_toArray,List.set_cons_zero,List.set_cons_succ]
     refine wpAnyH_done (by kernel_rfl) ?_ _
     (clear hHeld y0 y1 y2 y3 y4 y5 y6 y7 yf;generalize hw5:World.drew _=w5;have FS5:=FS.out w5 hw5.symm;have T5:=Lib.hid FS5.1;have C5:=Lib.hid (FIN.out _ FS5.2).1;have D5:=Lib.hid (FIN.out _ FS5.2).2;clear FS5 hw5 FS FIN NB QW hbW;go_wp2_with (at_builtin;refine wpList_append_cells rfl _ _ 25 rfl u.heap.size 26 i1 _ 1 24 Try.underlying25 JI.out JZ0.out JZ1.out JZ2.out rfl (by decide) (.slice a0 L.length k0) L.length (L.map tkv) rfl ?ownA2 (some ⟨w5.heap.size,0,none⟩) 1 1 [.slice (some ⟨b,0,none⟩) 2 2] rfl rfl ?c1A2 ?c2A2 ?c3A2 ?c4A2 ?c5A2 ?kkA2);(case ownA2=>exact(C5.out.new ((Below.refl _ _).alloc (Nat.le_refl _) _)).own);(case c1A2=>exact fun j u hj=>⟨rfl,by rw[adr_mk,Nat.zero_add];exact(Blk.new w5 26 [.slice (some ⟨b,0,none⟩) 2 2]).cell hj⟩);(case c2A2=>exact fun u hu=>by simp only[List.mem_cons,List.not_mem_nil,or_false] at hu;subst hu;rfl);(case c3A2=>(have:=LL.out;unfold maxLen;omega));(case c4A2=>(have:=LL.out;omega));(case c5A2=>(have:=D5.out.size;simp;omega));intro v1 w6 g1 g2 g3;have C6:=Lib.hid ((C5.out.new ((Below.refl _ _).alloc (Nat.le_refl _) _)).push (t:=⟨some ⟨b,0,none⟩,2,[cirR n i,cirS i]⟩) (T5.out.new ((Below.refl _ _).alloc (Nat.le_refl _) _)) g1 g2);have D6:=Lib.hid (Upd.below (D5.out.alloc D5.out.size _) (Upd.of_grownV g2) (by have:=D5.out.size;simp;omega) (fun k hk=>(own_lt C5.out.own hk).2));obtain⟨a1,k1,rfl, -⟩:=own_shape g1;clear g1 g2 g3 T5 C5 D5;go_wp2_with fail;go_roundw;(case rel=>exact⟨i+1,_,by omega,by go_num,C6.out,cirT_succ n q _ HL.out _ TO.out,D6.out⟩);(case measure=>(simp[intOf];omega)))
   ·have TO:Hid ([cirS i,cirR n i]=cirT n q r i):=Lib.hid (by unfold cirT;rw[if_neg (by simpa using hsw)])
    have T5:Hid (TkS w5 ⟨some ⟨b,0,none⟩,2,[cirS i,cirR n i]⟩):=Lib.hid (tks_two (x:=cirS i) (y:=cirR n i) (by simpa[opC,cirR,cirS] using NB.out) ⟨rfl,rfl,rfl⟩ ⟨rfl,rfl,rfl⟩)
    have C5:=Lib.hid (FIN.out _ QW.out).1
    have D5:=Lib.hid (FIN.out _ QW.out).2
    clear FIN NB QW
    cases r
    ·clear hsw
     go_wp2_with (at_builtin;refine wpList_append_cells rfl _ _ 25 rfl u.heap.size 26 i1 _ 1 24 Try.underlying25 JI.out JZ0.out JZ1.out JZ2.out rfl (by decide) (.slice a0 L.length k0) L.length (L.map tkv) rfl ?ownB (some ⟨w5.heap.size,0,none⟩) 1 1 [.slice (some ⟨b,0,none⟩) 2 2] rfl rfl ?c1B ?c2B ?c3B ?c4B ?c5B ?kkB)
     case ownB=>exact(C5.out.new ((Below.refl _ _).alloc (Nat.le_refl _) _)).own
     case c1B=>exact fun j u hj=>⟨rfl,by rw[adr_mk,Nat.zero_add];exact(Blk.new w5 26 [.slice (some ⟨b,0,none⟩) 2 2]).cell hj⟩
     case c2B=>exact fun u hu=>by simp only[List.mem_cons,List.not_mem_nil,or_false] at hu;subst hu;rfl
     case c3B=>(have:=LL.out;unfold maxLen;omega)
     case c4B=>(have:=LL.out;omega)
     case c5B=>(have:=D5.out.size;simp;omega)
     intro v1 w6 g1 g2 g3
     have C6:=Lib.hid ((C5.out.new ((Below.refl _ _).alloc (Nat.le_refl _) _)).push (t:=⟨some ⟨b,0,none⟩,2,[cirS i,cirR n i]⟩) (T5.out.new ((Below.refl _ _).alloc (Nat.le_refl _) _)) g1 g2)
     have D6:=Lib.hid (Upd.below (D5.out.alloc D5.out.size _) (Upd.of_grownV g2) (by have:=D5.out.size;simp;omega) (fun k hk=>(own_lt C5.out.own hk).2))
     obtain⟨a1,k1,rfl, -⟩:=own_shape g1
     clear g1 g2 g3 T5 C5 D5
     go_wp2_with fail
     go_roundw
     case rel=>exact⟨i+1,_,by omega,by go_num,C6.out,cirT_succ n q _ HL.out _ TO.out,D6.out⟩
     case measure=>(simp[intOf];omega)
    ·have hiz:¬(i:Int)=(q:Int)%(n:Int):=by simp only[true_and] at hsw;omega
     have hiy:¬i=q%n:=by simpa using hsw
     have hix:¬(i:Int)=((q%n:Nat):Int):=by omega
     clear hsw
     go_wp2_with (at_builtin;refine wpList_append_cells rfl _ _ 25 rfl u.heap.size 26 i1 _ 1 24 Try.underlying25 JI.out JZ0.out JZ1.out JZ2.out rfl (by decide) (.slice a0 L.length k0) L.length (L.map tkv) rfl ?ownC (some ⟨w5.heap.size,0,none⟩) 1 1 [.slice (some ⟨b,0,none⟩) 2 2] rfl rfl ?c1C ?c2C ?c3C ?c4C ?c5C ?kkC)
     case ownC=>exact(C5.out.new ((Below.refl _ _).alloc (Nat.le_refl _) _)).own
     case c1C=>exact fun j u hj=>⟨rfl,by rw[adr_mk,Nat.zero_add];exact(Blk.new w5 26 [.slice (some ⟨b,0,none⟩) 2 2]).cell hj⟩
     case c2C=>exact fun u hu=>by simp only[List.mem_cons,List.not_mem_nil,or_false] at hu;subst hu;rfl
     case c3C=>(have:=LL.out;unfold maxLen;omega)
     case c4C=>(have:=LL.out;omega)
     case c5C=>(have:=D5.out.size;simp;omega)
     intro v1 w6 g1 g2 g3
     have C6:=Lib.hid ((C5.out.new ((Below.refl _ _).alloc (Nat.le_refl _) _)).push (t:=⟨some ⟨b,0,none⟩,2,[cirS i,cirR n i]⟩) (T5.out.new ((Below.refl _ _).alloc (Nat.le_refl _) _)) g1 g2)
     have D6:=Lib.hid (Upd.below (D5.out.alloc D5.out.size _) (Upd.of_grownV g2) (by have:=D5.out.size;simp;omega) (fun k hk=>(own_lt C5.out.own hk).2))
     obtain⟨a1,k1,rfl, -⟩:=own_shape g1
     clear g1 g2 g3 T5 C5 D5
     go_wp2_with fail
     go_roundw
     case rel=>exact⟨i+1,_,by omega,by go_num,C6.out,cirT_succ n q _ HL.out _ TO.out,D6.out⟩
     case measure=>(simp[intOf];omega)
  ·have hin:i=n:=by omega
   subst hin
   go_wp2_with fail
   exact⟨_,L,A.out,HL.out,HB.out,exf rfl⟩
end
section
open Go Go.ConcN Go.Proofs.Ytbjlijagheifgaa
def forceN{α:Type}(x:Nat)(k:Nat→α):α:=match x with
 |0=>k 0
 |1=>k 1
 |n+2=>k (n+2)
theorem forceN_eq{α:Type}(x:Nat)(k:Nat→α):forceN x k=k x:=by unfold forceN;split<;>rfl
def forceL{α:Type}:List Nat→(List Nat→α)→α
 |[],k=>k []
 |x::xs,k=>forceN x fun y=>forceL xs fun ys=>k (y::ys)
theorem forceL_eq{α:Type}:∀(l:List Nat) (k:List Nat→α),forceL l k=k l
 |[],k=>rfl
 |x::xs,k=>by unfold forceL;rw[forceN_eq,forceL_eq xs]
def chk(L:List TkD):Nat→List Nat→Option (Nat×List Nat)
 |0,_=>none
 |f+1,p=>match possD L.length (offAt L p) with
  |[]=>some (0,p)
  |[x]=>forceL ((p.set x.fr (p.getD x.fr 0+1)).set x.tg (p.getD x.tg 0+1)) fun p'=>(chk L f p').map fun y=>(y.1+1,y.2)
  |_=>none
def noAdd(L:List TkD):Prop:=∀t∈L,∀x∈t.ops,x.kind≠4
theorem advS_no{L:List TkD}(h:noAdd L)(s:PS):advS L s=s:=by
 funext k
 unfold advS
 cases ht:L[k]? with
 |none=>rfl
 |some t=>
  show advL _ _ _=s k
  rw[advL_stop fun x hx=>h t (List.mem_of_getElem? ht) x (List.mem_of_getElem? (i:=(s k).1) (by simpa using hx))]
theorem pickP_one(ch:List Int)(k:Nat):pickP ch k 1=0:=by
 unfold pickP
 split<;>simp[Int.tmod_one]
theorem chk_run{L:List TkD}(hno:noAdd L)(ch:List Int):∀(f:Nat) (p:List Nat) (m:Nat) (p':List Nat) (s:PS) (S:List StepP),p.length=L.length→(∀k,k<L.length→p[k]?=some (s k).1)→chk L f p=some (m,p')→
  ∃s' S',RunA L ch s S s' S'∧S'.length=S.length+m∧∀k,k<L.length→p'[k]?=some (s' k).1:=by
 intro f
 induction f with
 |zero=>intro p m p' s S _ _ h;cases h
 |succ f ih=>
  intro p m p' s S hl hp h
  have hposs:possS L s=possD L.length (offAt L p):=possD_congr fun k hk=>by
   unfold offS offAt
   rw[hp k hk]
   rfl
  unfold chk at h
  split at h
  ·rename_i h0
   simp only[Option.some.injEq,Prod.mk.injEq] at h
   obtain⟨rfl,rfl⟩:=h
   exact⟨s,S,.done (by rw[hposs,h0]),rfl,hp⟩
  ·rename_i x h1
   rw[forceL_eq] at h
   obtain⟨⟨m',p''⟩,hc,he⟩:=Option.map_eq_some_iff.1 h
   simp only[Prod.mk.injEq] at he
   obtain⟨rfl,rfl⟩:=he
   have hx:x∈possS L s:=by rw[hposs,h1];simp
   obtain⟨f1,f2,_⟩:=possD_mem hx
   have hne:=possS_ne hx
   have hq:∀k,k<L.length→((p.set x.fr (p.getD x.fr 0+1)).set x.tg (p.getD x.tg 0+1))[k]?=some (advS L (stepS s x) k).1:=fun k hk=>by
    rw[advS_no hno]
    unfold stepS
    have g1:p.getD x.fr 0=(s x.fr).1:=by rw[List.getD_eq_getElem?_getD,hp _ f1];rfl
    have g2:p.getD x.tg 0=(s x.tg).1:=by rw[List.getD_eq_getElem?_getD,hp _ f2];rfl
    rw[g1,g2]
    by_cases e2:k=x.tg
    ·subst e2
     rw[upd_eq,List.getElem?_set_self (by simp;omega)]
    ·rw[upd_other _ _ e2,List.getElem?_set_ne (fun e=>e2 e.symm)]
     by_cases e1:k=x.fr
     ·subst e1
      rw[upd_eq,List.getElem?_set_self (by omega)]
     ·rw[upd_other _ _ e1,List.getElem?_set_ne (fun e=>e1 e.symm)]
      exact hp k hk
   obtain⟨s',S',r,e1,e2⟩:=ih _ m' p'' (advS L (stepS s x)) (S++[x]) (by simpa using hl) hq hc
   exact⟨s',S',.step (x:=x) (by rw[hposs,h1];simp[pickP_one]) r,by rw[e1];simp;omega,e2⟩
  ·cases h
theorem ops_len{L L':List TkD}(h:L.map TkD.ops=L'.map TkD.ops):L.length=L'.length:=by simpa using congrArg List.length h
theorem ops_get{L L':List TkD}(h:L.map TkD.ops=L'.map TkD.ops)(k:Nat):(L[k]?).map TkD.ops=(L'[k]?).map TkD.ops:=by rw[←List.getElem?_map,←List.getElem?_map,h]
theorem offAt_ops{L L':List TkD}(h:L.map TkD.ops=L'.map TkD.ops)(p:List Nat):offAt L p=offAt L' p:=by
 funext k
 have:=ops_get h k
 unfold offAt
 cases h1:L[k]?<;>cases h2:L'[k]?<;>rw[h1,h2] at this<;>simp_all
theorem chk_ops{L L':List TkD}(h:L.map TkD.ops=L'.map TkD.ops):∀(f:Nat) (p:List Nat),chk L f p=chk L' f p
 |0,_=>rfl
 |f+1,p=>by
  have ih:=chk_ops h f
  unfold chk
  rw[ops_len h,offAt_ops h]
  split<;>simp[ih]
def cirL(n q:Nat)(r:Bool):List TkD:=(List.range n).map fun i=>⟨none,0,cirT n q r i⟩
theorem cirL_ops(n q:Nat)(r:Bool):(cirL n q r).map TkD.ops=(List.range n).map (cirT n q r):=by simp[cirL]
theorem cirT_mod(n q:Nat)(r:Bool)(i:Nat):cirT n q r i=cirT n (q%n) r i:=by unfold cirT;rw[Nat.mod_mod]
theorem cir_chk:((List.range 7).all fun t=>(List.range (t+2)).all fun w=>(chk (cirL (t+2) w true) 9 (List.replicate (t+2) 0)==some (t+2,List.replicate (t+2) 2))&&(chk (cirL (t+2) w false) 9 (List.replicate (t+2) 0)==some (0,List.replicate (t+2) 0))&&validT (t+2) (cirL (t+2) w true)&&validT (t+2) (cirL (t+2) w false))=true:=by kernel_rfl
theorem valid_ops{L L':List TkD}(h:L.map TkD.ops=L'.map TkD.ops)(c:Int):validT c L=validT c L':=by
 have e:∀L:List TkD,(L.all fun t=>validL c t.ops)=(L.map TkD.ops).all (validL c):=fun L=>by rw[List.all_map];rfl
 unfold validT
 rw[ops_len h,e L,e L',h]
theorem cir_noAdd{L:List TkD}{n q:Nat}{r:Bool}(h:L.map TkD.ops=(List.range n).map (cirT n q r)):noAdd L:=by
 intro t ht x hx
 have:t.ops∈(List.range n).map (cirT n q r):=by rw[←h];exact List.mem_map_of_mem ht
 obtain⟨i,_,hi⟩:=List.mem_map.1 this
 rw[←hi] at hx
 unfold cirT at hx
 split at hx<;>simp only[List.mem_cons,List.not_mem_nil,or_false] at hx<;>rcases hx with rfl|rfl<;>simp[cirR,cirS]
theorem cir_all{n q:Nat}(hn:2≤n∧n≤8):chk (cirL n q true) 9 (List.replicate n 0)=some (n,List.replicate n 2)∧chk (cirL n q false) 9 (List.replicate n 0)=some (0,List.replicate n 0)∧validT n (cirL n q true)=true∧validT n (cirL n q false)=true:=by
 have e:∀r,cirL n q r=cirL n (q%n) r:=fun r=>by
  unfold cirL
  congr 1
  funext i
  rw[cirT_mod]
 rw[e true,e false]
 have h:=List.all_eq_true.1 cir_chk (n-2) (List.mem_range.2 (by omega))
 rw[show n-2+2=n by omega] at h
 have h2:=List.all_eq_true.1 h (q%n) (List.mem_range.2 (Nat.mod_lt _ (by omega)))
 simp only[Bool.and_eq_true,beq_iff_eq] at h2
 have e2:((n-2:Nat):Int)+2=(n:Int):=by omega
 rw[e2] at h2
 exact⟨h2.1.1.1,h2.1.1.2,h2.1.2,h2.2⟩
theorem cir_run{L:List TkD}{n q:Nat}{r:Bool}(hn:2≤n∧n≤8)(h:L.map TkD.ops=(List.range n).map (cirT n q r)){ch:List Int}{s':PS}{S':List StepP}(ho:Outc L ch s' S'):
  (stuckA L s').length=(if r=true then 0 else n)∧S'.length=(if r=true then n else 0):=by
 have hL:L.length=n:=by simpa using congrArg List.length h
 have hno:=cir_noAdd h
 have h':L.map TkD.ops=(cirL n q r).map TkD.ops:=by rw[h,cirL_ops]
 have hc:chk L 9 (List.replicate n 0)=some (if r=true then n else 0,List.replicate n (if r=true then 2 else 0)):=by
  rw[chk_ops h']
  obtain⟨h1,h2,_⟩:=cir_all (q:=q) hn
  cases r
  ·exact h2
  ·exact h1
 have hs0:s0 L=fun _=>(0,0):=by unfold s0;rw[advS_no hno]
 obtain⟨s₁,S₁,r1,e1,e2⟩:=chk_run hno ch 9 _ _ _ (s0 L) [] (by simp[hL]) (fun k hk=>by rw[hs0,List.getElem?_replicate,if_pos (by omega)]) hc
 obtain⟨rfl,rfl⟩:=ho.det r1
 refine⟨?_,by simpa using e1⟩
 have hoff:∀k,k<L.length→offS L s' k=(if r=true then none else offS L s' k)∧((offS L s' k).isSome= !r):=fun k hk=>by
  have hk':=e2 k hk
  rw[List.getElem?_replicate,if_pos (by omega)] at hk'
  have hops:=ops_get h' k
  have hck:(cirL n q r)[k]?=some ⟨none,0,cirT n q r k⟩:=by simp[cirL,List.getElem?_range (show k<n by omega)]
  rw[hck,List.getElem?_eq_getElem hk] at hops
  simp only[Option.map_some,Option.some.injEq] at hops
  have:offS L s' k=(cirT n q r k)[(if r=true then 2 else 0)]?:=by
   unfold offS
   rw[List.getElem?_eq_getElem hk,Option.bind_some,hops,←Option.some.inj hk']
  rw[this]
  cases r
  ·simp[cirT]
  ·unfold cirT
   split<;>simp
 unfold stuckA
 rw[List.length_map]
 cases r
 ·have:(List.range L.length).filter (fun k=>(offS L s' k).isSome)=List.range L.length:=List.filter_eq_self.2 fun k hk=>by rw[(hoff k (List.mem_range.1 hk)).2];rfl
  rw[this];simp[hL]
 ·have:(List.range L.length).filter (fun k=>(offS L s' k).isSome)=[]:=List.filter_eq_nil_iff.2 fun k hk=>by rw[(hoff k (List.mem_range.1 hk)).2];simp
  rw[this];rfl
theorem cir_valid{L:List TkD}{n q:Nat}{r:Bool}(hn:2≤n∧n≤8)(h:L.map TkD.ops=(List.range n).map (cirT n q r)):validT n L=true:=by
 rw[valid_ops (L':=cirL n q r) (by rw[h,cirL_ops])]
 obtain⟨_,_,h3,h4⟩:=cir_all (q:=q) hn
 cases r
 ·exact h4
 ·exact h3
end
section
open Go Go.Conc Go.ConcN Go.Proofs Go.RowKit Go.Proofs.Ytbjlijagheifgaa
set_option maxRecDepth 100000 in
set_option maxHeartbeats 4000000 in
theorem wp_c4_6(u:World)(a0 a1 a2:Option Addr)(m0 m1 m2 k0 k1 k2 n:Nat)(r:Bool)(hn:2≤n∧n≤8)(h2:m2=if r=true then 0 else n)(h0:m0=if r=true then n else 0)(u0 u1 u3 u4 u5 u6 u7 u8 u10 u11 u12 u13 u14 u15 u16 u17 u18 u19 u20 u21 u22 u23 u24 u25 u26 u27 u28 u29 u30 u31 u32 u33 u34 u35 u36 u37 u38 u39 u40 u41 u42 u43 u44 u45 u46 u47 u48 u49 u50 u51 u52 u53 u54 u55 u56 u57 u58 u59 u60 u61 u62 u63 u64 u65 u66 u67 u69 u70 u71 u72 u73 u74 u75 u76 u77 u78 u79 u80 u81 u82 u83 u84 u85 u86 u87 u88 u89 u90 u91 u92 u93 u94 u95 u96:Value):
  ItemsWp Try.prog [.inRegion ops4_15 [4,5,6,7,8,9],.code (c4 7)] (fun e a' u'=>e= .ret∧a'.tmps.getD 8 undef= .bool true∧Below u.heap.size u u') ⟨#[u0,u1,.bool r,u3,u4,u5,u6,u7,u8,.int .i64 (n:Int),u10,u11,u12,u13,u14,u15,u16,u17,u18,u19,u20,u21,u22,u23,u24,u25,u26,u27,u28,u29,u30,u31,u32,u33,u34,u35,u36,u37,u38,u39,u40,u41,u42,u43,u44,u45,u46,u47,u48,u49,u50,u51,u52,u53,u54,u55,u56,u57,u58,u59,u60,u61,u62,u63,u64,u65,u66,u67,.tuple #[.agg #[.slice a0 m0 k0,.slice a1 m1 k1,.slice a2 m2 k2],.int .i64 0],u69,u70,u71,u72,u73,u74,u75,u76,u77,u78,u79,u80,u81,u82,u83,u84,u85,u86,u87,u88,u89,u90,u91,u92,u93,u94,u95,u96],[]⟩ u:=by
 refine ItemsWp.then (k:=4) (l:=ops4_15.toList.drop 4) rfl rfl fun K hK=>?_
 conv in(occs:= *) ops4_15=>
  all_goals
   unfold ops4_15 opsOf c4 c4 c4 c4 c4 c4 c4 b4
   whnf
 unfold c4 c4 c4 c4 c4 c4 c4 c4 b4 at hK
 conv at hK in Option.getD _ _=>whnf
 dsimp only[sndOf,fstOf] at hK
 simp only[List.drop_succ_cons,List.drop_zero]
 have BX:=Lib.hid (Blk.new u 32 [.slice a0 m0 k0,.slice a1 m1 k1,.slice a2 m2 k2])
 have B0:Hid (Below u.heap.size u (u.alloc (.cells #[.slice a0 m0 k0,.slice a1 m1 k1,.slice a2 m2 k2] 32))):=Lib.hid ((Below.refl _ _).alloc (Nat.le_refl _) _)
 have y0:=BX.out.cell (i:=0) rfl
 have y2:=BX.out.cell (i:=2) rfl
 obtain⟨hn2,hn8⟩:=hn
 cases r
 ·simp only[Bool.false_eq_true,if_false] at h2 h0
  subst h2;subst h0
  go_wp2_with fail
  exact B0.out
 ·simp only[if_true] at h2 h0
  subst h2;subst h0
  go_wp2_with fail
  exact B0.out
end
end Go.Side
namespace Go.Proofs.Ytbjlijagheifgaa
section
open Go.RowKit Go.ChangeShapes Go.WideShapes Go.ChangeAt
open Go.ChangeMaps (open_string shut_string)
theorem Try.own:ownKnob Try.prog.godebug=none:=by kernel_rfl
theorem Try.laidOut:laidOutB Try.prog=true:=by kernel_rfl
section
variable {H:Type} {enc:TypeId×Value→H} {P:Program} {w:World} {held:Bool}
theorem sl_open{α:Type}[Inhabited α]{t e:TypeId}{fuel:Nat}{v:Value}{x:DataW H×List MemPlace}(f:α→Value)(Q:α→Prop)(ht:P.underlying t=some (.slice e))(hc:P.cellsOf e=1)(hf:∀n V r,DataW.trod enc P w 0 (fun _=>true) held n e [V]=some r→∃y,V=f y∧Q y)(h:DataW.trod enc P w 0 (fun _=>true) held fuel t [v]=some x):
  ∃a c xs,v= .slice a xs.length c∧Sl f w a xs∧(∀y∈xs,Q y)∧xs.length≤maxLen:=by
 rcases Deep.open_slice1 ht hc h with⟨h1,_⟩|⟨a,len,cap,m,n,V,D,Pl,h1,hb,hl,hm,hmm,_,hx⟩
 ·refine⟨none,0,[],by simpa using h1,?_,by simp,by simp⟩
  intro j x hj
  simp at hj
 ·simp only[if_true] at hmm
  subst hmm
  obtain⟨B,hB⟩:=Deep.choose_lt (α:=α) (n:=m) (p:=fun i y=>V i=f y∧Q y) (fun i hi=>hf _ _ _ (hx i hi).2)
  refine⟨some a,m,(List.range len).map B,by simpa using h1,?_,?_,by simp;omega⟩
  ·intro j y hj
   simp only[List.getElem?_map] at hj
   obtain⟨i,hi,rfl⟩:=Option.map_eq_some_iff.1 hj
   have hlt:j<len:=by
    rcases Nat.lt_or_ge j len with h|h
    ·exact h
    ·rw[List.getElem?_eq_none (by simpa using h)] at hi;simp at hi
   rw[List.getElem?_range hlt] at hi
   obtain rfl:=Option.some.inj hi
   have hcell:=(hx j (by omega)).1
   have hsp:a.spot.isNone=true:=by
    have h0:=(hx 0 (by omega)).1
    have:a.spot=none:=by simpa[Addr.add] using World.cell?_spot h0
    simp[this]
   refine⟨hsp,?_⟩
   rw[←(hB j (by omega)).1,←hcell,add_eq a j hsp]
   rfl
  ·intro y hy
   obtain⟨i,hi,rfl⟩:=List.mem_map.1 hy
   exact(hB i (by have:=List.mem_range.1 hi;omega)).2
def IntOk(k:IntKind)(n:Int):Prop:=(Lit.int k n).wf=true
theorem ints_open{t e:TypeId}{k:IntKind}{v:Value}{d:DataW H}{ps:List MemPlace}(ht:P.underlying t=some (.slice e))(he:P.underlying e=some (.int k))(hc:P.cellsOf e=1)(h:DataW.Trod enc P w 0 (fun _=>true) held t v d ps)(hv:∃a n c,v= .slice a n c):
  ∃a c xs,v= .slice a xs.length c∧Sl (Value.int k) w a xs∧(∀y∈xs,IntOk k y)∧xs.length≤maxLen:=by
 obtain⟨fuel,hf⟩:=h
 obtain⟨a,n,c,rfl⟩:=hv
 refine sl_open (Value.int k) (IntOk k) ht hc (fun n V r hr=>?_) hf
 obtain⟨i,h1,_,h3⟩:=DataW.trod_int he hr
 exact⟨i,by simpa using h1,h3⟩
structure RowOf(α:Type) where
 a:Option Addr
 c:Nat
 xs:List α
instance {α:Type}:Inhabited (RowOf α):=⟨⟨none,0,[]⟩⟩
def RowOf.val{α:Type}(r:RowOf α):Value:=.slice r.a r.xs.length r.c
end
end
end Go.Proofs.Ytbjlijagheifgaa
