/-
  Texts of Ytbjlijagheifgaa, merged.
-/
import Derived.Test.YtbjlijagheifgaaD37
set_option linter.unusedSimpArgs false
set_option linter.unusedVariables false
namespace Go.Side
section
open Go Go.Conc Go.ConcN Go.Proofs Go.RowKit Go.Proofs.Ytbjlijagheifgaa
section
variable {P:Program} {ops:Array Oper} {Q:Exit→Act→World→Prop} {a:Act} {w:World} {l:List Oper} {rest:List Nat} {c:Code}
theorem ItemsWp.tail{k:Nat}(hl:ops.toList.drop k=l)(hr:rest=List.range' k l.length)(h:wpList P ops Q l a w):ItemsWp P [.inRegion ops rest] Q a w:=by
 subst hr
 refine ItemsWp.ops ?_
 rw[wpOps_eq_wpList l k fun j=>by rw[←hl,List.getElem?_drop,Array.getElem?_toList]]
 exact h
theorem ItemsWp.then{k:Nat}(hl:ops.toList.drop k=l)(hr:rest=List.range' k l.length)(h:∀K:Act→World→Prop,(∀a w,c.wp P Q a w→K a w)→wpList P ops (Exit.then K Q) l a w):ItemsWp P [.inRegion ops rest,.code c] Q a w:=
 ItemsWp.cons (by simp[Item.plain]) (ItemsWp.tail hl hr (h _ fun _ _ h=>h))
end
noncomputable def b11:Code:=Try.f11.body.getD .skip
noncomputable def c11:Nat→Code
 |0=>b11
 |n+1=>sndOf (c11 n)
theorem c11_seq(n:Nat)(h:n<4):c11 n= .seq (fstOf (c11 n)) (c11 (n+1)):=by
 have:n=0∨n=1∨n=2∨n=3:=by omega
 rcases this with rfl|rfl|rfl|rfl<;>rfl
noncomputable def ops11_2:Array Oper:=match fstOf (c11 2) with
 | .region _ ops _=>ops
 |_=> #[]
theorem c11_2:fstOf (c11 2)= .region 2 ops11_2 false:=by rfl
def awT(B:Nat):List TkD:=[⟨some ⟨B,0,none⟩,1,[⟨1,0,5,none,0,[]⟩]⟩,⟨some ⟨B+1,0,none⟩,1,[⟨1,0,7,none,0,[]⟩]⟩,⟨some ⟨B+2,0,none⟩,1,[⟨2,0,0,none,0,[]⟩]⟩]
theorem awT_run{B:Nat}{s':PS}{S':List StepP}(h:Outc (awT B) [1] s' S'):S'=[⟨1,2,0,7⟩]∧sumsA (awT B) s'=[0,0,7]∧stuckA (awT B) s'=[0]:=by
 have h1:=h.reckon 3 (by kernel_rfl)
 have h2:=congrArg Prod.snd h1
 have h3:=congrArg Prod.fst h1
 simp only at h2 h3
 subst h2
 subst h3
 exact⟨by kernel_rfl,by kernel_rfl,by kernel_rfl⟩
theorem awT_valid(B:Nat):validT 1 (awT B)=true:=by kernel_rfl
theorem awT_ready(B:Nat):(readyD 1 (awT B) [0,0,0]).length=2:=by kernel_rfl
theorem awT_el(B:Nat):∀t∈awT B,∀x∈t.ops,x.el.length≤1000000:=by
 intro t ht x hx
 simp only[awT,List.mem_cons,List.not_mem_nil,or_false] at ht
 rcases ht with rfl|rfl|rfl
 all_goals
  simp only[List.mem_cons,List.not_mem_nil,or_false] at hx
  subst hx
  simp
theorem tk_one{u:World}{B:Nat}{k c v:Int}(h:Blk u B 29 [.int .i64 k,.int .i64 c,.int .i64 v,.slice none 0 0]):TkOk u ⟨some ⟨B,0,none⟩,1,[⟨k,c,v,none,0,[]⟩]⟩:=by
 refine⟨fun j x hj=>?_,fun x hx=>?_,by simp[maxLen],by simp[maxLen]⟩
 ·match j,hj with
  |0,hj=>
   simp only[List.getElem?_cons_zero,Option.some.injEq] at hj
   subst hj
   refine⟨rfl,?_,?_,?_,?_⟩
   ·exact h.cell (i:=0) rfl
   ·exact h.cell (i:=1) rfl
   ·exact h.cell (i:=2) rfl
   ·exact h.cell (i:=3) rfl
 ·simp only[List.mem_cons,List.not_mem_nil,or_false] at hx
  subst hx
  exact⟨fun j x hj=>(by cases hj),Nat.zero_le _,Nat.le_refl _,Nat.zero_le _⟩
theorem awT_at{u:World}{B:Nat}(h0:Blk u B 29 [.int .i64 1,.int .i64 0,.int .i64 5,.slice none 0 0])(h1:Blk u (B+1) 29 [.int .i64 1,.int .i64 0,.int .i64 7,.slice none 0 0])(h2:Blk u (B+2) 29 [.int .i64 2,.int .i64 0,.int .i64 0,.slice none 0 0])(h3:Blk u (B+3) 26 [.slice (some ⟨B,0,none⟩) 1 1,.slice (some ⟨B+1,0,none⟩) 1 1,.slice (some ⟨B+2,0,none⟩) 1 1]):SlT u (some ⟨B+3,0,none⟩) (awT B):=by
 intro j t hj
 match j,hj with
 |0,hj=>
  simp only[awT,List.getElem?_cons_zero,Option.some.injEq] at hj
  subst hj
  exact⟨rfl,h3.cell (i:=0) rfl,tk_one h0⟩
 |1,hj=>
  simp only[awT,List.getElem?_cons_succ,List.getElem?_cons_zero,Option.some.injEq] at hj
  subst hj
  exact⟨rfl,h3.cell (i:=1) rfl,tk_one h1⟩
 |2,hj=>
  simp only[awT,List.getElem?_cons_succ,List.getElem?_cons_zero,Option.some.injEq] at hj
  subst hj
  exact⟨rfl,h3.cell (i:=2) rfl,tk_one h2⟩
 |j+3,hj=>
  simp[awT] at hj
set_option maxRecDepth 100000 in
set_option maxHeartbeats 4000000 in
theorem wp_c11_0(u:World)(u0 u1 u2 u3 u4 u5 u6 u7 u8 u9 u10 u11 u12 u13 u14 u15 u16 u17 u18 u19 u20 u21 u22 u23 u24 u25 u26 u27 u28 u29 u30 u31 u32 u33 u34 u35 u36 u37 u38 u39 u40 u41 u42 u43 u44:Value):(fstOf (c11 0)).wp Try.prog (fun e a' u'=>e= .normal∧a'=⟨#[.bool false,u1,u2,u3,u4,u5,u6,u7,u8,u9,u10,u11,u12,u13,u14,u15,u16,u17,u18,u19,u20,u21,u22,u23,u24,u25,u26,u27,u28,u29,u30,u31,u32,u33,u34,u35,u36,u37,u38,u39,u40,u41,u42,u43,u44],[]⟩∧u'=u) ⟨#[u0,u1,u2,u3,u4,u5,u6,u7,u8,u9,u10,u11,u12,u13,u14,u15,u16,u17,u18,u19,u20,u21,u22,u23,u24,u25,u26,u27,u28,u29,u30,u31,u32,u33,u34,u35,u36,u37,u38,u39,u40,u41,u42,u43,u44],[]⟩ u:=by
 unfold c11 b11
 conv in Option.getD _ _=>whnf
 dsimp only[fstOf]
 go_wp2_with fail
def Aw1(u:World)(a':Act)(u':World)(nx:Value→Value→Value→Value→Value→Value→Value→Value→Act):Prop:=
 (∃v4 v5 v6 v7 v8 v9 v10,a'=nx (.slice (some ⟨u.heap.size+3,0,none⟩) 3 3) v4 v5 v6 v7 v8 v9 v10)∧SlT u' (some ⟨u.heap.size+3,0,none⟩) (awT u.heap.size)∧Below u.heap.size u u'
set_option maxRecDepth 100000 in
set_option maxHeartbeats 4000000 in
theorem wp_c11_1(u:World)(u1 u2 u3 u4 u5 u6 u7 u8 u9 u10 u11 u12 u13 u14 u15 u16 u17 u18 u19 u20 u21 u22 u23 u24 u25 u26 u27 u28 u29 u30 u31 u32 u33 u34 u35 u36 u37 u38 u39 u40 u41 u42 u43 u44:Value):(fstOf (c11 1)).wp Try.prog (fun e a' u'=>e= .normal∧Aw1 u a' u' fun v1 v4 v5 v6 v7 v8 v9 v10=>⟨#[.bool false,v1,u2,u3,v4,v5,v6,v7,v8,v9,v10,u11,u12,u13,u14,u15,u16,u17,u18,u19,u20,u21,u22,u23,u24,u25,u26,u27,u28,u29,u30,u31,u32,u33,u34,u35,u36,u37,u38,u39,u40,u41,u42,u43,u44],[]⟩) ⟨#[.bool false,u1,u2,u3,u4,u5,u6,u7,u8,u9,u10,u11,u12,u13,u14,u15,u16,u17,u18,u19,u20,u21,u22,u23,u24,u25,u26,u27,u28,u29,u30,u31,u32,u33,u34,u35,u36,u37,u38,u39,u40,u41,u42,u43,u44],[]⟩ u:=by
 have FN:Hid (∀w',w'=((((u.alloc (.cells #[.int .i64 1,.int .i64 0,.int .i64 5,.slice none 0 0] 29)).alloc (.cells #[.int .i64 1,.int .i64 0,.int .i64 7,.slice none 0 0] 29)).alloc (.cells #[.int .i64 2,.int .i64 0,.int .i64 0,.slice none 0 0] 29)).alloc (.cells #[.slice (some ⟨u.heap.size,0,none⟩) 1 1,.slice (some ⟨u.heap.size+1,0,none⟩) 1 1,.slice (some ⟨u.heap.size+1+1,0,none⟩) 1 1] 26))→SlT w' (some ⟨u.heap.size+3,0,none⟩) (awT u.heap.size)∧Below u.heap.size u w'):=Lib.hid fun w' hw=>by
  subst hw
  refine⟨awT_at ?_ ?_ ?_ ?_,((((Below.refl _ _).alloc (Nat.le_refl _) _).alloc (by simp) _).alloc (by simp;omega) _).alloc (by simp;omega) _⟩
  ·exact(((Blk.new u 29 [.int .i64 1,.int .i64 0,.int .i64 5,.slice none 0 0]).alloc _).alloc _).alloc _
  ·have:=((Blk.new (u.alloc (.cells #[.int .i64 1,.int .i64 0,.int .i64 5,.slice none 0 0] 29)) 29 [.int .i64 1,.int .i64 0,.int .i64 7,.slice none 0 0]).alloc (.cells #[.int .i64 2,.int .i64 0,.int .i64 0,.slice none 0 0] 29)).alloc (.cells #[.slice (some ⟨u.heap.size,0,none⟩) 1 1,.slice (some ⟨u.heap.size+1,0,none⟩) 1 1,.slice (some ⟨u.heap.size+1+1,0,none⟩) 1 1] 26)
   simpa using this
  ·have:=(Blk.new ((u.alloc (.cells #[.int .i64 1,.int .i64 0,.int .i64 5,.slice none 0 0] 29)).alloc (.cells #[.int .i64 1,.int .i64 0,.int .i64 7,.slice none 0 0] 29)) 29 [.int .i64 2,.int .i64 0,.int .i64 0,.slice none 0 0]).alloc (.cells #[.slice (some ⟨u.heap.size,0,none⟩) 1 1,.slice (some ⟨u.heap.size+1,0,none⟩) 1 1,.slice (some ⟨u.heap.size+1+1,0,none⟩) 1 1] 26)
   simpa using this
  ·have:=Blk.new (((u.alloc (.cells #[.int .i64 1,.int .i64 0,.int .i64 5,.slice none 0 0] 29)).alloc (.cells #[.int .i64 1,.int .i64 0,.int .i64 7,.slice none 0 0] 29)).alloc (.cells #[.int .i64 2,.int .i64 0,.int .i64 0,.slice none 0 0] 29)) 26 [.slice (some ⟨u.heap.size,0,none⟩) 1 1,.slice (some ⟨u.heap.size+1,0,none⟩) 1 1,.slice (some ⟨u.heap.size+1+1,0,none⟩) 1 1]
   simpa using this
 unfold c11 c11 b11
 conv in Option.getD _ _=>whnf
 dsimp only[fstOf,sndOf]
 go_wp2_with fail
 exact⟨⟨_,_,_,_,_,_,_,rfl⟩,(FN.out _ rfl).1,(FN.out _ rfl).2⟩
theorem slSt_one{w:World}{b:Nat}{s:StepP}(h:Blk w b 50 (stC s)):SlSt w (some ⟨b,0,none⟩) [s]:=by
 intro j x hj
 match j,hj with
 |0,hj=>
  simp only[List.getElem?_cons_zero,Option.some.injEq] at hj
  subst hj
  refine⟨rfl,fun i y hy=>?_⟩
  rw[adr_mk]
  simpa using h.cell hy
theorem belowQt{B:Nat}{a b c:World}(h:Below B a b)(q:Qt b c):Below B a c:=h.trans (q.below B)
set_option maxRecDepth 100000 in
set_option maxHeartbeats 4000000 in
theorem wp_aw_tail(u:World)(B:Nat)(v0 v1 v2:Value)(hR:RunRes u v0 v1 v2 [⟨1,2,0,7⟩] [0,0,7] [0])(hT:SlT u (some ⟨B+3,0,none⟩) (awT B))(u2 u3 u4 u5 u6 u7 u8 u9 u10 u11 u12 u13 u15 u16 u17 u18 u19 u20 u21 u22 u23 u24 u25 u26 u27 u28 u29 u30 u31 u32 u33 u34 u35 u36 u37 u38 u39 u40 u41 u42 u43 u44:Value):
  ItemsWp Try.prog [.inRegion ops11_2 [3,4,5,6,7,8],.code (c11 3)] (fun e a' u'=>e= .ret∧a'.tmps.getD 0 undef= .bool true∧Below u.heap.size u u') ⟨#[.bool false,.slice (some ⟨B+3,0,none⟩) 3 3,u2,u3,u4,u5,u6,u7,u8,u9,u10,u11,u12,u13,.tuple #[.agg #[v0,v1,v2],.int .i64 0],u15,u16,u17,u18,u19,u20,u21,u22,u23,u24,u25,u26,u27,u28,u29,u30,u31,u32,u33,u34,u35,u36,u37,u38,u39,u40,u41,u42,u43,u44],[]⟩ u:=by
 refine ItemsWp.then (k:=3) (l:=ops11_2.toList.drop 3) rfl rfl fun K hK=>?_
 conv in(occs:= *) ops11_2=>
  all_goals
   unfold ops11_2 c11 c11 b11
   whnf
 unfold c11 c11 c11 c11 b11 at hK
 conv at hK in Option.getD _ _=>whnf
 dsimp only[sndOf] at hK
 simp only[List.drop_succ_cons,List.drop_zero]
 obtain⟨⟨a0,k0,rfl,r0⟩,⟨a1,k1,rfl,r1⟩,⟨a2,k2,rfl,r2⟩⟩:=hR
 have R0:=Lib.hid r0
 have R1:=Lib.hid r1
 have R2:=Lib.hid r2
 have T:=Lib.hid hT
 clear r0 r1 r2 hT
 simp only[List.length_cons,List.length_nil,Nat.zero_add,Nat.reduceAdd]
 have BX:=Lib.hid (Blk.new u 32 [.slice a0 1 k0,.slice a1 3 k1,.slice a2 1 k2])
 have B0:Hid (Below u.heap.size u (u.alloc (.cells #[.slice a0 1 k0,.slice a1 3 k1,.slice a2 1 k2] 32))):=Lib.hid ((Below.refl _ _).alloc (Nat.le_refl _) _)
 have HBX:Hid (∀wx,Below u.heap.size u wx→Reads (u.alloc (.cells #[.slice a0 1 k0,.slice a1 3 k1,.slice a2 1 k2] 32)) wx→wx.cell? ⟨u.heap.size,1,none⟩=some (.slice a1 3 k1)∧wx.cell? ⟨u.heap.size,2,none⟩=some (.slice a2 1 k2)):=Lib.hid fun wx _ q=>⟨q _ _ (BX.out.cell (i:=1) rfl),q _ _ (BX.out.cell (i:=2) rfl)⟩
 go_wp2_with fail
 generalize hW:u.alloc (.cells #[.slice a0 1 k0,.slice a1 3 k1,.slice a2 1 k2] 32)=W at*
 have hsz:W.heap.size=u.heap.size+1:=by rw[←hW];simp
 clear hW BX
 have B1:=B0.out.alloc B0.out.size (.cells #[.int .i64 1,.int .i64 2,.int .i64 0,.int .i64 7] 50)
 have q1:Reads W (W.alloc (.cells #[.int .i64 1,.int .i64 2,.int .i64 0,.int .i64 7] 50)):=Reads.below ((Below.refl _ W).alloc (Nat.le_refl _) _)
 refine(equalSt_any _ a0 (some ⟨u.heap.size+1,0,none⟩) k0 1 [⟨1,2,0,7⟩] [⟨1,2,0,7⟩] (R0.out.reads (Reads.below B1)) (slSt_one (by rw[←hsz];exact Blk.new W 50 [.int .i64 1,.int .i64 2,.int .i64 0,.int .i64 7])) (by simp[maxLen])).mono ?_
 rintro e w2 ⟨b,rfl,hb,hq⟩
 obtain rfl:b=true:=hb.2 rfl
 have b2:=belowQt B1 hq
 have q2:=fun p v h=>hq.reads p v (q1 p v h)
 obtain⟨c1,c2⟩:=HBX.out w2 b2 q2
 have B2:=Lib.hid b2
 have Q2:Hid (Reads W w2):=Lib.hid q2
 clear hb hq q1 q2 b2 B1 c2
 go_wp2_with fail
 have B3:=B2.out.alloc B2.out.size (.cells #[.int .i64 0,.int .i64 0,.int .i64 7] 3)
 have q3:Reads w2 (w2.alloc (.cells #[.int .i64 0,.int .i64 0,.int .i64 7] 3)):=Reads.below ((Below.refl _ w2).alloc (Nat.le_refl _) _)
 refine(equalInt_any _ a1 (some ⟨w2.heap.size,0,none⟩) k1 3 [0,0,7] [0,0,7] (R1.out.reads (Reads.below B3)) (Blk.new w2 3 [.int .i64 0,.int .i64 0,.int .i64 7]).sl (by simp[maxLen])).mono ?_
 rintro e w3 ⟨rfl,hq⟩
 have b4:=belowQt B3 hq
 have q4:Reads W w3:=fun p v h=>hq.reads p v (q3 p v (Q2.out p v h))
 obtain⟨-,c2⟩:=HBX.out w3 b4 q4
 have B4:=Lib.hid b4
 clear hq q3 q4 b4 B3 c1
 simp only[decide_true]
 go_wp2_with fail
 have B5:=B4.out.alloc B4.out.size (.cells #[.int .i64 0] 3)
 refine(equalInt_any _ a2 (some ⟨w3.heap.size,0,none⟩) k2 1 [0] [0] (R2.out.reads (Reads.below B5)) (Blk.new w3 3 [.int .i64 0]).sl (by simp[maxLen])).mono ?_
 rintro e w4 ⟨rfl,hq⟩
 have b6:=belowQt B5 hq
 have B6:=Lib.hid b6
 clear hq b6 B5 c2
 simp only[decide_true]
 go_wp2_with fail
 have B7:=B6.out.alloc B6.out.size (.cells #[.int .i64 0,.int .i64 0,.int .i64 0] 3)
 refine(ready_any _ (some ⟨B+3,0,none⟩) (some ⟨w4.heap.size,0,none⟩) 3 3 (awT B) 1 [0,0,0] (T.out.reads (Reads.below B7)) (Blk.new w4 3 [.int .i64 0,.int .i64 0,.int .i64 0]).sl (by simp[maxLen,awT]) (by simp[maxLen]) (awT_el B)).mono ?_
 rintro e w5 ⟨v,rfl,⟨ra,rc,rfl,_⟩,hb⟩
 rw[awT_ready]
 have B8:=Lib.hid (B7.trans (hb.mono B7.size))
 clear hb B7
 go_wp2_with fail
 exact B8.out
theorem p11_0:([Item.code (fstOf (c11 0))].all (itemPlain false none Try.prog lawFns))=true:=by kernel_rfl
theorem p11_1:([Item.code (fstOf (c11 1))].all (itemPlain false none Try.prog lawFns))=true:=by kernel_rfl
theorem p11_3:([Item.inRegion ops11_2 [3,4,5,6,7,8],Item.code (c11 3)].all (itemPlain false none Try.prog lawFns))=true:=by kernel_rfl
theorem slT_ext{u u':World}{a:Option Addr}{L:List TkD}(h:SlT u a L)(e:Ext u u'):SlT u' a L:=h.reads fun _ _=>e.cell
theorem exec_buildSlice{ρ:Operand→Value}{o:Oper}{t:TypeId}{n:Nat}{parts:Array (Nat×Operand)}(h:o.op= .buildSlice t n parts):execOp ρ o=(do pure (Next.value (←Instr.buildSlice t n (parts.map fun(i,x)=>(i,ρ x))))):=by
 unfold execOp
 rw[h]
theorem frame12(x y z:Value): #[x,y,z]++Array.replicate 76 undef= #[x,y,z,undef,undef,undef,undef,undef,undef,undef,undef,undef,undef,undef,undef,undef,undef,undef,undef,undef,undef,undef,undef,undef,undef,undef,undef,undef,undef,undef,undef,undef,undef,undef,undef,undef,undef,undef,undef,undef,undef,undef,undef,undef,undef,undef,undef,undef,undef,undef,undef,undef,undef,undef,undef,undef,undef,undef,undef,undef,undef,undef,undef,undef,undef,undef,undef,undef,undef,undef,undef,undef,undef,undef,undef,undef,undef,undef,undef]:=by kernel_rfl
set_option maxRecDepth 100000 in
set_option maxHeartbeats 4000000 in
theorem awake_sb{N:Nat}{Shun:Loc→Prop}{Qm:Machine→Trace→Prop}{w:World}{F:World→Prop}(K:Kn N Shun w F)(hF:ExtC F)(hN:∀u,F u→N≤u.heap.size){c:Frame}{cs:List Frame}(u0 u1 u2 u3 u4 u5 u6 u7 u8 u9 u10 u11 u12 u13 u14 u15 u16 u17 u18 u19 u20 u21 u22 u23 u24 u25 u26 u27 u28 u29 u30 u31 u32 u33 u34 u35 u36 u37 u38 u39 u40 u41 u42 u43 u44:Value)(kk:∀(Shun':Loc→Prop) (w':World),Kn N Shun' w' F→SB Try.prog Shun' Qm (G (c.finish (.bool true)) cs) w'):
  SB Try.prog Shun Qm (G ((base 11).at ⟨#[u0,u1,u2,u3,u4,u5,u6,u7,u8,u9,u10,u11,u12,u13,u14,u15,u16,u17,u18,u19,u20,u21,u22,u23,u24,u25,u26,u27,u28,u29,u30,u31,u32,u33,u34,u35,u36,u37,u38,u39,u40,u41,u42,u43,u44],[]⟩ [.code b11]) (c::cs)) w:=by
 have H:=gait_b Try.prog Shun Qm
 have hk0:(base 11).kind≠ .early:=by decide
 rw[show b11=c11 0 from rfl,c11_seq 0 (by decide)]
 refine SB.into (H.seq (n:=0) (Kn.out K hF fun w₁ K₁=>?_))
 refine K₁.lone (items:=[.code (fstOf (c11 0))]) (k:=[.code (c11 1)]) lawOK ⟨_,Try.func11⟩ rfl p11_0 rfl (Q:=fun u e a' u'=>e= .normal∧a'=⟨#[.bool false,u1,u2,u3,u4,u5,u6,u7,u8,u9,u10,u11,u12,u13,u14,u15,u16,u17,u18,u19,u20,u21,u22,u23,u24,u25,u26,u27,u28,u29,u30,u31,u32,u33,u34,u35,u36,u37,u38,u39,u40,u41,u42,u43,u44],[]⟩∧u'=u)
  (fun u e a' u' h=>.inl h.1) (fun u hu=>ItemsWp.code (wp_c11_0 u _ _ _ _ _ _ _ _ _ _ _ _ _ _ _ _ _ _ _ _ _ _ _ _ _ _ _ _ _ _ _ _ _ _ _ _ _ _ _ _ _ _ _ _ _)) (fun u a' u' w' hu ⟨_,ha,hw⟩ _ gen=>?_) (fun u a' u' w' todo _ h=>by cases h.1)
 subst ha
 subst hw
 have K₂:=gen F hF hu
 clear gen hu K₁ w₁
 rw[c11_seq 1 (by decide)]
 refine SB.into (H.seq (n:=0) (Kn.out K₂ hF fun w₁ K₁=>?_))
 refine K₁.lone (items:=[.code (fstOf (c11 1))]) (k:=[.code (c11 2)]) lawOK ⟨_,Try.func11⟩ rfl p11_1 rfl (Q:=fun u e a' u'=>e= .normal∧Aw1 u a' u' fun v1 v4 v5 v6 v7 v8 v9 v10=>⟨#[.bool false,v1,u2,u3,v4,v5,v6,v7,v8,v9,v10,u11,u12,u13,u14,u15,u16,u17,u18,u19,u20,u21,u22,u23,u24,u25,u26,u27,u28,u29,u30,u31,u32,u33,u34,u35,u36,u37,u38,u39,u40,u41,u42,u43,u44],[]⟩)
  (fun u e a' u' h=>.inl h.1) (fun u hu=>ItemsWp.code (wp_c11_1 u _ _ _ _ _ _ _ _ _ _ _ _ _ _ _ _ _ _ _ _ _ _ _ _ _ _ _ _ _ _ _ _ _ _ _ _ _ _ _ _ _ _ _ _)) (fun u a' u' w' hu ⟨_,⟨⟨v4,v5,v6,v7,v8,v9,v10,ha⟩,hT,hb⟩⟩ _ gen=>?_) (fun u a' u' w' todo _ h=>by cases h.1)
 subst ha
 have f':=hF _ _ (Ext.below hb) hu
 clear hb hu
 generalize u.heap.size=B at*
 let F₁:World→Prop:=fun x=>F x∧SlT x (some ⟨B+3,0,none⟩) (awT B)
 have hF₁:ExtC F₁:=fun x y e h=>⟨hF x y e h.1,slT_ext h.2 e⟩
 have K₃:=gen F₁ hF₁ ⟨f',hT⟩
 clear gen f' hT K₁ K₂
 rw[c11_seq 2 (by decide)]
 refine SB.into (H.seq (n:=2) ?_)
 rw[c11_2]
 refine H.region (n:=1) ?_
 rw[show List.range ops11_2.size=[0,1,2,3,4,5,6,7,8] from rfl]
 refine H.pure (n:=0) _ (show ops11_2[0]?=some _ from rfl) (by rfl) hk0 (fun _=>rfl) (fun _=>rfl) (Kn.out K₃ hF₁ fun w₃ K₄=>?_)
 change SB Try.prog Shun Qm (G ((base 11).at ⟨#[.bool false,.slice (some ⟨B+3,0,none⟩) 3 3,u2,u3,v4,v5,v6,v7,v8,v9,v10,u11,.slice (some ⟨B+3,0,none⟩) 3 3,u13,u14,u15,u16,u17,u18,u19,u20,u21,u22,u23,u24,u25,u26,u27,u28,u29,u30,u31,u32,u33,u34,u35,u36,u37,u38,u39,u40,u41,u42,u43,u44],[]⟩ (.inRegion ops11_2 [1,2,3,4,5,6,7,8]::[.code (c11 3)])) (c::cs)) w₃
 refine SB.op K₄ settled lawOK.fns (show ops11_2[1]?=some _ from rfl) rfl (by kernel_rfl) (Q:=fun u v u'=>v= .slice (some ⟨u.heap.size,0,none⟩) 1 1∧u'=u.alloc (.cells #[.int .i64 1] 3)) (fun u hu=>?_) (fun u v u' w4 hu hq gen=>?_)
 ·refine⟨_,_,?_,rfl,rfl⟩
  rw[exec_buildSlice (t:=23) (n:=1) (parts:= #[(0,.const (.int .i64 1))]) rfl]
  simp only[List.map_toArray,List.map_cons,List.map_nil,Act.eval]
  go_simp
 obtain⟨rfl,rfl⟩:=hq
 have f4:F₁ (u.alloc (.cells #[.int .i64 1] 3)):=hF₁ _ _ (Ext.below ((Below.refl _ _).alloc (Nat.le_refl _) _)) hu
 have s4:Sl (Value.int .i64) (u.alloc (.cells #[.int .i64 1] 3)) (some ⟨u.heap.size,0,none⟩) [1]:=(Blk.new u 3 [.int .i64 1]).sl (xs:=[(1:Int)])
 generalize u.heap.size=bc at*
 let F₂:World→Prop:=fun x=>F₁ x∧Sl (Value.int .i64) x (some ⟨bc,0,none⟩) [1]
 have hF₂:ExtC F₂:=fun x y e h=>⟨hF₁ x y e h.1,e.sl h.2⟩
 have K₅:=gen F₂ hF₂ ⟨f4,s4⟩
 clear gen f4 s4 hu K₄ K₃
 change SB Try.prog Shun Qm (G ((base 11).at ⟨#[.bool false,.slice (some ⟨B+3,0,none⟩) 3 3,u2,u3,v4,v5,v6,v7,v8,v9,v10,u11,.slice (some ⟨B+3,0,none⟩) 3 3,.slice (some ⟨bc,0,none⟩) 1 1,u14,u15,u16,u17,u18,u19,u20,u21,u22,u23,u24,u25,u26,u27,u28,u29,u30,u31,u32,u33,u34,u35,u36,u37,u38,u39,u40,u41,u42,u43,u44],[]⟩ (.inRegion ops11_2 [2,3,4,5,6,7,8]::[.code (c11 3)])) (c::cs)) w4
 refine SB.into (H.call (n:=0) (f:=12) (c:=b12) (args:= #[.tmp 12,.const (.int .i64 1),.tmp 13]) (ats:= #[25,3,23]) (show ops11_2[2]?=some _ from rfl) (by rfl) hk0 rfl Try.func12 (by decide) rfl (Kn.out K₅ hF₂ fun w₅ K₆=>?_))
 rw[show Try.f12.ntmps=79 from Try.ntmps12]
 simp only[List.map_toArray,List.map_cons,List.map_nil,List.size_toArray,List.length_cons,List.length_nil,Nat.reduceAdd,Nat.reduceSub,Act.eval,Array.getD_eq_getD_getElem?,List.getElem?_toArray,List.getElem?_cons_succ,List.getElem?_cons_zero,Option.getD_some,frame12]
 change SB Try.prog Shun Qm (G ((base 12).at ⟨#[.slice (some ⟨B+3,0,none⟩) 3 3,.int .i64 1,.slice (some ⟨bc,0,none⟩) 1 1,undef,undef,undef,undef,undef,undef,undef,undef,undef,undef,undef,undef,undef,undef,undef,undef,undef,undef,undef,undef,undef,undef,undef,undef,undef,undef,undef,undef,undef,undef,undef,undef,undef,undef,undef,undef,undef,undef,undef,undef,undef,undef,undef,undef,undef,undef,undef,undef,undef,undef,undef,undef,undef,undef,undef,undef,undef,undef,undef,undef,undef,undef,undef,undef,undef,undef,undef,undef,undef,undef,undef,undef,undef,undef,undef,undef],[]⟩ [.code b12]) ((base 11).at ⟨#[.bool false,.slice (some ⟨B+3,0,none⟩) 3 3,u2,u3,v4,v5,v6,v7,v8,v9,v10,u11,.slice (some ⟨B+3,0,none⟩) 3 3,.slice (some ⟨bc,0,none⟩) 1 1,u14,u15,u16,u17,u18,u19,u20,u21,u22,u23,u24,u25,u26,u27,u28,u29,u30,u31,u32,u33,u34,u35,u36,u37,u38,u39,u40,u41,u42,u43,u44],[]⟩ (.inRegion ops11_2 [2,3,4,5,6,7,8]::[.code (c11 3)])::c::cs)) w₅
 refine run_call K₆ hF₂ (fun u h=>hN _ h.1.1) (pt:=some ⟨B+3,0,none⟩) (ct:=3) (pc:=some ⟨bc,0,none⟩) (cc:=1) (L:=awT B) (ch:=1) (chs:=[1]) (fun u h=>h.1.2) (fun u h=>h.2) (by simp[awT,maxLen]) (awT_el B) _ _ _ _ _ _ _ _ _ _ _ _ _ _ _ _ _ _ _ _ _ _ _ _ _ _ _ _ _ _ _ _ _ _ _ _ _ _ _ _ _ _ _ _ _ _ _ _ _ _ _ _ _ _ _ _ _ _ _ _ _ _ _ _ _ _ _ _ _ _ _ _ _ _ _ _ (fun c' S' Shun' w' v0 v1 v2 _ hrun K₇=>?_) (fun w' hv _=>by rw[awT_valid] at hv;cases hv)
 obtain⟨u7,V7⟩:=View.ex K₇.sh
 have hE:∀t∈awT B,∀x∈t.ops,EL (awT B) (opv x)=x.el:=fun t ht x hx=>EL_eq (K₇.all u7 V7).1.1.2 ht hx
 obtain⟨s',hO,hs,hst⟩:=hrun.plain hE
 obtain⟨rfl,h2,h3⟩:=awT_run hO
 rw[hs,hst,h2,h3] at K₇
 rw[Frame.finish_at]
 change SB Try.prog Shun' Qm (G ((base 11).at ⟨#[.bool false,.slice (some ⟨B+3,0,none⟩) 3 3,u2,u3,v4,v5,v6,v7,v8,v9,v10,u11,.slice (some ⟨B+3,0,none⟩) 3 3,.slice (some ⟨bc,0,none⟩) 1 1,.tuple #[.agg #[v0,v1,v2],.int .i64 0],u15,u16,u17,u18,u19,u20,u21,u22,u23,u24,u25,u26,u27,u28,u29,u30,u31,u32,u33,u34,u35,u36,u37,u38,u39,u40,u41,u42,u43,u44],[]⟩ (.inRegion ops11_2 [3,4,5,6,7,8]::[.code (c11 3)])) (c::cs)) w'
 refine K₇.lone (items:=[.inRegion ops11_2 [3,4,5,6,7,8],.code (c11 3)]) (k:=[]) lawOK ⟨_,Try.func11⟩ rfl p11_3 rfl (Q:=fun u e a' u'=>e= .ret∧a'.tmps.getD 0 undef= .bool true∧Below u.heap.size u u') (fun u e a' u' h=>.inr h.1) (fun u hu=>wp_aw_tail u B v0 v1 v2 hu.2 hu.1.1.2 _ _ _ _ _ _ _ _ _ _ _ _ _ _ _ _ _ _ _ _ _ _ _ _ _ _ _ _ _ _ _ _ _ _ _ _ _ _ _ _ _ _) (fun u a' u' w' _ h=>by cases h.1) fun u a' u' w8 todo hu ⟨_,h0,hb⟩ hd' gen=>?_
 have K₈:=gen F hF (hF _ _ (Ext.below hb) hu.1.1.1)
 refine SB.leave K₈ Try.func11 rfl hd' (Q:=fun u v u'=>v= .bool true∧u'=u) (fun u _=>⟨_,u,results_tmp rfl _ _ _,h0,rfl⟩) fun u v u' w9 hu' ⟨hv,hu2⟩ gen'=>?_
 subst hv
 subst hu2
 exact kk Shun' w9 (gen' F hF hu')
end
section
open Go Go.Conc Go.ConcN Go.Proofs Go.RowKit Go.Proofs.Ytbjlijagheifgaa
def Stood(W w':World):Prop:=Below W.heap.size W {w' with tape:=W.tape}
section
variable {P:Program} {Shun:Loc→Prop} {W w:World} {b:Frame} {a:Act}
theorem kn_start(W:World):Kn W.heap.size (fun _=>False) W (Ext W):=
 ⟨⟨fun _ h=>h.elim,fun _ _ h=>h.elim,fun _ h=>h.elim⟩,fun _ h=>h.elim,fun u V=>⟨Nat.le_of_eq V.size.symm,fun b o hb=>by
  rw[V.same b fun h=>by obtain⟨_,_,_,hs⟩:=hidS.1 h;exact hs]
  exact hb,V.os,V.out⟩⟩
theorem Kn.stood(K:Kn W.heap.size Shun w (Ext W))(d:Nat):Stood W (w.at d):=by
 obtain⟨u,V⟩:=View.ex K.sh
 have E:=K.all u V
 refine⟨V.os.symm.trans E.os,rfl,V.out.symm.trans E.out,Nat.le_trans E.size (Nat.le_of_eq V.size),fun k hk=>?_⟩
 have h1:=K.back V hk
 have h2:=Array.getElem?_eq_getElem hk
 exact h1.symm.trans ((E.all k _ h2).trans h2.symm)
theorem sb_ends{fn:Func}{todo:List Item}{tm:Tmp}(K:Kn W.heap.size Shun w (Ext W))(hfn:P.funcs[b.fn]?=some fn)(hn:b.kind= .normal)(hd:a.defers=[])(hr:fn.results= #[.tmp tm])(hi:P.inits.idxOf? b.fn=none)(h:a.tmps.getD tm undef= .bool true):
  SB P Shun (EndM P fun v w'=>v= .bool true∧Stood W w') (G {b.at a todo with mode:=.returning} []) w:=
 SB.ends hfn hn hd hr hi fun d=>⟨h,K.stood d⟩
def Law(P:Program)(f:FuncId)(args:Array Value)(W:World):Prop:=
 ∃M last o w' t',runNT P (M+1) (solo (G (Frame.enter P f args .normal) []) W) #[]=(.ended o w',t')∧runN P M (solo (G (Frame.enter P f args .normal) []) W)= .next last∧step P last= .ended o w'∧Conc.Good P (fun v w'=>v= .bool true∧Stood W w') last o w' t'
theorem sb_law{f:FuncId}{args:Array Value}(h:SB P (fun _=>False) (EndM P fun v w'=>v= .bool true∧Stood W w') (G (Frame.enter P f args .normal) []) W):Law P f args W:=by
 obtain⟨N,last,o,w',t',h1,h2,h3,h4⟩:=comes_ends (B:=0) (h.run (sl:=none) (rest_nil _ W) rfl)
 refine⟨N,last,o,w',t',h1,h2,h3,?_⟩
 obtain⟨v,rfl,h5,h6⟩:=h4
 exact⟨v,rfl,h5,h6⟩
end
end
section
open Go Go.Conc Go.ConcN Go.Proofs Go.RowKit Go.Proofs.Ytbjlijagheifgaa
def tkv(t:TkD):Value:=.slice t.a t.ops.length t.c
structure TkS(w:World)(t:TkD):Prop where
 ok:TkOk w t
 nil:∀x∈t.ops,x.el=[]
 blk:∃b c f,t.a=some ⟨b,0,none⟩∧w.heap[b]?=some (.cells c 29 f)
theorem TkS.upd{S:Nat→Prop}{w w':World}{t:TkD}(h:TkS w t)(U:Upd S w w')(hS:∀k c f,w.heap[k]?=some (.cells c 29 f)→¬S k):TkS w' t:=by
 obtain⟨b,c,f,ha,hb⟩:=h.blk
 have hlt:=(Array.getElem?_eq_some_iff.1 hb).1
 have hk:∀{i:Nat} {v:Value},w.cell? (adr t.a i)=some v→w'.cell? (adr t.a i)=some v:=fun{i v} hc=>by
  rw[ha,adr_mk] at hc⊢
  rw[U.cell (by exact hlt) (hS b c f hb)]
  exact hc
 refine⟨⟨fun j x hj=>?_,fun x hx=>?_,h.ok.len,h.ok.cap⟩,h.nil,b,c,f,ha,by rw[U.block b hlt (hS b c f hb)];exact hb⟩
 ·obtain⟨h1,h2,h3,h4,h5⟩:=h.ok.row j x hj
  exact⟨h1,hk h2,hk h3,hk h4,hk h5⟩
 ·have:=h.ok.ops x hx
  exact⟨fun j y hj=>(by rw[h.nil x hx] at hj;cases hj),this.len,this.cap⟩
structure CL(w:World)(B:Nat)(v:Value)(L:List TkD):Prop where
 own:w.ownsRow B 26 1 v L.length (L.map tkv)
 tks:∀t∈L,TkS w t
theorem own_type{w:World}{base:Nat}{e e':TypeId}{size:Nat}{v:Value}{n:Nat}{xs:List Value}{k:Nat}{c:Array Value}{f:Nat×Nat}(h:w.ownsRow base e size v n xs)(hk:w.heap[k]?=some (.cells c e' f))(hne:e≠e'):v.ownBlock≠some k:=by
 rcases h.2 with⟨rfl,_⟩|⟨g,cap,cur,rfl,_,hh,_⟩
 ·intro e;cases e
 ·intro e
  obtain rfl:g=k:=Option.some.inj e
  rw[hk] at hh
  simp only[Option.some.injEq,Obj.cells.injEq] at hh
  exact hne hh.2.1.symm
theorem CL.nil(w:World)(B:Nat):CL w B (.slice none 0 0) []:=⟨⟨rfl,.inl ⟨rfl,rfl⟩⟩,fun _ h=>by cases h⟩
theorem CL.upd{S:Nat→Prop}{w w':World}{B:Nat}{v:Value}{L:List TkD}(h:CL w B v L)(U:Upd S w w')(h1:∀g,v.ownBlock=some g→¬S g)(hS:∀k c f,w.heap[k]?=some (.cells c 29 f)→¬S k):CL w' B v L:=
 ⟨own_upd h.own U h1,fun t ht=>(h.tks t ht).upd U hS⟩
theorem CL.new{w w':World}{B:Nat}{v:Value}{L:List TkD}(h:CL w B v L)(q:Below w.heap.size w w'):CL w' B v L:=h.upd (Upd.of_below (S:=fun _=>False) q) (fun _ _=>id) (fun _ _ _ _=>id)
theorem TkS.new{w w':World}{t:TkD}(h:TkS w t)(q:Below w.heap.size w w'):TkS w' t:=h.upd (Upd.of_below (S:=fun _=>False) q) (fun _ _ _ _=>id)
theorem CL.push{w w':World}{B:Nat}{v v':Value}{L:List TkD}{t:TkD}(h:CL w B v L)(ht:TkS w t)(g1:w'.ownsRow B 26 1 v' (L.length+1) (L.map tkv++[tkv t]))(g2:w.grownBy w' v.ownBlock):CL w' B v' (L++[t]):=by
 have U:=Upd.of_grownV g2
 have hS:∀k c f,w.heap[k]?=some (.cells c 29 f)→¬v.ownBlock=some k:=fun k c f hk=>own_type h.own hk (by decide)
 refine⟨by rw[List.map_append,List.length_append];exact g1,fun x hx=>?_⟩
 rcases List.mem_append.1 hx with hx|hx
 ·exact(h.tks x hx).upd U hS
 ·simp only[List.mem_cons,List.not_mem_nil,or_false] at hx
  exact hx▸ht.upd U hS
theorem CL.el{w:World}{B:Nat}{v:Value}{L:List TkD}(h:CL w B v L):∀t∈L,∀x∈t.ops,x.el.length≤1000000:=fun t ht x hx=>by rw[(h.tks t ht).nil x hx];simp
end
section
open Go Go.Conc Go.ConcN Go.Proofs Go.RowKit Go.Proofs.Ytbjlijagheifgaa
theorem law_frame11: #[]++Array.replicate 45 undef= #[undef,undef,undef,undef,undef,undef,undef,undef,undef,undef,undef,undef,undef,undef,undef,undef,undef,undef,undef,undef,undef,undef,undef,undef,undef,undef,undef,undef,undef,undef,undef,undef,undef,undef,undef,undef,undef,undef,undef,undef,undef,undef,undef,undef,undef]:=by kernel_rfl
theorem law_ext{W:World}:ExtC (Ext W):=fun _ _ e h=>h.trans e
theorem law_start{W:World}{Qm:Machine→Trace→Prop}{fid q:Nat}{c0 s rest:Code}{ops:Array Oper}{a a1 a2:Act}{o:Oper}(hfn:∃fn,Try.prog.funcs[fid]?=some fn)(ho:ops[0]?=some o)(hsz:ops.size=2)(hog:o.guard=none)(hod:o.dst=some q)(hop:o.op= .call {callee:=.value (.func 11),args:= #[],argTypes:= #[]})(d0:a.defers=[])(d1:a1.defers=[])(p0:[Item.code c0].all (itemPlain false none Try.prog lawFns)=true)(p1:[Item.inRegion ops [1],Item.code s].all (itemPlain false none Try.prog lawFns)=true)(w0:∀u,c0.wp Try.prog (fun e a' u'=>e= .normal∧a'=a1∧u'=u) a u)(w1:∀u,ItemsWp Try.prog [.inRegion ops [1],.code s] (fun e a' u'=>e= .normal∧a'=a2∧u'=u) (a1.put (some q) (.bool true)) u)(kk:∀Shun' w',Kn W.heap.size Shun' w' (Ext W)→SB Try.prog Shun' Qm (G ((base fid).at a2 [.code rest]) []) w'):
  SB Try.prog (fun _=>False) Qm (G ((base fid).at a [.code (.seq c0 (.seq (.seq (.region 1 ops false) s) rest))]) []) W:=by
 have H:=gait_b Try.prog (fun _=>False) Qm
 have hk0:(base fid).kind≠ .early:=by simp[base]
 have hN:∀u,Ext W u→W.heap.size≤u.heap.size:=fun u e=>e.size
 have K:=kn_start W
 refine SB.into (H.seq (n:=0) (Kn.out K law_ext fun w₁ K₁=>?_))
 refine K₁.lone (items:=[.code c0]) (k:=[.code (.seq (.seq (.region 1 ops false) s) rest)]) lawOK hfn rfl p0 d0 (Q:=fun u e a' u'=>e= .normal∧a'=a1∧u'=u)
  (fun u e a' u' h=>.inl h.1) (fun u hu=>ItemsWp.code (w0 u)) (fun u a' u' w' hu ⟨_,ha,hw⟩ _ gen=>?_) (fun u a' u' w' todo _ h=>by cases h.1)
 subst ha
 subst hw
 have K₂:=gen _ law_ext hu
 clear gen hu K₁ w₁
 refine SB.into (H.seq (n:=2) ?_)
 refine H.seq (n:=1) ?_
 refine H.region (n:=0) (Kn.out K₂ law_ext fun w₃ K₃=>?_)
 rw[show List.range ops.size=[0,1] from by rw[hsz];rfl]
 refine SB.into (H.call (n:=0) (f:=11) (c:=b11) (args:= #[]) (ats:= #[]) ho (by simp[Region.wanted,hog]) hk0 hop Try.func11 (by decide) rfl (Kn.out K₃ law_ext fun w₅ K₆=>?_))
 rw[show Try.f11.ntmps=45 from Try.ntmps11]
 simp only[List.map_toArray,List.map_nil,List.size_toArray,List.length_nil,Nat.reduceSub,law_frame11]
 refine awake_sb K₆ law_ext hN _ _ _ _ _ _ _ _ _ _ _ _ _ _ _ _ _ _ _ _ _ _ _ _ _ _ _ _ _ _ _ _ _ _ _ _ _ _ _ _ _ _ _ _ _ (fun Shun' w' K₇=>?_)
 rw[Frame.finish_at,ho]
 show SB Try.prog Shun' Qm (G ((base fid).at (a'.put o.dst (.bool true)) ([.inRegion ops [1],.code s]++[.code rest])) []) w'
 rw[hod]
 refine K₇.lone (items:=[.inRegion ops [1],.code s]) (k:=[.code rest]) lawOK hfn rfl p1 (by rw[put_defers];exact d1) (Q:=fun u e a' u'=>e= .normal∧a'=a2∧u'=u)
  (fun u e a' u' h=>.inl h.1) (fun u hu=>w1 u) (fun u a' u' w8 hu ⟨_,ha,hw⟩ _ gen=>?_) (fun u a' u' w8 todo _ h=>by cases h.1)
 subst ha
 subst hw
 exact kk _ _ (gen _ law_ext hu)
noncomputable def opsR:Code→Array Oper
 | .region _ ops _=>ops
 |_=> #[]
def FinT(r:Nat)(u:World)(e:Exit)(a':Act)(u':World):Prop:=e= .ret∧a'.tmps.getD r undef= .bool true∧Below u.heap.size u u'
def FinN(r:Nat)(u:World):Exit→Act→World→Prop
 | .ret,a',u'=>a'.tmps.getD r undef= .bool true∧Below u.heap.size u u'
 |_,_,_=>False
theorem finN{P:Program}{r:Nat}{u:World}{items:List Item}{a:Act}(h:ItemsWp P items (FinN r u) a u):ItemsWp P items (FinT r u) a u:=fun b k cs=>by
 obtain⟨e,a',w',hq,hg⟩:=h b k cs
 refine⟨e,a',w',?_,hg⟩
 cases e<;>first|exact⟨rfl,hq.1,hq.2⟩|exact hq.elim
def GdQ(r:Nat)(u:World)(p:Prop)(fr:Act→Prop)(e:Exit)(a':Act)(u':World):Prop:=Below u.heap.size u u'∧((e= .ret∧a'.tmps.getD r undef= .bool true)∨(e= .normal∧p∧fr a'))
theorem law_tail{W w:World}{Shun:Loc→Prop}{fid r:Nat}{fn:Func}{items:List Item}{a:Act}{F:World→Prop}(K:Kn W.heap.size Shun w F)(hF:∀u,F u→Ext W u)(hfn:Try.prog.funcs[fid]?=some fn)(hr:fn.results= #[.tmp r])(hi:Try.prog.inits.idxOf? fid=none)(hd:a.defers=[])(hc:items.all (itemPlain false none Try.prog lawFns)=true)(LH:∀u,F u→ItemsWp Try.prog items (FinT r u) a u):
  SB Try.prog Shun (EndM Try.prog fun v w'=>v= .bool true∧Stood W w') (G ((base fid).at a items) []) w:=by
 have h:=K.lone (Qm:=EndM Try.prog fun v w'=>v= .bool true∧Stood W w') (b:=base fid) (a:=a) (items:=items) (k:=[]) (cs:=[]) lawOK ⟨_,hfn⟩ rfl hc hd (Q:=fun u=>FinT r u) (fun u e a' u' h=>.inr h.1) LH (fun u a' u' w' _ h=>by cases h.1) (fun u a' u' w8 todo hu ⟨_,h0,hb⟩ hd' gen=>sb_ends (gen _ law_ext ((hF u hu).trans (Ext.below hb))) hfn rfl hd' hr hi h0)
 rwa[List.append_nil] at h
end
section
open Go Go.Conc Go.ConcN Go.Proofs Go.RowKit Go.Proofs.Ytbjlijagheifgaa
theorem law_frame12(x y z:Value): #[x,y,z]++Array.replicate 76 undef= #[x,y,z,undef,undef,undef,undef,undef,undef,undef,undef,undef,undef,undef,undef,undef,undef,undef,undef,undef,undef,undef,undef,undef,undef,undef,undef,undef,undef,undef,undef,undef,undef,undef,undef,undef,undef,undef,undef,undef,undef,undef,undef,undef,undef,undef,undef,undef,undef,undef,undef,undef,undef,undef,undef,undef,undef,undef,undef,undef,undef,undef,undef,undef,undef,undef,undef,undef,undef,undef,undef,undef,undef,undef,undef,undef,undef,undef,undef]:=by kernel_rfl
theorem law_run{N:Nat}{Shun:Loc→Prop}{Qm:Machine→Trace→Prop}{w:World}{F:World→Prop}(K:Kn N Shun w F)(hF:ExtC F)(hN:∀u,F u→N≤u.heap.size){fid:Nat}{a:Act}{ops:Array Oper}{i:Nat}{rest:List Nat}{k:List Item}{o:Oper}{x y z:Operand}{ats:Array TypeId}{pt pc:Option Addr}{ct cc:Nat}{L:List TkD}{ch:Int}{chs:List Int}(ho:ops[i]?=some o)(hog:o.guard=none)(hop:o.op= .call {callee:=.value (.func 12),args:= #[x,y,z],argTypes:=ats})(ex:a.eval x= .slice pt L.length ct)(ey:a.eval y= .int .i64 ch)(ez:a.eval z= .slice pc chs.length cc)(hT:∀u,F u→SlT u pt L)(hC:∀u,F u→Sl (Value.int .i64) u pc chs)(hl:L.length≤maxLen)(hel:∀t∈L,∀x∈t.ops,x.el.length≤1000000)(kok:∀(s':PS) (S':List StepP) (Shun':Loc→Prop) (w':World) (v0 v1 v2:Value),validT ch L=true→Outc L chs s' S'→Kn N Shun' w' (fun u=>F u∧RunRes u v0 v1 v2 S' (sumsA L s') (stuckA L s'))→ SB Try.prog Shun' Qm (G ((base fid).at (a.put o.dst (.tuple #[.agg #[v0,v1,v2],.int .i64 0])) (.inRegion ops rest::k)) []) w')(kno:∀(w':World),validT ch L=false→Kn N Shun w' F→SB Try.prog Shun Qm (G ((base fid).at (a.put o.dst (.tuple #[.agg #[.slice none 0 0,.slice none 0 0,.slice none 0 0],.int .i64 1])) (.inRegion ops rest::k)) []) w'):
  SB Try.prog Shun Qm (G ((base fid).at a (.inRegion ops (i::rest)::k)) []) w:=by
 have H:=gait_b Try.prog Shun Qm
 have hk0:(base fid).kind≠ .early:=by simp[base]
 refine SB.into (H.call (n:=0) (f:=12) (c:=b12) (args:= #[x,y,z]) (ats:=ats) ho (by simp[Region.wanted,hog]) hk0 hop Try.func12 (by decide) rfl (Kn.out K hF fun w₆ K₆=>?_))
 rw[show Try.f12.ntmps=79 from Try.ntmps12]
 simp only[List.map_toArray,List.map_cons,List.map_nil,List.size_toArray,List.length_cons,List.length_nil,Nat.reduceAdd,Nat.reduceSub,ex,ey,ez,law_frame12]
 have fin:∀v:Value,((base fid).at a (.inRegion ops (i::rest)::k)).finish v=(base fid).at (a.put o.dst v) (.inRegion ops rest::k):=fun v=>by rw[Frame.finish_at,ho];rfl
 refine run_call K₆ hF hN (pt:=pt) (ct:=ct) (pc:=pc) (cc:=cc) (L:=L) (ch:=ch) (chs:=chs) hT hC hl hel _ _ _ _ _ _ _ _ _ _ _ _ _ _ _ _ _ _ _ _ _ _ _ _ _ _ _ _ _ _ _ _ _ _ _ _ _ _ _ _ _ _ _ _ _ _ _ _ _ _ _ _ _ _ _ _ _ _ _ _ _ _ _ _ _ _ _ _ _ _ _ _ _ _ _ _ (fun c' S' Shun₂ w' v0 v1 v2 hv hrun K₇=>?_) (fun w' hv K₇=>?_)
 ·obtain⟨ux,V7⟩:=View.ex K₇.sh
  have hE:∀t∈L,∀x∈t.ops,EL L (opv x)=x.el:=fun t ht x hx=>EL_eq (hT _ (K₇.all ux V7).1) ht hx
  obtain⟨s',hO,hs',hst⟩:=hrun.plain hE
  rw[hs',hst] at K₇
  rw[fin]
  exact kok s' S' _ _ v0 v1 v2 hv hO K₇
 ·rw[fin]
  exact kno _ hv K₇
end
section
open Go Go.Conc Go.ConcN Go.Proofs Go.RowKit Go.Proofs.Ytbjlijagheifgaa
def noFns:Fns:=⟨[],[],[]⟩
theorem noOK:FuncsOK true Try.prog noFns:=⟨settled,⟨fun f hf=>(by cases hf),fun f hf=>(by cases hf),fun p hp=>(by cases hp)⟩,fun f hf=>(by cases hf)⟩
theorem ShunAt.coversM{Shun:Loc→Prop}{w:World}(S:ShunAt Shun w):Covers true (HidB (TS Shun w.heap.size) w) (TS Shun w.heap.size) w:=by
 have c:=S.gi.covers fun _ h=>h.elim
 refine⟨c.cell,c.row,fun _ b hb _=>⟨hb,fun hs=>?_⟩,c.see,c.kn⟩
 obtain⟨a,e⟩:=S.cell _ hs
 cases e
section
variable {P:Program} {N:Nat} {Shun:Loc→Prop} {Qm:Machine→Trace→Prop} {b:Frame} {a:Act} {items k:List Item} {cs:List Frame} {w:World} {L:Fns} {F:World→Prop}
theorem SB.loneM{Q:Exit→Act→World→Prop}(F:FuncsOK true P L)(hb:∃fn,P.funcs[b.fn]?=some fn)(hk:b.kind= .normal)(hc:∀x∈items,itemPlain true none P L x=true)(hd:a.defers=[])(S:ShunAt Shun w)(hQ:∀e a u,Q e a u→e= .normal∨e= .ret)(LH:∀u,View Shun w u→ItemsWp P items Q a u)(kk:∀a' u' w',Q .normal a' u'→a'.defers=[]→ShunAt Shun w'→(∀u₂,View Shun w' u₂→Ext u' u₂)→SB P Shun Qm (G (b.at a' k) cs) w')(kr:∀a' u' w' todo,Q .ret a' u'→a'.defers=[]→ShunAt Shun w'→(∀u₂,View Shun w' u₂→Ext u' u₂)→SB P Shun Qm (G {b.at a' todo with mode:=.returning} cs) w'):
  SB P Shun Qm (G (b.at a (items++k)) cs) w:=by
 obtain⟨l₀,L₀⟩:=View.ex S
 refine⟨fun R h0=>GoesV.beside (lone_items (fid:=none) F hb hk hc (.none L a) hd S.coversM L₀ hQ LH) (fun T' g' w' hst hT {gs sl t} R' h0'=>?_) (fun l hl=>(TS_rd.1 hl).2) R h0⟩
 obtain⟨a',u,hl,hd',hcase,_,A,hro,hkn,hwr⟩:=hst
 have S':ShunAt Shun w':=⟨S.cell,S.whole,fun a ha=>by
  have hr:=S.row a ha
  have hlt:a.block<w.heap.size:=by obtain⟨c,e,h⟩:=hr;exact(Array.getElem?_eq_some_iff.1 h).1
  exact row_kin hr fun o ho=>A.kin _ o ⟨hlt,a,rfl,fun h=>h.2 ha⟩ ho⟩
 rcases hcase with⟨hq',rfl⟩|⟨hq',todo,rfl⟩
 ·exact(kk a' u w' hq' hd' S' fun u₂ V=>View.move S hl V).run R' h0'
 ·exact(kr a' u w' todo hq' hd' S' fun u₂ V=>View.move S hl V).run R' h0'
theorem Kn.loneM(K:Kn N Shun w F)(OK:FuncsOK true P L)(hb:∃fn,P.funcs[b.fn]?=some fn)(hk:b.kind= .normal)(hc:items.all (itemPlain true none P L)=true)(hd:a.defers=[]){Q:World→Exit→Act→World→Prop}(hQ:∀u e a' u',Q u e a' u'→e= .normal∨e= .ret)(LH:∀u,F u→ItemsWp P items (Q u) a u)(kk:∀u a' u' w',F u→Q u .normal a' u'→a'.defers=[]→(∀F',ExtC F'→F' u'→Kn N Shun w' F')→SB P Shun Qm (G (b.at a' k) cs) w')(kr:∀u a' u' w' todo,F u→Q u .ret a' u'→a'.defers=[]→(∀F',ExtC F'→F' u'→Kn N Shun w' F')→SB P Shun Qm (G {b.at a' todo with mode:=.returning} cs) w'):
  SB P Shun Qm (G (b.at a (items++k)) cs) w:=by
 refine SB.loneM (Q:=fun e a' u'=>∃u,F u∧Q u e a' u') OK hb hk (by simpa using hc) hd K.sh (fun e a' u' ⟨u,_,h⟩=>hQ u e a' u' h) (fun u V=>?_) (fun a' u' w' ⟨u,hu,h⟩ hd' S' hE=>kk u a' u' w' hu h hd' fun F' hF' hu'=>⟨S',K.new,fun u₂ V=>hF' _ _ (hE u₂ V) hu'⟩)
  (fun a' u' w' todo ⟨u,hu,h⟩ hd' S' hE=>kr u a' u' w' todo hu h hd' fun F' hF' hu'=>⟨S',K.new,fun u₂ V=>hF' _ _ (hE u₂ V) hu'⟩)
 exact fun b k cs=>let⟨e,a',w',hq,h⟩:=LH u (K.all u V) b k cs;⟨e,a',w',⟨u,K.all u V,hq⟩,h⟩
end
end
end Go.Side
