/-
  Texts of Ytbjlijagheifgaa, merged.
-/
import Derived.Test.YtbjlijagheifgaaC42
import Derived.Test.YtbjlijagheifgaaC24
import Derived.Test.YtbjlijagheifgaaRows
import Derived.ProofKit
import Derived.OpenShut
import Derived.ShutString
import Derived.ChangeOld
import Derived.Deep.Slices
import Derived.Test.YtbjlijagheifgaaC38
set_option linter.unusedSimpArgs false
set_option linter.unusedVariables false
namespace Go.Side
section
open Go Go.Conc Go.ConcN Go.Proofs Go.RowKit Go.Proofs.Ytbjlijagheifgaa
section
variable {a b ea:Option Addr} {c d ec fi:Nat} {L:List TkD} {ch:Int} {chs more:List Int}
set_option maxRecDepth 100000 in
set_option maxHeartbeats 8000000 in
theorem wp10_11(u:World)(f:Nat→Value)(p m lc k:Nat)(l1:Option Addr)(P S:List StepP)(s t:List Int)(v0 v1 v2 w0 w1 w2:Value)(hp:Blk u p 32 [v0,v1,v2])(hv:RunRes u v0 v1 v2 S s t)(hw:RunRes u w0 w1 w2 S s t)(hP:SlSt u l1 P)(x:StepP)(hx:P[k]?=some x)(hS:S[0]?=some x)(h0:S.length≤1000)(h1:s.length≤1000)(h2:t.length≤1000):
  ItemsWp Try.prog [.inRegion opsE [11,12,13,14,15,16],.code (d10 11)] (FinN 10 u) ⟨#[.slice a L.length c,.int .i64 ch,.slice b chs.length d,.slice ea more.length ec,.int .u8 (fi:Int),f 5,f 6,f 7,f 8,f 9,.bool false,f 11,f 12,f 13,f 14,f 15,f 16,f 17,f 18,f 19,.slice l1 P.length lc,.int .i64 (k:Int),.pointer (some ⟨p,0,none⟩),.int .i64 0,f 24,f 25,f 26,f 27,f 28,f 29,f 30,f 31,f 32,f 33,f 34,f 35,f 36,f 37,f 38,f 39,f 40,f 41,f 42,f 43,f 44,f 45,f 46,f 47,f 48,f 49,f 50,f 51,f 52,f 53,f 54,f 55,f 56,f 57,f 58,f 59,f 60,f 61,f 62,f 63,f 64,f 65,f 66,f 67,f 68,f 69,f 70,f 71,f 72,f 73,f 74,f 75,f 76,f 77,f 78,f 79,f 80,f 81,f 82,f 83,f 84,f 85,f 86,f 87,f 88,f 89,f 90,f 91,f 92,f 93,f 94,f 95,f 96,f 97,f 98,f 99,f 100,f 101,f 102,f 103,f 104,f 105,f 106,f 107,f 108,f 109,f 110,f 111,f 112,f 113,f 114,f 115,f 116,f 117,f 118,f 119,f 120,f 121,f 122,f 123,f 124,f 125,f 126,f 127,f 128,f 129,f 130,f 131,f 132,f 133,f 134,f 135,f 136,f 137,f 138,f 139,f 140,f 141,f 142,f 143,.tuple #[.agg #[w0,w1,w2],.int .i64 0],f 145,f 146,f 147,f 148,f 149,f 150,f 151,f 152,f 153,f 154,f 155,f 156,f 157,f 158,f 159,f 160,f 161,f 162,f 163,f 164,f 165,f 166,f 167,f 168,f 169,f 170,f 171,f 172,f 173,f 174],[]⟩ u:=by
 obtain⟨⟨a0,k0,rfl,r0⟩,⟨a1,k1,rfl,r1⟩,⟨a2,k2,rfl,r2⟩⟩:=hv
 obtain⟨⟨b0,m0,rfl,s0'⟩,⟨b1,m1,rfl,s1⟩,⟨b2,m2,rfl,s2⟩⟩:=hw
 have hk:k<P.length:=(List.getElem?_eq_some_iff.1 hx).1
 have hs0:0<S.length:=(List.getElem?_eq_some_iff.1 hS).1
 have EQ:Hid (∀w,Below u.heap.size u w→Calls Try.prog 17 #[.agg #[.slice b0 S.length m0,.slice b1 s.length m1,.slice b2 t.length m2],.agg #[.slice a0 S.length k0,.slice a1 s.length k1,.slice a2 t.length k2]] w (EqlPost w (S=S∧s=s∧t=t))):=Lib.hid fun w q=>
  equal_any w (.slice b0 S.length m0) (.slice b1 s.length m1) (.slice b2 t.length m2) (.slice a0 S.length k0) (.slice a1 s.length k1) (.slice a2 t.length k2) S S s s t t ⟨b0,m0,rfl,s0'.reads (Reads.below q)⟩ ⟨b1,m1,rfl,s1.reads (Reads.below q)⟩ ⟨b2,m2,rfl,s2.reads (Reads.below q)⟩ ⟨a0,k0,rfl,r0.reads (Reads.below q)⟩ ⟨a1,k1,rfl,r1.reads (Reads.below q)⟩ ⟨a2,k2,rfl,r2.reads (Reads.below q)⟩ (by unfold maxLen;omega) (by unfold maxLen;omega) (by unfold maxLen;omega)
 have HP:=Lib.hid hp
 have R0:=Lib.hid r0
 have PS:=Lib.hid hP
 obtain⟨x1,ex1,ok1, -⟩:=R0.out.get (k:=0) hs0
 obtain⟨x2,ex2,ok2, -⟩:=PS.out.get (k:=k) hk
 obtain rfl:x=x1:=Option.some.inj (hS.symm.trans ex1.out)
 obtain rfl:x=x2:=Option.some.inj (hx.symm.trans ex2.out)
 have EX1:=Lib.hid hS
 have EX2:=Lib.hid hx
 have FY:Hid (∀wx,Reads u wx→(wx.cell? (adr a0 (0*4))=some (.int .i64 x.fr)∧wx.cell? (adr a0 (0*4+1))=some (.int .i64 x.tg)∧wx.cell? (adr a0 (0*4+2))=some (.int .i64 x.ch)∧wx.cell? (adr a0 (0*4+3))=some (.int .i64 x.vl))∧wx.cell? (adr l1 (k*4))=some (.int .i64 x.fr)∧wx.cell? (adr l1 (k*4+1))=some (.int .i64 x.tg)∧wx.cell? (adr l1 (k*4+2))=some (.int .i64 x.ch)∧wx.cell? (adr l1 (k*4+3))=some (.int .i64 x.vl)):=Lib.hid fun wx q=>by
  have g1:=(R0.out.reads q) 0 x EX1.out
  have g2:=(PS.out.reads q) k x EX2.out
  exact⟨⟨g1.2 0 _ rfl,g1.2 1 _ rfl,g1.2 2 _ rfl,g1.2 3 _ rfl⟩,g2.2 0 _ rfl,g2.2 1 _ rfl,g2.2 2 _ rfl,g2.2 3 _ rfl⟩
 have hfx:(Try.prog.fieldsOf 50).toList.length=4:=by kernel_rfl
 have hS0:(0:Int)<(S.length:Int):=by omega
 clear r0 r1 r2 s0' s1 s2 hp hP h0 h1 h2 R0 PS ex1 ex2 EX1 EX2 hx hS
 generalize S.length=n0 at*
 generalize s.length=n1 at*
 generalize t.length=n2 at*
 generalize P.length=n3 at*
 refine ItemsWp.then (k:=11) (l:=opsE.toList.drop 11) rfl rfl fun K hK=>?_
 conv in(occs:= *) opsE=>
  all_goals
   unfold opsE opsR d10 d10 d10 d10 d10 d10 d10 d10 d10 d10 d10 b10
   whnf
 unfold d10 d10 d10 d10 d10 d10 d10 d10 d10 d10 d10 d10 b10 at hK
 conv at hK in Option.getD _ _=>whnf
 dsimp only[sndOf,fstOf] at hK
 simp only[List.drop_succ_cons,List.drop_zero]
 go_upto_region 20 with(fail)
 obtain⟨W0,hW⟩:∃W0,W0=u.alloc (.cells #[.slice b0 n0 m0,.slice b1 n1 m1,.slice b2 n2 m2] 32):=⟨_,rfl⟩
 rw[←hW]
 have NX:Hid (Blk W0 u.heap.size 32 [.slice b0 n0 m0,.slice b1 n1 m1,.slice b2 n2 m2]):=Lib.hid (by rw[hW];exact Blk.new u _ _)
 have B0:Hid (Below u.heap.size u W0):=Lib.hid (by rw[hW];exact(Below.refl _ _).alloc (Nat.le_refl _) _)
 have H0:=Lib.hid (HP.out.upd (S:=fun _=>False) (Upd.of_below B0.out) id)
 clear hW HP
 obtain⟨bq,hbq⟩:∃bq,u.heap.size=bq:=⟨_,rfl⟩
 rw[hbq] at NX
 rw[hbq]
 have FX:Hid (∀wx,Below W0.heap.size W0 wx→((wx.cell? ⟨p,0,none⟩=some (.slice a0 n0 k0)∧wx.cell? ⟨p,1,none⟩=some (.slice a1 n1 k1)∧wx.cell? ⟨p,2,none⟩=some (.slice a2 n2 k2))∧(wx.cell? ⟨bq,0,none⟩=some (.slice b0 n0 m0)∧wx.cell? ⟨bq,1,none⟩=some (.slice b1 n1 m1)∧wx.cell? ⟨bq,2,none⟩=some (.slice b2 n2 m2)))∧(wx.cell? (adr a0 (0*4))=some (.int .i64 x.fr)∧wx.cell? (adr a0 (0*4+1))=some (.int .i64 x.tg)∧wx.cell? (adr a0 (0*4+2))=some (.int .i64 x.ch)∧wx.cell? (adr a0 (0*4+3))=some (.int .i64 x.vl))∧wx.cell? (adr l1 (k*4))=some (.int .i64 x.fr)∧wx.cell? (adr l1 (k*4+1))=some (.int .i64 x.tg)∧wx.cell? (adr l1 (k*4+2))=some (.int .i64 x.ch)∧wx.cell? (adr l1 (k*4+3))=some (.int .i64 x.vl)):=Lib.hid fun wx q=>by
  have n1:=H0.out.upd (S:=fun _=>False) (Upd.of_below q) id
  have n2:=NX.out.upd (S:=fun _=>False) (Upd.of_below q) id
  exact⟨⟨⟨n1.cell (i:=0) rfl,n1.cell (i:=1) rfl,n1.cell (i:=2) rfl⟩,n2.cell (i:=0) rfl,n2.cell (i:=1) rfl,n2.cell (i:=2) rfl⟩,FY.out wx fun p v h=>(Reads.below q) p v ((Reads.below B0.out) p v h)⟩
 have FIN:Hid (∀wx,Below W0.heap.size W0 wx→Below u.heap.size u wx):=Lib.hid fun wx q=>B0.out.trans (q.mono B0.out.size)
 have C0:Hid (Below W0.heap.size W0 W0.drew):=Lib.hid ((Qt.refl W0).drew.below _)
 have E0:=Lib.hid (EQ.out W0.drew (FIN.out _ C0.out))
 obtain⟨⟨⟨y0,y1,y2⟩,z0,z1,z2⟩,⟨x0,x1,x2,x3⟩,q0,q1,q2,q3⟩:=FX.out _ C0.out
 refine wp_region_allH (fun wx=>((wx.cell? ⟨p,0,none⟩=some (.slice a0 n0 k0)∧wx.cell? ⟨p,1,none⟩=some (.slice a1 n1 k1)∧wx.cell? ⟨p,2,none⟩=some (.slice a2 n2 k2))∧(wx.cell? ⟨bq,0,none⟩=some (.slice b0 n0 m0)∧wx.cell? ⟨bq,1,none⟩=some (.slice b1 n1 m1)∧wx.cell? ⟨bq,2,none⟩=some (.slice b2 n2 m2)))∧(wx.cell? (adr a0 (0*4))=some (.int .i64 x.fr)∧wx.cell? (adr a0 (0*4+1))=some (.int .i64 x.tg)∧wx.cell? (adr a0 (0*4+2))=some (.int .i64 x.ch)∧wx.cell? (adr a0 (0*4+3))=some (.int .i64 x.vl))∧wx.cell? (adr l1 (k*4))=some (.int .i64 x.fr)∧wx.cell? (adr l1 (k*4+1))=some (.int .i64 x.tg)∧wx.cell? (adr l1 (k*4+2))=some (.int .i64 x.ch)∧wx.cell? (adr l1 (k*4+3))=some (.int .i64 x.vl)) 29 (by kernel_rfl) rfl ?_ (fun hHeld=>?_)
 ·(exact⟨⟨⟨y0,y1,y2⟩,z0,z1,z2⟩,⟨x0,x1,x2,x3⟩,q0,q1,q2,q3⟩)
 iterate 26
  refine wpAnyH_takeN [0,1,2,3,4,5,6,7,8,9,10,11,12,13,14,15,16,17,18,19,20,21,22,23,24,25] (v:=?_) rfl rfl (by kernel_rfl) (by kernel_rfl) (by kernel_rfl) (fun _ _ _ h=>h) rfl ?_ hHeld ?_
  rotate_left
  ·intro w hSw
   try dsimp only at hSw
   go_simp
   all_goals with_reducible rfl
  try simp only[Act.put,List.setIfInBounds_toArray,List.set_cons_zero,List.set_cons_succ]
 refine wpAnyH_step (i:=26) (by kernel_rfl) rfl (fun KK hK=>?_)
 (go_simp;(with_reducible refine E0.out.mono ?_);rintro e w9 ⟨bb,rfl,hbb,hq⟩;obtain rfl:bb=true:=hbb.2 (by simp);have C1:=Lib.hid (C0.out.trans (hq.mono C0.out.size));clear hbb hq;go_wp2_with fail)
 refine hK.out _ _ ?_ (fun hHeld=>?_)
 ·(exact FX.out _ C1.out)
 clear hK KK
 try simp only[Act.put,List.setIfInBounds_toArray,List.set_cons_zero,List.set_cons_succ]
 iterate 2
  refine wpAnyH_takeN [27,28] (v:=?_) rfl rfl (by kernel_rfl) (by kernel_rfl) (by kernel_rfl) (fun _ _ _ h=>h) rfl ?_ hHeld ?_
  rotate_left
  ·intro w hSw
   try dsimp only at hSw
   go_simp
   all_goals with_reducible rfl
  try simp only[Act.put,List.setIfInBounds_toArray,List.set_cons_zero,List.set_cons_succ]
 refine wpAnyH_done (by kernel_rfl) ?_ _
 repeat clear hHeld
 go_wp2_with fail
 exact⟨rfl,FIN.out _ C1.out⟩
end
end
end Go.Side
namespace Go.Proofs.Ytbjlijagheifgaa
section
open Go.RowKit Go.ChangeShapes Go.WideShapes Go.ChangeAt
open Go.ChangeMaps (open_string shut_string)
theorem Try.own:ownKnob Try.prog.godebug=none:=by kernel_rfl
theorem Try.laidOut:laidOutB Try.prog=true:=by kernel_rfl
section
variable {H:Type} {enc:TypeId×Value→H} {P:Program} {w:World} {held:Bool}
theorem sl_open{α:Type}[Inhabited α]{t e:TypeId}{fuel:Nat}{v:Value}{x:DataW H×List MemPlace}(f:α→Value)(Q:α→Prop)(ht:P.underlying t=some (.slice e))(hc:P.cellsOf e=1)(hf:∀n V r,DataW.trod enc P w 0 (fun _=>true) held n e [V]=some r→∃y,V=f y∧Q y)(h:DataW.trod enc P w 0 (fun _=>true) held fuel t [v]=some x):
  ∃a c xs,v= .slice a xs.length c∧Sl f w a xs∧(∀y∈xs,Q y)∧xs.length≤maxLen:=by
 rcases Deep.open_slice1 ht hc h with⟨h1,_⟩|⟨a,len,cap,m,n,V,D,Pl,h1,hb,hl,hm,hmm,_,hx⟩
 ·refine⟨none,0,[],by simpa using h1,?_,by simp,by simp⟩
  intro j x hj
  simp at hj
 ·simp only[if_true] at hmm
  subst hmm
  obtain⟨B,hB⟩:=Deep.choose_lt (α:=α) (n:=m) (p:=fun i y=>V i=f y∧Q y) (fun i hi=>hf _ _ _ (hx i hi).2)
  refine⟨some a,m,(List.range len).map B,by simpa using h1,?_,?_,by simp;omega⟩
  ·intro j y hj
   simp only[List.getElem?_map] at hj
   obtain⟨i,hi,rfl⟩:=Option.map_eq_some_iff.1 hj
   have hlt:j<len:=by
    rcases Nat.lt_or_ge j len with h|h
    ·exact h
    ·rw[List.getElem?_eq_none (by simpa using h)] at hi;simp at hi
   rw[List.getElem?_range hlt] at hi
   obtain rfl:=Option.some.inj hi
   have hcell:=(hx j (by omega)).1
   have hsp:a.spot.isNone=true:=by
    have h0:=(hx 0 (by omega)).1
    have:a.spot=none:=by simpa[Addr.add] using World.cell?_spot h0
    simp[this]
   refine⟨hsp,?_⟩
   rw[←(hB j (by omega)).1,←hcell,add_eq a j hsp]
   rfl
  ·intro y hy
   obtain⟨i,hi,rfl⟩:=List.mem_map.1 hy
   exact(hB i (by have:=List.mem_range.1 hi;omega)).2
def IntOk(k:IntKind)(n:Int):Prop:=(Lit.int k n).wf=true
theorem ints_open{t e:TypeId}{k:IntKind}{v:Value}{d:DataW H}{ps:List MemPlace}(ht:P.underlying t=some (.slice e))(he:P.underlying e=some (.int k))(hc:P.cellsOf e=1)(h:DataW.Trod enc P w 0 (fun _=>true) held t v d ps)(hv:∃a n c,v= .slice a n c):
  ∃a c xs,v= .slice a xs.length c∧Sl (Value.int k) w a xs∧(∀y∈xs,IntOk k y)∧xs.length≤maxLen:=by
 obtain⟨fuel,hf⟩:=h
 obtain⟨a,n,c,rfl⟩:=hv
 refine sl_open (Value.int k) (IntOk k) ht hc (fun n V r hr=>?_) hf
 obtain⟨i,h1,_,h3⟩:=DataW.trod_int he hr
 exact⟨i,by simpa using h1,h3⟩
structure RowOf(α:Type) where
 a:Option Addr
 c:Nat
 xs:List α
instance {α:Type}:Inhabited (RowOf α):=⟨⟨none,0,[]⟩⟩
def RowOf.val{α:Type}(r:RowOf α):Value:=.slice r.a r.xs.length r.c
end
end
section
open Go.RowKit Go.Side Go.ChangeShapes Go.WideShapes Go.ChangeAt
section
variable {H:Type} {enc:TypeId×Value→H} {P:Program} {w:World} {held:Bool}
theorem trod_struct4{t:TypeId}{f0 f1 f2 f3:Field}{fuel:Nat}{cs:List Value}{x:DataW H×List MemPlace}(ht:P.underlying t=some (.struct #[f0,f1,f2,f3]))(h:DataW.trod enc P w 0 (fun _=>true) held fuel t cs=some x):
  ∃y0 y1 y2 y3 n,cs.length=P.cellsOf t∧DataW.trod enc P w 0 (fun _=>true) held n f0.type ((cs.drop f0.offset).take (P.cellsOf f0.type))=some y0∧
   DataW.trod enc P w 0 (fun _=>true) held n f1.type ((cs.drop f1.offset).take (P.cellsOf f1.type))=some y1∧DataW.trod enc P w 0 (fun _=>true) held n f2.type ((cs.drop f2.offset).take (P.cellsOf f2.type))=some y2∧
   DataW.trod enc P w 0 (fun _=>true) held n f3.type ((cs.drop f3.offset).take (P.cellsOf f3.type))=some y3:=by
 obtain⟨xs,n,_,rfl,hl,hlen,hf⟩:=DataW.trod_struct ht h
 match xs,hlen with
 |[y0,y1,y2,y3],_=>exact⟨y0,y1,y2,y3,n,hl,by simpa using hf 0 f0 rfl,by simpa using hf 1 f1 rfl,by simpa using hf 2 f2 rfl,by simpa using hf 3 f3 rfl⟩
end
section
variable {H:Type} {enc:TypeId×Value→H} {w:World} {held:Bool}
set_option maxRecDepth 100000 in
theorem either_open{n:Nat}{u:Value}{y:DataW H×List MemPlace}(h:DataW.trod enc Try.prog w 0 (fun _=>true) held n 23 [u]=some y):
  ∃a c l,u= .slice a l.length c∧Sl (Value.int .i64) w a l∧l.length≤c∧c≤maxLen:=by
 obtain⟨a,c,l,rfl,s1,_,l1⟩:=sl_open (Value.int .i64) (fun _=>True) Try.underlying23 (by kernel_rfl) (fun n V r hr=>by
  obtain⟨i,h1,_,_⟩:=DataW.trod_int Try.underlying3 hr
  exact⟨i,by simpa using h1,trivial⟩) h
 refine⟨a,c,l,rfl,s1,?_⟩
 rcases Deep.open_slice Try.underlying23 h with⟨e1,_⟩|⟨a',len,cap,m,n,D,Pl,e1,hb,hl,hm,hmm,_,hx⟩
 ·simp only[List.cons.injEq,Value.slice.injEq,and_true] at e1
  obtain⟨_,h2,h3⟩:=e1
  rw[h2,h3];exact⟨Nat.le_refl _,Nat.zero_le _⟩
 ·simp only[List.cons.injEq,Value.slice.injEq,and_true] at e1
  obtain⟨_,h2,h3⟩:=e1
  rw[h2,h3];exact⟨hl,hm⟩
set_option maxRecDepth 100000 in
theorem task_open{n:Nat}{u:Value}{y:DataW H×List MemPlace}(h:DataW.trod enc Try.prog w 0 (fun _=>true) held n 26 [u]=some y):
  ∃t:TkD,u=tkv t∧TkOk w t:=by
 have hs:=Try.underlying29
 have hc:Try.prog.cellsOf 29=4:=by kernel_rfl
 have q1:Try.prog.cellsOf 3=1:=by kernel_rfl
 have q2:Try.prog.cellsOf 23=1:=by kernel_rfl
 rcases Deep.open_slice Try.underlying26 h with⟨e1,_⟩|⟨a,len,cap,m,n,D,Pl,e1,hb,hl,hm,hmm,_,hx⟩
 ·replace e1:=(List.cons.inj e1).1
  exact⟨⟨none,0,[]⟩,e1,fun j x hj=>by simp at hj,by simp,by simp[maxLen],by simp[maxLen]⟩
 ·replace e1:=(List.cons.inj e1).1
  simp only[if_true] at hmm
  subst hmm
  rw[hc] at hx
  obtain⟨B,hB⟩:=Deep.choose_lt (α:=OpD) (n:=m) (p:=fun i y=>w.cell? (a.add (i*4))=some (.int .i64 y.kind)∧w.cell? ((a.add (i*4)).add 1)=some (.int .i64 y.chan)∧w.cell? ((a.add (i*4)).add 2)=some (.int .i64 y.val)∧w.cell? ((a.add (i*4)).add 3)=some y.ev∧OpOk w y) (fun i hi=>by
   obtain⟨cs',g1,g2⟩:=hx i hi
   obtain⟨_,hlen,hcell⟩:=World.cells?_some g1
   obtain⟨y0,y1,y2,y3,n',_,k0,k1,k2,k3⟩:=trod_struct4 hs g2
   match cs',hlen with
   |[u0,u1,u2,u3],_=>
    have k0':DataW.trod enc Try.prog w 0 (fun _=>true) held n' 3 [u0]=some y0:=by
     have:=k0;rw[q1] at this;exact this
    have k1':DataW.trod enc Try.prog w 0 (fun _=>true) held n' 3 [u1]=some y1:=by
     have:=k1;rw[q1] at this;exact this
    have k2':DataW.trod enc Try.prog w 0 (fun _=>true) held n' 3 [u2]=some y2:=by
     have:=k2;rw[q1] at this;exact this
    have k3':DataW.trod enc Try.prog w 0 (fun _=>true) held n' 23 [u3]=some y3:=by
     have:=k3;rw[q2] at this;exact this
    obtain⟨m0,r0,_,j0⟩:=DataW.trod_int Try.underlying3 k0'
    obtain⟨m1,r1,_,j1⟩:=DataW.trod_int Try.underlying3 k1'
    obtain⟨m2,r2,_,j2⟩:=DataW.trod_int Try.underlying3 k2'
    obtain⟨ea,ec,el,rfl,s1,s2,s3⟩:=either_open k3'
    simp at r0 r1 r2
    subst r0 r1 r2
    have z0:=hcell 0 (by omega)
    have z1:=hcell 1 (by omega)
    have z2:=hcell 2 (by omega)
    have z3:=hcell 3 (by omega)
    exact⟨⟨m0,m1,m2,ea,ec,el⟩,by simpa[Addr.add] using z0,by simpa using z1,by simpa using z2,by simpa[OpD.ev] using z3,s1,by show el.length≤maxLen;omega,s2,s3⟩)
  refine⟨⟨some a,m,(List.range len).map B⟩,by rw[e1];simp[tkv],?_,?_,by simp;omega,by simp;omega⟩
  ·intro j y hj
   simp only[List.getElem?_map] at hj
   obtain⟨i,hi,rfl⟩:=Option.map_eq_some_iff.1 hj
   have hlt:j<len:=by
    rcases Nat.lt_or_ge j len with h|h
    ·exact h
    ·rw[List.getElem?_eq_none (by simpa using h)] at hi;simp at hi
   rw[List.getElem?_range hlt] at hi
   obtain rfl:=Option.some.inj hi
   have hsp:a.spot.isNone=true:=by
    have h0:=(hB 0 (by omega)).1
    have:a.spot=none:=by simpa[Addr.add] using World.cell?_spot h0
    simp[this]
   obtain⟨b0,b1,b2,b3,_⟩:=hB j (by omega)
   have ea:∀j,a.add j=adr (some a) j:=fun j=>add_eq a j hsp
   rw[ea] at b0
   rw[ea,adr_add] at b1 b2 b3
   exact⟨hsp,b0,b1,b2,b3⟩
  ·intro y hy
   obtain⟨i,hi,rfl⟩:=List.mem_map.1 hy
   exact(hB i (by have:=List.mem_range.1 hi;omega)).2.2.2.2
set_option maxRecDepth 100000 in
theorem tk_open{v:Value}{d:DataW H}{ps:List MemPlace}(h:DataW.Trod enc Try.prog w 0 (fun _=>true) held 25 v d ps)(hv0:Value.okWide Try.prog w .any 0 25 v):
  ∃a c xs,v= .slice a xs.length c∧SlT w a xs∧(∀t∈xs,True)∧xs.length≤maxLen:=by
 obtain⟨fuel,hf⟩:=h
 obtain⟨a0,n0,c0,rfl⟩:=okWide_slice Try.underlying25 hv0
 obtain⟨a,c,xs,h1,h2,h3,h4⟩:=sl_open tkv (TkOk w) Try.underlying25 (by kernel_rfl) (fun n V r hr=>task_open hr) hf
 exact⟨a,c,xs,h1,fun j t hj=>⟨(h2 j t hj).1,(h2 j t hj).2,h3 t (List.mem_of_getElem? hj)⟩,fun _ _=>trivial,h4⟩
end
end
section
open Go.RowKit Go.ChangeShapes Go.WideShapes Go.ChangeAt
section
variable {H:Type} {enc:TypeId×Value→H} {P:Program} {w:World} {held:Bool}
theorem sl_cap{t e:TypeId}{fuel:Nat}{a:Option Addr}{n c:Nat}{x:DataW H×List MemPlace}(ht:P.underlying t=some (.slice e))(hc:P.cellsOf e=1)(h:DataW.trod enc P w 0 (fun _=>true) held fuel t [.slice a n c]=some x):n≤c∧c≤maxLen:=by
 rcases Deep.open_slice1 ht hc h with⟨h1,_⟩|⟨a',len,cap,m,n',V,D,Pl,h1,hb,hl,hm,_⟩
 ·simp at h1
  omega
 ·simp at h1
  omega
theorem ints_openC{t e:TypeId}{k:IntKind}{v:Value}{d:DataW H}{ps:List MemPlace}(ht:P.underlying t=some (.slice e))(he:P.underlying e=some (.int k))(hc:P.cellsOf e=1)(h:DataW.Trod enc P w 0 (fun _=>true) held t v d ps)(hv:∃a n c,v= .slice a n c):
  ∃a c xs,v= .slice a xs.length c∧Sl (Value.int k) w a xs∧(∀y∈xs,IntOk k y)∧xs.length≤c∧c≤maxLen:=by
 obtain⟨a,c,xs,rfl,h1,h2,h3⟩:=ints_open ht he hc h hv
 obtain⟨fuel,hf⟩:=h
 have:DataW.trod enc P w 0 (fun _=>true) held fuel t [.slice a xs.length c]=some (d,ps):=by simpa[Value.cells] using hf
 exact⟨a,c,xs,rfl,h1,h2,sl_cap ht hc this⟩
end
end
end Go.Proofs.Ytbjlijagheifgaa
