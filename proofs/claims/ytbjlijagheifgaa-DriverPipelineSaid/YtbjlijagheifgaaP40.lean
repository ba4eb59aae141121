/-
  Texts of Ytbjlijagheifgaa, merged.
-/
import Derived.Test.YtbjlijagheifgaaP39
set_option linter.unusedSimpArgs false
set_option linter.unusedVariables false
namespace Go.Side
section
open Go Go.Conc Go.ConcN Go.Proofs Go.RowKit Go.Proofs.Ytbjlijagheifgaa
noncomputable def b3:Code:=Try.f3.body.getD .skip
noncomputable def ops3:Array Oper:=opsR (fstOf (fstOf (sndOf b3)))
noncomputable def d3:Nat→Code
 |0=>sndOf (sndOf b3)
 |k+1=>sndOf (d3 k)
theorem b3_eq:b3= .seq (fstOf b3) (.seq (.seq (.region 1 ops3 false) (sndOf (fstOf (sndOf b3)))) (d3 0)):=by rfl
theorem d3_seq(k:Nat)(h:k<6):d3 k= .seq (fstOf (d3 k)) (d3 (k+1)):=by
 have:k=0∨k=1∨k=2∨k=3∨k=4∨k=5:=by omega
 rcases this with rfl|rfl|rfl|rfl|rfl|rfl<;>rfl
theorem info29p:(Try.prog.info? 29).map (fun i=>(i.zero,i.size,i.bytes))=some (some (.agg #[.int .i64 0,.int .i64 0,.int .i64 0,.slice none 0 0]),4,48):=by kernel_rfl
theorem info26':(Try.prog.info? 26).map (fun i=>(i.zero,i.size,i.bytes))=some (some (.slice none 0 0),1,24):=by kernel_rfl
theorem pipe_snoc(n i:Nat)(vs:List Int)(v:Int):pipeT n i (vs++[v])=pipeT n i vs++((if 0<i then[pRecv (i-1)] else[])++(if i+1<n then[pSend i v] else[])):=by
 unfold pipeT
 rw[List.flatMap_append]
 simp
theorem exf3{a:Act}{nx:(Nat→Value)→Act}(h:a=nx fun i=>a.tmps.getD i undef):∃f,a=nx f:=⟨_,h⟩
def p9(vs:List Int)(i:Nat):Int:=if i=0 then 0 else vs.sum
def p9b(vs:List Int)(i q:Nat):Int:=if i=0 then(vs.take q).sum else vs.sum
def P1Rel(w:World)(n:Nat)(vs:List Int)(v v9 k:Value)(wr:World):Prop:=
 ∃i Q,i≤n∧k= .int .i64 (i:Int)∧PD w.heap.size wr v Q∧Q.map TkD.ops=(List.range i).map (fun i=>pipeT n i vs)∧v9= .int .i64 (p9 vs i)∧Below w.heap.size w wr
def P2Rel(w:World)(n i:Nat)(vs:List Int)(v9 v k:Value)(wr:World):Prop:=
 ∃q ua uc,q≤vs.length∧k= .int .i64 (q:Int)∧v= .slice ua (pipeT n i (vs.take q)).length uc∧wr.ownsRow w.heap.size 29 4 v (pipeT n i (vs.take q)).length (flC opF (pipeT n i (vs.take q)))∧v9= .int .i64 (p9b vs i q)∧Below w.heap.size w wr
def QN3(R:Act→World→Prop):Exit→Act→World→Prop
 | .normal,a,w=>R a w
 |_,_,_=>False
def P3Lp(u:World)(n:Nat)(vs:List Int)(a':Act)(u':World)(nx:Value→(Nat→Value)→Act):Prop:=
 ∃v Q,PD u.heap.size u' v Q∧Q.map TkD.ops=(List.range n).map (fun i=>pipeT n i vs)∧Below u.heap.size u u'∧∃f:Nat→Value,a'=nx v f
set_option maxRecDepth 100000 in
set_option maxHeartbeats 8000000 in
theorem wp3_4(u:World)(n:Nat)(va:Option Addr)(vc:Nat)(vs:List Int)(hn:2≤n∧n≤8)(hs:Sl (Value.int .i16) u va vs)(hl:vs.length≤10)(hv:∀v∈vs, -32768≤v∧v≤32767)(u1 u2 u3 u4 u5 u6 u10 u11 u12 u13 u14 u15 u16 u17 u18 u19 u20 u21 u22 u23 u24 u25 u26 u27 u28 u29 u30 u31 u32 u33 u34 u35 u36 u37 u38 u39 u40 u41 u42 u43 u44 u45 u46 u47 u48 u49 u50 u51 u52 u53 u54 u55 u56 u57 u58 u59 u60 u61 u62 u63 u64 u65 u66 u67 u68 u69 u70 u71 u72 u73 u74 u75 u76 u77 u78 u79 u80 u81 u82 u83 u84 u85 u86 u87 u88 u89 u90 u91 u92 u93 u94 u95 u96 u97 u98 u99 u100 u101 u102 u103 u104 u105 u106 u107 u108 u109 u110 u111 u112 u113 u114 u115 u116 u117 u118 u119 u120 u121 u122:Value):
  (fstOf (d3 4)).wp Try.prog (QN3 fun a' u'=>P3Lp u n vs a' u' fun v f=>⟨#[.slice va vs.length vc,u1,u2,u3,u4,u5,u6,.int .i64 (n:Int),v,.int .i64 vs.sum,f 10,f 11,f 12,f 13,u14,u15,u16,u17,u18,u19,u20,u21,u22,u23,u24,u25,u26,u27,u28,u29,u30,f 31,f 32,f 33,f 34,f 35,f 36,f 37,f 38,f 39,f 40,f 41,f 42,f 43,f 44,f 45,f 46,f 47,f 48,f 49,f 50,f 51,f 52,f 53,f 54,f 55,f 56,f 57,f 58,f 59,f 60,f 61,f 62,f 63,f 64,f 65,f 66,f 67,f 68,f 69,f 70,f 71,u72,u73,u74,u75,u76,u77,u78,u79,u80,u81,u82,u83,u84,u85,u86,u87,u88,u89,u90,u91,u92,u93,u94,u95,u96,u97,u98,u99,u100,u101,u102,u103,u104,u105,u106,u107,u108,u109,u110,u111,u112,u113,u114,u115,u116,u117,u118,u119,u120,u121,u122],[]⟩) ⟨#[.slice va vs.length vc,u1,u2,u3,u4,u5,u6,.int .i64 (n:Int),.slice none 0 0,.int .i64 0,u10,u11,u12,u13,u14,u15,u16,u17,u18,u19,u20,u21,u22,u23,u24,u25,u26,u27,u28,u29,u30,u31,u32,u33,u34,u35,u36,u37,u38,u39,u40,u41,u42,u43,u44,u45,u46,u47,u48,u49,u50,u51,u52,u53,u54,u55,u56,u57,u58,u59,u60,u61,u62,u63,u64,u65,u66,u67,u68,u69,u70,u71,u72,u73,u74,u75,u76,u77,u78,u79,u80,u81,u82,u83,u84,u85,u86,u87,u88,u89,u90,u91,u92,u93,u94,u95,u96,u97,u98,u99,u100,u101,u102,u103,u104,u105,u106,u107,u108,u109,u110,u111,u112,u113,u114,u115,u116,u117,u118,u119,u120,u121,u122],[]⟩ u:=by
 have S:=Lib.hid hs
 have HV:=Lib.hid hv
 clear hs hv
 obtain⟨i1,hi,hz0,hz1,hz2⟩:=info_parts info26'
 have JI:=Lib.hid hi;have JZ0:=Lib.hid hz0;have JZ1:=Lib.hid hz1;have JZ2:=Lib.hid hz2
 clear hi hz0 hz1 hz2
 obtain⟨i2,hi,hz0,hz1,hz2⟩:=info_parts info29p
 have KI:=Lib.hid hi;have KZ0:=Lib.hid hz0;have KZ1:=Lib.hid hz1;have KZ2:=Lib.hid hz2
 clear hi hz0 hz1 hz2
 obtain⟨hn2,hn8⟩:=hn
 generalize hm:vs.length=m at*
 have HM:=Lib.hid hm
 clear hm
 unfold d3 d3 d3 d3 d3 b3
 conv in Option.getD _ _=>whnf
 dsimp only[fstOf,sndOf]
 go_wp2_with fail
 go_loopw [8,9,32] (fun v v9 k wr=>P1Rel u n vs v v9 k wr) (fun _ _ k _=>n-(intOf k).toNat)
 case atStart=>exact⟨0,[],Nat.zero_le _,rfl,PD.nil _ _,rfl,rfl,Below.refl _ _⟩
 case round=>
  obtain⟨i,Q,hi,rfl,hP,hQ,rfl,hB⟩:=hrel
  obtain⟨a0,k0,rfl, -⟩:=own_shape hP.own
  have hQl:Q.length=i:=by have:=congrArg List.length hQ;simpa using this
  have P:=Lib.hid hP;have HQ:=Lib.hid hQ;have HB:=Lib.hid hB;have QL:=Lib.hid hQl
  clear hP hQ hB hQl
  by_cases hlt:i<n
  ·have hin:(i:Int)<(n:Int):=by omega
   obtain⟨w6,hw6⟩:∃w6,w6=wr:=⟨_,rfl⟩
   subst hw6
   have P90:Hid (p9 vs i=p9b vs i 0):=Lib.hid (by unfold p9 p9b;simp)
   have P91:Hid (p9b vs i m=p9 vs (i+1)):=Lib.hid (by
    have e:p9 vs (i+1)=vs.sum:=by simp[p9]
    rw[e,←HM.out]
    unfold p9b
    rw[List.take_length]
    split<;>rfl)
   generalize p9 vs i=z0 at*
   go_wp2_with fail
   go_loopw [9,11,37] (fun v9 v k wx=>P2Rel w6 n i vs v9 v k wx) (fun _ _ k _=>m-(intOf k).toNat)
   case atStart=>exact⟨0,none,0,Nat.zero_le _,rfl,rfl,⟨rfl,.inl ⟨rfl,rfl⟩⟩,by rw[P90.out],Below.refl _ _⟩
   case round=>
    obtain⟨q,ua,uc,hq,rfl,rfl,hown,rfl,hB2⟩:=hrel
    have OQ:=Lib.hid hown
    have BQ:=Lib.hid hB2
    rw[HM.out] at hq
    clear hown hB2
    have ZB:Hid (∀k:Nat, -32768*(k:Int)≤(vs.take k).sum∧(vs.take k).sum≤32767*k):=Lib.hid (take_bound HV.out)
    by_cases hqm:q<m
    ·have hqn:(q:Int)<(m:Int):=by omega
     obtain⟨y,hy,oky,cy⟩:=(S.out.reads (Reads.below (HB.out.trans (BQ.out.mono HB.out.size)))).get (k:=q) (by rw[HM.out];exact hqm)
     have TX:Hid (vs.take (q+1)=vs.take q++[y]):=Lib.hid (by rw[List.take_add_one,hy.out];rfl)
     have YB:=HV.out y (List.mem_of_getElem? hy.out)
     clear hy
     have PS:=Lib.hid (pipe_snoc n i (vs.take q) y)
     rw[←TX.out] at PS
     have PLN:Hid ((pipeT n i (vs.take q)).length≤20):=Lib.hid (by
      rw[pipe_len hn2 hlt,List.length_take]
      have:=HM.out
      split<;>split<;>omega)
     generalize hl1:pipeT n i (vs.take q)=l1 at*
     have HL1:=Lib.hid hl1
     clear hl1
     generalize hul:l1.length=ul at*
     have HUL:=Lib.hid hul
     clear hul
     have ey:IntKind.i64.wrap y=y:=IntWalk.i64_in _ (by omega)
     by_cases h0:i=0
     ·have hi0:¬(0:Int)<(i:Int):=by omega
      have hi1:¬0<i:=by omega
      have ib:((i:Int)==0)=true:=by simp[h0]
      have hn1:(i:Int)<(n:Int)-1:=by omega
      have en:IntKind.i64.wrap ((n:Int)-1)=(n:Int)-1:=IntWalk.i64_in _ (by omega)
      have PS2:Hid (pipeT n i (vs.take (q+1))=l1++[pSend i y]):=Lib.hid (by rw[PS.out,if_neg (by omega),if_pos (by omega)];rfl)
      have P9s:Hid (IntKind.i64.wrap (p9b vs i q+y)=p9b vs i (q+1)):=Lib.hid (by
       have b1:=ZB.out q
       have e1:p9b vs i q=(vs.take q).sum:=by simp[p9b,h0]
       have e2:p9b vs i (q+1)=(vs.take q).sum+y:=by simp[p9b,TX.out,h0]
       rw[e1,e2,IntWalk.i64_in _ (by omega)])
      rw[IntWalk.i64_left] at P9s
      clear h0
      clear PS TX
      generalize p9b vs i q=zq at*
      go_wp2_with (at_builtin;refine wpList_append_cells rfl _ _ 26 rfl w6.heap.size 29 i2 _ 4 48 Try.underlying26 KI.out KZ0.out KZ1.out KZ2.out rfl (by decide) (.slice ua ul uc) (ul) (flC opF l1) rfl ?ownA (some ⟨wr.heap.size,0,none⟩) 1 1 (opF (pSend i y)) rfl rfl ?c1A (opF_one _) ?c3A ?c4A ?c5A ?kkA)
      case ownA=>exact own_upd OQ.out (Upd.of_below (S:=fun _=>False) ((Below.refl _ _).alloc (Nat.le_refl _) _)) (fun _ _=>id)
      case c1A=>first|exact fun i' u hi=>⟨rfl,hi⟩|exact fun i' u hi=>⟨rfl,by rw[adr_mk,Nat.zero_add];exact(Blk.new wr 29 (opF (pSend i y))).cell hi⟩
      case c3A=>(have:=PLN.out;unfold maxLen;omega)
      case c4A=>(have:=PLN.out;omega)
      case c5A=>(have:=BQ.out.size;simp;omega)
      intro v1 w8 g1 g2 g3
      have B8:=Lib.hid (Upd.below (BQ.out.alloc BQ.out.size _) (Upd.of_grownV g2) (by have:=BQ.out.size;simp;omega) (fun k hk=>(own_lt OQ.out hk).2))
      obtain⟨a3,k3,rfl, -⟩:=own_shape g1
      have O8:=Lib.hid g1
      clear g1 g2 g3 OQ BQ
      have ON:Hid (w8.ownsRow w6.heap.size 29 4 (.slice a3 (ul+1) k3) (pipeT n i (vs.take (q+1))).length (flC opF (pipeT n i (vs.take (q+1))))):=Lib.hid (by
       have h:=O8.out
       rw[PS2.out]
       simpa[flC_append,flC_one,HUL.out,Nat.add_assoc] using h)
      have EN:Hid (Value.slice a3 (ul+1) k3= .slice a3 (pipeT n i (vs.take (q+1))).length k3):=Lib.hid (by rw[PS2.out];simp[HUL.out])
      clear O8 PS2
      go_wp2_with fail
      go_roundw
      case rel=>exact⟨q+1,a3,k3,by rw[HM.out];omega,by go_num,EN.out,ON.out,by rw[P9s.out],B8.out⟩
      case measure=>(simp[intOf];omega)
     ·have P9s:Hid (p9b vs i (q+1)=p9b vs i q):=Lib.hid (by simp[p9b,h0])
      have hi0:(0:Int)<(i:Int):=by omega
      have ib:((i:Int)==0)=false:=by simp;omega
      have ei:IntKind.i64.wrap ((i:Int)-1)=((i-1:Nat):Int):=by rw[IntWalk.i64_in _ (by omega)];omega
      have en:IntKind.i64.wrap ((n:Int)-1)=(n:Int)-1:=IntWalk.i64_in _ (by omega)
      by_cases h1:i+1=n
      ·have hn1:¬(i:Int)<(n:Int)-1:=by omega
       have PS2:Hid (pipeT n i (vs.take (q+1))=l1++[pRecv (i-1)]):=Lib.hid (by rw[PS.out,if_pos (by omega),if_neg (by omega)];rfl)
       clear PS TX
       generalize p9b vs i q=zq at*
       go_wp2_with (at_builtin;refine wpList_append_cells rfl _ _ 26 rfl w6.heap.size 29 i2 _ 4 48 Try.underlying26 KI.out KZ0.out KZ1.out KZ2.out rfl (by decide) (.slice ua ul uc) (ul) (flC opF l1) rfl ?ownB (some ⟨wr.heap.size,0,none⟩) 1 1 (opF (pRecv (i-1))) rfl rfl ?c1B (opF_one _) ?c3B ?c4B ?c5B ?kkB)
       case ownB=>exact own_upd OQ.out (Upd.of_below (S:=fun _=>False) ((Below.refl _ _).alloc (Nat.le_refl _) _)) (fun _ _=>id)
       case c1B=>first|exact fun i' u hi=>⟨rfl,hi⟩|exact fun i' u hi=>⟨rfl,by rw[adr_mk,Nat.zero_add];exact(Blk.new wr 29 (opF (pRecv (i-1)))).cell hi⟩
       case c3B=>(have:=PLN.out;unfold maxLen;omega)
       case c4B=>(have:=PLN.out;omega)
       case c5B=>(have:=BQ.out.size;simp;omega)
       intro v1 w8 g1 g2 g3
       have B8:=Lib.hid (Upd.below (BQ.out.alloc BQ.out.size _) (Upd.of_grownV g2) (by have:=BQ.out.size;simp;omega) (fun k hk=>(own_lt OQ.out hk).2))
       obtain⟨a3,k3,rfl, -⟩:=own_shape g1
       have O8:=Lib.hid g1
       clear g1 g2 g3 OQ BQ
       have ON:Hid (w8.ownsRow w6.heap.size 29 4 (.slice a3 (ul+1) k3) (pipeT n i (vs.take (q+1))).length (flC opF (pipeT n i (vs.take (q+1))))):=Lib.hid (by
        have h:=O8.out
        rw[PS2.out]
        simpa[flC_append,flC_one,HUL.out,Nat.add_assoc] using h)
       have EN:Hid (Value.slice a3 (ul+1) k3= .slice a3 (pipeT n i (vs.take (q+1))).length k3):=Lib.hid (by rw[PS2.out];simp[HUL.out])
       clear O8 PS2
       go_wp2_with fail
       go_roundw
       case rel=>exact⟨q+1,a3,k3,by rw[HM.out];omega,by go_num,EN.out,ON.out,by rw[P9s.out],B8.out⟩
       case measure=>(simp[intOf];omega)
      ·have hn1:(i:Int)<(n:Int)-1:=by omega
       have PS2:Hid (pipeT n i (vs.take (q+1))=l1++[pRecv (i-1)]++[pSend i y]):=Lib.hid (by rw[PS.out,if_pos (by omega),if_pos (by omega)];simp)
       clear PS TX
       generalize p9b vs i q=zq at*
       go_wp2_with (at_builtin;refine wpList_append_cells rfl _ _ 26 rfl w6.heap.size 29 i2 _ 4 48 Try.underlying26 KI.out KZ0.out KZ1.out KZ2.out rfl (by decide) (.slice ua ul uc) (ul) (flC opF l1) rfl ?ownC (some ⟨wr.heap.size,0,none⟩) 1 1 (opF (pRecv (i-1))) rfl rfl ?c1C (opF_one _) ?c3C ?c4C ?c5C ?kkC)
       case ownC=>exact own_upd OQ.out (Upd.of_below (S:=fun _=>False) ((Below.refl _ _).alloc (Nat.le_refl _) _)) (fun _ _=>id)
       case c1C=>first|exact fun i' u hi=>⟨rfl,hi⟩|exact fun i' u hi=>⟨rfl,by rw[adr_mk,Nat.zero_add];exact(Blk.new wr 29 (opF (pRecv (i-1)))).cell hi⟩
       case c3C=>(have:=PLN.out;unfold maxLen;omega)
       case c4C=>(have:=PLN.out;omega)
       case c5C=>(have:=BQ.out.size;simp;omega)
       intro v1 w8 g1 g2 g3
       have B8:=Lib.hid (Upd.below (BQ.out.alloc BQ.out.size _) (Upd.of_grownV g2) (by have:=BQ.out.size;simp;omega) (fun k hk=>(own_lt OQ.out hk).2))
       obtain⟨a3,k3,rfl, -⟩:=own_shape g1
       have O8:=Lib.hid g1
       clear g1 g2 g3 OQ BQ
       have O8':Hid (w8.ownsRow w6.heap.size 29 4 (.slice a3 (ul+1) k3) (ul+1) (flC opF (l1++[pRecv (i-1)]))):=Lib.hid (by rw[flC_append,flC_one];exact O8.out)
       clear O8
       have PL2:Hid (ul+1≤21):=Lib.hid (by have:=PLN.out;omega)
       generalize hu2:ul+1=ul2 at*
       have HU2:=Lib.hid hu2
       clear hu2
       go_wp2_with (at_builtin;refine wpList_append_cells rfl _ _ 26 rfl w6.heap.size 29 i2 _ 4 48 Try.underlying26 KI.out KZ0.out KZ1.out KZ2.out rfl (by decide) (.slice a3 ul2 k3) ul2 (flC opF (l1++[pRecv (i-1)])) rfl ?ownD (some ⟨w8.heap.size,0,none⟩) 1 1 (opF (pSend i y)) rfl rfl ?c1D (opF_one _) ?c3D ?c4D ?c5D ?kkD)
       case ownD=>exact own_upd O8'.out (Upd.of_below (S:=fun _=>False) ((Below.refl _ _).alloc (Nat.le_refl _) _)) (fun _ _=>id)
       case c1D=>first|exact fun i' u hi=>⟨rfl,hi⟩|exact fun i' u hi=>⟨rfl,by rw[adr_mk,Nat.zero_add];exact(Blk.new w8 29 (opF (pSend i y))).cell hi⟩
       case c3D=>(have:=PL2.out;unfold maxLen;omega)
       case c4D=>(have:=PL2.out;omega)
       case c5D=>(have:=B8.out.size;simp;omega)
       intro v1 w9 g1 g2 g3
       have B9:=Lib.hid (Upd.below (B8.out.alloc B8.out.size _) (Upd.of_grownV g2) (by have:=B8.out.size;simp;omega) (fun k hk=>(own_lt O8'.out hk).2))
       obtain⟨a4,k4,rfl, -⟩:=own_shape g1
       have O9:=Lib.hid g1
       clear g1 g2 g3 O8' B8
       have ON:Hid (w9.ownsRow w6.heap.size 29 4 (.slice a4 (ul2+1) k4) (pipeT n i (vs.take (q+1))).length (flC opF (pipeT n i (vs.take (q+1))))):=Lib.hid (by
        have h:=O9.out
        have e:(l1++[pRecv (i-1)]++[pSend i y]).length=ul2+1:=by simp[HUL.out,←HU2.out]
        rw[PS2.out,e,flC_append,flC_one]
        exact h)
       have EN:Hid (Value.slice a4 (ul2+1) k4= .slice a4 (pipeT n i (vs.take (q+1))).length k4):=Lib.hid (by rw[PS2.out];simp[HUL.out,←HU2.out])
       clear O9 PS2
       go_wp2_with fail
       go_roundw
       case rel=>exact⟨q+1,a4,k4,by rw[HM.out];omega,by go_num,EN.out,ON.out,by rw[P9s.out],B9.out⟩
       case measure=>(simp[intOf];omega)
    ·have hqe:q=m:=by omega
     subst hqe
     have TE:Hid (vs.take q=vs):=Lib.hid (by rw[←HM.out,List.take_length])
     have O1:Hid (wr.ownsRow w6.heap.size 29 4 (.slice ua (pipeT n i vs).length uc) (pipeT n i vs).length (flC opF (pipeT n i vs))):=Lib.hid (by have:=OQ.out;rwa[TE.out] at this)
     have EL:Hid ((pipeT n i (vs.take q)).length=(pipeT n i vs).length):=Lib.hid (by rw[TE.out])
     rw[EL.out]
     have P1:=Lib.hid (P.out.new BQ.out)
     have B1:=Lib.hid (HB.out.trans (BQ.out.mono HB.out.size))
     rw[P91.out]
     clear OQ P BQ EL TE
     generalize hpl:(pipeT n i vs).length=pl at*
     have HPL:=Lib.hid hpl
     clear hpl
     generalize hql:Q.length=ql at*
     have HQL:=Lib.hid hql
     clear hql
     go_wp2_with (at_builtin;refine wpList_append_cells rfl _ _ 25 rfl u.heap.size 26 i1 _ 1 24 Try.underlying25 JI.out JZ0.out JZ1.out JZ2.out rfl (by decide) (.slice a0 ql k0) ql (Q.map tkv) rfl ?ownE (some ⟨wr.heap.size,0,none⟩) 1 1 [.slice ua pl uc] rfl rfl ?c1E ?c2E ?c3E ?c4E ?c5E ?kkE)
     case ownE=>rw[←HQL.out];exact own_upd (by have:=P1.out.own;rw[HQL.out] at this⊢;exact this) (Upd.of_below (S:=fun _=>False) ((Below.refl _ _).alloc (Nat.le_refl _) _)) (fun _ _=>id)
     case c1E=>first|exact fun i' u hi=>⟨rfl,hi⟩|exact fun i' u hi=>⟨rfl,by rw[adr_mk,Nat.zero_add];exact(Blk.new wr 26 [.slice ua pl uc]).cell hi⟩
     case c2E=>exact fun u hu=>by simp only[List.mem_cons,List.not_mem_nil,or_false] at hu;subst hu;rfl
     case c3E=>(have:=QL.out;unfold maxLen;omega)
     case c4E=>(have:=QL.out;omega)
     case c5E=>(have:=B1.out.size;simp;omega)
     intro v1 w9 g1 g2 g3
     have PA:=Lib.hid (P1.out.new ((Below.refl wr.heap.size wr).alloc (Nat.le_refl _) (.cells #[.slice ua pl uc] 26)))
     have P2:Hid (PD u.heap.size w9 v1 (Q++[(⟨ua,uc,pipeT n i vs⟩:TkD)])):=Lib.hid (PA.out.push (t:=⟨ua,uc,pipeT n i vs⟩) (by
      show World.ownsRow _ _ _ _ (.slice ua (pipeT n i vs).length uc) _ _
      rw[HPL.out]
      exact own_upd (own_rebase (by have:=O1.out;exact this) HB.out.size) (Upd.of_below (S:=fun _=>False) ((Below.refl _ _).alloc (Nat.le_refl _) _)) (fun _ _=>id)) (by
      show World.ownsRow _ _ _ _ _ _ (_++[.slice ua (pipeT n i vs).length uc])
      rw[HPL.out,HQL.out];exact g1) g2)
     have OWB:Hid (wr.ownsRow u.heap.size 26 1 (.slice a0 ql k0) ql (Q.map tkv)):=Lib.hid (by have:=P1.out.own;rw[HQL.out] at this;exact this)
     have B2:=Lib.hid (Upd.below (B1.out.alloc B1.out.size _) (Upd.of_grownV g2) (by have:=B1.out.size;simp;omega) (fun k hk=>(own_lt OWB.out hk).2))
     have Q2:Hid ((Q++[(⟨ua,uc,pipeT n i vs⟩:TkD)]).map TkD.ops=(List.range (i+1)).map fun i=>pipeT n i vs):=Lib.hid (by
      rw[List.range_succ,List.map_append,List.map_append,HQ.out];rfl)
     obtain⟨a3,k3,rfl, -⟩:=own_shape g1
     clear g1 g2 g3 PA OWB P1 B1 O1
     generalize hz1:p9 vs (i+1)=z1 at*
     have HZ1:=Lib.hid hz1
     clear hz1
     go_wp2_with fail
     go_roundw
     case rel=>exact⟨i+1,_,by omega,by go_num,P2.out,Q2.out,by rw[HZ1.out],B2.out⟩
     case measure=>(simp[intOf];omega)
  ·have hin:i=n:=by omega
   subst hin
   have PZ:Hid (p9 vs i=vs.sum):=Lib.hid (by unfold p9;rw[if_neg (by omega)])
   generalize p9 vs i=z0 at*
   go_wp2_with fail
   refine⟨_,Q,P.out,HQ.out,HB.out,?_⟩
   rw[←PZ.out]
   exact exf3 rfl
end
section
open Go Go.Conc Go.ConcN Go.Proofs Go.RowKit Go.Proofs.Ytbjlijagheifgaa
theorem q3_0:([Item.code (fstOf b3)].all (itemPlain false none Try.prog lawFns))=true:=by kernel_rfl
theorem q3_1:([Item.inRegion ops3 [1],Item.code (sndOf (fstOf (sndOf b3)))].all (itemPlain false none Try.prog lawFns))=true:=by kernel_rfl
theorem p3_0:([Item.code (fstOf (d3 0))].all (itemPlain false none Try.prog lawFns))=true:=by kernel_rfl
theorem p3_1:([Item.code (fstOf (d3 1))].all (itemPlain false none Try.prog lawFns))=true:=by kernel_rfl
theorem p3_2:([Item.code (fstOf (d3 2))].all (itemPlain false none Try.prog lawFns))=true:=by kernel_rfl
theorem p3_3:([Item.code (fstOf (d3 3))].all (itemPlain false none Try.prog lawFns))=true:=by kernel_rfl
theorem p3_4:([Item.code (fstOf (d3 4))].all (itemPlain false none Try.prog lawFns))=true:=by kernel_rfl
set_option maxRecDepth 100000 in
set_option maxHeartbeats 4000000 in
theorem wq3_0(u:World)(u0 u1 u2 u3 u4 u5 u6 u7 u8 u9 u10 u11 u12 u13 u14 u15 u16 u17 u18 u19 u20 u21 u22 u23 u24 u25 u26 u27 u28 u29 u30 u31 u32 u33 u34 u35 u36 u37 u38 u39 u40 u41 u42 u43 u44 u45 u46 u47 u48 u49 u50 u51 u52 u53 u54 u55 u56 u57 u58 u59 u60 u61 u62 u63 u64 u65 u66 u67 u68 u69 u70 u71 u72 u73 u74 u75 u76 u77 u78 u79 u80 u81 u82 u83 u84 u85 u86 u87 u88 u89 u90 u91 u92 u93 u94 u95 u96 u97 u98 u99 u100 u101 u102 u103 u104 u105 u106 u107 u108 u109 u110 u111 u112 u113 u114 u115 u116 u117 u118 u119 u120 u121 u122:Value):(fstOf b3).wp Try.prog (fun e a' u'=>e= .normal∧a'=⟨#[u0,u1,u2,u3,u4,u5,.bool false,u7,u8,u9,u10,u11,u12,u13,u14,u15,u16,u17,u18,u19,u20,u21,u22,u23,u24,u25,u26,u27,u28,u29,u30,u31,u32,u33,u34,u35,u36,u37,u38,u39,u40,u41,u42,u43,u44,u45,u46,u47,u48,u49,u50,u51,u52,u53,u54,u55,u56,u57,u58,u59,u60,u61,u62,u63,u64,u65,u66,u67,u68,u69,u70,u71,u72,u73,u74,u75,u76,u77,u78,u79,u80,u81,u82,u83,u84,u85,u86,u87,u88,u89,u90,u91,u92,u93,u94,u95,u96,u97,u98,u99,u100,u101,u102,u103,u104,u105,u106,u107,u108,u109,u110,u111,u112,u113,u114,u115,u116,u117,u118,u119,u120,u121,u122],[]⟩∧u'=u) ⟨#[u0,u1,u2,u3,u4,u5,u6,u7,u8,u9,u10,u11,u12,u13,u14,u15,u16,u17,u18,u19,u20,u21,u22,u23,u24,u25,u26,u27,u28,u29,u30,u31,u32,u33,u34,u35,u36,u37,u38,u39,u40,u41,u42,u43,u44,u45,u46,u47,u48,u49,u50,u51,u52,u53,u54,u55,u56,u57,u58,u59,u60,u61,u62,u63,u64,u65,u66,u67,u68,u69,u70,u71,u72,u73,u74,u75,u76,u77,u78,u79,u80,u81,u82,u83,u84,u85,u86,u87,u88,u89,u90,u91,u92,u93,u94,u95,u96,u97,u98,u99,u100,u101,u102,u103,u104,u105,u106,u107,u108,u109,u110,u111,u112,u113,u114,u115,u116,u117,u118,u119,u120,u121,u122],[]⟩ u:=by
 unfold b3
 conv in Option.getD _ _=>whnf
 dsimp only[fstOf]
 go_wp2_with fail
set_option maxRecDepth 100000 in
set_option maxHeartbeats 4000000 in
theorem wq3_1(u:World)(u0 u1 u2 u3 u4 u5 u6 u7 u8 u9 u10 u11 u12 u13 u14 u15 u16 u18 u19 u20 u21 u22 u23 u24 u25 u26 u27 u28 u29 u30 u31 u32 u33 u34 u35 u36 u37 u38 u39 u40 u41 u42 u43 u44 u45 u46 u47 u48 u49 u50 u51 u52 u53 u54 u55 u56 u57 u58 u59 u60 u61 u62 u63 u64 u65 u66 u67 u68 u69 u70 u71 u72 u73 u74 u75 u76 u77 u78 u79 u80 u81 u82 u83 u84 u85 u86 u87 u88 u89 u90 u91 u92 u93 u94 u95 u96 u97 u98 u99 u100 u101 u102 u103 u104 u105 u106 u107 u108 u109 u110 u111 u112 u113 u114 u115 u116 u117 u118 u119 u120 u121 u122:Value):ItemsWp Try.prog [.inRegion ops3 [1],.code (sndOf (fstOf (sndOf b3)))] (fun e a' u'=>e= .normal∧a'=⟨#[u0,u1,u2,u3,u4,u5,u6,u7,u8,u9,u10,u11,u12,u13,u14,u15,u16,.bool true,.bool false,u19,u20,u21,u22,u23,u24,u25,u26,u27,u28,u29,u30,u31,u32,u33,u34,u35,u36,u37,u38,u39,u40,u41,u42,u43,u44,u45,u46,u47,u48,u49,u50,u51,u52,u53,u54,u55,u56,u57,u58,u59,u60,u61,u62,u63,u64,u65,u66,u67,u68,u69,u70,u71,u72,u73,u74,u75,u76,u77,u78,u79,u80,u81,u82,u83,u84,u85,u86,u87,u88,u89,u90,u91,u92,u93,u94,u95,u96,u97,u98,u99,u100,u101,u102,u103,u104,u105,u106,u107,u108,u109,u110,u111,u112,u113,u114,u115,u116,u117,u118,u119,u120,u121,u122],[]⟩∧u'=u) ⟨#[u0,u1,u2,u3,u4,u5,u6,u7,u8,u9,u10,u11,u12,u13,u14,u15,u16,.bool true,u18,u19,u20,u21,u22,u23,u24,u25,u26,u27,u28,u29,u30,u31,u32,u33,u34,u35,u36,u37,u38,u39,u40,u41,u42,u43,u44,u45,u46,u47,u48,u49,u50,u51,u52,u53,u54,u55,u56,u57,u58,u59,u60,u61,u62,u63,u64,u65,u66,u67,u68,u69,u70,u71,u72,u73,u74,u75,u76,u77,u78,u79,u80,u81,u82,u83,u84,u85,u86,u87,u88,u89,u90,u91,u92,u93,u94,u95,u96,u97,u98,u99,u100,u101,u102,u103,u104,u105,u106,u107,u108,u109,u110,u111,u112,u113,u114,u115,u116,u117,u118,u119,u120,u121,u122],[]⟩ u:=by
 refine ItemsWp.then (k:=1) (l:=ops3.toList.drop 1) rfl rfl fun K hK=>?_
 conv in(occs:= *) ops3=>
  all_goals
   unfold ops3 opsR b3
   whnf
 unfold b3 at hK
 conv at hK in Option.getD _ _=>whnf
 dsimp only[sndOf,fstOf] at hK
 simp only[List.drop_succ_cons,List.drop_zero]
 go_wp2_with fail
set_option maxRecDepth 100000 in
set_option maxHeartbeats 4000000 in
theorem wp3_0(u:World)(t:Nat)(ht:t≤255)(u0 u2 u3 u4 u5 u6 u7 u8 u9 u10 u11 u12 u13 u14 u15 u16 u17 u18 u19 u20 u21 u22 u23 u24 u25 u26 u27 u28 u29 u30 u31 u32 u33 u34 u35 u36 u37 u38 u39 u40 u41 u42 u43 u44 u45 u46 u47 u48 u49 u50 u51 u52 u53 u54 u55 u56 u57 u58 u59 u60 u61 u62 u63 u64 u65 u66 u67 u68 u69 u70 u71 u72 u73 u74 u75 u76 u77 u78 u79 u80 u81 u82 u83 u84 u85 u86 u87 u88 u89 u90 u91 u92 u93 u94 u95 u96 u97 u98 u99 u100 u101 u102 u103 u104 u105 u106 u107 u108 u109 u110 u111 u112 u113 u114 u115 u116 u117 u118 u119 u120 u121 u122:Value):(fstOf (d3 0)).wp Try.prog (fun e a' u'=>e= .normal∧(∃v19 v20 v21 v22,a'=⟨#[u0,.int .u8 (t:Int),u2,u3,u4,u5,u6,.int .i64 ((2+t%7:Nat):Int),u8,u9,u10,u11,u12,u13,u14,u15,u16,u17,u18,v19,v20,v21,v22,u23,u24,u25,u26,u27,u28,u29,u30,u31,u32,u33,u34,u35,u36,u37,u38,u39,u40,u41,u42,u43,u44,u45,u46,u47,u48,u49,u50,u51,u52,u53,u54,u55,u56,u57,u58,u59,u60,u61,u62,u63,u64,u65,u66,u67,u68,u69,u70,u71,u72,u73,u74,u75,u76,u77,u78,u79,u80,u81,u82,u83,u84,u85,u86,u87,u88,u89,u90,u91,u92,u93,u94,u95,u96,u97,u98,u99,u100,u101,u102,u103,u104,u105,u106,u107,u108,u109,u110,u111,u112,u113,u114,u115,u116,u117,u118,u119,u120,u121,u122],[]⟩)∧u'=u) ⟨#[u0,.int .u8 (t:Int),u2,u3,u4,u5,u6,u7,u8,u9,u10,u11,u12,u13,u14,u15,u16,u17,u18,u19,u20,u21,u22,u23,u24,u25,u26,u27,u28,u29,u30,u31,u32,u33,u34,u35,u36,u37,u38,u39,u40,u41,u42,u43,u44,u45,u46,u47,u48,u49,u50,u51,u52,u53,u54,u55,u56,u57,u58,u59,u60,u61,u62,u63,u64,u65,u66,u67,u68,u69,u70,u71,u72,u73,u74,u75,u76,u77,u78,u79,u80,u81,u82,u83,u84,u85,u86,u87,u88,u89,u90,u91,u92,u93,u94,u95,u96,u97,u98,u99,u100,u101,u102,u103,u104,u105,u106,u107,u108,u109,u110,u111,u112,u113,u114,u115,u116,u117,u118,u119,u120,u121,u122],[]⟩ u:=by
 unfold d3 b3
 conv in Option.getD _ _=>whnf
 dsimp only[fstOf,sndOf]
 go_wp2_with fail
set_option maxRecDepth 100000 in
set_option maxHeartbeats 4000000 in
theorem wp3_1(u:World)(va b:Option Addr)(vc d m k:Nat)(hm:m≤maxLen)(hk:k≤maxLen)(u1 u3 u4 u5 u6 u7 u8 u9 u10 u11 u12 u13 u14 u15 u16 u17 u18 u19 u20 u21 u22 u23 u24 u25 u26 u27 u28 u29 u30 u31 u32 u33 u34 u35 u36 u37 u38 u39 u40 u41 u42 u43 u44 u45 u46 u47 u48 u49 u50 u51 u52 u53 u54 u55 u56 u57 u58 u59 u60 u61 u62 u63 u64 u65 u66 u67 u68 u69 u70 u71 u72 u73 u74 u75 u76 u77 u78 u79 u80 u81 u82 u83 u84 u85 u86 u87 u88 u89 u90 u91 u92 u93 u94 u95 u96 u97 u98 u99 u100 u101 u102 u103 u104 u105 u106 u107 u108 u109 u110 u111 u112 u113 u114 u115 u116 u117 u118 u119 u120 u121 u122:Value):(fstOf (d3 1)).wp Try.prog (GdQ 6 u (m≤10∧k≤300) fun a'=>∃v23 v24 v25 v26 v27 v28 v29 v30,a'=⟨#[.slice va m vc,u1,.slice b k d,u3,u4,u5,u6,u7,u8,u9,u10,u11,u12,u13,u14,u15,u16,u17,u18,u19,u20,u21,u22,v23,v24,v25,v26,v27,v28,v29,v30,u31,u32,u33,u34,u35,u36,u37,u38,u39,u40,u41,u42,u43,u44,u45,u46,u47,u48,u49,u50,u51,u52,u53,u54,u55,u56,u57,u58,u59,u60,u61,u62,u63,u64,u65,u66,u67,u68,u69,u70,u71,u72,u73,u74,u75,u76,u77,u78,u79,u80,u81,u82,u83,u84,u85,u86,u87,u88,u89,u90,u91,u92,u93,u94,u95,u96,u97,u98,u99,u100,u101,u102,u103,u104,u105,u106,u107,u108,u109,u110,u111,u112,u113,u114,u115,u116,u117,u118,u119,u120,u121,u122],[]⟩) ⟨#[.slice va m vc,u1,.slice b k d,u3,u4,u5,u6,u7,u8,u9,u10,u11,u12,u13,u14,u15,u16,u17,u18,u19,u20,u21,u22,u23,u24,u25,u26,u27,u28,u29,u30,u31,u32,u33,u34,u35,u36,u37,u38,u39,u40,u41,u42,u43,u44,u45,u46,u47,u48,u49,u50,u51,u52,u53,u54,u55,u56,u57,u58,u59,u60,u61,u62,u63,u64,u65,u66,u67,u68,u69,u70,u71,u72,u73,u74,u75,u76,u77,u78,u79,u80,u81,u82,u83,u84,u85,u86,u87,u88,u89,u90,u91,u92,u93,u94,u95,u96,u97,u98,u99,u100,u101,u102,u103,u104,u105,u106,u107,u108,u109,u110,u111,u112,u113,u114,u115,u116,u117,u118,u119,u120,u121,u122],[]⟩ u:=by
 unfold maxLen at hm hk
 unfold d3 d3 b3
 conv in Option.getD _ _=>whnf
 dsimp only[fstOf,sndOf]
 by_cases h1:10<m
 ·have e1:(10:Int)<(m:Int):=by omega
  go_wp2_with fail
  exact⟨Below.refl _ _,.inl ⟨rfl,rfl⟩⟩
 ·have e1:¬(10:Int)<(m:Int):=by omega
  by_cases h2:300<k
  ·have e2:(300:Int)<(k:Int):=by omega
   go_wp2_with fail
   exact⟨Below.refl _ _,.inl ⟨rfl,rfl⟩⟩
  ·have e2:¬(300:Int)<(k:Int):=by omega
   go_wp2_with fail
   exact⟨Below.refl _ _,.inr ⟨rfl,⟨by omega,by omega⟩,_,_,_,_,_,_,_,_,rfl⟩⟩
set_option maxRecDepth 100000 in
set_option maxHeartbeats 4000000 in
theorem wp3_2(u:World)(u0 u1 u2 u3 u4 u5 u6 u7 u8 u9 u10 u11 u12 u13 u14 u15 u16 u17 u18 u19 u20 u21 u22 u23 u24 u25 u26 u27 u28 u29 u30 u31 u32 u33 u34 u35 u36 u37 u38 u39 u40 u41 u42 u43 u44 u45 u46 u47 u48 u49 u50 u51 u52 u53 u54 u55 u56 u57 u58 u59 u60 u61 u62 u63 u64 u65 u66 u67 u68 u69 u70 u71 u72 u73 u74 u75 u76 u77 u78 u79 u80 u81 u82 u83 u84 u85 u86 u87 u88 u89 u90 u91 u92 u93 u94 u95 u96 u97 u98 u99 u100 u101 u102 u103 u104 u105 u106 u107 u108 u109 u110 u111 u112 u113 u114 u115 u116 u117 u118 u119 u120 u121 u122:Value):(fstOf (d3 2)).wp Try.prog (fun e a' u'=>e= .normal∧a'=⟨#[u0,u1,u2,u3,u4,u5,u6,u7,.slice none 0 0,u9,u10,u11,u12,u13,u14,u15,u16,u17,u18,u19,u20,u21,u22,u23,u24,u25,u26,u27,u28,u29,u30,u31,u32,u33,u34,u35,u36,u37,u38,u39,u40,u41,u42,u43,u44,u45,u46,u47,u48,u49,u50,u51,u52,u53,u54,u55,u56,u57,u58,u59,u60,u61,u62,u63,u64,u65,u66,u67,u68,u69,u70,u71,u72,u73,u74,u75,u76,u77,u78,u79,u80,u81,u82,u83,u84,u85,u86,u87,u88,u89,u90,u91,u92,u93,u94,u95,u96,u97,u98,u99,u100,u101,u102,u103,u104,u105,u106,u107,u108,u109,u110,u111,u112,u113,u114,u115,u116,u117,u118,u119,u120,u121,u122],[]⟩∧u'=u) ⟨#[u0,u1,u2,u3,u4,u5,u6,u7,u8,u9,u10,u11,u12,u13,u14,u15,u16,u17,u18,u19,u20,u21,u22,u23,u24,u25,u26,u27,u28,u29,u30,u31,u32,u33,u34,u35,u36,u37,u38,u39,u40,u41,u42,u43,u44,u45,u46,u47,u48,u49,u50,u51,u52,u53,u54,u55,u56,u57,u58,u59,u60,u61,u62,u63,u64,u65,u66,u67,u68,u69,u70,u71,u72,u73,u74,u75,u76,u77,u78,u79,u80,u81,u82,u83,u84,u85,u86,u87,u88,u89,u90,u91,u92,u93,u94,u95,u96,u97,u98,u99,u100,u101,u102,u103,u104,u105,u106,u107,u108,u109,u110,u111,u112,u113,u114,u115,u116,u117,u118,u119,u120,u121,u122],[]⟩ u:=by
 unfold d3 d3 d3 b3
 conv in Option.getD _ _=>whnf
 dsimp only[fstOf,sndOf]
 go_wp2_with fail
set_option maxRecDepth 100000 in
set_option maxHeartbeats 4000000 in
theorem wp3_3(u:World)(u0 u1 u2 u3 u4 u5 u6 u7 u8 u9 u10 u11 u12 u13 u14 u15 u16 u17 u18 u19 u20 u21 u22 u23 u24 u25 u26 u27 u28 u29 u30 u31 u32 u33 u34 u35 u36 u37 u38 u39 u40 u41 u42 u43 u44 u45 u46 u47 u48 u49 u50 u51 u52 u53 u54 u55 u56 u57 u58 u59 u60 u61 u62 u63 u64 u65 u66 u67 u68 u69 u70 u71 u72 u73 u74 u75 u76 u77 u78 u79 u80 u81 u82 u83 u84 u85 u86 u87 u88 u89 u90 u91 u92 u93 u94 u95 u96 u97 u98 u99 u100 u101 u102 u103 u104 u105 u106 u107 u108 u109 u110 u111 u112 u113 u114 u115 u116 u117 u118 u119 u120 u121 u122:Value):(fstOf (d3 3)).wp Try.prog (fun e a' u'=>e= .normal∧a'=⟨#[u0,u1,u2,u3,u4,u5,u6,u7,u8,.int .i64 0,u10,u11,u12,u13,u14,u15,u16,u17,u18,u19,u20,u21,u22,u23,u24,u25,u26,u27,u28,u29,u30,u31,u32,u33,u34,u35,u36,u37,u38,u39,u40,u41,u42,u43,u44,u45,u46,u47,u48,u49,u50,u51,u52,u53,u54,u55,u56,u57,u58,u59,u60,u61,u62,u63,u64,u65,u66,u67,u68,u69,u70,u71,u72,u73,u74,u75,u76,u77,u78,u79,u80,u81,u82,u83,u84,u85,u86,u87,u88,u89,u90,u91,u92,u93,u94,u95,u96,u97,u98,u99,u100,u101,u102,u103,u104,u105,u106,u107,u108,u109,u110,u111,u112,u113,u114,u115,u116,u117,u118,u119,u120,u121,u122],[]⟩∧u'=u) ⟨#[u0,u1,u2,u3,u4,u5,u6,u7,u8,u9,u10,u11,u12,u13,u14,u15,u16,u17,u18,u19,u20,u21,u22,u23,u24,u25,u26,u27,u28,u29,u30,u31,u32,u33,u34,u35,u36,u37,u38,u39,u40,u41,u42,u43,u44,u45,u46,u47,u48,u49,u50,u51,u52,u53,u54,u55,u56,u57,u58,u59,u60,u61,u62,u63,u64,u65,u66,u67,u68,u69,u70,u71,u72,u73,u74,u75,u76,u77,u78,u79,u80,u81,u82,u83,u84,u85,u86,u87,u88,u89,u90,u91,u92,u93,u94,u95,u96,u97,u98,u99,u100,u101,u102,u103,u104,u105,u106,u107,u108,u109,u110,u111,u112,u113,u114,u115,u116,u117,u118,u119,u120,u121,u122],[]⟩ u:=by
 unfold d3 d3 d3 d3 b3
 conv in Option.getD _ _=>whnf
 dsimp only[fstOf,sndOf]
 go_wp2_with fail
end
section
open Go Go.Conc Go.ConcN Go.Proofs Go.RowKit Go.Proofs.Ytbjlijagheifgaa
noncomputable def ops3r:Array Oper:=opsR (fstOf (d3 5))
theorem d3_5:fstOf (d3 5)= .region 24 ops3r false:=by rfl
theorem p3_5:([Item.inRegion ops3r [5,6,7,8,9,10],Item.code (d3 6)].all (itemPlain false none Try.prog lawFns))=true:=by kernel_rfl
set_option maxRecDepth 100000 in
set_option maxHeartbeats 8000000 in
theorem wp3_5(u:World)(va:Option Addr)(vc m n:Nat)(tot:Int)(S':List StepP)(sums:List Int)(v0 v1 v2:Value)(hR:RunRes u v0 v1 v2 S' sums [])(hn:2≤n∧n≤8)(hm:m≤10)(hl:S'.length=(n-1)*m)(hs:sums.length=n)(h0:sums[0]?=some 0)(hi:∀i,0<i→i<n→sums[i]?=some tot)(u1 u2 u3 u4 u5 u6 u8 u10 u11 u12 u13 u14 u15 u16 u17 u18 u19 u20 u21 u22 u23 u24 u25 u26 u27 u28 u29 u30 u31 u32 u33 u34 u35 u36 u37 u38 u39 u40 u41 u42 u43 u44 u45 u46 u47 u48 u49 u50 u51 u52 u53 u54 u55 u56 u57 u58 u59 u60 u61 u62 u63 u64 u65 u66 u67 u68 u69 u70 u71 u72 u73 u74 u75 u76 u78 u79 u80 u81 u82 u83 u84 u85 u86 u87 u88 u89 u90 u91 u92 u93 u94 u95 u96 u97 u98 u99 u100 u101 u102 u103 u104 u105 u106 u107 u108 u109 u110 u111 u112 u113 u114 u115 u116 u117 u118 u119 u120 u121 u122:Value):
  ItemsWp Try.prog [.inRegion ops3r [5,6,7,8,9,10],.code (d3 6)] (FinT 6 u) ⟨#[.slice va m vc,u1,u2,u3,u4,u5,u6,.int .i64 (n:Int),u8,.int .i64 tot,u10,u11,u12,u13,u14,u15,u16,u17,u18,u19,u20,u21,u22,u23,u24,u25,u26,u27,u28,u29,u30,u31,u32,u33,u34,u35,u36,u37,u38,u39,u40,u41,u42,u43,u44,u45,u46,u47,u48,u49,u50,u51,u52,u53,u54,u55,u56,u57,u58,u59,u60,u61,u62,u63,u64,u65,u66,u67,u68,u69,u70,u71,u72,u73,u74,u75,u76,.tuple #[.agg #[v0,v1,v2],.int .i64 0],u78,u79,u80,u81,u82,u83,u84,u85,u86,u87,u88,u89,u90,u91,u92,u93,u94,u95,u96,u97,u98,u99,u100,u101,u102,u103,u104,u105,u106,u107,u108,u109,u110,u111,u112,u113,u114,u115,u116,u117,u118,u119,u120,u121,u122],[]⟩ u:=by
 obtain⟨⟨a0,k0,rfl,r0⟩,⟨a1,k1,rfl,r1⟩,⟨a2,k2,rfl,r2⟩⟩:=hR
 have R1:=Lib.hid r1
 have H0:=Lib.hid h0
 have HI:=Lib.hid hi
 obtain⟨hn2,hn8⟩:=hn
 have e1:IntKind.i64.wrap ((n:Int)-1)=((n-1:Nat):Int):=by rw[IntWalk.i64_in _ (by omega)];omega
 have hb:(n-1)*m≤7*10:=Nat.mul_le_mul (by omega) hm
 have e2:IntKind.i64.wrap (((n-1:Nat):Int)*(m:Int))=(((n-1)*m:Nat):Int):=by
  rw[←Int.natCast_mul,IntWalk.i64_in _ (by omega)]
 have HL:=Lib.hid hl
 have HS:=Lib.hid hs
 clear r0 r1 r2 h0 hi hl hs
 generalize hll:S'.length=ll at*
 generalize hsl:sums.length=sl at*
 have HSL:=Lib.hid hsl
 clear hll hsl
 obtain rfl:sl=n:=HS.out
 have b1:((ll:Int)!=(((sl-1)*m:Nat):Int))=false:=by simp[HL.out]
 clear HS
 refine ItemsWp.then (k:=5) (l:=ops3r.toList.drop 5) rfl rfl fun K hK=>?_
 conv in(occs:= *) ops3r=>
  all_goals
   unfold ops3r opsR d3 d3 d3 d3 d3 d3 b3
   whnf
 unfold d3 d3 d3 d3 d3 d3 d3 b3 at hK
 conv at hK in Option.getD _ _=>whnf
 dsimp only[sndOf,fstOf] at hK
 simp only[List.drop_succ_cons,List.drop_zero]
 have NX:=Lib.hid (Blk.new u 32 [.slice a0 ll k0,.slice a1 sl k1,.slice a2 0 k2])
 have B0:Hid (Below u.heap.size u (u.alloc (.cells #[.slice a0 ll k0,.slice a1 sl k1,.slice a2 0 k2] 32))):=Lib.hid ((Below.refl _ _).alloc (Nat.le_refl _) _)
 simp only[List.length_nil] at*
 go_wp2_with fail
 obtain⟨W,hW⟩:∃W,W=u.alloc (.cells #[.slice a0 ll k0,.slice a1 sl k1,.slice a2 0 k2] 32):=⟨_,rfl⟩
 rw[←hW] at NX B0⊢
 have z1:W.cell? ⟨u.heap.size,1,none⟩=some (.slice a1 sl k1):=NX.out.cell (i:=1) rfl
 have RW:=Lib.hid (R1.out.reads (Reads.below B0.out))
 clear hW NX R1 e1 e2 b1
 go_loopw [16] (fun v wx=>∃i:Nat,1≤i∧i≤sl∧v= .int .i64 (i:Int)∧wx=W) (fun v _=>sl-(intOf v).toNat)
 case atStart=>exact⟨1,Nat.le_refl _,by omega,rfl,rfl⟩
 case round=>
  obtain⟨i,h1,h2,rfl,rfl⟩:=hrel
  by_cases hit:i<sl
  ·have hin:(i:Int)<(sl:Int):=by omega
   obtain⟨okx,cx⟩:=RW.out i tot (HI.out i (by omega) hit)
   have bt:(tot !=tot)=false:=by simp
   go_wp2_with fail
   go_roundw
   case rel=>exact⟨i+1,by omega,by omega,by go_num,trivial⟩
   case measure=>(simp[intOf];omega)
  ·obtain⟨okx,cx⟩:=RW.out 0 0 H0.out
   have h0n:0<sl:=by omega
   have hie:i=sl:=by omega
   subst hie
   go_wp2_with fail
   exact⟨rfl,rfl,B0.out⟩
end
section
open Go Go.ConcN Go.Proofs.Ytbjlijagheifgaa
theorem pipe_valid{n:Nat}{vs:List Int}{L:List TkD}(hn:2≤n∧n≤8)(hL:L.map TkD.ops=(List.range n).map fun i=>pipeT n i vs)(hv:∀v∈vs, -32768≤v∧v≤32767)(hl:vs.length≤10):validT ((n:Int)-1) L=true:=by
 unfold validT
 simp only[Bool.and_eq_true,decide_eq_true_eq,List.all_eq_true]
 refine⟨by rw[pip_len hL];omega,by omega,by omega,fun t ht=>?_⟩
 obtain⟨i,hi⟩:=List.getElem?_of_mem ht
 have hin:i<n:=by rw[←pip_len hL];exact(List.getElem?_eq_some_iff.1 hi).1
 obtain⟨t',ht',ho⟩:=pip_ops hL hin
 obtain rfl:t=t':=Option.some.inj (hi.symm.trans ht')
 unfold validL
 simp only[Bool.and_eq_true,decide_eq_true_eq,List.all_eq_true]
 refine⟨by rw[ho,pipe_len hn.1 hin];split<;>split<;>omega,fun x hx=>?_⟩
 rw[ho] at hx
 unfold pipeT at hx
 obtain⟨v,hvm,hm⟩:=List.mem_flatMap.1 hx
 have hb:=hv v hvm
 rcases List.mem_append.1 hm with hm|hm
 ·split at hm
  ·simp only[List.mem_cons,List.not_mem_nil,or_false] at hm
   subst hm
   show(if(2:Int)=1 then _ else if(2:Int)=2 then chOk _ _ else _)=true
   rw[if_neg (by decide),if_pos rfl]
   unfold chOk
   simp only[Bool.and_eq_true,decide_eq_true_eq]
   show(0:Int)≤((i-1:Nat):Int)∧((i-1:Nat):Int)<(n:Int)-1
   omega
  ·cases hm
 ·split at hm
  ·simp only[List.mem_cons,List.not_mem_nil,or_false] at hm
   subst hm
   show(if(1:Int)=1 then chOk _ _&&vlOk _ else _)=true
   rw[if_pos rfl]
   unfold chOk vlOk
   simp only[Bool.and_eq_true,decide_eq_true_eq]
   show((0:Int)≤(i:Int)∧(i:Int)<(n:Int)-1)∧(-1073741824≤v∧v≤1073741824)
   omega
  ·cases hm
end
end Go.Side
