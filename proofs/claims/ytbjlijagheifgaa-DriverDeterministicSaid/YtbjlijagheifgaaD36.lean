/-
  Texts of Ytbjlijagheifgaa, merged.
-/
import Derived.Test.YtbjlijagheifgaaD35
set_option linter.unusedSimpArgs false
set_option linter.unusedVariables false
namespace Go.Proofs.Ytbjlijagheifgaa
section
open Go.RowKit
set_option maxHeartbeats 8000000 in
set_option maxRecDepth 100000 in
theorem valid_any(w:World)(x:OpD)(ch:Int)(ho:OpOk w x):
  Calls Try.prog 35 #[x.agg,.int .i64 ch] w fun e w'=>e= .returned (.bool (validO ch x))∧Below w.heap.size w w':=by
 have O:=Lib.hid ho
 clear ho
 obtain⟨kd,cn,vl,ea,ec,el⟩:=x
 unfold OpD.agg OpD.ev
 dsimp only
 generalize hx:(⟨kd,cn,vl,ea,ec,el⟩:OpD)=x at*
 have q1:chOk ch x=(decide (0≤cn)&&decide (cn<ch)):=by subst hx;rfl
 have q2:vlOk x=(decide (-1073741824≤vl)&&decide (vl≤1073741824)):=by subst hx;rfl
 have q3:validO ch x=if kd=1 then chOk ch x&&vlOk x else if kd=2 then chOk ch x else if kd=4 then vlOk x else if kd=3 then eithOk ch el&&decide (0<el.length) else false:=by subst hx;rfl
 have q4:Sl (Value.int .i64) w ea el:=by subst hx;exact O.out.sl
 have q5:el.length≤maxLen:=by subst hx;exact O.out.len
 have q6:el.length≤ec∧ec≤maxLen:=by subst hx;exact O.out.cap
 have Q6:=Lib.hid q6
 clear q6
 have Q3:=Lib.hid q3
 clear q3 O hx
 have BB:Hid (Below w.heap.size w (w.alloc (.cells #[.int .i64 kd,.int .i64 cn,.int .i64 vl,.slice ea el.length ec] 29))):=Lib.hid ((Below.refl _ _).alloc (Nat.le_refl _) _)
 have SS:=Lib.hid (q4.below BB.out)
 have BK:=Lib.hid (Blk.new w 29 [.int .i64 kd,.int .i64 cn,.int .i64 vl,.slice ea el.length ec])
 clear q4
 have Q5:=Lib.hid q5
 clear q5
 go_enter Try.func35,Try.ntmps35
 go_upto_region 1 with(fail)
 generalize w.alloc (.cells #[.int .i64 kd,.int .i64 cn,.int .i64 vl,.slice ea el.length ec] 29)=W at*
 have BK':Hid (Blk W w.heap.size 29 [.int .i64 kd,.int .i64 cn,.int .i64 vl,.slice ea el.length ec]):=BK
 clear BK
 have c0:=BK'.out.cell (i:=0) rfl
 have c1:=BK'.out.cell (i:=1) rfl
 have c2:=BK'.out.cell (i:=2) rfl
 have c3:=BK'.out.cell (i:=3) rfl
 generalize hbx:w.heap.size=bx at*
 have HBX:=Lib.hid hbx
 clear hbx
 have Q1:=Lib.hid q1
 have Q2:=Lib.hid q2
 clear q1 q2
 go_cut [5] (fun v wx=>v= .bool (chOk ch x)∧wx=W)
 case first=>
  by_cases h1:0≤cn
  ·by_cases h2:cn<ch
   ·have e1:decide (cn≥0)=true:=by simpa using h1
    have e2:decide (cn<ch)=true:=by simpa using h2
    have E3:Hid (chOk ch x=true):=Lib.hid (by rw[Q1.out];simp[h1,h2])
    clear h1 h2
    go_wp2_with fail
    go_meet
    exact⟨by rw[E3.out],rfl⟩
   ·have e1:decide (cn≥0)=true:=by simpa using h1
    have e2:decide (cn<ch)=false:=by simpa using h2
    have E3:Hid (chOk ch x=false):=Lib.hid (by rw[Q1.out];simp[h1,h2])
    clear h1 h2
    go_wp2_with fail
    go_meet
    exact⟨by rw[E3.out],rfl⟩
  ·have e1:decide (cn≥0)=false:=by simpa using h1
   have E3:Hid (chOk ch x=false):=Lib.hid (by rw[Q1.out];simp[h1])
   clear h1
   go_wp2_with fail
   go_meet
   exact⟨by rw[E3.out],rfl⟩
 case rest=>
  obtain⟨rfl,rfl⟩:=hcut
  generalize chOk ch x=cb at*
  clear Q1
  go_upto_region 2 with(fail)
  go_cut [6] (fun v wx=>v= .bool (vlOk x)∧wx=wc)
  case first=>
   by_cases h1: -1073741824≤vl
   ·by_cases h2:vl≤1073741824
    ·have e1:decide (vl≥ -1073741824)=true:=by simpa using h1
     have e2:decide (vl≤1073741824)=true:=by simpa using h2
     have E3:Hid (vlOk x=true):=Lib.hid (by rw[Q2.out];simp[h1,h2])
     clear h1 h2
     go_wp2_with fail
     go_meet
     exact⟨by rw[E3.out],rfl⟩
    ·have e1:decide (vl≥ -1073741824)=true:=by simpa using h1
     have e2:decide (vl≤1073741824)=false:=by simpa using h2
     have E3:Hid (vlOk x=false):=Lib.hid (by rw[Q2.out];simp[h1,h2])
     clear h1 h2
     go_wp2_with fail
     go_meet
     exact⟨by rw[E3.out],rfl⟩
   ·have e1:decide (vl≥ -1073741824)=false:=by simpa using h1
    have E3:Hid (vlOk x=false):=Lib.hid (by rw[Q2.out];simp[h1])
    clear h1
    go_wp2_with fail
    go_meet
    exact⟨by rw[E3.out],rfl⟩
  case rest=>
   obtain⟨rfl,rfl⟩:=hcut
   generalize vlOk x=vb at*
   clear Q2
   by_cases k1:kd=1
   ·subst k1
    cases cb with
    |true=>
     go_wp2_with fail
     go_ret
     exact⟨by rw[Q3.out];simp,by rw[HBX.out];exact BB.out⟩
    |false=>
     go_wp2_with fail
     go_ret
     exact⟨by rw[Q3.out];simp,by rw[HBX.out];exact BB.out⟩
   ·by_cases k2:kd=2
    ·subst k2
     go_wp2_with fail
     go_ret
     exact⟨by rw[Q3.out];simp,by rw[HBX.out];exact BB.out⟩
    ·by_cases k4:kd=4
     ·subst k4
      go_wp2_with fail
      go_ret
      exact⟨by rw[Q3.out];simp,by rw[HBX.out];exact BB.out⟩
     ·have b1:(kd==1)=false:=by simpa using k1
      have b2:(kd==2)=false:=by simpa using k2
      have b4:(kd==4)=false:=by simpa using k4
      by_cases k3:kd=3
      ·subst k3
       have E:Hid (validO ch x=(eithOk ch el&&decide (0<el.length))):=Lib.hid (by rw[Q3.out];simp)
       clear k1 k2 k4 Q3 b1 b2 b4
       go_wp2_with fail
       go_loopw [45] (fun k wr=>∃i,i≤el.length∧k= .int .i64 (i:Int)∧eithTo ch el i=true∧wr=wc) (fun k _=>el.length-(intOf k).toNat)
       case atStart=>exact⟨0,Nat.zero_le _,rfl,rfl,rfl⟩
       case round=>
        obtain⟨i,hi,rfl,ht,rfl⟩:=hrel
        have HT:=Lib.hid ht
        clear ht
        by_cases hlt:i<el.length
        ·obtain⟨c,hc,hok,hcell⟩:=SS.out.get hlt
         obtain⟨eb,eo,rfl⟩:=okAd_mk hok
         rw[adr_mk] at hcell
         have ES:=Lib.hid (eithTo_succ (ch:=ch) hc.out)
         have hcap:=Q6.out.1
         have hcm:=Q6.out.2
         have hlm:=Q5.out
         unfold maxLen at hcm hlm
         have hin:(i:Int)<(el.length:Int):=by omega
         have CT:Hid (Calls Try.prog 61 #[.slice (some ⟨eb,eo,none⟩) i ec,.int .i64 c] wr fun e w'=>e= .returned (.bool (decide (c∈el.take i)))∧w'=wr):=Lib.hid (by
          have h:=containsInt_any wr (some ⟨eb,eo,none⟩) ec (el.take i) c (fun j y hj=>SS.out j y (by rw[List.getElem?_take] at hj;split at hj<;>first|exact hj|cases hj)) (by rw[List.length_take];unfold maxLen;omega)
          rw[List.length_take,Nat.min_eq_left hi] at h
          exact h)
         have FN:Hid (∀b:Bool,(decide (0≤c)&&(decide (c<ch)&& !decide (c∈el.take i)))=b→eithTo ch el (i+1)=b):=Lib.hid fun b hb=>by rw[ES.out,HT.out,hb];rfl
         have BD:Hid (eithTo ch el (i+1)=false→validO ch x=false):=Lib.hid fun h=>by
          have h2:eithOk ch el=false:=eithTo_mono (by omega) h
          rw[E.out,h2];rfl
         clear hc HT ES hok
         by_cases h1:c<0
         ·have g1:decide (c<0)=true:=by simpa using h1
          have X:Hid (validO ch x=false):=Lib.hid (BD.out (FN.out _ (by simp;intro h;omega)))
          clear h1 FN BD
          go_wp2_with fail
          go_ret
          exact⟨by rw[X.out];rfl,by rw[HBX.out];exact BB.out⟩
         ·have g1:decide (c<0)=false:=by simpa using h1
          by_cases h2:c≥ch
          ·have g2:decide (c≥ch)=true:=by simpa using h2
           have X:Hid (validO ch x=false):=Lib.hid (BD.out (FN.out _ (by simp;intro h h';omega)))
           clear h1 h2 FN BD
           go_wp2_with fail
           go_ret
           exact⟨by rw[X.out];rfl,by rw[HBX.out];exact BB.out⟩
          ·have g2:decide (c≥ch)=false:=by simpa using h2
           cases hct:decide (c∈el.take i) with
           |true=>
            have X:Hid (validO ch x=false):=Lib.hid (BD.out (FN.out _ (by rw[hct];simp)))
            rw[hct] at CT
            clear h1 h2 FN BD hct
            go_wp2_with fail
            refine CT.out.mono ?_
            rintro e w9 ⟨rfl,rfl⟩
            go_wp2_with fail
            go_ret
            exact⟨by rw[X.out];rfl,by rw[HBX.out];exact BB.out⟩
           |false=>
            have X:Hid (eithTo ch el (i+1)=true):=Lib.hid (FN.out _ (by rw[hct];simp;omega))
            rw[hct] at CT
            clear h1 h2 FN BD hct
            go_wp2_with fail
            refine CT.out.mono ?_
            rintro e w9 ⟨rfl,rfl⟩
            go_wp2_with fail
            go_roundw
            case rel=>exact⟨i+1,by omega,by go_num,X.out,trivial⟩
            case measure=>simp[intOf];omega
        ·obtain rfl:i=el.length:=by omega
         have E4:Hid (eithOk ch el=true):=HT
         have X:Hid (validO ch x=decide (0<el.length)):=Lib.hid (by rw[E.out,E4.out];rfl)
         clear HT E E4
         go_wp2_with fail
         go_ret
         exact⟨by rw[X.out];simp,by rw[HBX.out];exact BB.out⟩
      ·have b3:(kd==3)=false:=by simpa using k3
       have E:Hid (validO ch x=false):=Lib.hid (by rw[Q3.out,if_neg k1,if_neg k2,if_neg k4,if_neg k3])
       clear k1 k2 k3 k4
       go_wp2_with fail
       go_ret
       exact⟨by rw[E.out];rfl,by rw[HBX.out];exact BB.out⟩
def validTo(ch:Int)(L:List TkD)(i:Nat):Bool:=(L.take i).all fun t=>validL ch t.ops
theorem validTo_succ{ch:Int}{L:List TkD}{i:Nat}{t:TkD}(h:L[i]?=some t):validTo ch L (i+1)=(validTo ch L i&&validL ch t.ops):=by
 unfold validTo
 rw[List.take_add_one,h,List.all_append]
 simp
theorem all_false{α:Type}{p:α→Bool}{l:List α}{i:Nat}{t:α}(h:l[i]?=some t)(hp:p t=false):l.all p=false:=by
 rw[List.all_eq_false]
 exact⟨t,List.mem_of_getElem? h,by rw[hp];simp⟩
def goodTo(ch:Int)(l:List OpD)(i:Nat):Bool:=(l.take i).all (validO ch)
theorem goodTo_succ{ch:Int}{l:List OpD}{i:Nat}{x:OpD}(h:l[i]?=some x):goodTo ch l (i+1)=(goodTo ch l i&&validO ch x):=by
 unfold goodTo
 rw[List.take_add_one,h,List.all_append]
 simp
def VlPost(w:World)(b:Bool)(e:Ending)(w':World):Prop:=e= .returned (.bool b)∧Below w.heap.size w w'
set_option maxHeartbeats 8000000 in
set_option maxRecDepth 100000 in
theorem validT_any(w:World)(a:Option Addr)(c:Nat)(L:List TkD)(ch:Int)(hs:SlT w a L)(hl:L.length≤maxLen):
  Calls Try.prog 16 #[.slice a L.length c,.int .i64 ch] w (VlPost w (validT ch L)):=by
 have S:=Lib.hid hs
 clear hs
 unfold maxLen at hl
 by_cases h1:L.length≤8
 case neg=>
  have E:Hid (validT ch L=false):=Lib.hid (by simp[validT,h1])
  have g1:decide ((L.length:Int)>8)=true:=by simp;omega
  generalize L.length=n at*
  clear h1
  go_enter Try.func16,Try.ntmps16
  go_wp2_with fail
  go_ret
  exact⟨by rw[E.out];rfl,Below.refl _ _⟩
 have g1:decide ((L.length:Int)>8)=false:=by simp;omega
 by_cases h2:ch<0
 ·have E:Hid (validT ch L=false):=Lib.hid (by have:¬0≤ch:=(by omega);simp[validT,this])
  have g2:decide (ch<0)=true:=by simpa using h2
  clear h2 h1
  go_enter Try.func16,Try.ntmps16
  go_wp2_with fail
  go_ret
  exact⟨by rw[E.out];rfl,Below.refl _ _⟩
 have g2:decide (ch<0)=false:=by simpa using h2
 by_cases h3:ch>8
 ·have E:Hid (validT ch L=false):=Lib.hid (by have:¬ch≤8:=(by omega);simp[validT,this])
  have g3:decide (ch>8)=true:=by simpa using h3
  clear h1 h2 h3
  go_enter Try.func16,Try.ntmps16
  go_wp2_with fail
  go_ret
  exact⟨by rw[E.out];rfl,Below.refl _ _⟩
 have g3:decide (ch>8)=false:=by simpa using h3
 have E:Hid (validT ch L=L.all fun t=>validL ch t.ops):=Lib.hid (by have e1:0≤ch:=(by omega);have e2:ch≤8:=(by omega);simp[validT,h1,e1,e2])
 clear h2 h3
 go_enter Try.func16,Try.ntmps16
 go_wp2_with fail
 go_loopw [22] (fun k wr=>∃i,i≤L.length∧k= .int .i64 (i:Int)∧validTo ch L i=true∧Below w.heap.size w wr) (fun k _=>L.length-(intOf k).toNat)
 case atStart=>exact⟨0,Nat.zero_le _,rfl,rfl,Below.refl _ _⟩
 case round=>
  obtain⟨i,hi,rfl,ht,hb⟩:=hrel
  have HT:=Lib.hid ht
  have HB:=Lib.hid hb
  clear ht hb
  by_cases hlt:i<L.length
  ·obtain⟨t,htk,hok,hcell,hto⟩:=(S.out.reads (Reads.below HB.out)).get hlt
   have hin:(i:Int)<(L.length:Int):=by omega
   by_cases h30:t.ops.length≤30
   case neg=>
    have X:Hid (validT ch L=false):=Lib.hid (by rw[E.out];exact all_false htk.out (by simp[validL,h30]))
    have g4:decide ((t.ops.length:Int)>30)=true:=by simp;omega
    clear h30
    go_wp2_with fail
    go_ret
    exact⟨by rw[X.out];rfl,HB.out⟩
   have g4:decide ((t.ops.length:Int)>30)=false:=by simp;omega
   go_wp2_with fail
   go_loopw [31] (fun k wx=>∃j,j≤t.ops.length∧k= .int .i64 (j:Int)∧goodTo ch t.ops j=true∧Below w.heap.size w wx) (fun k _=>t.ops.length-(intOf k).toNat)
   case atStart=>exact⟨0,Nat.zero_le _,rfl,rfl,HB.out⟩
   case round=>
    clear hcell hok g4
    obtain⟨j,hj,rfl,hg,hb⟩:=hrel
    have HG:=Lib.hid hg
    have HB2:=Lib.hid hb
    clear hg hb
    have T2:Hid (TkOk wr t):=by
     obtain⟨t',e1,_,_,e2⟩:=(S.out.reads (Reads.below HB2.out)).get hlt
     have:t'=t:=Option.some.inj (e1.out.symm.trans htk.out)
     rw[this] at e2;exact e2
    by_cases hjt:j<t.ops.length
    ·obtain⟨x,hx,hok,c0,c1,c2,c3⟩:=T2.out.row.get hjt
     have hjn:(j:Int)<(t.ops.length:Int):=by omega
     have FV:Hid (∀W,Below wr.heap.size wr W→Calls Try.prog 35 #[x.agg,.int .i64 ch] W fun e w'=>e= .returned (.bool (validO ch x))∧Below W.heap.size W w'):=Lib.hid fun W hW=>valid_any W x ch ((T2.out.ops x (List.mem_of_getElem? hx.out)).reads (Reads.below hW))
     have GS:=Lib.hid (goodTo_succ (ch:=ch) hx.out)
     have FX:=Lib.hid (FV.out _ ((Below.refl _ wr).alloc (Nat.le_refl _) (.cells #[.int .i64 x.kind,.int .i64 x.chan,.int .i64 x.val,.slice x.ea x.el.length x.ec] 29)))
     have BX:=Lib.hid (HB2.out.alloc HB2.out.size (.cells #[.int .i64 x.kind,.int .i64 x.chan,.int .i64 x.val,.slice x.ea x.el.length x.ec] 29))
     have GX:Hid (validO ch x=false→validT ch L=false):=Lib.hid fun h=>by
      rw[E.out];exact all_false htk.out (by unfold validL;rw[all_false hx.out h,Bool.and_false])
     clear FV hx T2
     obtain⟨kd,cn,vl,ea,ec,el⟩:=x
     unfold OpD.agg OpD.ev at FX
     dsimp only at FX BX c0 c1 c2 c3
     cases hv:validO ch ⟨kd,cn,vl,ea,ec,el⟩ with
     |true=>
      rw[hv] at FX
      have X:Hid (goodTo ch t.ops (j+1)=true):=Lib.hid (by rw[GS.out,HG.out,hv];rfl)
      clear hv GS GX
      go_wp2_with fail
      refine FX.out.mono ?_
      rintro e w9 ⟨rfl,hb9⟩
      have B9:=Lib.hid (BX.out.trans (hb9.mono BX.out.size))
      clear hb9
      go_wp2_with fail
      go_roundw
      case rel=>exact⟨j+1,by omega,by go_num,X.out,B9.out⟩
      case measure=>simp[intOf];omega
     |false=>
      rw[hv] at FX
      have X:=Lib.hid (GX.out hv)
      clear hv GS GX
      go_wp2_with fail
      refine FX.out.mono ?_
      rintro e w9 ⟨rfl,hb9⟩
      have B9:=Lib.hid (BX.out.trans (hb9.mono BX.out.size))
      clear hb9
      go_wp2_with fail
      go_ret
      exact⟨by rw[X.out];rfl,B9.out⟩
    ·obtain rfl:j=t.ops.length:=by omega
     have X:Hid (validTo ch L (i+1)=true):=Lib.hid (by
      have h9:(t.ops.all (validO ch))=true:=by have:=HG.out;unfold goodTo at this;rwa[List.take_length] at this
      rw[validTo_succ htk.out,HT.out,Bool.true_and];simp only[validL,h9,Bool.and_true];simpa using h30)
     clear h30
     go_wp2_with fail
     go_roundw
     case rel=>exact⟨i+1,by omega,by go_num,X.out,HB2.out⟩
     case measure=>simp[intOf];omega
  ·obtain rfl:i=L.length:=by omega
   have X:Hid (validT ch L=true):=Lib.hid (by rw[E.out];have:=HT.out;unfold validTo at this;rwa[List.take_length] at this)
   go_wp2_with fail
   go_ret
   exact⟨by rw[X.out];rfl,HB.out⟩
end
end Go.Proofs.Ytbjlijagheifgaa
namespace Go.Side
section
open Go Go.Conc Go.ConcN Go.Proofs Go.RowKit Go.Proofs.Ytbjlijagheifgaa
def opv(x:OpD):OpV:=⟨x.kind,x.chan,x.val,x.ev⟩
def tkr(t:TkD):TaskR:=⟨t.a,t.c,t.ops.map opv⟩
open Classical in
noncomputable def EL(L:List TkD)(y:OpV):List Int:=if h:∃x,(∃t∈L,x∈t.ops)∧opv x=y then h.choose.el else[]
theorem sl_inj{u:World}{a:Option Addr}{xs ys:List Int}(h:Sl (Value.int .i64) u a xs)(k:Sl (Value.int .i64) u a ys)(hl:xs.length=ys.length):xs=ys:=by
 apply List.ext_getElem?
 intro j
 rcases Nat.lt_or_ge j xs.length with hj|hj
 ·have h1:=(h j _ (List.getElem?_eq_getElem hj)).2
  have h2:=(k j _ (List.getElem?_eq_getElem (hl▸hj))).2
  rw[h1] at h2
  simp only[Option.some.injEq,Value.int.injEq,true_and] at h2
  rw[List.getElem?_eq_getElem hj,List.getElem?_eq_getElem (hl▸hj),h2]
 ·rw[List.getElem?_eq_none hj,List.getElem?_eq_none (hl▸hj)]
theorem EL_eq{u:World}{a:Option Addr}{L:List TkD}(h:SlT u a L){t:TkD}(ht:t∈L){x:OpD}(hx:x∈t.ops):EL L (opv x)=x.el:=by
 have hex:∃x',(∃t∈L,x'∈t.ops)∧opv x'=opv x:=⟨x,⟨t,ht,hx⟩,rfl⟩
 unfold EL
 rw[dif_pos hex]
 obtain⟨⟨t',ht',hx'⟩,he⟩:=hex.choose_spec
 generalize hex.choose=x' at*
 obtain⟨j,hj⟩:=List.mem_iff_getElem?.1 ht
 obtain⟨j',hj'⟩:=List.mem_iff_getElem?.1 ht'
 have o1:=(h j t hj).2.2.ops x hx
 have o2:=(h j' t' hj').2.2.ops x' hx'
 simp only[opv,OpD.ev,OpV.mk.injEq,Value.slice.injEq] at he
 obtain⟨_,_,_,e1,e2,_⟩:=he
 have o2':=o2.sl
 rw[e1] at o2'
 exact sl_inj o2' o1.sl e2
theorem runIn_of{u:World}{pt pc:Option Addr}{L:List TkD}{ch:List Int}(h:SlT u pt L)(hc:Sl (Value.int .i64) u pc ch)(hel:∀t∈L,∀x∈t.ops,x.el.length≤1000000):RunIn u pt (L.map tkr) (EL L) pc ch:=by
 refine⟨fun j x hj=>?_,fun x hx y hy=>?_,hc⟩
 ·rw[List.getElem?_map] at hj
  obtain⟨t,ht,rfl⟩:=Option.map_eq_some_iff.1 hj
  obtain⟨h1,h2,h3⟩:=h j t ht
  obtain⟨b,o,rfl⟩:=okAd_mk h1
  refine⟨⟨b,o,rfl,by simpa[tkr,adr_mk] using h2⟩,fun i y hi=>?_⟩
  simp only[tkr,List.getElem?_map] at hi
  obtain⟨z,hz,rfl⟩:=Option.map_eq_some_iff.1 hi
  obtain⟨g1,g2,g3,g4,g5⟩:=h3.row i z hz
  obtain⟨b',o',e⟩:=okAd_mk g1
  refine⟨b',o',e,?_,_,_,_,rfl⟩
  rw[e] at g2 g3 g4 g5
  simp only[adr_mk] at g2 g3 g4 g5
  exact⟨by simpa[opv,Nat.add_assoc] using g2,by simpa[opv,Nat.add_assoc] using g3,by simpa[opv,Nat.add_assoc] using g4,by simpa[opv,Nat.add_assoc] using g5⟩
 ·obtain⟨t,ht,rfl⟩:=List.mem_map.1 hx
  obtain⟨z,hz,rfl⟩:=List.mem_map.1 hy
  rw[EL_eq h ht hz]
  obtain⟨j,hj⟩:=List.mem_iff_getElem?.1 ht
  have o1:=(h j t hj).2.2.ops z hz
  exact⟨z.ea,z.ec,rfl,o1.sl,hel t ht z hz⟩
def fstOf:Code→Code
 | .seq a _=>a
 |c=>c
def sndOf:Code→Code
 | .seq _ b=>b
 |c=>c
noncomputable def b12:Code:=Try.f12.body.getD .skip
noncomputable def r12_0:Code:=fstOf b12
noncomputable def s12_0:Code:=sndOf b12
noncomputable def a12_1:Code:=fstOf s12_0
theorem b12_eq:b12= .seq r12_0 s12_0:=by rfl
theorem s12_eq:s12_0= .seq a12_1 t12_3:=by rfl
theorem r12_0_plain:([Item.code r12_0].all (itemPlain false none Try.prog lawFns))=true:=by kernel_rfl
theorem a12_1_plain:([Item.code a12_1].all (itemPlain false none Try.prog lawFns))=true:=by kernel_rfl
set_option maxRecDepth 100000 in
set_option maxHeartbeats 4000000 in
theorem wp_r12_0(u:World)(u0 u1 u2 u3 u4 u5 u6 u7 u8 u9 u10 u11 u12 u13 u14 u15 u16 u17 u18 u19 u20 u21 u22 u23 u24 u25 u26 u27 u28 u29 u30 u31 u32 u33 u34 u35 u36 u37 u38 u39 u40 u41 u42 u43 u44 u45 u46 u47 u48 u49 u50 u51 u52 u53 u54 u55 u56 u57 u58 u59 u60 u61 u62 u63 u64 u65 u66 u67 u68 u69 u70 u71 u72 u73 u74 u75 u76 u77 u78:Value):
  r12_0.wp Try.prog (fun e a' u'=>e= .normal∧a'=⟨#[u0,u1,u2,u3,u4,u5,.pointer (some ⟨u.heap.size,0,none⟩),.int .i64 0,u8,u9,u10,u11,u12,u13,u14,u15,u16,u17,u18,u19,u20,u21,u22,u23,u24,u25,u26,u27,u28,u29,u30,u31,u32,u33,u34,u35,u36,u37,u38,u39,u40,u41,u42,u43,u44,u45,u46,u47,u48,u49,u50,u51,u52,u53,u54,u55,u56,u57,u58,u59,u60,u61,u62,u63,u64,u65,u66,u67,u68,u69,u70,u71,u72,u73,u74,u75,u76,u77,u78],[]⟩∧u'=u.alloc (.cells #[.slice none 0 0,.slice none 0 0,.slice none 0 0] 32)) ⟨#[u0,u1,u2,u3,u4,u5,u6,u7,u8,u9,u10,u11,u12,u13,u14,u15,u16,u17,u18,u19,u20,u21,u22,u23,u24,u25,u26,u27,u28,u29,u30,u31,u32,u33,u34,u35,u36,u37,u38,u39,u40,u41,u42,u43,u44,u45,u46,u47,u48,u49,u50,u51,u52,u53,u54,u55,u56,u57,u58,u59,u60,u61,u62,u63,u64,u65,u66,u67,u68,u69,u70,u71,u72,u73,u74,u75,u76,u77,u78],[]⟩ u:=by
 unfold r12_0 fstOf b12
 conv in Option.getD _ _=>whnf
 dsimp only
 go_wp2_with fail
def A1Post(u:World)(rb:Nat)(b:Bool)(nx:Value→Value→Value→Value→Act)(e:Exit)(a':Act)(u':World):Prop:=
 (b=true∧e= .normal∧(∃v1 v2 v3 v4,a'=nx v1 v2 v3 v4)∧Below u.heap.size u u')∨
 (b=false∧e= .ret∧a'.tmps.getD 6 undef= .pointer (some ⟨rb,0,none⟩)∧a'.tmps.getD 7 undef= .int .i64 1∧Blk u' rb 32 [.slice none 0 0,.slice none 0 0,.slice none 0 0]∧Upd (fun k=>k=rb) u u')
set_option maxRecDepth 100000 in
set_option maxHeartbeats 4000000 in
theorem wp_a12_1(u:World)(pt:Option Addr)(ct rb:Nat)(L:List TkD)(ch:Int)(hs:SlT u pt L)(hl:L.length≤maxLen)(hb:Blk u rb 32 [.slice none 0 0,.slice none 0 0,.slice none 0 0])(u2 u3 u4 u5 u7 u8 u9 u10 u11 u12 u13 u14 u15 u16 u17 u18 u19 u20 u21 u22 u23 u24 u25 u26 u27 u28 u29 u30 u31 u32 u33 u34 u35 u36 u37 u38 u39 u40 u41 u42 u43 u44 u45 u46 u47 u48 u49 u50 u51 u52 u53 u54 u55 u56 u57 u58 u59 u60 u61 u62 u63 u64 u65 u66 u67 u68 u69 u70 u71 u72 u73 u74 u75 u76 u77 u78:Value):
  a12_1.wp Try.prog (A1Post u rb (validT ch L) fun v1 v2 v3 v4=>⟨#[.slice pt L.length ct,.int .i64 ch,u2,u3,u4,u5,.pointer (some ⟨rb,0,none⟩),u7,u8,u9,u10,u11,u12,u13,u14,u15,u16,v1,v2,v3,v4,u21,u22,u23,u24,u25,u26,u27,u28,u29,u30,u31,u32,u33,u34,u35,u36,u37,u38,u39,u40,u41,u42,u43,u44,u45,u46,u47,u48,u49,u50,u51,u52,u53,u54,u55,u56,u57,u58,u59,u60,u61,u62,u63,u64,u65,u66,u67,u68,u69,u70,u71,u72,u73,u74,u75,u76,u77,u78],[]⟩) ⟨#[.slice pt L.length ct,.int .i64 ch,u2,u3,u4,u5,.pointer (some ⟨rb,0,none⟩),u7,u8,u9,u10,u11,u12,u13,u14,u15,u16,u17,u18,u19,u20,u21,u22,u23,u24,u25,u26,u27,u28,u29,u30,u31,u32,u33,u34,u35,u36,u37,u38,u39,u40,u41,u42,u43,u44,u45,u46,u47,u48,u49,u50,u51,u52,u53,u54,u55,u56,u57,u58,u59,u60,u61,u62,u63,u64,u65,u66,u67,u68,u69,u70,u71,u72,u73,u74,u75,u76,u77,u78],[]⟩ u:=by
 have V:=Lib.hid (validT_any u pt ct L ch hs hl)
 have HB:=Lib.hid hb
 clear hs hb
 unfold maxLen at hl
 unfold a12_1 s12_0 b12
 conv in Option.getD _ _=>whnf
 dsimp only[fstOf,sndOf]
 cases hv:validT ch L with
 |true=>
  rw[hv] at V
  clear hv
  go_wp2_with fail
  refine V.out.mono ?_
  rintro e w9 ⟨rfl,hb9⟩
  have B9:=Lib.hid hb9
  clear hb9
  go_wp2_with fail
  exact .inl ⟨rfl,rfl,⟨_,_,_,_,rfl⟩,B9.out⟩
 |false=>
  rw[hv] at V
  clear hv
  go_wp2_with fail
  refine V.out.mono ?_
  rintro e w9 ⟨rfl,hb9⟩
  have B9:=Lib.hid hb9
  have hbk:Blk w9 rb 32 [.slice none 0 0,.slice none 0 0,.slice none 0 0]:=HB.out.of_heap (B9.out.block rb HB.out.lt)
  have c0:=hbk.cell (i:=0) rfl
  have c1:=hbk.cell (i:=1) rfl
  have c2:=hbk.cell (i:=2) rfl
  have z0:=hbk.free 0
  have z1:=hbk.free 1
  have z2:=hbk.free 2
  have W3:=((hbk.set 0 (.slice none 0 0)).set 1 (.slice none 0 0)).set 2 (.slice none 0 0)
  have U3:Upd (fun k=>k=rb) u (((w9.setCell ⟨rb,0,none⟩ (.slice none 0 0)).setCell ⟨rb,1,none⟩ (.slice none 0 0)).setCell ⟨rb,2,none⟩ (.slice none 0 0)):=(((Upd.of_below (S:=fun k=>k=rb) B9.out).setCell _ _ (fun _=>rfl)).setCell _ _ (fun _=>rfl)).setCell _ _ (fun _=>rfl)
  have FN:=Lib.hid (And.intro W3 U3)
  clear W3 U3 hbk hb9
  go_wp2_with fail
  exact .inr ⟨rfl,rfl,rfl,rfl,by simpa using FN.out.1,FN.out.2⟩
theorem results12e{a:Act}{u:World}{rb:Nat}{v0 v1 v2:Value}{y:Int}(h6:a.tmps.getD 6 undef= .pointer (some ⟨rb,0,none⟩))(h7:a.tmps.getD 7 undef= .int .i64 y)(hb:Blk u rb 32 [v0,v1,v2]):
  (results Try.f12 a.tmps).run Try.prog u= .ok (.tuple #[.agg #[v0,v1,v2],.int .i64 y]) u:=results12y h6 h7 hb
def RunEnd(L:List TkD)(chs:List Int)(c':Cf)(S':List StepP):Prop:=RunTo (EL L) L.length chs (fun k=>fet ⟨taskOf (L.map tkr) k,0,none⟩) [] c' S'
set_option maxRecDepth 100000 in
set_option maxHeartbeats 4000000 in
theorem run_call{N:Nat}{Shun:Loc→Prop}{Qm:Machine→Trace→Prop}{w:World}{F:World→Prop}(K:Kn N Shun w F)(hF:ExtC F)(hN:∀u,F u→N≤u.heap.size){pt pc:Option Addr}{ct cc:Nat}{L:List TkD}{ch:Int}{chs:List Int}{cs:List Frame}{c:Frame}(hT:∀u,F u→SlT u pt L)(hC:∀u,F u→Sl (Value.int .i64) u pc chs)(hl:L.length≤maxLen)(hel:∀t∈L,∀x∈t.ops,x.el.length≤1000000)(u3 u4 u5 u6 u7 u8 u9 u10 u11 u12 u13 u14 u15 u16 u17 u18 u19 u20 u21 u22 u23 u24 u25 u26 u27 u28 u29 u30 u31 u32 u33 u34 u35 u36 u37 u38 u39 u40 u41 u42 u43 u44 u45 u46 u47 u48 u49 u50 u51 u52 u53 u54 u55 u56 u57 u58 u59 u60 u61 u62 u63 u64 u65 u66 u67 u68 u69 u70 u71 u72 u73 u74 u75 u76 u77 u78:Value)(kok:∀(c':Cf) (S':List StepP) (Shun':Loc→Prop) (w':World) (v0 v1 v2:Value),validT ch L=true→RunEnd L chs c' S'→Kn N Shun' w' (fun u=>F u∧RunRes u v0 v1 v2 S' (sumsL (cfgAll c') L.length) (stuckL (cfgEnd c') L.length))→ SB Try.prog Shun' Qm (G (c.finish (.tuple #[.agg #[v0,v1,v2],.int .i64 0])) cs) w')(kno:∀(w':World),validT ch L=false→Kn N Shun w' F→SB Try.prog Shun Qm (G (c.finish (.tuple #[.agg #[.slice none 0 0,.slice none 0 0,.slice none 0 0],.int .i64 1])) cs) w'):
  SB Try.prog Shun Qm (G ((base 12).at ⟨#[.slice pt L.length ct,.int .i64 ch,.slice pc chs.length cc,u3,u4,u5,u6,u7,u8,u9,u10,u11,u12,u13,u14,u15,u16,u17,u18,u19,u20,u21,u22,u23,u24,u25,u26,u27,u28,u29,u30,u31,u32,u33,u34,u35,u36,u37,u38,u39,u40,u41,u42,u43,u44,u45,u46,u47,u48,u49,u50,u51,u52,u53,u54,u55,u56,u57,u58,u59,u60,u61,u62,u63,u64,u65,u66,u67,u68,u69,u70,u71,u72,u73,u74,u75,u76,u77,u78],[]⟩ [.code b12]) (c::cs)) w:=by
 have H:=gait_b Try.prog Shun Qm
 rw[b12_eq]
 refine SB.into (H.seq (n:=0) (Kn.out K hF fun w₁ K₁=>?_))
 refine K₁.lone (items:=[.code r12_0]) (k:=[.code s12_0]) lawOK ⟨_,Try.func12⟩ rfl r12_0_plain rfl (Q:=fun u e a' u'=>e= .normal∧a'=⟨#[.slice pt L.length ct,.int .i64 ch,.slice pc chs.length cc,u3,u4,u5,.pointer (some ⟨u.heap.size,0,none⟩),.int .i64 0,u8,u9,u10,u11,u12,u13,u14,u15,u16,u17,u18,u19,u20,u21,u22,u23,u24,u25,u26,u27,u28,u29,u30,u31,u32,u33,u34,u35,u36,u37,u38,u39,u40,u41,u42,u43,u44,u45,u46,u47,u48,u49,u50,u51,u52,u53,u54,u55,u56,u57,u58,u59,u60,u61,u62,u63,u64,u65,u66,u67,u68,u69,u70,u71,u72,u73,u74,u75,u76,u77,u78],[]⟩∧u'=u.alloc (.cells #[.slice none 0 0,.slice none 0 0,.slice none 0 0] 32))
  (fun u e a' u' h=>.inl h.1) (fun u hu=>ItemsWp.code (wp_r12_0 u _ _ _ _ _ _ _ _ _ _ _ _ _ _ _ _ _ _ _ _ _ _ _ _ _ _ _ _ _ _ _ _ _ _ _ _ _ _ _ _ _ _ _ _ _ _ _ _ _ _ _ _ _ _ _ _ _ _ _ _ _ _ _ _ _ _ _ _ _ _ _ _ _ _ _ _ _ _ _)) (fun u a' u' w' hu ⟨_,ha,hw⟩ _ gen=>?_) (fun u a' u' w' todo _ h=>by cases h.1)
 subst ha
 subst hw
 generalize hrb:u.heap.size=rb
 let F₁:World→Prop:=fun u'=>(∃u0,F u0∧Ext u0 u'∧u0.heap.size≤rb)∧Blk u' rb 32 [.slice none 0 0,.slice none 0 0,.slice none 0 0]
 have hF₁:ExtC F₁:=fun x y e h=>⟨let⟨u0,h1,h2,h3⟩:=h.1;⟨u0,h1,h2.trans e,h3⟩,e.blk _ _ _ _ h.2⟩
 have K₂:Kn N Shun w' F₁:=gen F₁ hF₁ ⟨⟨u,hu,Ext.below ((Below.refl _ _).alloc (Nat.le_refl _) _),Nat.le_of_eq hrb⟩,by rw[←hrb];exact Blk.new u 32 [.slice none 0 0,.slice none 0 0,.slice none 0 0]⟩
 clear gen K₁ w₁
 have hF0:∀u',F₁ u'→F u':=fun u' h=>let⟨u0,h1,h2,_⟩:=h.1;hF _ _ h2 h1
 rw[s12_eq]
 refine SB.into (H.seq (n:=0) (Kn.out K₂ hF₁ fun w₂ K₃=>?_))
 refine K₃.lone (items:=[.code a12_1]) (k:=[.code t12_3]) lawOK ⟨_,Try.func12⟩ rfl a12_1_plain rfl (Q:=fun u e a' u'=>A1Post u rb (validT ch L) (fun v1 v2 v3 v4=>⟨#[.slice pt L.length ct,.int .i64 ch,.slice pc chs.length cc,u3,u4,u5,.pointer (some ⟨rb,0,none⟩),.int .i64 0,u8,u9,u10,u11,u12,u13,u14,u15,u16,v1,v2,v3,v4,u21,u22,u23,u24,u25,u26,u27,u28,u29,u30,u31,u32,u33,u34,u35,u36,u37,u38,u39,u40,u41,u42,u43,u44,u45,u46,u47,u48,u49,u50,u51,u52,u53,u54,u55,u56,u57,u58,u59,u60,u61,u62,u63,u64,u65,u66,u67,u68,u69,u70,u71,u72,u73,u74,u75,u76,u77,u78],[]⟩) e a' u')
  (fun u e a' u' h=>h.imp (fun h=>h.2.1) fun h=>h.2.1) (fun u' hu'=>ItemsWp.code (wp_a12_1 u' pt ct rb L ch (hT _ (hF0 _ hu')) hl hu'.2 _ _ _ _ _ _ _ _ _ _ _ _ _ _ _ _ _ _ _ _ _ _ _ _ _ _ _ _ _ _ _ _ _ _ _ _ _ _ _ _ _ _ _ _ _ _ _ _ _ _ _ _ _ _ _ _ _ _ _ _ _ _ _ _ _ _ _ _ _ _ _ _ _ _ _ _)) (fun u' a' u'' w' hu' h _ gen=>?_) (fun u' a' u'' w' todo hu' h hd' gen=>?_)
 ·rcases h with⟨hv,_,⟨v1,v2,v3,v4,ha⟩,hb⟩|⟨_,h,_⟩
  ·subst ha
   have K₄:=gen F₁ hF₁ (hF₁ _ _ (Ext.below hb) hu')
   have hn8:L.length≤8:=by
    simp only[validT,Bool.and_eq_true,decide_eq_true_eq] at hv
    exact hv.1
   have hlen:∀x∈L.map tkr,x.ops.length≤1000:=fun x hx=>by
    obtain⟨t,ht,rfl⟩:=List.mem_map.1 hx
    simp only[validT,Bool.and_eq_true,List.all_eq_true] at hv
    have:=hv.2.2.2 t ht
    simp only[validL,Bool.and_eq_true,decide_eq_true_eq] at this
    simp only[tkr,List.length_map]
    omega
   have hn:(L.map tkr).length=L.length:=List.length_map ..
   rw[←hn]
   refine run_core (E:=EL L) (L:=L.map tkr) (pt:=pt) (pc:=pc) (ct:=ct) (cc:=cc) (rb:=rb) (ch:=chs) (cs:=cs) (c:=c) (Qm:=Qm) K₄ hF₁ (fun u h=>hN _ (hF0 _ h)) (fun u h=>runIn_of (hT _ (hF0 _ h)) (hC _ (hF0 _ h)) hel) hlen (by simpa using hn8) (fun u h=>⟨_,_,_,h.2⟩) _ _ _ _ _ _ _ _ _ _ _ _ _ _ _ _ _ _ _ _ _ _ _ _ _ _ _ _ _ _ _ _ _ _ _ _ _ _ _ _ _ _ _ _ _ _ _ _ _ _ _ _ _ _ _ _ _ _ _ _ _ _ _ _ _ _ _ _ _ _ _ _ _ _ _ _ (fun c' S' Shun' w' v0 v1 v2 hrun K'=>?_)
   rw[hn] at hrun K'
   refine kok c' S' Shun' w' v0 v1 v2 hv hrun (K'.mono fun u ⟨h1,u1,⟨⟨u0,g1,g2,g3⟩,_⟩,h3,⟨h5,h6⟩,h4⟩=>⟨hF u0 u ⟨Nat.le_trans g2.size h3,fun b o hb=>h4 b o (fun e=>?_) (g2.all _ _ hb),h5.trans g2.os,h6.trans g2.out⟩ g1,h1⟩)
   have:=(Array.getElem?_eq_some_iff.1 hb).1
   omega
  ·cases h
 ·rcases h with⟨_,h,_⟩|⟨hv,_,h6,h7,hbk,hupd⟩
  ·cases h
  ·let F₂:World→Prop:=fun u'=>F u'∧Blk u' rb 32 [.slice none 0 0,.slice none 0 0,.slice none 0 0]
   have hF₂:ExtC F₂:=fun x y e h=>⟨hF _ _ e h.1,e.blk _ _ _ _ h.2⟩
   have f₂:F₂ u'':=by
    obtain⟨⟨u0,g1,g2,g3⟩,_⟩:=hu'
    refine⟨hF u0 u'' ⟨Nat.le_trans g2.size hupd.size,fun b o hb=>?_,hupd.os.trans g2.os,hupd.output.trans g2.out⟩ g1,hbk⟩
    have hlt:=(Array.getElem?_eq_some_iff.1 hb).1
    have h1:=g2.all _ _ hb
    rw[hupd.block b (Array.getElem?_eq_some_iff.1 h1).1 (by show¬b=rb;omega)]
    exact h1
   refine SB.leave (gen F₂ hF₂ f₂) Try.func12 rfl hd' (Q:=fun u v u'=>v= .tuple #[.agg #[.slice none 0 0,.slice none 0 0,.slice none 0 0],.int .i64 1]∧u'=u) (fun u h=>⟨_,u,results12e h6 h7 h.2,rfl,rfl⟩) fun u3 v u4 w4 h ⟨hv',hu4⟩ gen'=>?_
   subst hv'
   subst hu4
   exact kno w4 hv (gen' F hF h.1)
end
end Go.Side
