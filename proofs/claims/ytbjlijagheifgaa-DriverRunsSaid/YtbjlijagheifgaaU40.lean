/-
  Texts of Ytbjlijagheifgaa, merged.
-/
import Derived.Test.YtbjlijagheifgaaU39
import Derived.Test.YtbjlijagheifgaaU37
import Derived.Test.YtbjlijagheifgaaU24
import Derived.Test.YtbjlijagheifgaaRows
import Derived.ProofKit
import Derived.OpenShut
import Derived.ShutString
import Derived.ChangeOld
import Derived.Deep.Slices
set_option linter.unusedSimpArgs false
set_option linter.unusedVariables false
namespace Go.Side
section
open Go Go.RowKit Go.Proofs.Ytbjlijagheifgaa
def possDU(n:Nat)(off:Nat→Option OpD)(i:Nat):List StepP:=(List.range i).flatMap fun f=>match off f with
 |some a=>if a.kind=1 then rowD n off f a else[]
 |none=>[]
theorem possDU_succ(n:Nat)(off:Nat→Option OpD)(i:Nat):possDU n off (i+1)=possDU n off i++(match off i with
 |some a=>if a.kind=1 then rowD n off i a else[]
 |none=>[]):=by simp[possDU,List.range_succ,List.flatMap_append]
theorem rowD_succ(j:Nat)(off:Nat→Option OpD)(f:Nat)(a:OpD):rowD (j+1) off f a=rowD j off f a++(if takesD (off j) a.chan=true then[⟨f,j,a.chan,a.val⟩] else[]):=by
 simp only[rowD,List.range_succ,List.filter_append,List.map_append]
 congr 1
 by_cases h:takesD (off j) a.chan=true<;>simp[h]
theorem rowD_len(j:Nat)(off:Nat→Option OpD)(f:Nat)(a:OpD):(rowD j off f a).length≤j:=by
 have:=List.length_filter_le (fun t=>takesD (off t) a.chan) (List.range j)
 simpa[rowD] using this
theorem len_snoc(A:List StepP)(y:StepP):(A++[y]).length=A.length+1:=by simp
theorem possDU_len(n:Nat)(off:Nat→Option OpD):∀i,(possDU n off i).length≤i*n
 |0=>by simp[possDU]
 |i+1=>by
  have h:=possDU_len n off i
  rw[possDU_succ,List.length_append,Nat.succ_mul]
  have:(match off i with|some a=>if a.kind=1 then rowD n off i a else[]|none=>[]).length≤n:=by
   split
   ·split
    ·exact rowD_len n off i _
    ·simp
   ·simp
  omega
end
end Go.Side
namespace Go.Proofs.Ytbjlijagheifgaa
open Go.RowKit Go.Side
set_option maxHeartbeats 8000000 in
set_option maxRecDepth 100000 in
theorem takes_any(w:World)(a:Option Addr)(c:Nat)(xs:List OpD)(p:Nat)(ch:Int)(hs:SlOp w a xs)(ho:∀x∈xs,OpOk w x)(hl:xs.length≤maxLen)(hp:p≤xs.length):
  Calls Try.prog 37 #[.slice a xs.length c,.int .i64 (p:Int),.int .i64 ch] w fun e w'=>e= .returned (.bool (takesD xs[p]? ch))∧w'=w:=by
 unfold maxLen at hl
 by_cases hlt:p<xs.length
 ·obtain⟨x,hx,okx,x0,x1,x2,x3⟩:=hs.get hlt
  have OK:=ho x (List.mem_of_getElem? hx.out)
  have C:=Lib.hid (in_any w x.ea x.ec x.el ch OK.sl OK.len)
  have E:Hid (takesD xs[p]? ch=((x.kind==2&&x.chan==ch)||(x.kind==3&&decide (ch∈x.el)))):=Lib.hid (by
   rw[hx.out]
   show((x.kind==2&&x.chan==ch)||(x.kind==3&&x.el.contains ch))=_
   rw[List.contains_eq_mem])
  rw[E.out]
  have hpn:(p:Int)<(xs.length:Int):=by omega
  have g0:decide ((p:Int)≥(xs.length:Int))=false:=by simp;omega
  clear E hx hs ho OK
  generalize xs.length=n at*
  generalize decide (ch∈x.el)=inb at*
  generalize x.el.length=el at*
  generalize x.ea=ea at*
  generalize x.ec=ec at*
  generalize x.val=vl at*
  cases h2:(x.kind==2)
  ·have h2':decide (x.kind=2)=false:=by simpa using h2
   cases h3:(x.kind==3)
   ·go_enter Try.func37,Try.ntmps37
    go_wp2_with fail
    go_ret
    exact⟨rfl,rfl⟩
   ·go_enter Try.func37,Try.ntmps37
    go_wp2_with fail
    refine C.out.mono ?_
    rintro e w1 ⟨rfl,rfl⟩
    go_wp2_with fail
    go_ret
    exact⟨by cases inb<;>rfl,rfl⟩
  ·have h3:(x.kind==3)=false:=by rw[beq_iff_eq] at h2;rw[h2];rfl
   cases hc:(x.chan==ch)
   ·go_enter Try.func37,Try.ntmps37
    go_wp2_with fail
    go_ret
    exact⟨by rw[h3];rfl,rfl⟩
   ·go_enter Try.func37,Try.ntmps37
    go_wp2_with fail
    go_ret
    exact⟨rfl,rfl⟩
 ·have E:Hid (takesD xs[p]? ch=false):=Lib.hid (by rw[List.getElem?_eq_none (by omega)];rfl)
  rw[E.out]
  have g0:decide ((p:Int)≥(xs.length:Int))=true:=by simp;omega
  clear hs ho E
  generalize xs.length=n at*
  go_enter Try.func37,Try.ntmps37
  go_wp2_with fail
  go_ret
  exact⟨rfl,rfl⟩
theorem infoRS:(Try.prog.info? 89).map (fun i=>(i.zero,i.size,i.bytes))=some (some (.agg #[.int .i64 0,.int .i64 0,.int .i64 0,.int .i64 0]),4,32):=by kernel_rfl
def SrPost(w:World)(S:List StepP)(e:Ending)(w':World):Prop:=∃v,e= .returned v∧w'.ownsRow w.heap.size 89 4 v S.length (flC stC S)∧Below w.heap.size w w'
def SrRel(w:World)(S:Nat→List StepP)(n:Nat)(v k:Value)(wr:World):Prop:=
 ∃i a c,i≤n∧k= .int .i64 (i:Int)∧v= .slice a (S i).length c∧wr.ownsRow w.heap.size 89 4 v (S i).length (flC stC (S i))∧Below w.heap.size w wr
def SrRow(w:World)(bx:Nat)(x:OpD)(S:Nat→List StepP)(n:Nat)(v k:Value)(wr:World):Prop:=
 SrRel w S n v k wr∧Blk wr bx 87 (opF x)
theorem atOk_get{L:List TkD}{at_:List Int}(h:atOk L at_=true){i:Nat}(hi:i<L.length):∃(t:TkD) (q:Nat),Hid (L[i]?=some t)∧Hid (at_[i]?=some (q:Int))∧q≤t.ops.length∧Hid (offAt L (at_.map Int.toNat) i=t.ops[q]?):=by
 unfold atOk at h
 have h:=List.all_eq_true.1 h i (List.mem_range.2 hi)
 have h1:L[i]?=some L[i]:=List.getElem?_eq_getElem hi
 rw[h1] at h
 cases h2:at_[i]? with
 |none=>rw[h2] at h;cases h
 |some z=>
  rw[h2] at h
  simp only[Bool.and_eq_true,decide_eq_true_eq] at h
  obtain⟨q,rfl⟩:=Int.eq_ofNat_of_zero_le h.1
  refine⟨L[i],q,h1,rfl,by omega,?_⟩
  show offAt L (at_.map Int.toNat) i=_
  simp[offAt,h1,h2]
set_option maxHeartbeats 8000000 in
set_option maxRecDepth 100000 in
theorem refReady_any(w:World)(a b:Option Addr)(c d:Nat)(L:List TkD)(at_:List Int)(hs:SlT w a L)(hp:Sl (Value.int .i64) w b at_)(hl:L.length≤8)(hle:at_.length=L.length)(hok:atOk L at_=true):
  Calls Try.prog 23 #[.slice a L.length c,.slice b at_.length d] w (SrPost w (possD L.length (offAt L (at_.map Int.toNat)))):=by
 have S:=Lib.hid hs
 have HP:=Lib.hid hp
 have OK:=Lib.hid hok
 clear hs hp hok
 rw[hle]
 obtain⟨i1,hi,hz0,hz1,hz2⟩:=info_parts infoRS
 have JI:=Lib.hid hi;have JZ0:=Lib.hid hz0;have JZ1:=Lib.hid hz1;have JZ2:=Lib.hid hz2
 clear hi hz0 hz1 hz2
 generalize hoff:offAt L (at_.map Int.toNat)=off at*
 have HO:=Lib.hid hoff
 clear hoff
 obtain⟨n,hn⟩:∃n,L.length=n:=⟨_,rfl⟩
 have HN:=Lib.hid hn
 have HM:Hid (at_.length=n):=Lib.hid (by rw[hle,hn])
 clear hle
 rw[hn] at hl⊢
 clear hn
 have TL:Hid (∀(wr:World),Below w.heap.size w wr→∀t∈L,TkOk wr t):=Lib.hid fun wr q t ht=>by
  obtain⟨j,hj,rfl⟩:=List.getElem_of_mem ht
  exact((S.out.reads (Reads.below q)) j _ (List.getElem?_eq_getElem hj)).2.2
 go_enter Try.func23,Try.ntmps23
 go_wp2_with fail
 go_loopw [5,6] (fun v k wr=>SrRel w (possDU n off) n v k wr) (fun _ k _=>n-(intOf k).toNat)
 case atStart=>exact⟨0,none,0,Nat.zero_le _,rfl,rfl,World.ownsRow_nil _ _ _ _,Below.refl _ _⟩
 case round=>
  obtain⟨i,va,vc,hi,rfl,rfl,ho,hb⟩:=hrel
  have O1:=Lib.hid ho
  have B1:=Lib.hid hb
  clear ho hb
  by_cases hlt:i<n
  ·obtain⟨t,q,ht,hq,hqm,hof⟩:=atOk_get OK.out (i:=i) (by rw[HN.out];exact hlt)
   have hof':Hid (off i=t.ops[q]?):=Lib.hid (by rw[←HO.out];exact hof.out)
   clear hof
   have hin:(i:Int)<(n:Int):=by omega
   have FQ:Hid (∀wq,Qt wr wq→wq.ownsRow w.heap.size 89 4 (.slice va (possDU n off i).length vc) (possDU n off i).length (flC stC (possDU n off i))∧Below w.heap.size w wq):=Lib.hid fun wq q=>⟨own_upd O1.out (Upd.of_below (S:=fun _=>False) q.bel) (fun _ _=>id),B1.out.trans (q.below _)⟩
   obtain⟨e1,e2,e3⟩:=(S.out.reads (Reads.below B1.out)) i t ht.out
   obtain⟨e4,e5⟩:=(HP.out.reads (Reads.below B1.out)) i q hq.out
   have htl:=e3.len
   unfold maxLen at htl
   have TO:=Lib.hid e3
   clear e3
   have ES:=Lib.hid (possDU_succ n off i)
   by_cases hqt:q<t.ops.length
   ·obtain⟨x,hx,okx,x0,x1,x2,x3⟩:=TO.out.row.get hqt
    have hqn:¬(q:Int)≥(t.ops.length:Int):=by omega
    by_cases hk:x.kind=1
    ·have EX:Hid (possDU n off (i+1)=possDU n off i++rowD n off i x):=Lib.hid (by rw[ES.out,hof'.out,hx.out];simp[hk])
     have FX:Hid (∀wx,Below w.heap.size w wx→((wx.cell? (adr a i)=some (.slice t.a t.ops.length t.c)∧wx.cell? (adr b i)=some (.int .i64 (q:Int)))∧(wx.cell? (adr t.a (q*4))=some (.int .i64 x.kind)∧wx.cell? (adr t.a (q*4+1))=some (.int .i64 x.chan))∧wx.cell? (adr t.a (q*4+2))=some (.int .i64 x.val)∧wx.cell? (adr t.a (q*4+3))=some (.slice x.ea x.el.length x.ec))):=Lib.hid fun wx qx=>by
      obtain⟨_,f2,f3⟩:=(S.out.reads (Reads.below qx)) i t ht.out
      obtain⟨_,f5⟩:=(HP.out.reads (Reads.below qx)) i q hq.out
      obtain⟨_,f6,f7,f8,f9⟩:=f3.row q x hx.out
      exact⟨⟨f2,f5⟩,⟨f6,f7⟩,f8,f9⟩
     go_upto_region 6 with(go_quiet (fail))
     generalize hwq:World.drewN wr _=wq
     obtain⟨O2,B2⟩:Hid _∧Hid _:=(FQ.out wq (hwq▸(by exact(Qt.refl wr).drewN _)))
     clear hwq FQ e2 e5 x0 x1 x2 x3 B1 O1
     have B3:=Lib.hid (B2.out.trans ((Qt.refl wq).drew.below _))
     obtain⟨⟨y0,y1⟩,⟨y2,y3⟩,y4,y5⟩:=FX.out _ B3.out
     refine wp_region_allH (fun wx=>(wx.cell? (adr a i)=some (.slice t.a t.ops.length t.c)∧wx.cell? (adr b i)=some (.int .i64 (q:Int)))∧(wx.cell? (adr t.a (q*4))=some (.int .i64 x.kind)∧wx.cell? (adr t.a (q*4+1))=some (.int .i64 x.chan))∧wx.cell? (adr t.a (q*4+2))=some (.int .i64 x.val)∧wx.cell? (adr t.a (q*4+3))=some (.slice x.ea x.el.length x.ec)) 12 (by kernel_rfl) rfl ?_ (fun hHeld=>?_)
     ·(exact⟨⟨y0,y1⟩,⟨y2,y3⟩,y4,y5⟩)
     iterate 10
      refine wpAnyH_takeN [0,1,2,3,4,5,6,7,8,9] (v:=?_) rfl rfl (by kernel_rfl) (by kernel_rfl) (by kernel_rfl) (fun _ _ _ h=>h) rfl ?_ hHeld ?_
      rotate_left
      ·intro w hSw
       try dsimp only at hSw
       go_simp
       all_goals with_reducible rfl
      try simp only[Act.put,List.setIfInBounds_toArray,List.set_cons_zero,List.set_cons_succ]
     refine wpAnyH_step (i:=10) (by kernel_rfl) rfl (fun KK hK=>?_)
     (go_simp)
     refine hK.out _ _ ?_ (fun hHeld=>?_)
     ·(exact FX.out _ ((B2.out.alloc B2.out.size _).trans ((Qt.refl _).drew.below _)))
     clear hK KK
     try simp only[Act.put,List.setIfInBounds_toArray,List.set_cons_zero,List.set_cons_succ]
     refine wpAnyH_step (i:=11) (by kernel_rfl) rfl (fun KK hK=>?_)
     (go_simp)
     refine hK.out _ _ ?_ (fun hHeld=>?_)
     ·(exact FX.out _ ((B2.out.alloc B2.out.size _).trans ((Qt.refl _).drew.below _)))
     clear hK KK
     try simp only[Act.put,List.setIfInBounds_toArray,List.set_cons_zero,List.set_cons_succ]
     refine wpAnyH_done (by kernel_rfl) ?_ _
     repeat clear hHeld
     clear y0 y1 y2 y3 y4 y5 B3
     obtain⟨wn,hwn⟩:∃wn,wn=World.drew (World.alloc wq (.cells (opF x).toArray 87)):=⟨_,rfl⟩
     have QN:Hid (Below wq.heap.size wq wn):=Lib.hid (by rw[hwn];exact((Below.refl _ _).alloc (Nat.le_refl _) _).trans ((Qt.refl _).drew.below _))
     have NB:Hid (Blk wn wq.heap.size 87 (opF x)):=Lib.hid (by rw[hwn];exact(Blk.new wq _ (opF x)).drew)
     have OW:=Lib.hid (own_upd O2.out (Upd.of_below (S:=fun _=>False) QN.out) (fun _ _=>id))
     have BW:=Lib.hid (B2.out.trans (QN.out.mono B2.out.size))
     simp only[opF,OpD.ev,hk] at hwn
     rw[←hwn]
     clear hwn QN O2 B2 FX okx e1 e4 hqn ES
     generalize wq.heap.size=bx at*
     clear wq
     go_wp2_with fail
     go_loopw [5,8] (fun v k wr=>SrRow w bx x (fun j=>possDU n off i++rowD j off i x) n v k wr) (fun _ k _=>n-(intOf k).toNat)
     case atStart=>exact⟨⟨0,va,vc,Nat.zero_le _,rfl,by simp[rowD],by simpa[rowD] using OW.out,BW.out⟩,NB.out⟩
     case round=>
      clear OW BW NB
      obtain⟨⟨j,vb,vd,hj,rfl,rfl,ho,hb⟩,hn⟩:=hrel
      have O3:=Lib.hid ho
      have B3:=Lib.hid hb
      have N3:=Lib.hid hn
      clear ho hb hn
      generalize hm:(possDU n off i++rowD j off i x).length=m at*
      have HMM:=Lib.hid hm
      clear hm
      by_cases hjt:j<n
      ·obtain⟨t2,q2,ht2,hq2,hqm2,hof2⟩:=atOk_get OK.out (i:=j) (by rw[HN.out];exact hjt)
       have hof2':Hid (off j=t2.ops[q2]?):=Lib.hid (by rw[←HO.out];exact hof2.out)
       clear hof2
       have hjn:(j:Int)<(n:Int):=by omega
       have RS:=Lib.hid (rowD_succ j off i x)
       have CH:Hid (m≤64):=Lib.hid (by
        rw[←HMM.out]
        have l1:=possDU_len n off i
        have l2:=rowD_len j off i x
        have l3:i*n≤7*8:=Nat.mul_le_mul (by omega) hl
        rw[List.length_append];omega)
       have FW:Hid (∀wx,Qt wr wx→(wx.ownsRow w.heap.size 89 4 (.slice vb m vd) m (flC stC (possDU n off i++rowD j off i x))∧Below w.heap.size w wx)∧Blk wx bx 87 (opF x)):=Lib.hid fun wx q=>⟨⟨own_upd O3.out (Upd.of_below (S:=fun _=>False) q.bel) (fun _ _=>id),B3.out.trans (q.below _)⟩,N3.out.upd (S:=fun _=>False) (Upd.of_below q.bel) id⟩
       obtain⟨⟨O4',B4'⟩,N4'⟩:=FW.out wr.drew (Qt.refl wr).drew
       have B4:=Lib.hid B4'
       have N4:=Lib.hid N4'
       clear O4' B4' N4'
       obtain⟨e1,z0,e3⟩:=(S.out.reads (Reads.below B4.out)) j t2 ht2.out
       obtain⟨e4,z1⟩:=(HP.out.reads (Reads.below B4.out)) j q2 hq2.out
       have z2:wr.drew.cell? ⟨bx,1,none⟩=some (.int .i64 x.chan):=N4.out.cell (i:=1) rfl
       have CT:=Lib.hid (takes_any wr.drew t2.a t2.c t2.ops q2 x.chan e3.row e3.ops e3.len hqm2)
       go_upto_region 10 with(fail)
       by_cases hji:j=i
       ·have hne:((j:Int)!=(i:Int))=false:=by simp[hji]
        have EX:Hid (rowD (j+1) off i x=rowD j off i x):=Lib.hid (by
         rw[RS.out,hji,hof'.out,hx.out]
         simp[takesD,hk])
        clear hji RS
        refine wp_region_allH (fun wx=>(wx.cell? (adr a j)=some (.slice t2.a t2.ops.length t2.c)∧wx.cell? (adr b j)=some (.int .i64 (q2:Int)))∧wx.cell? ⟨bx,1,none⟩=some (.int .i64 x.chan)) 16 (by kernel_rfl) rfl ?_ (fun hHeld=>?_)
        ·(exact⟨⟨z0,z1⟩,z2⟩)
        iterate 4
         refine wpAnyH_takeN [0,1,2,3] (v:=?_) rfl rfl (by kernel_rfl) (by kernel_rfl) (by kernel_rfl) (fun _ _ _ h=>h) rfl ?_ hHeld ?_
         rotate_left
         ·intro w hSw
          try dsimp only at hSw
          go_simp
          all_goals with_reducible rfl
         try simp only[Act.put,List.setIfInBounds_toArray,List.set_cons_zero,List.set_cons_succ]
        iterate 11
         refine wpAnyH_skipN [4,5,6,7,8,9,10,11,12,13,14] rfl rfl (by kernel_rfl) (by kernel_rfl) (by kernel_rfl) (fun _ _ _ h=>h) rfl hHeld ?_
         try simp only[Act.put,List.setIfInBounds_toArray,List.set_cons_zero,List.set_cons_succ]
        iterate 1
         refine wpAnyH_takeN [15] (v:=?_) rfl rfl (by kernel_rfl) (by kernel_rfl) (by kernel_rfl) (fun _ _ _ h=>h) rfl ?_ hHeld ?_
         rotate_left
         ·intro w hSw
          try dsimp only at hSw
          go_simp
          all_goals with_reducible rfl
         try simp only[Act.put,List.setIfInBounds_toArray,List.set_cons_zero,List.set_cons_succ]
        refine wpAnyH_done (by kernel_rfl) ?_ _
        repeat clear hHeld
        go_wp2_with fail
        go_roundw
        case rel=>exact⟨⟨j+1,vb,vd,by omega,by go_num,by simp only[EX.out];rw[HMM.out],by simp only[EX.out];rw[HMM.out];exact(FW.out _ (by exact(Qt.refl wr).drew)).1.1,(FW.out _ (by exact(Qt.refl wr).drew)).1.2⟩,(FW.out _ (by exact(Qt.refl wr).drew)).2⟩
        case measure=>simp[intOf];omega
       ·have hne:((j:Int)!=(i:Int))=true:=by simp;omega
        cases htk:takesD t2.ops[q2]? x.chan with
        |false=>
         have EX:Hid (rowD (j+1) off i x=rowD j off i x):=Lib.hid (by
          rw[RS.out,hof2'.out,htk];simp)
         rw[htk] at CT
         clear hji RS htk
         refine wp_region_allH (fun wx=>(wx.cell? (adr a j)=some (.slice t2.a t2.ops.length t2.c)∧wx.cell? (adr b j)=some (.int .i64 (q2:Int)))∧wx.cell? ⟨bx,1,none⟩=some (.int .i64 x.chan)) 16 (by kernel_rfl) rfl ?_ (fun hHeld=>?_)
         ·(exact⟨⟨z0,z1⟩,z2⟩)
         iterate 14
          refine wpAnyH_takeN [0,1,2,3,4,5,6,7,8,9,10,11,12,13] (v:=?_) rfl rfl (by kernel_rfl) (by kernel_rfl) (by kernel_rfl) (fun _ _ _ h=>h) rfl ?_ hHeld ?_
          rotate_left
          ·intro w hSw
           try dsimp only at hSw
           go_simp
           all_goals with_reducible rfl
          try simp only[Act.put,List.setIfInBounds_toArray,List.set_cons_zero,List.set_cons_succ]
         refine wpAnyH_step (i:=14) (by kernel_rfl) rfl (fun KK hK=>?_)
         (go_simp;(with_reducible refine CT.out.mono ?_);rintro e w9 ⟨rfl,rfl⟩;go_wp2_with fail)
         refine hK.out _ _ ?_ (fun hHeld=>?_)
         ·(exact⟨⟨z0,z1⟩,z2⟩)
         clear hK KK
         try simp only[Act.put,List.setIfInBounds_toArray,List.set_cons_zero,List.set_cons_succ]
         iterate 1
          refine wpAnyH_takeN [15] (v:=?_) rfl rfl (by kernel_rfl) (by kernel_rfl) (by kernel_rfl) (fun _ _ _ h=>h) rfl ?_ hHeld ?_
          rotate_left
          ·intro w hSw
           try dsimp only at hSw
           go_simp
           all_goals with_reducible rfl
          try simp only[Act.put,List.setIfInBounds_toArray,List.set_cons_zero,List.set_cons_succ]
         refine wpAnyH_done (by kernel_rfl) ?_ _
         repeat clear hHeld
         go_wp2_with fail
         go_roundw
         case rel=>exact⟨⟨j+1,vb,vd,by omega,by go_num,by simp only[EX.out];rw[HMM.out],by simp only[EX.out];rw[HMM.out];exact(FW.out _ (by exact(Qt.refl wr).drew)).1.1,(FW.out _ (by exact(Qt.refl wr).drew)).1.2⟩,(FW.out _ (by exact(Qt.refl wr).drew)).2⟩
         case measure=>simp[intOf];omega
        |true=>
         have EX:Hid (rowD (j+1) off i x=rowD j off i x++[⟨i,j,x.chan,x.val⟩]):=Lib.hid (by
          rw[RS.out,hof2'.out,htk];simp)
         rw[htk] at CT
         clear hji RS htk
         refine wp_region_allH (fun wx=>(wx.cell? (adr a j)=some (.slice t2.a t2.ops.length t2.c)∧wx.cell? (adr b j)=some (.int .i64 (q2:Int)))∧wx.cell? ⟨bx,1,none⟩=some (.int .i64 x.chan)) 16 (by kernel_rfl) rfl ?_ (fun hHeld=>?_)
         ·(exact⟨⟨z0,z1⟩,z2⟩)
         iterate 14
          refine wpAnyH_takeN [0,1,2,3,4,5,6,7,8,9,10,11,12,13] (v:=?_) rfl rfl (by kernel_rfl) (by kernel_rfl) (by kernel_rfl) (fun _ _ _ h=>h) rfl ?_ hHeld ?_
          rotate_left
          ·intro w hSw
           try dsimp only at hSw
           go_simp
           all_goals with_reducible rfl
          try simp only[Act.put,List.setIfInBounds_toArray,List.set_cons_zero,List.set_cons_succ]
         refine wpAnyH_step (i:=14) (by kernel_rfl) rfl (fun KK hK=>?_)
         (go_simp;(with_reducible refine CT.out.mono ?_);rintro e w9 ⟨rfl,rfl⟩;go_wp2_with fail)
         refine hK.out _ _ ?_ (fun hHeld=>?_)
         ·(exact⟨⟨z0,z1⟩,z2⟩)
         clear hK KK
         try simp only[Act.put,List.setIfInBounds_toArray,List.set_cons_zero,List.set_cons_succ]
         iterate 1
          refine wpAnyH_takeN [15] (v:=?_) rfl rfl (by kernel_rfl) (by kernel_rfl) (by kernel_rfl) (fun _ _ _ h=>h) rfl ?_ hHeld ?_
          rotate_left
          ·intro w hSw
           try dsimp only at hSw
           go_simp
           all_goals with_reducible rfl
          try simp only[Act.put,List.setIfInBounds_toArray,List.set_cons_zero,List.set_cons_succ]
         refine wpAnyH_done (by kernel_rfl) ?_ _
         repeat clear hHeld
         have O5:=Lib.hid (FW.out _ (by exact(Qt.refl wr).drew)).1.1
         have z3:wr.drew.cell? ⟨bx,2,none⟩=some (.int .i64 x.val):=N4.out.cell (i:=2) rfl
         clear CT FW
         generalize wr.drew=W5 at*
         go_wp2_with (at_builtin;refine wpList_append_cells rfl _ _ 44 rfl w.heap.size 89 i1 _ 4 32 Try.underlying44 JI.out JZ0.out JZ1.out JZ2.out rfl (by decide) (.slice vb m vd) m (flC stC (possDU n off i++rowD j off i x)) rfl ?ownA (some ⟨W5.heap.size,0,none⟩) 1 1 (stC ⟨i,j,x.chan,x.val⟩) rfl rfl ?c1A (stC_one _) ?c3A ?c4A ?c5A ?kkA)
         case ownA=>exact own_upd O5.out (Upd.of_below (S:=fun _=>False) ((Below.refl _ _).alloc (Nat.le_refl _) _)) (fun _ _=>id)
         case c1A=>exact fun i' u hi=>⟨rfl,by rw[adr_mk,Nat.zero_add];exact(Blk.new W5 89 (stC ⟨i,j,x.chan,x.val⟩)).cell hi⟩
         case c3A=>(have:=CH.out;unfold maxLen;omega)
         case c4A=>(have:=CH.out;omega)
         case c5A=>(have:=B4.out.size;simp;omega)
         intro v1 w6 g1 g2 g3
         have B6:=Lib.hid (Upd.below (B4.out.alloc B4.out.size _) (Upd.of_grownV g2) (by have:=B4.out.size;simp;omega) (fun k hk=>(own_lt O5.out hk).2))
         have N6:Hid (Blk w6 bx 87 (opF x)):=Lib.hid ((N4.out.upd (S:=fun _=>False) (Upd.of_below ((Below.refl _ _).alloc (Nat.le_refl _) _)) id).upd (Upd.of_grownV g2) (own_type O5.out N4.out (by decide)))
         obtain⟨a3,k3,rfl, -⟩:=own_shape g1
         have O6:Hid (w6.ownsRow w.heap.size 89 4 (.slice a3 (m+1) k3) (m+1) (flC stC (possDU n off i++rowD j off i x)++stC ⟨i,j,x.chan,x.val⟩)):=Lib.hid g1
         clear g1 g2 g3 O5 B4 N4
         go_wp2_with fail
         go_roundw
         case rel=>exact⟨⟨j+1,a3,k3,by omega,by go_num,by simp only[EX.out,←List.append_assoc];rw[len_snoc,HMM.out],by simp only[EX.out,←List.append_assoc];rw[flC_append,flC_one,len_snoc,HMM.out];exact O6.out,B6.out⟩,N6.out⟩
         case measure=>simp[intOf];omega
      ·obtain rfl:j=n:=by omega
       go_wp2_with fail
       go_roundw
       case rel=>exact⟨i+1,vb,vd,by omega,by go_num,by simp only[EX.out];rw[HMM.out],by simp only[EX.out];rw[HMM.out];exact O3.out,B3.out⟩
       case measure=>simp[intOf];omega
    ·have hk':(x.kind !=1)=true:=by simpa using hk
     have EX:Hid (possDU n off (i+1)=possDU n off i):=Lib.hid (by rw[ES.out,hof'.out,hx.out];simp[hk])
     clear hk ES
     go_wp2_with fail
     go_quiet (fail)
     go_wp2_with fail
     go_roundw
     case rel=>exact⟨i+1,va,vc,by omega,by go_num,by rw[EX.out],by rw[EX.out];exact(FQ.out _ (by exact(Qt.refl wr).drewN _)).1,(FQ.out _ (by exact(Qt.refl wr).drewN _)).2⟩
     case measure=>simp[intOf];omega
   ·have hqn:(q:Int)≥(t.ops.length:Int):=by omega
    have EX:Hid (possDU n off (i+1)=possDU n off i):=Lib.hid (by rw[ES.out,hof'.out,List.getElem?_eq_none (by omega)];simp)
    clear ES
    go_wp2_with fail
    go_quiet (fail)
    go_wp2_with fail
    go_roundw
    case rel=>exact⟨i+1,va,vc,by omega,by go_num,by rw[EX.out],by rw[EX.out];exact(FQ.out _ (by exact(Qt.refl wr).drewN _)).1,(FQ.out _ (by exact(Qt.refl wr).drewN _)).2⟩
    case measure=>simp[intOf];omega
  ·obtain rfl:i=n:=by omega
   go_wp2_with fail
   go_ret
   exact⟨_,rfl,O1.out,B1.out⟩
end Go.Proofs.Ytbjlijagheifgaa
namespace Go.Proofs.Ytbjlijagheifgaa
section
open Go.RowKit Go.Side
def StpPost(w:World)(S:List StepP)(e:Ending)(w':World):Prop:=∃v,e= .returned v∧StV w' v S∧Below w.heap.size w w'
def StpRel(w:World)(S:List StepP)(v k:Value)(wr:World):Prop:=∃j,j≤S.length∧k= .int .i64 (j:Int)∧wr.ownsRow w.heap.size 50 4 v j (flC stC (S.take j))∧Below w.heap.size w wr
theorem infoDS:(Try.prog.info? 50).map (fun i=>(i.zero,i.size,i.bytes))=some (some (.agg #[.int .i64 0,.int .i64 0,.int .i64 0,.int .i64 0]),4,32):=by kernel_rfl
set_option maxHeartbeats 8000000 in
set_option maxRecDepth 100000 in
theorem steps_any(w:World)(a:Option Addr)(c:Nat)(S:List StepP)(hs:SlSt w a S)(hl:S.length≤100000):
  Calls Try.prog 20 #[.slice a S.length c] w (StpPost w S):=by
 have HS:=Lib.hid hs
 clear hs
 obtain⟨i2,hi,hz0,hz1,hz2⟩:=info_parts infoDS
 have KI:=Lib.hid hi;have KZ0:=Lib.hid hz0;have KZ1:=Lib.hid hz1;have KZ2:=Lib.hid hz2
 clear hi hz0 hz1 hz2
 generalize hm':S.length=m at*
 have HM:=Lib.hid hm'
 clear hm'
 go_enter Try.func20,Try.ntmps20
 go_wp2_with fail
 go_loopw [3,8] (fun v k wx=>StpRel w S v k wx) (fun _ k _=>m-(intOf k).toNat)
 case atStart=>exact⟨0,Nat.zero_le _,rfl,⟨rfl,.inl ⟨rfl,rfl⟩⟩,Below.refl _ _⟩
 case round=>
  obtain⟨j,hj,rfl,hR,hB2⟩:=hrel
  obtain⟨a2,k2,rfl, -⟩:=own_shape hR
  have R:=Lib.hid hR;have HB2:=Lib.hid hB2
  rw[HM.out] at hj
  clear hR hB2
  by_cases hjm:j<m
  ·obtain⟨x,hx,okx,x0,x1,x2,x3⟩:=(HS.out.reads (Reads.below HB2.out)).get (k:=j) (by rw[HM.out];exact hjm)
   have hjn:(j:Int)<(m:Int):=by omega
   go_upto_region 5 with(fail)
   obtain⟨W5,hW5⟩:∃W5,W5=wr.alloc (.cells #[.int .i64 x.fr,.int .i64 x.tg,.int .i64 x.ch,.int .i64 x.vl] 89):=⟨_,rfl⟩
   rw[←hW5]
   have NB:Hid (Blk W5 wr.heap.size 89 (stC x)):=Lib.hid (by rw[hW5];exact Blk.new wr _ (stC x))
   have QW:Hid (Below wr.heap.size wr W5):=Lib.hid (by rw[hW5];exact(Below.refl _ _).alloc (Nat.le_refl _) _)
   have TX:Hid (S.take (j+1)=S.take j++[x]):=Lib.hid (by rw[List.take_add_one,hx.out];rfl)
   have R5:=Lib.hid (own_upd R.out (Upd.of_below (S:=fun _=>False) QW.out) (fun _ _=>id))
   have B5:=Lib.hid (HB2.out.trans (QW.out.mono HB2.out.size))
   have y0:W5.cell? ⟨wr.heap.size,0,none⟩=some (.int .i64 x.fr):=NB.out.cell (i:=0) rfl
   have y1:W5.cell? ⟨wr.heap.size,1,none⟩=some (.int .i64 x.tg):=NB.out.cell (i:=1) rfl
   have y2:W5.cell? ⟨wr.heap.size,2,none⟩=some (.int .i64 x.ch):=NB.out.cell (i:=2) rfl
   have y3:W5.cell? ⟨wr.heap.size,3,none⟩=some (.int .i64 x.vl):=NB.out.cell (i:=3) rfl
   clear x0 x1 x2 x3 hx okx hW5 R QW
   go_wp2_with (at_builtin;refine wpList_append_cells rfl _ _ 30 rfl w.heap.size 50 i2 _ 4 32 Try.underlying30 KI.out KZ0.out KZ1.out KZ2.out rfl (by decide) (.slice a2 j k2) j (flC stC (S.take j)) rfl ?ownA (some ⟨W5.heap.size,0,none⟩) 1 1 (stC x) rfl rfl ?c1A (stC_one x) ?c3A ?c4A ?c5A ?kkA)
   case ownA=>exact own_upd R5.out (Upd.of_below (S:=fun _=>False) ((Below.refl _ _).alloc (Nat.le_refl _) _)) (fun _ _=>id)
   case c1A=>exact fun i u hi=>⟨rfl,by rw[adr_mk,Nat.zero_add];exact(Blk.new W5 50 (stC x)).cell hi⟩
   case c3A=>(unfold maxLen;omega)
   case c4A=>omega
   case c5A=>(have:=B5.out.size;simp;omega)
   intro v1 w6 g1 g2 g3
   have B6:=Lib.hid (Upd.below (B5.out.alloc B5.out.size _) (Upd.of_grownV g2) (by have:=B5.out.size;simp;omega) (fun k hk=>(own_lt R5.out hk).2))
   have R6:Hid (w6.ownsRow w.heap.size 50 4 v1 (j+1) (flC stC (S.take (j+1)))):=Lib.hid (by rw[TX.out,flC_append,flC_one];exact g1)
   obtain⟨a3,k3,rfl, -⟩:=own_shape g1
   clear g1 g2 g3 R5 B5 NB TX y0 y1 y2 y3
   go_wp2_with fail
   go_roundw
   case rel=>exact⟨j+1,by rw[HM.out];omega,by go_num,R6.out,B6.out⟩
   case measure=>(simp[intOf];omega)
  ·obtain rfl:j=m:=by omega
   have R1:Hid (wr.ownsRow w.heap.size 50 4 (.slice a2 j k2) S.length (flC stC S)):=Lib.hid (by have:=R.out;rw[←HM.out,List.take_length] at this;rw[←HM.out];exact this)
   clear R
   go_wp2_with fail
   go_ret
   exact⟨_,rfl,stV_own R1.out,HB2.out⟩
def InV(w:World)(v:Value)(l:List Int):Prop:=∃a c,v= .slice a l.length c∧Sl (Value.int .i64) w a l
theorem InV.reads{w w':World}{v:Value}{l:List Int}(h:InV w v l)(q:Reads w w'):InV w' v l:=let⟨a,c,e,k⟩:=h;⟨a,c,e,k.reads q⟩
theorem StV.reads{w w':World}{v:Value}{S:List StepP}(h:StV w v S)(q:Reads w w'):StV w' v S:=let⟨a,c,e,k⟩:=h;⟨a,c,e,k.reads q⟩
def EqlPost(w:World)(p:Prop)(e:Ending)(w':World):Prop:=∃b,e= .returned (.bool b)∧(b=true↔p)∧Below w.heap.size w w'
set_option maxHeartbeats 8000000 in
set_option maxRecDepth 100000 in
theorem equal_any(w:World)(v0 v1 v2 u0 u1 u2:Value)(S T:List StepP)(s t s' t':List Int)(h0:StV w v0 S)(h1:InV w v1 s)(h2:InV w v2 s')(k0:StV w u0 T)(k1:InV w u1 t)(k2:InV w u2 t')(hl:S.length≤maxLen)(hl1:s.length≤maxLen)(hl2:s'.length≤maxLen):
  Calls Try.prog 17 #[.agg #[v0,v1,v2],.agg #[u0,u1,u2]] w (EqlPost w (S=T∧s=t∧s'=t')):=by
 have HS:Hid (∀W,Reads w W→Calls Try.prog 19 #[v0,u0] W (EqsPost W S T)):=Lib.hid fun W q=>by
  obtain⟨a,c,rfl,ha⟩:=h0.reads q
  obtain⟨b,d,rfl,hb⟩:=k0.reads q
  exact equalSt_any W a b c d S T ha hb hl
 have HI:Hid (∀W,Reads w W→Calls Try.prog 21 #[v1,u1] W fun e w'=>e= .returned (.bool (decide (s=t)))∧Qt W w'):=Lib.hid fun W q=>by
  obtain⟨a,c,rfl,ha⟩:=h1.reads q
  obtain⟨b,d,rfl,hb⟩:=k1.reads q
  exact equalInt_any W a b c d s t ha hb hl1
 have HJ:Hid (∀W,Reads w W→Calls Try.prog 21 #[v2,u2] W fun e w'=>e= .returned (.bool (decide (s'=t')))∧Qt W w'):=Lib.hid fun W q=>by
  obtain⟨a,c,rfl,ha⟩:=h2.reads q
  obtain⟨b,d,rfl,hb⟩:=k2.reads q
  exact equalInt_any W a b c d s' t' ha hb hl2
 have o0:v0.oneCell'=true:=by obtain⟨_,_,rfl,_⟩:=h0;rfl
 have o1:v1.oneCell'=true:=by obtain⟨_,_,rfl,_⟩:=h1;rfl
 have o2:v2.oneCell'=true:=by obtain⟨_,_,rfl,_⟩:=h2;rfl
 have q0:u0.oneCell'=true:=by obtain⟨_,_,rfl,_⟩:=k0;rfl
 have q1:u1.oneCell'=true:=by obtain⟨_,_,rfl,_⟩:=k1;rfl
 have q2:u2.oneCell'=true:=by obtain⟨_,_,rfl,_⟩:=k2;rfl
 obtain⟨b0,c0,rfl, -⟩:=h0
 obtain⟨b1,c1,rfl, -⟩:=h1
 obtain⟨b2,c2,rfl, -⟩:=h2
 obtain⟨d0,e0,rfl, -⟩:=k0
 obtain⟨d1,e1,rfl, -⟩:=k1
 obtain⟨d2,e2,rfl, -⟩:=k2
 clear hl hl1 hl2 o0 o1 o2 q0 q1 q2
 generalize S.length=n0 at*
 generalize s.length=n1 at*
 generalize s'.length=n2 at*
 generalize T.length=m0 at*
 generalize t.length=m1 at*
 generalize t'.length=m2 at*
 go_enter Try.func17,Try.ntmps17
 go_upto_region 1 with(fail)
 obtain⟨W,hW⟩:∃W,W=(w.alloc (Obj.cells #[.slice b0 n0 c0,.slice b1 n1 c1,.slice b2 n2 c2] 32)).alloc (Obj.cells #[.slice d0 m0 e0,.slice d1 m1 e1,.slice d2 m2 e2] 32):=⟨_,rfl⟩
 rw[←hW]
 have BW:Hid (Below w.heap.size w W):=Lib.hid (by rw[hW];exact((Below.refl _ _).alloc (Nat.le_refl _) _).alloc (by simp) _)
 have FC:Hid (∀w1,Qt W w1→((w1.cell? ⟨w.heap.size,0,none⟩=some (.slice b0 n0 c0)∧w1.cell? ⟨w.heap.size,1,none⟩=some (.slice b1 n1 c1))∧(w1.cell? ⟨w.heap.size,2,none⟩=some (.slice b2 n2 c2)∧w1.cell? ⟨w.heap.size+1,0,none⟩=some (.slice d0 m0 e0))∧w1.cell? ⟨w.heap.size+1,1,none⟩=some (.slice d1 m1 e1)∧w1.cell? ⟨w.heap.size+1,2,none⟩=some (.slice d2 m2 e2))):=Lib.hid fun w1 q=>by
  have q':=q.reads
  have h1:=(Blk.new w 32 [.slice b0 n0 c0,.slice b1 n1 c1,.slice b2 n2 c2]).upd (S:=fun _=>False) (Upd.of_below ((Below.refl _ _).alloc (Nat.le_refl _) (Obj.cells #[.slice d0 m0 e0,.slice d1 m1 e1,.slice d2 m2 e2] 32))) id
  have h2:=Blk.new (w.alloc (Obj.cells #[.slice b0 n0 c0,.slice b1 n1 c1,.slice b2 n2 c2] 32)) 32 [.slice d0 m0 e0,.slice d1 m1 e1,.slice d2 m2 e2]
  rw[World.size_alloc] at h2
  subst hW
  exact⟨⟨q' _ _ (h1.cell (i:=0) rfl),q' _ _ (h1.cell (i:=1) rfl)⟩,⟨q' _ _ (h1.cell (i:=2) rfl),q' _ _ (h2.cell (i:=0) rfl)⟩,q' _ _ (h2.cell (i:=1) rfl),q' _ _ (h2.cell (i:=2) rfl)⟩
 clear hW
 generalize hbx:w.heap.size=bx at*
 obtain⟨⟨x0,x1⟩,⟨x2,y0⟩,y1,y2⟩:=FC.out W (Qt.refl _)
 have RW:Hid (Reads w W):=Lib.hid (Reads.below (by rw[hbx];exact BW.out))
 have HBX:=Lib.hid hbx
 clear hbx
 have C0:=Lib.hid (HS.out W RW.out)
 have RR:Hid (∀W1,Qt W W1→Reads w W1):=Lib.hid fun W1 q p v h=>q.reads p v (RW.out p v h)
 have FIN:Hid (∀(b:Bool) (W1:World),Qt W W1→(b=true↔(S=T∧s=t∧s'=t'))→EqlPost w (S=T∧s=t∧s'=t') (.returned (.bool b)) W1):=Lib.hid fun b W1 q h=>⟨b,rfl,h,by rw[HBX.out];exact BW.out.trans (q.below _)⟩
 clear HS RW HBX BW
 go_wp2_with fail
 refine C0.out.mono ?_
 rintro e w1 ⟨b,rfl,hb,hq⟩
 have Q1:=Lib.hid hq
 have R1:=Lib.hid (RR.out w1 hq)
 obtain⟨⟨x0,x1⟩,⟨x2,y0⟩,y1,y2⟩:=FC.out w1 hq
 clear hq C0
 cases b with
 |false=>
  have X:Hid (false=true↔(S=T∧s=t∧s'=t')):=Lib.hid ⟨(fun h=>by cases h),fun h=>hb.2 h.1⟩
  clear hb
  go_wp2_with fail
  go_ret
  exact FIN.out _ _ Q1.out X.out
 |true=>
  have X1:Hid (S=T):=Lib.hid (hb.1 rfl)
  clear hb
  have C1:=Lib.hid (HI.out w1 R1.out)
  clear HI
  have D1:Hid (∀b1,decide (s=t)=b1→(b1=true↔s=t)):=Lib.hid fun b1 h=>by rw[←h];simp
  generalize decide (s=t)=b1 at*
  have D1:=Lib.hid (D1.out b1 rfl)
  go_wp2_with fail
  refine C1.out.mono ?_
  rintro e w2 ⟨rfl,hq⟩
  have Q2:=Lib.hid (Q1.out.trans hq)
  have R2:=Lib.hid (RR.out w2 Q2.out)
  obtain⟨⟨x0,x1⟩,⟨x2,y0⟩,y1,y2⟩:=FC.out w2 Q2.out
  clear hq C1 Q1 R1
  cases b1 with
  |false=>
   have X:Hid (false=true↔(S=T∧s=t∧s'=t')):=Lib.hid ⟨(fun h=>by cases h),fun h=>D1.out.2 h.2.1⟩
   go_wp2_with fail
   go_ret
   exact FIN.out _ _ Q2.out X.out
  |true=>
   have X2:Hid (s=t):=Lib.hid (D1.out.1 rfl)
   have C2:=Lib.hid (HJ.out w2 R2.out)
   clear HJ
   have D2:Hid (∀b1,decide (s'=t')=b1→(b1=true↔s'=t')):=Lib.hid fun b1 h=>by rw[←h];simp
   generalize decide (s'=t')=b2 at*
   have D2:=Lib.hid (D2.out b2 rfl)
   have X:Hid (b2=true↔(S=T∧s=t∧s'=t')):=Lib.hid ⟨fun h=>⟨X1.out,X2.out,D2.out.1 h⟩,fun h=>D2.out.2 h.2.2⟩
   clear D1 X1 X2
   go_wp2_with fail
   refine C2.out.mono ?_
   rintro e w3 ⟨rfl,hq⟩
   have Q3:=Lib.hid (Q2.out.trans hq)
   clear hq
   go_wp2_with fail
   go_ret
   exact FIN.out _ _ Q3.out X.out
end
section
open Go.RowKit Go.ChangeShapes Go.WideShapes Go.ChangeAt
open Go.ChangeMaps (open_string shut_string)
theorem Try.own:ownKnob Try.prog.godebug=none:=by kernel_rfl
theorem Try.laidOut:laidOutB Try.prog=true:=by kernel_rfl
section
variable {H:Type} {enc:TypeId×Value→H} {P:Program} {w:World} {held:Bool}
theorem sl_open{α:Type}[Inhabited α]{t e:TypeId}{fuel:Nat}{v:Value}{x:DataW H×List MemPlace}(f:α→Value)(Q:α→Prop)(ht:P.underlying t=some (.slice e))(hc:P.cellsOf e=1)(hf:∀n V r,DataW.trod enc P w 0 (fun _=>true) held n e [V]=some r→∃y,V=f y∧Q y)(h:DataW.trod enc P w 0 (fun _=>true) held fuel t [v]=some x):
  ∃a c xs,v= .slice a xs.length c∧Sl f w a xs∧(∀y∈xs,Q y)∧xs.length≤maxLen:=by
 rcases Deep.open_slice1 ht hc h with⟨h1,_⟩|⟨a,len,cap,m,n,V,D,Pl,h1,hb,hl,hm,hmm,_,hx⟩
 ·refine⟨none,0,[],by simpa using h1,?_,by simp,by simp⟩
  intro j x hj
  simp at hj
 ·simp only[if_true] at hmm
  subst hmm
  obtain⟨B,hB⟩:=Deep.choose_lt (α:=α) (n:=m) (p:=fun i y=>V i=f y∧Q y) (fun i hi=>hf _ _ _ (hx i hi).2)
  refine⟨some a,m,(List.range len).map B,by simpa using h1,?_,?_,by simp;omega⟩
  ·intro j y hj
   simp only[List.getElem?_map] at hj
   obtain⟨i,hi,rfl⟩:=Option.map_eq_some_iff.1 hj
   have hlt:j<len:=by
    rcases Nat.lt_or_ge j len with h|h
    ·exact h
    ·rw[List.getElem?_eq_none (by simpa using h)] at hi;simp at hi
   rw[List.getElem?_range hlt] at hi
   obtain rfl:=Option.some.inj hi
   have hcell:=(hx j (by omega)).1
   have hsp:a.spot.isNone=true:=by
    have h0:=(hx 0 (by omega)).1
    have:a.spot=none:=by simpa[Addr.add] using World.cell?_spot h0
    simp[this]
   refine⟨hsp,?_⟩
   rw[←(hB j (by omega)).1,←hcell,add_eq a j hsp]
   rfl
  ·intro y hy
   obtain⟨i,hi,rfl⟩:=List.mem_map.1 hy
   exact(hB i (by have:=List.mem_range.1 hi;omega)).2
def IntOk(k:IntKind)(n:Int):Prop:=(Lit.int k n).wf=true
theorem ints_open{t e:TypeId}{k:IntKind}{v:Value}{d:DataW H}{ps:List MemPlace}(ht:P.underlying t=some (.slice e))(he:P.underlying e=some (.int k))(hc:P.cellsOf e=1)(h:DataW.Trod enc P w 0 (fun _=>true) held t v d ps)(hv:∃a n c,v= .slice a n c):
  ∃a c xs,v= .slice a xs.length c∧Sl (Value.int k) w a xs∧(∀y∈xs,IntOk k y)∧xs.length≤maxLen:=by
 obtain⟨fuel,hf⟩:=h
 obtain⟨a,n,c,rfl⟩:=hv
 refine sl_open (Value.int k) (IntOk k) ht hc (fun n V r hr=>?_) hf
 obtain⟨i,h1,_,h3⟩:=DataW.trod_int he hr
 exact⟨i,by simpa using h1,h3⟩
structure RowOf(α:Type) where
 a:Option Addr
 c:Nat
 xs:List α
instance {α:Type}:Inhabited (RowOf α):=⟨⟨none,0,[]⟩⟩
def RowOf.val{α:Type}(r:RowOf α):Value:=.slice r.a r.xs.length r.c
end
end
end Go.Proofs.Ytbjlijagheifgaa
