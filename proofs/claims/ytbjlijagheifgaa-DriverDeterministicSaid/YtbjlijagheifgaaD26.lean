/-
  Texts of Ytbjlijagheifgaa, merged.
-/
import Derived.Test.YtbjlijagheifgaaD24
import Derived.Test.YtbjlijagheifgaaD25
import Derived.Test.YtbjlijagheifgaaD19
import Derived.Test.YtbjlijagheifgaaProg
set_option linter.unusedSimpArgs false
set_option linter.unusedVariables false
namespace Go.Proofs.Ytbjlijagheifgaa
section
open Go.RowKit Go.Side
section
variable {P:Program} {Q:Exit→Act→World→Prop} {md:Region.Mode}
theorem wpAnyH_takeN(js:List Nat){l:List Oper}{S:World→Prop}{i:Nat}{oi:Oper}{v:Value}{fuel:Nat}{listed:Array Bool}{a:Act}{w:World}(hn:js.find? (fun j=> !(listed.toList.getD j true))=some i)(hi:l[i]?=some oi)(hs:Region.noSelect l.toArray=true)(hf:Region.free md l.toArray listed i=true)(hr:(Region.ready md l.toArray listed).contains i=true)(hQ:∀c a w,Q (.panic c) (a.put oi.dst v) w→Q (.panic c) a w)(hw:Region.wanted oi (yielded l.toArray a.tmps)=true)(hy:∀w,S w→(execOp a.eval oi).run P w= .ok (.value v) w)(hS:S w)(h:wpAnyH P md l.toArray Q S fuel (listed.setIfInBounds i true) (a.put oi.dst v) w):wpAnyH P md l.toArray Q S (fuel+1) listed a w:=wpAnyH_takeG hi hs hf hr hQ hw hy hS h
theorem wpAnyH_skipN(js:List Nat){l:List Oper}{S:World→Prop}{i:Nat}{oi:Oper}{fuel:Nat}{listed:Array Bool}{a:Act}{w:World}(hn:js.find? (fun j=> !(listed.toList.getD j true))=some i)(hi:l[i]?=some oi)(hs:Region.noSelect l.toArray=true)(hf:Region.free md l.toArray listed i=true)(hr:(Region.ready md l.toArray listed).contains i=true)(hQ:∀c a w,Q (.panic c) (a.put oi.dst undef) w→Q (.panic c) a w)(hw:Region.wanted oi (yielded l.toArray a.tmps)=false)(hS:S w)(h:wpAnyH P md l.toArray Q S fuel (listed.setIfInBounds i true) (a.put oi.dst undef) w):wpAnyH P md l.toArray Q S (fuel+1) listed a w:=wpAnyH_skipL hi hs hf hr hQ hw hS h
end
abbrev Ent:=Option (Nat×Nat×OpV)
def pvE:Ent→Value
 |none=>.pointer none
 |some (b,o,_)=>.pointer (some ⟨b,o,none⟩)
def offE(L:List Ent)(k:Nat):Option OpV:=(L[k]?.join).map fun y=>y.2.2
theorem offE_some{L:List Ent}{k b o:Nat}{x:OpV}(h:L[k]?=some (some (b,o,x))):offE L k=some x:=by simp[offE,h]
theorem offE_none{L:List Ent}{k:Nat}(h:L[k]?=some none):offE L k=none:=by simp[offE,h]
def OpAt(w:World)(E:OpV→List Int)(b o:Nat)(x:OpV):Prop:=
 (w.cell? ⟨b,o,none⟩=some (.int .i64 x.kind)∧w.cell? ⟨b,o+1,none⟩=some (.int .i64 x.chan)∧w.cell? ⟨b,o+2,none⟩=some (.int .i64 x.val)∧w.cell? ⟨b,o+3,none⟩=some x.eith)∧
  ∃a c,x.eith= .slice a (E x).length c∧Sl (Value.int .i64) w a (E x)∧(E x).length≤1000000
theorem OpAt.below{w w':World}{E:OpV→List Int}{b o:Nat}{x:OpV}(h:OpAt w E b o x)(q:Below w.heap.size w w'):OpAt w' E b o x:=by
 obtain⟨⟨h1,h2,h3,h4⟩,a,c,h5,h6,h7⟩:=h
 have m:∀{p:Addr} {v:Value},w.cell? p=some v→w'.cell? p=some v:=fun hv=>by rw[q.cell (World.block_lt_of_cell? _ _ hv)];exact hv
 exact⟨⟨m h1,m h2,m h3,m h4⟩,a,c,h5,h6.below q,h7⟩
structure NxL(w:World)(E:OpV→List Int)(a:Option Addr)(L:List Ent):Prop where
 row:Sl pvE w a L
 op:∀(k b o:Nat) (x:OpV),L[k]?=some (some (b,o,x))→OpAt w E b o x
theorem NxL.below{w w':World}{E:OpV→List Int}{a:Option Addr}{L:List Ent}(h:NxL w E a L)(q:Below w.heap.size w w'):NxL w' E a L:=⟨h.row.below q,fun k b o x e=>(h.op k b o x e).below q⟩
def stC(s:StepP):List Value:=[.int .i64 s.fr,.int .i64 s.tg,.int .i64 s.ch,.int .i64 s.vl]
theorem stC_len(s:StepP):(stC s).length=4:=rfl
theorem stC_one:∀s,∀u∈stC s,u.oneCell'=true:=by
 intro s u h
 simp only[stC,List.mem_cons,List.not_mem_nil,or_false] at h
 rcases h with rfl|rfl|rfl|rfl<;>rfl
section
variable (E:OpV→List Int)
def possU(n:Nat)(off:Nat→Option OpV)(i:Nat):List StepP:=(List.range i).flatMap fun f=>match off f with
 |some a=>if a.kind=1 then rowP E n off f a else[]
 |none=>[]
theorem possU_all(n:Nat)(off:Nat→Option OpV):possU E n off n=possP E n off:=rfl
theorem possU_succ(n:Nat)(off:Nat→Option OpV)(i:Nat):possU E n off (i+1)=possU E n off i++(match off i with
 |some a=>if a.kind=1 then rowP E n off i a else[]
 |none=>[]):=by simp[possU,List.range_succ,List.flatMap_append]
theorem rowP_succ(j:Nat)(off:Nat→Option OpV)(f:Nat)(a:OpV):rowP E (j+1) off f a=rowP E j off f a++(if takesP E (off j) a.chan=true then[⟨f,j,a.chan,a.val⟩] else[]):=by
 simp only[rowP,List.range_succ,List.filter_append,List.map_append]
 congr 1
 by_cases h:takesP E (off j) a.chan=true<;>simp[h]
theorem rowP_len(j:Nat)(off:Nat→Option OpV)(f:Nat)(a:OpV):(rowP E j off f a).length≤j:=by
 have:=List.length_filter_le (fun t=>takesP E (off t) a.chan) (List.range j)
 simpa[rowP] using this
theorem possU_len(n:Nat)(off:Nat→Option OpV):∀i,(possU E n off i).length≤i*n
 |0=>by simp[possU]
 |i+1=>by
  have h:=possU_len n off i
  rw[possU_succ,List.length_append,Nat.succ_mul]
  have:(match off i with|some a=>if a.kind=1 then rowP E n off i a else[]|none=>[]).length≤n:=by
   split
   ·split
    ·exact rowP_len E n off i _
    ·simp
   ·simp
  omega
end
theorem Try.infoStep:(Try.prog.info? 50).map (fun i=>(i.zero,i.size,i.bytes))=some (some (.agg #[.int .i64 0,.int .i64 0,.int .i64 0,.int .i64 0]),4,32):=by kernel_rfl
def PsRel(w:World)(S:Nat→List StepP)(n:Nat)(v k:Value)(wr:World):Prop:=
 ∃i a c,i≤n∧k= .int .i64 (i:Int)∧v= .slice a (S i).length c∧wr.ownsRow w.heap.size 50 4 v (S i).length (flC stC (S i))∧Below w.heap.size w wr
set_option maxHeartbeats 8000000 in
set_option maxRecDepth 100000 in
theorem possible_any(w:World)(E:OpV→List Int)(a:Option Addr)(c:Nat)(L:List Ent)(h:NxL w E a L)(hl:L.length≤8):
  Calls Try.prog 36 #[.slice a L.length c] w fun e w'=>∃v,e= .returned v∧w'.ownsRow w.heap.size 50 4 v (possP E L.length (offE L)).length (flC stC (possP E L.length (offE L)))∧Below w.heap.size w w':=by
 have H:=Lib.hid h
 have HL:=Lib.hid hl
 clear h hl
 obtain⟨i1,hi,hz0,hz1,hz2⟩:=info_parts Try.infoStep
 have JI:=Lib.hid hi;have JZ0:=Lib.hid hz0;have JZ1:=Lib.hid hz1;have JZ2:=Lib.hid hz2
 clear hi hz0 hz1 hz2
 generalize hn:L.length=n at*
 have HN:=Lib.hid hn
 clear hn
 go_enter Try.func36,Try.ntmps36
 go_wp2_with fail
 go_loopw [3,10] (fun v k wr=>PsRel w (possU E n (offE L)) n v k wr) (fun _ k _=>n-(intOf k).toNat)
 case atStart=>exact⟨0,none,0,Nat.zero_le _,rfl,rfl,World.ownsRow_nil _ _ _ _,Below.refl _ _⟩
 case round=>
  obtain⟨i,va,vc,hi,rfl,rfl,ho,hb⟩:=hrel
  have O1:=Lib.hid ho
  have B1:=Lib.hid hb
  clear ho hb
  by_cases hlt:i<n
  ·have hin:(i:Int)<(n:Int):=by omega
   have hi8:(i:Int)<8:=by have:=HL.out;omega
   have hi0:(0:Int)≤(i:Int):=by omega
   obtain⟨y,hy⟩:∃y,L[i]?=some y:=⟨_,List.getElem?_eq_getElem (by rw[HN.out];exact hlt)⟩
   have N1:=Lib.hid (H.out.below B1.out)
   obtain⟨r1,r2⟩:=N1.out.row i y hy
   have HY:=Lib.hid hy
   clear hy
   match y with
   |none=>
    have EE:Hid (possU E n (offE L) (i+1)=possU E n (offE L) i):=by show _=_;rw[possU_succ,offE_none HY.out,List.append_nil]
    simp only[pvE] at r2
    go_wp2_with fail
    go_roundw
    case rel=>exact⟨i+1,va,vc,by omega,by go_num,by rw[EE.out],by rw[EE.out];exact O1.out,B1.out⟩
    case measure=>simp[intOf];omega
   |some (b,o,x)=>
    have P1:=N1.out.op i b o x HY.out
    have eo:=Lib.hid (offE_some HY.out)
    have PP:=Lib.hid P1
    clear P1
    obtain⟨⟨c0,c1,c2,c3⟩,ea,ec,e1,e2,e3⟩:=PP.out
    clear e1 e2 e3 c3
    simp only[pvE] at r2
    by_cases hk:x.kind=1
    ·have EE:Hid (possU E n (offE L) (i+1)=possU E n (offE L) i++rowP E n (offE L) i x):=by show _=_;rw[possU_succ,eo.out];simp only[hk,if_true]
     rw[hk] at c0
     go_wp2_with fail
     go_loopw [3,26] (fun v k wr=>PsRel w (fun j=>possU E n (offE L) i++rowP E j (offE L) i x) n v k wr) (fun _ k _=>n-(intOf k).toNat)
     case atStart=>exact⟨0,va,vc,Nat.zero_le _,rfl,by simp[rowP],by simpa[rowP] using O1.out,B1.out⟩
     case round=>
      clear r2 c0 c1 c2
      obtain⟨j,vb,vd,hj,rfl,rfl,ho,hb⟩:=hrel
      have LN0:(possU E n (offE L) i++rowP E j (offE L) i x).length≤72:=by
       have h1:=possU_len E n (offE L) i
       have h2:=rowP_len E j (offE L) i x
       have h3:=HL.out
       have h4:i*n≤8*8:=Nat.mul_le_mul (by omega) h3
       rw[List.length_append]
       omega
      dsimp only at ho⊢
      obtain⟨m,hm0⟩:∃m,(possU E n (offE L) i++rowP E j (offE L) i x).length=m:=⟨_,rfl⟩
      rw[hm0] at ho LN0⊢
      have hm:=Lib.hid hm0
      have LN:=Lib.hid LN0
      clear hm0 LN0
      have O2:=Lib.hid ho
      have B2:=Lib.hid hb
      clear ho hb
      have N2:=Lib.hid (H.out.below B2.out)
      by_cases hltj:j<n
      ·have hjn:(j:Int)<(n:Int):=by omega
       have hj8:(j:Int)<8:=by have:=HL.out;omega
       have hj0:(0:Int)≤(j:Int):=by omega
       obtain⟨z,hz⟩:∃z,L[j]?=some z:=⟨_,List.getElem?_eq_getElem (by rw[HN.out];exact hltj)⟩
       obtain⟨r1,r2⟩:=N2.out.row j z hz
       have HZ:=Lib.hid hz
       clear hz
       match z with
       |none=>
        have E2:Hid (rowP E (j+1) (offE L) i x=rowP E j (offE L) i x):=by show _=_;rw[rowP_succ,offE_none HZ.out];simp[takesP]
        simp only[pvE] at r2
        go_wp2_with fail
        go_roundw
        case rel=>exact⟨j+1,vb,vd,by omega,by go_num,by simp only[E2.out];rw[hm.out],by simp only[E2.out];rw[hm.out];exact O2.out,B2.out⟩
        case measure=>simp[intOf];omega
       |some (b',o',y)=>
        have eo2:=Lib.hid (offE_some HZ.out)
        simp only[pvE] at r2
        have B3:=Lib.hid (B2.out.trans ((Qt.refl wr).drew.below _))
        have N3:=Lib.hid (H.out.below B3.out)
        have P2:=Lib.hid (N3.out.op j b' o' y HZ.out)
        have FX:Hid (∀wx,Below w.heap.size w wx→wx.cell? ⟨b,o+1,none⟩=some (.int .i64 x.chan)∧wx.cell? ⟨b,o+2,none⟩=some (.int .i64 x.val)):=fun wx q=>by
         obtain⟨⟨-,q1,q2, -⟩, -⟩:=(H.out.below q).op i b o x HY.out
         exact⟨q1,q2⟩
        obtain⟨⟨d0,d1,d2,d3⟩,ea,ec,e1,e2,e3⟩:=P2.out
        have CT:=Lib.hid (containsInt_any wr.drew ea ec (E y) x.chan e2 (by unfold maxLen;omega))
        obtain⟨c1, -⟩:=FX.out _ B3.out
        rw[e1] at d3
        clear d2 e1 e2 e3
        go_upto_region 10 with(fail)
        clear r1 r2
        by_cases k2:y.kind=2
        ·by_cases kc:y.chan=x.chan
         ·have E2:Hid (rowP E (j+1) (offE L) i x=rowP E j (offE L) i x++[⟨i,j,x.chan,x.val⟩]):=by show _=_;rw[rowP_succ,eo2.out];simp[takesP,k2,kc]
          refine wp_region_allH (fun wx=>(wx.cell? ⟨b',o',none⟩=some (.int .i64 y.kind)∧wx.cell? ⟨b',o'+1,none⟩=some (.int .i64 y.chan))∧wx.cell? ⟨b',o'+3,none⟩=some (.slice ea (E y).length ec)∧wx.cell? ⟨b,o+1,none⟩=some (.int .i64 x.chan)) 34 (by kernel_rfl) rfl ?_ (fun hHeld=>?_)
          ·(exact⟨⟨d0,d1⟩,d3,c1⟩)
          iterate 17
           refine wpAnyH_takeN [0,1,2,3,4,5,6,7,8,9,10,11,12,13,14,15,16] (v:=?_) rfl rfl (by kernel_rfl) (by kernel_rfl) (by kernel_rfl) (fun _ _ _ h=>h) rfl ?_ hHeld ?_
           rotate_left
           ·intro w hSw
            try dsimp only at hSw
            go_simp
            all_goals with_reducible rfl
           try simp only[Act.put,List.setIfInBounds_toArray,List.set_cons_zero,List.set_cons_succ]
          iterate 16
           refine wpAnyH_skipN [17,18,19,20,21,22,23,24,25,26,27,28,29,30,31,32] rfl rfl (by kernel_rfl) (by kernel_rfl) (by kernel_rfl) (fun _ _ _ h=>h) rfl hHeld ?_
           try simp only[Act.put,List.setIfInBounds_toArray,List.set_cons_zero,List.set_cons_succ]
          iterate 1
           refine wpAnyH_takeN [33] (v:=?_) rfl rfl (by kernel_rfl) (by kernel_rfl) (by kernel_rfl) (fun _ _ _ h=>h) rfl ?_ hHeld ?_
           rotate_left
           ·intro w hSw
            try dsimp only at hSw
            go_simp
            all_goals with_reducible rfl
           try simp only[Act.put,List.setIfInBounds_toArray,List.set_cons_zero,List.set_cons_succ]
          refine wpAnyH_done (by kernel_rfl) ?_ _
          go_upto_region 11 with(fail)
          have B4:=Lib.hid (B3.out.trans ((Qt.refl wr.drew).drew.below _))
          have O4:=Lib.hid (own_upd O2.out (Upd.of_below (S:=fun _=>False) ((Qt.refl wr).drew.drew.bel)) (fun _ _=>id))
          obtain⟨f1,f2⟩:=FX.out _ B4.out
          refine wp_region_allH (fun wx=>wx.cell? ⟨b,o+1,none⟩=some (.int .i64 x.chan)∧wx.cell? ⟨b,o+2,none⟩=some (.int .i64 x.val)) 15 (by kernel_rfl) rfl ?_ (fun hHeld=>?_)
          ·(exact⟨f1,f2⟩)
          iterate 12
           refine wpAnyH_takeN [0,1,2,3,4,5,6,7,8,9,10,11] (v:=?_) rfl rfl (by kernel_rfl) (by kernel_rfl) (by kernel_rfl) (fun _ _ _ h=>h) rfl ?_ hHeld ?_
           rotate_left
           ·intro w hSw
            try dsimp only at hSw
            go_simp
            all_goals with_reducible rfl
           try simp only[Act.put,List.setIfInBounds_toArray,List.set_cons_zero,List.set_cons_succ]
          refine wpAnyH_step (i:=12) (by kernel_rfl) rfl (fun KK hK=>?_)
          (go_simp;have B5:=Lib.hid (B4.out.alloc (by have:=B4.out.size;omega) (.cells #[.int .i64 i,.int .i64 j,.int .i64 x.chan,.int .i64 x.val] 50));have O5:=Lib.hid (own_upd O4.out (Upd.of_below (S:=fun _=>False) ((Below.refl _ _).alloc (Nat.le_refl _) (.cells #[.int .i64 i,.int .i64 j,.int .i64 x.chan,.int .i64 x.val] 50))) (fun _ _=>id)))
          refine hK.out _ _ ?_ (fun hHeld=>?_)
          ·(first|exact FX.out _ B6.out|exact FX.out _ B5.out)
          clear hK KK
          try simp only[Act.put,List.setIfInBounds_toArray,List.set_cons_zero,List.set_cons_succ]
          refine wpAnyH_step (i:=13) (by kernel_rfl) rfl (fun KK hK=>?_)
          (refine step_append_cells (by rfl) _ _ 30 (by rfl) w.heap.size 50 i1 _ 4 32 Try.underlying30 JI.out JZ0.out JZ1.out JZ2.out rfl (by decide) (.slice vb m vd) m (flC stC (possU E n (offE L) i++rowP E j (offE L) i x)) (by rfl) O5.out (some ⟨wr.drew.drew.heap.size,0,none⟩) 1 1 (stC ⟨i,j,x.chan,x.val⟩) (by rfl) rfl (fun j' u hj=>⟨rfl,by rw[adr_mk,Nat.zero_add];exact(Blk.new wr.drew.drew 50 (stC ⟨i,j,x.chan,x.val⟩)).cell hj⟩) (stC_one _) (by have:=LN.out;unfold maxLen;omega) (by have:=LN.out;omega) (by have:=B5.out.size;simpa using this) ?_;intro v' w9 g1 g2 g3;obtain⟨va2,vc2,rfl,_⟩:=own_shape g1;have B6:=Lib.hid (B5.out.grown g2 (by have:=B5.out.size;simpa using this) (fun k hk=>(own_lt O5.out hk).2));have O6:=Lib.hid g1;clear g1 g2 g3)
          refine hK.out _ _ ?_ (fun hHeld=>?_)
          ·(first|exact FX.out _ B6.out|exact FX.out _ B5.out)
          clear hK KK
          try simp only[Act.put,List.setIfInBounds_toArray,List.set_cons_zero,List.set_cons_succ]
          iterate 1
           refine wpAnyH_takeN [14] (v:=?_) rfl rfl (by kernel_rfl) (by kernel_rfl) (by kernel_rfl) (fun _ _ _ h=>h) rfl ?_ hHeld ?_
           rotate_left
           ·intro w hSw
            try dsimp only at hSw
            go_simp
            all_goals with_reducible rfl
           try simp only[Act.put,List.setIfInBounds_toArray,List.set_cons_zero,List.set_cons_succ]
          refine wpAnyH_done (by kernel_rfl) ?_ _
          clear hHeld
          go_wp2_with fail
          go_roundw
          case rel=>exact⟨j+1,va2,vc2,by omega,by go_num,by simp only[E2.out,←List.append_assoc];rw[List.length_append,hm.out];rfl,by simp only[E2.out,←List.append_assoc];rw[flC_append,flC_one,List.length_append,hm.out];exact O6.out,B6.out⟩
          case measure=>simp[intOf];omega
         ·have E2:Hid (rowP E (j+1) (offE L) i x=rowP E j (offE L) i x):=by show _=_;rw[rowP_succ,eo2.out];simp[takesP,k2,kc]
          refine wp_region_allH (fun wx=>(wx.cell? ⟨b',o',none⟩=some (.int .i64 y.kind)∧wx.cell? ⟨b',o'+1,none⟩=some (.int .i64 y.chan))∧wx.cell? ⟨b',o'+3,none⟩=some (.slice ea (E y).length ec)∧wx.cell? ⟨b,o+1,none⟩=some (.int .i64 x.chan)) 34 (by kernel_rfl) rfl ?_ (fun hHeld=>?_)
          ·(exact⟨⟨d0,d1⟩,d3,c1⟩)
          iterate 14
           refine wpAnyH_takeN [0,1,2,3,4,5,6,7,8,9,10,11,12,13] (v:=?_) rfl rfl (by kernel_rfl) (by kernel_rfl) (by kernel_rfl) (fun _ _ _ h=>h) rfl ?_ hHeld ?_
           rotate_left
           ·intro w hSw
            try dsimp only at hSw
            go_simp
            all_goals with_reducible rfl
           try simp only[Act.put,List.setIfInBounds_toArray,List.set_cons_zero,List.set_cons_succ]
          iterate 1
           refine wpAnyH_takeN [14] (v:=?_) rfl rfl (by kernel_rfl) (by kernel_rfl) (by kernel_rfl) (fun _ _ _ h=>h) rfl ?_ hHeld ?_
           rotate_left
           ·intro w hSw
            try dsimp only at hSw
            (go_simp;(try simp only[decide_eq_false kc]);(try simp only[show(y.chan==x.chan)=false from by simp[kc]]))
            all_goals with_reducible rfl
           try simp only[Act.put,List.setIfInBounds_toArray,List.set_cons_zero,List.set_cons_succ]
          iterate 8
           refine wpAnyH_takeN [15,16,17,18,19,20,21,22] (v:=?_) rfl rfl (by kernel_rfl) (by kernel_rfl) (by kernel_rfl) (fun _ _ _ h=>h) rfl ?_ hHeld ?_
           rotate_left
           ·intro w hSw
            try dsimp only at hSw
            go_simp
            all_goals with_reducible rfl
           try simp only[Act.put,List.setIfInBounds_toArray,List.set_cons_zero,List.set_cons_succ]
          iterate 9
           refine wpAnyH_skipN [23,24,25,26,27,28,29,30,31] rfl rfl (by kernel_rfl) (by kernel_rfl) (by kernel_rfl) (fun _ _ _ h=>h) rfl hHeld ?_
           try simp only[Act.put,List.setIfInBounds_toArray,List.set_cons_zero,List.set_cons_succ]
          iterate 2
           refine wpAnyH_takeN [32,33] (v:=?_) rfl rfl (by kernel_rfl) (by kernel_rfl) (by kernel_rfl) (fun _ _ _ h=>h) rfl ?_ hHeld ?_
           rotate_left
           ·intro w hSw
            try dsimp only at hSw
            go_simp
            all_goals with_reducible rfl
           try simp only[Act.put,List.setIfInBounds_toArray,List.set_cons_zero,List.set_cons_succ]
          refine wpAnyH_done (by kernel_rfl) ?_ _
          go_wp2_with fail
          go_roundw
          case rel=>exact⟨j+1,vb,vd,by omega,by go_num,by simp only[E2.out];rw[hm.out],by simp only[E2.out];rw[hm.out];exact own_upd O2.out (Upd.of_below (S:=fun _=>False) (Qt.refl wr).drew.bel) (fun _ _=>id),B3.out⟩
          case measure=>simp[intOf];omega
        ·by_cases k3:y.kind=3
         ·by_cases km:x.chan∈E y
          ·have E2:Hid (rowP E (j+1) (offE L) i x=rowP E j (offE L) i x++[⟨i,j,x.chan,x.val⟩]):=by show _=_;rw[rowP_succ,eo2.out];simp[takesP,k3,km]
           refine wp_region_allH (fun wx=>(wx.cell? ⟨b',o',none⟩=some (.int .i64 y.kind)∧wx.cell? ⟨b',o'+1,none⟩=some (.int .i64 y.chan))∧wx.cell? ⟨b',o'+3,none⟩=some (.slice ea (E y).length ec)∧wx.cell? ⟨b,o+1,none⟩=some (.int .i64 x.chan)) 34 (by kernel_rfl) rfl ?_ (fun hHeld=>?_)
           ·(exact⟨⟨d0,d1⟩,d3,c1⟩)
           iterate 6
            refine wpAnyH_takeN [0,1,2,3,4,5] (v:=?_) rfl rfl (by kernel_rfl) (by kernel_rfl) (by kernel_rfl) (fun _ _ _ h=>h) rfl ?_ hHeld ?_
            rotate_left
            ·intro w hSw
             try dsimp only at hSw
             go_simp
             all_goals with_reducible rfl
            try simp only[Act.put,List.setIfInBounds_toArray,List.set_cons_zero,List.set_cons_succ]
           iterate 9
            refine wpAnyH_skipN [6,7,8,9,10,11,12,13,14] rfl rfl (by kernel_rfl) (by kernel_rfl) (by kernel_rfl) (fun _ _ _ h=>h) rfl hHeld ?_
            try simp only[Act.put,List.setIfInBounds_toArray,List.set_cons_zero,List.set_cons_succ]
           iterate 16
            refine wpAnyH_takeN [15,16,17,18,19,20,21,22,23,24,25,26,27,28,29,30] (v:=?_) rfl rfl (by kernel_rfl) (by kernel_rfl) (by kernel_rfl) (fun _ _ _ h=>h) rfl ?_ hHeld ?_
            rotate_left
            ·intro w hSw
             try dsimp only at hSw
             go_simp
             all_goals with_reducible rfl
            try simp only[Act.put,List.setIfInBounds_toArray,List.set_cons_zero,List.set_cons_succ]
           refine wpAnyH_step (i:=31) (by kernel_rfl) rfl (fun KK hK=>?_)
           (go_simp;(with_reducible refine CT.out.mono ?_);rintro e w9 ⟨rfl,rfl⟩;go_wp2_with fail)
           refine hK.out _ _ ?_ (fun hHeld=>?_)
           ·(exact⟨⟨d0,d1⟩,d3,c1⟩)
           clear hK KK
           try simp only[Act.put,List.setIfInBounds_toArray,List.set_cons_zero,List.set_cons_succ]
           iterate 2
            refine wpAnyH_takeN [32,33] (v:=?_) rfl rfl (by kernel_rfl) (by kernel_rfl) (by kernel_rfl) (fun _ _ _ h=>h) rfl ?_ hHeld ?_
            rotate_left
            ·intro w hSw
             try dsimp only at hSw
             go_simp
             all_goals with_reducible rfl
            try simp only[Act.put,List.setIfInBounds_toArray,List.set_cons_zero,List.set_cons_succ]
           refine wpAnyH_done (by kernel_rfl) ?_ _
           go_upto_region 11 with(fail)
           have B4:=Lib.hid (B3.out.trans ((Qt.refl wr.drew).drew.below _))
           have O4:=Lib.hid (own_upd O2.out (Upd.of_below (S:=fun _=>False) ((Qt.refl wr).drew.drew.bel)) (fun _ _=>id))
           obtain⟨f1,f2⟩:=FX.out _ B4.out
           refine wp_region_allH (fun wx=>wx.cell? ⟨b,o+1,none⟩=some (.int .i64 x.chan)∧wx.cell? ⟨b,o+2,none⟩=some (.int .i64 x.val)) 15 (by kernel_rfl) rfl ?_ (fun hHeld=>?_)
           ·(exact⟨f1,f2⟩)
           iterate 12
            refine wpAnyH_takeN [0,1,2,3,4,5,6,7,8,9,10,11] (v:=?_) rfl rfl (by kernel_rfl) (by kernel_rfl) (by kernel_rfl) (fun _ _ _ h=>h) rfl ?_ hHeld ?_
            rotate_left
            ·intro w hSw
             try dsimp only at hSw
             go_simp
             all_goals with_reducible rfl
            try simp only[Act.put,List.setIfInBounds_toArray,List.set_cons_zero,List.set_cons_succ]
           refine wpAnyH_step (i:=12) (by kernel_rfl) rfl (fun KK hK=>?_)
           (go_simp;have B5:=Lib.hid (B4.out.alloc (by have:=B4.out.size;omega) (.cells #[.int .i64 i,.int .i64 j,.int .i64 x.chan,.int .i64 x.val] 50));have O5:=Lib.hid (own_upd O4.out (Upd.of_below (S:=fun _=>False) ((Below.refl _ _).alloc (Nat.le_refl _) (.cells #[.int .i64 i,.int .i64 j,.int .i64 x.chan,.int .i64 x.val] 50))) (fun _ _=>id)))
           refine hK.out _ _ ?_ (fun hHeld=>?_)
           ·(first|exact FX.out _ B6.out|exact FX.out _ B5.out)
           clear hK KK
           try simp only[Act.put,List.setIfInBounds_toArray,List.set_cons_zero,List.set_cons_succ]
           refine wpAnyH_step (i:=13) (by kernel_rfl) rfl (fun KK hK=>?_)
           (refine step_append_cells (by rfl) _ _ 30 (by rfl) w.heap.size 50 i1 _ 4 32 Try.underlying30 JI.out JZ0.out JZ1.out JZ2.out rfl (by decide) (.slice vb m vd) m (flC stC (possU E n (offE L) i++rowP E j (offE L) i x)) (by rfl) O5.out (some ⟨wr.drew.drew.heap.size,0,none⟩) 1 1 (stC ⟨i,j,x.chan,x.val⟩) (by rfl) rfl (fun j' u hj=>⟨rfl,by rw[adr_mk,Nat.zero_add];exact(Blk.new wr.drew.drew 50 (stC ⟨i,j,x.chan,x.val⟩)).cell hj⟩) (stC_one _) (by have:=LN.out;unfold maxLen;omega) (by have:=LN.out;omega) (by have:=B5.out.size;simpa using this) ?_;intro v' w9 g1 g2 g3;obtain⟨va2,vc2,rfl,_⟩:=own_shape g1;have B6:=Lib.hid (B5.out.grown g2 (by have:=B5.out.size;simpa using this) (fun k hk=>(own_lt O5.out hk).2));have O6:=Lib.hid g1;clear g1 g2 g3)
           refine hK.out _ _ ?_ (fun hHeld=>?_)
           ·(first|exact FX.out _ B6.out|exact FX.out _ B5.out)
           clear hK KK
           try simp only[Act.put,List.setIfInBounds_toArray,List.set_cons_zero,List.set_cons_succ]
           iterate 1
            refine wpAnyH_takeN [14] (v:=?_) rfl rfl (by kernel_rfl) (by kernel_rfl) (by kernel_rfl) (fun _ _ _ h=>h) rfl ?_ hHeld ?_
            rotate_left
            ·intro w hSw
             try dsimp only at hSw
             go_simp
             all_goals with_reducible rfl
            try simp only[Act.put,List.setIfInBounds_toArray,List.set_cons_zero,List.set_cons_succ]
           refine wpAnyH_done (by kernel_rfl) ?_ _
           clear hHeld
           go_wp2_with fail
           go_roundw
           case rel=>exact⟨j+1,va2,vc2,by omega,by go_num,by simp only[E2.out,←List.append_assoc];rw[List.length_append,hm.out];rfl,by simp only[E2.out,←List.append_assoc];rw[flC_append,flC_one,List.length_append,hm.out];exact O6.out,B6.out⟩
           case measure=>simp[intOf];omega
          ·have E2:Hid (rowP E (j+1) (offE L) i x=rowP E j (offE L) i x):=by show _=_;rw[rowP_succ,eo2.out];simp[takesP,k3,km]
           refine wp_region_allH (fun wx=>(wx.cell? ⟨b',o',none⟩=some (.int .i64 y.kind)∧wx.cell? ⟨b',o'+1,none⟩=some (.int .i64 y.chan))∧wx.cell? ⟨b',o'+3,none⟩=some (.slice ea (E y).length ec)∧wx.cell? ⟨b,o+1,none⟩=some (.int .i64 x.chan)) 34 (by kernel_rfl) rfl ?_ (fun hHeld=>?_)
           ·(exact⟨⟨d0,d1⟩,d3,c1⟩)
           iterate 6
            refine wpAnyH_takeN [0,1,2,3,4,5] (v:=?_) rfl rfl (by kernel_rfl) (by kernel_rfl) (by kernel_rfl) (fun _ _ _ h=>h) rfl ?_ hHeld ?_
            rotate_left
            ·intro w hSw
             try dsimp only at hSw
             go_simp
             all_goals with_reducible rfl
            try simp only[Act.put,List.setIfInBounds_toArray,List.set_cons_zero,List.set_cons_succ]
           iterate 9
            refine wpAnyH_skipN [6,7,8,9,10,11,12,13,14] rfl rfl (by kernel_rfl) (by kernel_rfl) (by kernel_rfl) (fun _ _ _ h=>h) rfl hHeld ?_
            try simp only[Act.put,List.setIfInBounds_toArray,List.set_cons_zero,List.set_cons_succ]
           iterate 16
            refine wpAnyH_takeN [15,16,17,18,19,20,21,22,23,24,25,26,27,28,29,30] (v:=?_) rfl rfl (by kernel_rfl) (by kernel_rfl) (by kernel_rfl) (fun _ _ _ h=>h) rfl ?_ hHeld ?_
            rotate_left
            ·intro w hSw
             try dsimp only at hSw
             go_simp
             all_goals with_reducible rfl
            try simp only[Act.put,List.setIfInBounds_toArray,List.set_cons_zero,List.set_cons_succ]
           refine wpAnyH_step (i:=31) (by kernel_rfl) rfl (fun KK hK=>?_)
           (go_simp;(with_reducible refine CT.out.mono ?_);rintro e w9 ⟨rfl,rfl⟩;go_wp2_with fail)
           refine hK.out _ _ ?_ (fun hHeld=>?_)
           ·(exact⟨⟨d0,d1⟩,d3,c1⟩)
           clear hK KK
           try simp only[Act.put,List.setIfInBounds_toArray,List.set_cons_zero,List.set_cons_succ]
           iterate 2
            refine wpAnyH_takeN [32,33] (v:=?_) rfl rfl (by kernel_rfl) (by kernel_rfl) (by kernel_rfl) (fun _ _ _ h=>h) rfl ?_ hHeld ?_
            rotate_left
            ·intro w hSw
             try dsimp only at hSw
             go_simp
             all_goals with_reducible rfl
            try simp only[Act.put,List.setIfInBounds_toArray,List.set_cons_zero,List.set_cons_succ]
           refine wpAnyH_done (by kernel_rfl) ?_ _
           go_wp2_with fail
           go_roundw
           case rel=>exact⟨j+1,vb,vd,by omega,by go_num,by simp only[E2.out];rw[hm.out],by simp only[E2.out];rw[hm.out];exact own_upd O2.out (Upd.of_below (S:=fun _=>False) (Qt.refl wr).drew.bel) (fun _ _=>id),B3.out⟩
           case measure=>simp[intOf];omega
         ·have E2:Hid (rowP E (j+1) (offE L) i x=rowP E j (offE L) i x):=by show _=_;rw[rowP_succ,eo2.out];simp[takesP,k2,k3]
          refine wp_region_allH (fun wx=>(wx.cell? ⟨b',o',none⟩=some (.int .i64 y.kind)∧wx.cell? ⟨b',o'+1,none⟩=some (.int .i64 y.chan))∧wx.cell? ⟨b',o'+3,none⟩=some (.slice ea (E y).length ec)∧wx.cell? ⟨b,o+1,none⟩=some (.int .i64 x.chan)) 34 (by kernel_rfl) rfl ?_ (fun hHeld=>?_)
          ·(exact⟨⟨d0,d1⟩,d3,c1⟩)
          iterate 4
           refine wpAnyH_takeN [0,1,2,3] (v:=?_) rfl rfl (by kernel_rfl) (by kernel_rfl) (by kernel_rfl) (fun _ _ _ h=>h) rfl ?_ hHeld ?_
           rotate_left
           ·intro w hSw
            try dsimp only at hSw
            go_simp
            all_goals with_reducible rfl
           try simp only[Act.put,List.setIfInBounds_toArray,List.set_cons_zero,List.set_cons_succ]
          iterate 1
           refine wpAnyH_takeN [4] (v:=?_) rfl rfl (by kernel_rfl) (by kernel_rfl) (by kernel_rfl) (fun _ _ _ h=>h) rfl ?_ hHeld ?_
           rotate_left
           ·intro w hSw
            try dsimp only at hSw
            (go_simp;(try simp only[decide_eq_false k2]);(try simp only[show(y.kind==2)=false from by simp[k2]]))
            all_goals with_reducible rfl
           try simp only[Act.put,List.setIfInBounds_toArray,List.set_cons_zero,List.set_cons_succ]
          iterate 1
           refine wpAnyH_takeN [5] (v:=?_) rfl rfl (by kernel_rfl) (by kernel_rfl) (by kernel_rfl) (fun _ _ _ h=>h) rfl ?_ hHeld ?_
           rotate_left
           ·intro w hSw
            try dsimp only at hSw
            go_simp
            all_goals with_reducible rfl
           try simp only[Act.put,List.setIfInBounds_toArray,List.set_cons_zero,List.set_cons_succ]
          iterate 9
           refine wpAnyH_skipN [6,7,8,9,10,11,12,13,14] rfl rfl (by kernel_rfl) (by kernel_rfl) (by kernel_rfl) (fun _ _ _ h=>h) rfl hHeld ?_
           try simp only[Act.put,List.setIfInBounds_toArray,List.set_cons_zero,List.set_cons_succ]
          iterate 6
           refine wpAnyH_takeN [15,16,17,18,19,20] (v:=?_) rfl rfl (by kernel_rfl) (by kernel_rfl) (by kernel_rfl) (fun _ _ _ h=>h) rfl ?_ hHeld ?_
           rotate_left
           ·intro w hSw
            try dsimp only at hSw
            go_simp
            all_goals with_reducible rfl
           try simp only[Act.put,List.setIfInBounds_toArray,List.set_cons_zero,List.set_cons_succ]
          iterate 1
           refine wpAnyH_takeN [21] (v:=?_) rfl rfl (by kernel_rfl) (by kernel_rfl) (by kernel_rfl) (fun _ _ _ h=>h) rfl ?_ hHeld ?_
           rotate_left
           ·intro w hSw
            try dsimp only at hSw
            (go_simp;(try simp only[decide_eq_false k3]);(try simp only[show(y.kind==3)=false from by simp[k3]]))
            all_goals with_reducible rfl
           try simp only[Act.put,List.setIfInBounds_toArray,List.set_cons_zero,List.set_cons_succ]
          iterate 1
           refine wpAnyH_takeN [22] (v:=?_) rfl rfl (by kernel_rfl) (by kernel_rfl) (by kernel_rfl) (fun _ _ _ h=>h) rfl ?_ hHeld ?_
           rotate_left
           ·intro w hSw
            try dsimp only at hSw
            go_simp
            all_goals with_reducible rfl
           try simp only[Act.put,List.setIfInBounds_toArray,List.set_cons_zero,List.set_cons_succ]
          iterate 9
           refine wpAnyH_skipN [23,24,25,26,27,28,29,30,31] rfl rfl (by kernel_rfl) (by kernel_rfl) (by kernel_rfl) (fun _ _ _ h=>h) rfl hHeld ?_
           try simp only[Act.put,List.setIfInBounds_toArray,List.set_cons_zero,List.set_cons_succ]
          iterate 2
           refine wpAnyH_takeN [32,33] (v:=?_) rfl rfl (by kernel_rfl) (by kernel_rfl) (by kernel_rfl) (fun _ _ _ h=>h) rfl ?_ hHeld ?_
           rotate_left
           ·intro w hSw
            try dsimp only at hSw
            go_simp
            all_goals with_reducible rfl
           try simp only[Act.put,List.setIfInBounds_toArray,List.set_cons_zero,List.set_cons_succ]
          refine wpAnyH_done (by kernel_rfl) ?_ _
          go_wp2_with fail
          go_roundw
          case rel=>exact⟨j+1,vb,vd,by omega,by go_num,by simp only[E2.out];rw[hm.out],by simp only[E2.out];rw[hm.out];exact own_upd O2.out (Upd.of_below (S:=fun _=>False) (Qt.refl wr).drew.bel) (fun _ _=>id),B3.out⟩
          case measure=>simp[intOf];omega
      ·obtain rfl:j=n:=by omega
       go_wp2_with fail
       go_roundw
       case rel=>exact⟨i+1,vb,vd,by omega,by go_num,by simp only[EE.out];rw[hm.out],by simp only[EE.out];rw[hm.out];exact O2.out,B2.out⟩
       case measure=>simp[intOf];omega
    ·have EE:Hid (possU E n (offE L) (i+1)=possU E n (offE L) i):=by show _=_;rw[possU_succ,eo.out];simp only[hk,if_false,List.append_nil]
     go_wp2_with fail
     go_roundw
     case rel=>exact⟨i+1,va,vc,by omega,by go_num,by rw[EE.out],by rw[EE.out];exact O1.out,B1.out⟩
     case measure=>simp[intOf];omega
  ·obtain rfl:i=n:=by omega
   go_wp2_with fail
   go_ret
   exact⟨_,rfl,by rw[←possU_all];exact O1.out,B1.out⟩
end
end Go.Proofs.Ytbjlijagheifgaa
namespace Go.Side
section
open Go Go.Conc Go.ConcN Go.Proofs.Ytbjlijagheifgaa
def Chg(S:Nat→Prop)(T:Terr)(w u:World):Prop:=∀b,b<w.heap.size→¬HidB T w b→(¬S b→u.heap[b]?=w.heap[b]?)∧∀o,w.heap[b]?=some o→∃o',u.heap[b]?=some o'∧Kin o o'
theorem Chg.same{S:Nat→Prop}{T:Terr}{w u u':World}(L:Like (HidB T w) w u)(h:∀b,b<u.heap.size→u'.heap[b]?=u.heap[b]?):Chg S T w u':=fun b hb hh=>
 have e:u'.heap[b]?=w.heap[b]?:=(h b (by rw[L.size];exact hb)).trans (L.same b hh)
 ⟨fun _=>e,fun o ho=>⟨o,e.trans ho,.refl o⟩⟩
theorem Fr.ofLone{S:Nat→Prop}{T T':Terr}{w w' u:World}(L:Like (HidB T w) w' u)(A:Aft false (HidB T w) T w w')(Q:Chg S T w u)(hro:T'.ro=T.ro)(hkn:T'.kn=T.kn)(hwr:∀l,T'.wr l↔T.wr l∨Fresh w.heap.size w'.heap.size l):Fr S T T' w w':=by
 refine⟨A.size,hro,hkn,fun l h=>(hwr l).2 (.inl h),fun l h=>?_,fun a ha hb hS=>?_,fun b o hk ho=>?_,fun r o _ ho hn=>A.objs rfl r o ho hn,A.os,A.out⟩
 ·rcases(hwr l).1 h with h|h
  ·exact .inl h
  ·exact .inr fun hl=>by cases l<;>simp only[Fresh,Loc.low] at h hl<;>first|exact h|omega
 ·by_cases hh:HidB T w a.block
  ·exact A.cell a hh ha
  ·have e1:=L.same _ hh
   have e2:=(Q _ hb hh).1 hS
   exact World.cell?_of_block (e1.symm.trans e2)
 ·by_cases hh:HidB T w b
  ·exact A.kin b o hh ho
  ·obtain⟨o',h1,h2⟩:=(Q b (Array.getElem?_eq_some_iff.1 ho).1 hh).2 o ho
   exact⟨o',(L.same b hh).symm.trans h1,h2⟩
section
variable {σ:Type} {C:Fix σ} {Anc:Nat→(Nat→WV)→(Nat→WState σ)→Goroutine→World→Prop} {T:Terr} {d p n:Nat} {ws:Nat→WV} {st:Nat→WState σ} {b:Frame} {a:Act} {k:List Item} {cs:List Frame} {w:World} {L:Fns} {c:Code} {Q:Act→World→Prop}
theorem SW.loneF(F:FuncsOK false C.P L)(hb:∃fn,C.P.funcs[b.fn]?=some fn)(hk:b.kind= .normal)(hc:codePlain false none C.P L c=true)(hd:a.defers=[])(hq:QuietS n st)(I:GI C.R0 T w)(hR:∀l,C.R0 l→T.wr l)(LH:∀u,Like (HidB T w) w u→c.wp C.P (fun e a' u'=>e= .normal∧Q a' u') a u)(kk:∀a' u w' T',Q a' u→a'.defers=[]→Like (HidB T w) w' u→GI C.R0 T' w'→T'.ro=T.ro→T'.kn=T.kn→(∀l,T'.wr l↔T.wr l∨Fresh w.heap.size w'.heap.size l)→(∀S,Chg S T w u→Fr S T T' w w')→SW C Anc T' d p n ws st (G (b.at a' k) cs) w'):
  SW C Anc T d p n ws st (G (b.at a (.code c::k)) cs) w:=by
 obtain⟨l₀,L₀⟩:=like_exists (H:=HidB T w) fun b hb=>I.hid hR hb
 refine .own true (fun _=>hq) _ (lone_piece F hb hk hc hd (I.covers hR) L₀ (fun e a u h=>.inl h.1) LH) fun T' g' w' ⟨a',u,hl,hd',hcase,_,A,hro,hkn,hwr⟩=>?_
 have I':=I.after hR A hl hro hkn hwr
 rcases hcase with⟨⟨_,hq'⟩,rfl⟩|⟨⟨h,_⟩,todo,rfl⟩
 ·exact kk a' u w' T' hq' hd' hl I' hro hkn hwr fun S hS=>Fr.ofLone hl A hS hro hkn hwr
 ·cases h
end
theorem not_hid{T:Terr}{w:World}{b:Nat}(h:∀a:Addr,a.block=b→T.wr (.cell a)):¬HidB T w b:=fun⟨_,a,e,hn⟩=>hn (h a e)
theorem OwnR.seen{T:Terr}{w u:World}{b:Nat}{c:Array Value}{e:TypeId}(h:OwnR T w b c e)(L:Like (HidB T w) w u):u.heap[b]?=some (.cells c e (0,0)):=(L.same b (not_hid h.cells)).trans h.heap
open Go.RowKit in
theorem append_kin{P:Program}(w:World)(base:Nat)(t ty e:TypeId)(i:TypeInfo)(z:Value)(size bytes:Nat)(ht:P.underlying t=some (.slice e))(hi:P.info? e=some i)(hz:i.zero=some z)(hsize:i.size=size)(hby:i.bytes=bytes)(hsz:3≤size)(v:Value)(n:Nat)(xs:List Value)(hown:w.ownsRow base e size v n xs)(a:Addr)(m c:Nat)(us:List Value)(hl:us.length=m*size)(hr:∀j u,us[j]?=some u→w.cell? (a.add j)=some u)(h1:∀u∈us,u.oneCell'=true)(h63:n+m≤maxLen)(hbytes:(n+m)*bytes≤140737488355328){v':Value}{w':World}(hrun:(Builtin.append_ #[t,t] ty #[v,.slice (some a) m c]).run P w= .ok v' w'):
  ∀g,v.ownBlock=some g→∀o,w.heap[g]?=some o→∃o',w'.heap[g]?=some o'∧Kin o o':=by
 subst hsize
 subst hby
 have hsmall:n+m≤9223372036854775807:=by simp only[maxLen] at h63;omega
 intro g hg o ho
 rcases hown.2 with⟨rfl,rfl⟩|⟨g',cap,cur,rfl,hbg,hgg,hnc,hcm,hcs,htake⟩
 ·cases hg
 ·obtain rfl:g'=g:=by simpa[Value.ownBlock] using hg
  obtain rfl:=Option.some.inj (hgg.symm.trans ho)
  by_cases hroom:n+m≤cap
  ·have hfit:n*i.size+us.length≤cur.size:=by rw[hl,hcs,←Nat.add_mul];exact Nat.mul_le_mul_right _ hroom
   have h:=run_append_room (P:=P) w t ty e i ht hi g' n cap cur hgg a m c us hl hr h1 hroom hfit
   rw[h] at hrun
   obtain⟨rfl,rfl⟩:=by simpa using hrun
   refine⟨_,setRow_heap w g' cur _ e _ hgg,_,rfl,?_,fun⟨x,y,hc⟩=>?_⟩
   ·simp only[List.size_toArray,List.length_append,List.length_take,List.length_drop,Array.length_toList]
    omega
   ·have h2:cur.size=2:=by rw[hc];rfl
    rw[hcs] at h2
    rcases cap with _|cap
    ·omega
    ·rw[Nat.succ_mul] at h2;omega
  ·have holds:∀j u,xs[j]?=some u→w.cell? ((⟨g',0,none⟩:Addr).add j)=some u:=hown.cells (g:=g') rfl
   have h:=run_append_grow (P:=P) w t ty e i z ht hi hz ⟨g',0,none⟩ n cap xs hown.1 holds a m c us hl hr (by omega) (by omega) (growslice_fits (by omega) hbytes)
   rw[h] at hrun
   obtain⟨rfl,rfl⟩:=by simpa using hrun
   exact⟨_,(Below.heap_alloc w.drew _ _ (Array.getElem?_eq_some_iff.1 hgg).1).trans hgg,.refl _⟩
end
section
open Go Go.Conc Go.ConcN Go.Proofs Go.Proofs.Ytbjlijagheifgaa
theorem stepOf_none(P:Program)(h:P.funcs.all (fun f=>(f.body.map readies).all (·.isEmpty))=true)(g:Nat):P.stepOf g=none:=by
 unfold Program.stepOf
 rw[Array.findIdx?_eq_none_iff]
 intro f hf
 have h1:=(Array.all_eq_true_iff_forall_mem.1 h) f hf
 cases hb:f.body.map readies with
 |none=>rfl
 |some r=>
  rw[hb] at h1
  simp only[Option.all_some] at h1
  simp only[Option.any_some]
  simp_all
def Fns.check(P:Program)(L:Fns):Bool:=
 L.l.all (goFunc P)&&L.dl.all (L.l.contains ·)&&L.sl.all (fun p=> !L.dl.contains p.1)&&L.l.all fun f=>((P.funcs[f]?).bind (·.body)).all (codePlain false (some f) P L)
theorem funcsOK{P:Program}{L:Fns}(hs:Settled P)(h:L.check P=true):FuncsOK false P L:=by
 unfold Fns.check at h
 simp only[Bool.and_eq_true,List.all_eq_true] at h
 obtain⟨⟨⟨h1,h2⟩,h3⟩,h4⟩:=h
 refine⟨hs,⟨h1,fun f hf=>by simpa using h2 f hf,fun p hp=>by simpa using h3 p hp⟩,fun f hf fn c e1 e2=>?_⟩
 have:=h4 f hf
 rw[e1,Option.bind_some,e2] at this
 exact this
theorem settled:Settled Try.prog:=⟨by kernel_rfl,fun g=>stepOf_none _ (by kernel_rfl) g⟩
theorem possOK:FuncsOK false Try.prog ⟨[36,61,68],[],[]⟩:=funcsOK settled (by kernel_rfl)
def lawFns:Fns:=⟨[13,14,15,16,17,18,19,20,21,22,23,24,25,32,33,34,35,36,37,38,39,59,60,61,62,68],[(32,1),(32,6),(59,1),(59,11),(24,9),(24,18),(24,19),(24,59)],[33,38]⟩
theorem lawOK:FuncsOK false Try.prog lawFns:=funcsOK settled (by kernel_rfl)
end
end Go.Side
