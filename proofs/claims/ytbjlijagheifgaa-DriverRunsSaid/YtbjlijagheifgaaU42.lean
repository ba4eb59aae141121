/-
  Texts of Ytbjlijagheifgaa, merged.
-/
import Derived.Test.YtbjlijagheifgaaU40
import Derived.Test.YtbjlijagheifgaaU41
set_option linter.unusedSimpArgs false
set_option linter.unusedVariables false
namespace Go.Proofs.Ytbjlijagheifgaa
section
open Go.RowKit Go.Side Go.ConcN
theorem made_int(n:Nat):madeCells (Value.int .i64 0).cells (n*1)=(rowA n fun _=>(0,0)).toArray:=by
 simp only[Nat.mul_one,rowA]
 apply Array.ext_getElem?
 intro j
 rcases Nat.lt_or_ge j n with h|h
 ·simp[madeCells,Value.cells,h]
  rw[Nat.mod_one];rfl
 ·simp[madeCells,Value.cells,h]
theorem mk_ints(w:World)(n:Nat)(h:n≤1000000):(Instr.makeSlice 23 (.int .i64 n) (.int .i64 n)).run Try.prog w= .ok (.slice (some ⟨w.heap.size,0,none⟩) n n) (w.alloc (.cells (rowA n fun _=>(0,0)).toArray 3 (0,0))):=by
 obtain⟨i0,hi,hz0,hz1,hz2⟩:=info_parts Try.infoInt
 have h:=run_make (P:=Try.prog) (w:=w) 23 3 i0 (.int .i64 0) Try.underlying23 hi hz0 .i64 .i64 n n (by omega) (by omega) (by rw[hz2];omega) (by omega)
 rw[hz1,Int.toNat_natCast,made_int] at h
 exact h
structure RfM(w:World)(n bA bZ bo rb:Nat)(r:PS)(S:List StepP)(v:Value)(wr:World):Prop where
 ps:PSm wr bA bZ n r
 out:Blk wr bo 46 [v,.slice none 0 0,.slice none 0 0,.slice none 0 0]
 res:Blk wr rb 46 [.slice none 0 0,.slice none 0 0,.slice none 0 0,.slice none 0 0]
 own:wr.ownsRow w.heap.size 89 4 v S.length (flC stC S)
 bel:Below w.heap.size w wr
theorem rowZ_zero(n:Nat):(rowZ n fun _=>(0,0))=rowA n fun _=>(0,0):=List.map_congr_left fun _ _=>rfl
theorem two_rows(w:World)(n:Nat)(xs:List Value):∀W,W=(((w.alloc (.cells xs.toArray 46)).alloc (.cells (rowA n fun _=>(0,0)).toArray 3)).alloc (.cells (rowA n fun _=>(0,0)).toArray 3)).drew→
  (PSm W (w.heap.size+1) (w.heap.size+1+1) n (fun _=>(0,0))∧PSm W (w.heap.size+1+1) (w.heap.size+1) n (fun _=>(0,0)))∧Blk W w.heap.size 46 xs∧Below w.heap.size w W:=by
 intro W hW
 have h1:=(((Blk.new w 46 xs).alloc (.cells (rowA n fun _=>(0,0)).toArray 3)).alloc (.cells (rowA n fun _=>(0,0)).toArray 3)).drew
 have h2:=((Blk.new (w.alloc (.cells xs.toArray 46)) 3 (rowA n fun _=>(0,0))).alloc (.cells (rowA n fun _=>(0,0)).toArray 3)).drew
 have h3:=(Blk.new ((w.alloc (.cells xs.toArray 46)).alloc (.cells (rowA n fun _=>(0,0)).toArray 3)) 3 (rowA n fun _=>(0,0))).drew
 rw[←hW] at h1 h2 h3
 simp only[World.size_alloc] at h2 h3
 refine⟨⟨⟨h2,by rw[rowZ_zero];exact h3⟩,h3,by rw[rowZ_zero];exact h2⟩,h1,?_⟩
 rw[hW]
 exact((((Below.refl _ _).alloc (Nat.le_refl _) _).alloc (by simp) _).alloc (by simp;omega) _).trans ((Qt.refl _).drew.below _)
def at_L(n:Nat)(s:PS):List Int:=(List.range n).map fun k=>((s k).1:Int)
theorem at_L_len(n:Nat)(s:PS):(at_L n s).length=n:=by simp[at_L]
theorem psm_slA{w:World}{bA bZ n:Nat}{r:PS}(h:PSm w bA bZ n r):Sl (Value.int .i64) w (some ⟨bA,0,none⟩) (at_L n r):=by
 have:=h.at_
 rw[show rowA n r=(at_L n r).map (Value.int .i64) from by simp[rowA,at_L]] at this
 exact this.sl
theorem at_L_ok{L:List TkD}{s:PS}(h:Fit L s):atOk L (at_L L.length s)=true:=by
 unfold atOk
 rw[List.all_eq_true]
 intro i hi
 have hi:=List.mem_range.1 hi
 have h1:L[i]?=some L[i]:=List.getElem?_eq_getElem hi
 have h2:(at_L L.length s)[i]?=some ((s i).1:Int):=range_get _ hi
 rw[h1,h2]
 have:=h i _ h1
 simp;omega
theorem at_L_poss(L:List TkD)(s:PS):possD L.length (offAt L ((at_L L.length s).map Int.toNat))=possS L s:=by
 refine possD_congr fun k hk=>?_
 have h2:((at_L L.length s).map Int.toNat)[k]?=some (s k).1:=by rw[List.getElem?_map,show(at_L L.length s)[k]?=some ((s k).1:Int) from range_get _ hk];simp
 unfold offAt offS
 rw[h2]
 rfl
theorem RfM.congr{w wr:World}{n bA bZ bo rb:Nat}{r q:PS}{S:List StepP}{v:Value}(h:RfM w n bA bZ bo rb r S v wr)(e:∀k,k<n→r k=q k):RfM w n bA bZ bo rb q S v wr:=⟨h.ps.congr e,h.out,h.res,h.own,h.bel⟩
theorem RfM.new{w wr wx:World}{n bA bZ bo rb:Nat}{r:PS}{S:List StepP}{v:Value}(h:RfM w n bA bZ bo rb r S v wr)(q:Below wr.heap.size wr wx):RfM w n bA bZ bo rb r S v wx:=
 ⟨h.ps.new q,h.out.upd (S:=fun _=>False) (Upd.of_below q) id,h.res.upd (S:=fun _=>False) (Upd.of_below q) id,own_upd h.own (Upd.of_below (S:=fun _=>False) q) (fun _ _=>id),h.bel.trans (q.mono h.bel.size)⟩
theorem stV_ownT{w:World}{base:Nat}{v:Value}{S:List StepP}{T:TypeId}(h:w.ownsRow base T 4 v S.length (flC stC S)):StV w v S:=by
 obtain⟨a,c,rfl,_⟩:=own_shape h
 refine⟨a,c,rfl,fun j s hj=>⟨(ownC_cell stC_len (by decide) h hj (k:=0) (by decide) rfl).1,fun i x hx=>?_⟩⟩
 have hi:i<4:=by
  rcases Nat.lt_or_ge i 4 with h|h
  ·exact h
  ·rw[List.getElem?_eq_none (by simpa[stC] using h)] at hx;cases hx
 exact(ownC_cell stC_len (by decide) h hj hi hx).2
def lenAt(w:World)(b:Nat):Nat:=match w.cell? ⟨b,0,none⟩ with
 |some (.slice _ m _)=>m
 |_=>0
def posAt(w:World)(b i:Nat):Nat:=match w.cell? ⟨b,i,none⟩ with
 |some (.int _ z)=>z.toNat
 |_=>0
theorem RfM.len{w wr:World}{n bA bZ bo rb:Nat}{r:PS}{S:List StepP}{a:Option Addr}{m c:Nat}(h:RfM w n bA bZ bo rb r S (.slice a m c) wr):lenAt wr bo=m:=by
 unfold lenAt
 rw[h.out.cell (i:=0) rfl]
theorem RfM.pos{w wr:World}{n bA bZ bo rb i:Nat}{r:PS}{S:List StepP}{v:Value}(h:RfM w n bA bZ bo rb r S v wr)(hi:i<n):posAt wr bA i=(r i).1:=by
 unfold posAt
 rw[h.ps.getA hi]
 simp
theorem RfM.qt{w wr wx:World}{n bA bZ bo rb:Nat}{r:PS}{S:List StepP}{v:Value}(h:RfM w n bA bZ bo rb r S v wr)(q:Qt wr wx):RfM w n bA bZ bo rb r S v wx:=
 ⟨h.ps.qt q,h.out.qt q,h.res.qt q,own_upd h.own (Upd.of_below (S:=fun _=>False) q.bel) (fun _ _=>id),h.bel.trans (q.below _)⟩
structure RfB(w:World)(bA bZ bo rb:Nat):Prop where
 az:bA≠bZ
 ao:bA≠bo
 ar:bA≠rb
 zo:bZ≠bo
 zr:bZ≠rb
 or:bo≠rb
 la:w.heap.size≤bA
 lz:w.heap.size≤bZ
 lo:w.heap.size≤bo
theorem RfM.setA{w wr:World}{n bA bZ bo rb i:Nat}{r:PS}{S:List StepP}{v:Value}(h:RfM w n bA bZ bo rb r S v wr)(hb:RfB w bA bZ bo rb)(hi:i<n)(p:Nat):RfM w n bA bZ bo rb (upd r i (p,(r i).2)) S v (wr.setCell ⟨bA,i,none⟩ (.int .i64 (p:Int))):=by
 have U:Upd (fun k=>k=bA) wr (wr.setCell ⟨bA,i,none⟩ (.int .i64 (p:Int))):=(Upd.refl _ _).setCell _ _ (fun _=>rfl)
 exact⟨h.ps.setA hb.az hi p,h.out.upd U hb.ao.symm,h.res.upd U hb.ar.symm,own_upd h.own U fun g hg e=>own_type h.own h.ps.at_ (by decide) (e▸hg),Upd.below h.bel U h.bel.size fun k hk=>hk▸hb.la⟩
theorem RfM.setZ{w wr:World}{n bA bZ bo rb i:Nat}{r:PS}{S:List StepP}{v:Value}(h:RfM w n bA bZ bo rb r S v wr)(hb:RfB w bA bZ bo rb)(hi:i<n)(z:Int):RfM w n bA bZ bo rb (upd r i ((r i).1,z)) S v (wr.setCell ⟨bZ,i,none⟩ (.int .i64 z)):=by
 have U:Upd (fun k=>k=bZ) wr (wr.setCell ⟨bZ,i,none⟩ (.int .i64 z)):=(Upd.refl _ _).setCell _ _ (fun _=>rfl)
 exact⟨h.ps.setZ hb.az hi z,h.out.upd U hb.zo.symm,h.res.upd U hb.zr.symm,own_upd h.own U fun g hg e=>own_type h.own h.ps.sm (by decide) (e▸hg),Upd.below h.bel U h.bel.size fun k hk=>hk▸hb.lz⟩
structure RfE(w w9:World)(n bA bZ bo rb:Nat)(s:PS)(S:List StepP)(v u:Value)(U:List Int)(wr:World):Prop where
 ps:PSm wr bA bZ n s
 out:Blk wr bo 46 [v,.slice none 0 0,u,.slice none 0 0]
 res:Blk wr rb 46 [.slice none 0 0,.slice none 0 0,.slice none 0 0,.slice none 0 0]
 own:wr.ownsRow w.heap.size 89 4 v S.length (flC stC S)
 stk:wr.ownsRow w9.heap.size 3 1 u U.length (U.map (Value.int .i64))
 la:bA<w9.heap.size
 lz:bZ<w9.heap.size
 bel:Below w.heap.size w wr
 sz:w9.heap.size≤wr.heap.size
theorem RfM.toE{w wr:World}{n bA bZ bo rb:Nat}{r:PS}{S:List StepP}{v:Value}(h:RfM w n bA bZ bo rb r S v wr):RfE w wr n bA bZ bo rb r S v (.slice none 0 0) [] wr:=
 ⟨h.ps,h.out,h.res,h.own,⟨rfl,.inl ⟨rfl,rfl⟩⟩,h.ps.at_.lt,h.ps.sm.lt,h.bel,Nat.le_refl _⟩
section
variable {w w9 wr wx w6:World} {n bA bZ bo rb:Nat} {s:PS} {S:List StepP} {v u u':Value} {U:List Int} {o:Obj}
theorem RfE.new(h:RfE w w9 n bA bZ bo rb s S v u U wr)(q:Below wr.heap.size wr wx):RfE w w9 n bA bZ bo rb s S v u U wx:=
 ⟨h.ps.new q,h.out.upd (S:=fun _=>False) (Upd.of_below q) id,h.res.upd (S:=fun _=>False) (Upd.of_below q) id,own_upd h.own (Upd.of_below (S:=fun _=>False) q) (fun _ _=>id),own_upd h.stk (Upd.of_below (S:=fun _=>False) q) (fun _ _=>id),h.la,h.lz,h.bel.trans (q.mono h.bel.size),Nat.le_trans h.sz q.size⟩
theorem RfE.pushed(h:RfE w w9 n bA bZ bo rb s S v u U wr)(g2:(wr.alloc o).grownBy w6 u.ownBlock):Blk w6 bo 46 [v,.slice none 0 0,u,.slice none 0 0]:=by
 have A:=h.new ((Below.refl _ _).alloc (Nat.le_refl _) o)
 exact A.out.upd (Upd.of_grownV g2) (own_type A.stk A.out (by decide))
theorem RfE.push(h:RfE w w9 n bA bZ bo rb s S v u U wr)(hb:RfB w bA bZ bo rb)(hw:w.heap.size≤w9.heap.size){k:Int}(g1:w6.ownsRow w9.heap.size 3 1 u' (U.length+1) (U.map (Value.int .i64)++[.int .i64 k]))(g2:(wr.alloc o).grownBy w6 u.ownBlock):
  RfE w w9 n bA bZ bo rb s S v u' (U++[k]) (w6.setCell ⟨bo,2,none⟩ u'):=by
 have A:=h.new ((Below.refl _ _).alloc (Nat.le_refl _) o)
 have U1:=Upd.of_grownV g2
 have hlt:∀g,u.ownBlock=some g→w9.heap.size≤g:=fun g hg=>(own_lt A.stk hg).2
 have p6:=A.ps.upd U1 (fun e=>by have:=hlt _ e;have:=h.la;omega) (fun e=>by have:=hlt _ e;have:=h.lz;omega)
 have o6:=A.out.upd U1 (own_type A.stk A.out (by decide))
 have r6:=A.res.upd U1 (own_type A.stk A.res (by decide))
 have w6':=own_upd A.own U1 fun g hg e=>by
  obtain⟨c,f,hc⟩:=own_cells A.own hg
  exact own_type A.stk hc (by decide) e
 have b6:=Upd.below A.bel U1 A.bel.size fun k hk=>Nat.le_trans hw (hlt _ hk)
 have U2:Upd (fun k=>k=bo) w6 (w6.setCell ⟨bo,2,none⟩ u'):=(Upd.refl _ _).setCell _ _ (fun _=>rfl)
 refine⟨p6.upd U2 hb.ao hb.zo,o6.set 2 u',r6.upd U2 hb.or.symm,own_upd w6' U2 fun g hg e=>own_type w6' o6 (by decide) (e▸hg),?_,h.la,h.lz,Upd.below b6 U2 b6.size (fun k hk=>hk▸hb.lo),Nat.le_trans A.sz (Nat.le_trans U1.size U2.size)⟩
 rw[List.length_append,List.map_append]
 exact own_upd g1 U2 fun g hg e=>own_type g1 o6 (by decide) (e▸hg)
theorem RfE.qt(h:RfE w w9 n bA bZ bo rb s S v u U wr)(q:Qt wr wx):RfE w w9 n bA bZ bo rb s S v u U wx:=h.new q.bel
end
def RfPost(w:World)(L:List TkD)(chs:List Int)(e:Ending)(w':World):Prop:=
 ∃s' S' v0 v1 v2 v3,e= .returned (.agg #[v0,v1,v2,v3])∧Outc L chs s' S'∧StV w' v0 S'∧InV w' v1 (sumsA L s')∧InV w' v2 (stuckA L s')∧S'.length≤120∧(∃a n c,v3= .slice a n c)∧Below w.heap.size w w'
theorem RfM.push{w wr w6:World}{n bA bZ bo rb:Nat}{r:PS}{S:List StepP}{v v':Value}{o:Obj}{x:StepP}(h:RfM w n bA bZ bo rb r S v wr)(hb:RfB w bA bZ bo rb)(g1:w6.ownsRow w.heap.size 89 4 v' (S.length+1) (flC stC S++stC x))(g2:(wr.alloc o).grownBy w6 v.ownBlock):
  RfM w n bA bZ bo rb r (S++[x]) v' (w6.setCell ⟨bo,0,none⟩ v'):=by
 have A:=h.new ((Below.refl _ _).alloc (Nat.le_refl _) o)
 have U1:=Upd.of_grownV g2
 have p6:=A.ps.upd U1 (own_type A.own A.ps.at_ (by decide)) (own_type A.own A.ps.sm (by decide))
 have o6:=A.out.upd U1 (own_type A.own A.out (by decide))
 have r6:=A.res.upd U1 (own_type A.own A.res (by decide))
 have b6:=Upd.below A.bel U1 A.bel.size fun k hk=>(own_lt A.own hk).2
 have U2:Upd (fun k=>k=bo) w6 (w6.setCell ⟨bo,0,none⟩ v'):=(Upd.refl _ _).setCell _ _ (fun _=>rfl)
 refine⟨p6.upd U2 hb.ao hb.zo,o6.set 0 v',r6.upd U2 hb.or.symm,?_,Upd.below b6 U2 b6.size fun k hk=>hk▸hb.lo⟩
 rw[List.length_append,flC_append,flC_one]
 exact own_upd g1 U2 fun g hg e=>own_type g1 o6 (by decide) (e▸hg)
theorem RfM.pushed{w wr w6:World}{n bA bZ bo rb:Nat}{r:PS}{S:List StepP}{v:Value}{o:Obj}(h:RfM w n bA bZ bo rb r S v wr)(g2:(wr.alloc o).grownBy w6 v.ownBlock):Blk w6 bo 46 [v,.slice none 0 0,.slice none 0 0,.slice none 0 0]:=by
 have A:=h.new ((Below.refl _ _).alloc (Nat.le_refl _) o)
 exact A.out.upd (Upd.of_grownV g2) (own_type A.own A.out (by decide))
set_option maxHeartbeats 8000000 in
set_option maxRecDepth 100000 in
theorem refRun_any(w:World)(a b:Option Addr)(c d:Nat)(L:List TkD)(chs:List Int)(hs:SlT w a L)(hp:Sl (Value.int .i64) w b chs)(hl:L.length≤8)(ho:∀t∈L,t.ops.length≤30)(hc:chs.length≤300):
  Calls Try.prog 18 #[.slice a L.length c,.slice b chs.length d] w (RfPost w L chs):=by
 have SS:=Lib.hid hs
 have HP:=Lib.hid hp
 have HO:=Lib.hid ho
 clear hs hp ho
 obtain⟨i1,hi,hz0,hz1,hz2⟩:=info_parts infoRS
 have JI:=Lib.hid hi;have JZ0:=Lib.hid hz0;have JZ1:=Lib.hid hz1;have JZ2:=Lib.hid hz2
 clear hi hz0 hz1 hz2
 obtain⟨i2,hi,hz0,hz1,hz2⟩:=info_parts Try.infoInt
 have KI:=Lib.hid hi;have KZ0:=Lib.hid hz0;have KZ1:=Lib.hid hz1;have KZ2:=Lib.hid hz2
 clear hi hz0 hz1 hz2
 have hmk:=fun w:World=>mk_ints w L.length (by omega)
 obtain⟨n,hn⟩:∃n,L.length=n:=⟨_,rfl⟩
 have HN:=Lib.hid hn
 rw[hn] at hl hmk⊢
 clear hn
 go_enter Try.func18,Try.ntmps18
 go_upto_region 1 with(fail)
 go_cut [5,6] (fun v5 v6 wx=>∃bA bZ,v5= .slice (some ⟨bA,0,none⟩) n n∧v6= .slice (some ⟨bZ,0,none⟩) n n∧bA≠bZ∧PSm wx bA bZ n (fun _=>(0,0))∧w.heap.size<bA∧w.heap.size<bZ∧Blk wx w.heap.size 46 [.slice none 0 0,.slice none 0 0,.slice none 0 0,.slice none 0 0]∧Below w.heap.size w wx)
 case first=>
  refine wp_region_allH (fun _=>True) 8 (by kernel_rfl) rfl ?_ (fun hHeld=>?_)
  ·(trivial)
  iterate 4
   refine wpAnyH_takeN [0,1,3,4] (v:=?_) rfl rfl (by kernel_rfl) (by kernel_rfl) (by kernel_rfl) (fun _ _ _ h=>h) rfl ?_ hHeld ?_
   rotate_left
   ·intro w hSw
    try dsimp only at hSw
    go_simp
    all_goals with_reducible rfl
   try simp only[Act.put,List.setIfInBounds_toArray,List.set_cons_zero,List.set_cons_succ]
  refine wpAnyH_step2 (i:=2) (j:=5) (by kernel_rfl) rfl rfl (fun KK hK=>?_) (fun KK hK=>?_)
  ·skip
   (go_simp)
   refine hK.out _ _ ?_ (fun hHeld=>?_)
   ·(trivial)
   clear hK KK
   try simp only[Act.put,List.setIfInBounds_toArray,List.set_cons_zero,List.set_cons_succ]
   iterate 1
    refine wpAnyH_takeN [6] (v:=?_) rfl rfl (by kernel_rfl) (by kernel_rfl) (by kernel_rfl) (fun _ _ _ h=>h) rfl ?_ hHeld ?_
    rotate_left
    ·intro w hSw
     try dsimp only at hSw
     go_simp
     all_goals with_reducible rfl
    try simp only[Act.put,List.setIfInBounds_toArray,List.set_cons_zero,List.set_cons_succ]
   refine wpAnyH_step (i:=5) (by kernel_rfl) rfl (fun KK hK=>?_)
   (go_simp)
   refine hK.out _ _ ?_ (fun hHeld=>?_)
   ·(trivial)
   clear hK KK
   try simp only[Act.put,List.setIfInBounds_toArray,List.set_cons_zero,List.set_cons_succ]
   iterate 1
    refine wpAnyH_takeN [7] (v:=?_) rfl rfl (by kernel_rfl) (by kernel_rfl) (by kernel_rfl) (fun _ _ _ h=>h) rfl ?_ hHeld ?_
    rotate_left
    ·intro w hSw
     try dsimp only at hSw
     go_simp
     all_goals with_reducible rfl
    try simp only[Act.put,List.setIfInBounds_toArray,List.set_cons_zero,List.set_cons_succ]
   refine wpAnyH_done (by kernel_rfl) ?_ _
   (clear hHeld;go_wp2_with fail;go_meet;generalize hW:World.drew _=W;obtain⟨⟨t1,t2⟩,t3,t4⟩:=two_rows w n _ W hW.symm;first|exact⟨_,_,rfl,rfl,by omega,t1,by omega,by omega,t3,t4⟩|exact⟨_,_,rfl,rfl,by omega,t2,by omega,by omega,t3,t4⟩)
  ·skip
   (go_simp)
   refine hK.out _ _ ?_ (fun hHeld=>?_)
   ·(trivial)
   clear hK KK
   try simp only[Act.put,List.setIfInBounds_toArray,List.set_cons_zero,List.set_cons_succ]
   refine wpAnyH_step (i:=2) (by kernel_rfl) rfl (fun KK hK=>?_)
   (go_simp)
   refine hK.out _ _ ?_ (fun hHeld=>?_)
   ·(trivial)
   clear hK KK
   try simp only[Act.put,List.setIfInBounds_toArray,List.set_cons_zero,List.set_cons_succ]
   iterate 2
    refine wpAnyH_takeN [6,7] (v:=?_) rfl rfl (by kernel_rfl) (by kernel_rfl) (by kernel_rfl) (fun _ _ _ h=>h) rfl ?_ hHeld ?_
    rotate_left
    ·intro w hSw
     try dsimp only at hSw
     go_simp
     all_goals with_reducible rfl
    try simp only[Act.put,List.setIfInBounds_toArray,List.set_cons_zero,List.set_cons_succ]
   refine wpAnyH_done (by kernel_rfl) ?_ _
   (clear hHeld;go_wp2_with fail;go_meet;generalize hW:World.drew _=W;obtain⟨⟨t1,t2⟩,t3,t4⟩:=two_rows w n _ W hW.symm;first|exact⟨_,_,rfl,rfl,by omega,t1,by omega,by omega,t3,t4⟩|exact⟨_,_,rfl,rfl,by omega,t2,by omega,by omega,t3,t4⟩)
 case rest=>
  obtain⟨bA,bZ,rfl,rfl,hne,hps,lA,lZ,hrb,hbe⟩:=hcut
  have l1:=hps.at_.lt
  have l2:=hps.sm.lt
  have l3:=hrb.lt
  have l4:=hbe.size
  have HB:Hid (RfB w bA bZ wc.heap.size w.heap.size):=Lib.hid ⟨hne,by omega,by omega,by omega,by omega,by omega,by omega,by omega,by omega⟩
  have QN:Hid (Below wc.heap.size wc (wc.alloc (.cells #[.slice none 0 0,.slice none 0 0,.slice none 0 0,.slice none 0 0] 46))):=Lib.hid ((Below.refl _ _).alloc (Nat.le_refl _) _)
  have M0:Hid (RfM w n bA bZ wc.heap.size w.heap.size (fun _=>(0,0)) [] (.slice none 0 0) (wc.alloc (.cells #[.slice none 0 0,.slice none 0 0,.slice none 0 0,.slice none 0 0] 46))):=Lib.hid ⟨hps.new QN.out,Blk.new wc _ _,hrb.upd (S:=fun _=>False) (Upd.of_below QN.out) id,⟨rfl,.inl ⟨rfl,rfl⟩⟩,hbe.trans (QN.out.mono hbe.size)⟩
  clear QN hps hrb hbe lA lZ hne l1 l2 l3 l4
  go_upto_region 3 with(fail)
  generalize wc.heap.size=bo at*
  generalize wc.alloc _=W0 at*
  clear wc
  generalize hrb:w.heap.size=rb at*
  have HRB:=Lib.hid hrb
  clear hrb
  go_loopw [8] (fun _ wr=>∃r S va vc,RfM w n bA bZ bo rb r S (.slice va S.length vc) wr∧RunS L chs r S) (fun _ wr=>1000-lenAt wr bo)
  case atStart=>exact⟨_,[],none,0,M0.out,RunS.start L chs⟩
  case round=>
   clear M0
   obtain⟨r,S,va,vc,hm,hr⟩:=hrel
   have M1:=Lib.hid hm
   have R1:=Lib.hid hr
   have LA:=Lib.hid hm.len
   have SL:=Lib.hid (hr.len (by rw[HN.out];exact hl) HO.out)
   clear hm hr
   obtain⟨wo,hwo⟩:∃wo,wo=wr:=⟨_,rfl⟩
   subst hwo
   generalize hsl:S.length=sl at*
   have HSL:=Lib.hid hsl
   clear hsl
   go_upto_region 4 with(fail)
   go_loopw [8] (fun v wx=>∃i q,i≤n∧v= .int .i64 (i:Int)∧RfM w n bA bZ bo rb q S (.slice va sl vc) wx∧Adv L (advS L r) q i) (fun v _=>n-(intOf v).toNat)
   case atStart=>exact⟨0,r,Nat.zero_le _,rfl,M1.out,Adv.start R1.out.fit⟩
   case round=>
    clear M1
    obtain⟨i,q,hi,rfl,hm,ha⟩:=hrel
    have M2:=Lib.hid hm
    have A2:=Lib.hid ha
    clear hm ha
    by_cases hlt:i<n
    · --DEV
     have hin:(i:Int)<(n:Int):=by omega
     obtain⟨t,hts⟩:∃t,L[i]?=some t:=⟨_,List.getElem?_eq_getElem (by rw[HN.out];exact hlt)⟩
     have HT:=Lib.hid hts
     clear hts
     have TL:=Lib.hid (HO.out t (List.mem_of_getElem? HT.out))
     go_upto_region 6 with(fail)
     go_loopw [48] (fun _ wx=>∃q,RfM w n bA bZ bo rb q S (.slice va sl vc) wx∧Adv L (advS L r) q i) (fun _ wx=>30-posAt wx bA i)
     case atStart=>exact⟨q,M2.out,A2.out⟩
     case round=>
      clear M2 A2
      obtain⟨q,hm,ha⟩:=hrel
      have M2:=Lib.hid hm
      have A2:=Lib.hid ha
      clear hm ha
      have PA:=Lib.hid (M2.out.pos hlt)
      have PL:=Lib.hid (A2.out.fit i t HT.out)
      generalize hp:(q i).1=p at*
      have HP1:=Lib.hid hp
      clear hp
      have y0:wr.cell? ⟨bA,i,none⟩=some (.int .i64 (p:Int)):=by rw[←HP1.out];exact M2.out.ps.getA hlt
      obtain⟨e1,e2,e3⟩:=(SS.out.reads (Reads.below M2.out.bel)) i t HT.out
      by_cases hpl:p<t.ops.length
      ·obtain⟨x,hx,okx,x0,x1,x2,x3⟩:=e3.row.get hpl
       have hpn:(p:Int)<(t.ops.length:Int):=by omega
       by_cases hk:x.kind=4
       ·go_upto_region 7 with(go_quiet (fail))
        generalize hwq:World.drewN wr _=wq
        have M3:Hid (RfM w n bA bZ bo rb q S (.slice va sl vc) wq):=Lib.hid (M2.out.qt (hwq▸(by exact(Qt.refl wr).drewN _)))
        have A3:=Lib.hid (A2.out.add HT.out (by rw[HP1.out];exact hx.out) hk)
        have M4:=Lib.hid (M3.out.qt (Qt.refl wq).drew)
        have z0:wq.drew.cell? ⟨bZ,i,none⟩=some (.int .i64 (q i).2):=M4.out.ps.getZ hlt
        have y1:wq.drew.cell? ⟨bA,i,none⟩=some (.int .i64 (p:Int)):=by rw[←HP1.out];exact M4.out.ps.getA hlt
        obtain⟨f1,f2,f3⟩:=(SS.out.reads (Reads.below M4.out.bel)) i t HT.out
        obtain⟨_,_,_,x2',_⟩:=f3.row p x hx.out
        clear hwq M2 A2 e1 e2 e3 y0 x0 x1 x2 x3 hk
        rw[HP1.out] at A3
        generalize hz:(q i).2=z at*
        have HZ:=Lib.hid hz
        clear hz
        refine wp_region_lastH (fun wx=>(wx.cell? ⟨bA,i,none⟩=some (.int .i64 (p:Int))∧wx.cell? ⟨bZ,i,none⟩=some (.int .i64 z))∧wx.cell? (adr a i)=some (.slice t.a t.ops.length t.c)∧wx.cell? (adr t.a (p*4+2))=some (.int .i64 x.val)) 19 20 (by kernel_rfl) (by kernel_rfl) rfl rfl ?_ (fun hHeld=>?_)
        ·(exact⟨⟨y1,z0⟩,f2,x2'⟩)
        simp only[nopFor,List.set_cons_succ,List.set_cons_zero]
        iterate 20
         refine wpAnyH_takeN [0,1,2,3,4,5,6,7,8,9,10,11,12,13,14,15,16,17,18,19] (v:=?_) rfl rfl (by kernel_rfl) (by kernel_rfl) (by kernel_rfl) (fun _ _ _ h=>h) rfl ?_ hHeld ?_
         rotate_left
         ·intro w hSw
          try dsimp only at hSw
          go_simp
          all_goals with_reducible rfl
         try simp only[Act.put,List.setIfInBounds_toArray,List.set_cons_zero,List.set_cons_succ]
        refine wpAnyH_done (by kernel_rfl) ?_ _
        rw[LastQ_normal]
        clear hHeld
        have zf:=M4.out.ps.sm.free i
        go_upto_region 8 with(fail)
        have M5:=Lib.hid ((M3.out.setZ HB.out hlt (IntKind.i64.wrap (z+x.val))).qt (Qt.refl _).drew)
        generalize hw5:World.drew (World.setCell wq _ _)=w5
        replace M5:Hid (RfM w n bA bZ bo rb (upd q i ((q i).1,IntKind.i64.wrap (z+x.val))) S (.slice va sl vc) w5):=Lib.hid (by rw[←hw5,←IntWalk.i64_left];exact M5.out)
        have y1:w5.cell? ⟨bA,i,none⟩=some (.int .i64 (p:Int)):=by simpa[upd_eq,HP1.out] using M5.out.ps.getA hlt
        have yf:=M5.out.ps.at_.free i
        have M6:Hid (RfM w n bA bZ bo rb (upd q i (p+1,IntKind.i64.wrap (z+x.val))) S (.slice va sl vc) (w5.setCell ⟨bA,i,none⟩ (.int .i64 ((p:Int)+1)))):=Lib.hid (by
         have:=M5.out.setA HB.out hlt (p+1)
         rwa[upd2,show((p+1:Nat):Int)=(p:Int)+1 from by omega] at this)
        have PM:=Lib.hid (M6.out.pos hlt)
        rw[upd_eq] at PM
        have e7:IntKind.i64.wrap ((p:Int)+1)=(p:Int)+1:=IntWalk.i64_in _ (by have:=TL.out;omega)
        clear M5 M3 M4 hw5 f1 f2 f3 z0 zf x2' okx
        go_wp2_with fail
        go_roundw
        case rel=>exact⟨_,M6.out,A3.out⟩
        case measure=>(have:=PM.out;have:=PA.out;have:=TL.out;omega)
       ·have hk':(x.kind==4)=false:=by simpa using hk
        have ST:Hid (Stp L q i):=Lib.hid fun t' x' h1 h2=>by
         obtain rfl:t=t':=Option.some.inj (HT.out.symm.trans h1)
         rw[HP1.out,hx.out] at h2
         rw[←Option.some.inj h2];exact hk
        clear hk hx x1 x2 x3
        go_wp2_with fail
        go_quiet (fail)
        go_wp2_with fail
        go_roundw
        case rel=>exact⟨i+1,q,by omega,by go_num,M2.out.qt (by exact(Qt.refl wr).drewN _),A2.out.next ST.out⟩
        case measure=>simp[intOf];omega
      ·have hpn:decide (p<t.ops.length)=false:=by simpa using hpl
       have ST:Hid (Stp L q i):=Lib.hid fun t' x' h1 h2=>by
        obtain rfl:t=t':=Option.some.inj (HT.out.symm.trans h1)
        rw[HP1.out,List.getElem?_eq_none (by omega)] at h2
        cases h2
       clear hpl
       go_wp2_with fail
       go_quiet (fail)
       go_wp2_with fail
       go_roundw
       case rel=>exact⟨i+1,q,by omega,by go_num,M2.out.qt (by exact(Qt.refl wr).drewN _),A2.out.next ST.out⟩
       case measure=>simp[intOf];omega
    ·obtain rfl:i=n:=by omega
     have hle:at_L i (advS L r)=at_L i (advS L r):=rfl
     have hLn:L.length=i:=HN.out
     have M3:Hid (RfM w i bA bZ bo rb (advS L r) S (.slice va sl vc) wr):=Lib.hid (M2.out.congr fun k hk=>by
      have h:=A2.out
      rw[←hLn] at h hk
      exact h.done k hk)
     have FT:=Lib.hid R1.out.fit.adv
     have RD:=Lib.hid (refReady_any wr a (some ⟨bA,0,none⟩) c i L (at_L i (advS L r)) (SS.out.reads (Reads.below M3.out.bel)) (psm_slA M3.out.ps) (by rw[hLn];exact hl) (by rw[at_L_len,hLn]) (by rw[←hLn];exact at_L_ok FT.out))
     rw[at_L_len,hLn,←hLn] at RD
     rw[at_L_poss] at RD
     rw[hLn] at RD
     clear M2 A2 hle hLn
     go_wp2_with fail
     refine RD.out.mono ?_
     rintro e w9 ⟨v,rfl,ho,hb⟩
     have M4:=Lib.hid (M3.out.new hb)
     obtain⟨la,lc,rfl,hls⟩:=stV_ownT ho
     have LS:=Lib.hid hls
     clear M3 RD ho hb hls
     clear wr
     obtain⟨P,hP⟩:∃P,P=possS L (advS L r):=⟨_,rfl⟩
     rw[←hP] at LS⊢
     have HPP:=Lib.hid hP
     clear hP
     generalize hpl:P.length=pl at*
     have HPL:=Lib.hid hpl
     clear hpl
     by_cases hpe:pl=0
     ·subst hpe
      have PE:Hid (P=[]):=Lib.hid (List.eq_nil_of_length_eq_zero HPL.out)
      have DN:Hid (Outc L chs (advS L r) S):=Lib.hid (R1.out.all _ _ (.done (HPP.out.symm.trans PE.out)))
      clear R1 LS PE HPL HPP
      generalize advS L r=s at*
      have E0:=Lib.hid M4.out.toE
      have W9B:Hid (w.heap.size≤w9.heap.size):=Lib.hid M4.out.bel.size
      have FTS:Hid (Fit L s):=FT
      clear M4
      go_wp2_with fail
      go_loopw [12] (fun v wx=>∃j ua uc,j≤i∧v= .int .i64 (j:Int)∧RfE w w9 i bA bZ bo rb s S (.slice va sl vc) (.slice ua (stuckL (fun k=> !(offS L s k).isSome) j).length uc) (stuckL (fun k=> !(offS L s k).isSome) j) wx) (fun v _=>i-(intOf v).toNat)
      case atStart=>exact⟨0,none,0,Nat.zero_le _,rfl,by simpa[stuckL] using E0.out⟩
      case round=>
       clear E0
       obtain⟨j,ua,uc,hj,rfl,he⟩:=hrel
       have SS1:=Lib.hid (stuckL_succ (fun k=> !(offS L s k).isSome) j)
       have SLL:=Lib.hid (stuckL_len (fun k=> !(offS L s k).isSome) j)
       generalize hU:stuckL (fun k=> !(offS L s k).isSome) j=U at*
       have HU:=Lib.hid hU
       clear hU
       generalize hul:U.length=ul at*
       have HUL:=Lib.hid hul
       clear hul
       have E1:=Lib.hid he
       clear he
       by_cases hjt:j<i
       ·have hjn:(j:Int)<(i:Int):=by omega
        obtain⟨t,hts⟩:∃t,L[j]?=some t:=⟨_,List.getElem?_eq_getElem (by rw[HN.out];exact hjt)⟩
        have HT:=Lib.hid hts
        clear hts
        have y0:=E1.out.ps.getA hjt
        obtain⟨e1,e2,e3⟩:=(SS.out.reads (Reads.below E1.out.bel)) j t HT.out
        have OF:Hid (offS L s j=t.ops[(s j).1]?):=Lib.hid (by unfold offS;rw[HT.out];rfl)
        generalize(s j).1=p at*
        by_cases hpl:p<t.ops.length
        ·have hpn:(p:Int)<(t.ops.length:Int):=by omega
         have SX:Hid (stuckL (fun k=> !(offS L s k).isSome) (j+1)=U++[(j:Int)]):=Lib.hid (by
          rw[SS1.out,OF.out,List.getElem?_eq_getElem hpl];rfl)
         clear SS1 OF
         go_upto_region 22 with(go_quiet (fail))
         generalize hwq:World.drewN wr _=wq
         have E2:Hid (RfE w w9 i bA bZ bo rb s S (.slice va sl vc) (.slice ua ul uc) U wq):=Lib.hid (E1.out.qt (hwq▸(by exact(Qt.refl wr).drewN _)))
         clear hwq E1 y0 e1 e2 e3
         have g2':wq.cell? ⟨bo,2,none⟩=some (.slice ua ul uc):=E2.out.out.cell (i:=2) rfl
         have OW:Hid (wq.ownsRow w9.heap.size 3 1 (.slice ua ul uc) ul (U.map (Value.int .i64))):=Lib.hid (by have:=E2.out.stk;rw[HUL.out] at this;exact this)
         go_wp2_with (at_builtin;refine wpList_append_cells rfl _ _ 23 rfl w9.heap.size 3 i2 _ 1 8 Try.underlying23 KI.out KZ0.out KZ1.out KZ2.out rfl (by decide) (.slice ua ul uc) ul (U.map (Value.int .i64)) rfl ?ownB (some ⟨wq.heap.size,0,none⟩) 1 1 [.int .i64 (j:Int)] rfl rfl ?c1B ?c2B ?c3B ?c4B ?c5B ?kkB)
         case ownB=>exact own_upd OW.out (Upd.of_below (S:=fun _=>False) ((Below.refl _ _).alloc (Nat.le_refl _) _)) (fun _ _=>id)
         case c1B=>exact fun i' u hi=>⟨rfl,by rw[adr_mk,Nat.zero_add];exact(Blk.new wq 3 [.int .i64 (j:Int)]).cell hi⟩
         case c2B=>exact fun u hu=>by simp only[List.mem_cons,List.not_mem_nil,or_false] at hu;subst hu;rfl
         case c3B=>(have:=SLL.out;unfold maxLen;omega)
         case c4B=>(have:=SLL.out;omega)
         case c5B=>(have:=E2.out.sz;simp;omega)
         intro v1 w6 g1 g2 g3
         have PB:=Lib.hid (E2.out.pushed g2)
         have p0:w6.cell? ⟨bo,2,none⟩=some (.slice ua ul uc):=PB.out.cell (i:=2) rfl
         have pf0:=PB.out.free 2
         have E3:Hid (RfE w w9 i bA bZ bo rb s S (.slice va sl vc) v1 (U++[(j:Int)]) (w6.setCell ⟨bo,2,none⟩ v1)):=Lib.hid (E2.out.push HB.out W9B.out (by rw[HUL.out];exact g1) g2)
         obtain⟨a3,k3,rfl, -⟩:=own_shape g1
         have E4:Hid (RfE w w9 i bA bZ bo rb s S (.slice va sl vc) (.slice a3 (stuckL (fun k=> !(offS L s k).isSome) (j+1)).length k3) (stuckL (fun k=> !(offS L s k).isSome) (j+1)) (w6.setCell ⟨bo,2,none⟩ (.slice a3 (ul+1) k3))):=Lib.hid (by
          rw[SX.out,List.length_append,HUL.out];exact E3.out)
         clear g1 g2 g3 OW E2 E3 PB SX
         go_wp2_with fail
         go_roundw
         case rel=>exact⟨j+1,a3,k3,by omega,by go_num,E4.out⟩
         case measure=>(simp[intOf];omega)
        ·have SX:Hid (stuckL (fun k=> !(offS L s k).isSome) (j+1)=U):=Lib.hid (by
          rw[SS1.out,OF.out,List.getElem?_eq_none (by omega)];rfl)
         have E4:Hid (∀wq,Qt wr wq→RfE w w9 i bA bZ bo rb s S (.slice va sl vc) (.slice ua (stuckL (fun k=> !(offS L s k).isSome) (j+1)).length uc) (stuckL (fun k=> !(offS L s k).isSome) (j+1)) wq):=Lib.hid fun wq q=>by
          rw[SX.out,HUL.out];exact E1.out.qt q
         have hpn:decide (p<t.ops.length)=false:=by simpa using hpl
         clear SS1 OF SX
         go_wp2_with fail
         go_quiet (fail)
         go_wp2_with fail
         go_roundw
         case rel=>exact⟨j+1,ua,uc,by omega,by go_num,E4.out _ (by exact(Qt.refl wr).drewN _)⟩
         case measure=>(simp[intOf];omega)
       ·obtain rfl:j=i:=by omega
        have UE:Hid (U=stuckA L s):=Lib.hid (by
         rw[←HU.out,←HN.out]
         unfold stuckL stuckA
         simp)
        clear SS1 HU SLL
        have q1:wr.cell? ⟨bo,0,none⟩=some (.slice va sl vc):=E1.out.out.cell (i:=0) rfl
        have q2:wr.cell? ⟨bo,1,none⟩=some (.slice none 0 0):=E1.out.out.cell (i:=1) rfl
        have q3:wr.cell? ⟨bo,2,none⟩=some (.slice ua ul uc):=E1.out.out.cell (i:=2) rfl
        have q4:wr.cell? ⟨bo,3,none⟩=some (.slice none 0 0):=E1.out.out.cell (i:=3) rfl
        have r1:wr.cell? ⟨rb,0,none⟩=some (.slice none 0 0):=E1.out.res.cell (i:=0) rfl
        have r2:wr.cell? ⟨rb,1,none⟩=some (.slice none 0 0):=E1.out.res.cell (i:=1) rfl
        have r3:wr.cell? ⟨rb,2,none⟩=some (.slice none 0 0):=E1.out.res.cell (i:=2) rfl
        have r4:wr.cell? ⟨rb,3,none⟩=some (.slice none 0 0):=E1.out.res.cell (i:=3) rfl
        have f1:=E1.out.out.free
        have f2:=E1.out.res.free
        have nor:=HB.out.or
        go_wp2_with fail
        have RES:Hid (Blk ((((((wr.setCell ⟨bo,1,none⟩ (.slice (some ⟨bZ,0,none⟩) j j)).setCell ⟨bo,3,none⟩ (.slice (some ⟨bA,0,none⟩) j j)).setCell ⟨rb,0,none⟩ (.slice va sl vc)).setCell ⟨rb,1,none⟩ (.slice (some ⟨bZ,0,none⟩) j j)).setCell ⟨rb,2,none⟩ (.slice ua ul uc)).setCell ⟨rb,3,none⟩ (.slice (some ⟨bA,0,none⟩) j j)) rb 46 [.slice va sl vc,.slice (some ⟨bZ,0,none⟩) j j,.slice ua ul uc,.slice (some ⟨bA,0,none⟩) j j]):=
         Lib.hid ((((((E1.out.res.setO (a:=⟨bo,1,none⟩) _ nor.symm).setO (a:=⟨bo,3,none⟩) _ nor.symm).set 0 _).set 1 _).set 2 _).set 3 _)
        have UU:Hid (Upd (fun k=>k=bo∨k=rb) wr ((((((wr.setCell ⟨bo,1,none⟩ (.slice (some ⟨bZ,0,none⟩) j j)).setCell ⟨bo,3,none⟩ (.slice (some ⟨bA,0,none⟩) j j)).setCell ⟨rb,0,none⟩ (.slice va sl vc)).setCell ⟨rb,1,none⟩ (.slice (some ⟨bZ,0,none⟩) j j)).setCell ⟨rb,2,none⟩ (.slice ua ul uc)).setCell ⟨rb,3,none⟩ (.slice (some ⟨bA,0,none⟩) j j))):=
         Lib.hid (((((((Upd.refl _ wr).setCell _ _ (fun _=>.inl rfl)).setCell _ _ (fun _=>.inl rfl)).setCell _ _ (fun _=>.inr rfl)).setCell _ _ (fun _=>.inr rfl)).setCell _ _ (fun _=>.inr rfl)).setCell _ _ (fun _=>.inr rfl))
        generalize((((((wr.setCell ⟨bo,1,none⟩ (.slice (some ⟨bZ,0,none⟩) j j)).setCell ⟨bo,3,none⟩ (.slice (some ⟨bA,0,none⟩) j j)).setCell ⟨rb,0,none⟩ (.slice va sl vc)).setCell ⟨rb,1,none⟩ (.slice (some ⟨bZ,0,none⟩) j j)).setCell ⟨rb,2,none⟩ (.slice ua ul uc)).setCell ⟨rb,3,none⟩ (.slice (some ⟨bA,0,none⟩) j j))=W at*
        have w0:W.cell? ⟨rb,0,none⟩=some (.slice va sl vc):=RES.out.cell (i:=0) rfl
        have w1:W.cell? ⟨rb,1,none⟩=some (.slice (some ⟨bZ,0,none⟩) j j):=RES.out.cell (i:=1) rfl
        have w2:W.cell? ⟨rb,2,none⟩=some (.slice ua ul uc):=RES.out.cell (i:=2) rfl
        have w3:W.cell? ⟨rb,3,none⟩=some (.slice (some ⟨bA,0,none⟩) j j):=RES.out.cell (i:=3) rfl
        have FIN:Hid (RfPost w L chs (.returned (.agg #[.slice va sl vc,.slice (some ⟨bZ,0,none⟩) j j,.slice ua ul uc,.slice (some ⟨bA,0,none⟩) j j])) W):=Lib.hid (by
         have hLj:L.length=j:=HN.out
         have hZ:=E1.out.ps.sm.upd UU.out (fun e=>by rcases e with e|e;exact HB.out.zo e;exact HB.out.zr e)
         have hst:=own_upd E1.out.stk UU.out (fun g hg e=>by
          rcases e with e|e
          ·exact own_type E1.out.stk E1.out.out (by decide) (e▸hg)
          ·exact own_type E1.out.stk E1.out.res (by decide) (e▸hg))
         refine⟨s,S,_,_,_,_,rfl,DN.out,stV_ownT (own_upd E1.out.own UU.out fun g hg e=>?_),?_,?_,by rw[HSL.out];exact SL.out,⟨_,_,_,rfl⟩,Upd.below E1.out.bel UU.out E1.out.bel.size fun k hk=>?_⟩
         ·rcases e with e|e
          ·exact own_type E1.out.own E1.out.out (by decide) (e▸hg)
          ·exact own_type E1.out.own E1.out.res (by decide) (e▸hg)
         ·have e1:rowZ j s=(sumsA L s).map (Value.int .i64):=by rw[←hLj];simp[rowZ,sumsA]
          have e2:(sumsA L s).length=j:=by rw[←hLj];simp[sumsA]
          rw[e1] at hZ
          exact⟨_,j,by rw[e2],hZ.sl⟩
         ·rw[←UE.out]
          refine⟨ua,uc,by rw[HUL.out],fun k y hk=>?_⟩
          exact ownC_all hst k _ (by rw[List.getElem?_map,hk];rfl)
         ·rcases hk with rfl|rfl
          ·exact HB.out.lo
          ·exact Nat.le_of_eq HRB.out)
        exact bodyPost_ret (v:=.agg #[.slice va sl vc,.slice (some ⟨bZ,0,none⟩) j j,.slice ua ul uc,.slice (some ⟨bA,0,none⟩) j j]) (by simp[results,Try.results18,go_sem,w0,w1,w2,w3]) rfl FIN.out
     ·have hpos:(0:Int)<(pl:Int):=by omega
      have hpb:((pl:Int)==0)=false:=by simp;omega
      have hp64:pl≤64:=by
       have h1:=possDU_len L.length (offS L (advS L r)) L.length
       have h2:possDU L.length (offS L (advS L r)) L.length=P:=HPP.out.symm
       rw[h2,HPL.out,HN.out] at h1
       have h3:i*i≤8*8:=Nat.mul_le_mul hl hl
       omega
      obtain⟨ix,hix⟩:∃ix,ix=pickP chs sl pl:=⟨_,rfl⟩
      have hlt2:ix<pl:=by rw[hix];exact pick_lt chs sl (by omega)
      obtain⟨x,hx⟩:∃x,P[ix]?=some x:=⟨_,List.getElem?_eq_getElem (by rw[HPL.out];exact hlt2)⟩
      have RN:Hid (RunS L chs (stepS (advS L r) x) (S++[x])):=Lib.hid (R1.out.step (by rw[←HPP.out,HSL.out,HPL.out,←hix];exact hx))
      have XG:=Lib.hid (possS_get (L:=L) (s:=advS L r) (x:=x) (by rw[←HPP.out];exact List.mem_of_getElem? hx))
      have HIX:=Lib.hid hix
      clear R1 hix
      generalize advS L r=s at*
      have g0:w9.cell? ⟨bo,0,none⟩=some (.slice va sl vc):=M4.out.out.cell (i:=0) rfl
      go_upto_if 87 with(fail)
      go_cut [10] (fun v wx=>v= .int .i64 (ix:Int)∧wx=w9)
      case first=>
       by_cases hsc:sl<chs.length
       ·have hsci:(sl:Int)<(chs.length:Int):=by omega
        obtain⟨cv,hcv,okc,ccv⟩:=(HP.out.reads (Reads.below M4.out.bel)).get hsc
        have t1:=Int.tmod_lt_of_pos cv hpos
        have t2:=Int.lt_tmod_of_pos cv hpos
        have hpk:ix=((cv.tmod pl+pl).tmod pl).toNat:=by rw[HIX.out];simp only[pickP,hcv.out]
        clear hcv
        generalize hxx:cv.tmod pl=y at t1 t2 hpk
        have HXX:=Lib.hid hxx
        have t3:=Int.tmod_lt_of_pos (y+pl) hpos
        have t4:=Int.tmod_nonneg (pl:Int) (show 0≤y+pl by omega)
        have e1:IntKind.i64.wrap y=y:=IntWalk.i64_in _ (by omega)
        have e2:IntKind.i64.wrap (y+pl)=y+pl:=IntWalk.i64_in _ (by omega)
        have e3:IntKind.i64.wrap ((y+pl).tmod pl)=(y+pl).tmod pl:=IntWalk.i64_in _ (by omega)
        have ep:(y+pl).tmod pl=(ix:Int):=by rw[hpk,Int.toNat_of_nonneg t4]
        clear hpk t1 t2 t3 t4
        go_wp2_with fail
        go_meet
        exact⟨rfl,rfl⟩
       ·have hsci:¬(sl:Int)<(chs.length:Int):=by omega
        have hz:ix=0:=by rw[HIX.out];simp[pickP,List.getElem?_eq_none (Nat.le_of_not_lt hsc)]
        go_wp2_with fail
        go_meet
        exact⟨by rw[hz];rfl,rfl⟩
      case rest=>
       obtain⟨rfl,hwc⟩:=hcut
       rw[hwc]
       clear hwc HIX
       obtain⟨x',hx',okx,x0,x1,x2,x3⟩:=LS.out.get (k:=ix) (by rw[HPL.out];exact hlt2)
       obtain rfl:x=x':=Option.some.inj (hx.symm.trans hx'.out)
       clear hx hx'
       go_upto_region 15 with(fail)
       obtain⟨WA,hWA⟩:∃WA,WA=w9.alloc (.cells #[.int .i64 x.fr,.int .i64 x.tg,.int .i64 x.ch,.int .i64 x.vl] 89):=⟨_,rfl⟩
       rw[←hWA]
       have NX:Hid (Blk WA w9.heap.size 89 (stC x)):=Lib.hid (by rw[hWA];exact Blk.new w9 _ (stC x))
       have M5:=Lib.hid (M4.out.new (by rw[hWA];exact(Below.refl _ _).alloc (Nat.le_refl _) _:Below w9.heap.size w9 WA))
       have NE:Hid ((w9.heap.size≠bA∧w9.heap.size≠bZ)∧w9.heap.size≠bo∧∀g,(Value.slice va sl vc).ownBlock=some g→g≠w9.heap.size):=Lib.hid (by
        have q1:=M4.out.ps.at_.lt;have q2:=M4.out.ps.sm.lt;have q3:=M4.out.out.lt
        exact⟨⟨by omega,by omega⟩,by omega,fun g hg e=>by have:=(own_lt M4.out.own hg).1;omega⟩)
       clear hWA M4 LS okx x0 x1 x2 x3
       generalize w9.heap.size=bx at*
       clear g0 w9
       obtain⟨gf,gt,gne,⟨tf,htf,htl⟩,tt,htt,httl⟩:=XG.out
       have gfi:x.fr<i:=by rw[←HN.out];exact gf
       have gti:x.tg<i:=by rw[←HN.out];exact gt
       have pf30:(s x.fr).1<30:=by have:=HO.out tf (List.mem_of_getElem? htf);omega
       have pt30:(s x.tg).1<30:=by have:=HO.out tt (List.mem_of_getElem? htt);omega
       clear htf htt XG
       have M6:=Lib.hid (M5.out.qt (Qt.refl WA).drew)
       have NX6:=Lib.hid (NX.out.drew)
       have yf:WA.drew.cell? ⟨bA,x.fr,none⟩=some (.int .i64 ((s x.fr).1:Int)):=M6.out.ps.getA gfi
       have yt:WA.drew.cell? ⟨bA,x.tg,none⟩=some (.int .i64 ((s x.tg).1:Int)):=M6.out.ps.getA gti
       have fr1:=M6.out.ps.at_.free x.fr
       have e1:IntKind.i64.wrap (((s x.fr).1:Int)+1)=((s x.fr).1:Int)+1:=IntWalk.i64_in _ (by omega)
       have e2:IntKind.i64.wrap (((s x.tg).1:Int)+1)=((s x.tg).1:Int)+1:=IntWalk.i64_in _ (by omega)
       have FXB:Hid (∀wx,Blk wx bx 89 (stC x)→(wx.cell? ⟨bx,0,none⟩=some (.int .i64 x.fr)∧wx.cell? ⟨bx,1,none⟩=some (.int .i64 x.tg))):=Lib.hid fun wx h=>⟨h.cell (i:=0) rfl,h.cell (i:=1) rfl⟩
       have ST:=Lib.hid (M6.out.setA HB.out gfi ((s x.fr).1+1))
       have NX7:=Lib.hid (NX6.out.setO (a:=⟨bA,x.fr,none⟩) (.int .i64 (((s x.fr).1:Int)+1)) NE.out.1.1)
       have NX8:=Lib.hid (NX7.out.setO (a:=⟨bA,x.tg,none⟩) (.int .i64 (((s x.tg).1:Int)+1)) NE.out.1.1)
       rw[show((((s x.fr).1+1:Nat)):Int)=((s x.fr).1:Int)+1 from by omega] at ST
       have yt2:(WA.drew.setCell ⟨bA,x.fr,none⟩ (.int .i64 (((s x.fr).1:Int)+1))).cell? ⟨bA,x.tg,none⟩=some (.int .i64 ((s x.tg).1:Int)):=by
        have:=ST.out.ps.getA gti
        rwa[upd_other _ _ (Ne.symm gne)] at this
       have ft2:=M5.out.ps.at_.free x.tg
       have yt3:WA.cell? ⟨bA,x.tg,none⟩=some (.int .i64 ((s x.tg).1:Int)):=M5.out.ps.getA gti
       generalize hpf:(s x.fr).1=pf at*
       generalize hpt:(s x.tg).1=pt at*
       have HPF:=Lib.hid hpf;have HPT:=Lib.hid hpt
       clear hpf hpt
       go_cut [] (fun wx=>wx=((WA.setCell ⟨bA,x.fr,none⟩ (.int .i64 ((pf:Int)+1))).setCell ⟨bA,x.tg,none⟩ (.int .i64 ((pt:Int)+1))).drew)
       case first=>
        refine wp_region_allH (fun wx=>(wx.cell? ⟨bx,0,none⟩=some (.int .i64 x.fr)∧wx.cell? ⟨bx,1,none⟩=some (.int .i64 x.tg))) 22 (by kernel_rfl) rfl ?_ (fun hHeld=>?_)
        ·(exact FXB.out _ NX6.out)
        iterate 14
         refine wpAnyH_takeN [0,1,2,3,4,5,6,7,8,9,12,13,14,15] (v:=?_) rfl rfl (by kernel_rfl) (by kernel_rfl) (by kernel_rfl) (fun _ _ _ h=>h) rfl ?_ hHeld ?_
         rotate_left
         ·intro w hSw
          try dsimp only at hSw
          go_simp
          all_goals with_reducible rfl
         try simp only[Act.put,List.setIfInBounds_toArray,List.set_cons_zero,List.set_cons_succ]
        refine wpAnyH_step2 (i:=10) (j:=16) (by kernel_rfl) rfl rfl (fun KK hK=>?_) (fun KK hK=>?_)
        ·skip
         (go_simp)
         refine hK.out _ _ ?_ (fun hHeld=>?_)
         ·(first|exact FXB.out _ NX6.out|exact FXB.out _ NX7.out|exact FXB.out _ NX8.out)
         clear hK KK
         try simp only[Act.put,List.setIfInBounds_toArray,List.set_cons_zero,List.set_cons_succ]
         iterate 1
          refine wpAnyH_takeN [11] (v:=?_) rfl rfl (by kernel_rfl) (by kernel_rfl) (by kernel_rfl) (fun _ _ _ h=>h) rfl ?_ hHeld ?_
          rotate_left
          ·intro w hSw
           try dsimp only at hSw
           go_simp
           all_goals with_reducible rfl
          try simp only[Act.put,List.setIfInBounds_toArray,List.set_cons_zero,List.set_cons_succ]
         refine wpAnyH_step (i:=16) (by kernel_rfl) rfl (fun KK hK=>?_)
         (go_simp)
         refine hK.out _ _ ?_ (fun hHeld=>?_)
         ·(first|exact FXB.out _ NX6.out|exact FXB.out _ NX7.out|exact FXB.out _ NX8.out)
         clear hK KK
         try simp only[Act.put,List.setIfInBounds_toArray,List.set_cons_zero,List.set_cons_succ]
         iterate 2
          refine wpAnyH_takeN [17,18] (v:=?_) rfl rfl (by kernel_rfl) (by kernel_rfl) (by kernel_rfl) (fun _ _ _ h=>h) rfl ?_ hHeld ?_
          rotate_left
          ·intro w hSw
           try dsimp only at hSw
           go_simp
           all_goals with_reducible rfl
          try simp only[Act.put,List.setIfInBounds_toArray,List.set_cons_zero,List.set_cons_succ]
         refine wpAnyH_step (i:=19) (by kernel_rfl) rfl (fun KK hK=>?_)
         (go_simp)
         refine hK.out _ _ ?_ (fun hHeld=>?_)
         ·(first|exact FXB.out _ NX6.out|exact FXB.out _ NX7.out|exact FXB.out _ NX8.out)
         clear hK KK
         try simp only[Act.put,List.setIfInBounds_toArray,List.set_cons_zero,List.set_cons_succ]
         iterate 1
          refine wpAnyH_takeN [20] (v:=?_) rfl rfl (by kernel_rfl) (by kernel_rfl) (by kernel_rfl) (fun _ _ _ h=>h) rfl ?_ hHeld ?_
          rotate_left
          ·intro w hSw
           try dsimp only at hSw
           go_simp
           all_goals with_reducible rfl
          try simp only[Act.put,List.setIfInBounds_toArray,List.set_cons_zero,List.set_cons_succ]
         refine wpAnyH_step (i:=21) (by kernel_rfl) rfl (fun KK hK=>?_)
         (go_simp)
         refine hK.out _ _ ?_ (fun hHeld=>?_)
         ·(first|exact FXB.out _ NX6.out|exact FXB.out _ NX7.out|exact FXB.out _ NX8.out)
         clear hK KK
         try simp only[Act.put,List.setIfInBounds_toArray,List.set_cons_zero,List.set_cons_succ]
         refine wpAnyH_done (by kernel_rfl) ?_ _
         (repeat clear hHeld;go_wp2_with fail;go_meet;rfl)
        ·skip
         (go_simp)
         refine hK.out _ _ ?_ (fun hHeld=>?_)
         ·(first|exact FXB.out _ NX6.out|exact FXB.out _ NX7.out|exact FXB.out _ NX8.out)
         clear hK KK
         try simp only[Act.put,List.setIfInBounds_toArray,List.set_cons_zero,List.set_cons_succ]
         iterate 1
          refine wpAnyH_takeN [17] (v:=?_) rfl rfl (by kernel_rfl) (by kernel_rfl) (by kernel_rfl) (fun _ _ _ h=>h) rfl ?_ hHeld ?_
          rotate_left
          ·intro w hSw
           try dsimp only at hSw
           go_simp
           all_goals with_reducible rfl
          try simp only[Act.put,List.setIfInBounds_toArray,List.set_cons_zero,List.set_cons_succ]
         refine wpAnyH_step (i:=10) (by kernel_rfl) rfl (fun KK hK=>?_)
         (go_simp)
         refine hK.out _ _ ?_ (fun hHeld=>?_)
         ·(first|exact FXB.out _ NX6.out|exact FXB.out _ NX7.out|exact FXB.out _ NX8.out)
         clear hK KK
         try simp only[Act.put,List.setIfInBounds_toArray,List.set_cons_zero,List.set_cons_succ]
         iterate 2
          refine wpAnyH_takeN [11,18] (v:=?_) rfl rfl (by kernel_rfl) (by kernel_rfl) (by kernel_rfl) (fun _ _ _ h=>h) rfl ?_ hHeld ?_
          rotate_left
          ·intro w hSw
           try dsimp only at hSw
           go_simp
           all_goals with_reducible rfl
          try simp only[Act.put,List.setIfInBounds_toArray,List.set_cons_zero,List.set_cons_succ]
         refine wpAnyH_step (i:=19) (by kernel_rfl) rfl (fun KK hK=>?_)
         (go_simp)
         refine hK.out _ _ ?_ (fun hHeld=>?_)
         ·(first|exact FXB.out _ NX6.out|exact FXB.out _ NX7.out|exact FXB.out _ NX8.out)
         clear hK KK
         try simp only[Act.put,List.setIfInBounds_toArray,List.set_cons_zero,List.set_cons_succ]
         iterate 1
          refine wpAnyH_takeN [20] (v:=?_) rfl rfl (by kernel_rfl) (by kernel_rfl) (by kernel_rfl) (fun _ _ _ h=>h) rfl ?_ hHeld ?_
          rotate_left
          ·intro w hSw
           try dsimp only at hSw
           go_simp
           all_goals with_reducible rfl
          try simp only[Act.put,List.setIfInBounds_toArray,List.set_cons_zero,List.set_cons_succ]
         refine wpAnyH_step (i:=21) (by kernel_rfl) rfl (fun KK hK=>?_)
         (go_simp)
         refine hK.out _ _ ?_ (fun hHeld=>?_)
         ·(first|exact FXB.out _ NX6.out|exact FXB.out _ NX7.out|exact FXB.out _ NX8.out)
         clear hK KK
         try simp only[Act.put,List.setIfInBounds_toArray,List.set_cons_zero,List.set_cons_succ]
         refine wpAnyH_done (by kernel_rfl) ?_ _
         (repeat clear hHeld;go_wp2_with fail;go_meet;rfl)
       case rest=>
        rw[hcut]
        have M8:Hid (RfM w i bA bZ bo rb (upd (upd s x.fr (pf+1,(s x.fr).2)) x.tg (pt+1,(s x.tg).2)) S (.slice va sl vc) ((WA.setCell ⟨bA,x.fr,none⟩ (.int .i64 ((pf:Int)+1))).setCell ⟨bA,x.tg,none⟩ (.int .i64 ((pt:Int)+1))).drew):=Lib.hid (by
         have h1:=M5.out.setA HB.out gfi (pf+1)
         have h2:=h1.setA HB.out gti (pt+1)
         rw[upd_other _ _ (Ne.symm gne)] at h2
         exact h2.qt (Qt.refl _).drew)
        have NX9:Hid (Blk ((WA.setCell ⟨bA,x.fr,none⟩ (.int .i64 ((pf:Int)+1))).setCell ⟨bA,x.tg,none⟩ (.int .i64 ((pt:Int)+1))).drew bx 89 (stC x)):=Lib.hid NX8.out
        clear hcut M5 M6 NX NX6 NX7 NX8 yf yt yt2 yt3 ft2 fr1 ST FXB e1 e2
        generalize((WA.setCell ⟨bA,x.fr,none⟩ (.int .i64 ((pf:Int)+1))).setCell ⟨bA,x.tg,none⟩ (.int .i64 ((pt:Int)+1))).drew=W8 at*
        clear WA
        have M8d:=Lib.hid (M8.out.qt (Qt.refl W8).drew)
        have NX9d:=Lib.hid NX9.out.drew
        have z1:W8.drew.cell? ⟨bx,1,none⟩=some (.int .i64 x.tg):=NX9d.out.cell (i:=1) rfl
        have z3:W8.drew.cell? ⟨bx,3,none⟩=some (.int .i64 x.vl):=NX9d.out.cell (i:=3) rfl
        have zs:W8.drew.cell? ⟨bZ,x.tg,none⟩=some (.int .i64 (s x.tg).2):=by
         have:=M8d.out.ps.getZ gti
         rwa[upd_eq] at this
        have zs':W8.cell? ⟨bZ,x.tg,none⟩=some (.int .i64 (s x.tg).2):=zs
        have zfr:=M8.out.ps.sm.free x.tg
        have zfd:=M8d.out.ps.sm.free x.tg
        generalize hzz:(s x.tg).2=zz at*
        have HZZ:=Lib.hid hzz
        clear hzz
        go_upto_region 16 with(fail)
        refine wp_region_lastH (fun wx=>(wx.cell? ⟨bx,1,none⟩=some (.int .i64 x.tg)∧wx.cell? ⟨bx,3,none⟩=some (.int .i64 x.vl))∧wx.cell? ⟨bZ,x.tg,none⟩=some (.int .i64 zz)) 12 13 (by kernel_rfl) (by kernel_rfl) rfl rfl ?_ (fun hHeld=>?_)
        ·(exact⟨⟨z1,z3⟩,zs⟩)
        simp only[nopFor,List.set_cons_succ,List.set_cons_zero]
        iterate 13
         refine wpAnyH_takeN [0,1,2,3,4,5,6,7,8,9,10,11,12] (v:=?_) rfl rfl (by kernel_rfl) (by kernel_rfl) (by kernel_rfl) (fun _ _ _ h=>h) rfl ?_ hHeld ?_
         rotate_left
         ·intro w hSw
          try dsimp only at hSw
          go_simp
          all_goals with_reducible rfl
         try simp only[Act.put,List.setIfInBounds_toArray,List.set_cons_zero,List.set_cons_succ]
        refine wpAnyH_done (by kernel_rfl) ?_ _
        rw[LastQ_normal]
        clear hHeld
        go_upto_region 17 with(fail)
        have M9:=Lib.hid ((M8.out.setZ HB.out gti (IntKind.i64.wrap (zz+x.vl))).qt (Qt.refl _).drew)
        have NX1:=Lib.hid (NX9.out.setO (a:=⟨bZ,x.tg,none⟩) (.int .i64 (IntKind.i64.wrap (zz+x.vl))) NE.out.1.2).drew
        rw[IntWalk.i64_left] at M9 NX1
        have M10:Hid (RfM w i bA bZ bo rb (stepS s x) S (.slice va sl vc) (W8.setCell ⟨bZ,x.tg,none⟩ (.int .i64 (wrap64 (zz+x.vl)))).drew):=Lib.hid (M9.out.congr fun k hk=>by
         unfold stepS
         by_cases a1:k=x.tg
         ·subst a1
          rw[upd_eq,upd_eq,upd_eq,HPT.out,HZZ.out,IntWalk.i64_left]
         ·rw[upd_other _ _ a1,upd_other _ _ a1,upd_other _ _ a1]
          by_cases a2:k=x.fr
          ·subst a2
           rw[upd_eq,upd_eq,HPF.out]
          ·rw[upd_other _ _ a2,upd_other _ _ a2])
        clear M8 M8d NX9 NX9d M9 z1 z3 zs zs' zfr zfd HPF HPT HZZ
        generalize(W8.setCell ⟨bZ,x.tg,none⟩ (.int .i64 (wrap64 (zz+x.vl)))).drew=W9 at*
        have g0:W9.cell? ⟨bo,0,none⟩=some (.slice va sl vc):=M10.out.out.cell (i:=0) rfl
        have y0:W9.cell? ⟨bx,0,none⟩=some (.int .i64 x.fr):=NX1.out.cell (i:=0) rfl
        have y1:W9.cell? ⟨bx,1,none⟩=some (.int .i64 x.tg):=NX1.out.cell (i:=1) rfl
        have y2:W9.cell? ⟨bx,2,none⟩=some (.int .i64 x.ch):=NX1.out.cell (i:=2) rfl
        have y3:W9.cell? ⟨bx,3,none⟩=some (.int .i64 x.vl):=NX1.out.cell (i:=3) rfl
        have OW:Hid (W9.ownsRow w.heap.size 89 4 (.slice va sl vc) sl (flC stC S)):=Lib.hid (by have:=M10.out.own;rw[HSL.out] at this;exact this)
        have LM:=Lib.hid M10.out.len
        clear NX1
        go_wp2_with (at_builtin;refine wpList_append_cells rfl _ _ 44 rfl w.heap.size 89 i1 _ 4 32 Try.underlying44 JI.out JZ0.out JZ1.out JZ2.out rfl (by decide) (.slice va sl vc) sl (flC stC S) rfl ?ownA (some ⟨W9.heap.size,0,none⟩) 1 1 (stC x) rfl rfl ?c1A (stC_one x) ?c3A ?c4A ?c5A ?kkA)
        case ownA=>exact own_upd OW.out (Upd.of_below (S:=fun _=>False) ((Below.refl _ _).alloc (Nat.le_refl _) _)) (fun _ _=>id)
        case c1A=>exact fun i' u hi=>⟨rfl,by rw[adr_mk,Nat.zero_add];exact(Blk.new W9 89 (stC x)).cell hi⟩
        case c3A=>(have:=SL.out;unfold maxLen;omega)
        case c4A=>(have:=SL.out;omega)
        case c5A=>(have:=M10.out.bel.size;simp;omega)
        intro v1 w6 g1 g2 g3
        have PB:=Lib.hid (M10.out.pushed g2)
        have p0:w6.cell? ⟨bo,0,none⟩=some (.slice va sl vc):=PB.out.cell (i:=0) rfl
        have pf0:=PB.out.free 0
        have M11:Hid (RfM w i bA bZ bo rb (stepS s x) (S++[x]) v1 (w6.setCell ⟨bo,0,none⟩ v1)):=Lib.hid (M10.out.push HB.out (by rw[HSL.out];exact g1) g2)
        obtain⟨a3,k3,rfl, -⟩:=own_shape g1
        have LN:=Lib.hid M11.out.len
        have M12:Hid (RfM w i bA bZ bo rb (stepS s x) (S++[x]) (.slice a3 (S++[x]).length k3) (w6.setCell ⟨bo,0,none⟩ (.slice a3 (sl+1) k3))):=Lib.hid (by rw[len_snoc,HSL.out];exact M11.out)
        clear g1 g2 g3 OW M10 M11 PB
        go_wp2_with fail
        go_roundw
        case rel=>exact⟨stepS s x,S++[x],a3,k3,M12.out,RN.out⟩
        case measure=>(have:=LN.out;have:=LA.out;have:=SL.out;omega)
end
end Go.Proofs.Ytbjlijagheifgaa
