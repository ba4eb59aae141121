/-
  Texts of Ytbjlijagheifgaa, merged.
-/
import Derived.Test.YtbjlijagheifgaaC39
import Derived.Test.YtbjlijagheifgaaC37
import Derived.Test.YtbjlijagheifgaaC38
set_option linter.unusedSimpArgs false
set_option linter.unusedVariables false
namespace Go.Side
section
open Go Go.ConcN Go.Proofs.Ytbjlijagheifgaa
inductive Rep(L:List TkD):PS→List StepP→PS→Prop
 |nil {s:PS}:Rep L s [] s
 |cons {s s':PS} {x:StepP} {l:List StepP} (h:x∈possS L s) (k:Rep L (advS L (stepS s x)) l s'):Rep L s (x::l) s'
theorem Rep.fit{L:List TkD}{s s':PS}{l:List StepP}(h:Rep L s l s'):Fit L s→Fit L s':=by
 induction h with
 |nil=>exact id
 |cons h _ ih=>exact fun f=>ih (f.step h).adv
theorem fit0(L:List TkD):Fit L (s0 L):=Fit.adv (r:=fun _=>(0,0)) fun _ _ _=>Nat.zero_le _
theorem readyD_poss{ch:Int}{L:List TkD}{s:PS}(hv:validT ch L=true)(hf:Fit L s):readyD ch L (at_L L.length s)=possS L s:=by
 unfold readyD
 rw[if_pos (by rw[hv,at_L_ok hf,at_L_len];simp),at_L_poss]
end
end Go.Side
namespace Go.Proofs.Ytbjlijagheifgaa
open Go.RowKit Go.Side Go.ConcN
section
variable {w W:World} {n b3 b6 b7:Nat} {tv:Value}
theorem rp_start(h3:Blk W b3 25 [tv])(h6:Blk W b6 23 [.slice none 0 0])(h7:Blk W b7 23 [.slice none 0 0])(h67:b6≠b7)(hb:Below w.heap.size w W)(l6:w.heap.size≤b6)(l7:w.heap.size≤b7)(bA bZ:Nat)(hab:(bA=W.heap.size∧bZ=W.heap.size+1)∨(bZ=W.heap.size∧bA=W.heap.size+1)):
  ∀W2,W2=((((W.setCell ⟨b6,0,none⟩ (.slice (some ⟨bA,0,none⟩) n n)).setCell ⟨b7,0,none⟩ (.slice (some ⟨bZ,0,none⟩) n n)).alloc (.cells (rowA n fun _=>(0,0)).toArray 3)).alloc (.cells (rowA n fun _=>(0,0)).toArray 3)).drew→RpM w n bA bZ b3 b6 b7 tv (fun _=>(0,0)) W2:=by
 intro W2 hW
 have U:Upd (fun k=>k=b6∨k=b7) W ((W.setCell ⟨b6,0,none⟩ (.slice (some ⟨bA,0,none⟩) n n)).setCell ⟨b7,0,none⟩ (.slice (some ⟨bZ,0,none⟩) n n)):=((Upd.refl _ W).setCell _ _ (fun _=>.inl rfl)).setCell _ _ (fun _=>.inr rfl)
 have A3:=h3.upd U (by rintro(e|e);exact blk_ne h3 h6 (by decide) e;exact blk_ne h3 h7 (by decide) e)
 have A6:=(h6.set 0 (.slice (some ⟨bA,0,none⟩) n n)).setO (a:=⟨b7,0,none⟩) (.slice (some ⟨bZ,0,none⟩) n n) h67
 have A7:=(h7.setO (a:=⟨b6,0,none⟩) (.slice (some ⟨bA,0,none⟩) n n) (Ne.symm h67)).set 0 (.slice (some ⟨bZ,0,none⟩) n n)
 have hXs:((W.setCell ⟨b6,0,none⟩ (.slice (some ⟨bA,0,none⟩) n n)).setCell ⟨b7,0,none⟩ (.slice (some ⟨bZ,0,none⟩) n n)).heap.size=W.heap.size:=by simp
 have BX:=Upd.below hb U hb.size (by rintro k (rfl|rfl)<;>assumption)
 have l6':=h6.lt;have l7':=h7.lt;have hbs:=hb.size
 generalize((W.setCell ⟨b6,0,none⟩ (.slice (some ⟨bA,0,none⟩) n n)).setCell ⟨b7,0,none⟩ (.slice (some ⟨bZ,0,none⟩) n n))=X at*
 have R1:=((Blk.new X 3 (rowA n fun _=>(0,0))).alloc (.cells (rowA n fun _=>(0,0)).toArray 3)).drew
 have R2:=(Blk.new (X.alloc (.cells (rowA n fun _=>(0,0)).toArray 3)) 3 (rowA n fun _=>(0,0))).drew
 simp only[World.size_alloc] at R2
 rw[hXs] at R1 R2
 rw[←hW] at R1 R2
 have Q:Below X.heap.size X W2:=by
  rw[hW]
  exact(((Below.refl _ _).alloc (Nat.le_refl _) _).alloc (by simp) _).trans ((Qt.refl _).drew.below _)
 refine⟨?_,A3.upd (S:=fun _=>False) (Upd.of_below Q) id,A6.upd (S:=fun _=>False) (Upd.of_below Q) id,A7.upd (S:=fun _=>False) (Upd.of_below Q) id,by omega,by omega,by omega,BX.trans (Q.mono BX.size)⟩
 rcases hab with⟨rfl,rfl⟩|⟨rfl,rfl⟩
 ·exact⟨R1,by rw[rowZ_zero];exact R2⟩
 ·exact⟨R2,by rw[rowZ_zero];exact R1⟩
end
def RpPost(w:World)(L:List TkD)(s':PS)(e:Ending)(w':World):Prop:=
 ∃v1 v2,e= .returned (.tuple #[v1,v2,.bool true])∧InV w' v1 (at_L L.length s')∧InV w' v2 (sumsA L s')∧Below w.heap.size w w'
set_option maxHeartbeats 8000000 in
set_option maxRecDepth 100000 in
theorem replay_any(w:World)(a la:Option Addr)(c lc:Nat)(L:List TkD)(ch:Int)(S:List StepP)(s':PS)(hs:SlT w a L)(hS:SlSt w la S)(hv:validT ch L=true)(hR:Rep L (s0 L) S s')(hl:L.length≤8)(ho:∀t∈L,t.ops.length≤30)(hel:∀t∈L,∀x∈t.ops,x.el.length≤1000000)(hm:S.length≤100000):
  Calls Try.prog 24 #[.slice a L.length c,.int .i64 ch,.slice la S.length lc] w (RpPost w L s'):=by
 have SS:=Lib.hid hs
 have HS:=Lib.hid hS
 have HV:=Lib.hid hv
 have HR:=Lib.hid hR
 have HO:=Lib.hid ho
 have HE:=Lib.hid hel
 clear hs hS hv hR ho hel
 have hmk:=fun w:World=>mk_ints w L.length (by omega)
 have X1:Hid (Blk (((w.alloc (.cells #[.slice a L.length c] 25)).alloc (.cells #[.slice none 0 0] 23)).alloc (.cells #[.slice none 0 0] 23)) w.heap.size 25 [.slice a L.length c]):=Lib.hid (((Blk.new w 25 [.slice a L.length c]).alloc _).alloc _)
 have X2:Hid (Blk (((w.alloc (.cells #[.slice a L.length c] 25)).alloc (.cells #[.slice none 0 0] 23)).alloc (.cells #[.slice none 0 0] 23)) (w.heap.size+1) 23 [.slice none 0 0]):=Lib.hid (by
  have:=(Blk.new (w.alloc (.cells #[.slice a L.length c] 25)) 23 [.slice none 0 0]).alloc (.cells #[.slice none 0 0] 23)
  simpa only[World.size_alloc] using this)
 have X3:Hid (Blk (((w.alloc (.cells #[.slice a L.length c] 25)).alloc (.cells #[.slice none 0 0] 23)).alloc (.cells #[.slice none 0 0] 23)) (w.heap.size+1+1) 23 [.slice none 0 0]):=Lib.hid (by
  have:=Blk.new ((w.alloc (.cells #[.slice a L.length c] 25)).alloc (.cells #[.slice none 0 0] 23)) 23 [.slice none 0 0]
  simpa only[World.size_alloc] using this)
 have B0:Hid (Below w.heap.size w (((w.alloc (.cells #[.slice a L.length c] 25)).alloc (.cells #[.slice none 0 0] 23)).alloc (.cells #[.slice none 0 0] 23))):=Lib.hid ((((Below.refl _ _).alloc (Nat.le_refl _) _).alloc (by simp) _).alloc (by simp;omega) _)
 have L6:Hid (w.heap.size≤w.heap.size+1∧w.heap.size≤w.heap.size+1+1):=Lib.hid ⟨by omega,by omega⟩
 have N67:Hid (w.heap.size+1≠w.heap.size+1+1):=Lib.hid (by omega)
 go_enter Try.func24,Try.ntmps24
 go_upto_region 1 with(fail)
 generalize((w.alloc (Obj.cells #[.slice a L.length c] 25)).alloc (Obj.cells #[.slice none 0 0] 23)).alloc (Obj.cells #[.slice none 0 0] 23)=W at*
 obtain⟨n,hn⟩:∃n,L.length=n:=⟨_,rfl⟩
 have HN:=Lib.hid hn
 rw[hn] at hl hmk X1⊢
 clear hn
 generalize hb7:w.heap.size+1+1=b7 at*
 generalize hb6:w.heap.size+1=b6 at*
 generalize hb3:w.heap.size=b3 at*
 have HB3:=Lib.hid hb3
 clear hb3 hb6 hb7
 have y3:W.cell? ⟨b3,0,none⟩=some (.slice a n c):=X1.out.cell (i:=0) rfl
 have x6:W.cell? ⟨b6,0,none⟩=some (.slice none 0 0):=X2.out.cell (i:=0) rfl
 have x7:W.cell? ⟨b7,0,none⟩=some (.slice none 0 0):=X3.out.cell (i:=0) rfl
 have f6:=X2.out.free 0
 have f7:=X3.out.free 0
 have n67:=N67.out
 have N36:Hid (b3≠b6):=Lib.hid (blk_ne X1.out X2.out (by decide))
 have N37:Hid (b3≠b7):=Lib.hid (blk_ne X1.out X3.out (by decide))
 have l6:=X2.out.lt
 have l7:=X3.out.lt
 have l3:=X1.out.lt
 have FX:Hid (∀wx,Blk wx b3 25 [.slice a n c]→wx.cell? ⟨b3,0,none⟩=some (.slice a n c)):=Lib.hid fun wx h=>h.cell (i:=0) rfl
 have n36:=N36.out;have n37:=N37.out
 have B00:Hid (Below w.heap.size w W):=Lib.hid (by rw[HB3.out];exact B0.out)
 have L66:Hid (w.heap.size≤b6∧w.heap.size≤b7):=Lib.hid (by rw[HB3.out];exact L6.out)
 have X6:Hid (∀v,Blk (W.setCell ⟨b6,0,none⟩ v) b3 25 [.slice a n c]):=Lib.hid fun v=>X1.out.setO (a:=⟨b6,0,none⟩) v N36.out
 have X7:Hid (∀v u,Blk ((W.setCell ⟨b6,0,none⟩ v).setCell ⟨b7,0,none⟩ u) b3 25 [.slice a n c]):=Lib.hid fun v u=>(X6.out v).setO (a:=⟨b7,0,none⟩) u N37.out
 go_cut [] (fun wx=>∃bA bZ,RpM w n bA bZ b3 b6 b7 (.slice a n c) (fun _=>(0,0)) wx)
 case first=>
  refine wp_region_allH (fun wx=>wx.cell? ⟨b3,0,none⟩=some (.slice a n c)) 8 (by kernel_rfl) rfl ?_ (fun hHeld=>?_)
  ·(exact y3)
  iterate 4
   refine wpAnyH_takeN [0,1,3,4] (v:=?_) rfl rfl (by kernel_rfl) (by kernel_rfl) (by kernel_rfl) (fun _ _ _ h=>h) rfl ?_ hHeld ?_
   rotate_left
   ·intro w hSw
    try dsimp only at hSw
    go_simp
    all_goals with_reducible rfl
   try simp only[Act.put,List.setIfInBounds_toArray,List.set_cons_zero,List.set_cons_succ]
  refine wpAnyH_step2 (i:=2) (j:=5) (by kernel_rfl) rfl rfl (fun KK hK=>?_) (fun KK hK=>?_)
  ·skip
   (go_simp)
   refine hK.out _ _ ?_ (fun hHeld=>?_)
   ·(go_simp)
   clear hK KK
   try simp only[Act.put,List.setIfInBounds_toArray,List.set_cons_zero,List.set_cons_succ]
   refine wpAnyH_step2 (i:=5) (j:=6) (by kernel_rfl) rfl rfl (fun KK hK=>?_) (fun KK hK=>?_)
   ·skip
    (go_simp)
    refine hK.out _ _ ?_ (fun hHeld=>?_)
    ·(go_simp)
    clear hK KK
    try simp only[Act.put,List.setIfInBounds_toArray,List.set_cons_zero,List.set_cons_succ]
    refine wpAnyH_step (i:=6) (by kernel_rfl) rfl (fun KK hK=>?_)
    (go_simp)
    refine hK.out _ _ ?_ (fun hHeld=>?_)
    ·(go_simp)
    clear hK KK
    try simp only[Act.put,List.setIfInBounds_toArray,List.set_cons_zero,List.set_cons_succ]
    refine wpAnyH_step (i:=7) (by kernel_rfl) rfl (fun KK hK=>?_)
    (go_simp)
    refine hK.out _ _ ?_ (fun hHeld=>?_)
    ·(go_simp)
    clear hK KK
    try simp only[Act.put,List.setIfInBounds_toArray,List.set_cons_zero,List.set_cons_succ]
    refine wpAnyH_done (by kernel_rfl) ?_ _
    ((repeat clear hHeld);go_wp2_with fail;go_meet;generalize hW2:World.drew _=W2;first|exact⟨_,_,rp_start X1.out X2.out X3.out n67 B00.out L66.out.1 L66.out.2 _ _ (.inl ⟨rfl,rfl⟩) W2 hW2.symm⟩|exact⟨_,_,rp_start X1.out X2.out X3.out n67 B00.out L66.out.1 L66.out.2 _ _ (.inr ⟨rfl,rfl⟩) W2 hW2.symm⟩)
   ·skip
    (go_simp)
    refine hK.out _ _ ?_ (fun hHeld=>?_)
    ·(go_simp)
    clear hK KK
    try simp only[Act.put,List.setIfInBounds_toArray,List.set_cons_zero,List.set_cons_succ]
    refine wpAnyH_step (i:=5) (by kernel_rfl) rfl (fun KK hK=>?_)
    (go_simp)
    refine hK.out _ _ ?_ (fun hHeld=>?_)
    ·(go_simp)
    clear hK KK
    try simp only[Act.put,List.setIfInBounds_toArray,List.set_cons_zero,List.set_cons_succ]
    refine wpAnyH_step (i:=7) (by kernel_rfl) rfl (fun KK hK=>?_)
    (go_simp)
    refine hK.out _ _ ?_ (fun hHeld=>?_)
    ·(go_simp)
    clear hK KK
    try simp only[Act.put,List.setIfInBounds_toArray,List.set_cons_zero,List.set_cons_succ]
    refine wpAnyH_done (by kernel_rfl) ?_ _
    ((repeat clear hHeld);go_wp2_with fail;go_meet;generalize hW2:World.drew _=W2;first|exact⟨_,_,rp_start X1.out X2.out X3.out n67 B00.out L66.out.1 L66.out.2 _ _ (.inl ⟨rfl,rfl⟩) W2 hW2.symm⟩|exact⟨_,_,rp_start X1.out X2.out X3.out n67 B00.out L66.out.1 L66.out.2 _ _ (.inr ⟨rfl,rfl⟩) W2 hW2.symm⟩)
  ·skip
   (go_simp)
   refine hK.out _ _ ?_ (fun hHeld=>?_)
   ·(go_simp)
   clear hK KK
   try simp only[Act.put,List.setIfInBounds_toArray,List.set_cons_zero,List.set_cons_succ]
   refine wpAnyH_step (i:=2) (by kernel_rfl) rfl (fun KK hK=>?_)
   (go_simp)
   refine hK.out _ _ ?_ (fun hHeld=>?_)
   ·(go_simp)
   clear hK KK
   try simp only[Act.put,List.setIfInBounds_toArray,List.set_cons_zero,List.set_cons_succ]
   refine wpAnyH_step (i:=6) (by kernel_rfl) rfl (fun KK hK=>?_)
   (go_simp)
   refine hK.out _ _ ?_ (fun hHeld=>?_)
   ·(go_simp)
   clear hK KK
   try simp only[Act.put,List.setIfInBounds_toArray,List.set_cons_zero,List.set_cons_succ]
   refine wpAnyH_step (i:=7) (by kernel_rfl) rfl (fun KK hK=>?_)
   (go_simp)
   refine hK.out _ _ ?_ (fun hHeld=>?_)
   ·(go_simp)
   clear hK KK
   try simp only[Act.put,List.setIfInBounds_toArray,List.set_cons_zero,List.set_cons_succ]
   refine wpAnyH_done (by kernel_rfl) ?_ _
   ((repeat clear hHeld);go_wp2_with fail;go_meet;generalize hW2:World.drew _=W2;first|exact⟨_,_,rp_start X1.out X2.out X3.out n67 B00.out L66.out.1 L66.out.2 _ _ (.inl ⟨rfl,rfl⟩) W2 hW2.symm⟩|exact⟨_,_,rp_start X1.out X2.out X3.out n67 B00.out L66.out.1 L66.out.2 _ _ (.inr ⟨rfl,rfl⟩) W2 hW2.symm⟩)
 case rest=>
  obtain⟨bA,bZ,hm⟩:=hcut
  have M0:=Lib.hid hm
  have N67':=N67
  have N3:Hid (b3≠bA):=Lib.hid (blk_ne hm.c3 hm.ps.at_ (by decide))
  clear hm X1 X2 X3 X6 X7 y3 x6 x7 f6 f7 n67 n36 n37 l6 l7 l3 FX hmk N36 N37 B0 B00 L6
  clear W
  generalize wc=W at*
  have AD:Hid (∀(W:World) (r:PS),RpM w n bA bZ b3 b6 b7 (.slice a n c) r W→Fit L r→Calls Try.prog 38 #[.pointer (some ⟨b3,0,none⟩),.pointer (some ⟨b6,0,none⟩),.pointer (some ⟨b7,0,none⟩)] W fun e w'=>e= .returned (.tuple #[])∧RpM w n bA bZ b3 b6 b7 (.slice a n c) (advS L r) w'):=Lib.hid fun W r h1 h2=>by
   have h:=add_any w W a c L bA bZ b3 b6 b7 r SS.out (by rw[HN.out];exact hl) HO.out h2 (by rw[HN.out];exact h1)
   unfold AdPost at h
   rw[HN.out] at h
   exact h
  have C0:=Lib.hid (AD.out W (fun _=>(0,0)) M0.out (fun _ _ _=>Nat.zero_le _))
  go_wp2_with fail
  refine C0.out.mono ?_
  rintro e w1 ⟨rfl,hm1⟩
  have M1:Hid (RpM w n bA bZ b3 b6 b7 (.slice a n c) (s0 L) w1):=Lib.hid hm1
  clear C0 M0 hm1 W
  generalize hsl:S.length=m at*
  have HSL:=Lib.hid hsl
  clear hsl
  go_wp2_with fail
  go_loopw [23] (fun v wx=>∃j s,j≤m∧v= .int .i64 (j:Int)∧RpM w n bA bZ b3 b6 b7 (.slice a n c) s wx∧Rep L s (S.drop j) s'∧Fit L s) (fun v _=>m-(intOf v).toNat)
  case atStart=>exact⟨0,_,Nat.zero_le _,rfl,M1.out,HR.out,fit0 L⟩
  case round=>
   clear M1
   obtain⟨j,s,hj,rfl,hm1,hr,hf⟩:=hrel
   have M1:=Lib.hid hm1
   have R1:=Lib.hid hr
   have F1:=Lib.hid hf
   clear hm1 hr hf
   by_cases hjm:j<m
   ·have hjn:(j:Int)<(m:Int):=by omega
    obtain⟨x,hx,okx,x0,x1,x2,x3⟩:=(HS.out.reads (Reads.below M1.out.bel)).get (k:=j) (by rw[HSL.out];exact hjm)
    have DX:Hid (S.drop j=x::S.drop (j+1)):=Lib.hid (by
     have hjl:j<S.length:=by rw[HSL.out];exact hjm
     rw[List.drop_eq_getElem_cons hjl]
     have:=hx.out
     rw[List.getElem?_eq_getElem hjl] at this
     rw[Option.some.inj this])
    have RX:Hid (x∈possS L s∧Rep L (advS L (stepS s x)) (S.drop (j+1)) s'):=Lib.hid (by
     have h:=R1.out
     rw[DX.out] at h
     cases h with
     |cons h k=>exact⟨h,k⟩)
    have XG:=Lib.hid (possS_get RX.out.1)
    clear R1 DX
    go_upto_region 7 with(fail)
    obtain⟨W1,hW1⟩:∃W1,W1=wr.alloc (.cells #[.int .i64 x.fr,.int .i64 x.tg,.int .i64 x.ch,.int .i64 x.vl] 50):=⟨_,rfl⟩
    rw[←hW1]
    have NX:Hid (Blk W1 wr.heap.size 50 (stC x)):=Lib.hid (by rw[hW1];exact Blk.new wr 50 (stC x))
    have M2:=Lib.hid (M1.out.new (by rw[hW1];exact(Below.refl _ _).alloc (Nat.le_refl _) _:Below wr.heap.size wr W1))
    clear hW1 M1 x0 x1 x2 x3 okx hx
    generalize wr.heap.size=bx at*
    clear wr
    have M3:=Lib.hid (M2.out.qt (Qt.refl W1).drew)
    have FX:Hid (∀wx,Below W1.heap.size W1 wx→((wx.cell? ⟨b3,0,none⟩=some (.slice a n c)∧wx.cell? ⟨b6,0,none⟩=some (.slice (some ⟨bA,0,none⟩) n n))∧(wx.cell? ⟨bx,0,none⟩=some (.int .i64 x.fr)∧wx.cell? ⟨bx,1,none⟩=some (.int .i64 x.tg))∧wx.cell? ⟨bx,2,none⟩=some (.int .i64 x.ch)∧wx.cell? ⟨bx,3,none⟩=some (.int .i64 x.vl))):=Lib.hid fun wx q=>by
     have h1:=M2.out.new q
     have h2:=NX.out.upd (S:=fun _=>False) (Upd.of_below q) id
     exact⟨⟨h1.c3.cell (i:=0) rfl,h1.c6.cell (i:=0) rfl⟩,⟨h2.cell (i:=0) rfl,h2.cell (i:=1) rfl⟩,h2.cell (i:=2) rfl,h2.cell (i:=3) rfl⟩
    have C0:Hid (Below W1.heap.size W1 W1.drew):=Lib.hid ((Qt.refl W1).drew.below _)
    have PL64:Hid ((possS L s).length≤64):=Lib.hid (by
     have h1:=possDU_len L.length (offS L s) L.length
     have h2:possDU L.length (offS L s) L.length=possS L s:=rfl
     rw[h2,HN.out] at h1
     have h3:n*n≤8*8:=Nat.mul_le_mul hl hl
     omega)
    have RD:Hid (Calls Try.prog 22 #[.slice a n c,.int .i64 ch,.slice (some ⟨bA,0,none⟩) n n] W1.drew (RdyPost W1.drew (possS L s))):=Lib.hid (by
     have h:=ready_any W1.drew a (some ⟨bA,0,none⟩) c n L ch (at_L L.length s) (SS.out.reads (Reads.below M3.out.bel)) (by rw[HN.out];exact psm_slA M3.out.ps) (by rw[HN.out];unfold maxLen;omega) (by rw[at_L_len,HN.out];unfold maxLen;omega) HE.out
     rw[readyD_poss HV.out F1.out,at_L_len,HN.out] at h
     exact h)
    obtain⟨⟨y0,y1⟩,⟨y2,y3⟩,y4,y5⟩:=FX.out _ C0.out
    refine wp_region_allH (fun wx=>((wx.cell? ⟨b3,0,none⟩=some (.slice a n c)∧wx.cell? ⟨b6,0,none⟩=some (.slice (some ⟨bA,0,none⟩) n n))∧(wx.cell? ⟨bx,0,none⟩=some (.int .i64 x.fr)∧wx.cell? ⟨bx,1,none⟩=some (.int .i64 x.tg))∧wx.cell? ⟨bx,2,none⟩=some (.int .i64 x.ch)∧wx.cell? ⟨bx,3,none⟩=some (.int .i64 x.vl))) 7 (by kernel_rfl) rfl ?_ (fun hHeld=>?_)
    ·(exact⟨⟨y0,y1⟩,⟨y2,y3⟩,y4,y5⟩)
    iterate 4
     refine wpAnyH_takeN [0,1,2,4] (v:=?_) rfl rfl (by kernel_rfl) (by kernel_rfl) (by kernel_rfl) (fun _ _ _ h=>h) rfl ?_ hHeld ?_
     rotate_left
     ·intro w hSw
      try dsimp only at hSw
      go_simp
      all_goals with_reducible rfl
     try simp only[Act.put,List.setIfInBounds_toArray,List.set_cons_zero,List.set_cons_succ]
    refine wpAnyH_step (i:=3) (by kernel_rfl) rfl (fun KK hK=>?_)
    (go_simp;(with_reducible refine RD.out.mono ?_);rintro e w8 ⟨v,rfl,⟨ra,rc,rfl,hrs⟩,hb⟩;have C1:=Lib.hid (C0.out.trans (hb.mono C0.out.size));have CT:=Lib.hid (containsSt_any w8 ra rc (possS L s) x hrs (by have:=PL64.out;unfold maxLen;omega));clear hb hrs;go_wp2_with fail)
    refine hK.out _ _ ?_ (fun hHeld=>?_)
    ·(first|exact FX.out _ C2.out|exact FX.out _ C1.out)
    clear hK KK
    try simp only[Act.put,List.setIfInBounds_toArray,List.set_cons_zero,List.set_cons_succ]
    refine wpAnyH_step (i:=5) (by kernel_rfl) rfl (fun KK hK=>?_)
    (go_simp;(with_reducible refine CT.out.mono ?_);rintro e w9 ⟨bb,rfl,hbb,hb⟩;obtain rfl:bb=true:=hbb.2 RX.out.1;have C2:=Lib.hid (C1.out.trans (hb.mono C1.out.size));clear hb hbb;go_wp2_with fail)
    refine hK.out _ _ ?_ (fun hHeld=>?_)
    ·(first|exact FX.out _ C2.out|exact FX.out _ C1.out)
    clear hK KK
    try simp only[Act.put,List.setIfInBounds_toArray,List.set_cons_zero,List.set_cons_succ]
    iterate 1
     refine wpAnyH_takeN [6] (v:=?_) rfl rfl (by kernel_rfl) (by kernel_rfl) (by kernel_rfl) (fun _ _ _ h=>h) rfl ?_ hHeld ?_
     rotate_left
     ·intro w hSw
      try dsimp only at hSw
      go_simp
      all_goals with_reducible rfl
     try simp only[Act.put,List.setIfInBounds_toArray,List.set_cons_zero,List.set_cons_succ]
    refine wpAnyH_done (by kernel_rfl) ?_ _
    repeat clear hHeld
    have M4:=Lib.hid (M2.out.new C2.out)
    have N4:=Lib.hid (NX.out.upd (S:=fun _=>False) (Upd.of_below C2.out) id)
    clear C0 C1 C2 CT RD FX M2 M3 NX y0 y1 y2 y3 y4 y5 w8
    obtain⟨gf,gt,gne,⟨tf,htf,htl⟩,tt,htt,httl⟩:=XG.out
    have gfi:x.fr<n:=by rw[←HN.out];exact gf
    have gti:x.tg<n:=by rw[←HN.out];exact gt
    have pf30:(s x.fr).1<30:=by have:=HO.out tf (List.mem_of_getElem? htf);omega
    have pt30:(s x.tg).1<30:=by have:=HO.out tt (List.mem_of_getElem? htt);omega
    clear htf htt XG tf tt htl httl gf gt
    have e1:IntKind.i64.wrap (((s x.fr).1:Int)+1)=((s x.fr).1:Int)+1:=IntWalk.i64_in _ (by omega)
    have e2:IntKind.i64.wrap (((s x.tg).1:Int)+1)=((s x.tg).1:Int)+1:=IntWalk.i64_in _ (by omega)
    have y1:w9.cell? ⟨b6,0,none⟩=some (.slice (some ⟨bA,0,none⟩) n n):=M4.out.c6.cell (i:=0) rfl
    have y2:w9.cell? ⟨bx,0,none⟩=some (.int .i64 x.fr):=N4.out.cell (i:=0) rfl
    have yf:w9.cell? ⟨bA,x.fr,none⟩=some (.int .i64 ((s x.fr).1:Int)):=M4.out.ps.getA gfi
    have ff:=M4.out.ps.at_.free x.fr
    go_upto_region 10 with(fail)
    have M5:=Lib.hid (M4.out.setA gfi ((s x.fr).1+1))
    have N5:=Lib.hid (N4.out.setO (a:=⟨bA,x.fr,none⟩) (.int .i64 (((s x.fr).1:Int)+1)) (blk_ne N4.out M4.out.ps.at_ (by decide)))
    rw[show((((s x.fr).1+1:Nat)):Int)=((s x.fr).1:Int)+1 from by omega] at M5
    generalize World.setCell w9 _ _=wa at*
    clear M4 N4 y1 y2 yf ff e1 w9
    have y1:wa.cell? ⟨b6,0,none⟩=some (.slice (some ⟨bA,0,none⟩) n n):=M5.out.c6.cell (i:=0) rfl
    have y2:wa.cell? ⟨bx,1,none⟩=some (.int .i64 x.tg):=N5.out.cell (i:=1) rfl
    have yf:wa.cell? ⟨bA,x.tg,none⟩=some (.int .i64 ((s x.tg).1:Int)):=by
     have:=M5.out.ps.getA gti
     rwa[upd_other _ _ (Ne.symm gne)] at this
    have ff:=M5.out.ps.at_.free x.tg
    go_upto_region 11 with(fail)
    have M6:=Lib.hid (M5.out.setA gti ((s x.tg).1+1))
    have N6:=Lib.hid (N5.out.setO (a:=⟨bA,x.tg,none⟩) (.int .i64 (((s x.tg).1:Int)+1)) (blk_ne N5.out M5.out.ps.at_ (by decide)))
    rw[show((((s x.tg).1+1:Nat)):Int)=((s x.tg).1:Int)+1 from by omega,upd_other _ _ (Ne.symm gne)] at M6
    generalize World.setCell wa _ _=wb at*
    clear M5 N5 y1 y2 yf ff e2 wa
    have M6d:=Lib.hid (M6.out.qt (Qt.refl wb).drew)
    have N6d:=Lib.hid N6.out.drew
    have y1:wb.drew.cell? ⟨b7,0,none⟩=some (.slice (some ⟨bZ,0,none⟩) n n):=M6d.out.c7.cell (i:=0) rfl
    have y2:wb.drew.cell? ⟨bx,1,none⟩=some (.int .i64 x.tg):=N6d.out.cell (i:=1) rfl
    have y3:wb.drew.cell? ⟨bx,3,none⟩=some (.int .i64 x.vl):=N6d.out.cell (i:=3) rfl
    have zs:wb.drew.cell? ⟨bZ,x.tg,none⟩=some (.int .i64 (s x.tg).2):=by
     have:=M6d.out.ps.getZ gti
     rwa[upd_eq] at this
    have zs':wb.cell? ⟨bZ,x.tg,none⟩=some (.int .i64 (s x.tg).2):=zs
    have zfr:=M6.out.ps.sm.free x.tg
    have zfd:=M6d.out.ps.sm.free x.tg
    generalize hzz:(s x.tg).2=zz at*
    have HZZ:=Lib.hid hzz
    clear hzz
    refine wp_region_lastH (fun wx=>(wx.cell? ⟨b7,0,none⟩=some (.slice (some ⟨bZ,0,none⟩) n n)∧wx.cell? ⟨bx,1,none⟩=some (.int .i64 x.tg))∧wx.cell? ⟨bx,3,none⟩=some (.int .i64 x.vl)∧wx.cell? ⟨bZ,x.tg,none⟩=some (.int .i64 zz)) 9 10 (by kernel_rfl) (by kernel_rfl) rfl rfl ?_ (fun hHeld=>?_)
    ·(exact⟨⟨y1,y2⟩,y3,zs⟩)
    simp only[nopFor,List.set_cons_succ,List.set_cons_zero]
    iterate 10
     refine wpAnyH_takeN [0,1,2,3,4,5,6,7,8,9] (v:=?_) rfl rfl (by kernel_rfl) (by kernel_rfl) (by kernel_rfl) (fun _ _ _ h=>h) rfl ?_ hHeld ?_
     rotate_left
     ·intro w hSw
      try dsimp only at hSw
      go_simp
      all_goals with_reducible rfl
     try simp only[Act.put,List.setIfInBounds_toArray,List.set_cons_zero,List.set_cons_succ]
    refine wpAnyH_done (by kernel_rfl) ?_ _
    rw[LastQ_normal]
    clear hHeld
    go_upto_region 12 with(fail)
    have M7:=Lib.hid ((M6.out.setZ gti (IntKind.i64.wrap (zz+x.vl))).qt (Qt.refl _).drew)
    rw[IntWalk.i64_left] at M7
    have M8:Hid (RpM w n bA bZ b3 b6 b7 (.slice a n c) (stepS s x) (wb.setCell ⟨bZ,x.tg,none⟩ (.int .i64 (wrap64 (zz+x.vl)))).drew):=Lib.hid (M7.out.congr fun k hk=>by
     unfold stepS
     by_cases a1:k=x.tg
     ·subst a1
      rw[upd_eq,upd_eq,upd_eq,HZZ.out,IntWalk.i64_left]
     ·rw[upd_other _ _ a1,upd_other _ _ a1,upd_other _ _ a1])
    clear M6 M6d M7 N6 N6d y1 y2 y3 zs zs' zfr zfd HZZ
    generalize(wb.setCell ⟨bZ,x.tg,none⟩ (.int .i64 (wrap64 (zz+x.vl)))).drew=wc2 at*
    have FS:=Lib.hid (F1.out.step RX.out.1)
    have C9:=Lib.hid (AD.out wc2 (stepS s x) M8.out FS.out)
    go_wp2_with fail
    refine C9.out.mono ?_
    rintro e w10 ⟨rfl,hm1⟩
    have M9:=Lib.hid hm1
    have F9:=Lib.hid FS.out.adv
    clear C9 M8 hm1 FS F1 pf30 pt30
    go_wp2_with fail
    go_roundw
    case rel=>exact⟨j+1,advS L (stepS s x),by omega,by go_num,M9.out,RX.out.2,F9.out⟩
    case measure=>(simp[intOf];omega)
   ·obtain rfl:j=m:=by omega
    have SE:Hid (s=s'):=Lib.hid (by
     have h:=R1.out
     rw[List.drop_eq_nil_of_le (by rw[HSL.out];exact Nat.le_refl _)] at h
     cases h
     rfl)
    clear R1
    rw[SE.out] at M1 F1
    clear SE s
    go_upto_region 14 with(fail)
    have y6:wr.cell? ⟨b6,0,none⟩=some (.slice (some ⟨bA,0,none⟩) n n):=M1.out.c6.cell (i:=0) rfl
    have y7:wr.cell? ⟨b7,0,none⟩=some (.slice (some ⟨bZ,0,none⟩) n n):=M1.out.c7.cell (i:=0) rfl
    have f6:=M1.out.c6.free 0
    have f7:=M1.out.c7.free 0
    have n67:=N67.out
    have n76:=N67.out.symm
    refine wp_region_allH (fun wx=>wx.cell? ⟨b6,0,none⟩=some (.slice (some ⟨bA,0,none⟩) n n)∧wx.cell? ⟨b7,0,none⟩=some (.slice (some ⟨bZ,0,none⟩) n n)) 5 (by kernel_rfl) rfl ?_ (fun hHeld=>?_)
    ·(exact⟨y6,y7⟩)
    iterate 2
     refine wpAnyH_takeN [0,1] (v:=?_) rfl rfl (by kernel_rfl) (by kernel_rfl) (by kernel_rfl) (fun _ _ _ h=>h) rfl ?_ hHeld ?_
     rotate_left
     ·intro w hSw
      try dsimp only at hSw
      go_simp
      all_goals with_reducible rfl
     try simp only[Act.put,List.setIfInBounds_toArray,List.set_cons_zero,List.set_cons_succ]
    refine wpAnyH_step (i:=2) (by kernel_rfl) rfl (fun KK hK=>?_)
    (go_simp)
    refine hK.out _ _ ?_ (fun hHeld=>?_)
    ·(go_simp)
    clear hK KK
    try simp only[Act.put,List.setIfInBounds_toArray,List.set_cons_zero,List.set_cons_succ]
    refine wpAnyH_step (i:=3) (by kernel_rfl) rfl (fun KK hK=>?_)
    (go_simp)
    refine hK.out _ _ ?_ (fun hHeld=>?_)
    ·(go_simp)
    clear hK KK
    try simp only[Act.put,List.setIfInBounds_toArray,List.set_cons_zero,List.set_cons_succ]
    iterate 1
     refine wpAnyH_takeN [4] (v:=?_) rfl rfl (by kernel_rfl) (by kernel_rfl) (by kernel_rfl) (fun _ _ _ h=>h) rfl ?_ hHeld ?_
     rotate_left
     ·intro w hSw
      try dsimp only at hSw
      go_simp
      all_goals with_reducible rfl
     try simp only[Act.put,List.setIfInBounds_toArray,List.set_cons_zero,List.set_cons_succ]
    refine wpAnyH_done (by kernel_rfl) ?_ _
    repeat clear hHeld
    go_wp2_with fail
    have U:Hid (Upd (fun k=>k=b6∨k=b7) wr ((wr.setCell ⟨b6,0,none⟩ (.slice (some ⟨bA,0,none⟩) n n)).setCell ⟨b7,0,none⟩ (.slice (some ⟨bZ,0,none⟩) n n)).drew):=Lib.hid (((Upd.refl _ wr).setCell _ _ (fun _=>.inl rfl)).setCell _ _ (fun _=>.inr rfl)).drew
    have q6:((wr.setCell ⟨b6,0,none⟩ (.slice (some ⟨bA,0,none⟩) n n)).setCell ⟨b7,0,none⟩ (.slice (some ⟨bZ,0,none⟩) n n)).drew.cell? ⟨b6,0,none⟩=some (.slice (some ⟨bA,0,none⟩) n n):=((M1.out.c6.set 0 _).setO (a:=⟨b7,0,none⟩) _ n67).drew.cell (i:=0) rfl
    have q7:((wr.setCell ⟨b6,0,none⟩ (.slice (some ⟨bA,0,none⟩) n n)).setCell ⟨b7,0,none⟩ (.slice (some ⟨bZ,0,none⟩) n n)).drew.cell? ⟨b7,0,none⟩=some (.slice (some ⟨bZ,0,none⟩) n n):=((M1.out.c7.setO (a:=⟨b6,0,none⟩) _ n76).set 0 _).drew.cell (i:=0) rfl
    generalize((wr.setCell ⟨b6,0,none⟩ (.slice (some ⟨bA,0,none⟩) n n)).setCell ⟨b7,0,none⟩ (.slice (some ⟨bZ,0,none⟩) n n)).drew=WF at*
    have FIN:Hid (RpPost w L s' (.returned (.tuple #[.slice (some ⟨bA,0,none⟩) n n,.slice (some ⟨bZ,0,none⟩) n n,.bool true])) WF):=Lib.hid (by
     have hp:=M1.out.ps.upd U.out (by rintro(e|e);exact blk_ne M1.out.ps.at_ M1.out.c6 (by decide) e;exact blk_ne M1.out.ps.at_ M1.out.c7 (by decide) e) (by rintro(e|e);exact blk_ne M1.out.ps.sm M1.out.c6 (by decide) e;exact blk_ne M1.out.ps.sm M1.out.c7 (by decide) e)
     refine⟨_,_,rfl,⟨_,n,by rw[at_L_len,HN.out],by rw[HN.out];exact psm_slA hp⟩,?_,Upd.below M1.out.bel U.out M1.out.bel.size (by rintro k (rfl|rfl);exact L66.out.1;exact L66.out.2)⟩
     have e1:rowZ n s'=(sumsA L s').map (Value.int .i64):=by rw[←HN.out];simp[rowZ,sumsA]
     have e2:(sumsA L s').length=n:=by rw[←HN.out];simp[sumsA]
     have hZ:=hp.sm
     rw[e1] at hZ
     exact⟨_,n,by rw[e2],hZ.sl⟩)
    exact bodyPost_ret (v:=.tuple #[.slice (some ⟨bA,0,none⟩) n n,.slice (some ⟨bZ,0,none⟩) n n,.bool true]) (by simp[results,Try.results24,go_sem,q6,q7]) rfl FIN.out
end Go.Proofs.Ytbjlijagheifgaa
namespace Go.Side
section
open Go Go.Conc Go.ConcN Go.Proofs Go.RowKit Go.Proofs.Ytbjlijagheifgaa
theorem law_frame11: #[]++Array.replicate 45 undef= #[undef,undef,undef,undef,undef,undef,undef,undef,undef,undef,undef,undef,undef,undef,undef,undef,undef,undef,undef,undef,undef,undef,undef,undef,undef,undef,undef,undef,undef,undef,undef,undef,undef,undef,undef,undef,undef,undef,undef,undef,undef,undef,undef,undef,undef]:=by kernel_rfl
theorem law_ext{W:World}:ExtC (Ext W):=fun _ _ e h=>h.trans e
theorem law_start{W:World}{Qm:Machine→Trace→Prop}{fid q:Nat}{c0 s rest:Code}{ops:Array Oper}{a a1 a2:Act}{o:Oper}(hfn:∃fn,Try.prog.funcs[fid]?=some fn)(ho:ops[0]?=some o)(hsz:ops.size=2)(hog:o.guard=none)(hod:o.dst=some q)(hop:o.op= .call {callee:=.value (.func 11),args:= #[],argTypes:= #[]})(d0:a.defers=[])(d1:a1.defers=[])(p0:[Item.code c0].all (itemPlain false none Try.prog lawFns)=true)(p1:[Item.inRegion ops [1],Item.code s].all (itemPlain false none Try.prog lawFns)=true)(w0:∀u,c0.wp Try.prog (fun e a' u'=>e= .normal∧a'=a1∧u'=u) a u)(w1:∀u,ItemsWp Try.prog [.inRegion ops [1],.code s] (fun e a' u'=>e= .normal∧a'=a2∧u'=u) (a1.put (some q) (.bool true)) u)(kk:∀Shun' w',Kn W.heap.size Shun' w' (Ext W)→SB Try.prog Shun' Qm (G ((base fid).at a2 [.code rest]) []) w'):
  SB Try.prog (fun _=>False) Qm (G ((base fid).at a [.code (.seq c0 (.seq (.seq (.region 1 ops false) s) rest))]) []) W:=by
 have H:=gait_b Try.prog (fun _=>False) Qm
 have hk0:(base fid).kind≠ .early:=by simp[base]
 have hN:∀u,Ext W u→W.heap.size≤u.heap.size:=fun u e=>e.size
 have K:=kn_start W
 refine SB.into (H.seq (n:=0) (Kn.out K law_ext fun w₁ K₁=>?_))
 refine K₁.lone (items:=[.code c0]) (k:=[.code (.seq (.seq (.region 1 ops false) s) rest)]) lawOK hfn rfl p0 d0 (Q:=fun u e a' u'=>e= .normal∧a'=a1∧u'=u)
  (fun u e a' u' h=>.inl h.1) (fun u hu=>ItemsWp.code (w0 u)) (fun u a' u' w' hu ⟨_,ha,hw⟩ _ gen=>?_) (fun u a' u' w' todo _ h=>by cases h.1)
 subst ha
 subst hw
 have K₂:=gen _ law_ext hu
 clear gen hu K₁ w₁
 refine SB.into (H.seq (n:=2) ?_)
 refine H.seq (n:=1) ?_
 refine H.region (n:=0) (Kn.out K₂ law_ext fun w₃ K₃=>?_)
 rw[show List.range ops.size=[0,1] from by rw[hsz];rfl]
 refine SB.into (H.call (n:=0) (f:=11) (c:=b11) (args:= #[]) (ats:= #[]) ho (by simp[Region.wanted,hog]) hk0 hop Try.func11 (by decide) rfl (Kn.out K₃ law_ext fun w₅ K₆=>?_))
 rw[show Try.f11.ntmps=45 from Try.ntmps11]
 simp only[List.map_toArray,List.map_nil,List.size_toArray,List.length_nil,Nat.reduceSub,law_frame11]
 refine awake_sb K₆ law_ext hN _ _ _ _ _ _ _ _ _ _ _ _ _ _ _ _ _ _ _ _ _ _ _ _ _ _ _ _ _ _ _ _ _ _ _ _ _ _ _ _ _ _ _ _ _ (fun Shun' w' K₇=>?_)
 rw[Frame.finish_at,ho]
 show SB Try.prog Shun' Qm (G ((base fid).at (a'.put o.dst (.bool true)) ([.inRegion ops [1],.code s]++[.code rest])) []) w'
 rw[hod]
 refine K₇.lone (items:=[.inRegion ops [1],.code s]) (k:=[.code rest]) lawOK hfn rfl p1 (by rw[put_defers];exact d1) (Q:=fun u e a' u'=>e= .normal∧a'=a2∧u'=u)
  (fun u e a' u' h=>.inl h.1) (fun u hu=>w1 u) (fun u a' u' w8 hu ⟨_,ha,hw⟩ _ gen=>?_) (fun u a' u' w8 todo _ h=>by cases h.1)
 subst ha
 subst hw
 exact kk _ _ (gen _ law_ext hu)
noncomputable def opsR:Code→Array Oper
 | .region _ ops _=>ops
 |_=> #[]
def FinT(r:Nat)(u:World)(e:Exit)(a':Act)(u':World):Prop:=e= .ret∧a'.tmps.getD r undef= .bool true∧Below u.heap.size u u'
def FinN(r:Nat)(u:World):Exit→Act→World→Prop
 | .ret,a',u'=>a'.tmps.getD r undef= .bool true∧Below u.heap.size u u'
 |_,_,_=>False
theorem finN{P:Program}{r:Nat}{u:World}{items:List Item}{a:Act}(h:ItemsWp P items (FinN r u) a u):ItemsWp P items (FinT r u) a u:=fun b k cs=>by
 obtain⟨e,a',w',hq,hg⟩:=h b k cs
 refine⟨e,a',w',?_,hg⟩
 cases e<;>first|exact⟨rfl,hq.1,hq.2⟩|exact hq.elim
def GdQ(r:Nat)(u:World)(p:Prop)(fr:Act→Prop)(e:Exit)(a':Act)(u':World):Prop:=Below u.heap.size u u'∧((e= .ret∧a'.tmps.getD r undef= .bool true)∨(e= .normal∧p∧fr a'))
theorem law_tail{W w:World}{Shun:Loc→Prop}{fid r:Nat}{fn:Func}{items:List Item}{a:Act}{F:World→Prop}(K:Kn W.heap.size Shun w F)(hF:∀u,F u→Ext W u)(hfn:Try.prog.funcs[fid]?=some fn)(hr:fn.results= #[.tmp r])(hi:Try.prog.inits.idxOf? fid=none)(hd:a.defers=[])(hc:items.all (itemPlain false none Try.prog lawFns)=true)(LH:∀u,F u→ItemsWp Try.prog items (FinT r u) a u):
  SB Try.prog Shun (EndM Try.prog fun v w'=>v= .bool true∧Stood W w') (G ((base fid).at a items) []) w:=by
 have h:=K.lone (Qm:=EndM Try.prog fun v w'=>v= .bool true∧Stood W w') (b:=base fid) (a:=a) (items:=items) (k:=[]) (cs:=[]) lawOK ⟨_,hfn⟩ rfl hc hd (Q:=fun u=>FinT r u) (fun u e a' u' h=>.inr h.1) LH (fun u a' u' w' _ h=>by cases h.1) (fun u a' u' w8 todo hu ⟨_,h0,hb⟩ hd' gen=>sb_ends (gen _ law_ext ((hF u hu).trans (Ext.below hb))) hfn rfl hd' hr hi h0)
 rwa[List.append_nil] at h
end
section
open Go Go.Conc Go.ConcN Go.Proofs Go.RowKit Go.Proofs.Ytbjlijagheifgaa
theorem law_frame12(x y z:Value): #[x,y,z]++Array.replicate 76 undef= #[x,y,z,undef,undef,undef,undef,undef,undef,undef,undef,undef,undef,undef,undef,undef,undef,undef,undef,undef,undef,undef,undef,undef,undef,undef,undef,undef,undef,undef,undef,undef,undef,undef,undef,undef,undef,undef,undef,undef,undef,undef,undef,undef,undef,undef,undef,undef,undef,undef,undef,undef,undef,undef,undef,undef,undef,undef,undef,undef,undef,undef,undef,undef,undef,undef,undef,undef,undef,undef,undef,undef,undef,undef,undef,undef,undef,undef,undef]:=by kernel_rfl
theorem law_run{N:Nat}{Shun:Loc→Prop}{Qm:Machine→Trace→Prop}{w:World}{F:World→Prop}(K:Kn N Shun w F)(hF:ExtC F)(hN:∀u,F u→N≤u.heap.size){fid:Nat}{a:Act}{ops:Array Oper}{i:Nat}{rest:List Nat}{k:List Item}{o:Oper}{x y z:Operand}{ats:Array TypeId}{pt pc:Option Addr}{ct cc:Nat}{L:List TkD}{ch:Int}{chs:List Int}(ho:ops[i]?=some o)(hog:o.guard=none)(hop:o.op= .call {callee:=.value (.func 12),args:= #[x,y,z],argTypes:=ats})(ex:a.eval x= .slice pt L.length ct)(ey:a.eval y= .int .i64 ch)(ez:a.eval z= .slice pc chs.length cc)(hT:∀u,F u→SlT u pt L)(hC:∀u,F u→Sl (Value.int .i64) u pc chs)(hl:L.length≤maxLen)(hel:∀t∈L,∀x∈t.ops,x.el.length≤1000000)(kok:∀(s':PS) (S':List StepP) (Shun':Loc→Prop) (w':World) (v0 v1 v2:Value),validT ch L=true→Outc L chs s' S'→Kn N Shun' w' (fun u=>F u∧RunRes u v0 v1 v2 S' (sumsA L s') (stuckA L s'))→ SB Try.prog Shun' Qm (G ((base fid).at (a.put o.dst (.tuple #[.agg #[v0,v1,v2],.int .i64 0])) (.inRegion ops rest::k)) []) w')(kno:∀(w':World),validT ch L=false→Kn N Shun w' F→SB Try.prog Shun Qm (G ((base fid).at (a.put o.dst (.tuple #[.agg #[.slice none 0 0,.slice none 0 0,.slice none 0 0],.int .i64 1])) (.inRegion ops rest::k)) []) w'):
  SB Try.prog Shun Qm (G ((base fid).at a (.inRegion ops (i::rest)::k)) []) w:=by
 have H:=gait_b Try.prog Shun Qm
 have hk0:(base fid).kind≠ .early:=by simp[base]
 refine SB.into (H.call (n:=0) (f:=12) (c:=b12) (args:= #[x,y,z]) (ats:=ats) ho (by simp[Region.wanted,hog]) hk0 hop Try.func12 (by decide) rfl (Kn.out K hF fun w₆ K₆=>?_))
 rw[show Try.f12.ntmps=79 from Try.ntmps12]
 simp only[List.map_toArray,List.map_cons,List.map_nil,List.size_toArray,List.length_cons,List.length_nil,Nat.reduceAdd,Nat.reduceSub,ex,ey,ez,law_frame12]
 have fin:∀v:Value,((base fid).at a (.inRegion ops (i::rest)::k)).finish v=(base fid).at (a.put o.dst v) (.inRegion ops rest::k):=fun v=>by rw[Frame.finish_at,ho];rfl
 refine run_call K₆ hF hN (pt:=pt) (ct:=ct) (pc:=pc) (cc:=cc) (L:=L) (ch:=ch) (chs:=chs) hT hC hl hel _ _ _ _ _ _ _ _ _ _ _ _ _ _ _ _ _ _ _ _ _ _ _ _ _ _ _ _ _ _ _ _ _ _ _ _ _ _ _ _ _ _ _ _ _ _ _ _ _ _ _ _ _ _ _ _ _ _ _ _ _ _ _ _ _ _ _ _ _ _ _ _ _ _ _ _ (fun c' S' Shun₂ w' v0 v1 v2 hv hrun K₇=>?_) (fun w' hv K₇=>?_)
 ·obtain⟨ux,V7⟩:=View.ex K₇.sh
  have hE:∀t∈L,∀x∈t.ops,EL L (opv x)=x.el:=fun t ht x hx=>EL_eq (hT _ (K₇.all ux V7).1) ht hx
  obtain⟨s',hO,hs',hst⟩:=hrun.plain hE
  rw[hs',hst] at K₇
  rw[fin]
  exact kok s' S' _ _ v0 v1 v2 hv hO K₇
 ·rw[fin]
  exact kno _ hv K₇
end
end Go.Side
