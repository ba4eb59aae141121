/-
  Texts of Ytbjlijagheifgaa, merged.
-/
import Derived.Test.YtbjlijagheifgaaD9
import Derived.Conc.WgGenN3
import Derived.Conc.CompanyMem
import Derived.Conc.CompanyDraw
set_option linter.unusedSimpArgs false
set_option linter.unusedVariables false
set_option linter.unusedSectionVars false
namespace Go.Side
section
open Go Go.Conc Go.ConcN
open Go.ConcR (KK WgAt stA smA rd wr mk DC0 Payload wgBlock)
section
variable {P:Program} {main q na:Bool} {T:Terr} {R1 R2:World→World→Prop} {D1 D:World→World→Array Event→Prop} {S1 S2 S3 Stop Stop':Goroutine→World→Prop} {n m:Nat} {g:Goroutine} {w:World}
theorem Goes.conv(hR:∀w w₁,R2 w w₁→R1 w w₁)(hS:∀g w,S1 g w→S2 g w)(h:Goes P main R1 D S1 n g w):Goes P main R2 D S2 n g w:=by
 induction n generalizing g w with
 |zero=>exact fun w₁ r=>hS _ _ (h w₁ (hR _ _ r))
 |succ n ih=>
  rcases h with h|⟨hs,h⟩
  ·exact .inl fun w₁ r=>hS _ _ (h w₁ (hR _ _ r))
  ·refine .inr ⟨hs,fun w₁ r=>?_⟩
   obtain⟨g',w',es,e,hd,hg⟩:=goes_iff.1 (h w₁ (hR _ _ r))
   exact goes_iff.2 ⟨g',w',es,e,hd,ih hg⟩
theorem GoesN.mono{St St':Terr→Goroutine→World→Prop}(h:GoesN P main q na St n T g w)(k:∀T g w,St T g w→St' T g w):GoesN P main q na St' n T g w:=by
 induction n generalizing T g w with
 |zero=>exact fun w₁ r=>k _ _ _ (h w₁ r)
 |succ n ih=>
  rcases h with h|⟨hs,h⟩
  ·exact .inl fun w₁ r=>k _ _ _ (h w₁ r)
  ·refine .inr ⟨hs,fun w₁ r=>?_⟩
   obtain⟨g',w',es,e,hd,hg⟩:=goes_iff.1 (h w₁ r)
   exact goes_iff.2 ⟨g',w',es,e,hd,ih hg⟩
theorem Goes.toN{K:World→Prop}(hK:∀w w₁,Rely q T w w₁→K w→K w₁)(h:Goes P main (Rely q T) DC0 Stop n g w)(k:K w):GoesN P main q na (fun T' g w=>T'=T∧Stop g w∧K w) n T g w:=by
 induction n generalizing g w with
 |zero=>exact fun w₁ r=>⟨rfl,h w₁ r,hK _ _ r k⟩
 |succ n ih=>
  rcases h with h|⟨hs,h⟩
  ·exact .inl fun w₁ r=>⟨rfl,h w₁ r,hK _ _ r k⟩
  ·refine .inr ⟨hs,fun w₁ r=>?_⟩
   obtain⟨g',w',es,e,⟨rfl,rfl⟩,hg⟩:=goes_iff.1 (h w₁ r)
   refine goes_iff.2 ⟨g',w',#[],e,Guar.idle _ _ _ _ (by simp),?_⟩
   rw[grow_same]
   exact ih hg (hK _ _ r k)
theorem Goes.toG(h:Goes P main (Rely q T) (Guar main true T) Stop n g w):GoesN P main q na (fun T' g w=>T'=T∧Stop g w) n T g w:=by
 induction n generalizing g w with
 |zero=>exact fun w₁ r=>⟨rfl,h w₁ r⟩
 |succ n ih=>
  rcases h with h|⟨hs,h⟩
  ·exact .inl fun w₁ r=>⟨rfl,h w₁ r⟩
  ·refine .inr ⟨hs,fun w₁ r=>?_⟩
   obtain⟨g',w',es,e,G,hg⟩:=goes_iff.1 (h w₁ r)
   refine goes_iff.2 ⟨g',w',es,e,?_,?_⟩
   ·cases na with
    |true=>exact G
    |false=>exact G.loud
   ·rw[G.still rfl,grow_same]
    exact ih hg
theorem goes_zip(hR:∀w w₁,R2 w w₁→R1 w w₁)(tr:∀a b c,R1 a b→R1 b c→R1 a c):∀{n m:Nat} {g:Goroutine} {w:World},Goes P main R1 D1 S1 n g w→Goes P main R2 DC0 S2 m g w→Goes P main R2 DC0 (fun g w=>S1 g w∨(S2 g w∧∃n,Goes P main R1 D1 S1 n g w)) m g w:=by
 intro n m
 induction m generalizing n with
 |zero=>exact fun A B w₁ r=>.inr ⟨B w₁ r,_,Goes.rely tr A (hR _ _ r)⟩
 |succ m ih=>
  intro g w A B
  rcases B with B|⟨hs,B⟩
  ·exact .inl fun w₁ r=>.inr ⟨B w₁ r,_,Goes.rely tr A (hR _ _ r)⟩
  ·rcases Goes.cases A with A'|⟨n',hn,A'⟩
   ·exact .inl fun w₁ r=>.inl (A' w₁ (hR _ _ r))
   ·refine .inr ⟨hs,fun w₁ r=>?_⟩
    obtain⟨g',w',es,e,hd,hg⟩:=goes_iff.1 (B w₁ r)
    obtain⟨g2,w2,es2,e2,_,hg2⟩:=A' w₁ (hR _ _ r)
    rw[e] at e2
    cases e2
    exact goes_iff.2 ⟨g',w',es,e,hd,ih hg2 hg⟩
theorem goes_never(r1:∀w,R1 w w)(r2:∀w,R2 w w)(h1:∀g w,S1 g w→∀g' w',stepG P main g w≠ .go g' w' #[])(h3:∀g w,S3 g w→¬S1 g w∧∀g' w' es,stepG P main g w= .go g' w' es→¬D1 w w' es):
  ∀{n m:Nat} {g:Goroutine} {w:World},Goes P main R1 D1 S1 n g w→Goes P main R2 DC0 S3 m g w→False:=by
 have stop:∀{n:Nat} {g:Goroutine} {w:World},Goes P main R1 D1 S1 n g w→S3 g w→False:=fun A B=>by
  rcases Goes.cases A with A'|⟨n',hn,A'⟩
  ·exact(h3 _ _ B).1 (A' _ (r1 _))
  ·obtain⟨g',w',es,e,hd,_⟩:=A' _ (r1 _)
   exact(h3 _ _ B).2 _ _ _ e hd
 intro n m
 induction m generalizing n with
 |zero=>exact fun A B=>stop A (B _ (r2 _))
 |succ m ih=>
  intro g w A B
  rcases B with B|⟨hs,B⟩
  ·exact stop A (B _ (r2 _))
  ·obtain⟨g',w',es,e,⟨rfl,rfl⟩,hg⟩:=goes_iff.1 (B w (r2 _))
   rcases Goes.cases A with A'|⟨n',hn,A'⟩
   ·exact h1 _ _ (A' _ (r1 _)) _ _ e
   ·obtain⟨g2,w2,es2,e2,_,hg2⟩:=A' _ (r1 _)
    rw[e] at e2
    cases e2
    exact ih hg2 hg
end
section
variable {σ:Type} {C:Fix σ} {v:WV}
theorem wgLive_rely{q:Bool}{T:Terr}{w w₁:World}{ty:TypeId}{Wg:Nat}(r:Rely q T w w₁)(hk:T.kn Wg)(h:WgLive ty Wg w):WgLive ty Wg w₁:=by
 obtain⟨a,b,h⟩:=h
 obtain⟨o',h1,c',rfl,_,hw⟩:=r.kin Wg _ (.inl hk) h
 obtain⟨a',b',rfl⟩:=hw ⟨a,b,rfl⟩
 exact⟨a',b',h1⟩
variable [Payload]
theorem rw_rely{T:Terr}{w w₁:World}(r:Rely false T w w₁)(hk:T.kn C.Wg)(hb:T.kn v.bx)(hc:T.rd (.cell ⟨v.bx,2,none⟩)):RW C.ty C.Wg v.bx 4 0 2 w w₁:=by
 refine⟨fun b h=>by omega,wgLive_rely r hk,fun⟨cs,h1,h2⟩=>?_,r.cell _ hc⟩
 obtain⟨o',h3,c',rfl,h4,_⟩:=r.kin _ _ (.inl hb) h1
 exact⟨c',h3,h4.trans h2⟩
theorem rw_box{w w₁:World}(r:Rely false (Tbox C v) w w₁):RW C.ty C.Wg v.bx 4 0 2 w w₁:=rw_rely r (.inl rfl) (.inr rfl) (.inl (.inl rfl))
theorem rw_trans{ty:TypeId}{Wg Cc n Low i:Nat}(a b c:World)(h:RW ty Wg Cc n Low i a b)(h':RW ty Wg Cc n Low i b c):RW ty Wg Cc n Low i a c:=
 ⟨fun x h1 h2 h3=>(h'.low x h1 h2 h3).trans (h.low x h1 h2 h3),fun x=>h'.live (h.live x),fun x=>h'.pay (h.pay x),h'.cell.trans h.cell⟩
theorem conv_d4{g:Goroutine}{w:World}(h:ConcN.AtD4 C.P C.ty C.Wg g w):AtD4 C g w:=h
theorem conv_d3{g:Goroutine}{w:World}(h:ConcN.AtD3 C.P C.ty C.Wg v.bx 4 0 3 g w):AtD3 C v g w:=
 ⟨h.1,fun x=>let⟨g',h1,m,h2⟩:=h.2 x;⟨g',h1,m,Goes.conv (fun _ _=>rw_box) (fun _ _=>conv_d4) h2⟩⟩
theorem conv_d2{g:Goroutine}{w:World}(h:ConcN.AtD2 C.P C.ty C.Wg v.bx 4 0 3 g w):AtD2 C v g w:=
 ⟨h.1,fun x=>let⟨g',h1,m,h2⟩:=h.2 x;⟨g',h1,m,Goes.conv (fun _ _=>rw_box) (fun _ _=>conv_d3) h2⟩⟩
theorem conv_d1{g:Goroutine}{w:World}(h:ConcN.AtD1 C.P C.ty C.Wg v.bx 4 0 3 g w):AtD1 C v g w:=
 ⟨h.1,fun a b h1 h2 x=>let⟨g',h3,h4,h5⟩:=h.2 a b h1 h2 x;⟨g',h3,fun y=>let⟨m,h6⟩:=h4 y;⟨m,Goes.conv (fun _ _=>rw_box) (fun _ _=>conv_d2) h6⟩,h5⟩⟩
theorem conv_k1{g:Goroutine}{w:World}(h:ConcN.AtK1 C.P C.ty C.Wg v.bx 4 0 3 g w):AtK1 C v g w:=
 let⟨h0,g',h1,m,h2⟩:=h
 ⟨h0,g',h1,m,Goes.conv (fun _ _=>rw_box) (fun _ _=>conv_d1) h2⟩
theorem conv_r0{T:Terr}{g:Goroutine}{w:World}{s:Int}{d:Bool}{x:Value}(h:ConcN.AtR0 C.P C.ty C.Wg v.bx 4 0 3 x g w)(hb:BoxIs v s d w)(h2:T.wr (.cell ⟨v.bx,2,none⟩))(h3:T.wr (.cell ⟨v.bx,3,none⟩)):AtR0 C v s d T g w:=
 let⟨h0,_,g',h1,m,hg⟩:=h
 ⟨h0,hb,h2,h3,g',h1,m,Goes.conv (fun _ _=>rw_box) (fun _ _=>conv_k1) hg⟩
end
end
section
open Go Go.Conc Go.ConcN Go.RowKit Go.Conc.Lib Go.ConcR.Gen Go.ConcN.Gen
open Go.ConcR (KK WgAt stA smA rd wr mk DC0 Payload wgBlock)
section
variable {σ:Type} {C:Fix σ} {v:WV} [Payload] {L:WgLink}
def Dis(P:Program)(g:Goroutine)(w:World):Prop:=∃g',stepG P false g w= .go g' w #[mk .disable]
def Rel(P:Program)(Wg:Nat)(R:World→World→Prop)(g:Goroutine)(w:World):Prop:=∃g',stepG P false g w= .go g' w #[mk (.releaseMerge (stA Wg))]∧∃m,Goes P false R DC0 (Dis P) m g' w
set_option maxRecDepth 100000 in
set_option maxHeartbeats 8000000 in
theorem done_short{P:Program}(H:WgLib P L){Wg:Nat}{T:Terr}(hk:T.kn Wg){c:Frame}{cs:List Frame}(w:World)(hK:WgLive L.tWg Wg w):
  Goes P false (Rely false T) DC0 (Rel P Wg (Rely false T)) 30 (G ((baseD L.done).at ⟨#[.pointer (some ⟨Wg,0,none⟩),undef,undef,undef],[]⟩ [.code (body_done L)]) (c::cs)) w:=by
 lib_facts
 have kn:∀{w w₁:World},WgLive L.tWg Wg w→Rely false T w w₁→WgLive L.tWg Wg w₁:=fun h r=>wgLive_rely r hk h
 simp only[body_done,body_add,doneFn,addFn,Option.getD_some]
 u_reg kn hK
 u_op kn hK
 u_in kn hK
 refine goes_call rfl rfl (by k_ne) rfl H.f_add (nm_add L) rfl ⟨by u_nil,?_⟩
 walk_nrmf addFn
 u_c stepG_seq kn hK
 u_cond true kn hK
 u_c stepG_seq kn hK
 u_c stepG_seq kn hK
 u_reg kn hK
 u_op kn hK
 u_op kn hK
 u_c stepG_region_end kn hK
 u_cond true kn hK
 u_reg kn hK
 u_op kn hK
 u_conv H.underlying_tWgP H.room_tWg (WgLive.cell0 hK).choose_spec kn hK
 refine Goes.stop (fun w₁ h₁=>?_)
 replace hK:=kn hK h₁
 clear h₁
 refine⟨_,stepG_markAt .releaseMerge (by simp) rfl rfl (by k_ne) rfl H.f_relMerge (x_relMerge_n L) (x_relMerge_b L) (x_relMerge_x L) (x_relMerge_f L) (by simp[Act.eval,stA]),10,?_⟩
 walk_nrm
 u_c stepG_region_end kn hK
 u_c stepG_seq kn hK
 u_reg kn hK
 refine Goes.stop (fun w₁ h₁=>?_)
 exact⟨_,stepG_mark0 .disable (by simp) rfl rfl (by k_ne) rfl H.f_disable (x_disable_n L) (x_disable_b L) (x_disable_x L) (x_disable_f L)⟩
theorem done_goes(H:WgLib C.P L)(hty:C.ty=L.tWg){T:Terr}(hk:T.kn C.Wg)(hkb:T.kn v.bx)(h2:T.wr (.cell ⟨v.bx,2,none⟩))(h3:T.wr (.cell ⟨v.bx,3,none⟩)){s:Int}{d:Bool}{c:Frame}{cs:List Frame}{qt:Nat}(hcm:c.mode= .returning)(hT:QuitsD C.P qt 0 (G c cs)){w:World}(hb:BoxIs v s d w)(hK:WgLive C.ty C.Wg w):
  GoesN C.P false false true (AtR0 C v s d) 30 T (G ((baseD L.done).at ⟨#[.pointer (some ⟨C.Wg,0,none⟩),undef,undef,undef],[]⟩ [.code (body_done L)]) (c::cs)) w:=by
 have A:=doneN (L:=L) H (Own:=fun _ _=>False) (Rd:=fun _ _=>False) (Wg:=C.Wg) (C:=v.bx) (n:=4) (Low:=0) (k:=3) (val:=.int .i64 s) hcm hT w ⟨by rw[←hty];exact hK,hb.1⟩
 have B:=done_short (L:=L) H hk (c:=c) (cs:=cs) w (by rw[←hty];exact hK)
 rw[←hty] at A
 have Z:=goes_zip (fun w w₁ r=>rw_rely (C:=C) (v:=v) r hk hkb (.inr h2)) rw_trans A B
 have Z':=Goes.conv (R2:=Rely false T) (S2:=ConcN.AtR0 C.P C.ty C.Wg v.bx 4 0 3 (.int .i64 s)) (fun _ _ r=>r) (fun g w h=>by
  rcases h with h|⟨⟨g',hst,m,hG⟩,n,hA⟩
  ·exact h
  ·rcases Goes.cases hA with hA'|⟨n',hn,hA'⟩
   ·exact hA' w ⟨fun _ _ _ _=>rfl,id,id,rfl⟩
   ·obtain⟨g2,w2,es2,e2,_,hg2⟩:=hA' w ⟨fun _ _ _ _=>rfl,id,id,rfl⟩
    rw[hst] at e2
    cases e2
    refine(goes_never (P:=C.P) (main:=false) (fun w=>⟨fun _ _ _ _=>rfl,id,id,rfl⟩) (fun w=>Rely.refl _ _ _) (fun g w h g' w' e=>?_) (fun g w ⟨g',e⟩=>⟨fun h=>?_,fun g2 w2 es2 e2 hd=>?_⟩) hg2 hG).elim
    ·obtain⟨_,_,g3,e3,_⟩:=h
     rw[e3] at e
     have:=(GStep.go.inj e).2.2
     simp at this
    ·obtain⟨_,_,g3,e3,_⟩:=h
     rw[e3] at e
     have:=(GStep.go.inj e).2.2
     simp[mk] at this
    ·rw[e] at e2
     have:=(GStep.go.inj e2).2.2
     subst this
     exact(hd.2 _ (by simp:mk .disable∈ #[mk .disable])).2.1 rfl) Z
 refine GoesN.mono (Goes.toN (K:=BoxIs v s d) (fun w w₁ r k=>⟨(r.cell _ (.inr h2)).trans k.1,(r.cell _ (.inr h3)).trans k.2⟩) Z' hb) fun T' g w h=>?_
 obtain⟨rfl,h4,h5⟩:=h
 exact conv_r0 h4 h5 h2 h3
end
end
section
open Go Go.Conc Go.ConcN Go.RowKit Go.Conc.Lib Go.ConcR.Gen Go.ConcN.Gen
open Go.ConcR (KK WgAt stA smA rd wr mk DC0 Payload wgBlock)
section
variable {σ:Type} {C:Fix σ} [Payload] {L:WgLink} {Anc:Nat→(Nat→WV)→(Nat→WState σ)→Goroutine→World→Prop} {T:Terr} {d p n:Nat} {ws:Nat→WV} {st:Nat→WState σ} {g:Goroutine} {w:World}
theorem SW.walk{m:Nat}(h:Goes C.P true (Rely false T) DC0 (fun g w=>SW C Anc T d p n ws st g w) m g w):SW C Anc T d p n ws st g w:=by
 refine .own false (fun e=>by cases e) (fun T' g w=>T'=T∧SW C Anc T d p n ws st g w) ((Goes.toN (K:=fun _=>True) (na:=true) (fun _ _ _ _=>trivial) h trivial).mono fun _ _ _ h=>⟨h.1,h.2.1⟩).toV fun T' g' w' hs=>?_
 obtain⟨rfl,hs⟩:=hs
 exact hs
theorem SW.add'(hs:g.status= .running)(hb:n<2147483646)(h:∀v:Nat,v<2147483647→∃g',(∀w₁,Rely false T w w₁→WgAt C.ty C.Wg w₁ (v*KK) 0→stepG C.P true g w₁= .go g' (w₁.setCell (stA C.Wg) (.int .u64 ((v+1)*KK))) #[rd (stA C.Wg),wr (stA C.Wg)])∧ ∀w₁,Rely false T w w₁→SW C Anc T 1 1 n ws st g' w₁):SW C Anc T 1 0 n ws st g w:=by
 classical
 refine .add (fun v=>if hv:v<2147483647 then Classical.choose (h v hv) else g) hs hb (fun w₁ r v hv hw=>?_) fun v hv w₁ r=>?_
 ·simp only[hv,dite_true];exact(Classical.choose_spec (h v hv)).1 w₁ r hw
 ·simp only[hv,dite_true];exact(Classical.choose_spec (h v hv)).2 w₁ r
variable {b₀:Frame} {a₀:Act} {ops₀:Array Oper} {i₀:Nat} {rest₀:List Nat} {k₀:List Item} {cs:List Frame}
def Way(L:WgLink)(C:Fix σ)(T:Terr)(w0 w:World):Prop:=WgLive L.tWg C.Wg w∧Rely false T w0 w
theorem way_rely(hk:T.kn C.Wg){w0 w w₁:World}(h:Way L C T w0 w)(r:Rely false T w w₁):Way L C T w0 w₁:=⟨wgLive_rely r hk h.1,h.2.trans r⟩
set_option maxRecDepth 100000 in
set_option maxHeartbeats 8000000 in
theorem add_sw(H:WgLib C.P L)(hty:C.ty=L.tWg)(hk:T.kn C.Wg)(hb:n<2147483646){w0:World}(hK:Way L C T w0 w)(kk:∀w₁,Way L C T w0 w₁→SW C Anc T 0 1 n ws st (G (b₀.at (a₀.put ((ops₀[i₀]?).bind (·.dst)) (.tuple #[])) (.inRegion ops₀ rest₀::k₀)) cs) w₁):
  SW C Anc T 0 0 n ws st (G ((base L.add).at ⟨#[.pointer (some ⟨C.Wg,0,none⟩),.int .i64 1]++Array.replicate 115 undef,[]⟩ [.code (body_add L)]) (b₀.at a₀ (.inRegion ops₀ (i₀::rest₀)::k₀)::cs)) w:=by
 have kn:∀{w w₁:World},Way L C T w0 w→Rely false T w w₁→Way L C T w0 w₁:=fun h r=>way_rely hk h r
 lib_facts
 refine SW.walk (m:=30) ?_
 simp only[body_add,addFn,Option.getD_some,Array.replicate,List.replicate,Array.append_eq_append,List.append_toArray,List.cons_append,List.nil_append]
 u_c stepG_seq kn hK
 u_cnd true kn hK
 u_c stepG_seq kn hK
 u_c stepG_seq kn hK
 u_reg kn hK
 u_op kn hK
 u_op kn hK
 u_c stepG_region_end kn hK
 u_cnd false kn hK
 u_c stepG_skip kn hK
 u_c stepG_seq kn hK
 u_reg kn hK
 refine Goes.stop (fun w₁ h₁=>?_)
 replace hK:=kn hK h₁
 clear h₁
 refine .disable _ rfl (fun w₂ r₂=>stepG_mark0 .disable (by simp) rfl rfl (by k_ne) rfl H.f_disable (x_disable_n L) (x_disable_b L) (x_disable_x L) (x_disable_f L)) (fun w₂ r₂=>?_)
 replace hK:=kn hK r₂
 clear r₂
 refine SW.walk (m:=60) ?_
 walk_nrm
 u_c stepG_region_end kn hK
 u_reg kn hK
 u_defer kn hK
 u_c stepG_region_end kn hK
 u_c stepG_seq kn hK
 u_reg kn hK
 u_op kn hK
 u_c stepG_region_end kn hK
 u_c stepG_seq kn hK
 u_c stepG_seq kn hK
 u_reg kn hK
 u_bub kn hK
 u_c stepG_region_end kn hK
 u_cnd false kn hK
 u_c stepG_skip kn hK
 u_c stepG_seq kn hK
 u_reg kn hK
 u_op kn hK
 u_op kn hK
 u_op kn hK
 u_op kn hK
 u_op kn hK
 u_op kn hK
 u_call H.f_uAdd (nm_uAdd L) uAddFn kn hK
 u_c stepG_seq kn hK
 u_reg kn hK
 u_op kn hK
 u_c stepG_region_end kn hK
 u_c stepG_seq kn hK
 u_reg kn hK
 u_op kn hK
 u_op kn hK
 u_op kn hK
 u_op kn hK
 refine Goes.stop (fun w₃ h₃=>?_)
 replace hK:=kn hK h₃
 clear h₃
 refine SW.add' rfl hb fun v hv=>?_
 rcases Nat.eq_zero_or_pos v with rfl|hvp
 ·have z:(((0:Nat):Int)+1)*KK=KK:=by simp
  rw[z]
  have e0:IntKind.u64.wrap (0+4294967296)=KK:=by decide
  refine⟨_,fun w₄ r₄ hw=>by
   have hw':WgAt C.ty C.Wg w₄ 0 0:=by simpa using hw
   exact(stepG_add_atomic rfl rfl (by k_ne) rfl H.f_addU64 (x_addU64_n L) (x_addU64_b L) (x_addU64_x L) .u64 (x_addU64_f L) rfl rfl hw'.cellSt (hw'.thaw 0)).trans (by rw[e0];rfl),fun w₄ r₄=>?_⟩
  replace hK:=kn hK r₄
  clear r₄
  refine SW.walk (m:=110) ?_
  simp only[KK]
  walk_nrm
  u_op kn hK
  u_c stepG_region_end kn hK
  u_c stepG_ret' kn hK
  u_leave1 H.f_uAdd kn hK
  u_op kn hK
  u_c stepG_region_end kn hK
  u_c stepG_seq kn hK
  u_c stepG_seq kn hK
  u_reg kn hK
  u_op kn hK
  u_op kn hK
  u_op kn hK
  u_op kn hK
  u_skip kn hK
  u_skip kn hK
  u_op kn hK
  u_c stepG_region_end kn hK
  u_cnd false kn hK
  u_c stepG_skip kn hK
  u_c stepG_seq kn hK
  u_reg kn hK
  u_op kn hK
  u_op kn hK
  u_op kn hK
  u_op kn hK
  u_c stepG_region_end kn hK
  u_c stepG_seq kn hK
  u_reg kn hK
  u_op kn hK
  u_op kn hK
  u_op kn hK
  u_op kn hK
  u_c stepG_region_end kn hK
  u_c stepG_seq kn hK
  u_c stepG_seq kn hK
  u_reg kn hK
  u_op kn hK
  u_op kn hK
  u_op kn hK
  u_op kn hK
  u_op kn hK
  u_op kn hK
  u_op kn hK
  u_op kn hK
  u_op kn hK
  u_op kn hK
  u_c stepG_region_end kn hK
  u_cnd true kn hK
  u_reg kn hK
  u_op kn hK
  u_op kn hK
  u_op kn hK
  u_in kn hK
  refine goes_oper_k rfl rfl (by k_ne) (fun Kx hKx=>?_)
  have hcv:=run_convert_to_unsafe (P:=C.P) H.underlying_tPU32 H.underlying_tUP H.room_tU32 (WgLive.cell1 hK.1).choose_spec
  have hce:=fun es=>events_convert_to_unsafe (P:=C.P) H.underlying_tPU32 H.underlying_tUP H.room_tU32 (WgLive.cell1 hK.1).choose_spec es
  go_simp
  refine hKx _ _ ⟨?_,?_⟩
  ·u_none
   intro ex hex
   have hmx:=mem_listed hex
   simp[go_sem,hce] at hmx
  clear hKx Kx hcv hce
  refine Goes.stop (fun w₅ h₅=>?_)
  replace hK:=kn hK h₅
  clear h₅
  refine .said _ rfl (fun w₆ r₆=>stepG_markAt .read (by simp) rfl rfl (by k_ne) rfl H.f_raceRead (x_raceRead_n L) (x_raceRead_b L) (x_raceRead_x L) (x_raceRead_f L) (ad:=⟨C.Wg,1,none⟩) (by simp[Act.eval])) (fun w₆ r₆=>?_)
  replace hK:=kn hK r₆
  clear r₆
  refine SW.walk (m:=80) ?_
  walk_nrm
  u_c stepG_region_end kn hK
  u_c stepG_seq kn hK
  u_c stepG_seq kn hK
  u_reg kn hK
  u_op kn hK
  u_op kn hK
  u_c stepG_region_end kn hK
  u_cnd false kn hK
  u_c stepG_skip kn hK
  u_c stepG_seq kn hK
  u_c stepG_seq kn hK
  u_reg kn hK
  u_op kn hK
  u_op kn hK
  u_op kn hK
  u_skip kn hK
  u_skip kn hK
  u_op kn hK
  u_op kn hK
  u_skip kn hK
  u_skip kn hK
  u_skip kn hK
  u_skip kn hK
  u_op kn hK
  u_c stepG_region_end kn hK
  u_cnd false kn hK
  u_c stepG_skip kn hK
  u_c stepG_seq kn hK
  u_c stepG_seq kn hK
  u_reg kn hK
  u_op kn hK
  u_op kn hK
  u_op kn hK
  u_skip kn hK
  u_skip kn hK
  u_op kn hK
  u_c stepG_region_end kn hK
  u_cnd true kn hK
  u_c stepG_ret' kn hK
  refine Goes.stop (fun w₇ h₇=>?_)
  replace hK:=kn hK h₇
  clear h₇
  refine .enable _ rfl (fun w₈ r₈=>stepG_unwind_entry (v:=.tuple #[]) (evs:= #[mk .enable]) rfl H.f_enable (x_enable_n L) (x_enable_b L) (x_enable_x L) (x_enable_f L) (by simp[Extern.Race.none_]) (by simp[mk]) (by simp[mk])) (fun w₈ r₈=>?_)
  replace hK:=kn hK r₈
  clear r₈
  refine SW.walk (m:=3) ?_
  u_leave0 H.f_add kn hK
  exact Goes.stop fun w₉ h₉=>kk _ (kn hK h₉)
 ·obtain⟨V,hV⟩:∃V:Int,V=(v:Int)+1:=⟨_,rfl⟩
  obtain⟨S,hS⟩:∃S:Int,S=V*KK:=⟨_,rfl⟩
  have eS:IntKind.u64.wrap ((v:Int)*KK+4294967296)=S:=by rw[IntKind.wrap_u64,hS,hV];simp only[KK];omega
  rw[←hV,←hS]
  have a1:S/4294967296=V:=by rw[hS];simp only[KK];omega
  have b1:bits .and .u64 S 2147483648=0:=by rw[hS,hV];have:=st_flag (v+1) 0 (by omega) (by omega);simpa[KK] using this
  have b2:bits .and .u64 S 2147483647=0:=by rw[hS,hV];have:=st_waiters (v+1) 0 (by omega) (by omega);simpa[KK] using this
  have c1:IntKind.i32.wrap V=V:=by rw[IntKind.wrap_i32];omega
  have hV1:1<V:=by omega
  have hV2:V<2147483648:=by omega
  have q1:(V==1)=false:=by simp;omega
  have q2:decide (V=1)=false:=decide_eq_false (by omega)
  have q3:decide (V<0)=false:=decide_eq_false (by omega)
  have q4:decide (0<V)=true:=decide_eq_true (by omega)
  have q5:(V==0)=false:=by simp;omega
  have q6:decide (V=0)=false:=decide_eq_false (by omega)
  refine⟨_,fun w₄ r₄ hw=>(stepG_add_atomic rfl rfl (by k_ne) rfl H.f_addU64 (x_addU64_n L) (x_addU64_b L) (x_addU64_x L) .u64 (x_addU64_f L) rfl rfl hw.cellSt (hw.thaw 0)).trans (by rw[eS];rfl),fun w₄ r₄=>?_⟩
  replace hK:=kn hK r₄
  clear r₄ hS hV eS
  refine SW.walk (m:=110) ?_
  walk_nrm
  u_op kn hK
  u_c stepG_region_end kn hK
  u_c stepG_ret' kn hK
  u_leave1 H.f_uAdd kn hK
  u_op kn hK
  u_c stepG_region_end kn hK
  u_c stepG_seq kn hK
  u_c stepG_seq kn hK
  u_reg kn hK
  u_op kn hK
  u_op kn hK
  u_op kn hK
  u_op kn hK
  u_skip kn hK
  u_skip kn hK
  u_op kn hK
  u_c stepG_region_end kn hK
  u_cnd false kn hK
  u_c stepG_skip kn hK
  u_c stepG_seq kn hK
  u_reg kn hK
  u_op kn hK
  u_op kn hK
  u_op kn hK
  u_op kn hK
  u_c stepG_region_end kn hK
  u_c stepG_seq kn hK
  u_reg kn hK
  u_op kn hK
  u_op kn hK
  u_op kn hK
  u_op kn hK
  u_c stepG_region_end kn hK
  u_c stepG_seq kn hK
  u_c stepG_seq kn hK
  u_reg kn hK
  u_op kn hK
  u_op kn hK
  u_op kn hK
  u_op kn hK
  u_op kn hK
  u_op kn hK
  u_op kn hK
  u_op kn hK
  u_op kn hK
  u_op kn hK
  u_c stepG_region_end kn hK
  u_cnd false kn hK
  u_c stepG_skip kn hK
  u_c stepG_seq kn hK
  u_c stepG_seq kn hK
  u_reg kn hK
  u_op kn hK
  u_op kn hK
  u_c stepG_region_end kn hK
  u_cnd false kn hK
  u_c stepG_skip kn hK
  u_c stepG_seq kn hK
  u_c stepG_seq kn hK
  u_reg kn hK
  u_op kn hK
  u_op kn hK
  u_op kn hK
  u_skip kn hK
  u_skip kn hK
  u_op kn hK
  u_op kn hK
  u_skip kn hK
  u_skip kn hK
  u_skip kn hK
  u_skip kn hK
  u_op kn hK
  u_c stepG_region_end kn hK
  u_cnd false kn hK
  u_c stepG_skip kn hK
  u_c stepG_seq kn hK
  u_c stepG_seq kn hK
  u_reg kn hK
  u_op kn hK
  u_op kn hK
  u_op kn hK
  u_skip kn hK
  u_skip kn hK
  u_op kn hK
  u_c stepG_region_end kn hK
  u_cnd true kn hK
  u_c stepG_ret' kn hK
  refine Goes.stop (fun w₇ h₇=>?_)
  replace hK:=kn hK h₇
  clear h₇
  refine .enable _ rfl (fun w₈ r₈=>stepG_unwind_entry (v:=.tuple #[]) (evs:= #[mk .enable]) rfl H.f_enable (x_enable_n L) (x_enable_b L) (x_enable_x L) (x_enable_f L) (by simp[Extern.Race.none_]) (by simp[mk]) (by simp[mk])) (fun w₈ r₈=>?_)
  replace hK:=kn hK r₈
  clear r₈
  refine SW.walk (m:=3) ?_
  u_leave0 H.f_add kn hK
  exact Goes.stop fun w₉ h₉=>kk _ (kn hK h₉)
end
end
section
open Go Go.Conc Go.ConcN Go.RowKit Go.Conc.Lib Go.ConcR.Gen Go.ConcN.Gen
open Go.ConcR (KK WgAt stA smA rd wr mk DC0 Payload wgBlock)
section
variable {σ:Type} {C:Fix σ} [Payload] {L:WgLink} {Anc:Goroutine→World→Prop} {An:Terr→Goroutine→World→Prop} {T:Terr} {g:Goroutine} {w:World}
theorem gw_walk{St:Terr→Goroutine→World→Prop}{m:Nat}(h:Goes C.P true (Rely false T) DC0 (fun g w=>St T g w) m g w):GoesN C.P true false true St m T g w:=
 (Goes.toN (K:=fun _=>True) (na:=true) (fun _ _ _ _=>trivial) h trivial).mono fun _ _ _ h=>h.1▸h.2.1
def Head(L:WgLink)(C:Fix σ)(T:Terr)(w0:World)(c:Frame)(cs:List Frame)(T':Terr)(g:Goroutine)(w:World):Prop:=
 T'=T∧∃X:Array Value,g=G ((base L.wait).at ⟨X,[]⟩ [.code (L7 L),.inLoop (L7 L),.inBlock 0]) (c::cs)∧X.size=84∧X[0]?=some (.pointer (some ⟨C.Wg,0,none⟩))∧Way L C T w0 w
theorem rely_wg{w w':World}{a1 a2 b1 b2:Int}(hTw:∀a:Addr,a.block=C.Wg→¬T.rd (.cell a))(h1:WgAt C.ty C.Wg w a1 a2)(h2:WgAt C.ty C.Wg w' b1 b2)(hs:(∀b,b≠C.Wg→w'.heap[b]?=w.heap[b]?)∧w'.heap.size=w.heap.size∧w'.tape=w.tape∧w'.os=w.os∧w'.output=w.output):Rely false T w w':=by
 obtain⟨s1,s2,s3,s4,s5⟩:=hs
 refine⟨s3,s4,s5,by omega,fun a ha=>?_,fun b o _ ho=>?_,fun r o _ ho hno=>?_,fun _ b hb hl=>?_,fun e=>by cases e⟩
 ·have:a.block≠C.Wg:=fun e=>hTw a e ha
  simp only[World.cell?,s1 _ this]
 ·by_cases e:b=C.Wg
  ·subst e
   rw[show w.heap[C.Wg]?=_ from h1] at ho
   obtain rfl:=Option.some.inj ho
   exact⟨_,h2,_,rfl,rfl,fun _=>⟨_,_,rfl⟩⟩
  ·exact⟨o,(s1 b e).trans ho,.refl o⟩
 ·by_cases e:r=C.Wg
  ·subst e
   rw[show w.heap[C.Wg]?=_ from h1] at ho
   exact absurd (Option.some.inj ho).symm (hno _ _ _)
  ·exact(s1 r e).trans ho
 ·rcases hb with hb|⟨c,e,hb⟩
  ·omega
  ·by_cases e':b=C.Wg
   ·subst e';exact⟨_,_,h2⟩
   ·exact⟨_,_,(s1 b e').trans hb⟩
theorem way_set(hty:C.ty=L.tWg)(hTw:∀a:Addr,a.block=C.Wg→¬T.rd (.cell a)){w0 w:World}{a:Addr}{v:Value}{a1 a2 b1 b2:Int}(ha:a.block=C.Wg)(h:Way L C T w0 w)(h1:WgAt C.ty C.Wg w a1 a2)(h2:WgAt C.ty C.Wg (w.setCell a v) b1 b2):Way L C T w0 (w.setCell a v):=
 ⟨⟨_,_,hty▸h2⟩,h.2.trans (rely_wg hTw h1 h2 (setCell_side ha))⟩
variable {b₀:Frame} {a₀:Act} {ops₀:Array Oper} {i₀:Nat} {rest₀:List Nat} {k₀:List Item} {cs:List Frame}
set_option maxRecDepth 100000 in
set_option maxHeartbeats 8000000 in
theorem wait_start(H:WgLib C.P L)(hk:T.kn C.Wg){w0:World}(hK:Way L C T w0 w):
  GoesN C.P true false true (AtKd C (Head L C T w0 (b₀.at a₀ (.inRegion ops₀ (i₀::rest₀)::k₀)) cs)) 12 T (G ((base L.wait).at ⟨#[.pointer (some ⟨C.Wg,0,none⟩)]++Array.replicate 83 undef,[]⟩ [.code (body_wait L)]) (b₀.at a₀ (.inRegion ops₀ (i₀::rest₀)::k₀)::cs)) w:=by
 have kn:∀{w w₁:World},Way L C T w0 w→Rely false T w w₁→Way L C T w0 w₁:=fun h r=>way_rely hk h r
 lib_facts
 refine gw_walk ?_
 simp only[body_wait,waitFn,Option.getD_some,Array.replicate,List.replicate,Array.append_eq_append,List.append_toArray,List.cons_append,List.nil_append]
 u_c stepG_seq kn hK
 u_cnd true kn hK
 u_reg kn hK
 refine Goes.stop (fun w₁ h₁=>?_)
 replace hK:=kn hK h₁
 clear h₁
 refine⟨rfl,_,stepG_mark0 .disable (by simp) rfl rfl (by k_ne) rfl H.f_disable (x_disable_n L) (x_disable_b L) (x_disable_x L) (x_disable_f L),3,gw_walk ?_⟩
 walk_nrm
 u_c stepG_region_end kn hK
 u_c stepG_block kn hK
 u_c stepG_loop kn hK
 exact Goes.stop (fun w₂ h₂=>⟨rfl,_,rfl,by simp,by simp,kn hK h₂⟩)
set_option maxRecDepth 100000 in
set_option maxHeartbeats 16000000 in
theorem wait_round(H:WgLib C.P L)(hty:C.ty=L.tWg)(hk:T.kn C.Wg)(hTw:∀a:Addr,a.block=C.Wg→¬T.rd (.cell a)){w0:World}(kk:∀w₁,Way L C T w0 w₁→Anc (G (b₀.at (a₀.put ((ops₀[i₀]?).bind (·.dst)) (.tuple #[])) (.inRegion ops₀ rest₀::k₀)) cs) w₁)(T':Terr)(g:Goroutine)(w:World)(h:Head L C T w0 (b₀.at a₀ (.inRegion ops₀ (i₀::rest₀)::k₀)) cs T' g w):
  ∃m,GoesN C.P true false true (AtW1 C Anc (Head L C T w0 (b₀.at a₀ (.inRegion ops₀ (i₀::rest₀)::k₀)) cs)) m T' g w:=by
 have kn:∀{w w₁:World},Way L C T w0 w→Rely false T w w₁→Way L C T w0 w₁:=fun h r=>way_rely hk h r
 lib_facts
 obtain⟨rfl,X,rfl,hX,t0,hK⟩:=h
 obtain⟨v0,v1,v2,v3,v4,v5,v6,v7,v8,v9,v10,v11,v12,v13,v14,v15,v16,v17,v18,v19,v20,v21,v22,v23,v24,v25,v26,v27,v28,v29,v30,v31,v32,v33,v34,v35,v36,v37,v38,v39,v40,v41,v42,v43,v44,v45,v46,v47,v48,v49,v50,v51,v52,v53,v54,v55,v56,v57,v58,v59,v60,v61,v62,v63,v64,v65,v66,v67,v68,v69,v70,v71,v72,v73,v74,v75,v76,v77,v78,v79,v80,v81,v82,v83,rfl⟩:=array84 X hX
 simp only[List.getElem?_toArray,List.getElem?_cons_zero,Option.some.injEq] at t0
 subst t0
 refine⟨30,gw_walk ?_⟩
 simp only[L7,body_wait,waitFn,Option.getD_some]
 u_c stepG_block kn hK
 u_c stepG_seq kn hK
 u_reg kn hK
 u_op kn hK
 u_op kn hK
 u_op kn hK
 u_call H.f_uLoad (nm_uLoad L) uLoadFn kn hK
 u_c stepG_seq kn hK
 u_reg kn hK
 u_op kn hK
 u_c stepG_region_end kn hK
 u_c stepG_seq kn hK
 u_reg kn hK
 u_op kn hK
 u_op kn hK
 u_op kn hK
 refine Goes.stop (fun w₁ h₁=>?_)
 replace hK:=kn hK h₁
 clear h₁
 refine⟨rfl,fun v hv hw=>?_⟩
 rcases Nat.eq_zero_or_pos v with rfl|hvp
 ·replace hw:WgAt C.ty C.Wg w₁ 0 0:=by simpa using hw
  refine⟨_,stepG_load_atomic (v:=0) rfl rfl (by k_ne) rfl H.f_loadU64 (x_loadU64_n L) (x_loadU64_b L) (x_loadU64_x L) .u64 (x_loadU64_f L) rfl hw.cellSt,fun _=>⟨50,gw_walk ?_⟩,fun h=>absurd rfl h⟩
  clear hw
  walk_nrm
  u_op kn hK
  u_c stepG_region_end kn hK
  u_c stepG_ret' kn hK
  u_leave1 H.f_uLoad kn hK
  u_op kn hK
  u_c stepG_region_end kn hK
  u_c stepG_seq kn hK
  u_reg kn hK
  u_op kn hK
  u_op kn hK
  u_op kn hK
  u_op kn hK
  u_c stepG_region_end kn hK
  u_c stepG_seq kn hK
  u_reg kn hK
  u_op kn hK
  u_op kn hK
  u_op kn hK
  u_op kn hK
  u_c stepG_region_end kn hK
  u_c stepG_seq kn hK
  u_c stepG_seq kn hK
  u_reg kn hK
  u_op kn hK
  u_op kn hK
  u_c stepG_region_end kn hK
  u_cnd true kn hK
  u_c stepG_seq kn hK
  u_cnd true kn hK
  u_c stepG_seq kn hK
  u_reg kn hK
  refine Goes.stop (fun w₆ h₆=>?_)
  replace hK:=kn hK h₆
  clear h₆
  refine⟨rfl,_,stepG_mark0 .enable (by simp) rfl rfl (by k_ne) rfl H.f_enable (x_enable_n L) (x_enable_b L) (x_enable_x L) (x_enable_f L),20,gw_walk ?_⟩
  walk_nrm
  u_c stepG_region_end kn hK
  u_reg kn hK
  u_op kn hK
  u_in kn hK
  refine goes_oper_k rfl rfl (by k_ne) (fun Kx hKx=>?_)
  have hcv:=run_convert_to_unsafe (P:=C.P) H.underlying_tWgP H.underlying_tUP H.room_tWg (WgLive.cell0 hK.1).choose_spec
  have hce:=fun es=>events_convert_to_unsafe (P:=C.P) H.underlying_tWgP H.underlying_tUP H.room_tWg (WgLive.cell0 hK.1).choose_spec es
  go_simp
  refine hKx _ _ ⟨?_,?_⟩
  ·u_none
   intro ex hex
   have hmx:=mem_listed hex
   simp[go_sem,hce] at hmx
  clear hKx Kx hcv hce
  refine Goes.stop (fun w₇ h₇=>?_)
  replace hK:=kn hK h₇
  clear h₇
  refine⟨rfl,_,stepG_markAt .acquire (by simp) rfl rfl (by k_ne) rfl H.f_acquire (x_acquire_n L) (x_acquire_b L) (x_acquire_x L) (x_acquire_f L) (by simp[Act.eval,stA]),20,gw_walk ?_⟩
  walk_nrm
  u_c stepG_region_end kn hK
  u_c stepG_seq kn hK
  u_c stepG_seq kn hK
  u_reg kn hK
  u_op kn hK
  u_op kn hK
  u_op kn hK
  u_op kn hK
  u_op kn hK
  u_op kn hK
  u_op kn hK
  u_op kn hK
  u_skip kn hK
  u_skip kn hK
  u_op kn hK
  u_c stepG_region_end kn hK
  u_cnd false kn hK
  u_c stepG_skip kn hK
  u_c stepG_ret' kn hK
  u_leave0 H.f_wait kn hK
  exact Goes.stop fun w₈ h₈=>⟨rfl,kk _ (kn hK h₈)⟩
 ·obtain⟨S,hS⟩:∃S:Int,(v:Int)*KK=S:=⟨_,rfl⟩
  have a1:S/4294967296=(v:Int):=by rw[←hS];simp only[KK];omega
  have b1:bits .and .u64 S 2147483648=0:=by rw[←hS];have:=st_flag v 0 (by omega) (by omega);simpa[KK] using this
  have b2:bits .and .u64 S 2147483647=0:=by rw[←hS];have:=st_waiters v 0 (by omega) (by omega);simpa[KK] using this
  have c1:IntKind.i32.wrap (v:Int)=(v:Int):=by rw[IntKind.wrap_i32];omega
  have w1:IntKind.u64.wrap (S+1)=S+1:=by rw[IntKind.wrap_u64,←hS];simp only[KK];omega
  have q3:decide ((v:Int)<0)=false:=decide_eq_false (by omega)
  have q4:decide (0<(v:Int))=true:=decide_eq_true (by omega)
  have q5:((v:Int)==0)=false:=by simp;omega
  have q6:decide ((v:Int)=0)=false:=decide_eq_false (by omega)
  rw[hS] at hw
  refine⟨_,stepG_load_atomic (v:=S) rfl rfl (by k_ne) rfl H.f_loadU64 (x_loadU64_n L) (x_loadU64_b L) (x_loadU64_x L) .u64 (x_loadU64_f L) rfl hw.cellSt,fun h0=>absurd h0 (by omega),fun _=>⟨60,gw_walk ?_⟩⟩
  clear hw
  walk_nrm
  u_op kn hK
  u_c stepG_region_end kn hK
  u_c stepG_ret' kn hK
  u_leave1 H.f_uLoad kn hK
  u_op kn hK
  u_c stepG_region_end kn hK
  u_c stepG_seq kn hK
  u_reg kn hK
  u_op kn hK
  u_op kn hK
  u_op kn hK
  u_op kn hK
  u_c stepG_region_end kn hK
  u_c stepG_seq kn hK
  u_reg kn hK
  u_op kn hK
  u_op kn hK
  u_op kn hK
  u_op kn hK
  u_c stepG_region_end kn hK
  u_c stepG_seq kn hK
  u_c stepG_seq kn hK
  u_reg kn hK
  u_op kn hK
  u_op kn hK
  u_c stepG_region_end kn hK
  u_cnd false kn hK
  u_c stepG_skip kn hK
  u_c stepG_seq kn hK
  u_reg kn hK
  u_op kn hK
  u_op kn hK
  u_op kn hK
  u_op kn hK
  u_op kn hK
  u_op kn hK
  u_call H.f_uCas (nm_uCas L) uCasFn kn hK
  u_c stepG_seq kn hK
  u_reg kn hK
  u_op kn hK
  u_c stepG_region_end kn hK
  u_c stepG_seq kn hK
  u_reg kn hK
  u_op kn hK
  u_op kn hK
  u_op kn hK
  u_op kn hK
  u_op kn hK
  refine Goes.stop (fun w₂ h₂=>?_)
  replace hK:=kn hK h₂
  clear h₂
  refine⟨rfl,fun v' hv' hw=>⟨fun e=>?_,fun e=>?_⟩⟩
  ·subst e
   rw[hS] at hw⊢
   refine⟨_,(stepG_cas_hit (v:=S) (n:=S+1) rfl rfl (by k_ne) rfl H.f_casU64 (x_casU64_n L) (x_casU64_b L) (x_casU64_x L) .u64 (x_casU64_f L) rfl rfl rfl hw.cellSt (hw.thaw 0)).trans (by rfl),70,gw_walk ?_⟩
   replace hK:Way L C T' w0 (w₂.setCell (stA C.Wg) (.int .u64 (S+1))):=way_set hty hTw rfl hK hw (hw.setSt _)
   clear hw
   walk_nrm
   u_op kn hK
   u_c stepG_region_end kn hK
   u_c stepG_ret' kn hK
   u_leave1 H.f_uCas kn hK
   u_c stepG_region_end kn hK
   u_cnd true kn hK
   u_c stepG_seq kn hK
   u_c stepG_seq kn hK
   u_reg kn hK
   u_op kn hK
   u_op kn hK
   u_op kn hK
   u_op kn hK
   u_c stepG_region_end kn hK
   u_cnd true kn hK
   u_reg kn hK
   u_op kn hK
   u_op kn hK
   u_op kn hK
   u_in kn hK
   refine goes_oper_k rfl rfl (by k_ne) (fun Kx hKx=>?_)
   have hcv:=run_convert_to_unsafe (P:=C.P) H.underlying_tPU32 H.underlying_tUP H.room_tU32 (WgLive.cell1 hK.1).choose_spec
   have hce:=fun es=>events_convert_to_unsafe (P:=C.P) H.underlying_tPU32 H.underlying_tUP H.room_tU32 (WgLive.cell1 hK.1).choose_spec es
   go_simp
   refine hKx _ _ ⟨?_,?_⟩
   ·u_none
    intro ex hex
    have hmx:=mem_listed hex
    simp[go_sem,hce] at hmx
   clear hKx Kx hcv hce
   refine Goes.stop (fun w₃ h₃=>?_)
   replace hK:=kn hK h₃
   clear h₃
   refine⟨rfl,_,stepG_markAt .write (by simp) rfl rfl (by k_ne) rfl H.f_raceWrite (x_raceWrite_n L) (x_raceWrite_b L) (x_raceWrite_x L) (x_raceWrite_f L) (ad:=⟨_,1,none⟩) (by simp[Act.eval]<;>rfl),40,gw_walk ?_⟩
   walk_nrm
   u_c stepG_region_end kn hK
   u_c stepG_seq kn hK
   u_reg kn hK
   u_op kn hK
   u_c stepG_region_end kn hK
   u_c stepG_seq kn hK
   u_c stepG_seq kn hK
   u_reg kn hK
   u_op kn hK
   u_op kn hK
   u_op kn hK
   u_op kn hK
   u_skip kn hK
   u_op kn hK
   u_c stepG_region_end kn hK
   u_cnd false kn hK
   u_c stepG_skip kn hK
   u_c stepG_seq kn hK
   u_reg kn hK
   u_op kn hK
   u_op kn hK
   u_op kn hK
   u_op kn hK
   refine Goes.stop (fun w₄ h₄=>?_)
   replace hK:=kn hK h₄
   clear h₄
   refine⟨rfl,rfl,fun⟨st,hw⟩=>stepG_semacquire_wait rfl rfl rfl H.f_semacquire (x_semacquire_n L) (x_semacquire_b L) (x_semacquire_x L) (x_semacquire_f L) (by simp[Act.eval,smA]) hw.cellSm,fun hf=>?_⟩
   refine⟨_,(stepG_semacquire (n:=1) rfl rfl (by k_ne) rfl H.f_semacquire (x_semacquire_n L) (x_semacquire_b L) (x_semacquire_x L) (x_semacquire_f L) (by simp[Act.eval,smA]) hf.cellSm (by k_ne) (hf.thaw 1)).trans (by rfl),30,gw_walk ?_⟩
   replace hK:Way L C T' w0 (w₄.setCell (smA C.Wg) (.int .u32 0)):=way_set hty hTw rfl hK hf (hf.setSm 0)
   clear hf
   walk_nrm
   u_c stepG_region_end kn hK
   u_c stepG_seq kn hK
   u_reg kn hK
   u_op kn hK
   u_op kn hK
   u_op kn hK
   u_call H.f_uLoad (nm_uLoad L) uLoadFn kn hK
   u_c stepG_seq kn hK
   u_reg kn hK
   u_op kn hK
   u_c stepG_region_end kn hK
   u_c stepG_seq kn hK
   u_reg kn hK
   u_op kn hK
   u_op kn hK
   u_op kn hK
   refine Goes.stop (fun w₅ h₅=>?_)
   replace hK:=kn hK h₅
   clear h₅
   refine⟨rfl,fun hw=>⟨_,stepG_load_atomic (v:=0) rfl rfl (by k_ne) rfl H.f_loadU64 (x_loadU64_n L) (x_loadU64_b L) (x_loadU64_x L) .u64 (x_loadU64_f L) rfl hw.cellSt,30,gw_walk ?_⟩⟩
   clear hw
   walk_nrm
   u_op kn hK
   u_c stepG_region_end kn hK
   u_c stepG_ret' kn hK
   u_leave1 H.f_uLoad kn hK
   u_op kn hK
   u_op kn hK
   u_c stepG_region_end kn hK
   u_c stepG_seq kn hK
   u_cnd true kn hK
   u_c stepG_seq kn hK
   u_reg kn hK
   refine Goes.stop (fun w₆ h₆=>?_)
   replace hK:=kn hK h₆
   clear h₆
   refine⟨rfl,_,stepG_mark0 .enable (by simp) rfl rfl (by k_ne) rfl H.f_enable (x_enable_n L) (x_enable_b L) (x_enable_x L) (x_enable_f L),20,gw_walk ?_⟩
   walk_nrm
   u_c stepG_region_end kn hK
   u_reg kn hK
   u_op kn hK
   u_in kn hK
   refine goes_oper_k rfl rfl (by k_ne) (fun Kx hKx=>?_)
   have hcv:=run_convert_to_unsafe (P:=C.P) H.underlying_tWgP H.underlying_tUP H.room_tWg (WgLive.cell0 hK.1).choose_spec
   have hce:=fun es=>events_convert_to_unsafe (P:=C.P) H.underlying_tWgP H.underlying_tUP H.room_tWg (WgLive.cell0 hK.1).choose_spec es
   go_simp
   refine hKx _ _ ⟨?_,?_⟩
   ·u_none
    intro ex hex
    have hmx:=mem_listed hex
    simp[go_sem,hce] at hmx
   clear hKx Kx hcv hce
   refine Goes.stop (fun w₇ h₇=>?_)
   replace hK:=kn hK h₇
   clear h₇
   refine⟨rfl,_,stepG_markAt .acquire (by simp) rfl rfl (by k_ne) rfl H.f_acquire (x_acquire_n L) (x_acquire_b L) (x_acquire_x L) (x_acquire_f L) (by simp[Act.eval,stA]),20,gw_walk ?_⟩
   walk_nrm
   u_c stepG_region_end kn hK
   u_c stepG_seq kn hK
   u_c stepG_seq kn hK
   u_reg kn hK
   u_op kn hK
   u_c stepG_region_end kn hK
   u_cnd false kn hK
   u_c stepG_skip kn hK
   u_c stepG_ret' kn hK
   u_leave0 H.f_wait kn hK
   exact Goes.stop fun w₈ h₈=>⟨rfl,kk _ (kn hK h₈)⟩
  ·refine⟨_,stepG_cas_miss (v:=(v':Int)*KK) (old:=S) (n:=S+1) rfl rfl (by k_ne) rfl H.f_casU64 (x_casU64_n L) (x_casU64_b L) (x_casU64_x L) .u64 (x_casU64_f L) rfl rfl rfl hw.cellSt (hw.thaw 0) (by rw[←hS];simp only[KK];omega),20,gw_walk ?_⟩
   clear hw
   walk_nrm
   u_op kn hK
   u_c stepG_region_end kn hK
   u_c stepG_ret' kn hK
   u_leave1 H.f_uCas kn hK
   u_c stepG_region_end kn hK
   u_cnd false kn hK
   u_c stepG_skip kn hK
   u_c stepG_inBlock kn hK
   u_c stepG_inLoop kn hK
   refine Goes.stop (fun w₃ h₃=>?_)
   exact⟨rfl,_,rfl,by simp,by simp,kn hK h₃⟩
end
end
section
open Go
structure OpV where
 kind:Int
 chan:Int
 val:Int
 eith:Value
def OpV.value(o:OpV):Value:=.agg #[.int .i64 o.kind,.int .i64 o.chan,.int .i64 o.val,o.eith]
structure Wk where
 rest:List OpV
 sum:Int
 off:Option Int
def adds:List OpV→Int→List OpV×Int
 |[],z=>([],z)
 |o::l,z=>if o.kind=4 then adds l (IntKind.i64.wrap (z+o.val)) else(o::l,z)
def Wk.nxt(s:Wk):Option (Value×Wk):=
 match adds s.rest s.sum with
 |([],_)=>none
 |(o::l,z)=>some (o.value,⟨l,z,some o.kind⟩)
def Wk.ans(s:Wk)(v:Int):Wk:=⟨s.rest,if s.off=some 1 then s.sum else IntKind.i64.wrap (s.sum+v),none⟩
def Wk.all(s:Wk):Int:=match s.off with|some _=>s.sum|none=>(adds s.rest s.sum).2
theorem adds_add{o:OpV}{l:List OpV}{z:Int}(h:o.kind=4):adds (o::l) z=adds l (IntKind.i64.wrap (z+o.val)):=by simp[adds,h]
theorem adds_other{o:OpV}{l:List OpV}{z:Int}(h:o.kind≠4):adds (o::l) z=(o::l,z):=by simp[adds,h]
end
section
open Go Go.Conc
def orders(md:Region.Mode)(ops:Array Oper):Nat→Array Bool→List Nat→List (List Nat)
 |0,_,acc=>[acc.reverse]
 |f+1,listed,acc=>
  match Region.ready md ops listed with
  |[]=>[acc.reverse]
  |i::is=>(i::is).flatMap fun j=>orders md ops f (listed.setIfInBounds j true) (j::acc)
theorem go_mem(md:Region.Mode)(ops:Array Oper):∀(f t:Nat) (listed:Array Bool) (acc:List Nat),Region.linearise.go md ops f t listed acc∈orders md ops f listed acc
 |0,_,_,acc=>by simp[Region.linearise.go,orders]
 |f+1,t,listed,acc=>by
  simp only[Region.linearise.go,orders]
  change (match (Region.ready md ops listed)[t%(Region.ready md ops listed).length]? with
   |some i=>Region.linearise.go md ops f (t/(Region.ready md ops listed).length) (listed.setIfInBounds i true) (i::acc)
   |none=>acc.reverse)∈_
  cases hr:Region.ready md ops listed with
  |nil=>simp
  |cons i is=>
   have hlt:t%(i::is).length<(i::is).length:=Nat.mod_lt _ (by simp)
   rw[List.getElem?_eq_getElem hlt]
   exact List.mem_flatMap.2 ⟨_,List.getElem_mem hlt,go_mem md ops f _ _ _⟩
theorem schedule_mem(ops:Array Oper)(t:Nat):Region.schedule true ops t∈orders .any ops ops.size (Array.replicate ops.size false) []:=by
 simp only[Region.schedule,Bool.true_or,if_true,Region.linearise]
 exact go_mem .any ops _ _ _ _
end
end Go.Side
