/-
  Texts of Ytbjlijagheifgaa, merged.
-/
import Derived.Test.YtbjlijagheifgaaD17
set_option linter.unusedSimpArgs false
set_option linter.unusedVariables false
namespace Go.Side
section
open Go Go.Conc
def codePlain(ob:Bool)(fn:Option FuncId)(P:Program)(L:Fns):Code→Bool
 | .skip| .exit _| .ret| .refuse _=>true
 | .region _ ops _=>ops.all (opPlain ob fn P L)
 | .seq a b| .cond _ a b=>codePlain ob fn P L a&&codePlain ob fn P L b
 | .block _ c| .loop c=>codePlain ob fn P L c
 |_=>false
def itemPlain(ob:Bool)(fn:Option FuncId)(P:Program)(L:Fns):Item→Bool
 | .code c| .inLoop c=>codePlain ob fn P L c
 | .inBlock _=>true
 | .inRegion ops todo=>todo.all fun i=>(ops[i]?).all (opPlain ob fn P L)
 |_=>false
inductive Local where
 |run (a:Act) (items:List Item)
 |ret
 |panic (chain:List PanicEntry)
 |enter (f:FuncId) (args:Array Value)
def Local.plug(P:Program)(b:Frame)(a:Act)(todo:List Item)(k:List Item)(cs:List Frame):Local→Goroutine
 | .run a' items'=>G (b.at a' (items'++k)) cs
 | .ret=>G {b.at a (todo++k) with mode:=.returning} cs
 | .panic chain=>G {b.at a (todo++k) with mode:=.panicking chain} cs
 | .enter f args=>G (Frame.enter P f args .normal) (b.at a (todo++k)::cs)
def Dead(k:List Item):Prop:=∀id,exitTo id k=none
theorem mem_seen{P:Program}{fn:FuncId}{es:Array Event}{e:Event}(h:e∈seen P fn es):e∈es:=by
 have key:∀(l:List Event) (f:Bool×Array Event→Event→Bool×Array Event) (x:Bool×Array Event),(∀x e e',e'∈(f x e).2→e'∈x.2∨e'=e)→∀e',e'∈(l.foldl f x).2→e'∈x.2∨e'∈l:=by
  intro l
  induction l with
  |nil=>intro f x _ e' h;exact .inl h
  |cons a l ih=>
   intro f x hf e' h
   rw[List.foldl_cons] at h
   rcases ih f _ hf e' h with h|h
   ·rcases hf _ _ _ h with h|h
    ·exact .inl h
    ·exact .inr (by simp[h])
   ·exact .inr (by simp[h])
 dsimp only[seen] at h
 rw[←Array.foldl_toList] at h
 refine(key _ _ _ ?_ e h).elim (fun h=>by simp at h) (fun h=>Array.mem_toList_iff.1 h)
 rintro⟨q,kept⟩ a e' he
 dsimp only at he⊢
 split at he
 ·exact .inl he
 ·dsimp only at he
  split at he
  ·exact .inl he
  ·rcases Array.mem_push.1 he with h|h
   ·exact .inl h
   ·exact .inr h
theorem exitTo_append(id:Nat):∀(items k:List Item),exitTo id (items++k)=match exitTo id items with|some r=>some (r++k)|none=>exitTo id k
 |[],k=>rfl
 |x::items,k=>by
  have ih:=exitTo_append id items k
  cases x with
  |inBlock id'=>
   simp only[List.cons_append,exitTo]
   by_cases h:(id'==id)=true
   ·simp[h]
   ·simp only[h,Bool.false_eq_true,if_false];exact ih
  |_=>exact ih
theorem exitTo_sub{ob:Bool}{fn:Option FuncId}{P:Program}{L:Fns}{id:Nat}:∀{items r:List Item},exitTo id items=some r→(∀x∈items,itemPlain ob fn P L x=true)→∀x∈r,itemPlain ob fn P L x=true
 |[],r,h,_=>by cases h
 |y::items,r,h,hp=>by
  have hp':∀x∈items,itemPlain ob fn P L x=true:=fun x hx=>hp x (List.mem_cons_of_mem _ hx)
  cases y with
  |inBlock id'=>
   simp only[exitTo] at h
   by_cases hid:(id'==id)=true
   ·simp only[hid,if_true,Option.some.injEq] at h
    exact h▸hp'
   ·simp only[hid,Bool.false_eq_true,if_false] at h
    exact exitTo_sub h hp'
  |_=>exact exitTo_sub (items:=items) h hp'
section
variable {P:Program} {b:Frame} {a:Act} {k:List Item} {cs:List Frame} {w w':World} {ops:Array Oper} {i:Nat} {rest:List Nat} {o:Oper} {es:Array Event}
def keptEvs(P:Program)(b:Frame)(es:Array Event):Array Event:=seen P b.fn (if b.kind== .early then #[] else es)
theorem stepG_shut(h:((ops[i]?).map (Region.wanted · (yielded ops a.tmps))).getD false=false):
  stepG P true (G (b.at a (.inRegion ops (i::rest)::k)) cs) w= .go (G (b.at (a.put ((ops[i]?).bind (·.dst)) undef) (.inRegion ops rest::k)) cs) w #[]:=by
 rw[←Frame.finish_at]
 have h':=h
 simp only[Frame.at] at*
 simp[G,stepG,stepG.exec,h']
theorem apply_value{v:Value}(ho:ops[i]?=some o)(hw:Region.wanted o (yielded ops a.tmps)=true)(hr:(execOp a.eval o).runT P w #[]=(.ok (.value v) w',es)):
  stepG P true (G (b.at a (.inRegion ops (i::rest)::k)) cs) w= .go (G (b.at (a.put o.dst v) (.inRegion ops rest::k)) cs) w' (keptEvs P b es):=by
 have hfin:(b.at a (.inRegion ops (i::rest)::k)).finish v=b.at (a.put o.dst v) (.inRegion ops rest::k):=by rw[Frame.finish_at,ho];rfl
 rw[stepG_oper ho hw]
 simp only[stepG.apply,hr,if_true]
 rw[hfin]
 simp[GStep.after,keptEvs,G,Frame.at]
theorem apply_skip(ho:ops[i]?=some o)(hw:Region.wanted o (yielded ops a.tmps)=true)(hr:(execOp a.eval o).runT P w #[]=(.ok .skip w',es)):
  stepG P true (G (b.at a (.inRegion ops (i::rest)::k)) cs) w= .go (G (b.at (a.put o.dst undef) (.inRegion ops rest::k)) cs) w' (keptEvs P b es):=by
 have hfin:(b.at a (.inRegion ops (i::rest)::k)).finish undef=b.at (a.put o.dst undef) (.inRegion ops rest::k):=by rw[Frame.finish_at,ho];rfl
 rw[stepG_oper ho hw]
 simp only[stepG.apply,hr,if_true]
 rw[hfin]
 simp[GStep.after,keptEvs,G,Frame.at]
theorem apply_enter{f:FuncId}{args:Array Value}(ho:ops[i]?=some o)(hw:Region.wanted o (yielded ops a.tmps)=true)(hr:(execOp a.eval o).runT P w #[]=(.ok (.enter f args) w',es)):
  stepG P true (G (b.at a (.inRegion ops (i::rest)::k)) cs) w= .go (G (Frame.enter P f args .normal) (b.at a (.inRegion ops (i::rest)::k)::cs)) w' (keptEvs P b es):=by
 rw[stepG_oper ho hw]
 simp only[stepG.apply,hr,if_true]
 simp[GStep.after,keptEvs,G,Frame.at]
theorem apply_panic{v:Value}(ho:ops[i]?=some o)(hw:Region.wanted o (yielded ops a.tmps)=true)(hr:(execOp a.eval o).runT P w #[]=(.halt (.panic v) w',es)):
  stepG P true (G (b.at a (.inRegion ops (i::rest)::k)) cs) w= .go (G {b.at a (.inRegion ops (i::rest)::k) with mode:=.panicking [{v,recovered:=false}]} cs) w' (keptEvs P b es):=by
 rw[stepG_oper ho hw]
 simp only[stepG.apply,hr,if_true]
 simp[GStep.after,keptEvs,G,Frame.at,Frame.raise]
end
def AtCall(fn:Option FuncId)(L:Fns)(items:List Item):Prop:=∃ops i rest r,items= .inRegion ops (i::rest)::r∧∀d,(ops[i]?).bind (·.dst)=some d→L.own fn d=false
theorem SlotsA.put{fn:Option FuncId}{L:Fns}{a:Act}(h:SlotsA fn L a){d:Option Tmp}{v:Value}(hv:∀e,d=some e→L.own fn e=true→okFn L.dl v):SlotsA fn L (a.put d v):=by
 intro e he
 cases d with
 |none=>exact h e he
 |some d=>
  show okFn L.dl ((a.tmps.setIfInBounds d v).getD e undef)
  rw[Array.getD_eq_getD_getElem?,Array.getElem?_setIfInBounds]
  split
  ·rename_i hde
   subst hde
   split
   ·exact hv d rfl he
   ·exact okFn_undef
  ·rw[←Array.getD_eq_getD_getElem?]
   exact h e he
theorem AtCall.slots{fn:Option FuncId}{L:Fns}{a:Act}{ops:Array Oper}{i:Nat}(h:∀d,(ops[i]?).bind (·.dst)=some d→L.own fn d=false)(hA:SlotsA fn L a)(v:Value):SlotsA fn L (a.put ((ops[i]?).bind (·.dst)) v):=
 hA.put fun e he hs=>by rw[h e he] at hs;cases hs
def LocalOK(ob:Bool)(fn:Option FuncId)(P:Program)(L:Fns)(a:Act)(items:List Item):Local→Prop
 | .run a' items'=>(∀x∈items',itemPlain ob fn P L x=true)∧a'.defers=a.defers∧SlotsA fn L a'
 | .enter f args=>f∈L.l∧SlotsF f L args∧AtCall fn L items
 |_=>True
def Settled(P:Program):Prop:=P.follows .staticDataAhead=true∧∀g,P.stepOf g=none
section
variable {ob:Bool} {fn:Option FuncId} {P:Program} {L:Fns} {H:Nat→Prop} {b:Frame} {a:Act} {items:List Item} {w w₀:World}
theorem Tied.refl{w w₂:World}(L:Like H w w₂):Tied ob H 0 w w₂ w w₂:=⟨L,rfl,rfl,rfl,rfl,Nat.le_refl _,rfl,rfl,fun _ _=>rfl,fun _ _ _ h _=>h⟩
def StepsL(ob:Bool)(P:Program)(H:Nat→Prop)(OK:Local→Prop)(b:Frame)(a:Act)(items:List Item)(w:World):Prop:=
 (∃n,∀w₂,Like H w w₂→Agree n w w₂→∀k cs,Dead k→∃o u es,stepG P true (G (b.at a (items++k)) cs) w₂= .ended o u es)∨
 ∃n R w' es,OK R∧(∀k cs,stepG P true (G (b.at a (items++k)) cs) w= .go (R.plug P b a items k cs) w' es)∧(∀e∈es,EvP ob H w'.heap.size e)∧
  ∀w₂,Like H w w₂→Agree n w w₂→(∀k cs,∃o u es,stepG P true (G (b.at a (items++k)) cs) w₂= .ended o u es)∨
   ∃u₂ es₂,(∀k cs,stepG P true (G (b.at a (items++k)) cs) w₂= .go (R.plug P b a items k cs) u₂ es₂)∧Tied ob H n w w₂ w' u₂
theorem StepsL.mono{OK OK':Local→Prop}(h:StepsL ob P H OK b a items w)(k:∀R,OK R→OK' R):StepsL ob P H OK' b a items w:=
 h.imp id fun⟨n,R,w',es,hR,r⟩=>⟨n,R,w',es,k R hR,r⟩
abbrev StepsAs(ob:Bool)(fn:Option FuncId)(P:Program)(L:Fns)(H:Nat→Prop)(b:Frame)(a:Act)(items:List Item)(w:World):Prop:=StepsL ob P H (LocalOK ob fn P L a items) b a items w
theorem StepsAs.free{R:Local}(hR:LocalOK ob fn P L a items R)(h:∀(w:World) k cs,stepG P true (G (b.at a (items++k)) cs) w= .go (R.plug P b a items k cs) w #[]):StepsAs ob fn P L H b a items w:=
 .inr ⟨0,R,w,#[],hR,h w,by simp,fun w₂ L _=>.inr ⟨w₂,#[],h w₂,.refl L⟩⟩
theorem StepsAs.dead(h:∀(w:World) k cs,Dead k→∃o u es,stepG P true (G (b.at a (items++k)) cs) w= .ended o u es):StepsAs ob fn P L H b a items w:=
 .inl ⟨0,fun w₂ _ _=>h w₂⟩
theorem oper_ended(hs:Settled P){ops:Array Oper}{i:Nat}{rest:List Nat}{o:Oper}{k:List Item}{cs:List Frame}{w u:World}{es:Array Event}{h:Halt}(ho:ops[i]?=some o)(hw:Region.wanted o (yielded ops a.tmps)=true)(hr:(execOp a.eval o).runT P w #[]=(.halt h u,es))(hd:Dud h):∃o u es,stepG P true (G (b.at a (.inRegion ops (i::rest)::k)) cs) w= .ended o u es:=by
 rw[stepG_oper ho hw]
 simp only[stepG.apply,hr,if_true]
 cases h with
 |unsupported x=>
  cases x<;>first
   |exact⟨_,_,_,rfl⟩
   |(simp only[early,hs.1,hs.2,Bool.not_true,Bool.false_eq_true,if_false];exact⟨_,_,_,rfl⟩)
 |stuck s=>exact⟨_,_,_,rfl⟩
 |_=>exact hd.elim
def OneOK(fn:Option FuncId)(L:Fns)(a:Act)(items items':List Item):Local→Prop
 | .run a' l=>l=items'∧a'.defers=a.defers∧SlotsA fn L a'
 | .enter f args=>f∈L.l∧SlotsF f L args∧AtCall fn L items
 |_=>True
theorem step_one(hs:Settled P)(K:L.OK P){ops:Array Oper}{i:Nat}{rest:List Nat}{r:List Item}(hp:(ops[i]?).all (opPlain ob fn P L)=true)(hA:SlotsA fn L a)(L₀:Like H w w₀):StepsL ob P H (OneOK fn L a (.inRegion ops (i::rest)::r) (.inRegion ops rest::r)) b a (.inRegion ops (i::rest)::r) w:=by
 by_cases hwt:((ops[i]?).map (Region.wanted · (yielded ops a.tmps))).getD false=true
 ·obtain⟨o,ho,hw⟩:∃o,ops[i]?=some o∧Region.wanted o (yielded ops a.tmps)=true:=by
   cases ho:ops[i]? with
   |none=>simp[ho] at hwt
   |some o=>exact⟨o,rfl,by simpa[ho] using hwt⟩
  have hop:opPlain ob fn P L o=true:=by
   simpa[ho] using hp
  have pl:=plain_op (ob:=ob) (P:=P) hop K a hA
  obtain⟨n,hn⟩:=couple (H:=H) pl w #[] w₀ L₀
  have dud:∀{w₂:World},Fits ob H n w w₂ #[] ((execOp a.eval o).runT P w #[]) ((execOp a.eval o).runT P w₂ #[])→
    (∃h u es,(execOp a.eval o).runT P w₂ #[]=(.halt h u,es)∧Dud h)∨(∃x u u₂ es,(execOp a.eval o).runT P w #[]=(.ok x u,es)∧(execOp a.eval o).runT P w₂ #[]=(.ok x u₂,es)∧Tied ob H n w w₂ u u₂∧Evs ob H u.heap.size #[] es)∨
    (∃v u u₂ es,(execOp a.eval o).runT P w #[]=(.halt (.panic v) u,es)∧(execOp a.eval o).runT P w₂ #[]=(.halt (.panic v) u₂,es)∧Tied ob H n w w₂ u u₂∧Evs ob H u.heap.size #[] es):=by
   intro w₂ hf
   generalize(execOp a.eval o).runT P w #[]=r1 at hf⊢
   generalize(execOp a.eval o).runT P w₂ #[]=r2 at hf⊢
   match r2,hf with
   |(.ok x u₂,es),⟨u,e,t,hv⟩=>exact .inr (.inl ⟨x,u,u₂,es,e,rfl,t,hv⟩)
   |(.halt (.panic v) u₂,es),⟨u,e,t,hv⟩=>exact .inr (.inr ⟨v,u,u₂,es,e,rfl,t,hv⟩)
   |(.halt (.unsupported x) u₂,es),hf=>exact .inl ⟨_,_,_,rfl,hf⟩
   |(.halt (.stuck x) u₂,es),hf=>exact .inl ⟨_,_,_,rfl,hf⟩
   |(.halt .blocked u₂,es),hf=>exact hf.elim
   |(.halt .waiting u₂,es),hf=>exact hf.elim
   |(.halt (.exit _) u₂,es),hf=>exact hf.elim
   |(.halt (.fatal _) u₂,es),hf=>exact hf.elim
   |(.halt (.throw _) u₂,es),hf=>exact hf.elim
   |(.halt .goexit u₂,es),hf=>exact hf.elim
  have ev:∀{u:World} {es:Array Event},Evs ob H u.heap.size #[] es→∀e∈keptEvs P b es,EvP ob H u.heap.size e:=fun{u es} hv e he=>by
   have h1:=mem_seen he
   split at h1
   ·simp at h1
   ·rcases hv e h1 with h|h
    ·simp at h
    ·exact h
  have other:∀(h:Halt) (u:World) (es:Array Event),(execOp a.eval o).runT P w #[]=(.halt h u,es)→(∀v,h≠ .panic v)→StepsL ob P H (OneOK fn L a (.inRegion ops (i::rest)::r) (.inRegion ops rest::r)) b a (.inRegion ops (i::rest)::r) w:=by
   intro h u es hr hv
   refine .inl ⟨n,fun w₂ Lw A k cs _=>?_⟩
   rcases dud (hn w₂ Lw A) with⟨h,u₂,es₂,h1,h2⟩|⟨x,u',u₂,es',h1,_⟩|⟨v,u',u₂,es',h1,_⟩
   ·exact oper_ended hs ho hw h1 h2
   ·rw[hr] at h1;cases h1
   ·rw[hr] at h1
    simp only[Prod.mk.injEq,Result.halt.injEq] at h1
    exact absurd h1.1.1 (hv v)
  cases hr:(execOp a.eval o).runT P w #[] with
  |mk r1 es=>
   match r1,hr with
   | .ok x u,hr=>
    have hleaf:=pl.leaf w #[] x u es hr
    have lone:∀w₂,Like H w w₂→Agree n w w₂→(∃h u₂ es₂,(execOp a.eval o).runT P w₂ #[]=(.halt h u₂,es₂)∧Dud h)∨∃u₂,(execOp a.eval o).runT P w₂ #[]=(.ok x u₂,es)∧Tied ob H n w w₂ u u₂∧Evs ob H u.heap.size #[] es:=by
     intro w₂ Lw A
     rcases dud (hn w₂ Lw A) with h|⟨x',u',u₂,es',h1,h2,h3,h4⟩|⟨v,u',u₂,es',h1,_⟩
     ·exact .inl h
     ·rw[hr] at h1
      simp only[Prod.mk.injEq,Result.ok.injEq] at h1
      obtain⟨⟨rfl,rfl⟩,rfl⟩:=h1
      exact .inr ⟨u₂,h2,h3,h4⟩
     ·rw[hr] at h1;cases h1
    by_cases hall:∀w₂,Like H w w₂→Agree n w w₂→∃h u₂ es₂,(execOp a.eval o).runT P w₂ #[]=(.halt h u₂,es₂)∧Dud h
    ·refine .inl ⟨n,fun w₂ Lw A k cs _=>?_⟩
     obtain⟨h,u₂,es₂,h1,h2⟩:=hall w₂ Lw A
     exact oper_ended hs ho hw h1 h2
    ·obtain⟨w₃,hw₃⟩:=Classical.not_forall.1 hall
     obtain⟨L₃,hw₃⟩:=Classical.not_imp.1 hw₃
     obtain⟨A₃,hw₃⟩:=Classical.not_imp.1 hw₃
     have hev:=((lone w₃ L₃ A₃).resolve_left hw₃).choose_spec.2.2
     have arm:∀R:Local,OneOK fn L a (.inRegion ops (i::rest)::r) (.inRegion ops rest::r) R→(∀(w' u':World),(execOp a.eval o).runT P w' #[]=(.ok x u',es)→∀k cs,stepG P true (G (b.at a (Item.inRegion ops (i::rest)::r++k)) cs) w'= .go (R.plug P b a (.inRegion ops (i::rest)::r) k cs) u' (keptEvs P b es))→
       StepsL ob P H (OneOK fn L a (.inRegion ops (i::rest)::r) (.inRegion ops rest::r)) b a (.inRegion ops (i::rest)::r) w:=by
      intro R hR hgo
      refine .inr ⟨n,R,u,keptEvs P b es,hR,hgo w u hr,ev hev,fun w₂ Lw A=>?_⟩
      rcases lone w₂ Lw A with⟨h,u₂,es₂,h1,h2⟩|⟨u₂,h1,h2,_⟩
      ·exact .inl fun k cs=>oper_ended hs ho hw h1 h2
      ·exact .inr ⟨u₂,_,hgo w₂ u₂ h1,h2⟩
     cases x with
     |value v=>exact arm (.run (a.put o.dst v) (.inRegion ops rest::r)) ⟨rfl,by unfold Act.put;split<;>rfl,hA.put fun e he hs=>hleaf e he hs⟩ fun w' u' h k cs=>apply_value ho hw h
     |skip=>exact arm (.run (a.put o.dst undef) (.inRegion ops rest::r)) ⟨rfl,by unfold Act.put;split<;>rfl,hA.put fun _ _ _=>okFn_undef⟩ fun w' u' h k cs=>apply_skip ho hw h
     |enter f args=>exact arm (.enter f args) ⟨hleaf.1,hleaf.2.1,ops,i,rest,r,rfl,fun d hd=>hleaf.2.2 d (by rw[ho] at hd;exact hd)⟩ fun w' u' h k cs=>apply_enter ho hw h
     |_=>exact hleaf.elim
   | .halt (.panic v) u,hr=>
    have lone:∀w₂,Like H w w₂→Agree n w w₂→(∃h u₂ es₂,(execOp a.eval o).runT P w₂ #[]=(.halt h u₂,es₂)∧Dud h)∨∃u₂,(execOp a.eval o).runT P w₂ #[]=(.halt (.panic v) u₂,es)∧Tied ob H n w w₂ u u₂∧Evs ob H u.heap.size #[] es:=by
     intro w₂ Lw A
     rcases dud (hn w₂ Lw A) with h|⟨x',u',u₂,es',h1,_⟩|⟨v',u',u₂,es',h1,h2,h3,h4⟩
     ·exact .inl h
     ·rw[hr] at h1;cases h1
     ·rw[hr] at h1
      simp only[Prod.mk.injEq,Result.halt.injEq,Halt.panic.injEq] at h1
      obtain⟨⟨rfl,rfl⟩,rfl⟩:=h1
      exact .inr ⟨u₂,h2,h3,h4⟩
    by_cases hall:∀w₂,Like H w w₂→Agree n w w₂→∃h u₂ es₂,(execOp a.eval o).runT P w₂ #[]=(.halt h u₂,es₂)∧Dud h
    ·refine .inl ⟨n,fun w₂ Lw A k cs _=>?_⟩
     obtain⟨h,u₂,es₂,h1,h2⟩:=hall w₂ Lw A
     exact oper_ended hs ho hw h1 h2
    ·obtain⟨w₃,hw₃⟩:=Classical.not_forall.1 hall
     obtain⟨L₃,hw₃⟩:=Classical.not_imp.1 hw₃
     obtain⟨A₃,hw₃⟩:=Classical.not_imp.1 hw₃
     have hev:=((lone w₃ L₃ A₃).resolve_left hw₃).choose_spec.2.2
     refine .inr ⟨n,.panic [{v,recovered:=false}],u,keptEvs P b es,trivial,fun k cs=>apply_panic ho hw hr,ev hev,fun w₂ Lw A=>?_⟩
     rcases lone w₂ Lw A with⟨h,u₂,es₂,h1,h2⟩|⟨u₂,h1,h2,_⟩
     ·exact .inl fun k cs=>oper_ended hs ho hw h1 h2
     ·exact .inr ⟨u₂,_,fun k cs=>apply_panic ho hw h1,h2⟩
   | .halt (.unsupported y) u,hr=>exact other _ _ _ hr (by simp)
   | .halt (.stuck y) u,hr=>exact other _ _ _ hr (by simp)
   | .halt .blocked u,hr=>exact other _ _ _ hr (by simp)
   | .halt .waiting u,hr=>exact other _ _ _ hr (by simp)
   | .halt (.exit y) u,hr=>exact other _ _ _ hr (by simp)
   | .halt (.fatal y) u,hr=>exact other _ _ _ hr (by simp)
   | .halt (.throw y) u,hr=>exact other _ _ _ hr (by simp)
   | .halt .goexit u,hr=>exact other _ _ _ hr (by simp)
 · -- shut out by its guard
  refine .inr ⟨0,.run (a.put ((ops[i]?).bind (·.dst)) undef) (.inRegion ops rest::r),w,#[],⟨rfl,by unfold Act.put;split<;>rfl,hA.put fun _ _ _=>okFn_undef⟩,fun k cs=>stepG_shut (by simpa using hwt),by simp,fun w₂ L _=>.inr ⟨w₂,#[],fun k cs=>stepG_shut (by simpa using hwt),.refl L⟩⟩
theorem step_oper(hs:Settled P)(K:L.OK P){ops:Array Oper}{i:Nat}{rest:List Nat}{r:List Item}(hp:∀x∈Item.inRegion ops (i::rest)::r,itemPlain ob fn P L x=true)(hA:SlotsA fn L a)(L₀:Like H w w₀):StepsAs ob fn P L H b a (.inRegion ops (i::rest)::r) w:=by
 have h0:=hp _ (List.mem_cons_self ..)
 simp only[itemPlain,List.all_cons,Bool.and_eq_true] at h0
 refine(step_one hs K h0.1 hA L₀).mono fun R hR=>?_
 cases R with
 |run a' l=>
  obtain⟨rfl,h1,h2⟩:=hR
  refine⟨fun y hy=>?_,h1,h2⟩
  rcases List.mem_cons.1 hy with rfl|hy
  ·exact h0.2
  ·exact hp y (List.mem_cons_of_mem _ hy)
 |enter f args=>exact hR
 |_=>trivial
end
end
section
open Go Go.Conc
variable {ob:Bool} {fn:Option FuncId} {P:Program} {L:Fns} {H:Nat→Prop} {b:Frame} {a:Act} {items:List Item} {w w₀:World}
theorem stepG_lost{id:Nat}{k:List Item}{cs:List Frame}(h:exitTo id k=none):∃o u es,stepG P true (G (b.at a (.code (.exit id)::k)) cs) w= .ended o u es:=by
 simp[G,stepG,stepG.exec,Frame.at,h]
theorem step_local(hs:Settled P)(K:L.OK P)(hp:∀x∈items,itemPlain ob fn P L x=true)(hne:items≠[])(hA:SlotsA fn L a)(L₀:Like H w w₀):
  StepsAs ob fn P L H b a items w:=by
 obtain⟨x,r,rfl⟩:=List.exists_cons_of_ne_nil hne
 have hx:=hp x (List.mem_cons_self ..)
 have hr:∀y∈r,itemPlain ob fn P L y=true:=fun y hy=>hp y (List.mem_cons_of_mem _ hy)
 have hr1:∀z,itemPlain ob fn P L z=true→∀y∈z::r,itemPlain ob fn P L y=true:=fun z hz y hy=>by
  rcases List.mem_cons.1 hy with rfl|hy
  ·exact hz
  ·exact hr y hy
 have hr2:∀z z',itemPlain ob fn P L z=true→itemPlain ob fn P L z'=true→∀y∈z::z'::r,itemPlain ob fn P L y=true:=fun z z' hz hz' y hy=>by
  rcases List.mem_cons.1 hy with rfl|hy
  ·exact hz
  ·exact hr1 z' hz' y hy
 have hreg:∀{id:Nat} {ops:Array Oper} {draw:Bool},itemPlain ob fn P L (.code (.region id ops draw))=true→∀l:List Nat,itemPlain ob fn P L (.inRegion ops l)=true:=fun{id ops draw} h l=>by
  simp only[itemPlain,codePlain] at h⊢
  rw[Array.all_eq_true'] at h
  rw[List.all_eq_true]
  intro i _
  cases ho:ops[i]? with
  |none=>rfl
  |some o=>exact h o (Array.mem_of_getElem? ho)
 cases x with
 |inBlock id=>exact .free (R:=.run a r) ⟨hr,rfl,hA⟩ fun w k cs=>stepG_inBlock
 |inLoop c=>exact .free (R:=.run a (.code c:: .inLoop c::r)) ⟨hr2 _ _ hx hx,rfl,hA⟩ fun w k cs=>stepG_inLoop
 |inRegion ops todo=>
  cases todo with
  |nil=>exact .free (R:=.run a r) ⟨hr,rfl,hA⟩ fun w k cs=>stepG_region_end
  |cons i rest=>exact step_oper hs K hp hA L₀
 |code c=>
  cases c with
  |skip=>exact .free (R:=.run a r) ⟨hr,rfl,hA⟩ fun w k cs=>stepG_skip
  |ret=>exact .free (R:=.ret) trivial fun w k cs=>by simp[G,stepG,stepG.exec,Frame.at,Local.plug]
  |seq x y=>
   simp only[itemPlain,codePlain,Bool.and_eq_true] at hx
   exact .free (R:=.run a (.code x:: .code y::r)) ⟨hr2 _ _ hx.1 hx.2,rfl,hA⟩ fun w k cs=>stepG_seq
  |block id c=>exact .free (R:=.run a (.code c:: .inBlock id::r)) ⟨hr2 _ _ hx rfl,rfl,hA⟩ fun w k cs=>stepG_block
  |loop c=>exact .free (R:=.run a (.code c:: .inLoop c::r)) ⟨hr2 _ _ hx hx,rfl,hA⟩ fun w k cs=>stepG_loop
  |refuse s=>exact .dead fun w k cs _=>by simp[G,stepG,stepG.exec,Frame.at]
  |exit id=>
   cases he:exitTo id r with
   |some r'=>
    refine .free (R:=.run a r') ⟨exitTo_sub he hr,rfl,hA⟩ fun w k cs=>stepG_exit ?_
    show exitTo id (r++k)=_
    rw[exitTo_append,he]
   |none=>
    refine .dead fun w k cs hd=>stepG_lost ?_
    show exitTo id (r++k)=none
    rw[exitTo_append,he]
    exact hd id
  |cond c x y=>
   simp only[itemPlain,codePlain,Bool.and_eq_true] at hx
   cases hc:a.eval c with
   |bool t=>
    refine .free (R:=.run a (.code (if t then x else y)::r)) ⟨hr1 _ ?_,rfl,hA⟩ fun w k cs=>stepG_cond hc
    cases t
    ·exact hx.2
    ·exact hx.1
   |_=>
    refine .dead fun w k cs _=>?_
    have h':(b.at a (.code (.cond c x y)::(r++k))).eval c=_:=(Frame.eval_at _ _ _ _).trans hc
    simp only[Frame.at] at h'
    simp[G,stepG,stepG.exec,Frame.at,h']
  |region id ops draw=>
   cases draw with
   |false=>exact .free (R:=.run a (.inRegion ops (List.range ops.size)::r)) ⟨hr1 _ (hreg hx _),rfl,hA⟩ fun w k cs=>stepG_region
   |true=>
    have go:∀(w:World) k cs,stepG P true (G (b.at a (Item.code (.region id ops true)::r++k)) cs) w=
      .go (G (b.at a (.inRegion ops (Region.schedule (P.follows .mixedOrders) ops (w.tape w.drawn (.order b.fn id)))::(r++k))) cs) {w with drawn:=w.drawn+1} #[]:=fun w k cs=>by
     simp[G,stepG,stepG.exec,Frame.at,choose,Sem.run,Question.forced,Question.cut]
    refine .inr ⟨1,.run a (.inRegion ops (Region.schedule (P.follows .mixedOrders) ops (w.tape w.drawn (.order b.fn id)))::r),_,_,⟨hr1 _ (hreg hx _),rfl,hA⟩,go w,by simp,fun w₂ Lw A=>.inr ⟨_,#[],fun k cs=>?_,⟨Lw.draw _ _,rfl,rfl,rfl,rfl,Nat.le_refl _,rfl,rfl,fun _ _=>rfl,fun _ _ _ h _=>h⟩⟩⟩
    rw[go w₂ k cs]
    have:=A 0 (by omega) (.order b.fn id)
    simp only[Nat.add_zero] at this
    rw[this]
    rfl
  |_=>simp[itemPlain,codePlain] at hx
 |_=>simp[itemPlain] at hx
inductive PConf where
 |base (a:Act) (items:List Item)
 |baseRet (a:Act) (items:List Item)
 |basePanic (a:Act) (items:List Item) (chain:List PanicEntry)
 |deep (fr:Frame) (frs:List Frame) (a:Act) (items:List Item)
def PConf.plug(b:Frame)(k:List Item)(cs:List Frame):PConf→Goroutine
 | .base a items=>G (b.at a (items++k)) cs
 | .baseRet a items=>G {b.at a (items++k) with mode:=.returning} cs
 | .basePanic a items chain=>G {b.at a (items++k) with mode:=.panicking chain} cs
 | .deep fr frs a items=>G fr (frs++b.at a (items++k)::cs)
structure FrameOK(ob:Bool)(P:Program)(L:Fns)(fr:Frame):Prop where
 fn:fr.fn∈L.l
 todo:∀x∈fr.todo,itemPlain ob (some fr.fn) P L x=true
 slots:SlotsA (some fr.fn) L ⟨fr.tmps,fr.defers⟩
 defers:fr.defers=[]
 kind:fr.kind= .normal
 round:fr.roundOf=none
def PConf.WF(ob:Bool)(fn:Option FuncId)(P:Program)(L:Fns)(d:List Deferred):PConf→Prop
 | .base a items=>(∀x∈items,itemPlain ob fn P L x=true)∧a.defers=d∧SlotsA fn L a
 | .baseRet a _=>a.defers=d
 | .basePanic a _ _=>a.defers=d
 | .deep fr frs a items=>FrameOK ob P L fr∧(∀f∈frs,FrameOK ob P L f∧f.mode= .run∧AtCall (some f.fn) L f.todo)∧(∀x∈items,itemPlain ob fn P L x=true)∧AtCall fn L items∧a.defers=d∧SlotsA fn L a
def EndsAt(b:Frame)(k:List Item)(cs:List Frame)(g:Goroutine):Prop:=
 (∃a,g=PConf.plug b k cs (.base a []))∨(∃a items,g=PConf.plug b k cs (.baseRet a items))∨(∃a items chain,g=PConf.plug b k cs (.basePanic a items chain))
theorem Frame.own{fr:Frame}(hm:fr.mode= .run)(hr:fr.roundOf=none):fr=fr.at ⟨fr.tmps,fr.defers⟩ fr.todo:=by
 obtain⟨fn,tmps,todo,defers,mode,kind,ro⟩:=fr
 simp only at hm hr
 subst hm;subst hr
 rfl
structure FuncsOK(ob:Bool)(P:Program)(L:Fns):Prop where
 settled:Settled P
 fns:L.OK P
 body:∀f∈L.l,∀fn c,P.funcs[f]?=some fn→fn.body=some c→codePlain ob (some f) P L c=true
theorem goFunc_some{f:FuncId}(h:goFunc P f=true):∃fn c,P.funcs[f]?=some fn∧fn.body=some c:=by
 unfold goFunc at h
 cases e:P.funcs[f]? with
 |none=>simp[e] at h
 |some fn=>
  simp only[e,Bool.and_eq_true] at h
  obtain⟨c,hc⟩:=Option.isSome_iff_exists.1 h.1
  exact⟨fn,c,rfl,hc⟩
theorem enter_ok(F:FuncsOK ob P L){f:FuncId}(hf:f∈L.l){args:Array Value}(hs:SlotsF f L args):FrameOK ob P L (Frame.enter P f args .normal):=by
 obtain⟨fn,c,h1,h2⟩:=goFunc_some (F.fns.go f hf)
 refine⟨hf,fun x hx=>?_,fun d hd=>?_,rfl,rfl,rfl⟩
 ·simp only[Frame.enter,h1,Option.bind_some,h2,Option.getD_some,List.mem_cons,List.not_mem_nil,or_false] at hx
  subst hx
  exact F.body f hf fn c h1 h2
 ·have hm:(f,d)∈L.sl:=by simpa[Fns.own,Frame.enter] using hd
  have h3:=hs d hm
  simp only[Frame.enter]
  rw[Array.getD_eq_getD_getElem?,Array.getElem?_append]
  split
  ·rw[←Array.getD_eq_getD_getElem?];exact h3
  ·rw[Array.getElem?_replicate]
   split<;>exact okFn_undef
theorem pl_results(fn:Func)(tmps:Array Value):Pl ob P (results fn tmps):=by
 unfold results
 refine Pl.b (pl_mapMA _ (fun r=>?_) _) fun vs=>pl_pure trivial
 cases r with
 |tmp t=>exact pl_pure trivial
 |cell a t=>exact Pl.b (pl_asAddr _) fun _=>pl_loadVar _ _
theorem finish_call{ops:Array Oper}{i:Nat}{rest:List Nat}{r k:List Item}(v:Value):
  (b.at a (.inRegion ops (i::rest)::r++k)).finish v=b.at (a.put ((ops[i]?).bind (·.dst)) v) (.inRegion ops rest::r++k):=Frame.finish_at _ _ _ _ _ _ _
theorem items_next{ops:Array Oper}{i:Nat}{rest:List Nat}{r:List Item}(h:∀x∈Item.inRegion ops (i::rest)::r,itemPlain ob fn P L x=true):∀x∈Item.inRegion ops rest::r,itemPlain ob fn P L x=true:=by
 intro y hy
 rcases List.mem_cons.1 hy with rfl|hy
 ·have:=h (.inRegion ops (i::rest)) (List.mem_cons_self ..)
  simp only[itemPlain,List.all_cons,Bool.and_eq_true] at this
  exact this.2
 ·exact h y (List.mem_cons_of_mem _ hy)
theorem put_defers(d:Option Tmp)(v:Value):(a.put d v).defers=a.defers:=by unfold Act.put;split<;>rfl
theorem ret_ok{fr c:Frame}{cs:List Frame}{fn:Func}{v:Value}{u:World}{es:Array Event}(hm:fr.mode= .returning)(hd:fr.defers=[])(hk:fr.kind= .normal)(hf:P.funcs[fr.fn]?=some fn)(hr:(results fn fr.tmps).runT P w #[]=(.ok v u,es)):stepG P true (G fr (c::cs)) w= .go (G (c.finish v) cs) u (seen P fr.fn es):=by
 simp only[G,stepG,hm,unwind,hd,hf,hr,doReturn,hk]
 simp[GStep.after]
theorem ret_dud{fr c:Frame}{cs:List Frame}{fn:Func}{h:Halt}{u:World}{es:Array Event}(hm:fr.mode= .returning)(hd:fr.defers=[])(hf:P.funcs[fr.fn]?=some fn)(hr:(results fn fr.tmps).runT P w #[]=(.halt h u,es)):∃o u es,stepG P true (G fr (c::cs)) w= .ended o u es:=by
 simp only[G,stepG,hm,unwind,hd,hf,hr]
 cases h<;>simp[GStep.after]
theorem panic_step{fr c:Frame}{cs:List Frame}{fn:Func}{chain:List PanicEntry}(hm:fr.mode= .panicking chain)(hd:fr.defers=[])(hf:P.funcs[fr.fn]?=some fn):
  stepG P true (G fr (c::cs)) w= .go (G (c.raise chain) cs) w #[]:=by
 simp[G,stepG,hm,unwind,hd,hf,Frame.catches]
theorem coupled{fid:Option FuncId}(F:FuncsOK ob P L){k' k:List Item}{cs' cs:List Frame}{d:List Deferred}(hdead:Dead k')(c:PConf)(w w₀:World)(hwf:c.WF ob fid P L d)(hne:¬EndsAt b k' cs' (c.plug b k' cs'))(L₀:Like H w w₀):
  Coupled ob H P (PConf.plug b k' cs') (PConf.plug b k cs) (PConf.WF ob fid P L d) c w:=by
 cases c with
 |baseRet a items=>exact absurd (.inr (.inl ⟨a,items,rfl⟩)) hne
 |basePanic a items chain=>exact absurd (.inr (.inr ⟨a,items,chain,rfl⟩)) hne
 |base a items=>
  have hi:items≠[]:=fun e=>hne (.inl ⟨a,by rw[e]⟩)
  rcases step_local F.settled F.fns hwf.1 hi hwf.2.2 L₀ with⟨n,hd⟩|⟨n,R,w',es,hR,hgo,hev,hall⟩
  ·exact .inl ⟨n,fun w₂ Lw A=>hd w₂ Lw A k' cs' hdead⟩
  ·have out:∀c':PConf,(∀k cs,R.plug P b a items k cs=c'.plug b k cs)→c'.WF ob fid P L d→Coupled ob H P (PConf.plug b k' cs') (PConf.plug b k cs) (PConf.WF ob fid P L d) (.base a items) w:=by
    intro c' hc hw
    refine .inr ⟨n,c',w',es,hw,(hgo k cs).trans (by rw[hc]),hev,fun w₂ Lw A=>?_⟩
    rcases hall w₂ Lw A with h|⟨u₂,es₂,h1,h2⟩
    ·exact .inl (h k' cs')
    ·exact .inr ⟨u₂,es₂,(h1 k' cs').trans (by rw[hc]),h2⟩
   cases R with
   |run a' items'=>exact out (.base a' items') (fun _ _=>rfl) ⟨hR.1,hR.2.1.trans hwf.2.1,hR.2.2⟩
   |ret=>exact out (.baseRet a items) (fun _ _=>rfl) hwf.2.1
   |panic chain=>exact out (.basePanic a items chain) (fun _ _=>rfl) hwf.2.1
   |enter f args=>exact out (.deep (Frame.enter P f args .normal) [] a items) (fun _ _=>rfl) ⟨enter_ok F hR.1 hR.2.1,by simp,hwf.1,hR.2.2,hwf.2⟩
 |deep fr frs a items=>
  obtain⟨hfr,hfrs,hit,hat,hd,hsl⟩:=hwf
  obtain⟨fn,cbody,hfn,hbody⟩:=goFunc_some (F.fns.go fr.fn hfr.fn)
  cases hm:fr.mode with
  |run=>
   have hown:=Frame.own hm hfr.round
   by_cases hi:fr.todo=[]
   · -- off its end
    refine .inr ⟨0,.deep {fr with mode:=.returning} frs a items,w,#[],⟨⟨hfr.fn,hfr.todo,hfr.slots,hfr.defers,hfr.kind,hfr.round⟩,hfrs,hit,hat,hd,hsl⟩,?_,by simp,fun w₂ Lw A=>.inr ⟨w₂,#[],?_,.refl Lw⟩⟩
    all_goals
     show stepG P true (G fr _) _=_
     rw[hown,hi]
     rw[stepG_end]
     rfl
   ·rcases step_local (b:=fr) (a:=⟨fr.tmps,fr.defers⟩) F.settled F.fns hfr.todo hi hfr.slots L₀ with⟨n,hd'⟩|⟨n,R,w',es,hR,hgo,hev,hall⟩
    ·refine .inl ⟨n,fun w₂ Lw A=>?_⟩
     have:=hd' w₂ Lw A [] (frs++b.at a (items++k')::cs') (fun _=>rfl)
     rw[List.append_nil,←hown] at this
     exact this
    ·have out:∀c':PConf,(∀k cs,R.plug P fr ⟨fr.tmps,fr.defers⟩ fr.todo [] (frs++b.at a (items++k)::cs)=c'.plug b k cs)→c'.WF ob fid P L d→Coupled ob H P (PConf.plug b k' cs') (PConf.plug b k cs) (PConf.WF ob fid P L d) (.deep fr frs a items) w:=by
      intro c' hc hw
      have st:∀{w u:World} {es:Array Event} {k cs},stepG P true (G (fr.at ⟨fr.tmps,fr.defers⟩ (fr.todo++[])) (frs++b.at a (items++k)::cs)) w= .go (R.plug P fr ⟨fr.tmps,fr.defers⟩ fr.todo [] (frs++b.at a (items++k)::cs)) u es→stepG P true (PConf.plug b k cs (.deep fr frs a items)) w= .go (c'.plug b k cs) u es:=fun h=>by
       rw[List.append_nil,←hown,hc] at h
       exact h
      refine .inr ⟨n,c',w',es,hw,st (hgo [] _),hev,fun w₂ Lw A=>?_⟩
      rcases hall w₂ Lw A with h|⟨u₂,es₂,h1,h2⟩
      ·left
       have:=h [] (frs++b.at a (items++k')::cs')
       rw[List.append_nil,←hown] at this
       exact this
      ·exact .inr ⟨u₂,es₂,st (h1 [] _),h2⟩
     cases R with
     |run a' items'=>exact out (.deep (fr.at a' items') frs a items) (fun _ _=>by simp[Local.plug,PConf.plug]) ⟨⟨hfr.fn,hR.1,hR.2.2,hR.2.1.trans hfr.defers,hfr.kind,rfl⟩,hfrs,hit,hat,hd,hsl⟩
     |ret=>exact out (.deep {fr with mode:=.returning} frs a items) (fun _ _=>by simp[Local.plug,PConf.plug,Frame.at,hfr.round,G]) ⟨⟨hfr.fn,hfr.todo,hfr.slots,hfr.defers,hfr.kind,hfr.round⟩,hfrs,hit,hat,hd,hsl⟩
     |panic chain=>exact out (.deep {fr with mode:=.panicking chain} frs a items) (fun _ _=>by simp[Local.plug,PConf.plug,Frame.at,hfr.round,G]) ⟨⟨hfr.fn,hfr.todo,hfr.slots,hfr.defers,hfr.kind,hfr.round⟩,hfrs,hit,hat,hd,hsl⟩
     |enter f args=>
      refine out (.deep (Frame.enter P f args .normal) (fr::frs) a items) (fun _ _=>?_) ⟨enter_ok F hR.1 hR.2.1,fun f' hf'=>?_,hit,hat,hd,hsl⟩
      ·simp only[Local.plug,PConf.plug,List.append_nil,List.cons_append]
       rw[←hown]
      ·rcases List.mem_cons.1 hf' with rfl|hf'
       ·exact⟨hfr,hm,hR.2.2⟩
       ·exact hfrs f' hf'
  |returning=>
   have pl:=pl_results (ob:=ob) (P:=P) fn fr.tmps
   obtain⟨n,hn⟩:=couple (H:=H) pl w #[] w₀ L₀
   obtain⟨cal,c',hcal⟩:∃(cal:List Item→List Frame→Frame×List Frame) (c':Value→PConf),(∀k cs,frs++b.at a (items++k)::cs=(cal k cs).1::(cal k cs).2)∧
     (∀v k cs,G ((cal k cs).1.finish v) (cal k cs).2=(c' v).plug b k cs)∧∀v,(c' v).WF ob fid P L d:=by
    cases frs with
    |nil=>
     obtain⟨ops,i,rest,r,rfl,hdst⟩:=hat
     refine⟨fun k cs=>(b.at a (.inRegion ops (i::rest)::r++k),cs),fun v=>.base (a.put ((ops[i]?).bind (·.dst)) v) (.inRegion ops rest::r),fun k cs=>rfl,fun v k cs=>?_,fun v=>⟨items_next hit,(put_defers _ _).trans hd,AtCall.slots hdst hsl v⟩⟩
     simp only[PConf.plug]
     rw[finish_call]
    |cons f fs=>
     obtain⟨hf,hfm,ops,i,rest,r,hft,hdst⟩:=hfrs f (List.mem_cons_self ..)
     refine⟨fun k cs=>(f,fs++b.at a (items++k)::cs),fun v=>.deep (f.finish v) fs a items,fun k cs=>rfl,fun v k cs=>rfl,fun v=>⟨?_,fun f' h'=>hfrs f' (List.mem_cons_of_mem _ h'),hit,hat,hd,hsl⟩⟩
     have e:f.finish v=f.at ((⟨f.tmps,f.defers⟩:Act).put ((ops[i]?).bind (·.dst)) v) (.inRegion ops rest::r):=by
      have h1:=Frame.own hfm hf.round
      rw[hft] at h1
      rw[h1,Frame.finish_at]
      rfl
     rw[e]
     exact⟨hf.fn,items_next (by rw[←hft];exact hf.todo),AtCall.slots hdst hf.slots v,(put_defers _ _).trans hf.defers,hf.kind,rfl⟩
   obtain⟨hc1,hc2,hc3⟩:=hcal
   have okstep:∀{w u:World} {v:Value} {es:Array Event} {k cs},(results fn fr.tmps).runT P w #[]=(.ok v u,es)→stepG P true (PConf.plug b k cs (.deep fr frs a items)) w= .go ((c' v).plug b k cs) u (seen P fr.fn es):=fun{w u v es k cs} hr=>by
    show stepG P true (G fr (frs++b.at a (items++k)::cs)) w=_
    rw[hc1,ret_ok hm hfr.defers hfr.kind hfn hr,hc2]
   have dudstep:∀{w u:World} {h:Halt} {es:Array Event} {k cs},(results fn fr.tmps).runT P w #[]=(.halt h u,es)→∃o u es,stepG P true (PConf.plug b k cs (.deep fr frs a items)) w= .ended o u es:=fun{w u h es k cs} hr=>by
    show∃o u es,stepG P true (G fr (frs++b.at a (items++k)::cs)) w=_
    rw[hc1]
    exact ret_dud hm hfr.defers hfn hr
   cases hr:(results fn fr.tmps).runT P w #[] with
   |mk r1 es=>
    have lone:∀w₂,Like H w w₂→Agree n w w₂→(∃h u₂ es₂,(results fn fr.tmps).runT P w₂ #[]=(.halt h u₂,es₂))∨∃v u u₂,r1= .ok v u∧(results fn fr.tmps).runT P w₂ #[]=(.ok v u₂,es)∧Tied ob H n w w₂ u u₂∧Evs ob H u.heap.size #[] es:=by
     intro w₂ Lw A
     have hf:=hn w₂ Lw A
     rw[hr] at hf
     generalize(results fn fr.tmps).runT P w₂ #[]=r2 at hf⊢
     match r2,hf with
     |(.ok x u₂,es₂),⟨u,e,t,hv⟩=>
      simp only[Prod.mk.injEq] at e
      obtain⟨rfl,rfl⟩:=e
      exact .inr ⟨x,u,u₂,rfl,rfl,t,hv⟩
     |(.halt h u₂,es₂),_=>exact .inl ⟨_,_,_,rfl⟩
    by_cases hall:∀w₂,Like H w w₂→Agree n w w₂→∃h u₂ es₂,(results fn fr.tmps).runT P w₂ #[]=(.halt h u₂,es₂)
    ·refine .inl ⟨n,fun w₂ Lw A=>?_⟩
     obtain⟨h,u₂,es₂,h1⟩:=hall w₂ Lw A
     exact dudstep h1
    ·obtain⟨w₃,hw₃⟩:=Classical.not_forall.1 hall
     obtain⟨L₃,hw₃⟩:=Classical.not_imp.1 hw₃
     obtain⟨A₃,hw₃⟩:=Classical.not_imp.1 hw₃
     obtain⟨v,u,u₃,rfl,_,_,hev⟩:=(lone w₃ L₃ A₃).resolve_left hw₃
     refine .inr ⟨n,c' v,u,seen P fr.fn es,hc3 v,okstep hr,fun e he=>?_,fun w₂ Lw A=>?_⟩
     ·rcases hev e (mem_seen he) with h|h
      ·simp at h
      ·exact h
     ·rcases lone w₂ Lw A with⟨h,u₂,es₂,h1⟩|⟨v',u',u₂,e,h1,h2,_⟩
      ·exact .inl (dudstep h1)
      ·simp only[Result.ok.injEq] at e
       obtain⟨rfl,rfl⟩:=e
       exact .inr ⟨u₂,_,okstep h1,h2⟩
  |panicking chain=>
   cases frs with
   |nil=>
    refine .inr ⟨0,.basePanic a items chain,w,#[],hd,?_,by simp,fun w₂ Lw A=>.inr ⟨w₂,#[],?_,.refl Lw⟩⟩
    all_goals
     show stepG P true (G fr (_::_)) _=_
     rw[panic_step hm hfr.defers hfn]
     rfl
   |cons f fs=>
    obtain⟨hf,hfm,_⟩:=hfrs f (List.mem_cons_self ..)
    refine .inr ⟨0,.deep {f with mode:=.panicking chain} fs a items,w,#[],⟨⟨hf.fn,hf.todo,hf.slots,hf.defers,hf.kind,hf.round⟩,fun f' h'=>hfrs f' (List.mem_cons_of_mem _ h'),hit,hat,hd,hsl⟩,?_,by simp,fun w₂ Lw A=>.inr ⟨w₂,#[],?_,.refl Lw⟩⟩
    all_goals
     show stepG P true (G fr (_::_)) _=_
     rw[panic_step hm hfr.defers hfn]
     simp[Frame.raise,hfm,PConf.plug]
end
end Go.Side
