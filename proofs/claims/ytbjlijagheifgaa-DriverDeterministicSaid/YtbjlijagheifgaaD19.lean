/-
  Texts of Ytbjlijagheifgaa, merged.
-/
import Derived.Test.YtbjlijagheifgaaD18
import Derived.Test.YtbjlijagheifgaaD11
set_option linter.unusedSimpArgs false
set_option linter.unusedVariables false
namespace Go.Side
section
open Go Go.Conc
variable {ob:Bool} {fid:Option FuncId} {P:Program} {L:Fns} {H:Nat→Prop} {b:Frame} {a:Act} {w w₀:World}
def endK:List Item:=[.code (.refuse "")]
def catcher(P:Program):Frame:={(default:Frame) with fn:=P.funcs.size,todo:=[.call {target:=.nil,args:= #[]} false "fmt's door: " #[]],defers:=[],mode:=.run,kind:=.normal,roundOf:=none}
theorem dead_end:Dead endK:=fun _=>rfl
theorem catcher_catches{chain:List PanicEntry}:∃o u es,stepG P true (G ((catcher P).raise chain) []) w= .ended o u es:=by
 have h1:P.funcs[P.funcs.size]?=none:=by simp
 simp only[G,stepG,catcher,Frame.raise,unwind,Frame.catches,h1]
 rw[if_pos (by simp)]
 exact⟨_,_,_,rfl⟩
theorem door_none:Extern.next "fmt's door: " =none:=by rfl
theorem catcher_returns{v:Value}:∃o u es,stepG P true (G ((catcher P).finish v) []) w= .ended o u es:=by
 simp only[G,stepG,catcher,Frame.finish,stepG.exec,door_none]
 exact⟨_,_,_,rfl⟩
theorem lone_next(F:FuncsOK ob P L){k':List Item}{cs':List Frame}{d:List Deferred}(hdead:Dead k')(c:PConf)(w:World)(hwf:c.WF ob fid P L d)(hne:¬EndsAt b k' cs' (c.plug b k' cs')):
  (∃o u es,stepG P true (c.plug b k' cs') w= .ended o u es)∨∃c' u es,PConf.WF ob fid P L d c'∧stepG P true (c.plug b k' cs') w= .go (c'.plug b k' cs') u es:=by
 have Lw:Like (fun _=>False) w w:=⟨rfl,fun _ _=>rfl,fun _ h=>h.elim,rfl,rfl⟩
 rcases coupled (H:=fun _=>False) (ob:=ob) (b:=b) (k:=k') (cs:=cs') F hdead c w w hwf hne Lw with⟨n,h⟩|⟨n,c',w',es,h1,h2,_⟩
 ·exact .inl (h w Lw fun i _ q=>rfl)
 ·exact .inr ⟨c',w',es,h1,h2⟩
theorem lone_step_go{fr fr':Frame}{cs cs':List Frame}{w':World}{es:Array Event}(h:stepG P true (G fr cs) w= .go (G fr' cs') w' es):step P (lone fr cs w)= .next (lone fr' cs' w'):=
 step_lone_go (by
  have:stepG P true {frame:=fr,callers:=cs,status:=.running,dying:=none} w= .go (G fr' cs') w' es:=h
  rw[this];rfl)
theorem lone_step_ended{fr:Frame}{cs:List Frame}{o:Outcome}{w':World}{es:Array Event}(h:stepG P true (G fr cs) w= .ended o w' es):step P (lone fr cs w)= .ended o w':=
 step_lone_ended (by
  have:stepG P true {frame:=fr,callers:=cs,status:=.running,dying:=none} w= .ended o w' es:=h
  rw[this];rfl)
theorem plug_G(b:Frame)(k:List Item)(cs:List Frame)(c:PConf):∃fr cs',c.plug b k cs=G fr cs':=by
 cases c<;>exact⟨_,_,rfl⟩
theorem lone_inj{fr fr':Frame}{cs cs':List Frame}{w w':World}(h:lone fr cs w=lone fr' cs' w'):fr=fr'∧cs=cs'∧w=w':=by
 have h1:=congrArg Machine.world h
 have h2:=congrArg (fun m=>m.gs[0]?) h
 simp only[lone,List.getElem?_toArray,List.getElem?_cons_zero,Option.some.injEq,Goroutine.mk.injEq] at h1 h2
 exact⟨h2.1,h2.2.1,h1⟩
theorem refuse_ended{cs:List Frame}:∃o u es,stepG P true (G (b.at a endK) cs) w= .ended o u es:=by
 simp[G,stepG,stepG.exec,Frame.at,endK]
theorem lone_ends(F:FuncsOK ob P L)(hb:∃fn,P.funcs[b.fn]?=some fn)(hk:b.kind= .normal){fr':Frame}{u:World}(hfin:(∃a',fr'=b.at a' endK)∨(∃a' todo,fr'={b.at a' todo with mode:=.returning})):
  ∀(N:Nat) (c:PConf) (w:World),c.WF ob fid P L []→(∀fr cs,c.plug b endK [catcher P]=G fr cs→runN P N (lone fr cs w)= .next (lone fr' [catcher P] u))→
   ∃M,lrun P M (c.plug b endK [catcher P]) w=some (G fr' [catcher P],u)∧EndsAt b endK [catcher P] (G fr' [catcher P])∧∀K,K<M→∀g v,lrun P K (c.plug b endK [catcher P]) w=some (g,v)→¬EndsAt b endK [catcher P] g:=by
 have no_end:∀{n:Nat} {fr:Frame} {cs:List Frame} {w:World},(∃o v es,stepG P true (G fr cs) w= .ended o v es)→runN P (n+1) (lone fr cs w)≠ .next (lone fr' [catcher P] u):=by
  rintro n fr cs w ⟨o,v,es,h⟩ hr
  simp[runN,lone_step_ended h] at hr
 have one:∀{n:Nat} {fr fr2:Frame} {cs cs2:List Frame} {w v:World} {es:Array Event},stepG P true (G fr cs) w= .go (G fr2 cs2) v es→runN P (n+1) (lone fr cs w)=runN P n (lone fr2 cs2 v):=by
  intro n fr fr2 cs cs2 w v es h
  simp[runN,lone_step_go h]
 have zero:∀{fr:Frame} {cs:List Frame} {w:World},runN P 0 (lone fr cs w)= .next (lone fr' [catcher P] u)→fr=fr'∧cs=[catcher P]∧w=u:=by
  intro fr cs w h
  simp only[runN,Stepped.next.injEq] at h
  exact lone_inj h
 intro N
 induction N with
 |zero=>
  intro c w hwf hrun
  obtain⟨fr,cs,hp⟩:=plug_G b endK [catcher P] c
  obtain⟨rfl,rfl,rfl⟩:=zero (hrun fr cs hp)
  refine⟨0,by rw[hp];rfl,?_,fun K hK=>absurd hK (Nat.not_lt_zero _)⟩
  rw[←hp]
  cases c with
  |base a items=>
   simp only[PConf.plug,G,Goroutine.mk.injEq] at hp
   rcases hfin with⟨a',h⟩|⟨a',todo,h⟩
   ·have:items++endK=endK:=by
     have:=congrArg Frame.todo (hp.1.trans h)
     exact this
    have hi:items=[]:=by
     have:=congrArg List.length this
     simp at this
     exact this
    subst hi
    exact .inl ⟨a,rfl⟩
   ·have:=congrArg Frame.mode (hp.1.trans h)
    cases this
  |baseRet a items=>exact .inr (.inl ⟨a,items,rfl⟩)
  |basePanic a items ch=>exact .inr (.inr ⟨a,items,ch,rfl⟩)
  |deep fr2 frs a items=>
   simp only[PConf.plug,G,Goroutine.mk.injEq] at hp
   have:=congrArg List.length hp.2.1
   simp at this
 |succ N ih=>
  intro c w hwf hrun
  obtain⟨fr,cs,hp⟩:=plug_G b endK [catcher P] c
  have hr:=hrun fr cs hp
  by_cases hE:EndsAt b endK [catcher P] (c.plug b endK [catcher P])
  ·exfalso
   obtain⟨fn,hfn⟩:=hb
   cases c with
   |base a items=>
    rcases hE with⟨a0,h⟩|⟨a0,it,h⟩|⟨a0,it,ch,h⟩
    ·rw[h] at hp
     simp only[PConf.plug,List.nil_append,G,Goroutine.mk.injEq] at hp
     obtain⟨rfl,rfl,_⟩:=hp
     exact no_end refuse_ended hr
    ·have:=congrArg (fun g=>g.frame.mode) h
     simp[PConf.plug,G,Frame.at] at this
    ·have:=congrArg (fun g=>g.frame.mode) h
     simp[PConf.plug,G,Frame.at] at this
   |baseRet a items=>
    simp only[PConf.plug,G,Goroutine.mk.injEq] at hp
    obtain⟨rfl,rfl,_⟩:=hp
    have hd:({b.at a (items++endK) with mode:=.returning}:Frame).defers=[]:=hwf
    cases hres:(results fn ({b.at a (items++endK) with mode:=.returning}:Frame).tmps).runT P w #[] with
    |mk r es=>
     cases r with
     |ok v v'=>
      have h1:=ret_ok (cs:=[]) (c:=catcher P) rfl hd hk hfn hres
      rw[one h1] at hr
      cases N with
      |zero=>
       have:=(zero hr).2.1
       cases this
      |succ N=>exact no_end catcher_returns hr
     |halt h v'=>exact no_end (ret_dud (cs:=[]) (c:=catcher P) rfl hd hfn hres) hr
   |basePanic a items ch=>
    simp only[PConf.plug,G,Goroutine.mk.injEq] at hp
    obtain⟨rfl,rfl,_⟩:=hp
    have hd:({b.at a (items++endK) with mode:=.panicking ch}:Frame).defers=[]:=hwf
    have h1:=panic_step (w:=w) (cs:=[]) (c:=catcher P) (chain:=ch) rfl hd hfn
    rw[one h1] at hr
    cases N with
    |zero=>
     have:=(zero hr).2.1
     cases this
    |succ N=>exact no_end catcher_catches hr
   |deep fr2 frs a items=>
    rcases hE with⟨a0,h⟩|⟨a0,it,h⟩|⟨a0,it,ch,h⟩
    ·have:=congrArg (fun g=>g.callers.length) h
     simp[PConf.plug,G] at this
    ·have:=congrArg (fun g=>g.callers.length) h
     simp[PConf.plug,G] at this
    ·have:=congrArg (fun g=>g.callers.length) h
     simp[PConf.plug,G] at this
  ·rcases lone_next F dead_end c w hwf hE with h|⟨c',v,es,hw',h⟩
   ·rw[hp] at h
    exact absurd hr (no_end h)
   ·obtain⟨fr2,cs2,hp2⟩:=plug_G b endK [catcher P] c'
    obtain⟨M,h1,h2,h3⟩:=ih c' v hw' fun fr3 cs3 hp3=>by
     rw[hp,hp3] at h
     rw[←one h];exact hr
    refine⟨M+1,by simp only[lrun,h];exact h1,h2,fun K hK g v' hg=>?_⟩
    cases K with
    |zero=>
     simp only[lrun,Option.some.injEq,Prod.mk.injEq] at hg
     exact hg.1▸hE
    |succ K=>
     simp only[lrun,h] at hg
     exact h3 K (by omega) g v' hg
def PieceStop(ob:Bool)(H:Nat→Prop)(Q:Exit→Act→World→Prop)(b:Frame)(k:List Item)(cs:List Frame)(T:Terr)(w:World)(T':Terr)(g':Goroutine)(w':World):Prop:=
 ∃a' u,Like H w' u∧a'.defers=[]∧((Q .normal a' u∧g'=G (b.at a' k) cs)∨(Q .ret a' u∧∃todo,g'=G {b.at a' todo with mode:=.returning} cs))∧
  Covers ob H T' w'∧Aft ob H T w w'∧T'.ro=T.ro∧T'.kn=T.kn∧∀l,T'.wr l↔T.wr l∨Fresh w.heap.size w'.heap.size l
def ItemsWp(P:Program)(items:List Item)(Q:Exit→Act→World→Prop)(a:Act)(w:World):Prop:=
 ∀(b:Frame) (k:List Item) (cs:List Frame),∃e a' w',Q e a' w'∧Arrives P (lone (b.at a (items++k)) cs w) b k cs e a' w'
theorem SlotsA.none(L:Fns)(a:Act):SlotsA none L a:=fun _ h=>by cases h
theorem lone_items(F:FuncsOK ob P L)(hb:∃fn,P.funcs[b.fn]?=some fn)(hk:b.kind= .normal){items:List Item}(hc:∀x∈items,itemPlain ob fid P L x=true)(hs:SlotsA fid L a)(hd:a.defers=[]){T:Terr}{l₀:World}{k:List Item}{cs:List Frame}{Q:Exit→Act→World→Prop}(cov:Covers ob H T w)(L₀:Like H w l₀)(hQ:∀e a u,Q e a u→e= .normal∨e= .ret)(LH:∀w₂,Like H w w₂→ItemsWp P items Q a w₂):
  GoesV P true true (PieceStop ob H Q b k cs T w) T (G (b.at a (items++k)) cs) w:=by
 have hw0:(PConf.base a items).WF ob fid P L []:=⟨hc,hd,hs⟩
 let E:Goroutine→World→Prop:=fun g u=>(∃a',g=PConf.plug b endK [catcher P] (.base a' [])∧Q .normal a' u)∨(∃a' todo,g=G {b.at a' todo with mode:=.returning} [catcher P]∧Q .ret a' u)
 have hends:Ends H P (PConf.plug b endK [catcher P]) (EndsAt b endK [catcher P]) E (.base a items) w:=by
  intro w₂ Lw
  obtain⟨e,a',u,hq,harr⟩:=LH w₂ Lw b endK [catcher P]
  rcases hQ e a' u hq with rfl|rfl
  ·obtain⟨N,hN⟩:=harr
   obtain⟨M,h1,h2,h3⟩:=lone_ends F hb hk (fr':=b.at a' endK) (u:=u) (.inl ⟨a',rfl⟩) N (.base a items) w₂ hw0 fun fr cs hp=>by
    simp only[PConf.plug,G,Goroutine.mk.injEq] at hp
    obtain⟨rfl,rfl,_⟩:=hp
    exact hN
   exact⟨M,_,_,h1,h2,.inl ⟨a',rfl,hq⟩,h3⟩
  ·obtain⟨todo,N,hN⟩:=harr
   obtain⟨M,h1,h2,h3⟩:=lone_ends F hb hk (fr':={b.at a' todo with mode:=.returning}) (u:=u) (.inr ⟨a',todo,rfl⟩) N (.base a items) w₂ hw0 fun fr cs hp=>by
    simp only[PConf.plug,G,Goroutine.mk.injEq] at hp
    obtain⟨rfl,rfl,_⟩:=hp
    exact hN
   exact⟨M,_,_,h1,h2,.inr ⟨a',todo,rfl,hq⟩,h3⟩
 have main:=bar (ob:=ob) (T:=T) (tr:=PConf.plug b k cs) (WF:=PConf.WF ob fid P L []) (fun c' hc'=>by cases c'<;>rfl)
  (fun c' w' w₀ hwf hne Lw=>coupled F dead_end c' w' w₀ hwf hne Lw) hw0 cov L₀ hends
 refine main.mono fun T' g' w' h=>?_
 obtain⟨c',u,hwf,_,rfl,hl,he,hcov,haft,hro,hkn,hwr⟩:=h
 rcases he with⟨a',h,hq⟩|⟨a',todo,h,hq⟩
 ·cases c' with
  |base a1 items=>
   simp only[PConf.plug,G,Goroutine.mk.injEq,and_true] at h
   have h1:=congrArg Frame.tmps h
   have h2:=congrArg Frame.defers h
   have h3:=congrArg Frame.todo h
   simp only[Frame.at,List.nil_append] at h1 h2 h3
   obtain rfl:a1=a':=by obtain⟨t1,d1⟩:=a1;obtain⟨t2,d2⟩:=a';simp only at h1 h2;subst h1;subst h2;rfl
   obtain rfl:items=[]:=by simpa using h3
   exact⟨a1,u,hl,hwf.2.1,.inl ⟨hq,rfl⟩,hcov,haft,hro,hkn,hwr⟩
  |baseRet a1 items=>have:=congrArg (fun g=>g.frame.mode) h;simp[PConf.plug,G,Frame.at] at this
  |basePanic a1 items ch=>have:=congrArg (fun g=>g.frame.mode) h;simp[PConf.plug,G,Frame.at] at this
  |deep fr2 frs a1 items=>have:=congrArg (fun g=>g.callers.length) h;simp[PConf.plug,G] at this
 ·cases c' with
  |base a1 items=>have:=congrArg (fun g=>g.frame.mode) h;simp[PConf.plug,G,Frame.at] at this
  |baseRet a1 items=>
   simp only[PConf.plug,G,Goroutine.mk.injEq,and_true] at h
   have h1:=congrArg Frame.tmps h
   have h2:=congrArg Frame.defers h
   simp only[Frame.at] at h1 h2
   obtain rfl:a1=a':=by obtain⟨t1,d1⟩:=a1;obtain⟨t2,d2⟩:=a';simp only at h1 h2;subst h1;subst h2;rfl
   exact⟨a1,u,hl,hwf,.inr ⟨hq,_,rfl⟩,hcov,haft,hro,hkn,hwr⟩
  |basePanic a1 items ch=>have:=congrArg (fun g=>g.frame.mode) h;simp[PConf.plug,G,Frame.at] at this
  |deep fr2 frs a1 items=>have:=congrArg (fun g=>g.callers.length) h;simp[PConf.plug,G] at this
theorem lone_piece(F:FuncsOK ob P L)(hb:∃fn,P.funcs[b.fn]?=some fn)(hk:b.kind= .normal){c:Code}(hc:codePlain ob none P L c=true)(hd:a.defers=[]){T:Terr}{l₀:World}{k:List Item}{cs:List Frame}{Q:Exit→Act→World→Prop}(cov:Covers ob H T w)(L₀:Like H w l₀)(hQ:∀e a u,Q e a u→e= .normal∨e= .ret)(LH:∀w₂,Like H w w₂→c.wp P Q a w₂):
  GoesV P true true (PieceStop ob H Q b k cs T w) T (G (b.at a (.code c::k)) cs) w:=
 lone_items (fid:=none) (items:=[.code c]) F hb hk (by simpa[itemPlain] using hc) (.none L a) hd cov L₀ hQ LH
theorem ItemsWp.code{c:Code}{Q:Exit→Act→World→Prop}(h:c.wp P Q a w):ItemsWp P [.code c] Q a w:=h
theorem ItemsWp.ops{ops:Array Oper}{l:List Nat}{Q:Exit→Act→World→Prop}(h:wpOps P ops Q l a w):ItemsWp P [.inRegion ops l] Q a w:=fun b k cs=>wp_ops l a w h b k cs
theorem ItemsWp.cons{x:Item}{xs:List Item}{Q:Exit→Act→World→Prop}(hx:∀y∈xs,y.plain=true)(h:ItemsWp P [x] (Exit.then (ItemsWp P xs Q) Q) a w):ItemsWp P (x::xs) Q a w:=by
 intro b k cs
 obtain⟨e,a₁,w₁,hq,harr⟩:=h b (xs++k) cs
 have pass:∀(xs:List Item),(∀y∈xs,y.plain=true)→∀{m:Machine} {e:Exit} {a:Act} {w:World},e≠ .normal→Arrives P m b (xs++k) cs e a w→Arrives P m b k cs e a w:=by
  intro xs
  induction xs with
  |nil=>exact fun _ _ _ _ _ _ h=>h
  |cons y ys ih=>exact fun hp m e a w hne h=>ih (fun z hz=>hp z (List.mem_cons_of_mem _ hz)) hne (.pass (x:=y) (hp y (List.mem_cons_self ..)) (fun _ _=>.inl hne) h)
 cases e with
 |normal=>
  obtain⟨e₂,a₂,w₂,hq₂,harr₂⟩:=hq b k cs
  exact⟨e₂,a₂,w₂,hq₂,.of_steps harr harr₂⟩
 |exit id=>exact⟨_,a₁,w₁,hq,pass xs hx (by simp) harr⟩
 |goto l=>exact⟨_,a₁,w₁,hq,pass xs hx (by simp) harr⟩
 |ret=>exact⟨_,a₁,w₁,hq,pass xs hx (by simp) harr⟩
 |panic ch=>exact⟨_,a₁,w₁,hq,pass xs hx (by simp) harr⟩
 |outgrown=>exact⟨_,a₁,w₁,hq,pass xs hx (by simp) harr⟩
end
section
open Go Go.Conc
def FullB(R0:Loc→Prop)(T:Terr)(w:World)(b:Nat):Prop:=
 (∀a:Addr,a.block=b→T.wr (.cell a)∨R0 (.cell a))∧((∃c e f,w.heap[b]?=some (Obj.cells c e f))→T.wr (.obj b)∨R0 (.obj b))∧T.rd (.obj b)
def PartB(R0:Loc→Prop)(T:Terr)(w:World)(b:Nat):Prop:=Row w b∧∃a:Addr,a.block=b∧¬T.wr (.cell a)∧¬R0 (.cell a)
structure GI(R0:Loc→Prop)(T:Terr)(w:World):Prop where
 kn:∀b,T.kn b
 r0:∀l,R0 l→T.rd l
 low:∀l,T.rd l→l.low w.heap.size
 cov:∀b,b<w.heap.size→FullB R0 T w b∨PartB R0 T w b
 ob:∀b,R0 (.cell ⟨b,0,none⟩)→T.wr (.obj b)
 noo:∀b,¬R0 (.obj b)
section
variable {R0:Loc→Prop} {T T':Terr} {w w₁ w':World} {q:Bool}
theorem kin_cells{o:Obj}{c:Array Value}{e:TypeId}{f:Nat×Nat}(h:Kin o (.cells c e f)):∃c e f,o= .cells c e f:=by
 cases o<;>first
  |exact⟨_,_,_,rfl⟩
  |(obtain⟨_,_,_,_,h⟩:=h;cases h)
  |(cases(show Obj.cells c e f=_ from h))
theorem row_kin{w w₁:World}{b:Nat}(h:Row w b)(hk:∀o,w.heap[b]?=some o→∃o',w₁.heap[b]?=some o'∧Kin o o'):Row w₁ b:=by
 obtain⟨c,e,h⟩:=h
 obtain⟨o',h1,c',rfl,_⟩:=hk _ h
 exact⟨_,_,h1⟩
theorem GI.rely(h:GI R0 T w)(r:Rely q T w w₁):GI R0 T w₁:=by
 refine⟨h.kn,h.r0,fun l hl=>Loc.low_mono r.size (h.low l hl),fun b hb=>?_,h.ob,h.noo⟩
 rcases Nat.lt_or_ge b w.heap.size with hl|hl
 ·rcases h.cov b hl with⟨h1,h2,h3⟩|⟨h1,h2⟩
  ·refine .inl ⟨h1,fun⟨c,e,f,hc⟩=>h2 ?_,h3⟩
   obtain⟨o',h4,h5⟩:=r.kin b _ (.inl (h.kn b)) (Array.getElem?_eq_getElem hl)
   rw[hc] at h4
   obtain rfl:=Option.some.inj h4
   obtain⟨c',e',f',h6⟩:=kin_cells h5
   exact⟨c',e',f',by rw[Array.getElem?_eq_getElem hl,h6]⟩
  ·exact .inr ⟨row_kin h1 fun o ho=>r.kin b o (.inl (h.kn b)) ho,h2⟩
 ·refine .inr ⟨r.rows h.kn b (.inl hl) hb,⟨b,0,none⟩,rfl,fun hw=>?_,fun hw=>?_⟩
  ·have:b<w.heap.size:=h.low _ (.inr hw)
   omega
  ·have:b<w.heap.size:=h.low _ (h.r0 _ hw)
   omega
theorem GI.step(h:GI R0 T w)(hs:w.heap.size≤w'.heap.size)(hk:∀b o,b<w.heap.size→w.heap[b]?=some o→∃o',w'.heap[b]?=some o'∧Kin o o'):GI R0 (T.grow w.heap.size w'.heap.size) w':=by
 refine⟨h.kn,fun l hl=>Terr.grow_of (h.r0 l hl),fun l hl=>?_,fun b hb=>?_,fun b hb=>.inl (h.ob b hb),h.noo⟩
 ·rcases Terr.grow_rd.1 hl with hl|hl
  ·exact Loc.low_mono hs (h.low l hl)
  ·cases l<;>first|exact hl.2|exact hl.elim
 ·rcases Nat.lt_or_ge b w.heap.size with hl|hl
  ·rcases h.cov b hl with⟨h1,h2,h3⟩|⟨h1,a,ha,h2,h3⟩
   ·refine .inl ⟨fun a ha=>(h1 a ha).imp .inl id,fun⟨c,e,f,hc⟩=>?_,Terr.grow_of h3⟩
    obtain⟨o',h4,h5⟩:=hk b _ hl (Array.getElem?_eq_getElem hl)
    rw[hc] at h4
    obtain rfl:=Option.some.inj h4
    obtain⟨c',e',f',h6⟩:=kin_cells h5
    exact(h2 ⟨c',e',f',by rw[Array.getElem?_eq_getElem hl,h6]⟩).imp .inl id
   ·refine .inr ⟨row_kin h1 fun o ho=>hk b o hl ho,a,ha,fun hw=>?_,h3⟩
    rcases hw with hw|hw
    ·exact h2 hw
    ·have:w.heap.size≤a.block:=hw.1
     omega
  ·exact .inl ⟨fun a ha=>.inl (.inr ⟨by omega,by omega⟩),fun _=>.inl (.inr ⟨hl,hb⟩),.inr (.inr ⟨hl,hb⟩)⟩
theorem GI.alloc(h:GI R0 T w)(o:Obj):GI R0 (T.grow w.heap.size (w.heap.size+1)) (w.alloc o):=by
 have:=h.step (w':=w.alloc o) (by rw[World.size_alloc];omega) fun b o' hb ho=>⟨o',(RowKit.Below.heap_alloc _ _ _ hb).trans ho,.refl o'⟩
 rwa[World.size_alloc] at this
theorem GI.sets(h:GI R0 T w){B:Nat}{c c':Array Value}{e:TypeId}{f:Nat×Nat}(S:Sets B w w')(hc:w.heap[B]?=some (.cells c e f))(hc':w'.heap[B]?=some (.cells c' e f))(hsz:c'.size=c.size)(hw:¬IsWg c):GI R0 T w':=by
 have:=h.step (w':=w') (Nat.le_of_eq S.size.symm) fun b o hb ho=>by
  by_cases hbB:b=B
  ·subst hbB
   rw[hc] at ho
   obtain rfl:=Option.some.inj ho
   exact⟨_,hc',c',rfl,hsz,fun x=>absurd x hw⟩
  ·exact⟨o,(S.rest b hbB).trans ho,.refl o⟩
 rwa[S.size,grow_same] at this
theorem GI.turn(h:GI R0 T w)(hkn:T'.kn=T.kn)(hrd:∀l,T'.rd l↔T.rd l)(hwr:∀l,T'.wr l→T.wr l∨R0 l)(hwr':∀l,T.wr l→T'.wr l∨R0 l):GI R0 T' w:=by
 refine⟨fun b=>by rw[hkn];exact h.kn b,fun l hl=>(hrd l).2 (h.r0 l hl),fun l hl=>h.low l ((hrd l).1 hl),fun b hb=>?_,fun b hb=>(hwr' _ (h.ob b hb)).resolve_right (h.noo b),h.noo⟩
 rcases h.cov b hb with⟨h1,h2,h3⟩|⟨h1,a,ha,h2,h3⟩
 ·exact .inl ⟨fun a ha=>(h1 a ha).elim (hwr' _) .inr,fun hc=>(h2 hc).elim (hwr' _) .inr,(hrd _).2 h3⟩
 ·exact .inr ⟨h1,a,ha,fun hw=>(hwr _ hw).elim h2 h3,h3⟩
def HidB(T:Terr)(w:World)(b:Nat):Prop:=b<w.heap.size∧∃a:Addr,a.block=b∧¬T.wr (.cell a)
theorem like_exists{H:Nat→Prop}{w:World}(h:∀b,H b→Row w b):∃l,Like H w l:=by
 classical
 refine⟨{w with heap:=Array.ofFn fun i:Fin w.heap.size=>if H i.1 then(match w.heap[i.1] with| .cells _ e _=>Obj.cells #[] e (0,0)|o=>o) else w.heap[i.1]},by simp,fun b hb=>?_,fun b hb=>?_,rfl,rfl⟩
 ·rcases Nat.lt_or_ge b w.heap.size with hl|hl
  ·simp[hl,hb]
  ·rw[Array.getElem?_eq_none (by simpa using hl),Array.getElem?_eq_none hl]
 ·obtain⟨c,e,hc⟩:=h b hb
  have hl:=(Array.getElem?_eq_some_iff.1 hc).1
  have hc':w.heap[b]= .cells c e (0,0):=(Array.getElem?_eq_some_iff.1 hc).2
  exact⟨c,e,hc,by simp[hl,hb,hc']⟩
theorem GI.hid(h:GI R0 T w)(hq:∀l,R0 l→T.wr l){b:Nat}(hb:HidB T w b):Row w b:=by
 rcases h.cov b hb.1 with⟨h1,_⟩|h1
 ·obtain⟨a,ha,hn⟩:=hb.2
  exact absurd ((h1 a ha).elim id (hq _)) hn
 ·exact h1.1
theorem GI.full(h:GI R0 T w)(hq:∀l,R0 l→T.wr l){b:Nat}(hb:b<w.heap.size)(hn:¬HidB T w b):(∀a:Addr,a.block=b→T.wr (.cell a))∧((∃c e f,w.heap[b]?=some (Obj.cells c e f))→T.wr (.obj b))∧T.rd (.obj b):=by
 have hall:∀a:Addr,a.block=b→T.wr (.cell a):=fun a ha=>Classical.byContradiction fun x=>hn ⟨hb,a,ha,x⟩
 rcases h.cov b hb with⟨h1,h2,h3⟩|⟨_,a,ha,h2,_⟩
 ·exact⟨hall,fun hc=>(h2 hc).elim id (hq _),h3⟩
 ·exact absurd (hall a ha) h2
theorem GI.covers(h:GI R0 T w)(hq:∀l,R0 l→T.wr l):Covers false (HidB T w) T w:=
 ⟨fun a ha hn=>(h.full hq ha hn).1 a rfl,fun b hn hc=>(h.full hq (by obtain⟨c,e,f,hc⟩:=hc;exact(Array.getElem?_eq_some_iff.1 hc).1) hn).2.1 hc,(fun e=>by cases e),fun b hb hn=>(h.full hq hb hn).2.2,h.kn⟩
theorem GI.after(h:GI R0 T w)(hq:∀l,R0 l→T.wr l)(A:Aft false (HidB T w) T w w'){u:World}(L:Like (HidB T w) w' u)(hro:T'.ro=T.ro)(hkn:T'.kn=T.kn)(hwr:∀l,T'.wr l↔T.wr l∨Fresh w.heap.size w'.heap.size l):GI R0 T' w':=by
 have hrd:∀l,T'.rd l↔T.rd l∨Fresh w.heap.size w'.heap.size l:=fun l=>by
  simp only[Terr.rd,hro,hwr,or_assoc]
 refine⟨fun b=>by rw[hkn];exact h.kn b,fun l hl=>(hrd l).2 (.inl (h.r0 l hl)),fun l hl=>?_,fun b hb=>?_,fun b hb=>(hwr _).2 (.inl (h.ob b hb)),h.noo⟩
 ·rcases(hrd l).1 hl with hl|hl
  ·exact Loc.low_mono A.size (h.low l hl)
  ·cases l<;>first|exact hl.2|exact hl.elim
 ·rcases Nat.lt_or_ge b w.heap.size with hl|hl
  ·by_cases hH:HidB T w b
   ·have hr:=row_kin (h.hid hq hH) fun o ho=>A.kin b o hH ho
    obtain⟨a,ha,hn⟩:=hH.2
    refine .inr ⟨hr,a,ha,fun hw=>?_,fun hR=>hn (hq _ hR)⟩
    rcases(hwr _).1 hw with hw|hw
    ·exact hn hw
    ·have:w.heap.size≤a.block:=hw.1
     omega
   ·obtain⟨h1,h2,h3⟩:=h.full hq hl hH
    refine .inl ⟨fun a ha=>.inl ((hwr _).2 (.inl (h1 a ha))),fun⟨c,e,f,hc⟩=>.inl ((hwr _).2 (.inl (h2 ?_))),(hrd _).2 (.inl h3)⟩
    refine Classical.byContradiction fun hno=>?_
    have:=A.objs rfl b _ (Array.getElem?_eq_getElem hl) fun c' e' f' x=>hno ⟨c',e',f',by rw[Array.getElem?_eq_getElem hl,x]⟩
    rw[hc] at this
    exact hno ⟨c,e,f,by rw[Array.getElem?_eq_getElem hl];exact this.symm⟩
  ·exact .inl ⟨fun a ha=>.inl ((hwr _).2 (.inr ⟨by omega,by omega⟩)),fun _=>.inl ((hwr _).2 (.inr ⟨hl,hb⟩)),.inr ((hwr _).2 (.inr ⟨hl,hb⟩))⟩
end
section
variable {σ:Type} {C:Fix σ} {Anc:Nat→(Nat→WV)→(Nat→WState σ)→Goroutine→World→Prop} {T:Terr} {d p n:Nat} {ws:Nat→WV} {st:Nat→WState σ} {b:Frame} {a:Act} {k:List Item} {cs:List Frame} {w:World} {L:Fns} {c:Code} {Q:Exit→Act→World→Prop}
theorem SW.lone(F:FuncsOK false C.P L)(hb:∃fn,C.P.funcs[b.fn]?=some fn)(hk:b.kind= .normal)(hc:codePlain false none C.P L c=true)(hd:a.defers=[])(hq:QuietS n st)(I:GI C.R0 T w)(hR:∀l,C.R0 l→T.wr l)(hQ:∀e a u,Q e a u→e= .normal∨e= .ret)(LH:∀u,Like (HidB T w) w u→c.wp C.P Q a u)(kk:∀a' u w' T',Q .normal a' u→a'.defers=[]→Like (HidB T w) w' u→Aft false (HidB T w) T w w'→GI C.R0 T' w'→(∀l,T'.rd l↔T.rd l∨Fresh w.heap.size w'.heap.size l)→(∀l,T'.wr l↔T.wr l∨Fresh w.heap.size w'.heap.size l)→SW C Anc T' d p n ws st (G (b.at a' k) cs) w')(kr:∀a' u w' T' todo,Q .ret a' u→a'.defers=[]→Like (HidB T w) w' u→Aft false (HidB T w) T w w'→GI C.R0 T' w'→(∀l,T'.rd l↔T.rd l∨Fresh w.heap.size w'.heap.size l)→(∀l,T'.wr l↔T.wr l∨Fresh w.heap.size w'.heap.size l)→SW C Anc T' d p n ws st (G {b.at a' todo with mode:=.returning} cs) w'):
  SW C Anc T d p n ws st (G (b.at a (.code c::k)) cs) w:=by
 obtain⟨l₀,L₀⟩:=like_exists (H:=HidB T w) fun b hb=>I.hid hR hb
 refine .own true (fun _=>hq) _ (lone_piece F hb hk hc hd (I.covers hR) L₀ hQ LH) fun T' g' w' ⟨a',u,hl,hd',hcase,_,A,hro,hkn,hwr⟩=>?_
 have hrd:∀l,T'.rd l↔T.rd l∨Fresh w.heap.size w'.heap.size l:=fun l=>by simp only[Terr.rd,hro,hwr,or_assoc]
 have I':=I.after hR A hl hro hkn hwr
 rcases hcase with⟨hq',rfl⟩|⟨hq',todo,rfl⟩
 ·exact kk a' u w' T' hq' hd' hl A I' hrd hwr
 ·exact kr a' u w' T' todo hq' hd' hl A I' hrd hwr
end
end
section
open Go Go.Conc
structure Fr(S:Nat→Prop)(T T':Terr)(w w':World):Prop where
 size:w.heap.size≤w'.heap.size
 ro:T'.ro=T.ro
 kn:T'.kn=T.kn
 wr:∀l,T.wr l→T'.wr l
 new:∀l,T'.wr l→T.wr l∨¬l.low w.heap.size
 cell:∀a,T.rd (.cell a)→a.block<w.heap.size→¬S a.block→w'.cell? a=w.cell? a
 kin:∀(b:Nat) (o:Obj),T.kn b→w.heap[b]?=some o→∃o',w'.heap[b]?=some o'∧Kin o o'
 own:∀(r:Nat) (o:Obj),T.wr (.obj r)→w.heap[r]?=some o→(∀c e f,o≠Obj.cells c e f)→w'.heap[r]?=some o
 os:w'.os=w.os
 out:w'.output=w.output
section
variable {S S':Nat→Prop} {T T' T'':Terr} {w w₁ w' w'':World} {q:Bool}
theorem Fr.refl(S:Nat→Prop)(T:Terr)(w:World):Fr S T T w w:=⟨Nat.le_refl _,rfl,rfl,fun _ h=>h,fun _ h=>.inl h,fun _ _ _ _=>rfl,fun _ o _ h=>⟨o,h,.refl o⟩,fun _ _ _ h _=>h,rfl,rfl⟩
theorem Fr.rd(h:Fr S T T' w w'){l:Loc}(hl:T.rd l):T'.rd l:=hl.elim (fun x=>.inl (h.ro▸x)) fun x=>.inr (h.wr _ x)
theorem Fr.trans(h:Fr S T T' w w')(h':Fr S T' T'' w' w''):Fr S T T'' w w'':=by
 refine⟨Nat.le_trans h.size h'.size,h'.ro.trans h.ro,h'.kn.trans h.kn,fun l hl=>h'.wr l (h.wr l hl),fun l hl=>?_,fun a ha hb hn=>?_,fun b o hk ho=>?_,fun r o hw ho hn=>?_,h'.os.trans h.os,h'.out.trans h.out⟩
 ·rcases h'.new l hl with hl|hl
  ·exact h.new l hl
  ·exact .inr fun x=>hl (Loc.low_mono h.size x)
 ·exact(h'.cell a (h.rd ha) (Nat.lt_of_lt_of_le hb h.size) hn).trans (h.cell a ha hb hn)
 ·obtain⟨o₁,h1,k1⟩:=h.kin b o hk ho
  obtain⟨o₂,h2,k2⟩:=h'.kin b o₁ (by rw[h.kn];exact hk) h1
  exact⟨o₂,h2,k1.trans k2⟩
 ·exact h'.own r o (h.wr _ hw) (h.own r o hw ho hn) hn
theorem Fr.mono(h:Fr S T T' w w')(hs:∀b,S b→S' b):Fr S' T T' w w':=⟨h.size,h.ro,h.kn,h.wr,h.new,fun a ha hb hn=>h.cell a ha hb fun x=>hn (hs _ x),h.kin,h.own,h.os,h.out⟩
theorem Fr.then(h:Fr S T T' w w')(h':Fr S' T' T'' w' w'')(hs:∀b,S' b→S b∨w.heap.size≤b):Fr S T T'' w w'':=by
 refine⟨Nat.le_trans h.size h'.size,h'.ro.trans h.ro,h'.kn.trans h.kn,fun l hl=>h'.wr l (h.wr l hl),fun l hl=>?_,fun a ha hb hn=>?_,fun b o hk ho=>?_,fun r o hw ho hn=>?_,h'.os.trans h.os,h'.out.trans h.out⟩
 ·rcases h'.new l hl with hl|hl
  ·exact h.new l hl
  ·exact .inr fun x=>hl (Loc.low_mono h.size x)
 ·refine(h'.cell a (h.rd ha) (Nat.lt_of_lt_of_le hb h.size) fun x=>?_).trans (h.cell a ha hb hn)
  rcases hs _ x with x|x
  ·exact hn x
  ·omega
 ·obtain⟨o₁,h1,k1⟩:=h.kin b o hk ho
  obtain⟨o₂,h2,k2⟩:=h'.kin b o₁ (by rw[h.kn];exact hk) h1
  exact⟨o₂,h2,k1.trans k2⟩
 ·exact h'.own r o (h.wr _ hw) (h.own r o hw ho hn) hn
theorem Fr.rely(S:Nat→Prop)(r:Rely q T w w₁):Fr S T T w w₁:=
 ⟨r.size,rfl,rfl,fun _ h=>h,fun _ h=>.inl h,fun a ha _ _=>r.cell a ha,fun b o hk ho=>r.kin b o (.inl hk) ho,r.own,r.os,r.out⟩
theorem Fr.alloc(S:Nat→Prop)(T:Terr)(w:World)(o:Obj):Fr S T (T.grow w.heap.size (w.heap.size+1)) w (w.alloc o):=by
 refine⟨by rw[World.size_alloc];omega,rfl,rfl,fun l h=>.inl h,fun l h=>h.imp id fun h x=>?_,fun a _ hb _=>World.cell?_alloc_lt _ _ _ hb,fun b o' _ ho=>⟨o',(RowKit.Below.heap_alloc _ _ _ (Array.getElem?_eq_some_iff.1 ho).1).trans ho,.refl o'⟩,fun r o' _ ho _=>(RowKit.Below.heap_alloc _ _ _ (Array.getElem?_eq_some_iff.1 ho).1).trans ho,rfl,rfl⟩
 exact not_fresh x h
theorem Fr.sets{B:Nat}{c c':Array Value}{e:TypeId}{f:Nat×Nat}(Z:Sets B w w')(hc:w.heap[B]?=some (.cells c e f))(hc':w'.heap[B]?=some (.cells c' e f))(hsz:c'.size=c.size)(hw:¬IsWg c):Fr (· =B) T T w w':=by
 refine⟨Nat.le_of_eq Z.size.symm,rfl,rfl,fun _ h=>h,fun _ h=>.inl h,fun a _ _ hn=>by simp only[World.cell?,Z.rest _ hn],fun b o _ ho=>?_,fun r o _ ho hn=>?_,Z.os,Z.out⟩
 ·by_cases hb:b=B
  ·subst hb
   rw[hc] at ho
   obtain rfl:=Option.some.inj ho
   exact⟨_,hc',c',rfl,hsz,fun x=>absurd x hw⟩
  ·exact⟨o,(Z.rest b hb).trans ho,.refl o⟩
 ·refine(Z.rest r fun e'=>?_).trans ho
  subst e'
  rw[hc] at ho
  exact hn _ _ _ (Option.some.inj ho).symm
structure OwnR(T:Terr)(w:World)(b:Nat)(c:Array Value)(e:TypeId):Prop where
 cells:∀a:Addr,a.block=b→T.wr (.cell a)
 obj:T.wr (.obj b)
 heap:w.heap[b]?=some (.cells c e (0,0))
theorem OwnR.rely{b:Nat}{c:Array Value}{e:TypeId}(h:OwnR T w b c e)(r:Rely q T w w₁):OwnR T w₁ b c e:=by
 refine⟨h.cells,h.obj,?_⟩
 obtain⟨o',h1,c',rfl,h2,_⟩:=r.kin b _ (.inr h.obj) h.heap
 have:c'=c:=by
  apply Array.ext_getElem?
  intro i
  have:=r.cell ⟨b,i,none⟩ (.inr (h.cells _ rfl))
  simpa[World.cell?,h1,h.heap] using this
 rw[h1,this]
theorem OwnR.fr{b:Nat}{c:Array Value}{e:TypeId}(h:OwnR T w b c e)(F:Fr S T T' w w')(hk:T.kn b)(hn:¬S b):OwnR T' w' b c e:=by
 refine⟨fun a ha=>F.wr _ (h.cells a ha),F.wr _ h.obj,?_⟩
 obtain⟨o',h1,c',rfl,h2,_⟩:=F.kin b _ hk h.heap
 have hb:=(Array.getElem?_eq_some_iff.1 h.heap).1
 have:c'=c:=by
  apply Array.ext_getElem?
  intro i
  have:=F.cell ⟨b,i,none⟩ (.inr (h.cells _ rfl)) hb hn
  simpa[World.cell?,h1,h.heap] using this
 rw[h1,this]
theorem OwnR.lt{b:Nat}{c:Array Value}{e:TypeId}(h:OwnR T w b c e):b<w.heap.size:=(Array.getElem?_eq_some_iff.1 h.heap).1
theorem OwnR.cell{b:Nat}{c:Array Value}{e:TypeId}(h:OwnR T w b c e){i:Nat}{u:Value}(hu:c[i]?=some u):w.cell? ⟨b,i,none⟩=some u:=by simp[World.cell?,h.heap,hu]
theorem OwnR.free{b:Nat}{c:Array Value}{e:TypeId}(h:OwnR T w b c e)(i:Nat):w.frozen? ⟨b,i,none⟩=false:=by simp[World.frozen?,h.heap]
theorem OwnR.rd{b:Nat}{c:Array Value}{e:TypeId}(h:OwnR T w b c e)(i:Nat):T.rd (.cell ⟨b,i,none⟩):=.inr (h.cells _ rfl)
theorem OwnR.new(T:Terr)(w:World)(c:Array Value)(e:TypeId):OwnR (T.grow w.heap.size (w.heap.size+1)) (w.alloc (.cells c e (0,0))) w.heap.size c e:=
 ⟨fun a ha=>.inr ⟨by omega,by omega⟩,.inr ⟨Nat.le_refl _,Nat.lt_succ_self _⟩,by show(w.heap.push _)[w.heap.size]?=_;simp⟩
theorem OwnR.set{b:Nat}{c:Array Value}{e:TypeId}(h:OwnR T w b c e)(i:Nat)(u:Value):OwnR T (w.setCell ⟨b,i,none⟩ u) b (c.setIfInBounds i u) e:=
 ⟨h.cells,h.obj,set_heap (A:=⟨b,i,none⟩) h.heap rfl⟩
theorem OwnR.frSet{b:Nat}{c:Array Value}{e:TypeId}(h:OwnR T w b c e)(i:Nat)(u:Value)(hw:¬IsWg c):Fr (· =b) T T w (w.setCell ⟨b,i,none⟩ u):=
 Fr.sets (Sets.set w ⟨b,i,none⟩ u) h.heap (h.set i u).heap (by simp) hw
theorem OwnR.giSet{R0:Loc→Prop}{b:Nat}{c:Array Value}{e:TypeId}(h:OwnR T w b c e)(I:GI R0 T w)(i:Nat)(u:Value)(hw:¬IsWg c):GI R0 T (w.setCell ⟨b,i,none⟩ u):=
 I.sets (Sets.set w ⟨b,i,none⟩ u) h.heap (h.set i u).heap (by simp) hw
theorem OwnR.guar{na:Bool}{b:Nat}{c:Array Value}{e:TypeId}(h:OwnR T w b c e)(i:Nat)(u:Value){es:Array Event}(he:∀e∈es,e=⟨.cell ⟨b,i,none⟩,true,false⟩):Guar true na T w (w.setCell ⟨b,i,none⟩ u) es:=
 (Sets.set w ⟨b,i,none⟩ u).guar h.heap (h.set i u).heap (by simp) (fun j _=>h.cells _ rfl) (fun _=>h.obj) (fun e=>by cases e) fun e hm=>⟨i,he e hm,h.cells _ rfl⟩
theorem OwnR.put4{b:Nat}{a0 a1 a2 a3 v0 v1 v2 v3:Value}{e:TypeId}(h:OwnR T w b #[a0,a1,a2,a3] e):OwnR T ((((w.setCell ⟨b,0,none⟩ v0).setCell ⟨b,1,none⟩ v1).setCell ⟨b,2,none⟩ v2).setCell ⟨b,3,none⟩ v3) b #[v0,v1,v2,v3] e:=by
 have:=(((h.set 0 v0).set 1 v1).set 2 v2).set 3 v3
 simpa using this
end
theorem not_wg1{v:Value}:¬IsWg #[v]:=fun⟨a,b,h⟩=>by have:=congrArg Array.size h;simp at this
theorem not_wg4{a b c d:Value}:¬IsWg #[a,b,c,d]:=fun⟨x,y,h⟩=>by have:=congrArg Array.size h;simp at this
theorem heap_new1(w:World)(o:Obj):(w.alloc o).heap[w.heap.size]?=some o:=by show(w.heap.push _)[w.heap.size]?=_;simp
section
variable {P:Program} {q:Bool} {X:Nat→Terr→Goroutine→World→Prop} {T:Terr} {n:Nat} {b:Frame} {a:Act} {w:World} {k:List Item} {cs:List Frame} {ops:Array Oper} {i:Nat} {rest:List Nat} {o:Oper}
theorem Gait.allot(H:Gait P true q false X)(f:Nat→Value)(ob:Obj)(ho:ops[i]?=some o)(hw:Region.wanted o (yielded ops a.tmps)=true)(hk:b.kind≠ .early)(hr:∀w₁,(execOp a.eval o).run P w₁= .ok (.value (f w₁.heap.size)) (w₁.alloc ob))(he:∀w₁,(execOp a.eval o).events P w₁ #[]= #[])(kk:∀w₁,Rely q T w w₁→X n (T.grow w₁.heap.size (w₁.heap.size+1)) (G (b.at (a.put o.dst (f w₁.heap.size)) (.inRegion ops rest::k)) cs) (w₁.alloc ob)):
  X (n+1) T (G (b.at a (.inRegion ops (i::rest)::k)) cs) w:=by
 refine H.turn ho hw hk fun w₁ r=>⟨_,_,.inl (hr w₁),guar_alloc (fun e=>by cases e) (fun e hm=>?_),?_⟩
 ·have:=mem_listed hm
  rw[he] at this
  simp at this
 ·rw[World.size_alloc];exact kk w₁ r
theorem Gait.store1(H:Gait P true q false X){B:Nat}{c:Array Value}{e:TypeId}(O:OwnR T w B c e)(j:Nat)(v:Value)(ho:ops[i]?=some o)(hw:Region.wanted o (yielded ops a.tmps)=true)(hk:b.kind≠ .early)(h:∀w₁,OwnR T w₁ B c e→(execOp a.eval o).run P w₁= .ok .skip (w₁.setCell ⟨B,j,none⟩ v)∧∀e∈(execOp a.eval o).events P w₁ #[],e=⟨.cell ⟨B,j,none⟩,true,false⟩)(kk:∀w₁,Rely q T w w₁→OwnR T (w₁.setCell ⟨B,j,none⟩ v) B (c.setIfInBounds j v) e→X n T (G (b.at (a.put o.dst undef) (.inRegion ops rest::k)) cs) (w₁.setCell ⟨B,j,none⟩ v)):
  X (n+1) T (G (b.at a (.inRegion ops (i::rest)::k)) cs) w:=by
 refine H.turn ho hw hk fun w₁ r=>?_
 have O1:=O.rely r
 obtain⟨h1,h2⟩:=h w₁ O1
 refine⟨undef,_,.inr ⟨rfl,h1⟩,O1.guar j v fun e hm=>h2 e (mem_listed hm),?_⟩
 rw[World.size_setCell,grow_same]
 exact kk w₁ r (O1.set j v)
theorem Gait.store4(H:Gait P true q false X){B:Nat}{a0 a1 a2 a3:Value}{e:TypeId}(O:OwnR T w B #[a0,a1,a2,a3] e)(v0 v1 v2 v3:Value)(ho:ops[i]?=some o)(hw:Region.wanted o (yielded ops a.tmps)=true)(hk:b.kind≠ .early)(h:∀w₁,OwnR T w₁ B #[a0,a1,a2,a3] e→(execOp a.eval o).run P w₁= .ok .skip ((((w₁.setCell ⟨B,0,none⟩ v0).setCell ⟨B,1,none⟩ v1).setCell ⟨B,2,none⟩ v2).setCell ⟨B,3,none⟩ v3)∧ ∀e∈(execOp a.eval o).events P w₁ #[],e=⟨.cell ⟨B,0,none⟩,true,false⟩∨e=⟨.cell ⟨B,1,none⟩,true,false⟩∨e=⟨.cell ⟨B,2,none⟩,true,false⟩∨e=⟨.cell ⟨B,3,none⟩,true,false⟩)(kk:∀w₁ w',Rely q T w w₁→Fr (· =B) T T w₁ w'→OwnR T w' B #[v0,v1,v2,v3] e→(∀R0,GI R0 T w₁→GI R0 T w')→X n T (G (b.at (a.put o.dst undef) (.inRegion ops rest::k)) cs) w'):
  X (n+1) T (G (b.at a (.inRegion ops (i::rest)::k)) cs) w:=by
 refine H.turn ho hw hk fun w₁ r=>?_
 have O1:=O.rely r
 obtain⟨h1,h2⟩:=h w₁ O1
 have Z:Sets B w₁ ((((w₁.setCell ⟨B,0,none⟩ v0).setCell ⟨B,1,none⟩ v1).setCell ⟨B,2,none⟩ v2).setCell ⟨B,3,none⟩ v3):=(((Sets.set w₁ ⟨B,0,none⟩ v0).trans (Sets.set _ ⟨B,1,none⟩ v1)).trans (Sets.set _ ⟨B,2,none⟩ v2)).trans (Sets.set _ ⟨B,3,none⟩ v3)
 have O2:=O1.put4 (v0:=v0) (v1:=v1) (v2:=v2) (v3:=v3)
 refine⟨undef,_,.inr ⟨rfl,h1⟩,Z.guar O1.heap O2.heap rfl (fun j _=>O1.cells _ rfl) (fun _=>O1.obj) (fun e=>by cases e) fun e hm=>?_,?_⟩
 ·rcases h2 e (mem_listed hm) with rfl|rfl|rfl|rfl
  ·exact⟨0,rfl,O1.cells _ rfl⟩
  ·exact⟨1,rfl,O1.cells _ rfl⟩
  ·exact⟨2,rfl,O1.cells _ rfl⟩
  ·exact⟨3,rfl,O1.cells _ rfl⟩
 rw[Z.size,grow_same]
 exact kk w₁ _ r (Fr.sets Z O1.heap O2.heap rfl not_wg4) O2 fun R0 I=>I.sets Z O1.heap O2.heap rfl not_wg4
end
end
end Go.Side
