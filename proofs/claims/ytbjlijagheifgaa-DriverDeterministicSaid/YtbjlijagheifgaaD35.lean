/-
  Texts of Ytbjlijagheifgaa, merged.
-/
import Derived.Test.YtbjlijagheifgaaD33
import Derived.Test.YtbjlijagheifgaaD34
import Derived.Test.YtbjlijagheifgaaD25
import Derived.Test.YtbjlijagheifgaaD24
set_option linter.unusedSimpArgs false
set_option linter.unusedVariables false
namespace Go.Side
section
open Go Go.Conc Go.ConcN Go.Proofs Go.RowKit Go.Proofs.Ytbjlijagheifgaa
def SlSt(u:World)(a:Option Addr)(S:List StepP):Prop:=∀(j:Nat) (s:StepP),S[j]?=some s→okAd a=true∧∀(i:Nat) (x:Value),(stC s)[i]?=some x→u.cell? (adr a (j*4+i))=some x
structure RunRes(u:World)(v0 v1 v2:Value)(S:List StepP)(sums stuck:List Int):Prop where
 steps:∃a c,v0= .slice a S.length c∧SlSt u a S
 sums:∃a c,v1= .slice a sums.length c∧Sl (Value.int .i64) u a sums
 stuck:∃a c,v2= .slice a stuck.length c∧Sl (Value.int .i64) u a stuck
theorem Ext.slSt{u u':World}(h:Ext u u'){a:Option Addr}{S:List StepP}(k:SlSt u a S):SlSt u' a S:=fun j s hj=>⟨(k j s hj).1,fun i x hx=>h.cell ((k j s hj).2 i x hx)⟩
theorem RunRes.ext{u u':World}{v0 v1 v2:Value}{S:List StepP}{sums stuck:List Int}(h:RunRes u v0 v1 v2 S sums stuck)(e:Ext u u'):RunRes u' v0 v1 v2 S sums stuck:=
 ⟨let⟨a,c,h1,h2⟩:=h.steps;⟨a,c,h1,e.slSt h2⟩,let⟨a,c,h1,h2⟩:=h.sums;⟨a,c,h1,e.sl h2⟩,let⟨a,c,h1,h2⟩:=h.stuck;⟨a,c,h1,e.sl h2⟩⟩
theorem TasksAt.mono{w w':World}{pt:Option Addr}{L:List TaskR}(h:TasksAt w pt L)(hc:∀(a:Addr) (x:Value),w.cell? a=some x→w'.cell? a=some x):TasksAt w' pt L:=fun j x hj=>by
 obtain⟨⟨b,o,e,h1⟩,h2⟩:=h j x hj
 refine⟨⟨b,o,e,hc _ _ h1⟩,fun i y hi=>?_⟩
 obtain⟨b',o',e',h3,h4⟩:=h2 i y hi
 exact⟨b',o',e',⟨hc _ _ h3.c0,hc _ _ h3.c1,hc _ _ h3.c2,hc _ _ h3.c3⟩,h4⟩
theorem TasksAt.ext{u u':World}{pt:Option Addr}{L:List TaskR}(h:TasksAt u pt L)(e:Ext u u'):TasksAt u' pt L:=h.mono fun _ _=>e.cell
theorem sumTo_le{f:Nat→Nat}{m:Nat}:∀{n:Nat},(∀k,k<n→f k≤m)→sumTo n f≤n*m
 |0,_=>by simp[sumTo]
 |n+1,h=>by
  have h1:=sumTo_le (n:=n) fun k hk=>h k (by omega)
  have h2:=h n (by omega)
  rw[Nat.succ_mul]
  simp only[sumTo]
  omega
theorem View.back{Shun:Loc→Prop}{w u:World}(V:View Shun w u){a:Addr}{x:Value}(h:u.cell? a=some x):w.cell? a=some x∧a.block<w.heap.size∧¬Shun (.cell a):=by
 have hn:=V.not_hid h
 have h1:=(V.cell hn).symm.trans h
 have hlt:=World.block_lt_of_cell? _ _ h1
 exact⟨h1,hlt,fun hs=>hn (hidS.2 ⟨hlt,a,rfl,hs⟩)⟩
theorem View.seen{Shun:Loc→Prop}{w u:World}(V:View Shun w u){b:Nat}(h:∀a:Addr,a.block=b→¬Shun (.cell a)):u.heap[b]?=w.heap[b]?:=
 V.same b fun hh=>let⟨_,a,e,hs⟩:=hidS.1 hh;h a e hs
theorem EndAt.ext{u u':World}{bws bo rb n:Nat}{bx:Nat→Nat}{sm:Nat→Int}{dn:Nat→Bool}{vs:Value}(h:EndAt u bws bo rb n bx sm dn vs)(e:Ext u u'):EndAt u' bws bo rb n bx sm dn vs:=
 ⟨fun k hk=>e.cell (h.row k hk),fun k hk=>e.cell (h.sum k hk),fun k hk=>e.cell (h.done k hk),let⟨v1,v2,h1,h2⟩:=h.out;⟨v1,v2,e.blk _ _ _ _ h1,h2⟩,let⟨a,b,c,h1⟩:=h.res;⟨a,b,c,e.blk _ _ _ _ h1⟩,h.n1,h.n2,h.n3⟩
theorem own_sl{u:World}{base:Nat}{v:Value}{n:Nat}{xs:List Int}(h:u.ownsRow base 3 1 v n (xs.map (Value.int .i64))):∃a c,v= .slice a xs.length c∧Sl (Value.int .i64) u a xs:=by
 obtain⟨a,c,rfl,_⟩:=own_shape h
 have hn:n=xs.length:=by have:=h.1;simp at this;omega
 subst hn
 refine⟨a,c,rfl,?_⟩
 by_cases hx:xs=[]
 ·subst hx
  intro j x hj
  cases hj
 ·obtain⟨g,sp,rfl,_,hb,_⟩:=own_blk h hx
  intro j x hj
  refine⟨rfl,?_⟩
  rw[adr_mk,Nat.zero_add]
  refine hb.cell ?_
  have hl:j<xs.length:=by
   rcases Nat.lt_or_ge j xs.length with h|h
   ·exact h
   ·rw[List.getElem?_eq_none h] at hj;cases hj
  rw[List.getElem?_append_left (by simpa using hl),List.getElem?_map,hj]
  rfl
set_option maxRecDepth 100000 in
theorem results12y{a:Act}{u:World}{rb:Nat}{v0 v1 v2:Value}{k:IntKind}{y:Int}(h6:a.tmps.getD 6 undef= .pointer (some ⟨rb,0,none⟩))(h7:a.tmps.getD 7 undef= .int k y)(hb:Blk u rb 32 [v0,v1,v2]):
  (results Try.f12 a.tmps).run Try.prog u= .ok (.tuple #[.agg #[v0,v1,v2],.int k y]) u:=by
 have c0:=hb.cell (i:=0) rfl
 have c1:=hb.cell (i:=1) rfl
 have c2:=hb.cell (i:=2) rfl
 have hl:(loadVar 32 (⟨rb,0,none⟩:Addr)).run Try.prog u= .ok (.agg #[v0,v1,v2]) u:=by
  have hl':(Instr.loadAt 32 (.pointer (some ⟨rb,0,none⟩))).run Try.prog u= .ok (.agg #[v0,v1,v2]) u:=by
   clear h6 h7
   go_simp
  unfold Instr.loadAt at hl'
  exact hl'
 rw[Array.getD_eq_getD_getElem?] at h6 h7
 simp[results,show Try.f12.results= #[.cell 6 32,.tmp 7] from rfl,h6,h7,asAddr,hl]
structure Joins(C:Fix Wk)(w₀:World)(E:OpV→List Int)(task:Nat→List OpV)(ch:List Int)(n:Nat)(ws:Nat→WV)(st':Nat→WState Wk)(c':Cf)(S':List StepP)(sa':Option Addr)(sc' bo bws:Nat)(w₁:World):Prop where
 run:RunTo E n ch (fun k=>fet ⟨task k,0,none⟩) [] c' S'
 st:∀k,k<n→st' k=stOf (c' k)
 ex:∃(T':Terr) (p:Plc) (nx':Nat→Option (Nat×OpV)) (ex':List (Nat×Array Value×TypeId)),p.bws=bws∧StR ex' sa' sc' S'∧SL C w₀ {p with ex:=ex'} n ws st' nx' T' w₁∧OwnR T' w₁ bo #[.slice sa' S'.length sc',.slice none 0 0,.slice none 0 0] 32
 l1:w₀.heap.size≤bws
 l2:w₀.heap.size≤bo
def cfgAll(c:Cf)(k:Nat):Int:=(c k).2.all
def cfgEnd(c:Cf)(k:Nat):Bool:=(c k).1.isNone
structure JoinV(u:World)(rb n:Nat)(c':Cf)(S':List StepP)(sa':Option Addr)(sc' bo bws:Nat)(ws:Nat→WV):Prop where
 endAt:EndAt u bws bo rb n (fun k=>(ws k).bx) (cfgAll c') (cfgEnd c') (.slice sa' S'.length sc')
 steps:SlSt u sa' S'
 sep:S'≠[]→(sa'.getD default).block≠bo∧(sa'.getD default).block≠rb
theorem joins_view{C:Fix Wk}{Shun:Loc→Prop}{w₀ w₁ u₀ u₁:World}{E:OpV→List Int}{task:Nat→List OpV}{ch:List Int}{n rb:Nat}{ws:Nat→WV}{st':Nat→WState Wk}{c':Cf}{S':List StepP}{sa':Option Addr}{sc' bo bws:Nat}(FA:FixAt C Shun w₀)(hs:C.sum=Wk.all)(hlow:∀l,Shun l→l.low w₀.heap.size)(V₀:View Shun w₀ u₀)(V₁:View C.Sh w₁ u₁)(J:Joins C w₀ E task ch n ws st' c' S' sa' sc' bo bws w₁)(hbox:∀k,k<n→∃s b,((b=true∧st' k= .ended s)∨(b=false∧st' k= .offd s))∧BoxIs (ws k) (C.sum s) b w₁)(hr:∃r0 r1 r2,Blk u₀ rb 32 [r0,r1,r2]):
  JoinV u₁ rb n c' S' sa' sc' bo bws ws∧Ext u₀ u₁:=by
 obtain⟨T',p,nx',ex',rfl,hst,R,O⟩:=J.ex
 have hsh:∀l,C.Sh l↔Shun l∨∃a,l= .cell a∧a.block=C.Wg:=fun l=>by rw[FA.Sh]
 have free:∀a:Addr,w₀.heap.size≤a.block→a.block≠C.Wg→¬C.Sh (.cell a):=fun a h1 h2 h=>by
  rcases(hsh _).1 h with h|⟨a',e,h⟩
  ·have:a.block<w₀.heap.size:=hlow _ h
   omega
  ·cases e;exact h2 h
 have nwg:∀{b:Nat},T'.rd (.cell ⟨b,0,none⟩)→b≠C.Wg:=fun{b} h e=>R.wgn ⟨b,0,none⟩ e h
 have seenB:∀{b:Nat},w₀.heap.size≤b→T'.rd (.cell ⟨b,0,none⟩)→u₁.heap[b]?=w₁.heap[b]?:=fun{b} h1 h2=>V₁.seen fun a e=>free a (by omega) (by rw[e];exact nwg h2)
 have rdO:∀{b:Nat} {c:Array Value} {e:TypeId},OwnR T' w₁ b c e→T'.rd (.cell ⟨b,0,none⟩):=fun h=>.inr (h.cells _ rfl)
 have hbws:=seenB J.l1 (rdO R.row)
 have hbo:=seenB J.l2 (rdO O)
 have hrow:u₁.heap[p.bws]?=some (.cells (wsRow n n ws) 75 (0,0)):=hbws.trans R.row.heap
 have hbo':Blk u₁ bo 32 [.slice sa' S'.length sc',.slice none 0 0,.slice none 0 0]:=hbo.trans O.heap
 have bxS:∀k,k<n→u₁.heap[(ws k).bx]?=w₁.heap[(ws k).bx]?:=fun k hk=>seenB (R.bx k hk).2.1 (R.bx k hk).1.r0
 have oldE:Ext u₀ u₁:=by
  refine⟨?_,fun b o hb=>?_,V₁.os.trans (R.kp.os.trans V₀.os.symm),V₁.out.trans (R.kp.out.trans V₀.out.symm)⟩
  ·rw[V₀.size,V₁.size];exact R.kp.size
  have hlt:b<w₀.heap.size:=by rw[←V₀.size];exact(Array.getElem?_eq_some_iff.1 hb).1
  by_cases hh:HidB (TS Shun w₀.heap.size) w₀ b
  ·obtain⟨c1,e1,h1,h2⟩:=V₀.hid b hh
   obtain⟨_,a,ea,hs'⟩:=hidS.1 hh
   obtain⟨o',h3,c3,rfl,_⟩:=R.kp.kin b _ hlt h1
   have hh':HidB (TS C.Sh w₁.heap.size) w₁ b:=hidS.2 ⟨(Array.getElem?_eq_some_iff.1 h3).1,a,ea,(hsh _).2 (.inl hs')⟩
   obtain⟨c2,e2,h4,h5⟩:=V₁.hid b hh'
   rw[h3] at h4
   simp only[Option.some.injEq,Obj.cells.injEq] at h4
   rw[h5,←h4.2.1,←h2]
   exact hb
  ·have hns:∀a:Addr,a.block=b→¬Shun (.cell a):=fun a ea hs'=>hh (hidS.2 ⟨hlt,a,ea,hs'⟩)
   have hns':∀a:Addr,a.block=b→¬C.Sh (.cell a):=fun a ea hs'=>by
    rcases(hsh _).1 hs' with h|⟨a',e',h⟩
    ·exact hns a ea h
    ·cases e'
     rw[FA.Wg] at h;omega
   have h0':w₀.heap[b]?=some o:=(V₀.same b hh).symm.trans hb
   by_cases hcc:∀c e f,o≠Obj.cells c e f
   ·rw[V₁.seen hns']
    exact R.kp.obj b o ((FA.R0 _).2 ⟨⟨_,rfl⟩,hlt,hns _ rfl⟩) h0' hcc
   obtain⟨c,e,f,ho⟩:∃c e f,o=Obj.cells c e f:=Classical.byContradiction fun hx=>hcc fun c e f e'=>hx ⟨c,e,f,e'⟩
   subst ho
   have h0:=h0'
   obtain⟨o',h1,c2,rfl,h2,_⟩:=R.kp.kin b _ hlt h0
   have hcc:c2=c:=by
    apply Array.ext_getElem?
    intro i
    have:=R.kp.cell ⟨b,i,none⟩ ((FA.R0 _).2 ⟨⟨_,rfl⟩,hlt,hns _ rfl⟩)
    simpa[World.cell?,h1,h0] using this
   rw[V₁.seen hns',h1,hcc]
 have hres:∃r0 r1 r2,Blk u₁ rb 32 [r0,r1,r2]:=by
  obtain⟨r0,r1,r2,h⟩:=hr
  exact⟨r0,r1,r2,oldE.blk _ _ _ _ h⟩
 refine⟨⟨⟨fun k hk=>?_,fun k hk=>?_,fun k hk=>?_,⟨_,_,hbo',rfl,rfl⟩,hres,?_,?_,fun k hk e=>?_⟩,fun j s hj=>?_,fun hne=>?_⟩,oldE⟩
 ·have:=wsRow_get (ws:=ws) hk (Nat.le_refl n)
  simp[World.cell?,hrow,this]
 ·obtain⟨s,b,hcase,hb⟩:=hbox k hk
  have e:s=(c' k).2:=by
   rcases hcase with⟨_,h⟩|⟨_,h⟩
   all_goals
    rw[J.st k hk,stOf] at h
    split at h<;>cases h
    rfl
  rw[World.cell?_of_block (w:=w₁) (bxS k hk),hb.1,hs,e]
  rfl
 ·obtain⟨s,b,hcase,hb⟩:=hbox k hk
  have e:b=(c' k).1.isNone:=by
   rcases hcase with⟨rfl,h⟩|⟨rfl,h⟩
   all_goals
    rw[J.st k hk,stOf] at h
    split at h<;>rename_i hc<;>first|(cases h;done)|(rw[hc];rfl)
  rw[World.cell?_of_block (w:=w₁) (bxS k hk),hb.2,e]
  rfl
 ·rintro rfl
  obtain⟨r0,r1,r2,h⟩:=hr
  have:=h.lt
  rw[V₀.size] at this
  have:=J.l2
  omega
 ·rintro rfl
  have h1:=R.row.heap.symm.trans O.heap
  simp at h1
 ·have h1:=(R.bx k hk).1.c0
  rw[e] at h1
  have h2:w₁.cell? ⟨bo,0,none⟩=some (.slice sa' S'.length sc'):=by simp[World.cell?,O.heap]
  rw[h2] at h1
  cases h1
 ·rcases hst with⟨_,_,rfl,_⟩|⟨g,cur,rfl,rfl,h1,h2,h3,h4⟩
  ·cases hj
  ·refine⟨rfl,fun i x hx=>?_⟩
   obtain⟨h5,h6,_⟩:=R.ex _ (List.mem_singleton.2 rfl)
   have hi:i<4:=by
    rcases Nat.lt_or_ge i 4 with h|h
    ·exact h
    ·rw[List.getElem?_eq_none (by simpa[stC] using h)] at hx;cases hx
   have hg:=seenB (b:=g) h6 (rdO h5)
   rw[adr_mk,World.cell?_of_block (w:=w₁) hg]
   have:=take_get h4 hj hi
   simp only[World.cell?,h5.heap]
   simpa[this] using hx
 ·rcases hst with⟨_,_,rfl,_⟩|⟨g,cur,rfl,rfl,h1,h2,h3,h4⟩
  ·exact absurd rfl hne
  ·obtain⟨h5,h6,_⟩:=R.ex _ (List.mem_singleton.2 rfl)
   refine⟨fun e=>?_,fun e=>?_⟩
   ·have e':g=bo:=e
    subst e'
    have h7:=h5.heap.symm.trans O.heap
    simp at h7
   ·have e':g=rb:=e
    subst e'
    obtain⟨_,_,_,h⟩:=hr
    have:=h.lt
    rw[V₀.size] at this
    have h8:w₀.heap.size≤g:=h6
    omega
structure RunIn(u:World)(pt:Option Addr)(L:List TaskR)(E:OpV→List Int)(pc:Option Addr)(ch:List Int):Prop where
 tasks:TasksAt u pt L
 eith:∀x∈L,∀y∈x.ops,∃a c,y.eith= .slice a (E y).length c∧Sl (Value.int .i64) u a (E y)∧(E y).length≤1000000
 chs:Sl (Value.int .i64) u pc ch
theorem RunIn.ext{u u':World}{pt:Option Addr}{L:List TaskR}{E:OpV→List Int}{pc:Option Addr}{ch:List Int}(h:RunIn u pt L E pc ch)(e:Ext u u'):RunIn u' pt L E pc ch:=
 ⟨h.tasks.ext e,fun x hx y hy=>let⟨a,c,h1,h2,h3⟩:=h.eith x hx y hy;⟨a,c,h1,e.sl h2,h3⟩,e.sl h.chs⟩
def taskOf(L:List TaskR)(k:Nat):List OpV:=((L[k]?).map (·.ops)).getD []
theorem taskOf_get{L:List TaskR}{k:Nat}{x:TaskR}(h:L[k]?=some x):taskOf L k=x.ops:=by simp[taskOf,h]
theorem taskOf_mem{L:List TaskR}{k:Nat}(h:k<L.length):∃x∈L,taskOf L k=x.ops:=⟨L[k],List.getElem_mem h,by simp[taskOf,h]⟩
theorem okAd_mk{a:Option Addr}(h:okAd a=true):∃b o,a=some ⟨b,o,none⟩:=by
 cases a with
 |none=>cases h
 |some x=>obtain⟨b,o,s⟩:=x;cases s with
  |none=>exact⟨b,o,rfl⟩
  |some y=>cases h
def RunKn(F:World→Prop)(rb:Nat)(v0 v1 v2:Value)(n:Nat)(c':Cf)(S':List StepP)(u':World):Prop:=
 RunRes u' v0 v1 v2 S' (sumsL (cfgAll c') n) (stuckL (cfgEnd c') n)∧∃u,F u∧u.heap.size≤u'.heap.size∧(u'.os=u.os∧u'.output=u.output)∧∀(b:Nat) (o:Obj),b≠rb→u.heap[b]?=some o→u'.heap[b]?=some o
theorem RunKn.ext{F:World→Prop}{rb:Nat}{v0 v1 v2:Value}{n:Nat}{c':Cf}{S':List StepP}:ExtC (RunKn F rb v0 v1 v2 n c' S'):=fun u u' e ⟨h,u₀,h1,h2,⟨h4,h5⟩,h3⟩=>
 ⟨h.ext e,u₀,h1,Nat.le_trans h2 e.size,⟨e.os.trans h4,e.out.trans h5⟩,fun b o hb h=>e.all _ _ (h3 b o hb h)⟩
theorem t12_17_plain:([Item.code t12_17].all (itemPlain false none Try.prog lawFns))=true:=by kernel_rfl
set_option maxRecDepth 100000 in
set_option maxHeartbeats 8000000 in
theorem run_core{N:Nat}{Shun:Loc→Prop}{Qm:Machine→Trace→Prop}{w:World}{F:World→Prop}(K:Kn N Shun w F)(hF:ExtC F)(hN:∀u,F u→N≤u.heap.size){pt pc:Option Addr}{ct cc rb:Nat}{L:List TaskR}{E:OpV→List Int}{ch:List Int}{cs:List Frame}{c:Frame}(hI:∀u,F u→RunIn u pt L E pc ch)(hlen:∀x∈L,x.ops.length≤1000)(hn8:L.length≤8)(hr:∀u,F u→∃r0 r1 r2,Blk u rb 32 [r0,r1,r2])(u1 u3 u4 u5 u7 u8 u9 u10 u11 u12 u13 u14 u15 u16 u17 u18 u19 u20 u21 u22 u23 u24 u25 u26 u27 u28 u29 u30 u31 u32 u33 u34 u35 u36 u37 u38 u39 u40 u41 u42 u43 u44 u45 u46 u47 u48 u49 u50 u51 u52 u53 u54 u55 u56 u57 u58 u59 u60 u61 u62 u63 u64 u65 u66 u67 u68 u69 u70 u71 u72 u73 u74 u75 u76 u77 u78:Value)(kk:∀(c':Cf) (S':List StepP) (Shun':Loc→Prop) (w':World) (v0 v1 v2:Value),RunTo E L.length ch (fun k=>fet ⟨taskOf L k,0,none⟩) [] c' S'→Kn N Shun' w' (RunKn F rb v0 v1 v2 L.length c' S')→ SB Try.prog Shun' Qm (G (c.finish (.tuple #[.agg #[v0,v1,v2],.int .i64 0])) cs) w'):
  SB Try.prog Shun Qm (G ((base 12).at ⟨#[.slice pt L.length ct,u1,.slice pc ch.length cc,u3,u4,u5,.pointer (some ⟨rb,0,none⟩),u7,u8,u9,u10,u11,u12,u13,u14,u15,u16,u17,u18,u19,u20,u21,u22,u23,u24,u25,u26,u27,u28,u29,u30,u31,u32,u33,u34,u35,u36,u37,u38,u39,u40,u41,u42,u43,u44,u45,u46,u47,u48,u49,u50,u51,u52,u53,u54,u55,u56,u57,u58,u59,u60,u61,u62,u63,u64,u65,u66,u67,u68,u69,u70,u71,u72,u73,u74,u75,u76,u77,u78],[]⟩ [.code t12_3]) (c::cs)) w:=by
 refine⟨fun{gs sl t} R h0=>?_⟩
 obtain⟨q,hL⟩:=R.leave
 obtain⟨u₀,V₀⟩:=View.ex K.sh
 have f₀:=K.all u₀ V₀
 have I₀:=hI u₀ f₀
 have bk:∀(a:Addr) (x:Value),u₀.cell? a=some x→w.cell? a=some x:=fun a x h=>(V₀.back h).1
 have r0:∀{a:Addr} {x:Value},u₀.cell? a=some x→(∃b,Loc.cell a= .cell b)∧(Loc.cell a).low w.heap.size∧¬Shun (.cell a):=fun h=>⟨⟨_,rfl⟩,(V₀.back h).2⟩
 let C:Fix Wk:={P:=Try.prog,ty:=72,Wg:=w.heap.size,qc:=w.heap.size+1,R0:=fun l=>(∃a,l= .cell a)∧l.low w.heap.size∧¬Shun l,Sh:=fun l=>Shun l∨∃a,l= .cell a∧a.block=w.heap.size,nxt:=Wk.nxt,ans:=Wk.ans,sum:=Wk.all,good:=fun w'=>∀(a:Addr) (x:Value),u₀.cell? a=some x→w'.cell? a=some x,good_keep:=fun w1 w2 h hg a x e=>(h a (r0 e)).trans (hg a x e)}
 have FA:FixAt C Shun w:=⟨rfl,rfl,rfl,fun _=>Iff.rfl⟩
 let Anc:Nat→(Nat→WV)→(Nat→WState Wk)→Goroutine→World→Prop:=fun n ws st g w₁=>n=L.length∧∃(c':Cf) (S':List StepP) (sa':Option Addr) (sc' bo bws:Nat),Joins C w E (taskOf L) ch n ws st c' S' sa' sc' bo bws w₁∧
  ∃f:Nat→Value,g=G ((base 12).at ⟨#[f 0,f 1,f 2,f 3,f 4,f 5,.pointer (some ⟨rb,0,none⟩),f 7,f 8,f 9,.slice (some ⟨bws,0,none⟩) n n,f 11,f 12,f 13,.pointer (some ⟨bo,0,none⟩),f 15,f 16,f 17,f 18,f 19,f 20,f 21,f 22,f 23,f 24,f 25,f 26,f 27,f 28,f 29,f 30,f 31,f 32,f 33,f 34,f 35,f 36,f 37,f 38,f 39,f 40,f 41,f 42,f 43,f 44,f 45,f 46,f 47,f 48,f 49,f 50,f 51,f 52,f 53,f 54,f 55,f 56,f 57,f 58,f 59,f 60,f 61,f 62,f 63,f 64,f 65,f 66,f 67,f 68,f 69,f 70,f 71,f 72,f 73,f 74,f 75,f 76,f 77,f 78],[]⟩ (.inRegion ops12_16 []:: .code t12_17::[])) (c::cs)
 have hm:measC L.length (fun k=>fet ⟨taskOf L k,0,none⟩)≤100000:=by
  have:=sumTo_le (n:=L.length) (f:=fun k=>szC (fet ⟨taskOf L k,0,none⟩)) (m:=1000) fun k hk=>by
   obtain⟨x,hx,e⟩:=taskOf_mem hk
   refine Nat.le_trans (szC_fet _) ?_
   show(taskOf L k).length≤1000
   rw[e]
   exact hlen x hx
  have h2:L.length*1000≤8*1000:=Nat.mul_le_mul_right _ hn8
  exact Nat.le_trans this (by omega)
 refine(run_joins (C:=C) (Anc:=Anc) (Shun:=Shun) (L:=L) (pt:=pt) (ct:=ct) (n:=L.length) (E:=E) (task:=taskOf L) (ch:=ch) (pc:=pc) (cc:=cc) (k:=[]) (cs:=c::cs) rfl rfl rfl rfl rfl FA K.sh R.low
  (fun w' hg=>I₀.tasks.mono hg) ?hR1 ?hR4 hlen bk rfl hn8 (fun q x hq=>taskOf_get hq) ?hx ?hch hm _ _ _ _ _ _ _ _ _ _ _ _ _ _ _ _ _ _ _ _ _ _ _ _ _ _ _ _ _ _ _ _ _ _ _ _ _ _ _ _ _ _ _ _ _ _ _ _ _ _ _ _ _ _ _ _ _ _ _ _ _ _ _ _ _ _ _ _ _ _ _ _ _ _ _ _ _ ?kk R.past hL h0).bind fun m t' ⟨g0,n',ws,st,hq,J⟩=>?_
 case hR1=>
  intro j b o hj e
  obtain⟨⟨b',o',e',h⟩,_⟩:=I₀.tasks j _ (List.getElem?_eq_getElem hj)
  rw[e] at e'
  cases e'
  exact r0 h
 case hR4=>
  intro x hx j y b o hj e f hf
  obtain⟨i,hi⟩:=List.mem_iff_getElem?.1 hx
  obtain⟨b',o',e',h,_⟩:=(I₀.tasks i x hi).2 j y hj
  rw[e] at e'
  cases e'
  have:f=0∨f=1∨f=2∨f=3:=by omega
  rcases this with rfl|rfl|rfl|rfl
  ·exact r0 h.c0
  ·exact r0 h.c1
  ·exact r0 h.c2
  ·exact r0 h.c3
 case hx=>
  intro k hk y hy
  obtain⟨x,hx,e⟩:=taskOf_mem hk
  rw[e] at hy
  obtain⟨a,c,h1,h2,h3⟩:=I₀.eith x hx y hy
  exact⟨a,c,h1,fun j z hz=>⟨(h2 j z hz).1,bk _ _ (h2 j z hz).2⟩,h3,fun j hj=>r0 (h2 j _ (List.getElem?_eq_getElem hj)).2⟩
 case hch=>
  intro j v hj
  obtain⟨h1,h2⟩:=I₀.chs j v hj
  obtain⟨b,o,rfl⟩:=okAd_mk h1
  exact⟨b,o,rfl,bk _ _ h2,r0 h2⟩
 case kk=>
  intro p ws c' S' st' nx' ex' sa' sc' bo bws bq T' w' v11 v12 v13 v23 v24 v25 v29 v30 v31 v32 v33 v34 v35 v36 v37 v38 v39 v40 v41 v42 v43 e1 e2 hp hrun I hS RR O hb w₁ r
  subst e1
  exact⟨rfl,c',S',sa',sc',bo,p.bws,⟨hrun,I.st,⟨T',p,nx',ex',rfl,hS,RR.rely r,O.rely r⟩,hp.l1,hb⟩,fun i=>((#[.slice pt L.length ct,u1,.slice pc ch.length cc,u3,u4,u5,.pointer (some ⟨rb,0,none⟩),u7,.pointer (some ⟨C.Wg,0,none⟩),.pointer (some ⟨bq,0,none⟩),.slice (some ⟨p.bws,0,none⟩) L.length L.length,v11,v12,v13,.pointer (some ⟨bo,0,none⟩),u15,u16,u17,u18,u19,u20,u21,.chan (some C.qc),v23,v24,v25,.slice pt L.length ct,.int .i64 L.length,.int .i64 L.length,v29,v30,v31,v32,v33,v34,v35,v36,v37,v38,v39,v40,v41,v42,v43,.slice (some ⟨p.bws,0,none⟩) L.length L.length,.slice pc ch.length cc,.slice sa' S'.length sc',.agg #[.slice sa' S'.length sc',.slice none 0 0,.slice none 0 0],.chan (some C.qc),.tuple #[],u50,u51,u52,u53,u54,u55,u56,u57,u58,u59,u60,u61,u62,u63,u64,u65,u66,u67,u68,u69,u70,u71,u72,u73,u74,u75,u76,u77,u78]:Array Value).toList)[i]?.getD undef,rfl⟩
 obtain⟨gs',w₁,sl',g,q',rfl,h0',hsz,hrun,⟨hn,c',S',sa',sc',bo,bws,JJ,f,rfl⟩,hPast,hLeav,hbox⟩:=J.at'
 subst hn
 have S₁:ShunAt C.Sh w₁:=by
  obtain⟨T',p,nx',ex',_,_,RR,_⟩:=JJ.ex
  refine⟨fun l hl=>?_,fun a a' ha e=>?_,fun a ha=>?_⟩
  ·rcases hl with hl|⟨a,rfl,_⟩
   ·exact K.sh.cell l hl
   ·exact⟨a,rfl⟩
  ·rcases ha with ha|⟨a1,e1,h1⟩
   ·exact .inl (K.sh.whole a a' ha e)
   ·cases e1;exact .inr ⟨a',rfl,e.trans h1⟩
  ·rcases ha with ha|⟨a1,e1,h1⟩
   ·have hrow:=K.sh.row a ha
    exact row_kin hrow fun o ho=>RR.kp.kin _ o (by obtain⟨_,_,h⟩:=hrow;exact(Array.getElem?_eq_some_iff.1 h).1) ho
   ·cases e1
    obtain⟨x,y,h⟩:=RR.wg
    rw[h1]
    exact⟨_,_,h⟩
 have hlow₁:∀l,C.Sh l→l.low w₁.heap.size:=fun l hl=>by
  obtain⟨a,rfl⟩:=S₁.cell l hl
  obtain⟨_,_,h⟩:=S₁.row a hl
  exact(Array.getElem?_eq_some_iff.1 h).1
 let F₁:World→Prop:=fun u=>(∃u0,F u0∧Ext u0 u∧u0.heap.size≤bo)∧JoinV u rb L.length c' S' sa' sc' bo bws ws
 have K₁:Kn N C.Sh w₁ F₁:=⟨S₁,fun l hl=>by
  rcases hl with hl|⟨a,rfl,ha⟩
  ·exact K.new l hl
  ·have h1:=hN u₀ f₀
   rw[V₀.size] at h1
   show¬a.block<N
   omega,fun u₁ V₁=>by
  obtain⟨h1,h2⟩:=joins_view (E:=E) (task:=taskOf L) (ch:=ch) FA rfl R.low V₀ V₁ JJ hbox (hr u₀ f₀)
  exact⟨⟨u₀,f₀,h2,by rw[V₀.size];exact JJ.l2⟩,h1⟩⟩
 have hF₁:ExtC F₁:=fun u u' e h=>⟨let⟨u0,h1,h2,h3⟩:=h.1;⟨u0,h1,h2.trans e,h3⟩,EndAt.ext h.2.endAt e,e.slSt h.2.steps,h.2.sep⟩
 have hbl:w.heap.size≤bo:=JJ.l2
 have H:=gait_b Try.prog C.Sh Qm
 refine(SB.into (H.regionEnd (n:=0) (Kn.out K₁ hF₁ fun w₂ K₂=>?_))).run ⟨hPast,⟨q',hLeav⟩,hlow₁⟩ h0'
 refine K₂.lone (items:=[.code t12_17]) (k:=[]) lawOK ⟨_,Try.func12⟩ rfl t12_17_plain rfl (Q:=fun u e a' u'=>e= .ret∧EndPost u bo rb L.length (cfgAll c') (cfgEnd c') (.slice sa' S'.length sc') a' u') (fun u e a' u' h=>.inr h.1) (fun u hu=>ItemsWp.code (wp_end hu.2.endAt hn8 _ _ _ _ _ _ _ _ _ _ _ _ _ _ _ _ _ _ _ _ _ _ _ _ _ _ _ _ _ _ _ _ _ _ _ _ _ _ _ _ _ _ _ _ _ _ _ _ _ _ _ _ _ _ _ _ _ _ _ _ _ _ _ _ _ _ _ _ _ _ _ _ _ _ _ _)) (fun u a' u' w' _ h=>by cases h.1) fun u a' u' w' todo hu ⟨_,hP⟩ hd' gen=>?_
 obtain⟨h6,h7,v1,v2,hb,o1,o2,hupd⟩:=hP
 obtain⟨⟨u0,hF0,hE0,hb0⟩,hJ⟩:=hu
 have hrbl:rb<u0.heap.size:=by obtain⟨_,_,_,h⟩:=hr u0 hF0;exact h.lt
 have hkn:RunKn F rb (.slice sa' S'.length sc') v1 v2 L.length c' S' u':=by
  refine⟨⟨⟨sa',sc',rfl,fun j s hj=>?_⟩,own_sl o1,own_sl o2⟩,u0,hF0,Nat.le_trans hE0.size hupd.size,⟨hupd.os.trans hE0.os,hupd.output.trans hE0.out⟩,fun b o hb h=>?_⟩
  ·obtain⟨h1,h2⟩:=hJ.steps j s hj
   have hs:=hJ.sep (by rintro rfl;cases hj)
   refine⟨h1,fun i x hx=>?_⟩
   have h3:=h2 i x hx
   rw[hupd.cell (World.block_lt_of_cell? _ _ h3) (fun h=>h.elim hs.1 hs.2)]
   exact h3
  ·have hlt:=(Array.getElem?_eq_some_iff.1 h).1
   have h1:=hE0.all _ _ h
   rw[hupd.block b (Array.getElem?_eq_some_iff.1 h1).1 (fun h=>h.elim (by omega) hb)]
   exact h1
 refine SB.leave (F:=fun u''=>RunKn F rb (.slice sa' S'.length sc') v1 v2 L.length c' S' u''∧Blk u'' rb 32 [.slice sa' S'.length sc',v1,v2]) (gen _ (fun x y e h=>⟨RunKn.ext x y e h.1,e.blk _ _ _ _ h.2⟩) ⟨hkn,hb⟩) Try.func12 rfl hd'
  (Q:=fun u v u'=>v= .tuple #[.agg #[.slice sa' S'.length sc',v1,v2],.int .i64 0]∧u'=u) (fun u'' h=>⟨_,u'',results12y h6 h7 h.2,rfl,rfl⟩) fun u'' v u3 w3 h ⟨hv,hu⟩ gen'=>?_
 subst hv
 subst hu
 exact kk c' S' _ _ _ _ _ JJ.run (gen' _ RunKn.ext h.1)
end
end Go.Side
namespace Go.Proofs.Ytbjlijagheifgaa
section
open Go.RowKit
@[go_sem] theorem adr_add (a:Option Addr) (j i:Nat):(adr a j).add i=adr a (j+i):=by
 unfold adr Addr.add
 split
 ·rename_i h;subst h;rfl
 ·simp[Nat.add_assoc]
@[go_sem] theorem adr_fold (a:Option Addr) (j i:Nat):(⟨(adr a j).block,(adr a j).off+i,none⟩:Addr)=adr a (j+i):=by
 simp[adr,Nat.add_assoc]
structure OpD where
 kind:Int
 chan:Int
 val:Int
 ea:Option Addr
 ec:Nat
 el:List Int
 deriving Inhabited
def OpD.ev(x:OpD):Value:=.slice x.ea x.el.length x.ec
def OpD.agg(x:OpD):Value:=.agg #[.int .i64 x.kind,.int .i64 x.chan,.int .i64 x.val,x.ev]
def SlOp(w:World)(a:Option Addr)(xs:List OpD):Prop:=
 ∀(j:Nat) (x:OpD),xs[j]?=some x→okAd a=true∧w.cell? (adr a (j*4))=some (.int .i64 x.kind)∧w.cell? (adr a (j*4+1))=some (.int .i64 x.chan)∧w.cell? (adr a (j*4+2))=some (.int .i64 x.val)∧w.cell? (adr a (j*4+3))=some x.ev
structure OpOk(w:World)(x:OpD):Prop where
 sl:Sl (Value.int .i64) w x.ea x.el
 len:x.el.length≤maxLen
 cap:x.el.length≤x.ec∧x.ec≤maxLen
theorem SlOp.get{w:World}{a:Option Addr}{xs:List OpD}(h:SlOp w a xs){k:Nat}(hk:k<xs.length):
  ∃x,Hid (xs[k]?=some x)∧okAd a=true∧w.cell? (adr a (k*4))=some (.int .i64 x.kind)∧w.cell? (adr a (k*4+1))=some (.int .i64 x.chan)∧w.cell? (adr a (k*4+2))=some (.int .i64 x.val)∧w.cell? (adr a (k*4+3))=some (.slice x.ea x.el.length x.ec):=
 ⟨xs[k],by show xs[k]?=some xs[k];simp[hk],h k _ (by simp[hk])⟩
def Reads(w w':World):Prop:=∀(p:Addr) (v:Value),w.cell? p=some v→w'.cell? p=some v
theorem Reads.below{w w':World}(q:Below w.heap.size w w'):Reads w w':=fun p v h=>by rw[q.cell (World.block_lt_of_cell? _ _ h)];exact h
theorem okAd_mk{a:Option Addr}(h:okAd a=true):∃b o,a=some ⟨b,o,none⟩:=by
 cases a with
 |none=>cases h
 |some x=>obtain⟨b,o,s⟩:=x;cases s with
  |none=>exact⟨b,o,rfl⟩
  |some y=>cases h
theorem Reads.refl(w:World):Reads w w:=fun _ _ h=>h
theorem Sl.reads{α:Type}{f:α→Value}{w w':World}{a:Option Addr}{xs:List α}(h:Sl f w a xs)(q:Reads w w'):Sl f w' a xs:=h.mono fun p v hv _=>q p v hv
theorem SlOp.reads{w w':World}{a:Option Addr}{xs:List OpD}(h:SlOp w a xs)(q:Reads w w'):SlOp w' a xs:=fun j x hj=>by
 obtain⟨h1,h2,h3,h4,h5⟩:=h j x hj
 exact⟨h1,q _ _ h2,q _ _ h3,q _ _ h4,q _ _ h5⟩
theorem OpOk.reads{w w':World}{x:OpD}(h:OpOk w x)(q:Reads w w'):OpOk w' x:=⟨h.1.reads q,h.2,h.3⟩
structure TkD where
 a:Option Addr
 c:Nat
 ops:List OpD
 deriving Inhabited
structure TkOk(w:World)(t:TkD):Prop where
 row:SlOp w t.a t.ops
 ops:∀x∈t.ops,OpOk w x
 len:t.ops.length≤maxLen
 cap:t.ops.length≤t.c∧t.c≤maxLen
def SlT(w:World)(a:Option Addr)(L:List TkD):Prop:=
 ∀(j:Nat) (t:TkD),L[j]?=some t→okAd a=true∧w.cell? (adr a j)=some (.slice t.a t.ops.length t.c)∧TkOk w t
theorem TkOk.reads{w w':World}{t:TkD}(h:TkOk w t)(q:Reads w w'):TkOk w' t:=⟨h.row.reads q,fun x hx=>(h.ops x hx).reads q,h.len,h.cap⟩
theorem SlT.reads{w w':World}{a:Option Addr}{L:List TkD}(h:SlT w a L)(q:Reads w w'):SlT w' a L:=fun j t hj=>by
 obtain⟨h1,h2,h3⟩:=h j t hj
 exact⟨h1,q _ _ h2,h3.reads q⟩
theorem SlT.get{w:World}{a:Option Addr}{L:List TkD}(h:SlT w a L){k:Nat}(hk:k<L.length):
  ∃t,Hid (L[k]?=some t)∧okAd a=true∧w.cell? (adr a k)=some (.slice t.a t.ops.length t.c)∧Hid (TkOk w t):=
 ⟨L[k],by show L[k]?=some L[k];simp[hk],h k _ (by simp[hk])⟩
def chOk(ch:Int)(x:OpD):Bool:=decide (0≤x.chan)&&decide (x.chan<ch)
def vlOk(x:OpD):Bool:=decide (-1073741824≤x.val)&&decide (x.val≤1073741824)
def eithTo(ch:Int)(l:List Int)(i:Nat):Bool:=(List.range i).all fun j=>match l[j]? with|some c=>decide (0≤c)&&(decide (c<ch)&& !decide (c∈l.take j))|none=>false
def eithOk(ch:Int)(l:List Int):Bool:=eithTo ch l l.length
theorem eithTo_succ{ch:Int}{l:List Int}{i:Nat}{c:Int}(h:l[i]?=some c):eithTo ch l (i+1)=(eithTo ch l i&&(decide (0≤c)&&(decide (c<ch)&& !decide (c∈l.take i)))):=by
 simp[eithTo,List.range_succ,h]
theorem eithTo_mono{ch:Int}{l:List Int}{i j:Nat}(h:i≤j)(hf:eithTo ch l i=false):eithTo ch l j=false:=by
 cases he:eithTo ch l j with
 |false=>rfl
 |true=>
  have:eithTo ch l i=true:=by
   unfold eithTo at he⊢
   rw[List.all_eq_true] at he⊢
   intro k hk
   exact he k (by rw[List.mem_range] at hk⊢;omega)
  rw[this] at hf;cases hf
def validO(ch:Int)(x:OpD):Bool:=
 if x.kind=1 then chOk ch x&&vlOk x else if x.kind=2 then chOk ch x else if x.kind=4 then vlOk x else if x.kind=3 then eithOk ch x.el&&decide (0<x.el.length) else false
def validL(ch:Int)(l:List OpD):Bool:=decide (l.length≤30)&&l.all (validO ch)
def validT(ch:Int)(L:List TkD):Bool:=decide (L.length≤8)&&(decide (0≤ch)&&(decide (ch≤8)&&L.all fun t=>validL ch t.ops))
end
end Go.Proofs.Ytbjlijagheifgaa
