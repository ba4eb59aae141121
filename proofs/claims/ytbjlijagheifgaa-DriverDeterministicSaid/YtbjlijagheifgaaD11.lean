/-
  Texts of Ytbjlijagheifgaa, merged.
-/
import Derived.Test.YtbjlijagheifgaaD10
import Derived.Conc.DeferLaws
import Derived.Conc.TokenWalk
import Derived.Below
import Derived.Test.YtbjlijagheifgaaProg
import Derived.KernelRfl
set_option linter.unusedSimpArgs false
set_option linter.unusedVariables false
namespace Go.Side
section
open Go Go.Conc
section
variable {P:Program} {main q na:Bool} {T:Terr} {fn:FuncId} {c:Code} {n m:Nat} {Q:Exit→Act→World→Prop} {a:Act} {w:World} {b:Frame} {k:List Item} {cs:List Frame} {St:Terr→Goroutine→World→Prop}
def Behind(P:Program)(main q na:Bool)(St:Terr→Goroutine→World→Prop)(m:Nat)(T:Terr)(b:Frame)(k:List Item)(cs:List Frame):Exit→Act→World→Prop
 | .normal,a,w=>GoesN P main q na St m T (G (b.at a k) cs) w
 | .exit id,a,w=>∃k',exitTo id k=some k'∧GoesN P main q na St m T (G (b.at a k') cs) w
 | .ret,a,w=>∀todo,GoesN P main q na St m T (G {b.at a todo with mode:=.returning} cs) w
 |_,_,_=>False
theorem GoesN.piece(h:c.wpC P main (Rely q T) (Guar main true T) fn n Q a w)(hb:b.fn=fn)(hk:b.kind≠ .early)(kk:∀e a' w',Q e a' w'→Behind P main q na St m T b k cs e a' w'):GoesN P main q na St (n+m) T (G (b.at a (.code c::k)) cs) w:=by
 have hG:Goes P main (Rely q T) (Guar main true T) (fun g w=>GoesN P main q na St m T g w) (0+n) (G (b.at a (.code c::k)) cs) w:=by
  refine h b k cs _ 0 hb hk fun e a' w' hq=>?_
  have hx:=kk e a' w' hq
  cases e with
  |normal=>exact fun w₁ r=>GoesN.rely hx r
  |exit id=>obtain⟨k',h1,h2⟩:=hx;exact⟨k',h1,fun w₁ r=>GoesN.rely h2 r⟩
  |ret=>exact fun todo w₁ r=>GoesN.rely (hx todo) r
  |goto l=>exact hx.elim
  |panic ch=>exact hx.elim
  |outgrown=>exact hx.elim
 rw[Nat.zero_add] at hG
 refine(Goes.toG (na:=na) hG).bind fun T' g w h=>?_
 obtain⟨rfl,h⟩:=h
 exact h
theorem GoesN.ops{ops:Array Oper}{todo:List Nat}(h:OpsC P main (Rely q T) (Guar main true T) fn ops todo n Q a w)(hb:b.fn=fn)(hk:b.kind≠ .early)(kk:∀e a' w',Q e a' w'→Behind P main q na St m T b k cs e a' w'):GoesN P main q na St (n+m) T (G (b.at a (.inRegion ops todo::k)) cs) w:=by
 have hG:Goes P main (Rely q T) (Guar main true T) (fun g w=>GoesN P main q na St m T g w) (0+n) (G (b.at a (.inRegion ops todo::k)) cs) w:=by
  refine h b k cs _ 0 hb hk fun e a' w' hq=>?_
  have hx:=kk e a' w' hq
  cases e with
  |normal=>exact fun w₁ r=>GoesN.rely hx r
  |exit id=>obtain⟨k',h1,h2⟩:=hx;exact⟨k',h1,fun w₁ r=>GoesN.rely h2 r⟩
  |ret=>exact fun todo w₁ r=>GoesN.rely (hx todo) r
  |goto l=>exact hx.elim
  |panic ch=>exact hx.elim
  |outgrown=>exact hx.elim
 rw[Nat.zero_add] at hG
 refine(Goes.toG (na:=na) hG).bind fun T' g w h=>?_
 obtain⟨rfl,h⟩:=h
 exact h
theorem GoesN.oper{ops:Array Oper}{i:Nat}{rest:List Nat}{o:Oper}(ho:ops[i]?=some o)(hw:Region.wanted o (yielded ops a.tmps)=true)(hk:b.kind≠ .early)(h:∀w₁,Rely q T w w₁→uponK o a (fun a' w'=>Guar main na T w₁ w' (listed P b.fn a o w₁)∧GoesN P main q na St m (T.grow w₁.heap.size w'.heap.size) (G (b.at a' (.inRegion ops rest::k)) cs) w') ((execOp a.eval o).run P w₁)):
  GoesN P main q na St (m+1) T (G (b.at a (.inRegion ops (i::rest)::k)) cs) w:=by
 refine .inr ⟨rfl,fun w₁ r=>?_⟩
 refine goes_oper_k ho hw hk fun K hK=>?_
 have:=h w₁ r
 exact uponK_mono (fun a' w' x=>hK a' w' x) this
theorem GoesN.move{g g':Goroutine}(hs:g.status= .running)(h:∀w₁,stepG P main g w₁= .go g' w₁ #[])(kk:GoesN P main q na St m T g' w):GoesN P main q na St (m+1) T g w:=by
 refine .inr ⟨hs,fun w₁ r=>?_⟩
 rw[h w₁,goes_go]
 refine⟨Guar.idle _ _ _ _ (by simp),?_⟩
 rw[grow_same]
 exact GoesN.rely kk r
theorem GoesN.draw{id:Nat}{ops:Array Oper}{L:List (List Nat)}(hm:P.follows .mixedOrders=true)(hL:orders .any ops ops.size (Array.replicate ops.size false) []=L)(kk:∀todo∈L,GoesN P main q na St m T (G (b.at a (.inRegion ops todo::k)) cs) w):GoesN P main q na St (m+1) T (G (b.at a (.code (.region id ops true)::k)) cs) w:=by
 refine .inr ⟨rfl,fun w₁ r=>?_⟩
 rw[stepG_region_draw,goes_go,hm]
 have hat:({w₁ with drawn:=w₁.drawn+1}:World)=w₁.at (w₁.drawn+1):=rfl
 refine⟨⟨rfl,rfl,rfl,Nat.le_refl _,fun _ _ _=>rfl,fun _ _ _ _=>rfl,fun _ _ o ho=>⟨o,ho,.refl o,fun _=>rfl⟩,fun _=>rfl,fun _ b h1 h2=>absurd h2 (Nat.not_lt_of_le h1),by simp⟩,?_⟩
 rw[hat]
 have hsz:(w₁.at (w₁.drawn+1)).heap.size=w₁.heap.size:=rfl
 rw[hsz,grow_same]
 exact GoesN.rely (kk _ (hL▸schedule_mem ops _)) (r.trans (Rely.at _ _ _ _))
end
end
section
open Go Go.Conc
structure Gait(P:Program)(main q na:Bool)(X:Nat→Terr→Goroutine→World→Prop):Prop where
 step:∀{n:Nat} {T:Terr} {g:Goroutine} {w:World},g.status= .running→(∀w₁,Rely q T w w₁→(stepG P main g w₁).goes fun g' w' es=>Guar main na T w₁ w' es∧X n (T.grow w₁.heap.size w'.heap.size) g' w')→X (n+1) T g w
 rely:∀{n:Nat} {T:Terr} {g:Goroutine} {w w₁:World},X n T g w→Rely q T w w₁→X n T g w₁
 le:∀{n m:Nat} {T:Terr} {g:Goroutine} {w:World},n≤m→X n T g w→X m T g w
theorem gait_n(P:Program)(main q na:Bool)(St:Terr→Goroutine→World→Prop):Gait P main q na (GoesN P main q na St):=
 ⟨fun hs h=>.inr ⟨hs,h⟩,fun h r=>GoesN.rely h r,fun hm h=>GoesN.le hm h⟩
open Classical in
noncomputable def stillQ{σ:Type}(n:Nat)(st:Nat→WState σ):Bool:=decide (QuietS n st)
theorem gait_s{σ:Type}(C:Fix σ)(Anc:Nat→(Nat→WV)→(Nat→WState σ)→Goroutine→World→Prop)(d p n:Nat)(ws:Nat→WV)(st:Nat→WState σ):
  Gait C.P true (stillQ n st) false (fun _ T g w=>SW C Anc T d p n ws st g w):=by
 have rel:∀{T:Terr} {g:Goroutine} {w w₁:World},SW C Anc T d p n ws st g w→Rely (stillQ n st) T w w₁→SW C Anc T d p n ws st g w₁:=fun h r=>h.rely r fun hq=>by simpa[stillQ] using hq
 refine⟨fun{_ T g w} hs h=>?_,rel,fun _ h=>h⟩
 refine .own (stillQ n st) (fun e=>by simpa[stillQ] using e) (fun T g w=>SW C Anc T d p n ws st g w) (.next hs fun w₁ r=>?_) fun _ _ _ x=>x
 obtain⟨g',w',es,e,hd,hg⟩:=goes_iff.1 (h w₁ r)
 exact goes_iff.2 ⟨g',w',es,e,hd,.stop fun w₂ r₂=>rel hg r₂⟩
section
variable {P:Program} {main q na:Bool} {X:Nat→Terr→Goroutine→World→Prop} {T:Terr} {n:Nat} {b:Frame} {a:Act} {w:World} {k:List Item} {cs:List Frame} {ops:Array Oper} {i:Nat} {rest:List Nat} {o:Oper} {v:Value} {g g':Goroutine}
theorem Gait.ctl(H:Gait P main q na X)(hs:g.status= .running)(h:∀w₁,stepG P main g w₁= .go g' w₁ #[])(kk:X n T g' w):X (n+1) T g w:=by
 refine H.step hs fun w₁ r=>?_
 rw[h w₁,goes_go,grow_same]
 exact⟨Guar.idle _ _ _ _ (by simp),H.rely kk r⟩
theorem Gait.seq(H:Gait P main q na X){x y:Code}(kk:X n T (G (b.at a (.code x:: .code y::k)) cs) w):X (n+1) T (G (b.at a (.code (.seq x y)::k)) cs) w:=H.ctl rfl (fun _=>stepG_seq) kk
theorem Gait.skip(H:Gait P main q na X)(kk:X n T (G (b.at a k) cs) w):X (n+1) T (G (b.at a (.code .skip::k)) cs) w:=H.ctl rfl (fun _=>stepG_skip) kk
theorem Gait.block(H:Gait P main q na X){id:Nat}{c:Code}(kk:X n T (G (b.at a (.code c:: .inBlock id::k)) cs) w):X (n+1) T (G (b.at a (.code (.block id c)::k)) cs) w:=H.ctl rfl (fun _=>stepG_block) kk
theorem Gait.inBlock(H:Gait P main q na X){id:Nat}(kk:X n T (G (b.at a k) cs) w):X (n+1) T (G (b.at a (.inBlock id::k)) cs) w:=H.ctl rfl (fun _=>stepG_inBlock) kk
theorem Gait.loop(H:Gait P main q na X){c:Code}(kk:X n T (G (b.at a (.code c:: .inLoop c::k)) cs) w):X (n+1) T (G (b.at a (.code (.loop c)::k)) cs) w:=H.ctl rfl (fun _=>stepG_loop) kk
theorem Gait.inLoop(H:Gait P main q na X){c:Code}(kk:X n T (G (b.at a (.code c:: .inLoop c::k)) cs) w):X (n+1) T (G (b.at a (.inLoop c::k)) cs) w:=H.ctl rfl (fun _=>stepG_inLoop) kk
theorem Gait.exit(H:Gait P main q na X){id:Nat}{k':List Item}(hk:exitTo id k=some k')(kk:X n T (G (b.at a k') cs) w):X (n+1) T (G (b.at a (.code (.exit id)::k)) cs) w:=H.ctl rfl (fun _=>stepG_exit hk) kk
theorem Gait.cond(H:Gait P main q na X){c:Operand}{x y:Code}(t:Bool)(hc:a.eval c= .bool t)(kk:X n T (G (b.at a (.code (if t then x else y)::k)) cs) w):X (n+1) T (G (b.at a (.code (.cond c x y)::k)) cs) w:=H.ctl rfl (fun _=>stepG_cond hc) kk
theorem Gait.ret(H:Gait P main q na X)(kk:X n T (G {b.at a (.code .ret::k) with mode:=.returning} cs) w):X (n+1) T (G (b.at a (.code .ret::k)) cs) w:=H.ctl rfl (fun _=>stepG_ret') kk
theorem Gait.ended(H:Gait P main q na X)(kk:X n T (G {b.at a [] with mode:=.returning} cs) w):X (n+1) T (G (b.at a []) cs) w:=H.ctl rfl (fun _=>stepG_end) kk
theorem Gait.region(H:Gait P main q na X){id:Nat}(kk:X n T (G (b.at a (.inRegion ops (List.range ops.size)::k)) cs) w):X (n+1) T (G (b.at a (.code (.region id ops false)::k)) cs) w:=H.ctl rfl (fun _=>stepG_region) kk
theorem Gait.regionEnd(H:Gait P main q na X)(kk:X n T (G (b.at a k) cs) w):X (n+1) T (G (b.at a (.inRegion ops []::k)) cs) w:=H.ctl rfl (fun _=>stepG_region_end) kk
theorem Gait.draw(H:Gait P main q na X){id:Nat}{L:List (List Nat)}(hm:P.follows .mixedOrders=true)(hL:orders .any ops ops.size (Array.replicate ops.size false) []=L)(kk:∀todo∈L,X n T (G (b.at a (.inRegion ops todo::k)) cs) w):X (n+1) T (G (b.at a (.code (.region id ops true)::k)) cs) w:=by
 refine H.step rfl fun w₁ r=>?_
 rw[stepG_region_draw,goes_go,hm]
 have hat:({w₁ with drawn:=w₁.drawn+1}:World)=w₁.at (w₁.drawn+1):=rfl
 refine⟨⟨rfl,rfl,rfl,Nat.le_refl _,fun _ _ _=>rfl,fun _ _ _ _=>rfl,fun _ _ o ho=>⟨o,ho,.refl o,fun _=>rfl⟩,fun _=>rfl,fun _ b h1 h2=>absurd h2 (Nat.not_lt_of_le h1),by simp⟩,?_⟩
 rw[hat]
 have hsz:(w₁.at (w₁.drawn+1)).heap.size=w₁.heap.size:=rfl
 rw[hsz,grow_same]
 exact H.rely (kk _ (hL▸schedule_mem ops _)) (r.trans (Rely.at _ _ _ _))
theorem Gait.pure(H:Gait P main q na X)(v:Value)(ho:ops[i]?=some o)(hw:Region.wanted o (yielded ops a.tmps)=true)(hk:b.kind≠ .early)(hr:∀w₁,(execOp a.eval o).run P w₁= .ok (.value v) w₁)(he:∀w₁,(execOp a.eval o).events P w₁ #[]= #[])(kk:X n T (G (b.at (a.put o.dst v) (.inRegion ops rest::k)) cs) w):X (n+1) T (G (b.at a (.inRegion ops (i::rest)::k)) cs) w:=by
 refine H.ctl rfl (fun w₁=>?_) kk
 rw[stepG_value ho hw hk (hr w₁)]
 unfold listed
 rw[he,seen_none]
theorem Gait.read(H:Gait P main q na X)(v:Value)(ho:ops[i]?=some o)(hw:Region.wanted o (yielded ops a.tmps)=true)(hk:b.kind≠ .early)(h:∀w₁,Rely q T w w₁→(execOp a.eval o).run P w₁= .ok (.value v) w₁∧∀e∈(execOp a.eval o).events P w₁ #[],∃A:Addr,e=⟨.cell A,false,false⟩∧A.block<w₁.heap.size∧T.rd (.cell A))(kk:X n T (G (b.at (a.put o.dst v) (.inRegion ops rest::k)) cs) w):X (n+1) T (G (b.at a (.inRegion ops (i::rest)::k)) cs) w:=by
 refine H.step rfl fun w₁ r=>?_
 obtain⟨hr,he⟩:=h w₁ r
 rw[stepG_value ho hw hk hr,goes_go,grow_same]
 refine⟨Guar.idle _ _ _ _ fun e hm=>?_,H.rely kk r⟩
 obtain⟨A,rfl,h1,h2⟩:=he e (mem_listed hm)
 exact⟨h1,h2,by simp⟩
theorem Gait.turn(H:Gait P main q na X)(ho:ops[i]?=some o)(hw:Region.wanted o (yielded ops a.tmps)=true)(hk:b.kind≠ .early)(h:∀w₁,Rely q T w w₁→∃v w',((execOp a.eval o).run P w₁= .ok (.value v) w'∨(v=undef∧(execOp a.eval o).run P w₁= .ok .skip w'))∧Guar main na T w₁ w' (listed P b.fn a o w₁)∧X n (T.grow w₁.heap.size w'.heap.size) (G (b.at (a.put o.dst v) (.inRegion ops rest::k)) cs) w'):
  X (n+1) T (G (b.at a (.inRegion ops (i::rest)::k)) cs) w:=by
 refine H.step rfl fun w₁ r=>?_
 obtain⟨v,w',hr,hG,hx⟩:=h w₁ r
 rcases hr with hr|⟨rfl,hr⟩
 ·rw[stepG_value ho hw hk hr,goes_go];exact⟨hG,hx⟩
 ·rw[stepG_none ho hw hk hr,goes_go];exact⟨hG,hx⟩
structure Sets(B:Nat)(w w':World):Prop where
 tape:w'.tape=w.tape
 os:w'.os=w.os
 out:w'.output=w.output
 size:w'.heap.size=w.heap.size
 rest:∀b,b≠B→w'.heap[b]?=w.heap[b]?
theorem Sets.trans{B:Nat}{w₁ w₂:World}(h:Sets B w w₁)(h':Sets B w₁ w₂):Sets B w w₂:=
 ⟨h'.tape.trans h.tape,h'.os.trans h.os,h'.out.trans h.out,h'.size.trans h.size,fun b hb=>(h'.rest b hb).trans (h.rest b hb)⟩
theorem Sets.set(w:World)(A:Addr)(v:Value):Sets A.block w (w.setCell A v):=
 ⟨rfl,rfl,rfl,World.size_setCell ..,fun b hb=>RowKit.Below.heap_setCell _ _ _ _ hb⟩
theorem set_heap{A:Addr}{c:Array Value}{e:TypeId}{f:Nat×Nat}(h:w.heap[A.block]?=some (.cells c e f))(hs:A.spot=none):(w.setCell A v).heap[A.block]?=some (.cells (c.setIfInBounds A.off v) e f):=by
 have hlt:A.block<w.heap.size:=(Array.getElem?_eq_some_iff.1 h).1
 simp only[World.setCell,Array.getElem?_modify,if_true,h,Option.map_some,hs,Option.isSome_none,Bool.false_eq_true,if_false]
theorem Sets.guar{B:Nat}{w':World}{c c':Array Value}{e:TypeId}{f:Nat×Nat}{es:Array Event}(S:Sets B w w')(h:w.heap[B]?=some (.cells c e f))(h':w'.heap[B]?=some (.cells c' e f))(hsz:c'.size=c.size)(hcell:∀i,c'[i]?≠c[i]?→T.wr (.cell ⟨B,i,none⟩))(hm:main=true→T.wr (.obj B))(hw:main=false→c.size≠2)(he:∀e∈es,∃i,e=⟨.cell ⟨B,i,none⟩,true,false⟩∧T.wr (.cell ⟨B,i,none⟩)):Guar main na T w w' es:=by
 have hlt:B<w.heap.size:=(Array.getElem?_eq_some_iff.1 h).1
 refine⟨S.tape,S.os,S.out,Nat.le_of_eq S.size.symm,fun a ha hn=>?_,fun hmain b hb hn=>?_,fun hmain b o ho=>?_,fun _=>S.size,fun _ b h1 h2=>absurd (S.size▸h2) (Nat.not_lt_of_le h1),fun e hm=>?_⟩
 ·by_cases hb:a.block=B
  ·obtain⟨bl,off,spot⟩:=a
   simp only at hb
   subst hb
   simp only[World.cell?,h,h']
   cases spot with
   |some s=>simp
   |none=>
    simp only[Option.isSome_none,Bool.false_eq_true,if_false]
    exact Classical.byContradiction fun x=>hn (hcell off x)
  ·simp only[World.cell?,S.rest _ hb]
 ·by_cases hb':b=B
  ·subst hb';exact absurd (hm hmain) hn
  ·exact S.rest b hb'
 ·by_cases hb':b=B
  ·subst hb'
   rw[h] at ho
   obtain rfl:=Option.some.inj ho
   refine⟨_,h',⟨c',rfl,hsz,fun⟨x,y,hc⟩=>absurd (by rw[hc];rfl) (hw hmain)⟩,fun x=>absurd rfl (x c e f)⟩
  ·exact⟨o,(S.rest b hb').trans ho,.refl o,fun _=>rfl⟩
 ·obtain⟨i,rfl,hi⟩:=he e hm
  rw[S.size,grow_same]
  exact⟨hlt,.inr hi,fun _=>hi⟩
theorem guar_alloc{o:Obj}{es:Array Event}(ho:main=false→∃c e,o= .cells c e (0,0))(he:∀e∈es,e.loc= .mark .noRoom):Guar main false T w (w.alloc o) es:=by
 refine⟨rfl,rfl,rfl,by rw[World.size_alloc];omega,fun a ha _=>World.cell?_alloc_lt _ _ _ ha,fun _ b hb _=>RowKit.Below.heap_alloc _ _ _ hb,fun _ b o' ho=>⟨o',?_,.refl o',fun _=>rfl⟩,(fun e=>by cases e),fun hm b h1 h2=>?_,fun e hm=>?_⟩
 ·rw[RowKit.Below.heap_alloc _ _ _ (Array.getElem?_eq_some_iff.1 ho).1];exact ho
 ·obtain⟨c,e,rfl⟩:=ho hm
  rw[World.size_alloc] at h2
  obtain rfl:b=w.heap.size:=by omega
  exact⟨c,e,by show(w.heap.push _)[w.heap.size]?=_;simp⟩
 ·have:=he e hm
  obtain⟨l,x,y⟩:=e
  simp only at this
  subst this
  rfl
end
end
section
open Go Go.Conc Go.Proofs
def loopIn:Code→Option Code
 | .loop c=>some c
 | .seq a b=>(loopIn a).orElse fun _=>loopIn b
 | .block _ c=>loopIn c
 | .cond _ a b=>(loopIn a).orElse fun _=>loopIn b
 |_=>none
def afterIn:Code→Option Code
 | .seq (.block i (.loop c)) b=>some b
 | .seq a b=>match loopIn a with
  |some _=>match a with
   | .seq _ (.block _ (.loop _))=>some b
   |_=>afterIn a
  |none=>afterIn b
 |_=>none
def regOf(i:Nat):Code→Option Code
 | .region j ops d=>bif Nat.beq j i then some (.region j ops d) else none
 | .seq a b=>match regOf i a with
  |some c=>some c
  |none=>regOf i b
 | .block _ c=>regOf i c
 | .loop c=>regOf i c
 | .cond _ a b=>match regOf i a with
  |some c=>some c
  |none=>regOf i b
 |_=>none
section
variable {P:Program} {main:Bool} {b:Frame} {a:Act} {k:List Item} {cs:List Frame} {w:World} {ops:Array Oper} {i:Nat} {rest:List Nat} {o:Oper}
section
variable {P:Program} {w:World} {es:Array Event} (a:Addr) (m:Mode)
@[go_sem] theorem events_store_bool (b:Bool):(store a (.bool b) m).events P w es=storedEv P w es a (.bool b) m:=events_store P w es a _ m rfl
@[go_sem] theorem events_store_pointer (b:Option Addr):(store a (.pointer b) m).events P w es=storedEv P w es a (.pointer b) m:=events_store P w es a _ m rfl
@[go_sem] theorem events_store_slice (b:Option Addr) (x y:Nat):(store a (.slice b x y) m).events P w es=storedEv P w es a (.slice b x y) m:=events_store P w es a _ m rfl
@[go_sem] theorem run_makeFunc_g (fn:Fn) (first cap:Array Value):(Instr.makeFunc fn first cap).run P w= .ok (.func fn first cap) w:=rfl
@[go_sem] theorem events_makeFunc_g (fn:Fn) (first cap:Array Value):(Instr.makeFunc fn first cap).events P w es=es:=rfl
end
def dclose(ty:TypeId)(r:Nat):Deferred:={target:=.builtin .close #[ty] 0 #[false],args:= #[.chan (some r)]}
theorem stepG_defer_close{t:Tmp}{ty:TypeId}{r:Nat}(ho:ops[i]?=some o)(hw:Region.wanted o (yielded ops a.tmps)=true)(hk:b.kind≠ .early)(hop:o.op= .defer {callee:=.builtin .close,args:= #[.tmp t],argTypes:= #[ty]})(hty:o.type=0)(hx:a.eval (.tmp t)= .chan (some r)):
  stepG P main (G (b.at a (.inRegion ops (i::rest)::k)) cs) w= .go (G (b.at (Act.put ⟨a.tmps,dclose ty r::a.defers⟩ o.dst undef) (.inRegion ops rest::k)) cs) w #[]:=by
 simp only[Act.eval,Array.getD_eq_getD_getElem?] at hx
 have hr:(execOp a.eval o).run P w= .ok (.defer (dclose ty r)) w:=by
  unfold execOp
  simp[hop,hty,resolve,dclose,Act.eval,hx]
 have he:(execOp a.eval o).events P w #[]= #[]:=by
  unfold execOp
  simp[hop,hty,resolve]
 have hfin:(b.at ⟨a.tmps,dclose ty r::a.defers⟩ (.inRegion ops (i::rest)::k)).finish undef=b.at (Act.put ⟨a.tmps,dclose ty r::a.defers⟩ o.dst undef) (.inRegion ops rest::k):=by rw[Frame.finish_at,ho];rfl
 have hk':(b.kind==CallKind.early)=false:=by simpa using hk
 rw[stepG_oper ho hw,←hfin]
 simp[stepG.apply,hr,he,G,Frame.at,hk',GStep.after,seen_none]
theorem stepG_unwind_close{todo:List Item}{ds:List Deferred}{ty:TypeId}{r cap s rc:Nat}{buf:Array Value}{tm:Bool}(hd:a.defers=dclose ty r::ds)(hc:w.heap[r]?=some (.chan cap buf false s rc tm))(hq:(P.funcs[b.fn]?).any (·.norace)=false):
  stepG P main (G {b.at a todo with mode:=.returning} cs) w= .go (G {b.at ⟨a.tmps,ds⟩ todo with mode:=.returning} cs) (w.setChan r cap buf true s rc tm) (shutEvs r):=by
 have hr:(invoke (dclose ty r).target (dclose ty r).args).run P w= .ok (.value (.tuple #[])) (w.setChan r cap buf true s rc tm):=by
  simp[invoke,dclose,go_sem,run_close_open _ _ hc,World.setChan]
 have he:(invoke (dclose ty r).target (dclose ty r).args).events P w #[]=shutEvs r:=by
  simp[invoke,dclose,go_sem,events_close_open _ _ hc,shutEvs]
 have hl:seen P b.fn (shutEvs r)=shutEvs r:=seen_eq hq (by intro e he f;simp only[shutEvs,List.mem_toArray,List.mem_cons,List.not_mem_nil,or_false] at he;rcases he with rfl|rfl<;>simp)
 simp[G,stepG,unwind,callDeferred,Frame.at,hd,GStep.after]
 simp[dclose] at hr he hl⊢
 simp[hr,he,hl]
theorem send_step{c:Nat}{v:Value}{x y:Operand}(ho:ops[i]?=some o)(hw:Region.wanted o (yielded ops a.tmps)=true)(hk:b.kind≠ .early)(hop:o.op= .send x y)(hx:a.eval x= .chan (some c))(hy:a.eval y=v):
  stepG P main (G (b.at a (.inRegion ops (i::rest)::k)) cs) w= .comm (G (b.at a (.inRegion ops (i::rest)::k)) cs) #[scase c v (.tuple #[])] true .send w #[]:=by
 rw[stepG_comm (cases:= #[scase c v (.tuple #[])]) (blocking:=true) (shape:=.send) (w':=w) ho hw hk (by simp[execOp,hop,hx,hy,scase])]
 unfold listed
 rw[show(execOp a.eval o).events P w #[]= #[] by simp[execOp,hop],seen_none]
theorem served_at{v:Value}:Conc.served (G (b.at a (.inRegion ops (i::rest)::k)) cs) v=G (b.at (a.put ((ops[i]?).bind (·.dst)) v) (.inRegion ops rest::k)) cs:=by
 rw[←Frame.finish_at];rfl
end
section
variable {P:Program} {main q na:Bool} {X:Nat→Terr→Goroutine→World→Prop} {T:Terr} {n:Nat} {b b₀:Frame} {a a₀:Act} {w:World} {k:List Item} {cs:List Frame} {ops:Array Oper} {i:Nat} {rest:List Nat} {o:Oper}
theorem Gait.call(H:Gait P main q na X){f:FuncId}{fn:Func}{c:Code}{args:Array Operand}{ats:Array TypeId}(ho:ops[i]?=some o)(hw:Region.wanted o (yielded ops a.tmps)=true)(hk:b.kind≠ .early)(hop:o.op= .call {callee:=.value (.func f),args,argTypes:=ats})(hf:P.funcs[f]?=some fn)(hname:(fn.name== "runtime.NumGoroutine")=false)(hb:fn.body=some c)(kk:X n T (G ((base f).at {tmps:=args.map a.eval++Array.replicate (fn.ntmps-(args.map a.eval).size) undef,defers:=[]} [.code c]) (b.at a (.inRegion ops (i::rest)::k)::cs)) w):
  X (n+1) T (G (b.at a (.inRegion ops (i::rest)::k)) cs) w:=by
 have hb':fn.body.isNone=false:=by rw[hb];rfl
 refine H.ctl rfl (fun w₁=>?_) kk
 rw[stepG_enter ho hw hk (run_call_body hop hf hname hb'),enter_at _ hf hb]
 unfold listed
 rw[events_call_body hop hf hname hb',seen_none]
theorem Gait.callV(H:Gait P main q na X){f:FuncId}{fn:Func}{c:Code}{x:Operand}{args:Array Operand}{ats:Array TypeId}{cap:Array Value}(ho:ops[i]?=some o)(hw:Region.wanted o (yielded ops a.tmps)=true)(hk:b.kind≠ .early)(hop:o.op= .call {callee:=.value x,args,argTypes:=ats})(hx:a.eval x= .func (.func f) #[] cap)(hf:P.funcs[f]?=some fn)(hname:(fn.name== "runtime.NumGoroutine")=false)(hb:fn.body=some c)(kk:X n T (G ((base f).at {tmps:=args.map a.eval++cap++Array.replicate (fn.ntmps-(args.map a.eval++cap).size) undef,defers:=[]} [.code c]) (b.at a (.inRegion ops (i::rest)::k)::cs)) w):
  X (n+1) T (G (b.at a (.inRegion ops (i::rest)::k)) cs) w:=by
 have h1:¬fn.name= "runtime.NumGoroutine" :=by simpa using hname
 have h2:¬fn.body=none:=by rw[hb];simp
 have hr:∀w₁,(execOp a.eval o).run P w₁= .ok (.enter f (args.map a.eval++cap)) w₁:=fun w₁=>by
  unfold execOp
  simp[hop,resolve,Deferred.ofValue,hx,invoke,callFunc,hf,h1,h2]
 have he:∀w₁,(execOp a.eval o).events P w₁ #[]= #[]:=fun w₁=>by
  unfold execOp
  simp[hop,resolve,Deferred.ofValue,hx,invoke,callFunc,hf,h1,h2]
 refine H.ctl rfl (fun w₁=>?_) kk
 rw[stepG_enter ho hw hk (hr w₁),enter_at _ hf hb]
 unfold listed
 rw[he,Conc.seen_none]
theorem Gait.leave0(H:Gait P main q na X){fn:Func}{todo:List Item}(hn:b.kind= .normal)(hd:a.defers=[])(hf:P.funcs[b.fn]?=some fn)(hr:fn.results= #[])(kk:X n T (G (b₀.at (a₀.put ((ops[i]?).bind (·.dst)) (.tuple #[])) (.inRegion ops rest::k)) cs) w):X (n+1) T (G {b.at a todo with mode:=.returning} (b₀.at a₀ (.inRegion ops (i::rest)::k)::cs)) w:=
 H.ctl rfl (fun w₁=>by rw[stepG_leave hn hd hf (results_none hr _ P w₁) (events_results_none hr _ _),Frame.finish_at]) kk
theorem Gait.leave1(H:Gait P main q na X){fn:Func}{todo:List Item}{t:Tmp}(hn:b.kind= .normal)(hd:a.defers=[])(hf:P.funcs[b.fn]?=some fn)(hr:fn.results= #[.tmp t])(kk:X n T (G (b₀.at (a₀.put ((ops[i]?).bind (·.dst)) (a.tmps.getD t undef)) (.inRegion ops rest::k)) cs) w):X (n+1) T (G {b.at a todo with mode:=.returning} (b₀.at a₀ (.inRegion ops (i::rest)::k)::cs)) w:=
 H.ctl rfl (fun w₁=>by rw[stepG_leave hn hd hf (results_tmp hr _ P w₁) (events_results_tmp hr _ _),Frame.finish_at]) kk
end
end
section
open Go Go.Conc
def dOf(ops:Array Oper)(i:Nat):Option Tmp:=(ops[i]?).bind (·.dst)
structure Held(ops:Array Oper)(vs:Nat→Value)(a0:Act)(S:List Nat)(a:Act):Prop where
 defers:a.defers=a0.defers
 size:a.tmps.size=a0.tmps.size
 got:∀i t,i∈S→dOf ops i=some t→a.tmps[t]?=some (vs i)
 rest:∀t,(∀i,i∈S→dOf ops i≠some t)→a.tmps[t]?=a0.tmps[t]?
def apartD(ops:Array Oper)(n m:Nat):Bool:=(List.range n).all fun i=>((dOf ops i).all fun t=>decide (t<m))&&(List.range n).all fun j=>i==j||(dOf ops i).isNone||dOf ops i !=dOf ops j
def topo(ops:Array Oper):List Nat→List Nat→Bool
 |_,[]=>true
 |S,i::r=> !S.contains i&&decide (i<ops.size)&&((ops[i]?).any fun o=>o.after.all fun e=>S.contains e.on)&&topo ops (i::S) r
def canon(ops:Array Oper)(vs:Nat→Value)(a0:Act)(S:List Nat):Act:=S.foldl (fun a i=>a.put (dOf ops i) (vs i)) a0
section
variable {ops:Array Oper} {vs:Nat→Value} {a0 a a':Act} {S S':List Nat} {i:Nat}
theorem apartD_lt{n m i t:Nat}(h:apartD ops n m=true)(hi:i<n)(ht:dOf ops i=some t):t<m:=by
 simp only[apartD,List.all_eq_true,List.mem_range,Bool.and_eq_true] at h
 have:=(h i hi).1
 rw[ht] at this
 simpa using this
theorem apartD_ne{n m i j t:Nat}(h:apartD ops n m=true)(hi:i<n)(hj:j<n)(hne:i≠j)(ht:dOf ops i=some t):dOf ops j≠some t:=by
 simp only[apartD,List.all_eq_true,List.mem_range,Bool.and_eq_true,Bool.or_eq_true] at h
 have:=(h i hi).2 j hj
 rw[ht] at this
 intro e
 rw[e] at this
 simp[hne] at this
theorem Held.nil:Held ops vs a0 [] a0:=⟨rfl,rfl,(fun _ _ h=>by cases h),fun _ _=>rfl⟩
theorem Held.put(h:Held ops vs a0 S a){n:Nat}(hA:apartD ops n a0.tmps.size=true)(hS:∀j∈S,j<n)(hi:i<n)(hn:i∉S):Held ops vs a0 (i::S) (a.put (dOf ops i) (vs i)):=by
 cases hd:dOf ops i with
 |none=>
  refine⟨h.defers,h.size,fun j t hj ht=>?_,fun t ht=>h.rest t fun j hj=>ht j (List.mem_cons_of_mem _ hj)⟩
  rcases List.mem_cons.1 hj with rfl|hj
  ·rw[hd] at ht;cases ht
  ·exact h.got j t hj ht
 |some u=>
  have hu:=apartD_lt hA hi hd
  refine⟨h.defers,by simp[Act.put,h.size],fun j t hj ht=>?_,fun t ht=>?_⟩
  ·rcases List.mem_cons.1 hj with rfl|hj
   ·rw[hd] at ht
    obtain rfl:=Option.some.inj ht
    simp only[Act.put]
    rw[Array.getElem?_setIfInBounds_self_of_lt (by rw[h.size];exact hu)]
   ·have hne:i≠j:=fun e=>hn (e▸hj)
    have:u≠t:=fun e=>apartD_ne hA hi (hS j hj) hne hd (e▸ht)
    simp only[Act.put]
    rw[Array.getElem?_setIfInBounds_ne this]
    exact h.got j t hj ht
  ·have:u≠t:=fun e=>ht i (List.mem_cons_self ..) (e▸hd)
   simp only[Act.put]
   rw[Array.getElem?_setIfInBounds_ne this]
   exact h.rest t fun j hj=>ht j (List.mem_cons_of_mem _ hj)
theorem Held.unique(h:Held ops vs a0 S a)(h':Held ops vs a0 S' a')(hs:∀i,i∈S↔i∈S'):a=a':=by
 obtain⟨t1,d1⟩:=a
 obtain⟨t2,d2⟩:=a'
 have e1:d1=d2:=h.defers.trans h'.defers.symm
 have e2:t1=t2:=by
  refine Array.ext_getElem? fun t=>?_
  by_cases hx:∃i,i∈S∧dOf ops i=some t
  ·obtain⟨i,hi,ht⟩:=hx
   rw[show t1[t]?=_ from h.got i t hi ht,show t2[t]?=_ from h'.got i t ((hs i).1 hi) ht]
  ·rw[show t1[t]?=_ from h.rest t fun i hi e=>hx ⟨i,hi,e⟩,show t2[t]?=_ from h'.rest t fun i hi e=>hx ⟨i,(hs i).2 hi,e⟩]
 subst e1;subst e2;rfl
theorem Held.canon{n:Nat}(hA:apartD ops n a0.tmps.size=true):∀(R S:List Nat) (a:Act),Held ops vs a0 S a→(∀j∈S,j<n)→(∀j∈R,j<n)→R.Nodup→(∀j∈R,j∉S)→∃S',Held ops vs a0 S' (R.foldl (fun a i=>a.put (dOf ops i) (vs i)) a)∧∀i,i∈S'↔(i∈S∨i∈R)
 |[],S,a,h,_,_,_,_=>⟨S,h,fun i=>by simp⟩
 |j::R,S,a,h,hS,hR,hn,hd=>by
  obtain⟨h1,h2⟩:=List.nodup_cons.1 hn
  obtain⟨S',h3,h4⟩:=Held.canon hA R (j::S) _ (h.put hA hS (hR j (List.mem_cons_self ..)) (hd j (List.mem_cons_self ..))) (fun x hx=>(List.mem_cons.1 hx).elim (fun e=>e▸hR j (List.mem_cons_self ..)) (hS x)) (fun x hx=>hR x (List.mem_cons_of_mem _ hx)) h2
   (fun x hx hx'=>(List.mem_cons.1 hx').elim (fun e=>h1 (e▸hx)) (hd x (List.mem_cons_of_mem _ hx)))
  refine⟨S',h3,fun i=>?_⟩
  rw[h4]
  simp only[List.mem_cons]
  constructor
  ·rintro((h|h)|h)
   ·exact .inr (.inl h)
   ·exact .inl h
   ·exact .inr (.inr h)
  ·rintro(h|h|h)
   ·exact .inl (.inr h)
   ·exact .inl (.inl h)
   ·exact .inr h
theorem Held.eval(h:Held ops vs a0 S a){t:Tmp}(hi:i∈S)(hd:dOf ops i=some t):a.eval (.tmp t)=vs i:=by
 simp[Act.eval,h.got i t hi hd]
theorem Held.old(h:Held ops vs a0 S a){t:Tmp}{n:Nat}(hS:∀i∈S,i<n)(hd:(List.range n).all (fun i=>dOf ops i !=some t)=true):a.eval (.tmp t)=a0.eval (.tmp t):=by
 have:=h.rest t fun i hi e=>by
  have:=List.all_eq_true.1 hd i (List.mem_range.2 (hS i hi))
  rw[e] at this
  simp at this
 simp[Act.eval,this]
end
section
variable {P:Program} {main q na:Bool} {X:Nat→Terr→Goroutine→World→Prop} {T:Terr} {n:Nat} {b:Frame} {a0:Act} {w:World} {k:List Item} {cs:List Frame} {ops:Array Oper} {vs:Nat→Value} {L:Nat}
def Each(P:Program)(q:Bool)(T:Terr)(w:World)(ops:Array Oper)(vs:Nat→Value)(a0:Act)(L:Nat):Prop:=
 ∀i o,i<L→ops[i]?=some o→∀S a,Held ops vs a0 S a→(∀j∈S,j<L)→(∀e∈o.after,e.on∈S)→Region.wanted o (yielded ops a.tmps)=true∧
  ∀w₁,Rely q T w w₁→(execOp a.eval o).run P w₁= .ok (.value (vs i)) w₁∧∀e∈(execOp a.eval o).events P w₁ #[],∃A:Addr,e=⟨.cell A,false,false⟩∧A.block<w₁.heap.size∧T.rd (.cell A)
theorem Gait.reads(H:Gait P main q na X)(hk:b.kind≠ .early)(hA:apartD ops L a0.tmps.size=true)(hE:Each P q T w ops vs a0 L):
  ∀(pre S:List Nat) (a:Act),Held ops vs a0 S a→(∀j∈S,j<L)→(∀j∈pre,j<L)→topo ops S (pre++[L])=true→
   (∀S' a',Held ops vs a0 S' a'→(∀i,i∈S'↔(i∈S∨i∈pre))→X n T (G (b.at a' (.inRegion ops [L]::k)) cs) w)→X (n+pre.length) T (G (b.at a (.inRegion ops (pre++[L])::k)) cs) w
 |[],S,a,h,_,_,_,kk=>kk S a h fun i=>by simp
 |i::pre,S,a,h,hS,hp,ht,kk=>by
  simp only[List.cons_append,topo,Bool.and_eq_true,Bool.not_eq_true',decide_eq_true_eq] at ht
  obtain⟨⟨⟨h1,h2⟩,h3⟩,h4⟩:=ht
  have hi:=hp i (List.mem_cons_self ..)
  obtain⟨o,ho⟩:∃o,ops[i]?=some o:=⟨_,Array.getElem?_eq_getElem h2⟩
  rw[ho] at h3
  simp only[Option.any_some,Array.all_eq_true'] at h3
  have hn:i∉S:=by simpa using h1
  obtain⟨hw,hr⟩:=hE i o hi ho S a h hS fun e he=>by simpa using h3 e he
  have hd:dOf ops i=o.dst:=by simp[dOf,ho]
  rw[List.cons_append,List.length_cons,←Nat.add_assoc]
  refine H.read (vs i) ho hw hk hr ?_
  rw[←hd]
  refine Gait.reads H hk hA hE pre (i::S) _ (h.put hA hS hi hn) (fun x hx=>(List.mem_cons.1 hx).elim (fun e=>e▸hi) (hS x)) (fun x hx=>hp x (List.mem_cons_of_mem _ hx)) h4 fun S' a' h' hs=>kk S' a' h' fun x=>?_
  rw[hs]
  simp only[List.mem_cons]
  constructor
  ·rintro((h|h)|h)
   ·exact .inr (.inl h)
   ·exact .inl h
   ·exact .inr (.inr h)
  ·rintro(h|h|h)
   ·exact .inl (.inr h)
   ·exact .inl (.inl h)
   ·exact .inr h
def orderOk(ops:Array Oper)(L:Nat)(t:List Nat):Bool:=topo ops [] t&&t.dropLast++[L]==t&&t.dropLast.all (fun i=>decide (i<L))&&(List.range L).all (fun i=>t.dropLast.contains i)&&t.length==L+1
theorem Gait.drawReads(H:Gait P main q na X)(vs:Nat→Value)(L:Nat)(hk:b.kind≠ .early){id:Nat}(hm:P.follows .mixedOrders=true)(hA:apartD ops L a0.tmps.size=true)(hL:(orders .any ops ops.size (Array.replicate ops.size false) []).all (orderOk ops L)=true)(hE:Each P q T w ops vs a0 L)(kk:X n T (G (b.at (canon ops vs a0 (List.range L)) (.inRegion ops [L]::k)) cs) w):X (n+L+1) T (G (b.at a0 (.code (.region id ops true)::k)) cs) w:=by
 refine H.draw hm rfl fun todo ht=>?_
 have h:=List.all_eq_true.1 hL todo ht
 simp only[orderOk,Bool.and_eq_true,beq_iff_eq,List.all_eq_true,decide_eq_true_eq,List.mem_range] at h
 obtain⟨⟨⟨⟨h1,h2⟩,h3⟩,h4⟩,h5⟩:=h
 generalize hp:todo.dropLast=pre at h2 h3 h4
 subst h2
 have hl:pre.length=L:=by simpa using h5
 rw[←hl]
 have key:=Gait.reads (n:=n) (b:=b) (k:=k) (cs:=cs) H hk hA hE pre [] a0 Held.nil (by simp) h3 h1 fun S' a' h' hs=>by
  obtain⟨S2,g1,g2⟩:=Held.canon (vs:=vs) hA (List.range L) [] a0 Held.nil (by simp) (fun j hj=>List.mem_range.1 hj) List.nodup_range (by simp)
  have e:a'=canon ops vs a0 (List.range L):=Held.unique h' g1 fun i=>by
   rw[hs,g2]
   simp only[List.not_mem_nil,false_or,List.mem_range]
   exact⟨h3 i,fun hi=>by simpa using h4 i hi⟩
  rw[e]
  exact kk
 rw[hl] at key⊢
 exact key
end
end
end Go.Side
