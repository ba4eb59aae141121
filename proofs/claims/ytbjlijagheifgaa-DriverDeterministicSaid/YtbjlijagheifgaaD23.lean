/-
  Texts of Ytbjlijagheifgaa, merged.
-/
import Derived.Test.YtbjlijagheifgaaD20
import Derived.Test.YtbjlijagheifgaaD22
import Derived.Test.YtbjlijagheifgaaD10
set_option linter.unusedSimpArgs false
set_option linter.unusedVariables false
namespace Go.Side
section
open Go Go.Conc Go.ConcN Go.Proofs
structure TaskR where
 p:Option Addr
 cap:Nat
 ops:List OpV
def TasksAt(w:World)(pt:Option Addr)(L:List TaskR):Prop:=
 ∀(j:Nat) (x:TaskR),L[j]?=some x→(∃b o,pt=some ⟨b,o,none⟩∧w.cell? ⟨b,o+j,none⟩=some (.slice x.p x.ops.length x.cap))∧OpRows w x.p x.ops
structure Kp(R0:Loc→Prop)(w₀ w:World):Prop where
 size:w₀.heap.size≤w.heap.size
 cell:∀a:Addr,R0 (.cell a)→w.cell? a=w₀.cell? a
 kin:∀(b:Nat) (o:Obj),b<w₀.heap.size→w₀.heap[b]?=some o→∃o',w.heap[b]?=some o'∧Kin o o'
 os:w.os=w₀.os
 out:w.output=w₀.output
 obj:∀(b:Nat) (o:Obj),R0 (.cell ⟨b,0,none⟩)→w₀.heap[b]?=some o→(∀c e f,o≠Obj.cells c e f)→w.heap[b]?=some o
structure BoxF(T:Terr)(v:WV)(w:World):Prop where
 c0:w.cell? ⟨v.bx,0,none⟩=some (.chan (some v.of))
 c1:w.cell? ⟨v.bx,1,none⟩=some (.chan (some v.an))
 r0:T.rd (.cell ⟨v.bx,0,none⟩)
 r1:T.rd (.cell ⟨v.bx,1,none⟩)
section
variable {R0:Loc→Prop} {S:Nat→Prop} {T T':Terr} {w₀ w w₁ w':World} {q:Bool} {v:WV}
theorem Kp.refl(R0:Loc→Prop)(w:World):Kp R0 w w:=⟨Nat.le_refl _,fun _ _=>rfl,fun b o _ h=>⟨o,h,.refl o⟩,rfl,rfl,fun _ _ _ h _=>h⟩
theorem Kp.rely(h:Kp R0 w₀ w)(hr:∀l,R0 l→T.rd l)(hk:∀b,T.kn b)(hob:∀b,R0 (.cell ⟨b,0,none⟩)→T.wr (.obj b))(r:Rely q T w w₁):Kp R0 w₀ w₁:=
 ⟨Nat.le_trans h.size r.size,fun a ha=>(r.cell a (hr _ ha)).trans (h.cell a ha),fun b o hb ho=>let⟨o₁,h1,k1⟩:=h.kin b o hb ho;let⟨o₂,h2,k2⟩:=r.kin b o₁ (.inl (hk b)) h1;⟨o₂,h2,k1.trans k2⟩,r.os.trans h.os,r.out.trans h.out,fun b o hb ho hn=>r.own b o (hob b hb) (h.obj b o hb ho hn) hn⟩
theorem Kp.fr(h:Kp R0 w₀ w)(hr:∀l,R0 l→T.rd l)(hk:∀b,T.kn b)(hob:∀b,R0 (.cell ⟨b,0,none⟩)→T.wr (.obj b))(hlow:∀l,R0 l→l.low w₀.heap.size)(hS:∀b,S b→w₀.heap.size≤b)(F:Fr S T T' w w'):Kp R0 w₀ w':=by
 refine⟨Nat.le_trans h.size F.size,fun a ha=>(F.cell a (hr _ ha) (Nat.lt_of_lt_of_le (hlow _ ha) h.size) fun x=>?_).trans (h.cell a ha),fun b o hb ho=>?_,F.os.trans h.os,F.out.trans h.out,fun b o hb ho hn=>F.own b o (hob b hb) (h.obj b o hb ho hn) hn⟩
 ·have h1:a.block<w₀.heap.size:=hlow _ ha
  have:=hS _ x
  omega
 ·obtain⟨o₁,h1,k1⟩:=h.kin b o hb ho
  obtain⟨o₂,h2,k2⟩:=F.kin b o₁ (hk b) h1
  exact⟨o₂,h2,k1.trans k2⟩
theorem BoxF.rely(h:BoxF T v w)(r:Rely q T w w₁):BoxF T v w₁:=⟨(r.cell _ h.r0).trans h.c0,(r.cell _ h.r1).trans h.c1,h.r0,h.r1⟩
theorem BoxF.fr(h:BoxF T v w)(F:Fr S T T' w w')(hn:¬S v.bx)(hl:v.bx<w.heap.size):BoxF T' v w':=
 ⟨(F.cell _ h.r0 hl hn).trans h.c0,(F.cell _ h.r1 hl hn).trans h.c1,F.rd h.r0,F.rd h.r1⟩
theorem BoxF.lt(h:BoxF T v w):v.bx<w.heap.size:=World.block_lt_of_cell? _ _ h.c0
theorem wgLive_fr{ty:TypeId}{Wg:Nat}(h:WgLive ty Wg w)(F:Fr S T T' w w')(hk:T.kn Wg):WgLive ty Wg w':=by
 obtain⟨a,b,h⟩:=h
 obtain⟨o',h1,c',rfl,_,hw⟩:=F.kin Wg _ hk h
 obtain⟨a',b',rfl⟩:=hw ⟨a,b,rfl⟩
 exact⟨a',b',h1⟩
theorem row_fr{b:Nat}(h:Row w b)(F:Fr S T T' w w')(hk:T.kn b):Row w' b:=row_kin h fun o ho=>F.kin b o hk ho
end
def wsRow(n i:Nat)(ws:Nat→WV):Array Value:=((List.range n).map fun j=>if j<i then Value.pointer (some ⟨(ws j).bx,0,none⟩) else .pointer none).toArray
theorem wsRow_size(n i:Nat)(ws:Nat→WV):(wsRow n i ws).size=n:=by simp[wsRow]
theorem wsRow_get{n i j:Nat}{ws:Nat→WV}(hj:j<i)(hi:i≤n):(wsRow n i ws)[j]?=some (.pointer (some ⟨(ws j).bx,0,none⟩)):=by
 have:j<n:=by omega
 simp[wsRow,this,hj]
theorem wsRow_get'{n i:Nat}{ws:Nat→WV}(hi:i<n):(wsRow n i ws)[i]?=some (.pointer none):=by simp[wsRow,hi]
theorem wsRow_set{n i:Nat}{ws:Nat→WV}{v:WV}(hi:i<n):(wsRow n i ws).setIfInBounds i (.pointer (some ⟨v.bx,0,none⟩))=wsRow n (i+1) (upd ws i v):=by
 apply Array.ext_getElem?
 intro j
 by_cases e:i=j
 ·subst e
  rw[Array.getElem?_setIfInBounds_self_of_lt (by rw[wsRow_size];exact hi),wsRow_get (by omega) (by omega),upd_eq]
 ·rw[Array.getElem?_setIfInBounds_ne e]
  simp only[wsRow,List.getElem?_toArray,List.getElem?_map]
  rcases Nat.lt_or_ge j n with h|h
  ·rw[List.getElem?_range h]
   simp only[Option.map_some,Option.some.injEq]
   rw[upd_other _ _ (Ne.symm e)]
   by_cases h1:j<i
   ·rw[if_pos h1,if_pos (by omega)]
   ·rw[if_neg h1,if_neg (by omega)]
  ·rw[List.getElem?_eq_none (by simpa using h)];rfl
theorem wsRow_nw{n i:Nat}{ws:Nat→WV}:¬IsWg (wsRow n i ws):=by
 rintro⟨a,b,h⟩
 have h0:=congrArg (·[0]?) h
 simp only[wsRow,List.getElem?_toArray,List.getElem?_map] at h0
 cases hr:(List.range n)[0]? with
 |none=>rw[hr] at h0;simp at h0
 |some x=>
  rw[hr] at h0
  simp only[Option.map_some,List.getElem?_cons_zero,Option.some.injEq] at h0
  split at h0<;>cases h0
theorem wgn_fr{C:Fix Wk}{S:Nat→Prop}{T T':Terr}{w w':World}(F:Fr S T T' w w')(hg:WgLive C.ty C.Wg w)(h:∀a:Addr,a.block=C.Wg→¬T.rd (.cell a)):∀a:Addr,a.block=C.Wg→¬T'.rd (.cell a):=fun a ha hr=>by
 have hlt:C.Wg<w.heap.size:=by obtain⟨a,b,h⟩:=hg;exact(Array.getElem?_eq_some_iff.1 h).1
 rcases hr with hr|hr
 ·exact h a ha (.inl (by rw[←F.ro];exact hr))
 ·rcases F.new _ hr with hr|hr
  ·exact h a ha (.inr hr)
  ·exact hr (show a.block<w.heap.size by rw[ha];exact hlt)
structure RL(C:Fix Wk)(w₀:World)(T:Terr)(w:World)(n i:Nat)(ws:Nat→WV)(bws bq:Nat):Prop where
 gi:GI C.R0 T w
 kp:Kp C.R0 w₀ w
 row:OwnR T w bws (wsRow n i ws) 75
 q:w.cell? ⟨bq,0,none⟩=some (.chan (some C.qc))
 qr:T.rd (.cell ⟨bq,0,none⟩)
 qrow:Row w bq
 wg:WgLive C.ty C.Wg w
 bx:∀k,k<i→BoxF T (ws k) w∧w₀.heap.size≤(ws k).bx∧(ws k).bx≠bws
 qo:T.rd (.obj C.qc)
 wgn:∀a:Addr,a.block=C.Wg→¬T.rd (.cell a)
section
variable {C:Fix Wk} {w₀ w w₁ w':World} {T T':Terr} {n i:Nat} {ws:Nat→WV} {bws bq:Nat} {q:Bool} {S:Nat→Prop}
theorem RL.rely(h:RL C w₀ T w n i ws bws bq)(r:Rely q T w w₁):RL C w₀ T w₁ n i ws bws bq:=
 ⟨h.gi.rely r,h.kp.rely h.gi.r0 h.gi.kn h.gi.ob r,h.row.rely r,(r.cell _ h.qr).trans h.q,h.qr,row_kin h.qrow fun o ho=>r.kin bq o (.inl (h.gi.kn _)) ho,wgLive_rely r (h.gi.kn _) h.wg,fun k hk=>⟨(h.bx k hk).1.rely r,(h.bx k hk).2⟩,h.qo,h.wgn⟩
theorem RL.fr(h:RL C w₀ T w n i ws bws bq)(hlow:∀l,C.R0 l→l.low w₀.heap.size)(F:Fr S T T' w w')(I:GI C.R0 T' w')(hS:∀b,S b→w₀.heap.size≤b∧b≠bws∧b≠bq∧∀k,k<i→b≠(ws k).bx):RL C w₀ T' w' n i ws bws bq:=
 ⟨I,h.kp.fr h.gi.r0 h.gi.kn h.gi.ob hlow (fun b hb=>(hS b hb).1) F,h.row.fr F (h.gi.kn _) fun x=>(hS _ x).2.1 rfl,(F.cell _ h.qr (World.block_lt_of_cell? _ _ h.q) fun x=>(hS _ x).2.2.1 rfl).trans h.q,F.rd h.qr,row_fr h.qrow F (h.gi.kn _),wgLive_fr h.wg F (h.gi.kn _),
  fun k hk=>⟨(h.bx k hk).1.fr F (fun x=>(hS _ x).2.2.2 k hk rfl) (h.bx k hk).1.lt,(h.bx k hk).2⟩,F.rd h.qo,wgn_fr F h.wg h.wgn⟩
end
def ckOf(of an bx bw bo bq:Nat)(l:Loc):Prop:=l= .cell ⟨bx,0,none⟩∨l= .cell ⟨bx,1,none⟩∨l= .cell ⟨bw,0,none⟩∨l= .cell ⟨bo,0,none⟩∨l= .cell ⟨bq,0,none⟩∨l= .obj of∨l= .obj an
def wkOf(bx:Nat)(l:Loc):Prop:=l= .cell ⟨bx,2,none⟩∨l= .cell ⟨bx,3,none⟩∨l= .obj bx
def vOf(of an bx bw bo bq:Nat):WV:=⟨of,an,bx,ckOf of an bx bw bo bq⟩
def TGo(T:Terr)(ck wk R0:Loc→Prop):Terr:=⟨fun l=>T.rd l∧¬wk l,fun l=>T.wr l∧¬ck l∧¬wk l∧¬R0 l,T.kn⟩
theorem TGo_rd{T:Terr}{ck wk R0:Loc→Prop}{l:Loc}:(TGo T ck wk R0).rd l↔T.rd l∧¬wk l:=⟨fun h=>h.elim id fun h=>⟨.inr h.1,h.2.2.1⟩,.inl⟩
section
variable {R0:Loc→Prop} {T:Terr} {w:World} {of an bx bw bo bq N:Nat}
theorem GI.go(h:GI R0 T w)(hR:∀l,R0 l→l.low N)(l1:N≤bx)(l2:N≤bw)(l3:N≤bo)(l4:N≤bq)(l5:N≤of)(l6:N≤an)(r1:Row w bx)(r2:Row w bw)(r3:Row w bo)(r4:Row w bq)(c1:∃x y z u v t,w.heap[of]?=some (.chan x y z u v t))(c2:∃x y z u v t,w.heap[an]?=some (.chan x y z u v t)):
  GI R0 (TGo T (ckOf of an bx bw bo bq) (wkOf bx) R0) w:=by
 have hno:∀(a:Addr),N≤a.block→¬R0 (.cell a):=fun a ha hx=>by have:a.block<N:=hR _ hx;omega
 have hlt:∀{b:Nat},R0 (.cell ⟨b,0,none⟩)→b<N:=fun hb=>hR _ hb
 refine⟨h.kn,fun l hl=>TGo_rd.2 ⟨h.r0 l hl,?_⟩,fun l hl=>h.low l (TGo_rd.1 hl).1,fun b hb=>?_,fun b hb=>⟨h.ob b hb,?_,?_,h.noo b⟩,h.noo⟩
 rotate_right 2
 ·have:=hlt hb
  rintro(e|e|e|e|e|e|e)
  all_goals first
   |(cases e;done)
   |(have e':=Loc.obj.inj e;omega)
 ·have:=hlt hb
  rintro(e|e|e)
  all_goals first
   |(cases e;done)
   |(have e':=Loc.obj.inj e;omega)
 ·rintro(rfl|rfl|rfl)
  ·exact hno _ l1 hl
  ·exact hno _ l1 hl
  ·have:bx<N:=hR _ hl
   omega
 ·by_cases e1:b=bx
  ·subst e1;exact .inr ⟨r1,⟨b,0,none⟩,rfl,fun hw=>hw.2.1 (.inl rfl),hno _ l1⟩
  by_cases e2:b=bw
  ·subst e2;exact .inr ⟨r2,⟨b,0,none⟩,rfl,fun hw=>hw.2.1 (.inr (.inr (.inl rfl))),hno _ l2⟩
  by_cases e3:b=bo
  ·subst e3;exact .inr ⟨r3,⟨b,0,none⟩,rfl,fun hw=>hw.2.1 (.inr (.inr (.inr (.inl rfl)))),hno _ l3⟩
  by_cases e4:b=bq
  ·subst e4;exact .inr ⟨r4,⟨b,0,none⟩,rfl,fun hw=>hw.2.1 (.inr (.inr (.inr (.inr (.inl rfl))))),hno _ l4⟩
  rcases h.cov b hb with⟨h1,h2,h3⟩|⟨h1,a,ha,h2,h3⟩
  ·refine .inl ⟨fun a ha=>?_,fun hc=>?_,TGo_rd.2 ⟨h3,?_⟩⟩
   ·by_cases hR0:R0 (.cell a)
    ·exact .inr hR0
    refine .inl ⟨(h1 a ha).resolve_right hR0,?_,?_,hR0⟩
    ·rintro(e|e|e|e|e|e|e)
     ·rw[Loc.cell.inj e] at ha;exact e1 ha.symm
     ·rw[Loc.cell.inj e] at ha;exact e1 ha.symm
     ·rw[Loc.cell.inj e] at ha;exact e2 ha.symm
     ·rw[Loc.cell.inj e] at ha;exact e3 ha.symm
     ·rw[Loc.cell.inj e] at ha;exact e4 ha.symm
     ·cases e
     ·cases e
    ·rintro(e|e|e)
     ·rw[Loc.cell.inj e] at ha;exact e1 ha.symm
     ·rw[Loc.cell.inj e] at ha;exact e1 ha.symm
     ·cases e
   ·by_cases hR0:R0 (.obj b)
    ·exact .inr hR0
    obtain⟨c,e,f,hc'⟩:=hc
    refine .inl ⟨(h2 ⟨c,e,f,hc'⟩).resolve_right hR0,?_,?_,hR0⟩
    ·rintro(e'|e'|e'|e'|e'|e'|e')
     all_goals first
      |(cases e';done)
      |skip
     ·obtain⟨_,_,_,_,_,_,c1⟩:=c1
      rw[←Loc.obj.inj e',hc'] at c1
      cases Option.some.inj c1
     ·obtain⟨_,_,_,_,_,_,c2⟩:=c2
      rw[←Loc.obj.inj e',hc'] at c2
      cases Option.some.inj c2
    ·rintro(e'|e'|e')
     ·cases e'
     ·cases e'
     ·exact e1 (Loc.obj.inj e')
   ·rintro(e'|e'|e')
    ·cases e'
    ·cases e'
    ·exact e1 (Loc.obj.inj e')
  ·exact .inr ⟨h1,a,ha,fun hw=>h2 hw.1,h3⟩
end
def SWn{σ:Type}(C:Fix σ)(Anc:Nat→(Nat→WV)→(Nat→WState σ)→Goroutine→World→Prop)(d p n:Nat)(ws:Nat→WV)(st:Nat→WState σ)(_:Nat)(T:Terr)(g:Goroutine)(w:World):Prop:=SW C Anc T d p n ws st g w
theorem gait_w{σ:Type}(C:Fix σ)(Anc:Nat→(Nat→WV)→(Nat→WState σ)→Goroutine→World→Prop)(d p n:Nat)(ws:Nat→WV)(st:Nat→WState σ):Gait C.P true (stillQ n st) false (SWn C Anc d p n ws st):=gait_s C Anc d p n ws st
theorem SW.goAt{σ:Type}{C:Fix σ}{Anc:Nat→(Nat→WV)→(Nat→WState σ)→Goroutine→World→Prop}{T T':Terr}{n:Nat}{ws:Nat→WV}{st:Nat→WState σ}{b:Frame}{a:Act}{w:World}{kk:List Item}{cs:List Frame}{ops:Array Oper}{i:Nat}{rest:List Nat}{o:Oper}(v:WV)(s:σ)(N:Nat)(wk:Loc→Prop)(d:Deferred){f:Fn}{cap:Array Value}(ho:ops[i]?=some o)(hw:Region.wanted o (yielded ops a.tmps)=true)(hk:b.kind≠ .early)(hr:∀w₁,(execOp a.eval o).run C.P w₁= .ok (.spawn d) w₁)(he:∀w₁,(execOp a.eval o).events C.P w₁ #[]= #[])(hd:d.target= .fn f cap)(hof:w.heap[v.of]?=some (.chan 0 #[] false 0 0 false))(han:w.heap[v.an]?=some (.chan 0 #[] false 0 0 false))(oof:T.wr (.obj v.of))(oan:T.wr (.obj v.an))(hne:v.of≠v.an)(hck:∀l,v.ck l→T.rd l)(hwk:∀l,wk l→T.wr l)(hR:∀l,C.R0 l→T.rd l)(hwc:∀l,wk l→¬v.ck l∧¬C.R0 l)(hcr:∀l,v.ck l→¬C.R0 l)(cof:v.ck (.obj v.of))(can:v.ck (.obj v.an))(hbo:wk (.obj v.bx))(hrd:∀l,T'.rd l↔T.rd l∧¬wk l)(hwr:∀l,T'.wr l→T.wr l∧¬v.ck l∧¬wk l∧¬C.R0 l)(hkn:T'.kn=T.kn)(hch:∀w₁,Rely false T w w₁→∃m,GoesN C.P false false false (AtRun C v N s) m (Tbusy C v wk) (born C.P d) w₁)(k:∀w₁,Rely false T w w₁→SW C Anc T' 0 0 (n+1) (upd ws n v) (upd st n (.busy s)) (G (b.at (a.put o.dst undef) (.inRegion ops rest::kk)) cs) w₁):SW C Anc T 0 1 n ws st (G (b.at a (.inRegion ops (i::rest)::kk)) cs) w:=
 .go v s N wk T' _ _ rfl (fun w₁ _=>by
  rw[stepG_spawn (d:=d) (w':=w₁) ho hw hk (hr w₁) hd]
  unfold listed
  rw[he,Conc.seen_none]) rfl hof han oof oan hne hck hwk hR hwc hcr cof can hbo hrd hwr hkn hch k
end
end Go.Side
