/-
  Texts of Ytbjlijagheifgaa, merged.
-/
import Derived.Test.YtbjlijagheifgaaD23
import Derived.Test.YtbjlijagheifgaaProg
import Derived.WalkKit
import Derived.WalkSpells
import Derived.WalkLawsBesides
import Derived.Lib.Hide
import Derived.Deep.QuietTactic
import Derived.BigQuiet
import Derived.Deep.LoopGhost
import Derived.StillTailTactics
import Derived.Deep.DeepCutAuto
import Derived.Deep.CutBlock
import Derived.Deep.RegionWith
import Derived.Deep.RegionHeld3
import Derived.Deep.DeepFit
import Derived.Deep.AppendLies
import Derived.Deep.RegionLaw
import Derived.Maps.AppendAt
import Derived.RegionTactic
import Derived.OwnWalk
set_option linter.unusedSimpArgs false
set_option linter.unusedVariables false
namespace Go.Side
section
open Go Go.Conc Go.ConcN Go.Proofs
def nxVal:Option (Nat×OpV)→Value
 |none=>.pointer none
 |some (b,_)=>.pointer (some ⟨b,0,none⟩)
def nxRow(n:Nat)(nx:Nat→Option (Nat×OpV)):Array Value:=((List.range n).map fun j=>nxVal (nx j)).toArray
theorem nxRow_size(n:Nat)(nx:Nat→Option (Nat×OpV)):(nxRow n nx).size=n:=by simp[nxRow]
theorem nxRow_get{n j:Nat}{nx:Nat→Option (Nat×OpV)}(hj:j<n):(nxRow n nx)[j]?=some (nxVal (nx j)):=by simp[nxRow,hj]
theorem nxRow_set{n i:Nat}{nx:Nat→Option (Nat×OpV)}(hi:i<n)(y:Option (Nat×OpV)):(nxRow n nx).setIfInBounds i (nxVal y)=nxRow n (upd nx i y):=by
 apply Array.ext_getElem?
 intro j
 by_cases e:i=j
 ·subst e
  rw[Array.getElem?_setIfInBounds_self_of_lt (by rw[nxRow_size];exact hi),nxRow_get hi,upd_eq]
 ·rw[Array.getElem?_setIfInBounds_ne e]
  simp only[nxRow,List.getElem?_toArray,List.getElem?_map]
  rcases Nat.lt_or_ge j n with h|h
  ·rw[List.getElem?_range h]
   simp only[Option.map_some,Option.some.injEq]
   rw[upd_other _ _ (Ne.symm e)]
  ·rw[List.getElem?_eq_none (by simpa using h)];rfl
theorem nxRow_nw{n:Nat}{nx:Nat→Option (Nat×OpV)}:¬IsWg (nxRow n nx):=by
 rintro⟨a,b,h⟩
 have h0:=congrArg (·[0]?) h
 simp only[nxRow,List.getElem?_toArray,List.getElem?_map] at h0
 cases hr:(List.range n)[0]? with
 |none=>rw[hr] at h0;simp at h0
 |some x=>
  rw[hr] at h0
  simp only[Option.map_some,List.getElem?_cons_zero,Option.some.injEq] at h0
  cases hx:nx x with
  |none=>rw[hx] at h0;cases h0
  |some y=>rw[hx] at h0;cases h0
theorem upd_upd{α:Type}(f:Nat→α)(i:Nat)(x y:α):upd (upd f i x) i y=upd f i y:=by
 funext j
 by_cases e:j=i
 ·subst e;rw[upd_eq,upd_eq]
 ·rw[upd_other _ _ e,upd_other _ _ e,upd_other _ _ e]
def opCells(x:OpV):Array Value:= #[.int .i64 x.kind,.int .i64 x.chan,.int .i64 x.val,x.eith]
structure Plc where
 bws:Nat
 bnx:Nat
 bN:Nat
 bW:Nat
 bq:Nat
 ex:List (Nat×Array Value×TypeId)
structure Plc.ok(p:Plc)(N:Nat):Prop where
 l1:N≤p.bws
 l2:N≤p.bnx
 l3:N≤p.bN
 l4:N≤p.bW
 l5:N≤p.bq
 d1:p.bws≠p.bnx∧p.bws≠p.bN∧p.bws≠p.bW∧p.bws≠p.bq
 d2:p.bnx≠p.bN∧p.bnx≠p.bW∧p.bnx≠p.bq
 d3:p.bN≠p.bW∧p.bN≠p.bq∧p.bW≠p.bq
structure SL(C:Fix Wk)(w₀:World)(p:Plc)(n:Nat)(ws:Nat→WV)(st:Nat→WState Wk)(nx:Nat→Option (Nat×OpV))(T:Terr)(w:World):Prop where
 gi:GI C.R0 T w
 kp:Kp C.R0 w₀ w
 row:OwnR T w p.bws (wsRow n n ws) 75
 nrow:OwnR T w p.bnx (nxRow n nx) 91
 nvar:OwnR T w p.bN #[.slice (some ⟨p.bnx,0,none⟩) n n] 90
 wvar:OwnR T w p.bW #[.slice (some ⟨p.bws,0,none⟩) n n] 74
 q:w.cell? ⟨p.bq,0,none⟩=some (.chan (some C.qc))
 qr:T.rd (.cell ⟨p.bq,0,none⟩)
 qrow:Row w p.bq
 wg:WgLive C.ty C.Wg w
 bx:∀k,k<n→BoxF T (ws k) w∧w₀.heap.size≤(ws k).bx∧(ws k).bx≠p.bws∧(ws k).bx≠p.bnx∧(ws k).bx≠p.bN∧(ws k).bx≠p.bW
 op:∀k,k<n→∀b x,nx k=some (b,x)→OwnR T w b (opCells x) 29∧w₀.heap.size≤b∧b≠p.bws∧b≠p.bnx∧b≠p.bN∧b≠p.bW
 rq:QuietS n st→∀l,C.R0 l→T.wr l
 ex:∀y,y∈p.ex→OwnR T w y.1 y.2.1 y.2.2∧w₀.heap.size≤y.1∧y.2.2=50∧p.bq≠y.1∧∀k,k<n→(ws k).bx≠y.1
 qo:T.rd (.obj C.qc)
 wgn:∀a:Addr,a.block=C.Wg→¬T.rd (.cell a)
section
variable {C:Fix Wk} {w₀ w w₁ w':World} {p:Plc} {n:Nat} {ws:Nat→WV} {st st':Nat→WState Wk} {nx:Nat→Option (Nat×OpV)} {T T':Terr} {q:Bool} {S:Nat→Prop}
theorem SL.rely(h:SL C w₀ p n ws st nx T w)(r:Rely q T w w₁):SL C w₀ p n ws st nx T w₁:=
 ⟨h.gi.rely r,h.kp.rely h.gi.r0 h.gi.kn h.gi.ob r,h.row.rely r,h.nrow.rely r,h.nvar.rely r,h.wvar.rely r,(r.cell _ h.qr).trans h.q,h.qr,row_kin h.qrow fun o ho=>r.kin _ o (.inl (h.gi.kn _)) ho,wgLive_rely r (h.gi.kn _) h.wg,
  fun k hk=>⟨(h.bx k hk).1.rely r,(h.bx k hk).2⟩,fun k hk b x e=>⟨(h.op k hk b x e).1.rely r,(h.op k hk b x e).2⟩,h.rq,fun y hy=>⟨(h.ex y hy).1.rely r,(h.ex y hy).2⟩,h.qo,h.wgn⟩
theorem SL.fr(h:SL C w₀ p n ws st nx T w)(hlow:∀l,C.R0 l→l.low w₀.heap.size)(F:Fr S T T' w w')(I:GI C.R0 T' w')(hS:∀b,S b→w.heap.size≤b)(h0:∀b,S b→w₀.heap.size≤b):SL C w₀ p n ws st nx T' w':=by
 have no:∀{b:Nat},b<w.heap.size→¬S b:=fun hb x=>by have:=hS _ x;omega
 exact⟨I,h.kp.fr h.gi.r0 h.gi.kn h.gi.ob hlow h0 F,h.row.fr F (h.gi.kn _) (no h.row.lt),h.nrow.fr F (h.gi.kn _) (no h.nrow.lt),h.nvar.fr F (h.gi.kn _) (no h.nvar.lt),h.wvar.fr F (h.gi.kn _) (no h.wvar.lt),
  (F.cell _ h.qr (World.block_lt_of_cell? _ _ h.q) (no (World.block_lt_of_cell? _ _ h.q))).trans h.q,F.rd h.qr,row_fr h.qrow F (h.gi.kn _),wgLive_fr h.wg F (h.gi.kn _),
  fun k hk=>⟨(h.bx k hk).1.fr F (no (h.bx k hk).1.lt) (h.bx k hk).1.lt,(h.bx k hk).2⟩,fun k hk b x e=>⟨(h.op k hk b x e).1.fr F (h.gi.kn _) (no (h.op k hk b x e).1.lt),(h.op k hk b x e).2⟩,fun hq l hl=>F.wr _ (h.rq hq l hl),fun y hy=>⟨(h.ex y hy).1.fr F (h.gi.kn _) (no (h.ex y hy).1.lt),(h.ex y hy).2⟩,F.rd h.qo,wgn_fr F h.wg h.wgn⟩
theorem SL.frB(h:SL C w₀ p n ws st nx T w)(hp:p.ok w₀.heap.size)(hlow:∀l,C.R0 l→l.low w₀.heap.size){B:Nat}(F:Fr (· =B) T T' w w')(I:GI C.R0 T' w')(h0:w₀.heap.size≤B)(n1:p.bws≠B)(n2:p.bnx≠B)(n3:p.bN≠B)(n4:p.bW≠B)(n5:p.bq≠B)(n6:∀k,k<n→(ws k).bx≠B)(n7:∀k,k<n→∀b x,nx k=some (b,x)→b≠B)(n8:∀y,y∈p.ex→y.1≠B):SL C w₀ p n ws st nx T' w':=
 ⟨I,h.kp.fr h.gi.r0 h.gi.kn h.gi.ob hlow (fun b hb=>by subst hb;exact h0) F,h.row.fr F (h.gi.kn _) n1,h.nrow.fr F (h.gi.kn _) n2,h.nvar.fr F (h.gi.kn _) n3,h.wvar.fr F (h.gi.kn _) n4,
  (F.cell _ h.qr (World.block_lt_of_cell? _ _ h.q) n5).trans h.q,F.rd h.qr,row_fr h.qrow F (h.gi.kn _),wgLive_fr h.wg F (h.gi.kn _),
  fun k hk=>⟨(h.bx k hk).1.fr F (n6 k hk) (h.bx k hk).1.lt,(h.bx k hk).2⟩,fun k hk b x e=>⟨(h.op k hk b x e).1.fr F (h.gi.kn _) (n7 k hk b x e),(h.op k hk b x e).2⟩,fun hq l hl=>F.wr _ (h.rq hq l hl),fun y hy=>⟨(h.ex y hy).1.fr F (h.gi.kn _) (n8 y hy),(h.ex y hy).2⟩,F.rd h.qo,wgn_fr F h.wg h.wgn⟩
theorem SL.exne(h:SL C w₀ p n ws st nx T w){y:Nat×Array Value×TypeId}(hy:y∈p.ex){B:Nat}{c:Array Value}{e:TypeId}{f:Nat×Nat}(hB:w.heap[B]?=some (.cells c e f))(he:e≠50):y.1≠B:=by
 rintro rfl
 obtain⟨h1,_,h2,_⟩:=h.ex y hy
 have h3:=h1.heap.symm.trans hB
 rw[h2] at h3
 injection h3 with h3
 injection h3 with _ h3 _
 exact he h3.symm
theorem SL.withEx(h:SL C w₀ p n ws st nx T w){l:List (Nat×Array Value×TypeId)}(hl:∀y,y∈l→OwnR T w y.1 y.2.1 y.2.2∧w₀.heap.size≤y.1∧y.2.2=50∧p.bq≠y.1∧∀k,k<n→(ws k).bx≠y.1):SL C w₀ {p with ex:=l} n ws st nx T w:=
 ⟨h.gi,h.kp,h.row,h.nrow,h.nvar,h.wvar,h.q,h.qr,h.qrow,h.wg,h.bx,h.op,h.rq,hl,h.qo,h.wgn⟩
theorem SL.setNx(h:SL C w₀ p n ws st nx T w)(hp:p.ok w₀.heap.size)(hlow:∀l,C.R0 l→l.low w₀.heap.size){i:Nat}(hi:i<n){y:Option (Nat×OpV)}(hy:∀b x,y=some (b,x)→OwnR T w b (opCells x) 29∧w₀.heap.size≤b∧b≠p.bws∧b≠p.bnx∧b≠p.bN∧b≠p.bW):
  SL C w₀ p n ws st (upd nx i y) T (w.setCell ⟨p.bnx,i,none⟩ (nxVal y)):=by
 have E:=h.nrow.frSet i (nxVal y) nxRow_nw
 have I:=h.nrow.giSet h.gi i (nxVal y) nxRow_nw
 have hk:=h.gi.kn
 refine⟨I,h.kp.fr h.gi.r0 h.gi.kn h.gi.ob hlow (fun b hb=>by subst hb;exact hp.l2) E,h.row.fr E (hk _) hp.d1.1,by rw[←nxRow_set hi];exact h.nrow.set i _,h.nvar.fr E (hk _) (Ne.symm hp.d2.1),h.wvar.fr E (hk _) (Ne.symm hp.d2.2.1),(E.cell _ h.qr (World.block_lt_of_cell? _ _ h.q) (Ne.symm hp.d2.2.2)).trans h.q,h.qr,row_fr h.qrow E (hk _),wgLive_fr h.wg E (hk _),
  fun k hk'=>⟨(h.bx k hk').1.fr E (h.bx k hk').2.2.2.1 (h.bx k hk').1.lt,(h.bx k hk').2⟩,fun k hk' b x e=>?_,h.rq,fun y hy=>⟨(h.ex y hy).1.fr E (hk _) (h.exne hy h.nrow.heap (by decide)),(h.ex y hy).2⟩,h.qo,h.wgn⟩
 by_cases ek:k=i
 ·subst ek
  rw[upd_eq] at e
  obtain⟨h1,h2,h3,h4,h5⟩:=hy b x e
  exact⟨h1.fr E (hk _) h4,h2,h3,h4,h5⟩
 ·rw[upd_other _ _ ek] at e
  obtain⟨h1,h2,h3,h4,h5⟩:=h.op k hk' b x e
  exact⟨h1.fr E (hk _) h4,h2,h3,h4,h5⟩
theorem SL.terr(h:SL C w₀ p n ws st nx T w)(hp:p.ok w₀.heap.size)(hlow:∀l,C.R0 l→l.low w₀.heap.size)(hkn:T'.kn=T.kn)(hrd:∀l,T'.rd l↔T.rd l)(hwr:∀l,T'.wr l→T.wr l∨C.R0 l)(hwr':∀l,T.wr l→T'.wr l∨C.R0 l)(hq:QuietS n st'→∀l,C.R0 l→T'.wr l):SL C w₀ p n ws st' nx T' w:=by
 have no:∀{l:Loc},T.wr l→¬l.low w₀.heap.size→T'.wr l:=fun hl hn=>(hwr' _ hl).resolve_right fun x=>hn (hlow _ x)
 have ow:∀{b:Nat} {c:Array Value} {e:TypeId},OwnR T w b c e→w₀.heap.size≤b→OwnR T' w b c e:=fun{b c e} hO hb=>⟨fun a ha=>no (hO.cells a ha) (fun x=>by have:a.block<w₀.heap.size:=x;omega),no hO.obj (fun x=>by have:b<w₀.heap.size:=x;omega),hO.heap⟩
 exact⟨h.gi.turn hkn hrd hwr hwr',h.kp,ow h.row hp.l1,ow h.nrow hp.l2,ow h.nvar hp.l3,ow h.wvar hp.l4,h.q,(hrd _).2 h.qr,h.qrow,h.wg,fun k hk=>⟨⟨(h.bx k hk).1.c0,(h.bx k hk).1.c1,(hrd _).2 (h.bx k hk).1.r0,(hrd _).2 (h.bx k hk).1.r1⟩,(h.bx k hk).2⟩,fun k hk b x e=>⟨ow (h.op k hk b x e).1 (h.op k hk b x e).2.1,(h.op k hk b x e).2⟩,hq,fun y hy=>⟨ow (h.ex y hy).1 (h.ex y hy).2.1,(h.ex y hy).2⟩,(hrd _).2 h.qo,fun a ha hr=>h.wgn a ha ((hrd _).1 hr)⟩
end
def TBk(T:Terr)(A:Loc→Prop):Terr:=⟨T.rd,fun l=>T.wr l∨A l,T.kn⟩
def TLend(T:Terr)(R0:Loc→Prop):Terr:=⟨T.rd,fun l=>T.wr l∧¬R0 l,T.kn⟩
theorem TBk_rd{T:Terr}{A:Loc→Prop}(hA:∀l,A l→T.rd l){l:Loc}:(TBk T A).rd l↔T.rd l:=⟨fun h=>h.elim id fun h=>h.elim .inr (hA l),.inl⟩
theorem TLend_rd{T:Terr}{R0:Loc→Prop}{l:Loc}:(TLend T R0).rd l↔T.rd l:=⟨fun h=>h.elim id fun h=>.inr h.1,.inl⟩
section
variable {σ:Type} {C:Fix σ} {Anc:Nat→(Nat→WV)→(Nat→WState σ)→Goroutine→World→Prop} {T T':Terr} {n:Nat} {ws:Nat→WV} {st:Nat→WState σ} {b:Frame} {a:Act} {w:World} {kk:List Item} {cs:List Frame} {ops:Array Oper} {i:Nat} {rest:List Nat} {o:Oper}
theorem SW.recvAt(k:Nat)(s s':σ)(x z:Value)(ho:ops[i]?=some o)(hw:Region.wanted o (yielded ops a.tmps)=true)(hk:b.kind≠ .early)(hr:∀w₁,(execOp a.eval o).run C.P w₁= .ok (.comm #[rcase (ws k).of z] true (.recv true)) w₁)(he:∀w₁,(execOp a.eval o).events C.P w₁ #[]= #[])(hk':k<n)(hst:st k= .busy s)(hn:C.nxt s=some (x,s'))(hrd:∀l,T'.rd l↔T.rd l)(hwr:∀l,T'.wr l→T.wr l∨(C.R0 l∧QuietS n (upd st k (.offd s'))))(hkn:T'.kn=T.kn)(h:∀w₁,Rely false T w w₁→SW C Anc T' 0 0 n ws (upd st k (.offd s')) (G (b.at (a.put o.dst (.tuple #[x,.bool true])) (.inRegion ops rest::kk)) cs) w₁):SW C Anc T 0 0 n ws st (G (b.at a (.inRegion ops (i::rest)::kk)) cs) w:=by
 refine .recv k s s' x z T' hk' hst hn rfl rfl (fun w₁ _=>?_) hrd hwr hkn fun w₁ r=>?_
 ·rw[stepG_comm (cases:= #[rcase (ws k).of z]) (blocking:=true) (shape:=.recv true) (w':=w₁) ho hw hk (hr w₁)]
  unfold listed
  rw[he,Conc.seen_none]
 ·rw[served_at,ho]
  exact h w₁ r
theorem SW.recvEndAt(k:Nat)(s:σ)(z:Value)(ho:ops[i]?=some o)(hw:Region.wanted o (yielded ops a.tmps)=true)(hk:b.kind≠ .early)(hr:∀w₁,(execOp a.eval o).run C.P w₁= .ok (.comm #[rcase (ws k).of z] true (.recv true)) w₁)(he:∀w₁,(execOp a.eval o).events C.P w₁ #[]= #[])(hk':k<n)(hst:st k= .busy s)(hn:C.nxt s=none)(hrd:∀l,T'.rd l↔T.rd l)(hwr:∀l,T'.wr l→T.wr l∨(C.R0 l∧QuietS n (upd st k (.ended s))))(hkn:T'.kn=T.kn)(h:∀w₁,Rely false T w w₁→SW C Anc T' 0 0 n ws (upd st k (.ended s)) (G (b.at (a.put o.dst (.tuple #[z,.bool false])) (.inRegion ops rest::kk)) cs) w₁):SW C Anc T 0 0 n ws st (G (b.at a (.inRegion ops (i::rest)::kk)) cs) w:=by
 refine .recvEnd k s z T' hk' hst hn rfl rfl (fun w₁ _=>?_) hrd hwr hkn fun w₁ r=>?_
 ·rw[stepG_comm (cases:= #[rcase (ws k).of z]) (blocking:=true) (shape:=.recv true) (w':=w₁) ho hw hk (hr w₁)]
  unfold listed
  rw[he,Conc.seen_none]
 ·rw[served_at,ho]
  exact h w₁ r
theorem SW.sendAt(k:Nat)(s:σ)(x:Int){y z:Operand}(ho:ops[i]?=some o)(hw:Region.wanted o (yielded ops a.tmps)=true)(hk:b.kind≠ .early)(hop:o.op= .send y z)(hy:a.eval y= .chan (some (ws k).an))(hz:a.eval z= .int .i64 x)(hk':k<n)(hst:st k= .offd s)(hgood:∀w₁,Rely false T w w₁→C.good w₁)(hR:∀l,C.R0 l→T.rd l)(hrd:∀l,T'.rd l↔T.rd l)(hwr:∀l,T'.wr l→T.wr l∧¬C.R0 l)(hkn:T'.kn=T.kn)(h:∀w₁,Rely false T w w₁→SW C Anc T' 0 0 n ws (upd st k (.busy (C.ans s x))) (G (b.at (a.put o.dst undef) (.inRegion ops rest::kk)) cs) w₁):SW C Anc T 0 0 n ws st (G (b.at a (.inRegion ops (i::rest)::kk)) cs) w:=by
 refine .send k s x _ T' hk' hst rfl rfl (fun w₁ _=>send_step ho hw hk hop hy hz) hgood hR hrd hwr hkn fun w₁ r=>?_
 rw[served_at,ho]
 exact h w₁ r
end
end
section
open Go Go.ConcN
def Wk.nxo(s:Wk):Option (OpV×Wk):=
 match adds s.rest s.sum with
 |([],_)=>none
 |(o::l,z)=>some (o,⟨l,z,some o.kind⟩)
theorem nxt_nxo(s:Wk):s.nxt=s.nxo.map fun y=>(y.1.value,y.2):=by
 unfold Wk.nxt Wk.nxo
 rcases adds s.rest s.sum with⟨_|⟨o,l⟩,z⟩<;>rfl
theorem value_inj{x y:OpV}(h:x.value=y.value):x=y:=by
 obtain⟨a,b,c,d⟩:=x
 obtain⟨a',b',c',d'⟩:=y
 simp only[OpV.value,Value.agg.injEq] at h
 have h':=congrArg Array.toList h
 simp at h'
 obtain⟨rfl,rfl,rfl,rfl⟩:=h'
 rfl
abbrev Cf:=Nat→Option OpV×Wk
def fet(s:Wk):Option OpV×Wk:=match s.nxo with|none=>(none,s)|some (x,s')=>(some x,s')
def stOf(c:Option OpV×Wk):WState Wk:=match c.1 with|none=>.ended c.2|some _=>.offd c.2
theorem fet_some{s s':Wk}{x:OpV}(h:s.nxt=some (x.value,s')):fet s=(some x,s'):=by
 rw[nxt_nxo] at h
 cases hx:s.nxo with
 |none=>rw[hx] at h;cases h
 |some y=>
  rw[hx] at h
  simp only[Option.map_some,Option.some.injEq,Prod.mk.injEq] at h
  obtain⟨h1,rfl⟩:=h
  rw[←value_inj h1]
  simp[fet,hx]
theorem fet_none{s:Wk}(h:s.nxt=none):fet s=(none,s):=by
 rw[nxt_nxo] at h
 cases hx:s.nxo with
 |none=>simp[fet,hx]
 |some y=>rw[hx] at h;cases h
structure StepP where
 fr:Nat
 tg:Nat
 ch:Int
 vl:Int
section
variable (E:OpV→List Int)
def takesP(b:Option OpV)(ch:Int):Bool:=match b with
 |none=>false
 |some b=>(b.kind==2&&b.chan==ch)||(b.kind==3&&(E b).contains ch)
def rowP(n:Nat)(off:Nat→Option OpV)(f:Nat)(a:OpV):List StepP:=((List.range n).filter fun t=>takesP E (off t) a.chan).map fun t=>⟨f,t,a.chan,a.val⟩
def possP(n:Nat)(off:Nat→Option OpV):List StepP:=(List.range n).flatMap fun f=>match off f with
 |some a=>if a.kind=1 then rowP E n off f a else[]
 |none=>[]
def pickP(ch:List Int)(j n:Nat):Nat:=match ch[j]? with
 |some c=>(((c.tmod n)+n).tmod n).toNat
 |none=>0
def stepC(c:Cf)(s:StepP):Cf:=upd (upd c s.fr (fet ((c s.fr).2.ans s.vl))) s.tg (fet ((c s.tg).2.ans s.vl))
inductive RunTo(n:Nat)(ch:List Int):Cf→List StepP→Cf→List StepP→Prop
 |done {c:Cf} {S:List StepP} (h:possP E n (fun k=>(c k).1)=[]):RunTo n ch c S c S
 |step {c c':Cf} {S S':List StepP} {s:StepP} (h:(possP E n fun k=>(c k).1)[pickP ch S.length (possP E n fun k=>(c k).1).length]?=some s) (k:RunTo n ch (stepC c s) (S++[s]) c' S'):RunTo n ch c S c' S'
theorem possP_mem{n:Nat}{off:Nat→Option OpV}{s:StepP}(h:s∈possP E n off):s.fr<n∧s.tg<n∧∃a b,off s.fr=some a∧off s.tg=some b∧a.kind=1∧(b.kind=2∨b.kind=3)∧s.vl=a.val∧s.ch=a.chan:=by
 obtain⟨f,hf,h⟩:=List.mem_flatMap.1 h
 rw[List.mem_range] at hf
 cases ha:off f with
 |none=>rw[ha] at h;cases h
 |some a=>
  rw[ha] at h
  simp only at h
  split at h
  ·rename_i hk
   obtain⟨t,ht,rfl⟩:=List.mem_map.1 h
   rw[List.mem_filter,List.mem_range] at ht
   obtain⟨h1,h2⟩:=ht
   refine⟨hf,h1,a,?_⟩
   cases hb:off t with
   |none=>rw[hb] at h2;cases h2
   |some b=>
    rw[hb] at h2
    refine⟨b,ha,rfl,hk,?_,rfl,rfl⟩
    simp only[takesP,Bool.or_eq_true,Bool.and_eq_true,beq_iff_eq] at h2
    rcases h2 with h2|h2
    ·exact .inl h2.1
    ·exact .inr h2.1
  ·cases h
theorem possP_ne{n:Nat}{off:Nat→Option OpV}{s:StepP}(h:s∈possP E n off):s.fr≠s.tg:=by
 obtain⟨_,_,a,b,h1,h2,h3,h4,_⟩:=possP_mem E h
 intro e
 rw[e,h2] at h1
 obtain rfl:=Option.some.inj h1
 omega
def szC(c:Option OpV×Wk):Nat:=c.2.rest.length+(if c.1.isSome then 1 else 0)
def measC(n:Nat)(c:Cf):Nat:=sumTo n fun k=>szC (c k)
theorem adds_len:∀(l:List OpV) (z:Int),(adds l z).1.length≤l.length
 |[],z=>Nat.le_refl _
 |o::l,z=>by
  unfold adds
  split
  ·have:=adds_len l (IntKind.i64.wrap (z+o.val))
   simp only[List.length_cons];omega
  ·exact Nat.le_refl _
theorem szC_fet(s:Wk):szC (fet s)≤s.rest.length:=by
 unfold fet Wk.nxo
 have:=adds_len s.rest s.sum
 split
 ·rename_i h
  simp[szC]
 ·rename_i x s' h
  split at h
  ·cases h
  ·rename_i o l z he
   simp only[Option.some.injEq,Prod.mk.injEq] at h
   obtain⟨rfl,rfl⟩:=h
   rw[he] at this
   simp[szC] at this⊢
   omega
theorem ans_rest(s:Wk)(v:Int):(s.ans v).rest=s.rest:=rfl
theorem stepC_less{n:Nat}{c:Cf}{s:StepP}(h:s∈possP E n fun k=>(c k).1):measC n (stepC c s)<measC n c:=by
 obtain⟨h1,h2,a,b,h3,h4,_⟩:=possP_mem E h
 have hne:=possP_ne E h
 have e1:=ConcN.sumTo_upd (j:=n) c (fet ((c s.fr).2.ans s.vl)) szC h1
 have e2:=ConcN.sumTo_upd (j:=n) (upd c s.fr (fet ((c s.fr).2.ans s.vl))) (fet ((c s.tg).2.ans s.vl)) szC h2
 have l1:=szC_fet ((c s.fr).2.ans s.vl)
 have l2:=szC_fet ((c s.tg).2.ans s.vl)
 rw[ans_rest] at l1 l2
 rw[upd_other _ _ (Ne.symm hne)] at e2
 have f1:szC (c s.fr)=(c s.fr).2.rest.length+1:=by
  have:(c s.fr).1=some a:=h3
  simp[szC,this]
 have f2:szC (c s.tg)=(c s.tg).2.rest.length+1:=by
  have:(c s.tg).1=some b:=h4
  simp[szC,this]
 unfold measC stepC
 omega
end
end
end Go.Side
namespace Go.Proofs.Ytbjlijagheifgaa
section
open Go.RowKit
def adr(a:Option Addr)(j:Nat):Addr:=⟨(a.getD default).block,(a.getD default).off+j,none⟩
def okAd(a:Option Addr):Bool:=match a with|some x=>x.spot.isNone|none=>false
@[go_sem] theorem adr_mk (b o j:Nat):adr (some ⟨b,o,none⟩) j=⟨b,o+j,none⟩:=rfl
theorem add_eq(x:Addr)(j:Nat)(h:x.spot.isNone=true):x.add j=⟨x.block,x.off+j,none⟩:=by
 obtain⟨b,o,s⟩:=x
 simp at h
 subst h
 unfold Addr.add
 split
 ·rename_i h0;subst h0;rfl
 ·rfl
@[go_sem] theorem run_indexAt_opt {P:Program} (w:World) (t:TypeId) (a:Option Addr) (len cap:Nat) (k:IntKind) (i:Int) (h:P.underlying t=some (.slice (P.elem t))) (ha:okAd a=true):
  (Instr.indexAt t (.slice a len cap) (.int k i)).run P w=
   if 0≤i∧i<len then((sizeOf (P.elem t)).run P w).andThen fun s w=>.ok (.pointer (some (adr a (i.toNat*s)))) w
   else(boundsPanic k i len .index).run P w:=by
 match a,ha with
 |some x,ha=>
  rw[run_indexAt_slice w t x len cap k i h]
  have:∀j,x.add j=adr (some x) j:=fun j=>by rw[add_eq x j (by simpa[okAd] using ha)];rfl
  simp only[this]
def Sl{α:Type}(f:α→Value)(w:World)(a:Option Addr)(xs:List α):Prop:=
 ∀j x,xs[j]?=some x→okAd a=true∧w.cell? (adr a j)=some (f x)
theorem Sl.get{α:Type}{f:α→Value}{w:World}{a:Option Addr}{xs:List α}(h:Sl f w a xs){k:Nat}(hk:k<xs.length):
  ∃x,Hid (xs[k]?=some x)∧okAd a=true∧w.cell? (adr a k)=some (f x):=
 ⟨xs[k],by show xs[k]?=some xs[k];simp[hk],h k _ (by simp[hk])⟩
def Qt(w w':World):Prop:=∃n,w'=w.drewN n
theorem Qt.refl(w:World):Qt w w:=⟨0,rfl⟩
theorem Qt.drewN{w u:World}(h:Qt w u)(n:Nat):Qt w (u.drewN n):=by
 obtain⟨m,rfl⟩:=h
 exact⟨m+n,by simp[World.drewN,Nat.add_assoc]⟩
theorem Qt.drew{w u:World}(h:Qt w u):Qt w u.drew:=h.drewN 1
theorem Qt.trans{a b c:World}(h:Qt a b)(k:Qt b c):Qt a c:=by
 obtain⟨n,rfl⟩:=k
 exact h.drewN n
theorem Qt.cell{w w':World}(h:Qt w w')(a:Addr):w'.cell? a=w.cell? a:=by obtain⟨n,rfl⟩:=h;rfl
theorem Qt.heap{w w':World}(h:Qt w w'):w'.heap=w.heap:=by obtain⟨n,rfl⟩:=h;rfl
theorem Qt.below{w w':World}(h:Qt w w')(B:Nat):Below B w w':=by obtain⟨n,rfl⟩:=h;exact⟨rfl,rfl,rfl,Nat.le_refl _,fun _ _=>rfl⟩
theorem Qt.bel{w w':World}(h:Qt w w'):Below w.heap.size w w':=h.below _
theorem Sl.mono{α:Type}{f:α→Value}{w w':World}{a:Option Addr}{xs:List α}(h:Sl f w a xs)(hc:∀p v,w.cell? p=some v→p.block=(a.getD default).block→w'.cell? p=some v):Sl f w' a xs:=
 fun j x hj=>⟨(h j x hj).1,hc _ _ (h j x hj).2 rfl⟩
theorem Sl.qt{α:Type}{f:α→Value}{w w':World}{a:Option Addr}{xs:List α}(h:Sl f w a xs)(q:Qt w w'):Sl f w' a xs:=
 h.mono fun p v hv _=>by rw[q.cell];exact hv
theorem Sl.below{α:Type}{f:α→Value}{w w':World}{a:Option Addr}{xs:List α}(h:Sl f w a xs)(q:Below w.heap.size w w'):Sl f w' a xs:=
 h.mono fun p v hv _=>by rw[q.cell (World.block_lt_of_cell? _ _ hv)];exact hv
def Blk(w:World)(b:Nat)(T:TypeId)(xs:List Value):Prop:=w.heap[b]?=some (.cells xs.toArray T (0,0))
theorem Blk.cell{w:World}{b:Nat}{T:TypeId}{xs:List Value}(h:Blk w b T xs){i:Nat}{v:Value}(hv:xs[i]?=some v):w.cell? ⟨b,i,none⟩=some v:=by
 unfold Blk at h
 simp[World.cell?,h,hv]
theorem Blk.free{w:World}{b:Nat}{T:TypeId}{xs:List Value}(h:Blk w b T xs)(i:Nat):w.frozen? ⟨b,i,none⟩=false:=by
 unfold Blk at h
 simp[World.frozen?,h]
theorem Blk.lt{w:World}{b:Nat}{T:TypeId}{xs:List Value}(h:Blk w b T xs):b<w.heap.size:=by
 unfold Blk at h
 rcases Nat.lt_or_ge b w.heap.size with h1|h1
 ·exact h1
 ·simp[Array.getElem?_eq_none h1] at h
theorem Blk.of_heap{w w':World}{b:Nat}{T:TypeId}{xs:List Value}(h:Blk w b T xs)(e:w'.heap[b]?=w.heap[b]?):Blk w' b T xs:=by
 unfold Blk at*
 rw[e,h]
theorem Blk.new(w:World)(T:TypeId)(xs:List Value):Blk (w.alloc (.cells xs.toArray T)) w.heap.size T xs:=heap_alloc_new _ _
theorem Blk.alloc{w:World}{b:Nat}{T:TypeId}{xs:List Value}(h:Blk w b T xs)(o:Obj):Blk (w.alloc o) b T xs:=h.of_heap (Below.heap_alloc _ _ _ h.lt)
theorem Blk.drew{w:World}{b:Nat}{T:TypeId}{xs:List Value}(h:Blk w b T xs):Blk w.drew b T xs:=h
theorem Blk.qt{w w':World}{b:Nat}{T:TypeId}{xs:List Value}(h:Blk w b T xs)(q:Qt w w'):Blk w' b T xs:=h.of_heap (by rw[q.heap])
theorem Blk.set{w:World}{b:Nat}{T:TypeId}{xs:List Value}(h:Blk w b T xs)(i:Nat)(v:Value):Blk (w.setCell ⟨b,i,none⟩ v) b T (xs.set i v):=by
 unfold Blk at*
 rw[heap_setCell_same w b i _ T v h]
 simp
theorem Blk.sl{α:Type}{f:α→Value}{w:World}{b:Nat}{T:TypeId}{xs:List α}(h:Blk w b T (xs.map f)):Sl f w (some ⟨b,0,none⟩) xs:=
 fun j x hj=>⟨rfl,by rw[adr_mk,Nat.zero_add];exact h.cell (by simp[hj])⟩
structure Upd(S:Nat→Prop)(w w':World):Prop where
 os:w'.os=w.os
 tape:w'.tape=w.tape
 output:w'.output=w.output
 size:w.heap.size≤w'.heap.size
 block:∀k,k<w.heap.size→¬S k→w'.heap[k]?=w.heap[k]?
theorem Upd.refl(S:Nat→Prop)(w:World):Upd S w w:=⟨rfl,rfl,rfl,Nat.le_refl _,fun _ _ _=>rfl⟩
theorem Upd.trans{S:Nat→Prop}{a b c:World}(h:Upd S a b)(k:Upd S b c):Upd S a c:=
 ⟨k.os.trans h.os,k.tape.trans h.tape,k.output.trans h.output,Nat.le_trans h.size k.size,fun i hi hs=>(k.block i (Nat.lt_of_lt_of_le hi h.size) hs).trans (h.block i hi hs)⟩
theorem Upd.mono{S T:Nat→Prop}{a b:World}(h:Upd S a b)(hs:∀k,k<a.heap.size→S k→T k):Upd T a b:=
 ⟨h.os,h.tape,h.output,h.size,fun k hk hn=>h.block k hk fun hk'=>hn (hs k hk hk')⟩
theorem Upd.then{S T:Nat→Prop}{a b c:World}(h:Upd S a b)(k:Upd T b c)(hs:∀i,i<a.heap.size→T i→S i):Upd S a c:=
 ⟨k.os.trans h.os,k.tape.trans h.tape,k.output.trans h.output,Nat.le_trans h.size k.size,fun i hi hn=>(k.block i (Nat.lt_of_lt_of_le hi h.size) fun ht=>hn (hs i hi ht)).trans (h.block i hi hn)⟩
theorem Upd.qt{S:Nat→Prop}{a b c:World}(h:Upd S a b)(q:Qt b c):Upd S a c:=by obtain⟨n,rfl⟩:=q;exact⟨h.os,h.tape,h.output,h.size,h.block⟩
theorem Upd.drew{S:Nat→Prop}{a b:World}(h:Upd S a b):Upd S a b.drew:=⟨h.os,h.tape,h.output,h.size,h.block⟩
theorem Upd.drewN{S:Nat→Prop}{a b:World}(h:Upd S a b)(n:Nat):Upd S a (b.drewN n):=⟨h.os,h.tape,h.output,h.size,h.block⟩
theorem Upd.alloc{S:Nat→Prop}{a b:World}(h:Upd S a b)(o:Obj):Upd S a (b.alloc o):=
 ⟨h.os,h.tape,h.output,by have:=h.size;simp;omega,fun i hi hn=>(Below.heap_alloc _ _ _ (Nat.lt_of_lt_of_le hi h.size)).trans (h.block i hi hn)⟩
theorem Upd.setCell{S:Nat→Prop}{a b:World}(h:Upd S a b)(p:Addr)(v:Value)(hp:p.block<a.heap.size→S p.block):Upd S a (b.setCell p v):=
 ⟨h.os,h.tape,h.output,by have:=h.size;simp;omega,fun i hi hn=>(heap_setCell_other _ _ _ _ fun e=>hn (by rw[e];exact hp (by rw[←e];exact hi))).trans (h.block i hi hn)⟩
theorem Upd.of_below{S:Nat→Prop}{a b:World}(h:Below a.heap.size a b):Upd S a b:=⟨h.os,h.tape,h.output,h.size,fun k hk _=>h.block k hk⟩
theorem Upd.below{S:Nat→Prop}{a b c:World}{B:Nat}(h:Below B a b)(k:Upd S b c)(hB:B≤b.heap.size)(hs:∀i,S i→B≤i):Below B a c:=
 h.trans ⟨k.os,k.tape,k.output,k.size,fun i hi=>k.block i (Nat.lt_of_lt_of_le hi hB) fun h'=>absurd (hs i h') (Nat.not_le_of_lt hi)⟩
theorem Blk.upd{S:Nat→Prop}{w w':World}{b:Nat}{T:TypeId}{xs:List Value}(h:Blk w b T xs)(u:Upd S w w')(hb:¬S b):Blk w' b T xs:=h.of_heap (u.block b h.lt hb)
theorem Upd.cell{S:Nat→Prop}{w w':World}(u:Upd S w w'){p:Addr}(hp:p.block<w.heap.size)(hs:¬S p.block):w'.cell? p=w.cell? p:=World.cell?_of_block (w:=w) (u.block _ hp hs)
theorem Sl.upd{α:Type}{f:α→Value}{S:Nat→Prop}{w w':World}{a:Option Addr}{xs:List α}(h:Sl f w a xs)(u:Upd S w w')(hs:xs≠[]→¬S (a.getD default).block):Sl f w' a xs:=by
 intro j x hj
 obtain⟨h1,h2⟩:=h j x hj
 refine⟨h1,?_⟩
 rw[u.cell (World.block_lt_of_cell? _ _ h2) (hs (by intro e;simp[e] at hj))]
 exact h2
theorem Sl.old{α:Type}{f:α→Value}{w:World}{a:Option Addr}{xs:List α}(h:Sl f w a xs)(hx:xs≠[]):(a.getD default).block<w.heap.size:=by
 match xs,hx with
 |x::l,_=>exact World.block_lt_of_cell? w (adr a 0) (h 0 x rfl).2
theorem Sl.set{α:Type}{f:α→Value}{w:World}{a:Option Addr}{xs:List α}(h:Sl f w a xs)(p:Addr)(v:Value)(hs:xs≠[]→(a.getD default).block≠p.block):Sl f (w.setCell p v) a xs:=
 h.upd (S:=fun k=>k=p.block) ((Upd.refl _ w).setCell p v fun _=>rfl) hs
def Rw{α:Type}(f:α→Value)(T:TypeId)(w:World)(base:Nat)(v:Value)(xs:List α):Prop:=
 ∃a c,v= .slice a xs.length c∧((a=none∧xs=[]∧c=0)∨∃g sp,a=some ⟨g,0,none⟩∧base≤g∧Blk w g T (xs.map f++sp)∧c=xs.length+sp.length∧c≤maxLen)
theorem Rw.nil{α:Type}(f:α→Value)(T:TypeId)(w:World)(base:Nat):Rw f T w base (.slice none 0 0) []:=⟨none,0,rfl,.inl ⟨rfl,rfl,rfl⟩⟩
theorem Rw.sl{α:Type}{f:α→Value}{T:TypeId}{w:World}{base:Nat}{a:Option Addr}{n c:Nat}{xs:List α}(h:Rw f T w base (.slice a n c) xs):Sl f w a xs:=by
 obtain⟨a',c',e,h⟩:=h
 cases e
 rcases h with⟨rfl,rfl,_⟩|⟨g,sp,rfl,hg,hb,_⟩
 ·intro j x hj;simp at hj
 ·intro j x hj
  refine⟨rfl,?_⟩
  rw[adr_mk,Nat.zero_add]
  refine hb.cell ?_
  have hlt:j<xs.length:=by
   rcases Nat.lt_or_ge j xs.length with h|h
   ·exact h
   ·simp[List.getElem?_eq_none h] at hj
  rw[List.getElem?_append_left (by simpa using hlt)]
  simp[hj]
theorem Rw.pos{α:Type}{f:α→Value}{T:TypeId}{w:World}{base:Nat}{v:Value}{xs:List α}(h:Rw f T w base v xs)(hx:xs≠[]):
  ∃g sp c,v= .slice (some ⟨g,0,none⟩) xs.length c∧base≤g∧Blk w g T (xs.map f++sp):=by
 obtain⟨a,c,rfl,h⟩:=h
 rcases h with⟨_,h,_⟩|⟨g,sp,rfl,hg,hb,_⟩
 ·exact absurd h hx
 ·exact⟨g,sp,c,rfl,hg,hb⟩
theorem Rw.own{α:Type}{f:α→Value}{T:TypeId}{w:World}{base:Nat}{v:Value}{xs:List α}(h:Rw f T w base v xs):w.ownsRow base T 1 v xs.length (xs.map f):=by
 obtain⟨a,c,rfl,h⟩:=h
 rcases h with⟨rfl,rfl,rfl⟩|⟨g,sp,rfl,hg,hb,hc,hm⟩
 ·exact⟨by simp,.inl ⟨rfl,rfl⟩⟩
 ·exact⟨by simp,.inr ⟨g,c,_,rfl,hg,hb,by omega,hm,by simp;omega,by simp⟩⟩
theorem Blk.sub{α:Type}{f:α→Value}{w:World}{b:Nat}{T:TypeId}{xs:List α}{sp:List Value}(h:Blk w b T (xs.map f++sp)):Sl f w (some ⟨b,0,none⟩) xs:=by
 intro j x hj
 refine⟨rfl,?_⟩
 rw[adr_mk,Nat.zero_add]
 refine h.cell ?_
 have hlt:j<xs.length:=by
  rcases Nat.lt_or_ge j xs.length with h|h
  ·exact h
  ·simp[List.getElem?_eq_none h] at hj
 rw[List.getElem?_append_left (by simpa using hlt)]
 simp[hj]
theorem Sl.news{α:Type}{f:α→Value}{w:World}{ad:Addr}{xs:List α}(h:Sl f w (some ad) xs):∀j u,(xs.map f)[j]?=some u→w.cell? (ad.add j)=some u:=by
 intro j u hj
 rw[List.getElem?_map] at hj
 obtain⟨x,hx,rfl⟩:=Option.map_eq_some_iff.1 hj
 obtain⟨h1,h2⟩:=h j x hx
 rw[add_eq ad j (by simpa[okAd] using h1)]
 exact h2
theorem one_map{α:Type}(f:α→Value)(hf:∀x,(f x).oneCell'=true)(xs:List α):∀u∈xs.map f,u.oneCell'=true:=by
 intro u hu
 obtain⟨x,_,rfl⟩:=List.mem_map.1 hu
 exact hf x
theorem ret_bool{a b:Bool}(h:a=b):Ending.returned (.bool a)= .returned (.bool b):=by rw[h]
end
section
open Go.RowKit
theorem own_shape{w:World}{base:Nat}{e:TypeId}{size:Nat}{v:Value}{n:Nat}{xs:List Value}(h:w.ownsRow base e size v n xs):∃a c,v= .slice a n c∧(n=0∨∃g,a=some ⟨g,0,none⟩):=by
 obtain⟨_,h⟩:=h
 rcases h with⟨rfl,rfl⟩|⟨g,cap,cur,rfl,_⟩
 ·exact⟨none,0,rfl,.inl rfl⟩
 ·exact⟨_,_,rfl,.inr ⟨g,rfl⟩⟩
theorem own_blk{α:Type}{f:α→Value}{w:World}{base:Nat}{e:TypeId}{a:Option Addr}{n m c:Nat}{xs:List α}(h:w.ownsRow base e 1 (.slice a m c) n (xs.map f))(hx:xs≠[]):
  ∃g sp,a=some ⟨g,0,none⟩∧base≤g∧Blk w g e (xs.map f++sp)∧c=xs.length+sp.length∧c≤maxLen∧n=xs.length∧m=n:=by
 obtain⟨h1,h⟩:=h
 have hn:xs.length=n:=by simpa using h1
 rcases h with⟨_,h0⟩|⟨g,cap,cur,hv,hg,hh,h3,h4,h5,h6⟩
 ·exact absurd (List.eq_nil_of_length_eq_zero (by omega)) hx
 ·cases hv
  refine⟨g,cur.toList.drop n,rfl,hg,?_,by simp;omega,h4,hn.symm,rfl⟩
  unfold Blk
  rw[←h6,Nat.mul_one,List.take_append_drop]
  exact hh
theorem own_upd{w w':World}{base:Nat}{e:TypeId}{size:Nat}{v:Value}{n:Nat}{xs:List Value}{S:Nat→Prop}(h:w.ownsRow base e size v n xs)(u:Upd S w w')(hs:∀g,v.ownBlock=some g→¬S g):w'.ownsRow base e size v n xs:=by
 obtain⟨h1,h⟩:=h
 refine⟨h1,?_⟩
 rcases h with h|⟨g,cap,cur,rfl,hg,hh,r⟩
 ·exact .inl h
 ·refine .inr ⟨g,cap,cur,rfl,hg,?_,r⟩
  have hlt:g<w.heap.size:=by
   rcases Nat.lt_or_ge g w.heap.size with h1|h1
   ·exact h1
   ·rw[Array.getElem?_eq_none h1] at hh;simp at hh
  rw[u.block g hlt (hs g rfl)]
  exact hh
theorem own_lt{w:World}{base:Nat}{e:TypeId}{size:Nat}{v:Value}{n:Nat}{xs:List Value}(h:w.ownsRow base e size v n xs){g:Nat}(hg:v.ownBlock=some g):g<w.heap.size∧base≤g:=by
 obtain⟨_,h⟩:=h
 rcases h with⟨rfl,_⟩|⟨g',cap,cur,rfl,hg',hh,r⟩
 ·simp[Value.ownBlock] at hg
 ·simp[Value.ownBlock] at hg
  subst hg
  refine⟨?_,hg'⟩
  rcases Nat.lt_or_ge g' w.heap.size with h1|h1
  ·exact h1
  ·rw[Array.getElem?_eq_none h1] at hh;simp at hh
end
section
open Go.RowKit
section
variable {P:Program} {α:Type}
theorem run_append_sl(w:World)(base:Nat)(t ty e:TypeId)(i:TypeInfo)(z:Value)(bytes:Nat)(ht:P.underlying t=some (.slice e))(hi:P.info? e=some i)(hz:i.zero=some z)(hsize:i.size=1)(hby:i.bytes=bytes)(hzs:z.cells.size=1)(v:Value)(n:Nat)(xs:List Value)(hown:w.ownsRow base e 1 v n xs)(f:α→Value)(hf:∀x,(f x).oneCell'=true)(A:Option Addr)(c:Nat)(ys:List α)(hr:Sl f w A ys)(h63:n+ys.length≤maxLen)(hbytes:(n+ys.length)*bytes≤140737488355328)(hbase:base≤w.heap.size):
  ∃v' w',(Builtin.append_ #[t,t] ty #[v,.slice A ys.length c]).run P w= .ok v' w'∧w'.ownsRow base e 1 v' (n+ys.length) (xs++ys.map f)∧w.grownBy w' v.ownBlock∧
   (v'.ownBlock=v.ownBlock∨v'.ownBlock=some w.heap.size):=by
 cases A with
 |none=>
  have hy:ys=[]:=by
   cases ys with
   |nil=>rfl
   |cons y l=>exact absurd (hr 0 y rfl).1 (by simp[okAd])
  subst hy
  refine⟨v,w,?_,by simpa using hown,World.grownBy.refl w _,.inl rfl⟩
  rcases hown.2 with⟨rfl,rfl⟩|⟨g,cap,cur,rfl,_,_,hnc,_⟩
  ·simp[Builtin.append_,run_underlying ht,sizeOf,typeInfo,hi,Builtin.lenOf,Builtin.firstCells]
  ·simp[Builtin.append_,run_underlying ht,sizeOf,typeInfo,hi,Builtin.lenOf,Builtin.firstCells,hnc,storeCells]
 |some ad=>
  obtain⟨v',w',hrun,h2,h3,_,h5⟩:=run_append_own_at (P:=P) w base t ty e i z 1 bytes ht hi hz hsize hby hzs (by omega) v n xs hown ad ys.length c (ys.map f) (by simp) hr.news (one_map f hf ys) h63 hbytes hbase
  exact⟨v',w',hrun,h2,h3,h5⟩
theorem wp_append_sl{o:Oper}{a:Act}{w:World}{K:Act→World→Prop}{Q:Exit→Act→World→Prop}(s x:Operand)(t:TypeId)(ho:o.op= .call {callee:=.builtin .append,args:= #[s,x],argTypes:= #[t,t]})(base:Nat)(e:TypeId)(i:TypeInfo)(z:Value)(bytes:Nat)(ht:P.underlying t=some (.slice e))(hi:P.info? e=some i)(hz:i.zero=some z)(hsize:i.size=1)(hby:i.bytes=bytes)(hzs:z.cells.size=1)(v:Value)(n:Nat)(xs:List Value)(hs:a.eval s=v)(hown:w.ownsRow base e 1 v n xs)(f:α→Value)(hf:∀x,(f x).oneCell'=true)(A:Option Addr)(c:Nat)(ys:List α)(hx:a.eval x= .slice A ys.length c)(hr:Sl f w A ys)(h63:n+ys.length≤maxLen)(hbytes:(n+ys.length)*bytes≤140737488355328)(hbase:base≤w.heap.size)(h:∀v' w',w'.ownsRow base e 1 v' (n+ys.length) (xs++ys.map f)→w.grownBy w' v.ownBlock→(v'.ownBlock=v.ownBlock∨v'.ownBlock=some w.heap.size)→K (a.put o.dst v') w'):o.wp P a w K Q:=by
 obtain⟨v',w',hrun,h2,h3,h4⟩:=run_append_sl (P:=P) w base t o.type e i z bytes ht hi hz hsize hby hzs v n xs hown f hf A c ys hr h63 hbytes hbase
 unfold Oper.wp execOp
 simp only[ho,resolve,invoke,builtin,Sem.run_bind,Sem.run_pure,Result.andThen_ok,List.map_toArray,List.map_cons,List.map_nil,hs,hx,hrun]
 exact h v' w' h2 h3 h4
theorem wpList_append_sl{ops:Array Oper}{rest:List Oper}{o:Oper}{a:Act}{w:World}{Q:Exit→Act→World→Prop}(hgd:o.guard=none)(s x:Operand)(t:TypeId)(ho:o.op= .call {callee:=.builtin .append,args:= #[s,x],argTypes:= #[t,t]})(base:Nat)(e:TypeId)(i:TypeInfo)(z:Value)(bytes:Nat)(ht:P.underlying t=some (.slice e))(hi:P.info? e=some i)(hz:i.zero=some z)(hsize:i.size=1)(hby:i.bytes=bytes)(hzs:z.cells.size=1)(v:Value)(n:Nat)(xs:List Value)(hs:a.eval s=v)(hown:w.ownsRow base e 1 v n xs)(f:α→Value)(hf:∀x,(f x).oneCell'=true)(A:Option Addr)(c:Nat)(ys:List α)(hx:a.eval x= .slice A ys.length c)(hr:Sl f w A ys)(h63:n+ys.length≤maxLen)(hbytes:(n+ys.length)*bytes≤140737488355328)(hbase:base≤w.heap.size)(h:∀v' w',w'.ownsRow base e 1 v' (n+ys.length) (xs++ys.map f)→w.grownBy w' v.ownBlock→(v'.ownBlock=v.ownBlock∨v'.ownBlock=some w.heap.size)→wpList P ops Q rest (a.put o.dst v') w'):wpList P ops Q (o::rest) a w:=
 wpList_plain hgd fun _ hK=>wp_append_sl s x t ho base e i z bytes ht hi hz hsize hby hzs v n xs hs hown f hf A c ys hx hr h63 hbytes hbase fun v' w' h2 h3 h4=>hK _ _ (h v' w' h2 h3 h4)
theorem step_append_sl{ops:Array Oper}{o:Oper}{a:Act}{w:World}{K:Act→World→Prop}{Q:Exit→Act→World→Prop}{E:Prop}(hgd:o.guard=none)(s x:Operand)(t:TypeId)(ho:o.op= .call {callee:=.builtin .append,args:= #[s,x],argTypes:= #[t,t]})(base:Nat)(e:TypeId)(i:TypeInfo)(z:Value)(bytes:Nat)(ht:P.underlying t=some (.slice e))(hi:P.info? e=some i)(hz:i.zero=some z)(hsize:i.size=1)(hby:i.bytes=bytes)(hzs:z.cells.size=1)(v:Value)(n:Nat)(xs:List Value)(hs:a.eval s=v)(hown:w.ownsRow base e 1 v n xs)(f:α→Value)(hf:∀x,(f x).oneCell'=true)(A:Option Addr)(c:Nat)(ys:List α)(hx:a.eval x= .slice A ys.length c)(hr:Sl f w A ys)(h63:n+ys.length≤maxLen)(hbytes:(n+ys.length)*bytes≤140737488355328)(hbase:base≤w.heap.size)(h:∀v' w',w'.ownsRow base e 1 v' (n+ys.length) (xs++ys.map f)→w.grownBy w' v.ownBlock→(v'.ownBlock=v.ownBlock∨v'.ownBlock=some w.heap.size)→K (a.put o.dst v') w'):
  if Region.wanted o (yielded ops a.tmps)=true then Oper.wp P o a w K Q else E:=by
 have hw:Region.wanted o (yielded ops a.tmps)=true:=by simp[Region.wanted,hgd]
 rw[if_pos hw]
 exact wp_append_sl s x t ho base e i z bytes ht hi hz hsize hby hzs v n xs hs hown f hf A c ys hx hr h63 hbytes hbase h
end
end
end Go.Proofs.Ytbjlijagheifgaa
