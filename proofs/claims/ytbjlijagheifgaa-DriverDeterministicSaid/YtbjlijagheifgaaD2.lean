/-
  Texts of Ytbjlijagheifgaa, merged.
-/
import Derived.Test.YtbjlijagheifgaaD1
import Derived.Conc.CrowdComm
import Derived.Conc.CrowdSpec
set_option linter.unusedSimpArgs false
set_option linter.unusedVariables false
namespace Go.Side
section
open Go Go.Conc Go.ConcN
open Go.ConcR (KK WgAt stA smA rd wr mk)
structure Fix(σ:Type) where
 P:Program
 ty:TypeId
 Wg:Nat
 qc:Nat
 R0:Loc→Prop
 Sh:Loc→Prop
 nxt:σ→Option (Value×σ)
 ans:σ→Int→σ
 sum:σ→Int
 good:World→Prop
 good_keep:∀w w₁:World,(∀a:Addr,R0 (.cell a)→w₁.cell? a=w.cell? a)→good w→good w₁
structure WV where
 of:Nat
 an:Nat
 bx:Nat
 ck:Loc→Prop
inductive WState(σ:Type) where
 |busy (s:σ)
 |offd (s:σ)
 |ended (s:σ)
def WState.isBusy{σ:Type}:WState σ→Prop
 | .busy _=>True
 |_=>False
section
variable {σ:Type} (C:Fix σ)
def Tbusy(v:WV)(w:Loc→Prop):Terr:=⟨fun l=>v.ck l∨C.R0 l,w,fun b=>b=C.Wg∨b=v.bx⟩
def Tidle(v:WV)(w:Loc→Prop):Terr:=⟨v.ck,w,fun b=>b=C.Wg∨b=v.bx⟩
def Tnone:Terr:=⟨fun _=>False,fun _=>False,fun b=>b=C.Wg⟩
def Tbox(v:WV):Terr:=⟨fun l=>l= .cell ⟨v.bx,2,none⟩∨l= .cell ⟨v.bx,3,none⟩,fun _=>False,fun b=>b=C.Wg∨b=v.bx⟩
def BoxIs(v:WV)(s:Int)(d:Bool)(w:World):Prop:=w.cell? ⟨v.bx,2,none⟩=some (.int .i64 s)∧w.cell? ⟨v.bx,3,none⟩=some (.bool d)
section
variable (v₀:WV)
def AtD4(g:Goroutine)(w:World):Prop:=
 g.status= .running∧mayWake C.P g=true∧(WgAt C.ty C.Wg w 0 0→∃g',stepG C.P false g w= .go g' (w.setCell (smA C.Wg) (.int .u32 1)) (semEvents (smA C.Wg))∧∃q,QuitsD C.P q 1 g')
def AtD3(g:Goroutine)(w:World):Prop:=
 g.status= .running∧(WgAt C.ty C.Wg w 1 0→∃g',stepG C.P false g w= .go g' (w.setCell (stA C.Wg) (.int .u64 0)) #[wr (stA C.Wg)]∧∃m,Goes C.P false (Rely false (Tbox C v₀)) Go.ConcR.DC0 (AtD4 C) m g' (w.setCell (stA C.Wg) (.int .u64 0)))
def AtD2(g:Goroutine)(w:World):Prop:=
 g.status= .running∧(WgAt C.ty C.Wg w 1 0→∃g',stepG C.P false g w= .go g' w #[rd (stA C.Wg)]∧∃m,Goes C.P false (Rely false (Tbox C v₀)) Go.ConcR.DC0 (AtD3 C v₀) m g' w)
def AtD1(g:Goroutine)(w:World):Prop:=
 g.status= .running∧∀v wt:Nat,wt≤1→v<2147483647→WgAt C.ty C.Wg w ((v+1)*KK+wt) 0→
  ∃g',stepG C.P false g w= .go g' (w.setCell (stA C.Wg) (.int .u64 (v*KK+wt))) #[rd (stA C.Wg),wr (stA C.Wg)]∧
   ((v=0∧wt=1)→∃m,Goes C.P false (Rely false (Tbox C v₀)) Go.ConcR.DC0 (AtD2 C v₀) m g' (w.setCell (stA C.Wg) (.int .u64 (v*KK+wt))))∧(¬(v=0∧wt=1)→∃q,QuitsD C.P q 1 g')
def AtK1(g:Goroutine)(w:World):Prop:=
 g.status= .running∧∃g',stepG C.P false g w= .go g' w #[mk .disable]∧∃m,Goes C.P false (Rely false (Tbox C v₀)) Go.ConcR.DC0 (AtD1 C v₀) m g' w
end
def AtR0(v:WV)(s:Int)(d:Bool)(T:Terr)(g:Goroutine)(w:World):Prop:=
 g.status= .running∧BoxIs v s d w∧T.wr (.cell ⟨v.bx,2,none⟩)∧T.wr (.cell ⟨v.bx,3,none⟩)∧∃g',stepG C.P false g w= .go g' w #[mk (.releaseMerge (stA C.Wg))]∧∃m,Goes C.P false (Rely false (Tbox C v)) Go.ConcR.DC0 (AtK1 C v) m g' w
def selCases(v:WV):Array CommCase:= #[rcase v.an (.int .i64 0),rcase C.qc (.agg #[])]
def shutEvs(c:Nat):Array Event:= #[⟨.obj c,false,true⟩,⟨.obj c,true,true⟩]
def AtCl(v:WV)(s:σ)(T:Terr)(g:Goroutine)(w:World):Prop:=
 g.status= .running∧∀r:Nat,w.heap[v.of]?=some (.chan 0 #[] false r r false)→mayWake C.P g=true∧∃g',stepG C.P false g w= .go g' (w.setChan v.of 0 #[] true r r false) (shutEvs v.of)∧
  ∃m,GoesN C.P false false true (AtR0 C v (C.sum s) false) m (Tidle C v T.wr) g' (w.setChan v.of 0 #[] true r r false)
def AtSel(Nx:σ→Terr→Goroutine→World→Prop)(v:WV)(s:σ)(T:Terr)(g:Goroutine)(w:World):Prop:=
 g.status= .running∧g.offers=none∧stepG C.P false g w= .comm g (selCases C v) true .select w #[]∧
  (∀x w₁,Rely false (Tidle C v T.wr) w w₁→C.good w₁→∃m,GoesN C.P false false false (Nx (C.ans s x)) m (Tbusy C v T.wr) (g.finishComm C.P (selCases C v) .select 0 (.int .i64 x) true) w₁)∧
  (∀w₁,Rely false (Tidle C v T.wr) w w₁→∃m,GoesN C.P false false true (AtCl C v s) m (Tidle C v T.wr) (g.finishComm C.P (selCases C v) .select 1 (.agg #[]) false) w₁)
def AtRun(v:WV):Nat→σ→Terr→Goroutine→World→Prop
 |n,s=>fun T g w=>g.status= .running∧g.offers=none∧
  match C.nxt s with
  |none=>∀r:Nat,w.heap[v.of]?=some (.chan 0 #[] false r r false)→mayWake C.P g=true∧∃g',stepG C.P false g w= .go g' (w.setChan v.of 0 #[] true r r false) (shutEvs v.of)∧
    ∃m,GoesN C.P false false true (AtR0 C v (C.sum s) true) m (Tidle C v T.wr) g' (w.setChan v.of 0 #[] true r r false)
  |some (x,s')=>
   match n with
   |0=>False
   |n+1=>(∃z,stepG C.P false g w= .comm g #[scase v.of x z] true .send w #[])∧∀w₁,Rely false (Tidle C v T.wr) w w₁→∃m,GoesN C.P false false true (AtSel C (AtRun v n) v s') m (Tidle C v T.wr) (Conc.served g undef) w₁
section
variable (Anc:Goroutine→World→Prop) (An:Terr→Goroutine→World→Prop)
def AtAnc(_:Terr)(g:Goroutine)(w:World):Prop:=g.status= .running∧Anc g w
def AtAcq(T:Terr)(g:Goroutine)(w:World):Prop:=
 g.status= .running∧∃g',stepG C.P true g w= .go g' w #[mk (.acquire (stA C.Wg))]∧∃m,GoesN C.P true false true (AtAnc Anc) m T g' w
def AtKe(T:Terr)(g:Goroutine)(w:World):Prop:=
 g.status= .running∧∃g',stepG C.P true g w= .go g' w #[mk .enable]∧∃m,GoesN C.P true false true (AtAcq C Anc) m T g' w
def AtW4(T:Terr)(g:Goroutine)(w:World):Prop:=
 g.status= .running∧(WgAt C.ty C.Wg w 0 0→∃g',stepG C.P true g w= .go g' w #[rd (stA C.Wg)]∧∃m,GoesN C.P true false true (AtKe C Anc) m T g' w)
def AtW3(T:Terr)(g:Goroutine)(w:World):Prop:=
 g.status= .running∧g.offers=none∧
  ((∃st,WgAt C.ty C.Wg w st 0)→stepG C.P true g w= .go {g with status:=.blocked} w #[])∧
  (WgAt C.ty C.Wg w 0 1→∃g',stepG C.P true g w= .go g' (w.setCell (smA C.Wg) (.int .u32 0)) (semEvents (smA C.Wg))∧∃m,GoesN C.P true false true (AtW4 C Anc) m T g' (w.setCell (smA C.Wg) (.int .u32 0)))
def AtWs(T:Terr)(g:Goroutine)(w:World):Prop:=
 g.status= .running∧∃g',stepG C.P true g w= .go g' w #[mk (.write (smA C.Wg))]∧∃m,GoesN C.P true false true (AtW3 C Anc) m T g' w
def AtW2(vs:Nat)(T:Terr)(g:Goroutine)(w:World):Prop:=
 g.status= .running∧∀v:Nat,v<2147483648→WgAt C.ty C.Wg w (v*KK) 0→
  (v=vs→∃g',stepG C.P true g w= .go g' (w.setCell (stA C.Wg) (.int .u64 (v*KK+1))) #[rd (stA C.Wg),wr (stA C.Wg)]∧∃m,GoesN C.P true false true (AtWs C Anc) m T g' (w.setCell (stA C.Wg) (.int .u64 (v*KK+1))))∧
  (v≠vs→∃g',stepG C.P true g w= .go g' w #[rd (stA C.Wg)]∧∃m,GoesN C.P true false true An m T g' w)
def AtW1(T:Terr)(g:Goroutine)(w:World):Prop:=
 g.status= .running∧∀v:Nat,v<2147483648→WgAt C.ty C.Wg w (v*KK) 0→∃g',stepG C.P true g w= .go g' w #[rd (stA C.Wg)]∧
  (v=0→∃m,GoesN C.P true false true (AtKe C Anc) m T g' w)∧(v≠0→∃m,GoesN C.P true false true (AtW2 C Anc An v) m T g' w)
def AtKd(T:Terr)(g:Goroutine)(w:World):Prop:=
 g.status= .running∧∃g',stepG C.P true g w= .go g' w #[mk .disable]∧∃m,GoesN C.P true false true An m T g' w
def Waits(T:Terr)(g:Goroutine)(w:World):Prop:=
 ∃An:Terr→Goroutine→World→Prop,(∀T g w,An T g w→g.status= .running)∧(∀T g w,An T g w→∃m,GoesN C.P true false true (AtW1 C Anc An) m T g w)∧∃m,GoesN C.P true false true (AtKd C An) m T g w
end
def QuietS(n:Nat)(st:Nat→WState σ):Prop:=∀k,k<n→¬(st k).isBusy
inductive SW(Anc:Nat→(Nat→WV)→(Nat→WState σ)→Goroutine→World→Prop):Terr→Nat→Nat→Nat→(Nat→WV)→(Nat→WState σ)→Goroutine→World→Prop
 |own {T:Terr} {d p n:Nat} {ws:Nat→WV} {st:Nat→WState σ} {g:Goroutine} {w:World} (q:Bool) (hq:q=true→QuietS n st) (Stop:Terr→Goroutine→World→Prop) (h:GoesV C.P true q Stop T g w)
   (k:∀T' g' w',Stop T' g' w'→SW Anc T' d p n ws st g' w'):SW Anc T d p n ws st g w
 |disable {T:Terr} {p n:Nat} {ws:Nat→WV} {st:Nat→WState σ} {g:Goroutine} {w:World} (g':Goroutine) (hs:g.status= .running) (h:∀w₁,Rely false T w w₁→stepG C.P true g w₁= .go g' w₁ #[mk .disable])
   (k:∀w₁,Rely false T w w₁→SW Anc T 1 p n ws st g' w₁):SW Anc T 0 p n ws st g w
 |enable {T:Terr} {p n:Nat} {ws:Nat→WV} {st:Nat→WState σ} {g:Goroutine} {w:World} (g':Goroutine) (hs:g.status= .running) (h:∀w₁,Rely false T w w₁→stepG C.P true g w₁= .go g' w₁ #[mk .enable])
   (k:∀w₁,Rely false T w w₁→SW Anc T 0 p n ws st g' w₁):SW Anc T 1 p n ws st g w
 |said {T:Terr} {d p n:Nat} {ws:Nat→WV} {st:Nat→WState σ} {g:Goroutine} {w:World} (g':Goroutine) (hs:g.status= .running) (h:∀w₁,Rely false T w w₁→stepG C.P true g w₁= .go g' w₁ #[mk (.read (smA C.Wg))])
   (k:∀w₁,Rely false T w w₁→SW Anc T d p n ws st g' w₁):SW Anc T d p n ws st g w
 |add {T:Terr} {n:Nat} {ws:Nat→WV} {st:Nat→WState σ} {g:Goroutine} {w:World} (G':Nat→Goroutine) (hs:g.status= .running) (hb:n<2147483646)
   (h:∀w₁,Rely false T w w₁→∀v:Nat,v<2147483647→WgAt C.ty C.Wg w₁ (v*KK) 0→stepG C.P true g w₁= .go (G' v) (w₁.setCell (stA C.Wg) (.int .u64 ((v+1)*KK))) #[rd (stA C.Wg),wr (stA C.Wg)])
   (k:∀v,v<2147483647→∀w₁,Rely false T w w₁→SW Anc T 1 1 n ws st (G' v) w₁):SW Anc T 1 0 n ws st g w
 |go {T:Terr} {n:Nat} {ws:Nat→WV} {st:Nat→WState σ} {g:Goroutine} {w:World} (v:WV) (s:σ) (N:Nat) (wk:Loc→Prop) (T':Terr) (g' child:Goroutine) (hs:g.status= .running)
   (h:∀w₁,Rely false T w w₁→stepG C.P true g w₁= .spawn g' child w₁ #[]) (hc:child.status= .running)
   (hof:w.heap[v.of]?=some (.chan 0 #[] false 0 0 false)) (han:w.heap[v.an]?=some (.chan 0 #[] false 0 0 false)) (oof:T.wr (.obj v.of)) (oan:T.wr (.obj v.an)) (hne:v.of≠v.an)
   (hck:∀l,v.ck l→T.rd l) (hwk:∀l,wk l→T.wr l) (hR:∀l,C.R0 l→T.rd l) (hwc:∀l,wk l→¬v.ck l∧¬C.R0 l) (hcr:∀l,v.ck l→¬C.R0 l) (cof:v.ck (.obj v.of)) (can:v.ck (.obj v.an)) (hbo:wk (.obj v.bx))
   (hrd:∀l,T'.rd l↔T.rd l∧¬wk l) (hwr:∀l,T'.wr l→T.wr l∧¬v.ck l∧¬wk l∧¬C.R0 l) (hkn:T'.kn=T.kn)
   (hch:∀w₁,Rely false T w w₁→∃m,GoesN C.P false false false (AtRun C v N s) m (Tbusy C v wk) child w₁)
   (k:∀w₁,Rely false T w w₁→SW Anc T' 0 0 (n+1) (upd ws n v) (upd st n (.busy s)) g' w₁):SW Anc T 0 1 n ws st g w
 |recv {T:Terr} {n:Nat} {ws:Nat→WV} {st:Nat→WState σ} {g:Goroutine} {w:World} (i:Nat) (s s':σ) (x z:Value) (T':Terr) (hi:i<n) (hst:st i= .busy s) (hn:C.nxt s=some (x,s')) (hs:g.status= .running) (ho:g.offers=none)
   (h:∀w₁,Rely false T w w₁→stepG C.P true g w₁= .comm g #[rcase (ws i).of z] true (.recv true) w₁ #[])
   (hrd:∀l,T'.rd l↔T.rd l) (hwr:∀l,T'.wr l→T.wr l∨(C.R0 l∧QuietS n (upd st i (.offd s')))) (hkn:T'.kn=T.kn)
   (k:∀w₁,Rely false T w w₁→SW Anc T' 0 0 n ws (upd st i (.offd s')) (Conc.served g (.tuple #[x,.bool true])) w₁):SW Anc T 0 0 n ws st g w
 |recvEnd {T:Terr} {n:Nat} {ws:Nat→WV} {st:Nat→WState σ} {g:Goroutine} {w:World} (i:Nat) (s:σ) (z:Value) (T':Terr) (hi:i<n) (hst:st i= .busy s) (hn:C.nxt s=none) (hs:g.status= .running) (ho:g.offers=none)
   (h:∀w₁,Rely false T w w₁→stepG C.P true g w₁= .comm g #[rcase (ws i).of z] true (.recv true) w₁ #[])
   (hrd:∀l,T'.rd l↔T.rd l) (hwr:∀l,T'.wr l→T.wr l∨(C.R0 l∧QuietS n (upd st i (.ended s)))) (hkn:T'.kn=T.kn)
   (k:∀w₁,Rely false T w w₁→SW Anc T' 0 0 n ws (upd st i (.ended s)) (Conc.served g (.tuple #[z,.bool false])) w₁):SW Anc T 0 0 n ws st g w
 |send {T:Terr} {n:Nat} {ws:Nat→WV} {st:Nat→WState σ} {g:Goroutine} {w:World} (i:Nat) (s:σ) (x:Int) (z:Value) (T':Terr) (hi:i<n) (hst:st i= .offd s) (hs:g.status= .running) (ho:g.offers=none)
   (h:∀w₁,Rely false T w w₁→stepG C.P true g w₁= .comm g #[scase (ws i).an (.int .i64 x) z] true .send w₁ #[])
   (hgood:∀w₁,Rely false T w w₁→C.good w₁) (hR:∀l,C.R0 l→T.rd l) (hrd:∀l,T'.rd l↔T.rd l) (hwr:∀l,T'.wr l→T.wr l∧¬C.R0 l) (hkn:T'.kn=T.kn)
   (k:∀w₁,Rely false T w w₁→SW Anc T' 0 0 n ws (upd st i (.busy (C.ans s x))) (Conc.served g undef) w₁):SW Anc T 0 0 n ws st g w
 |shut {T:Terr} {n:Nat} {ws:Nat→WV} {st:Nat→WState σ} {g:Goroutine} {w:World} (g':Goroutine) (hq:QuietS n st) (hs:g.status= .running) (hm:mayWake C.P g=true) (ho:T.rd (.obj C.qc))
   (h:∀w₁,Rely false T w w₁→w₁.heap[C.qc]?=some (.chan 0 #[] false 0 0 false)→stepG C.P true g w₁= .go g' (w₁.setChan C.qc 0 #[] true 0 0 false) (shutEvs C.qc))
   (hs':g'.status= .running)
   (k:∀w₁,Rely false T w w₁→Waits C (Anc n ws st) T g' w₁):SW Anc T 0 0 n ws st g w
end
section
variable {σ:Type} {C:Fix σ} {Anc:Nat→(Nat→WV)→(Nat→WState σ)→Goroutine→World→Prop} {T:Terr} {d p n:Nat} {ws:Nat→WV} {st:Nat→WState σ} {g:Goroutine} {w w₁:World}
theorem own_chan{T:Terr}{w w₁:World}{c:Nat}{q:Bool}{cap s r:Nat}{buf:Array Value}{cl tm:Bool}(h:Rely q T w w₁)(ho:T.wr (.obj c))(hc:w.heap[c]?=some (.chan cap buf cl s r tm)):w₁.heap[c]?=some (.chan cap buf cl s r tm):=
 h.own c _ ho hc (fun _ _ _=>by simp)
theorem SW.rely{b:Bool}(h:SW C Anc T d p n ws st g w)(r:Rely b T w w₁)(hb:QuietS n st→b=true):SW C Anc T d p n ws st g w₁:=by
 have rl:=r.loud
 cases h with
 |own q hq Stop h k=>
  refine .own q hq Stop ?_ k
  cases q with
  |true=>rw[hb (hq rfl)] at r;exact h.rely r
  |false=>exact h.rely rl
 |disable g' hs h k=>exact .disable g' hs (fun w₂ r₂=>h w₂ (rl.trans r₂)) (fun w₂ r₂=>k w₂ (rl.trans r₂))
 |enable g' hs h k=>exact .enable g' hs (fun w₂ r₂=>h w₂ (rl.trans r₂)) (fun w₂ r₂=>k w₂ (rl.trans r₂))
 |said g' hs h k=>exact .said g' hs (fun w₂ r₂=>h w₂ (rl.trans r₂)) (fun w₂ r₂=>k w₂ (rl.trans r₂))
 |add G' hs hb h k=>exact .add G' hs hb (fun w₂ r₂=>h w₂ (rl.trans r₂)) (fun v hv w₂ r₂=>k v hv w₂ (rl.trans r₂))
 |go v s N wk T' g' child hs h hc hof han oof oan hne hck hwk hR hwc hcr cof can hbo hrd hwr hkn hch k=>
  exact .go v s N wk T' g' child hs (fun w₂ r₂=>h w₂ (rl.trans r₂)) hc (own_chan r oof hof) (own_chan r oan han) oof oan hne hck hwk hR hwc hcr cof can hbo hrd hwr hkn (fun w₂ r₂=>hch w₂ (rl.trans r₂)) (fun w₂ r₂=>k w₂ (rl.trans r₂))
 |recv i s s' x z T' hi hst hn hs ho h hrd hwr hkn k=>exact .recv i s s' x z T' hi hst hn hs ho (fun w₂ r₂=>h w₂ (rl.trans r₂)) hrd hwr hkn (fun w₂ r₂=>k w₂ (rl.trans r₂))
 |recvEnd i s z T' hi hst hn hs ho h hrd hwr hkn k=>exact .recvEnd i s z T' hi hst hn hs ho (fun w₂ r₂=>h w₂ (rl.trans r₂)) hrd hwr hkn (fun w₂ r₂=>k w₂ (rl.trans r₂))
 |send i s x z T' hi hst hs ho h hgood hR hrd hwr hkn k=>exact .send i s x z T' hi hst hs ho (fun w₂ r₂=>h w₂ (rl.trans r₂)) (fun w₂ r₂=>hgood w₂ (rl.trans r₂)) hR hrd hwr hkn (fun w₂ r₂=>k w₂ (rl.trans r₂))
 |shut g' hq hs hm ho h hs' k=>exact .shut g' hq hs hm ho (fun w₂ r₂=>h w₂ (rl.trans r₂)) hs' (fun w₂ r₂=>k w₂ (rl.trans r₂))
end
end
section
open Go Go.Conc Go.ConcN
open Go.ConcR (KK WgAt stA smA rd wr mk)
inductive Pos(σ:Type) where
 |run (N:Nat) (s:σ)
 |sendB (N:Nat) (s s':σ) (x:Value)
 |sel (N:Nat) (s:σ)
 |selB (N:Nat) (s:σ)
 |fin (stage:Nat) (s:σ) (b:Bool)
structure WDat(σ:Type) where
 pos:Pos σ
 fuel:Nat
 deaf:Nat
 wr:Loc→Prop
 sh:Option Who
 rel:Option Nat
section
variable {σ:Type} (C:Fix σ)
def selCont(v:WV)(N:Nat)(s:σ)(wr:Loc→Prop)(g0:Goroutine)(w:World):Prop:=∀w₁,Rely false (Tidle C v wr) w w₁→AtSel C (AtRun C v N) v s (Tidle C v wr) g0 w₁
def selStand(qcl:Bool)(v:WV)(g0:Goroutine):Goroutine:=if qcl then {parked g0 (selCases C v) .select with status:=.running} else parked g0 (selCases C v) .select
def Boxed(v:WV)(D:WDat σ)(s:σ)(b:Bool)(w:World):Prop:=BoxIs v (C.sum s) b w∧D.wr (.cell ⟨v.bx,2,none⟩)∧D.wr (.cell ⟨v.bx,3,none⟩)
def WSit(qcl:Bool)(v:WV)(D:WDat σ)(g:Goroutine)(w:World):Prop:=
 match D.pos with
 | .run N s=>GoesN C.P false false false (AtRun C v N s) D.fuel (Tbusy C v D.wr) g w∧D.deaf=0
 | .sendB N s s' x=>∃g0 z,g=parked g0 #[scase v.of x z] .send∧C.nxt s=some (x,s')∧D.deaf=0∧∀w₁,Rely false (Tidle C v D.wr) w w₁→∃m,GoesN C.P false false true (AtSel C (AtRun C v N) v s') m (Tidle C v D.wr) (Conc.served g0 undef) w₁
 | .sel N s=>GoesN C.P false false true (AtSel C (AtRun C v N) v s) D.fuel (Tidle C v D.wr) g w∧D.deaf=0
 | .selB N s=>∃g0,g=selStand C qcl v g0∧selCont C v N s D.wr g0 w∧D.deaf=0
 | .fin 8 s b=>(GoesN C.P false false true (AtCl C v s) D.fuel (Tidle C v D.wr) g w∧D.deaf=0)∧b=false
 | .fin 7 s b=>GoesN C.P false false true (AtR0 C v (C.sum s) b) D.fuel (Tidle C v D.wr) g w∧D.deaf=0
 | .fin 6 s b=>Goes C.P false (Rely false (Tbox C v)) Go.ConcR.DC0 (AtK1 C v) D.fuel g w∧D.deaf=0∧Boxed C v D s b w
 | .fin 5 s b=>Goes C.P false (Rely false (Tbox C v)) Go.ConcR.DC0 (AtD1 C v) D.fuel g w∧D.deaf=1∧Boxed C v D s b w
 | .fin 4 s b=>Goes C.P false (Rely false (Tbox C v)) Go.ConcR.DC0 (AtD2 C v) D.fuel g w∧D.deaf=1∧Boxed C v D s b w
 | .fin 3 s b=>Goes C.P false (Rely false (Tbox C v)) Go.ConcR.DC0 (AtD3 C v) D.fuel g w∧D.deaf=1∧Boxed C v D s b w
 | .fin 2 s b=>Goes C.P false (Rely false (Tbox C v)) Go.ConcR.DC0 (AtD4 C) D.fuel g w∧D.deaf=1∧Boxed C v D s b w
 | .fin 1 s b=>QuitsD C.P D.fuel D.deaf g∧Boxed C v D s b w
 | .fin _ _ _=>False
def VSit(gk:Nat)(vw:WState σ)(D:WDat σ)(t:Trace)(v:WV):Prop:=
 match D.pos with
 | .run _ s| .sendB _ s _ _=>vw= .busy s∧D.sh=some (.gor gk)∧D.rel=none
 | .sel _ s| .selB _ s=>vw= .offd s∧D.sh=none∧D.rel=none
 | .fin st s true=>((vw= .busy s∧C.nxt s=none∧∃m,D.sh=some (.at m)∧t.act? m=some (.close v.of)∧t.heard m)∨(vw= .ended s∧D.sh=none))∧(7≤st↔D.rel=none)
 | .fin st s false=>vw= .offd s∧D.sh=none∧(7≤st↔D.rel=none)
def who(gk:Nat)(D:WDat σ):Who:=match D.rel with|none=>.gor gk|some r=>.at r
def HoldOf(g0 n:Nat)(ws:Nat→WV)(D:Nat→WDat σ)(T:Terr)(x:Who)(l:Loc):Prop:=
 (x= .gor 0∧T.rd l)∨∃k,k<n∧((x=who (g0+k) (D k)∧((ws k).ck l∨(D k).wr l))∨((D k).sh=some x∧C.R0 l))
structure Lay(n:Nat)(ws:Nat→WV)(D:Nat→WDat σ)(T:Terr)(w:World):Prop where
 dS:∀l,T.wr l→∀k,k<n→¬(ws k).ck l∧¬(D k).wr l∧((D k).sh≠none→¬C.R0 l)
 dW:∀k,k<n→∀l,(D k).wr l→¬T.rd l∧¬C.R0 l∧¬(ws k).ck l∧∀k',k'<n→k'≠k→¬(ws k').ck l∧¬(D k').wr l
 ck:∀k,k<n→∀l,(ws k).ck l→T.rd l
 r0:∀l,C.R0 l→T.rd l
 low:∀l,T.rd l→l.low w.heap.size∧¬C.Sh l
 lowW:∀k,k<n→∀l,(D k).wr l→l.low w.heap.size∧¬C.Sh l
 sh:∀l,C.Sh l→l.low w.heap.size
 wg:∀a:Addr,a.block=C.Wg→C.Sh (.cell a)
 wgo:¬T.wr (.obj C.Wg)
 qco:¬T.wr (.obj C.qc)
 cks:∀k,k<n→(ws k).ck (.obj (ws k).of)∧(ws k).ck (.obj (ws k).an)
 ckr:∀k,k<n→∀l,(ws k).ck l→¬C.R0 l
 r0n:¬C.R0 (.obj C.Wg)∧¬C.R0 (.obj C.qc)
 cov:∀l,l.isMemory=true→l.low w.heap.size→¬C.Sh l→T.rd l∨∃k,k<n∧(D k).wr l
 bxo:∀k,k<n→(D k).wr (.obj (ws k).bx)
def isShut:Pos σ→Bool
 | .fin st _ b=>b||decide (st≠8)
 |_=>false
structure Chans(n:Nat)(ws:Nat→WV)(D:Nat→WDat σ)(qcl:Bool)(w:World):Prop where
 of:∀k,k<n→∃r,w.heap[(ws k).of]?=some (.chan 0 #[] (isShut (D k).pos) r r false)
 an:∀k,k<n→∃r,w.heap[(ws k).an]?=some (.chan 0 #[] false r r false)
 qc:w.heap[C.qc]?=some (.chan 0 #[] qcl 0 0 false)
 ne:∀k,k<n→(ws k).of≠(ws k).an∧(ws k).of≠C.qc∧(ws k).an≠C.qc∧∀k',k'<n→k'≠k→(ws k).of≠(ws k').of∧(ws k).of≠(ws k').an∧(ws k).an≠(ws k').an
structure Tr(g0 n:Nat)(ws:Nat→WV)(D:Nat→WDat σ)(T:Terr)(dS:Nat)(sz:Nat)(t:Trace):Prop where
 shares:Shares C.Sh (HoldOf C g0 n ws D T) sz t
 quiet:Quiet (fun l=>∃a,l= .cell a∧a.block=C.Wg) t
 norel:NoRelease (stA C.Wg) t
 deaf0:Deaf t 0=dS
 deafW:∀k,k<n→Deaf t (g0+k)=(D k).deaf
 rel:∀k,k<n→∀r,(D k).rel=some r→t.act? r=some (.mark (.releaseMerge (stA C.Wg)))∧t.heard r
structure Net(g0 n:Nat)(ws:Nat→WV)(st:Nat→WState σ)(D:Nat→WDat σ)(T:Terr)(dS:Nat)(qcl:Bool)(q:Nat→Nat)(gs:Array Goroutine)(w:World)(t:Trace):Prop where
 pos:0<g0
 size:gs.size=g0+n
 old:∀i g,0<i→i<g0→gs[i]?=some g→QuitsD C.P (q i) (Deaf t i) g
 above:∀j,gs.size≤j→Deaf t j=0
 sit:∀k,k<n→∃g,gs[g0+k]?=some g∧WSit C qcl (ws k) (D k) g w
 view:∀k,k<n→VSit C (g0+k) (st k) (D k) t (ws k)
 lay:Lay C n ws D T w
 chans:Chans C n ws D qcl w
 tr:Tr C g0 n ws D T dS w.heap.size t
 kn:∀b,T.kn b
end
section
variable {σ:Type} {C:Fix σ}
theorem AtRun.running{v:WV}{N:Nat}{s:σ}{T:Terr}{g:Goroutine}{w:World}(h:AtRun C v N s T g w):g.status= .running∧g.offers=none:=by
 cases N<;>(unfold AtRun at h;exact⟨h.1,h.2.1⟩)
def wterr(C:Fix σ)(v:WV)(D:WDat σ):Terr:=
 match D.pos with
 | .run _ _=>Tbusy C v D.wr
 | .fin 8 _ _=>Tidle C v D.wr
 | .fin 7 _ _=>Tidle C v D.wr
 | .fin _ _ _=>⟨fun l=>(l= .cell ⟨v.bx,2,none⟩∨l= .cell ⟨v.bx,3,none⟩)∧D.wr l,fun _=>False,fun b=>b=C.Wg∨b=v.bx⟩
 |_=>Tidle C v D.wr
theorem WSit.rely{qcl:Bool}{v:WV}{D:WDat σ}{g:Goroutine}{w w₁:World}(h:WSit C qcl v D g w)(r:Rely false (wterr C v D) w w₁):WSit C qcl v D g w₁:=by
 obtain⟨pos,fuel,deaf,wr,sh,rel⟩:=D
 cases pos with
 |run N s=>exact⟨GoesN.rely h.1 r,h.2⟩
 |sendB N s s' x=>
  obtain⟨g0,z,h1,h2,h3,h4⟩:=h
  exact⟨g0,z,h1,h2,h3,fun w₂ r₂=>h4 w₂ (Rely.trans r r₂)⟩
 |sel N s=>exact⟨GoesN.rely h.1 r,h.2⟩
 |selB N s=>
  obtain⟨g0,h1,h2,h3⟩:=h
  exact⟨g0,h1,fun w₂ r₂=>h2 w₂ (Rely.trans r r₂),h3⟩
 |fin st s b=>
  have keep:Rely false (⟨fun l=>(l= .cell ⟨v.bx,2,none⟩∨l= .cell ⟨v.bx,3,none⟩)∧wr l,fun _=>False,fun b=>b=C.Wg∨b=v.bx⟩:Terr) w w₁→Boxed C v ⟨.fin st s b,fuel,deaf,wr,sh,rel⟩ s b w→Boxed C v ⟨.fin st s b,fuel,deaf,wr,sh,rel⟩ s b w₁:=fun r ⟨⟨h1,h2⟩,h3,h4⟩=>
   ⟨⟨(r.cell _ (.inl ⟨.inl rfl,h3⟩)).trans h1,(r.cell _ (.inl ⟨.inr rfl,h4⟩)).trans h2⟩,h3,h4⟩
  have less:Rely false (⟨fun l=>(l= .cell ⟨v.bx,2,none⟩∨l= .cell ⟨v.bx,3,none⟩)∧wr l,fun _=>False,fun b=>b=C.Wg∨b=v.bx⟩:Terr) w w₁→Boxed C v ⟨.fin st s b,fuel,deaf,wr,sh,rel⟩ s b w→Rely false (Tbox C v) w w₁:=fun r hb=>
   Rely.less r (fun l h=>.inl (h.elim (fun h=>⟨h,by rcases h with rfl|rfl;exact hb.2.1;exact hb.2.2⟩) fun h=>h.elim)) (fun l h=>h.elim) fun b h=>h
  match st,h,r with
  |8,h,r=>exact⟨⟨GoesN.rely h.1.1 r,h.1.2⟩,h.2⟩
  |7,h,r=>exact⟨GoesN.rely h.1 r,h.2⟩
  |6,h,r=>exact⟨Goes.rely (R:=Rely false (Tbox C v)) (fun _ _ _ h h'=>Rely.trans h h') h.1 (less r h.2.2),h.2.1,keep r h.2.2⟩
  |5,h,r=>exact⟨Goes.rely (R:=Rely false (Tbox C v)) (fun _ _ _ h h'=>Rely.trans h h') h.1 (less r h.2.2),h.2.1,keep r h.2.2⟩
  |4,h,r=>exact⟨Goes.rely (R:=Rely false (Tbox C v)) (fun _ _ _ h h'=>Rely.trans h h') h.1 (less r h.2.2),h.2.1,keep r h.2.2⟩
  |3,h,r=>exact⟨Goes.rely (R:=Rely false (Tbox C v)) (fun _ _ _ h h'=>Rely.trans h h') h.1 (less r h.2.2),h.2.1,keep r h.2.2⟩
  |2,h,r=>exact⟨Goes.rely (R:=Rely false (Tbox C v)) (fun _ _ _ h h'=>Rely.trans h h') h.1 (less r h.2.2),h.2.1,keep r h.2.2⟩
  |1,h,r=>exact⟨h.1,keep r h.2⟩
theorem WSit.status{qcl:Bool}{v:WV}{D:WDat σ}{g:Goroutine}{w:World}(h:WSit C qcl v D g w)(h1:∀N s s' x,D.pos≠ .sendB N s s' x)(h2:∀N s,D.pos≠ .selB N s):g.status= .running∨g.status= .finished:=by
 obtain⟨pos,fuel,deaf,wr,sh,rel⟩:=D
 cases pos with
 |run N s=>exact .inl (GoesN.running (fun _ _ _ x=>AtRun.running x |>.1) h.1)
 |sendB N s s' x=>exact absurd rfl (h1 _ _ _ _)
 |sel N s=>exact .inl (GoesN.running (fun _ _ _ x=>x.1) h.1)
 |selB N s=>exact absurd rfl (h2 _ _)
 |fin st s b=>
  match st,h with
  |8,h=>exact .inl (GoesN.running (fun _ _ _ x=>x.1) h.1.1)
  |7,h=>exact .inl (GoesN.running (fun _ _ _ x=>x.1) h.1)
  |6,h=>exact .inl (Goes.running (fun _ _ x=>x.1) w (Rely.refl _ _ _) h.1)
  |5,h=>exact .inl (Goes.running (fun _ _ x=>x.1) w (Rely.refl _ _ _) h.1)
  |4,h=>exact .inl (Goes.running (fun _ _ x=>x.1) w (Rely.refl _ _ _) h.1)
  |3,h=>exact .inl (Goes.running (fun _ _ x=>x.1) w (Rely.refl _ _ _) h.1)
  |2,h=>exact .inl (Goes.running (fun _ _ x=>x.1) w (Rely.refl _ _ _) h.1)
  |1,h=>exact QuitsD.status h.1
theorem WSit.woken{qcl:Bool}{v:WV}{D:WDat σ}{g a a':Goroutine}{w w':World}(h:WSit C qcl v D g w)(ho:(∀st s b,D.pos≠ .fin st s b)→∃r,w'.heap[v.of]?=some (.chan 0 #[] false r r false))(hq:qcl=false→(∃r,w'.heap[v.an]?=some (.chan 0 #[] false r r false))∧∃r,w'.heap[C.qc]?=some (.chan 0 #[] false r r false)):WSit C qcl v D (Conc.woken C.P a a' w' g) w:=by
 have same:∀x:Goroutine,x.status= .running∨x.status= .finished→Conc.woken C.P a a' w' x=x:=fun x hx=>by
  unfold Conc.woken
  split
  ·exact again_running _ hx
  ·rfl
 obtain⟨pos,fuel,deaf,wr,sh,rel⟩:=D
 cases pos with
 |sendB N s s' x=>
  obtain⟨g0,z,h1,h2⟩:=h
  refine⟨g0,z,?_,h2⟩
  obtain⟨r,hr⟩:=ho fun _ _ _ e=>by cases e
  subst h1
  unfold Conc.woken
  split
  ·simp[Goroutine.again,parked,scase,hr]
  ·rfl
 |selB N s=>
  obtain⟨g0,h1,h2⟩:=h
  refine⟨g0,?_,h2⟩
  subst h1
  cases qcl with
  |true=>exact same _ (.inl rfl)
  |false=>
   obtain⟨⟨r,hr⟩,r',hr'⟩:=hq rfl
   unfold Conc.woken
   split
   ·simp[Goroutine.again,parked,selStand,selCases,rcase,hr,hr']
   ·rfl
 |run N s=>rw[same _ (WSit.status h (fun _ _ _ _=>by simp) (fun _ _=>by simp))];exact h
 |sel N s=>rw[same _ (WSit.status h (fun _ _ _ _=>by simp) (fun _ _=>by simp))];exact h
 |fin st s b=>rw[same _ (WSit.status h (fun _ _ _ _=>by simp) (fun _ _=>by simp))];exact h
theorem WSit.wokenUp{v:WV}{D:WDat σ}{g a a':Goroutine}{w w':World}(h:WSit C false v D g w)(ho:(∀st s b,D.pos≠ .fin st s b)→∃r,w'.heap[v.of]?=some (.chan 0 #[] false r r false))(hq:∃r,w'.heap[C.qc]?=some (.chan 0 #[] true r r false))(hm:mayWake C.P a=true)(ha:a'.status= .running):WSit C true v D (Conc.woken C.P a a' w' g) w:=by
 have same:∀x:Goroutine,x.status= .running∨x.status= .finished→Conc.woken C.P a a' w' x=x:=fun x hx=>by
  unfold Conc.woken
  split
  ·exact again_running _ hx
  ·rfl
 obtain⟨pos,fuel,deaf,wr,sh,rel⟩:=D
 cases pos with
 |sendB N s s' x=>
  obtain⟨g0,z,h1,h2⟩:=h
  refine⟨g0,z,?_,h2⟩
  obtain⟨r,hr⟩:=ho fun _ _ _ e=>by cases e
  subst h1
  unfold Conc.woken
  split
  ·simp[Goroutine.again,parked,scase,hr]
  ·rfl
 |selB N s=>
  obtain⟨g0,h1,h2⟩:=h
  refine⟨g0,?_,h2⟩
  subst h1
  obtain⟨r,hr⟩:=hq
  unfold Conc.woken
  rw[if_pos (by simp[hm,ha])]
  simp[Goroutine.again,parked,selStand,selCases,rcase,hr]
 |run N s=>rw[same _ (WSit.status h (fun _ _ _ _=>by simp) (fun _ _=>by simp))];exact h
 |sel N s=>rw[same _ (WSit.status h (fun _ _ _ _=>by simp) (fun _ _=>by simp))];exact h
 |fin st s b=>
  rw[same _ (WSit.status h (fun _ _ _ _=>by simp) (fun _ _=>by simp))]
  match st,h with
  |8,h=>exact h
  |7,h=>exact h
  |6,h=>exact h
  |5,h=>exact h
  |4,h=>exact h
  |3,h=>exact h
  |2,h=>exact h
  |1,h=>exact h
theorem VSit.app{gk:Nat}{vw:WState σ}{D:WDat σ}{t u:Trace}{v:WV}(h:VSit C gk vw D t v):VSit C gk vw D (t++u) v:=by
 obtain⟨pos,fuel,deaf,wr,sh,rel⟩:=D
 cases pos with
 |fin st s b=>
  cases b with
  |false=>exact h
  |true=>
   obtain⟨h1,h2⟩:=h
   refine⟨h1.imp (fun⟨a,b,m,c,d,e⟩=>⟨a,b,m,c,?_,?_⟩) id,h2⟩
   ·rw[act?_old (lt_of_act? d)];exact d
   ·exact(heard_old (lt_of_act? d)).2 e
 |_=>exact h
end
end
end Go.Side
