/-
  Texts of Ytbjlijagheifgaa, merged.
-/
import Derived.Test.YtbjlijagheifgaaD36
import Derived.Test.YtbjlijagheifgaaD25
import Derived.Test.YtbjlijagheifgaaD35
import Derived.Laws.StructEq
set_option linter.unusedSimpArgs false
set_option linter.unusedVariables false
namespace Go.Side
section
open Go Go.ConcN Go.Proofs.Ytbjlijagheifgaa
def takesD(b:Option OpD)(ch:Int):Bool:=match b with
 |none=>false
 |some b=>(b.kind==2&&b.chan==ch)||(b.kind==3&&b.el.contains ch)
def rowD(n:Nat)(off:Nat→Option OpD)(f:Nat)(a:OpD):List StepP:=((List.range n).filter fun t=>takesD (off t) a.chan).map fun t=>⟨f,t,a.chan,a.val⟩
def possD(n:Nat)(off:Nat→Option OpD):List StepP:=(List.range n).flatMap fun f=>match off f with
 |some a=>if a.kind=1 then rowD n off f a else[]
 |none=>[]
theorem possP_D{E:OpV→List Int}{n:Nat}{off:Nat→Option OpV}{offD:Nat→Option OpD}(h:∀k,k<n→off k=(offD k).map opv)(hE:∀k,k<n→∀x,offD k=some x→E (opv x)=x.el):possP E n off=possD n offD:=by
 unfold possP possD
 rw[List.flatMap_def,List.flatMap_def]
 congr 1
 apply List.map_congr_left
 intro f hf
 rw[h f (List.mem_range.1 hf)]
 cases offD f with
 |none=>rfl
 |some a=>
  simp only[Option.map_some]
  show(if a.kind=1 then _ else _)=_
  split
  ·unfold rowP rowD
   congr 1
   apply List.filter_congr
   intro t ht
   rw[List.mem_range] at ht
   rw[h t ht]
   cases hb:offD t with
   |none=>rfl
   |some b=>
    simp only[Option.map_some,takesP,takesD]
    rw[hE t ht b hb]
    rfl
  ·rfl
def offAt(L:List TkD)(p:List Nat)(k:Nat):Option OpD:=(L[k]?).bind fun t=>(p[k]?).bind fun i=>t.ops[i]?
def atOk(L:List TkD)(at_:List Int):Bool:=(List.range L.length).all fun i=>match L[i]?,at_[i]? with
 |some t,some p=>decide (0≤p)&&decide (p≤t.ops.length)
 |_,_=>false
def readyD(ch:Int)(L:List TkD)(at_:List Int):List StepP:=if(validT ch L&&(decide (at_.length=L.length)&&atOk L at_))=true then possD L.length (offAt L (at_.map Int.toNat)) else[]
def advL:List OpD→Nat→Int→Nat×Int
 |[],p,z=>(p,z)
 |o::l,p,z=>if o.kind=4 then advL l (p+1) (IntKind.i64.wrap (z+o.val)) else(p,z)
abbrev PS:=Nat→Nat×Int
def advS(L:List TkD)(s:PS):PS:=fun k=>match L[k]? with
 |none=>s k
 |some t=>advL (t.ops.drop (s k).1) (s k).1 (s k).2
def offS(L:List TkD)(s:PS)(k:Nat):Option OpD:=(L[k]?).bind fun t=>t.ops[(s k).1]?
def stepS(s:PS)(x:StepP):PS:=upd (upd s x.fr ((s x.fr).1+1,(s x.fr).2)) x.tg ((s x.tg).1+1,IntKind.i64.wrap ((s x.tg).2+x.vl))
def s0(L:List TkD):PS:=advS L fun _=>(0,0)
def possS(L:List TkD)(s:PS):List StepP:=possD L.length (offS L s)
inductive RunA(L:List TkD)(ch:List Int):PS→List StepP→PS→List StepP→Prop
 |done {s:PS} {S:List StepP} (h:possS L s=[]):RunA L ch s S s S
 |step {s s':PS} {S S':List StepP} {x:StepP} (h:(possS L s)[pickP ch S.length (possS L s).length]?=some x) (k:RunA L ch (advS L (stepS s x)) (S++[x]) s' S'):RunA L ch s S s' S'
theorem advL_spec:∀(l:List OpD) (p:Nat) (z:Int),∃m,(advL l p z).1=p+m∧adds (l.map opv) z=((l.drop m).map opv,(advL l p z).2)∧(∀x,l[m]?=some x→x.kind≠4)
 |[],p,z=>⟨0,rfl,rfl,fun x h=>by cases h⟩
 |o::l,p,z=>by
  unfold advL
  by_cases h:o.kind=4
  ·rw[if_pos h]
   obtain⟨m,h1,h2,h3⟩:=advL_spec l (p+1) (IntKind.i64.wrap (z+o.val))
   refine⟨m+1,by rw[h1];omega,?_,fun x hx=>h3 x (by simpa using hx)⟩
   rw[List.map_cons,adds_add (by exact h)]
   simpa[opv] using h2
  ·rw[if_neg h]
   refine⟨0,rfl,?_,fun x hx=>?_⟩
   ·rw[List.map_cons,adds_other (by exact h)];rfl
   ·simp only[List.getElem?_cons_zero,Option.some.injEq] at hx
    exact hx▸h
theorem advL_stop{l:List OpD}{p:Nat}{z:Int}(h:∀x,l[0]?=some x→x.kind≠4):advL l p z=(p,z):=by
 cases l with
 |nil=>rfl
 |cons o l=>
  unfold advL
  rw[if_neg (h o rfl)]
def RelK(t:TkD)(y:Nat×Int)(c:Option OpV×Wk):Prop:=
 (∀x,t.ops[y.1]?=some x→x.kind≠4)∧match t.ops[y.1]? with
 |some x=>c=(some (opv x),⟨(t.ops.drop (y.1+1)).map opv,y.2,some x.kind⟩)
 |none=>c.1=none∧adds c.2.rest c.2.sum=([],y.2)∧c.2.off=none
theorem relK_fet(t:TkD)(p:Nat)(z:Int):RelK t (advL (t.ops.drop p) p z) (fet ⟨(t.ops.drop p).map opv,z,none⟩):=by
 obtain⟨m,h1,h2,h3⟩:=advL_spec (t.ops.drop p) p z
 have e:t.ops[(advL (t.ops.drop p) p z).1]?=(t.ops.drop p)[m]?:=by rw[h1,List.getElem?_drop]
 refine⟨fun x hx=>h3 x (e▸hx),?_⟩
 rw[e]
 cases hx:(t.ops.drop p)[m]? with
 |none=>
  have hd:(t.ops.drop p).drop m=[]:=by
   rw[List.drop_eq_nil_iff]
   rw[List.getElem?_eq_none_iff] at hx
   exact hx
  rw[hd] at h2
  simp only[List.map_nil] at h2
  have hn:(⟨(t.ops.drop p).map opv,z,none⟩:Wk).nxo=none:=by unfold Wk.nxo;rw[h2]
  unfold fet
  rw[hn]
  exact⟨rfl,h2,rfl⟩
 |some x=>
  have hd:(t.ops.drop p).drop m=x::(t.ops.drop p).drop (m+1):=by
   have hl:m<(t.ops.drop p).length:=by
    rcases Nat.lt_or_ge m (t.ops.drop p).length with h|h
    ·exact h
    ·rw[List.getElem?_eq_none h] at hx;cases hx
   rw[List.drop_eq_getElem_cons hl]
   rw[List.getElem?_eq_getElem hl] at hx
   rw[Option.some.inj hx]
  rw[hd] at h2
  have hn:(⟨(t.ops.drop p).map opv,z,none⟩:Wk).nxo=some (opv x,⟨((t.ops.drop p).drop (m+1)).map opv,(advL (t.ops.drop p) p z).2,some x.kind⟩):=by
   unfold Wk.nxo
   rw[h2]
   rfl
  unfold fet
  rw[hn]
  simp only[h1,List.drop_drop]
  rw[show p+(m+1)=p+m+1 by omega]
def RelA(L:List TkD)(s:PS)(c:Cf):Prop:=∀(k:Nat) (t:TkD),L[k]?=some t→RelK t (s k) (c k)
theorem RelA.off{L:List TkD}{s:PS}{c:Cf}(R:RelA L s c){k:Nat}(hk:k<L.length):(c k).1=(offS L s k).map opv:=by
 have h:=(R k _ (List.getElem?_eq_getElem hk)).2
 unfold offS
 rw[List.getElem?_eq_getElem hk,Option.bind_some]
 cases hx:(L[k]).ops[(s k).1]? with
 |none=>rw[hx] at h;exact h.1
 |some x=>rw[hx] at h;rw[h];rfl
theorem RelA.poss{L:List TkD}{s:PS}{c:Cf}(R:RelA L s c)(hE:∀t∈L,∀x∈t.ops,EL L (opv x)=x.el):possP (EL L) L.length (fun k=>(c k).1)=possS L s:=by
 refine possP_D (fun k hk=>R.off hk) fun k hk x hx=>?_
 unfold offS at hx
 rw[List.getElem?_eq_getElem hk,Option.bind_some] at hx
 exact hE _ (List.getElem_mem hk) x (List.mem_of_getElem? hx)
theorem possD_mem{n:Nat}{off:Nat→Option OpD}{s:StepP}(h:s∈possD n off):s.fr<n∧s.tg<n∧∃a b,off s.fr=some a∧off s.tg=some b∧a.kind=1∧(b.kind=2∨b.kind=3)∧s.vl=a.val∧s.ch=a.chan∧takesD (some b) a.chan=true:=by
 obtain⟨f,hf,h⟩:=List.mem_flatMap.1 h
 rw[List.mem_range] at hf
 cases ha:off f with
 |none=>rw[ha] at h;cases h
 |some a=>
  rw[ha] at h
  simp only at h
  split at h
  ·rename_i hk
   obtain⟨t,ht,rfl⟩:=List.mem_map.1 h
   rw[List.mem_filter,List.mem_range] at ht
   obtain⟨h1,h2⟩:=ht
   cases hb:off t with
   |none=>rw[hb] at h2;cases h2
   |some b=>
    rw[hb] at h2
    refine⟨hf,h1,a,b,ha,rfl,hk,?_,rfl,rfl,h2⟩
    simp only[takesD,Bool.or_eq_true,Bool.and_eq_true,beq_iff_eq] at h2
    rcases h2 with h2|h2
    ·exact .inl h2.1
    ·exact .inr h2.1
  ·cases h
theorem possS_ne{L:List TkD}{s:PS}{x:StepP}(h:x∈possS L s):x.fr≠x.tg:=by
 obtain⟨_,_,a,b,h1,h2,h3,h4,_⟩:=possD_mem h
 intro e
 rw[e,h2] at h1
 obtain rfl:=Option.some.inj h1
 omega
theorem RelA.step{L:List TkD}{s:PS}{c:Cf}(R:RelA L s c){x:StepP}(hx:x∈possS L s):RelA L (advS L (stepS s x)) (stepC c x):=by
 obtain⟨h1,h2,a,b,ha,hb,ka,kb,_⟩:=possD_mem hx
 have hne:=possS_ne hx
 intro k t ht
 have hadv:advS L (stepS s x) k=advL (t.ops.drop (stepS s x k).1) (stepS s x k).1 (stepS s x k).2:=by
  unfold advS
  rw[ht]
 rw[hadv]
 have hoff:∀{j:Nat} {y:OpD} {u:TkD},offS L s j=some y→L[j]?=some u→u.ops[(s j).1]?=some y:=fun{j y u} h hu=>by
  unfold offS at h
  rw[hu] at h
  exact h
 unfold stepC stepS
 by_cases e2:k=x.tg
 ·subst e2
  rw[upd_eq,upd_eq]
  have hk:=R _ t ht
  have hy:=hoff hb ht
  have:=hk.2
  rw[hy] at this
  simp only at this
  rw[this]
  simp only
  have he:(⟨(t.ops.drop ((s x.tg).1+1)).map opv,(s x.tg).2,some b.kind⟩:Wk).ans x.vl=⟨(t.ops.drop ((s x.tg).1+1)).map opv,IntKind.i64.wrap ((s x.tg).2+x.vl),none⟩:=by
   unfold Wk.ans
   rw[if_neg (by simp only[Option.some.injEq];omega)]
  rw[he]
  exact relK_fet t _ _
 ·rw[upd_other _ _ e2,upd_other _ _ e2]
  by_cases e1:k=x.fr
  ·subst e1
   rw[upd_eq,upd_eq]
   have hk:=R _ t ht
   have hy:=hoff ha ht
   have:=hk.2
   rw[hy] at this
   simp only at this
   rw[this]
   simp only
   have he:(⟨(t.ops.drop ((s x.fr).1+1)).map opv,(s x.fr).2,some a.kind⟩:Wk).ans x.vl=⟨(t.ops.drop ((s x.fr).1+1)).map opv,(s x.fr).2,none⟩:=by
    unfold Wk.ans
    rw[if_pos (by rw[ka])]
   rw[he]
   exact relK_fet t _ _
  ·rw[upd_other _ _ e1,upd_other _ _ e1]
   have hk:=R _ t ht
   rw[advL_stop (fun y hy=>hk.1 y (by simpa using hy))]
   exact hk
theorem runA_of{L:List TkD}{ch:List Int}(hE:∀t∈L,∀x∈t.ops,EL L (opv x)=x.el){c c':Cf}{S S':List StepP}(h:RunTo (EL L) L.length ch c S c' S'):∀{s:PS},RelA L s c→∃s',RunA L ch s S s' S'∧RelA L s' c':=by
 induction h with
 |done h=>
  intro s R
  rw[R.poss hE] at h
  exact⟨s,.done h,R⟩
 |step h k ih=>
  intro s R
  rw[R.poss hE] at h
  have hm:=List.mem_of_getElem? h
  obtain⟨s',h1,h2⟩:=ih (R.step hm)
  exact⟨s',.step h h1,h2⟩
theorem rel_start(L:List TkD):RelA L (s0 L) (fun k=>fet ⟨taskOf (L.map tkr) k,0,none⟩):=by
 intro k t ht
 have e:taskOf (L.map tkr) k=(t.ops.drop 0).map opv:=by simp[taskOf,ht,tkr]
 show RelK t (s0 L k) (fet ⟨taskOf (L.map tkr) k,0,none⟩)
 rw[e]
 have:s0 L k=advL (t.ops.drop 0) 0 0:=by
  unfold s0 advS
  rw[ht]
 rw[this]
 exact relK_fet t 0 0
def sumsA(L:List TkD)(s:PS):List Int:=(List.range L.length).map fun k=>(s k).2
def stuckA(L:List TkD)(s:PS):List Int:=((List.range L.length).filter fun k=>(offS L s k).isSome).map fun k:Nat=>(k:Int)
def Outc(L:List TkD)(ch:List Int)(s':PS)(S':List StepP):Prop:=RunA L ch (s0 L) [] s' S'
theorem RelA.sum{L:List TkD}{s:PS}{c:Cf}(R:RelA L s c):sumsL (cfgAll c) L.length=sumsA L s:=by
 unfold sumsL sumsA
 apply List.map_congr_left
 intro k hk
 have hk:=List.mem_range.1 hk
 have h:=(R k _ (List.getElem?_eq_getElem hk)).2
 unfold cfgAll Wk.all
 cases hx:(L[k]).ops[(s k).1]? with
 |none=>
  rw[hx] at h
  rw[h.2.2]
  simp only[h.2.1]
 |some x=>
  rw[hx] at h
  rw[h]
theorem RelA.stuck{L:List TkD}{s:PS}{c:Cf}(R:RelA L s c):stuckL (cfgEnd c) L.length=stuckA L s:=by
 unfold stuckL stuckA
 congr 1
 apply List.filter_congr
 intro k hk
 unfold cfgEnd
 rw[R.off (List.mem_range.1 hk)]
 cases offS L s k<;>rfl
theorem RunEnd.plain{L:List TkD}{ch:List Int}{c':Cf}{S':List StepP}(h:RunEnd L ch c' S')(hE:∀t∈L,∀x∈t.ops,EL L (opv x)=x.el):
  ∃s',Outc L ch s' S'∧sumsL (cfgAll c') L.length=sumsA L s'∧stuckL (cfgEnd c') L.length=stuckA L s':=by
 obtain⟨s',h1,h2⟩:=runA_of hE h (rel_start L)
 exact⟨s',h1,h2.sum,h2.stuck⟩
def runF(L:List TkD)(ch:List Int):Nat→PS→List StepP→PS×List StepP
 |0,s,S=>(s,S)
 |f+1,s,S=>match (possS L s)[pickP ch S.length (possS L s).length]? with
  |none=>(s,S)
  |some x=>runF L ch f (advS L (stepS s x)) (S++[x])
theorem RunA.reckon{L:List TkD}{ch:List Int}{s s':PS}{S S':List StepP}(h:RunA L ch s S s' S'):∀f,possS L (runF L ch f s S).1=[]→runF L ch f s S=(s',S'):=by
 induction h with
 |done h=>
  intro f _
  cases f with
  |zero=>rfl
  |succ f=>unfold runF;rw[h];rfl
 |step h k ih=>
  intro f hf
  cases f with
  |zero=>
   exfalso
   unfold runF at hf
   dsimp only at hf
   rw[hf] at h
   cases h
  |succ f=>
   unfold runF at hf⊢
   rw[h] at hf⊢
   exact ih f hf
end
end Go.Side
namespace Go.Proofs.Ytbjlijagheifgaa
section
open Go.RowKit Go.Side
def StV(w:World)(v:Value)(S:List StepP):Prop:=∃a c,v= .slice a S.length c∧SlSt w a S
theorem stV_own{w:World}{base:Nat}{v:Value}{S:List StepP}(h:w.ownsRow base 50 4 v S.length (flC stC S)):StV w v S:=by
 obtain⟨a,c,rfl,_⟩:=own_shape h
 refine⟨a,c,rfl,fun j s hj=>⟨(ownC_cell stC_len (by decide) h hj (k:=0) (by decide) rfl).1,fun i x hx=>?_⟩⟩
 have hi:i<4:=by
  rcases Nat.lt_or_ge i 4 with h|h
  ·exact h
  ·rw[List.getElem?_eq_none (by simpa[stC] using h)] at hx;cases hx
 exact(ownC_cell stC_len (by decide) h hj hi hx).2
theorem stV_nil(w:World):StV w (.slice none 0 0) []:=⟨none,0,rfl,fun j s hj=>by cases hj⟩
theorem mk_ptrs(w:World)(n:Nat)(h:n≤1000000):(Instr.makeSlice 90 (.int .i64 n) (.int .i64 n)).run Try.prog w= .ok (.slice (some ⟨w.heap.size,0,none⟩) n n) (w.alloc (.cells ((List.range n).map fun _=>Value.pointer none).toArray 91 (0,0))):=by
 obtain⟨i0,hi,hz0,hz1,hz2⟩:=info_parts info91
 have h:=run_make (P:=Try.prog) (w:=w) 90 91 i0 (.pointer none) Try.underlying90 hi hz0 .i64 .i64 n n (by omega) (by omega) (by rw[hz2];omega) (by omega)
 rw[hz1,Int.toNat_natCast,made_ptr] at h
 exact h
def entD(L:List TkD)(ps:List Nat)(k:Nat):Ent:=(L[k]?).bind fun t=>(ps[k]?).bind fun p=>(t.ops[p]?).map fun x=>((adr t.a (p*4)).block,(adr t.a (p*4)).off,opv x)
theorem entD_off(L:List TkD)(ps:List Nat)(k:Nat):(entD L ps k).map (fun y=>y.2.2)=(offAt L ps k).map opv:=by
 unfold entD offAt
 cases L[k]? with
 |none=>rfl
 |some t=>
  cases ps[k]? with
  |none=>rfl
  |some p=>
   simp only[Option.bind_some]
   cases t.ops[p]?<;>rfl
theorem entD_pv{L:List TkD}{ps:List Nat}{k p:Nat}{t:TkD}(h:L[k]?=some t)(hp:ps[k]?=some p):pvE (entD L ps k)=if p<t.ops.length then .pointer (some (adr t.a (p*4))) else .pointer none:=by
 unfold entD
 rw[h,hp]
 simp only[Option.bind_some]
 split
 ·rename_i hl
  rw[List.getElem?_eq_getElem hl]
  rfl
 ·rename_i hl
  rw[List.getElem?_eq_none (by omega)]
  rfl
def rowE(L:List TkD)(ps:List Nat)(n i:Nat):List Value:=(List.range n).map fun k=>if k<i then pvE (entD L ps k) else .pointer none
theorem rowE_zero(L:List TkD)(ps:List Nat)(n:Nat):rowE L ps n 0=(List.range n).map fun _=>Value.pointer none:=by simp[rowE]
theorem rowE_succ(L:List TkD)(ps:List Nat){n i:Nat}(hi:i<n):(rowE L ps n i).set i (pvE (entD L ps i))=rowE L ps n (i+1):=by
 apply List.ext_getElem?
 intro j
 rw[List.getElem?_set]
 simp only[rowE,List.length_map,List.length_range,List.getElem?_map]
 by_cases e:i=j
 ·subst e
  simp[hi,List.getElem?_range]
 ·rw[if_neg e]
  rcases Nat.lt_or_ge j n with h|h
  ·rw[List.getElem?_range h]
   simp only[Option.map_some]
   by_cases h1:j<i
   ·rw[if_pos h1,if_pos (by omega)]
   ·rw[if_neg h1,if_neg (by omega)]
  ·rw[List.getElem?_eq_none (by simpa using h)];rfl
theorem rowE_keep(L:List TkD)(ps:List Nat){n i:Nat}(hn:pvE (entD L ps i)= .pointer none):rowE L ps n (i+1)=rowE L ps n i:=by
 unfold rowE
 apply List.map_congr_left
 intro k hk
 by_cases h1:k<i
 ·rw[if_pos h1,if_pos (by omega)]
 ·by_cases h2:k=i
  ·subst h2
   rw[if_pos (by omega),if_neg h1,hn]
  ·rw[if_neg h1,if_neg (by omega)]
theorem nxL_of{w:World}{a:Option Addr}{L:List TkD}{ps:List Nat}{bx:Nat}(hs:SlT w a L)(hel:∀t∈L,∀x∈t.ops,x.el.length≤1000000)(hb:Blk w bx 91 (rowE L ps L.length L.length)):NxL w (EL L) (some ⟨bx,0,none⟩) ((List.range L.length).map (entD L ps)):=by
 have hrow:rowE L ps L.length L.length=((List.range L.length).map (entD L ps)).map pvE:=by
  unfold rowE
  rw[List.map_map]
  apply List.map_congr_left
  intro k hk
  rw[if_pos (List.mem_range.1 hk)]
  rfl
 rw[hrow] at hb
 refine⟨hb.sl,fun k b o x h=>?_⟩
 rw[List.getElem?_map] at h
 obtain⟨k',hk',h⟩:=Option.map_eq_some_iff.1 h
 have hlt:k<L.length:=by
  rcases Nat.lt_or_ge k L.length with h|h
  ·exact h
  ·rw[List.getElem?_eq_none (by simpa using h)] at hk';cases hk'
 rw[List.getElem?_range hlt] at hk'
 obtain rfl:=Option.some.inj hk'
 unfold entD at h
 cases ht:L[k]? with
 |none=>rw[ht] at h;cases h
 |some t=>
  rw[ht] at h
  cases hp:ps[k]? with
  |none=>rw[hp] at h;cases h
  |some p=>
   rw[hp] at h
   simp only[Option.bind_some] at h
   obtain⟨y,hy,h⟩:=Option.map_eq_some_iff.1 h
   simp only[Option.some.injEq,Prod.mk.injEq] at h
   obtain⟨rfl,rfl,rfl⟩:=h
   obtain⟨_,_,tok⟩:=hs k t ht
   obtain⟨_,c0,c1,c2,c3⟩:=tok.row p y hy
   have hmem:=List.mem_of_getElem? hy
   refine⟨⟨c0,?_,?_,?_⟩,y.ea,y.ec,?_,?_,?_⟩
   ·simpa[adr,Nat.add_assoc,opv] using c1
   ·simpa[adr,Nat.add_assoc,opv] using c2
   ·simpa[adr,Nat.add_assoc,opv] using c3
   ·rw[EL_eq hs (List.mem_of_getElem? ht) hmem];rfl
   ·rw[EL_eq hs (List.mem_of_getElem? ht) hmem];exact(tok.ops y hmem).sl
   ·rw[EL_eq hs (List.mem_of_getElem? ht) hmem];exact hel t (List.mem_of_getElem? ht) y hmem
theorem poss_ents{w:World}{a:Option Addr}{L:List TkD}{ps:List Nat}(hs:SlT w a L):possP (EL L) L.length (offE ((List.range L.length).map (entD L ps)))=possD L.length (offAt L ps):=by
 refine possP_D (fun k hk=>?_) fun k hk x hx=>?_
 ·unfold offE
  rw[List.getElem?_map,List.getElem?_range hk]
  exact entD_off L ps k
 ·unfold offAt at hx
  cases ht:L[k]? with
  |none=>rw[ht] at hx;cases hx
  |some t=>
   rw[ht] at hx
   cases hp:ps[k]? with
   |none=>rw[hp] at hx;cases hx
   |some p=>
    rw[hp] at hx
    exact EL_eq hs (List.mem_of_getElem? ht) (List.mem_of_getElem? (i:=p) hx)
def atTo(L:List TkD)(at_:List Int)(i:Nat):Bool:=(List.range i).all fun i=>match L[i]?,at_[i]? with
 |some t,some p=>decide (0≤p)&&decide (p≤t.ops.length)
 |_,_=>false
theorem atTo_succ{L:List TkD}{at_:List Int}{i:Nat}{t:TkD}{p:Int}(h:L[i]?=some t)(hp:at_[i]?=some p):atTo L at_ (i+1)=(atTo L at_ i&&(decide (0≤p)&&decide (p≤t.ops.length))):=by
 simp[atTo,List.range_succ,h,hp]
theorem atTo_mono{L:List TkD}{at_:List Int}{i j:Nat}(h:i≤j)(hf:atTo L at_ i=false):atTo L at_ j=false:=by
 cases he:atTo L at_ j with
 |false=>rfl
 |true=>
  have:atTo L at_ i=true:=by
   unfold atTo at he⊢
   rw[List.all_eq_true] at he⊢
   intro k hk
   exact he k (by rw[List.mem_range] at hk⊢;omega)
  rw[this] at hf;cases hf
def RdyPost(w:World)(S:List StepP)(e:Ending)(w':World):Prop:=∃v,e= .returned v∧StV w' v S∧Below w.heap.size w w'
theorem blk_ptrs(w:World)(L:List TkD)(ps:List Nat)(n:Nat):Blk (w.alloc (.cells ((List.range n).map fun _=>Value.pointer none).toArray 91 (0,0))) w.heap.size 91 (rowE L ps n 0):=by
 rw[rowE_zero]
 exact Blk.new w 91 _
set_option maxHeartbeats 8000000 in
set_option maxRecDepth 100000 in
theorem ready_any(w:World)(a b:Option Addr)(c d:Nat)(L:List TkD)(ch:Int)(at_:List Int)(hs:SlT w a L)(hp:Sl (Value.int .i64) w b at_)(hl:L.length≤maxLen)(hl2:at_.length≤maxLen)(hel:∀t∈L,∀x∈t.ops,x.el.length≤1000000):
  Calls Try.prog 22 #[.slice a L.length c,.int .i64 ch,.slice b at_.length d] w (RdyPost w (readyD ch L at_)):=by
 have V:=Lib.hid (validT_any w a c L ch hs hl)
 have S:=Lib.hid hs
 have PP:=Lib.hid hp
 have EE:=Lib.hid hel
 clear hs hp hel
 unfold maxLen at hl hl2
 cases hv:validT ch L with
 |false=>
  have X:Hid (readyD ch L at_=[]):=Lib.hid (by simp[readyD,hv])
  rw[hv] at V
  clear hv
  go_enter Try.func22,Try.ntmps22
  go_wp2_with fail
  refine V.out.mono ?_
  rintro e w9 ⟨rfl,hb9⟩
  have B9:=Lib.hid hb9
  clear hb9
  go_wp2_with fail
  go_ret
  exact⟨_,rfl,by rw[X.out];exact stV_nil _,B9.out⟩
 |true=>
 have hn8:L.length≤8:=by
  have h:=hv
  simp only[validT,Bool.and_eq_true,decide_eq_true_eq] at h
  exact h.1
 by_cases hlen:at_.length=L.length
 case neg=>
  have X:Hid (readyD ch L at_=[]):=Lib.hid (by simp[readyD,hlen])
  have g1:((at_.length:Int)!=(L.length:Int))=true:=by simp;omega
  rw[hv] at V
  clear hv hlen
  go_enter Try.func22,Try.ntmps22
  go_wp2_with fail
  refine V.out.mono ?_
  rintro e w9 ⟨rfl,hb9⟩
  have B9:=Lib.hid hb9
  clear hb9
  go_wp2_with fail
  go_ret
  exact⟨_,rfl,by rw[X.out];exact stV_nil _,B9.out⟩
 have g1:((at_.length:Int)!=(L.length:Int))=false:=by simp;omega
 have X:Hid (readyD ch L at_=if atOk L at_=true then possD L.length (offAt L (at_.map Int.toNat)) else[]):=Lib.hid (by simp[readyD,hv,hlen])
 have hmk:=fun w:World=>mk_ptrs w L.length (by omega)
 rw[hv] at V
 have HL:=Lib.hid hlen
 clear hv hlen
 go_enter Try.func22,Try.ntmps22
 go_wp2_with fail
 refine V.out.mono ?_
 rintro e w9 ⟨rfl,hb9⟩
 have B9:=Lib.hid hb9
 clear hb9
 go_upto_region 4 with(fail)
 have hB0:=blk_ptrs w9 L (at_.map Int.toNat) L.length
 have hW0:Below w.heap.size w (w9.alloc (.cells ((List.range L.length).map fun _=>Value.pointer none).toArray 91 (0,0))):=B9.out.alloc B9.out.size _
 have hbx:w.heap.size≤w9.heap.size:=B9.out.size
 generalize w9.alloc (.cells ((List.range L.length).map fun _=>Value.pointer none).toArray 91 (0,0))=W at*
 generalize w9.heap.size=bx at*
 have B0:=Lib.hid hB0
 have W0:=Lib.hid hW0
 clear hmk hB0 hW0 B9
 go_wp2_with fail
 go_loopw [26] (fun k wr=>∃i,i≤L.length∧k= .int .i64 (i:Int)∧atTo L at_ i=true∧Blk wr bx 91 (rowE L (at_.map Int.toNat) L.length i)∧Below w.heap.size w wr) (fun k _=>L.length-(intOf k).toNat)
 case atStart=>exact⟨0,Nat.zero_le _,rfl,rfl,B0.out,W0.out⟩
 case round=>
  clear B0 W0
  obtain⟨i,hi,rfl,ht,hbk,hb⟩:=hrel
  have HT:=Lib.hid ht
  have HK:=Lib.hid hbk
  have HB:=Lib.hid hb
  clear ht hbk hb
  by_cases hlt:i<L.length
  ·obtain⟨t,htk,hok,hcell,hto⟩:=(S.out.reads (Reads.below HB.out)).get hlt
   obtain⟨p,hp,hokp,hcp⟩:=((PP.out.below HB.out)).get (k:=i) (by rw[HL.out];exact hlt)
   have hin:(i:Int)<(L.length:Int):=by omega
   have hin2:(i:Int)<(at_.length:Int):=by have:=HL.out;omega
   have TS:=Lib.hid (atTo_succ htk.out hp.out)
   have hpn:Hid ((at_.map Int.toNat)[i]?=some p.toNat):=Lib.hid (by rw[List.getElem?_map,hp.out];rfl)
   have PV:=Lib.hid (entD_pv (ps:=at_.map Int.toNat) htk.out hpn.out)
   have BD:Hid (atTo L at_ (i+1)=false→readyD ch L at_=[]):=Lib.hid fun h=>by
    have h2:atOk L at_=false:=atTo_mono (show i+1≤L.length by omega) h
    rw[X.out,h2];rfl
   have htl:=hto.out.len
   unfold maxLen at htl
   by_cases h1:p<0
   ·have g2:decide (p<0)=true:=by simpa using h1
    have Y:=Lib.hid (BD.out (by rw[TS.out];have:¬0≤p:=(by omega);simp[this]))
    clear h1
    go_wp2_with fail
    go_ret
    exact⟨_,rfl,by rw[Y.out];exact stV_nil _,HB.out⟩
   ·have g2:decide (p<0)=false:=by simpa using h1
    by_cases h2:p>(t.ops.length:Int)
    ·have g3:decide (p>(t.ops.length:Int))=true:=by simpa using h2
     have Y:=Lib.hid (BD.out (by rw[TS.out];have:¬p≤(t.ops.length:Int):=(by omega);simp[this]))
     clear h1 h2
     go_wp2_with fail
     go_ret
     exact⟨_,rfl,by rw[Y.out];exact stV_nil _,HB.out⟩
    ·have g3:decide (p>(t.ops.length:Int))=false:=by simpa using h2
     have Y:Hid (atTo L at_ (i+1)=true):=Lib.hid (by rw[TS.out,HT.out];have e1:0≤p:=(by omega);have e2:p≤(t.ops.length:Int):=(by omega);simp[e1,e2])
     obtain⟨q,rfl⟩:∃q:Nat,p=(q:Int):=⟨p.toNat,by omega⟩
     rw[Int.toNat_natCast] at PV
     by_cases h3:q<t.ops.length
     ·have g4:(q:Int)<(t.ops.length:Int):=by omega
      have PV2:Hid (pvE (entD L (at_.map Int.toNat) i)= .pointer (some (adr t.a (q*4)))):=Lib.hid (by rw[PV.out,if_pos h3])
      obtain⟨y,_,hoky,_⟩:=hto.out.row.get h3
      have c9:=HK.out.cell (i:=i) (v:=.pointer none) (by simp[rowE,hlt])
      have f9:=HK.out.free i
      have HK2:=Lib.hid (HK.out.set i (pvE (entD L (at_.map Int.toNat) i)))
      rw[rowE_succ _ _ hlt,PV2.out] at HK2
      have HB2:Hid (Below w.heap.size w (wr.setCell ⟨bx,i,none⟩ (.pointer (some (adr t.a (q*4)))))):=Lib.hid (HB.out.setCell hbx _)
      clear h1 h2 h3
      go_wp2_with fail
      exact⟨⟨i+1,by omega,by go_num,Y.out,HK2.out,HB2.out⟩,by simp[intOf];omega⟩
     ·have g4:decide ((q:Int)<(t.ops.length:Int))=false:=by simp;omega
      have g5:decide (q<t.ops.length)=false:=by simpa using h3
      have g6:¬t.ops.length<q:=by omega
      have g7:decide (t.ops.length<q)=false:=by simpa using g6
      have PV2:Hid (pvE (entD L (at_.map Int.toNat) i)= .pointer none):=Lib.hid (by rw[PV.out,if_neg h3])
      clear h1 h2 h3
      go_wp2_with fail
      exact⟨⟨i+1,by omega,by go_num,Y.out,by rw[rowE_keep _ _ PV2.out];exact HK.out,HB.out⟩,by simp[intOf];omega⟩
  ·obtain rfl:i=L.length:=by omega
   have Y:Hid (readyD ch L at_=possD L.length (offAt L (at_.map Int.toNat))):=Lib.hid (by have h2:atOk L at_=true:=HT.out;rw[X.out,h2];rfl)
   have SW:=S.out.reads (Reads.below HB.out)
   have PA:=possible_any wr (EL L) (some ⟨bx,0,none⟩) L.length ((List.range L.length).map (entD L (at_.map Int.toNat))) (nxL_of SW EE.out HK.out) (by simpa using hn8)
   rw[List.length_map,List.length_range,poss_ents SW] at PA
   have PA':=Lib.hid PA
   clear PA SW
   go_wp2_with fail
   refine PA'.out.mono ?_
   rintro e w3 ⟨v,rfl,ho,hb3⟩
   have O3:=Lib.hid (stV_own ho)
   have B3:=Lib.hid (HB.out.trans (hb3.mono HB.out.size))
   clear ho hb3
   go_wp2_with fail
   go_ret
   exact⟨_,rfl,by rw[Y.out];exact O3.out,B3.out⟩
end
section
open Go.RowKit
def EqRelInt(w:World)(xs ys:List Int)(i:Value)(wr:World):Prop:=∃k:Nat,k≤xs.length∧i= .int .i64 k∧xs.take k=ys.take k∧Qt w wr
set_option maxHeartbeats 1000000 in
theorem equalInt_any(w:World)(a b:Option Addr)(c d:Nat)(xs ys:List Int)(hx:Sl (Value.int .i64) w a xs)(hy:Sl (Value.int .i64) w b ys)(hl:xs.length≤maxLen):
  Calls Try.prog 21 #[.slice a xs.length c,.slice b ys.length d] w fun e w'=>e= .returned (.bool (decide (xs=ys)))∧Qt w w':=by
 unfold maxLen at hl
 generalize hR:decide (xs=ys)=r
 have HR:=Lib.hid hR;clear hR
 by_cases hlen:xs.length=ys.length
 ·have HX:=Lib.hid hx;have HY:=Lib.hid hy;clear hx hy
  have hne:((xs.length:Int)!=(ys.length:Int))=false:=by simp[hlen]
  have hlt:ys.length≤xs.length:=by omega
  have HL:=Lib.hid hlen;clear hlen
  generalize hn:xs.length=n at*
  generalize hm:ys.length=m at*
  have HN:=Lib.hid hn;have HM:=Lib.hid hm;clear hn hm
  go_enter Try.func21,Try.ntmps21
  go_wp2
  go_loopw [13] (fun i wr=>EqRelInt w xs ys i wr) (fun i _=>n-(intOf i).toNat)
  case atStart=>exact⟨0,Nat.zero_le _,rfl,rfl,Qt.refl _⟩
  case round=>
   obtain⟨k,hk,rfl,ht,hq⟩:=hrel
   have HT:=Lib.hid ht
   clear ht
   have HQ:=Lib.hid hq
   have hk':k≤n:=by rw[HN.out] at hk;exact hk
   clear hk
   by_cases hkn:k<n
   ·have hkm:k<m:=by have:=HL.out;omega
    obtain⟨x,ex,okx,cx⟩:=(HX.out.qt hq).get (k:=k) (by rw[HN.out];exact hkn)
    obtain⟨y,ey,oky,cy⟩:=(HY.out.qt hq).get (k:=k) (by rw[HM.out];exact hkm)
    have hki:(k:Int)<(n:Int):=by omega
    have hmi:(k:Int)<(m:Int):=by omega
    clear hq
    by_cases hxy:x=y
    ·have hb:(x !=y)=false:=by simp[hxy]
     have HT':Hid (xs.take (k+1)=ys.take (k+1)):=by
      show _=_
      rw[List.take_add_one,List.take_add_one,HT.out,ex.out,ey.out,hxy]
     have HXY:=Lib.hid hxy;clear hxy
     go_wp2
     go_quiet (fail)
     go_wp2
     go_roundw
     case rel=>exact⟨k+1,by rw[HN.out];omega,by go_num,HT'.out,by exact HQ.out.drewN _⟩
     case measure=>simp[intOf];omega
    ·have hb:(x !=y)=true:=by simp[hxy]
     have hr:Hid (false=r):=by
      show _=_
      rw[←HR.out]
      symm
      simp only[decide_eq_false_iff_not]
      intro e
      rw[e] at ex
      exact hxy (Option.some.inj (ex.out.symm.trans ey.out))
     clear hxy
     go_wp2
     go_quiet (fail)
     go_wp2
     go_ret
     exact⟨ret_bool hr.out,by exact HQ.out.drewN _⟩
   ·have hr:Hid (true=r):=by
     show _=_
     rw[←HR.out]
     symm
     simp only[decide_eq_true_eq]
     have h1:=HT.out
     have e1:=HN.out;have e2:=HM.out;have e3:=HL.out
     rwa[List.take_of_length_le (by omega),List.take_of_length_le (by omega)] at h1
    clear hq
    go_wp2
    go_ret
    exact⟨ret_bool hr.out,HQ.out⟩
 ·have hne:((xs.length:Int)!=(ys.length:Int))=true:=by simp;omega
  have hr:Hid (false=r):=by
   show _=_
   rw[←HR.out]
   symm
   simp only[decide_eq_false_iff_not]
   intro e
   exact hlen (by rw[e])
  clear hx hy hlen
  go_enter Try.func21,Try.ntmps21
  go_wp2
  go_ret
  exact⟨ret_bool hr.out,Qt.refl _⟩
end
end Go.Proofs.Ytbjlijagheifgaa
namespace Go.Side
section
open Go Go.RowKit Go.Proofs.Ytbjlijagheifgaa
theorem SlSt.get{w:World}{a:Option Addr}{xs:List StepP}(h:SlSt w a xs){k:Nat}(hk:k<xs.length):
  ∃x,Hid (xs[k]?=some x)∧okAd a=true∧w.cell? (adr a (k*4))=some (.int .i64 x.fr)∧w.cell? (adr a (k*4+1))=some (.int .i64 x.tg)∧w.cell? (adr a (k*4+2))=some (.int .i64 x.ch)∧w.cell? (adr a (k*4+3))=some (.int .i64 x.vl):=by
 have e:xs[k]?=some xs[k]:=List.getElem?_eq_getElem hk
 obtain⟨h1,h2⟩:=h k _ e
 exact⟨xs[k],e,h1,h2 0 _ rfl,h2 1 _ rfl,h2 2 _ rfl,h2 3 _ rfl⟩
theorem SlSt.reads{w w':World}{a:Option Addr}{xs:List StepP}(h:SlSt w a xs)(q:Reads w w'):SlSt w' a xs:=fun j s hj=>⟨(h j s hj).1,fun i x hx=>q _ _ ((h j s hj).2 i x hx)⟩
end
end Go.Side
namespace Go.Proofs.Ytbjlijagheifgaa
open Go.RowKit Go.Side
theorem Qt.reads{w w':World}(q:Qt w w'):Reads w w':=fun p v h=>by rw[q.cell];exact h
def EqsPost(w:World)(xs ys:List StepP)(e:Ending)(w':World):Prop:=∃b,e= .returned (.bool b)∧(b=true↔xs=ys)∧Qt w w'
def EqsRel(w:World)(xs ys:List StepP)(i:Value)(wr:World):Prop:=∃k:Nat,k≤xs.length∧i= .int .i64 k∧xs.take k=ys.take k∧Qt w wr
set_option maxHeartbeats 4000000 in
set_option maxRecDepth 100000 in
theorem equalSt_any(w:World)(a b:Option Addr)(c d:Nat)(xs ys:List StepP)(hx:SlSt w a xs)(hy:SlSt w b ys)(hl:xs.length≤maxLen):
  Calls Try.prog 19 #[.slice a xs.length c,.slice b ys.length d] w (EqsPost w xs ys):=by
 unfold maxLen at hl
 by_cases hlen:xs.length=ys.length
 ·have HX:=Lib.hid hx;have HY:=Lib.hid hy;clear hx hy
  have hne:((xs.length:Int)!=(ys.length:Int))=false:=by simp[hlen]
  have hlt:ys.length≤xs.length:=by omega
  have HL:=Lib.hid hlen;clear hlen
  generalize hn:xs.length=n at*
  generalize hm:ys.length=m at*
  have HN:=Lib.hid hn;have HM:=Lib.hid hm;clear hn hm
  go_enter Try.func19,Try.ntmps19
  go_wp2_with fail
  go_loopw [13] (fun i wr=>EqsRel w xs ys i wr) (fun i _=>n-(intOf i).toNat)
  case atStart=>exact⟨0,Nat.zero_le _,rfl,rfl,Qt.refl _⟩
  case round=>
   obtain⟨k,hk,rfl,ht,hq⟩:=hrel
   have HT:=Lib.hid ht
   clear ht
   have HQ:=Lib.hid hq
   have hk':k≤n:=by rw[HN.out] at hk;exact hk
   clear hk
   by_cases hkn:k<n
   ·have hkm:k<m:=by have:=HL.out;omega
    obtain⟨x,ex,okx,x0,x1,x2,x3⟩:=(HX.out.reads hq.reads).get (k:=k) (by rw[HN.out];exact hkn)
    obtain⟨y,ey,oky,y0,y1,y2,y3⟩:=(HY.out.reads hq.reads).get (k:=k) (by rw[HM.out];exact hkm)
    have hki:(k:Int)<(n:Int):=by omega
    have hmi:(k:Int)<(m:Int):=by omega
    clear hq
    have hfx:(Try.prog.fieldsOf 50).toList.length=4:=by kernel_rfl
    by_cases hxy:x=y
    ·subst hxy
     have HT':Hid (xs.take (k+1)=ys.take (k+1)):=by
      show _=_
      rw[List.take_add_one,List.take_add_one,HT.out,ex.out,ey.out]
     clear hfx
     go_wp2_with fail
     go_quiet (fail)
     go_wp2_with fail
     go_roundw
     case rel=>exact⟨k+1,by rw[HN.out];omega,by go_num,HT'.out,by exact HQ.out.drewN _⟩
     case measure=>simp[intOf];omega
    ·have hr:Hid (¬xs=ys):=by
      show¬_
      intro e
      rw[e] at ex
      exact hxy (Option.some.inj (ex.out.symm.trans ey.out))
     clear hfx
     obtain⟨f1,t1,d1,l1⟩:=x
     obtain⟨f2,t2,d2,l2⟩:=y
     dsimp only at x0 x1 x2 x3 y0 y1 y2 y3
     simp only[StepP.mk.injEq] at hxy
     have hxy':((f1:Int)==(f2:Int))=false∨(((f1:Int)==(f2:Int))=true∧((t1:Int)==(t2:Int))=false)∨(((f1:Int)==(f2:Int))=true∧((t1:Int)==(t2:Int))=true∧(d1==d2)=false)∨(((f1:Int)==(f2:Int))=true∧((t1:Int)==(t2:Int))=true∧(d1==d2)=true∧(l1==l2)=false):=by
      simp only[beq_eq_false_iff_ne,beq_iff_eq]
      omega
     clear hxy
     rcases hxy' with h0|⟨h0,h1⟩|⟨h0,h1,h2⟩|⟨h0,h1,h2,h3⟩
     all_goals
      go_wp2_with fail
      go_quiet (fail)
      go_wp2_with fail
      go_ret
      exact⟨_,rfl,by simp[hr.out],by exact HQ.out.drewN _⟩
   ·have hr:Hid (xs=ys):=by
     show _
     have h1:=HT.out
     have e1:=HN.out;have e2:=HM.out;have e3:=HL.out
     rwa[List.take_of_length_le (by omega),List.take_of_length_le (by omega)] at h1
    clear hq
    go_wp2_with fail
    go_ret
    exact⟨_,rfl,by simp[hr.out],HQ.out⟩
 ·have hne:((xs.length:Int)!=(ys.length:Int))=true:=by simp;omega
  have X:Hid (¬xs=ys):=Lib.hid fun e=>hlen (by rw[e])
  generalize xs.length=n at*
  generalize ys.length=m at*
  clear hlen hx hy
  go_enter Try.func19,Try.ntmps19
  go_wp2_with fail
  go_ret
  exact⟨_,rfl,by simp[X.out],Qt.refl _⟩
end Go.Proofs.Ytbjlijagheifgaa
