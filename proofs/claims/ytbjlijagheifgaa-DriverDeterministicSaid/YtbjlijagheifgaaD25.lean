/-
  Texts of Ytbjlijagheifgaa, merged.
-/
import Derived.Test.YtbjlijagheifgaaD24
import Derived.StillTail
import Derived.Deep.RegionHeld
set_option linter.unusedSimpArgs false
set_option linter.unusedVariables false
namespace Go.Proofs.Ytbjlijagheifgaa
section
open Go.RowKit
theorem get_lt{α:Type}{l:List α}{c:Nat}{x:α}(h:l[c]?=some x):c<l.length:=by
 rcases Nat.lt_or_ge c l.length with h1|h1
 ·exact h1
 ·simp[List.getElem?_eq_none h1] at h
def Vw{α:Type}(f:α→Value)(T:TypeId)(w:World)(base:Nat)(v:Value)(xs:List α):Prop:=
 (v= .slice none 0 0∧xs=[])∨∃g o c,v= .slice (some ⟨g,o,none⟩) xs.length c∧base≤g∧g<w.heap.size∧xs.length≤c∧c≤maxLen∧
  (c=0∨∃pre sp,pre.length=o∧Blk w g T (pre++(xs.map f++sp))∧c=xs.length+sp.length)
section
variable {α:Type} {f:α→Value} {T:TypeId} {w w':World} {base:Nat} {v:Value} {xs:List α}
theorem Vw.nil(f:α→Value)(T:TypeId)(w:World)(base:Nat):Vw f T w base (.slice none 0 0) []:=.inl ⟨rfl,rfl⟩
theorem Vw.shape(h:Vw f T w base v xs):∃a c,v= .slice a xs.length c:=by
 rcases h with⟨rfl,rfl⟩|⟨g,o,c,rfl,_⟩
 ·exact⟨none,0,rfl⟩
 ·exact⟨_,c,rfl⟩
theorem Vw.lt(h:Vw f T w base v xs){g:Nat}(hg:v.ownBlock=some g):base≤g∧g<w.heap.size:=by
 rcases h with⟨rfl,rfl⟩|⟨g',o,c,rfl,h1,h2,_⟩
 ·simp[Value.ownBlock] at hg
 ·simp[Value.ownBlock] at hg;subst hg;exact⟨h1,h2⟩
theorem Vw.upd{S:Nat→Prop}(h:Vw f T w base v xs)(u:Upd S w w')(hs:∀g,v.ownBlock=some g→¬S g):Vw f T w' base v xs:=by
 rcases h with h|⟨g,o,c,rfl,h1,h2,h3,h4,h5⟩
 ·exact .inl h
 ·refine .inr ⟨g,o,c,rfl,h1,Nat.lt_of_lt_of_le h2 u.size,h3,h4,?_⟩
  rcases h5 with h5|⟨pre,sp,e1,hb,e2⟩
  ·exact .inl h5
  ·exact .inr ⟨pre,sp,e1,hb.upd u (hs g rfl),e2⟩
theorem Vw.below(h:Vw f T w base v xs)(b:Below w.heap.size w w'):Vw f T w' base v xs:=h.upd (S:=fun _=>False) (Upd.of_below b) (fun _ _=>id)
theorem Vw.sl{a:Option Addr}{n c:Nat}(h:Vw f T w base (.slice a n c) xs):Sl f w a xs:=by
 rcases h with⟨h,rfl⟩|⟨g,o,c',h,h1,h2,h3,h4,h5⟩
 ·intro j x hj;simp at hj
 ·cases h
  rcases h5 with h5|⟨pre,sp,rfl,hb,e2⟩
  ·have:xs=[]:=List.eq_nil_of_length_eq_zero (by omega)
   subst this
   intro j x hj;simp at hj
  ·intro j x hj
   refine⟨rfl,?_⟩
   rw[adr_mk]
   refine hb.cell ?_
   have hlt:=get_lt hj
   rw[List.getElem?_append_right (by omega),Nat.add_sub_cancel_left,List.getElem?_append_left (by simpa using hlt),List.getElem?_map,hj]
   rfl
theorem Vw.set{a:Option Addr}{n c k:Nat}(h:Vw f T w base (.slice a n c) xs)(hk:k<xs.length)(x:α):Vw f T (w.setCell (adr a k) (f x)) base (.slice a n c) (xs.set k x):=by
 rcases h with⟨h,rfl⟩|⟨g,o,c',h,h1,h2,h3,h4,h5⟩
 ·simp at hk
 ·cases h
  rcases h5 with h5|⟨pre,sp,rfl,hb,e2⟩
  ·omega
  ·refine .inr ⟨g,pre.length,c,by rw[List.length_set],h1,by simpa using h2,by rw[List.length_set];exact h3,h4,.inr ⟨pre,sp,rfl,?_,by rw[List.length_set];exact e2⟩⟩
   rw[adr_mk]
   have:=hb.set (pre.length+k) (f x)
   rw[List.set_append_right _ _ (by omega),Nat.add_sub_cancel_left,List.set_append_left _ _ (by simpa using hk),←List.map_set] at this
   exact this
theorem Vw.free{a:Option Addr}{n c k:Nat}(h:Vw f T w base (.slice a n c) xs)(hk:k<xs.length):w.frozen? (adr a k)=false:=by
 rcases h with⟨h,rfl⟩|⟨g,o,c',h,h1,h2,h3,h4,h5⟩
 ·simp at hk
 ·cases h
  rcases h5 with h5|⟨pre,sp,rfl,hb,e2⟩
  ·omega
  ·exact hb.free _
def cutV(a:Option Addr)(n c k:Nat):Value:=if k=c then .slice a 0 0 else .slice (some (adr a k)) (n-k) (c-k)
theorem Vw.drop{a:Option Addr}{n c k:Nat}(h:Vw f T w base (.slice a n c) xs)(hk:k≤xs.length):Vw f T w base (cutV a n c k) (xs.drop k):=by
 unfold cutV
 rcases h with⟨h,rfl⟩|⟨g,o,c',h,h1,h2,h3,h4,h5⟩
 ·cases h
  simp at hk
  subst hk
  simp[Vw.nil]
 ·cases h
  split
  ·rename_i e
   subst e
   have:xs.drop k=[]:=List.drop_eq_nil_of_le (by omega)
   rw[this]
   exact .inr ⟨g,o,0,rfl,h1,h2,Nat.le_refl _,Nat.zero_le _,.inl rfl⟩
  ·rename_i e
   refine .inr ⟨g,o+k,c-k,by rw[List.length_drop];rfl,h1,h2,by rw[List.length_drop];omega,by omega,?_⟩
   rcases h5 with h5|⟨pre,sp,rfl,hb,e2⟩
   ·exact absurd (show k=c by omega) e
   ·refine .inr ⟨pre++(xs.take k).map f,sp,by simp;omega,?_,by rw[List.length_drop];omega⟩
    rw[List.append_assoc,←List.append_assoc (List.map f (xs.take k)),←List.map_append,List.take_append_drop]
    exact hb
end
theorem Upd.of_grownV{w w':World}{v:Value}(h:w.grownBy w' v.ownBlock):Upd (fun k=>v.ownBlock=some k) w w':=
 ⟨h.os,h.tape,h.output,h.size,fun k hk hs=>h.block k hk fun e=>hs e.symm⟩
section
variable {P:Program} {α:Type}
end
end
section
open Go.RowKit
section
variable {α:Type} (f:α→List Value) (s:Nat)
def flC:List α→List Value
 |[]=>[]
 |x::l=>f x++flC l
theorem flC_append:∀(a b:List α),flC f (a++b)=flC f a++flC f b
 |[],b=>rfl
 |p::a,b=>by
  show f p++flC f (a++b)=(f p++flC f a)++flC f b
  rw[flC_append a b,List.append_assoc]
theorem flC_one(x:α):flC f [x]=f x:=by show f x++[]=_;rw[List.append_nil]
variable {f s} (hf:∀x,(f x).length=s)
include hf
theorem flC_len:∀(l:List α),(flC f l).length=l.length*s
 |[]=>by simp[flC]
 |p::l=>by
  show(f p++flC f l).length=_
  rw[List.length_append,flC_len l,List.length_cons,hf,Nat.succ_mul,Nat.add_comm]
theorem flC_get:∀{l:List α} {j:Nat} {p:α},l[j]?=some p→∀k,k<s→(flC f l)[j*s+k]?=(f p)[k]?
 |[],j,p,h,_,_=>by simp at h
 |q::l,0,p,h,k,hk=>by
  simp at h
  subst h
  show(f q++flC f l)[0*s+k]?=_
  rw[List.getElem?_append_left (by rw[hf];omega),Nat.zero_mul,Nat.zero_add]
 |q::l,j+1,p,h,k,hk=>by
  have ih:=flC_get (l:=l) (j:=j) (p:=p) (by simpa using h) k hk
  show(f q++flC f l)[(j+1)*s+k]?=_
  rw[List.getElem?_append_right (by rw[hf,Nat.succ_mul];omega),←ih]
  congr 1
  rw[hf,Nat.succ_mul]
  omega
end
theorem ownC_blk{α:Type}{f:α→List Value}{s:Nat}(hf:∀x,(f x).length=s)(hs:0<s){w:World}{base:Nat}{T:TypeId}{a:Option Addr}{n m c:Nat}{ps:List α}(h:w.ownsRow base T s (.slice a m c) n (flC f ps))(hx:ps≠[]):
  ∃g sp,a=some ⟨g,0,none⟩∧base≤g∧Blk w g T (flC f ps++sp)∧n≤c∧c≤maxLen∧m=n∧n=ps.length:=by
 obtain⟨h1,h⟩:=h
 rw[flC_len hf] at h1
 have hn:n=ps.length:=(Nat.eq_of_mul_eq_mul_right hs h1).symm
 rcases h with⟨_,h0⟩|⟨g,cap,cur,hv,hg,hh,h3,h4,h5,h6⟩
 ·exact absurd (List.eq_nil_of_length_eq_zero (by omega)) hx
 ·cases hv
  refine⟨g,cur.toList.drop (n*s),rfl,hg,?_,h3,h4,rfl,hn⟩
  unfold Blk
  rw[←h6,List.take_append_drop]
  exact hh
theorem ownC_cell{α:Type}{f:α→List Value}{s:Nat}(hf:∀x,(f x).length=s)(hs:0<s){w:World}{base:Nat}{T:TypeId}{a:Option Addr}{n m c:Nat}{ps:List α}(h:w.ownsRow base T s (.slice a m c) n (flC f ps)){j:Nat}{p:α}(hp:ps[j]?=some p){k:Nat}{v:Value}(hk:k<s)(hv:(f p)[k]?=some v):
  okAd a=true∧w.cell? (adr a (j*s+k))=some v:=by
 obtain⟨g,sp,rfl,hg,hb,_⟩:=ownC_blk hf hs h (by intro e;rw[e] at hp;simp at hp)
 refine⟨rfl,?_⟩
 rw[adr_mk,Nat.zero_add]
 refine hb.cell ?_
 have hl:=get_lt hp
 rw[List.getElem?_append_left,flC_get hf hp k hk]
 ·exact hv
 ·rw[flC_len hf]
  have:(j+1)*s≤ps.length*s:=Nat.mul_le_mul_right _ hl
  rw[Nat.succ_mul] at this
  omega
section
variable {P:Program}
theorem run_append_cells(w:World)(base:Nat)(t ty e:TypeId)(i:TypeInfo)(z:Value)(size bytes:Nat)(ht:P.underlying t=some (.slice e))(hi:P.info? e=some i)(hz:i.zero=some z)(hsize:i.size=size)(hby:i.bytes=bytes)(hzs:z.cells.size=size)(hsz:0<size)(v:Value)(n:Nat)(xs:List Value)(hown:w.ownsRow base e size v n xs)(A:Option Addr)(m c:Nat)(us:List Value)(hl:us.length=m*size)(hr:∀j u,us[j]?=some u→okAd A=true∧w.cell? (adr A j)=some u)(h1:∀u∈us,u.oneCell'=true)(h63:n+m≤maxLen)(hbytes:(n+m)*bytes≤140737488355328)(hbase:base≤w.heap.size):
  ∃v' w',(Builtin.append_ #[t,t] ty #[v,.slice A m c]).run P w= .ok v' w'∧w'.ownsRow base e size v' (n+m) (xs++us)∧w.grownBy w' v.ownBlock∧
   (v'.ownBlock=v.ownBlock∨v'.ownBlock=some w.heap.size):=by
 cases A with
 |none=>
  have hy:us=[]:=by
   cases us with
   |nil=>rfl
   |cons y l=>exact absurd (hr 0 y rfl).1 (by simp[okAd])
  subst hy
  have hm:m=0:=by
   rcases Nat.eq_zero_or_pos m with h|h
   ·exact h
   ·have:=Nat.mul_pos h hsz;simp at hl;omega
  subst hm
  refine⟨v,w,?_,by simpa using hown,World.grownBy.refl w _,.inl rfl⟩
  rcases hown.2 with⟨rfl,rfl⟩|⟨g,cap,cur,rfl,_,_,hnc,_⟩
  ·simp[Builtin.append_,run_underlying ht,sizeOf,typeInfo,hi,Builtin.lenOf,Builtin.firstCells]
  ·simp[Builtin.append_,run_underlying ht,sizeOf,typeInfo,hi,Builtin.lenOf,Builtin.firstCells,hnc,storeCells]
 |some ad=>
  obtain⟨v',w',hrun,h2,h3,_,h5⟩:=run_append_own_at (P:=P) w base t ty e i z size bytes ht hi hz hsize hby hzs hsz v n xs hown ad m c us hl (fun j u hj=>by
   obtain⟨k1,k2⟩:=hr j u hj
   rw[add_eq ad j (by simpa[okAd] using k1)]
   exact k2) h1 h63 hbytes hbase
  exact⟨v',w',hrun,h2,h3,h5⟩
theorem wp_append_cells{o:Oper}{a:Act}{w:World}{K:Act→World→Prop}{Q:Exit→Act→World→Prop}(s x:Operand)(t:TypeId)(ho:o.op= .call {callee:=.builtin .append,args:= #[s,x],argTypes:= #[t,t]})(base:Nat)(e:TypeId)(i:TypeInfo)(z:Value)(size bytes:Nat)(ht:P.underlying t=some (.slice e))(hi:P.info? e=some i)(hz:i.zero=some z)(hsize:i.size=size)(hby:i.bytes=bytes)(hzs:z.cells.size=size)(hsz:0<size)(v:Value)(n:Nat)(xs:List Value)(hs:a.eval s=v)(hown:w.ownsRow base e size v n xs)(A:Option Addr)(m c:Nat)(us:List Value)(hx:a.eval x= .slice A m c)(hl:us.length=m*size)(hr:∀j u,us[j]?=some u→okAd A=true∧w.cell? (adr A j)=some u)(h1:∀u∈us,u.oneCell'=true)(h63:n+m≤maxLen)(hbytes:(n+m)*bytes≤140737488355328)(hbase:base≤w.heap.size)(h:∀v' w',w'.ownsRow base e size v' (n+m) (xs++us)→w.grownBy w' v.ownBlock→(v'.ownBlock=v.ownBlock∨v'.ownBlock=some w.heap.size)→K (a.put o.dst v') w'):o.wp P a w K Q:=by
 obtain⟨v',w',hrun,h2,h3,h4⟩:=run_append_cells (P:=P) w base t o.type e i z size bytes ht hi hz hsize hby hzs hsz v n xs hown A m c us hl hr h1 h63 hbytes hbase
 unfold Oper.wp execOp
 simp only[ho,resolve,invoke,builtin,Sem.run_bind,Sem.run_pure,Result.andThen_ok,List.map_toArray,List.map_cons,List.map_nil,hs,hx,hrun]
 exact h v' w' h2 h3 h4
theorem step_append_cells{ops:Array Oper}{o:Oper}{a:Act}{w:World}{K:Act→World→Prop}{Q:Exit→Act→World→Prop}{E:Prop}(hgd:o.guard=none)(s x:Operand)(t:TypeId)(ho:o.op= .call {callee:=.builtin .append,args:= #[s,x],argTypes:= #[t,t]})(base:Nat)(e:TypeId)(i:TypeInfo)(z:Value)(size bytes:Nat)(ht:P.underlying t=some (.slice e))(hi:P.info? e=some i)(hz:i.zero=some z)(hsize:i.size=size)(hby:i.bytes=bytes)(hzs:z.cells.size=size)(hsz:0<size)(v:Value)(n:Nat)(xs:List Value)(hs:a.eval s=v)(hown:w.ownsRow base e size v n xs)(A:Option Addr)(m c:Nat)(us:List Value)(hx:a.eval x= .slice A m c)(hl:us.length=m*size)(hr:∀j u,us[j]?=some u→okAd A=true∧w.cell? (adr A j)=some u)(h1:∀u∈us,u.oneCell'=true)(h63:n+m≤maxLen)(hbytes:(n+m)*bytes≤140737488355328)(hbase:base≤w.heap.size)(h:∀v' w',w'.ownsRow base e size v' (n+m) (xs++us)→w.grownBy w' v.ownBlock→(v'.ownBlock=v.ownBlock∨v'.ownBlock=some w.heap.size)→K (a.put o.dst v') w'):
  if Region.wanted o (yielded ops a.tmps)=true then Oper.wp P o a w K Q else E:=by
 have hw:Region.wanted o (yielded ops a.tmps)=true:=by simp[Region.wanted,hgd]
 rw[if_pos hw]
 exact wp_append_cells s x t ho base e i z size bytes ht hi hz hsize hby hzs hsz v n xs hs hown A m c us hx hl hr h1 h63 hbytes hbase h
end
end
section
open Go.RowKit
theorem Try.infoInt:(Try.prog.info? 3).map (fun i=>(i.zero,i.size,i.bytes))=some (some (.int .i64 0),1,8):=by kernel_rfl
def IdxPostInt(w:World)(xs:List Int)(x:Int)(e:Ending)(w':World):Prop:=∃r:Int,e= .returned (.int .i64 r)∧(0≤r↔x∈xs)∧w'=w
set_option maxHeartbeats 1000000 in
theorem indexInt_any(w:World)(a:Option Addr)(c:Nat)(xs:List Int)(x:Int)(hx:Sl (Value.int .i64) w a xs)(hl:xs.length≤maxLen):
  Calls Try.prog 68 #[.slice a xs.length c,(Value.int .i64) x] w (IdxPostInt w xs x):=by
 unfold maxLen at hl
 have HX:=Lib.hid hx;clear hx
 generalize hn:xs.length=n at*
 have HN:=Lib.hid hn;clear hn
 go_enter Try.func68,Try.ntmps68
 go_wp2
 go_loop [8] (fun i=>∃k:Nat,k≤n∧i= .int .i64 k∧Hid (x∉xs.take k)) (fun i=>n-(intOf i).toNat)
 case atStart=>exact⟨0,Nat.zero_le _,rfl,by show _∉_;simp⟩
 case round=>
  obtain⟨k,hk,rfl,ht⟩:=hrel
  by_cases hkn:k<n
  ·obtain⟨y,ey,oky,cy⟩:=HX.out.get (k:=k) (by rw[HN.out];exact hkn)
   by_cases hxy:x=y
   ·have hb:(x==y)=true:=by simp[hxy]
    have hmem:Hid (x∈xs):=by rw[hxy];exact List.mem_of_getElem? ey.out
    have HXY:=Lib.hid hxy;clear hxy
    go_wp2
    go_ret
    exact⟨k,rfl,⟨fun _=>hmem.out,fun _=>by omega⟩,rfl⟩
   ·have hb:(x==y)=false:=by simp[hxy]
    have HT':Hid (x∉xs.take (k+1)):=by
     show _∉_
     rw[List.take_add_one,ey.out]
     simp only[Option.toList_some,List.mem_append,List.mem_singleton]
     intro h
     rcases h with h|h
     ·exact ht.out h
     ·exact hxy h
    clear hxy
    go_wp2
    go_round
    case rel=>exact⟨k+1,by omega,by go_num,HT'⟩
    case measure=>simp[intOf];omega
  ·have hmem:Hid (x∉xs):=by
    have h1:=ht.out
    have e1:=HN.out
    rwa[List.take_of_length_le (by omega)] at h1
   go_wp2
   go_ret
   exact⟨-1,rfl,⟨fun h=>by omega,fun h=>absurd h hmem.out⟩,rfl⟩
set_option maxHeartbeats 1000000 in
theorem containsInt_any(w:World)(a:Option Addr)(c:Nat)(xs:List Int)(x:Int)(hx:Sl (Value.int .i64) w a xs)(hl:xs.length≤maxLen):
  Calls Try.prog 61 #[.slice a xs.length c,(Value.int .i64) x] w fun e w'=>e= .returned (.bool (decide (x∈xs)))∧w'=w:=by
 have C:=indexInt_any w a c xs x hx hl
 generalize hR:decide (x∈xs)=r
 have HR:=Lib.hid hR;clear hR hx
 have HC:=Lib.hid C;clear C
 go_enter Try.func61,Try.ntmps61
 go_wp2_with fail
 refine HC.out.mono ?_
 rintro e w1 ⟨i,rfl,hi,rfl⟩
 have hr:Hid (decide (0≤i)=r):=by
  show _=_
  rw[←HR.out]
  exact decide_eq_decide.2 hi
 clear hi
 go_wp2
 go_ret
 exact⟨ret_bool hr.out,rfl⟩
end
section
open Go.RowKit
def nopFor(o:Oper):Oper:=⟨none,.move (.const (.bool true)),o.type,o.pos,o.after,none⟩
def sansLast(ops:Array Oper)(n:Nat):Array Oper:=ops.setIfInBounds n (nopFor (ops.getD n default))
def LastQ(P:Program)(ops:Array Oper)(o:Oper)(Q:Exit→Act→World→Prop):Exit→Act→World→Prop
 | .normal,a,w=>wpList P ops Q [o] a w
 | .exit i,a,w=>Q (.exit i) a w
 | .goto l,a,w=>Q (.goto l) a w
 | .ret,a,w=>Q .ret a w
 | .panic c,a,w=>Q (.panic c) a w
 | .outgrown,a,w=>Q .outgrown a w
section
variable {P:Program} {ops:Array Oper} {Q:Exit→Act→World→Prop} {md:Region.Mode} {n:Nat}
theorem sansLast_size:(sansLast ops n).size=ops.size:=by unfold sansLast;simp
theorem sansLast_ne{i:Nat}(h:i≠n):(sansLast ops n)[i]?=ops[i]?:=by
 unfold sansLast
 rw[Array.getElem?_setIfInBounds_ne (Ne.symm h)]
theorem sansLast_at(h:n<ops.size):(sansLast ops n)[n]?=some (nopFor (ops.getD n default)):=by
 unfold sansLast
 rw[Array.getElem?_setIfInBounds_self_of_lt h]
theorem sansLast_getD(h:n<ops.size):ops[n]?=some (ops.getD n default):=by
 simp[h]
theorem sansLast_ready(h:n<ops.size)(listed:Array Bool):Region.ready md (sansLast ops n) listed=Region.ready md ops listed:=by
 unfold Region.ready
 rw[sansLast_size]
 congr 1
 funext i
 by_cases e:i=n
 ·subst e
  rw[sansLast_at h,sansLast_getD h]
  rfl
 ·rw[sansLast_ne e]
theorem sansLast_yielded(h:n<ops.size)(hd:(ops.getD n default).dst=none)(t:Array Value):yielded (sansLast ops n) t=yielded ops t:=by
 funext j
 unfold yielded
 by_cases e:j=n
 ·subst e
  rw[sansLast_at h,sansLast_getD h]
  show(match (none:Option Tmp).bind (t[·]?) with|some (.bool b)=>some b|_=>none)=(match (((ops.getD j default)).dst).bind (t[·]?) with|some (.bool b)=>some b|_=>none)
  rw[hd]
 ·rw[sansLast_ne e]
theorem LastQ.oper{o o2:Oper}{a:Act}{w:World}{K:Act→World→Prop}(h:o.wp P a w K (LastQ P ops o2 Q)):o.wp P a w K Q:=by
 unfold Oper.wp at*
 generalize(execOp a.eval o).run P w=r at*
 cases r with
 |ok n w'=>
  cases n<;>simp only[Oper.upon] at h⊢ <;>
   first
    |exact h
    |exact Calls.mono h (fun e w'' he=>by cases e<;>exact he)
 |halt x w'=>cases x<;>simp only[Oper.upon] at h⊢ <;>exact h
def backB(md:Region.Mode)(ops:Array Oper):Bool:=(List.range ops.size).all fun i=>(ops.getD i default).after.all fun e=> !Region.binds md e||decide (e.on<i)
theorem backB_ready(hb:backB md ops=true){listed:Array Bool}(hz:listed.size=ops.size)(hr:Region.ready md ops listed=[]):∀i,i<ops.size→listed.getD i true=true:=by
 intro i
 induction i using Nat.strongRecOn with
 |_ i ih=>
  intro hi
  cases hl:listed.getD i true with
  |true=>rfl
  |false=>
   exfalso
   have hm:i∈Region.ready md ops listed:=mem_ready.2 ⟨hl,_,sansLast_getD hi,fun e he hbe=>by
    have h1:=List.all_eq_true.1 hb i (List.mem_range.2 hi)
    have h2:=Array.all_eq_true'.1 h1 e he
    rw[hbe] at h2
    have h3:e.on<i:=by simpa using h2
    have h4:=ih e.on h3 (by omega)
    cases h5:listed.getD e.on false with
    |true=>rfl
    |false=>
     rw[getD_in (by omega) h5] at h4
     cases h4⟩
   rw[hr] at hm
   cases hm
theorem wpAny_end{listed:Array Bool}{a:Act}{w:World}(hr:Region.ready md ops listed=[]):∀(f:Nat),wpAny P md ops Q f listed a w↔Q .normal a w
 |0=>⟨fun h=>h.2,fun h=>⟨hr,h⟩⟩
 |f+1=>⟨fun h=>h.1 hr,fun h=>⟨fun _=>h,by rw[hr];intro i hi;cases hi⟩⟩
theorem nop_wp{o:Oper}{a:Act}{w:World}{K:Act→World→Prop}(h:(nopFor o).wp P a w K Q∨((nopFor o).asks P a w∧LetsOut Q)):K a w:=by
 rcases h with h|h
 ·exact h
 ·exfalso
  have h1:=h.1.1
  have h2:((execOp a.eval (nopFor o)).runT P w #[]).2= #[]:=rfl
  rw[h2] at h1
  simp at h1
theorem wpAny_last(hb:backB md ops=true)(h:n<ops.size)(hd:(ops.getD n default).dst=none)(hs:Region.sinkB md ops n=true)(hc:Region.chainB md ops n=true)(hl:n+1=ops.size):
  ∀(f:Nat) (listed:Array Bool) (a:Act) (w:World),HeadInv md ops n listed→wpAny P md (sansLast ops n) (LastQ P ops (ops.getD n default) Q) f listed a w→wpAny P md ops Q f listed a w:=by
 have nr:∀listed:Array Bool,listed.getD n true=false→HeadInv md ops n listed→Region.ready md ops listed≠[]:=fun listed h1 inv h2=>by
  have h3:=backB_ready hb inv.size h2 n h
  rw[h1] at h3
  cases h3
 intro f
 induction f with
 |zero=>
  intro listed a w inv H
  rw[wpAny,sansLast_ready h] at H
  exact absurd H.1 (nr _ (inv.tail n (Nat.le_refl _) h) inv)
 |succ f ih=>
  intro listed a w inv H
  rw[wpAny,sansLast_ready h] at H
  refine⟨fun h0=>absurd h0 (nr _ (inv.tail n (Nat.le_refl _) h) inv),fun i hi=>?_⟩
  have h1:=H.2 i hi
  unfold wpOp at h1⊢
  rw[sansLast_yielded h hd] at h1
  by_cases e:i=n
  ·subst e
   have hall:∀j,j<i→listed.getD j true=true:=fun j hj=>by
    cases hl:listed.getD j true with
    |true=>rfl
    |false=>exact absurd hi (tail_waits hs hc h inv _ j rfl hj hl i (Nat.le_refl _))
   have hr:Region.ready md ops (listed.setIfInBounds i true)=[]:=by
    rw[List.eq_nil_iff_forall_not_mem]
    intro j hj
    obtain⟨h2,oj,hoj,_⟩:=mem_ready.1 hj
    have h3:j<ops.size:=(Array.getElem?_eq_some_iff.1 hoj).1
    by_cases hji:i=j
    ·subst hji
     have:i<listed.size:=by rw[inv.size];exact h
     simp[this] at h2
    ·rw[getD_set_ne true hji,hall j (by omega)] at h2
     cases h2
   rw[sansLast_at h] at h1
   have hg:=sansLast_getD h
   have h2:=(wpAny_end (by rw[sansLast_ready h];exact hr) f).1 (nop_wp h1)
   simp only[LastQ,wpList] at h2
   generalize ops.getD i default=o at h2 hg
   rw[hg]
   by_cases hw:Region.wanted o (yielded ops a.tmps)=true
   ·rw[if_pos hw] at h2
    simp only[if_pos hw]
    exact h2.imp (Oper.wp_mono fun a w hq=>(wpAny_end hr f).2 hq) id
   ·rw[if_neg hw] at h2
    simp only[if_neg hw]
    exact(wpAny_end hr f).2 h2
  ·rw[sansLast_ne e] at h1
   have hin:i<n:=by
    have:=(List.mem_filter.1 hi).1
    have:=List.mem_range.1 this
    omega
   have st:∀a' w',wpAny P md (sansLast ops n) (LastQ P ops (ops.getD n default) Q) f (listed.setIfInBounds i true) a' w'→wpAny P md ops Q f (listed.setIfInBounds i true) a' w':=fun a' w' hh=>ih _ a' w' (inv.set hi hin) hh
   cases ho:ops[i]? with
   |none=>rw[ho] at h1;exact st _ _ h1
   |some o=>
    rw[ho] at h1
    simp only at h1⊢
    split
    ·rename_i hw
     rw[if_pos hw] at h1
     exact h1.imp (fun h=>LastQ.oper (Oper.wp_mono st h)) id
    ·rename_i hw
     rw[if_neg hw] at h1
     exact st _ _ h1
def lastB(md:Region.Mode)(ops:Array Oper)(n:Nat):Bool:=backB md ops&&decide (n+1=ops.size)&&(ops.getD n default).dst.isNone&&Region.sinkB md ops n&&Region.chainB md ops n
theorem wp_region_last{id:Nat}{a:Act}{w:World}(n:Nat)(hm:P.follows .mixedOrders=true)(hB:lastB .any ops n=true)(h:wpAny P .any (sansLast ops n) (LastQ P ops (ops.getD n default) Q) (sansLast ops n).size (Array.replicate (sansLast ops n).size false) a w.drew):(Code.region id ops true).wp P Q a w:=by
 simp only[lastB,Bool.and_eq_true,decide_eq_true_eq,Option.isNone_iff_eq_none] at hB
 obtain⟨⟨⟨⟨hb,hn⟩,hd⟩,hs⟩,hc⟩:=hB
 rw[sansLast_size] at h
 refine wp_region_any hm (wpAny_last hb (by omega) hd hs hc hn _ _ _ _ ⟨by simp,fun j oj _ hl=>(by rw[getD_replicate_false] at hl;cases hl),fun t _ ht=>getD_in (by simpa using ht) (getD_replicate_false _ _)⟩ h)
theorem wp_region_lastH{l:List Oper}{id:Nat}{a:Act}{w:World}{o:Oper}(S:World→Prop)(n m:Nat)(hm:P.follows .mixedOrders=true)(hB:lastB .any l.toArray n=true)(ho:l[n]?=some o)(hz:l.toArray.size=m)(hS:S w.drew)(h:S w.drew→wpAnyH P .any (l.set n (nopFor o)).toArray (LastQ P l.toArray o Q) S m (Array.replicate m false) a w.drew):(Code.region id l.toArray true).wp P Q a w:=by
 have ho':l.toArray[n]?=some o:=by simpa using ho
 have e:l.toArray.getD n default=o:=by
  have h1:n<l.toArray.size:=(Array.getElem?_eq_some_iff.1 ho').1
  rw[sansLast_getD h1] at ho'
  exact Option.some.inj ho'
 refine wp_region_last n hm hB ?_
 rw[sansLast_size,hz]
 unfold sansLast
 rw[e,List.setIfInBounds_toArray]
 exact wpAny_of_held _ _ _ _ (h hS)
theorem wpAnyH_takeL{l:List Oper}{S:World→Prop}{i:Nat}{oi:Oper}{v:Value}{fuel:Nat}{listed:Array Bool}{a:Act}{w:World}(hi:l[i]?=some oi)(hs:Region.noSelect l.toArray=true)(hf:Region.free md l.toArray listed i=true)(hr:(Region.ready md l.toArray listed).contains i=true)(hQ:∀c a w,Q (.panic c) (a.put oi.dst v) w→Q (.panic c) a w)(hg:oi.guard=none)(hy:∀w,S w→(execOp a.eval oi).run P w= .ok (.value v) w)(hS:S w)(h:wpAnyH P md l.toArray Q S fuel (listed.setIfInBounds i true) (a.put oi.dst v) w):wpAnyH P md l.toArray Q S (fuel+1) listed a w:=
 wpAnyH_take (by simpa using hi) hs hf hr hQ (.inl ⟨by simp[Region.wanted,hg],hy⟩) hS h
theorem LastQ_normal{a:Act}{w:World}{o:Oper}:LastQ P ops o Q .normal a w=wpList P ops Q [o] a w:=rfl
theorem wpAnyH_step{l:List Oper}{S:World→Prop}{i f:Nat}{o:Oper}{listed:Array Bool}{a:Act}{w:World}(hr:Region.ready md l.toArray listed=[i])(ho:l[i]?=some o)(h:∀K':Act→World→Prop,Shut (∀a w,S w→(S w→wpAnyH P md l.toArray Q S f (listed.setIfInBounds i true) a w)→K' a w)→if Region.wanted o (yielded l.toArray a.tmps)=true then Oper.wp P o a w K' Q else K' (a.put o.dst undef) w):
  wpAnyH P md l.toArray Q S (f+1) listed a w:=wpAnyH_ready hr (by simp) (AllReadyH.cons (by simpa using ho) h AllReadyH.nil)
theorem wpAnyH_skipL{l:List Oper}{S:World→Prop}{i:Nat}{oi:Oper}{fuel:Nat}{listed:Array Bool}{a:Act}{w:World}(hi:l[i]?=some oi)(hs:Region.noSelect l.toArray=true)(hf:Region.free md l.toArray listed i=true)(hr:(Region.ready md l.toArray listed).contains i=true)(hQ:∀c a w,Q (.panic c) (a.put oi.dst undef) w→Q (.panic c) a w)(hw:Region.wanted oi (yielded l.toArray a.tmps)=false)(hS:S w)(h:wpAnyH P md l.toArray Q S fuel (listed.setIfInBounds i true) (a.put oi.dst undef) w):wpAnyH P md l.toArray Q S (fuel+1) listed a w:=
 wpAnyH_take (by simpa using hi) hs hf hr hQ (.inr ⟨hw,rfl⟩) hS h
theorem wpAnyH_takeG{l:List Oper}{S:World→Prop}{i:Nat}{oi:Oper}{v:Value}{fuel:Nat}{listed:Array Bool}{a:Act}{w:World}(hi:l[i]?=some oi)(hs:Region.noSelect l.toArray=true)(hf:Region.free md l.toArray listed i=true)(hr:(Region.ready md l.toArray listed).contains i=true)(hQ:∀c a w,Q (.panic c) (a.put oi.dst v) w→Q (.panic c) a w)(hw:Region.wanted oi (yielded l.toArray a.tmps)=true)(hy:∀w,S w→(execOp a.eval oi).run P w= .ok (.value v) w)(hS:S w)(h:wpAnyH P md l.toArray Q S fuel (listed.setIfInBounds i true) (a.put oi.dst v) w):wpAnyH P md l.toArray Q S (fuel+1) listed a w:=
 wpAnyH_take (by simpa using hi) hs hf hr hQ (.inl ⟨hw,hy⟩) hS h
theorem wp_region_allH{l:List Oper}{id:Nat}{a:Act}{w:World}(S:World→Prop)(m:Nat)(hm:P.follows .mixedOrders=true)(hz:l.toArray.size=m)(hS:S w.drew)(h:S w.drew→wpAnyH P .any l.toArray Q S m (Array.replicate m false) a w.drew):(Code.region id l.toArray true).wp P Q a w:=by
 refine wp_region_held_drew hm hS fun hs=>?_
 rw[hz]
 exact h hs
end
end
end Go.Proofs.Ytbjlijagheifgaa
