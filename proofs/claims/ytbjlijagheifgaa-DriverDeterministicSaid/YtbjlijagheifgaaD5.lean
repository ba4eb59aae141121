/-
  Texts of Ytbjlijagheifgaa, merged.
-/
import Derived.Test.YtbjlijagheifgaaD4
set_option linter.unusedSimpArgs false
set_option linter.unusedVariables false
namespace Go.Side
section
open Go Go.Conc Go.ConcN
open Go.ConcR (KK WgAt stA smA rd wr)
section
variable {σ:Type} {C:Fix σ} {g0 n:Nat} {ws:Nat→WV} {st:Nat→WState σ} {D:Nat→WDat σ} {T T':Terr} {dS dS':Nat} {qcl qcl':Bool} {q:Nat→Nat} {gs:Array Goroutine} {w w':World} {t u:Trace} {k:Nat}
theorem shutOps(g:Nat)(fn:FuncId)(pos:String)(c:Nat):MemOp.ofEvents g fn pos (shutEvs c)= #[{g,fn,pos,act:=.access ⟨.obj c,false,true⟩},{g,fn,pos,act:=.close c}]:=by
 rw[ofEvents_eq];simp[shutEvs,MemAct.ofEvent]
theorem shutSplit(g:Nat)(fn:FuncId)(pos:String)(c:Nat):t++MemOp.ofEvents g fn pos (shutEvs c)=(t++ #[{g,fn,pos,act:=.access ⟨.obj c,false,true⟩}])++ #[{g,fn,pos,act:=.close c}]:=by
 rw[shutOps,Array.append_assoc];rfl
theorem setChan_size{w:World}{c cap s' r':Nat}{buf':Array Value}{cl' tm:Bool}:(w.setChan c cap buf' cl' s' r' tm).heap.size=w.heap.size:=by simp[World.setChan]
theorem Shares.shutRead{Sh:Loc→Prop}{Hold:Who→Loc→Prop}{B g c:Nat}(H:Shares Sh Hold B t)(fn:FuncId)(pos:String)(hs:¬Sh (.obj c))(hh:Hold (.gor g) (.obj c))(hlow:c<B):Shares Sh Hold B (t++ #[{g,fn,pos,act:=.access ⟨.obj c,false,true⟩}]):=by
 have mem:∀op∈ #[({g,fn,pos,act:=.access ⟨.obj c,false,true⟩}:MemOp)],op={g,fn,pos,act:=.access ⟨.obj c,false,true⟩}:=fun op h=>by simpa using h
 refine H.own (fun op h=>by rw[mem op h]) (fun op h b hb _=>?_) (fun op h=>by rw[mem op h];exact hlow)
 rw[mem op h] at hb
 simp only[MemAct.touch?,Option.some.injEq] at hb
 subst hb
 exact⟨hs,hh,fun e=>by cases e⟩
theorem shut_touch{g:Nat}{fn:FuncId}{pos:String}{c:Nat}{op:MemOp}(h:op∈MemOp.ofEvents g fn pos (shutEvs c)){x:Touch}(hx:op.act.touch?=some x):x.loc= .obj c:=by
 rw[shutOps] at h
 simp only[List.mem_toArray,List.mem_cons,List.not_mem_nil,or_false] at h
 rcases h with rfl|rfl
 ·simp only[MemAct.touch?,Option.some.injEq] at hx;subst hx;rfl
 ·cases hx
theorem shut_norel{g:Nat}{fn:FuncId}{pos:String}{c:Nat}{op:MemOp}{a:Addr}(h:op∈MemOp.ofEvents g fn pos (shutEvs c)):op.act≠ .mark (.release a):=by
 rw[shutOps] at h
 simp only[List.mem_toArray,List.mem_cons,List.not_mem_nil,or_false] at h
 rcases h with rfl|rfl<;>simp
theorem shut_deaf{g g':Nat}{fn:FuncId}{pos:String}{c:Nat}:∀op∈MemOp.ofEvents g fn pos (shutEvs c),∀d,deafStep g' d op=d:=by
 intro op h d
 rw[shutOps] at h
 simp only[List.mem_toArray,List.mem_cons,List.not_mem_nil,or_false] at h
 rcases h with rfl|rfl<;>rfl
theorem shut_g{g:Nat}{fn:FuncId}{pos:String}{c:Nat}:∀op∈MemOp.ofEvents g fn pos (shutEvs c),op.g=g:=fun op hop=>by obtain⟨e,_,rfl⟩:=Conc.mem_ofEvents hop;rfl
theorem Net.wclose(N:Net C g0 n ws st D T dS qcl q gs w t)(hk:k<n){g g':Goroutine}{M:Nat}{s:σ}(hpos:(D k).pos= .run M s)(hn:C.nxt s=none)(f:Nat){r:Nat}(hc:w.heap[(ws k).of]?=some (.chan 0 #[] false r r false))(hsit:GoesN C.P false false true (AtR0 C (ws k) (C.sum s) true) f (Tidle C (ws k) (D k).wr) g' (w.setChan (ws k).of 0 #[] true r r false))(fn:FuncId)(pos:String):
  Net C g0 n ws st (upd D k {D k with pos:=.fin 7 s true,fuel:=f,sh:=some (.at (t.size+1))}) T dS qcl q ((gs.map (woken C.P g g' (w.setChan (ws k).of 0 #[] true r r false))).setIfInBounds (g0+k) g') (w.setChan (ws k).of 0 #[] true r r false) (t++MemOp.ofEvents (g0+k) fn pos (shutEvs (ws k).of)):=by
 have hv:=N.view k hk
 simp only[VSit,hpos] at hv
 obtain⟨hvw,hsh,hrel⟩:=hv
 have hdf0:(D k).deaf=0:=by
  obtain⟨x,_,hx⟩:=N.sit k hk
  simp only[WSit,hpos] at hx
  exact hx.2
 have hdt:Deaf t (g0+k)=0:=(N.tr.deafW k hk).trans hdf0
 have hcb:(ws k).of<w.heap.size:=(Array.getElem?_eq_some_iff.1 hc).1
 have hck:=(N.lay.cks k hk).1
 have hno:∀j,j<n→¬(D j).wr (.obj (ws k).of):=fun j hj h=>by
  have hx:=N.lay.dW j hj _ h
  by_cases e:k=j
  ·subst e;exact hx.2.2.1 hck
  ·exact(hx.2.2.2 k hk e).1 hck
 refine N.put hk shut_g ⟨fun j hj=>?_,fun j hj=>?_,?_,N.chans.ne⟩ (N.lay.same setChan_size rfl fun _=>by rw[hsh];simp) ?_ (N.tr.quiet.app fun op hop x hx hs=>?_) (N.tr.norel.app fun op hop=>shut_norel hop) ?_ (fun j hj e=>rely_setChan hc fun h=>hno j hj (wterr_wr h)) ⟨hsit,hdf0⟩ ?_ fun r' hr'=>?_
 ·by_cases e:j=k
  ·subst e;rw[upd_eq];exact⟨r,setChan_get hc⟩
  ·rw[upd_other _ _ e]
   obtain⟨r',h⟩:=N.chans.of j hj
   exact⟨r',(setChan_ne ((N.chans.ne j hj).2.2.2 k hk (Ne.symm e)).1).trans h⟩
 ·obtain⟨r',h⟩:=N.chans.an j hj
  refine⟨r',(setChan_ne ?_).trans h⟩
  by_cases e:j=k
  ·subst e;exact Ne.symm (N.chans.ne j hj).1
  ·exact Ne.symm ((N.chans.ne k hk).2.2.2 j hj e).2.1
 ·exact(setChan_ne (Ne.symm (N.chans.ne k hk).2.1)).trans N.chans.qc
 ·rw[setChan_size,shutSplit]
  have H1:=N.tr.shares.shutRead (g:=g0+k) (c:=(ws k).of) fn pos (N.lay.low _ (N.lay.ck k hk _ hck)).2 (.inr ⟨k,hk,.inl ⟨by simp[who,hrel],.inl hck⟩⟩) hcb
  generalize ht1:t++ #[({g:=g0+k,fn,pos,act:=.access ⟨.obj (ws k).of,false,true⟩}:MemOp)]=t1 at H1⊢
  have hs1:t1.size=t.size+1:=by rw[←ht1];simp
  generalize hop:({g:=g0+k,fn,pos,act:=.close (ws k).of}:MemOp)=op
  have mem:∀x∈ #[op],x=op:=fun x h=>by simpa using h
  have hlast:(t1++ #[op])[t.size+1]?=some op:=by rw[←hs1];simp
  refine H1.pass (fun x hx=>by rw[mem x hx,←hop];rfl) (fun x hx=>by rw[mem x hx,←hop];exact hcb) (fun x l hx=>?_) (fun y l hy _=>?_)
  ·rcases hx with hx|⟨j,hj,hx⟩
   ·exact⟨x,.inl hx,fun i h=>h.app _⟩
   ·by_cases e:j=k
    ·subst e
     rw[upd_eq] at hx
     rcases hx with⟨hx,h'⟩|⟨hx,h'⟩
     ·exact⟨x,.inr ⟨j,hj,.inl ⟨hx,h'⟩⟩,fun i h=>h.app _⟩
     ·obtain rfl:=Option.some.inj hx
      refine⟨.gor (g0+j),.inr ⟨j,hj,.inr ⟨hsh,h'⟩⟩,fun i h=>?_⟩
      exact Go.Side.lay (g:=g0+j) h (by omega) hlast (by rw[←hop])
    ·rw[upd_other _ _ e] at hx
     exact⟨x,.inr ⟨j,hj,hx⟩,fun i h=>h.app _⟩
  ·rcases hy with hy|⟨j,hj,hy⟩
   ·exact⟨y,.inl hy,fun i h=>h.app _⟩
   ·by_cases e:j=k
    ·subst e
     rcases hy with⟨hy,h'⟩|⟨hy,h'⟩
     ·exact⟨y,.inr ⟨j,hj,.inl ⟨by rw[upd_eq];exact hy,by rw[upd_eq];exact h'⟩⟩,fun i h=>h.app _⟩
     ·rw[hsh] at hy
      obtain rfl:=Option.some.inj hy
      refine⟨.at (t.size+1),.inr ⟨j,hj,.inr ⟨by rw[upd_eq],h'⟩⟩,fun i h=>?_⟩
      exact Go.Side.lay (g:=g0+j) h (by omega) hlast (by rw[←hop])
    ·exact⟨y,.inr ⟨j,hj,by rw[upd_other _ _ e];exact hy⟩,fun i h=>h.app _⟩
 ·obtain⟨a,ha,_⟩:=hs
  rw[shut_touch hop hx] at ha;cases ha
 ·rw[Deaf_still shut_deaf,hdt];exact hdf0.symm
 ·have e1:(t++MemOp.ofEvents (g0+k) fn pos (shutEvs (ws k).of))[t.size+1]?=some {g:=g0+k,fn,pos,act:=.close (ws k).of}:=by rw[get_new,shutOps];rfl
  refine⟨.inl ⟨hvw,hn,t.size+1,rfl,act?_of e1,g0+k,gOf e1,?_⟩,by simp[hrel]⟩
  rw[deaf_still shut_deaf 1 (by rw[shutOps];simp),hdt]
 ·simp only[hrel] at hr';cases hr'
theorem Net.wcloseQ(N:Net C g0 n ws st D T dS qcl q gs w t)(hk:k<n){g g':Goroutine}{s:σ}(hpos:(D k).pos= .fin 8 s false)(f:Nat){r:Nat}(hc:w.heap[(ws k).of]?=some (.chan 0 #[] false r r false))(hsit:GoesN C.P false false true (AtR0 C (ws k) (C.sum s) false) f (Tidle C (ws k) (D k).wr) g' (w.setChan (ws k).of 0 #[] true r r false))(fn:FuncId)(pos:String):
  Net C g0 n ws st (upd D k {D k with pos:=.fin 7 s false,fuel:=f}) T dS qcl q ((gs.map (woken C.P g g' (w.setChan (ws k).of 0 #[] true r r false))).setIfInBounds (g0+k) g') (w.setChan (ws k).of 0 #[] true r r false) (t++MemOp.ofEvents (g0+k) fn pos (shutEvs (ws k).of)):=by
 have hv:=N.view k hk
 simp only[VSit,hpos] at hv
 obtain⟨hvw,hsh,hrel'⟩:=hv
 have hrel:(D k).rel=none:=hrel'.1 (by omega)
 have hdf0:(D k).deaf=0:=by
  obtain⟨x,_,hx⟩:=N.sit k hk
  simp only[WSit,hpos] at hx
  exact hx.1.2
 have hdt:Deaf t (g0+k)=0:=(N.tr.deafW k hk).trans hdf0
 have hcb:(ws k).of<w.heap.size:=(Array.getElem?_eq_some_iff.1 hc).1
 have hck:=(N.lay.cks k hk).1
 have hno:∀j,j<n→¬(D j).wr (.obj (ws k).of):=fun j hj h=>by
  have hx:=N.lay.dW j hj _ h
  by_cases e:k=j
  ·subst e;exact hx.2.2.1 hck
  ·exact(hx.2.2.2 k hk e).1 hck
 refine N.put hk shut_g ⟨fun j hj=>?_,fun j hj=>?_,?_,N.chans.ne⟩ (N.lay.same setChan_size rfl id) ?_ (N.tr.quiet.app fun op hop x hx hs=>?_) (N.tr.norel.app fun op hop=>shut_norel hop) ?_ (fun j hj e=>rely_setChan hc fun h=>hno j hj (wterr_wr h)) ⟨hsit,hdf0⟩ ?_ fun r' hr'=>?_
 ·by_cases e:j=k
  ·subst e;rw[upd_eq];exact⟨r,setChan_get hc⟩
  ·rw[upd_other _ _ e]
   obtain⟨r',h⟩:=N.chans.of j hj
   exact⟨r',(setChan_ne ((N.chans.ne j hj).2.2.2 k hk (Ne.symm e)).1).trans h⟩
 ·obtain⟨r',h⟩:=N.chans.an j hj
  refine⟨r',(setChan_ne ?_).trans h⟩
  by_cases e:j=k
  ·subst e;exact Ne.symm (N.chans.ne j hj).1
  ·exact Ne.symm ((N.chans.ne k hk).2.2.2 j hj e).2.1
 ·exact(setChan_ne (Ne.symm (N.chans.ne k hk).2.1)).trans N.chans.qc
 ·rw[setChan_size,shutSplit]
  refine((N.tr.shares.shutRead (g:=g0+k) (c:=(ws k).of) fn pos (N.lay.low _ (N.lay.ck k hk _ hck)).2 (.inr ⟨k,hk,.inl ⟨by simp[who,hrel],.inl hck⟩⟩) hcb).mute (fun op h=>?_) fun op h=>?_).congr (hold_same rfl rfl rfl)
  ·simp only[List.mem_toArray,List.mem_cons,List.not_mem_nil,or_false] at h
   subst h;rfl
  ·simp only[List.mem_toArray,List.mem_cons,List.not_mem_nil,or_false] at h
   subst h;exact hcb
 ·obtain⟨a,ha,_⟩:=hs
  rw[shut_touch hop hx] at ha;cases ha
 ·rw[Deaf_still shut_deaf,hdt];exact hdf0.symm
 ·exact⟨hvw,hsh,by simp[hrel]⟩
 ·simp only[hrel] at hr';cases hr'
theorem Net.sshut(N:Net C g0 n ws st D T dS false q gs w t){g g':Goroutine}(ho:T.rd (.obj C.qc))(hm:mayWake C.P g=true)(hg':g'.status= .running)(fn:FuncId)(pos:String):
  Net C g0 n ws st D T dS true q ((gs.map (woken C.P g g' (w.setChan C.qc 0 #[] true 0 0 false))).setIfInBounds 0 g') (w.setChan C.qc 0 #[] true 0 0 false) (t++MemOp.ofEvents 0 fn pos (shutEvs C.qc)):=by
 have hc:=N.chans.qc
 have hcb:C.qc<w.heap.size:=(Array.getElem?_eq_some_iff.1 hc).1
 refine N.sput shut_g ⟨fun j hj=>?_,fun j hj=>?_,setChan_get hc,N.chans.ne⟩ ⟨N.lay.dS,N.lay.dW,N.lay.ck,N.lay.r0,fun l hl=>by rw[setChan_size];exact N.lay.low l hl,fun j hj l hl=>by rw[setChan_size];exact N.lay.lowW j hj l hl,fun l hl=>by rw[setChan_size];exact N.lay.sh l hl,N.lay.wg,N.lay.wgo,N.lay.qco,N.lay.cks,N.lay.ckr,N.lay.r0n,fun l hm' hl hs'=>N.lay.cov l hm' (by rw[setChan_size] at hl;exact hl) hs',N.lay.bxo⟩ ?_
  (N.tr.quiet.app fun op hop x hx hs=>?_) (N.tr.norel.app fun op hop=>shut_norel hop) (by rw[Deaf_still shut_deaf];exact N.tr.deaf0) (fun j hj=>rely_setChan hc fun h=>(N.lay.dW j hj _ (wterr_wr h)).1 ho) N.kn (.inr ⟨rfl,rfl,hm,hg'⟩)
 ·obtain⟨r,h⟩:=N.chans.of j hj
  exact⟨r,(setChan_ne (N.chans.ne j hj).2.1).trans h⟩
 ·obtain⟨r,h⟩:=N.chans.an j hj
  exact⟨r,(setChan_ne (N.chans.ne j hj).2.2.1).trans h⟩
 ·rw[setChan_size,shutSplit]
  refine(N.tr.shares.shutRead (g:=0) (c:=C.qc) fn pos (N.lay.low _ ho).2 (.inl ⟨rfl,ho⟩) hcb).mute (fun op h=>?_) fun op h=>?_
  ·simp only[List.mem_toArray,List.mem_cons,List.not_mem_nil,or_false] at h
   subst h;rfl
  ·simp only[List.mem_toArray,List.mem_cons,List.not_mem_nil,or_false] at h
   subst h;exact hcb
 ·obtain⟨a,ha,_⟩:=hs
  rw[shut_touch hop hx] at ha;cases ha
theorem Net.wset(N:Net C g0 n ws st D T dS qcl q gs w t)(hk:k<n){g':Goroutine}{d:WDat σ}(hu:∀op∈u,op.g=g0+k)(hn:∀op∈u,op.act.touch?=none)(hl:∀op∈u,op.act.low w.heap.size)(hnr:∀op∈u,op.act≠ .mark (.release (stA C.Wg)))(hw:d.wr=(D k).wr)(hsh:d.sh=(D k).sh)(hr:d.rel=(D k).rel)(hp:isShut d.pos=isShut (D k).pos)(hdf:Deaf (t++u) (g0+k)=d.deaf)(hsit:WSit C qcl (ws k) d g' w)(hv:VSit C (g0+k) (st k) d (t++u) (ws k)):
  Net C g0 n ws st (upd D k d) T dS qcl q (gs.setIfInBounds (g0+k) g') w (t++u):=by
 have hpp:=N.pos
 have hs:=N.size
 refine⟨hpp,by simpa using hs,fun i x h1 h2 hx=>?_,fun j hj=>?_,fun j hj=>?_,fun j hj=>?_,N.lay.same rfl hw (by rw[hsh];exact id),N.chans.same (fun _ _ h _=>h) hp,⟨(N.tr.shares.mute hn hl).congr (hold_same hw hsh hr),N.tr.quiet.app fun op hop x hx _=>(by rw[hn op hop] at hx;cases hx),N.tr.norel.app hnr,?_,fun j hj=>?_,fun j hj r hr'=>?_⟩,N.kn⟩
 ·rw[Array.getElem?_setIfInBounds_ne (by omega)] at hx
  rw[Deaf_other t (by omega) u hu]
  exact N.old i x h1 h2 hx
 ·simp at hj
  rw[Deaf_other t (by omega) u hu]
  exact N.above j hj
 ·by_cases e:j=k
  ·subst e
   rw[upd_eq]
   exact⟨g',Array.getElem?_setIfInBounds_self_of_lt (by omega),hsit⟩
  ·obtain⟨x,hx,h⟩:=N.sit j hj
   rw[upd_other _ _ e]
   exact⟨x,by rw[Array.getElem?_setIfInBounds_ne (by omega)];exact hx,h⟩
 ·by_cases e:j=k
  ·subst e;rw[upd_eq];exact hv
  ·rw[upd_other _ _ e];exact VSit.app (N.view j hj)
 ·rw[Deaf_other t (by omega) _ hu];exact N.tr.deaf0
 ·by_cases e:j=k
  ·subst e;rw[upd_eq,hdf]
  ·rw[upd_other _ _ e,Deaf_other t (by omega) _ hu];exact N.tr.deafW j hj
 ·have:(D j).rel=some r:=by
   by_cases e:j=k
   ·subst e;rw[upd_eq,hr] at hr';exact hr'
   ·rw[upd_other _ _ e] at hr';exact hr'
  obtain⟨h1,h2⟩:=N.tr.rel j hj r this
  exact⟨by rw[act?_old (lt_of_act? h1)];exact h1,(heard_old (lt_of_act? h1)).2 h2⟩
theorem Net.recvEnd(N:Net C g0 n ws st D T 0 qcl q gs w t)(hk:k<n){g':Goroutine}{x:Nat}{s:σ}(hpos:(D k).pos= .fin x s true)(hb:st k= .busy s)(hrd:∀l,T'.rd l↔T.rd l)(hwr:∀l,T'.wr l→T.wr l∨(C.R0 l∧QuietS n (upd st k (.ended s))))(hkn:T'.kn=T.kn)(fn:FuncId)(pos:String):
  Net C g0 n ws (upd st k (.ended s)) (upd D k {D k with sh:=none}) T' 0 qcl q (gs.setIfInBounds 0 g') w (t++ #[{g:=0,fn,pos,act:=.recvClosed (ws k).of}]):=by
 have hv:=N.view k hk
 simp only[VSit,hpos] at hv
 obtain⟨hv1,hv2⟩:=hv
 obtain⟨_,_,m,hsh,hact,hhear⟩:=hv1.resolve_right fun h=>by rw[hb] at h;cases h.1
 have hpp:=N.pos
 have hs:=N.size
 generalize hop:({g:=0,fn,pos,act:=.recvClosed (ws k).of}:MemOp)=op
 have mem:∀y∈ #[op],y=op:=fun y h=>by simpa using h
 have hst:∀j,Deaf (t++ #[op]) j=Deaf t j:=fun j=>Deaf_still fun y h d=>by rw[mem y h,←hop];rfl
 have hmute:∀y∈ #[op],y.act.touch?=none:=fun y h=>by rw[mem y h,←hop];rfl
 have hcb:(ws k).of<w.heap.size:=by
  obtain⟨r,h⟩:=N.chans.of k hk
  exact(Array.getElem?_eq_some_iff.1 h).1
 have hview:∀j,j<n→VSit C (g0+j) (upd st k (.ended s) j) (upd D k {D k with sh:=none} j) (t++ #[op]) (ws j):=fun j hj=>by
  by_cases e:j=k
  ·subst e
   rw[upd_eq,upd_eq]
   simp only[VSit,hpos]
   exact⟨.inr ⟨trivial,trivial⟩,hv2⟩
  ·rw[upd_other _ _ e,upd_other _ _ e];exact VSit.app (N.view j hj)
 have hfree:∀l,T'.wr l→C.R0 l→∀j,j<n→(upd D k {D k with sh:=none} j).sh=none:=fun l hl hR j hj=>by
  rcases hwr l hl with h|⟨_,hq⟩
  ·by_cases e:j=k
   ·subst e;rw[upd_eq]
   ·rw[upd_other _ _ e]
    cases hx:(D j).sh with
    |none=>rfl
    |some y=>exact absurd hR ((N.lay.dS l h j hj).2.2 (by rw[hx];simp))
  ·exact VSit.free (hview j hj) (hq j hj)
 have hwj:∀j,(upd D k {D k with sh:=none} j).wr=(D j).wr:=fun j=>by
  by_cases e:j=k
  ·subst e;rw[upd_eq]
  ·rw[upd_other _ _ e]
 have hwho:∀j,who (g0+j) (upd D k {D k with sh:=none} j)=who (g0+j) (D j):=fun j=>by
  by_cases e:j=k
  ·subst e;rw[upd_eq];rfl
  ·rw[upd_other _ _ e]
 refine⟨hpp,by simpa using hs,fun i y h1 h2 hy=>?_,fun j hj=>?_,fun j hj=>?_,hview,N.lay.turn rfl rfl hrd (fun l hl=>(hwr l hl).imp id And.left) hfree,N.chans.same (fun _ _ h _=>h) (by rfl),⟨?_,N.tr.quiet.app fun y hy z hz _=>(by rw[hmute y hy] at hz;cases hz),N.tr.norel.app fun y hy e=>?_,by rw[hst];exact N.tr.deaf0,fun j hj=>?_,fun j hj r hr'=>?_⟩,fun b=>by rw[hkn];exact N.kn b⟩
 ·rw[Array.getElem?_setIfInBounds_ne (by omega)] at hy
  rw[hst];exact N.old i y h1 h2 hy
 ·simp at hj
  rw[hst];exact N.above j hj
 ·obtain⟨y,hy,h⟩:=N.sit j hj
  refine⟨y,by rw[Array.getElem?_setIfInBounds_ne (by omega)];exact hy,?_⟩
  by_cases e:j=k
  ·subst e;rw[upd_eq]
   simp only[WSit,hpos] at h⊢
   exact h
  ·rw[upd_other _ _ e];exact h
 ·have h0:Deaf t op.g=0:=by rw[←hop];exact N.tr.deaf0
  have kn:∀i,Before t i m→Knows (t++ #[op]) 0 i:=fun i h=>by
   have:=closed_knows (op:=op) hact hhear h0 (by rw[←hop]) h
   rw[←hop] at this⊢
   exact this
  refine N.tr.shares.pass hmute (fun y hy=>by rw[mem y hy,←hop];exact hcb) (fun y l hy=>?_) (fun y l hy _=>?_)
  ·rcases hy with⟨rfl,hy⟩|⟨j,hj,⟨hy,h'⟩|⟨hy,h'⟩⟩
   ·exact⟨_,.inl ⟨rfl,(hrd l).1 hy⟩,fun i h=>h.app _⟩
   ·exact⟨y,.inr ⟨j,hj,.inl ⟨by rw[←hwho];exact hy,by rw[←hwj];exact h'⟩⟩,fun i h=>h.app _⟩
   ·by_cases e:j=k
    ·subst e;rw[upd_eq] at hy;cases hy
    ·rw[upd_other _ _ e] at hy
     exact⟨y,.inr ⟨j,hj,.inr ⟨hy,h'⟩⟩,fun i h=>h.app _⟩
  ·rcases hy with⟨rfl,hy⟩|⟨j,hj,⟨hy,h'⟩|⟨hy,h'⟩⟩
   ·exact⟨_,.inl ⟨rfl,(hrd l).2 hy⟩,fun i h=>h.app _⟩
   ·exact⟨y,.inr ⟨j,hj,.inl ⟨by rw[hwho];exact hy,by rw[hwj];exact h'⟩⟩,fun i h=>h.app _⟩
   ·by_cases e:j=k
    ·subst e
     rw[hsh] at hy
     obtain rfl:=Option.some.inj hy
     exact⟨.gor 0,.inl ⟨rfl,(hrd l).2 (N.lay.r0 l h')⟩,kn⟩
    ·exact⟨y,.inr ⟨j,hj,.inr ⟨by rw[upd_other _ _ e];exact hy,h'⟩⟩,fun i h=>h.app _⟩
 ·rw[mem y hy,←hop] at e;cases e
 ·rw[hst]
  by_cases e:j=k
  ·subst e;rw[upd_eq];exact N.tr.deafW j hj
  ·rw[upd_other _ _ e];exact N.tr.deafW j hj
 ·have hr2:(D j).rel=some r:=by
   by_cases e:j=k
   ·subst e;rw[upd_eq] at hr';exact hr'
   ·rw[upd_other _ _ e] at hr';exact hr'
  obtain⟨h1,h2⟩:=N.tr.rel j hj r hr2
  exact⟨by rw[act?_old (lt_of_act? h1)];exact h1,(heard_old (lt_of_act? h1)).2 h2⟩
end
end
end Go.Side
