/-
  Texts of Ytbjlijagheifgaa, merged.
-/
import Derived.Test.YtbjlijagheifgaaD14
import Derived.Conc.Events
set_option linter.unusedSimpArgs false
set_option linter.unusedVariables false
namespace Go.Side
section
open Go
variable {ob:Bool} {P:Program}
theorem plq_underlying(t:TypeId):PlainSem ob P (fun d=>P.underlying t=some d) (underlying t):=by
 unfold underlying
 show PlainSem ob P _ (Sem.program _)
 refine .program ?_
 show PlainSem ob P _ (match P.underlying t with|some d=>pure d|none=>stuck "no such type")
 cases h:P.underlying t with
 |none=>exact pl_stuck _
 |some d=>exact .pure rfl
theorem pl_equalIn_int{t:TypeId}{k:IntKind}(h:P.underlying t=some (.int k))(n:Nat)(x y:Value):Pl ob P (Op.equalIn n t x y):=by
 cases n with
 |zero=>exact pl_unsup _
 |succ n=>
  unfold Op.equalIn
  refine PlainSem.bind (plq_underlying t) fun d hd=>?_
  rw[h] at hd
  obtain rfl:=Option.some.inj hd
  repeat' first|exact pl_pure trivial|exact pl_stuck _|exact pl_unsup _|exact pl_panic _|exact pl_unsafeAdd _ _ _ _|assumption|contradiction|apply pl_program|apply pl_choose|apply pl_load|apply pl_store|apply pl_new|apply pl_frozen|apply pl_getObj|apply pl_setObj|apply pl_typeInfo|apply pl_underlying|apply pl_zeroValue|apply pl_sizeOf|apply pl_isAgg|apply pl_elemOf|apply pl_loadCellsFrom|apply pl_loadCells|apply pl_storeCells|apply pl_loadVar|apply pl_storeVar|apply pl_newRow|apply pl_newVar|apply pl_part|apply pl_runtimePanic|apply pl_boundsPanic|apply pl_asIntOf|apply pl_asInt|apply pl_asBool|apply pl_asAgg|apply pl_asAddr|apply pl_sureAddr|apply pl_loadAt|apply pl_storeAt|apply pl_indexAt|apply pl_viewAt|apply pl_noView|apply pl_byteOf|apply pl_partAt|apply pl_fieldPlace|apply pl_fieldAt|apply pl_alloc|apply pl_box|apply pl_extract|apply pl_askRoom|apply pl_makeSlice|apply pl_buildSlice|apply pl_lenOf|apply pl_firstCells|apply pl_sliceBound|apply pl_sliceBounds|apply pl_slice|apply pl_sliceAt|apply pl_intArith|apply pl_intBits|apply pl_intDiv|apply pl_intCmp|apply pl_unary|apply pl_numberAt|apply pl_behindNumber|apply pl_asNumber|apply pl_twoPlaces|apply pl_addrSub|apply pl_addrCmp|apply pl_addrMod|apply pl_len|apply pl_movedNumber|apply pl_movedPointer|apply pl_shift|apply pl_floatArith|apply pl_floatCmp|apply pl_stringOp|apply pl_equalIn_int|refine Pl.b ?_ (fun _=>?_)|refine Pl.m ?_ (fun _=>trivial)|split|dsimp only
theorem pl_equalIn_bool{t:TypeId}(h:P.underlying t=some .bool)(n:Nat)(x y:Value):Pl ob P (Op.equalIn n t x y):=by
 cases n with
 |zero=>exact pl_unsup _
 |succ n=>
  unfold Op.equalIn
  refine PlainSem.bind (plq_underlying t) fun d hd=>?_
  rw[h] at hd
  obtain rfl:=Option.some.inj hd
  repeat' first|exact pl_pure trivial|exact pl_stuck _|exact pl_unsup _|exact pl_panic _|exact pl_unsafeAdd _ _ _ _|assumption|contradiction|apply pl_program|apply pl_choose|apply pl_load|apply pl_store|apply pl_new|apply pl_frozen|apply pl_getObj|apply pl_setObj|apply pl_typeInfo|apply pl_underlying|apply pl_zeroValue|apply pl_sizeOf|apply pl_isAgg|apply pl_elemOf|apply pl_loadCellsFrom|apply pl_loadCells|apply pl_storeCells|apply pl_loadVar|apply pl_storeVar|apply pl_newRow|apply pl_newVar|apply pl_part|apply pl_runtimePanic|apply pl_boundsPanic|apply pl_asIntOf|apply pl_asInt|apply pl_asBool|apply pl_asAgg|apply pl_asAddr|apply pl_sureAddr|apply pl_loadAt|apply pl_storeAt|apply pl_indexAt|apply pl_viewAt|apply pl_noView|apply pl_byteOf|apply pl_partAt|apply pl_fieldPlace|apply pl_fieldAt|apply pl_alloc|apply pl_box|apply pl_extract|apply pl_askRoom|apply pl_makeSlice|apply pl_buildSlice|apply pl_lenOf|apply pl_firstCells|apply pl_sliceBound|apply pl_sliceBounds|apply pl_slice|apply pl_sliceAt|apply pl_intArith|apply pl_intBits|apply pl_intDiv|apply pl_intCmp|apply pl_unary|apply pl_numberAt|apply pl_behindNumber|apply pl_asNumber|apply pl_twoPlaces|apply pl_addrSub|apply pl_addrCmp|apply pl_addrMod|apply pl_len|apply pl_movedNumber|apply pl_movedPointer|apply pl_shift|apply pl_floatArith|apply pl_floatCmp|apply pl_stringOp|apply pl_equalIn_int|apply pl_equalIn_bool|refine Pl.b ?_ (fun _=>?_)|refine Pl.m ?_ (fun _=>trivial)|split|dsimp only
theorem pl_forInL{α β:Type}(f:α→β→Sem (ForInStep β)):∀(l:List α) (b:β),(∀a∈l,∀b,Pl ob P (f a b))→Pl ob P (forIn l b f)
 |[],b,_=>by rw[List.forIn_nil];exact pl_pure trivial
 |a::l,b,h=>by
  rw[List.forIn_cons]
  refine Pl.b (h a (List.mem_cons_self ..) b) fun r=>?_
  cases r with
  |done b'=>exact pl_pure trivial
  |yield b'=>exact pl_forInL f l b' fun a' ha=>h a' (List.mem_cons_of_mem _ ha)
theorem pl_forInA{α β:Type}(f:α→β→Sem (ForInStep β))(l:Array α)(b:β)(h:∀a∈l,∀b,Pl ob P (f a b)):Pl ob P (forIn l b f):=by
 rw[←Array.forIn_toList]
 exact pl_forInL f _ b fun a ha=>h a (by simpa using ha)
theorem pl_equalIn_struct{t:TypeId}{fs:Array Field}(h:P.underlying t=some (.struct fs))(hf:∀f∈fs,(∃k,P.underlying f.type=some (.int k))∨P.underlying f.type=some .bool)(n:Nat)(x y:Value):Pl ob P (Op.equalIn n t x y):=by
 cases n with
 |zero=>exact pl_unsup _
 |succ n=>
  unfold Op.equalIn
  refine PlainSem.bind (plq_underlying t) fun d hd=>?_
  rw[h] at hd
  obtain rfl:=Option.some.inj hd
  split<;>first
   |contradiction
   |exact pl_stuck _
   |(
     rename_i fields xs ys heq
     obtain rfl:fs=fields:=by injection heq
     refine Pl.b pl_program fun p=>?_
     split
     ·repeat' first|exact pl_pure trivial|exact pl_stuck _|exact pl_unsup _|exact pl_panic _|exact pl_unsafeAdd _ _ _ _|assumption|contradiction|apply pl_program|apply pl_choose|apply pl_load|apply pl_store|apply pl_new|apply pl_frozen|apply pl_getObj|apply pl_setObj|apply pl_typeInfo|apply pl_underlying|apply pl_zeroValue|apply pl_sizeOf|apply pl_isAgg|apply pl_elemOf|apply pl_loadCellsFrom|apply pl_loadCells|apply pl_storeCells|apply pl_loadVar|apply pl_storeVar|apply pl_newRow|apply pl_newVar|apply pl_part|apply pl_runtimePanic|apply pl_boundsPanic|apply pl_asIntOf|apply pl_asInt|apply pl_asBool|apply pl_asAgg|apply pl_asAddr|apply pl_sureAddr|apply pl_loadAt|apply pl_storeAt|apply pl_indexAt|apply pl_viewAt|apply pl_noView|apply pl_byteOf|apply pl_partAt|apply pl_fieldPlace|apply pl_fieldAt|apply pl_alloc|apply pl_box|apply pl_extract|apply pl_askRoom|apply pl_makeSlice|apply pl_buildSlice|apply pl_lenOf|apply pl_firstCells|apply pl_sliceBound|apply pl_sliceBounds|apply pl_slice|apply pl_sliceAt|apply pl_intArith|apply pl_intBits|apply pl_intDiv|apply pl_intCmp|apply pl_unary|apply pl_numberAt|apply pl_behindNumber|apply pl_asNumber|apply pl_twoPlaces|apply pl_addrSub|apply pl_addrCmp|apply pl_addrMod|apply pl_len|apply pl_movedNumber|apply pl_movedPointer|apply pl_shift|apply pl_floatArith|apply pl_floatCmp|apply pl_stringOp|apply pl_equalIn_int|apply pl_equalIn_bool|apply pl_forInL|apply pl_forInA|apply pl_equalIn_struct|refine Pl.b ?_ (fun _=>?_)|refine Pl.m ?_ (fun _=>trivial)|split|dsimp only
     ·refine Pl.b (pl_forInA _ _ _ fun f hfm b=>?_) fun r=>?_
      ·have he:∀x y,Pl ob P (Op.equalIn n f.type x y):=fun x y=>by
        rcases hf f hfm with⟨k,hk⟩|hk
        ·exact pl_equalIn_int hk n x y
        ·exact pl_equalIn_bool hk n x y
       split
       ·refine Pl.b (pl_part _ _ _) fun a=>Pl.b (pl_part _ _ _) fun c=>Pl.b (he a c) fun r=>?_
        split<;>exact pl_pure trivial
       ·exact pl_pure trivial
      ·dsimp only
       split<;>exact pl_pure trivial)
end
section
open Go
variable {ob:Bool} {P:Program}
def Calm(P:Program){α:Type}(s:Sem α):Prop:=∀w es,(∃a w' es',s.runT P w es=(.ok a w',es'))∨∃h w' es',s.runT P w es=(.halt h w',es')∧Dud h
def Doom(P:Program){α:Type}(s:Sem α):Prop:=∀w es,∃h w' es',s.runT P w es=(.halt h w',es')∧Dud h
theorem runT_ok_bind{α β:Type}{f:α→Sem β}:∀(s:Sem α) (w:World) (es:Array Event) (a:α) (w':World) (es':Array Event),s.runT P w es=(.ok a w',es')→(s.bind f).runT P w es=(f a).runT P w' es':=by
 intro s w es a w' es' h
 rw[Sem.runT_bind',h]
theorem Doom.bind{α β:Type}{s:Sem α}{f:α→Sem β}(hs:Calm P s)(hf:∀a,Doom P (f a)):Doom P (s>>=f):=fun w es=>by
 rcases hs w es with⟨a,w',es',e⟩|⟨h,w',es',e,hn⟩
 ·obtain⟨h,w'',es'',e',hn⟩:=hf a w' es'
  exact⟨h,w'',es'',(runT_ok_bind s w es a w' es' e).trans e',hn⟩
 ·exact⟨h,w',es',bind_halts s w es h w' es' e,hn⟩
theorem Doom.now{α β:Type}{s:Sem α}{f:α→Sem β}(hs:Doom P s):Doom P (s>>=f):=fun w es=>by
 obtain⟨h,w',es',e,hn⟩:=hs w es
 exact⟨h,w',es',bind_halts s w es h w' es' e,hn⟩
theorem doom_unsup{α:Type}(u:Unsupported):Doom P (unsupported u:Sem α):=fun w es=>⟨_,w,es,rfl,trivial⟩
theorem Calm.bind{α β:Type}{s:Sem α}{f:α→Sem β}(hs:Calm P s)(hf:∀a,Calm P (f a)):Calm P (s>>=f):=fun w es=>by
 rcases hs w es with⟨a,w',es',e⟩|⟨h,w',es',e,hn⟩
 ·rcases hf a w' es' with⟨b,w'',es'',e'⟩|⟨h,w'',es'',e',hn⟩
  ·exact .inl ⟨b,w'',es'',(runT_ok_bind s w es a w' es' e).trans e'⟩
  ·exact .inr ⟨h,w'',es'',(runT_ok_bind s w es a w' es' e).trans e',hn⟩
 ·exact .inr ⟨h,w',es',bind_halts s w es h w' es' e,hn⟩
theorem calm_pure{α:Type}(a:α):Calm P (pure a:Sem α):=fun w es=>.inl ⟨a,w,es,rfl⟩
theorem calm_shape(r:Nat):Calm P (shape r):=fun w es=>.inl ⟨_,w,es,rfl⟩
theorem calm_frozen(a:Addr):Calm P (frozen a):=fun w es=>.inl ⟨_,w,es,rfl⟩
theorem calm_mark(m:Mark):Calm P (mark m):=fun w _=>.inl ⟨_,w,_,rfl⟩
theorem calm_holdsCells(a:Addr)(n:Nat):Calm P (Builtin.holdsCells a n):=by
 unfold Builtin.holdsCells
 refine Calm.bind (calm_shape _) fun x=>?_
 cases x<;>exact calm_pure _
theorem calm_mayShare(size sLen n:Nat)(base:Option Addr)(x:Value):Calm P (Builtin.mayShare size sLen n base x):=by
 unfold Builtin.mayShare
 repeat' first|exact calm_pure _|exact calm_holdsCells _ _|exact calm_frozen _|refine Calm.bind ?_ (fun _=>?_)|split|dsimp only
theorem pl_ite{α:Type}{Q:α→Prop}{c:Prop}[Decidable c]{a b:Sem α}(ha:PlainSem ob P Q a)(hb:PlainSem ob P Q b):PlainSem ob P Q (if c then a else b):=by
 split
 ·exact ha
 ·exact hb
end
end Go.Side
