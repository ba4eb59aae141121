/-
  Texts of Ytbjlijagheifgaa, merged.
-/
import Derived.Test.YtbjlijagheifgaaD15
set_option linter.unusedSimpArgs false
set_option linter.unusedVariables false
namespace Go.Side
section
open Go
variable {ob:Bool} {P:Program}
theorem pl_floatToFloat(s:FloatKind)(b:Nat)(d:FloatKind):Pl ob P (Conv.floatToFloat s b d):=by unfold Conv.floatToFloat;repeat' first|contradiction|(with_reducible first|exact pl_pure trivial|exact pl_stuck _|exact pl_unsup _|exact pl_panic _|exact pl_unsafeAdd _ _ _ _|assumption|exact hjp _|exact hjp2 _|apply pl_program|apply pl_choose|apply pl_load|apply pl_store|apply pl_new|apply pl_frozen|apply pl_getObj|apply pl_setObj|apply pl_typeInfo|apply pl_underlying|apply pl_zeroValue|apply pl_sizeOf|apply pl_isAgg|apply pl_elemOf|apply pl_loadCellsFrom|apply pl_loadCells|apply pl_storeCells|apply pl_loadVar|apply pl_storeVar|apply pl_newRow|apply pl_newVar|apply pl_part|apply pl_runtimePanic|apply pl_boundsPanic|apply pl_asIntOf|apply pl_asInt|apply pl_asBool|apply pl_asAgg|apply pl_asAddr|apply pl_sureAddr|apply pl_loadAt|apply pl_storeAt|apply pl_indexAt|apply pl_viewAt|apply pl_noView|apply pl_byteOf|apply pl_partAt|apply pl_fieldPlace|apply pl_fieldAt|apply pl_alloc|apply pl_box|apply pl_extract|apply pl_askRoom|apply pl_makeSlice|apply pl_buildSlice|apply pl_lenOf|apply pl_firstCells|apply pl_sliceBound|apply pl_sliceBounds|apply pl_slice|apply pl_sliceAt|apply pl_intArith|apply pl_intBits|apply pl_intDiv|apply pl_intCmp|apply pl_unary|apply pl_numberAt|apply pl_behindNumber|apply pl_asNumber|apply pl_twoPlaces|apply pl_addrSub|apply pl_addrCmp|apply pl_addrMod|apply pl_len|apply pl_movedNumber|apply pl_movedPointer|apply pl_shift|apply pl_floatArith|apply pl_floatCmp|apply pl_stringOp|apply pl_equalIn_int|apply pl_equalIn_bool|apply pl_forInL|apply pl_forInA|apply pl_equalIn_struct|apply pl_ite|refine Pl.b ?_ (fun _=>?_)|refine Pl.m ?_ (fun _=>trivial))|split|dsimp only
theorem pl_cArith(o:BinOp)(k:FloatKind)(x y:Nat):Pl ob P (Op.Complex.arith o k x y):=by unfold Op.Complex.arith;repeat' first|contradiction|(with_reducible first|exact pl_pure trivial|exact pl_stuck _|exact pl_unsup _|exact pl_panic _|exact pl_unsafeAdd _ _ _ _|assumption|exact hjp _|exact hjp2 _|apply pl_program|apply pl_choose|apply pl_load|apply pl_store|apply pl_new|apply pl_frozen|apply pl_getObj|apply pl_setObj|apply pl_typeInfo|apply pl_underlying|apply pl_zeroValue|apply pl_sizeOf|apply pl_isAgg|apply pl_elemOf|apply pl_loadCellsFrom|apply pl_loadCells|apply pl_storeCells|apply pl_loadVar|apply pl_storeVar|apply pl_newRow|apply pl_newVar|apply pl_part|apply pl_runtimePanic|apply pl_boundsPanic|apply pl_asIntOf|apply pl_asInt|apply pl_asBool|apply pl_asAgg|apply pl_asAddr|apply pl_sureAddr|apply pl_loadAt|apply pl_storeAt|apply pl_indexAt|apply pl_viewAt|apply pl_noView|apply pl_byteOf|apply pl_partAt|apply pl_fieldPlace|apply pl_fieldAt|apply pl_alloc|apply pl_box|apply pl_extract|apply pl_askRoom|apply pl_makeSlice|apply pl_buildSlice|apply pl_lenOf|apply pl_firstCells|apply pl_sliceBound|apply pl_sliceBounds|apply pl_slice|apply pl_sliceAt|apply pl_intArith|apply pl_intBits|apply pl_intDiv|apply pl_intCmp|apply pl_unary|apply pl_numberAt|apply pl_behindNumber|apply pl_asNumber|apply pl_twoPlaces|apply pl_addrSub|apply pl_addrCmp|apply pl_addrMod|apply pl_len|apply pl_movedNumber|apply pl_movedPointer|apply pl_shift|apply pl_floatArith|apply pl_floatCmp|apply pl_stringOp|apply pl_equalIn_int|apply pl_equalIn_bool|apply pl_forInL|apply pl_forInA|apply pl_equalIn_struct|apply pl_ite|apply pl_floatToFloat|refine Pl.b ?_ (fun _=>?_)|refine Pl.m ?_ (fun _=>trivial))|split|dsimp only
theorem pl_cCmp(o:BinOp)(k:FloatKind)(x y:Nat):Pl ob P (Op.Complex.cmp o k x y):=by unfold Op.Complex.cmp;repeat' first|contradiction|(with_reducible first|exact pl_pure trivial|exact pl_stuck _|exact pl_unsup _|exact pl_panic _|exact pl_unsafeAdd _ _ _ _|assumption|exact hjp _|exact hjp2 _|apply pl_program|apply pl_choose|apply pl_load|apply pl_store|apply pl_new|apply pl_frozen|apply pl_getObj|apply pl_setObj|apply pl_typeInfo|apply pl_underlying|apply pl_zeroValue|apply pl_sizeOf|apply pl_isAgg|apply pl_elemOf|apply pl_loadCellsFrom|apply pl_loadCells|apply pl_storeCells|apply pl_loadVar|apply pl_storeVar|apply pl_newRow|apply pl_newVar|apply pl_part|apply pl_runtimePanic|apply pl_boundsPanic|apply pl_asIntOf|apply pl_asInt|apply pl_asBool|apply pl_asAgg|apply pl_asAddr|apply pl_sureAddr|apply pl_loadAt|apply pl_storeAt|apply pl_indexAt|apply pl_viewAt|apply pl_noView|apply pl_byteOf|apply pl_partAt|apply pl_fieldPlace|apply pl_fieldAt|apply pl_alloc|apply pl_box|apply pl_extract|apply pl_askRoom|apply pl_makeSlice|apply pl_buildSlice|apply pl_lenOf|apply pl_firstCells|apply pl_sliceBound|apply pl_sliceBounds|apply pl_slice|apply pl_sliceAt|apply pl_intArith|apply pl_intBits|apply pl_intDiv|apply pl_intCmp|apply pl_unary|apply pl_numberAt|apply pl_behindNumber|apply pl_asNumber|apply pl_twoPlaces|apply pl_addrSub|apply pl_addrCmp|apply pl_addrMod|apply pl_len|apply pl_movedNumber|apply pl_movedPointer|apply pl_shift|apply pl_floatArith|apply pl_floatCmp|apply pl_stringOp|apply pl_equalIn_int|apply pl_equalIn_bool|apply pl_forInL|apply pl_forInA|apply pl_equalIn_struct|apply pl_ite|apply pl_floatToFloat|apply pl_cArith|refine Pl.b ?_ (fun _=>?_)|refine Pl.m ?_ (fun _=>trivial))|split|dsimp only
theorem pl_cConv(k:FloatKind)(x:Nat)(d:FloatKind):Pl ob P (Op.Complex.conv k x d):=by unfold Op.Complex.conv;repeat' first|contradiction|(with_reducible first|exact pl_pure trivial|exact pl_stuck _|exact pl_unsup _|exact pl_panic _|exact pl_unsafeAdd _ _ _ _|assumption|exact hjp _|exact hjp2 _|apply pl_program|apply pl_choose|apply pl_load|apply pl_store|apply pl_new|apply pl_frozen|apply pl_getObj|apply pl_setObj|apply pl_typeInfo|apply pl_underlying|apply pl_zeroValue|apply pl_sizeOf|apply pl_isAgg|apply pl_elemOf|apply pl_loadCellsFrom|apply pl_loadCells|apply pl_storeCells|apply pl_loadVar|apply pl_storeVar|apply pl_newRow|apply pl_newVar|apply pl_part|apply pl_runtimePanic|apply pl_boundsPanic|apply pl_asIntOf|apply pl_asInt|apply pl_asBool|apply pl_asAgg|apply pl_asAddr|apply pl_sureAddr|apply pl_loadAt|apply pl_storeAt|apply pl_indexAt|apply pl_viewAt|apply pl_noView|apply pl_byteOf|apply pl_partAt|apply pl_fieldPlace|apply pl_fieldAt|apply pl_alloc|apply pl_box|apply pl_extract|apply pl_askRoom|apply pl_makeSlice|apply pl_buildSlice|apply pl_lenOf|apply pl_firstCells|apply pl_sliceBound|apply pl_sliceBounds|apply pl_slice|apply pl_sliceAt|apply pl_intArith|apply pl_intBits|apply pl_intDiv|apply pl_intCmp|apply pl_unary|apply pl_numberAt|apply pl_behindNumber|apply pl_asNumber|apply pl_twoPlaces|apply pl_addrSub|apply pl_addrCmp|apply pl_addrMod|apply pl_len|apply pl_movedNumber|apply pl_movedPointer|apply pl_shift|apply pl_floatArith|apply pl_floatCmp|apply pl_stringOp|apply pl_equalIn_int|apply pl_equalIn_bool|apply pl_forInL|apply pl_forInA|apply pl_equalIn_struct|apply pl_ite|apply pl_floatToFloat|apply pl_cArith|apply pl_cCmp|refine Pl.b ?_ (fun _=>?_)|refine Pl.m ?_ (fun _=>trivial))|split|dsimp only
theorem pl_cAdd(x y:Nat):Pl ob P (Op.Complex.add x y):=pl_cArith _ _ _ _
theorem pl_cSub(x y:Nat):Pl ob P (Op.Complex.sub x y):=pl_cArith _ _ _ _
theorem pl_cMul(x y:Nat):Pl ob P (Op.Complex.mul x y):=pl_cArith _ _ _ _
theorem pl_cQuo(x y:Nat):Pl ob P (Op.Complex.quo x y):=pl_cArith _ _ _ _
theorem pl_product(a b c d:Nat):Pl ob P (Op.Complex.product a b c d):=by unfold Op.Complex.product;repeat' first|contradiction|(with_reducible first|exact pl_pure trivial|exact pl_stuck _|exact pl_unsup _|exact pl_panic _|exact pl_unsafeAdd _ _ _ _|assumption|exact hjp _|exact hjp2 _|apply pl_program|apply pl_choose|apply pl_load|apply pl_store|apply pl_new|apply pl_frozen|apply pl_getObj|apply pl_setObj|apply pl_typeInfo|apply pl_underlying|apply pl_zeroValue|apply pl_sizeOf|apply pl_isAgg|apply pl_elemOf|apply pl_loadCellsFrom|apply pl_loadCells|apply pl_storeCells|apply pl_loadVar|apply pl_storeVar|apply pl_newRow|apply pl_newVar|apply pl_part|apply pl_runtimePanic|apply pl_boundsPanic|apply pl_asIntOf|apply pl_asInt|apply pl_asBool|apply pl_asAgg|apply pl_asAddr|apply pl_sureAddr|apply pl_loadAt|apply pl_storeAt|apply pl_indexAt|apply pl_viewAt|apply pl_noView|apply pl_byteOf|apply pl_partAt|apply pl_fieldPlace|apply pl_fieldAt|apply pl_alloc|apply pl_box|apply pl_extract|apply pl_askRoom|apply pl_makeSlice|apply pl_buildSlice|apply pl_lenOf|apply pl_firstCells|apply pl_sliceBound|apply pl_sliceBounds|apply pl_slice|apply pl_sliceAt|apply pl_intArith|apply pl_intBits|apply pl_intDiv|apply pl_intCmp|apply pl_unary|apply pl_numberAt|apply pl_behindNumber|apply pl_asNumber|apply pl_twoPlaces|apply pl_addrSub|apply pl_addrCmp|apply pl_addrMod|apply pl_len|apply pl_movedNumber|apply pl_movedPointer|apply pl_shift|apply pl_floatArith|apply pl_floatCmp|apply pl_stringOp|apply pl_equalIn_int|apply pl_equalIn_bool|apply pl_forInL|apply pl_forInA|apply pl_equalIn_struct|apply pl_ite|apply pl_floatToFloat|apply pl_cArith|apply pl_cCmp|apply pl_cConv|apply pl_cAdd|apply pl_cSub|apply pl_cMul|apply pl_cQuo|refine Pl.b ?_ (fun _=>?_)|refine Pl.m ?_ (fun _=>trivial))|split|dsimp only
theorem pl_corrected(s a b c d:Nat):Pl ob P (Op.Complex.corrected s a b c d):=by unfold Op.Complex.corrected;repeat' first|contradiction|(with_reducible first|exact pl_pure trivial|exact pl_stuck _|exact pl_unsup _|exact pl_panic _|exact pl_unsafeAdd _ _ _ _|assumption|exact hjp _|exact hjp2 _|apply pl_program|apply pl_choose|apply pl_load|apply pl_store|apply pl_new|apply pl_frozen|apply pl_getObj|apply pl_setObj|apply pl_typeInfo|apply pl_underlying|apply pl_zeroValue|apply pl_sizeOf|apply pl_isAgg|apply pl_elemOf|apply pl_loadCellsFrom|apply pl_loadCells|apply pl_storeCells|apply pl_loadVar|apply pl_storeVar|apply pl_newRow|apply pl_newVar|apply pl_part|apply pl_runtimePanic|apply pl_boundsPanic|apply pl_asIntOf|apply pl_asInt|apply pl_asBool|apply pl_asAgg|apply pl_asAddr|apply pl_sureAddr|apply pl_loadAt|apply pl_storeAt|apply pl_indexAt|apply pl_viewAt|apply pl_noView|apply pl_byteOf|apply pl_partAt|apply pl_fieldPlace|apply pl_fieldAt|apply pl_alloc|apply pl_box|apply pl_extract|apply pl_askRoom|apply pl_makeSlice|apply pl_buildSlice|apply pl_lenOf|apply pl_firstCells|apply pl_sliceBound|apply pl_sliceBounds|apply pl_slice|apply pl_sliceAt|apply pl_intArith|apply pl_intBits|apply pl_intDiv|apply pl_intCmp|apply pl_unary|apply pl_numberAt|apply pl_behindNumber|apply pl_asNumber|apply pl_twoPlaces|apply pl_addrSub|apply pl_addrCmp|apply pl_addrMod|apply pl_len|apply pl_movedNumber|apply pl_movedPointer|apply pl_shift|apply pl_floatArith|apply pl_floatCmp|apply pl_stringOp|apply pl_equalIn_int|apply pl_equalIn_bool|apply pl_forInL|apply pl_forInA|apply pl_equalIn_struct|apply pl_ite|apply pl_floatToFloat|apply pl_cArith|apply pl_cCmp|apply pl_cConv|apply pl_cAdd|apply pl_cSub|apply pl_cMul|apply pl_cQuo|apply pl_product|refine Pl.b ?_ (fun _=>?_)|refine Pl.m ?_ (fun _=>trivial))|split|dsimp only
theorem pl_quotient(a b c d:Nat):Pl ob P (Op.Complex.quotient a b c d):=by
 unfold Op.Complex.quotient
 refine Pl.b (pl_cCmp _ _ _ _) fun r=>?_
 extract_lets jp
 have hjp:∀x,Pl ob P (jp x):=fun x=>by
  simp only[jp]
  repeat' first|contradiction|(with_reducible first|exact pl_pure trivial|exact pl_stuck _|exact pl_unsup _|exact pl_panic _|exact pl_unsafeAdd _ _ _ _|assumption|exact hjp _|exact hjp2 _|apply pl_program|apply pl_choose|apply pl_load|apply pl_store|apply pl_new|apply pl_frozen|apply pl_getObj|apply pl_setObj|apply pl_typeInfo|apply pl_underlying|apply pl_zeroValue|apply pl_sizeOf|apply pl_isAgg|apply pl_elemOf|apply pl_loadCellsFrom|apply pl_loadCells|apply pl_storeCells|apply pl_loadVar|apply pl_storeVar|apply pl_newRow|apply pl_newVar|apply pl_part|apply pl_runtimePanic|apply pl_boundsPanic|apply pl_asIntOf|apply pl_asInt|apply pl_asBool|apply pl_asAgg|apply pl_asAddr|apply pl_sureAddr|apply pl_loadAt|apply pl_storeAt|apply pl_indexAt|apply pl_viewAt|apply pl_noView|apply pl_byteOf|apply pl_partAt|apply pl_fieldPlace|apply pl_fieldAt|apply pl_alloc|apply pl_box|apply pl_extract|apply pl_askRoom|apply pl_makeSlice|apply pl_buildSlice|apply pl_lenOf|apply pl_firstCells|apply pl_sliceBound|apply pl_sliceBounds|apply pl_slice|apply pl_sliceAt|apply pl_intArith|apply pl_intBits|apply pl_intDiv|apply pl_intCmp|apply pl_unary|apply pl_numberAt|apply pl_behindNumber|apply pl_asNumber|apply pl_twoPlaces|apply pl_addrSub|apply pl_addrCmp|apply pl_addrMod|apply pl_len|apply pl_movedNumber|apply pl_movedPointer|apply pl_shift|apply pl_floatArith|apply pl_floatCmp|apply pl_stringOp|apply pl_equalIn_int|apply pl_equalIn_bool|apply pl_forInL|apply pl_forInA|apply pl_equalIn_struct|apply pl_ite|apply pl_floatToFloat|apply pl_cArith|apply pl_cCmp|apply pl_cConv|apply pl_cAdd|apply pl_cSub|apply pl_cMul|apply pl_cQuo|apply pl_product|apply pl_corrected|apply pl_quotient|refine Pl.b ?_ (fun _=>?_)|refine Pl.m ?_ (fun _=>trivial))|split|dsimp only
 clear_value jp
 repeat' first|contradiction|(with_reducible first|exact pl_pure trivial|exact pl_stuck _|exact pl_unsup _|exact pl_panic _|exact pl_unsafeAdd _ _ _ _|assumption|exact hjp _|exact hjp2 _|apply pl_program|apply pl_choose|apply pl_load|apply pl_store|apply pl_new|apply pl_frozen|apply pl_getObj|apply pl_setObj|apply pl_typeInfo|apply pl_underlying|apply pl_zeroValue|apply pl_sizeOf|apply pl_isAgg|apply pl_elemOf|apply pl_loadCellsFrom|apply pl_loadCells|apply pl_storeCells|apply pl_loadVar|apply pl_storeVar|apply pl_newRow|apply pl_newVar|apply pl_part|apply pl_runtimePanic|apply pl_boundsPanic|apply pl_asIntOf|apply pl_asInt|apply pl_asBool|apply pl_asAgg|apply pl_asAddr|apply pl_sureAddr|apply pl_loadAt|apply pl_storeAt|apply pl_indexAt|apply pl_viewAt|apply pl_noView|apply pl_byteOf|apply pl_partAt|apply pl_fieldPlace|apply pl_fieldAt|apply pl_alloc|apply pl_box|apply pl_extract|apply pl_askRoom|apply pl_makeSlice|apply pl_buildSlice|apply pl_lenOf|apply pl_firstCells|apply pl_sliceBound|apply pl_sliceBounds|apply pl_slice|apply pl_sliceAt|apply pl_intArith|apply pl_intBits|apply pl_intDiv|apply pl_intCmp|apply pl_unary|apply pl_numberAt|apply pl_behindNumber|apply pl_asNumber|apply pl_twoPlaces|apply pl_addrSub|apply pl_addrCmp|apply pl_addrMod|apply pl_len|apply pl_movedNumber|apply pl_movedPointer|apply pl_shift|apply pl_floatArith|apply pl_floatCmp|apply pl_stringOp|apply pl_equalIn_int|apply pl_equalIn_bool|apply pl_forInL|apply pl_forInA|apply pl_equalIn_struct|apply pl_ite|apply pl_floatToFloat|apply pl_cArith|apply pl_cCmp|apply pl_cConv|apply pl_cAdd|apply pl_cSub|apply pl_cMul|apply pl_cQuo|apply pl_product|apply pl_corrected|apply pl_quotient|refine Pl.b ?_ (fun _=>?_)|refine Pl.m ?_ (fun _=>trivial))|split|dsimp only
theorem pl_complexOp(o:BinOp)(k:FloatKind)(a b c d:Nat):Pl ob P (Op.complexOp o k a b c d):=by
 unfold Op.complexOp
 cases o<;>dsimp only
 case mul=>repeat' first|contradiction|(with_reducible first|exact pl_pure trivial|exact pl_stuck _|exact pl_unsup _|exact pl_panic _|exact pl_unsafeAdd _ _ _ _|assumption|exact hjp _|exact hjp2 _|apply pl_program|apply pl_choose|apply pl_load|apply pl_store|apply pl_new|apply pl_frozen|apply pl_getObj|apply pl_setObj|apply pl_typeInfo|apply pl_underlying|apply pl_zeroValue|apply pl_sizeOf|apply pl_isAgg|apply pl_elemOf|apply pl_loadCellsFrom|apply pl_loadCells|apply pl_storeCells|apply pl_loadVar|apply pl_storeVar|apply pl_newRow|apply pl_newVar|apply pl_part|apply pl_runtimePanic|apply pl_boundsPanic|apply pl_asIntOf|apply pl_asInt|apply pl_asBool|apply pl_asAgg|apply pl_asAddr|apply pl_sureAddr|apply pl_loadAt|apply pl_storeAt|apply pl_indexAt|apply pl_viewAt|apply pl_noView|apply pl_byteOf|apply pl_partAt|apply pl_fieldPlace|apply pl_fieldAt|apply pl_alloc|apply pl_box|apply pl_extract|apply pl_askRoom|apply pl_makeSlice|apply pl_buildSlice|apply pl_lenOf|apply pl_firstCells|apply pl_sliceBound|apply pl_sliceBounds|apply pl_slice|apply pl_sliceAt|apply pl_intArith|apply pl_intBits|apply pl_intDiv|apply pl_intCmp|apply pl_unary|apply pl_numberAt|apply pl_behindNumber|apply pl_asNumber|apply pl_twoPlaces|apply pl_addrSub|apply pl_addrCmp|apply pl_addrMod|apply pl_len|apply pl_movedNumber|apply pl_movedPointer|apply pl_shift|apply pl_floatArith|apply pl_floatCmp|apply pl_stringOp|apply pl_equalIn_int|apply pl_equalIn_bool|apply pl_forInL|apply pl_forInA|apply pl_equalIn_struct|apply pl_ite|apply pl_floatToFloat|apply pl_cArith|apply pl_cCmp|apply pl_cConv|apply pl_cAdd|apply pl_cSub|apply pl_cMul|apply pl_cQuo|apply pl_product|apply pl_corrected|apply pl_quotient|apply pl_complexOp|refine Pl.b ?_ (fun _=>?_)|refine Pl.m ?_ (fun _=>trivial))|split|dsimp only
 case quo=>repeat' first|contradiction|(with_reducible first|exact pl_pure trivial|exact pl_stuck _|exact pl_unsup _|exact pl_panic _|exact pl_unsafeAdd _ _ _ _|assumption|exact hjp _|exact hjp2 _|apply pl_program|apply pl_choose|apply pl_load|apply pl_store|apply pl_new|apply pl_frozen|apply pl_getObj|apply pl_setObj|apply pl_typeInfo|apply pl_underlying|apply pl_zeroValue|apply pl_sizeOf|apply pl_isAgg|apply pl_elemOf|apply pl_loadCellsFrom|apply pl_loadCells|apply pl_storeCells|apply pl_loadVar|apply pl_storeVar|apply pl_newRow|apply pl_newVar|apply pl_part|apply pl_runtimePanic|apply pl_boundsPanic|apply pl_asIntOf|apply pl_asInt|apply pl_asBool|apply pl_asAgg|apply pl_asAddr|apply pl_sureAddr|apply pl_loadAt|apply pl_storeAt|apply pl_indexAt|apply pl_viewAt|apply pl_noView|apply pl_byteOf|apply pl_partAt|apply pl_fieldPlace|apply pl_fieldAt|apply pl_alloc|apply pl_box|apply pl_extract|apply pl_askRoom|apply pl_makeSlice|apply pl_buildSlice|apply pl_lenOf|apply pl_firstCells|apply pl_sliceBound|apply pl_sliceBounds|apply pl_slice|apply pl_sliceAt|apply pl_intArith|apply pl_intBits|apply pl_intDiv|apply pl_intCmp|apply pl_unary|apply pl_numberAt|apply pl_behindNumber|apply pl_asNumber|apply pl_twoPlaces|apply pl_addrSub|apply pl_addrCmp|apply pl_addrMod|apply pl_len|apply pl_movedNumber|apply pl_movedPointer|apply pl_shift|apply pl_floatArith|apply pl_floatCmp|apply pl_stringOp|apply pl_equalIn_int|apply pl_equalIn_bool|apply pl_forInL|apply pl_forInA|apply pl_equalIn_struct|apply pl_ite|apply pl_floatToFloat|apply pl_cArith|apply pl_cCmp|apply pl_cConv|apply pl_cAdd|apply pl_cSub|apply pl_cMul|apply pl_cQuo|apply pl_product|apply pl_corrected|apply pl_quotient|apply pl_complexOp|refine Pl.b ?_ (fun _=>?_)|refine Pl.m ?_ (fun _=>trivial))|split|dsimp only
 all_goals repeat' first|contradiction|(with_reducible first|exact pl_pure trivial|exact pl_stuck _|exact pl_unsup _|exact pl_panic _|exact pl_unsafeAdd _ _ _ _|assumption|exact hjp _|exact hjp2 _|apply pl_program|apply pl_choose|apply pl_load|apply pl_store|apply pl_new|apply pl_frozen|apply pl_getObj|apply pl_setObj|apply pl_typeInfo|apply pl_underlying|apply pl_zeroValue|apply pl_sizeOf|apply pl_isAgg|apply pl_elemOf|apply pl_loadCellsFrom|apply pl_loadCells|apply pl_storeCells|apply pl_loadVar|apply pl_storeVar|apply pl_newRow|apply pl_newVar|apply pl_part|apply pl_runtimePanic|apply pl_boundsPanic|apply pl_asIntOf|apply pl_asInt|apply pl_asBool|apply pl_asAgg|apply pl_asAddr|apply pl_sureAddr|apply pl_loadAt|apply pl_storeAt|apply pl_indexAt|apply pl_viewAt|apply pl_noView|apply pl_byteOf|apply pl_partAt|apply pl_fieldPlace|apply pl_fieldAt|apply pl_alloc|apply pl_box|apply pl_extract|apply pl_askRoom|apply pl_makeSlice|apply pl_buildSlice|apply pl_lenOf|apply pl_firstCells|apply pl_sliceBound|apply pl_sliceBounds|apply pl_slice|apply pl_sliceAt|apply pl_intArith|apply pl_intBits|apply pl_intDiv|apply pl_intCmp|apply pl_unary|apply pl_numberAt|apply pl_behindNumber|apply pl_asNumber|apply pl_twoPlaces|apply pl_addrSub|apply pl_addrCmp|apply pl_addrMod|apply pl_len|apply pl_movedNumber|apply pl_movedPointer|apply pl_shift|apply pl_floatArith|apply pl_floatCmp|apply pl_stringOp|apply pl_equalIn_int|apply pl_equalIn_bool|apply pl_forInL|apply pl_forInA|apply pl_equalIn_struct|apply pl_ite|apply pl_floatToFloat|apply pl_cArith|apply pl_cCmp|apply pl_cConv|apply pl_cAdd|apply pl_cSub|apply pl_cMul|apply pl_cQuo|apply pl_product|apply pl_corrected|apply pl_quotient|apply pl_complexOp|refine Pl.b ?_ (fun _=>?_)|refine Pl.m ?_ (fun _=>trivial))|split|dsimp only
theorem plq_program:PlainSem ob P (fun p=>p=P) program:=.program (.pure rfl)
theorem pl_pick(c a b:Value):Pl ob P (do pure (.value (if←asBool c then a else b)):Sem Next):=by repeat' first|contradiction|(with_reducible first|exact pl_pure trivial|exact pl_stuck _|exact pl_unsup _|exact pl_panic _|exact pl_unsafeAdd _ _ _ _|assumption|exact hjp _|exact hjp2 _|apply pl_program|apply pl_choose|apply pl_load|apply pl_store|apply pl_new|apply pl_frozen|apply pl_getObj|apply pl_setObj|apply pl_typeInfo|apply pl_underlying|apply pl_zeroValue|apply pl_sizeOf|apply pl_isAgg|apply pl_elemOf|apply pl_loadCellsFrom|apply pl_loadCells|apply pl_storeCells|apply pl_loadVar|apply pl_storeVar|apply pl_newRow|apply pl_newVar|apply pl_part|apply pl_runtimePanic|apply pl_boundsPanic|apply pl_asIntOf|apply pl_asInt|apply pl_asBool|apply pl_asAgg|apply pl_asAddr|apply pl_sureAddr|apply pl_loadAt|apply pl_storeAt|apply pl_indexAt|apply pl_viewAt|apply pl_noView|apply pl_byteOf|apply pl_partAt|apply pl_fieldPlace|apply pl_fieldAt|apply pl_alloc|apply pl_box|apply pl_extract|apply pl_askRoom|apply pl_makeSlice|apply pl_buildSlice|apply pl_lenOf|apply pl_firstCells|apply pl_sliceBound|apply pl_sliceBounds|apply pl_slice|apply pl_sliceAt|apply pl_intArith|apply pl_intBits|apply pl_intDiv|apply pl_intCmp|apply pl_unary|apply pl_numberAt|apply pl_behindNumber|apply pl_asNumber|apply pl_twoPlaces|apply pl_addrSub|apply pl_addrCmp|apply pl_addrMod|apply pl_len|apply pl_movedNumber|apply pl_movedPointer|apply pl_shift|apply pl_floatArith|apply pl_floatCmp|apply pl_stringOp|apply pl_equalIn_int|apply pl_equalIn_bool|apply pl_forInL|apply pl_forInA|apply pl_equalIn_struct|apply pl_ite|apply pl_floatToFloat|apply pl_cArith|apply pl_cCmp|apply pl_cConv|apply pl_cAdd|apply pl_cSub|apply pl_cMul|apply pl_cQuo|apply pl_product|apply pl_corrected|apply pl_quotient|apply pl_complexOp|refine Pl.b ?_ (fun _=>?_)|refine Pl.m ?_ (fun _=>trivial))|split|dsimp only
theorem pl_intToInt(k:IntKind)(n:Int):Pl ob P (Conv.intToInt k n):=pl_pure trivial
theorem pl_floatToInt(s:FloatKind)(b:Nat)(k:IntKind):Pl ob P (Conv.floatToInt s b k):=by unfold Conv.floatToInt;repeat' first|contradiction|(with_reducible first|exact pl_pure trivial|exact pl_stuck _|exact pl_unsup _|exact pl_panic _|exact pl_unsafeAdd _ _ _ _|assumption|exact hjp _|exact hjp2 _|apply pl_program|apply pl_choose|apply pl_load|apply pl_store|apply pl_new|apply pl_frozen|apply pl_getObj|apply pl_setObj|apply pl_typeInfo|apply pl_underlying|apply pl_zeroValue|apply pl_sizeOf|apply pl_isAgg|apply pl_elemOf|apply pl_loadCellsFrom|apply pl_loadCells|apply pl_storeCells|apply pl_loadVar|apply pl_storeVar|apply pl_newRow|apply pl_newVar|apply pl_part|apply pl_runtimePanic|apply pl_boundsPanic|apply pl_asIntOf|apply pl_asInt|apply pl_asBool|apply pl_asAgg|apply pl_asAddr|apply pl_sureAddr|apply pl_loadAt|apply pl_storeAt|apply pl_indexAt|apply pl_viewAt|apply pl_noView|apply pl_byteOf|apply pl_partAt|apply pl_fieldPlace|apply pl_fieldAt|apply pl_alloc|apply pl_box|apply pl_extract|apply pl_askRoom|apply pl_makeSlice|apply pl_buildSlice|apply pl_lenOf|apply pl_firstCells|apply pl_sliceBound|apply pl_sliceBounds|apply pl_slice|apply pl_sliceAt|apply pl_intArith|apply pl_intBits|apply pl_intDiv|apply pl_intCmp|apply pl_unary|apply pl_numberAt|apply pl_behindNumber|apply pl_asNumber|apply pl_twoPlaces|apply pl_addrSub|apply pl_addrCmp|apply pl_addrMod|apply pl_len|apply pl_movedNumber|apply pl_movedPointer|apply pl_shift|apply pl_floatArith|apply pl_floatCmp|apply pl_stringOp|apply pl_equalIn_int|apply pl_equalIn_bool|apply pl_forInL|apply pl_forInA|apply pl_equalIn_struct|apply pl_ite|apply pl_floatToFloat|apply pl_cArith|apply pl_cCmp|apply pl_cConv|apply pl_cAdd|apply pl_cSub|apply pl_cMul|apply pl_cQuo|apply pl_product|apply pl_corrected|apply pl_quotient|apply pl_complexOp|apply pl_pick|apply pl_intToInt|refine Pl.b ?_ (fun _=>?_)|refine Pl.m ?_ (fun _=>trivial))|split|dsimp only
theorem pl_convert{s d:TypeId}{k k':IntKind}(hs:P.underlying s=some (.int k))(hd:P.underlying d=some (.int k'))(x:Value):Pl ob P (convert s d x):=by
 unfold convert
 refine PlainSem.bind (plq_underlying s) fun a ha=>PlainSem.bind (plq_underlying d) fun b hb=>?_
 rw[hs] at ha;rw[hd] at hb
 obtain rfl:=Option.some.inj ha
 obtain rfl:=Option.some.inj hb
 cases x<;>(try dsimp only)<;>first|exact pl_intToInt _ _|exact pl_unsup _|exact pl_floatToInt _ _ _|(split<;>first|contradiction|exact pl_intToInt _ _|exact pl_unsup _|exact pl_floatToInt _ _ _|(rename_i h;cases h)|skip)
theorem pl_samePointer(a:Option Addr):Pl ob P (samePointer a none):=by cases a<;>exact pl_pure trivial
def NilV(y:Value):Prop:=y= .pointer none∨y= .slice none 0 0
theorem pl_equalIn_slice(t:TypeId)(n:Nat)(x:Value):Pl ob P (Op.equalIn n t x (.slice none 0 0)):=by
 cases n with
 |zero=>exact pl_unsup _
 |succ n=>
  unfold Op.equalIn
  refine Pl.b (pl_underlying t) fun d=>?_
  split<;>first
   |exact pl_pure trivial
   |exact pl_stuck _
   |exact pl_unsup _
   |(rename_i h;cases h)
   |skip
  all_goals repeat' first|contradiction|(with_reducible first|exact pl_pure trivial|exact pl_stuck _|exact pl_unsup _|exact pl_panic _|exact pl_unsafeAdd _ _ _ _|assumption|exact hjp _|exact hjp2 _|apply pl_program|apply pl_choose|apply pl_load|apply pl_store|apply pl_new|apply pl_frozen|apply pl_getObj|apply pl_setObj|apply pl_typeInfo|apply pl_underlying|apply pl_zeroValue|apply pl_sizeOf|apply pl_isAgg|apply pl_elemOf|apply pl_loadCellsFrom|apply pl_loadCells|apply pl_storeCells|apply pl_loadVar|apply pl_storeVar|apply pl_newRow|apply pl_newVar|apply pl_part|apply pl_runtimePanic|apply pl_boundsPanic|apply pl_asIntOf|apply pl_asInt|apply pl_asBool|apply pl_asAgg|apply pl_asAddr|apply pl_sureAddr|apply pl_loadAt|apply pl_storeAt|apply pl_indexAt|apply pl_viewAt|apply pl_noView|apply pl_byteOf|apply pl_partAt|apply pl_fieldPlace|apply pl_fieldAt|apply pl_alloc|apply pl_box|apply pl_extract|apply pl_askRoom|apply pl_makeSlice|apply pl_buildSlice|apply pl_lenOf|apply pl_firstCells|apply pl_sliceBound|apply pl_sliceBounds|apply pl_slice|apply pl_sliceAt|apply pl_intArith|apply pl_intBits|apply pl_intDiv|apply pl_intCmp|apply pl_unary|apply pl_numberAt|apply pl_behindNumber|apply pl_asNumber|apply pl_twoPlaces|apply pl_addrSub|apply pl_addrCmp|apply pl_addrMod|apply pl_len|apply pl_movedNumber|apply pl_movedPointer|apply pl_shift|apply pl_floatArith|apply pl_floatCmp|apply pl_stringOp|apply pl_equalIn_int|apply pl_equalIn_bool|apply pl_forInL|apply pl_forInA|apply pl_equalIn_struct|apply pl_ite|apply pl_floatToFloat|apply pl_cArith|apply pl_cCmp|apply pl_cConv|apply pl_cAdd|apply pl_cSub|apply pl_cMul|apply pl_cQuo|apply pl_product|apply pl_corrected|apply pl_quotient|apply pl_complexOp|apply pl_pick|apply pl_intToInt|apply pl_floatToInt|apply pl_convert|apply pl_samePointer|apply pl_equalIn_slice|refine Pl.b ?_ (fun _=>?_)|refine Pl.m ?_ (fun _=>trivial))|split|dsimp only
theorem pl_equalIn_nil(t:TypeId)(n:Nat)(x:Value):Pl ob P (Op.equalIn n t x (.pointer none)):=by
 cases n with
 |zero=>exact pl_unsup _
 |succ n=>
  unfold Op.equalIn
  refine Pl.b (pl_underlying t) fun d=>?_
  split<;>first
   |exact pl_pure trivial
   |exact pl_stuck _
   |exact pl_unsup _
   |(rename_i h;cases h)
   |skip
  all_goals repeat' first|contradiction|(with_reducible first|exact pl_pure trivial|exact pl_stuck _|exact pl_unsup _|exact pl_panic _|exact pl_unsafeAdd _ _ _ _|assumption|exact hjp _|exact hjp2 _|apply pl_program|apply pl_choose|apply pl_load|apply pl_store|apply pl_new|apply pl_frozen|apply pl_getObj|apply pl_setObj|apply pl_typeInfo|apply pl_underlying|apply pl_zeroValue|apply pl_sizeOf|apply pl_isAgg|apply pl_elemOf|apply pl_loadCellsFrom|apply pl_loadCells|apply pl_storeCells|apply pl_loadVar|apply pl_storeVar|apply pl_newRow|apply pl_newVar|apply pl_part|apply pl_runtimePanic|apply pl_boundsPanic|apply pl_asIntOf|apply pl_asInt|apply pl_asBool|apply pl_asAgg|apply pl_asAddr|apply pl_sureAddr|apply pl_loadAt|apply pl_storeAt|apply pl_indexAt|apply pl_viewAt|apply pl_noView|apply pl_byteOf|apply pl_partAt|apply pl_fieldPlace|apply pl_fieldAt|apply pl_alloc|apply pl_box|apply pl_extract|apply pl_askRoom|apply pl_makeSlice|apply pl_buildSlice|apply pl_lenOf|apply pl_firstCells|apply pl_sliceBound|apply pl_sliceBounds|apply pl_slice|apply pl_sliceAt|apply pl_intArith|apply pl_intBits|apply pl_intDiv|apply pl_intCmp|apply pl_unary|apply pl_numberAt|apply pl_behindNumber|apply pl_asNumber|apply pl_twoPlaces|apply pl_addrSub|apply pl_addrCmp|apply pl_addrMod|apply pl_len|apply pl_movedNumber|apply pl_movedPointer|apply pl_shift|apply pl_floatArith|apply pl_floatCmp|apply pl_stringOp|apply pl_equalIn_int|apply pl_equalIn_bool|apply pl_forInL|apply pl_forInA|apply pl_equalIn_struct|apply pl_ite|apply pl_floatToFloat|apply pl_cArith|apply pl_cCmp|apply pl_cConv|apply pl_cAdd|apply pl_cSub|apply pl_cMul|apply pl_cQuo|apply pl_product|apply pl_corrected|apply pl_quotient|apply pl_complexOp|apply pl_pick|apply pl_intToInt|apply pl_floatToInt|apply pl_convert|apply pl_samePointer|apply pl_equalIn_slice|apply pl_equalIn_nil|refine Pl.b ?_ (fun _=>?_)|refine Pl.m ?_ (fun _=>trivial))|split|dsimp only
def eqPlain(P:Program)(t:TypeId):Bool:=
 (match P.underlying t with
 |some (.int _)|some .bool=>true
 |some (.struct fs)=>fs.all fun f=>match P.underlying f.type with|some (.int _)|some .bool=>true|_=>false
 |_=>false)&& !P.eqGuardType P.depth t
theorem pl_equal{t:TypeId}(h:eqPlain P t=true)(x y:Value):Pl ob P (Op.equal t x y):=by
 unfold eqPlain at h
 simp only[Bool.and_eq_true] at h
 replace h:=h.1
 unfold Op.equal
 split at h
 ·rename_i k e;exact pl_equalIn_int e _ _ _
 ·rename_i e;exact pl_equalIn_bool e _ _ _
 ·rename_i fs e
  refine pl_equalIn_struct e (fun f hf=>?_) _ _ _
  rw[Array.all_eq_true'] at h
  have:=h f hf
  split at this
  ·rename_i k e';exact .inl ⟨k,e'⟩
  ·rename_i e';exact .inr e'
  ·cases this
 ·cases h
theorem pl_eqGuard(op:BinOp)(t:TypeId)(x y:Operand)(a b:Value)(h:(op= .eql∨op= .neq)→(P.eqGuardType P.depth t=false∧∀ms,P.underlying t≠some (.interface ms))∨NilV b):Pl ob P (eqGuard op t x y a b):=by
 by_cases ho:¬(op= .eql∨op= .neq)
 ·unfold eqGuard
  cases op<;>first|exact pl_pure trivial|exact absurd (.inl rfl) ho|exact absurd (.inr rfl) ho
 replace h:=h (Classical.not_not.1 ho)
 have hin:(P.eqGuardType P.depth t=false∧∀ms,P.underlying t≠some (.interface ms))→Pl ob P (Op.eqGuardIn Op.maxDepth t .nilIface .nilIface):=fun h=>by
  show Pl ob P (Op.eqGuardIn (9999+1) t .nilIface .nilIface)
  unfold Op.eqGuardIn
  refine PlainSem.bind (plq_underlying t) fun d hd=>?_
  split
  ·exact absurd hd (h.2 _)
  all_goals first|exact pl_pure trivial|contradiction
 unfold eqGuard
 split
 any_goals exact pl_pure trivial
 all_goals split
 any_goals exact pl_pure trivial
 all_goals cases a
 any_goals exact pl_pure trivial
 all_goals cases b
 any_goals exact pl_pure trivial
 all_goals rcases h with h|h|h
 any_goals contradiction
 all_goals first
  |exact pl_ite (pl_pure trivial) (Pl.b (hin h) fun r=>pl_ite (pl_unsup _) (pl_pure trivial))
  |(
    refine PlainSem.bind plq_program fun p hp=>PlainSem.bind plq_program fun p' hp'=>?_
    subst hp;subst hp'
    rw[h.1]
    exact pl_pure trivial)
def isNilConst:Operand→Bool
 | .const (.pointer none)=>true
 | .const (.slice none 0 0)=>true
 |_=>false
def binPlain(P:Program)(op:BinOp)(t:TypeId)(y:Operand):Bool:=
 match op with
 | .eql| .neq=>eqPlain P t||isNilConst y
 |_=>true
theorem pl_binOp{op:BinOp}{t:TypeId}(x y:Value)(h:(op= .eql∨op= .neq)→eqPlain P t=true∨NilV y):Pl ob P (binOp op t x y):=by
 have he:(op= .eql∨op= .neq)→Pl ob P (Op.equal t x y):=fun e=>by
  rcases h e with h|rfl|rfl
  ·exact pl_equal h x y
  ·exact pl_equalIn_nil _ _ _
  ·exact pl_equalIn_slice _ _ _
 unfold binOp
 split
 any_goals exact pl_shift _ _ _ _ _
 any_goals exact pl_unsup _
 any_goals exact pl_stuck _
 any_goals exact pl_stringOp _ _ _
 any_goals exact pl_movedNumber _ _ _
 any_goals exact Pl.b (he (.inl rfl)) fun _=>pl_pure trivial
 any_goals exact Pl.b (he (.inr rfl)) fun _=>pl_pure trivial
 any_goals exact Pl.b (pl_behindNumber _) fun _=>Pl.b (pl_behindNumber _) fun _=>pl_addrSub _ _ _
 any_goals exact Pl.b (pl_behindNumber _) fun _=>Pl.b (pl_behindNumber _) fun _=>pl_addrCmp _ _ _
 any_goals exact Pl.b (pl_behindNumber _) fun _=>pl_addrMod _ _ _
 any_goals exact Pl.b (pl_underlying _) fun d=>pl_ite (pl_movedPointer _ _ _) (pl_movedNumber _ _ _)
 all_goals split
 any_goals exact pl_stuck _
 any_goals exact pl_complexOp _ _ _ _ _ _
 all_goals(try split)
 any_goals exact pl_intArith _ _ _ _
 any_goals exact pl_intDiv _ _ _ _
 any_goals exact pl_intBits _ _ _ _
 any_goals exact pl_intCmp _ _ _
 any_goals exact pl_floatArith _ _ _ _
 any_goals exact pl_floatCmp _ _ _ _
theorem pl_mapMA{α β:Type}(f:α→Sem β)(hf:∀a,Pl ob P (f a))(l:Array α):Pl ob P (l.mapM f):=by
 rw[Array.mapM_eq_mapM_toList]
 refine Pl.m ?_ fun _=>trivial
 induction l.toList with
 |nil=>exact pl_pure trivial
 |cons a t ih=>
  rw[List.mapM_cons]
  exact Pl.b (hf a) fun _=>Pl.b ih fun _=>pl_pure trivial
theorem pl_build(t:TypeId)(ps:Array (Nat×Value)):Pl ob P (Instr.build t ps):=by
 unfold Instr.build
 refine Pl.b (pl_zeroValue _) fun z=>Pl.b (pl_underlying _) fun d=>?_
 split
 ·refine Pl.b (pl_mapMA _ (fun f=>Pl.b (pl_sizeOf _) fun _=>pl_pure trivial) _) fun places=>?_
  split
  ·exact pl_pure trivial
  ·exact pl_stuck _
 ·refine Pl.b (pl_sizeOf _) fun s=>?_
  split
  ·exact pl_pure trivial
  ·exact pl_stuck _
 ·exact pl_stuck _
theorem pl_append{ts:Array TypeId}(t:TypeId)(args:Array Value)(hz:∀x,ts[1]?=some x→∀k,P.underlying x≠some (.int k)):Pl ob P (Builtin.append_ ts t args):=by
 have hdoom:∀(size sLen n:Nat) (base:Option Addr) (x:Value),Pl ob P (do
   if !(←Builtin.mayShare size sLen n base x) then mark .noRoom
   unsupported (.resourceLimit "append: a slice or a string whose bytes no memory bears"):Sem Unit):=by
  intro size sLen n base x
  refine .doomed (Doom.bind (calm_mayShare _ _ _ _ _) fun b=>?_)
  have hd:Doom P (unsupported (.resourceLimit "append: a slice or a string whose bytes no memory bears"):Sem Unit):=doom_unsup _
  cases b
  ·exact Doom.bind (calm_mark _) fun _=>hd
  ·exact hd
 unfold Builtin.append_
 split
 ·rename_i sType s x e
  refine Pl.b (pl_underlying _) fun d=>?_
  split
  ·split
   ·rename_i elem _ base sLen sCap
    refine Pl.b (pl_sizeOf _) fun size=>?_
    extract_lets jU jpZ
    have hz1:Pl ob P (jpZ false):=by
     simp only[jpZ]
     rw[if_neg (by simp)]
     refine Pl.b (pl_lenOf _) fun n=>?_
     have hap:Pl ob P (if(!false)=true then Builtin.firstCells size n x else if n*size=0 then pure #[] else do pure (Builtin.zeroCells (←zeroValue elem).cells n)):=by
      rw[if_pos (by rfl)]
      exact pl_firstCells _ _ _
     refine pl_ite ?_ ?_
     ·refine Pl.b hap fun new=>?_
      split
      ·exact Pl.b (pl_storeCells _ _ _) fun _=>pl_pure trivial
      ·exact pl_pure trivial
     ·refine Pl.b (pl_typeInfo _) fun ti=>pl_ite (Pl.b (pl_runtimePanic _) fun _=>?_) ?_
      all_goals
       refine Pl.b (pl_typeInfo _) fun ti2=>pl_ite (Pl.b (by rw[if_neg (by simp)];exact hdoom _ _ _ _ _) fun _=>?_) ?_
       all_goals exact Pl.b (pl_choose _) fun nc=>Pl.b (pl_typeInfo _) fun ti3=>Pl.b (pl_askRoom _) fun _=>Pl.b (pl_firstCells _ _ _) fun old=>Pl.b hap fun new=>Pl.b (pl_zeroValue _) fun z=>Pl.b (pl_newRow _ _) fun _=>pl_pure trivial
    clear_value jpZ
    split
    ·rename_i xType hx
     refine PlainSem.bind (plq_underlying xType) fun d hd=>?_
     refine PlainSem.bind (Q:=fun b=>b=false) (.pure ?_) fun z hz'=>by subst hz';exact hz1
     split
     ·rename_i k;exact absurd hd (hz _ hx k)
     ·rfl
    ·exact hz1
   ·exact pl_stuck _
  ·exact pl_stuck _
 ·exact pl_stuck _
end
section
open Go
variable {ob:Bool} {P:Program}
theorem pl_makeMap(t:TypeId):Pl ob P (Instr.makeMap t none):=by
 unfold Instr.makeMap
 exact Pl.b (pl_new _) fun _=>pl_pure trivial
theorem pl_checkKey_int{t:TypeId}{k:IntKind}(h:P.underlying t=some (.int k))(b:Bool)(n:Nat)(v:Value):Pl ob P (Instr.checkKey b n t v):=by
 cases n with
 |zero=>exact pl_unsup _
 |succ n=>
  unfold Instr.checkKey
  refine PlainSem.bind (plq_underlying t) fun d hd=>?_
  rw[h] at hd
  obtain rfl:=Option.some.inj hd
  exact pl_pure trivial
theorem pl_findAsking_int{t:TypeId}{k:IntKind}(h:P.underlying t=some (.int k))(v:Value):∀(es:List MapEntry) (i:Nat),Pl ob P (Instr.findAsking t v es i)
 |[],_=>pl_pure trivial
 |e::es,i=>by
  unfold Instr.findAsking
  refine Pl.b (pl_equalIn_int h _ _ _) fun b=>?_
  split
  ·exact pl_pure trivial
  ·exact pl_findAsking_int h v es _
theorem pl_findKey_int{t:TypeId}{k:IntKind}(h:P.underlying t=some (.int k))(v:Value)(es:List MapEntry):Pl ob P (Instr.findKey t v es):=by
 unfold Instr.findKey
 refine Pl.b (pl_underlying _) fun d=>?_
 split
 ·exact pl_pure trivial
 ·exact pl_findAsking_int h v es _
def intKeys(P:Program)(t:TypeId):Bool:=match P.underlying t with
 |some (.map k _)=>(match P.underlying k with|some (.int _)=>true|_=>false)
 |_=>false
theorem intKeys_spec{t k e:TypeId}(h:intKeys P t=true)(hk:P.underlying t=some (.map k e)):∃i,P.underlying k=some (.int i):=by
 unfold intKeys at h
 rw[hk] at h
 simp only at h
 split at h
 ·exact⟨_,by assumption⟩
 ·cases h
theorem pl_lookup{t:TypeId}(h:intKeys P t=true)(x i:Value)(b:Bool):Pl ob P (Instr.lookup t x i b):=by
 unfold Instr.lookup
 refine PlainSem.bind (plq_underlying t) fun d hd=>?_
 split
 ·rename_i k e
  obtain⟨kk,hk⟩:=intKeys_spec h hd
  extract_lets jq jp
  have hjq:∀x:Value×Bool,Pl ob P (jq x):=fun x=>pl_pure trivial
  have hjp:∀es:Array MapEntry,Pl ob P (jp es):=fun es=>by
   simp only[jp]
   refine Pl.b (pl_checkKey_int hk _ _ _) fun _=>Pl.b (pl_findKey_int hk _ _) fun r=>?_
   split
   ·exact Pl.b (pl_pure trivial) fun _=>hjq _
   ·exact Pl.b (pl_zeroValue _) fun _=>Pl.b (pl_pure trivial) fun _=>hjq _
  clear_value jp jq
  split
  ·exact Pl.b (pl_pure trivial) fun _=>hjp _
  ·refine Pl.b (pl_getObj _) fun o=>?_
   split
   ·exact Pl.b (pl_pure trivial) fun _=>hjp _
   ·exact Pl.b (pl_stuck _) fun _=>hjp _
  ·exact Pl.b (pl_stuck _) fun _=>hjp _
 ·exact pl_stuck _
theorem pl_keyThatStays(a b:Value):Pl ob P (Instr.keyThatStays a b):=by
 unfold Instr.keyThatStays
 split
 ·exact pl_pure trivial
 ·exact Pl.b (pl_choose _) fun _=>pl_pure trivial
theorem pl_mapUpdate{t:TypeId}(h:intKeys P t=true)(m key v:Value):Pl true P (Instr.mapUpdate t m key v):=by
 unfold Instr.mapUpdate
 refine PlainSem.bind (plq_underlying t) fun d hd=>?_
 split
 ·rename_i k e
  obtain⟨kk,hk⟩:=intKeys_spec h hd
  split
  ·exact pl_runtimePanic _
  ·refine Pl.b (pl_getObj _) fun o=>?_
   split
   ·refine Pl.b (pl_checkKey_int hk _ _ _) fun _=>Pl.b (pl_findKey_int hk _ _) fun r=>?_
    split
    ·exact Pl.b (pl_keyThatStays _ _) fun _=>pl_setObj _ _
    ·exact pl_setObj _ _
   ·exact pl_stuck _
  ·exact pl_stuck _
 ·exact pl_stuck _
end
end Go.Side
