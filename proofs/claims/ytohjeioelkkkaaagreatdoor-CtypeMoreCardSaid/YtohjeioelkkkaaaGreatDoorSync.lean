/- Helper lemmas towards this seat's statements: a contract, proved for every input within its own premise, of functions of the program. -/
import Derived.Test.YtohjeioelkkkaaaGreatDoorBase
namespace Go.Proofs.YtohjeioelkkkaaaGreatDoor
open Go Go.Vx
set_option linter.unusedSimpArgs false
set_option linter.unusedVariables false
set_option maxRecDepth 100000
/-! sync.Once and the lock, run in place. -/
def atLoadU32W : WP := atLoad .u32
def atStoreU32W : WP := atStore .u32
def atCasI32W : WP := atCas .i32
def atAddI32W : WP := atAdd .i32
def raceDisableW : WP := mark0
def raceEnableW : WP := mark0
def raceAcquireW : WP := mark1
def raceReleaseMergeW : WP := mark1
theorem atLoadU32_ok : NWOk Tryz.prog 62 atLoadU32W := atLoad_ok Tryz.func62 (by kernel_rfl) (by kernel_rfl) (by kernel_rfl) .u32 (by kernel_rfl)
theorem atStoreU32_ok : NWOk Tryz.prog 73 atStoreU32W := atStore_ok Tryz.func73 (by kernel_rfl) (by kernel_rfl) (by kernel_rfl) .u32 (by kernel_rfl)
theorem atCasI32_ok : NWOk Tryz.prog 81 atCasI32W := atCas_ok Tryz.func81 (by kernel_rfl) (by kernel_rfl) (by kernel_rfl) .i32 (by kernel_rfl)
theorem atAddI32_ok : NWOk Tryz.prog 86 atAddI32W := atAdd_ok Tryz.func86 (by kernel_rfl) (by kernel_rfl) (by kernel_rfl) .i32 (by kernel_rfl)
theorem raceDisable_ok : NWOk Tryz.prog 80 raceDisableW := mark0_ok Tryz.func80 (by kernel_rfl) (by kernel_rfl) (by kernel_rfl) .disable (by kernel_rfl)
theorem raceEnable_ok : NWOk Tryz.prog 82 raceEnableW := mark0_ok Tryz.func82 (by kernel_rfl) (by kernel_rfl) (by kernel_rfl) .enable (by kernel_rfl)
theorem raceAcquire_ok : NWOk Tryz.prog 83 raceAcquireW := mark1_ok Tryz.func83 (by kernel_rfl) (by kernel_rfl) (by kernel_rfl) .acquire (by kernel_rfl)
theorem raceReleaseMerge_ok : NWOk Tryz.prog 85 raceReleaseMergeW := mark1_ok Tryz.func85 (by kernel_rfl) (by kernel_rfl) (by kernel_rfl) .releaseMerge (by kernel_rfl)
def b32T : TF := { doms := [.bool], cods := [.int .u32], pre := fun _ => True, fn := fun x => (if x.1 = true then 1 else 0, ()) }
theorem b32_ok : TFOk Tryz.prog 74 b32T := by
  refine tf_by (tbl := []) fol tblNil Tryz.func74 rfl rfl rfl ?_
  rintro ⟨(b : Bool), _⟩ hpre
  simp -implicitDefEqProofs only [b32T, Tryz.f74, atLoad, atStore, atCas, atAdd, mark0, mark1, ptr1, cellK, intK, copyx, copyO, nilArgs, nilcmp, nilcmp2, ofZero_row, ofZero_list, ofZero_int, ofZero_bool, ofZero_string, ofZero_slice, ofZero_pointer, ofZero_func, ofZero_iface, ofZero_map, get_setS, setS_length, nilRow_length, get_nilRow, cell_nilRow, cell_setS1, cell_setS2, below_nilRow, below_setS1, below_setS2, leS_same, forget_nilRow, forget_setS, splx, convU, convB, cq_bd, cq_nil0, cq_osub, x_den0, x_den1, x_den2, x_den3, x_den4, x_den5, x_den6, x_skip, x_label, x_ret, x_exit, x_seq, x_block, x_cond, x_cnd1, x_cnd2, x_cnd3, x_region, x_draw, x_sq0, x_sq1, x_sq2, x_sqD, x_sqG1, x_sqG2, x_sqG3, x_sqG4, x_sqG5, x_sqG6, x_sqB1, x_sqB2, x_sqE, x_fold, x_put1, x_put0, x_ef1, x_ef2, x_ef3, x_ef4, x_ef5, x_ef6, x_ef7, x_ef8, x_ef9, callIx, callIf, evM, mkMapq, mkMap1, keyD, lookq, lookq1, lookq2, lookV, sameD, keySV, zeroDV, mapx, mapx1, mapx2, l_mp, SV.mp.injEq, Blk.mp.injEq, callEx, callEt, callEo, callE2, wpE, frameK, frameK2, inlW, bodyOf, InlR, tupS, undefs, x_ink1, x_ink2, callEf, callE, eArgs, eCons, eConsB, boxDt, setBx, EF.tf, bxs, eStart, eSlots, eH, goneN, boxE, boxesE, RetE, x_fie1, x_fie2, List.contains_nil, storex, castL_self, appendx, appendT, appendS, appendO, appendN, appendF, appendX, appendY, appendZ, srcq, elemSV, bytesD, nexts, nextx, forget, forgetL, forgetB, forgetH, spl, isCell, List.all_cons, List.all_nil, Option.some.injEq, makeq, makeE, makeT, zeroD, bytesTI, buildSq, buildE, buildB, partsD, tiSz, buildT, fillS, okFlat, rangeq, bytesQ, textQ, adopt, adoptOk, getA, setA, getC, setC, Nat.reduceDiv, Nat.reduceMod, List.replicate_zero, Nat.not_lt_zero, x_dr0, x_dr1, x_dr2, x_drD, x_drG1, x_drG2, x_drG3, x_drG4, x_drG5, x_drG6, x_drB1, x_fin1, x_fin2, x_fio1, x_fio2, x_own1, x_own2, RetOwn, ownVC, x_lk1, x_lk2, x_lk3, x_un0, x_un1, x_un2, x_un3, x_wr1, x_nv2, x_nv3, l_refl, l_any, l_int, l_bool, l_kb, l_kk, l_str, l_sl, l_nils, l_pp, l_ptr, l_osl, l_slf, l_ag, l_sls, l_agg, wrote, List.filterMap_cons_some, List.filterMap_cons_none, List.filterMap_cons, List.filterMap_nil, havoc, setSs, setBs, atHead, Vx.Sub, leS, leH, leB, below, below.belowL, belowB, belowH, SV.int.injEq, SV.bool.injEq, SV.kb.injEq, SV.str.injEq, SV.sl.injEq, SV.ptr.injEq, SV.pp.injEq, SV.agg.injEq, SV.osl.injEq, Blk.own.injEq, Blk.iter.injEq, heq_eq_eq, eq_self, List.cons.injEq, evq, evS, Vx.get, setO, setS, dstAt, startS, undefs, ofArgs, ofDV, ofD, one, Ty.isAgg, Ty.size, boxq, flat, allocq, allocA, fieldAddrq, fieldq, tkOf, sizeP, loadq, getB, setB, binq, intBin, strBin, boolBin, pickq, Vx.asB, ofConst, ofCell, nilq, unq, convq, sliceq, slice3q, strCut, slCut, makeFuncq, indexAddrq, indexq, extractq, ifaceq, builtinq, callfq, callq, tlook, toArgs, toDV, toD, oneOf, Vx.both, toInt_self, toSl_self, toSl_slf, toSl_nils, toSl_osl, toSlB_self, arrD_self, toRef_self, toRef_ptr, boxD, no1_self, no2_self, clo1_fn, clo1_f1, clo2_fn, clo2_f2, cloA1_fn, cloA1_f1, cloA2_fn, cloA2_f2, cloT1_self, cloT2_self, mk1, mk2, callT, callO, ownQ, lent, scalL, Ty.scal, toAg_self, glS, glTyp, TF.ob, Bool.and_true, Bool.and_false, Bool.true_and, Bool.false_and, List.take_length, Option.isSome_some, List.getD_cons_zero, Vx.toBool, Vx.toNil, Vx.toStr, Vx.toInt, eqCells, subP, TK.isAgg, quietPre, opQuiet, opQuiet.onEmpty, quietTF, quietEf, cloSlot, Bool.true_or, Bool.or_true, cq_noVal, cq_fn, cq_f1, cq_f2, cq_any, cq_int, cq_bool, cq_kb, cq_str, cq_sl, cq_nils, cq_osl, cq_mp, cq_slf, cq_ag, cq_pp, cq_ptr, cq_eptr, cq_nilp, cq_agg, cq_tup, cq_nilf, cq_ifc, cq_nili, cq_raw, litSlot, Option.toList, List.contains_cons, List.contains_nil, Nat.reduceBEq, Bool.or_false, Bool.false_or, evA, appArgs, appendq, appendQ1, appendQ2, appendQ3, trimN, RetVC, resL, ofRes, List.toList_toArray, Bool.not_true, Bool.not_false, Option.map_some, Option.map_none, Option.bind_some, Option.getD_some, Option.getD_none, List.getElem?_cons_zero, List.getElem?_cons_succ, List.cons_append, List.nil_append, List.append_nil, List.length_cons, List.length_nil, List.drop_succ_cons, List.drop_zero, List.take_succ_cons, List.take_zero, List.map_cons, List.map_nil, List.drop_nil, List.take_nil, ite_true, ite_false, reduceCtorEq, true_and, and_true, false_and, and_false, and_self, if_true, if_false, Bool.false_eq_true, reduceIte, Nat.reduceAdd, Nat.reduceLT, Nat.reduceLeDiff, Nat.reduceSub, Nat.reduceMul, Nat.reduceEqDiff, Nat.zero_lt_one, Nat.lt_add_one, Nat.zero_add, Nat.le_refl, decide_true]
  cases b <;> simp
def boolLoadW : WP := inlW Tryz.prog ([(62, EF.tf (wpE atLoadU32W))]) (bodyOf Tryz.f53) Tryz.f53.ntmps Tryz.f53.results.toList
theorem boolLoad_ok : WOk Tryz.prog 53 boolLoadW := inl_ok fol ((tblNW atLoadU32_ok tblNil)) Tryz.func53 rfl
def boolStoreW : WP := inlW Tryz.prog ([(74, b32T), (73, EF.tf (wpE atStoreU32W))]) (bodyOf Tryz.f65) Tryz.f65.ntmps Tryz.f65.results.toList
theorem boolStore_okD : WOkD Tryz.prog 65 boolStoreW := inl_okD fol ((tblCons b32_ok Tryz.func74 (by kernel_rfl) (tblNW atStoreU32_ok tblNil))) Tryz.func65 rfl
def muLockIW : WP := inlW Tryz.prog ([(80, EF.tf (wpE raceDisableW)), (81, EF.tf (wpE atCasI32W)), (82, EF.tf (wpE raceEnableW)), (83, EF.tf (wpE raceAcquireW))]) (bodyOf Tryz.f71) Tryz.f71.ntmps Tryz.f71.results.toList
theorem muLockI_ok : WOk Tryz.prog 71 muLockIW := inl_ok fol ((tblNW raceDisable_ok (tblNW atCasI32_ok (tblNW raceEnable_ok (tblNW raceAcquire_ok tblNil))))) Tryz.func71 rfl
def muLockW : WP := inlW Tryz.prog ([(71, EF.tf (wpE muLockIW))]) (bodyOf Tryz.f63) Tryz.f63.ntmps Tryz.f63.results.toList
theorem muLock_ok : WOk Tryz.prog 63 muLockW := inl_ok fol ((tblWp muLockI_ok Tryz.func71 (by kernel_rfl) tblNil)) Tryz.func63 rfl
def muUnlockIW : WP := inlW Tryz.prog ([(80, EF.tf (wpE raceDisableW)), (86, EF.tf (wpE atAddI32W)), (82, EF.tf (wpE raceEnableW)), (85, EF.tf (wpE raceReleaseMergeW))]) (bodyOf Tryz.f72) Tryz.f72.ntmps Tryz.f72.results.toList
theorem muUnlockI_ok : WOk Tryz.prog 72 muUnlockIW := inl_ok fol ((tblNW raceDisable_ok (tblNW atAddI32_ok (tblNW raceEnable_ok (tblNW raceReleaseMerge_ok tblNil))))) Tryz.func72 rfl
def muUnlockW : WP := inlW Tryz.prog ([(72, EF.tf (wpE muUnlockIW))]) (bodyOf Tryz.f64) Tryz.f64.ntmps Tryz.f64.results.toList
theorem muUnlock_okD : WOkD Tryz.prog 64 muUnlockW := inl_okD fol ((tblWp muUnlockI_ok Tryz.func72 (by kernel_rfl) tblNil)) Tryz.func64 rfl
end Go.Proofs.YtohjeioelkkkaaaGreatDoor
