/- Helper lemmas towards this seat's statements: a contract, proved for every input within its own premise, of functions of the program. -/
import Derived.Test.YtnbicdeehppgpaaGreatDoorBase
namespace Go.Proofs.YtnbicdeehppgpaaGreatDoor
open Go Go.Vx
set_option linter.unusedSimpArgs false
set_option linter.unusedVariables false
set_option maxRecDepth 100000
/-! sync.Once and the lock, run in place. -/
def atLoadU32W : WP := atLoad .u32
def atStoreU32W : WP := atStore .u32
def atCasI32W : WP := atCas .i32
def atAddI32W : WP := atAdd .i32
def raceDisableW : WP := mark0
def raceEnableW : WP := mark0
def raceAcquireW : WP := mark1
def raceReleaseMergeW : WP := mark1
theorem atLoadU32_ok : NWOk Tryz.prog 57 atLoadU32W := atLoad_ok Tryz.func57 (by kernel_rfl) (by kernel_rfl) (by kernel_rfl) .u32 (by kernel_rfl)
theorem atStoreU32_ok : NWOk Tryz.prog 68 atStoreU32W := atStore_ok Tryz.func68 (by kernel_rfl) (by kernel_rfl) (by kernel_rfl) .u32 (by kernel_rfl)
theorem atCasI32_ok : NWOk Tryz.prog 76 atCasI32W := atCas_ok Tryz.func76 (by kernel_rfl) (by kernel_rfl) (by kernel_rfl) .i32 (by kernel_rfl)
theorem atAddI32_ok : NWOk Tryz.prog 81 atAddI32W := atAdd_ok Tryz.func81 (by kernel_rfl) (by kernel_rfl) (by kernel_rfl) .i32 (by kernel_rfl)
theorem raceDisable_ok : NWOk Tryz.prog 75 raceDisableW := mark0_ok Tryz.func75 (by kernel_rfl) (by kernel_rfl) (by kernel_rfl) .disable (by kernel_rfl)
theorem raceEnable_ok : NWOk Tryz.prog 77 raceEnableW := mark0_ok Tryz.func77 (by kernel_rfl) (by kernel_rfl) (by kernel_rfl) .enable (by kernel_rfl)
theorem raceAcquire_ok : NWOk Tryz.prog 78 raceAcquireW := mark1_ok Tryz.func78 (by kernel_rfl) (by kernel_rfl) (by kernel_rfl) .acquire (by kernel_rfl)
theorem raceReleaseMerge_ok : NWOk Tryz.prog 80 raceReleaseMergeW := mark1_ok Tryz.func80 (by kernel_rfl) (by kernel_rfl) (by kernel_rfl) .releaseMerge (by kernel_rfl)
def b32T : TF := { doms := [.bool], cods := [.int .u32], pre := fun _ => True, fn := fun x => (if x.1 = true then 1 else 0, ()) }
theorem b32_ok : TFOk Tryz.prog 69 b32T := by
  refine tf_by (tbl := []) fol tblNil Tryz.func69 rfl rfl rfl ?_
  rintro ⟨(b : Bool), _⟩ hpre
  simp -implicitDefEqProofs only [b32T, Tryz.f69, atLoad, atStore, atCas, atAdd, mark0, mark1, ptr1, cellK, intK, copyx, copyO, nilArgs, nilcmp, nilcmp2, ofZero_row, ofZero_list, ofZero_int, ofZero_bool, ofZero_string, ofZero_slice, ofZero_pointer, ofZero_func, ofZero_iface, ofZero_map, splx, convU, convB, x_den0, x_den1, x_den2, x_den3, x_den4, x_den5, x_den6, x_skip, x_label, x_ret, x_exit, x_seq, x_block, x_cond, x_cnd1, x_cnd2, x_cnd3, x_region, x_draw, x_sq0, x_sq1, x_sq2, x_sqD, x_sqG1, x_sqG2, x_sqG3, x_sqG4, x_sqG5, x_sqG6, x_sqB1, x_sqB2, x_sqE, x_fold, x_put1, x_put0, x_ef1, x_ef2, x_ef3, x_ef4, x_ef5, x_ef6, x_ef7, x_ef8, x_ef9, callIx, callIf, evM, callEx, callEt, callEo, callE2, wpE, frameK, frameK2, inlW, bodyOf, InlR, tupS, undefs, x_ink1, x_ink2, callEf, callE, eArgs, eCons, eConsB, boxDt, setBx, EF.tf, bxs, eStart, eSlots, eH, goneN, boxE, boxesE, RetE, x_fie1, x_fie2, List.contains_nil, storex, castL_self, appendx, appendT, appendS, appendO, appendN, appendF, appendX, appendY, appendZ, srcq, elemSV, bytesD, nexts, nextx, forget, forgetL, forgetB, forgetH, spl, isCell, List.all_cons, List.all_nil, Option.some.injEq, makeq, makeE, makeT, zeroD, bytesTI, buildSq, buildE, buildB, partsD, tiSz, buildT, fillS, okFlat, rangeq, bytesQ, textQ, adopt, adoptOk, getA, setA, getC, setC, Nat.reduceDiv, Nat.reduceMod, List.replicate_zero, Nat.not_lt_zero, x_fin1, x_fin2, x_fio1, x_fio2, x_own1, x_own2, RetOwn, ownVC, x_lk1, x_lk2, x_lk3, x_un0, x_un1, x_un2, x_un3, x_wr1, x_nv2, x_nv3, l_refl, l_any, l_int, l_bool, l_kb, l_kk, l_str, l_sl, l_nils, l_pp, l_ptr, l_osl, l_slf, l_ag, l_sls, l_agg, wrote, List.filterMap_cons_some, List.filterMap_cons_none, List.filterMap_cons, List.filterMap_nil, havoc, setSs, setBs, atHead, Vx.Sub, leS, leH, leB, below, below.belowL, belowB, belowH, SV.int.injEq, SV.bool.injEq, SV.kb.injEq, SV.str.injEq, SV.sl.injEq, SV.ptr.injEq, SV.pp.injEq, SV.agg.injEq, SV.osl.injEq, Blk.own.injEq, Blk.iter.injEq, heq_eq_eq, eq_self, List.cons.injEq, evq, evS, Vx.get, setO, setS, dstAt, startS, undefs, ofArgs, ofDV, ofD, one, Ty.isAgg, Ty.size, boxq, flat, allocq, allocA, fieldAddrq, fieldq, tkOf, sizeP, loadq, getB, setB, binq, intBin, strBin, boolBin, pickq, Vx.asB, ofConst, ofCell, nilq, unq, convq, sliceq, slice3q, strCut, slCut, makeFuncq, indexAddrq, indexq, extractq, ifaceq, builtinq, callfq, callq, tlook, toArgs, toDV, toD, oneOf, Vx.both, toInt_self, toSl_self, toSl_slf, toSl_nils, toSl_osl, toSlB_self, arrD_self, toRef_self, toRef_ptr, boxD, no1_self, no2_self, clo1_fn, clo1_f1, clo2_fn, clo2_f2, cloA1_fn, cloA1_f1, cloA2_fn, cloA2_f2, cloT1_self, cloT2_self, mk1, mk2, callT, callO, ownQ, lent, scalL, Ty.scal, toAg_self, glS, glTyp, TF.ob, Bool.and_true, Bool.and_false, Bool.true_and, Bool.false_and, List.take_length, Option.isSome_some, List.getD_cons_zero, Vx.toBool, Vx.toNil, Vx.toStr, Vx.toInt, eqCells, subP, TK.isAgg, Bool.true_or, Bool.or_true, litSlot, Option.toList, List.contains_cons, List.contains_nil, Nat.reduceBEq, Bool.or_false, Bool.false_or, evA, appArgs, appendq, appendQ1, appendQ2, appendQ3, trimN, RetVC, resL, ofRes, List.toList_toArray, Bool.not_true, Bool.not_false, Option.map_some, Option.map_none, Option.bind_some, Option.getD_some, Option.getD_none, List.getElem?_cons_zero, List.getElem?_cons_succ, List.cons_append, List.nil_append, List.append_nil, List.length_cons, List.length_nil, List.drop_succ_cons, List.drop_zero, List.take_succ_cons, List.take_zero, List.map_cons, List.map_nil, List.drop_nil, List.take_nil, ite_true, ite_false, reduceCtorEq, true_and, and_true, false_and, and_false, and_self, if_true, if_false, Bool.false_eq_true, reduceIte, Nat.reduceAdd, Nat.reduceLT, Nat.reduceLeDiff, Nat.reduceSub, Nat.reduceMul, Nat.reduceEqDiff, Nat.zero_lt_one, Nat.lt_add_one, Nat.zero_add, Nat.le_refl, decide_true]
  cases b <;> simp
def boolLoadW : WP := inlW Tryz.prog ([(57, EF.tf (wpE atLoadU32W))]) (bodyOf Tryz.f48) Tryz.f48.ntmps Tryz.f48.results.toList
theorem boolLoad_ok : WOk Tryz.prog 48 boolLoadW := inl_ok fol ((tblNW atLoadU32_ok tblNil)) Tryz.func48 rfl
def boolStoreW : WP := inlW Tryz.prog ([(69, b32T), (68, EF.tf (wpE atStoreU32W))]) (bodyOf Tryz.f60) Tryz.f60.ntmps Tryz.f60.results.toList
theorem boolStore_okD : WOkD Tryz.prog 60 boolStoreW := inl_okD fol ((tblCons b32_ok Tryz.func69 (by kernel_rfl) (tblNW atStoreU32_ok tblNil))) Tryz.func60 rfl
def muLockIW : WP := inlW Tryz.prog ([(75, EF.tf (wpE raceDisableW)), (76, EF.tf (wpE atCasI32W)), (77, EF.tf (wpE raceEnableW)), (78, EF.tf (wpE raceAcquireW))]) (bodyOf Tryz.f66) Tryz.f66.ntmps Tryz.f66.results.toList
theorem muLockI_ok : WOk Tryz.prog 66 muLockIW := inl_ok fol ((tblNW raceDisable_ok (tblNW atCasI32_ok (tblNW raceEnable_ok (tblNW raceAcquire_ok tblNil))))) Tryz.func66 rfl
def muLockW : WP := inlW Tryz.prog ([(66, EF.tf (wpE muLockIW))]) (bodyOf Tryz.f58) Tryz.f58.ntmps Tryz.f58.results.toList
theorem muLock_ok : WOk Tryz.prog 58 muLockW := inl_ok fol ((tblWp muLockI_ok Tryz.func66 (by kernel_rfl) tblNil)) Tryz.func58 rfl
def muUnlockIW : WP := inlW Tryz.prog ([(75, EF.tf (wpE raceDisableW)), (81, EF.tf (wpE atAddI32W)), (77, EF.tf (wpE raceEnableW)), (80, EF.tf (wpE raceReleaseMergeW))]) (bodyOf Tryz.f67) Tryz.f67.ntmps Tryz.f67.results.toList
theorem muUnlockI_ok : WOk Tryz.prog 67 muUnlockIW := inl_ok fol ((tblNW raceDisable_ok (tblNW atAddI32_ok (tblNW raceEnable_ok (tblNW raceReleaseMerge_ok tblNil))))) Tryz.func67 rfl
def muUnlockW : WP := inlW Tryz.prog ([(67, EF.tf (wpE muUnlockIW))]) (bodyOf Tryz.f59) Tryz.f59.ntmps Tryz.f59.results.toList
theorem muUnlock_okD : WOkD Tryz.prog 59 muUnlockW := inl_okD fol ((tblWp muUnlockI_ok Tryz.func67 (by kernel_rfl) tblNil)) Tryz.func59 rfl
end Go.Proofs.YtnbicdeehppgpaaGreatDoor
