/- Helper lemmas towards this seat's statements: a contract, proved for every input within its own premise, of functions of the program. -/
import Derived.Test.YtohjeioelkkkaaaGreatDoorLaw12
import Derived.Test.YtohjeioelkkkaaaGreatDoorL12d
namespace Go.Proofs.YtohjeioelkkkaaaGreatDoor
open Go Go.Vx
set_option maxRecDepth 100000
set_option linter.unusedSimpArgs false
set_option linter.unusedVariables false
def hasF (ps : List Param) (name : List UInt8) (g : Nat) : Bool := (ps.take g).any fun p => p.1 == name
theorem hasF_zero (ps : List Param) (name : List UInt8) : hasF ps name 0 = false := by simp [hasF]
theorem hasF_succ {ps : List Param} {name : List UInt8} {g : Nat} (h : g < ps.length) : hasF ps name (g + 1) = (hasF ps name g || ((ps.getD g tParam.dflt).1 == name)) := by
  unfold hasF
  rw [take_snocG (d := tParam.dflt) h]
  simp
theorem find_first {ps : List Param} {name : List UInt8} {g : Nat} (h : g < ps.length) (h0 : hasF ps name g = false) (h1 : (ps.getD g tParam.dflt).1 = name) : ctParamF ps name = ((ps.getD g tParam.dflt).2, true) := by
  unfold hasF at h0
  have e : ps = ps.take g ++ ps.getD g tParam.dflt :: ps.drop (g + 1) := by
    conv => lhs; rw [← List.take_append_drop g ps, drop_at (d := tParam.dflt) h]
  have hn : (ps.take g).find? (fun p => p.1 == name) = none := by
    rw [List.find?_eq_none]
    intro p hp hc
    have := List.any_eq_false.1 h0 p hp
    exact this hc
  have hc : ((ps.getD g tParam.dflt).1 == name) = true := by rw [h1]; exact beq_self_eq_true _
  generalize ps.getD g tParam.dflt = p at *
  have hf : ps.find? (fun p => p.1 == name) = some p := by
    rw [e, List.find?_append, hn, List.find?_cons, hc]
    rfl
  unfold ctParamF
  rw [hf]
theorem find_has (ps : List Param) (name : List UInt8) : (ctParamF ps name).2 = hasF ps name ps.length ∧ (hasF ps name ps.length = false → (ctParamF ps name).1 = []) := by
  unfold ctParamF hasF
  rw [List.take_length]
  cases hc : ps.find? fun p => p.1 == name with
  | none =>
    rw [List.find?_eq_none] at hc
    refine ⟨(List.any_eq_false.2 fun p hp => hc p hp).symm, fun _ => rfl⟩
  | some p =>
    have h1 := List.find?_some hc
    have h2 := List.mem_of_find?_eq_some hc
    have : ps.any (fun p => p.1 == name) = true := List.any_eq_true.2 ⟨p, h2, h1⟩
    exact ⟨this.symm, fun h => by rw [this] at h; cases h⟩
theorem print_ok (t : CType) : ((ctPrintF t).2 = 0 ↔ ctRightF t = true) ∧ (ctRightF t = false → (ctPrintF t).1 = []) ∧ ((ctPrintF t).2 = 0 ∨ (ctPrintF t).2 = 2) := by
  unfold ctPrintF
  by_cases h : ctRightF t = true
  · rw [if_pos h]; simp [h]
  · rw [if_neg h]; simp [h]
def find12T : TF := { doms := [tType, .str], cods := [.bool], pre := fun x => True, fn := fun _ => (true, ()) }
set_option maxHeartbeats 4000000 in
theorem find12_ok : TFOk Tryz.prog 7 find12T := by
  refine tf_by (tbl := [(8, awake12T), (9, few12T), (17, ctRightT), (10, ctPrintT), (14, ctParamT)]) fol (tblCons awake12_ok Tryz.func8 (by kernel_rfl) (tblCons few12_ok Tryz.func9 (by kernel_rfl) (tblCons ctRight_ok Tryz.func17 (by kernel_rfl) (tblCons ctPrint_ok Tryz.func10 (by kernel_rfl) (tblCons ctParam_ok Tryz.func14 (by kernel_rfl) tblNil))))) Tryz.func7 rfl rfl rfl ?_
  rintro ⟨⟨(mn : List UInt8), (sb : List UInt8), (ps : List Param)⟩, (name : List UInt8), _⟩ hpre
  simp (maxSteps := 5000000) -implicitDefEqProofs only [find12T, awake12T, few12T, ctRightT, ctPrintT, ctParamT, Tryz.f7, ti3, ti4, ti9, ti22, ti23, ti24, ti27, ti41, ti42, eqk42, tyo3, tyo4, tyo9, tyo22, tyo23, tyo24, tyo27, tyo41, tyo42, arr3, arr4, arr9, arr22, arr23, arr24, arr27, arr41, arr42, xd_base, xd_seq, xd_seq1, xd_seq2, xd_seq3, xd_block, xd_blk1, xd_blk2, xd_blk3, xd_cond, xd_cnd1, xd_cnd2, xd_cnd3, xd_region, xd_draw, xd_reg1, xd_reg2, xd_skip, xd_ret, xd_exit, xd_sq9, xd_sq8, xd_sq7, xd_sqn, xd_sqs, xd_none, xd_def, xd_next, xd_fin1, xd_fin2, xd_end, xd_lv0, xd_lv1, xd_lvw, xd_rt, xd_lv, hasD, cutD, deferx, deferF, leaveB, endD2, inlD, atLoad, atStore, atCas, atAdd, mark0, mark1, ptr1, cellK, intK, copyx, copyO, nilArgs, nilcmp, nilcmp2, ofZero_row, ofZero_list, ofZero_int, ofZero_bool, ofZero_string, ofZero_slice, ofZero_pointer, ofZero_func, ofZero_iface, ofZero_map, get_setS, setS_length, nilRow_length, get_nilRow, cell_nilRow, cell_setS1, cell_setS2, below_nilRow, below_setS1, below_setS2, leS_same, forget_nilRow, forget_setS, splx, convU, convB, cq_bd, cq_nil0, cq_osub, x_den0, x_den1, x_den2, x_den3, x_den4, x_den5, x_den6, x_skip, x_label, x_ret, x_exit, x_seq, x_block, x_cond, x_cnd1, x_cnd2, x_cnd3, x_region, x_draw, x_sq0, x_sq1, x_sq2, x_sqD, x_sqG1, x_sqG2, x_sqG3, x_sqG4, x_sqG5, x_sqG6, x_sqB1, x_sqB2, x_sqE, x_fold, x_put1, x_put0, x_ef1, x_ef2, x_ef3, x_ef4, x_ef5, x_ef6, x_ef7, x_ef8, x_ef9, callIx, callIf, evM, mkMapq, mkMap1, keyD, lookq, lookq1, lookq2, lookV, sameD, keySV, zeroDV, mapx, mapx1, mapx2, l_mp, SV.mp.injEq, Blk.mp.injEq, callEx, callEt, callEo, callE2, wpE, frameK, frameK2, inlW, bodyOf, InlR, tupS, undefs, x_ink1, x_ink2, callEf, callE, eArgs, eCons, eConsB, boxDt, setBx, EF.tf, bxs, eStart, eSlots, eH, goneN, boxE, boxesE, RetE, x_fie1, x_fie2, List.contains_nil, storex, castL_self, appendx, appendT, appendS, appendO, appendN, appendF, appendX, appendY, appendZ, srcq, elemSV, bytesD, nexts, nextx, forget, forgetL, forgetB, forgetH, spl, isCell, List.all_cons, List.all_nil, Option.some.injEq, makeq, makeE, makeT, zeroD, bytesTI, buildSq, buildE, buildB, partsD, tiSz, buildT, fillS, okFlat, rangeq, bytesQ, textQ, adopt, adoptOk, getA, setA, getC, setC, Nat.reduceDiv, Nat.reduceMod, List.replicate_zero, Nat.not_lt_zero, x_dr0, x_dr1, x_dr2, x_drD, x_drG1, x_drG2, x_drG3, x_drG4, x_drG5, x_drG6, x_drB1, x_fin1, x_fin2, x_fio1, x_fio2, x_own1, x_own2, RetOwn, ownVC, x_lk1, x_lk2, x_lk3, x_un0, x_un1, x_un2, x_un3, x_wr1, x_nv2, x_nv3, l_refl, l_any, l_int, l_bool, l_kb, l_kk, l_str, l_sl, l_nils, l_pp, l_ptr, l_osl, l_slf, l_ag, l_sls, l_agg, wrote, List.filterMap_cons_some, List.filterMap_cons_none, List.filterMap_cons, List.filterMap_nil, havoc, setSs, setBs, atHead, Vx.Sub, leS, leH, leB, below, below.belowL, belowB, belowH, SV.int.injEq, SV.bool.injEq, SV.kb.injEq, SV.str.injEq, SV.sl.injEq, SV.ptr.injEq, SV.pp.injEq, SV.agg.injEq, SV.osl.injEq, Blk.own.injEq, Blk.iter.injEq, heq_eq_eq, eq_self, List.cons.injEq, evq, evS, Vx.get, setO, setS, dstAt, startS, undefs, ofArgs, ofDV, ofD, one, Ty.isAgg, Ty.size, boxq, flat, allocq, allocA, fieldAddrq, fieldq, tkOf, sizeP, loadq, getB, setB, binq, intBin, strBin, boolBin, pickq, Vx.asB, ofConst, ofCell, nilq, unq, convq, sliceq, slice3q, strCut, slCut, makeFuncq, indexAddrq, indexq, extractq, ifaceq, builtinq, callfq, callq, tlook, toArgs, toDV, toD, oneOf, Vx.both, toInt_self, toSl_self, toSl_slf, toSl_nils, toSl_osl, toSlB_self, arrD_self, toRef_self, toRef_ptr, boxD, no1_self, no2_self, clo1_fn, clo1_f1, clo2_fn, clo2_f2, cloA1_fn, cloA1_f1, cloA2_fn, cloA2_f2, cloT1_self, cloT2_self, mk1, mk2, callT, callO, ownQ, lent, scalL, Ty.scal, toAg_self, glS, glTyp, TF.ob, Bool.and_true, Bool.and_false, Bool.true_and, Bool.false_and, List.take_length, Option.isSome_some, List.getD_cons_zero, Vx.toBool, Vx.toNil, Vx.toStr, Vx.toInt, eqCells, subP, TK.isAgg, quietPre, opQuiet, opQuiet.onEmpty, quietTF, quietEf, cloSlot, Bool.true_or, Bool.or_true, cq_noVal, cq_fn, cq_f1, cq_f2, cq_any, cq_int, cq_bool, cq_kb, cq_str, cq_sl, cq_nils, cq_osl, cq_mp, cq_slf, cq_ag, cq_pp, cq_ptr, cq_eptr, cq_nilp, cq_agg, cq_tup, cq_nilf, cq_ifc, cq_nili, cq_raw, litSlot, Option.toList, List.contains_cons, List.contains_nil, Nat.reduceBEq, Bool.or_false, Bool.false_or, evA, appArgs, appendq, appendQ1, appendQ2, appendQ3, trimN, RetVC, resL, ofRes, List.toList_toArray, Bool.not_true, Bool.not_false, Option.map_some, Option.map_none, Option.bind_some, Option.getD_some, Option.getD_none, List.getElem?_cons_zero, List.getElem?_cons_succ, List.cons_append, List.nil_append, List.append_nil, List.length_cons, List.length_nil, List.drop_succ_cons, List.drop_zero, List.take_succ_cons, List.take_zero, List.map_cons, List.map_nil, List.drop_nil, List.take_nil, ite_true, ite_false, reduceCtorEq, true_and, and_true, false_and, and_false, and_self, if_true, if_false, Bool.false_eq_true, reduceIte, Nat.reduceAdd, Nat.reduceLT, Nat.reduceLeDiff, Nat.reduceSub, Nat.reduceMul, Nat.reduceEqDiff, Nat.zero_lt_one, Nat.lt_add_one, Nat.zero_add, Nat.le_refl, decide_true]
  repeat' (first | (with_reducible refine drawOk_by ?_; kernel_rfl) | (with_reducible refine And.intro ?_ ?_) | (with_reducible intro _)); all_goals (try simp only [decide_eq_true_eq, decide_eq_false_iff_not, Int.not_lt, Int.not_le, beq_iff_eq, bne_iff_ne, beq_eq_false_iff_ne, bne_eq_false_iff_eq, ne_eq, Decidable.not_not] at *)
  all_goals (have hF : few12F (mn, sb, ps) = true := by simpa using ‹(!few12F (mn, sb, ps)) = false›)
  all_goals (obtain ⟨f0, f1, f2, f3, f4⟩ := few12_short hF)
  all_goals (have f2 : mn.length ≤ 200 := f2)
  all_goals (have f3 : sb.length ≤ 200 := f3)
  all_goals (have f1 : ps.length ≤ 20 := f1)
  all_goals first
    | exact f0
    | omega
    | (show ps.length ≤ _; omega)
    | skip
  refine x_loop (γ := Nat) (fun g => [(7, .bool (hasF ps name g)), (8, .int .i64 (g : Int))]) (fun _ => []) (fun g => g ≤ ps.length) (fun g => ps.length - g) 0 ⟨Nat.zero_le _, ?_⟩ ?_
  · simp -implicitDefEqProofs only [hasF_zero, Tryz.f7, ti3, ti4, ti9, ti22, ti23, ti24, ti27, ti41, ti42, eqk42, tyo3, tyo4, tyo9, tyo22, tyo23, tyo24, tyo27, tyo41, tyo42, arr3, arr4, arr9, arr22, arr23, arr24, arr27, arr41, arr42, xd_base, xd_seq, xd_seq1, xd_seq2, xd_seq3, xd_block, xd_blk1, xd_blk2, xd_blk3, xd_cond, xd_cnd1, xd_cnd2, xd_cnd3, xd_region, xd_draw, xd_reg1, xd_reg2, xd_skip, xd_ret, xd_exit, xd_sq9, xd_sq8, xd_sq7, xd_sqn, xd_sqs, xd_none, xd_def, xd_next, xd_fin1, xd_fin2, xd_end, xd_lv0, xd_lv1, xd_lvw, xd_rt, xd_lv, hasD, cutD, deferx, deferF, leaveB, endD2, inlD, atLoad, atStore, atCas, atAdd, mark0, mark1, ptr1, cellK, intK, copyx, copyO, nilArgs, nilcmp, nilcmp2, ofZero_row, ofZero_list, ofZero_int, ofZero_bool, ofZero_string, ofZero_slice, ofZero_pointer, ofZero_func, ofZero_iface, ofZero_map, get_setS, setS_length, nilRow_length, get_nilRow, cell_nilRow, cell_setS1, cell_setS2, below_nilRow, below_setS1, below_setS2, leS_same, forget_nilRow, forget_setS, splx, convU, convB, cq_bd, cq_nil0, cq_osub, x_den0, x_den1, x_den2, x_den3, x_den4, x_den5, x_den6, x_skip, x_label, x_ret, x_exit, x_seq, x_block, x_cond, x_cnd1, x_cnd2, x_cnd3, x_region, x_draw, x_sq0, x_sq1, x_sq2, x_sqD, x_sqG1, x_sqG2, x_sqG3, x_sqG4, x_sqG5, x_sqG6, x_sqB1, x_sqB2, x_sqE, x_fold, x_put1, x_put0, x_ef1, x_ef2, x_ef3, x_ef4, x_ef5, x_ef6, x_ef7, x_ef8, x_ef9, callIx, callIf, evM, mkMapq, mkMap1, keyD, lookq, lookq1, lookq2, lookV, sameD, keySV, zeroDV, mapx, mapx1, mapx2, l_mp, SV.mp.injEq, Blk.mp.injEq, callEx, callEt, callEo, callE2, wpE, frameK, frameK2, inlW, bodyOf, InlR, tupS, undefs, x_ink1, x_ink2, callEf, callE, eArgs, eCons, eConsB, boxDt, setBx, EF.tf, bxs, eStart, eSlots, eH, goneN, boxE, boxesE, RetE, x_fie1, x_fie2, List.contains_nil, storex, castL_self, appendx, appendT, appendS, appendO, appendN, appendF, appendX, appendY, appendZ, srcq, elemSV, bytesD, nexts, nextx, forget, forgetL, forgetB, forgetH, spl, isCell, List.all_cons, List.all_nil, Option.some.injEq, makeq, makeE, makeT, zeroD, bytesTI, buildSq, buildE, buildB, partsD, tiSz, buildT, fillS, okFlat, rangeq, bytesQ, textQ, adopt, adoptOk, getA, setA, getC, setC, Nat.reduceDiv, Nat.reduceMod, List.replicate_zero, Nat.not_lt_zero, x_dr0, x_dr1, x_dr2, x_drD, x_drG1, x_drG2, x_drG3, x_drG4, x_drG5, x_drG6, x_drB1, x_fin1, x_fin2, x_fio1, x_fio2, x_own1, x_own2, RetOwn, ownVC, x_lk1, x_lk2, x_lk3, x_un0, x_un1, x_un2, x_un3, x_wr1, x_nv2, x_nv3, l_refl, l_any, l_int, l_bool, l_kb, l_kk, l_str, l_sl, l_nils, l_pp, l_ptr, l_osl, l_slf, l_ag, l_sls, l_agg, wrote, List.filterMap_cons_some, List.filterMap_cons_none, List.filterMap_cons, List.filterMap_nil, havoc, setSs, setBs, atHead, Vx.Sub, leS, leH, leB, below, below.belowL, belowB, belowH, SV.int.injEq, SV.bool.injEq, SV.kb.injEq, SV.str.injEq, SV.sl.injEq, SV.ptr.injEq, SV.pp.injEq, SV.agg.injEq, SV.osl.injEq, Blk.own.injEq, Blk.iter.injEq, heq_eq_eq, eq_self, List.cons.injEq, evq, evS, Vx.get, setO, setS, dstAt, startS, undefs, ofArgs, ofDV, ofD, one, Ty.isAgg, Ty.size, boxq, flat, allocq, allocA, fieldAddrq, fieldq, tkOf, sizeP, loadq, getB, setB, binq, intBin, strBin, boolBin, pickq, Vx.asB, ofConst, ofCell, nilq, unq, convq, sliceq, slice3q, strCut, slCut, makeFuncq, indexAddrq, indexq, extractq, ifaceq, builtinq, callfq, callq, tlook, toArgs, toDV, toD, oneOf, Vx.both, toInt_self, toSl_self, toSl_slf, toSl_nils, toSl_osl, toSlB_self, arrD_self, toRef_self, toRef_ptr, boxD, no1_self, no2_self, clo1_fn, clo1_f1, clo2_fn, clo2_f2, cloA1_fn, cloA1_f1, cloA2_fn, cloA2_f2, cloT1_self, cloT2_self, mk1, mk2, callT, callO, ownQ, lent, scalL, Ty.scal, toAg_self, glS, glTyp, TF.ob, Bool.and_true, Bool.and_false, Bool.true_and, Bool.false_and, List.take_length, Option.isSome_some, List.getD_cons_zero, Vx.toBool, Vx.toNil, Vx.toStr, Vx.toInt, eqCells, subP, TK.isAgg, quietPre, opQuiet, opQuiet.onEmpty, quietTF, quietEf, cloSlot, Bool.true_or, Bool.or_true, cq_noVal, cq_fn, cq_f1, cq_f2, cq_any, cq_int, cq_bool, cq_kb, cq_str, cq_sl, cq_nils, cq_osl, cq_mp, cq_slf, cq_ag, cq_pp, cq_ptr, cq_eptr, cq_nilp, cq_agg, cq_tup, cq_nilf, cq_ifc, cq_nili, cq_raw, litSlot, Option.toList, List.contains_cons, List.contains_nil, Nat.reduceBEq, Bool.or_false, Bool.false_or, evA, appArgs, appendq, appendQ1, appendQ2, appendQ3, trimN, RetVC, resL, ofRes, List.toList_toArray, Bool.not_true, Bool.not_false, Option.map_some, Option.map_none, Option.bind_some, Option.getD_some, Option.getD_none, List.getElem?_cons_zero, List.getElem?_cons_succ, List.cons_append, List.nil_append, List.append_nil, List.length_cons, List.length_nil, List.drop_succ_cons, List.drop_zero, List.take_succ_cons, List.take_zero, List.map_cons, List.map_nil, List.drop_nil, List.take_nil, ite_true, ite_false, reduceCtorEq, true_and, and_true, false_and, and_false, and_self, if_true, if_false, Bool.false_eq_true, reduceIte, Nat.reduceAdd, Nat.reduceLT, Nat.reduceLeDiff, Nat.reduceSub, Nat.reduceMul, Nat.reduceEqDiff, Nat.zero_lt_one, Nat.lt_add_one, Nat.zero_add, Nat.le_refl, decide_true]
    all_goals trivial
  intro g hg
  have hg : g ≤ ps.length := hg
  simp (maxSteps := 5000000) -implicitDefEqProofs only [ctRightT, ctPrintT, ctParamT, Tryz.f7, ti3, ti4, ti9, ti22, ti23, ti24, ti27, ti41, ti42, eqk42, tyo3, tyo4, tyo9, tyo22, tyo23, tyo24, tyo27, tyo41, tyo42, arr3, arr4, arr9, arr22, arr23, arr24, arr27, arr41, arr42, xd_base, xd_seq, xd_seq1, xd_seq2, xd_seq3, xd_block, xd_blk1, xd_blk2, xd_blk3, xd_cond, xd_cnd1, xd_cnd2, xd_cnd3, xd_region, xd_draw, xd_reg1, xd_reg2, xd_skip, xd_ret, xd_exit, xd_sq9, xd_sq8, xd_sq7, xd_sqn, xd_sqs, xd_none, xd_def, xd_next, xd_fin1, xd_fin2, xd_end, xd_lv0, xd_lv1, xd_lvw, xd_rt, xd_lv, hasD, cutD, deferx, deferF, leaveB, endD2, inlD, atLoad, atStore, atCas, atAdd, mark0, mark1, ptr1, cellK, intK, copyx, copyO, nilArgs, nilcmp, nilcmp2, ofZero_row, ofZero_list, ofZero_int, ofZero_bool, ofZero_string, ofZero_slice, ofZero_pointer, ofZero_func, ofZero_iface, ofZero_map, get_setS, setS_length, nilRow_length, get_nilRow, cell_nilRow, cell_setS1, cell_setS2, below_nilRow, below_setS1, below_setS2, leS_same, forget_nilRow, forget_setS, splx, convU, convB, cq_bd, cq_nil0, cq_osub, x_den0, x_den1, x_den2, x_den3, x_den4, x_den5, x_den6, x_skip, x_label, x_ret, x_exit, x_seq, x_block, x_cond, x_cnd1, x_cnd2, x_cnd3, x_region, x_draw, x_sq0, x_sq1, x_sq2, x_sqD, x_sqG1, x_sqG2, x_sqG3, x_sqG4, x_sqG5, x_sqG6, x_sqB1, x_sqB2, x_sqE, x_fold, x_put1, x_put0, x_ef1, x_ef2, x_ef3, x_ef4, x_ef5, x_ef6, x_ef7, x_ef8, x_ef9, callIx, callIf, evM, mkMapq, mkMap1, keyD, lookq, lookq1, lookq2, lookV, sameD, keySV, zeroDV, mapx, mapx1, mapx2, l_mp, SV.mp.injEq, Blk.mp.injEq, callEx, callEt, callEo, callE2, wpE, frameK, frameK2, inlW, bodyOf, InlR, tupS, undefs, x_ink1, x_ink2, callEf, callE, eArgs, eCons, eConsB, boxDt, setBx, EF.tf, bxs, eStart, eSlots, eH, goneN, boxE, boxesE, RetE, x_fie1, x_fie2, List.contains_nil, storex, castL_self, appendx, appendT, appendS, appendO, appendN, appendF, appendX, appendY, appendZ, srcq, elemSV, bytesD, nexts, nextx, forget, forgetL, forgetB, forgetH, spl, isCell, List.all_cons, List.all_nil, Option.some.injEq, makeq, makeE, makeT, zeroD, bytesTI, buildSq, buildE, buildB, partsD, tiSz, buildT, fillS, okFlat, rangeq, bytesQ, textQ, adopt, adoptOk, getA, setA, getC, setC, Nat.reduceDiv, Nat.reduceMod, List.replicate_zero, Nat.not_lt_zero, x_dr0, x_dr1, x_dr2, x_drD, x_drG1, x_drG2, x_drG3, x_drG4, x_drG5, x_drG6, x_drB1, x_fin1, x_fin2, x_fio1, x_fio2, x_own1, x_own2, RetOwn, ownVC, x_lk1, x_lk2, x_lk3, x_un0, x_un1, x_un2, x_un3, x_wr1, x_nv2, x_nv3, l_refl, l_any, l_int, l_bool, l_kb, l_kk, l_str, l_sl, l_nils, l_pp, l_ptr, l_osl, l_slf, l_ag, l_sls, l_agg, wrote, List.filterMap_cons_some, List.filterMap_cons_none, List.filterMap_cons, List.filterMap_nil, havoc, setSs, setBs, atHead, Vx.Sub, leS, leH, leB, below, below.belowL, belowB, belowH, SV.int.injEq, SV.bool.injEq, SV.kb.injEq, SV.str.injEq, SV.sl.injEq, SV.ptr.injEq, SV.pp.injEq, SV.agg.injEq, SV.osl.injEq, Blk.own.injEq, Blk.iter.injEq, heq_eq_eq, eq_self, List.cons.injEq, evq, evS, Vx.get, setO, setS, dstAt, startS, undefs, ofArgs, ofDV, ofD, one, Ty.isAgg, Ty.size, boxq, flat, allocq, allocA, fieldAddrq, fieldq, tkOf, sizeP, loadq, getB, setB, binq, intBin, strBin, boolBin, pickq, Vx.asB, ofConst, ofCell, nilq, unq, convq, sliceq, slice3q, strCut, slCut, makeFuncq, indexAddrq, indexq, extractq, ifaceq, builtinq, callfq, callq, tlook, toArgs, toDV, toD, oneOf, Vx.both, toInt_self, toSl_self, toSl_slf, toSl_nils, toSl_osl, toSlB_self, arrD_self, toRef_self, toRef_ptr, boxD, no1_self, no2_self, clo1_fn, clo1_f1, clo2_fn, clo2_f2, cloA1_fn, cloA1_f1, cloA2_fn, cloA2_f2, cloT1_self, cloT2_self, mk1, mk2, callT, callO, ownQ, lent, scalL, Ty.scal, toAg_self, glS, glTyp, TF.ob, Bool.and_true, Bool.and_false, Bool.true_and, Bool.false_and, List.take_length, Option.isSome_some, List.getD_cons_zero, Vx.toBool, Vx.toNil, Vx.toStr, Vx.toInt, eqCells, subP, TK.isAgg, quietPre, opQuiet, opQuiet.onEmpty, quietTF, quietEf, cloSlot, Bool.true_or, Bool.or_true, cq_noVal, cq_fn, cq_f1, cq_f2, cq_any, cq_int, cq_bool, cq_kb, cq_str, cq_sl, cq_nils, cq_osl, cq_mp, cq_slf, cq_ag, cq_pp, cq_ptr, cq_eptr, cq_nilp, cq_agg, cq_tup, cq_nilf, cq_ifc, cq_nili, cq_raw, litSlot, Option.toList, List.contains_cons, List.contains_nil, Nat.reduceBEq, Bool.or_false, Bool.false_or, evA, appArgs, appendq, appendQ1, appendQ2, appendQ3, trimN, RetVC, resL, ofRes, List.toList_toArray, Bool.not_true, Bool.not_false, Option.map_some, Option.map_none, Option.bind_some, Option.getD_some, Option.getD_none, List.getElem?_cons_zero, List.getElem?_cons_succ, List.cons_append, List.nil_append, List.append_nil, List.length_cons, List.length_nil, List.drop_succ_cons, List.drop_zero, List.take_succ_cons, List.take_zero, List.map_cons, List.map_nil, List.drop_nil, List.take_nil, ite_true, ite_false, reduceCtorEq, true_and, and_true, false_and, and_false, and_self, if_true, if_false, Bool.false_eq_true, reduceIte, Nat.reduceAdd, Nat.reduceLT, Nat.reduceLeDiff, Nat.reduceSub, Nat.reduceMul, Nat.reduceEqDiff, Nat.zero_lt_one, Nat.lt_add_one, Nat.zero_add, Nat.le_refl, decide_true]
  repeat' (first | (with_reducible refine drawOk_by ?_; kernel_rfl) | (with_reducible refine And.intro ?_ ?_) | (with_reducible intro _)); all_goals (try simp only [decide_eq_true_eq, decide_eq_false_iff_not, Int.not_lt, Int.not_le, beq_iff_eq, bne_iff_ne, beq_eq_false_iff_ne, bne_eq_false_iff_eq, ne_eq, Decidable.not_not] at *)
  all_goals (try simp only [Int.toNat_natCast, Bool.not_eq_true', Bool.not_eq_false'] at *)
  all_goals first
    | exact f0
    | exact Int.natCast_nonneg _
    | omega
    | skip
  all_goals (obtain ⟨q1, q2, q3⟩ := print_ok (mn, sb, ps))
  all_goals first
    | (have hlt : g < ps.length := by omega
       have hs := hasF_succ (name := name) hlt
       first
         | (have hff := find_first hlt ‹hasF ps name g = false› ‹(ps.getD g tParam.dflt).1 = name›
            first
              | (exact absurd (congrArg Prod.fst hff) ‹¬ (ctParamF ps name).1 = _›)
              | (refine ⟨g + 1, hlt, by omega, ?_, w64_succ (n := ps.length) hlt (by omega)⟩
                 rw [hs, ‹(ps.getD g tParam.dflt).1 = name›, beq_self_eq_true, Bool.or_true]))
         | (refine ⟨g + 1, hlt, by omega, ?_, w64_succ (n := ps.length) hlt (by omega)⟩
            first
              | (rw [hs, ‹hasF ps name g = true›]; rfl)
              | (rw [hs, beq_false_of_ne ‹¬ (ps.getD g tParam.dflt).1 = name›, Bool.or_false])))
    | (have hge : g = ps.length := by omega
       subst hge
       obtain ⟨e1, e2⟩ := find_has ps name
       first
         | exact absurd e1 ‹¬ (ctParamF ps name).2 = _›
         | exact absurd (e2 (e1.symm.trans ‹(ctParamF ps name).2 = false›)) ‹¬ (ctParamF ps name).1 = []›
         | (exfalso
            have hx := ‹¬ ((ctPrintF (mn, sb, ps)).2 == 0) = ctRightF (mn, sb, ps)›
            cases hr : ctRightF (mn, sb, ps) with
            | true => exact hx (by rw [hr, q1.2 hr]; rfl)
            | false => exact hx (by
                rw [hr]
                exact beq_eq_false_iff_ne.2 fun h => by rw [q1.1 h] at hr; cases hr))
         | (have hr : ctRightF (mn, sb, ps) = false := by
              cases hr : ctRightF (mn, sb, ps) with
              | true => exact absurd (q1.2 hr) ‹¬ (ctPrintF (mn, sb, ps)).2 = 0›
              | false => rfl
            rw [q2 hr]; rfl))
    | trace_state
end Go.Proofs.YtohjeioelkkkaaaGreatDoor
