/- Helper lemmas towards this seat's statements: a contract, proved for every input within its own premise, of functions of the program. -/
import Derived.Test.YtnbicdeehppgpaaGreatDoorRef12b
namespace Go.Proofs.YtnbicdeehppgpaaGreatDoor
open Go Go.Vx
set_option maxRecDepth 100000
set_option linter.unusedSimpArgs false
set_option linter.unusedVariables false
theorem esc_one (v : List UInt8) (k : Nat) (h : k < v.length) : escF (v.take (k + 1)) = escF (v.take k) ++ (if v.getD k 0 = 34 then [92, 34] else if v.getD k 0 = 92 then [92, 92] else [v.getD k 0]) := by
  rw [esc_snoc v k h]
  simp only [escF]
def ref12PrT : TF := { doms := [tType], cods := [.str, .int .i64], pre := fun x => shortT x.1, fn := fun x => ((ctPrintF x.1).1, (ctPrintF x.1).2, ()) }
set_option maxHeartbeats 4000000 in
theorem ref12Pr_ok : TFOk Tryz.prog 7 ref12PrT := by
  refine tf_by (tbl := [(14, ref12RightT), (19, ref12TokT)]) fol (tblCons ref12Right_ok Tryz.func14 (by kernel_rfl) (tblCons ref12Tok_ok Tryz.func19 (by kernel_rfl) tblNil)) Tryz.func7 rfl rfl rfl ?_
  rintro ⟨⟨(mn : List UInt8), (sb : List UInt8), (ps : List Param)⟩, _⟩ hpre
  have hs : shortT (mn, sb, ps) := hpre
  cases hR : ctRightF (mn, sb, ps) with
  | false =>
    have y1 : ctPrintF (mn, sb, ps) = ([], 2) := by unfold ctPrintF; rw [if_neg (by rw [hR]; simp)]
    simp (maxSteps := 5000000) -implicitDefEqProofs only [ref12PrT, ref12RightT, ref12TokT, hR, y1, Bool.not_false, true_implies, false_implies, Tryz.f7, ti3, ti4, ti5, ti9, ti22, ti23, ti24, ti40, ti41, eqk41, tyo3, tyo4, tyo5, tyo9, tyo22, tyo23, tyo24, tyo40, tyo41, arr3, arr4, arr5, arr9, arr22, arr23, arr24, arr40, arr41, copyx, copyO, nilArgs, nilcmp, nilcmp2, ofZero_row, ofZero_list, ofZero_int, ofZero_bool, ofZero_string, ofZero_slice, ofZero_pointer, ofZero_func, ofZero_iface, ofZero_map, splx, convU, convB, x_den0, x_den1, x_den2, x_den3, x_den4, x_den5, x_den6, x_skip, x_label, x_ret, x_exit, x_seq, x_block, x_cond, x_cnd1, x_cnd2, x_cnd3, x_region, x_draw, x_sq0, x_sq1, x_sq2, x_sqD, x_sqG1, x_sqG2, x_sqG3, x_sqG4, x_sqG5, x_sqG6, x_sqB1, x_sqB2, x_sqE, x_fold, x_put1, x_put0, x_ef1, x_ef2, x_ef3, x_ef4, x_ef5, x_ef6, x_ef7, x_ef8, x_ef9, callIx, callIf, evM, callEx, callEt, callEo, callE2, wpE, frameK, frameK2, inlW, bodyOf, InlR, tupS, undefs, x_ink1, x_ink2, callEf, callE, eArgs, eCons, eConsB, boxDt, setBx, EF.tf, bxs, eStart, eSlots, eH, goneN, boxE, boxesE, RetE, x_fie1, x_fie2, List.contains_nil, storex, castL_self, appendx, appendT, appendS, appendO, appendN, appendF, appendX, appendY, appendZ, srcq, elemSV, bytesD, nexts, nextx, forget, forgetL, forgetB, forgetH, spl, isCell, List.all_cons, List.all_nil, Option.some.injEq, makeq, makeE, makeT, zeroD, bytesTI, buildSq, buildE, buildB, partsD, tiSz, buildT, fillS, okFlat, rangeq, bytesQ, textQ, adopt, adoptOk, getA, setA, getC, setC, Nat.reduceDiv, Nat.reduceMod, List.replicate_zero, Nat.not_lt_zero, x_fin1, x_fin2, x_fio1, x_fio2, x_own1, x_own2, RetOwn, ownVC, x_lk1, x_lk2, x_lk3, x_un0, x_un1, x_un2, x_un3, x_wr1, x_nv2, x_nv3, l_refl, l_any, l_int, l_bool, l_kb, l_kk, l_str, l_sl, l_nils, l_pp, l_ptr, l_osl, l_slf, l_ag, l_sls, l_agg, wrote, List.filterMap_cons_some, List.filterMap_cons_none, List.filterMap_cons, List.filterMap_nil, havoc, setSs, setBs, atHead, Vx.Sub, leS, leH, leB, below, below.belowL, belowB, belowH, SV.int.injEq, SV.bool.injEq, SV.kb.injEq, SV.str.injEq, SV.sl.injEq, SV.ptr.injEq, SV.pp.injEq, SV.agg.injEq, SV.osl.injEq, Blk.own.injEq, Blk.iter.injEq, heq_eq_eq, eq_self, List.cons.injEq, evq, evS, Vx.get, setO, setS, dstAt, startS, undefs, ofArgs, ofDV, ofD, one, Ty.isAgg, Ty.size, boxq, flat, allocq, allocA, fieldAddrq, fieldq, tkOf, sizeP, loadq, getB, setB, binq, intBin, strBin, boolBin, pickq, Vx.asB, ofConst, ofCell, nilq, unq, convq, sliceq, slice3q, strCut, slCut, makeFuncq, indexAddrq, indexq, extractq, ifaceq, builtinq, callfq, callq, tlook, toArgs, toDV, toD, oneOf, Vx.both, toInt_self, toSl_self, toSl_slf, toSl_nils, toSl_osl, toSlB_self, arrD_self, toRef_self, toRef_ptr, boxD, no1_self, no2_self, clo1_fn, clo1_f1, clo2_fn, clo2_f2, cloA1_fn, cloA1_f1, cloA2_fn, cloA2_f2, cloT1_self, cloT2_self, mk1, mk2, callT, callO, ownQ, lent, scalL, Ty.scal, toAg_self, glS, glTyp, TF.ob, Bool.and_true, Bool.and_false, Bool.true_and, Bool.false_and, List.take_length, Option.isSome_some, List.getD_cons_zero, Vx.toBool, Vx.toNil, Vx.toStr, Vx.toInt, eqCells, subP, TK.isAgg, Bool.true_or, Bool.or_true, litSlot, Option.toList, List.contains_cons, List.contains_nil, Nat.reduceBEq, Bool.or_false, Bool.false_or, evA, appArgs, appendq, appendQ1, appendQ2, appendQ3, trimN, RetVC, resL, ofRes, List.toList_toArray, Bool.not_true, Bool.not_false, Option.map_some, Option.map_none, Option.bind_some, Option.getD_some, Option.getD_none, List.getElem?_cons_zero, List.getElem?_cons_succ, List.cons_append, List.nil_append, List.append_nil, List.length_cons, List.length_nil, List.drop_succ_cons, List.drop_zero, List.take_succ_cons, List.take_zero, List.map_cons, List.map_nil, List.drop_nil, List.take_nil, ite_true, ite_false, reduceCtorEq, true_and, and_true, false_and, and_false, and_self, if_true, if_false, Bool.false_eq_true, reduceIte, Nat.reduceAdd, Nat.reduceLT, Nat.reduceLeDiff, Nat.reduceSub, Nat.reduceMul, Nat.reduceEqDiff, Nat.zero_lt_one, Nat.lt_add_one, Nat.zero_add, Nat.le_refl, decide_true]
    repeat' (first | (with_reducible refine drawOk_by ?_; kernel_rfl) | (with_reducible refine And.intro ?_ ?_) | (with_reducible intro _)); all_goals (try simp only [decide_eq_true_eq, decide_eq_false_iff_not, Int.not_lt, Int.not_le, beq_iff_eq, bne_iff_ne, beq_eq_false_iff_ne, bne_eq_false_iff_eq, ne_eq, Decidable.not_not] at *)
    all_goals first
      | exact hs
      | rfl
      | trace_state
  | true =>
  have y1 : ctPrintF (mn, sb, ps) = (ctTextF (mn, sb, ps), 0) := by unfold ctPrintF; rw [if_pos hR]
  obtain ⟨b1, b2, b3, b4⟩ := right_bounds hR
  have b1 : mn.length ≤ 64 := b1
  have b2 : sb.length ≤ 64 := b2
  have b3 : ps.length ≤ 8 := b3
  have b4 : ∀ p ∈ ps, p.1.length ≤ 64 ∧ p.2.length ≤ 70 := b4
  have bt : ∀ g, (ctParsT (ps.take g)).length ≤ 2400 := fun g => by
    have := ctParsT_len (ps.take g) fun p hp => b4 p (List.mem_of_mem_take hp)
    rw [List.length_take] at this
    omega
  have hst : ∀ g, g < ps.length → ctParsT (ps.take (g + 1)) = ctParsT (ps.take g) ++ ctParT (ps.getD g tParam.dflt) := fun g hg => by
    rw [take_snocG (d := tParam.dflt) hg, ctParsT_app]; simp [ctParsT]
  simp (maxSteps := 5000000) -implicitDefEqProofs only [ref12PrT, ref12RightT, ref12TokT, hR, y1, Bool.not_true, true_implies, false_implies, Tryz.f7, ti3, ti4, ti5, ti9, ti22, ti23, ti24, ti40, ti41, eqk41, tyo3, tyo4, tyo5, tyo9, tyo22, tyo23, tyo24, tyo40, tyo41, arr3, arr4, arr5, arr9, arr22, arr23, arr24, arr40, arr41, copyx, copyO, nilArgs, nilcmp, nilcmp2, ofZero_row, ofZero_list, ofZero_int, ofZero_bool, ofZero_string, ofZero_slice, ofZero_pointer, ofZero_func, ofZero_iface, ofZero_map, splx, convU, convB, x_den0, x_den1, x_den2, x_den3, x_den4, x_den5, x_den6, x_skip, x_label, x_ret, x_exit, x_seq, x_block, x_cond, x_cnd1, x_cnd2, x_cnd3, x_region, x_draw, x_sq0, x_sq1, x_sq2, x_sqD, x_sqG1, x_sqG2, x_sqG3, x_sqG4, x_sqG5, x_sqG6, x_sqB1, x_sqB2, x_sqE, x_fold, x_put1, x_put0, x_ef1, x_ef2, x_ef3, x_ef4, x_ef5, x_ef6, x_ef7, x_ef8, x_ef9, callIx, callIf, evM, callEx, callEt, callEo, callE2, wpE, frameK, frameK2, inlW, bodyOf, InlR, tupS, undefs, x_ink1, x_ink2, callEf, callE, eArgs, eCons, eConsB, boxDt, setBx, EF.tf, bxs, eStart, eSlots, eH, goneN, boxE, boxesE, RetE, x_fie1, x_fie2, List.contains_nil, storex, castL_self, appendx, appendT, appendS, appendO, appendN, appendF, appendX, appendY, appendZ, srcq, elemSV, bytesD, nexts, nextx, forget, forgetL, forgetB, forgetH, spl, isCell, List.all_cons, List.all_nil, Option.some.injEq, makeq, makeE, makeT, zeroD, bytesTI, buildSq, buildE, buildB, partsD, tiSz, buildT, fillS, okFlat, rangeq, bytesQ, textQ, adopt, adoptOk, getA, setA, getC, setC, Nat.reduceDiv, Nat.reduceMod, List.replicate_zero, Nat.not_lt_zero, x_fin1, x_fin2, x_fio1, x_fio2, x_own1, x_own2, RetOwn, ownVC, x_lk1, x_lk2, x_lk3, x_un0, x_un1, x_un2, x_un3, x_wr1, x_nv2, x_nv3, l_refl, l_any, l_int, l_bool, l_kb, l_kk, l_str, l_sl, l_nils, l_pp, l_ptr, l_osl, l_slf, l_ag, l_sls, l_agg, wrote, List.filterMap_cons_some, List.filterMap_cons_none, List.filterMap_cons, List.filterMap_nil, havoc, setSs, setBs, atHead, Vx.Sub, leS, leH, leB, below, below.belowL, belowB, belowH, SV.int.injEq, SV.bool.injEq, SV.kb.injEq, SV.str.injEq, SV.sl.injEq, SV.ptr.injEq, SV.pp.injEq, SV.agg.injEq, SV.osl.injEq, Blk.own.injEq, Blk.iter.injEq, heq_eq_eq, eq_self, List.cons.injEq, evq, evS, Vx.get, setO, setS, dstAt, startS, undefs, ofArgs, ofDV, ofD, one, Ty.isAgg, Ty.size, boxq, flat, allocq, allocA, fieldAddrq, fieldq, tkOf, sizeP, loadq, getB, setB, binq, intBin, strBin, boolBin, pickq, Vx.asB, ofConst, ofCell, nilq, unq, convq, sliceq, slice3q, strCut, slCut, makeFuncq, indexAddrq, indexq, extractq, ifaceq, builtinq, callfq, callq, tlook, toArgs, toDV, toD, oneOf, Vx.both, toInt_self, toSl_self, toSl_slf, toSl_nils, toSl_osl, toSlB_self, arrD_self, toRef_self, toRef_ptr, boxD, no1_self, no2_self, clo1_fn, clo1_f1, clo2_fn, clo2_f2, cloA1_fn, cloA1_f1, cloA2_fn, cloA2_f2, cloT1_self, cloT2_self, mk1, mk2, callT, callO, ownQ, lent, scalL, Ty.scal, toAg_self, glS, glTyp, TF.ob, Bool.and_true, Bool.and_false, Bool.true_and, Bool.false_and, List.take_length, Option.isSome_some, List.getD_cons_zero, Vx.toBool, Vx.toNil, Vx.toStr, Vx.toInt, eqCells, subP, TK.isAgg, Bool.true_or, Bool.or_true, litSlot, Option.toList, List.contains_cons, List.contains_nil, Nat.reduceBEq, Bool.or_false, Bool.false_or, evA, appArgs, appendq, appendQ1, appendQ2, appendQ3, trimN, RetVC, resL, ofRes, List.toList_toArray, Bool.not_true, Bool.not_false, Option.map_some, Option.map_none, Option.bind_some, Option.getD_some, Option.getD_none, List.getElem?_cons_zero, List.getElem?_cons_succ, List.cons_append, List.nil_append, List.append_nil, List.length_cons, List.length_nil, List.drop_succ_cons, List.drop_zero, List.take_succ_cons, List.take_zero, List.map_cons, List.map_nil, List.drop_nil, List.take_nil, ite_true, ite_false, reduceCtorEq, true_and, and_true, false_and, and_false, and_self, if_true, if_false, Bool.false_eq_true, reduceIte, Nat.reduceAdd, Nat.reduceLT, Nat.reduceLeDiff, Nat.reduceSub, Nat.reduceMul, Nat.reduceEqDiff, Nat.zero_lt_one, Nat.lt_add_one, Nat.zero_add, Nat.le_refl, decide_true]
  repeat' (first | (with_reducible refine drawOk_by ?_; kernel_rfl) | (with_reducible refine And.intro ?_ ?_) | (with_reducible intro _)); all_goals (try simp only [decide_eq_true_eq, decide_eq_false_iff_not, Int.not_lt, Int.not_le, beq_iff_eq, bne_iff_ne, beq_eq_false_iff_ne, bne_eq_false_iff_eq, ne_eq, Decidable.not_not] at *)
  all_goals first
    | exact hs
    | omega
    | (simp only [List.length_append, List.length_cons, List.length_nil]; omega)
    | skip
  refine x_loop (γ := Nat) (fun g => [(4, .str (mn ++ [47] ++ sb ++ ctParsT (ps.take g))), (5, .int .i64 (g : Int))]) (fun _ => []) (fun g => g ≤ ps.length) (fun g => ps.length - g) 0 ⟨Nat.zero_le _, ?_⟩ ?_
  · simp -implicitDefEqProofs only [ctParsT, List.take_zero, List.append_nil, below_nilRow, below_setS1, below_setS2, leS_same, l_mp, SV.mp.injEq, Blk.mp.injEq, undefs, Option.some.injEq, adopt, adoptOk, getA, setA, getC, setC, Nat.reduceDiv, Nat.reduceMod, List.replicate_zero, Nat.not_lt_zero, l_refl, l_any, l_int, l_bool, l_kb, l_kk, l_str, l_sl, l_nils, l_pp, l_ptr, l_osl, l_slf, l_ag, l_sls, l_agg, wrote, List.filterMap_cons_some, List.filterMap_cons_none, List.filterMap_cons, List.filterMap_nil, havoc, setSs, setBs, atHead, Vx.Sub, leS, leH, leB, below, below.belowL, belowB, belowH, SV.int.injEq, SV.bool.injEq, SV.kb.injEq, SV.str.injEq, SV.sl.injEq, SV.ptr.injEq, SV.pp.injEq, SV.agg.injEq, SV.osl.injEq, Blk.own.injEq, Blk.iter.injEq, heq_eq_eq, eq_self, List.cons.injEq, Vx.get, setO, setS, undefs, getB, setB, List.toList_toArray, Option.map_some, Option.map_none, Option.getD_some, Option.getD_none, List.getElem?_cons_zero, List.getElem?_cons_succ, List.cons_append, List.nil_append, List.append_nil, List.length_cons, List.length_nil, ite_true, ite_false, reduceCtorEq, true_and, and_true, false_and, and_false, and_self, if_true, if_false, Bool.false_eq_true, reduceIte, Nat.reduceAdd, Nat.reduceLT, Nat.reduceLeDiff, Nat.reduceSub, Nat.reduceMul, Nat.reduceEqDiff, Nat.zero_lt_one, Nat.lt_add_one, Nat.zero_add, Nat.le_refl, decide_true, below_noVal]
    all_goals trivial
  intro g hg
  have hg : g ≤ ps.length := hg
  have bg := bt g
  simp (maxSteps := 5000000) -implicitDefEqProofs only [ref12TokT, Tryz.f7, ti3, ti4, ti5, ti9, ti22, ti23, ti24, ti40, ti41, eqk41, tyo3, tyo4, tyo5, tyo9, tyo22, tyo23, tyo24, tyo40, tyo41, arr3, arr4, arr5, arr9, arr22, arr23, arr24, arr40, arr41, copyx, copyO, nilArgs, nilcmp, nilcmp2, ofZero_row, ofZero_list, ofZero_int, ofZero_bool, ofZero_string, ofZero_slice, ofZero_pointer, ofZero_func, ofZero_iface, ofZero_map, splx, convU, convB, x_den0, x_den1, x_den2, x_den3, x_den4, x_den5, x_den6, x_skip, x_label, x_ret, x_exit, x_seq, x_block, x_cond, x_cnd1, x_cnd2, x_cnd3, x_region, x_draw, x_sq0, x_sq1, x_sq2, x_sqD, x_sqG1, x_sqG2, x_sqG3, x_sqG4, x_sqG5, x_sqG6, x_sqB1, x_sqB2, x_sqE, x_fold, x_put1, x_put0, x_ef1, x_ef2, x_ef3, x_ef4, x_ef5, x_ef6, x_ef7, x_ef8, x_ef9, callIx, callIf, evM, callEx, callEt, callEo, callE2, wpE, frameK, frameK2, inlW, bodyOf, InlR, tupS, undefs, x_ink1, x_ink2, callEf, callE, eArgs, eCons, eConsB, boxDt, setBx, EF.tf, bxs, eStart, eSlots, eH, goneN, boxE, boxesE, RetE, x_fie1, x_fie2, List.contains_nil, storex, castL_self, appendx, appendT, appendS, appendO, appendN, appendF, appendX, appendY, appendZ, srcq, elemSV, bytesD, nexts, nextx, forget, forgetL, forgetB, forgetH, spl, isCell, List.all_cons, List.all_nil, Option.some.injEq, makeq, makeE, makeT, zeroD, bytesTI, buildSq, buildE, buildB, partsD, tiSz, buildT, fillS, okFlat, rangeq, bytesQ, textQ, adopt, adoptOk, getA, setA, getC, setC, Nat.reduceDiv, Nat.reduceMod, List.replicate_zero, Nat.not_lt_zero, x_fin1, x_fin2, x_fio1, x_fio2, x_own1, x_own2, RetOwn, ownVC, x_lk1, x_lk2, x_lk3, x_un0, x_un1, x_un2, x_un3, x_wr1, x_nv2, x_nv3, l_refl, l_any, l_int, l_bool, l_kb, l_kk, l_str, l_sl, l_nils, l_pp, l_ptr, l_osl, l_slf, l_ag, l_sls, l_agg, wrote, List.filterMap_cons_some, List.filterMap_cons_none, List.filterMap_cons, List.filterMap_nil, havoc, setSs, setBs, atHead, Vx.Sub, leS, leH, leB, below, below.belowL, belowB, belowH, SV.int.injEq, SV.bool.injEq, SV.kb.injEq, SV.str.injEq, SV.sl.injEq, SV.ptr.injEq, SV.pp.injEq, SV.agg.injEq, SV.osl.injEq, Blk.own.injEq, Blk.iter.injEq, heq_eq_eq, eq_self, List.cons.injEq, evq, evS, Vx.get, setO, setS, dstAt, startS, undefs, ofArgs, ofDV, ofD, one, Ty.isAgg, Ty.size, boxq, flat, allocq, allocA, fieldAddrq, fieldq, tkOf, sizeP, loadq, getB, setB, binq, intBin, strBin, boolBin, pickq, Vx.asB, ofConst, ofCell, nilq, unq, convq, sliceq, slice3q, strCut, slCut, makeFuncq, indexAddrq, indexq, extractq, ifaceq, builtinq, callfq, callq, tlook, toArgs, toDV, toD, oneOf, Vx.both, toInt_self, toSl_self, toSl_slf, toSl_nils, toSl_osl, toSlB_self, arrD_self, toRef_self, toRef_ptr, boxD, no1_self, no2_self, clo1_fn, clo1_f1, clo2_fn, clo2_f2, cloA1_fn, cloA1_f1, cloA2_fn, cloA2_f2, cloT1_self, cloT2_self, mk1, mk2, callT, callO, ownQ, lent, scalL, Ty.scal, toAg_self, glS, glTyp, TF.ob, Bool.and_true, Bool.and_false, Bool.true_and, Bool.false_and, List.take_length, Option.isSome_some, List.getD_cons_zero, Vx.toBool, Vx.toNil, Vx.toStr, Vx.toInt, eqCells, subP, TK.isAgg, Bool.true_or, Bool.or_true, litSlot, Option.toList, List.contains_cons, List.contains_nil, Nat.reduceBEq, Bool.or_false, Bool.false_or, evA, appArgs, appendq, appendQ1, appendQ2, appendQ3, trimN, RetVC, resL, ofRes, List.toList_toArray, Bool.not_true, Bool.not_false, Option.map_some, Option.map_none, Option.bind_some, Option.getD_some, Option.getD_none, List.getElem?_cons_zero, List.getElem?_cons_succ, List.cons_append, List.nil_append, List.append_nil, List.length_cons, List.length_nil, List.drop_succ_cons, List.drop_zero, List.take_succ_cons, List.take_zero, List.map_cons, List.map_nil, List.drop_nil, List.take_nil, ite_true, ite_false, reduceCtorEq, true_and, and_true, false_and, and_false, and_self, if_true, if_false, Bool.false_eq_true, reduceIte, Nat.reduceAdd, Nat.reduceLT, Nat.reduceLeDiff, Nat.reduceSub, Nat.reduceMul, Nat.reduceEqDiff, Nat.zero_lt_one, Nat.lt_add_one, Nat.zero_add, Nat.le_refl, decide_true]
  repeat' (first | (with_reducible refine drawOk_by ?_; kernel_rfl) | (with_reducible refine And.intro ?_ ?_) | (with_reducible intro _)); all_goals (try simp only [decide_eq_true_eq, decide_eq_false_iff_not, Int.not_lt, Int.not_le, beq_iff_eq, bne_iff_ne, beq_eq_false_iff_ne, bne_eq_false_iff_eq, ne_eq, Decidable.not_not] at *)
  all_goals (try simp only [Int.toNat_natCast, Bool.not_eq_true', Bool.not_eq_false'] at *)
  all_goals (try
    (have hlt : g < ps.length := by omega
     have hp := b4 _ (getD_mem (d := tParam.dflt) hlt)
     have hs1 := hst g hlt
     generalize ps.getD g tParam.dflt = p at *
     obtain ⟨(n : List UInt8), (v : List UInt8)⟩ := p
     have p1 : n.length ≤ 64 := hp.1
     have p2 : v.length ≤ 70 := hp.2
     first
       | exact Int.natCast_nonneg _
       | omega
       | (show n.length ≤ _; omega)
       | (show v.length ≤ _; omega)
       | (show 2 + n.length ≤ _; omega)
       | (simp only [List.length_append, List.length_cons, List.length_nil]; omega)
       | (refine ⟨g + 1, hlt, by omega, ?_, w64_succ (n := ps.length) hlt (by omega)⟩
          rw [hs1]
          simp [ctParT, ctValT, ‹tokF v = true›])))
  all_goals first
    | exact Int.natCast_nonneg _
    | omega
    | (have hfull : ps.take g = ps := List.take_of_length_le (by omega)
       simp only [hfull, ctTextF]; done)
    | skip
  have hlt : g < ps.length := by omega
  have hp := b4 _ (getD_mem (d := tParam.dflt) hlt)
  have hs1 := hst g hlt
  generalize ps.getD g tParam.dflt = p at *
  obtain ⟨(n : List UInt8), (v : List UInt8)⟩ := p
  have p1 : n.length ≤ 64 := hp.1
  have p2 : v.length ≤ 70 := hp.2
  have hv : tokF v = false := by assumption
  refine x_loop (γ := Nat) (fun k => [(4, .str (mn ++ [47] ++ sb ++ ctParsT (ps.take g) ++ [59, 32] ++ n ++ [61] ++ [34] ++ escF (v.take k))), (7, .int .i64 (k : Int))]) (fun _ => []) (fun k => k ≤ v.length) (fun k => v.length - k) 0 ⟨Nat.zero_le _, ?_⟩ ?_
  · simp -implicitDefEqProofs only [escF, List.take_zero, List.append_nil, below_nilRow, below_setS1, below_setS2, leS_same, l_mp, SV.mp.injEq, Blk.mp.injEq, undefs, Option.some.injEq, adopt, adoptOk, getA, setA, getC, setC, Nat.reduceDiv, Nat.reduceMod, List.replicate_zero, Nat.not_lt_zero, l_refl, l_any, l_int, l_bool, l_kb, l_kk, l_str, l_sl, l_nils, l_pp, l_ptr, l_osl, l_slf, l_ag, l_sls, l_agg, wrote, List.filterMap_cons_some, List.filterMap_cons_none, List.filterMap_cons, List.filterMap_nil, havoc, setSs, setBs, atHead, Vx.Sub, leS, leH, leB, below, below.belowL, belowB, belowH, SV.int.injEq, SV.bool.injEq, SV.kb.injEq, SV.str.injEq, SV.sl.injEq, SV.ptr.injEq, SV.pp.injEq, SV.agg.injEq, SV.osl.injEq, Blk.own.injEq, Blk.iter.injEq, heq_eq_eq, eq_self, List.cons.injEq, Vx.get, setO, setS, undefs, getB, setB, List.toList_toArray, Option.map_some, Option.map_none, Option.getD_some, Option.getD_none, List.getElem?_cons_zero, List.getElem?_cons_succ, List.cons_append, List.nil_append, List.append_nil, List.length_cons, List.length_nil, ite_true, ite_false, reduceCtorEq, true_and, and_true, false_and, and_false, and_self, if_true, if_false, Bool.false_eq_true, reduceIte, Nat.reduceAdd, Nat.reduceLT, Nat.reduceLeDiff, Nat.reduceSub, Nat.reduceMul, Nat.reduceEqDiff, Nat.zero_lt_one, Nat.lt_add_one, Nat.zero_add, Nat.le_refl, decide_true, below_noVal]
    all_goals trivial
  intro k hk
  have hk : k ≤ v.length := hk
  have hel : (escF (v.take k)).length ≤ 140 := by
    have h1 := escF_length (v.take k)
    have h2 := cntE_le (v.take k)
    rw [List.length_take] at h1 h2
    omega
  simp (maxSteps := 5000000) -implicitDefEqProofs only [ref12TokT, Tryz.f7, ti3, ti4, ti5, ti9, ti22, ti23, ti24, ti40, ti41, eqk41, tyo3, tyo4, tyo5, tyo9, tyo22, tyo23, tyo24, tyo40, tyo41, arr3, arr4, arr5, arr9, arr22, arr23, arr24, arr40, arr41, copyx, copyO, nilArgs, nilcmp, nilcmp2, ofZero_row, ofZero_list, ofZero_int, ofZero_bool, ofZero_string, ofZero_slice, ofZero_pointer, ofZero_func, ofZero_iface, ofZero_map, splx, convU, convB, x_den0, x_den1, x_den2, x_den3, x_den4, x_den5, x_den6, x_skip, x_label, x_ret, x_exit, x_seq, x_block, x_cond, x_cnd1, x_cnd2, x_cnd3, x_region, x_draw, x_sq0, x_sq1, x_sq2, x_sqD, x_sqG1, x_sqG2, x_sqG3, x_sqG4, x_sqG5, x_sqG6, x_sqB1, x_sqB2, x_sqE, x_fold, x_put1, x_put0, x_ef1, x_ef2, x_ef3, x_ef4, x_ef5, x_ef6, x_ef7, x_ef8, x_ef9, callIx, callIf, evM, callEx, callEt, callEo, callE2, wpE, frameK, frameK2, inlW, bodyOf, InlR, tupS, undefs, x_ink1, x_ink2, callEf, callE, eArgs, eCons, eConsB, boxDt, setBx, EF.tf, bxs, eStart, eSlots, eH, goneN, boxE, boxesE, RetE, x_fie1, x_fie2, List.contains_nil, storex, castL_self, appendx, appendT, appendS, appendO, appendN, appendF, appendX, appendY, appendZ, srcq, elemSV, bytesD, nexts, nextx, forget, forgetL, forgetB, forgetH, spl, isCell, List.all_cons, List.all_nil, Option.some.injEq, makeq, makeE, makeT, zeroD, bytesTI, buildSq, buildE, buildB, partsD, tiSz, buildT, fillS, okFlat, rangeq, bytesQ, textQ, adopt, adoptOk, getA, setA, getC, setC, Nat.reduceDiv, Nat.reduceMod, List.replicate_zero, Nat.not_lt_zero, x_fin1, x_fin2, x_fio1, x_fio2, x_own1, x_own2, RetOwn, ownVC, x_lk1, x_lk2, x_lk3, x_un0, x_un1, x_un2, x_un3, x_wr1, x_nv2, x_nv3, l_refl, l_any, l_int, l_bool, l_kb, l_kk, l_str, l_sl, l_nils, l_pp, l_ptr, l_osl, l_slf, l_ag, l_sls, l_agg, wrote, List.filterMap_cons_some, List.filterMap_cons_none, List.filterMap_cons, List.filterMap_nil, havoc, setSs, setBs, atHead, Vx.Sub, leS, leH, leB, below, below.belowL, belowB, belowH, SV.int.injEq, SV.bool.injEq, SV.kb.injEq, SV.str.injEq, SV.sl.injEq, SV.ptr.injEq, SV.pp.injEq, SV.agg.injEq, SV.osl.injEq, Blk.own.injEq, Blk.iter.injEq, heq_eq_eq, eq_self, List.cons.injEq, evq, evS, Vx.get, setO, setS, dstAt, startS, undefs, ofArgs, ofDV, ofD, one, Ty.isAgg, Ty.size, boxq, flat, allocq, allocA, fieldAddrq, fieldq, tkOf, sizeP, loadq, getB, setB, binq, intBin, strBin, boolBin, pickq, Vx.asB, ofConst, ofCell, nilq, unq, convq, sliceq, slice3q, strCut, slCut, makeFuncq, indexAddrq, indexq, extractq, ifaceq, builtinq, callfq, callq, tlook, toArgs, toDV, toD, oneOf, Vx.both, toInt_self, toSl_self, toSl_slf, toSl_nils, toSl_osl, toSlB_self, arrD_self, toRef_self, toRef_ptr, boxD, no1_self, no2_self, clo1_fn, clo1_f1, clo2_fn, clo2_f2, cloA1_fn, cloA1_f1, cloA2_fn, cloA2_f2, cloT1_self, cloT2_self, mk1, mk2, callT, callO, ownQ, lent, scalL, Ty.scal, toAg_self, glS, glTyp, TF.ob, Bool.and_true, Bool.and_false, Bool.true_and, Bool.false_and, List.take_length, Option.isSome_some, List.getD_cons_zero, Vx.toBool, Vx.toNil, Vx.toStr, Vx.toInt, eqCells, subP, TK.isAgg, Bool.true_or, Bool.or_true, litSlot, Option.toList, List.contains_cons, List.contains_nil, Nat.reduceBEq, Bool.or_false, Bool.false_or, evA, appArgs, appendq, appendQ1, appendQ2, appendQ3, trimN, RetVC, resL, ofRes, List.toList_toArray, Bool.not_true, Bool.not_false, Option.map_some, Option.map_none, Option.bind_some, Option.getD_some, Option.getD_none, List.getElem?_cons_zero, List.getElem?_cons_succ, List.cons_append, List.nil_append, List.append_nil, List.length_cons, List.length_nil, List.drop_succ_cons, List.drop_zero, List.take_succ_cons, List.take_zero, List.map_cons, List.map_nil, List.drop_nil, List.take_nil, ite_true, ite_false, reduceCtorEq, true_and, and_true, false_and, and_false, and_self, if_true, if_false, Bool.false_eq_true, reduceIte, Nat.reduceAdd, Nat.reduceLT, Nat.reduceLeDiff, Nat.reduceSub, Nat.reduceMul, Nat.reduceEqDiff, Nat.zero_lt_one, Nat.lt_add_one, Nat.zero_add, Nat.le_refl, decide_true]
  repeat' (first | (with_reducible refine drawOk_by ?_; kernel_rfl) | (with_reducible refine And.intro ?_ ?_) | (with_reducible intro _)); all_goals (try simp only [decide_eq_true_eq, decide_eq_false_iff_not, Int.not_lt, Int.not_le, beq_iff_eq, bne_iff_ne, beq_eq_false_iff_ne, bne_eq_false_iff_eq, ne_eq, Decidable.not_not] at *)
  all_goals (try simp only [Int.toNat_natCast] at *)
  all_goals first
    | exact Int.natCast_nonneg _
    | omega
    | (simp only [List.length_append, List.length_cons, List.length_nil]; omega)
    | (have hkl : k < v.length := by omega
       have hw : IntKind.i64.wrap ((k : Int) + 1) = ((k + 1 : Nat) : Int) := by rw [w64 (by omega) (by omega)]; omega
       have ht : List.drop k (List.take (k + 1) v) = [v.getD k 0] := by
         rw [take_snocG (d := (0 : UInt8)) hkl, List.drop_append_of_le_length (by rw [List.length_take]; omega), List.drop_of_length_le (by rw [List.length_take]; omega)]
         rfl
       have he := esc_one v k hkl
       rw [hw]
       first
         | omega
         | (rw [Int.toNat_natCast, ht]; simp only [List.length_append, List.length_cons, List.length_nil]; omega)
         | (rw [Int.toNat_natCast, ht]
            refine ⟨k + 1, hkl, by omega, ?_, rfl⟩
            rw [he]
            first
              | (have hb : v.getD k 0 = 34 := UInt8.toNat_inj.1 (show (v.getD k 0).toNat = 34 by omega)
                 rw [if_pos hb, hb]
                 simp)
              | (have h34 : ¬ v.getD k 0 = 34 := fun e => ‹¬ ((v.getD k 0).toNat : Int) = 34› (by rw [e]; rfl)
                 have hb : v.getD k 0 = 92 := UInt8.toNat_inj.1 (show (v.getD k 0).toNat = 92 by omega)
                 rw [if_neg h34, if_pos hb, hb]
                 simp)
              | (have h34 : ¬ v.getD k 0 = 34 := fun e => ‹¬ ((v.getD k 0).toNat : Int) = 34› (by rw [e]; rfl)
                 have h92 : ¬ v.getD k 0 = 92 := fun e => ‹¬ ((v.getD k 0).toNat : Int) = 92› (by rw [e]; rfl)
                 rw [if_neg h34, if_neg h92]
                 simp)))
    | (rw [show List.take k v = v from List.take_of_length_le (by omega)] at *
       refine ⟨g + 1, hlt, by omega, ?_, w64_succ (n := ps.length) hlt (by omega)⟩
       rw [hs1]
       simp [ctParT, ctValT, hv])
    | trace_state
end Go.Proofs.YtnbicdeehppgpaaGreatDoor
