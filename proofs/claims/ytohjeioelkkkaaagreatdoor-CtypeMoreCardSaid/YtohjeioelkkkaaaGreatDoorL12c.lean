/- Helper lemmas towards this seat's statements: a contract, proved for every input within its own premise, of functions of the program. -/
import Derived.Test.YtohjeioelkkkaaaGreatDoorL12b
import Derived.Test.YtohjeioelkkkaaaGreatDoorPlEsc
namespace Go.Proofs.YtohjeioelkkkaaaGreatDoor
open Go Go.Vx
set_option maxRecDepth 100000
set_option linter.unusedSimpArgs false
set_option linter.unusedVariables false
def ctValT (v : List UInt8) : List UInt8 := if tokF v = true then v else [34] ++ escF v ++ [34]
def ctParT (p : Param) : List UInt8 := [59, 32] ++ p.1 ++ [61] ++ ctValT p.2
def ctParsT : List Param → List UInt8
  | [] => []
  | p :: l => ctParT p ++ ctParsT l
def ctTextF (t : CType) : List UInt8 := t.1 ++ [47] ++ t.2.1 ++ ctParsT t.2.2
def ctPrintF (t : CType) : List UInt8 × Int := if ctRightF t = true then (ctTextF t, 0) else ([], 2)
theorem ctParsT_app : (a b : List Param) → ctParsT (a ++ b) = ctParsT a ++ ctParsT b
  | [], b => rfl
  | p :: a, b => by simp [ctParsT, ctParsT_app a b]
theorem escF_len : (s : List UInt8) → (escF s).length ≤ 2 * s.length
  | [] => Nat.le_refl _
  | b :: l => by
    have := escF_len l
    unfold escF
    split
    · simp only [List.length_cons]; omega
    split
    · simp only [List.length_cons]; omega
    · simp only [List.length_cons]; omega
theorem right_bounds {t : CType} (h : ctRightF t = true) : t.1.length ≤ 64 ∧ t.2.1.length ≤ 64 ∧ t.2.2.length ≤ 8 ∧ ∀ p ∈ t.2.2, p.1.length ≤ 64 ∧ p.2.length ≤ 70 := by
  simp only [ctRightF, Bool.and_eq_true, decide_eq_true_eq] at h
  obtain ⟨⟨⟨h1, h2⟩, h3⟩, h4⟩ := h
  have tk : ∀ s, tokF s = true → s.length ≤ 64 := fun s hs => by
    simp only [tokF, Bool.and_eq_true, decide_eq_true_eq] at hs
    exact hs.1.2
  refine ⟨tk _ h2, tk _ h3, h4, fun p hp => ?_⟩
  obtain ⟨i, hi, e⟩ := List.mem_iff_getElem.1 hp
  have h5 := List.all_eq_true.1 h1 i (List.mem_range.2 hi)
  have e2 : t.2.2.getD i tParam.dflt = p := by rw [List.getD_eq_getElem?_getD, List.getElem?_eq_getElem hi]; exact e
  unfold rightP at h5
  rw [e2] at h5
  simp only [Bool.and_eq_true, valF, decide_eq_true_eq] at h5
  exact ⟨tk _ h5.1.1, h5.1.2.2⟩
theorem ctParsT_len (ps : List Param) (h : ∀ p ∈ ps, p.1.length ≤ 64 ∧ p.2.length ≤ 70) : (ctParsT ps).length ≤ 300 * ps.length := by
  induction ps with
  | nil => exact Nat.le_refl _
  | cons p l ih =>
    have h1 := ih fun q hq => h q (by simp [hq])
    obtain ⟨h2, h3⟩ := h p (by simp)
    have h4 := escF_len p.2
    have h5 : (ctValT p.2).length ≤ 142 := by
      unfold ctValT
      split
      · omega
      · simp only [List.length_append, List.length_cons, List.length_nil]; omega
    simp only [ctParsT, ctParT, List.length_append, List.length_cons, List.length_nil] at h1 ⊢
    omega
def ctPrintLT : TF := { doms := [tType], cods := [.str, .int .i64], pre := fun x => shortT x.1 ∧ ∀ p ∈ (x.1.2.2 : List Param), tokF p.2 = true, fn := fun x => ((ctPrintF x.1).1, (ctPrintF x.1).2, ()) }
theorem ctPrintL_ok : TFOk Tryz.prog 10 ctPrintLT := by
  refine tf_by (tbl := [(21, tokT), (17, ctRightT)]) fol (tblCons tok_ok Tryz.func21 (by kernel_rfl) (tblCons ctRight_ok Tryz.func17 (by kernel_rfl) tblNil)) Tryz.func10 rfl rfl rfl ?_
  rintro ⟨⟨(mn : List UInt8), (sb : List UInt8), (ps : List Param)⟩, _⟩ hpre
  have hs : shortT (mn, sb, ps) := hpre.1
  have ht : ∀ p ∈ ps, tokF p.2 = true := hpre.2
  simp -implicitDefEqProofs only [ctPrintLT, tokT, ctRightT, Tryz.f10, ti3, ti4, ti9, ti22, ti23, ti24, ti41, ti42, ti50, ti61, eqk42, tyo3, tyo4, tyo9, tyo22, tyo23, tyo24, tyo41, tyo42, tyo61, arr3, arr4, arr9, arr22, arr23, arr24, arr41, arr42, arr50, arr61, atLoad, atStore, atCas, atAdd, mark0, mark1, ptr1, cellK, intK, copyx, copyO, nilArgs, nilcmp, nilcmp2, ofZero_row, ofZero_list, ofZero_int, ofZero_bool, ofZero_string, ofZero_slice, ofZero_pointer, ofZero_func, ofZero_iface, ofZero_map, get_setS, setS_length, nilRow_length, get_nilRow, cell_nilRow, cell_setS1, cell_setS2, below_nilRow, below_setS1, below_setS2, leS_same, forget_nilRow, forget_setS, splx, convU, convB, cq_bd, cq_nil0, cq_osub, x_den0, x_den1, x_den2, x_den3, x_den4, x_den5, x_den6, x_skip, x_label, x_ret, x_exit, x_seq, x_block, x_cond, x_cnd1, x_cnd2, x_cnd3, x_region, x_draw, x_sq0, x_sq1, x_sq2, x_sqD, x_sqG1, x_sqG2, x_sqG3, x_sqG4, x_sqG5, x_sqG6, x_sqB1, x_sqB2, x_sqE, x_fold, x_put1, x_put0, x_ef1, x_ef2, x_ef3, x_ef4, x_ef5, x_ef6, x_ef7, x_ef8, x_ef9, callIx, callIf, evM, mkMapq, mkMap1, keyD, lookq, lookq1, lookq2, lookV, sameD, keySV, zeroDV, mapx, mapx1, mapx2, l_mp, SV.mp.injEq, Blk.mp.injEq, callEx, callEt, callEo, callE2, wpE, frameK, frameK2, inlW, bodyOf, InlR, tupS, undefs, x_ink1, x_ink2, callEf, callE, eArgs, eCons, eConsB, boxDt, setBx, EF.tf, bxs, eStart, eSlots, eH, goneN, boxE, boxesE, RetE, x_fie1, x_fie2, List.contains_nil, storex, castL_self, appendx, appendT, appendS, appendO, appendN, appendF, appendX, appendY, appendZ, srcq, elemSV, bytesD, nexts, nextx, forget, forgetL, forgetB, forgetH, spl, isCell, List.all_cons, List.all_nil, Option.some.injEq, makeq, makeE, makeT, zeroD, bytesTI, buildSq, buildE, buildB, partsD, tiSz, buildT, fillS, okFlat, rangeq, bytesQ, textQ, adopt, adoptOk, getA, setA, getC, setC, Nat.reduceDiv, Nat.reduceMod, List.replicate_zero, Nat.not_lt_zero, x_dr0, x_dr1, x_dr2, x_drD, x_drG1, x_drG2, x_drG3, x_drG4, x_drG5, x_drG6, x_drB1, x_fin1, x_fin2, x_fio1, x_fio2, x_own1, x_own2, RetOwn, ownVC, x_lk1, x_lk2, x_lk3, x_un0, x_un1, x_un2, x_un3, x_wr1, x_nv2, x_nv3, l_refl, l_any, l_int, l_bool, l_kb, l_kk, l_str, l_sl, l_nils, l_pp, l_ptr, l_osl, l_slf, l_ag, l_sls, l_agg, wrote, List.filterMap_cons_some, List.filterMap_cons_none, List.filterMap_cons, List.filterMap_nil, havoc, setSs, setBs, atHead, Vx.Sub, leS, leH, leB, below, below.belowL, belowB, belowH, SV.int.injEq, SV.bool.injEq, SV.kb.injEq, SV.str.injEq, SV.sl.injEq, SV.ptr.injEq, SV.pp.injEq, SV.agg.injEq, SV.osl.injEq, Blk.own.injEq, Blk.iter.injEq, heq_eq_eq, eq_self, List.cons.injEq, evq, evS, Vx.get, setO, setS, dstAt, startS, undefs, ofArgs, ofDV, ofD, one, Ty.isAgg, Ty.size, boxq, flat, allocq, allocA, fieldAddrq, fieldq, tkOf, sizeP, loadq, getB, setB, binq, intBin, strBin, boolBin, pickq, Vx.asB, ofConst, ofCell, nilq, unq, convq, sliceq, slice3q, strCut, slCut, makeFuncq, indexAddrq, indexq, extractq, ifaceq, builtinq, callfq, callq, tlook, toArgs, toDV, toD, oneOf, Vx.both, toInt_self, toSl_self, toSl_slf, toSl_nils, toSl_osl, toSlB_self, arrD_self, toRef_self, toRef_ptr, boxD, no1_self, no2_self, clo1_fn, clo1_f1, clo2_fn, clo2_f2, cloA1_fn, cloA1_f1, cloA2_fn, cloA2_f2, cloT1_self, cloT2_self, mk1, mk2, callT, callO, ownQ, lent, scalL, Ty.scal, toAg_self, glS, glTyp, TF.ob, Bool.and_true, Bool.and_false, Bool.true_and, Bool.false_and, List.take_length, Option.isSome_some, List.getD_cons_zero, Vx.toBool, Vx.toNil, Vx.toStr, Vx.toInt, eqCells, subP, TK.isAgg, quietPre, opQuiet, opQuiet.onEmpty, quietTF, quietEf, cloSlot, Bool.true_or, Bool.or_true, cq_noVal, cq_fn, cq_f1, cq_f2, cq_any, cq_int, cq_bool, cq_kb, cq_str, cq_sl, cq_nils, cq_osl, cq_mp, cq_slf, cq_ag, cq_pp, cq_ptr, cq_eptr, cq_nilp, cq_agg, cq_tup, cq_nilf, cq_ifc, cq_nili, cq_raw, litSlot, Option.toList, List.contains_cons, List.contains_nil, Nat.reduceBEq, Bool.or_false, Bool.false_or, evA, appArgs, appendq, appendQ1, appendQ2, appendQ3, trimN, RetVC, resL, ofRes, List.toList_toArray, Bool.not_true, Bool.not_false, Option.map_some, Option.map_none, Option.bind_some, Option.getD_some, Option.getD_none, List.getElem?_cons_zero, List.getElem?_cons_succ, List.cons_append, List.nil_append, List.append_nil, List.length_cons, List.length_nil, List.drop_succ_cons, List.drop_zero, List.take_succ_cons, List.take_zero, List.map_cons, List.map_nil, List.drop_nil, List.take_nil, ite_true, ite_false, reduceCtorEq, true_and, and_true, false_and, and_false, and_self, if_true, if_false, Bool.false_eq_true, reduceIte, Nat.reduceAdd, Nat.reduceLT, Nat.reduceLeDiff, Nat.reduceSub, Nat.reduceMul, Nat.reduceEqDiff, Nat.zero_lt_one, Nat.lt_add_one, Nat.zero_add, Nat.le_refl, decide_true]
  repeat' (first | (with_reducible refine drawOk_by ?_; kernel_rfl) | (with_reducible refine And.intro ?_ ?_) | (with_reducible intro _)); all_goals (try simp only [decide_eq_true_eq, decide_eq_false_iff_not, Int.not_lt, Int.not_le, beq_iff_eq, bne_iff_ne, beq_eq_false_iff_ne, bne_eq_false_iff_eq, ne_eq, Decidable.not_not] at *)
  all_goals (try simp only [Bool.not_eq_true', Bool.not_eq_false'] at *)
  all_goals first
    | exact hs
    | (simp only [ctPrintF, ‹ctRightF (mn, sb, ps) = false›, Bool.false_eq_true, if_false]; done)
    | skip
  all_goals (have hR := ‹ctRightF (mn, sb, ps) = true›)
  all_goals (obtain ⟨b1, b2, b3, b4⟩ := right_bounds hR)
  all_goals (have b1 : mn.length ≤ 64 := b1)
  all_goals (have b2 : sb.length ≤ 64 := b2)
  all_goals (have b3 : ps.length ≤ 8 := b3)
  all_goals (have b4 : ∀ p ∈ ps, p.1.length ≤ 64 ∧ p.2.length ≤ 70 := b4)
  all_goals first
    | omega
    | (simp only [List.length_append, List.length_cons, List.length_nil]; omega)
    | skip
  have bt : ∀ g, (ctParsT (ps.take g)).length ≤ 2400 := fun g => by
    have := ctParsT_len (ps.take g) fun p hp => b4 p (List.mem_of_mem_take hp)
    rw [List.length_take] at this
    omega
  have hst : ∀ g, g < ps.length → ctParsT (ps.take (g + 1)) = ctParsT (ps.take g) ++ ctParT (ps.getD g tParam.dflt) := fun g hg => by
    rw [take_snocG (d := tParam.dflt) hg, ctParsT_app]; simp [ctParsT]
  refine x_loop (γ := Nat) (fun g => [(4, .str (mn ++ [47] ++ sb ++ ctParsT (ps.take g))), (20, .int .i64 (g : Int))]) (fun _ => []) (fun g => g ≤ ps.length) (fun g => ps.length - g) 0 ⟨Nat.zero_le _, ?_⟩ ?_
  · simp -implicitDefEqProofs only [ctParsT, Tryz.f10, ti3, ti4, ti9, ti22, ti23, ti24, ti41, ti42, ti50, ti61, eqk42, tyo3, tyo4, tyo9, tyo22, tyo23, tyo24, tyo41, tyo42, tyo61, arr3, arr4, arr9, arr22, arr23, arr24, arr41, arr42, arr50, arr61, atLoad, atStore, atCas, atAdd, mark0, mark1, ptr1, cellK, intK, copyx, copyO, nilArgs, nilcmp, nilcmp2, ofZero_row, ofZero_list, ofZero_int, ofZero_bool, ofZero_string, ofZero_slice, ofZero_pointer, ofZero_func, ofZero_iface, ofZero_map, get_setS, setS_length, nilRow_length, get_nilRow, cell_nilRow, cell_setS1, cell_setS2, below_nilRow, below_setS1, below_setS2, leS_same, forget_nilRow, forget_setS, splx, convU, convB, cq_bd, cq_nil0, cq_osub, x_den0, x_den1, x_den2, x_den3, x_den4, x_den5, x_den6, x_skip, x_label, x_ret, x_exit, x_seq, x_block, x_cond, x_cnd1, x_cnd2, x_cnd3, x_region, x_draw, x_sq0, x_sq1, x_sq2, x_sqD, x_sqG1, x_sqG2, x_sqG3, x_sqG4, x_sqG5, x_sqG6, x_sqB1, x_sqB2, x_sqE, x_fold, x_put1, x_put0, x_ef1, x_ef2, x_ef3, x_ef4, x_ef5, x_ef6, x_ef7, x_ef8, x_ef9, callIx, callIf, evM, mkMapq, mkMap1, keyD, lookq, lookq1, lookq2, lookV, sameD, keySV, zeroDV, mapx, mapx1, mapx2, l_mp, SV.mp.injEq, Blk.mp.injEq, callEx, callEt, callEo, callE2, wpE, frameK, frameK2, inlW, bodyOf, InlR, tupS, undefs, x_ink1, x_ink2, callEf, callE, eArgs, eCons, eConsB, boxDt, setBx, EF.tf, bxs, eStart, eSlots, eH, goneN, boxE, boxesE, RetE, x_fie1, x_fie2, List.contains_nil, storex, castL_self, appendx, appendT, appendS, appendO, appendN, appendF, appendX, appendY, appendZ, srcq, elemSV, bytesD, nexts, nextx, forget, forgetL, forgetB, forgetH, spl, isCell, List.all_cons, List.all_nil, Option.some.injEq, makeq, makeE, makeT, zeroD, bytesTI, buildSq, buildE, buildB, partsD, tiSz, buildT, fillS, okFlat, rangeq, bytesQ, textQ, adopt, adoptOk, getA, setA, getC, setC, Nat.reduceDiv, Nat.reduceMod, List.replicate_zero, Nat.not_lt_zero, x_dr0, x_dr1, x_dr2, x_drD, x_drG1, x_drG2, x_drG3, x_drG4, x_drG5, x_drG6, x_drB1, x_fin1, x_fin2, x_fio1, x_fio2, x_own1, x_own2, RetOwn, ownVC, x_lk1, x_lk2, x_lk3, x_un0, x_un1, x_un2, x_un3, x_wr1, x_nv2, x_nv3, l_refl, l_any, l_int, l_bool, l_kb, l_kk, l_str, l_sl, l_nils, l_pp, l_ptr, l_osl, l_slf, l_ag, l_sls, l_agg, wrote, List.filterMap_cons_some, List.filterMap_cons_none, List.filterMap_cons, List.filterMap_nil, havoc, setSs, setBs, atHead, Vx.Sub, leS, leH, leB, below, below.belowL, belowB, belowH, SV.int.injEq, SV.bool.injEq, SV.kb.injEq, SV.str.injEq, SV.sl.injEq, SV.ptr.injEq, SV.pp.injEq, SV.agg.injEq, SV.osl.injEq, Blk.own.injEq, Blk.iter.injEq, heq_eq_eq, eq_self, List.cons.injEq, evq, evS, Vx.get, setO, setS, dstAt, startS, undefs, ofArgs, ofDV, ofD, one, Ty.isAgg, Ty.size, boxq, flat, allocq, allocA, fieldAddrq, fieldq, tkOf, sizeP, loadq, getB, setB, binq, intBin, strBin, boolBin, pickq, Vx.asB, ofConst, ofCell, nilq, unq, convq, sliceq, slice3q, strCut, slCut, makeFuncq, indexAddrq, indexq, extractq, ifaceq, builtinq, callfq, callq, tlook, toArgs, toDV, toD, oneOf, Vx.both, toInt_self, toSl_self, toSl_slf, toSl_nils, toSl_osl, toSlB_self, arrD_self, toRef_self, toRef_ptr, boxD, no1_self, no2_self, clo1_fn, clo1_f1, clo2_fn, clo2_f2, cloA1_fn, cloA1_f1, cloA2_fn, cloA2_f2, cloT1_self, cloT2_self, mk1, mk2, callT, callO, ownQ, lent, scalL, Ty.scal, toAg_self, glS, glTyp, TF.ob, Bool.and_true, Bool.and_false, Bool.true_and, Bool.false_and, List.take_length, Option.isSome_some, List.getD_cons_zero, Vx.toBool, Vx.toNil, Vx.toStr, Vx.toInt, eqCells, subP, TK.isAgg, quietPre, opQuiet, opQuiet.onEmpty, quietTF, quietEf, cloSlot, Bool.true_or, Bool.or_true, cq_noVal, cq_fn, cq_f1, cq_f2, cq_any, cq_int, cq_bool, cq_kb, cq_str, cq_sl, cq_nils, cq_osl, cq_mp, cq_slf, cq_ag, cq_pp, cq_ptr, cq_eptr, cq_nilp, cq_agg, cq_tup, cq_nilf, cq_ifc, cq_nili, cq_raw, litSlot, Option.toList, List.contains_cons, List.contains_nil, Nat.reduceBEq, Bool.or_false, Bool.false_or, evA, appArgs, appendq, appendQ1, appendQ2, appendQ3, trimN, RetVC, resL, ofRes, List.toList_toArray, Bool.not_true, Bool.not_false, Option.map_some, Option.map_none, Option.bind_some, Option.getD_some, Option.getD_none, List.getElem?_cons_zero, List.getElem?_cons_succ, List.cons_append, List.nil_append, List.append_nil, List.length_cons, List.length_nil, List.drop_succ_cons, List.drop_zero, List.take_succ_cons, List.take_zero, List.map_cons, List.map_nil, List.drop_nil, List.take_nil, ite_true, ite_false, reduceCtorEq, true_and, and_true, false_and, and_false, and_self, if_true, if_false, Bool.false_eq_true, reduceIte, Nat.reduceAdd, Nat.reduceLT, Nat.reduceLeDiff, Nat.reduceSub, Nat.reduceMul, Nat.reduceEqDiff, Nat.zero_lt_one, Nat.lt_add_one, Nat.zero_add, Nat.le_refl, decide_true]
    all_goals trivial
  intro g hg
  have hg : g ≤ ps.length := hg
  have bg := bt g
  simp -implicitDefEqProofs only [tokT, ctRightT, Tryz.f10, ti3, ti4, ti9, ti22, ti23, ti24, ti41, ti42, ti50, ti61, eqk42, tyo3, tyo4, tyo9, tyo22, tyo23, tyo24, tyo41, tyo42, tyo61, arr3, arr4, arr9, arr22, arr23, arr24, arr41, arr42, arr50, arr61, atLoad, atStore, atCas, atAdd, mark0, mark1, ptr1, cellK, intK, copyx, copyO, nilArgs, nilcmp, nilcmp2, ofZero_row, ofZero_list, ofZero_int, ofZero_bool, ofZero_string, ofZero_slice, ofZero_pointer, ofZero_func, ofZero_iface, ofZero_map, get_setS, setS_length, nilRow_length, get_nilRow, cell_nilRow, cell_setS1, cell_setS2, below_nilRow, below_setS1, below_setS2, leS_same, forget_nilRow, forget_setS, splx, convU, convB, cq_bd, cq_nil0, cq_osub, x_den0, x_den1, x_den2, x_den3, x_den4, x_den5, x_den6, x_skip, x_label, x_ret, x_exit, x_seq, x_block, x_cond, x_cnd1, x_cnd2, x_cnd3, x_region, x_draw, x_sq0, x_sq1, x_sq2, x_sqD, x_sqG1, x_sqG2, x_sqG3, x_sqG4, x_sqG5, x_sqG6, x_sqB1, x_sqB2, x_sqE, x_fold, x_put1, x_put0, x_ef1, x_ef2, x_ef3, x_ef4, x_ef5, x_ef6, x_ef7, x_ef8, x_ef9, callIx, callIf, evM, mkMapq, mkMap1, keyD, lookq, lookq1, lookq2, lookV, sameD, keySV, zeroDV, mapx, mapx1, mapx2, l_mp, SV.mp.injEq, Blk.mp.injEq, callEx, callEt, callEo, callE2, wpE, frameK, frameK2, inlW, bodyOf, InlR, tupS, undefs, x_ink1, x_ink2, callEf, callE, eArgs, eCons, eConsB, boxDt, setBx, EF.tf, bxs, eStart, eSlots, eH, goneN, boxE, boxesE, RetE, x_fie1, x_fie2, List.contains_nil, storex, castL_self, appendx, appendT, appendS, appendO, appendN, appendF, appendX, appendY, appendZ, srcq, elemSV, bytesD, nexts, nextx, forget, forgetL, forgetB, forgetH, spl, isCell, List.all_cons, List.all_nil, Option.some.injEq, makeq, makeE, makeT, zeroD, bytesTI, buildSq, buildE, buildB, partsD, tiSz, buildT, fillS, okFlat, rangeq, bytesQ, textQ, adopt, adoptOk, getA, setA, getC, setC, Nat.reduceDiv, Nat.reduceMod, List.replicate_zero, Nat.not_lt_zero, x_dr0, x_dr1, x_dr2, x_drD, x_drG1, x_drG2, x_drG3, x_drG4, x_drG5, x_drG6, x_drB1, x_fin1, x_fin2, x_fio1, x_fio2, x_own1, x_own2, RetOwn, ownVC, x_lk1, x_lk2, x_lk3, x_un0, x_un1, x_un2, x_un3, x_wr1, x_nv2, x_nv3, l_refl, l_any, l_int, l_bool, l_kb, l_kk, l_str, l_sl, l_nils, l_pp, l_ptr, l_osl, l_slf, l_ag, l_sls, l_agg, wrote, List.filterMap_cons_some, List.filterMap_cons_none, List.filterMap_cons, List.filterMap_nil, havoc, setSs, setBs, atHead, Vx.Sub, leS, leH, leB, below, below.belowL, belowB, belowH, SV.int.injEq, SV.bool.injEq, SV.kb.injEq, SV.str.injEq, SV.sl.injEq, SV.ptr.injEq, SV.pp.injEq, SV.agg.injEq, SV.osl.injEq, Blk.own.injEq, Blk.iter.injEq, heq_eq_eq, eq_self, List.cons.injEq, evq, evS, Vx.get, setO, setS, dstAt, startS, undefs, ofArgs, ofDV, ofD, one, Ty.isAgg, Ty.size, boxq, flat, allocq, allocA, fieldAddrq, fieldq, tkOf, sizeP, loadq, getB, setB, binq, intBin, strBin, boolBin, pickq, Vx.asB, ofConst, ofCell, nilq, unq, convq, sliceq, slice3q, strCut, slCut, makeFuncq, indexAddrq, indexq, extractq, ifaceq, builtinq, callfq, callq, tlook, toArgs, toDV, toD, oneOf, Vx.both, toInt_self, toSl_self, toSl_slf, toSl_nils, toSl_osl, toSlB_self, arrD_self, toRef_self, toRef_ptr, boxD, no1_self, no2_self, clo1_fn, clo1_f1, clo2_fn, clo2_f2, cloA1_fn, cloA1_f1, cloA2_fn, cloA2_f2, cloT1_self, cloT2_self, mk1, mk2, callT, callO, ownQ, lent, scalL, Ty.scal, toAg_self, glS, glTyp, TF.ob, Bool.and_true, Bool.and_false, Bool.true_and, Bool.false_and, List.take_length, Option.isSome_some, List.getD_cons_zero, Vx.toBool, Vx.toNil, Vx.toStr, Vx.toInt, eqCells, subP, TK.isAgg, quietPre, opQuiet, opQuiet.onEmpty, quietTF, quietEf, cloSlot, Bool.true_or, Bool.or_true, cq_noVal, cq_fn, cq_f1, cq_f2, cq_any, cq_int, cq_bool, cq_kb, cq_str, cq_sl, cq_nils, cq_osl, cq_mp, cq_slf, cq_ag, cq_pp, cq_ptr, cq_eptr, cq_nilp, cq_agg, cq_tup, cq_nilf, cq_ifc, cq_nili, cq_raw, litSlot, Option.toList, List.contains_cons, List.contains_nil, Nat.reduceBEq, Bool.or_false, Bool.false_or, evA, appArgs, appendq, appendQ1, appendQ2, appendQ3, trimN, RetVC, resL, ofRes, List.toList_toArray, Bool.not_true, Bool.not_false, Option.map_some, Option.map_none, Option.bind_some, Option.getD_some, Option.getD_none, List.getElem?_cons_zero, List.getElem?_cons_succ, List.cons_append, List.nil_append, List.append_nil, List.length_cons, List.length_nil, List.drop_succ_cons, List.drop_zero, List.take_succ_cons, List.take_zero, List.map_cons, List.map_nil, List.drop_nil, List.take_nil, ite_true, ite_false, reduceCtorEq, true_and, and_true, false_and, and_false, and_self, if_true, if_false, Bool.false_eq_true, reduceIte, Nat.reduceAdd, Nat.reduceLT, Nat.reduceLeDiff, Nat.reduceSub, Nat.reduceMul, Nat.reduceEqDiff, Nat.zero_lt_one, Nat.lt_add_one, Nat.zero_add, Nat.le_refl, decide_true]
  repeat' (first | (with_reducible refine drawOk_by ?_; kernel_rfl) | (with_reducible refine And.intro ?_ ?_) | (with_reducible intro _)); all_goals (try simp only [decide_eq_true_eq, decide_eq_false_iff_not, Int.not_lt, Int.not_le, beq_iff_eq, bne_iff_ne, beq_eq_false_iff_ne, bne_eq_false_iff_eq, ne_eq, Decidable.not_not] at *)
  all_goals (try simp only [Int.toNat_natCast, Bool.not_eq_true', Bool.not_eq_false'] at *)
  all_goals (try
    (have hlt : g < ps.length := by omega
     have hp := b4 _ (getD_mem (d := tParam.dflt) hlt)
     have htk := ht _ (getD_mem (d := tParam.dflt) hlt)
     have hs1 := hst g hlt
     generalize ps.getD g tParam.dflt = p at *
     obtain ⟨(n : List UInt8), (v : List UInt8)⟩ := p
     have p1 : n.length ≤ 64 := hp.1
     have p2 : v.length ≤ 70 := hp.2
     have htk : tokF v = true := htk
     first
       | exact Int.natCast_nonneg _
       | omega
       | (show n.length ≤ _; omega)
       | (show v.length ≤ _; omega)
       | (show 2 + n.length ≤ _; omega)
       | (simp only [List.length_append, List.length_cons, List.length_nil]; omega)
       | (exact absurd htk (by rw [‹tokF _ = false›]; simp))
       | (refine ⟨g + 1, hlt, by omega, ?_, w64_succ (n := ps.length) hlt (by omega)⟩
          rw [hs1]
          simp [ctParT, ctValT, htk])))
  all_goals first
    | (have hfull : ps.take g = ps := List.take_of_length_le (by omega)
       simp only [hfull, ctPrintF, if_pos hR, ctTextF]; done)
    | trace_state
end Go.Proofs.YtohjeioelkkkaaaGreatDoor
