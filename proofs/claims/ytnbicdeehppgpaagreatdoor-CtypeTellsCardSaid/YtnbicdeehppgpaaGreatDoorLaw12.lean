/- Helper lemmas towards this seat's statements: a contract, proved for every input within its own premise, of functions of the program. -/
import Derived.Test.YtnbicdeehppgpaaGreatDoorL12d
namespace Go.Proofs.YtnbicdeehppgpaaGreatDoor
open Go Go.Vx
set_option maxRecDepth 100000
set_option linter.unusedSimpArgs false
set_option linter.unusedVariables false
def few12F (t : CType) : Bool := (List.range t.2.2.length).all (fun i => decide (i < 20) && decide ((t.2.2.getD i tParam.dflt).1.length ≤ 200) && decide ((t.2.2.getD i tParam.dflt).2.length ≤ 200)) && decide (t.1.length ≤ 200) && decide (t.2.1.length ≤ 200)
theorem few12_short {t : CType} (h : few12F t = true) : shortT t ∧ t.2.2.length ≤ 20 ∧ t.1.length ≤ 200 ∧ t.2.1.length ≤ 200 ∧ ∀ p ∈ t.2.2, p.1.length ≤ 200 ∧ p.2.length ≤ 200 := by
  simp only [few12F, Bool.and_eq_true, decide_eq_true_eq] at h
  obtain ⟨⟨h1, h2⟩, h3⟩ := h
  have h4 := fun i (hi : i < t.2.2.length) => List.all_eq_true.1 h1 i (List.mem_range.2 hi)
  simp only [Bool.and_eq_true, decide_eq_true_eq] at h4
  have h5 : t.2.2.length ≤ 20 := by
    rcases Nat.lt_or_ge 20 t.2.2.length with h | h
    · have := (h4 20 h).1.1; omega
    · exact h
  have h6 : ∀ p ∈ t.2.2, p.1.length ≤ 200 ∧ p.2.length ≤ 200 := fun p hp => by
    obtain ⟨i, hi, e⟩ := List.mem_iff_getElem.1 hp
    have e2 : t.2.2.getD i tParam.dflt = p := by rw [List.getD_eq_getElem?_getD, List.getElem?_eq_getElem hi]; exact e
    have := h4 i hi
    rw [e2] at this
    exact ⟨this.1.2, this.2⟩
  exact ⟨⟨by omega, by omega, by omega, fun p hp => by have := h6 p hp; omega⟩, h5, h2, h3, h6⟩
def few12T : TF := { doms := [tType], cods := [.bool], pre := fun _ => True, fn := fun x => (few12F x.1, ()) }
theorem few12_ok : TFOk Tryz.prog 5 few12T := by
  refine tf_by (tbl := []) fol tblNil Tryz.func5 rfl rfl rfl ?_
  rintro ⟨⟨(mn : List UInt8), (sb : List UInt8), (ps : List Param)⟩, _⟩ hpre
  let ok : Nat → Bool := fun i => decide (i < 20) && decide ((ps.getD i tParam.dflt).1.length ≤ 200) && decide ((ps.getD i tParam.dflt).2.length ≤ 200)
  have hdef : few12F (mn, sb, ps) = ((List.range ps.length).all ok && decide (mn.length ≤ 200) && decide (sb.length ≤ 200)) := rfl
  have hno : ∀ g, g < ps.length → ok g = false → few12F (mn, sb, ps) = false := fun g hg h => by
    have : (List.range ps.length).all ok = false := List.all_eq_false.2 ⟨g, List.mem_range.2 hg, by rw [h]; simp⟩
    rw [hdef, this]; rfl
  have hyes : ∀ g, ps.length ≤ g → (∀ k, k < g → ok k = true) → (List.range ps.length).all ok = true := fun g hg h => List.all_eq_true.2 fun k hk => h k (by have := List.mem_range.1 hk; omega)
  have hok : ∀ i, ok i = (decide (i < 20) && decide ((ps.getD i tParam.dflt).1.length ≤ 200) && decide ((ps.getD i tParam.dflt).2.length ≤ 200)) := fun i => rfl
  clear_value ok
  simp -implicitDefEqProofs only [few12T, Tryz.f5, ti3, ti9, ti22, ti23, ti24, ti40, ti41, eqk41, tyo3, tyo9, tyo22, tyo23, tyo24, tyo40, tyo41, arr3, arr9, arr22, arr23, arr24, arr40, arr41, copyx, copyO, nilArgs, nilcmp, nilcmp2, ofZero_row, ofZero_list, ofZero_int, ofZero_bool, ofZero_string, ofZero_slice, ofZero_pointer, ofZero_func, ofZero_iface, ofZero_map, splx, convU, convB, x_den0, x_den1, x_den2, x_den3, x_den4, x_den5, x_den6, x_skip, x_label, x_ret, x_exit, x_seq, x_block, x_cond, x_cnd1, x_cnd2, x_cnd3, x_region, x_draw, x_sq0, x_sq1, x_sq2, x_sqD, x_sqG1, x_sqG2, x_sqG3, x_sqG4, x_sqG5, x_sqG6, x_sqB1, x_sqB2, x_sqE, x_fold, x_put1, x_put0, x_ef1, x_ef2, x_ef3, x_ef4, x_ef5, x_ef6, x_ef7, x_ef8, x_ef9, callIx, callIf, evM, callEx, callEt, callEo, callE2, wpE, frameK, frameK2, inlW, bodyOf, InlR, tupS, undefs, x_ink1, x_ink2, callEf, callE, eArgs, eCons, eConsB, boxDt, setBx, EF.tf, bxs, eStart, eSlots, eH, goneN, boxE, boxesE, RetE, x_fie1, x_fie2, List.contains_nil, storex, castL_self, appendx, appendT, appendS, appendO, appendN, appendF, appendX, appendY, appendZ, srcq, elemSV, bytesD, nexts, nextx, forget, forgetL, forgetB, forgetH, spl, isCell, List.all_cons, List.all_nil, Option.some.injEq, makeq, makeE, makeT, zeroD, bytesTI, buildSq, buildE, buildB, partsD, tiSz, buildT, fillS, okFlat, rangeq, bytesQ, textQ, adopt, adoptOk, getA, setA, getC, setC, Nat.reduceDiv, Nat.reduceMod, List.replicate_zero, Nat.not_lt_zero, x_fin1, x_fin2, x_fio1, x_fio2, x_own1, x_own2, RetOwn, ownVC, x_lk1, x_lk2, x_lk3, x_un0, x_un1, x_un2, x_un3, x_wr1, x_nv2, x_nv3, l_refl, l_any, l_int, l_bool, l_kb, l_kk, l_str, l_sl, l_nils, l_pp, l_ptr, l_osl, l_slf, l_ag, l_sls, l_agg, wrote, List.filterMap_cons_some, List.filterMap_cons_none, List.filterMap_cons, List.filterMap_nil, havoc, setSs, setBs, atHead, Vx.Sub, leS, leH, leB, below, below.belowL, belowB, belowH, SV.int.injEq, SV.bool.injEq, SV.kb.injEq, SV.str.injEq, SV.sl.injEq, SV.ptr.injEq, SV.pp.injEq, SV.agg.injEq, SV.osl.injEq, Blk.own.injEq, Blk.iter.injEq, heq_eq_eq, eq_self, List.cons.injEq, evq, evS, Vx.get, setO, setS, dstAt, startS, undefs, ofArgs, ofDV, ofD, one, Ty.isAgg, Ty.size, boxq, flat, allocq, allocA, fieldAddrq, fieldq, tkOf, sizeP, loadq, getB, setB, binq, intBin, strBin, boolBin, pickq, Vx.asB, ofConst, ofCell, nilq, unq, convq, sliceq, slice3q, strCut, slCut, makeFuncq, indexAddrq, indexq, extractq, ifaceq, builtinq, callfq, callq, tlook, toArgs, toDV, toD, oneOf, Vx.both, toInt_self, toSl_self, toSl_slf, toSl_nils, toSl_osl, toSlB_self, arrD_self, toRef_self, toRef_ptr, boxD, no1_self, no2_self, clo1_fn, clo1_f1, clo2_fn, clo2_f2, cloA1_fn, cloA1_f1, cloA2_fn, cloA2_f2, cloT1_self, cloT2_self, mk1, mk2, callT, callO, ownQ, lent, scalL, Ty.scal, toAg_self, glS, glTyp, TF.ob, Bool.and_true, Bool.and_false, Bool.true_and, Bool.false_and, List.take_length, Option.isSome_some, List.getD_cons_zero, Vx.toBool, Vx.toNil, Vx.toStr, Vx.toInt, eqCells, subP, TK.isAgg, Bool.true_or, Bool.or_true, litSlot, Option.toList, List.contains_cons, List.contains_nil, Nat.reduceBEq, Bool.or_false, Bool.false_or, evA, appArgs, appendq, appendQ1, appendQ2, appendQ3, trimN, RetVC, resL, ofRes, List.toList_toArray, Bool.not_true, Bool.not_false, Option.map_some, Option.map_none, Option.bind_some, Option.getD_some, Option.getD_none, List.getElem?_cons_zero, List.getElem?_cons_succ, List.cons_append, List.nil_append, List.append_nil, List.length_cons, List.length_nil, List.drop_succ_cons, List.drop_zero, List.take_succ_cons, List.take_zero, List.map_cons, List.map_nil, List.drop_nil, List.take_nil, ite_true, ite_false, reduceCtorEq, true_and, and_true, false_and, and_false, and_self, if_true, if_false, Bool.false_eq_true, reduceIte, Nat.reduceAdd, Nat.reduceLT, Nat.reduceLeDiff, Nat.reduceSub, Nat.reduceMul, Nat.reduceEqDiff, Nat.zero_lt_one, Nat.lt_add_one, Nat.zero_add, Nat.le_refl, decide_true]
  refine x_loop (γ := Nat) (fun g => [(3, .int .i64 (g : Int))]) (fun _ => []) (fun g => (g ≤ ps.length ∧ g ≤ 20) ∧ ∀ k, k < g → ok k = true) (fun g => ps.length - g) 0 ⟨⟨⟨Nat.zero_le _, Nat.zero_le _⟩, fun k h => absurd h (Nat.not_lt_zero _)⟩, ?_⟩ ?_
  · simp -implicitDefEqProofs only [below_nilRow, below_setS1, below_setS2, leS_same, l_mp, SV.mp.injEq, Blk.mp.injEq, undefs, Option.some.injEq, adopt, adoptOk, getA, setA, getC, setC, Nat.reduceDiv, Nat.reduceMod, List.replicate_zero, Nat.not_lt_zero, l_refl, l_any, l_int, l_bool, l_kb, l_kk, l_str, l_sl, l_nils, l_pp, l_ptr, l_osl, l_slf, l_ag, l_sls, l_agg, wrote, List.filterMap_cons_some, List.filterMap_cons_none, List.filterMap_cons, List.filterMap_nil, havoc, setSs, setBs, atHead, Vx.Sub, leS, leH, leB, below, below.belowL, belowB, belowH, SV.int.injEq, SV.bool.injEq, SV.kb.injEq, SV.str.injEq, SV.sl.injEq, SV.ptr.injEq, SV.pp.injEq, SV.agg.injEq, SV.osl.injEq, Blk.own.injEq, Blk.iter.injEq, heq_eq_eq, eq_self, List.cons.injEq, Vx.get, setO, setS, undefs, getB, setB, List.toList_toArray, Option.map_some, Option.map_none, Option.getD_some, Option.getD_none, List.getElem?_cons_zero, List.getElem?_cons_succ, List.cons_append, List.nil_append, List.append_nil, List.length_cons, List.length_nil, ite_true, ite_false, reduceCtorEq, true_and, and_true, false_and, and_false, and_self, if_true, if_false, Bool.false_eq_true, reduceIte, Nat.reduceAdd, Nat.reduceLT, Nat.reduceLeDiff, Nat.reduceSub, Nat.reduceMul, Nat.reduceEqDiff, Nat.zero_lt_one, Nat.lt_add_one, Nat.zero_add, Nat.le_refl, decide_true, below_noVal]
    trivial
  intro g hg
  have hg1 : g ≤ ps.length := hg.1.1
  have hg2 : g ≤ 20 := hg.1.2
  have hg3 : ∀ k, k < g → ok k = true := hg.2
  clear hg
  simp -implicitDefEqProofs only [Tryz.f5, ti3, ti9, ti22, ti23, ti24, ti40, ti41, eqk41, tyo3, tyo9, tyo22, tyo23, tyo24, tyo40, tyo41, arr3, arr9, arr22, arr23, arr24, arr40, arr41, copyx, copyO, nilArgs, nilcmp, nilcmp2, ofZero_row, ofZero_list, ofZero_int, ofZero_bool, ofZero_string, ofZero_slice, ofZero_pointer, ofZero_func, ofZero_iface, ofZero_map, splx, convU, convB, x_den0, x_den1, x_den2, x_den3, x_den4, x_den5, x_den6, x_skip, x_label, x_ret, x_exit, x_seq, x_block, x_cond, x_cnd1, x_cnd2, x_cnd3, x_region, x_draw, x_sq0, x_sq1, x_sq2, x_sqD, x_sqG1, x_sqG2, x_sqG3, x_sqG4, x_sqG5, x_sqG6, x_sqB1, x_sqB2, x_sqE, x_fold, x_put1, x_put0, x_ef1, x_ef2, x_ef3, x_ef4, x_ef5, x_ef6, x_ef7, x_ef8, x_ef9, callIx, callIf, evM, callEx, callEt, callEo, callE2, wpE, frameK, frameK2, inlW, bodyOf, InlR, tupS, undefs, x_ink1, x_ink2, callEf, callE, eArgs, eCons, eConsB, boxDt, setBx, EF.tf, bxs, eStart, eSlots, eH, goneN, boxE, boxesE, RetE, x_fie1, x_fie2, List.contains_nil, storex, castL_self, appendx, appendT, appendS, appendO, appendN, appendF, appendX, appendY, appendZ, srcq, elemSV, bytesD, nexts, nextx, forget, forgetL, forgetB, forgetH, spl, isCell, List.all_cons, List.all_nil, Option.some.injEq, makeq, makeE, makeT, zeroD, bytesTI, buildSq, buildE, buildB, partsD, tiSz, buildT, fillS, okFlat, rangeq, bytesQ, textQ, adopt, adoptOk, getA, setA, getC, setC, Nat.reduceDiv, Nat.reduceMod, List.replicate_zero, Nat.not_lt_zero, x_fin1, x_fin2, x_fio1, x_fio2, x_own1, x_own2, RetOwn, ownVC, x_lk1, x_lk2, x_lk3, x_un0, x_un1, x_un2, x_un3, x_wr1, x_nv2, x_nv3, l_refl, l_any, l_int, l_bool, l_kb, l_kk, l_str, l_sl, l_nils, l_pp, l_ptr, l_osl, l_slf, l_ag, l_sls, l_agg, wrote, List.filterMap_cons_some, List.filterMap_cons_none, List.filterMap_cons, List.filterMap_nil, havoc, setSs, setBs, atHead, Vx.Sub, leS, leH, leB, below, below.belowL, belowB, belowH, SV.int.injEq, SV.bool.injEq, SV.kb.injEq, SV.str.injEq, SV.sl.injEq, SV.ptr.injEq, SV.pp.injEq, SV.agg.injEq, SV.osl.injEq, Blk.own.injEq, Blk.iter.injEq, heq_eq_eq, eq_self, List.cons.injEq, evq, evS, Vx.get, setO, setS, dstAt, startS, undefs, ofArgs, ofDV, ofD, one, Ty.isAgg, Ty.size, boxq, flat, allocq, allocA, fieldAddrq, fieldq, tkOf, sizeP, loadq, getB, setB, binq, intBin, strBin, boolBin, pickq, Vx.asB, ofConst, ofCell, nilq, unq, convq, sliceq, slice3q, strCut, slCut, makeFuncq, indexAddrq, indexq, extractq, ifaceq, builtinq, callfq, callq, tlook, toArgs, toDV, toD, oneOf, Vx.both, toInt_self, toSl_self, toSl_slf, toSl_nils, toSl_osl, toSlB_self, arrD_self, toRef_self, toRef_ptr, boxD, no1_self, no2_self, clo1_fn, clo1_f1, clo2_fn, clo2_f2, cloA1_fn, cloA1_f1, cloA2_fn, cloA2_f2, cloT1_self, cloT2_self, mk1, mk2, callT, callO, ownQ, lent, scalL, Ty.scal, toAg_self, glS, glTyp, TF.ob, Bool.and_true, Bool.and_false, Bool.true_and, Bool.false_and, List.take_length, Option.isSome_some, List.getD_cons_zero, Vx.toBool, Vx.toNil, Vx.toStr, Vx.toInt, eqCells, subP, TK.isAgg, Bool.true_or, Bool.or_true, litSlot, Option.toList, List.contains_cons, List.contains_nil, Nat.reduceBEq, Bool.or_false, Bool.false_or, evA, appArgs, appendq, appendQ1, appendQ2, appendQ3, trimN, RetVC, resL, ofRes, List.toList_toArray, Bool.not_true, Bool.not_false, Option.map_some, Option.map_none, Option.bind_some, Option.getD_some, Option.getD_none, List.getElem?_cons_zero, List.getElem?_cons_succ, List.cons_append, List.nil_append, List.append_nil, List.length_cons, List.length_nil, List.drop_succ_cons, List.drop_zero, List.take_succ_cons, List.take_zero, List.map_cons, List.map_nil, List.drop_nil, List.take_nil, ite_true, ite_false, reduceCtorEq, true_and, and_true, false_and, and_false, and_self, if_true, if_false, Bool.false_eq_true, reduceIte, Nat.reduceAdd, Nat.reduceLT, Nat.reduceLeDiff, Nat.reduceSub, Nat.reduceMul, Nat.reduceEqDiff, Nat.zero_lt_one, Nat.lt_add_one, Nat.zero_add, Nat.le_refl, decide_true]
  repeat' (first | (with_reducible refine drawOk_by ?_; kernel_rfl) | (with_reducible refine And.intro ?_ ?_) | (with_reducible intro _)); all_goals (try simp only [decide_eq_true_eq, decide_eq_false_iff_not, Int.not_lt, Int.not_le, beq_iff_eq, bne_iff_ne, beq_eq_false_iff_ne, bne_eq_false_iff_eq, ne_eq, Decidable.not_not] at *)
  all_goals (try simp only [Int.toNat_natCast, Bool.not_eq_true', Bool.not_eq_false'] at *)
  all_goals first
    | exact Int.natCast_nonneg _
    | omega
    | (rw [hno g (by omega) (by rw [hok, decide_eq_false (show ¬ g < 20 by omega)]; rfl)]; done)
    | (have h1 : ¬ (ps.getD g tParam.dflt).1.length ≤ 200 := fun h => absurd (Int.ofNat_le.2 h) (Int.not_le.2 ‹200 < ((List.length (ps.getD g tParam.dflt).1 : Nat) : Int)›)
       rw [hno g (by omega) (by rw [hok, decide_eq_false h1, Bool.and_false, Bool.false_and])]; done)
    | (have h1 : ¬ (ps.getD g tParam.dflt).2.length ≤ 200 := fun h => absurd (Int.ofNat_le.2 h) (Int.not_le.2 ‹200 < ((List.length (ps.getD g tParam.dflt).2 : Nat) : Int)›)
       rw [hno g (by omega) (by rw [hok, decide_eq_false h1, Bool.and_false])]; done)
    | (have hl : ps.length ≤ g := by omega
       rw [hdef, hyes g hl hg3, Bool.true_and]
       first
         | (rw [decide_eq_true (show mn.length ≤ 200 by omega), Bool.true_and, decide_eq_decide.2 (show (sb.length : Int) ≤ 200 ↔ sb.length ≤ 200 by omega)]; done)
         | (rw [decide_eq_false (show ¬ mn.length ≤ 200 by omega), Bool.false_and]; done))
    | (have hn : ok g = true := by
         rw [hok]
         have a1 : (ps.getD g tParam.dflt).1.length ≤ 200 := by first | omega | exact Int.ofNat_le.1 ‹_›
         have a2 : (ps.getD g tParam.dflt).2.length ≤ 200 := by first | omega | exact Int.ofNat_le.1 ‹_›
         rw [decide_eq_true a1, decide_eq_true a2, decide_eq_true (show g < 20 by omega)]; rfl
       refine ⟨g + 1, ⟨⟨by omega, by omega⟩, fun k hk => ?_⟩, by omega, ?_⟩
       · rcases Nat.lt_or_ge k g with h | h
         · exact hg3 k h
         · obtain rfl : k = g := by omega
           exact hn
       · rw [w64 (by omega) (by omega)]; omega)
    | trace_state
def awake12T : TF := { doms := [], cods := [.bool], pre := fun _ => True, fn := fun _ => (true, ()) }
theorem aw12a : ctParseF [84, 101, 120, 116, 47, 80, 108, 97, 105, 110, 32, 59, 32, 99, 104, 97, 114, 115, 101, 116, 61, 34, 117, 116, 102, 45, 56, 34] = (([116, 101, 120, 116], [112, 108, 97, 105, 110], [([99, 104, 97, 114, 115, 101, 116], [117, 116, 102, 45, 56])]), 0) := by decide +kernel
theorem aw12b : ctParseF [116, 101, 120, 116] = (([], [], []), 2) := by decide +kernel
theorem aw12c : ctPrintF ([116, 101, 120, 116], [112, 108, 97, 105, 110], [([99, 104, 97, 114, 115, 101, 116], [117, 116, 102, 45, 56])]) = ([116, 101, 120, 116, 47, 112, 108, 97, 105, 110, 59, 32, 99, 104, 97, 114, 115, 101, 116, 61, 117, 116, 102, 45, 56], 0) := by decide +kernel
theorem aw12d : ctParamF [([99, 104, 97, 114, 115, 101, 116], [117, 116, 102, 45, 56])] [99, 104, 97, 114, 115, 101, 116] = ([117, 116, 102, 45, 56], true) := by decide +kernel
theorem aw12e : ctRightF ([116, 101, 120, 116], [112, 108, 97, 105, 110], [([99, 104, 97, 114, 115, 101, 116], [117, 116, 102, 45, 56])]) = true := by decide +kernel
theorem aw12f : ctSameF ([116, 101, 120, 116], [112, 108, 97, 105, 110], [([99, 104, 97, 114, 115, 101, 116], [117, 116, 102, 45, 56])]) ([116, 101, 120, 116], [112, 108, 97, 105, 110], [([99, 104, 97, 114, 115, 101, 116], [117, 116, 102, 45, 56])]) = true := by decide +kernel
theorem aw12g : ctSameF ([116, 101, 120, 116], [112, 108, 97, 105, 110], [([99, 104, 97, 114, 115, 101, 116], [117, 116, 102, 45, 56])]) ([], [], []) = false := by decide +kernel
theorem awake12_ok : TFOk Tryz.prog 4 awake12T := by
  refine tf_by (tbl := [(8, ctParseT), (6, ctPrintT), (10, ctParamT), (13, ctRightT), (15, ctSameT)]) fol (tblCons ctParse_ok Tryz.func8 (by kernel_rfl) (tblCons ctPrint_ok Tryz.func6 (by kernel_rfl) (tblCons ctParam_ok Tryz.func10 (by kernel_rfl) (tblCons ctRight_ok Tryz.func13 (by kernel_rfl) (tblCons ctSame_ok Tryz.func15 (by kernel_rfl) tblNil))))) Tryz.func4 rfl rfl rfl ?_
  rintro _ hpre
  simp -implicitDefEqProofs only [awake12T, ctParseT, ctPrintT, ctParamT, ctRightT, ctSameT, aw12a, aw12b, aw12c, Tryz.f4, ti3, ti4, ti9, ti22, ti23, ti24, ti27, ti40, ti41, eqk41, tyo3, tyo4, tyo9, tyo22, tyo23, tyo24, tyo27, tyo40, tyo41, arr3, arr4, arr9, arr22, arr23, arr24, arr27, arr40, arr41, copyx, copyO, nilArgs, nilcmp, nilcmp2, ofZero_row, ofZero_list, ofZero_int, ofZero_bool, ofZero_string, ofZero_slice, ofZero_pointer, ofZero_func, ofZero_iface, ofZero_map, splx, convU, convB, x_den0, x_den1, x_den2, x_den3, x_den4, x_den5, x_den6, x_skip, x_label, x_ret, x_exit, x_seq, x_block, x_cond, x_cnd1, x_cnd2, x_cnd3, x_region, x_draw, x_sq0, x_sq1, x_sq2, x_sqD, x_sqG1, x_sqG2, x_sqG3, x_sqG4, x_sqG5, x_sqG6, x_sqB1, x_sqB2, x_sqE, x_fold, x_put1, x_put0, x_ef1, x_ef2, x_ef3, x_ef4, x_ef5, x_ef6, x_ef7, x_ef8, x_ef9, callIx, callIf, evM, callEx, callEt, callEo, callE2, wpE, frameK, frameK2, inlW, bodyOf, InlR, tupS, undefs, x_ink1, x_ink2, callEf, callE, eArgs, eCons, eConsB, boxDt, setBx, EF.tf, bxs, eStart, eSlots, eH, goneN, boxE, boxesE, RetE, x_fie1, x_fie2, List.contains_nil, storex, castL_self, appendx, appendT, appendS, appendO, appendN, appendF, appendX, appendY, appendZ, srcq, elemSV, bytesD, nexts, nextx, forget, forgetL, forgetB, forgetH, spl, isCell, List.all_cons, List.all_nil, Option.some.injEq, makeq, makeE, makeT, zeroD, bytesTI, buildSq, buildE, buildB, partsD, tiSz, buildT, fillS, okFlat, rangeq, bytesQ, textQ, adopt, adoptOk, getA, setA, getC, setC, Nat.reduceDiv, Nat.reduceMod, List.replicate_zero, Nat.not_lt_zero, x_fin1, x_fin2, x_fio1, x_fio2, x_own1, x_own2, RetOwn, ownVC, x_lk1, x_lk2, x_lk3, x_un0, x_un1, x_un2, x_un3, x_wr1, x_nv2, x_nv3, l_refl, l_any, l_int, l_bool, l_kb, l_kk, l_str, l_sl, l_nils, l_pp, l_ptr, l_osl, l_slf, l_ag, l_sls, l_agg, wrote, List.filterMap_cons_some, List.filterMap_cons_none, List.filterMap_cons, List.filterMap_nil, havoc, setSs, setBs, atHead, Vx.Sub, leS, leH, leB, below, below.belowL, belowB, belowH, SV.int.injEq, SV.bool.injEq, SV.kb.injEq, SV.str.injEq, SV.sl.injEq, SV.ptr.injEq, SV.pp.injEq, SV.agg.injEq, SV.osl.injEq, Blk.own.injEq, Blk.iter.injEq, heq_eq_eq, eq_self, List.cons.injEq, evq, evS, Vx.get, setO, setS, dstAt, startS, undefs, ofArgs, ofDV, ofD, one, Ty.isAgg, Ty.size, boxq, flat, allocq, allocA, fieldAddrq, fieldq, tkOf, sizeP, loadq, getB, setB, binq, intBin, strBin, boolBin, pickq, Vx.asB, ofConst, ofCell, nilq, unq, convq, sliceq, slice3q, strCut, slCut, makeFuncq, indexAddrq, indexq, extractq, ifaceq, builtinq, callfq, callq, tlook, toArgs, toDV, toD, oneOf, Vx.both, toInt_self, toSl_self, toSl_slf, toSl_nils, toSl_osl, toSlB_self, arrD_self, toRef_self, toRef_ptr, boxD, no1_self, no2_self, clo1_fn, clo1_f1, clo2_fn, clo2_f2, cloA1_fn, cloA1_f1, cloA2_fn, cloA2_f2, cloT1_self, cloT2_self, mk1, mk2, callT, callO, ownQ, lent, scalL, Ty.scal, toAg_self, glS, glTyp, TF.ob, Bool.and_true, Bool.and_false, Bool.true_and, Bool.false_and, List.take_length, Option.isSome_some, List.getD_cons_zero, Vx.toBool, Vx.toNil, Vx.toStr, Vx.toInt, eqCells, subP, TK.isAgg, Bool.true_or, Bool.or_true, litSlot, Option.toList, List.contains_cons, List.contains_nil, Nat.reduceBEq, Bool.or_false, Bool.false_or, evA, appArgs, appendq, appendQ1, appendQ2, appendQ3, trimN, RetVC, resL, ofRes, List.toList_toArray, Bool.not_true, Bool.not_false, Option.map_some, Option.map_none, Option.bind_some, Option.getD_some, Option.getD_none, List.getElem?_cons_zero, List.getElem?_cons_succ, List.cons_append, List.nil_append, List.append_nil, List.length_cons, List.length_nil, List.drop_succ_cons, List.drop_zero, List.take_succ_cons, List.take_zero, List.map_cons, List.map_nil, List.drop_nil, List.take_nil, ite_true, ite_false, reduceCtorEq, true_and, and_true, false_and, and_false, and_self, if_true, if_false, Bool.false_eq_true, reduceIte, Nat.reduceAdd, Nat.reduceLT, Nat.reduceLeDiff, Nat.reduceSub, Nat.reduceMul, Nat.reduceEqDiff, Nat.zero_lt_one, Nat.lt_add_one, Nat.zero_add, Nat.le_refl, decide_true]
  repeat' (first | (with_reducible refine drawOk_by ?_; kernel_rfl) | (with_reducible refine And.intro ?_ ?_) | (with_reducible intro _)); all_goals (try simp only [decide_eq_true_eq, decide_eq_false_iff_not, Int.not_lt, Int.not_le, beq_iff_eq, bne_iff_ne, beq_eq_false_iff_ne, bne_eq_false_iff_eq, ne_eq, Decidable.not_not] at *)
  all_goals (try simp only [aw12d, aw12e, aw12f, aw12g] at *)
  all_goals first
    | rfl
    | (refine ⟨by decide, by decide, by decide, fun p hp => ?_⟩
       obtain rfl : p = ([99, 104, 97, 114, 115, 101, 116], [117, 116, 102, 45, 56]) := by simpa using hp
       decide)
    | (rename_i p hp
       obtain rfl : p = ([99, 104, 97, 114, 115, 101, 116], [117, 116, 102, 45, 56]) := by simpa using hp
       decide +kernel)
    | (show List.length _ ≤ _; decide)
    | (exfalso; exact absurd trivial ‹¬ True›)
    | (exfalso; exact Bool.noConfusion ‹_›)
    | trace_state
/-- Letters turned. -/
def turn12F (bt : Nat → Bool) : Nat → List UInt8 → List UInt8
  | _, [] => []
  | k, b :: l => (if bt k = true ∧ 97 ≤ b.toNat ∧ b.toNat ≤ 122 then b - 32 else b) :: turn12F bt (k + 1) l
def bit12 (fl : Int) (g : Nat) : Bool := (shiftI .shr .u64 fl ((IntKind.u64.wrap (g : Int)).tmod 64)).tmod 2 == 1
def turned12 (bt : Nat → Bool) (s : List UInt8) (g : Nat) : List Int := (turn12F bt 0 (s.take g) ++ s.drop g).map fun b => (b.toNat : Int)
theorem turn12F_len (bt : Nat → Bool) : ∀ (a : List UInt8) (k : Nat), (turn12F bt k a).length = a.length
  | [], k => rfl
  | x :: a, k => by simp [turn12F, turn12F_len bt a]
theorem turn12F_app (bt : Nat → Bool) : ∀ (a b : List UInt8) (k : Nat), turn12F bt k (a ++ b) = turn12F bt k a ++ turn12F bt (k + a.length) b
  | [], b, k => by simp [turn12F]
  | x :: a, b, k => by
    simp only [List.cons_append, turn12F, turn12F_app bt a b, List.length_cons]
    rw [show k + 1 + a.length = k + (a.length + 1) by omega]
theorem turned12_zero (bt : Nat → Bool) (s : List UInt8) : turned12 bt s 0 = s.map fun b => (b.toNat : Int) := by simp [turned12, turn12F]
theorem turned12_len (bt : Nat → Bool) (s : List UInt8) (g : Nat) : (turned12 bt s g).length = s.length := by simp [turned12, turn12F_len]; omega
theorem turned12_take (bt : Nat → Bool) (s : List UInt8) (g : Nat) : (turned12 bt s g).take s.length = turned12 bt s g := List.take_of_length_le (by rw [turned12_len]; exact Nat.le_refl _)
theorem turned12_at (bt : Nat → Bool) (s : List UInt8) (g : Nat) (h : g < s.length) (d : Int) : (turned12 bt s g).getD g d = ((s.getD g 0).toNat : Int) := by
  have hl : (turn12F bt 0 (s.take g)).length = g := by rw [turn12F_len, List.length_take]; omega
  simp only [turned12, List.getD_eq_getElem?_getD, List.getElem?_map]
  rw [List.getElem?_append_right (by omega), hl]
  simp [List.getElem?_eq_getElem h]
theorem turned12_set (bt : Nat → Bool) (s : List UInt8) (g : Nat) (h : g < s.length) : (turned12 bt s g).set g ((if bt g = true ∧ 97 ≤ (s.getD g 0).toNat ∧ (s.getD g 0).toNat ≤ 122 then s.getD g 0 - 32 else s.getD g 0).toNat : Int) = turned12 bt s (g + 1) := by
  have hl : (turn12F bt 0 (s.take g)).length = g := by rw [turn12F_len, List.length_take]; omega
  have e : (turn12F bt 0 (s.take g) ++ s.drop g).set g (if bt g = true ∧ 97 ≤ (s.getD g 0).toNat ∧ (s.getD g 0).toNat ≤ 122 then s.getD g 0 - 32 else s.getD g 0) = turn12F bt 0 (s.take (g + 1)) ++ s.drop (g + 1) := by
    rw [List.set_append_right _ _ (by omega), hl, Nat.sub_self, drop_at (d := (0 : UInt8)) h, List.set_cons_zero, take_snocG (d := (0 : UInt8)) h, turn12F_app, List.length_take, Nat.min_eq_left (Nat.le_of_lt h)]
    simp [turn12F]
  simp only [turned12]
  rw [← e, List.map_set]
theorem turned12_same (bt : Nat → Bool) (s : List UInt8) (g : Nat) (h : g < s.length) (hf : ¬ (bt g = true ∧ 97 ≤ (s.getD g 0).toNat ∧ (s.getD g 0).toNat ≤ 122)) : turned12 bt s g = turned12 bt s (g + 1) := by
  rw [← turned12_set bt s g h, if_neg hf, ← turned12_at bt s g h 0]
  rw [List.getD_eq_getElem?_getD, List.getElem?_eq_getElem (by rw [turned12_len]; exact h)]
  simp
theorem turned12_end (bt : Nat → Bool) (s : List UInt8) (g : Nat) (h : s.length ≤ g) : ((turned12 bt s g).map fun n => UInt8.ofNat n.toNat) = turn12F bt 0 s := by
  simp [turned12, List.take_of_length_le h, List.drop_eq_nil_of_le h, Function.comp_def]
theorem wrap_u64n (n : Nat) (h : n < 18446744073709551616) : IntKind.u64.wrap (n : Int) = n := by
  simp only [IntKind.wrap, IntKind.bits, IntKind.signed]
  simp
  omega
theorem sub32 (b : UInt8) (h : 97 ≤ b.toNat ∧ b.toNat ≤ 122) : IntKind.u8.wrap ((b.toNat : Int) - 32) = ((b - 32).toNat : Int) := by
  have : ∀ n : Fin 256, 97 ≤ (UInt8.ofNat n.val).toNat ∧ (UInt8.ofNat n.val).toNat ≤ 122 → IntKind.u8.wrap (((UInt8.ofNat n.val).toNat : Int) - 32) = ((UInt8.ofNat n.val - 32).toNat : Int) := by decide +kernel
  have := this ⟨b.toNat, b.toNat_lt⟩
  simp only [UInt8.ofNat_toNat] at this
  exact this h
end Go.Proofs.YtnbicdeehppgpaaGreatDoor
