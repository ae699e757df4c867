/- Helper lemmas towards this seat's statements: a contract, proved for every input within its own premise, of functions of the program. -/
import Derived.Test.YtbkemaekncpkjaaDoorLaw18
namespace Go.Proofs.YtbkemaekncpkjaaDoor
open Go Go.Vx
set_option maxRecDepth 100000
set_option linter.unusedSimpArgs false
set_option linter.unusedVariables false
def bitF (fl : Int) (g : Nat) : Bool := (shiftI .shr .u64 fl ((IntKind.u64.wrap (g : Int)).tmod 64)).tmod 2 == 1
def iA (Q : List UInt8) (g : Nat) : Bool := inB (inF false (Q.take g)) (Q.getD g 0)
theorem let_in (Q : List UInt8) (g : Nat) (c : Int) (hc : c = ((Q.getD g 0).toNat : Int)) : (c = 60 → (c == 60) = iA Q g) ∧ (¬ c = 60 → c = 62 → (c == 60) = iA Q g) ∧ (¬ c = 60 → ¬ c = 62 → inF false (Q.take g) = iA Q g) := by
  subst hc
  unfold iA inB
  have e60 : (Q.getD g 0 = 60) ↔ ((Q.getD g 0).toNat : Int) = 60 := ⟨fun h => by rw [h]; rfl, fun h => UInt8.toNat_inj.1 (by rw [show (Q.getD g 0).toNat = 60 by omega]; rfl)⟩
  have e62 : (Q.getD g 0 = 62) ↔ ((Q.getD g 0).toNat : Int) = 62 := ⟨fun h => by rw [h]; rfl, fun h => UInt8.toNat_inj.1 (by rw [show (Q.getD g 0).toNat = 62 by omega]; rfl)⟩
  refine ⟨fun h => ?_, fun h1 h2 => ?_, fun h1 h2 => ?_⟩
  · rw [if_pos (e60.2 h), h]; rfl
  · rw [if_neg (fun h => h1 (e60.1 h)), if_pos (e62.2 h2), h2]; rfl
  · rw [if_neg (fun h => h1 (e60.1 h)), if_neg (fun h => h2 (e62.1 h))]
theorem let_yes (fl : Int) (Q : List UInt8) (g : Nat) (hlt : g < Q.length) (hlen : Q.length ≤ 1000000) (c : Int) (hc : c = ((Q.getD g 0).toNat : Int)) (ins : Bool) (hi : ins = iA Q g) (h1 : (!ins) = true ∨ ins = false)
    (h2 : (shiftI .shr .u64 fl ((IntKind.u64.wrap (g : Int)).tmod 64)).tmod 2 = 1) (h3 : 65 ≤ c) (h4 : c ≤ 90) :
    ∃ g', g' ≤ Q.length ∧ Q.length - g' < Q.length - g ∧ (ins = inF false (Q.take g') ∧ IntKind.i64.wrap ((g : Int) + 1) = (g' : Int)) ∧ (turned (bitF fl) Q g).set g (IntKind.u8.wrap (c + 32)) = turned (bitF fl) Q g' := by
  refine ⟨g + 1, hlt, by omega, ⟨by rw [hi, turned_in Q g hlt]; rfl, w64_succ (n := Q.length) hlt (by omega)⟩, ?_⟩
  have hI : inB (inF false (Q.take g)) (Q.getD g 0) = false := by
    show iA Q g = false
    rw [← hi]
    rcases h1 with h1 | h1
    · simpa using h1
    · exact h1
  have hb : bitF fl g = true := by unfold bitF; rw [h2]; rfl
  rw [← turned_set (bitF fl) Q g hlt]
  congr 1
  subst hc
  unfold flipB
  rw [if_pos ⟨hI, hb, by omega, by omega⟩, UInt8.toNat_add]
  simp only [IntKind.wrap, IntKind.bits, IntKind.signed]
  simp
theorem let_no (fl : Int) (Q : List UInt8) (g : Nat) (hlt : g < Q.length) (hlen : Q.length ≤ 1000000) (c : Int) (hc : c = ((Q.getD g 0).toNat : Int)) (ins : Bool) (hi : ins = iA Q g)
    (h : (!ins) = false ∨ ins = true ∨ ¬ (shiftI .shr .u64 fl ((IntKind.u64.wrap (g : Int)).tmod 64)).tmod 2 = 1 ∨ c < 65 ∨ 90 < c) :
    ∃ g', g' ≤ Q.length ∧ Q.length - g' < Q.length - g ∧ (ins = inF false (Q.take g') ∧ IntKind.i64.wrap ((g : Int) + 1) = (g' : Int)) ∧ turned (bitF fl) Q g = turned (bitF fl) Q g' := by
  refine ⟨g + 1, hlt, by omega, ⟨by rw [hi, turned_in Q g hlt]; rfl, w64_succ (n := Q.length) hlt (by omega)⟩, ?_⟩
  refine turned_same (bitF fl) Q g hlt ?_
  subst hc
  unfold flipB
  rw [if_neg]
  rintro ⟨h1, h2, h3, h4⟩
  have h1 : ins = false := hi.trans h1
  have h2 : (shiftI .shr .u64 fl ((IntKind.u64.wrap (g : Int)).tmod 64)).tmod 2 = 1 := by simpa [bitF] using h2
  rcases h with h | h | h | h | h
  · rw [h1] at h; cases h
  · rw [h1] at h; cases h
  · exact h h2
  · omega
  · omega
def lawLettersT : TF := { doms := [tCmd, .int .u64], cods := [.bool], pre := fun x => (-9223372036854775808 ≤ (x.1.2.2.1 : Int) ∧ (x.1.2.2.1 : Int) ≤ 9223372036854775807) ∧ 0 ≤ (x.2.1 : Int) ∧ (x.2.1 : Int) ≤ 18446744073709551615, fn := fun _ => (true, ()) }
set_option maxHeartbeats 4000000 in
theorem lawLetters_ok : TFOk Tryd.prog 4 lawLettersT := by
  refine tf_by (tbl := [(7, awake18T), (8, cmdParseT), (9, cmdPrintT)]) fol (tblCons awake18_ok Tryd.func7 (by kernel_rfl) (tblCons cmdParse_ok Tryd.func8 (by kernel_rfl) (tblCons cmdPrint_ok Tryd.func9 (by kernel_rfl) tblNil))) Tryd.func4 rfl rfl rfl ?_
  rintro ⟨⟨(verb : Int), (arg : List UInt8), (size : Int), (eight : Bool)⟩, (fl : Int), _⟩ hpre
  have hs1 : -9223372036854775808 ≤ size := hpre.1.1
  have hs2 : size ≤ 9223372036854775807 := hpre.1.2
  simp (maxSteps := 5000000) -implicitDefEqProofs only [lawLettersT, awake18T, cmdParseT, cmdPrintT, Tryd.f4, ti3, ti4, ti5, ti9, ti22, ti23, ti27, ti36, ti37, ti38, eqk23, tyo3, tyo4, tyo5, tyo9, tyo22, tyo23, tyo27, tyo36, tyo37, tyo38, arr3, arr4, arr5, arr9, arr22, arr23, arr27, arr36, arr37, arr38, x_den0, x_den1, x_den2, x_den3, x_den4, x_den5, x_den6, x_skip, x_label, x_ret, x_exit, x_seq, x_block, x_cond, x_cnd1, x_cnd2, x_cnd3, x_region, x_draw, x_sq0, x_sq1, x_sq2, x_sqD, x_sqG1, x_sqG2, x_sqG3, x_sqG4, x_sqG5, x_sqG6, x_sqB1, x_sqB2, x_sqE, x_fold, x_put1, x_put0, x_ef1, x_ef2, x_ef3, x_ef4, x_ef5, x_ef6, x_ef7, evM, mkMapq, mkMap1, keyD, lookq, lookq1, lookq2, lookV, sameD, keySV, zeroDV, mapx, mapx1, mapx2, l_mp, SV.mp.injEq, Blk.mp.injEq, callEx, callEt, callEo, callEf, callE, eArgs, eCons, eConsB, boxDt, setBx, EF.tf, bxs, eStart, eSlots, eH, goneN, boxE, boxesE, RetE, x_fie1, x_fie2, List.contains_nil, storex, castL_self, appendx, appendT, appendS, appendO, appendN, appendF, appendX, appendY, appendZ, srcq, elemSV, bytesD, nexts, nextx, forget, forgetL, forgetB, forgetH, spl, isCell, List.all_cons, List.all_nil, Option.some.injEq, makeq, makeE, makeT, zeroD, bytesTI, buildSq, buildE, buildB, partsD, tiSz, buildT, fillS, okFlat, rangeq, bytesQ, textQ, adopt, adoptOk, List.replicate_zero, Nat.not_lt_zero, x_dr0, x_dr1, x_dr2, x_drD, x_drG1, x_drG2, x_drG3, x_drG4, x_drG5, x_drG6, x_drB1, x_fin1, x_fin2, x_fio1, x_fio2, x_own1, x_own2, RetOwn, ownVC, x_lk1, x_lk2, x_lk3, x_wr1, x_nv2, x_nv3, l_refl, l_any, l_int, l_bool, l_kb, l_kk, l_str, l_sl, l_nils, l_pp, l_ptr, l_osl, l_slf, l_ag, l_sls, l_agg, wrote, List.filterMap_cons_some, List.filterMap_cons_none, List.filterMap_cons, List.filterMap_nil, havoc, setSs, setBs, atHead, Vx.Sub, leS, leH, leB, below, below.belowL, belowB, belowH, SV.int.injEq, SV.bool.injEq, SV.kb.injEq, SV.str.injEq, SV.sl.injEq, SV.ptr.injEq, SV.pp.injEq, SV.agg.injEq, SV.osl.injEq, Blk.own.injEq, Blk.iter.injEq, heq_eq_eq, eq_self, List.cons.injEq, evq, evS, Vx.get, setO, setS, dstAt, startS, undefs, ofArgs, ofDV, ofD, one, Ty.isAgg, Ty.size, boxq, flat, allocq, allocA, fieldAddrq, fieldq, tkOf, sizeP, loadq, getB, setB, binq, intBin, strBin, boolBin, pickq, Vx.asB, ofConst, ofCell, nilq, unq, convq, sliceq, slice3q, strCut, slCut, makeFuncq, indexAddrq, indexq, extractq, ifaceq, builtinq, callfq, callq, tlook, toArgs, toDV, toD, oneOf, Vx.both, toInt_self, toSl_self, toSl_slf, toSl_nils, toSl_osl, toSlB_self, arrD_self, toRef_self, toRef_ptr, boxD, no1_self, no2_self, clo1_fn, clo1_f1, clo2_fn, clo2_f2, cloA1_fn, cloA1_f1, cloA2_fn, cloA2_f2, cloT1_self, cloT2_self, mk1, mk2, callT, callO, ownQ, lent, scalL, Ty.scal, toAg_self, glS, glTyp, TF.ob, Bool.and_true, Bool.and_false, Bool.true_and, Bool.false_and, List.take_length, Option.isSome_some, List.getD_cons_zero, Vx.toBool, Vx.toNil, Vx.toStr, Vx.toInt, eqCells, subP, TK.isAgg, quietPre, opQuiet, opQuiet.onEmpty, opQuiet.noEff, opQuiet.noEf, litSlot, Option.toList, List.contains_cons, List.contains_nil, Nat.reduceBEq, Bool.or_false, Bool.false_or, evA, appArgs, appendq, appendQ1, appendQ2, appendQ3, trimN, RetVC, resL, ofRes, List.toList_toArray, Bool.not_true, Bool.not_false, Option.map_some, Option.map_none, Option.bind_some, Option.getD_some, Option.getD_none, List.getElem?_cons_zero, List.getElem?_cons_succ, List.cons_append, List.nil_append, List.append_nil, List.length_cons, List.length_nil, List.drop_succ_cons, List.drop_zero, List.take_succ_cons, List.take_zero, List.map_cons, List.map_nil, List.drop_nil, List.take_nil, ite_true, ite_false, reduceCtorEq, true_and, and_true, false_and, and_false, and_self, if_true, if_false, Bool.false_eq_true, reduceIte, Nat.reduceAdd, Nat.reduceLT, Nat.reduceLeDiff, Nat.reduceSub, Nat.reduceMul, Nat.reduceEqDiff, Nat.zero_lt_one, Nat.lt_add_one, Nat.zero_add, Nat.le_refl, decide_true]
  repeat' (first | (with_reducible refine drawOk_by ?_; kernel_rfl) | (with_reducible refine And.intro ?_ ?_) | (with_reducible intro _)); all_goals (try simp only [decide_eq_true_eq, decide_eq_false_iff_not, Int.not_lt, Int.not_le, beq_iff_eq, bne_iff_ne, beq_eq_false_iff_ne, bne_eq_false_iff_eq, ne_eq, Decidable.not_not] at *)
  all_goals (have hf : 0 ≤ fl ∧ fl ≤ 18446744073709551615 := hpre.2)
  all_goals first
    | omega
    | (show (-9223372036854775808 : Int) ≤ size; omega)
    | (show size ≤ (9223372036854775807 : Int); omega)
    | skip
  all_goals (rcases hP : cmdPrintF (verb, arg, size, eight) with ⟨Q, Qs⟩)
  all_goals (have hQs : Qs = 0 := by have := ‹(cmdPrintF (verb, arg, size, eight)).2 = 0›; rw [hP] at this; exact this)
  all_goals subst hQs
  all_goals (obtain ⟨b1, b2, b3, b4⟩ := print_inv _ _ hP)
  all_goals (have bl : Q.length ≤ arg.length + 61 := by rw [b3]; exact putAll_len (verb, arg, size, eight) b1 b2 hs1 hs2)
  all_goals (have hv : verb = 3 ∨ verb = 4 := by omega)
  all_goals (have hp1 : parseF (flipF (bitF fl) 0 false Q) = ((verb, arg, size, eight), 0) := by rw [b3]; exact flip_parse _ _ (by rw [← b3]; exact b4) hv)
  all_goals (have hp2 : parseF (Q ++ [32, 32]) = ((verb, arg, size, eight), 0) := by
              rw [← b4, b3]
              rcases hv with rfl | rfl
              · rw [put_mail _ rfl]; exact blank_parse _ _ (by decide)
              · rw [put_rcpt _ rfl]; exact blank_parse _ _ (by decide))
  all_goals (have hl : (arg.length : Int) ≤ 300 := by assumption)
  all_goals refine x_loop (γ := Nat) (fun g => [(8, .bool (inF false (Q.take g))), (9, .int .i64 (g : Int))]) (fun g => [(1, .own (.int .u8) (turned (bitF fl) Q g) 5)]) (fun g => g ≤ Q.length) (fun g => Q.length - g) 0 ⟨Nat.zero_le _, ?_⟩ ?_
  all_goals first
    | (simp -implicitDefEqProofs only [hP, turned_zero, List.take_zero, inF, Tryd.f4, ti3, ti4, ti5, ti9, ti22, ti23, ti27, ti36, ti37, ti38, eqk23, tyo3, tyo4, tyo5, tyo9, tyo22, tyo23, tyo27, tyo36, tyo37, tyo38, arr3, arr4, arr5, arr9, arr22, arr23, arr27, arr36, arr37, arr38, x_den0, x_den1, x_den2, x_den3, x_den4, x_den5, x_den6, x_skip, x_label, x_ret, x_exit, x_seq, x_block, x_cond, x_cnd1, x_cnd2, x_cnd3, x_region, x_draw, x_sq0, x_sq1, x_sq2, x_sqD, x_sqG1, x_sqG2, x_sqG3, x_sqG4, x_sqG5, x_sqG6, x_sqB1, x_sqB2, x_sqE, x_fold, x_put1, x_put0, x_ef1, x_ef2, x_ef3, x_ef4, x_ef5, x_ef6, x_ef7, evM, mkMapq, mkMap1, keyD, lookq, lookq1, lookq2, lookV, sameD, keySV, zeroDV, mapx, mapx1, mapx2, l_mp, SV.mp.injEq, Blk.mp.injEq, callEx, callEt, callEo, callEf, callE, eArgs, eCons, eConsB, boxDt, setBx, EF.tf, bxs, eStart, eSlots, eH, goneN, boxE, boxesE, RetE, x_fie1, x_fie2, List.contains_nil, storex, castL_self, appendx, appendT, appendS, appendO, appendN, appendF, appendX, appendY, appendZ, srcq, elemSV, bytesD, nexts, nextx, forget, forgetL, forgetB, forgetH, spl, isCell, List.all_cons, List.all_nil, Option.some.injEq, makeq, makeE, makeT, zeroD, bytesTI, buildSq, buildE, buildB, partsD, tiSz, buildT, fillS, okFlat, rangeq, bytesQ, textQ, adopt, adoptOk, List.replicate_zero, Nat.not_lt_zero, x_dr0, x_dr1, x_dr2, x_drD, x_drG1, x_drG2, x_drG3, x_drG4, x_drG5, x_drG6, x_drB1, x_fin1, x_fin2, x_fio1, x_fio2, x_own1, x_own2, RetOwn, ownVC, x_lk1, x_lk2, x_lk3, x_wr1, x_nv2, x_nv3, l_refl, l_any, l_int, l_bool, l_kb, l_kk, l_str, l_sl, l_nils, l_pp, l_ptr, l_osl, l_slf, l_ag, l_sls, l_agg, wrote, List.filterMap_cons_some, List.filterMap_cons_none, List.filterMap_cons, List.filterMap_nil, havoc, setSs, setBs, atHead, Vx.Sub, leS, leH, leB, below, below.belowL, belowB, belowH, SV.int.injEq, SV.bool.injEq, SV.kb.injEq, SV.str.injEq, SV.sl.injEq, SV.ptr.injEq, SV.pp.injEq, SV.agg.injEq, SV.osl.injEq, Blk.own.injEq, Blk.iter.injEq, heq_eq_eq, eq_self, List.cons.injEq, evq, evS, Vx.get, setO, setS, dstAt, startS, undefs, ofArgs, ofDV, ofD, one, Ty.isAgg, Ty.size, boxq, flat, allocq, allocA, fieldAddrq, fieldq, tkOf, sizeP, loadq, getB, setB, binq, intBin, strBin, boolBin, pickq, Vx.asB, ofConst, ofCell, nilq, unq, convq, sliceq, slice3q, strCut, slCut, makeFuncq, indexAddrq, indexq, extractq, ifaceq, builtinq, callfq, callq, tlook, toArgs, toDV, toD, oneOf, Vx.both, toInt_self, toSl_self, toSl_slf, toSl_nils, toSl_osl, toSlB_self, arrD_self, toRef_self, toRef_ptr, boxD, no1_self, no2_self, clo1_fn, clo1_f1, clo2_fn, clo2_f2, cloA1_fn, cloA1_f1, cloA2_fn, cloA2_f2, cloT1_self, cloT2_self, mk1, mk2, callT, callO, ownQ, lent, scalL, Ty.scal, toAg_self, glS, glTyp, TF.ob, Bool.and_true, Bool.and_false, Bool.true_and, Bool.false_and, List.take_length, Option.isSome_some, List.getD_cons_zero, Vx.toBool, Vx.toNil, Vx.toStr, Vx.toInt, eqCells, subP, TK.isAgg, quietPre, opQuiet, opQuiet.onEmpty, opQuiet.noEff, opQuiet.noEf, litSlot, Option.toList, List.contains_cons, List.contains_nil, Nat.reduceBEq, Bool.or_false, Bool.false_or, evA, appArgs, appendq, appendQ1, appendQ2, appendQ3, trimN, RetVC, resL, ofRes, List.toList_toArray, Bool.not_true, Bool.not_false, Option.map_some, Option.map_none, Option.bind_some, Option.getD_some, Option.getD_none, List.getElem?_cons_zero, List.getElem?_cons_succ, List.cons_append, List.nil_append, List.append_nil, List.length_cons, List.length_nil, List.drop_succ_cons, List.drop_zero, List.take_succ_cons, List.take_zero, List.map_cons, List.map_nil, List.drop_nil, List.take_nil, ite_true, ite_false, reduceCtorEq, true_and, and_true, false_and, and_false, and_self, if_true, if_false, Bool.false_eq_true, reduceIte, Nat.reduceAdd, Nat.reduceLT, Nat.reduceLeDiff, Nat.reduceSub, Nat.reduceMul, Nat.reduceEqDiff, Nat.zero_lt_one, Nat.lt_add_one, Nat.zero_add, Nat.le_refl, decide_true]
       trivial)
    | skip
  all_goals (intro g hg)
  all_goals (have hg : g ≤ Q.length := hg)
  all_goals (simp (maxSteps := 5000000) -implicitDefEqProofs only [cmdParseT, hP, hp2, turned_len, turned_take, Tryd.f4, ti3, ti4, ti5, ti9, ti22, ti23, ti27, ti36, ti37, ti38, eqk23, tyo3, tyo4, tyo5, tyo9, tyo22, tyo23, tyo27, tyo36, tyo37, tyo38, arr3, arr4, arr5, arr9, arr22, arr23, arr27, arr36, arr37, arr38, x_den0, x_den1, x_den2, x_den3, x_den4, x_den5, x_den6, x_skip, x_label, x_ret, x_exit, x_seq, x_block, x_cond, x_cnd1, x_cnd2, x_cnd3, x_region, x_draw, x_sq0, x_sq1, x_sq2, x_sqD, x_sqG1, x_sqG2, x_sqG3, x_sqG4, x_sqG5, x_sqG6, x_sqB1, x_sqB2, x_sqE, x_fold, x_put1, x_put0, x_ef1, x_ef2, x_ef3, x_ef4, x_ef5, x_ef6, x_ef7, evM, mkMapq, mkMap1, keyD, lookq, lookq1, lookq2, lookV, sameD, keySV, zeroDV, mapx, mapx1, mapx2, l_mp, SV.mp.injEq, Blk.mp.injEq, callEx, callEt, callEo, callEf, callE, eArgs, eCons, eConsB, boxDt, setBx, EF.tf, bxs, eStart, eSlots, eH, goneN, boxE, boxesE, RetE, x_fie1, x_fie2, List.contains_nil, storex, castL_self, appendx, appendT, appendS, appendO, appendN, appendF, appendX, appendY, appendZ, srcq, elemSV, bytesD, nexts, nextx, forget, forgetL, forgetB, forgetH, spl, isCell, List.all_cons, List.all_nil, Option.some.injEq, makeq, makeE, makeT, zeroD, bytesTI, buildSq, buildE, buildB, partsD, tiSz, buildT, fillS, okFlat, rangeq, bytesQ, textQ, adopt, adoptOk, List.replicate_zero, Nat.not_lt_zero, x_dr0, x_dr1, x_dr2, x_drD, x_drG1, x_drG2, x_drG3, x_drG4, x_drG5, x_drG6, x_drB1, x_fin1, x_fin2, x_fio1, x_fio2, x_own1, x_own2, RetOwn, ownVC, x_lk1, x_lk2, x_lk3, x_wr1, x_nv2, x_nv3, l_refl, l_any, l_int, l_bool, l_kb, l_kk, l_str, l_sl, l_nils, l_pp, l_ptr, l_osl, l_slf, l_ag, l_sls, l_agg, wrote, List.filterMap_cons_some, List.filterMap_cons_none, List.filterMap_cons, List.filterMap_nil, havoc, setSs, setBs, atHead, Vx.Sub, leS, leH, leB, below, below.belowL, belowB, belowH, SV.int.injEq, SV.bool.injEq, SV.kb.injEq, SV.str.injEq, SV.sl.injEq, SV.ptr.injEq, SV.pp.injEq, SV.agg.injEq, SV.osl.injEq, Blk.own.injEq, Blk.iter.injEq, heq_eq_eq, eq_self, List.cons.injEq, evq, evS, Vx.get, setO, setS, dstAt, startS, undefs, ofArgs, ofDV, ofD, one, Ty.isAgg, Ty.size, boxq, flat, allocq, allocA, fieldAddrq, fieldq, tkOf, sizeP, loadq, getB, setB, binq, intBin, strBin, boolBin, pickq, Vx.asB, ofConst, ofCell, nilq, unq, convq, sliceq, slice3q, strCut, slCut, makeFuncq, indexAddrq, indexq, extractq, ifaceq, builtinq, callfq, callq, tlook, toArgs, toDV, toD, oneOf, Vx.both, toInt_self, toSl_self, toSl_slf, toSl_nils, toSl_osl, toSlB_self, arrD_self, toRef_self, toRef_ptr, boxD, no1_self, no2_self, clo1_fn, clo1_f1, clo2_fn, clo2_f2, cloA1_fn, cloA1_f1, cloA2_fn, cloA2_f2, cloT1_self, cloT2_self, mk1, mk2, callT, callO, ownQ, lent, scalL, Ty.scal, toAg_self, glS, glTyp, TF.ob, Bool.and_true, Bool.and_false, Bool.true_and, Bool.false_and, List.take_length, Option.isSome_some, List.getD_cons_zero, Vx.toBool, Vx.toNil, Vx.toStr, Vx.toInt, eqCells, subP, TK.isAgg, quietPre, opQuiet, opQuiet.onEmpty, opQuiet.noEff, opQuiet.noEf, litSlot, Option.toList, List.contains_cons, List.contains_nil, Nat.reduceBEq, Bool.or_false, Bool.false_or, evA, appArgs, appendq, appendQ1, appendQ2, appendQ3, trimN, RetVC, resL, ofRes, List.toList_toArray, Bool.not_true, Bool.not_false, Option.map_some, Option.map_none, Option.bind_some, Option.getD_some, Option.getD_none, List.getElem?_cons_zero, List.getElem?_cons_succ, List.cons_append, List.nil_append, List.append_nil, List.length_cons, List.length_nil, List.drop_succ_cons, List.drop_zero, List.take_succ_cons, List.take_zero, List.map_cons, List.map_nil, List.drop_nil, List.take_nil, ite_true, ite_false, reduceCtorEq, true_and, and_true, false_and, and_false, and_self, if_true, if_false, Bool.false_eq_true, reduceIte, Nat.reduceAdd, Nat.reduceLT, Nat.reduceLeDiff, Nat.reduceSub, Nat.reduceMul, Nat.reduceEqDiff, Nat.zero_lt_one, Nat.lt_add_one, Nat.zero_add, Nat.le_refl, decide_true])
  repeat' (first | (with_reducible refine drawOk_by ?_; kernel_rfl) | (with_reducible refine And.intro ?_ ?_) | (with_reducible intro _)); all_goals (try simp only [decide_eq_true_eq, decide_eq_false_iff_not, Int.not_lt, Int.not_le, beq_iff_eq, bne_iff_ne, beq_eq_false_iff_ne, bne_eq_false_iff_eq, ne_eq, Decidable.not_not] at *)
  all_goals (try simp only [Int.toNat_natCast] at *)
  all_goals (have hlen : Q.length ≤ 1000000 := by omega)
  all_goals first
    | omega
    | decide
    | exact Int.natCast_nonneg _
    | (exact Int.tmod_nonneg _ (by rw [wrap_u64_nat g (by omega)]; exact Int.natCast_nonneg _))
    | skip
  all_goals (try
    (have hlt : g < Q.length := by omega
     have hc := turned_at (bitF fl) Q g hlt (Ty.int IntKind.u8).dflt
     have li := let_in Q g _ hc
     generalize (turned (bitF fl) Q g).getD g (Ty.int IntKind.u8).dflt = c at *
     first
       | exact let_yes fl Q g hlt hlen c hc _ (li.1 ‹c = 60›) (by first | exact .inl ‹_› | exact .inr ‹_›) ‹_› ‹_› ‹_›
       | exact let_yes fl Q g hlt hlen c hc _ (li.2.1 ‹¬ c = 60› ‹c = 62›) (by first | exact .inl ‹_› | exact .inr ‹_›) ‹_› ‹_› ‹_›
       | exact let_yes fl Q g hlt hlen c hc _ (li.2.2 ‹¬ c = 60› ‹¬ c = 62›) (by first | exact .inl ‹_› | exact .inr ‹_›) ‹_› ‹_› ‹_›
       | exact let_no fl Q g hlt hlen c hc _ (li.1 ‹c = 60›) (by first | exact .inl ‹_› | exact .inr (.inl ‹_›) | exact .inr (.inr (.inl ‹_›)) | exact .inr (.inr (.inr (.inl ‹_›))) | exact .inr (.inr (.inr (.inr ‹_›))))
       | exact let_no fl Q g hlt hlen c hc _ (li.2.1 ‹¬ c = 60› ‹c = 62›) (by first | exact .inl ‹_› | exact .inr (.inl ‹_›) | exact .inr (.inr (.inl ‹_›)) | exact .inr (.inr (.inr (.inl ‹_›))) | exact .inr (.inr (.inr (.inr ‹_›))))
       | exact let_no fl Q g hlt hlen c hc _ (li.2.2 ‹¬ c = 60› ‹¬ c = 62›) (by first | exact .inl ‹_› | exact .inr (.inl ‹_›) | exact .inr (.inr (.inl ‹_›)) | exact .inr (.inr (.inr (.inl ‹_›))) | exact .inr (.inr (.inr (.inr ‹_›))))))
  all_goals (have hq3 : parseF (List.map (fun n => UInt8.ofNat n.toNat) (turned (bitF fl) Q g)) = ((verb, arg, size, eight), 0) := by rw [turned_end (bitF fl) Q g (by omega)]; exact hp1)
  all_goals first
    | (rw [List.length_map, turned_len]; omega)
    | (rw [List.length_append, List.length_cons, List.length_cons, List.length_nil]; omega)
    | (exfalso; simp only [hq3, beq_self_eq_true, Bool.and_self, Bool.true_eq_false, not_true, Bool.false_eq_true] at *; done)
    | trace_state
end Go.Proofs.YtbkemaekncpkjaaDoor
