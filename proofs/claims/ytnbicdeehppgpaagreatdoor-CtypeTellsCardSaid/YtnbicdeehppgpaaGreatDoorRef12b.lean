/- Helper lemmas towards this seat's statements: a contract, proved for every input within its own premise, of functions of the program. -/
import Derived.Test.YtnbicdeehppgpaaGreatDoorRef12
namespace Go.Proofs.YtnbicdeehppgpaaGreatDoor
open Go Go.Vx
set_option maxRecDepth 100000
set_option linter.unusedSimpArgs false
set_option linter.unusedVariables false
/-- A letter, or one in capitals. -/
theorem lo12_all (b : UInt8) : isIn ctLetters (lo12 b) = isIn ctAll b := by
  have h : ∀ n : Fin 256, isIn ctLetters (lo12 (UInt8.ofNat n.val)) = isIn ctAll (UInt8.ofNat n.val) := by decide +kernel
  have := h ⟨b.toNat, b.toNat_lt⟩
  simpa using this
theorem lo12_up (b : UInt8) (h : 65 ≤ b.toNat ∧ b.toNat ≤ 90) : IntKind.u8.wrap ((b.toNat : Int) + 32) = ((lo12 b).toNat : Int) := by
  have : ∀ n : Fin 256, 65 ≤ (UInt8.ofNat n.val).toNat ∧ (UInt8.ofNat n.val).toNat ≤ 90 → IntKind.u8.wrap (((UInt8.ofNat n.val).toNat : Int) + 32) = ((lo12 (UInt8.ofNat n.val)).toNat : Int) := by decide +kernel
  have := this ⟨b.toNat, b.toNat_lt⟩
  simp only [UInt8.ofNat_toNat] at this
  exact this h
theorem lo12_no (b : UInt8) (h : ¬ (65 ≤ b.toNat ∧ b.toNat ≤ 90)) : lo12 b = b := by
  have : ∀ n : Fin 256, ¬ (65 ≤ (UInt8.ofNat n.val).toNat ∧ (UInt8.ofNat n.val).toNat ≤ 90) → lo12 (UInt8.ofNat n.val) = UInt8.ofNat n.val := by decide +kernel
  have := this ⟨b.toNat, b.toNat_lt⟩
  simp only [UInt8.ofNat_toNat] at this
  exact this h
def word12 (s : List UInt8) (a : Nat) : List UInt8 := (runF ctAll (s.drop a)).map lo12
/-- What has been taken. -/
def took12 (s : List UInt8) (a g : Nat) : List Int := (((s.drop a).take (g - a)).map lo12).map fun b => (b.toNat : Int)
theorem took12_len (s : List UInt8) (a g : Nat) (h : a ≤ g) (hg : g ≤ s.length) : (took12 s a g).length = g - a := by simp [took12]; omega
theorem took12_snoc (s : List UInt8) (a g : Nat) (h : a ≤ g) (hg : g < s.length) : took12 s a (g + 1) = took12 s a g ++ [((lo12 (s.getD g 0)).toNat : Int)] := by
  unfold took12
  rw [show g + 1 - a = (g - a) + 1 by omega, take_snocG (d := (0 : UInt8)) (by rw [List.length_drop]; omega)]
  have : (s.drop a).getD (g - a) 0 = s.getD g 0 := by
    rw [List.getD_eq_getElem?_getD, List.getElem?_drop, List.getD_eq_getElem?_getD, show a + (g - a) = g by omega]
  rw [this]
  simp
theorem took12_end (s : List UInt8) (a g : Nat) (h : a ≤ g) (hg : g ≤ s.length) (ht : trimL (isIn ctAll) (s.drop a) = s.drop g) : ((took12 s a g).map fun n => UInt8.ofNat n.toNat) = word12 s a := by
  unfold took12 word12 runF
  rw [ht, List.length_drop, List.length_drop, show s.length - a - (s.length - g) = g - a by omega]
  simp [Function.comp_def]
def ref12WordT : TF := { doms := [.str, .int .i64], cods := [.str, .int .i64], pre := fun x => (List.length x.1 ≤ 1000000 ∧ 0 ≤ (x.2.1 : Int)) ∧ (x.2.1 : Int) ≤ (List.length x.1 : Int), fn := fun x => (word12 x.1 (Int.toNat x.2.1), (List.length x.1 : Int) - ((trimL (isIn ctAll) (List.drop (Int.toNat x.2.1) x.1)).length : Int), ()) }
set_option maxHeartbeats 4000000 in
theorem ref12Word_ok : TFOk Tryz.prog 27 ref12WordT := by
  refine tf_by (tbl := [(29, ref12LetT)]) fol (tblCons ref12Let_ok Tryz.func29 (by kernel_rfl) tblNil) Tryz.func27 rfl rfl rfl ?_
  rintro ⟨(s : List UInt8), (a0 : Int), _⟩ hpre
  have hlen : s.length ≤ 1000000 := hpre.1.1
  have h0 : 0 ≤ a0 := hpre.1.2
  have h1 : a0 ≤ s.length := hpre.2
  obtain ⟨a, rfl⟩ : ∃ a : Nat, a0 = a := ⟨a0.toNat, by omega⟩
  simp (maxSteps := 5000000) -implicitDefEqProofs only [ref12WordT, ref12LetT, Tryz.f27, ti3, ti4, ti5, ti9, ti49, tyo3, tyo4, tyo5, tyo9, tyo49, arr3, arr4, arr5, arr9, arr49, copyx, copyO, nilArgs, nilcmp, nilcmp2, ofZero_row, ofZero_list, ofZero_int, ofZero_bool, ofZero_string, ofZero_slice, ofZero_pointer, ofZero_func, ofZero_iface, ofZero_map, splx, convU, convB, x_den0, x_den1, x_den2, x_den3, x_den4, x_den5, x_den6, x_skip, x_label, x_ret, x_exit, x_seq, x_block, x_cond, x_cnd1, x_cnd2, x_cnd3, x_region, x_draw, x_sq0, x_sq1, x_sq2, x_sqD, x_sqG1, x_sqG2, x_sqG3, x_sqG4, x_sqG5, x_sqG6, x_sqB1, x_sqB2, x_sqE, x_fold, x_put1, x_put0, x_ef1, x_ef2, x_ef3, x_ef4, x_ef5, x_ef6, x_ef7, x_ef8, x_ef9, callIx, callIf, evM, callEx, callEt, callEo, callE2, wpE, frameK, frameK2, inlW, bodyOf, InlR, tupS, undefs, x_ink1, x_ink2, callEf, callE, eArgs, eCons, eConsB, boxDt, setBx, EF.tf, bxs, eStart, eSlots, eH, goneN, boxE, boxesE, RetE, x_fie1, x_fie2, List.contains_nil, storex, castL_self, appendx, appendT, appendS, appendO, appendN, appendF, appendX, appendY, appendZ, srcq, elemSV, bytesD, nexts, nextx, forget, forgetL, forgetB, forgetH, spl, isCell, List.all_cons, List.all_nil, Option.some.injEq, makeq, makeE, makeT, zeroD, bytesTI, buildSq, buildE, buildB, partsD, tiSz, buildT, fillS, okFlat, rangeq, bytesQ, textQ, adopt, adoptOk, getA, setA, getC, setC, Nat.reduceDiv, Nat.reduceMod, List.replicate_zero, Nat.not_lt_zero, x_fin1, x_fin2, x_fio1, x_fio2, x_own1, x_own2, RetOwn, ownVC, x_lk1, x_lk2, x_lk3, x_un0, x_un1, x_un2, x_un3, x_wr1, x_nv2, x_nv3, l_refl, l_any, l_int, l_bool, l_kb, l_kk, l_str, l_sl, l_nils, l_pp, l_ptr, l_osl, l_slf, l_ag, l_sls, l_agg, wrote, List.filterMap_cons_some, List.filterMap_cons_none, List.filterMap_cons, List.filterMap_nil, havoc, setSs, setBs, atHead, Vx.Sub, leS, leH, leB, below, below.belowL, belowB, belowH, SV.int.injEq, SV.bool.injEq, SV.kb.injEq, SV.str.injEq, SV.sl.injEq, SV.ptr.injEq, SV.pp.injEq, SV.agg.injEq, SV.osl.injEq, Blk.own.injEq, Blk.iter.injEq, heq_eq_eq, eq_self, List.cons.injEq, evq, evS, Vx.get, setO, setS, dstAt, startS, undefs, ofArgs, ofDV, ofD, one, Ty.isAgg, Ty.size, boxq, flat, allocq, allocA, fieldAddrq, fieldq, tkOf, sizeP, loadq, getB, setB, binq, intBin, strBin, boolBin, pickq, Vx.asB, ofConst, ofCell, nilq, unq, convq, sliceq, slice3q, strCut, slCut, makeFuncq, indexAddrq, indexq, extractq, ifaceq, builtinq, callfq, callq, tlook, toArgs, toDV, toD, oneOf, Vx.both, toInt_self, toSl_self, toSl_slf, toSl_nils, toSl_osl, toSlB_self, arrD_self, toRef_self, toRef_ptr, boxD, no1_self, no2_self, clo1_fn, clo1_f1, clo2_fn, clo2_f2, cloA1_fn, cloA1_f1, cloA2_fn, cloA2_f2, cloT1_self, cloT2_self, mk1, mk2, callT, callO, ownQ, lent, scalL, Ty.scal, toAg_self, glS, glTyp, TF.ob, Bool.and_true, Bool.and_false, Bool.true_and, Bool.false_and, List.take_length, Option.isSome_some, List.getD_cons_zero, Vx.toBool, Vx.toNil, Vx.toStr, Vx.toInt, eqCells, subP, TK.isAgg, Bool.true_or, Bool.or_true, litSlot, Option.toList, List.contains_cons, List.contains_nil, Nat.reduceBEq, Bool.or_false, Bool.false_or, evA, appArgs, appendq, appendQ1, appendQ2, appendQ3, trimN, RetVC, resL, ofRes, List.toList_toArray, Bool.not_true, Bool.not_false, Option.map_some, Option.map_none, Option.bind_some, Option.getD_some, Option.getD_none, List.getElem?_cons_zero, List.getElem?_cons_succ, List.cons_append, List.nil_append, List.append_nil, List.length_cons, List.length_nil, List.drop_succ_cons, List.drop_zero, List.take_succ_cons, List.take_zero, List.map_cons, List.map_nil, List.drop_nil, List.take_nil, ite_true, ite_false, reduceCtorEq, true_and, and_true, false_and, and_false, and_self, if_true, if_false, Bool.false_eq_true, reduceIte, Nat.reduceAdd, Nat.reduceLT, Nat.reduceLeDiff, Nat.reduceSub, Nat.reduceMul, Nat.reduceEqDiff, Nat.zero_lt_one, Nat.lt_add_one, Nat.zero_add, Nat.le_refl, decide_true]
  refine x_loopA [(6, .int .u8, 5)] (by simp -implicitDefEqProofs only [below_nilRow, below_setS1, below_setS2, leS_same, l_mp, SV.mp.injEq, Blk.mp.injEq, undefs, Option.some.injEq, adopt, adoptOk, getA, setA, getC, setC, Nat.reduceDiv, Nat.reduceMod, List.replicate_zero, Nat.not_lt_zero, l_refl, l_any, l_int, l_bool, l_kb, l_kk, l_str, l_sl, l_nils, l_pp, l_ptr, l_osl, l_slf, l_ag, l_sls, l_agg, wrote, List.filterMap_cons_some, List.filterMap_cons_none, List.filterMap_cons, List.filterMap_nil, havoc, setSs, setBs, atHead, Vx.Sub, leS, leH, leB, below, below.belowL, belowB, belowH, SV.int.injEq, SV.bool.injEq, SV.kb.injEq, SV.str.injEq, SV.sl.injEq, SV.ptr.injEq, SV.pp.injEq, SV.agg.injEq, SV.osl.injEq, Blk.own.injEq, Blk.iter.injEq, heq_eq_eq, eq_self, List.cons.injEq, Vx.get, setO, setS, undefs, getB, setB, List.toList_toArray, Option.map_some, Option.map_none, Option.getD_some, Option.getD_none, List.getElem?_cons_zero, List.getElem?_cons_succ, List.cons_append, List.nil_append, List.append_nil, List.length_cons, List.length_nil, ite_true, ite_false, reduceCtorEq, true_and, and_true, false_and, and_false, and_self, if_true, if_false, Bool.false_eq_true, reduceIte, Nat.reduceAdd, Nat.reduceLT, Nat.reduceLeDiff, Nat.reduceSub, Nat.reduceMul, Nat.reduceEqDiff, Nat.zero_lt_one, Nat.lt_add_one, Nat.zero_add, Nat.le_refl, decide_true, below_noVal]; rfl) (by simp -implicitDefEqProofs only [below_nilRow, below_setS1, below_setS2, leS_same, l_mp, SV.mp.injEq, Blk.mp.injEq, undefs, Option.some.injEq, adopt, adoptOk, getA, setA, getC, setC, Nat.reduceDiv, Nat.reduceMod, List.replicate_zero, Nat.not_lt_zero, l_refl, l_any, l_int, l_bool, l_kb, l_kk, l_str, l_sl, l_nils, l_pp, l_ptr, l_osl, l_slf, l_ag, l_sls, l_agg, wrote, List.filterMap_cons_some, List.filterMap_cons_none, List.filterMap_cons, List.filterMap_nil, havoc, setSs, setBs, atHead, Vx.Sub, leS, leH, leB, below, below.belowL, belowB, belowH, SV.int.injEq, SV.bool.injEq, SV.kb.injEq, SV.str.injEq, SV.sl.injEq, SV.ptr.injEq, SV.pp.injEq, SV.agg.injEq, SV.osl.injEq, Blk.own.injEq, Blk.iter.injEq, heq_eq_eq, eq_self, List.cons.injEq, Vx.get, setO, setS, undefs, getB, setB, List.toList_toArray, Option.map_some, Option.map_none, Option.getD_some, Option.getD_none, List.getElem?_cons_zero, List.getElem?_cons_succ, List.cons_append, List.nil_append, List.append_nil, List.length_cons, List.length_nil, ite_true, ite_false, reduceCtorEq, true_and, and_true, false_and, and_false, and_self, if_true, if_false, Bool.false_eq_true, reduceIte, Nat.reduceAdd, Nat.reduceLT, Nat.reduceLeDiff, Nat.reduceSub, Nat.reduceMul, Nat.reduceEqDiff, Nat.zero_lt_one, Nat.lt_add_one, Nat.zero_add, Nat.le_refl, decide_true, below_noVal]) (γ := Nat) (fun g => [(1, .int .i64 (g : Int)), (6, .osl 0 (g - a))]) (fun g => [(0, .own (.int .u8) (took12 s a g) 5)]) (fun g => (a ≤ g ∧ g ≤ s.length) ∧ trimL (isIn ctAll) (s.drop g) = trimL (isIn ctAll) (s.drop a)) (fun g => s.length - g) a ⟨⟨⟨Nat.le_refl _, by omega⟩, rfl⟩, ?_⟩ ?_
  · simp -implicitDefEqProofs only [took12, Nat.sub_self, List.take_zero, List.map_nil, below_nilRow, below_setS1, below_setS2, leS_same, l_mp, SV.mp.injEq, Blk.mp.injEq, undefs, Option.some.injEq, adopt, adoptOk, getA, setA, getC, setC, Nat.reduceDiv, Nat.reduceMod, List.replicate_zero, Nat.not_lt_zero, l_refl, l_any, l_int, l_bool, l_kb, l_kk, l_str, l_sl, l_nils, l_pp, l_ptr, l_osl, l_slf, l_ag, l_sls, l_agg, wrote, List.filterMap_cons_some, List.filterMap_cons_none, List.filterMap_cons, List.filterMap_nil, havoc, setSs, setBs, atHead, Vx.Sub, leS, leH, leB, below, below.belowL, belowB, belowH, SV.int.injEq, SV.bool.injEq, SV.kb.injEq, SV.str.injEq, SV.sl.injEq, SV.ptr.injEq, SV.pp.injEq, SV.agg.injEq, SV.osl.injEq, Blk.own.injEq, Blk.iter.injEq, heq_eq_eq, eq_self, List.cons.injEq, Vx.get, setO, setS, undefs, getB, setB, List.toList_toArray, Option.map_some, Option.map_none, Option.getD_some, Option.getD_none, List.getElem?_cons_zero, List.getElem?_cons_succ, List.cons_append, List.nil_append, List.append_nil, List.length_cons, List.length_nil, ite_true, ite_false, reduceCtorEq, true_and, and_true, false_and, and_false, and_self, if_true, if_false, Bool.false_eq_true, reduceIte, Nat.reduceAdd, Nat.reduceLT, Nat.reduceLeDiff, Nat.reduceSub, Nat.reduceMul, Nat.reduceEqDiff, Nat.zero_lt_one, Nat.lt_add_one, Nat.zero_add, Nat.le_refl, decide_true, below_noVal]
    all_goals trivial
  · intro g hg
    have hg0 : a ≤ g := hg.1.1
    have hg1 : g ≤ s.length := hg.1.2
    have hg2 : trimL (isIn ctAll) (s.drop g) = trimL (isIn ctAll) (s.drop a) := hg.2
    clear hg
    have htl := took12_len s a g hg0 hg1
    have htk : (took12 s a g).take (g - a) = took12 s a g := List.take_of_length_le (by omega)
    have hby := (s.getD g 0).toNat_lt
    simp (maxSteps := 5000000) -implicitDefEqProofs only [htl, htk, let12_byte, ref12LetT, Tryz.f27, ti3, ti4, ti5, ti9, ti49, tyo3, tyo4, tyo5, tyo9, tyo49, arr3, arr4, arr5, arr9, arr49, copyx, copyO, nilArgs, nilcmp, nilcmp2, ofZero_row, ofZero_list, ofZero_int, ofZero_bool, ofZero_string, ofZero_slice, ofZero_pointer, ofZero_func, ofZero_iface, ofZero_map, splx, convU, convB, x_den0, x_den1, x_den2, x_den3, x_den4, x_den5, x_den6, x_skip, x_label, x_ret, x_exit, x_seq, x_block, x_cond, x_cnd1, x_cnd2, x_cnd3, x_region, x_draw, x_sq0, x_sq1, x_sq2, x_sqD, x_sqG1, x_sqG2, x_sqG3, x_sqG4, x_sqG5, x_sqG6, x_sqB1, x_sqB2, x_sqE, x_fold, x_put1, x_put0, x_ef1, x_ef2, x_ef3, x_ef4, x_ef5, x_ef6, x_ef7, x_ef8, x_ef9, callIx, callIf, evM, callEx, callEt, callEo, callE2, wpE, frameK, frameK2, inlW, bodyOf, InlR, tupS, undefs, x_ink1, x_ink2, callEf, callE, eArgs, eCons, eConsB, boxDt, setBx, EF.tf, bxs, eStart, eSlots, eH, goneN, boxE, boxesE, RetE, x_fie1, x_fie2, List.contains_nil, storex, castL_self, appendx, appendT, appendS, appendO, appendN, appendF, appendX, appendY, appendZ, srcq, elemSV, bytesD, nexts, nextx, forget, forgetL, forgetB, forgetH, spl, isCell, List.all_cons, List.all_nil, Option.some.injEq, makeq, makeE, makeT, zeroD, bytesTI, buildSq, buildE, buildB, partsD, tiSz, buildT, fillS, okFlat, rangeq, bytesQ, textQ, adopt, adoptOk, getA, setA, getC, setC, Nat.reduceDiv, Nat.reduceMod, List.replicate_zero, Nat.not_lt_zero, x_fin1, x_fin2, x_fio1, x_fio2, x_own1, x_own2, RetOwn, ownVC, x_lk1, x_lk2, x_lk3, x_un0, x_un1, x_un2, x_un3, x_wr1, x_nv2, x_nv3, l_refl, l_any, l_int, l_bool, l_kb, l_kk, l_str, l_sl, l_nils, l_pp, l_ptr, l_osl, l_slf, l_ag, l_sls, l_agg, wrote, List.filterMap_cons_some, List.filterMap_cons_none, List.filterMap_cons, List.filterMap_nil, havoc, setSs, setBs, atHead, Vx.Sub, leS, leH, leB, below, below.belowL, belowB, belowH, SV.int.injEq, SV.bool.injEq, SV.kb.injEq, SV.str.injEq, SV.sl.injEq, SV.ptr.injEq, SV.pp.injEq, SV.agg.injEq, SV.osl.injEq, Blk.own.injEq, Blk.iter.injEq, heq_eq_eq, eq_self, List.cons.injEq, evq, evS, Vx.get, setO, setS, dstAt, startS, undefs, ofArgs, ofDV, ofD, one, Ty.isAgg, Ty.size, boxq, flat, allocq, allocA, fieldAddrq, fieldq, tkOf, sizeP, loadq, getB, setB, binq, intBin, strBin, boolBin, pickq, Vx.asB, ofConst, ofCell, nilq, unq, convq, sliceq, slice3q, strCut, slCut, makeFuncq, indexAddrq, indexq, extractq, ifaceq, builtinq, callfq, callq, tlook, toArgs, toDV, toD, oneOf, Vx.both, toInt_self, toSl_self, toSl_slf, toSl_nils, toSl_osl, toSlB_self, arrD_self, toRef_self, toRef_ptr, boxD, no1_self, no2_self, clo1_fn, clo1_f1, clo2_fn, clo2_f2, cloA1_fn, cloA1_f1, cloA2_fn, cloA2_f2, cloT1_self, cloT2_self, mk1, mk2, callT, callO, ownQ, lent, scalL, Ty.scal, toAg_self, glS, glTyp, TF.ob, Bool.and_true, Bool.and_false, Bool.true_and, Bool.false_and, List.take_length, Option.isSome_some, List.getD_cons_zero, Vx.toBool, Vx.toNil, Vx.toStr, Vx.toInt, eqCells, subP, TK.isAgg, Bool.true_or, Bool.or_true, litSlot, Option.toList, List.contains_cons, List.contains_nil, Nat.reduceBEq, Bool.or_false, Bool.false_or, evA, appArgs, appendq, appendQ1, appendQ2, appendQ3, trimN, RetVC, resL, ofRes, List.toList_toArray, Bool.not_true, Bool.not_false, Option.map_some, Option.map_none, Option.bind_some, Option.getD_some, Option.getD_none, List.getElem?_cons_zero, List.getElem?_cons_succ, List.cons_append, List.nil_append, List.append_nil, List.length_cons, List.length_nil, List.drop_succ_cons, List.drop_zero, List.take_succ_cons, List.take_zero, List.map_cons, List.map_nil, List.drop_nil, List.take_nil, ite_true, ite_false, reduceCtorEq, true_and, and_true, false_and, and_false, and_self, if_true, if_false, Bool.false_eq_true, reduceIte, Nat.reduceAdd, Nat.reduceLT, Nat.reduceLeDiff, Nat.reduceSub, Nat.reduceMul, Nat.reduceEqDiff, Nat.zero_lt_one, Nat.lt_add_one, Nat.zero_add, Nat.le_refl, decide_true]
    repeat' (first | (with_reducible refine drawOk_by ?_; kernel_rfl) | (with_reducible refine And.intro ?_ ?_) | (with_reducible intro _)); all_goals (try simp only [decide_eq_true_eq, decide_eq_false_iff_not, Int.not_lt, Int.not_le, beq_iff_eq, bne_iff_ne, beq_eq_false_iff_ne, bne_eq_false_iff_eq, ne_eq, Decidable.not_not] at *)
    all_goals (try simp only [Int.toNat_natCast, Bool.not_eq_true', Bool.not_eq_false'] at *)
    all_goals (have hl2 : (s.drop g).length = s.length - g := List.length_drop)
    all_goals first
      | exact Int.natCast_nonneg _
      | omega
      | exact Int.ofNat_lt.2 (UInt8.toNat_lt _)
      | (simp only [List.length_append, List.length_cons, List.length_nil]; omega)
      | (have hl := lo12_up (s.getD g 0) ⟨by omega, by omega⟩
         rw [hl]
         first
           | exact Int.ofNat_lt.2 (UInt8.toNat_lt _)
           | exact Int.natCast_nonneg _)
      | (have hlt : g < s.length := by omega
         have hd := drop_at (d := (0 : UInt8)) hlt
         have hq : isIn ctAll (s.getD g 0) = false := by
           first
             | (have hq := ‹let12I _ = false›
                rwa [lo12_up (s.getD g 0) ⟨by omega, by omega⟩, let12_byte, lo12_all] at hq)
             | (have hq := ‹isIn ctLetters (s.getD g 0) = false›
                have hla := lo12_all (s.getD g 0)
                rw [lo12_no (s.getD g 0) (by omega)] at hla
                rwa [hla] at hq)
         rw [hd, trimL_stop hq, ← hd] at hg2
         rw [took12_end s a g hg0 hg1 hg2.symm, ← hg2, hl2, show (s.length : Int) - ((s.length - g : Nat) : Int) = (g : Int) by omega])
      | (have hlt : g < s.length := by omega
         have hd := drop_at (d := (0 : UInt8)) hlt
         have hs := took12_snoc s a g hg0 hlt
         have hq : isIn ctAll (s.getD g 0) = true := by
           first
             | (have hq := ‹let12I _ = true›
                rwa [lo12_up (s.getD g 0) ⟨by omega, by omega⟩, let12_byte, lo12_all] at hq)
             | (have hq := ‹isIn ctLetters (s.getD g 0) = true›
                have hla := lo12_all (s.getD g 0)
                rw [lo12_no (s.getD g 0) (by omega)] at hla
                rwa [hla] at hq)
         rw [hd, trimL_go hq] at hg2
         first
           | rw [lo12_up (s.getD g 0) ⟨by omega, by omega⟩]
           | rw [lo12_no (s.getD g 0) (by omega)] at hs
         exact ⟨g + 1, ⟨⟨by omega, by omega⟩, hg2⟩, by omega, ⟨w64_succ (n := s.length) hlt (by omega), by simp only [List.length_append, List.length_cons, List.length_nil]; omega⟩, hs.symm⟩)
      | (have hd : s.drop g = [] := List.drop_eq_nil_of_le (by omega)
         have hg3 : trimL (isIn ctAll) (s.drop a) = s.drop g := by rw [← hg2, hd]; rfl
         rw [took12_end s a g hg0 hg1 hg3, hg3, hl2, show (s.length : Int) - ((s.length - g : Nat) : Int) = (g : Int) by omega])
      | trace_state
theorem right12_parts (mn sb : List UInt8) (ps : List Param) : ctRightF (mn, sb, ps) = true ↔ (∀ i, i < ps.length → rightP ps i = true) ∧ tokF mn = true ∧ tokF sb = true ∧ ps.length ≤ 8 := by
  simp only [ctRightF, Bool.and_eq_true, decide_eq_true_eq, List.all_eq_true, List.mem_range, and_assoc]
def ref12RightT : TF := { doms := [tType], cods := [.bool], pre := fun x => shortT x.1, fn := fun x => (ctRightF x.1, ()) }
set_option maxHeartbeats 4000000 in
theorem ref12Right_ok : TFOk Tryz.prog 14 ref12RightT := by
  refine tf_by (tbl := [(19, ref12TokT)]) fol (tblCons ref12Tok_ok Tryz.func19 (by kernel_rfl) tblNil) Tryz.func14 rfl rfl rfl ?_
  rintro ⟨⟨(mn : List UInt8), (sb : List UInt8), (ps : List Param)⟩, _⟩ hpre
  have hs : shortT (mn, sb, ps) := hpre
  have s1 : mn.length ≤ 1000000 := hs.1
  have s2 : sb.length ≤ 1000000 := hs.2.1
  have s3 : ps.length ≤ 1000000 := hs.2.2.1
  have s4 : ∀ p ∈ ps, p.1.length ≤ 1000000 ∧ p.2.length ≤ 1000000 := hs.2.2.2
  have hR := right12_parts mn sb ps
  have hno : ∀ g, g < ps.length → rightP ps g = false → ctRightF (mn, sb, ps) = false := fun g hg h => by
    rw [Bool.eq_false_iff]
    intro hc
    have := (hR.1 hc).1 g hg
    rw [h] at this; cases this
  simp (maxSteps := 5000000) -implicitDefEqProofs only [ref12RightT, ref12TokT, Tryz.f14, ti3, ti4, ti5, ti9, ti22, ti23, ti24, ti40, ti41, eqk41, tyo3, tyo4, tyo5, tyo9, tyo22, tyo23, tyo24, tyo40, tyo41, arr3, arr4, arr5, arr9, arr22, arr23, arr24, arr40, arr41, copyx, copyO, nilArgs, nilcmp, nilcmp2, ofZero_row, ofZero_list, ofZero_int, ofZero_bool, ofZero_string, ofZero_slice, ofZero_pointer, ofZero_func, ofZero_iface, ofZero_map, splx, convU, convB, cq_bd, cq_nil0, cq_osub, x_den0, x_den1, x_den2, x_den3, x_den4, x_den5, x_den6, x_skip, x_label, x_ret, x_exit, x_seq, x_block, x_cond, x_cnd1, x_cnd2, x_cnd3, x_region, x_draw, x_sq0, x_sq1, x_sq2, x_sqD, x_sqG1, x_sqG2, x_sqG3, x_sqG4, x_sqG5, x_sqG6, x_sqB1, x_sqB2, x_sqE, x_fold, x_put1, x_put0, x_ef1, x_ef2, x_ef3, x_ef4, x_ef5, x_ef6, x_ef7, x_ef8, x_ef9, callIx, callIf, evM, callEx, callEt, callEo, callE2, wpE, frameK, frameK2, inlW, bodyOf, InlR, tupS, undefs, x_ink1, x_ink2, callEf, callE, eArgs, eCons, eConsB, boxDt, setBx, EF.tf, bxs, eStart, eSlots, eH, goneN, boxE, boxesE, RetE, x_fie1, x_fie2, List.contains_nil, storex, castL_self, appendx, appendT, appendS, appendO, appendN, appendF, appendX, appendY, appendZ, srcq, elemSV, bytesD, nexts, nextx, forget, forgetL, forgetB, forgetH, spl, isCell, List.all_cons, List.all_nil, Option.some.injEq, makeq, makeE, makeT, zeroD, bytesTI, buildSq, buildE, buildB, partsD, tiSz, buildT, fillS, okFlat, rangeq, bytesQ, textQ, adopt, adoptOk, getA, setA, getC, setC, Nat.reduceDiv, Nat.reduceMod, List.replicate_zero, Nat.not_lt_zero, x_dr0, x_dr1, x_dr2, x_drD, x_drG1, x_drG2, x_drG3, x_drG4, x_drG5, x_drG6, x_drB1, x_fin1, x_fin2, x_fio1, x_fio2, x_own1, x_own2, RetOwn, ownVC, x_lk1, x_lk2, x_lk3, x_un0, x_un1, x_un2, x_un3, x_wr1, x_nv2, x_nv3, l_refl, l_any, l_int, l_bool, l_kb, l_kk, l_str, l_sl, l_nils, l_pp, l_ptr, l_osl, l_slf, l_ag, l_sls, l_agg, wrote, List.filterMap_cons_some, List.filterMap_cons_none, List.filterMap_cons, List.filterMap_nil, havoc, setSs, setBs, atHead, Vx.Sub, leS, leH, leB, below, below.belowL, belowB, belowH, SV.int.injEq, SV.bool.injEq, SV.kb.injEq, SV.str.injEq, SV.sl.injEq, SV.ptr.injEq, SV.pp.injEq, SV.agg.injEq, SV.osl.injEq, Blk.own.injEq, Blk.iter.injEq, heq_eq_eq, eq_self, List.cons.injEq, evq, evS, Vx.get, setO, setS, dstAt, startS, undefs, ofArgs, ofDV, ofD, one, Ty.isAgg, Ty.size, boxq, flat, allocq, allocA, fieldAddrq, fieldq, tkOf, sizeP, loadq, getB, setB, binq, intBin, strBin, boolBin, pickq, Vx.asB, ofConst, ofCell, nilq, unq, convq, sliceq, slice3q, strCut, slCut, makeFuncq, indexAddrq, indexq, extractq, ifaceq, builtinq, callfq, callq, tlook, toArgs, toDV, toD, oneOf, Vx.both, toInt_self, toSl_self, toSl_slf, toSl_nils, toSl_osl, toSlB_self, arrD_self, toRef_self, toRef_ptr, boxD, no1_self, no2_self, clo1_fn, clo1_f1, clo2_fn, clo2_f2, cloA1_fn, cloA1_f1, cloA2_fn, cloA2_f2, cloT1_self, cloT2_self, mk1, mk2, callT, callO, ownQ, lent, scalL, Ty.scal, toAg_self, glS, glTyp, TF.ob, Bool.and_true, Bool.and_false, Bool.true_and, Bool.false_and, List.take_length, Option.isSome_some, List.getD_cons_zero, Vx.toBool, Vx.toNil, Vx.toStr, Vx.toInt, eqCells, subP, TK.isAgg, quietPre, opQuiet, opQuiet.onEmpty, quietTF, quietEf, cloSlot, Bool.true_or, Bool.or_true, cq_noVal, cq_fn, cq_f1, cq_f2, cq_any, cq_int, cq_bool, cq_kb, cq_str, cq_sl, cq_nils, cq_osl, cq_mp, cq_slf, cq_ag, cq_pp, cq_ptr, cq_eptr, cq_nilp, cq_agg, cq_tup, cq_nilf, cq_ifc, cq_nili, cq_raw, litSlot, Option.toList, List.contains_cons, List.contains_nil, Nat.reduceBEq, Bool.or_false, Bool.false_or, evA, appArgs, appendq, appendQ1, appendQ2, appendQ3, trimN, RetVC, resL, ofRes, List.toList_toArray, Bool.not_true, Bool.not_false, Option.map_some, Option.map_none, Option.bind_some, Option.getD_some, Option.getD_none, List.getElem?_cons_zero, List.getElem?_cons_succ, List.cons_append, List.nil_append, List.append_nil, List.length_cons, List.length_nil, List.drop_succ_cons, List.drop_zero, List.take_succ_cons, List.take_zero, List.map_cons, List.map_nil, List.drop_nil, List.take_nil, ite_true, ite_false, reduceCtorEq, true_and, and_true, false_and, and_false, and_self, if_true, if_false, Bool.false_eq_true, reduceIte, Nat.reduceAdd, Nat.reduceLT, Nat.reduceLeDiff, Nat.reduceSub, Nat.reduceMul, Nat.reduceEqDiff, Nat.zero_lt_one, Nat.lt_add_one, Nat.zero_add, Nat.le_refl, decide_true]
  repeat' (first | (with_reducible refine drawOk_by ?_; kernel_rfl) | (with_reducible refine And.intro ?_ ?_) | (with_reducible intro _)); all_goals (try simp only [decide_eq_true_eq, decide_eq_false_iff_not, Int.not_lt, Int.not_le, beq_iff_eq, bne_iff_ne, beq_eq_false_iff_ne, bne_eq_false_iff_eq, ne_eq, Decidable.not_not] at *)
  all_goals (try simp only [Bool.not_eq_true', Bool.not_eq_false'] at *)
  all_goals first
    | exact s1
    | exact s2
    | omega
    | (have hc : ctRightF (mn, sb, ps) = false := Bool.eq_false_iff.2 fun hc => by
         have h := (hR.1 hc).2
         first
           | (rw [‹tokF mn = false›] at h; exact absurd h.1 (by simp))
           | (rw [‹tokF sb = false›] at h; exact absurd h.2.1 (by simp))
           | (have := h.2.2; omega)
       rw [hc])
    | skip
  have ht1 : tokF mn = true := by assumption
  have ht2 : tokF sb = true := by assumption
  have ht3 : ps.length ≤ 8 := by omega
  refine x_loop (γ := Nat) (fun g => [(3, .int .i64 (g : Int))]) (fun _ => []) (fun g => g ≤ ps.length ∧ ∀ k, k < g → rightP ps k = true) (fun g => ps.length - g) 0 ⟨⟨Nat.zero_le _, fun k h => absurd h (Nat.not_lt_zero _)⟩, ?_⟩ ?_
  · simp -implicitDefEqProofs only [below_nilRow, below_setS1, below_setS2, leS_same, l_mp, SV.mp.injEq, Blk.mp.injEq, undefs, Option.some.injEq, adopt, adoptOk, getA, setA, getC, setC, Nat.reduceDiv, Nat.reduceMod, List.replicate_zero, Nat.not_lt_zero, l_refl, l_any, l_int, l_bool, l_kb, l_kk, l_str, l_sl, l_nils, l_pp, l_ptr, l_osl, l_slf, l_ag, l_sls, l_agg, wrote, List.filterMap_cons_some, List.filterMap_cons_none, List.filterMap_cons, List.filterMap_nil, havoc, setSs, setBs, atHead, Vx.Sub, leS, leH, leB, below, below.belowL, belowB, belowH, SV.int.injEq, SV.bool.injEq, SV.kb.injEq, SV.str.injEq, SV.sl.injEq, SV.ptr.injEq, SV.pp.injEq, SV.agg.injEq, SV.osl.injEq, Blk.own.injEq, Blk.iter.injEq, heq_eq_eq, eq_self, List.cons.injEq, Vx.get, setO, setS, undefs, getB, setB, List.toList_toArray, Option.map_some, Option.map_none, Option.getD_some, Option.getD_none, List.getElem?_cons_zero, List.getElem?_cons_succ, List.cons_append, List.nil_append, List.append_nil, List.length_cons, List.length_nil, ite_true, ite_false, reduceCtorEq, true_and, and_true, false_and, and_false, and_self, if_true, if_false, Bool.false_eq_true, reduceIte, Nat.reduceAdd, Nat.reduceLT, Nat.reduceLeDiff, Nat.reduceSub, Nat.reduceMul, Nat.reduceEqDiff, Nat.zero_lt_one, Nat.lt_add_one, Nat.zero_add, Nat.le_refl, decide_true, below_noVal]
    trivial
  intro g hg
  have hg1 : g ≤ ps.length := hg.1
  have hg2 : ∀ k, k < g → rightP ps k = true := hg.2
  clear hg
  simp (maxSteps := 5000000) -implicitDefEqProofs only [ref12TokT, Tryz.f14, ti3, ti4, ti5, ti9, ti22, ti23, ti24, ti40, ti41, eqk41, tyo3, tyo4, tyo5, tyo9, tyo22, tyo23, tyo24, tyo40, tyo41, arr3, arr4, arr5, arr9, arr22, arr23, arr24, arr40, arr41, copyx, copyO, nilArgs, nilcmp, nilcmp2, ofZero_row, ofZero_list, ofZero_int, ofZero_bool, ofZero_string, ofZero_slice, ofZero_pointer, ofZero_func, ofZero_iface, ofZero_map, splx, convU, convB, cq_bd, cq_nil0, cq_osub, x_den0, x_den1, x_den2, x_den3, x_den4, x_den5, x_den6, x_skip, x_label, x_ret, x_exit, x_seq, x_block, x_cond, x_cnd1, x_cnd2, x_cnd3, x_region, x_draw, x_sq0, x_sq1, x_sq2, x_sqD, x_sqG1, x_sqG2, x_sqG3, x_sqG4, x_sqG5, x_sqG6, x_sqB1, x_sqB2, x_sqE, x_fold, x_put1, x_put0, x_ef1, x_ef2, x_ef3, x_ef4, x_ef5, x_ef6, x_ef7, x_ef8, x_ef9, callIx, callIf, evM, callEx, callEt, callEo, callE2, wpE, frameK, frameK2, inlW, bodyOf, InlR, tupS, undefs, x_ink1, x_ink2, callEf, callE, eArgs, eCons, eConsB, boxDt, setBx, EF.tf, bxs, eStart, eSlots, eH, goneN, boxE, boxesE, RetE, x_fie1, x_fie2, List.contains_nil, storex, castL_self, appendx, appendT, appendS, appendO, appendN, appendF, appendX, appendY, appendZ, srcq, elemSV, bytesD, nexts, nextx, forget, forgetL, forgetB, forgetH, spl, isCell, List.all_cons, List.all_nil, Option.some.injEq, makeq, makeE, makeT, zeroD, bytesTI, buildSq, buildE, buildB, partsD, tiSz, buildT, fillS, okFlat, rangeq, bytesQ, textQ, adopt, adoptOk, getA, setA, getC, setC, Nat.reduceDiv, Nat.reduceMod, List.replicate_zero, Nat.not_lt_zero, x_dr0, x_dr1, x_dr2, x_drD, x_drG1, x_drG2, x_drG3, x_drG4, x_drG5, x_drG6, x_drB1, x_fin1, x_fin2, x_fio1, x_fio2, x_own1, x_own2, RetOwn, ownVC, x_lk1, x_lk2, x_lk3, x_un0, x_un1, x_un2, x_un3, x_wr1, x_nv2, x_nv3, l_refl, l_any, l_int, l_bool, l_kb, l_kk, l_str, l_sl, l_nils, l_pp, l_ptr, l_osl, l_slf, l_ag, l_sls, l_agg, wrote, List.filterMap_cons_some, List.filterMap_cons_none, List.filterMap_cons, List.filterMap_nil, havoc, setSs, setBs, atHead, Vx.Sub, leS, leH, leB, below, below.belowL, belowB, belowH, SV.int.injEq, SV.bool.injEq, SV.kb.injEq, SV.str.injEq, SV.sl.injEq, SV.ptr.injEq, SV.pp.injEq, SV.agg.injEq, SV.osl.injEq, Blk.own.injEq, Blk.iter.injEq, heq_eq_eq, eq_self, List.cons.injEq, evq, evS, Vx.get, setO, setS, dstAt, startS, undefs, ofArgs, ofDV, ofD, one, Ty.isAgg, Ty.size, boxq, flat, allocq, allocA, fieldAddrq, fieldq, tkOf, sizeP, loadq, getB, setB, binq, intBin, strBin, boolBin, pickq, Vx.asB, ofConst, ofCell, nilq, unq, convq, sliceq, slice3q, strCut, slCut, makeFuncq, indexAddrq, indexq, extractq, ifaceq, builtinq, callfq, callq, tlook, toArgs, toDV, toD, oneOf, Vx.both, toInt_self, toSl_self, toSl_slf, toSl_nils, toSl_osl, toSlB_self, arrD_self, toRef_self, toRef_ptr, boxD, no1_self, no2_self, clo1_fn, clo1_f1, clo2_fn, clo2_f2, cloA1_fn, cloA1_f1, cloA2_fn, cloA2_f2, cloT1_self, cloT2_self, mk1, mk2, callT, callO, ownQ, lent, scalL, Ty.scal, toAg_self, glS, glTyp, TF.ob, Bool.and_true, Bool.and_false, Bool.true_and, Bool.false_and, List.take_length, Option.isSome_some, List.getD_cons_zero, Vx.toBool, Vx.toNil, Vx.toStr, Vx.toInt, eqCells, subP, TK.isAgg, quietPre, opQuiet, opQuiet.onEmpty, quietTF, quietEf, cloSlot, Bool.true_or, Bool.or_true, cq_noVal, cq_fn, cq_f1, cq_f2, cq_any, cq_int, cq_bool, cq_kb, cq_str, cq_sl, cq_nils, cq_osl, cq_mp, cq_slf, cq_ag, cq_pp, cq_ptr, cq_eptr, cq_nilp, cq_agg, cq_tup, cq_nilf, cq_ifc, cq_nili, cq_raw, litSlot, Option.toList, List.contains_cons, List.contains_nil, Nat.reduceBEq, Bool.or_false, Bool.false_or, evA, appArgs, appendq, appendQ1, appendQ2, appendQ3, trimN, RetVC, resL, ofRes, List.toList_toArray, Bool.not_true, Bool.not_false, Option.map_some, Option.map_none, Option.bind_some, Option.getD_some, Option.getD_none, List.getElem?_cons_zero, List.getElem?_cons_succ, List.cons_append, List.nil_append, List.append_nil, List.length_cons, List.length_nil, List.drop_succ_cons, List.drop_zero, List.take_succ_cons, List.take_zero, List.map_cons, List.map_nil, List.drop_nil, List.take_nil, ite_true, ite_false, reduceCtorEq, true_and, and_true, false_and, and_false, and_self, if_true, if_false, Bool.false_eq_true, reduceIte, Nat.reduceAdd, Nat.reduceLT, Nat.reduceLeDiff, Nat.reduceSub, Nat.reduceMul, Nat.reduceEqDiff, Nat.zero_lt_one, Nat.lt_add_one, Nat.zero_add, Nat.le_refl, decide_true]
  repeat' (first | (with_reducible refine drawOk_by ?_; kernel_rfl) | (with_reducible refine And.intro ?_ ?_) | (with_reducible intro _)); all_goals (try simp only [decide_eq_true_eq, decide_eq_false_iff_not, Int.not_lt, Int.not_le, beq_iff_eq, bne_iff_ne, beq_eq_false_iff_ne, bne_eq_false_iff_eq, ne_eq, Decidable.not_not] at *)
  all_goals (try simp only [Int.toNat_natCast, Bool.not_eq_true', Bool.not_eq_false'] at *)
  all_goals first
    | exact Int.natCast_nonneg _
    | omega
    | (have hlt : g < ps.length := by omega
       have hm := s4 _ (getD_mem (d := tParam.dflt) hlt)
       first
         | exact hm.1
         | exact hm.2
         | (rw [hno g hlt (by unfold rightP; rw [‹tokF (ps.getD g tParam.dflt).1 = false›]; rfl)]; done)
         | (have hv : valF (ps.getD g tParam.dflt).2 = false := by
              unfold valF
              rw [decide_eq_false (show ¬ (ps.getD g tParam.dflt).2.length ≤ 70 from fun h => absurd (Int.ofNat_le.2 h) (Int.not_le.2 ‹(70 : Int) < _›)), Bool.and_false]
            rw [hno g hlt (by unfold rightP; rw [hv, Bool.and_false]; rfl)]; done))
    | (rw [hR.2 ⟨fun i hi => hg2 i (by omega), ht1, ht2, ht3⟩]; done)
    | skip
  have hlt : g < ps.length := by omega
  have hm := s4 _ (getD_mem (d := tParam.dflt) hlt)
  have hvl : (ps.getD g tParam.dflt).2.length ≤ 70 := Int.ofNat_le.1 ‹_ ≤ (70 : Int)›
  have hv0 : ∀ k, k < (ps.getD g tParam.dflt).2.length → nameByte ((ps.getD g tParam.dflt).2.getD k 0) = false → ctRightF (mn, sb, ps) = false := fun k hk h => hno g hlt (by
    have hv : valF (ps.getD g tParam.dflt).2 = false := by
      unfold valF
      rw [show (ps.getD g tParam.dflt).2.all nameByte = false from List.all_eq_false.2 ⟨_, getD_mem (d := (0 : UInt8)) hk, by rw [h]; simp⟩, Bool.false_and]
    unfold rightP
    rw [hv, Bool.and_false]; rfl)
  refine x_loop (γ := Nat) (fun k => [(4, .int .i64 (k : Int))]) (fun _ => []) (fun k => k ≤ (ps.getD g tParam.dflt).2.length ∧ ∀ j, j < k → nameByte ((ps.getD g tParam.dflt).2.getD j 0) = true) (fun k => (ps.getD g tParam.dflt).2.length - k) 0 ⟨⟨Nat.zero_le _, fun k h => absurd h (Nat.not_lt_zero _)⟩, ?_⟩ ?_
  · simp -implicitDefEqProofs only [below_nilRow, below_setS1, below_setS2, leS_same, l_mp, SV.mp.injEq, Blk.mp.injEq, undefs, Option.some.injEq, adopt, adoptOk, getA, setA, getC, setC, Nat.reduceDiv, Nat.reduceMod, List.replicate_zero, Nat.not_lt_zero, l_refl, l_any, l_int, l_bool, l_kb, l_kk, l_str, l_sl, l_nils, l_pp, l_ptr, l_osl, l_slf, l_ag, l_sls, l_agg, wrote, List.filterMap_cons_some, List.filterMap_cons_none, List.filterMap_cons, List.filterMap_nil, havoc, setSs, setBs, atHead, Vx.Sub, leS, leH, leB, below, below.belowL, belowB, belowH, SV.int.injEq, SV.bool.injEq, SV.kb.injEq, SV.str.injEq, SV.sl.injEq, SV.ptr.injEq, SV.pp.injEq, SV.agg.injEq, SV.osl.injEq, Blk.own.injEq, Blk.iter.injEq, heq_eq_eq, eq_self, List.cons.injEq, Vx.get, setO, setS, undefs, getB, setB, List.toList_toArray, Option.map_some, Option.map_none, Option.getD_some, Option.getD_none, List.getElem?_cons_zero, List.getElem?_cons_succ, List.cons_append, List.nil_append, List.append_nil, List.length_cons, List.length_nil, ite_true, ite_false, reduceCtorEq, true_and, and_true, false_and, and_false, and_self, if_true, if_false, Bool.false_eq_true, reduceIte, Nat.reduceAdd, Nat.reduceLT, Nat.reduceLeDiff, Nat.reduceSub, Nat.reduceMul, Nat.reduceEqDiff, Nat.zero_lt_one, Nat.lt_add_one, Nat.zero_add, Nat.le_refl, decide_true, below_noVal]
    trivial
  intro k hk
  have hk1 : k ≤ (ps.getD g tParam.dflt).2.length := hk.1
  have hk2 : ∀ j, j < k → nameByte ((ps.getD g tParam.dflt).2.getD j 0) = true := hk.2
  clear hk
  simp (maxSteps := 5000000) -implicitDefEqProofs only [ref12TokT, Tryz.f14, ti3, ti4, ti5, ti9, ti22, ti23, ti24, ti40, ti41, eqk41, tyo3, tyo4, tyo5, tyo9, tyo22, tyo23, tyo24, tyo40, tyo41, arr3, arr4, arr5, arr9, arr22, arr23, arr24, arr40, arr41, copyx, copyO, nilArgs, nilcmp, nilcmp2, ofZero_row, ofZero_list, ofZero_int, ofZero_bool, ofZero_string, ofZero_slice, ofZero_pointer, ofZero_func, ofZero_iface, ofZero_map, splx, convU, convB, cq_bd, cq_nil0, cq_osub, x_den0, x_den1, x_den2, x_den3, x_den4, x_den5, x_den6, x_skip, x_label, x_ret, x_exit, x_seq, x_block, x_cond, x_cnd1, x_cnd2, x_cnd3, x_region, x_draw, x_sq0, x_sq1, x_sq2, x_sqD, x_sqG1, x_sqG2, x_sqG3, x_sqG4, x_sqG5, x_sqG6, x_sqB1, x_sqB2, x_sqE, x_fold, x_put1, x_put0, x_ef1, x_ef2, x_ef3, x_ef4, x_ef5, x_ef6, x_ef7, x_ef8, x_ef9, callIx, callIf, evM, callEx, callEt, callEo, callE2, wpE, frameK, frameK2, inlW, bodyOf, InlR, tupS, undefs, x_ink1, x_ink2, callEf, callE, eArgs, eCons, eConsB, boxDt, setBx, EF.tf, bxs, eStart, eSlots, eH, goneN, boxE, boxesE, RetE, x_fie1, x_fie2, List.contains_nil, storex, castL_self, appendx, appendT, appendS, appendO, appendN, appendF, appendX, appendY, appendZ, srcq, elemSV, bytesD, nexts, nextx, forget, forgetL, forgetB, forgetH, spl, isCell, List.all_cons, List.all_nil, Option.some.injEq, makeq, makeE, makeT, zeroD, bytesTI, buildSq, buildE, buildB, partsD, tiSz, buildT, fillS, okFlat, rangeq, bytesQ, textQ, adopt, adoptOk, getA, setA, getC, setC, Nat.reduceDiv, Nat.reduceMod, List.replicate_zero, Nat.not_lt_zero, x_dr0, x_dr1, x_dr2, x_drD, x_drG1, x_drG2, x_drG3, x_drG4, x_drG5, x_drG6, x_drB1, x_fin1, x_fin2, x_fio1, x_fio2, x_own1, x_own2, RetOwn, ownVC, x_lk1, x_lk2, x_lk3, x_un0, x_un1, x_un2, x_un3, x_wr1, x_nv2, x_nv3, l_refl, l_any, l_int, l_bool, l_kb, l_kk, l_str, l_sl, l_nils, l_pp, l_ptr, l_osl, l_slf, l_ag, l_sls, l_agg, wrote, List.filterMap_cons_some, List.filterMap_cons_none, List.filterMap_cons, List.filterMap_nil, havoc, setSs, setBs, atHead, Vx.Sub, leS, leH, leB, below, below.belowL, belowB, belowH, SV.int.injEq, SV.bool.injEq, SV.kb.injEq, SV.str.injEq, SV.sl.injEq, SV.ptr.injEq, SV.pp.injEq, SV.agg.injEq, SV.osl.injEq, Blk.own.injEq, Blk.iter.injEq, heq_eq_eq, eq_self, List.cons.injEq, evq, evS, Vx.get, setO, setS, dstAt, startS, undefs, ofArgs, ofDV, ofD, one, Ty.isAgg, Ty.size, boxq, flat, allocq, allocA, fieldAddrq, fieldq, tkOf, sizeP, loadq, getB, setB, binq, intBin, strBin, boolBin, pickq, Vx.asB, ofConst, ofCell, nilq, unq, convq, sliceq, slice3q, strCut, slCut, makeFuncq, indexAddrq, indexq, extractq, ifaceq, builtinq, callfq, callq, tlook, toArgs, toDV, toD, oneOf, Vx.both, toInt_self, toSl_self, toSl_slf, toSl_nils, toSl_osl, toSlB_self, arrD_self, toRef_self, toRef_ptr, boxD, no1_self, no2_self, clo1_fn, clo1_f1, clo2_fn, clo2_f2, cloA1_fn, cloA1_f1, cloA2_fn, cloA2_f2, cloT1_self, cloT2_self, mk1, mk2, callT, callO, ownQ, lent, scalL, Ty.scal, toAg_self, glS, glTyp, TF.ob, Bool.and_true, Bool.and_false, Bool.true_and, Bool.false_and, List.take_length, Option.isSome_some, List.getD_cons_zero, Vx.toBool, Vx.toNil, Vx.toStr, Vx.toInt, eqCells, subP, TK.isAgg, quietPre, opQuiet, opQuiet.onEmpty, quietTF, quietEf, cloSlot, Bool.true_or, Bool.or_true, cq_noVal, cq_fn, cq_f1, cq_f2, cq_any, cq_int, cq_bool, cq_kb, cq_str, cq_sl, cq_nils, cq_osl, cq_mp, cq_slf, cq_ag, cq_pp, cq_ptr, cq_eptr, cq_nilp, cq_agg, cq_tup, cq_nilf, cq_ifc, cq_nili, cq_raw, litSlot, Option.toList, List.contains_cons, List.contains_nil, Nat.reduceBEq, Bool.or_false, Bool.false_or, evA, appArgs, appendq, appendQ1, appendQ2, appendQ3, trimN, RetVC, resL, ofRes, List.toList_toArray, Bool.not_true, Bool.not_false, Option.map_some, Option.map_none, Option.bind_some, Option.getD_some, Option.getD_none, List.getElem?_cons_zero, List.getElem?_cons_succ, List.cons_append, List.nil_append, List.append_nil, List.length_cons, List.length_nil, List.drop_succ_cons, List.drop_zero, List.take_succ_cons, List.take_zero, List.map_cons, List.map_nil, List.drop_nil, List.take_nil, ite_true, ite_false, reduceCtorEq, true_and, and_true, false_and, and_false, and_self, if_true, if_false, Bool.false_eq_true, reduceIte, Nat.reduceAdd, Nat.reduceLT, Nat.reduceLeDiff, Nat.reduceSub, Nat.reduceMul, Nat.reduceEqDiff, Nat.zero_lt_one, Nat.lt_add_one, Nat.zero_add, Nat.le_refl, decide_true]
  repeat' (first | (with_reducible refine drawOk_by ?_; kernel_rfl) | (with_reducible refine And.intro ?_ ?_) | (with_reducible intro _)); all_goals (try simp only [decide_eq_true_eq, decide_eq_false_iff_not, Int.not_lt, Int.not_le, beq_iff_eq, bne_iff_ne, beq_eq_false_iff_ne, bne_eq_false_iff_eq, ne_eq, Decidable.not_not] at *)
  all_goals (try simp only [Int.toNat_natCast, Bool.not_eq_true', Bool.not_eq_false'] at *)
  all_goals first
    | exact Int.natCast_nonneg _
    | exact Int.ofNat_lt.2 hlt
    | (have hkl : k < (ps.getD g tParam.dflt).2.length := Int.ofNat_lt.1 ‹(k : Int) < _›
       first
         | exact Int.ofNat_lt.2 hkl
         | (rw [hv0 k hkl (nameByte_out (by omega))]; done)
         | (refine ⟨k + 1, ⟨hkl, fun j hj => ?_⟩, by omega, w64_succ (n := 70) (by omega) (by decide)⟩
            rcases Nat.lt_or_ge j k with h | h
            · exact hk2 j h
            · obtain rfl : j = k := by omega
              exact nameByte_in (by omega)))
    | skip
  have hkl : (ps.getD g tParam.dflt).2.length ≤ k := Int.ofNat_le.1 ‹_ ≤ (k : Int)›
  have hva : valF (ps.getD g tParam.dflt).2 = true := by
    unfold valF
    rw [decide_eq_true hvl, Bool.and_true, List.all_eq_true]
    intro x hx
    obtain ⟨i, hi, e⟩ := List.mem_iff_getElem.1 hx
    have := hk2 i (by omega)
    rwa [List.getD_eq_getElem?_getD, List.getElem?_eq_getElem hi, Option.getD_some, e] at this
  have htn : tokF (ps.getD g tParam.dflt).1 = true := by assumption
  refine x_loop (γ := Nat) (fun j => [(6, .int .i64 (j : Int))]) (fun _ => []) (fun j => j ≤ g ∧ ∀ i, i < j → ¬ (ps.getD i tParam.dflt).1 = (ps.getD g tParam.dflt).1) (fun j => g - j) 0 ⟨⟨Nat.zero_le _, fun k h => absurd h (Nat.not_lt_zero _)⟩, ?_⟩ ?_
  · simp -implicitDefEqProofs only [below_nilRow, below_setS1, below_setS2, leS_same, l_mp, SV.mp.injEq, Blk.mp.injEq, undefs, Option.some.injEq, adopt, adoptOk, getA, setA, getC, setC, Nat.reduceDiv, Nat.reduceMod, List.replicate_zero, Nat.not_lt_zero, l_refl, l_any, l_int, l_bool, l_kb, l_kk, l_str, l_sl, l_nils, l_pp, l_ptr, l_osl, l_slf, l_ag, l_sls, l_agg, wrote, List.filterMap_cons_some, List.filterMap_cons_none, List.filterMap_cons, List.filterMap_nil, havoc, setSs, setBs, atHead, Vx.Sub, leS, leH, leB, below, below.belowL, belowB, belowH, SV.int.injEq, SV.bool.injEq, SV.kb.injEq, SV.str.injEq, SV.sl.injEq, SV.ptr.injEq, SV.pp.injEq, SV.agg.injEq, SV.osl.injEq, Blk.own.injEq, Blk.iter.injEq, heq_eq_eq, eq_self, List.cons.injEq, Vx.get, setO, setS, undefs, getB, setB, List.toList_toArray, Option.map_some, Option.map_none, Option.getD_some, Option.getD_none, List.getElem?_cons_zero, List.getElem?_cons_succ, List.cons_append, List.nil_append, List.append_nil, List.length_cons, List.length_nil, ite_true, ite_false, reduceCtorEq, true_and, and_true, false_and, and_false, and_self, if_true, if_false, Bool.false_eq_true, reduceIte, Nat.reduceAdd, Nat.reduceLT, Nat.reduceLeDiff, Nat.reduceSub, Nat.reduceMul, Nat.reduceEqDiff, Nat.zero_lt_one, Nat.lt_add_one, Nat.zero_add, Nat.le_refl, decide_true, below_noVal]
    trivial
  intro j hj
  have hj1 : j ≤ g := hj.1
  have hj2 : ∀ i, i < j → ¬ (ps.getD i tParam.dflt).1 = (ps.getD g tParam.dflt).1 := hj.2
  clear hj
  simp (maxSteps := 5000000) -implicitDefEqProofs only [ref12TokT, Tryz.f14, ti3, ti4, ti5, ti9, ti22, ti23, ti24, ti40, ti41, eqk41, tyo3, tyo4, tyo5, tyo9, tyo22, tyo23, tyo24, tyo40, tyo41, arr3, arr4, arr5, arr9, arr22, arr23, arr24, arr40, arr41, copyx, copyO, nilArgs, nilcmp, nilcmp2, ofZero_row, ofZero_list, ofZero_int, ofZero_bool, ofZero_string, ofZero_slice, ofZero_pointer, ofZero_func, ofZero_iface, ofZero_map, splx, convU, convB, cq_bd, cq_nil0, cq_osub, x_den0, x_den1, x_den2, x_den3, x_den4, x_den5, x_den6, x_skip, x_label, x_ret, x_exit, x_seq, x_block, x_cond, x_cnd1, x_cnd2, x_cnd3, x_region, x_draw, x_sq0, x_sq1, x_sq2, x_sqD, x_sqG1, x_sqG2, x_sqG3, x_sqG4, x_sqG5, x_sqG6, x_sqB1, x_sqB2, x_sqE, x_fold, x_put1, x_put0, x_ef1, x_ef2, x_ef3, x_ef4, x_ef5, x_ef6, x_ef7, x_ef8, x_ef9, callIx, callIf, evM, callEx, callEt, callEo, callE2, wpE, frameK, frameK2, inlW, bodyOf, InlR, tupS, undefs, x_ink1, x_ink2, callEf, callE, eArgs, eCons, eConsB, boxDt, setBx, EF.tf, bxs, eStart, eSlots, eH, goneN, boxE, boxesE, RetE, x_fie1, x_fie2, List.contains_nil, storex, castL_self, appendx, appendT, appendS, appendO, appendN, appendF, appendX, appendY, appendZ, srcq, elemSV, bytesD, nexts, nextx, forget, forgetL, forgetB, forgetH, spl, isCell, List.all_cons, List.all_nil, Option.some.injEq, makeq, makeE, makeT, zeroD, bytesTI, buildSq, buildE, buildB, partsD, tiSz, buildT, fillS, okFlat, rangeq, bytesQ, textQ, adopt, adoptOk, getA, setA, getC, setC, Nat.reduceDiv, Nat.reduceMod, List.replicate_zero, Nat.not_lt_zero, x_dr0, x_dr1, x_dr2, x_drD, x_drG1, x_drG2, x_drG3, x_drG4, x_drG5, x_drG6, x_drB1, x_fin1, x_fin2, x_fio1, x_fio2, x_own1, x_own2, RetOwn, ownVC, x_lk1, x_lk2, x_lk3, x_un0, x_un1, x_un2, x_un3, x_wr1, x_nv2, x_nv3, l_refl, l_any, l_int, l_bool, l_kb, l_kk, l_str, l_sl, l_nils, l_pp, l_ptr, l_osl, l_slf, l_ag, l_sls, l_agg, wrote, List.filterMap_cons_some, List.filterMap_cons_none, List.filterMap_cons, List.filterMap_nil, havoc, setSs, setBs, atHead, Vx.Sub, leS, leH, leB, below, below.belowL, belowB, belowH, SV.int.injEq, SV.bool.injEq, SV.kb.injEq, SV.str.injEq, SV.sl.injEq, SV.ptr.injEq, SV.pp.injEq, SV.agg.injEq, SV.osl.injEq, Blk.own.injEq, Blk.iter.injEq, heq_eq_eq, eq_self, List.cons.injEq, evq, evS, Vx.get, setO, setS, dstAt, startS, undefs, ofArgs, ofDV, ofD, one, Ty.isAgg, Ty.size, boxq, flat, allocq, allocA, fieldAddrq, fieldq, tkOf, sizeP, loadq, getB, setB, binq, intBin, strBin, boolBin, pickq, Vx.asB, ofConst, ofCell, nilq, unq, convq, sliceq, slice3q, strCut, slCut, makeFuncq, indexAddrq, indexq, extractq, ifaceq, builtinq, callfq, callq, tlook, toArgs, toDV, toD, oneOf, Vx.both, toInt_self, toSl_self, toSl_slf, toSl_nils, toSl_osl, toSlB_self, arrD_self, toRef_self, toRef_ptr, boxD, no1_self, no2_self, clo1_fn, clo1_f1, clo2_fn, clo2_f2, cloA1_fn, cloA1_f1, cloA2_fn, cloA2_f2, cloT1_self, cloT2_self, mk1, mk2, callT, callO, ownQ, lent, scalL, Ty.scal, toAg_self, glS, glTyp, TF.ob, Bool.and_true, Bool.and_false, Bool.true_and, Bool.false_and, List.take_length, Option.isSome_some, List.getD_cons_zero, Vx.toBool, Vx.toNil, Vx.toStr, Vx.toInt, eqCells, subP, TK.isAgg, quietPre, opQuiet, opQuiet.onEmpty, quietTF, quietEf, cloSlot, Bool.true_or, Bool.or_true, cq_noVal, cq_fn, cq_f1, cq_f2, cq_any, cq_int, cq_bool, cq_kb, cq_str, cq_sl, cq_nils, cq_osl, cq_mp, cq_slf, cq_ag, cq_pp, cq_ptr, cq_eptr, cq_nilp, cq_agg, cq_tup, cq_nilf, cq_ifc, cq_nili, cq_raw, litSlot, Option.toList, List.contains_cons, List.contains_nil, Nat.reduceBEq, Bool.or_false, Bool.false_or, evA, appArgs, appendq, appendQ1, appendQ2, appendQ3, trimN, RetVC, resL, ofRes, List.toList_toArray, Bool.not_true, Bool.not_false, Option.map_some, Option.map_none, Option.bind_some, Option.getD_some, Option.getD_none, List.getElem?_cons_zero, List.getElem?_cons_succ, List.cons_append, List.nil_append, List.append_nil, List.length_cons, List.length_nil, List.drop_succ_cons, List.drop_zero, List.take_succ_cons, List.take_zero, List.map_cons, List.map_nil, List.drop_nil, List.take_nil, ite_true, ite_false, reduceCtorEq, true_and, and_true, false_and, and_false, and_self, if_true, if_false, Bool.false_eq_true, reduceIte, Nat.reduceAdd, Nat.reduceLT, Nat.reduceLeDiff, Nat.reduceSub, Nat.reduceMul, Nat.reduceEqDiff, Nat.zero_lt_one, Nat.lt_add_one, Nat.zero_add, Nat.le_refl, decide_true]
  repeat' (first | (with_reducible refine drawOk_by ?_; kernel_rfl) | (with_reducible refine And.intro ?_ ?_) | (with_reducible intro _)); all_goals (try simp only [decide_eq_true_eq, decide_eq_false_iff_not, Int.not_lt, Int.not_le, beq_iff_eq, bne_iff_ne, beq_eq_false_iff_ne, bne_eq_false_iff_eq, ne_eq, Decidable.not_not] at *)
  all_goals (try simp only [Int.toNat_natCast, Bool.not_eq_true', Bool.not_eq_false'] at *)
  all_goals first
    | exact Int.natCast_nonneg _
    | omega
    | (have hjg : j < g := by omega
       first
         | (have he := ‹(ps.getD j tParam.dflt).1 = (ps.getD g tParam.dflt).1›
            rw [hno g hlt (by
              unfold rightP
              have : ((ps.take g).any fun q => q.1 == (ps.getD g tParam.dflt).1) = true := List.any_eq_true.2 ⟨ps.getD j tParam.dflt, by
                rw [List.getD_eq_getElem?_getD, List.getElem?_eq_getElem (by omega)]
                exact List.mem_take_iff_getElem.2 ⟨j, by omega, rfl⟩, beq_iff_eq.2 he⟩
              rw [this, Bool.not_true, Bool.and_false])]; done)
         | (refine ⟨j + 1, ⟨hjg, fun i hi => ?_⟩, by omega, w64_succ (n := ps.length) (by omega) (by omega)⟩
            rcases Nat.lt_or_ge i j with h | h
            · exact hj2 i h
            · obtain rfl : i = j := by omega
              assumption))
    | (refine ⟨g + 1, ⟨hlt, fun i hi => ?_⟩, by omega, w64_succ (n := ps.length) hlt (by omega)⟩
       rcases Nat.lt_or_ge i g with h | h
       · exact hg2 i h
       · obtain rfl : i = g := by omega
         have : ((ps.take i).any fun q => q.1 == (ps.getD i tParam.dflt).1) = false := List.any_eq_false.2 fun q hq hc => by
           obtain ⟨n, hn, e⟩ := List.mem_take_iff_getElem.1 hq
           refine hj2 n (by omega) ?_
           rw [List.getD_eq_getElem?_getD, List.getElem?_eq_getElem (by omega), Option.getD_some, e]
           exact beq_iff_eq.1 hc
         unfold rightP
         rw [htn, hva, this]; rfl)
    | trace_state
end Go.Proofs.YtnbicdeehppgpaaGreatDoor
