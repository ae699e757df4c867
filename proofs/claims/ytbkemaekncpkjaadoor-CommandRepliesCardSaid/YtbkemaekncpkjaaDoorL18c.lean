/- Helper lemmas towards this seat's statements: a contract, proved for every input within its own premise, of functions of the program. -/
import Derived.Test.YtbkemaekncpkjaaDoorL18b
namespace Go.Proofs.YtbkemaekncpkjaaDoor
open Go Go.Vx
set_option maxRecDepth 100000
set_option linter.unusedSimpArgs false
set_option linter.unusedVariables false
def kFROM : List UInt8 := [70, 82, 79, 77, 58]
def kTO : List UInt8 := [84, 79, 58]
def zeroC : Cmd := (0, [], 0, false)
def optR (c : Cmd) (rest : List UInt8) : Bool × Cmd := optF (rest.length + 1) c [] rest
/-- A verb's argument. -/
def bodyF (i : Int) (arg : List UInt8) : Bool × Cmd :=
  if i = 1 ∨ i = 2 then (domF arg, (i, arg, 0, false)) else
  if i = 3 then (if (pathF arg kFROM true).2.2 = true then optR (i, (pathF arg kFROM true).1, 0, false) (pathF arg kFROM true).2.1 else (false, (i, (pathF arg kFROM true).1, 0, false))) else
  if i = 4 then ((pathF arg kTO false).2.2 && ((pathF arg kTO false).2.1 == []), (i, (pathF arg kTO false).1, 0, false)) else
  if i = 5 ∨ i = 6 ∨ i = 9 then (arg == [], (i, arg, 0, false)) else
  if i = 8 then (!(arg == []) && decide (arg.length ≤ 64) && printF arg 33, (i, arg, 0, false)) else (true, (i, arg, 0, false))
def verbF (line : List UInt8) : Int := ixF (fun y => (cutAt line 32).1.map upB == y) verbs 0
def argF (line : List UInt8) : List UInt8 := trimL (isIn [32]) (trimR (isIn [32]) (cutAt line 32).2.1)
def parseF (line : List UInt8) : Cmd × Int :=
  if verbF line < 1 then (zeroC, 14) else
    if (bodyF (verbF line) (argF line)).1 = true then ((bodyF (verbF line) (argF line)).2, 0) else (zeroC, 2)
theorem trimLR_len (p : UInt8 → Bool) (s : List UInt8) : (trimL p (trimR p s)).length ≤ s.length := by
  refine Nat.le_trans (trimL_len p _) ?_
  unfold trimR; rw [List.length_reverse]
  have := (List.dropWhile_sublist p (l := s.reverse)).length_le
  simpa using this
theorem pathF_len (arg head : List UInt8) (empty : Bool) : (pathF arg head empty).1.length ≤ arg.length ∧ (pathF arg head empty).2.1.length ≤ arg.length := by
  have h1 := pathU_len arg head
  have h2 := cutAt_len (pathU arg head) 62
  unfold pathF
  split
  · simp
  · split
    · simp
    · constructor <;> simp only <;> omega
def cmdParseT : TF := { doms := [.str], cods := [tCmd, .int .i64], pre := fun x => List.length x.1 ≤ 1073741824, fn := fun x => ((parseF x.1).1, (parseF x.1).2, ()) }
set_option maxHeartbeats 4000000 in
theorem cmdParse_ok : TFOk Tryd.prog 8 cmdParseT := by
  refine tf_by (tbl := [(12, strCutT), (14, namesT), (15, upT), (13, indexST), (16, strTrimT), (17, domainT), (18, pathT), (19, EF.tf optionsE), (20, printableT)]) fol (tblCons strCut_ok Tryd.func12 (by kernel_rfl) (tblCons names_ok Tryd.func14 (by kernel_rfl) (tblCons up_ok Tryd.func15 (by kernel_rfl) (tblCons indexS_ok Tryd.func13 (by kernel_rfl) (tblCons strTrim_ok Tryd.func16 (by kernel_rfl) (tblCons domain_ok Tryd.func17 (by kernel_rfl) (tblCons path_ok Tryd.func18 (by kernel_rfl) (tblEff options_ok Tryd.func19 (by kernel_rfl) (tblCons printable_ok Tryd.func20 (by kernel_rfl) tblNil))))))))) Tryd.func8 rfl rfl rfl ?_
  rintro ⟨(line : List UInt8), _⟩ hpre
  have hlen : line.length ≤ 1073741824 := hpre
  simp (maxSteps := 5000000) -implicitDefEqProofs only [cmdParseT, strCutT, namesT, upT, indexST, strTrimT, domainT, pathT, optionsE, printableT, Tryd.f8, ti3, ti4, ti5, ti9, ti22, ti23, ti45, ti52, eqk23, tyo3, tyo4, tyo5, tyo9, tyo22, tyo23, tyo45, arr3, arr4, arr5, arr9, arr22, arr23, arr45, arr52, x_den0, x_den1, x_den2, x_den3, x_den4, x_den5, x_den6, x_skip, x_label, x_ret, x_exit, x_seq, x_block, x_cond, x_cnd1, x_cnd2, x_cnd3, x_region, x_draw, x_sq0, x_sq1, x_sq2, x_sqD, x_sqG1, x_sqG2, x_sqG3, x_sqG4, x_sqG5, x_sqG6, x_sqB1, x_sqB2, x_sqE, x_fold, x_put1, x_put0, x_ef1, x_ef2, x_ef3, x_ef4, x_ef5, x_ef6, x_ef7, evM, mkMapq, mkMap1, keyD, lookq, lookq1, lookq2, lookV, sameD, keySV, zeroDV, mapx, mapx1, mapx2, l_mp, SV.mp.injEq, Blk.mp.injEq, callEx, callEt, callEo, callEf, callE, eArgs, eCons, eConsB, boxDt, setBx, EF.tf, bxs, eStart, eSlots, eH, goneN, boxE, boxesE, RetE, x_fie1, x_fie2, List.contains_nil, storex, castL_self, appendx, appendT, appendS, appendO, appendN, appendF, appendX, appendY, appendZ, srcq, elemSV, bytesD, nexts, nextx, forget, forgetL, forgetB, forgetH, spl, isCell, List.all_cons, List.all_nil, Option.some.injEq, makeq, makeE, makeT, zeroD, bytesTI, buildSq, buildE, buildB, partsD, tiSz, buildT, fillS, okFlat, rangeq, bytesQ, textQ, adopt, adoptOk, List.replicate_zero, Nat.not_lt_zero, x_dr0, x_dr1, x_dr2, x_drD, x_drG1, x_drG2, x_drG3, x_drG4, x_drG5, x_drG6, x_drB1, x_fin1, x_fin2, x_fio1, x_fio2, x_own1, x_own2, RetOwn, ownVC, x_lk1, x_lk2, x_lk3, x_wr1, x_nv2, x_nv3, l_refl, l_any, l_int, l_bool, l_kb, l_kk, l_str, l_sl, l_nils, l_pp, l_ptr, l_osl, l_slf, l_ag, l_sls, l_agg, wrote, List.filterMap_cons_some, List.filterMap_cons_none, List.filterMap_cons, List.filterMap_nil, havoc, setSs, setBs, atHead, Vx.Sub, leS, leH, leB, below, below.belowL, belowB, belowH, SV.int.injEq, SV.bool.injEq, SV.kb.injEq, SV.str.injEq, SV.sl.injEq, SV.ptr.injEq, SV.pp.injEq, SV.agg.injEq, SV.osl.injEq, Blk.own.injEq, Blk.iter.injEq, heq_eq_eq, eq_self, List.cons.injEq, evq, evS, Vx.get, setO, setS, dstAt, startS, undefs, ofArgs, ofDV, ofD, one, Ty.isAgg, Ty.size, boxq, flat, allocq, allocA, fieldAddrq, fieldq, tkOf, sizeP, loadq, getB, setB, binq, intBin, strBin, boolBin, pickq, Vx.asB, ofConst, ofCell, nilq, unq, convq, sliceq, slice3q, strCut, slCut, makeFuncq, indexAddrq, indexq, extractq, ifaceq, builtinq, callfq, callq, tlook, toArgs, toDV, toD, oneOf, Vx.both, toInt_self, toSl_self, toSl_slf, toSl_nils, toSl_osl, toSlB_self, arrD_self, toRef_self, toRef_ptr, boxD, no1_self, no2_self, clo1_fn, clo1_f1, clo2_fn, clo2_f2, cloA1_fn, cloA1_f1, cloA2_fn, cloA2_f2, cloT1_self, cloT2_self, mk1, mk2, callT, callO, ownQ, lent, scalL, Ty.scal, toAg_self, glS, glTyp, TF.ob, Bool.and_true, Bool.and_false, Bool.true_and, Bool.false_and, List.take_length, Option.isSome_some, List.getD_cons_zero, Vx.toBool, Vx.toNil, Vx.toStr, Vx.toInt, eqCells, subP, TK.isAgg, quietPre, opQuiet, opQuiet.onEmpty, opQuiet.noEff, opQuiet.noEf, litSlot, Option.toList, List.contains_cons, List.contains_nil, Nat.reduceBEq, Bool.or_false, Bool.false_or, evA, appArgs, appendq, appendQ1, appendQ2, appendQ3, trimN, RetVC, resL, ofRes, List.toList_toArray, Bool.not_true, Bool.not_false, Option.map_some, Option.map_none, Option.bind_some, Option.getD_some, Option.getD_none, List.getElem?_cons_zero, List.getElem?_cons_succ, List.cons_append, List.nil_append, List.append_nil, List.length_cons, List.length_nil, List.drop_succ_cons, List.drop_zero, List.take_succ_cons, List.take_zero, List.map_cons, List.map_nil, List.drop_nil, List.take_nil, ite_true, ite_false, reduceCtorEq, true_and, and_true, false_and, and_false, and_self, if_true, if_false, Bool.false_eq_true, reduceIte, Nat.reduceAdd, Nat.reduceLT, Nat.reduceLeDiff, Nat.reduceSub, Nat.reduceMul, Nat.reduceEqDiff, Nat.zero_lt_one, Nat.lt_add_one, Nat.zero_add, Nat.le_refl, decide_true]
  repeat' (first | (with_reducible refine drawOk_by ?_; kernel_rfl) | (with_reducible refine And.intro ?_ ?_) | (with_reducible intro _)); all_goals (try simp only [decide_eq_true_eq, decide_eq_false_iff_not, Int.not_lt, Int.not_le, beq_iff_eq, bne_iff_ne, beq_eq_false_iff_ne, bne_eq_false_iff_eq, ne_eq, Decidable.not_not] at *)
  all_goals (try simp only [show ixF (fun y => (cutAt line 32).1.map upB == y) verbs 0 = verbF line from rfl, show trimL (isIn [32]) (trimR (isIn [32]) (cutAt line 32).2.1) = argF line from rfl, Bool.not_eq_true', Bool.not_eq_false', beq_iff_eq, beq_eq_false_iff_ne, ne_eq] at *)
  all_goals (try simp only [show ([70, 82, 79, 77, 58] : List UInt8) = kFROM from rfl, show ([84, 79, 58] : List UInt8) = kTO from rfl, show ∀ (c : Cmd) (r : List UInt8), optF (r.length + 1) c [] r = optR c r from fun _ _ => rfl] at *)
  all_goals (have l1 := cutAt_len line 32)
  all_goals (have l2 : (argF line).length ≤ (cutAt line 32).2.1.length := trimLR_len _ _)
  all_goals (have l3 := pathF_len (argF line) kFROM true)
  all_goals (have l4 := pathF_len (argF line) kTO false)
  all_goals first
    | (exfalso; omega)
    | omega
    | decide
    | exact (show ∀ b ∈ ([32] : List UInt8), b.toNat < 128 by decide) _ ‹_›
    | (rw [parseF, if_pos ‹verbF line < 1›]; rfl)
    | skip
  all_goals (rw [parseF, if_neg (by omega)])
  all_goals (clear l1 l2 l3 l4)
  all_goals (generalize verbF line = i at *)
  all_goals (generalize argF line = a at *)
  all_goals first
    | (simp [bodyF, zeroC, *]; done)
    | (simp [bodyF, zeroC, *]; omega)
    | (have h64 : ¬ a.length ≤ 64 := by omega
       simp [bodyF, zeroC, *]; done)
    | (have h64 : a.length ≤ 64 := by omega
       simp [bodyF, zeroC, *]; done)
    | (have h3 := ‹i = 3›
       subst h3
       simp [bodyF, zeroC, *]; done)
    | trace_state
theorem verbs_len (verb : Int) (h1 : 1 ≤ verb) (h2 : verb ≤ 9) : List.length (verbs.getD verb.toNat (Ty.dflt .str)) = 4 ∧ verb < (List.length verbs : Int) := by
  obtain ⟨k, rfl⟩ := Int.eq_ofNat_of_zero_le (show 0 ≤ verb by omega)
  have h : ∀ j : Fin 10, 1 ≤ j.val → (verbs.getD j.val (Ty.dflt .str)).length = 4 := by decide
  refine ⟨h ⟨k, by omega⟩ (by show 1 ≤ k; omega), ?_⟩
  show (k : Int) < 10
  omega
def putArg (c : Cmd) : List UInt8 := if c.1 = 3 then verbs.getD c.1.toNat [] ++ [32, 70, 82, 79, 77, 58, 60] ++ c.2.1 ++ [62] else if c.1 = 4 then verbs.getD c.1.toNat [] ++ [32, 84, 79, 58, 60] ++ c.2.1 ++ [62] else if ¬ c.2.1 = [] then verbs.getD c.1.toNat [] ++ ([32] ++ c.2.1) else verbs.getD c.1.toNat []
def putSize (c : Cmd) : List UInt8 := if 0 < c.2.2.1 then putArg c ++ ([32, 83, 73, 90, 69, 61] ++ Lib.itoa c.2.2.1) else putArg c
def putAll (c : Cmd) : List UInt8 := if c.2.2.2 = true then putSize c ++ [32, 66, 79, 68, 89, 61, 56, 66, 73, 84, 77, 73, 77, 69] else putSize c
def cmdPrintF (c : Cmd) : List UInt8 × Int := if c.1 < 1 ∨ 9 < c.1 then ([], 2) else if (parseF (putAll c)).2 = 0 ∧ (parseF (putAll c)).1 = c then (putAll c, 0) else ([], 2)
theorem pr_close1 (c : Cmd) (E : List UInt8) (r : Cmd × Int) (hr : parseF E = r) (hE : putAll c = E) (h0 : r.2 = 0) (hb : (!(r.1.1 == c.1 && (r.1.2.1 == c.2.1 && (r.1.2.2.1 == c.2.2.1 && r.1.2.2.2 == c.2.2.2)))) = true) (h1 : ¬ (c.1 < 1 ∨ 9 < c.1)) : (([] : List UInt8), (2 : Int), ()) = ((cmdPrintF c).1, (cmdPrintF c).2, ()) := by
  rw [cmdPrintF, if_neg h1, if_neg]
  rw [hE, hr]
  rintro ⟨_, hc⟩
  rw [hc] at hb
  simp at hb
theorem pr_close2 (c : Cmd) (E : List UInt8) (r : Cmd × Int) (hr : parseF E = r) (hE : putAll c = E) (h0 : r.2 = 0) (hb : (!(r.1.1 == c.1 && (r.1.2.1 == c.2.1 && (r.1.2.2.1 == c.2.2.1 && r.1.2.2.2 == c.2.2.2)))) = false) (h1 : ¬ (c.1 < 1 ∨ 9 < c.1)) : (E, (0 : Int), ()) = ((cmdPrintF c).1, (cmdPrintF c).2, ()) := by
  rw [cmdPrintF, if_neg h1, if_pos]
  · rw [hE]
  · rw [hE, hr]
    refine ⟨h0, ?_⟩
    simp only [Bool.not_eq_false', Bool.and_eq_true, beq_iff_eq] at hb
    obtain ⟨ha, hb, hc, hd⟩ := hb
    ext1
    · exact ha
    · ext1
      · exact hb
      · ext1
        · exact hc
        · exact hd
theorem pr_close3 (c : Cmd) (E : List UInt8) (r : Cmd × Int) (hr : parseF E = r) (hE : putAll c = E) (h0 : ¬ r.2 = 0) (h1 : ¬ (c.1 < 1 ∨ 9 < c.1)) : (([] : List UInt8), (2 : Int), ()) = ((cmdPrintF c).1, (cmdPrintF c).2, ()) := by
  rw [cmdPrintF, if_neg h1, if_neg]
  rw [hE, hr]
  rintro ⟨hc, _⟩
  exact h0 hc
def cmdPrintT : TF := { doms := [tCmd], cods := [.str, .int .i64], pre := fun x => List.length x.1.2.1 ≤ 1000000 ∧ -9223372036854775808 ≤ (x.1.2.2.1 : Int) ∧ (x.1.2.2.1 : Int) ≤ 9223372036854775807, fn := fun x => ((cmdPrintF x.1).1, (cmdPrintF x.1).2, ()) }
set_option maxHeartbeats 4000000 in
theorem cmdPrint_ok : TFOk Tryd.prog 9 cmdPrintT := by
  refine tf_by (tbl := [(14, namesT), (21, itoaT), (8, cmdParseT)]) fol (tblCons names_ok Tryd.func14 (by kernel_rfl) (tblCons itoa_ok Tryd.func21 (by kernel_rfl) (tblCons cmdParse_ok Tryd.func8 (by kernel_rfl) tblNil))) Tryd.func9 rfl rfl rfl ?_
  rintro ⟨⟨(verb : Int), (arg : List UInt8), (size : Int), (eight : Bool)⟩, _⟩ hpre
  have hlen : arg.length ≤ 1000000 := hpre.1
  have hs1 : -9223372036854775808 ≤ size := hpre.2.1
  have hs2 : size ≤ 9223372036854775807 := hpre.2.2
  simp (maxSteps := 5000000) -implicitDefEqProofs only [cmdPrintT, namesT, itoaT, cmdParseT, Tryd.f9, ti3, ti4, ti9, ti22, ti23, ti27, ti45, eqk23, tyo3, tyo4, tyo9, tyo22, tyo23, tyo27, tyo45, arr3, arr4, arr9, arr22, arr23, arr27, arr45, x_den0, x_den1, x_den2, x_den3, x_den4, x_den5, x_den6, x_skip, x_label, x_ret, x_exit, x_seq, x_block, x_cond, x_cnd1, x_cnd2, x_cnd3, x_region, x_draw, x_sq0, x_sq1, x_sq2, x_sqD, x_sqG1, x_sqG2, x_sqG3, x_sqG4, x_sqG5, x_sqG6, x_sqB1, x_sqB2, x_sqE, x_fold, x_put1, x_put0, x_ef1, x_ef2, x_ef3, x_ef4, x_ef5, x_ef6, x_ef7, evM, mkMapq, mkMap1, keyD, lookq, lookq1, lookq2, lookV, sameD, keySV, zeroDV, mapx, mapx1, mapx2, l_mp, SV.mp.injEq, Blk.mp.injEq, callEx, callEt, callEo, callEf, callE, eArgs, eCons, eConsB, boxDt, setBx, EF.tf, bxs, eStart, eSlots, eH, goneN, boxE, boxesE, RetE, x_fie1, x_fie2, List.contains_nil, storex, castL_self, appendx, appendT, appendS, appendO, appendN, appendF, appendX, appendY, appendZ, srcq, elemSV, bytesD, nexts, nextx, forget, forgetL, forgetB, forgetH, spl, isCell, List.all_cons, List.all_nil, Option.some.injEq, makeq, makeE, makeT, zeroD, bytesTI, buildSq, buildE, buildB, partsD, tiSz, buildT, fillS, okFlat, rangeq, bytesQ, textQ, adopt, adoptOk, List.replicate_zero, Nat.not_lt_zero, x_dr0, x_dr1, x_dr2, x_drD, x_drG1, x_drG2, x_drG3, x_drG4, x_drG5, x_drG6, x_drB1, x_fin1, x_fin2, x_fio1, x_fio2, x_own1, x_own2, RetOwn, ownVC, x_lk1, x_lk2, x_lk3, x_wr1, x_nv2, x_nv3, l_refl, l_any, l_int, l_bool, l_kb, l_kk, l_str, l_sl, l_nils, l_pp, l_ptr, l_osl, l_slf, l_ag, l_sls, l_agg, wrote, List.filterMap_cons_some, List.filterMap_cons_none, List.filterMap_cons, List.filterMap_nil, havoc, setSs, setBs, atHead, Vx.Sub, leS, leH, leB, below, below.belowL, belowB, belowH, SV.int.injEq, SV.bool.injEq, SV.kb.injEq, SV.str.injEq, SV.sl.injEq, SV.ptr.injEq, SV.pp.injEq, SV.agg.injEq, SV.osl.injEq, Blk.own.injEq, Blk.iter.injEq, heq_eq_eq, eq_self, List.cons.injEq, evq, evS, Vx.get, setO, setS, dstAt, startS, undefs, ofArgs, ofDV, ofD, one, Ty.isAgg, Ty.size, boxq, flat, allocq, allocA, fieldAddrq, fieldq, tkOf, sizeP, loadq, getB, setB, binq, intBin, strBin, boolBin, pickq, Vx.asB, ofConst, ofCell, nilq, unq, convq, sliceq, slice3q, strCut, slCut, makeFuncq, indexAddrq, indexq, extractq, ifaceq, builtinq, callfq, callq, tlook, toArgs, toDV, toD, oneOf, Vx.both, toInt_self, toSl_self, toSl_slf, toSl_nils, toSl_osl, toSlB_self, arrD_self, toRef_self, toRef_ptr, boxD, no1_self, no2_self, clo1_fn, clo1_f1, clo2_fn, clo2_f2, cloA1_fn, cloA1_f1, cloA2_fn, cloA2_f2, cloT1_self, cloT2_self, mk1, mk2, callT, callO, ownQ, lent, scalL, Ty.scal, toAg_self, glS, glTyp, TF.ob, Bool.and_true, Bool.and_false, Bool.true_and, Bool.false_and, List.take_length, Option.isSome_some, List.getD_cons_zero, Vx.toBool, Vx.toNil, Vx.toStr, Vx.toInt, eqCells, subP, TK.isAgg, quietPre, opQuiet, opQuiet.onEmpty, opQuiet.noEff, opQuiet.noEf, litSlot, Option.toList, List.contains_cons, List.contains_nil, Nat.reduceBEq, Bool.or_false, Bool.false_or, evA, appArgs, appendq, appendQ1, appendQ2, appendQ3, trimN, RetVC, resL, ofRes, List.toList_toArray, Bool.not_true, Bool.not_false, Option.map_some, Option.map_none, Option.bind_some, Option.getD_some, Option.getD_none, List.getElem?_cons_zero, List.getElem?_cons_succ, List.cons_append, List.nil_append, List.append_nil, List.length_cons, List.length_nil, List.drop_succ_cons, List.drop_zero, List.take_succ_cons, List.take_zero, List.map_cons, List.map_nil, List.drop_nil, List.take_nil, ite_true, ite_false, reduceCtorEq, true_and, and_true, false_and, and_false, and_self, if_true, if_false, Bool.false_eq_true, reduceIte, Nat.reduceAdd, Nat.reduceLT, Nat.reduceLeDiff, Nat.reduceSub, Nat.reduceMul, Nat.reduceEqDiff, Nat.zero_lt_one, Nat.lt_add_one, Nat.zero_add, Nat.le_refl, decide_true]
  repeat' (first | (with_reducible refine drawOk_by ?_; kernel_rfl) | (with_reducible refine And.intro ?_ ?_) | (with_reducible intro _)); all_goals (try simp only [decide_eq_true_eq, decide_eq_false_iff_not, Int.not_lt, Int.not_le, beq_iff_eq, bne_iff_ne, beq_eq_false_iff_ne, bne_eq_false_iff_eq, ne_eq, Decidable.not_not] at *)
  all_goals (have lv := verbs_len verb)
  all_goals (have li := Lib.itoa_length_le size hs1 hs2)
  all_goals first
    | omega
    | exact (lv (by omega) (by omega)).2
    | exact hs1
    | exact hs2
    | (have := (lv (by omega) (by omega)).1; simp only [List.length_append, List.length_cons, List.length_nil]; omega)
    | (rw [cmdPrintF, if_pos (by simp only; omega)]; done)
    | skip
  all_goals (clear lv li)
  all_goals (have h1 : ¬ (((verb, arg, size, eight) : Cmd).1 < 1 ∨ 9 < ((verb, arg, size, eight) : Cmd).1) := by simp only; omega)
  all_goals (have hsz : 0 < size ∨ ¬ 0 < size := by omega)
  all_goals first
    | refine pr_close1 (verb, arg, size, eight) _ (parseF _) rfl ?_ (by assumption) (by assumption) h1
    | refine pr_close2 (verb, arg, size, eight) _ (parseF _) rfl ?_ (by assumption) (by assumption) h1
    | refine pr_close3 (verb, arg, size, eight) _ (parseF _) rfl ?_ (by assumption) h1
    | skip
  all_goals first
    | (rcases hsz with hsz | hsz
       · first
           | (exfalso; omega)
           | (simp [putAll, putSize, putArg, Ty.dflt, *]; done)
       · first
           | (exfalso; omega)
           | (simp [putAll, putSize, putArg, Ty.dflt, *]; done))
    | trace_state
end Go.Proofs.YtbkemaekncpkjaaDoor
