/- Helper lemmas towards this seat's statements: a contract, proved for every input within its own premise, of functions of the program. -/
import Derived.Test.YtnbicdeehppgpaaGreatDoorL12
namespace Go.Proofs.YtnbicdeehppgpaaGreatDoor
open Go Go.Vx
set_option maxRecDepth 100000
set_option linter.unusedSimpArgs false
set_option linter.unusedVariables false
def ctAll : List UInt8 := [97, 98, 99, 100, 101, 102, 103, 104, 105, 106, 107, 108, 109, 110, 111, 112, 113, 114, 115, 116, 117, 118, 119, 120, 121, 122, 48, 49, 50, 51, 52, 53, 54, 55, 56, 57, 33, 35, 36, 38, 45, 94, 95, 46, 43, 65, 66, 67, 68, 69, 70, 71, 72, 73, 74, 75, 76, 77, 78, 79, 80, 81, 82, 83, 84, 85, 86, 87, 88, 89, 90]
def kBl : List UInt8 := [32, 9]
theorem ctAll_ascii : ∀ b ∈ ctAll, b.toNat < 128 := by decide
theorem kBl_ascii : ∀ b ∈ kBl, b.toNat < 128 := by decide
/-- What stands up to a quote, and the rest. -/
def quotF : List UInt8 → List UInt8 × List UInt8
  | [] => ([], [])
  | [c] => if c = 34 then ([], [c]) else ([c], [])
  | c :: d :: l => if c = 34 then ([], c :: d :: l) else if c = 92 then (d :: (quotF l).1, (quotF l).2) else (c :: (quotF (d :: l)).1, (quotF (d :: l)).2)
inductive CtS where
  | over
  | fail
  | next (p : Param) (r : List UInt8)
def ctVal (name r4 : List UInt8) : CtS := if runF ctLetters r4 = [] ∨ 64 < (runF ctLetters r4).length then .fail else .next (name, runF ctLetters r4) (trimL (isIn ctLetters) r4)
def ctQuo (name r : List UInt8) : CtS := if preF (quotF r).2 [34] = false then .fail else .next (name, (quotF r).1) ((quotF r).2.drop 1)
def ctNamed (name r3 : List UInt8) : CtS := if preF r3 [61] = false then .fail else if preF (r3.drop 1) [34] = false then ctVal name (r3.drop 1) else ctQuo name ((r3.drop 1).drop 1)
def ctSemi (r2 : List UInt8) : CtS := ctNamed ((runF ctAll r2).map lo12) (trimL (isIn ctAll) r2)
def ctOne (r1 : List UInt8) : CtS := if r1 = [] then .over else if preF r1 [59] = false then .fail else ctSemi (trimL (isIn kBl) (r1.drop 1))
def ctStep (r : List UInt8) : CtS := ctOne (trimL (isIn kBl) r)
def ctPars : Nat → List UInt8 → List Param → Option (List Param)
  | 0, _, _ => none
  | n + 1, r, ps => match ctStep r with
    | .over => some ps
    | .fail => none
    | .next p r' => ctPars n r' (ps ++ [p])
def ctEnd (main sub : List UInt8) : Option (List Param) → CType × Int
  | some ps => if ctRightF (main, sub, ps) = true then ((main, sub, ps), 0) else (zeroT, 2)
  | none => (zeroT, 2)
def ctSub (main r2 : List UInt8) : CType × Int := ctEnd main ((runF ctAll r2).map lo12) (ctPars ((trimL (isIn ctAll) r2).length + 1) (trimL (isIn ctAll) r2) [])
def ctMain (s0 : List UInt8) : CType × Int := if preF (trimL (isIn ctAll) s0) [47] = false then (zeroT, 2) else ctSub ((runF ctAll s0).map lo12) ((trimL (isIn ctAll) s0).drop 1)
def ctParseF (s : List UInt8) : CType × Int := ctMain (trimR (isIn kBl) (trimL (isIn kBl) s))
theorem trimL_le (p : UInt8 → Bool) (s : List UInt8) : (trimL p s).length ≤ s.length := (List.dropWhile_sublist _).length_le
theorem trimR_le (p : UInt8 → Bool) (s : List UInt8) : (trimR p s).length ≤ s.length := by
  unfold trimR
  rw [List.length_reverse]
  refine Nat.le_trans (List.dropWhile_sublist _).length_le ?_
  rw [List.length_reverse]; exact Nat.le_refl _
theorem runF_le (set s : List UInt8) : (runF set s).length ≤ s.length := by unfold runF; rw [List.length_take]; omega
theorem quotF_le : ∀ s : List UInt8, (quotF s).1.length ≤ s.length ∧ (quotF s).2.length ≤ s.length
  | [] => ⟨Nat.le_refl _, Nat.le_refl _⟩
  | [c] => by unfold quotF; split <;> simp
  | c :: d :: l => by
    have h1 := quotF_le l
    have h2 := quotF_le (d :: l)
    unfold quotF
    split
    · simp
    split
    · simp only [List.length_cons] at h2 ⊢; omega
    · simp only [List.length_cons] at h2 ⊢; omega
theorem takeF_pre {c s : List UInt8} (h : preF s c = true) : takeF c s = s.drop c.length := by rw [takeF, if_pos h]
theorem takeF_no {c s : List UInt8} (h : preF s c = false) : takeF c s = s := by rw [takeF, if_neg (by rw [h]; simp)]
theorem preF_pos {s : List UInt8} {c : UInt8} (h : preF s [c] = true) : 0 < s.length := by
  obtain ⟨r, rfl⟩ := (preF_iff _ _).1 h
  simp
theorem quotF_stop {u : List UInt8} (h : u = [] ∨ ((u.getD 0 0).toNat : Int) = 34) : quotF u = ([], u) := by
  have e34 : ∀ c : UInt8, (c.toNat : Int) = 34 → c = 34 := fun c hc => UInt8.toNat_inj.1 (by rw [show c.toNat = 34 by omega]; rfl)
  match u, h with
  | [], _ => rfl
  | [c], h =>
    have hc : c = 34 := e34 c (h.elim (fun h => by cases h) id)
    rw [quotF, if_pos hc]
  | c :: d :: l, h =>
    have hc : c = 34 := e34 c (h.elim (fun h => by cases h) id)
    rw [quotF, if_pos hc]
theorem quotF_esc {c d : UInt8} {l : List UInt8} (h2 : (c.toNat : Int) = 92) : quotF (c :: d :: l) = (d :: (quotF l).1, (quotF l).2) := by
  have hc : c = 92 := UInt8.toNat_inj.1 (by rw [show c.toNat = 92 by omega]; rfl)
  rw [quotF, if_neg (by rw [hc]; decide), if_pos hc]
theorem quotF_one {c : UInt8} (h1 : ¬ (c.toNat : Int) = 34) : quotF [c] = ([c], []) := by
  rw [quotF, if_neg (fun h => h1 (by rw [h]; rfl))]
theorem quotF_next {c : UInt8} {l : List UInt8} (h1 : ¬ (c.toNat : Int) = 34) (h2 : ¬ (c.toNat : Int) = 92) : quotF (c :: l) = (c :: (quotF l).1, (quotF l).2) := by
  cases l with
  | nil => rw [quotF_one h1]; rfl
  | cons d l => rw [quotF, if_neg (fun h => h1 (by rw [h]; rfl)), if_neg (fun h => h2 (by rw [h]; rfl))]
def ctParseT : TF := { doms := [.str], cods := [tType, .int .i64], pre := fun x => List.length x.1 ≤ 1000000, fn := fun x => ((ctParseF x.1).1, (ctParseF x.1).2, ()) }
set_option maxHeartbeats 4000000 in
theorem ctParse_ok : TFOk Tryz.prog 8 ctParseT := by
  refine tf_by (tbl := [(20, ctFailT), (23, EF.tf ctRunE), (24, EF.tf ctTakeE), (22, ctCutLeftT), (21, ctCutRightT), (26, ctLowerT), (13, ctRightT)]) fol (tblCons ctFail_ok Tryz.func20 (by kernel_rfl) (tblEff ctRun_ok Tryz.func23 (by kernel_rfl) (tblEff ctTake_ok Tryz.func24 (by kernel_rfl) (tblCons ctCutLeft_ok Tryz.func22 (by kernel_rfl) (tblCons ctCutRight_ok Tryz.func21 (by kernel_rfl) (tblCons ctLower_ok Tryz.func26 (by kernel_rfl) (tblCons ctRight_ok Tryz.func13 (by kernel_rfl) tblNil))))))) Tryz.func8 rfl rfl rfl ?_
  rintro ⟨(s : List UInt8), _⟩ hpre
  have hlen : s.length ≤ 1000000 := hpre
  have cAll : List.append ([97, 98, 99, 100, 101, 102, 103, 104, 105, 106, 107, 108, 109, 110, 111, 112, 113, 114, 115, 116, 117, 118, 119, 120, 121, 122, 48, 49, 50, 51, 52, 53, 54, 55, 56] : List UInt8) [57, 33, 35, 36, 38, 45, 94, 95, 46, 43, 65, 66, 67, 68, 69, 70, 71, 72, 73, 74, 75, 76, 77, 78, 79, 80, 81, 82, 83, 84, 85, 86, 87, 88, 89, 90] = ctAll := rfl
  have cBl : ([32, 9] : List UInt8) = kBl := rfl
  have cLt : ([97, 98, 99, 100, 101, 102, 103, 104, 105, 106, 107, 108, 109, 110, 111, 112, 113, 114, 115, 116, 117, 118, 119, 120, 121, 122, 48, 49, 50, 51, 52, 53, 54, 55, 56, 57, 33, 35, 36, 38, 45, 94, 95, 46, 43] : List UInt8) = ctLetters := rfl
  have e0 : ctParseF s = ctMain (trimR (isIn kBl) (trimL (isIn kBl) s)) := rfl
  have l0 : (trimR (isIn kBl) (trimL (isIn kBl) s)).length ≤ 1000000 := Nat.le_trans (trimR_le _ _) (Nat.le_trans (trimL_le _ _) hlen)
  simp (maxSteps := 5000000) -implicitDefEqProofs only [cAll, cBl, cLt, ctParseT, ctFailT, ctRunE, ctTakeE, ctCutLeftT, ctCutRightT, ctLowerT, ctRightT, Tryz.f8, ti3, ti4, ti5, ti9, ti22, ti23, ti24, ti40, ti41, ti49, eqk41, tyo3, tyo4, tyo5, tyo9, tyo22, tyo23, tyo24, tyo40, tyo41, tyo49, arr3, arr4, arr5, arr9, arr22, arr23, arr24, arr40, arr41, arr49, copyx, copyO, nilArgs, nilcmp, nilcmp2, ofZero_row, ofZero_list, ofZero_int, ofZero_bool, ofZero_string, ofZero_slice, ofZero_pointer, ofZero_func, ofZero_iface, ofZero_map, splx, convU, convB, x_den0, x_den1, x_den2, x_den3, x_den4, x_den5, x_den6, x_skip, x_label, x_ret, x_exit, x_seq, x_block, x_cond, x_cnd1, x_cnd2, x_cnd3, x_region, x_draw, x_sq0, x_sq1, x_sq2, x_sqD, x_sqG1, x_sqG2, x_sqG3, x_sqG4, x_sqG5, x_sqG6, x_sqB1, x_sqB2, x_sqE, x_fold, x_put1, x_put0, x_ef1, x_ef2, x_ef3, x_ef4, x_ef5, x_ef6, x_ef7, x_ef8, x_ef9, callIx, callIf, evM, callEx, callEt, callEo, callE2, wpE, frameK, frameK2, inlW, bodyOf, InlR, tupS, undefs, x_ink1, x_ink2, callEf, callE, eArgs, eCons, eConsB, boxDt, setBx, EF.tf, bxs, eStart, eSlots, eH, goneN, boxE, boxesE, RetE, x_fie1, x_fie2, List.contains_nil, storex, castL_self, appendx, appendT, appendS, appendO, appendN, appendF, appendX, appendY, appendZ, srcq, elemSV, bytesD, nexts, nextx, forget, forgetL, forgetB, forgetH, spl, isCell, List.all_cons, List.all_nil, Option.some.injEq, makeq, makeE, makeT, zeroD, bytesTI, buildSq, buildE, buildB, partsD, tiSz, buildT, fillS, okFlat, rangeq, bytesQ, textQ, adopt, adoptOk, getA, setA, getC, setC, Nat.reduceDiv, Nat.reduceMod, List.replicate_zero, Nat.not_lt_zero, x_fin1, x_fin2, x_fio1, x_fio2, x_own1, x_own2, RetOwn, ownVC, x_lk1, x_lk2, x_lk3, x_un0, x_un1, x_un2, x_un3, x_wr1, x_nv2, x_nv3, l_refl, l_any, l_int, l_bool, l_kb, l_kk, l_str, l_sl, l_nils, l_pp, l_ptr, l_osl, l_slf, l_ag, l_sls, l_agg, wrote, List.filterMap_cons_some, List.filterMap_cons_none, List.filterMap_cons, List.filterMap_nil, havoc, setSs, setBs, atHead, Vx.Sub, leS, leH, leB, below, below.belowL, belowB, belowH, SV.int.injEq, SV.bool.injEq, SV.kb.injEq, SV.str.injEq, SV.sl.injEq, SV.ptr.injEq, SV.pp.injEq, SV.agg.injEq, SV.osl.injEq, Blk.own.injEq, Blk.iter.injEq, heq_eq_eq, eq_self, List.cons.injEq, evq, evS, Vx.get, setO, setS, dstAt, startS, undefs, ofArgs, ofDV, ofD, one, Ty.isAgg, Ty.size, boxq, flat, allocq, allocA, fieldAddrq, fieldq, tkOf, sizeP, loadq, getB, setB, binq, intBin, strBin, boolBin, pickq, Vx.asB, ofConst, ofCell, nilq, unq, convq, sliceq, slice3q, strCut, slCut, makeFuncq, indexAddrq, indexq, extractq, ifaceq, builtinq, callfq, callq, tlook, toArgs, toDV, toD, oneOf, Vx.both, toInt_self, toSl_self, toSl_slf, toSl_nils, toSl_osl, toSlB_self, arrD_self, toRef_self, toRef_ptr, boxD, no1_self, no2_self, clo1_fn, clo1_f1, clo2_fn, clo2_f2, cloA1_fn, cloA1_f1, cloA2_fn, cloA2_f2, cloT1_self, cloT2_self, mk1, mk2, callT, callO, ownQ, lent, scalL, Ty.scal, toAg_self, glS, glTyp, TF.ob, Bool.and_true, Bool.and_false, Bool.true_and, Bool.false_and, List.take_length, Option.isSome_some, List.getD_cons_zero, Vx.toBool, Vx.toNil, Vx.toStr, Vx.toInt, eqCells, subP, TK.isAgg, Bool.true_or, Bool.or_true, litSlot, Option.toList, List.contains_cons, List.contains_nil, Nat.reduceBEq, Bool.or_false, Bool.false_or, evA, appArgs, appendq, appendQ1, appendQ2, appendQ3, trimN, RetVC, resL, ofRes, List.toList_toArray, Bool.not_true, Bool.not_false, Option.map_some, Option.map_none, Option.bind_some, Option.getD_some, Option.getD_none, List.getElem?_cons_zero, List.getElem?_cons_succ, List.cons_append, List.nil_append, List.append_nil, List.length_cons, List.length_nil, List.drop_succ_cons, List.drop_zero, List.take_succ_cons, List.take_zero, List.map_cons, List.map_nil, List.drop_nil, List.take_nil, ite_true, ite_false, reduceCtorEq, true_and, and_true, false_and, and_false, and_self, if_true, if_false, Bool.false_eq_true, reduceIte, Nat.reduceAdd, Nat.reduceLT, Nat.reduceLeDiff, Nat.reduceSub, Nat.reduceMul, Nat.reduceEqDiff, Nat.zero_lt_one, Nat.lt_add_one, Nat.zero_add, Nat.le_refl, decide_true]
  repeat' (first | (with_reducible refine drawOk_by ?_; kernel_rfl) | (with_reducible refine And.intro ?_ ?_) | (with_reducible intro _)); all_goals (try simp only [decide_eq_true_eq, decide_eq_false_iff_not, Int.not_lt, Int.not_le, beq_iff_eq, bne_iff_ne, beq_eq_false_iff_ne, bne_eq_false_iff_eq, ne_eq, Decidable.not_not] at *)
  all_goals (try simp only [Bool.not_eq_true', Bool.not_eq_false', e0] at *)
  all_goals (generalize trimR (isIn kBl) (trimL (isIn kBl) s) = s0 at *)
  all_goals (have l1 := trimL_le (isIn ctAll) s0)
  all_goals (have l2 := runF_le ctAll s0)
  all_goals first
    | exact kBl_ascii _ ‹_›
    | exact ctAll_ascii _ ‹_›
    | exact Nat.le_trans (trimL_le _ _) (by omega)
    | omega
    | (simp only [ctMain, if_pos ‹preF (trimL (isIn ctAll) s0) [47] = false›]; done)
    | skip
  all_goals (have hm := ‹preF (trimL (isIn ctAll) s0) [47] = true›)
  all_goals (have em : ctMain s0 = ctSub ((runF ctAll s0).map lo12) ((trimL (isIn ctAll) s0).drop 1) := by rw [ctMain, if_neg (by rw [hm]; simp)])
  all_goals (try rw [em])
  all_goals (simp only [takeF_pre hm, List.length_cons, List.length_nil, Nat.zero_add] at *)
  all_goals (have l3 : ((trimL (isIn ctAll) s0).drop 1).length ≤ 1000000 := by rw [List.length_drop]; omega)
  all_goals (have l4 : ((runF ctAll s0).map lo12).length ≤ 1000000 := by rw [List.length_map]; omega)
  all_goals (generalize (runF ctAll s0).map lo12 = mn at *)
  all_goals (generalize (trimL (isIn ctAll) s0).drop 1 = r2 at *)
  all_goals (have l5 := trimL_le (isIn ctAll) r2)
  all_goals (have l6 := runF_le ctAll r2)
  all_goals first
    | omega
    | skip
  all_goals (have l7 : ((runF ctAll r2).map lo12).length ≤ 1000000 := by rw [List.length_map]; omega)
  all_goals (simp only [ctSub])
  all_goals (generalize (runF ctAll r2).map lo12 = sb at *)
  all_goals (generalize hr3 : trimL (isIn ctAll) r2 = r3 at *)
  have l8 : r3.length ≤ 1000000 := by omega
  clear e0 em hm l6 l1 l2 l0 l3 hr3
  refine x_loopA [(10202, tParam, 41)] (by simp -implicitDefEqProofs only [below_nilRow, below_setS1, below_setS2, leS_same, l_mp, SV.mp.injEq, Blk.mp.injEq, undefs, Option.some.injEq, adopt, adoptOk, getA, setA, getC, setC, Nat.reduceDiv, Nat.reduceMod, List.replicate_zero, Nat.not_lt_zero, l_refl, l_any, l_int, l_bool, l_kb, l_kk, l_str, l_sl, l_nils, l_pp, l_ptr, l_osl, l_slf, l_ag, l_sls, l_agg, wrote, List.filterMap_cons_some, List.filterMap_cons_none, List.filterMap_cons, List.filterMap_nil, havoc, setSs, setBs, atHead, Vx.Sub, leS, leH, leB, below, below.belowL, belowB, belowH, SV.int.injEq, SV.bool.injEq, SV.kb.injEq, SV.str.injEq, SV.sl.injEq, SV.ptr.injEq, SV.pp.injEq, SV.agg.injEq, SV.osl.injEq, Blk.own.injEq, Blk.iter.injEq, heq_eq_eq, eq_self, List.cons.injEq, Vx.get, setO, setS, undefs, getB, setB, List.toList_toArray, Option.map_some, Option.map_none, Option.getD_some, Option.getD_none, List.getElem?_cons_zero, List.getElem?_cons_succ, List.cons_append, List.nil_append, List.append_nil, List.length_cons, List.length_nil, ite_true, ite_false, reduceCtorEq, true_and, and_true, false_and, and_false, and_self, if_true, if_false, Bool.false_eq_true, reduceIte, Nat.reduceAdd, Nat.reduceLT, Nat.reduceLeDiff, Nat.reduceSub, Nat.reduceMul, Nat.reduceEqDiff, Nat.zero_lt_one, Nat.lt_add_one, Nat.zero_add, Nat.le_refl, decide_true, below_noVal]; rfl) (by simp -implicitDefEqProofs only [below_nilRow, below_setS1, below_setS2, leS_same, l_mp, SV.mp.injEq, Blk.mp.injEq, undefs, Option.some.injEq, adopt, adoptOk, getA, setA, getC, setC, Nat.reduceDiv, Nat.reduceMod, List.replicate_zero, Nat.not_lt_zero, l_refl, l_any, l_int, l_bool, l_kb, l_kk, l_str, l_sl, l_nils, l_pp, l_ptr, l_osl, l_slf, l_ag, l_sls, l_agg, wrote, List.filterMap_cons_some, List.filterMap_cons_none, List.filterMap_cons, List.filterMap_nil, havoc, setSs, setBs, atHead, Vx.Sub, leS, leH, leB, below, below.belowL, belowB, belowH, SV.int.injEq, SV.bool.injEq, SV.kb.injEq, SV.str.injEq, SV.sl.injEq, SV.ptr.injEq, SV.pp.injEq, SV.agg.injEq, SV.osl.injEq, Blk.own.injEq, Blk.iter.injEq, heq_eq_eq, eq_self, List.cons.injEq, Vx.get, setO, setS, undefs, getB, setB, List.toList_toArray, Option.map_some, Option.map_none, Option.getD_some, Option.getD_none, List.getElem?_cons_zero, List.getElem?_cons_succ, List.cons_append, List.nil_append, List.append_nil, List.length_cons, List.length_nil, ite_true, ite_false, reduceCtorEq, true_and, and_true, false_and, and_false, and_self, if_true, if_false, Bool.false_eq_true, reduceIte, Nat.reduceAdd, Nat.reduceLT, Nat.reduceLeDiff, Nat.reduceSub, Nat.reduceMul, Nat.reduceEqDiff, Nat.zero_lt_one, Nat.lt_add_one, Nat.zero_add, Nat.le_refl, decide_true, below_noVal]) (γ := Nat × List UInt8 × List Param) (fun _ => [])
    (fun g => [(0, .cells [.str g.2.1] 9), (2, .cells [.str mn, .str sb, .osl 3 (List.length g.2.2)] 24), (3, .own tParam g.2.2 41)])
    (fun g => g.2.1.length < g.1 ∧ g.2.1.length + g.2.2.length ≤ 1000000 ∧ (∀ p ∈ g.2.2, p.1.length ≤ 1000000 ∧ p.2.length ≤ 1000000) ∧ ctPars g.1 g.2.1 g.2.2 = ctPars (r3.length + 1) r3 []) (fun g => g.2.1.length) (r3.length + 1, r3, []) ⟨⟨Nat.lt_succ_self _, by simpa using l8, ⟨fun p hp => absurd hp (by simp), rfl⟩⟩, ?_⟩ ?_
  · simp -implicitDefEqProofs only [below_nilRow, below_setS1, below_setS2, leS_same, l_mp, SV.mp.injEq, Blk.mp.injEq, undefs, Option.some.injEq, adopt, adoptOk, getA, setA, getC, setC, Nat.reduceDiv, Nat.reduceMod, List.replicate_zero, Nat.not_lt_zero, l_refl, l_any, l_int, l_bool, l_kb, l_kk, l_str, l_sl, l_nils, l_pp, l_ptr, l_osl, l_slf, l_ag, l_sls, l_agg, wrote, List.filterMap_cons_some, List.filterMap_cons_none, List.filterMap_cons, List.filterMap_nil, havoc, setSs, setBs, atHead, Vx.Sub, leS, leH, leB, below, below.belowL, belowB, belowH, SV.int.injEq, SV.bool.injEq, SV.kb.injEq, SV.str.injEq, SV.sl.injEq, SV.ptr.injEq, SV.pp.injEq, SV.agg.injEq, SV.osl.injEq, Blk.own.injEq, Blk.iter.injEq, heq_eq_eq, eq_self, List.cons.injEq, Vx.get, setO, setS, undefs, getB, setB, List.toList_toArray, Option.map_some, Option.map_none, Option.getD_some, Option.getD_none, List.getElem?_cons_zero, List.getElem?_cons_succ, List.cons_append, List.nil_append, List.append_nil, List.length_cons, List.length_nil, ite_true, ite_false, reduceCtorEq, true_and, and_true, false_and, and_false, and_self, if_true, if_false, Bool.false_eq_true, reduceIte, Nat.reduceAdd, Nat.reduceLT, Nat.reduceLeDiff, Nat.reduceSub, Nat.reduceMul, Nat.reduceEqDiff, Nat.zero_lt_one, Nat.lt_add_one, Nat.zero_add, Nat.le_refl, decide_true, below_noVal]
    all_goals trivial
  rintro ⟨n, r, ps⟩ hg
  have hg1 : r.length < n := hg.1
  have hg2 : r.length + ps.length ≤ 1000000 := hg.2.1
  have hg3 : ∀ p ∈ ps, p.1.length ≤ 1000000 ∧ p.2.length ≤ 1000000 := hg.2.2.1
  have hg4 : ctPars n r ps = ctPars (r3.length + 1) r3 [] := hg.2.2.2
  clear hg
  rw [← hg4]
  rcases n with _ | m
  · omega
  have hP : ctPars (m + 1) r ps = (match ctOne (trimL (isIn kBl) r) with
    | .over => some ps
    | .fail => none
    | .next p r' => ctPars m r' (ps ++ [p])) := rfl
  have k1 := trimL_le (isIn kBl) r
  simp (maxSteps := 5000000) -implicitDefEqProofs only [cAll, cBl, cLt, ctFailT, ctRunE, ctTakeE, ctCutLeftT, ctCutRightT, ctLowerT, ctRightT, Tryz.f8, ti3, ti4, ti5, ti9, ti22, ti23, ti24, ti40, ti41, ti49, eqk41, tyo3, tyo4, tyo5, tyo9, tyo22, tyo23, tyo24, tyo40, tyo41, tyo49, arr3, arr4, arr5, arr9, arr22, arr23, arr24, arr40, arr41, arr49, copyx, copyO, nilArgs, nilcmp, nilcmp2, ofZero_row, ofZero_list, ofZero_int, ofZero_bool, ofZero_string, ofZero_slice, ofZero_pointer, ofZero_func, ofZero_iface, ofZero_map, splx, convU, convB, x_den0, x_den1, x_den2, x_den3, x_den4, x_den5, x_den6, x_skip, x_label, x_ret, x_exit, x_seq, x_block, x_cond, x_cnd1, x_cnd2, x_cnd3, x_region, x_draw, x_sq0, x_sq1, x_sq2, x_sqD, x_sqG1, x_sqG2, x_sqG3, x_sqG4, x_sqG5, x_sqG6, x_sqB1, x_sqB2, x_sqE, x_fold, x_put1, x_put0, x_ef1, x_ef2, x_ef3, x_ef4, x_ef5, x_ef6, x_ef7, x_ef8, x_ef9, callIx, callIf, evM, callEx, callEt, callEo, callE2, wpE, frameK, frameK2, inlW, bodyOf, InlR, tupS, undefs, x_ink1, x_ink2, callEf, callE, eArgs, eCons, eConsB, boxDt, setBx, EF.tf, bxs, eStart, eSlots, eH, goneN, boxE, boxesE, RetE, x_fie1, x_fie2, List.contains_nil, storex, castL_self, appendx, appendT, appendS, appendO, appendN, appendF, appendX, appendY, appendZ, srcq, elemSV, bytesD, nexts, nextx, forget, forgetL, forgetB, forgetH, spl, isCell, List.all_cons, List.all_nil, Option.some.injEq, makeq, makeE, makeT, zeroD, bytesTI, buildSq, buildE, buildB, partsD, tiSz, buildT, fillS, okFlat, rangeq, bytesQ, textQ, adopt, adoptOk, getA, setA, getC, setC, Nat.reduceDiv, Nat.reduceMod, List.replicate_zero, Nat.not_lt_zero, x_fin1, x_fin2, x_fio1, x_fio2, x_own1, x_own2, RetOwn, ownVC, x_lk1, x_lk2, x_lk3, x_un0, x_un1, x_un2, x_un3, x_wr1, x_nv2, x_nv3, l_refl, l_any, l_int, l_bool, l_kb, l_kk, l_str, l_sl, l_nils, l_pp, l_ptr, l_osl, l_slf, l_ag, l_sls, l_agg, wrote, List.filterMap_cons_some, List.filterMap_cons_none, List.filterMap_cons, List.filterMap_nil, havoc, setSs, setBs, atHead, Vx.Sub, leS, leH, leB, below, below.belowL, belowB, belowH, SV.int.injEq, SV.bool.injEq, SV.kb.injEq, SV.str.injEq, SV.sl.injEq, SV.ptr.injEq, SV.pp.injEq, SV.agg.injEq, SV.osl.injEq, Blk.own.injEq, Blk.iter.injEq, heq_eq_eq, eq_self, List.cons.injEq, evq, evS, Vx.get, setO, setS, dstAt, startS, undefs, ofArgs, ofDV, ofD, one, Ty.isAgg, Ty.size, boxq, flat, allocq, allocA, fieldAddrq, fieldq, tkOf, sizeP, loadq, getB, setB, binq, intBin, strBin, boolBin, pickq, Vx.asB, ofConst, ofCell, nilq, unq, convq, sliceq, slice3q, strCut, slCut, makeFuncq, indexAddrq, indexq, extractq, ifaceq, builtinq, callfq, callq, tlook, toArgs, toDV, toD, oneOf, Vx.both, toInt_self, toSl_self, toSl_slf, toSl_nils, toSl_osl, toSlB_self, arrD_self, toRef_self, toRef_ptr, boxD, no1_self, no2_self, clo1_fn, clo1_f1, clo2_fn, clo2_f2, cloA1_fn, cloA1_f1, cloA2_fn, cloA2_f2, cloT1_self, cloT2_self, mk1, mk2, callT, callO, ownQ, lent, scalL, Ty.scal, toAg_self, glS, glTyp, TF.ob, Bool.and_true, Bool.and_false, Bool.true_and, Bool.false_and, List.take_length, Option.isSome_some, List.getD_cons_zero, Vx.toBool, Vx.toNil, Vx.toStr, Vx.toInt, eqCells, subP, TK.isAgg, Bool.true_or, Bool.or_true, litSlot, Option.toList, List.contains_cons, List.contains_nil, Nat.reduceBEq, Bool.or_false, Bool.false_or, evA, appArgs, appendq, appendQ1, appendQ2, appendQ3, trimN, RetVC, resL, ofRes, List.toList_toArray, Bool.not_true, Bool.not_false, Option.map_some, Option.map_none, Option.bind_some, Option.getD_some, Option.getD_none, List.getElem?_cons_zero, List.getElem?_cons_succ, List.cons_append, List.nil_append, List.append_nil, List.length_cons, List.length_nil, List.drop_succ_cons, List.drop_zero, List.take_succ_cons, List.take_zero, List.map_cons, List.map_nil, List.drop_nil, List.take_nil, ite_true, ite_false, reduceCtorEq, true_and, and_true, false_and, and_false, and_self, if_true, if_false, Bool.false_eq_true, reduceIte, Nat.reduceAdd, Nat.reduceLT, Nat.reduceLeDiff, Nat.reduceSub, Nat.reduceMul, Nat.reduceEqDiff, Nat.zero_lt_one, Nat.lt_add_one, Nat.zero_add, Nat.le_refl, decide_true]
  rw [hP] at hg4
  repeat' (first | (with_reducible refine drawOk_by ?_; kernel_rfl) | (with_reducible refine And.intro ?_ ?_) | (with_reducible intro _)); all_goals (try simp only [decide_eq_true_eq, decide_eq_false_iff_not, Int.not_lt, Int.not_le, beq_iff_eq, bne_iff_ne, beq_eq_false_iff_ne, bne_eq_false_iff_eq, ne_eq, Decidable.not_not] at *)
  all_goals (try simp only [Bool.not_eq_true', Bool.not_eq_false', hP] at *)
  all_goals (generalize trimL (isIn kBl) r = r1 at *)
  all_goals first
    | exact kBl_ascii _ ‹_›
    | exact ctAll_ascii _ ‹_›
    | exact ctLetters_ascii _ ‹_›
    | omega
    | exact ⟨l4, l7, by show ps.length ≤ 1000000; omega, hg3⟩
    | (simp only [ctOne, if_pos ‹r1 = []›, ctEnd, if_pos ‹ctRightF (mn, sb, ps) = true›]; done)
    | (simp only [ctOne, if_pos ‹r1 = []›, ctEnd, ‹ctRightF (mn, sb, ps) = false›, Bool.false_eq_true, if_false]; done)
    | (simp only [ctOne, if_neg ‹¬ r1 = []›, if_pos ‹preF r1 [59] = false›, ctEnd]; done)
    | skip
  all_goals (have h59 := ‹preF r1 [59] = true›)
  all_goals (have e1 : ctOne r1 = ctSemi (trimL (isIn kBl) (r1.drop 1)) := by rw [ctOne, if_neg (by assumption), if_neg (by rw [h59]; simp)])
  all_goals (have d1 : (r1.drop 1).length + 1 ≤ r.length := by have := preF_pos h59; rw [List.length_drop]; omega)
  all_goals (simp only [e1, takeF_pre h59, List.length_cons, List.length_nil, Nat.zero_add] at *)
  all_goals (generalize r1.drop 1 = ra at *)
  all_goals (have k2 := trimL_le (isIn kBl) ra)
  all_goals (generalize trimL (isIn kBl) ra = rb at *)
  all_goals (have k3 := trimL_le (isIn ctAll) rb)
  all_goals (have k4 := runF_le ctAll rb)
  all_goals (simp only [ctSemi] at *)
  all_goals first
    | omega
    | skip
  all_goals (have k5 : ((runF ctAll rb).map lo12).length ≤ 1000000 := by rw [List.length_map]; omega)
  all_goals (generalize (runF ctAll rb).map lo12 = nm at *)
  all_goals (generalize trimL (isIn ctAll) rb = q3 at *)
  all_goals first
    | (simp only [ctNamed, if_pos ‹preF q3 [61] = false›, ctEnd]; done)
    | skip
  all_goals (have h61 := ‹preF q3 [61] = true›)
  all_goals (have e2 : ctNamed nm q3 = if preF (q3.drop 1) [34] = false then ctVal nm (q3.drop 1) else ctQuo nm ((q3.drop 1).drop 1) := by rw [ctNamed, if_neg (by rw [h61]; simp)])
  all_goals (have d2 : (q3.drop 1).length ≤ q3.length := by rw [List.length_drop]; omega)
  all_goals (simp only [e2, takeF_pre h61, List.length_cons, List.length_nil, Nat.zero_add] at *)
  all_goals (generalize q3.drop 1 = q4 at *)
  all_goals (clear hg4)
  all_goals (try
    (have h34 := ‹preF q4 [34] = false›
     have k6 := trimL_le (isIn ctLetters) q4
     have k7 := runF_le ctLetters q4
     simp only [takeF_no h34, if_pos h34] at *
     first
       | omega
       | (simp only [ctVal, if_pos (show runF ctLetters q4 = [] ∨ 64 < (runF ctLetters q4).length from .inl ‹_›), ctEnd]; done)
       | (simp only [ctVal, if_pos (show runF ctLetters q4 = [] ∨ 64 < (runF ctLetters q4).length from .inr (by omega)), ctEnd]; done)
       | (simp only [List.length_append, List.length_cons, List.length_nil]; omega)
       | (simp only [ctVal, if_neg (show ¬ (runF ctLetters q4 = [] ∨ 64 < (runF ctLetters q4).length) from fun h => h.elim (by assumption) (by omega))]
          refine ⟨(m, trimL (isIn ctLetters) q4, ps ++ [(nm, runF ctLetters q4)]), ⟨by simp only; omega, by simp only [List.length_append, List.length_cons, List.length_nil]; omega, ?_, rfl⟩, by simp only; omega, ?_⟩
          · intro p hp
            rw [List.mem_append, List.mem_singleton] at hp
            rcases hp with hp | rfl
            · exact hg3 p hp
            · exact ⟨k5, by simp only; omega⟩
          · simp)))
  all_goals (have h34 := ‹preF q4 [34] = true›)
  all_goals (have e3 : (if preF q4 [34] = false then ctVal nm q4 else ctQuo nm (q4.drop 1)) = ctQuo nm (q4.drop 1) := if_neg (by rw [h34]; simp))
  all_goals (have d3 : (q4.drop 1).length + 1 ≤ q4.length := by have := preF_pos h34; rw [List.length_drop]; omega)
  all_goals (simp only [e3, takeF_pre h34, List.length_cons, List.length_nil, Nat.zero_add] at *)
  all_goals (generalize q4.drop 1 = q5 at *)
  refine x_loopA [(9, .int .u8, 5)] (by simp -implicitDefEqProofs only [below_nilRow, below_setS1, below_setS2, leS_same, l_mp, SV.mp.injEq, Blk.mp.injEq, undefs, Option.some.injEq, adopt, adoptOk, getA, setA, getC, setC, Nat.reduceDiv, Nat.reduceMod, List.replicate_zero, Nat.not_lt_zero, l_refl, l_any, l_int, l_bool, l_kb, l_kk, l_str, l_sl, l_nils, l_pp, l_ptr, l_osl, l_slf, l_ag, l_sls, l_agg, wrote, List.filterMap_cons_some, List.filterMap_cons_none, List.filterMap_cons, List.filterMap_nil, havoc, setSs, setBs, atHead, Vx.Sub, leS, leH, leB, below, below.belowL, belowB, belowH, SV.int.injEq, SV.bool.injEq, SV.kb.injEq, SV.str.injEq, SV.sl.injEq, SV.ptr.injEq, SV.pp.injEq, SV.agg.injEq, SV.osl.injEq, Blk.own.injEq, Blk.iter.injEq, heq_eq_eq, eq_self, List.cons.injEq, Vx.get, setO, setS, undefs, getB, setB, List.toList_toArray, Option.map_some, Option.map_none, Option.getD_some, Option.getD_none, List.getElem?_cons_zero, List.getElem?_cons_succ, List.cons_append, List.nil_append, List.append_nil, List.length_cons, List.length_nil, ite_true, ite_false, reduceCtorEq, true_and, and_true, false_and, and_false, and_self, if_true, if_false, Bool.false_eq_true, reduceIte, Nat.reduceAdd, Nat.reduceLT, Nat.reduceLeDiff, Nat.reduceSub, Nat.reduceMul, Nat.reduceEqDiff, Nat.zero_lt_one, Nat.lt_add_one, Nat.zero_add, Nat.le_refl, decide_true, below_noVal]; rfl) (by simp -implicitDefEqProofs only [below_nilRow, below_setS1, below_setS2, leS_same, l_mp, SV.mp.injEq, Blk.mp.injEq, undefs, Option.some.injEq, adopt, adoptOk, getA, setA, getC, setC, Nat.reduceDiv, Nat.reduceMod, List.replicate_zero, Nat.not_lt_zero, l_refl, l_any, l_int, l_bool, l_kb, l_kk, l_str, l_sl, l_nils, l_pp, l_ptr, l_osl, l_slf, l_ag, l_sls, l_agg, wrote, List.filterMap_cons_some, List.filterMap_cons_none, List.filterMap_cons, List.filterMap_nil, havoc, setSs, setBs, atHead, Vx.Sub, leS, leH, leB, below, below.belowL, belowB, belowH, SV.int.injEq, SV.bool.injEq, SV.kb.injEq, SV.str.injEq, SV.sl.injEq, SV.ptr.injEq, SV.pp.injEq, SV.agg.injEq, SV.osl.injEq, Blk.own.injEq, Blk.iter.injEq, heq_eq_eq, eq_self, List.cons.injEq, Vx.get, setO, setS, undefs, getB, setB, List.toList_toArray, Option.map_some, Option.map_none, Option.getD_some, Option.getD_none, List.getElem?_cons_zero, List.getElem?_cons_succ, List.cons_append, List.nil_append, List.append_nil, List.length_cons, List.length_nil, ite_true, ite_false, reduceCtorEq, true_and, and_true, false_and, and_false, and_self, if_true, if_false, Bool.false_eq_true, reduceIte, Nat.reduceAdd, Nat.reduceLT, Nat.reduceLeDiff, Nat.reduceSub, Nat.reduceMul, Nat.reduceEqDiff, Nat.zero_lt_one, Nat.lt_add_one, Nat.zero_add, Nat.le_refl, decide_true, below_noVal]) (γ := List UInt8 × List UInt8) (fun g => [(9, .osl 5 (List.length g.1))])
    (fun g => [(0, .cells [.str g.2] 9), (5, .own (.int .u8) (g.1.map fun b => (b.toNat : Int)) 5)])
    (fun g => g.1.length + g.2.length ≤ q5.length ∧ g.1 ++ (quotF g.2).1 = (quotF q5).1 ∧ (quotF g.2).2 = (quotF q5).2) (fun g => g.2.length) ([], q5) ⟨⟨by simp, rfl, rfl⟩, ?_⟩ ?_
  · simp -implicitDefEqProofs only [below_nilRow, below_setS1, below_setS2, leS_same, l_mp, SV.mp.injEq, Blk.mp.injEq, undefs, Option.some.injEq, adopt, adoptOk, getA, setA, getC, setC, Nat.reduceDiv, Nat.reduceMod, List.replicate_zero, Nat.not_lt_zero, l_refl, l_any, l_int, l_bool, l_kb, l_kk, l_str, l_sl, l_nils, l_pp, l_ptr, l_osl, l_slf, l_ag, l_sls, l_agg, wrote, List.filterMap_cons_some, List.filterMap_cons_none, List.filterMap_cons, List.filterMap_nil, havoc, setSs, setBs, atHead, Vx.Sub, leS, leH, leB, below, below.belowL, belowB, belowH, SV.int.injEq, SV.bool.injEq, SV.kb.injEq, SV.str.injEq, SV.sl.injEq, SV.ptr.injEq, SV.pp.injEq, SV.agg.injEq, SV.osl.injEq, Blk.own.injEq, Blk.iter.injEq, heq_eq_eq, eq_self, List.cons.injEq, Vx.get, setO, setS, undefs, getB, setB, List.toList_toArray, Option.map_some, Option.map_none, Option.getD_some, Option.getD_none, List.getElem?_cons_zero, List.getElem?_cons_succ, List.cons_append, List.nil_append, List.append_nil, List.length_cons, List.length_nil, ite_true, ite_false, reduceCtorEq, true_and, and_true, false_and, and_false, and_self, if_true, if_false, Bool.false_eq_true, reduceIte, Nat.reduceAdd, Nat.reduceLT, Nat.reduceLeDiff, Nat.reduceSub, Nat.reduceMul, Nat.reduceEqDiff, Nat.zero_lt_one, Nat.lt_add_one, Nat.zero_add, Nat.le_refl, decide_true, below_noVal]
    all_goals trivial
  rintro ⟨acc, u⟩ hu
  have u1 : acc.length + u.length ≤ q5.length := hu.1
  have u2 : acc ++ (quotF u).1 = (quotF q5).1 := hu.2.1
  have u3 : (quotF u).2 = (quotF q5).2 := hu.2.2
  clear hu
  have q6 := quotF_le u
  simp (maxSteps := 5000000) -implicitDefEqProofs only [cAll, cBl, cLt, ctFailT, ctRunE, ctTakeE, ctCutLeftT, ctCutRightT, ctLowerT, ctRightT, List.length_map, Tryz.f8, ti3, ti4, ti5, ti9, ti22, ti23, ti24, ti40, ti41, ti49, eqk41, tyo3, tyo4, tyo5, tyo9, tyo22, tyo23, tyo24, tyo40, tyo41, tyo49, arr3, arr4, arr5, arr9, arr22, arr23, arr24, arr40, arr41, arr49, copyx, copyO, nilArgs, nilcmp, nilcmp2, ofZero_row, ofZero_list, ofZero_int, ofZero_bool, ofZero_string, ofZero_slice, ofZero_pointer, ofZero_func, ofZero_iface, ofZero_map, splx, convU, convB, x_den0, x_den1, x_den2, x_den3, x_den4, x_den5, x_den6, x_skip, x_label, x_ret, x_exit, x_seq, x_block, x_cond, x_cnd1, x_cnd2, x_cnd3, x_region, x_draw, x_sq0, x_sq1, x_sq2, x_sqD, x_sqG1, x_sqG2, x_sqG3, x_sqG4, x_sqG5, x_sqG6, x_sqB1, x_sqB2, x_sqE, x_fold, x_put1, x_put0, x_ef1, x_ef2, x_ef3, x_ef4, x_ef5, x_ef6, x_ef7, x_ef8, x_ef9, callIx, callIf, evM, callEx, callEt, callEo, callE2, wpE, frameK, frameK2, inlW, bodyOf, InlR, tupS, undefs, x_ink1, x_ink2, callEf, callE, eArgs, eCons, eConsB, boxDt, setBx, EF.tf, bxs, eStart, eSlots, eH, goneN, boxE, boxesE, RetE, x_fie1, x_fie2, List.contains_nil, storex, castL_self, appendx, appendT, appendS, appendO, appendN, appendF, appendX, appendY, appendZ, srcq, elemSV, bytesD, nexts, nextx, forget, forgetL, forgetB, forgetH, spl, isCell, List.all_cons, List.all_nil, Option.some.injEq, makeq, makeE, makeT, zeroD, bytesTI, buildSq, buildE, buildB, partsD, tiSz, buildT, fillS, okFlat, rangeq, bytesQ, textQ, adopt, adoptOk, getA, setA, getC, setC, Nat.reduceDiv, Nat.reduceMod, List.replicate_zero, Nat.not_lt_zero, x_fin1, x_fin2, x_fio1, x_fio2, x_own1, x_own2, RetOwn, ownVC, x_lk1, x_lk2, x_lk3, x_un0, x_un1, x_un2, x_un3, x_wr1, x_nv2, x_nv3, l_refl, l_any, l_int, l_bool, l_kb, l_kk, l_str, l_sl, l_nils, l_pp, l_ptr, l_osl, l_slf, l_ag, l_sls, l_agg, wrote, List.filterMap_cons_some, List.filterMap_cons_none, List.filterMap_cons, List.filterMap_nil, havoc, setSs, setBs, atHead, Vx.Sub, leS, leH, leB, below, below.belowL, belowB, belowH, SV.int.injEq, SV.bool.injEq, SV.kb.injEq, SV.str.injEq, SV.sl.injEq, SV.ptr.injEq, SV.pp.injEq, SV.agg.injEq, SV.osl.injEq, Blk.own.injEq, Blk.iter.injEq, heq_eq_eq, eq_self, List.cons.injEq, evq, evS, Vx.get, setO, setS, dstAt, startS, undefs, ofArgs, ofDV, ofD, one, Ty.isAgg, Ty.size, boxq, flat, allocq, allocA, fieldAddrq, fieldq, tkOf, sizeP, loadq, getB, setB, binq, intBin, strBin, boolBin, pickq, Vx.asB, ofConst, ofCell, nilq, unq, convq, sliceq, slice3q, strCut, slCut, makeFuncq, indexAddrq, indexq, extractq, ifaceq, builtinq, callfq, callq, tlook, toArgs, toDV, toD, oneOf, Vx.both, toInt_self, toSl_self, toSl_slf, toSl_nils, toSl_osl, toSlB_self, arrD_self, toRef_self, toRef_ptr, boxD, no1_self, no2_self, clo1_fn, clo1_f1, clo2_fn, clo2_f2, cloA1_fn, cloA1_f1, cloA2_fn, cloA2_f2, cloT1_self, cloT2_self, mk1, mk2, callT, callO, ownQ, lent, scalL, Ty.scal, toAg_self, glS, glTyp, TF.ob, Bool.and_true, Bool.and_false, Bool.true_and, Bool.false_and, List.take_length, Option.isSome_some, List.getD_cons_zero, Vx.toBool, Vx.toNil, Vx.toStr, Vx.toInt, eqCells, subP, TK.isAgg, Bool.true_or, Bool.or_true, litSlot, Option.toList, List.contains_cons, List.contains_nil, Nat.reduceBEq, Bool.or_false, Bool.false_or, evA, appArgs, appendq, appendQ1, appendQ2, appendQ3, trimN, RetVC, resL, ofRes, List.toList_toArray, Bool.not_true, Bool.not_false, Option.map_some, Option.map_none, Option.bind_some, Option.getD_some, Option.getD_none, List.getElem?_cons_zero, List.getElem?_cons_succ, List.cons_append, List.nil_append, List.append_nil, List.length_cons, List.length_nil, List.drop_succ_cons, List.drop_zero, List.take_succ_cons, List.take_zero, List.map_cons, List.map_nil, List.drop_nil, List.take_nil, ite_true, ite_false, reduceCtorEq, true_and, and_true, false_and, and_false, and_self, if_true, if_false, Bool.false_eq_true, reduceIte, Nat.reduceAdd, Nat.reduceLT, Nat.reduceLeDiff, Nat.reduceSub, Nat.reduceMul, Nat.reduceEqDiff, Nat.zero_lt_one, Nat.lt_add_one, Nat.zero_add, Nat.le_refl, decide_true]
  repeat' (first | (with_reducible refine drawOk_by ?_; kernel_rfl) | (with_reducible refine And.intro ?_ ?_) | (with_reducible intro _)); all_goals (try simp only [decide_eq_true_eq, decide_eq_false_iff_not, Int.not_lt, Int.not_le, beq_iff_eq, bne_iff_ne, beq_eq_false_iff_ne, bne_eq_false_iff_eq, ne_eq, Decidable.not_not] at *)
  all_goals (try simp only [Bool.not_eq_true', Bool.not_eq_false'] at *)
  all_goals (try simp only [show Int.toNat 0 = 0 from rfl, show Int.toNat 1 = 1 from rfl] at *)
  all_goals (have tk : List.take acc.length (List.map (fun b : UInt8 => (b.toNat : Int)) acc) = List.map (fun b : UInt8 => (b.toNat : Int)) acc := List.take_of_length_le (by rw [List.length_map]; exact Nat.le_refl _))
  all_goals (simp only [tk, List.length_append, List.length_map, List.length_cons, List.length_nil, List.length_drop] at *)
  all_goals first
    | omega
    | (have hu0 := List.length_pos_iff.2 ‹¬ u = []›; omega)
    | (have hz : u = [] ∨ ((u.getD 0 0).toNat : Int) = 34 := by first | exact .inl ‹_› | exact .inr ‹_›
       have hq := quotF_stop hz
       rw [hq] at u2 u3
       simp only [List.append_nil] at u2
       have ev : List.map (fun n : Int => UInt8.ofNat n.toNat) (List.map (fun b : UInt8 => (b.toNat : Int)) acc) = acc := by simp [Function.comp_def]
       first
         | (simp only [ctQuo, ← u3, if_pos ‹preF u [34] = false›, ctEnd]; done)
         | skip)
    | (rcases u with _ | ⟨c, _ | ⟨d, l⟩⟩
       · exact absurd rfl ‹¬ [] = []›
       · simp only [List.getD_cons_zero, List.length_cons, List.length_nil, List.drop_succ_cons, List.drop_zero, List.drop_nil] at *
         first
         | (exfalso; omega)
         | (rw [quotF_one ‹¬ (c.toNat : Int) = 34›] at u2 u3
            refine ⟨(acc ++ [c], []), ⟨by simp only [List.length_append, List.length_cons, List.length_nil]; omega, by simpa [quotF] using u2, by simpa [quotF] using u3⟩, ?_⟩
            simp)
       · simp only [List.getD_cons_zero, List.length_cons, List.length_nil, List.drop_succ_cons, List.drop_zero, List.drop_nil] at *
         first
           | (rw [quotF_esc ‹(c.toNat : Int) = 92›] at u2 u3
              refine ⟨(acc ++ [d], l), ⟨by simp only [List.length_append, List.length_cons, List.length_nil]; omega, by simpa using u2, u3⟩, ?_⟩
              first
                | (simp; done)
                | (simp; omega))
           | (rw [quotF_next ‹¬ (c.toNat : Int) = 34› ‹¬ (c.toNat : Int) = 92›] at u2 u3
              refine ⟨(acc ++ [c], d :: l), ⟨by simp only [List.length_append, List.length_cons, List.length_nil]; omega, by simpa using u2, u3⟩, ?_⟩
              first
                | (simp; done)
                | (simp; omega))
           | (exfalso; omega))
    | trace_state
  all_goals (have h9 := ‹preF u [34] = true›)
  all_goals (have d9 := preF_pos h9)
  all_goals (have e9 : ctQuo nm q5 = .next (nm, (quotF q5).1) (u.drop 1) := by rw [ctQuo, ← u3, if_neg (by rw [h9]; simp)])
  all_goals (simp only [e9, takeF_pre h9, ev, u2, List.length_cons, List.length_nil, Nat.zero_add] at *)
  all_goals (refine ⟨(m, u.drop 1, ps ++ [(nm, (quotF q5).1)]), ⟨by simp only [List.length_drop]; omega, by simp only [List.length_append, List.length_cons, List.length_nil, List.length_drop]; omega, ?_, rfl⟩, by simp only [List.length_drop]; omega, rfl, by simp, by simp [Function.comp_def]⟩)
  all_goals
    (intro p hp
     rw [List.mem_append, List.mem_singleton] at hp
     rcases hp with hp | rfl
     · exact hg3 p hp
     · exact ⟨k5, by simp only; omega⟩)
end Go.Proofs.YtnbicdeehppgpaaGreatDoor
