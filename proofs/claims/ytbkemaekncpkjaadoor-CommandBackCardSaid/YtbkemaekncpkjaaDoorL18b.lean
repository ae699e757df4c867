/- Helper lemmas towards this seat's statements: a contract, proved for every input within its own premise, of functions of the program. -/
import Derived.Test.YtbkemaekncpkjaaDoorL18
import Derived.Test.YtbkemaekncpkjaaDoorPlDots
namespace Go.Proofs.YtbkemaekncpkjaaDoor
open Go Go.Vx
set_option maxRecDepth 100000
set_option linter.unusedSimpArgs false
set_option linter.unusedVariables false
abbrev Cmd := Int × List UInt8 × Int × Bool
def digitL : List UInt8 := [48, 49, 50, 51, 52, 53, 54, 55, 56, 57]
def kSIZE : List UInt8 := [83, 73, 90, 69]
def kBODY : List UInt8 := [66, 79, 68, 89]
def k7BIT : List UInt8 := [55, 66, 73, 84]
def k8BIT : List UInt8 := [56, 66, 73, 84, 77, 73, 77, 69]
def oBody (rest : List UInt8) : List UInt8 := if preF rest [32] = true then rest.drop 1 else rest
def oWord (rest : List UInt8) : List UInt8 := (cutAt (oBody rest) 32).1
def oBehind (rest : List UInt8) : List UInt8 := (cutAt (oBody rest) 32).2.1
def oMore (rest : List UInt8) : Bool := (cutAt (oBody rest) 32).2.2.1
def oName (rest : List UInt8) : List UInt8 := (cutAt ((oWord rest).map upB) 61).1
def oValue (rest : List UInt8) : List UInt8 := (cutAt ((oWord rest).map upB) 61).2.1
def oIs (rest : List UInt8) : Bool := (cutAt ((oWord rest).map upB) 61).2.2.1
def oNext (rest : List UInt8) : List UInt8 := if oMore rest = true then 32 :: oBehind rest else oBehind rest
def seenF (m : List (MK × Bool)) (k : List UInt8) : Bool := (mlook m (.s k)).getD false
def sizeOk (v : List UInt8) : Bool := !(v == []) && decide (v.length ≤ 9) && (trimL (isIn digitL) (trimR (isIn digitL) v) == [])
/-- An option's effect on a command; none: it is no option. -/
def optOne (c : Cmd) (name value : List UInt8) : Option Cmd :=
  if name = kSIZE ∧ sizeOk value = true then some (c.1, c.2.1, atoiF value, c.2.2.2) else
    if name = kBODY ∧ (value = k7BIT ∨ value = k8BIT) then some (c.1, c.2.1, c.2.2.1, value == k8BIT) else none
def optF : Nat → Cmd → List (MK × Bool) → List UInt8 → Bool × Cmd
  | 0, c, _, rest => (rest == [], c)
  | n + 1, c, m, rest => if rest = [] then (true, c) else
      if preF rest [32] = false ∨ oIs rest = false ∨ seenF m (oName rest) = true then (false, c) else
        match optOne c (oName rest) (oValue rest) with
        | some c' => optF n c' (mset m (.s (oName rest)) true) (oNext rest)
        | none => (false, c)
theorem optF_some {n : Nat} {c c' : Cmd} {m : List (MK × Bool)} {r : List UInt8} (h0 : ¬ r = []) (h1 : preF r [32] = true) (h2 : oIs r = true) (h3 : seenF m (oName r) = false) (h4 : optOne c (oName r) (oValue r) = some c') :
    optF (n + 1) c m r = optF n c' (mset m (.s (oName r)) true) (oNext r) := by
  rw [optF, if_neg h0, if_neg (by rw [h1, h2, h3]; simp), h4]
theorem optF_no {n : Nat} {c : Cmd} {m : List (MK × Bool)} {r : List UInt8} (h0 : ¬ r = []) (h : preF r [32] = false ∨ oIs r = false ∨ seenF m (oName r) = true ∨ optOne c (oName r) (oValue r) = none) :
    optF (n + 1) c m r = (false, c) := by
  rw [optF, if_neg h0]
  by_cases h5 : preF r [32] = false ∨ oIs r = false ∨ seenF m (oName r) = true
  · rw [if_pos h5]
  · rw [if_neg h5]
    have h6 : optOne c (oName r) (oValue r) = none := by
      rcases h with h | h | h | h
      · exact absurd (.inl h) h5
      · exact absurd (.inr (.inl h)) h5
      · exact absurd (.inr (.inr h)) h5
      · exact h
    rw [h6]
theorem optOne_size {c : Cmd} {name value : List UInt8} (h1 : name = [83, 73, 90, 69]) (h2 : ¬ value = []) (h3 : (value.length : Int) ≤ 9) (h4 : trimL (isIn [48, 49, 50, 51, 52, 53, 54, 55, 56, 57]) (trimR (isIn [48, 49, 50, 51, 52, 53, 54, 55, 56, 57]) value) = []) : optOne c name value = some (c.1, c.2.1, atoiF value, c.2.2.2) := by
  rw [optOne, if_pos]
  refine ⟨h1, ?_⟩
  simp only [sizeOk, digitL, h4, beq_self_eq_true, Bool.and_true, Bool.and_eq_true, decide_eq_true_eq, Bool.not_eq_true', beq_eq_false_iff_ne]
  exact ⟨h2, by omega⟩
theorem optOne_body {c : Cmd} {name value : List UInt8} (h1 : name = [66, 79, 68, 89]) (h2 : value = [55, 66, 73, 84] ∨ value = [56, 66, 73, 84, 77, 73, 77, 69]) : optOne c name value = some (c.1, c.2.1, c.2.2.1, value == k8BIT) := by
  rw [optOne, if_neg (by rintro ⟨h, _⟩; rw [h1] at h; exact absurd h (by decide)), if_pos ⟨h1, h2⟩]
theorem optOne_none {c : Cmd} {name value : List UInt8} (h1 : ¬ name = [83, 73, 90, 69] ∨ value = [] ∨ 9 < (value.length : Int) ∨ ¬ trimL (isIn [48, 49, 50, 51, 52, 53, 54, 55, 56, 57]) (trimR (isIn [48, 49, 50, 51, 52, 53, 54, 55, 56, 57]) value) = [])
    (h2 : ¬ name = [66, 79, 68, 89] ∨ (¬ value = [55, 66, 73, 84] ∧ ¬ value = [56, 66, 73, 84, 77, 73, 77, 69])) : optOne c name value = none := by
  have e1 : ¬ (name = kSIZE ∧ sizeOk value = true) := by
    rintro ⟨g1, g2⟩
    simp only [sizeOk, digitL, Bool.and_eq_true, decide_eq_true_eq, Bool.not_eq_true', beq_eq_false_iff_ne, beq_iff_eq] at g2
    rcases h1 with h | h | h | h
    · exact h g1
    · exact g2.1.1 h
    · omega
    · exact h g2.2
  have e2 : ¬ (name = kBODY ∧ (value = k7BIT ∨ value = k8BIT)) := by
    rintro ⟨g1, g2⟩
    rcases h2 with h | ⟨h, h'⟩
    · exact h g1
    · exact g2.elim h h'
  rw [optOne, if_neg e1, if_neg e2]
theorem oBody_len (r : List UInt8) : (oBody r).length ≤ r.length := by unfold oBody; split <;> simp
theorem oNext_len (rest : List UInt8) (h : preF rest [32] = true) : (oNext rest).length < rest.length := by
  obtain ⟨r, rfl⟩ := (preF_iff _ _).1 h
  have hb : oBody ([32] ++ r) = r := by rw [oBody, if_pos h]; rfl
  have hc := cutAt_len r 32
  have hm : (cutAt r 32).2.2.1 = true → (cutAt r 32).2.1.length + 1 ≤ r.length := by
    unfold cutAt
    split
    · intro h; cases h
    · intro _
      rename_i hi
      have := indexByte_lt r 32
      simp only [List.length_drop]
      omega
  unfold oNext oBehind oMore
  rw [hb]
  simp only [List.length_append, List.length_cons, List.length_nil]
  split
  · rename_i h1
    have := hm h1
    simp only [List.length_cons]
    omega
  · omega
def optionsE : EF := { doms := [.bx tCmd 23, .pl .str], cods := [.bool], pre := fun x => (x.2.1 : List UInt8).length ≤ 1073741824, fn := fun x => (((optF ((x.2.1 : List UInt8).length + 1) x.1 [] x.2.1).1, ()), ((optF ((x.2.1 : List UInt8).length + 1) x.1 [] x.2.1).2, ())) }
set_option maxHeartbeats 4000000 in
theorem options_ok : EFOk Tryd.prog 19 optionsE := by
  refine ef_by (tbl := [(36, cutPresT), (12, strCutT), (15, upT), (16, strTrimT), (23, atoiT)]) fol (tblCons cutPres_ok Tryd.func36 (by kernel_rfl) (tblCons strCut_ok Tryd.func12 (by kernel_rfl) (tblCons up_ok Tryd.func15 (by kernel_rfl) (tblCons strTrim_ok Tryd.func16 (by kernel_rfl) (tblCons atoi_ok Tryd.func23 (by kernel_rfl) tblNil))))) Tryd.func19 rfl ?_
  rintro ⟨⟨(verb : Int), (arg : List UInt8), (size : Int), (eight : Bool)⟩, (rest : List UInt8), _⟩ hpre
  have hlen : rest.length ≤ 1073741824 := hpre
  simp -implicitDefEqProofs only [optionsE, cutPresT, strCutT, upT, strTrimT, atoiT, Tryd.f19, ti3, ti4, ti9, ti22, ti23, ti72, eqk23, tyo3, tyo4, tyo9, tyo22, tyo23, arr3, arr4, arr9, arr22, arr23, arr72, mpo72, x_den0, x_den1, x_den2, x_den3, x_den4, x_den5, x_den6, x_skip, x_label, x_ret, x_exit, x_seq, x_block, x_cond, x_cnd1, x_cnd2, x_cnd3, x_region, x_draw, x_sq0, x_sq1, x_sq2, x_sqD, x_sqG1, x_sqG2, x_sqG3, x_sqG4, x_sqG5, x_sqG6, x_sqB1, x_sqB2, x_sqE, x_fold, x_put1, x_put0, x_ef1, x_ef2, x_ef3, x_ef4, x_ef5, x_ef6, x_ef7, evM, mkMapq, mkMap1, keyD, lookq, lookq1, lookq2, lookV, sameD, keySV, zeroDV, mapx, mapx1, mapx2, l_mp, SV.mp.injEq, Blk.mp.injEq, callEx, callEt, callEo, callEf, callE, eArgs, eCons, eConsB, boxDt, setBx, EF.tf, bxs, eStart, eSlots, eH, goneN, boxE, boxesE, RetE, x_fie1, x_fie2, List.contains_nil, storex, castL_self, appendx, appendT, appendS, appendO, appendN, appendF, appendX, appendY, appendZ, srcq, elemSV, bytesD, nexts, nextx, forget, forgetL, forgetB, forgetH, spl, isCell, List.all_cons, List.all_nil, Option.some.injEq, makeq, makeE, makeT, zeroD, bytesTI, buildSq, buildE, buildB, partsD, tiSz, buildT, fillS, okFlat, rangeq, bytesQ, textQ, adopt, adoptOk, List.replicate_zero, Nat.not_lt_zero, x_dr0, x_dr1, x_dr2, x_drD, x_drG1, x_drG2, x_drG3, x_drG4, x_drG5, x_drG6, x_drB1, x_fin1, x_fin2, x_fio1, x_fio2, x_own1, x_own2, RetOwn, ownVC, x_lk1, x_lk2, x_lk3, x_wr1, x_nv2, x_nv3, l_refl, l_any, l_int, l_bool, l_kb, l_kk, l_str, l_sl, l_nils, l_pp, l_ptr, l_osl, l_slf, l_ag, l_sls, l_agg, wrote, List.filterMap_cons_some, List.filterMap_cons_none, List.filterMap_cons, List.filterMap_nil, havoc, setSs, setBs, atHead, Vx.Sub, leS, leH, leB, below, below.belowL, belowB, belowH, SV.int.injEq, SV.bool.injEq, SV.kb.injEq, SV.str.injEq, SV.sl.injEq, SV.ptr.injEq, SV.pp.injEq, SV.agg.injEq, SV.osl.injEq, Blk.own.injEq, Blk.iter.injEq, heq_eq_eq, eq_self, List.cons.injEq, evq, evS, Vx.get, setO, setS, dstAt, startS, undefs, ofArgs, ofDV, ofD, one, Ty.isAgg, Ty.size, boxq, flat, allocq, allocA, fieldAddrq, fieldq, tkOf, sizeP, loadq, getB, setB, binq, intBin, strBin, boolBin, pickq, Vx.asB, ofConst, ofCell, nilq, unq, convq, sliceq, slice3q, strCut, slCut, makeFuncq, indexAddrq, indexq, extractq, ifaceq, builtinq, callfq, callq, tlook, toArgs, toDV, toD, oneOf, Vx.both, toInt_self, toSl_self, toSl_slf, toSl_nils, toSl_osl, toSlB_self, arrD_self, toRef_self, toRef_ptr, boxD, no1_self, no2_self, clo1_fn, clo1_f1, clo2_fn, clo2_f2, cloA1_fn, cloA1_f1, cloA2_fn, cloA2_f2, cloT1_self, cloT2_self, mk1, mk2, callT, callO, ownQ, lent, scalL, Ty.scal, toAg_self, glS, glTyp, TF.ob, Bool.and_true, Bool.and_false, Bool.true_and, Bool.false_and, List.take_length, Option.isSome_some, List.getD_cons_zero, Vx.toBool, Vx.toNil, Vx.toStr, Vx.toInt, eqCells, subP, TK.isAgg, quietPre, opQuiet, opQuiet.onEmpty, opQuiet.noEff, opQuiet.noEf, litSlot, Option.toList, List.contains_cons, List.contains_nil, Nat.reduceBEq, Bool.or_false, Bool.false_or, evA, appArgs, appendq, appendQ1, appendQ2, appendQ3, trimN, RetVC, resL, ofRes, List.toList_toArray, Bool.not_true, Bool.not_false, Option.map_some, Option.map_none, Option.bind_some, Option.getD_some, Option.getD_none, List.getElem?_cons_zero, List.getElem?_cons_succ, List.cons_append, List.nil_append, List.append_nil, List.length_cons, List.length_nil, List.drop_succ_cons, List.drop_zero, List.take_succ_cons, List.take_zero, List.map_cons, List.map_nil, List.drop_nil, List.take_nil, ite_true, ite_false, reduceCtorEq, true_and, and_true, false_and, and_false, and_self, if_true, if_false, Bool.false_eq_true, reduceIte, Nat.reduceAdd, Nat.reduceLT, Nat.reduceLeDiff, Nat.reduceSub, Nat.reduceMul, Nat.reduceEqDiff, Nat.zero_lt_one, Nat.lt_add_one, Nat.zero_add, Nat.le_refl, decide_true]
  refine x_loop (γ := Nat × Cmd × List (MK × Bool) × List UInt8) (fun g => [(1, .str g.2.2.2)]) (fun g => [(0, .cells [.int .i64 g.2.1.1, .str g.2.1.2.1, .int .i64 g.2.1.2.2.1, .bool g.2.1.2.2.2] 23), (1, .mp .string .bool g.2.2.1)])
    (fun g => g.2.2.2.length < g.1 ∧ g.2.2.2.length ≤ 1073741824 ∧ optF g.1 g.2.1 g.2.2.1 g.2.2.2 = optF (rest.length + 1) (verb, arg, size, eight) [] rest) (fun g => g.2.2.2.length) (rest.length + 1, (verb, arg, size, eight), [], rest) ⟨⟨Nat.lt_succ_self _, hlen, rfl⟩, ?_⟩ ?_
  · simp -implicitDefEqProofs only [Tryd.f19, ti3, ti4, ti9, ti22, ti23, ti72, eqk23, tyo3, tyo4, tyo9, tyo22, tyo23, arr3, arr4, arr9, arr22, arr23, arr72, mpo72, x_den0, x_den1, x_den2, x_den3, x_den4, x_den5, x_den6, x_skip, x_label, x_ret, x_exit, x_seq, x_block, x_cond, x_cnd1, x_cnd2, x_cnd3, x_region, x_draw, x_sq0, x_sq1, x_sq2, x_sqD, x_sqG1, x_sqG2, x_sqG3, x_sqG4, x_sqG5, x_sqG6, x_sqB1, x_sqB2, x_sqE, x_fold, x_put1, x_put0, x_ef1, x_ef2, x_ef3, x_ef4, x_ef5, x_ef6, x_ef7, evM, mkMapq, mkMap1, keyD, lookq, lookq1, lookq2, lookV, sameD, keySV, zeroDV, mapx, mapx1, mapx2, l_mp, SV.mp.injEq, Blk.mp.injEq, callEx, callEt, callEo, callEf, callE, eArgs, eCons, eConsB, boxDt, setBx, EF.tf, bxs, eStart, eSlots, eH, goneN, boxE, boxesE, RetE, x_fie1, x_fie2, List.contains_nil, storex, castL_self, appendx, appendT, appendS, appendO, appendN, appendF, appendX, appendY, appendZ, srcq, elemSV, bytesD, nexts, nextx, forget, forgetL, forgetB, forgetH, spl, isCell, List.all_cons, List.all_nil, Option.some.injEq, makeq, makeE, makeT, zeroD, bytesTI, buildSq, buildE, buildB, partsD, tiSz, buildT, fillS, okFlat, rangeq, bytesQ, textQ, adopt, adoptOk, List.replicate_zero, Nat.not_lt_zero, x_dr0, x_dr1, x_dr2, x_drD, x_drG1, x_drG2, x_drG3, x_drG4, x_drG5, x_drG6, x_drB1, x_fin1, x_fin2, x_fio1, x_fio2, x_own1, x_own2, RetOwn, ownVC, x_lk1, x_lk2, x_lk3, x_wr1, x_nv2, x_nv3, l_refl, l_any, l_int, l_bool, l_kb, l_kk, l_str, l_sl, l_nils, l_pp, l_ptr, l_osl, l_slf, l_ag, l_sls, l_agg, wrote, List.filterMap_cons_some, List.filterMap_cons_none, List.filterMap_cons, List.filterMap_nil, havoc, setSs, setBs, atHead, Vx.Sub, leS, leH, leB, below, below.belowL, belowB, belowH, SV.int.injEq, SV.bool.injEq, SV.kb.injEq, SV.str.injEq, SV.sl.injEq, SV.ptr.injEq, SV.pp.injEq, SV.agg.injEq, SV.osl.injEq, Blk.own.injEq, Blk.iter.injEq, heq_eq_eq, eq_self, List.cons.injEq, evq, evS, Vx.get, setO, setS, dstAt, startS, undefs, ofArgs, ofDV, ofD, one, Ty.isAgg, Ty.size, boxq, flat, allocq, allocA, fieldAddrq, fieldq, tkOf, sizeP, loadq, getB, setB, binq, intBin, strBin, boolBin, pickq, Vx.asB, ofConst, ofCell, nilq, unq, convq, sliceq, slice3q, strCut, slCut, makeFuncq, indexAddrq, indexq, extractq, ifaceq, builtinq, callfq, callq, tlook, toArgs, toDV, toD, oneOf, Vx.both, toInt_self, toSl_self, toSl_slf, toSl_nils, toSl_osl, toSlB_self, arrD_self, toRef_self, toRef_ptr, boxD, no1_self, no2_self, clo1_fn, clo1_f1, clo2_fn, clo2_f2, cloA1_fn, cloA1_f1, cloA2_fn, cloA2_f2, cloT1_self, cloT2_self, mk1, mk2, callT, callO, ownQ, lent, scalL, Ty.scal, toAg_self, glS, glTyp, TF.ob, Bool.and_true, Bool.and_false, Bool.true_and, Bool.false_and, List.take_length, Option.isSome_some, List.getD_cons_zero, Vx.toBool, Vx.toNil, Vx.toStr, Vx.toInt, eqCells, subP, TK.isAgg, quietPre, opQuiet, opQuiet.onEmpty, opQuiet.noEff, opQuiet.noEf, litSlot, Option.toList, List.contains_cons, List.contains_nil, Nat.reduceBEq, Bool.or_false, Bool.false_or, evA, appArgs, appendq, appendQ1, appendQ2, appendQ3, trimN, RetVC, resL, ofRes, List.toList_toArray, Bool.not_true, Bool.not_false, Option.map_some, Option.map_none, Option.bind_some, Option.getD_some, Option.getD_none, List.getElem?_cons_zero, List.getElem?_cons_succ, List.cons_append, List.nil_append, List.append_nil, List.length_cons, List.length_nil, List.drop_succ_cons, List.drop_zero, List.take_succ_cons, List.take_zero, List.map_cons, List.map_nil, List.drop_nil, List.take_nil, ite_true, ite_false, reduceCtorEq, true_and, and_true, false_and, and_false, and_self, if_true, if_false, Bool.false_eq_true, reduceIte, Nat.reduceAdd, Nat.reduceLT, Nat.reduceLeDiff, Nat.reduceSub, Nat.reduceMul, Nat.reduceEqDiff, Nat.zero_lt_one, Nat.lt_add_one, Nat.zero_add, Nat.le_refl, decide_true]
    all_goals trivial
  rintro ⟨n, ⟨v, ar, sz, eg⟩, m, r⟩ ⟨hg1, hg2, hg3⟩
  simp only at hg1 hg2 hg3
  simp (maxSteps := 5000000) -implicitDefEqProofs only [cutPresT, strCutT, upT, strTrimT, atoiT, Tryd.f19, ti3, ti4, ti9, ti22, ti23, ti72, eqk23, tyo3, tyo4, tyo9, tyo22, tyo23, arr3, arr4, arr9, arr22, arr23, arr72, mpo72, x_den0, x_den1, x_den2, x_den3, x_den4, x_den5, x_den6, x_skip, x_label, x_ret, x_exit, x_seq, x_block, x_cond, x_cnd1, x_cnd2, x_cnd3, x_region, x_draw, x_sq0, x_sq1, x_sq2, x_sqD, x_sqG1, x_sqG2, x_sqG3, x_sqG4, x_sqG5, x_sqG6, x_sqB1, x_sqB2, x_sqE, x_fold, x_put1, x_put0, x_ef1, x_ef2, x_ef3, x_ef4, x_ef5, x_ef6, x_ef7, evM, mkMapq, mkMap1, keyD, lookq, lookq1, lookq2, lookV, sameD, keySV, zeroDV, mapx, mapx1, mapx2, l_mp, SV.mp.injEq, Blk.mp.injEq, callEx, callEt, callEo, callEf, callE, eArgs, eCons, eConsB, boxDt, setBx, EF.tf, bxs, eStart, eSlots, eH, goneN, boxE, boxesE, RetE, x_fie1, x_fie2, List.contains_nil, storex, castL_self, appendx, appendT, appendS, appendO, appendN, appendF, appendX, appendY, appendZ, srcq, elemSV, bytesD, nexts, nextx, forget, forgetL, forgetB, forgetH, spl, isCell, List.all_cons, List.all_nil, Option.some.injEq, makeq, makeE, makeT, zeroD, bytesTI, buildSq, buildE, buildB, partsD, tiSz, buildT, fillS, okFlat, rangeq, bytesQ, textQ, adopt, adoptOk, List.replicate_zero, Nat.not_lt_zero, x_dr0, x_dr1, x_dr2, x_drD, x_drG1, x_drG2, x_drG3, x_drG4, x_drG5, x_drG6, x_drB1, x_fin1, x_fin2, x_fio1, x_fio2, x_own1, x_own2, RetOwn, ownVC, x_lk1, x_lk2, x_lk3, x_wr1, x_nv2, x_nv3, l_refl, l_any, l_int, l_bool, l_kb, l_kk, l_str, l_sl, l_nils, l_pp, l_ptr, l_osl, l_slf, l_ag, l_sls, l_agg, wrote, List.filterMap_cons_some, List.filterMap_cons_none, List.filterMap_cons, List.filterMap_nil, havoc, setSs, setBs, atHead, Vx.Sub, leS, leH, leB, below, below.belowL, belowB, belowH, SV.int.injEq, SV.bool.injEq, SV.kb.injEq, SV.str.injEq, SV.sl.injEq, SV.ptr.injEq, SV.pp.injEq, SV.agg.injEq, SV.osl.injEq, Blk.own.injEq, Blk.iter.injEq, heq_eq_eq, eq_self, List.cons.injEq, evq, evS, Vx.get, setO, setS, dstAt, startS, undefs, ofArgs, ofDV, ofD, one, Ty.isAgg, Ty.size, boxq, flat, allocq, allocA, fieldAddrq, fieldq, tkOf, sizeP, loadq, getB, setB, binq, intBin, strBin, boolBin, pickq, Vx.asB, ofConst, ofCell, nilq, unq, convq, sliceq, slice3q, strCut, slCut, makeFuncq, indexAddrq, indexq, extractq, ifaceq, builtinq, callfq, callq, tlook, toArgs, toDV, toD, oneOf, Vx.both, toInt_self, toSl_self, toSl_slf, toSl_nils, toSl_osl, toSlB_self, arrD_self, toRef_self, toRef_ptr, boxD, no1_self, no2_self, clo1_fn, clo1_f1, clo2_fn, clo2_f2, cloA1_fn, cloA1_f1, cloA2_fn, cloA2_f2, cloT1_self, cloT2_self, mk1, mk2, callT, callO, ownQ, lent, scalL, Ty.scal, toAg_self, glS, glTyp, TF.ob, Bool.and_true, Bool.and_false, Bool.true_and, Bool.false_and, List.take_length, Option.isSome_some, List.getD_cons_zero, Vx.toBool, Vx.toNil, Vx.toStr, Vx.toInt, eqCells, subP, TK.isAgg, quietPre, opQuiet, opQuiet.onEmpty, opQuiet.noEff, opQuiet.noEf, litSlot, Option.toList, List.contains_cons, List.contains_nil, Nat.reduceBEq, Bool.or_false, Bool.false_or, evA, appArgs, appendq, appendQ1, appendQ2, appendQ3, trimN, RetVC, resL, ofRes, List.toList_toArray, Bool.not_true, Bool.not_false, Option.map_some, Option.map_none, Option.bind_some, Option.getD_some, Option.getD_none, List.getElem?_cons_zero, List.getElem?_cons_succ, List.cons_append, List.nil_append, List.append_nil, List.length_cons, List.length_nil, List.drop_succ_cons, List.drop_zero, List.take_succ_cons, List.take_zero, List.map_cons, List.map_nil, List.drop_nil, List.take_nil, ite_true, ite_false, reduceCtorEq, true_and, and_true, false_and, and_false, and_self, if_true, if_false, Bool.false_eq_true, reduceIte, Nat.reduceAdd, Nat.reduceLT, Nat.reduceLeDiff, Nat.reduceSub, Nat.reduceMul, Nat.reduceEqDiff, Nat.zero_lt_one, Nat.lt_add_one, Nat.zero_add, Nat.le_refl, decide_true]
  repeat' (first | (with_reducible refine drawOk_by ?_; kernel_rfl) | (with_reducible refine And.intro ?_ ?_) | (with_reducible intro _)); all_goals (try simp only [decide_eq_true_eq, decide_eq_false_iff_not, Int.not_lt, Int.not_le, beq_iff_eq, bne_iff_ne, beq_eq_false_iff_ne, bne_eq_false_iff_eq, ne_eq, Decidable.not_not] at *)
  all_goals (try simp only [show (if preF r [32] = true then List.drop 1 r else r) = oBody r from rfl] at *)
  all_goals (try simp only [show (cutAt (oBody r) 32).1 = oWord r from rfl, show (cutAt (oBody r) 32).2.1 = oBehind r from rfl, show (cutAt (oBody r) 32).2.2.1 = oMore r from rfl] at *)
  all_goals (try simp only [show (cutAt (List.map upB (oWord r)) 61).1 = oName r from rfl, show (cutAt (List.map upB (oWord r)) 61).2.1 = oValue r from rfl, show (cutAt (List.map upB (oWord r)) 61).2.2.1 = oIs r from rfl] at *)
  all_goals (try simp only [show ∀ k, (mlook m (MK.s k)).getD false = seenF m k from fun _ => rfl, Bool.not_eq_true', Bool.not_eq_false'] at *)
  all_goals (have l1 := oBody_len r)
  all_goals (have l2 : (oWord r).length ≤ (oBody r).length ∧ (oBehind r).length ≤ (oBody r).length := cutAt_len (oBody r) 32)
  all_goals (have l3 : (oName r).length ≤ (oWord r).length ∧ (oValue r).length ≤ (oWord r).length := by have := cutAt_len (List.map upB (oWord r)) 61; rw [List.length_map] at this; exact this)
  all_goals (rcases n with _ | n)
  all_goals first
    | (exfalso; omega)
    | omega
    | (rw [List.length_map]; omega)
    | exact (show ∀ b ∈ ([48, 49, 50, 51, 52, 53, 54, 55, 56, 57] : List UInt8), b.toNat < 128 by decide) _ ‹_›
    | (rw [← hg3, ‹r = []›, optF, if_pos rfl])
    | (have h4 := optOne_size (c := (v, ar, sz, eg)) ‹oName r = [83, 73, 90, 69]› ‹¬ oValue r = []› ‹((oValue r).length : Int) ≤ 9› ‹trimL _ _ = []›
       have hs := optF_some (n := n) ‹¬ r = []› ‹preF r [32] = true› ‹oIs r = true› ‹seenF m (oName r) = false› h4
       have hl := oNext_len r ‹preF r [32] = true›
       rw [hg3] at hs
       refine ⟨(n, (v, ar, atoiF (oValue r), eg), mset m (.s (oName r)) true, oNext r), ⟨by simp only; omega, by simp only; omega, hs.symm⟩, hl, ?_, ⟨rfl, rfl, rfl, rfl⟩, rfl⟩
       first
         | (rw [oNext, if_pos ‹oMore r = true›]; done)
         | (rw [oNext, if_neg (by rw [‹oMore r = false›]; simp)]; done))
    | (have h4 := optOne_body (c := (v, ar, sz, eg)) ‹oName r = [66, 79, 68, 89]› (by first | exact .inl ‹_› | exact .inr ‹_›)
       have hs := optF_some (n := n) ‹¬ r = []› ‹preF r [32] = true› ‹oIs r = true› ‹seenF m (oName r) = false› h4
       have hl := oNext_len r ‹preF r [32] = true›
       rw [hg3] at hs
       refine ⟨(n, (v, ar, sz, oValue r == k8BIT), mset m (.s (oName r)) true, oNext r), ⟨by simp only; omega, by simp only; omega, hs.symm⟩, hl, ?_, ⟨rfl, rfl, rfl, rfl⟩, rfl⟩
       first
         | (rw [oNext, if_pos ‹oMore r = true›]; done)
         | (rw [oNext, if_neg (by rw [‹oMore r = false›]; simp)]; done))
    | (rw [← hg3, optF_no ‹¬ r = []› (by first | exact .inl ‹_› | exact .inr (.inl ‹_›) | exact .inr (.inr (.inl ‹_›)) | exact .inr (.inr (.inr (optOne_none (by first | exact .inl ‹¬ oName r = [83, 73, 90, 69]› | exact .inl (by rw [‹oName r = [66, 79, 68, 89]›]; decide) | exact .inr (.inl ‹oValue r = []›) | exact .inr (.inr (.inl ‹9 < ((oValue r).length : Int)›)) | exact .inr (.inr (.inr ‹¬ trimL _ _ = []›))) (by first | exact .inl ‹¬ oName r = [66, 79, 68, 89]› | exact .inl (by rw [‹oName r = [83, 73, 90, 69]›]; decide) | exact .inr ⟨‹¬ oValue r = [55, 66, 73, 84]›, ‹¬ oValue r = [56, 66, 73, 84, 77, 73, 77, 69]›⟩)))))])
    | trace_state
end Go.Proofs.YtbkemaekncpkjaaDoor
