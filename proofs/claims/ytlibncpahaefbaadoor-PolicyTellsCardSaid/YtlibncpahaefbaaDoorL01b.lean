/- Helper lemmas towards this seat's statements: a contract, proved for every input within its own premise, of functions of the program. -/
import Derived.Test.YtlibncpahaefbaaDoorL19b
import Derived.Test.YtlibncpahaefbaaDoorCat
import Derived.Test.YtlibncpahaefbaaDoorBits
namespace Go.Proofs.YtlibncpahaefbaaDoor
open Go Go.Vx
set_option maxRecDepth 100000
set_option linter.unusedSimpArgs false
set_option linter.unusedVariables false
def latLetters : List UInt8 := [65, 66, 67, 68, 69, 70, 71, 72, 73, 74, 75, 76, 77, 78, 79, 80, 81, 82, 83, 84, 85, 86, 87, 88, 89, 90, 48, 49, 50, 51, 52, 53, 54, 55, 56, 57, 45]
theorem latLetters_ascii : ∀ b ∈ latLetters, b.toNat < 128 := by decide
def latName (s : List UInt8) : Bool := !(s == []) && decide (s.length ≤ 16) && (trimL (isIn latLetters) (trimR (isIn latLetters) s) == [])
theorem latName_iff (s : List UInt8) : latName s = true ↔ s ≠ [] ∧ s.length ≤ 16 ∧ trimL (isIn latLetters) (trimR (isIn latLetters) s) = [] := by
  simp [latName, and_assoc]
theorem latName_not {s : List UInt8} (h : ¬ (s ≠ [] ∧ s.length ≤ 16 ∧ trimL (isIn latLetters) (trimR (isIn latLetters) s) = [])) : latName s = false := by
  rw [← Bool.not_eq_true, latName_iff]; exact h
/-- Each is good, and none was there already. -/
def allNew {α : Type} (r : α → α → Bool) (p : α → Bool) : List α → List α → Bool
  | _, [] => true
  | seen, x :: l => p x && !(seen.any fun y => r x y) && allNew r p (seen ++ [x]) l
theorem allNew_at {α : Type} (r : α → α → Bool) (p : α → Bool) (xs : List α) (g : Nat) (d : α) (h : g < xs.length) :
    allNew r p (xs.take g) (xs.drop g) = (p (xs.getD g d) && !((xs.take g).any fun y => r (xs.getD g d) y) && allNew r p (xs.take (g + 1)) (xs.drop (g + 1))) := by
  rw [drop_at (d := d) h, allNew, List.take_add_one, List.getD_eq_getElem?_getD, List.getElem?_eq_getElem h]
  simp
theorem allNew_end {α : Type} (r : α → α → Bool) (p : α → Bool) (xs : List α) (g : Nat) (h : xs.length ≤ g) : allNew r p (xs.take g) (xs.drop g) = true := by
  rw [List.drop_eq_nil_of_le h, allNew]
def eqR {α : Type} [BEq α] (x y : α) : Bool := x == y
abbrev Lattice := List (List UInt8) × List (List UInt8)
def latRightF (l : Lattice) : Bool := decide (1 ≤ l.1.length) && decide (l.1.length ≤ 16) && decide (l.2.length ≤ 64) && allNew eqR latName [] (l.1 ++ l.2)
def shortLat (l : Lattice) : Prop := (∀ s ∈ l.1, s.length ≤ 9223372036854775807) ∧ (∀ s ∈ l.2, s.length ≤ 9223372036854775807)
def latRightT : TF := { doms := [tLat], cods := [.bool], pre := fun x => shortLat x.1, fn := fun x => (latRightF x.1, ()) }
theorem latRight_ok : TFOk Tryd.prog 46 latRightT := by
  refine tf_by (tbl := [(59, concatST), (49, strTrimT), (60, containsST)]) fol (tblCons concatS_ok Tryd.func59 (by kernel_rfl) (tblCons strTrim_ok Tryd.func49 (by kernel_rfl) (tblCons containsS_ok Tryd.func60 (by kernel_rfl) tblNil))) Tryd.func46 rfl rfl rfl ?_
  rintro ⟨⟨(ls : List (List UInt8)), (cs : List (List UInt8))⟩, _⟩ hpre
  have h1 : ∀ s ∈ ls, s.length ≤ 9223372036854775807 := hpre.1
  have h2 : ∀ s ∈ cs, s.length ≤ 9223372036854775807 := hpre.2
  simp -implicitDefEqProofs only [latRightT, concatST, strTrimT, containsST, Tryd.f46, ti3, ti9, ti22, ti23, ti24, ti100, tyo3, tyo9, tyo22, tyo23, tyo24, tyo100, arr3, arr9, arr22, arr23, arr24, arr100, x_den0, x_den1, x_den2, x_den3, x_den4, x_den5, x_den6, x_skip, x_label, x_ret, x_exit, x_seq, x_block, x_cond, x_cnd1, x_cnd2, x_cnd3, x_region, x_draw, x_sq0, x_sq1, x_sq2, x_sqD, x_sqG1, x_sqG2, x_sqG3, x_sqG4, x_sqG5, x_sqG6, x_sqB1, x_sqB2, x_sqE, x_fold, x_put1, x_put0, x_ef1, x_ef2, x_ef3, x_ef4, storex, castL_self, appendx, appendT, appendS, appendO, appendN, appendF, appendX, appendY, appendZ, srcq, elemSV, bytesD, nexts, nextx, forget, forgetL, forgetB, forgetH, spl, isCell, List.all_cons, List.all_nil, Option.some.injEq, makeq, makeE, makeT, zeroD, bytesTI, buildSq, buildE, buildB, partsD, tiSz, buildT, fillS, okFlat, rangeq, bytesQ, textQ, adopt, adoptOk, List.replicate_zero, Nat.not_lt_zero, x_dr0, x_dr1, x_dr2, x_drD, x_drG1, x_drG2, x_drG3, x_drG4, x_drG5, x_drG6, x_drB1, x_fin1, x_fin2, x_fio1, x_fio2, x_own1, x_own2, RetOwn, ownVC, x_lk1, x_lk2, x_lk3, x_wr1, x_nv2, x_nv3, l_refl, l_any, l_int, l_bool, l_kb, l_kk, l_str, l_sl, l_nils, l_pp, l_ptr, l_osl, l_slf, l_ag, l_sls, l_agg, wrote, List.filterMap_cons_some, List.filterMap_cons_none, List.filterMap_cons, List.filterMap_nil, havoc, setSs, setBs, atHead, Vx.Sub, leS, leH, leB, below, below.belowL, belowB, belowH, SV.int.injEq, SV.bool.injEq, SV.kb.injEq, SV.str.injEq, SV.sl.injEq, SV.ptr.injEq, SV.pp.injEq, SV.agg.injEq, SV.osl.injEq, Blk.own.injEq, Blk.iter.injEq, heq_eq_eq, eq_self, List.cons.injEq, evq, evS, Vx.get, setO, setS, dstAt, startS, undefs, ofArgs, ofDV, ofD, one, Ty.isAgg, Ty.size, boxq, flat, allocq, allocA, fieldAddrq, fieldq, tkOf, sizeP, loadq, getB, setB, binq, intBin, strBin, boolBin, pickq, Vx.asB, ofConst, ofCell, nilq, unq, convq, sliceq, slice3q, strCut, slCut, makeFuncq, indexAddrq, indexq, extractq, ifaceq, builtinq, callfq, callq, tlook, toArgs, toDV, toD, oneOf, Vx.both, toInt_self, toSl_self, toSl_slf, toSl_nils, toSl_osl, toSlB_self, arrD_self, toRef_self, toRef_ptr, boxD, no1_self, no2_self, clo1_fn, clo1_f1, clo2_fn, clo2_f2, cloA1_fn, cloA1_f1, cloA2_fn, cloA2_f2, cloT1_self, cloT2_self, mk1, mk2, callT, callO, ownQ, lent, scalL, Ty.scal, toAg_self, glS, glTyp, TF.ob, Bool.and_true, Bool.and_false, Bool.true_and, Bool.false_and, List.take_length, Option.isSome_some, List.getD_cons_zero, Vx.toBool, Vx.toNil, Vx.toStr, Vx.toInt, eqCells, subP, TK.isAgg, quietPre, opQuiet, opQuiet.onEmpty, litSlot, Option.toList, List.contains_cons, List.contains_nil, Nat.reduceBEq, Bool.or_false, Bool.false_or, evA, appArgs, appendq, appendQ1, appendQ2, appendQ3, trimN, RetVC, resL, ofRes, List.toList_toArray, Bool.not_true, Bool.not_false, Option.map_some, Option.map_none, Option.bind_some, Option.getD_some, Option.getD_none, List.getElem?_cons_zero, List.getElem?_cons_succ, List.cons_append, List.nil_append, List.append_nil, List.length_cons, List.length_nil, List.drop_succ_cons, List.drop_zero, List.take_succ_cons, List.take_zero, List.map_cons, List.map_nil, List.drop_nil, List.take_nil, ite_true, ite_false, reduceCtorEq, true_and, and_true, false_and, and_false, and_self, if_true, if_false, Bool.false_eq_true, reduceIte, Nat.reduceAdd, Nat.reduceLT, Nat.reduceLeDiff, Nat.reduceSub, Nat.reduceMul, Nat.reduceEqDiff, Nat.zero_lt_one, Nat.lt_add_one, Nat.zero_add, Nat.le_refl, decide_true]
  repeat' (first | (with_reducible refine drawOk_by ?_; kernel_rfl) | (with_reducible refine And.intro ?_ ?_) | (with_reducible intro _)); all_goals (try simp only [decide_eq_true_eq, decide_eq_false_iff_not, Int.not_lt, Int.not_le, beq_iff_eq, bne_iff_ne, beq_eq_false_iff_ne, bne_eq_false_iff_eq, ne_eq, Decidable.not_not] at *)
  · have : ¬ cs.length ≤ 64 := by omega
    simp [latRightF, this]
  · simp only [List.flatten_cons, List.flatten_nil, List.append_nil, List.length_append]; omega
  · rename_i g1 g2 g3
    have hlen : [ls, cs].flatten.length = ls.length + cs.length := by simp
    have hshort : ∀ s ∈ [ls, cs].flatten, s.length ≤ 9223372036854775807 := by
      intro s hs
      simp only [List.flatten_cons, List.flatten_nil, List.append_nil, List.mem_append] at hs
      exact hs.elim (h1 s) (h2 s)
    have hF : latRightF (ls, cs) = allNew eqR latName [] [ls, cs].flatten := by
      have e1 : 1 ≤ ls.length := by omega
      have e2 : ls.length ≤ 16 := by omega
      have e3 : cs.length ≤ 64 := by omega
      simp [latRightF, e1, e2, e3]
    rw [hF]
    clear hF
    generalize [ls, cs].flatten = xs at *
    refine x_loop (γ := Nat) (fun g => [(30, .int .i64 (g : Int))]) (fun _ => []) (fun g => g ≤ xs.length ∧ allNew eqR latName (xs.take g) (xs.drop g) = allNew eqR latName [] xs) (fun g => xs.length - g) 0 ⟨⟨Nat.zero_le _, rfl⟩, ?_⟩ ?_
    · simp -implicitDefEqProofs only [Tryd.f46, ti3, ti9, ti22, ti23, ti24, ti100, tyo3, tyo9, tyo22, tyo23, tyo24, tyo100, arr3, arr9, arr22, arr23, arr24, arr100, x_den0, x_den1, x_den2, x_den3, x_den4, x_den5, x_den6, x_skip, x_label, x_ret, x_exit, x_seq, x_block, x_cond, x_cnd1, x_cnd2, x_cnd3, x_region, x_draw, x_sq0, x_sq1, x_sq2, x_sqD, x_sqG1, x_sqG2, x_sqG3, x_sqG4, x_sqG5, x_sqG6, x_sqB1, x_sqB2, x_sqE, x_fold, x_put1, x_put0, x_ef1, x_ef2, x_ef3, x_ef4, storex, castL_self, appendx, appendT, appendS, appendO, appendN, appendF, appendX, appendY, appendZ, srcq, elemSV, bytesD, nexts, nextx, forget, forgetL, forgetB, forgetH, spl, isCell, List.all_cons, List.all_nil, Option.some.injEq, makeq, makeE, makeT, zeroD, bytesTI, buildSq, buildE, buildB, partsD, tiSz, buildT, fillS, okFlat, rangeq, bytesQ, textQ, adopt, adoptOk, List.replicate_zero, Nat.not_lt_zero, x_dr0, x_dr1, x_dr2, x_drD, x_drG1, x_drG2, x_drG3, x_drG4, x_drG5, x_drG6, x_drB1, x_fin1, x_fin2, x_fio1, x_fio2, x_own1, x_own2, RetOwn, ownVC, x_lk1, x_lk2, x_lk3, x_wr1, x_nv2, x_nv3, l_refl, l_any, l_int, l_bool, l_kb, l_kk, l_str, l_sl, l_nils, l_pp, l_ptr, l_osl, l_slf, l_ag, l_sls, l_agg, wrote, List.filterMap_cons_some, List.filterMap_cons_none, List.filterMap_cons, List.filterMap_nil, havoc, setSs, setBs, atHead, Vx.Sub, leS, leH, leB, below, below.belowL, belowB, belowH, SV.int.injEq, SV.bool.injEq, SV.kb.injEq, SV.str.injEq, SV.sl.injEq, SV.ptr.injEq, SV.pp.injEq, SV.agg.injEq, SV.osl.injEq, Blk.own.injEq, Blk.iter.injEq, heq_eq_eq, eq_self, List.cons.injEq, evq, evS, Vx.get, setO, setS, dstAt, startS, undefs, ofArgs, ofDV, ofD, one, Ty.isAgg, Ty.size, boxq, flat, allocq, allocA, fieldAddrq, fieldq, tkOf, sizeP, loadq, getB, setB, binq, intBin, strBin, boolBin, pickq, Vx.asB, ofConst, ofCell, nilq, unq, convq, sliceq, slice3q, strCut, slCut, makeFuncq, indexAddrq, indexq, extractq, ifaceq, builtinq, callfq, callq, tlook, toArgs, toDV, toD, oneOf, Vx.both, toInt_self, toSl_self, toSl_slf, toSl_nils, toSl_osl, toSlB_self, arrD_self, toRef_self, toRef_ptr, boxD, no1_self, no2_self, clo1_fn, clo1_f1, clo2_fn, clo2_f2, cloA1_fn, cloA1_f1, cloA2_fn, cloA2_f2, cloT1_self, cloT2_self, mk1, mk2, callT, callO, ownQ, lent, scalL, Ty.scal, toAg_self, glS, glTyp, TF.ob, Bool.and_true, Bool.and_false, Bool.true_and, Bool.false_and, List.take_length, Option.isSome_some, List.getD_cons_zero, Vx.toBool, Vx.toNil, Vx.toStr, Vx.toInt, eqCells, subP, TK.isAgg, quietPre, opQuiet, opQuiet.onEmpty, litSlot, Option.toList, List.contains_cons, List.contains_nil, Nat.reduceBEq, Bool.or_false, Bool.false_or, evA, appArgs, appendq, appendQ1, appendQ2, appendQ3, trimN, RetVC, resL, ofRes, List.toList_toArray, Bool.not_true, Bool.not_false, Option.map_some, Option.map_none, Option.bind_some, Option.getD_some, Option.getD_none, List.getElem?_cons_zero, List.getElem?_cons_succ, List.cons_append, List.nil_append, List.append_nil, List.length_cons, List.length_nil, List.drop_succ_cons, List.drop_zero, List.take_succ_cons, List.take_zero, List.map_cons, List.map_nil, List.drop_nil, List.take_nil, ite_true, ite_false, reduceCtorEq, true_and, and_true, false_and, and_false, and_self, if_true, if_false, Bool.false_eq_true, reduceIte, Nat.reduceAdd, Nat.reduceLT, Nat.reduceLeDiff, Nat.reduceSub, Nat.reduceMul, Nat.reduceEqDiff, Nat.zero_lt_one, Nat.lt_add_one, Nat.zero_add, Nat.le_refl, decide_true]
      trivial
    · intro g hg
      simp -implicitDefEqProofs only [strTrimT, containsST, Tryd.f46, ti3, ti9, ti22, ti23, ti24, ti100, tyo3, tyo9, tyo22, tyo23, tyo24, tyo100, arr3, arr9, arr22, arr23, arr24, arr100, x_den0, x_den1, x_den2, x_den3, x_den4, x_den5, x_den6, x_skip, x_label, x_ret, x_exit, x_seq, x_block, x_cond, x_cnd1, x_cnd2, x_cnd3, x_region, x_draw, x_sq0, x_sq1, x_sq2, x_sqD, x_sqG1, x_sqG2, x_sqG3, x_sqG4, x_sqG5, x_sqG6, x_sqB1, x_sqB2, x_sqE, x_fold, x_put1, x_put0, x_ef1, x_ef2, x_ef3, x_ef4, storex, castL_self, appendx, appendT, appendS, appendO, appendN, appendF, appendX, appendY, appendZ, srcq, elemSV, bytesD, nexts, nextx, forget, forgetL, forgetB, forgetH, spl, isCell, List.all_cons, List.all_nil, Option.some.injEq, makeq, makeE, makeT, zeroD, bytesTI, buildSq, buildE, buildB, partsD, tiSz, buildT, fillS, okFlat, rangeq, bytesQ, textQ, adopt, adoptOk, List.replicate_zero, Nat.not_lt_zero, x_dr0, x_dr1, x_dr2, x_drD, x_drG1, x_drG2, x_drG3, x_drG4, x_drG5, x_drG6, x_drB1, x_fin1, x_fin2, x_fio1, x_fio2, x_own1, x_own2, RetOwn, ownVC, x_lk1, x_lk2, x_lk3, x_wr1, x_nv2, x_nv3, l_refl, l_any, l_int, l_bool, l_kb, l_kk, l_str, l_sl, l_nils, l_pp, l_ptr, l_osl, l_slf, l_ag, l_sls, l_agg, wrote, List.filterMap_cons_some, List.filterMap_cons_none, List.filterMap_cons, List.filterMap_nil, havoc, setSs, setBs, atHead, Vx.Sub, leS, leH, leB, below, below.belowL, belowB, belowH, SV.int.injEq, SV.bool.injEq, SV.kb.injEq, SV.str.injEq, SV.sl.injEq, SV.ptr.injEq, SV.pp.injEq, SV.agg.injEq, SV.osl.injEq, Blk.own.injEq, Blk.iter.injEq, heq_eq_eq, eq_self, List.cons.injEq, evq, evS, Vx.get, setO, setS, dstAt, startS, undefs, ofArgs, ofDV, ofD, one, Ty.isAgg, Ty.size, boxq, flat, allocq, allocA, fieldAddrq, fieldq, tkOf, sizeP, loadq, getB, setB, binq, intBin, strBin, boolBin, pickq, Vx.asB, ofConst, ofCell, nilq, unq, convq, sliceq, slice3q, strCut, slCut, makeFuncq, indexAddrq, indexq, extractq, ifaceq, builtinq, callfq, callq, tlook, toArgs, toDV, toD, oneOf, Vx.both, toInt_self, toSl_self, toSl_slf, toSl_nils, toSl_osl, toSlB_self, arrD_self, toRef_self, toRef_ptr, boxD, no1_self, no2_self, clo1_fn, clo1_f1, clo2_fn, clo2_f2, cloA1_fn, cloA1_f1, cloA2_fn, cloA2_f2, cloT1_self, cloT2_self, mk1, mk2, callT, callO, ownQ, lent, scalL, Ty.scal, toAg_self, glS, glTyp, TF.ob, Bool.and_true, Bool.and_false, Bool.true_and, Bool.false_and, List.take_length, Option.isSome_some, List.getD_cons_zero, Vx.toBool, Vx.toNil, Vx.toStr, Vx.toInt, eqCells, subP, TK.isAgg, quietPre, opQuiet, opQuiet.onEmpty, litSlot, Option.toList, List.contains_cons, List.contains_nil, Nat.reduceBEq, Bool.or_false, Bool.false_or, evA, appArgs, appendq, appendQ1, appendQ2, appendQ3, trimN, RetVC, resL, ofRes, List.toList_toArray, Bool.not_true, Bool.not_false, Option.map_some, Option.map_none, Option.bind_some, Option.getD_some, Option.getD_none, List.getElem?_cons_zero, List.getElem?_cons_succ, List.cons_append, List.nil_append, List.append_nil, List.length_cons, List.length_nil, List.drop_succ_cons, List.drop_zero, List.take_succ_cons, List.take_zero, List.map_cons, List.map_nil, List.drop_nil, List.take_nil, ite_true, ite_false, reduceCtorEq, true_and, and_true, false_and, and_false, and_self, if_true, if_false, Bool.false_eq_true, reduceIte, Nat.reduceAdd, Nat.reduceLT, Nat.reduceLeDiff, Nat.reduceSub, Nat.reduceMul, Nat.reduceEqDiff, Nat.zero_lt_one, Nat.lt_add_one, Nat.zero_add, Nat.le_refl, decide_true]
      repeat' (first | (with_reducible refine drawOk_by ?_; kernel_rfl) | (with_reducible refine And.intro ?_ ?_) | (with_reducible intro _)); all_goals (try simp only [decide_eq_true_eq, decide_eq_false_iff_not, Int.not_lt, Int.not_le, beq_iff_eq, bne_iff_ne, beq_eq_false_iff_ne, bne_eq_false_iff_eq, ne_eq, Decidable.not_not] at *)
      all_goals (try simp only [Int.toNat_natCast] at *)
      · omega
      · omega
      · have := hshort _ (getD_mem (d := Ty.dflt .str) (show g < xs.length by omega))
        exact Nat.le_trans this (by decide)
      · exact latLetters_ascii _ ‹_›
      · omega
      · omega
      · rw [List.length_take]; omega
      · rename_i h3 h4 h5 h6 h7
        have st := allNew_at eqR latName xs g (Ty.dflt .str) (by omega)
        rw [hg.2, show ((xs.take g).any fun y => eqR (xs.getD g (Ty.dflt .str)) y) = true from h7, Bool.not_true, Bool.and_false, Bool.false_and] at st
        rw [st]
      · rename_i h3 h4 h5 h6 h7
        have st := allNew_at eqR latName xs g (Ty.dflt .str) (by omega)
        rw [hg.2, show ((xs.take g).any fun y => eqR (xs.getD g (Ty.dflt .str)) y) = false from h7, (latName_iff _).2 ⟨h4, by omega, h6⟩, Bool.not_false, Bool.true_and, Bool.true_and] at st
        exact ⟨g + 1, ⟨by omega, st.symm⟩, by omega, w64_succ (n := xs.length) (by omega) (by omega)⟩
      · rename_i h3 h4 h5 h6
        have st := allNew_at eqR latName xs g (Ty.dflt .str) (by omega)
        rw [hg.2, latName_not (fun h => h6 h.2.2), Bool.false_and, Bool.false_and] at st
        rw [st]
      · rename_i h3 h4 h5
        have st := allNew_at eqR latName xs g (Ty.dflt .str) (by omega)
        rw [hg.2, latName_not (fun h => by have := h.2.1; omega), Bool.false_and, Bool.false_and] at st
        rw [st]
      · rename_i h3 h4
        have st := allNew_at eqR latName xs g (Ty.dflt .str) (by omega)
        rw [hg.2, latName_not (fun h => h.1 h4), Bool.false_and, Bool.false_and] at st
        rw [st]
      · have := allNew_end eqR latName xs g (by omega)
        rw [← hg.2, this]
  · have : ¬ ls.length ≤ 16 := by omega
    simp [latRightF, this]
  · have : ¬ 1 ≤ ls.length := by omega
    simp [latRightF, this]
def inF (l : Lattice) (a : Int × Int) : Bool := latRightF l && decide (0 ≤ a.1) && decide (a.1 < l.1.length) && decide (Lib.bitLen a.2.toNat ≤ l.2.length)
def u64 (n : Int) : Prop := 0 ≤ n ∧ n < 18446744073709551616
def latInT : TF := { doms := [tLat, tLabel], cods := [.bool], pre := fun x => shortLat x.1 ∧ u64 x.2.1.2, fn := fun x => (inF x.1 x.2.1, ()) }
theorem latIn_ok : TFOk Tryd.prog 25 latInT := by
  refine tf_by (tbl := [(46, latRightT), (47, len64T)]) fol (tblCons latRight_ok Tryd.func46 (by kernel_rfl) (tblCons len64_ok Tryd.func47 (by kernel_rfl) tblNil)) Tryd.func25 rfl rfl rfl ?_
  rintro ⟨⟨(ls : List (List UInt8)), (cs : List (List UInt8))⟩, ⟨(lev : Int), (comps : Int)⟩, _⟩ hpre
  obtain ⟨hp1, hp2⟩ := hpre
  simp -implicitDefEqProofs only [latInT, latRightT, len64T, Tryd.f25, ti3, ti9, ti22, ti23, ti24, ti54, ti55, ti56, eqk56, tyo3, tyo9, tyo22, tyo23, tyo24, tyo54, tyo55, tyo56, arr3, arr9, arr22, arr23, arr24, arr54, arr55, arr56, x_den0, x_den1, x_den2, x_den3, x_den4, x_den5, x_den6, x_skip, x_label, x_ret, x_exit, x_seq, x_block, x_cond, x_cnd1, x_cnd2, x_cnd3, x_region, x_draw, x_sq0, x_sq1, x_sq2, x_sqD, x_sqG1, x_sqG2, x_sqG3, x_sqG4, x_sqG5, x_sqG6, x_sqB1, x_sqB2, x_sqE, x_fold, x_put1, x_put0, x_ef1, x_ef2, x_ef3, x_ef4, storex, castL_self, appendx, appendT, appendS, appendO, appendN, appendF, appendX, appendY, appendZ, srcq, elemSV, bytesD, nexts, nextx, forget, forgetL, forgetB, forgetH, spl, isCell, List.all_cons, List.all_nil, Option.some.injEq, makeq, makeE, makeT, zeroD, bytesTI, buildSq, buildE, buildB, partsD, tiSz, buildT, fillS, okFlat, rangeq, bytesQ, textQ, adopt, adoptOk, List.replicate_zero, Nat.not_lt_zero, x_dr0, x_dr1, x_dr2, x_drD, x_drG1, x_drG2, x_drG3, x_drG4, x_drG5, x_drG6, x_drB1, x_fin1, x_fin2, x_fio1, x_fio2, x_own1, x_own2, RetOwn, ownVC, x_lk1, x_lk2, x_lk3, x_wr1, x_nv2, x_nv3, l_refl, l_any, l_int, l_bool, l_kb, l_kk, l_str, l_sl, l_nils, l_pp, l_ptr, l_osl, l_slf, l_ag, l_sls, l_agg, wrote, List.filterMap_cons_some, List.filterMap_cons_none, List.filterMap_cons, List.filterMap_nil, havoc, setSs, setBs, atHead, Vx.Sub, leS, leH, leB, below, below.belowL, belowB, belowH, SV.int.injEq, SV.bool.injEq, SV.kb.injEq, SV.str.injEq, SV.sl.injEq, SV.ptr.injEq, SV.pp.injEq, SV.agg.injEq, SV.osl.injEq, Blk.own.injEq, Blk.iter.injEq, heq_eq_eq, eq_self, List.cons.injEq, evq, evS, Vx.get, setO, setS, dstAt, startS, undefs, ofArgs, ofDV, ofD, one, Ty.isAgg, Ty.size, boxq, flat, allocq, allocA, fieldAddrq, fieldq, tkOf, sizeP, loadq, getB, setB, binq, intBin, strBin, boolBin, pickq, Vx.asB, ofConst, ofCell, nilq, unq, convq, sliceq, slice3q, strCut, slCut, makeFuncq, indexAddrq, indexq, extractq, ifaceq, builtinq, callfq, callq, tlook, toArgs, toDV, toD, oneOf, Vx.both, toInt_self, toSl_self, toSl_slf, toSl_nils, toSl_osl, toSlB_self, arrD_self, toRef_self, toRef_ptr, boxD, no1_self, no2_self, clo1_fn, clo1_f1, clo2_fn, clo2_f2, cloA1_fn, cloA1_f1, cloA2_fn, cloA2_f2, cloT1_self, cloT2_self, mk1, mk2, callT, callO, ownQ, lent, scalL, Ty.scal, toAg_self, glS, glTyp, TF.ob, Bool.and_true, Bool.and_false, Bool.true_and, Bool.false_and, List.take_length, Option.isSome_some, List.getD_cons_zero, Vx.toBool, Vx.toNil, Vx.toStr, Vx.toInt, eqCells, subP, TK.isAgg, quietPre, opQuiet, opQuiet.onEmpty, litSlot, Option.toList, List.contains_cons, List.contains_nil, Nat.reduceBEq, Bool.or_false, Bool.false_or, evA, appArgs, appendq, appendQ1, appendQ2, appendQ3, trimN, RetVC, resL, ofRes, List.toList_toArray, Bool.not_true, Bool.not_false, Option.map_some, Option.map_none, Option.bind_some, Option.getD_some, Option.getD_none, List.getElem?_cons_zero, List.getElem?_cons_succ, List.cons_append, List.nil_append, List.append_nil, List.length_cons, List.length_nil, List.drop_succ_cons, List.drop_zero, List.take_succ_cons, List.take_zero, List.map_cons, List.map_nil, List.drop_nil, List.take_nil, ite_true, ite_false, reduceCtorEq, true_and, and_true, false_and, and_false, and_self, if_true, if_false, Bool.false_eq_true, reduceIte, Nat.reduceAdd, Nat.reduceLT, Nat.reduceLeDiff, Nat.reduceSub, Nat.reduceMul, Nat.reduceEqDiff, Nat.zero_lt_one, Nat.lt_add_one, Nat.zero_add, Nat.le_refl, decide_true]
  repeat' (first | (with_reducible refine drawOk_by ?_; kernel_rfl) | (with_reducible refine And.intro ?_ ?_) | (with_reducible intro _)); all_goals (try simp only [decide_eq_true_eq, decide_eq_false_iff_not, Int.not_lt, Int.not_le, beq_iff_eq, bne_iff_ne, beq_eq_false_iff_ne, bne_eq_false_iff_eq, ne_eq, Decidable.not_not] at *)
  · exact hp1
  · exact hp2.1
  · exact hp2.2
  · rename_i g1 g2 g3
    have e : decide ((Lib.bitLen comps.toNat : Int) ≤ (cs.length : Int)) = decide (Lib.bitLen comps.toNat ≤ cs.length) := by congr 1; exact propext (by omega)
    simp only [inF, g1, g2, g3, e, decide_true, Bool.true_and]
  · rename_i g1 g2 g3
    have g3' : ¬ lev < (ls.length : Int) := by omega
    simp only [inF, g1, g2, g3', decide_true, decide_false, Bool.true_and, Bool.false_and]
  · rename_i g1 g2
    have g2' : ¬ 0 ≤ lev := by omega
    simp only [inF, g1, g2', decide_true, decide_false, Bool.true_and, Bool.false_and]
  · rename_i g1
    simp only [inF, g1, Bool.false_and]
end Go.Proofs.YtlibncpahaefbaaDoor
