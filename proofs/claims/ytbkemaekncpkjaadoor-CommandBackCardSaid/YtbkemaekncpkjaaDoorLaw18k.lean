/- Helper lemmas towards this seat's statements: a contract, proved for every input within its own premise, of functions of the program. -/
import Derived.Test.YtbkemaekncpkjaaDoorLaw18
namespace Go.Proofs.YtbkemaekncpkjaaDoor
open Go Go.Vx
set_option maxRecDepth 100000
set_option linter.unusedSimpArgs false
set_option linter.unusedVariables false
def lawBackT : TF := { doms := [.str, tCmd, tReply], cods := [.bool], pre := fun x => -9223372036854775808 ≤ (x.2.1.2.2.1 : Int) ∧ (x.2.1.2.2.1 : Int) ≤ 9223372036854775807, fn := fun _ => (true, ()) }
set_option maxHeartbeats 4000000 in
theorem lawBack_ok : TFOk Tryd.prog 3 lawBackT := by
  refine tf_by (tbl := [(7, awake18T), (8, cmdParseT), (9, cmdPrintT), (10, lineT), (11, readT)]) fol (tblCons awake18_ok Tryd.func7 (by kernel_rfl) (tblCons cmdParse_ok Tryd.func8 (by kernel_rfl) (tblCons cmdPrint_ok Tryd.func9 (by kernel_rfl) (tblCons line_ok Tryd.func10 (by kernel_rfl) (tblCons read_ok Tryd.func11 (by kernel_rfl) tblNil))))) Tryd.func3 rfl rfl rfl ?_
  rintro ⟨(s : List UInt8), ⟨(verb : Int), (arg : List UInt8), (size : Int), (eight : Bool)⟩, ⟨(code : Int), (t : List UInt8)⟩, _⟩ hpre
  have hs1 : -9223372036854775808 ≤ size := hpre.1
  have hs2 : size ≤ 9223372036854775807 := hpre.2
  have f1 : (parseF s).2 = 0 → (s.length : Int) ≤ 2000 → cmdPrintF (parseF s).1 = (putAll (parseF s).1, 0) ∧ parseF (putAll (parseF s).1) = ((parseF s).1, 0) ∧ (parseF s).1.2.1.length ≤ 2000 ∧ (putAll (parseF s).1).length ≤ 2061 ∧ 0 ≤ (parseF s).1.2.2.1 ∧ (parseF s).1.2.2.1 ≤ 999999999 := fun h hl => by
    have e : parseF s = ((parseF s).1, 0) := Prod.ext rfl h
    obtain ⟨b1, b2, b3, b4, b5⟩ := parse_bound s _ e
    have g := print_parse s _ e
    have gl := putAll_len (parseF s).1 b1 b2 (by omega) (by omega)
    exact ⟨print_of _ g b1 b2, g, by omega, by omega, b4, b5⟩
  have f2 : (cmdPrintF (verb, arg, size, eight)).2 = 0 → (arg.length : Int) ≤ 2000 → parseF (cmdPrintF (verb, arg, size, eight)).1 = ((verb, arg, size, eight), 0) ∧ (cmdPrintF (verb, arg, size, eight)).1.length ≤ 2061 := fun h hl => by
    have e : cmdPrintF (verb, arg, size, eight) = ((cmdPrintF (verb, arg, size, eight)).1, 0) := Prod.ext rfl h
    obtain ⟨b1, b2, b3, b4⟩ := print_inv _ _ e
    have gl := putAll_len (verb, arg, size, eight) b1 b2 hs1 hs2
    have gl : (putAll (verb, arg, size, eight)).length ≤ arg.length + 61 := gl
    exact ⟨b4, by rw [b3]; omega⟩
  have f3 : (lineF (code, t)).2 = 0 → (t.length : Int) ≤ 2000 → ∃ M, (lineF (code, t)).1 = M ++ [13, 10] ∧ M.length ≤ 2030 ∧ readF M = ((code, t), 0) := fun h hl => by
    obtain ⟨g1, g2, g3, g4⟩ := line_good _ h
    have hi := Lib.itoa_length_le code (by have : (200 : Int) ≤ code := g3; omega) (by have : code ≤ (599 : Int) := g4; omega)
    refine ⟨_, g2, ?_, read_line _ g1⟩
    show (Lib.itoa code ++ 32 :: t).length ≤ 2030
    rw [List.length_append, List.length_cons]; omega
  rcases hp : parseF s with ⟨⟨v, a, n, e⟩, st⟩
  rcases hq : cmdPrintF (v, a, n, e) with ⟨q, qs⟩
  rcases hr : parseF q with ⟨⟨v', a', n', e'⟩, rs⟩
  rcases hP : cmdPrintF (verb, arg, size, eight) with ⟨Q, Qs⟩
  rcases hR : parseF Q with ⟨⟨V, A, M, E⟩, Rs⟩
  rcases hL : lineF (code, t) with ⟨L, Ls⟩
  simp only [hp, hq, hP, hL] at f1 f2 f3
  have f1 : st = 0 → (s.length : Int) ≤ 2000 → qs = 0 ∧ rs = 0 ∧ (v', a', n', e') = (v, a, n, e) ∧ a.length ≤ 2000 ∧ q.length ≤ 2061 ∧ 0 ≤ n ∧ n ≤ 999999999 := fun h hl => by
    obtain ⟨g1, g2, g3, g4, g5, g6⟩ := f1 h hl
    have e1 : q = putAll (v, a, n, e) := congrArg Prod.fst g1
    rw [← e1, hr] at g2
    rw [← e1] at g4
    exact ⟨congrArg Prod.snd g1, congrArg Prod.snd g2, congrArg Prod.fst g2, g3, g4, g5, g6⟩
  have f2 : Qs = 0 → (arg.length : Int) ≤ 2000 → Rs = 0 ∧ (V, A, M, E) = (verb, arg, size, eight) ∧ Q.length ≤ 2061 := fun h hl => by
    obtain ⟨g1, g2⟩ := f2 h hl
    rw [hR] at g1
    exact ⟨congrArg Prod.snd g1, congrArg Prod.fst g1, g2⟩
  simp only [Prod.mk.injEq] at f1 f2
  simp (maxSteps := 5000000) -implicitDefEqProofs only [lawBackT, awake18T, cmdParseT, cmdPrintT, lineT, readT, hp, hq, hr, hP, hR, hL, Tryd.f3, ti3, ti4, ti9, ti22, ti23, ti24, ti25, ti27, eqk23, eqk25, tyo3, tyo4, tyo9, tyo22, tyo23, tyo24, tyo25, tyo27, arr3, arr4, arr9, arr22, arr23, arr24, arr25, arr27, x_den0, x_den1, x_den2, x_den3, x_den4, x_den5, x_den6, x_skip, x_label, x_ret, x_exit, x_seq, x_block, x_cond, x_cnd1, x_cnd2, x_cnd3, x_region, x_draw, x_sq0, x_sq1, x_sq2, x_sqD, x_sqG1, x_sqG2, x_sqG3, x_sqG4, x_sqG5, x_sqG6, x_sqB1, x_sqB2, x_sqE, x_fold, x_put1, x_put0, x_ef1, x_ef2, x_ef3, x_ef4, x_ef5, x_ef6, x_ef7, evM, mkMapq, mkMap1, keyD, lookq, lookq1, lookq2, lookV, sameD, keySV, zeroDV, mapx, mapx1, mapx2, l_mp, SV.mp.injEq, Blk.mp.injEq, callEx, callEt, callEo, callEf, callE, eArgs, eCons, eConsB, boxDt, setBx, EF.tf, bxs, eStart, eSlots, eH, goneN, boxE, boxesE, RetE, x_fie1, x_fie2, List.contains_nil, storex, castL_self, appendx, appendT, appendS, appendO, appendN, appendF, appendX, appendY, appendZ, srcq, elemSV, bytesD, nexts, nextx, forget, forgetL, forgetB, forgetH, spl, isCell, List.all_cons, List.all_nil, Option.some.injEq, makeq, makeE, makeT, zeroD, bytesTI, buildSq, buildE, buildB, partsD, tiSz, buildT, fillS, okFlat, rangeq, bytesQ, textQ, adopt, adoptOk, List.replicate_zero, Nat.not_lt_zero, x_dr0, x_dr1, x_dr2, x_drD, x_drG1, x_drG2, x_drG3, x_drG4, x_drG5, x_drG6, x_drB1, x_fin1, x_fin2, x_fio1, x_fio2, x_own1, x_own2, RetOwn, ownVC, x_lk1, x_lk2, x_lk3, x_wr1, x_nv2, x_nv3, l_refl, l_any, l_int, l_bool, l_kb, l_kk, l_str, l_sl, l_nils, l_pp, l_ptr, l_osl, l_slf, l_ag, l_sls, l_agg, wrote, List.filterMap_cons_some, List.filterMap_cons_none, List.filterMap_cons, List.filterMap_nil, havoc, setSs, setBs, atHead, Vx.Sub, leS, leH, leB, below, below.belowL, belowB, belowH, SV.int.injEq, SV.bool.injEq, SV.kb.injEq, SV.str.injEq, SV.sl.injEq, SV.ptr.injEq, SV.pp.injEq, SV.agg.injEq, SV.osl.injEq, Blk.own.injEq, Blk.iter.injEq, heq_eq_eq, eq_self, List.cons.injEq, evq, evS, Vx.get, setO, setS, dstAt, startS, undefs, ofArgs, ofDV, ofD, one, Ty.isAgg, Ty.size, boxq, flat, allocq, allocA, fieldAddrq, fieldq, tkOf, sizeP, loadq, getB, setB, binq, intBin, strBin, boolBin, pickq, Vx.asB, ofConst, ofCell, nilq, unq, convq, sliceq, slice3q, strCut, slCut, makeFuncq, indexAddrq, indexq, extractq, ifaceq, builtinq, callfq, callq, tlook, toArgs, toDV, toD, oneOf, Vx.both, toInt_self, toSl_self, toSl_slf, toSl_nils, toSl_osl, toSlB_self, arrD_self, toRef_self, toRef_ptr, boxD, no1_self, no2_self, clo1_fn, clo1_f1, clo2_fn, clo2_f2, cloA1_fn, cloA1_f1, cloA2_fn, cloA2_f2, cloT1_self, cloT2_self, mk1, mk2, callT, callO, ownQ, lent, scalL, Ty.scal, toAg_self, glS, glTyp, TF.ob, Bool.and_true, Bool.and_false, Bool.true_and, Bool.false_and, List.take_length, Option.isSome_some, List.getD_cons_zero, Vx.toBool, Vx.toNil, Vx.toStr, Vx.toInt, eqCells, subP, TK.isAgg, quietPre, opQuiet, opQuiet.onEmpty, opQuiet.noEff, opQuiet.noEf, litSlot, Option.toList, List.contains_cons, List.contains_nil, Nat.reduceBEq, Bool.or_false, Bool.false_or, evA, appArgs, appendq, appendQ1, appendQ2, appendQ3, trimN, RetVC, resL, ofRes, List.toList_toArray, Bool.not_true, Bool.not_false, Option.map_some, Option.map_none, Option.bind_some, Option.getD_some, Option.getD_none, List.getElem?_cons_zero, List.getElem?_cons_succ, List.cons_append, List.nil_append, List.append_nil, List.length_cons, List.length_nil, List.drop_succ_cons, List.drop_zero, List.take_succ_cons, List.take_zero, List.map_cons, List.map_nil, List.drop_nil, List.take_nil, ite_true, ite_false, reduceCtorEq, true_and, and_true, false_and, and_false, and_self, if_true, if_false, Bool.false_eq_true, reduceIte, Nat.reduceAdd, Nat.reduceLT, Nat.reduceLeDiff, Nat.reduceSub, Nat.reduceMul, Nat.reduceEqDiff, Nat.zero_lt_one, Nat.lt_add_one, Nat.zero_add, Nat.le_refl, decide_true]
  repeat' (first | (with_reducible refine drawOk_by ?_; kernel_rfl) | (with_reducible refine And.intro ?_ ?_) | (with_reducible intro _)); all_goals (try simp only [decide_eq_true_eq, decide_eq_false_iff_not, Int.not_lt, Int.not_le, beq_iff_eq, bne_iff_ne, beq_eq_false_iff_ne, bne_eq_false_iff_eq, ne_eq, Decidable.not_not] at *)
  all_goals (try (have g := f1 ‹st = 0› ‹(s.length : Int) ≤ 2000›; obtain ⟨rfl, rfl, ⟨rfl, rfl, rfl, rfl⟩, _, _, _, _⟩ := g))
  all_goals (try (have g := f2 ‹Qs = 0› ‹(arg.length : Int) ≤ 2000›; obtain ⟨rfl, ⟨rfl, rfl, rfl, rfl⟩, _⟩ := g))
  all_goals (try (have g := f3 ‹Ls = 0› ‹(t.length : Int) ≤ 2000›; obtain ⟨N, hN, hNl, hNr⟩ := g))
  all_goals (try (have w1 : IntKind.i64.wrap ((L.length : Int) - 2) = (N.length : Int) := by
                    rw [hN, w64 (by simp only [List.length_append, List.length_cons, List.length_nil]; omega) (by simp only [List.length_append, List.length_cons, List.length_nil]; omega)]
                    simp only [List.length_append, List.length_cons, List.length_nil]; omega
                  have w2 : L.take N.length = N := by rw [hN]; exact List.take_left' rfl
                  have w3 : L.drop N.length = [13, 10] := by rw [hN]; exact List.drop_left' rfl
                  have w4 : N.length ≤ L.length := by rw [hN, List.length_append]; omega
                  simp only [w1, w2, w3, hNr, Int.toNat_natCast, beq_self_eq_true, Bool.and_self, Bool.not_true, Bool.false_eq_true] at *))
  all_goals first
    | omega
    | (show (-9223372036854775808 : Int) ≤ _; omega)
    | (show _ ≤ (9223372036854775807 : Int); omega)
    | (exfalso; exact absurd trivial ‹¬ True›)
    | (exfalso; simp only [beq_self_eq_true, Bool.and_self, Bool.not_true, Bool.false_eq_true] at *; done)
    | trace_state
end Go.Proofs.YtbkemaekncpkjaaDoor
