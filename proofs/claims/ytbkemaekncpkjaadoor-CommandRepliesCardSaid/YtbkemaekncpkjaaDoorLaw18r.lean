/- Helper lemmas towards this seat's statements: a contract, proved for every input within its own premise, of functions of the program. -/
import Derived.Test.YtbkemaekncpkjaaDoorLaw18
namespace Go.Proofs.YtbkemaekncpkjaaDoor
open Go Go.Vx
set_option maxRecDepth 100000
set_option linter.unusedSimpArgs false
set_option linter.unusedVariables false
theorem u8w {n : Int} (h1 : 0 ≤ n) (h2 : n < 256) : IntKind.u8.wrap n = n := by
  have : IntKind.u8.wrap n = n % 256 := by simp [IntKind.wrap, IntKind.bits, IntKind.signed]
  rw [this]; omega
theorem num3 (x y z : Nat) (hx : x < 10) (hy : y < 10) (hz : z < 10) : IntKind.i64.wrap (IntKind.i64.wrap (IntKind.i64.wrap (IntKind.i64.wrap (IntKind.u8.wrap (((UInt8.ofNat (48 + x)).toNat : Int) - 48)) * 100) + IntKind.i64.wrap (IntKind.i64.wrap (IntKind.u8.wrap (((UInt8.ofNat (48 + y)).toNat : Int) - 48)) * 10)) + IntKind.i64.wrap (IntKind.u8.wrap (((UInt8.ofNat (48 + z)).toNat : Int) - 48))) = 100 * (x : Int) + 10 * (y : Int) + (z : Int) := by
  have e : ∀ k : Nat, k < 10 → IntKind.u8.wrap (((UInt8.ofNat (48 + k)).toNat : Int) - 48) = (k : Int) := fun k hk => by
    rw [byte_digit k hk, u8w (by omega) (by omega)]; omega
  rw [e x hx, e y hy, e z hz, w64 (n := (x : Int)) (by omega) (by omega), w64 (n := (y : Int)) (by omega) (by omega), w64 (n := (z : Int)) (by omega) (by omega), w64 (n := (x : Int) * 100) (by omega) (by omega), w64 (n := (y : Int) * 10) (by omega) (by omega), w64 (n := (x : Int) * 100 + (y : Int) * 10) (by omega) (by omega), w64 (by omega) (by omega)]
  omega
def lawRepliesT : TF := { doms := [tReply, tReply], cods := [.bool], pre := fun _ => True, fn := fun _ => (true, ()) }
theorem lawReplies_ok : TFOk Tryd.prog 6 lawRepliesT := by
  refine tf_by (tbl := [(7, awake18T), (10, lineT)]) fol (tblCons awake18_ok Tryd.func7 (by kernel_rfl) (tblCons line_ok Tryd.func10 (by kernel_rfl) tblNil)) Tryd.func6 rfl rfl rfl ?_
  rintro ⟨⟨(ca : Int), (ta : List UInt8)⟩, ⟨(cb : Int), (tb : List UInt8)⟩, _⟩ hpre
  simp -implicitDefEqProofs only [lawRepliesT, awake18T, lineT, Tryd.f6, ti3, ti4, ti5, ti9, ti24, ti25, ti27, eqk25, tyo3, tyo4, tyo5, tyo9, tyo24, tyo25, tyo27, arr3, arr4, arr5, arr9, arr24, arr25, arr27, x_den0, x_den1, x_den2, x_den3, x_den4, x_den5, x_den6, x_skip, x_label, x_ret, x_exit, x_seq, x_block, x_cond, x_cnd1, x_cnd2, x_cnd3, x_region, x_draw, x_sq0, x_sq1, x_sq2, x_sqD, x_sqG1, x_sqG2, x_sqG3, x_sqG4, x_sqG5, x_sqG6, x_sqB1, x_sqB2, x_sqE, x_fold, x_put1, x_put0, x_ef1, x_ef2, x_ef3, x_ef4, x_ef5, x_ef6, x_ef7, evM, mkMapq, mkMap1, keyD, lookq, lookq1, lookq2, lookV, sameD, keySV, zeroDV, mapx, mapx1, mapx2, l_mp, SV.mp.injEq, Blk.mp.injEq, callEx, callEt, callEo, callEf, callE, eArgs, eCons, eConsB, boxDt, setBx, EF.tf, bxs, eStart, eSlots, eH, goneN, boxE, boxesE, RetE, x_fie1, x_fie2, List.contains_nil, storex, castL_self, appendx, appendT, appendS, appendO, appendN, appendF, appendX, appendY, appendZ, srcq, elemSV, bytesD, nexts, nextx, forget, forgetL, forgetB, forgetH, spl, isCell, List.all_cons, List.all_nil, Option.some.injEq, makeq, makeE, makeT, zeroD, bytesTI, buildSq, buildE, buildB, partsD, tiSz, buildT, fillS, okFlat, rangeq, bytesQ, textQ, adopt, adoptOk, List.replicate_zero, Nat.not_lt_zero, x_dr0, x_dr1, x_dr2, x_drD, x_drG1, x_drG2, x_drG3, x_drG4, x_drG5, x_drG6, x_drB1, x_fin1, x_fin2, x_fio1, x_fio2, x_own1, x_own2, RetOwn, ownVC, x_lk1, x_lk2, x_lk3, x_wr1, x_nv2, x_nv3, l_refl, l_any, l_int, l_bool, l_kb, l_kk, l_str, l_sl, l_nils, l_pp, l_ptr, l_osl, l_slf, l_ag, l_sls, l_agg, wrote, List.filterMap_cons_some, List.filterMap_cons_none, List.filterMap_cons, List.filterMap_nil, havoc, setSs, setBs, atHead, Vx.Sub, leS, leH, leB, below, below.belowL, belowB, belowH, SV.int.injEq, SV.bool.injEq, SV.kb.injEq, SV.str.injEq, SV.sl.injEq, SV.ptr.injEq, SV.pp.injEq, SV.agg.injEq, SV.osl.injEq, Blk.own.injEq, Blk.iter.injEq, heq_eq_eq, eq_self, List.cons.injEq, evq, evS, Vx.get, setO, setS, dstAt, startS, undefs, ofArgs, ofDV, ofD, one, Ty.isAgg, Ty.size, boxq, flat, allocq, allocA, fieldAddrq, fieldq, tkOf, sizeP, loadq, getB, setB, binq, intBin, strBin, boolBin, pickq, Vx.asB, ofConst, ofCell, nilq, unq, convq, sliceq, slice3q, strCut, slCut, makeFuncq, indexAddrq, indexq, extractq, ifaceq, builtinq, callfq, callq, tlook, toArgs, toDV, toD, oneOf, Vx.both, toInt_self, toSl_self, toSl_slf, toSl_nils, toSl_osl, toSlB_self, arrD_self, toRef_self, toRef_ptr, boxD, no1_self, no2_self, clo1_fn, clo1_f1, clo2_fn, clo2_f2, cloA1_fn, cloA1_f1, cloA2_fn, cloA2_f2, cloT1_self, cloT2_self, mk1, mk2, callT, callO, ownQ, lent, scalL, Ty.scal, toAg_self, glS, glTyp, TF.ob, Bool.and_true, Bool.and_false, Bool.true_and, Bool.false_and, List.take_length, Option.isSome_some, List.getD_cons_zero, Vx.toBool, Vx.toNil, Vx.toStr, Vx.toInt, eqCells, subP, TK.isAgg, quietPre, opQuiet, opQuiet.onEmpty, opQuiet.noEff, opQuiet.noEf, litSlot, Option.toList, List.contains_cons, List.contains_nil, Nat.reduceBEq, Bool.or_false, Bool.false_or, evA, appArgs, appendq, appendQ1, appendQ2, appendQ3, trimN, RetVC, resL, ofRes, List.toList_toArray, Bool.not_true, Bool.not_false, Option.map_some, Option.map_none, Option.bind_some, Option.getD_some, Option.getD_none, List.getElem?_cons_zero, List.getElem?_cons_succ, List.cons_append, List.nil_append, List.append_nil, List.length_cons, List.length_nil, List.drop_succ_cons, List.drop_zero, List.take_succ_cons, List.take_zero, List.map_cons, List.map_nil, List.drop_nil, List.take_nil, ite_true, ite_false, reduceCtorEq, true_and, and_true, false_and, and_false, and_self, if_true, if_false, Bool.false_eq_true, reduceIte, Nat.reduceAdd, Nat.reduceLT, Nat.reduceLeDiff, Nat.reduceSub, Nat.reduceMul, Nat.reduceEqDiff, Nat.zero_lt_one, Nat.lt_add_one, Nat.zero_add, Nat.le_refl, decide_true]
  repeat' (first | (with_reducible refine drawOk_by ?_; kernel_rfl) | (with_reducible refine And.intro ?_ ?_) | (with_reducible intro _)); all_goals (try simp only [decide_eq_true_eq, decide_eq_false_iff_not, Int.not_lt, Int.not_le, beq_iff_eq, bne_iff_ne, beq_eq_false_iff_ne, bne_eq_false_iff_eq, ne_eq, Decidable.not_not] at *)
  all_goals (have hA := line_shape (ca, ta))
  all_goals (have hB := line_shape (cb, tb))
  all_goals (have hC := line_inj (ca, ta) (cb, tb))
  all_goals (have hD := line_bad (ca, ta))
  all_goals (have hE := line_bad (cb, tb))
  all_goals (rcases hL : lineF (ca, ta) with ⟨L, Ls⟩)
  all_goals (rcases hM : lineF (cb, tb) with ⟨M, Ms⟩)
  all_goals (have hF : ca = cb → ta = tb → L = M := by
              rintro rfl rfl
              rw [hL] at hM
              exact congrArg Prod.fst hM)
  all_goals (simp only [hL, hM] at *)
  all_goals first
    | omega
    | (rw [hE (by assumption)]; rfl)
    | (exfalso; exact absurd (hD (by assumption)) (by assumption))
    | (exfalso; omega)
    | skip
  all_goals (obtain ⟨x, y, z, hx, hy, hz, hn, hl⟩ := hA (by assumption))
  all_goals (have b1 := byte_digit x hx)
  all_goals (have b2 := byte_digit y hy)
  all_goals (have b3 := byte_digit z hz)
  all_goals (have hlen : (L.length : Int) = ta.length + 6 := by rw [hl]; simp only [List.length_cons, List.length_append, List.length_nil]; omega)
  all_goals (have w1 : IntKind.i64.wrap ((L.length : Int) - 2) = ((ta.length + 4 : Nat) : Int) := by rw [w64 (by omega) (by omega)]; omega)
  all_goals (have w2 : IntKind.i64.wrap ((ta.length : Int) + 6) = (ta.length : Int) + 6 := w64 (by omega) (by omega))
  all_goals first
    | (rw [w1]; omega)
    | omega
    | (exfalso; rename_i h; rw [w2] at h; exact h hlen)
    | (rw [w1, hl, Int.toNat_natCast]
       simp only [List.take_succ_cons, show Int.toNat 4 = 4 from rfl, List.drop_succ_cons, List.drop_zero]
       rw [List.take_left' rfl]
       simp)
    | (exfalso
       rename_i h
       apply h
       rw [hl, hn]
       exact num3 x y z hx hy hz)
    | (exfalso
       rename_i h
       apply h
       rw [Bool.eq_iff_iff, beq_iff_eq, Bool.and_eq_true, beq_iff_eq, beq_iff_eq]
       constructor
       · intro e
         have := hC (by assumption) (by assumption) e
         simpa using this
       · rintro ⟨e1, e2⟩
         exact hF e1 e2)
    | trace_state
end Go.Proofs.YtbkemaekncpkjaaDoor
