/- Helper lemmas towards this seat's statements: a contract, proved for every input within its own premise, of functions of the program. -/
import Derived.Test.YtlibncpahaefbaaDoorLaw19
import Derived.Test.YtlibncpahaefbaaDoorPlDom
namespace Go.Proofs.YtlibncpahaefbaaDoor
open Go Go.Vx
set_option maxRecDepth 100000
set_option linter.unusedSimpArgs false
set_option linter.unusedVariables false
theorem allNew_all {α : Type} (r : α → α → Bool) (p : α → Bool) : (l seen : List α) → allNew r p seen l = true → ∀ x ∈ l, p x = true
  | [], _, _, x, hx => by simp at hx
  | y :: l, seen, h, x, hx => by
    rw [allNew, Bool.and_eq_true, Bool.and_eq_true] at h
    rcases List.mem_cons.1 hx with h1 | h1
    · rw [h1]; exact h.1.1
    · exact allNew_all r p l _ h.2 x h1
theorem allNew_seen {α : Type} (r : α → α → Bool) (p : α → Bool) : (l seen : List α) → allNew r p seen l = true → ∀ x ∈ l, ∀ y ∈ seen, r x y = false
  | [], _, _, x, hx => by simp at hx
  | z :: l, seen, h, x, hx => by
    rw [allNew, Bool.and_eq_true, Bool.and_eq_true, Bool.not_eq_true'] at h
    intro y hy
    rcases List.mem_cons.1 hx with h1 | h1
    · rw [h1]
      rw [List.any_eq_false] at h
      simpa using h.1.2 y hy
    · exact allNew_seen r p l _ h.2 x h1 y (by simp [hy])
theorem allNew_pair {α : Type} (r : α → α → Bool) (p : α → Bool) : (l seen : List α) → allNew r p seen l = true → l.Pairwise fun x y => r y x = false
  | [], _, _ => List.Pairwise.nil
  | z :: l, seen, h => by
    have h' := h
    rw [allNew, Bool.and_eq_true, Bool.and_eq_true] at h
    exact List.Pairwise.cons (fun y hy => allNew_seen r p l _ h.2 y hy z (by simp)) (allNew_pair r p l _ h.2)
def bigP (p : Policy) : Prop := shortLat (pLat p) ∧ ∀ a ∈ pParts p, u64 a.2
theorem few_of {p : Policy} (h : few19F p = true) (hc : bigP p) : fewP p := by
  rw [few19F, Bool.and_eq_true, Bool.and_eq_true] at h
  obtain ⟨⟨h1, h2⟩, h3⟩ := h
  rw [few5, decide_eq_true_eq] at h2
  rw [List.all_eq_true] at h3
  refine ⟨hc.1, hc.2, fun u hu => ?_, by omega, by omega, by omega, by omega, by omega⟩
  have := h3 u hu; rw [decide_eq_true_eq] at this; omega
theorem right_parts {p : Policy} (h : policyRightF p = true) : allNew eqR (inF (pLat p)) [] (pParts p) = true ∧ allNew sameR (userOk p) [] (pUsers p) = true ∧ (soF (pParts p).length 1 16 = true ∧ soF (pBounds p).length (pParts p).length (pParts p).length = true ∧ soF (pUsers p).length 0 16 = true) ∧
    (pBounds p).any badBoundF = false ∧ addrRightF ([], [120], pDomain p) = true := by
  simp only [policyRightF, Bool.and_eq_true, Bool.not_eq_true'] at h
  obtain ⟨⟨⟨⟨⟨⟨⟨⟨h1, h2⟩, h3⟩, h4⟩, h5⟩, h6⟩, h7⟩, h8⟩, h9⟩ := h
  exact ⟨h1, h2, ⟨h3, h4, h5⟩, h8, h9⟩
theorem right_usersIn {p : Policy} (h : policyRightF p = true) : usersIn p := fun u hu => by
  have := allNew_all _ _ _ _ (right_parts h).2.1 u hu
  simp only [userOk, thereF, Bool.and_eq_true, decide_eq_true_eq] at this
  exact this.2
/-- The law's own answer, of a letter that may go. -/
theorem may_plain {p : Policy} (h : policyRightF p = true) {part user : Int} (h1 : 0 ≤ part) (h2 : part < (pParts p).length) (h3 : 0 ≤ user) (h4 : user < (pUsers p).length) :
    mayF p part user = ((((pUsers p).getD user.toNat tUser.dflt).2 == part) || aboveF p part ((pUsers p).getD user.toNat tUser.dflt).2) := by
  have hu := right_usersIn h _ (getD_mem (l := pUsers p) (d := tUser.dflt) (show user.toNat < (pUsers p).length by omega))
  generalize he : (pUsers p).getD user.toNat tUser.dflt = u at *
  have em : mayF p part user = dominates ((pParts p).getD u.2.toNat tLabel.dflt) ((pParts p).getD part.toNat tLabel.dflt) := by
    rw [mayF, if_neg (by omega), he]
  rw [em]
  by_cases hk : u.2 = part
  · rw [hk, dom_refl]; simp
  · have hb : (u.2 == part) = false := by simpa using hk
    rw [hb, Bool.false_or, aboveF, if_neg (by omega)]
def lawMayT : TF := { doms := [tPolicy, .int .i64, .int .i64], cods := [.bool], pre := fun x => bigP x.1, fn := fun _ => (true, ()) }
theorem may_out {p : Policy} {part user : Int} (h : part < 0 ∨ (pParts p).length ≤ part ∨ user < 0 ∨ (pUsers p).length ≤ user) : mayF p part user = false := by
  rw [mayF, if_pos h]
theorem lawMay_ok : TFOk Tryd.prog 6 lawMayT := by
  refine tf_by (tbl := [(7, awakeT), (8, few19T), (10, policyRightT), (16, mayT), (18, aboveT)]) fol (tblCons awake_ok Tryd.func7 (by kernel_rfl) (tblCons few19_ok Tryd.func8 (by kernel_rfl) (tblCons policyRight_ok Tryd.func10 (by kernel_rfl) (tblCons may_ok Tryd.func16 (by kernel_rfl) (tblCons above_ok Tryd.func18 (by kernel_rfl) tblNil))))) Tryd.func6 rfl rfl rfl ?_
  rintro ⟨⟨⟨(ls : List (List UInt8)), (cs : List (List UInt8))⟩, (parts : List (Int × Int)), (ports : List Int), (users : List (List UInt8 × Int)), (dom : List UInt8), (bounds : List Int)⟩, (part : Int), (user : Int), _⟩ hpre
  have hpre : bigP ((ls, cs), parts, ports, users, dom, bounds) := hpre
  simp -implicitDefEqProofs only [lawMayT, awakeT, few19T, policyRightT, mayT, aboveT, Tryd.f6, ti3, ti4, ti9, ti22, ti23, ti24, ti25, ti26, ti27, ti28, ti29, ti47, ti48, ti54, ti55, ti56, eqk48, eqk56, tyo3, tyo4, tyo9, tyo22, tyo23, tyo24, tyo25, tyo26, tyo27, tyo28, tyo29, tyo47, tyo48, tyo54, tyo55, tyo56, arr3, arr4, arr9, arr22, arr23, arr24, arr25, arr26, arr27, arr28, arr29, arr47, arr48, arr54, arr55, arr56, x_den0, x_den1, x_den2, x_den3, x_den4, x_den5, x_den6, x_skip, x_label, x_ret, x_exit, x_seq, x_block, x_cond, x_cnd1, x_cnd2, x_cnd3, x_region, x_draw, x_sq0, x_sq1, x_sq2, x_sqD, x_sqG1, x_sqG2, x_sqG3, x_sqG4, x_sqG5, x_sqG6, x_sqB1, x_sqB2, x_sqE, x_fold, x_put1, x_put0, x_ef1, x_ef2, x_ef3, x_ef4, storex, castL_self, appendx, appendT, appendS, appendO, appendN, appendF, appendX, appendY, appendZ, srcq, elemSV, bytesD, nexts, nextx, forget, forgetL, forgetB, forgetH, spl, isCell, List.all_cons, List.all_nil, Option.some.injEq, makeq, makeE, makeT, zeroD, bytesTI, buildSq, buildE, buildB, partsD, tiSz, buildT, fillS, okFlat, rangeq, bytesQ, textQ, adopt, adoptOk, List.replicate_zero, Nat.not_lt_zero, x_dr0, x_dr1, x_dr2, x_drD, x_drG1, x_drG2, x_drG3, x_drG4, x_drG5, x_drG6, x_drB1, x_fin1, x_fin2, x_fio1, x_fio2, x_own1, x_own2, RetOwn, ownVC, x_lk1, x_lk2, x_lk3, x_wr1, x_nv2, x_nv3, l_refl, l_any, l_int, l_bool, l_kb, l_kk, l_str, l_sl, l_nils, l_pp, l_ptr, l_osl, l_slf, l_ag, l_sls, l_agg, wrote, List.filterMap_cons_some, List.filterMap_cons_none, List.filterMap_cons, List.filterMap_nil, havoc, setSs, setBs, atHead, Vx.Sub, leS, leH, leB, below, below.belowL, belowB, belowH, SV.int.injEq, SV.bool.injEq, SV.kb.injEq, SV.str.injEq, SV.sl.injEq, SV.ptr.injEq, SV.pp.injEq, SV.agg.injEq, SV.osl.injEq, Blk.own.injEq, Blk.iter.injEq, heq_eq_eq, eq_self, List.cons.injEq, evq, evS, Vx.get, setO, setS, dstAt, startS, undefs, ofArgs, ofDV, ofD, one, Ty.isAgg, Ty.size, boxq, flat, allocq, allocA, fieldAddrq, fieldq, tkOf, sizeP, loadq, getB, setB, binq, intBin, strBin, boolBin, pickq, Vx.asB, ofConst, ofCell, nilq, unq, convq, sliceq, slice3q, strCut, slCut, makeFuncq, indexAddrq, indexq, extractq, ifaceq, builtinq, callfq, callq, tlook, toArgs, toDV, toD, oneOf, Vx.both, toInt_self, toSl_self, toSl_slf, toSl_nils, toSl_osl, toSlB_self, arrD_self, toRef_self, toRef_ptr, boxD, no1_self, no2_self, clo1_fn, clo1_f1, clo2_fn, clo2_f2, cloA1_fn, cloA1_f1, cloA2_fn, cloA2_f2, cloT1_self, cloT2_self, mk1, mk2, callT, callO, ownQ, lent, scalL, Ty.scal, toAg_self, glS, glTyp, TF.ob, Bool.and_true, Bool.and_false, Bool.true_and, Bool.false_and, List.take_length, Option.isSome_some, List.getD_cons_zero, Vx.toBool, Vx.toNil, Vx.toStr, Vx.toInt, eqCells, subP, TK.isAgg, quietPre, opQuiet, opQuiet.onEmpty, litSlot, Option.toList, List.contains_cons, List.contains_nil, Nat.reduceBEq, Bool.or_false, Bool.false_or, evA, appArgs, appendq, appendQ1, appendQ2, appendQ3, trimN, RetVC, resL, ofRes, List.toList_toArray, Bool.not_true, Bool.not_false, Option.map_some, Option.map_none, Option.bind_some, Option.getD_some, Option.getD_none, List.getElem?_cons_zero, List.getElem?_cons_succ, List.cons_append, List.nil_append, List.append_nil, List.length_cons, List.length_nil, List.drop_succ_cons, List.drop_zero, List.take_succ_cons, List.take_zero, List.map_cons, List.map_nil, List.drop_nil, List.take_nil, ite_true, ite_false, reduceCtorEq, true_and, and_true, false_and, and_false, and_self, if_true, if_false, Bool.false_eq_true, reduceIte, Nat.reduceAdd, Nat.reduceLT, Nat.reduceLeDiff, Nat.reduceSub, Nat.reduceMul, Nat.reduceEqDiff, Nat.zero_lt_one, Nat.lt_add_one, Nat.zero_add, Nat.le_refl, decide_true]
  repeat' (first | (with_reducible refine drawOk_by ?_; kernel_rfl) | (with_reducible refine And.intro ?_ ?_) | (with_reducible intro _)); all_goals (try simp only [decide_eq_true_eq, decide_eq_false_iff_not, Int.not_lt, Int.not_le, beq_iff_eq, bne_iff_ne, beq_eq_false_iff_ne, bne_eq_false_iff_eq, ne_eq, Decidable.not_not] at *)
  all_goals (try simp only [Bool.not_eq_true', Bool.not_eq_false'] at *)
  all_goals first
    | exact few_of ‹few19F _ = true› hpre
    | exact right_usersIn ‹policyRightF _ = true›
    | rfl
    | (rw [may_out (by simp only [pParts, pUsers]; omega)]; rfl)
    | omega
    | (have hm := may_plain ‹policyRightF ((ls, cs), parts, ports, users, dom, bounds) = true› (part := part) (user := user) (by omega) (show part < (parts.length : Int) by omega) (by omega) (show user < (users.length : Int) by omega)
       have hm' : mayF ((ls, cs), parts, ports, users, dom, bounds) part user = (((users.getD user.toNat tUser.dflt).2 == part) || aboveF ((ls, cs), parts, ports, users, dom, bounds) part (users.getD user.toNat tUser.dflt).2) := hm
       rw [hm']
       first
         | (rw [beq_iff_eq.2 ‹(users.getD user.toNat tUser.dflt).2 = part›]; rfl)
         | (rw [beq_eq_false_iff_ne.2 ‹¬ (users.getD user.toNat tUser.dflt).2 = part›, Bool.false_or, beq_self_eq_true]))
    | trace_state
end Go.Proofs.YtlibncpahaefbaaDoor
