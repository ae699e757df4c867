/- Helper lemmas towards this seat's statements: a contract, proved for every input within its own premise, of functions of the program. -/
import Derived.Test.YtlibncpahaefbaaDoorLaw19b
namespace Go.Proofs.YtlibncpahaefbaaDoor
open Go Go.Vx
set_option maxRecDepth 100000
set_option linter.unusedSimpArgs false
set_option linter.unusedVariables false
theorem above_iff (p : Policy) (a b : Int) : aboveF p a b = true ↔ (0 ≤ a ∧ 0 ≤ b ∧ a < (pParts p).length ∧ b < (pParts p).length ∧ a ≠ b) ∧ dominates ((pParts p).getD b.toNat tLabel.dflt) ((pParts p).getD a.toNat tLabel.dflt) = true := by
  unfold aboveF
  split
  · rename_i h
    constructor
    · intro h1; cases h1
    · rintro ⟨h1, _⟩; omega
  · rename_i h
    constructor
    · intro h1; exact ⟨by omega, h1⟩
    · rintro ⟨_, h1⟩; exact h1
theorem getD_get {α : Type} {l : List α} {i : Nat} {d : α} (h : i < l.length) : l.getD i d = l[i] := by
  rw [List.getD_eq_getElem?_getD, List.getElem?_eq_getElem h]; rfl
theorem parts_inj {p : Policy} (h : policyRightF p = true) {i j : Nat} (hi : i < (pParts p).length) (hj : j < (pParts p).length) (he : (pParts p).getD i tLabel.dflt = (pParts p).getD j tLabel.dflt) : i = j := by
  have hp := allNew_pair _ _ _ _ (right_parts h).1
  rw [List.pairwise_iff_getElem] at hp
  rw [getD_get hi, getD_get hj] at he
  rcases Nat.lt_trichotomy i j with h1 | h1 | h1
  · have := hp i j hi hj h1
    simp only [eqR, he] at this
    simp at this
  · exact h1
  · have := hp j i hj hi h1
    simp only [eqR, he] at this
    simp at this
theorem above_asym {p : Policy} (h : policyRightF p = true) (hc : ∀ a ∈ pParts p, u64 a.2) {a b : Int} (h1 : aboveF p a b = true) (h2 : aboveF p b a = true) : False := by
  rw [above_iff] at h1 h2
  obtain ⟨⟨a1, a2, a3, a4, a5⟩, d1⟩ := h1
  obtain ⟨_, d2⟩ := h2
  have e := dom_antisymm (hc _ (getD_mem (d := tLabel.dflt) (show b.toNat < (pParts p).length by omega))) (hc _ (getD_mem (d := tLabel.dflt) (show a.toNat < (pParts p).length by omega))) d1 d2
  have := parts_inj h (by omega) (by omega) e
  omega
theorem above_irrefl (p : Policy) (a : Int) : aboveF p a a = false := by
  rw [← Bool.not_eq_true, above_iff]; intro h; exact h.1.2.2.2.2 rfl
theorem above_trans {p : Policy} (h : policyRightF p = true) (hc : ∀ a ∈ pParts p, u64 a.2) {a b c : Int} (h1 : aboveF p a b = true) (h2 : aboveF p b c = true) : aboveF p a c = true := by
  have h1' := h1
  have h2' := h2
  rw [above_iff] at h1 h2 ⊢
  obtain ⟨⟨a1, a2, a3, a4, a5⟩, d1⟩ := h1
  obtain ⟨⟨b1, b2, b3, b4, b5⟩, d2⟩ := h2
  refine ⟨⟨a1, b2, a3, b4, fun e => ?_⟩, dom_trans d2 d1⟩
  subst e
  exact above_asym h hc h1' h2'
theorem may_iff (p : Policy) (part user : Int) : mayF p part user = true ↔ (0 ≤ part ∧ part < (pParts p).length ∧ 0 ≤ user ∧ user < (pUsers p).length) ∧
    dominates ((pParts p).getD ((pUsers p).getD user.toNat tUser.dflt).2.toNat tLabel.dflt) ((pParts p).getD part.toNat tLabel.dflt) = true := by
  unfold mayF
  split
  · rename_i h
    constructor
    · intro h1; cases h1
    · rintro ⟨h1, _⟩; omega
  · rename_i h
    constructor
    · intro h1; exact ⟨by omega, h1⟩
    · rintro ⟨_, h1⟩; exact h1
theorem may_above {p : Policy} {a b user : Int} (h1 : aboveF p a b = true) (h2 : mayF p b user = true) : mayF p a user = true := by
  rw [above_iff] at h1
  rw [may_iff] at h2 ⊢
  exact ⟨⟨h1.1.1, h1.1.2.2.1, h2.1.2.2.1, h2.1.2.2.2⟩, dom_trans h2.2 h1.2⟩
theorem may_own {p : Policy} (h : policyRightF p = true) {user : Int} (h1 : 0 ≤ user) (h2 : user < (pUsers p).length) : mayF p ((pUsers p).getD user.toNat tUser.dflt).2 user = true := by
  have hu := right_usersIn h _ (getD_mem (l := pUsers p) (d := tUser.dflt) (show user.toNat < (pUsers p).length by omega))
  rw [may_iff]
  exact ⟨⟨hu.1, hu.2, h1, h2⟩, dom_refl _⟩
def lawOrderT : TF := { doms := [tPolicy, .int .i64, .int .i64, .int .i64, .int .i64], cods := [.bool], pre := fun x => bigP x.1, fn := fun _ => (true, ()) }
set_option maxHeartbeats 4000000 in
theorem lawOrder_ok : TFOk Tryd.prog 4 lawOrderT := by
  refine tf_by (tbl := [(7, awakeT), (8, few19T), (10, policyRightT), (16, mayT), (18, aboveT)]) fol (tblCons awake_ok Tryd.func7 (by kernel_rfl) (tblCons few19_ok Tryd.func8 (by kernel_rfl) (tblCons policyRight_ok Tryd.func10 (by kernel_rfl) (tblCons may_ok Tryd.func16 (by kernel_rfl) (tblCons above_ok Tryd.func18 (by kernel_rfl) tblNil))))) Tryd.func4 rfl rfl rfl ?_
  rintro ⟨⟨⟨(ls : List (List UInt8)), (cs : List (List UInt8))⟩, (parts : List (Int × Int)), (ports : List Int), (users : List (List UInt8 × Int)), (dom : List UInt8), (bounds : List Int)⟩, (a : Int), (b : Int), (c : Int), (user : Int), _⟩ hpre
  have hpre : bigP ((ls, cs), parts, ports, users, dom, bounds) := hpre
  simp -implicitDefEqProofs (maxSteps := 5000000) only [lawOrderT, awakeT, few19T, policyRightT, mayT, aboveT, Tryd.f4, ti3, ti4, ti9, ti22, ti23, ti24, ti25, ti26, ti27, ti28, ti29, ti47, ti48, ti54, ti55, ti56, eqk48, eqk56, tyo3, tyo4, tyo9, tyo22, tyo23, tyo24, tyo25, tyo26, tyo27, tyo28, tyo29, tyo47, tyo48, tyo54, tyo55, tyo56, arr3, arr4, arr9, arr22, arr23, arr24, arr25, arr26, arr27, arr28, arr29, arr47, arr48, arr54, arr55, arr56, x_den0, x_den1, x_den2, x_den3, x_den4, x_den5, x_den6, x_skip, x_label, x_ret, x_exit, x_seq, x_block, x_cond, x_cnd1, x_cnd2, x_cnd3, x_region, x_draw, x_sq0, x_sq1, x_sq2, x_sqD, x_sqG1, x_sqG2, x_sqG3, x_sqG4, x_sqG5, x_sqG6, x_sqB1, x_sqB2, x_sqE, x_fold, x_put1, x_put0, x_ef1, x_ef2, x_ef3, x_ef4, storex, castL_self, appendx, appendT, appendS, appendO, appendN, appendF, appendX, appendY, appendZ, srcq, elemSV, bytesD, nexts, nextx, forget, forgetL, forgetB, forgetH, spl, isCell, List.all_cons, List.all_nil, Option.some.injEq, makeq, makeE, makeT, zeroD, bytesTI, buildSq, buildE, buildB, partsD, tiSz, buildT, fillS, okFlat, rangeq, bytesQ, textQ, adopt, adoptOk, List.replicate_zero, Nat.not_lt_zero, x_dr0, x_dr1, x_dr2, x_drD, x_drG1, x_drG2, x_drG3, x_drG4, x_drG5, x_drG6, x_drB1, x_fin1, x_fin2, x_fio1, x_fio2, x_own1, x_own2, RetOwn, ownVC, x_lk1, x_lk2, x_lk3, x_wr1, x_nv2, x_nv3, l_refl, l_any, l_int, l_bool, l_kb, l_kk, l_str, l_sl, l_nils, l_pp, l_ptr, l_osl, l_slf, l_ag, l_sls, l_agg, wrote, List.filterMap_cons_some, List.filterMap_cons_none, List.filterMap_cons, List.filterMap_nil, havoc, setSs, setBs, atHead, Vx.Sub, leS, leH, leB, below, below.belowL, belowB, belowH, SV.int.injEq, SV.bool.injEq, SV.kb.injEq, SV.str.injEq, SV.sl.injEq, SV.ptr.injEq, SV.pp.injEq, SV.agg.injEq, SV.osl.injEq, Blk.own.injEq, Blk.iter.injEq, heq_eq_eq, eq_self, List.cons.injEq, evq, evS, Vx.get, setO, setS, dstAt, startS, undefs, ofArgs, ofDV, ofD, one, Ty.isAgg, Ty.size, boxq, flat, allocq, allocA, fieldAddrq, fieldq, tkOf, sizeP, loadq, getB, setB, binq, intBin, strBin, boolBin, pickq, Vx.asB, ofConst, ofCell, nilq, unq, convq, sliceq, slice3q, strCut, slCut, makeFuncq, indexAddrq, indexq, extractq, ifaceq, builtinq, callfq, callq, tlook, toArgs, toDV, toD, oneOf, Vx.both, toInt_self, toSl_self, toSl_slf, toSl_nils, toSl_osl, toSlB_self, arrD_self, toRef_self, toRef_ptr, boxD, no1_self, no2_self, clo1_fn, clo1_f1, clo2_fn, clo2_f2, cloA1_fn, cloA1_f1, cloA2_fn, cloA2_f2, cloT1_self, cloT2_self, mk1, mk2, callT, callO, ownQ, lent, scalL, Ty.scal, toAg_self, glS, glTyp, TF.ob, Bool.and_true, Bool.and_false, Bool.true_and, Bool.false_and, List.take_length, Option.isSome_some, List.getD_cons_zero, Vx.toBool, Vx.toNil, Vx.toStr, Vx.toInt, eqCells, subP, TK.isAgg, quietPre, opQuiet, trimN, RetVC, resL, ofRes, List.toList_toArray, Bool.not_true, Bool.not_false, Option.map_some, Option.map_none, Option.bind_some, Option.getD_some, Option.getD_none, List.getElem?_cons_zero, List.getElem?_cons_succ, List.cons_append, List.nil_append, List.append_nil, List.length_cons, List.length_nil, List.drop_succ_cons, List.drop_zero, List.take_succ_cons, List.take_zero, List.map_cons, List.map_nil, List.drop_nil, List.take_nil, ite_true, ite_false, reduceCtorEq, true_and, and_true, false_and, and_false, and_self, if_true, if_false, Bool.false_eq_true, reduceIte, Nat.reduceAdd, Nat.reduceLT, Nat.reduceLeDiff, Nat.reduceSub, Nat.reduceMul, Nat.reduceEqDiff, Nat.zero_lt_one, Nat.lt_add_one, Nat.zero_add, Nat.le_refl, decide_true]
  repeat' (first | (with_reducible refine drawOk_by ?_; kernel_rfl) | (with_reducible refine And.intro ?_ ?_) | (with_reducible intro _)); all_goals (try simp only [decide_eq_true_eq, decide_eq_false_iff_not, Int.not_lt, Int.not_le, beq_iff_eq, bne_iff_ne, beq_eq_false_iff_ne, bne_eq_false_iff_eq, ne_eq, Decidable.not_not] at *)
  all_goals (try simp only [Bool.not_eq_true', Bool.not_eq_false'] at *)
  all_goals first
    | exact few_of ‹few19F _ = true› hpre
    | exact right_usersIn ‹policyRightF _ = true›
    | rfl
    | omega
    | (have hm : mayF ((ls, cs), parts, ports, users, dom, bounds) (users.getD user.toNat tUser.dflt).2 user = true := may_own ‹policyRightF ((ls, cs), parts, ports, users, dom, bounds) = true› (user := user) (by omega) (show user < (users.length : Int) by omega)
       rw [hm]
       done)
    | (exfalso; exact absurd ‹aboveF _ a b = true› (by rw [‹aboveF _ a b = false›]; exact Bool.false_ne_true))
    | (exfalso; exact above_asym ‹policyRightF _ = true› hpre.2 ‹aboveF _ a b = true› ‹aboveF _ b a = true›)
    | (exfalso; exact absurd ‹aboveF _ a a = true› (by rw [above_irrefl]; exact Bool.false_ne_true))
    | (exfalso; exact absurd (above_trans ‹policyRightF _ = true› hpre.2 ‹aboveF _ a b = true› ‹aboveF _ b c = true›) (by rw [‹aboveF _ a c = false›]; exact Bool.false_ne_true))
    | (exfalso; exact absurd (may_above ‹aboveF _ a b = true› ‹mayF _ b user = true›) (by rw [‹mayF _ a user = false›]; exact Bool.false_ne_true))
    | trace_state
end Go.Proofs.YtlibncpahaefbaaDoor
