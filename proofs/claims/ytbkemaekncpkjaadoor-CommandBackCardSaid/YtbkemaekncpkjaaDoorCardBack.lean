/- Helper lemmas towards this seat's statements: a contract, proved for every input within its own premise, of functions of the program. -/
import Derived.Test.YtbkemaekncpkjaaDoorCard0
import Derived.Test.YtbkemaekncpkjaaDoorLaw18k
namespace Go.Proofs.YtbkemaekncpkjaaDoor
open Go Go.Vx Go.ChangeShapes Go.WideShapes Go.ChangeAt Go.RowKit Go.Lib
set_option maxRecDepth 100000
set_option linter.unusedVariables false
theorem fit_i64 {n : Int} (h : (Lit.int .i64 n).wf = true) : -9223372036854775808 ≤ n ∧ n ≤ 9223372036854775807 := by
  simp only [Lit.wf, IntKind.min, IntKind.max, IntKind.signed, IntKind.bits, Bool.and_eq_true, decide_eq_true_eq] at h
  simp at h
  omega
theorem fit_u64 {n : Int} (h : (Lit.int .u64 n).wf = true) : 0 ≤ n ∧ n ≤ 18446744073709551615 := by
  simp only [Lit.wf, IntKind.min, IntKind.max, IntKind.signed, IntKind.bits, Bool.and_eq_true, decide_eq_true_eq] at h
  simp at h
  omega
theorem lawBack_pre {x : Args lawBackT.doms} (h : FitArgs lawBackT.doms x) : lawBackT.pre x := fit_i64 h.2.1.2.2.1
def commandBackArgs : Array Value := #[.string ⟨#[]⟩, .agg #[.int .i64 0, .string ⟨#[]⟩, .int .i64 0, .bool false], .agg #[.int .i64 0, .string ⟨#[]⟩]]
theorem commandBack_witness (os : Os) {H : Type} (enc : TypeId × Value → H) :
    (OpenSpec.ofChange Rows.commandBackSpec).preRow enc Tryd.prog Tryd.f3 Rows.commandBackRow.domain false laidL ((laidWorld os).forCall (fun _ _ => 0) ⟨#[], commandBackArgs, []⟩).memory commandBackArgs := by
  have hw : (DataW.whole enc Tryd.prog ((laidWorld os).forCall (fun _ _ => 0) ⟨#[], commandBackArgs, []⟩).memory Tryd.f3.params.toList (OpenSpec.ofChange Rows.commandBackSpec).vars false commandBackArgs.toList 8).map (fun x => (x.1, x.2.1)) =
      some ([.lit (.string []), .agg [.lit (.int .i64 0), .lit (.string []), .lit (.int .i64 0), .lit (.bool false)], .agg [.lit (.int .i64 0), .lit (.string [])]], []) := by kernel_rfl
  obtain ⟨⟨x1, x2, x3⟩, hx, hx1⟩ := Option.map_eq_some_iff.1 hw
  simp only [Prod.mk.injEq] at hx1
  obtain ⟨rfl, rfl⟩ := hx1
  exact OpenSpec.preRow_of_cond 8 hx (by kernel_rfl) (fun k hk => by cases hk) (by kernel_rfl) (laid_met os _)
theorem commandBack_lifted (os : Os) (started : os.Started) (H : Type) (enc : TypeId × Value → H) (F : Stop.Interp) :
    ReturnsInHanded {} Tryd.checked os 3 .any ((OpenSpec.ofChange Rows.commandBackSpec).preRow enc Tryd.prog Tryd.f3 Rows.commandBackRow.domain false laidL) (((OpenSpec.ofChange Rows.commandBackSpec).at F).post enc Tryd.prog Tryd.f3 false true false false) := by
  refine returnsInHanded_of_row (C := Tryd.checked) (s := OpenSpec.ofChange Rows.commandBackSpec) own started (by kernel_rfl) Tryd.func3
    (witness_row_atRef (enc := enc) (C := Tryd.checked) false (laidWorld os) commandBackArgs rfl (by kernel_rfl) (by kernel_rfl) (by kernel_rfl) (commandBack_witness os enc)) ?_
  intro W base args ds gs before hval0 hW _ _ _ hL _ _
  have hval : ∀ (j : Nat) t v, Tryd.f3.params.toList[j]? = some t → args.toList[j]? = some v → Value.okWide Tryd.prog W .any base t v := fun j t v h1 h2 => hval0 j t v (by simpa using h1) (by simpa using h2)
  have hW' := hW
  obtain ⟨p, q, hA, hV, rfl, _, _⟩ := hW
  obtain ⟨rfl, rfl⟩ := trodVars_none hV
  rw [Tryd.params3] at hA hval
  obtain ⟨d0, d1, d2, rfl⟩ := len3 (trodAll_len _ _ _ _ hA)
  obtain ⟨x, hx, hfit⟩ := args_rep _ lawBackT.doms _ _ _ (by kernel_rfl) hval hA
  have hc := calls_law lawBack_ok (old_bounded hL) hx (lawBack_pre hfit)
  rw [Array.toArray_toList] at hc
  refine hc.mono ?_
  rintro e W' ⟨rfl, bel⟩
  have hlt : ∀ y ∈ p ++ [], y.block < W.heap.size := fun y hy => by simpa using hW'.lt y hy
  have e1 : ((OpenSpec.ofChange Rows.commandBackSpec).at F).fn H ([d0, d1, d2] ++ []) = { results := [.lit (.bool true)], args := [d0, d1, d2] } := rfl
  refine ⟨_, rfl, _, _, _, [], p, [], hW', ?_, ?_, ?_, bel.frame _, fun h => by cases h⟩
  · rw [e1]; exact trodAll_mk1 (shut_bool Tryd.underlying4 _)
  · rw [e1, Tryd.params3]
    exact trodAll_stays laidOut bel _ _ _ _ (by kernel_rfl) hA (fun y hy => hlt y (by simp [hy])) (fun y hy => by simpa using hlt y (by simp [hy]))
  · rw [e1]; rfl
theorem commandBack_holds : Rows.CommandBackSaid :=
  OpenClaim.holds_of_cond 3 Tryd.f3 rfl rfl rfl rfl rfl rfl rfl ⟨rfl, rfl, rfl, rfl, rfl⟩ rfl rfl rfl rfl rfl (by kernel_rfl) Tryd.func3 (by kernel_rfl)
    (of_decide_eq_true (by kernel_rfl)) (by unfold Func.isWrapper; rw [if_neg (of_decide_eq_false (by kernel_rfl))]; exact ⟨rfl, rfl⟩)
    (fun os started H enc _ F0 => by
      rw [OpenClaim.pre_eq_preRow]
      have e : Rows.commandBackRow.laid = laidL := by
        show [("math/bits.deBruijn32tab", Rows.laid_math_bits_deBruijn32tab), ("math/bits.deBruijn64tab", Rows.laid_math_bits_deBruijn64tab), ("internal/strconv.uint64pow10", Rows.laid_internal_strconv_uint64pow10), ("unicode/utf8.acceptRanges", Rows.laid_unicode_utf8_acceptRanges), ("strconv.ErrRange", Rows.laid_strconv_ErrRange), ("strconv.ErrSyntax", Rows.laid_strconv_ErrSyntax), ("unicode/utf8.first", Rows.laid_unicode_utf8_first)] = laidL
        exact laid_eq
      rw [e]
      exact commandBack_lifted os started H enc F0)
/-- The law's tied card. -/
theorem commandBack_card : Rows.CommandBackCardSaid :=
  Claim7.holds_tied_plain_at .later [] [.data, .data, .data, .data, .sentinel, .sentinel, .pinned] true (true, Rows.commandBackCard.stood.harness.2) true
    commandBack_holds (fun _ h => by cases h) (by kernel_rfl) (fun _ h => by cases h) commandBack_row_tie rfl ⟨rfl, rfl⟩ (by kernel_rfl) rfl
    (fun f fn hf hfn => by
      obtain rfl : f = 3 := Option.some.inj ((show Tryd.prog.funcNamed "mailguard/mailguardlaw18.CommandBack" = some 3 by kernel_rfl).symm.trans hf) |>.symm
      obtain rfl : fn = Tryd.f3 := (Option.some.inj (Tryd.func3.symm.trans hfn)).symm
      exact ⟨by kernel_rfl, noStand (by kernel_rfl)⟩)
    (by kernel_rfl)
#print axioms commandBack_card

end Go.Proofs.YtbkemaekncpkjaaDoor
