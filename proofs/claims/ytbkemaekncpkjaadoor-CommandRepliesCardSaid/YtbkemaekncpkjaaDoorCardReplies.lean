/- Helper lemmas towards this seat's statements: a contract, proved for every input within its own premise, of functions of the program. -/
import Derived.Test.YtbkemaekncpkjaaDoorCard0
import Derived.Test.YtbkemaekncpkjaaDoorLaw18r
namespace Go.Proofs.YtbkemaekncpkjaaDoor
open Go Go.Vx Go.ChangeShapes Go.WideShapes Go.ChangeAt Go.RowKit Go.Lib
set_option maxRecDepth 100000
set_option linter.unusedVariables false
theorem lawReplies_pre {x : Args lawRepliesT.doms} (h : FitArgs lawRepliesT.doms x) : lawRepliesT.pre x := trivial
def commandRepliesArgs : Array Value := #[.agg #[.int .i64 0, .string ⟨#[]⟩], .agg #[.int .i64 0, .string ⟨#[]⟩]]
theorem commandReplies_witness (os : Os) {H : Type} (enc : TypeId × Value → H) :
    (OpenSpec.ofChange Rows.commandRepliesSpec).preRow enc Tryd.prog Tryd.f6 Rows.commandRepliesRow.domain false laidL ((laidWorld os).forCall (fun _ _ => 0) ⟨#[], commandRepliesArgs, []⟩).memory commandRepliesArgs := by
  have hw : (DataW.whole enc Tryd.prog ((laidWorld os).forCall (fun _ _ => 0) ⟨#[], commandRepliesArgs, []⟩).memory Tryd.f6.params.toList (OpenSpec.ofChange Rows.commandRepliesSpec).vars false commandRepliesArgs.toList 8).map (fun x => (x.1, x.2.1)) =
      some ([.agg [.lit (.int .i64 0), .lit (.string [])], .agg [.lit (.int .i64 0), .lit (.string [])]], []) := by kernel_rfl
  obtain ⟨⟨x1, x2, x3⟩, hx, hx1⟩ := Option.map_eq_some_iff.1 hw
  simp only [Prod.mk.injEq] at hx1
  obtain ⟨rfl, rfl⟩ := hx1
  exact OpenSpec.preRow_of_cond 8 hx (by kernel_rfl) (fun k hk => by cases hk) (by kernel_rfl) (laid_met os _)
theorem commandReplies_lifted (os : Os) (started : os.Started) (H : Type) (enc : TypeId × Value → H) (F : Stop.Interp) :
    ReturnsInHanded {} Tryd.checked os 6 .any ((OpenSpec.ofChange Rows.commandRepliesSpec).preRow enc Tryd.prog Tryd.f6 Rows.commandRepliesRow.domain false laidL) (((OpenSpec.ofChange Rows.commandRepliesSpec).at F).post enc Tryd.prog Tryd.f6 false true false false) := by
  refine returnsInHanded_of_row (C := Tryd.checked) (s := OpenSpec.ofChange Rows.commandRepliesSpec) own started (by kernel_rfl) Tryd.func6
    (witness_row_atRef (enc := enc) (C := Tryd.checked) false (laidWorld os) commandRepliesArgs rfl (by kernel_rfl) (by kernel_rfl) (by kernel_rfl) (commandReplies_witness os enc)) ?_
  intro W base args ds gs before hval0 hW _ _ _ hL _ _
  have hval : ∀ (j : Nat) t v, Tryd.f6.params.toList[j]? = some t → args.toList[j]? = some v → Value.okWide Tryd.prog W .any base t v := fun j t v h1 h2 => hval0 j t v (by simpa using h1) (by simpa using h2)
  have hW' := hW
  obtain ⟨p, q, hA, hV, rfl, _, _⟩ := hW
  obtain ⟨rfl, rfl⟩ := trodVars_none hV
  rw [Tryd.params6] at hA hval
  obtain ⟨d0, d1, rfl⟩ := len2 (trodAll_len _ _ _ _ hA)
  obtain ⟨x, hx, hfit⟩ := args_rep _ lawRepliesT.doms _ _ _ (by kernel_rfl) hval hA
  have hc := calls_law lawReplies_ok (old_bounded hL) hx (lawReplies_pre hfit)
  rw [Array.toArray_toList] at hc
  refine hc.mono ?_
  rintro e W' ⟨rfl, bel⟩
  have hlt : ∀ y ∈ p ++ [], y.block < W.heap.size := fun y hy => by simpa using hW'.lt y hy
  have e1 : ((OpenSpec.ofChange Rows.commandRepliesSpec).at F).fn H ([d0, d1] ++ []) = { results := [.lit (.bool true)], args := [d0, d1] } := rfl
  refine ⟨_, rfl, _, _, _, [], p, [], hW', ?_, ?_, ?_, bel.frame _, fun h => by cases h⟩
  · rw [e1]; exact trodAll_mk1 (shut_bool Tryd.underlying4 _)
  · rw [e1, Tryd.params6]
    exact trodAll_stays laidOut bel _ _ _ _ (by kernel_rfl) hA (fun y hy => hlt y (by simp [hy])) (fun y hy => by simpa using hlt y (by simp [hy]))
  · rw [e1]; rfl
theorem commandReplies_holds : Rows.CommandRepliesSaid :=
  OpenClaim.holds_of_cond 6 Tryd.f6 rfl rfl rfl rfl rfl rfl rfl ⟨rfl, rfl, rfl, rfl, rfl⟩ rfl rfl rfl rfl rfl (by kernel_rfl) Tryd.func6 (by kernel_rfl)
    (of_decide_eq_true (by kernel_rfl)) (by unfold Func.isWrapper; rw [if_neg (of_decide_eq_false (by kernel_rfl))]; exact ⟨rfl, rfl⟩)
    (fun os started H enc _ F0 => by
      rw [OpenClaim.pre_eq_preRow]
      have e : Rows.commandRepliesRow.laid = laidL := by
        show [("math/bits.deBruijn32tab", Rows.laid_math_bits_deBruijn32tab), ("math/bits.deBruijn64tab", Rows.laid_math_bits_deBruijn64tab), ("internal/strconv.uint64pow10", Rows.laid_internal_strconv_uint64pow10), ("unicode/utf8.acceptRanges", Rows.laid_unicode_utf8_acceptRanges), ("strconv.ErrRange", Rows.laid_strconv_ErrRange), ("strconv.ErrSyntax", Rows.laid_strconv_ErrSyntax), ("unicode/utf8.first", Rows.laid_unicode_utf8_first)] = laidL
        exact laid_eq
      rw [e]
      exact commandReplies_lifted os started H enc F0)
/-- The law's tied card. -/
theorem commandReplies_card : Rows.CommandRepliesCardSaid :=
  Claim7.holds_tied_plain_at .later [] [.data, .data, .data, .data, .sentinel, .sentinel, .pinned] true (true, Rows.commandRepliesCard.stood.harness.2) true
    commandReplies_holds (fun _ h => by cases h) (by kernel_rfl) (fun _ h => by cases h) commandReplies_row_tie rfl ⟨rfl, rfl⟩ (by kernel_rfl) rfl
    (fun f fn hf hfn => by
      obtain rfl : f = 6 := Option.some.inj ((show Tryd.prog.funcNamed "mailguard/mailguardlaw18.CommandReplies" = some 6 by kernel_rfl).symm.trans hf) |>.symm
      obtain rfl : fn = Tryd.f6 := (Option.some.inj (Tryd.func6.symm.trans hfn)).symm
      exact ⟨by kernel_rfl, noStand (by kernel_rfl)⟩)
    (by kernel_rfl)
#print axioms commandReplies_card

end Go.Proofs.YtbkemaekncpkjaaDoor
