/- Helper lemmas towards this seat's statements: a contract, proved for every input within its own premise, of functions of the program. -/
import Derived.Test.YtlibncpahaefbaaDoorCardMay
import Derived.Test.YtlibncpahaefbaaDoorLaw19t
namespace Go.Proofs.YtlibncpahaefbaaDoor
open Go Go.Vx Go.ChangeShapes Go.WideShapes Go.ChangeAt Go.RowKit Go.Lib
set_option maxRecDepth 100000
set_option linter.unusedVariables false
theorem lawTells_pre {x : Args lawTellsT.doms} (h : FitArgs lawTellsT.doms x) : lawTellsT.pre x := fit_big h.1
def policyTellsArgs : Array Value := #[.agg zeroCells, mkStr [], .int .i64 0, .int .i64 0, .int .i64 0]
theorem policyTells_witness (os : Os) {H : Type} (enc : TypeId × Value → H) :
    (OpenSpec.ofChange Rows.policyTellsSpec).preRow enc Tryd.prog Tryd.f3 Rows.policyTellsRow.domain false laidL ((laidWorld os).forCall (fun _ _ => 0) ⟨#[], policyTellsArgs, []⟩).memory policyTellsArgs := by
  have hw : (DataW.whole enc Tryd.prog ((laidWorld os).forCall (fun _ _ => 0) ⟨#[], policyTellsArgs, []⟩).memory Tryd.f3.params.toList (OpenSpec.ofChange Rows.policyTellsSpec).vars false policyTellsArgs.toList 8).map (fun x => (x.1, x.2.1)) =
      some ([.agg [.agg [.nil, .nil], .nil, .nil, .nil, .lit (.string []), .nil], .lit (.string []), .lit (.int .i64 0), .lit (.int .i64 0), .lit (.int .i64 0)], []) := by kernel_rfl
  obtain ⟨⟨x1, x2, x3⟩, hx, hx1⟩ := Option.map_eq_some_iff.1 hw
  simp only [Prod.mk.injEq] at hx1
  obtain ⟨rfl, rfl⟩ := hx1
  exact OpenSpec.preRow_of_cond 8 hx (by kernel_rfl) (fun k hk => by cases hk) (by kernel_rfl) (laid_met os _)
theorem policyTells_lifted (os : Os) (started : os.Started) (H : Type) (enc : TypeId × Value → H) (F : Stop.Interp) :
    ReturnsInHanded {} Tryd.checked os 3 .any ((OpenSpec.ofChange Rows.policyTellsSpec).preRow enc Tryd.prog Tryd.f3 Rows.policyTellsRow.domain false laidL) (((OpenSpec.ofChange Rows.policyTellsSpec).at F).post enc Tryd.prog Tryd.f3 false true false false) := by
  refine returnsInHanded_of_row (C := Tryd.checked) (s := OpenSpec.ofChange Rows.policyTellsSpec) own started (by kernel_rfl) Tryd.func3
    (witness_row_atRef (enc := enc) (C := Tryd.checked) false (laidWorld os) policyTellsArgs rfl (by kernel_rfl) (by kernel_rfl) (by kernel_rfl) (policyTells_witness os enc)) ?_
  intro W base args ds gs before hval0 hW _ _ _ hL _ _
  have hval : ∀ (j : Nat) t v, Tryd.f3.params.toList[j]? = some t → args.toList[j]? = some v → Value.okWide Tryd.prog W .any base t v := fun j t v h1 h2 => hval0 j t v (by simpa using h1) (by simpa using h2)
  have hW' := hW
  obtain ⟨p, q, hA, hV, rfl, _, _⟩ := hW
  obtain ⟨rfl, rfl⟩ := trodVars_none hV
  rw [Tryd.params3] at hA hval
  obtain ⟨d0, d1, d2, d3, d4, rfl⟩ := len5 (trodAll_len _ _ _ _ hA)
  obtain ⟨x, hx, hfit⟩ := args_rep _ lawTellsT.doms _ _ _ (by kernel_rfl) hval hA
  have hc := calls_law lawTells_ok (old_bounded hL) hx (lawTells_pre hfit)
  rw [Array.toArray_toList] at hc
  refine hc.mono ?_
  rintro e W' ⟨rfl, bel⟩
  have hlt : ∀ y ∈ p ++ [], y.block < W.heap.size := fun y hy => by simpa using hW'.lt y hy
  have e1 : ((OpenSpec.ofChange Rows.policyTellsSpec).at F).fn H ([d0, d1, d2, d3, d4] ++ []) = { results := [.lit (.bool true)], args := [d0, d1, d2, d3, d4] } := rfl
  refine ⟨_, rfl, _, _, _, [], p, [], hW', ?_, ?_, ?_, bel.frame _, fun h => by cases h⟩
  · rw [e1]; exact trodAll_mk1 (shut_bool Tryd.underlying4 _)
  · rw [e1, Tryd.params3]
    exact trodAll_stays laidOut bel _ _ _ _ (by kernel_rfl) hA (fun y hy => hlt y (by simp [hy])) (fun y hy => by simpa using hlt y (by simp [hy]))
  · rw [e1]; rfl
theorem policyTells_holds : Rows.PolicyTellsSaid :=
  OpenClaim.holds_of_cond 3 Tryd.f3 rfl rfl rfl rfl rfl rfl rfl ⟨rfl, rfl, rfl, rfl, rfl⟩ rfl rfl rfl rfl rfl (by kernel_rfl) Tryd.func3 (by kernel_rfl)
    (of_decide_eq_true (by kernel_rfl)) (by unfold Func.isWrapper; rw [if_neg (of_decide_eq_false (by kernel_rfl))]; exact ⟨rfl, rfl⟩)
    (fun os started H enc _ F0 => by
      rw [OpenClaim.pre_eq_preRow]
      have e : Rows.policyTellsRow.laid = laidL := by
        show [("unicode/utf8.acceptRanges", Rows.laid_unicode_utf8_acceptRanges), ("unicode/utf8.first", Rows.laid_unicode_utf8_first)] = laidL
        rw [laid_accept, laid_first]
      rw [e]
      exact policyTells_lifted os started H enc F0)
/-- The law's tied card. -/
theorem policyTells_card : Rows.PolicyTellsCardSaid :=
  Claim7.holds_tied_plain_at .later [] [.data, .pinned] true (true, Rows.policyTellsCard.stood.harness.2) false
    policyTells_holds (fun _ h => by cases h) (by kernel_rfl) (fun _ h => by cases h) policyTells_row_tie rfl ⟨rfl, rfl⟩ (by kernel_rfl) rfl
    (fun f fn hf hfn => by
      obtain rfl : f = 3 := Option.some.inj ((show Tryd.prog.funcNamed "mailguard/mailguardlaw19.PolicyTells" = some 3 by kernel_rfl).symm.trans hf) |>.symm
      obtain rfl : fn = Tryd.f3 := (Option.some.inj (Tryd.func3.symm.trans hfn)).symm
      exact ⟨by kernel_rfl, noStand (by kernel_rfl)⟩)
    (by kernel_rfl)
#print axioms policyTells_card
end Go.Proofs.YtlibncpahaefbaaDoor
