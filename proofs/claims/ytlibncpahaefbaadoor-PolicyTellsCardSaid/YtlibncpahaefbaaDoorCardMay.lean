/- Helper lemmas towards this seat's statements: a contract, proved for every input within its own premise, of functions of the program. -/
import Derived.Test.YtlibncpahaefbaaDoorCard0
import Derived.Test.YtlibncpahaefbaaDoorLaw19b
namespace Go.Proofs.YtlibncpahaefbaaDoor
open Go Go.Vx Go.ChangeShapes Go.WideShapes Go.ChangeAt Go.RowKit Go.Lib
set_option maxRecDepth 100000
set_option linter.unusedVariables false
def zeroCells : Array Value := #[.slice none 0 0, .slice none 0 0, .slice none 0 0, .slice none 0 0, .slice none 0 0, .string ⟨#[]⟩, .slice none 0 0]
theorem fit_big {p : Policy} (h : Fit tPolicy p) : bigP p := by
  obtain ⟨⟨h1, h2⟩, h3, _⟩ := h
  refine ⟨⟨h1.2, h2.2⟩, fun a ha => ?_⟩
  have := (h3.2 a ha).2
  have h4 : (Lit.int .u64 a.2).wf = true := this
  simp only [Lit.wf, IntKind.min, IntKind.max, IntKind.signed, IntKind.bits, Bool.and_eq_true, decide_eq_true_eq] at h4
  unfold u64
  simp at h4
  omega
theorem lawMay_pre {x : Args lawMayT.doms} (h : FitArgs lawMayT.doms x) : lawMayT.pre x := fit_big h.1
def policyMayArgs : Array Value := #[.agg zeroCells, .int .i64 0, .int .i64 0]
theorem policyMay_witness (os : Os) {H : Type} (enc : TypeId × Value → H) :
    (OpenSpec.ofChange Rows.policyMaySpec).preRow enc Tryd.prog Tryd.f6 Rows.policyMayRow.domain false laidL ((laidWorld os).forCall (fun _ _ => 0) ⟨#[], policyMayArgs, []⟩).memory policyMayArgs := by
  have hw : (DataW.whole enc Tryd.prog ((laidWorld os).forCall (fun _ _ => 0) ⟨#[], policyMayArgs, []⟩).memory Tryd.f6.params.toList (OpenSpec.ofChange Rows.policyMaySpec).vars false policyMayArgs.toList 8).map (fun x => (x.1, x.2.1)) =
      some ([.agg [.agg [.nil, .nil], .nil, .nil, .nil, .lit (.string []), .nil], .lit (.int .i64 0), .lit (.int .i64 0)], []) := by kernel_rfl
  obtain ⟨⟨x1, x2, x3⟩, hx, hx1⟩ := Option.map_eq_some_iff.1 hw
  simp only [Prod.mk.injEq] at hx1
  obtain ⟨rfl, rfl⟩ := hx1
  exact OpenSpec.preRow_of_cond 8 hx (by kernel_rfl) (fun k hk => by cases hk) (by kernel_rfl) (laid_met os _)
theorem policyMay_lifted (os : Os) (started : os.Started) (H : Type) (enc : TypeId × Value → H) (F : Stop.Interp) :
    ReturnsInHanded {} Tryd.checked os 6 .any ((OpenSpec.ofChange Rows.policyMaySpec).preRow enc Tryd.prog Tryd.f6 Rows.policyMayRow.domain false laidL) (((OpenSpec.ofChange Rows.policyMaySpec).at F).post enc Tryd.prog Tryd.f6 false true false false) := by
  refine returnsInHanded_of_row (C := Tryd.checked) (s := OpenSpec.ofChange Rows.policyMaySpec) own started (by kernel_rfl) Tryd.func6
    (witness_row_atRef (enc := enc) (C := Tryd.checked) false (laidWorld os) policyMayArgs rfl (by kernel_rfl) (by kernel_rfl) (by kernel_rfl) (policyMay_witness os enc)) ?_
  intro W base args ds gs before hval0 hW _ _ _ hL _ _
  have hval : ∀ (j : Nat) t v, Tryd.f6.params.toList[j]? = some t → args.toList[j]? = some v → Value.okWide Tryd.prog W .any base t v := fun j t v h1 h2 => hval0 j t v (by simpa using h1) (by simpa using h2)
  have hW' := hW
  obtain ⟨p, q, hA, hV, rfl, _, _⟩ := hW
  obtain ⟨rfl, rfl⟩ := trodVars_none hV
  rw [Tryd.params6] at hA hval
  obtain ⟨d0, d1, d2, rfl⟩ := len3 (trodAll_len _ _ _ _ hA)
  obtain ⟨x, hx, hfit⟩ := args_rep _ lawMayT.doms _ _ _ (by kernel_rfl) hval hA
  have hc := calls_law lawMay_ok (old_bounded hL) hx (lawMay_pre hfit)
  rw [Array.toArray_toList] at hc
  refine hc.mono ?_
  rintro e W' ⟨rfl, bel⟩
  have hlt : ∀ y ∈ p ++ [], y.block < W.heap.size := fun y hy => by simpa using hW'.lt y hy
  have e1 : ((OpenSpec.ofChange Rows.policyMaySpec).at F).fn H ([d0, d1, d2] ++ []) = { results := [.lit (.bool true)], args := [d0, d1, d2] } := rfl
  refine ⟨_, rfl, _, _, _, [], p, [], hW', ?_, ?_, ?_, bel.frame _, fun h => by cases h⟩
  · rw [e1]; exact trodAll_mk1 (shut_bool Tryd.underlying4 _)
  · rw [e1, Tryd.params6]
    exact trodAll_stays laidOut bel _ _ _ _ (by kernel_rfl) hA (fun y hy => hlt y (by simp [hy])) (fun y hy => by simpa using hlt y (by simp [hy]))
  · rw [e1]; rfl
theorem policyMay_holds : Rows.PolicyMaySaid :=
  OpenClaim.holds_of_cond 6 Tryd.f6 rfl rfl rfl rfl rfl rfl rfl ⟨rfl, rfl, rfl, rfl, rfl⟩ rfl rfl rfl rfl rfl (by kernel_rfl) Tryd.func6 (by kernel_rfl)
    (of_decide_eq_true (by kernel_rfl)) (by unfold Func.isWrapper; rw [if_neg (of_decide_eq_false (by kernel_rfl))]; exact ⟨rfl, rfl⟩)
    (fun os started H enc _ F0 => by
      rw [OpenClaim.pre_eq_preRow]
      have e : Rows.policyMayRow.laid = laidL := by
        show [("unicode/utf8.acceptRanges", Rows.laid_unicode_utf8_acceptRanges), ("unicode/utf8.first", Rows.laid_unicode_utf8_first)] = laidL
        rw [laid_accept, laid_first]
      rw [e]
      exact policyMay_lifted os started H enc F0)
/-- The law's tied card. -/
theorem policyMay_card : Rows.PolicyMayCardSaid :=
  Claim7.holds_tied_plain_at .later [] [.data, .pinned] true (true, Rows.policyMayCard.stood.harness.2) false
    policyMay_holds (fun _ h => by cases h) (by kernel_rfl) (fun _ h => by cases h) policyMay_row_tie rfl ⟨rfl, rfl⟩ (by kernel_rfl) rfl
    (fun f fn hf hfn => by
      obtain rfl : f = 6 := Option.some.inj ((show Tryd.prog.funcNamed "mailguard/mailguardlaw19.PolicyMay" = some 6 by kernel_rfl).symm.trans hf) |>.symm
      obtain rfl : fn = Tryd.f6 := (Option.some.inj (Tryd.func6.symm.trans hfn)).symm
      exact ⟨by kernel_rfl, noStand (by kernel_rfl)⟩)
    (by kernel_rfl)
#print axioms policyMay_card
end Go.Proofs.YtlibncpahaefbaaDoor
