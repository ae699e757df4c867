/- Helper lemmas towards this seat's statements: a contract, proved for every input within its own premise, of functions of the program. -/
import Derived.Test.YtnbicdeehppgpaaGreatDoorCard0
import Derived.Test.YtnbicdeehppgpaaGreatDoorLaw12t
namespace Go.Proofs.YtnbicdeehppgpaaGreatDoor
open Go Go.Vx Go.ChangeShapes Go.WideShapes Go.ChangeAt Go.RowKit Go.Lib
set_option maxRecDepth 100000
set_option linter.unusedVariables false
theorem tells12_pre {x : Args tells12T.doms} (h : FitArgs tells12T.doms x) : tells12T.pre x := trivial
def ctypeTellsArgs : Array Value := #[.agg #[.string ⟨#[]⟩, .string ⟨#[]⟩, .slice none 0 0], .agg #[.string ⟨#[]⟩, .string ⟨#[]⟩, .slice none 0 0], .string ⟨#[]⟩, .string ⟨#[]⟩]
theorem ctypeTells_witness (os : Os) {H : Type} (enc : TypeId × Value → H) :
    (OpenSpec.ofChange Rows.ctypeTellsSpec).preRow enc Tryz.prog Tryz.f3 Rows.ctypeTellsRow.domain false laidL ((laidWorld os).forCall (fun _ _ => 0) ⟨#[], ctypeTellsArgs, []⟩).memory ctypeTellsArgs := by
  have hw : (DataW.whole enc Tryz.prog ((laidWorld os).forCall (fun _ _ => 0) ⟨#[], ctypeTellsArgs, []⟩).memory Tryz.f3.params.toList (OpenSpec.ofChange Rows.ctypeTellsSpec).vars false ctypeTellsArgs.toList 8).map (fun x => (x.1, x.2.1)) =
      some ([.agg [.lit (.string []), .lit (.string []), .nil], .agg [.lit (.string []), .lit (.string []), .nil], .lit (.string []), .lit (.string [])], []) := by kernel_rfl
  obtain ⟨⟨x1, x2, x3⟩, hx, hx1⟩ := Option.map_eq_some_iff.1 hw
  simp only [Prod.mk.injEq] at hx1
  obtain ⟨rfl, rfl⟩ := hx1
  exact OpenSpec.preRow_of_cond 8 hx (by kernel_rfl) (fun k hk => by cases hk) (by kernel_rfl) (laid_met os _)
theorem ctypeTells_lifted (os : Os) (started : os.Started) (H : Type) (enc : TypeId × Value → H) (F : Stop.Interp) :
    ReturnsInHanded {} Tryz.checked os 3 .any ((OpenSpec.ofChange Rows.ctypeTellsSpec).preRow enc Tryz.prog Tryz.f3 Rows.ctypeTellsRow.domain false laidL) (((OpenSpec.ofChange Rows.ctypeTellsSpec).at F).post enc Tryz.prog Tryz.f3 false true false false) := by
  refine returnsInHanded_of_row (C := Tryz.checked) (s := OpenSpec.ofChange Rows.ctypeTellsSpec) own started (by kernel_rfl) Tryz.func3
    (witness_row_atRef (enc := enc) (C := Tryz.checked) false (laidWorld os) ctypeTellsArgs rfl (by kernel_rfl) (by kernel_rfl) (by kernel_rfl) (ctypeTells_witness os enc)) ?_
  intro W base args ds gs before hval0 hW _ _ _ hL _ _
  have hval : ∀ (j : Nat) t v, Tryz.f3.params.toList[j]? = some t → args.toList[j]? = some v → Value.okWide Tryz.prog W .any base t v := fun j t v h1 h2 => hval0 j t v (by simpa using h1) (by simpa using h2)
  have hW' := hW
  obtain ⟨p, q, hA, hV, rfl, _, _⟩ := hW
  obtain ⟨rfl, rfl⟩ := trodVars_none hV
  rw [Tryz.params3] at hA hval
  obtain ⟨d0, d1, d2, d3, rfl⟩ := len4 (trodAll_len _ _ _ _ hA)
  obtain ⟨x, hx, hfit⟩ := args_rep _ tells12T.doms _ _ _ (by kernel_rfl) hval hA
  have hc := calls_law tells12_ok (old_bounded hL) hx (tells12_pre hfit)
  rw [Array.toArray_toList] at hc
  refine hc.mono ?_
  rintro e W' ⟨rfl, bel⟩
  have hlt : ∀ y ∈ p ++ [], y.block < W.heap.size := fun y hy => by simpa using hW'.lt y hy
  have e1 : ((OpenSpec.ofChange Rows.ctypeTellsSpec).at F).fn H ([d0, d1, d2, d3] ++ []) = { results := [.lit (.bool true)], args := [d0, d1, d2, d3] } := rfl
  refine ⟨_, rfl, _, _, _, [], p, [], hW', ?_, ?_, ?_, bel.frame _, fun h => by cases h⟩
  · rw [e1]; exact trodAll_mk1 (shut_bool Tryz.underlying4 _)
  · rw [e1, Tryz.params3]
    exact trodAll_stays laidOut bel _ _ _ _ (by kernel_rfl) hA (fun y hy => hlt y (by simp [hy])) (fun y hy => by simpa using hlt y (by simp [hy]))
  · rw [e1]; rfl
theorem ctypeTells_holds : Rows.CtypeTellsSaid :=
  OpenClaim.holds_of_cond 3 Tryz.f3 rfl rfl rfl rfl rfl rfl rfl ⟨rfl, rfl, rfl, rfl, rfl⟩ rfl rfl rfl rfl rfl (by kernel_rfl) Tryz.func3 (by kernel_rfl)
    (of_decide_eq_true (by kernel_rfl)) (by unfold Func.isWrapper; rw [if_neg (of_decide_eq_false (by kernel_rfl))]; exact ⟨rfl, rfl⟩)
    (fun os started H enc _ F0 => by
      rw [OpenClaim.pre_eq_preRow]
      have e : Rows.ctypeTellsRow.laid = laidL := by
        show [("unicode/utf8.acceptRanges", Rows.laid_unicode_utf8_acceptRanges), ("unicode/utf8.first", Rows.laid_unicode_utf8_first)] = laidL
        exact laid_eq
      rw [e]
      exact ctypeTells_lifted os started H enc F0)
/-- The law's tied card. -/
theorem ctypeTells_card : Rows.CtypeTellsCardSaid :=
  Claim7.holds_tied_plain_at .later [] [.data, .pinned] true (true, Rows.ctypeTellsCard.stood.harness.2) true
    ctypeTells_holds (fun _ h => by cases h) (by kernel_rfl) (fun _ h => by cases h) ctypeTells_row_tie rfl ⟨rfl, rfl⟩ (by kernel_rfl) rfl
    (fun f fn hf hfn => by
      obtain rfl : f = 3 := Option.some.inj ((show Tryz.prog.funcNamed "mailguard/mailguardlaw12.CtypeTells" = some 3 by kernel_rfl).symm.trans hf) |>.symm
      obtain rfl : fn = Tryz.f3 := (Option.some.inj (Tryz.func3.symm.trans hfn)).symm
      exact ⟨by kernel_rfl, noStand (by kernel_rfl)⟩)
    (by kernel_rfl)
#print axioms ctypeTells_card

end Go.Proofs.YtnbicdeehppgpaaGreatDoor
