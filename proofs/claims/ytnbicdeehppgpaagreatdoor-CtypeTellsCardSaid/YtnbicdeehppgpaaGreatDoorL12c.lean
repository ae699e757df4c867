/- Helper lemmas towards this seat's statements: a contract, proved for every input within its own premise, of functions of the program. -/
import Derived.Test.YtnbicdeehppgpaaGreatDoorL12b
import Derived.Test.YtnbicdeehppgpaaGreatDoorPlEsc
namespace Go.Proofs.YtnbicdeehppgpaaGreatDoor
open Go Go.Vx
set_option maxRecDepth 100000
set_option linter.unusedSimpArgs false
set_option linter.unusedVariables false
def ctValT (v : List UInt8) : List UInt8 := if tokF v = true then v else [34] ++ escF v ++ [34]
def ctParT (p : Param) : List UInt8 := [59, 32] ++ p.1 ++ [61] ++ ctValT p.2
def ctParsT : List Param → List UInt8
  | [] => []
  | p :: l => ctParT p ++ ctParsT l
def ctTextF (t : CType) : List UInt8 := t.1 ++ [47] ++ t.2.1 ++ ctParsT t.2.2
def ctPrintF (t : CType) : List UInt8 × Int := if ctRightF t = true then (ctTextF t, 0) else ([], 2)
theorem ctParsT_app : (a b : List Param) → ctParsT (a ++ b) = ctParsT a ++ ctParsT b
  | [], b => rfl
  | p :: a, b => by simp [ctParsT, ctParsT_app a b]
theorem escF_len : (s : List UInt8) → (escF s).length ≤ 2 * s.length
  | [] => Nat.le_refl _
  | b :: l => by
    have := escF_len l
    unfold escF
    split
    · simp only [List.length_cons]; omega
    split
    · simp only [List.length_cons]; omega
    · simp only [List.length_cons]; omega
theorem right_bounds {t : CType} (h : ctRightF t = true) : t.1.length ≤ 64 ∧ t.2.1.length ≤ 64 ∧ t.2.2.length ≤ 8 ∧ ∀ p ∈ t.2.2, p.1.length ≤ 64 ∧ p.2.length ≤ 70 := by
  simp only [ctRightF, Bool.and_eq_true, decide_eq_true_eq] at h
  obtain ⟨⟨⟨h1, h2⟩, h3⟩, h4⟩ := h
  have tk : ∀ s, tokF s = true → s.length ≤ 64 := fun s hs => by
    simp only [tokF, Bool.and_eq_true, decide_eq_true_eq] at hs
    exact hs.1.2
  refine ⟨tk _ h2, tk _ h3, h4, fun p hp => ?_⟩
  obtain ⟨i, hi, e⟩ := List.mem_iff_getElem.1 hp
  have h5 := List.all_eq_true.1 h1 i (List.mem_range.2 hi)
  have e2 : t.2.2.getD i tParam.dflt = p := by rw [List.getD_eq_getElem?_getD, List.getElem?_eq_getElem hi]; exact e
  unfold rightP at h5
  rw [e2] at h5
  simp only [Bool.and_eq_true, valF, decide_eq_true_eq] at h5
  exact ⟨tk _ h5.1.1, h5.1.2.2⟩
theorem ctParsT_len (ps : List Param) (h : ∀ p ∈ ps, p.1.length ≤ 64 ∧ p.2.length ≤ 70) : (ctParsT ps).length ≤ 300 * ps.length := by
  induction ps with
  | nil => exact Nat.le_refl _
  | cons p l ih =>
    have h1 := ih fun q hq => h q (by simp [hq])
    obtain ⟨h2, h3⟩ := h p (by simp)
    have h4 := escF_len p.2
    have h5 : (ctValT p.2).length ≤ 142 := by
      unfold ctValT
      split
      · omega
      · simp only [List.length_append, List.length_cons, List.length_nil]; omega
    simp only [ctParsT, ctParT, List.length_append, List.length_cons, List.length_nil] at h1 ⊢
    omega
end Go.Proofs.YtnbicdeehppgpaaGreatDoor
