/- Helper lemmas towards this seat's statements: a contract, proved for every input within its own premise, of functions of the program. -/
import Derived.Test.YtnbicdeehppgpaaGreatDoorLaw12
import Derived.Test.YtnbicdeehppgpaaGreatDoorL12d
namespace Go.Proofs.YtnbicdeehppgpaaGreatDoor
open Go Go.Vx
set_option maxRecDepth 100000
set_option linter.unusedSimpArgs false
set_option linter.unusedVariables false
def hasF (ps : List Param) (name : List UInt8) (g : Nat) : Bool := (ps.take g).any fun p => p.1 == name
theorem hasF_zero (ps : List Param) (name : List UInt8) : hasF ps name 0 = false := by simp [hasF]
theorem hasF_succ {ps : List Param} {name : List UInt8} {g : Nat} (h : g < ps.length) : hasF ps name (g + 1) = (hasF ps name g || ((ps.getD g tParam.dflt).1 == name)) := by
  unfold hasF
  rw [take_snocG (d := tParam.dflt) h]
  simp
theorem find_first {ps : List Param} {name : List UInt8} {g : Nat} (h : g < ps.length) (h0 : hasF ps name g = false) (h1 : (ps.getD g tParam.dflt).1 = name) : ctParamF ps name = ((ps.getD g tParam.dflt).2, true) := by
  unfold hasF at h0
  have e : ps = ps.take g ++ ps.getD g tParam.dflt :: ps.drop (g + 1) := by
    conv => lhs; rw [← List.take_append_drop g ps, drop_at (d := tParam.dflt) h]
  have hn : (ps.take g).find? (fun p => p.1 == name) = none := by
    rw [List.find?_eq_none]
    intro p hp hc
    have := List.any_eq_false.1 h0 p hp
    exact this hc
  have hc : ((ps.getD g tParam.dflt).1 == name) = true := by rw [h1]; exact beq_self_eq_true _
  generalize ps.getD g tParam.dflt = p at *
  have hf : ps.find? (fun p => p.1 == name) = some p := by
    rw [e, List.find?_append, hn, List.find?_cons, hc]
    rfl
  unfold ctParamF
  rw [hf]
theorem find_has (ps : List Param) (name : List UInt8) : (ctParamF ps name).2 = hasF ps name ps.length ∧ (hasF ps name ps.length = false → (ctParamF ps name).1 = []) := by
  unfold ctParamF hasF
  rw [List.take_length]
  cases hc : ps.find? fun p => p.1 == name with
  | none =>
    rw [List.find?_eq_none] at hc
    refine ⟨(List.any_eq_false.2 fun p hp => hc p hp).symm, fun _ => rfl⟩
  | some p =>
    have h1 := List.find?_some hc
    have h2 := List.mem_of_find?_eq_some hc
    have : ps.any (fun p => p.1 == name) = true := List.any_eq_true.2 ⟨p, h2, h1⟩
    exact ⟨this.symm, fun h => by rw [this] at h; cases h⟩
theorem print_ok (t : CType) : ((ctPrintF t).2 = 0 ↔ ctRightF t = true) ∧ (ctRightF t = false → (ctPrintF t).1 = []) ∧ ((ctPrintF t).2 = 0 ∨ (ctPrintF t).2 = 2) := by
  unfold ctPrintF
  by_cases h : ctRightF t = true
  · rw [if_pos h]; simp [h]
  · rw [if_neg h]; simp [h]
end Go.Proofs.YtnbicdeehppgpaaGreatDoor
