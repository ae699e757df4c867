/- Helper lemmas towards this seat's statements: a contract, proved for every input within its own premise, of functions of the program. -/
import Derived.Test.YtnbicdeehppgpaaGreatDoorTrim
namespace Go.Proofs.YtnbicdeehppgpaaGreatDoor
open Go Go.Vx
set_option maxRecDepth 100000
set_option linter.unusedSimpArgs false
set_option linter.unusedVariables false
theorem byte_at (s : List UInt8) (i : Nat) (h : i < s.length) : (ByteArray.mk s.toArray).get! (i + 0) = s.getD i 0 := by
  show s.toArray[i + 0]! = _
  rw [Nat.add_zero, getElem!_pos s.toArray i (by simpa using h), List.getD_eq_getElem?_getD, List.getElem?_eq_getElem h]
  simp
theorem dec_ascii {s : List UInt8} {i : Nat} (h : i < s.length) (h1 : (s.getD i 0).toNat < 128) : dec s i = ((s.getD i 0).toNat, 1) := by
  unfold dec Utf8.decode
  simp only [byte_at s i h]
  rw [if_pos h1]
theorem dec_big {s : List UInt8} {i : Nat} (h : i < s.length) (h1 : 128 ≤ (s.getD i 0).toNat) : 128 ≤ (dec s i).1 ∧ 1 ≤ (dec s i).2 := by
  unfold dec Utf8.decode
  simp only [byte_at s i h]
  rw [if_neg (by omega)]
  have hr : 128 ≤ Utf8.runeError := by decide
  repeat' split
  all_goals first
    | exact ⟨hr, by decide⟩
    | (constructor <;> simp only <;> omega)
    | (rename_i h9; simp only [Bool.and_eq_true, decide_eq_true_eq] at h9; constructor <;> simp only <;> omega)
end Go.Proofs.YtnbicdeehppgpaaGreatDoor
