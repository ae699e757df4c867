/- Helper lemmas towards this seat's statements: a contract, proved for every input within its own premise, of functions of the program. -/
import Derived.Test.YtnbicdeehppgpaaGreatDoorPl
namespace Go.Proofs.YtnbicdeehppgpaaGreatDoor
open Go Go.Vx
set_option maxRecDepth 100000
set_option linter.unusedSimpArgs false
set_option linter.unusedVariables false
def upB (b : UInt8) : UInt8 := if 97 ≤ b.toNat ∧ b.toNat ≤ 122 then b - 32 else b
def loB (b : UInt8) : UInt8 := if 65 ≤ b.toNat ∧ b.toNat ≤ 90 then b + 32 else b
theorem upB_eq (b : UInt8) (h : 97 ≤ b.toNat ∧ b.toNat ≤ 122) : IntKind.u8.wrap (IntKind.u8.wrap ((b.toNat : Int) - 97) + 65) = ((upB b).toNat : Int) := by
  have : ∀ n : Fin 256, 97 ≤ (UInt8.ofNat n.val).toNat ∧ (UInt8.ofNat n.val).toNat ≤ 122 → IntKind.u8.wrap (IntKind.u8.wrap (((UInt8.ofNat n.val).toNat : Int) - 97) + 65) = ((upB (UInt8.ofNat n.val)).toNat : Int) := by decide +kernel
  have := this ⟨b.toNat, b.toNat_lt⟩
  simp only [UInt8.ofNat_toNat] at this
  exact this h
theorem loB_eq (b : UInt8) (h : 65 ≤ b.toNat ∧ b.toNat ≤ 90) : IntKind.u8.wrap (IntKind.u8.wrap ((b.toNat : Int) - 65) + 97) = ((loB b).toNat : Int) := by
  have : ∀ n : Fin 256, 65 ≤ (UInt8.ofNat n.val).toNat ∧ (UInt8.ofNat n.val).toNat ≤ 90 → IntKind.u8.wrap (IntKind.u8.wrap (((UInt8.ofNat n.val).toNat : Int) - 65) + 97) = ((loB (UInt8.ofNat n.val)).toNat : Int) := by decide +kernel
  have := this ⟨b.toNat, b.toNat_lt⟩
  simp only [UInt8.ofNat_toNat] at this
  exact this h
/-- The bytes while the first g of them have been turned. -/
def partB (f : UInt8 → UInt8) (s : List UInt8) (g : Nat) : List Int := ((s.take g).map f ++ s.drop g).map fun b => (b.toNat : Int)
theorem partB_zero (f : UInt8 → UInt8) (s : List UInt8) : partB f s 0 = s.map fun b => (b.toNat : Int) := by simp [partB]
theorem partB_len (f : UInt8 → UInt8) (s : List UInt8) (g : Nat) : (partB f s g).length = s.length := by simp [partB]; omega
theorem partB_at (f : UInt8 → UInt8) (s : List UInt8) (g : Nat) (h : g < s.length) (d : Int) : (partB f s g).getD g d = ((s.getD g 0).toNat : Int) := by
  simp only [partB, List.getD_eq_getElem?_getD, List.getElem?_map]
  rw [List.getElem?_append_right (by simp; omega)]
  simp [Nat.min_eq_left (Nat.le_of_lt h), List.getElem?_eq_getElem h]
theorem partB_set (f : UInt8 → UInt8) (s : List UInt8) (g : Nat) (h : g < s.length) : (partB f s g).set g ((f (s.getD g 0)).toNat : Int) = partB f s (g + 1) := by
  have e : ((s.take g).map f ++ s.drop g).set g (f (s.getD g 0)) = (s.take (g + 1)).map f ++ s.drop (g + 1) := by
    have hl : ((s.take g).map f).length = g := by rw [List.length_map, List.length_take]; omega
    rw [List.set_append_right _ _ (by omega), hl, Nat.sub_self, drop_at (d := (0 : UInt8)) h, List.set_cons_zero, List.take_add_one, List.map_append, List.getElem?_eq_getElem h]
    simp [List.getD_eq_getElem?_getD, List.getElem?_eq_getElem h]
  simp only [partB]
  rw [← e, List.map_set]
theorem partB_take (f : UInt8 → UInt8) (s : List UInt8) (g : Nat) : (partB f s g).take s.length = partB f s g := List.take_of_length_le (by rw [partB_len]; exact Nat.le_refl _)
theorem partB_same (f : UInt8 → UInt8) (s : List UInt8) (g : Nat) (h : g < s.length) (hf : f (s.getD g 0) = s.getD g 0) : partB f s g = partB f s (g + 1) := by
  rw [← partB_set f s g h, hf, ← partB_at f s g h 0]
  rw [List.getD_eq_getElem?_getD, List.getElem?_eq_getElem (by rw [partB_len]; exact h)]
  simp
theorem partB_end (f : UInt8 → UInt8) (s : List UInt8) (g : Nat) (h : s.length ≤ g) : ((partB f s g).map fun n => UInt8.ofNat n.toNat) = s.map f := by
  simp [partB, List.take_of_length_le h, List.drop_eq_nil_of_le h]
theorem take_snocG {α : Type} {l : List α} {d : α} {g : Nat} (h : g < l.length) : l.take (g + 1) = l.take g ++ [l.getD g d] := by
  rw [List.take_add_one, List.getElem?_eq_getElem h, List.getD_eq_getElem?_getD, List.getElem?_eq_getElem h]; rfl
end Go.Proofs.YtnbicdeehppgpaaGreatDoor
