/- Helper lemmas towards this seat's statements: a contract, proved for every input within its own premise, of functions of the program. -/
import Derived.Test.YtnbicdeehppgpaaGreatDoorTrim
namespace Go.Proofs.YtnbicdeehppgpaaGreatDoor
open Go Go.Vx
set_option maxRecDepth 100000
theorem dropWhile_nil {α : Type} (p : α → Bool) (l : List α) : l.dropWhile p = [] ↔ ∀ x ∈ l, p x = true := by
  induction l with
  | nil => simp
  | cons a l ih =>
    rw [List.dropWhile_cons]
    by_cases h : p a = true
    · rw [if_pos h, ih]; simp [h]
    · rw [if_neg h]; simp [h]
theorem trim_nil (p : UInt8 → Bool) (s : List UInt8) : trimL p (trimR p s) = [] ↔ ∀ x ∈ s, p x = true := by
  unfold trimL
  rw [dropWhile_nil]
  unfold trimR
  constructor
  · intro h
    have h2 : s.reverse.dropWhile p = [] := by
      cases e : s.reverse.dropWhile p with
      | nil => rfl
      | cons a l =>
        have h3 : p a = true := h a (by rw [e]; simp)
        have h4 : ¬ p a = true := by
          have := List.head_dropWhile_not (p := p) (l := s.reverse) (w := by rw [e]; simp)
          simp only [e, List.head_cons] at this
          rw [this]; simp
        exact absurd h3 h4
    rw [dropWhile_nil] at h2
    intro x hx
    exact h2 x (by simpa using hx)
  · intro h x hx
    rw [List.mem_reverse] at hx
    exact h x (by have := (List.dropWhile_sublist p).subset hx; simpa using this)
theorem trim_nil' (p : UInt8 → Bool) (s : List UInt8) : trimR p (trimL p s) = [] ↔ ∀ x ∈ s, p x = true := by
  unfold trimR
  rw [List.reverse_eq_nil_iff, dropWhile_nil]
  unfold trimL
  constructor
  · intro h
    have h2 : s.dropWhile p = [] := by
      cases e : s.dropWhile p with
      | nil => rfl
      | cons a l =>
        have h3 : p a = true := h a (by rw [e]; simp)
        have h4 : ¬ p a = true := by
          have := List.head_dropWhile_not (p := p) (l := s) (w := by rw [e]; simp)
          simp only [e, List.head_cons] at this
          rw [this]; simp
        exact absurd h3 h4
    exact (dropWhile_nil p s).1 h2
  · intro h x hx
    exact h x ((List.dropWhile_sublist p).subset (by simpa using hx))
end Go.Proofs.YtnbicdeehppgpaaGreatDoor
