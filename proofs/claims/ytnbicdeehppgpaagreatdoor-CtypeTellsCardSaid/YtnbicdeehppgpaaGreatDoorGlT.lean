/- A part of a small verifier for the model's programs, proved sound for any program; no condition. -/
import Derived.Test.YtnbicdeehppgpaaGreatDoorVxB
namespace Go.Vx
open Go
/-- The library's tables that are read: their types and data. -/
def glTyp : Nat → Option ((t : Ty) × t.D) := fun _ => none
theorem glTyp_ok (P : Program) (S : Nat → Prop) (w : World) (g : Nat) (x : (t : Ty) × t.D) (h : glTyp g = some x) : ∃ cs, glTab g = some cs ∧ Rep P x.1 S w x.2 cs := by simp [glTyp] at h
end Go.Vx
