/- Plain lemmas on numbers and lists; no condition. -/
import Derived.Test.YtnbicdeehppgpaaGreatDoorVxR
namespace Go.Proofs.YtnbicdeehppgpaaGreatDoor
open Go Go.Vx
abbrev tLabel : Ty := .pair (.int .i64) (.int .u64)
abbrev tUser : Ty := .pair .str (.int .i64)
theorem w64 {n : Int} (h1 : -9223372036854775808 ≤ n) (h2 : n ≤ 9223372036854775807) : IntKind.i64.wrap n = n := by
  simp only [IntKind.wrap, IntKind.bits, IntKind.signed]
  simp
  split <;> omega
theorem w64' {n : Int} (h : -9223372036854775808 ≤ n ∧ n ≤ 9223372036854775807) : IntKind.i64.wrap n = n := w64 h.1 h.2
theorem w64_succ {i : Nat} {n : Nat} (h : i < n) (hn : n ≤ 9223372036854775807) : IntKind.i64.wrap ((i : Int) + 1) = ((i + 1 : Nat) : Int) := by
  rw [w64 (by omega) (by omega)]; omega
theorem drop_at {α : Type} {l : List α} {i : Nat} {d : α} (h : i < l.length) : l.drop i = l.getD i d :: l.drop (i + 1) := by
  rw [List.drop_eq_getElem_cons h, List.getD_eq_getElem?_getD, List.getElem?_eq_getElem h]; rfl
theorem getD_mem {α : Type} {l : List α} {i : Nat} {d : α} (h : i < l.length) : l.getD i d ∈ l := by
  rw [List.getD_eq_getElem?_getD, List.getElem?_eq_getElem h]; simp
theorem some_pair {α : Type} {a b : α} (h : a = b) : (a, ()) = (b, ()) := by rw [h]
end Go.Proofs.YtnbicdeehppgpaaGreatDoor
