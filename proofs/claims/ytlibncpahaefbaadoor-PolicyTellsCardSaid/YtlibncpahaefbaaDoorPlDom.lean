/- Helper lemmas towards this seat's statements: a contract, proved for every input within its own premise, of functions of the program. -/
import Derived.Test.YtlibncpahaefbaaDoorL01
import Derived.Test.YtlibncpahaefbaaDoorPl
namespace Go.Proofs.YtlibncpahaefbaaDoor
open Go Go.Vx
def B64 (x : Int) : BitVec 64 := BitVec.ofInt 64 x
theorem wrap_u64_nat (n : Nat) (h : n < 18446744073709551616) : IntKind.u64.wrap (n : Int) = n := by
  simp only [IntKind.wrap, IntKind.bits, IntKind.signed]
  simp
  omega
theorem andNot_iff (x y : Int) : (bits .andNot .u64 x y == 0) = true ↔ ∀ i, (B64 x).getLsbD i = true → (B64 y).getLsbD i = true := by
  have e : bits .andNot .u64 x y = ((B64 x &&& ~~~(B64 y)).toNat : Int) := wrap_u64_nat _ (B64 x &&& ~~~(B64 y)).isLt
  rw [e, beq_iff_eq]
  constructor
  · intro h i hi
    have h0 : B64 x &&& ~~~(B64 y) = 0#64 := by
      apply BitVec.eq_of_toNat_eq
      have : (B64 x &&& ~~~(B64 y)).toNat = 0 := by omega
      rw [this]; rfl
    have h1 := congrArg (fun v => v.getLsbD i) h0
    simp only [BitVec.getLsbD_and, BitVec.getLsbD_not, hi, Bool.true_and, BitVec.getLsbD_zero] at h1
    have hlt : i < 64 := by
      rcases Nat.lt_or_ge i 64 with h | h
      · exact h
      · rw [BitVec.getLsbD_of_ge _ _ h] at hi; cases hi
    simpa [hlt] using h1
  · intro h
    have h0 : B64 x &&& ~~~(B64 y) = 0#64 := by
      apply BitVec.eq_of_getLsbD_eq
      intro i hi
      simp only [BitVec.getLsbD_and, BitVec.getLsbD_not, BitVec.getLsbD_zero]
      cases hx : (B64 x).getLsbD i with
      | false => simp
      | true => simp [h i hx]
    rw [h0]; rfl
theorem dom_iff (a b : Int × Int) : dominates a b = true ↔ b.1 ≤ a.1 ∧ ∀ i, (B64 b.2).getLsbD i = true → (B64 a.2).getLsbD i = true := by
  simp only [dominates, Bool.and_eq_true, decide_eq_true_eq, andNot_iff]
theorem dom_refl (a : Int × Int) : dominates a a = true := (dom_iff a a).2 ⟨Int.le_refl _, fun _ h => h⟩
theorem dom_trans {a b c : Int × Int} (h1 : dominates a b = true) (h2 : dominates b c = true) : dominates a c = true := by
  rw [dom_iff] at *
  exact ⟨Int.le_trans h2.1 h1.1, fun i h => h1.2 i (h2.2 i h)⟩
theorem B64_inj {x y : Int} (hx : 0 ≤ x ∧ x < 18446744073709551616) (hy : 0 ≤ y ∧ y < 18446744073709551616) (h : B64 x = B64 y) : x = y := by
  have := congrArg BitVec.toNat h
  simp only [B64, BitVec.toNat_ofInt] at this
  omega
theorem dom_antisymm {a b : Int × Int} (ha : 0 ≤ a.2 ∧ a.2 < 18446744073709551616) (hb : 0 ≤ b.2 ∧ b.2 < 18446744073709551616) (h1 : dominates a b = true) (h2 : dominates b a = true) : a = b := by
  rw [dom_iff] at *
  have e : B64 a.2 = B64 b.2 := by
    apply BitVec.eq_of_getLsbD_eq
    intro i hi
    cases hx : (B64 a.2).getLsbD i with
    | true => exact (h2.2 i hx).symm
    | false =>
      cases hy : (B64 b.2).getLsbD i with
      | true => rw [h1.2 i hy] at hx; cases hx
      | false => rfl
  exact Prod.ext (Int.le_antisymm h2.1 h1.1) (B64_inj ha hb e)
end Go.Proofs.YtlibncpahaefbaaDoor
