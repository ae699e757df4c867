/- Helper lemmas towards this seat's statements: a contract, proved for every input within its own premise, of functions of the program. -/
import Derived.Test.YtlibncpahaefbaaDoorShelf
import Derived.Shelf.Strconv.Itoa0
namespace Go.Proofs.YtlibncpahaefbaaDoor
open Go Go.Vx Go.RowKit
set_option maxRecDepth 100000
set_option linter.unusedSimpArgs false
set_option linter.unusedVariables false
theorem bitLenAux_le (f : Nat) : ∀ n k : Nat, n < 2 ^ f → (Lib.bitLenAux f n ≤ k ↔ n < 2 ^ k) := by
  induction f with
  | zero =>
    intro n k h
    have h0 : n = 0 := by simpa using h
    subst h0
    simp [Lib.bitLenAux, Nat.two_pow_pos]
  | succ f ih =>
    intro n k h
    unfold Lib.bitLenAux
    by_cases h0 : n = 0
    · subst h0; simp; exact Nat.two_pow_pos k
    · rw [if_neg h0]
      cases k with
      | zero => simp; omega
      | succ k =>
        have := ih (n / 2) k (by rw [Nat.pow_succ] at h; omega)
        rw [Nat.pow_succ]
        omega
theorem bitLen_le (n k : Nat) (h : n < 18446744073709551616) : Lib.bitLen n ≤ k ↔ n < 2 ^ k := bitLenAux_le 64 n k h
def Tryd.lays129_ren : Go.Shelf.Ren := ⟨fun | 129 => 47 | n => n, fun | 53 => 54 | 3 => 3 | 4 => 4 | 46 => 90 | 5 => 5 | 9 => 9 | n => n, fun | n => n⟩
theorem Tryd.lays129 : Go.Proofs.Lays.n129 Tryd.prog Tryd.lays129_ren := {
  mixed := by kernel_rfl
  f129 := Tryd.func47.trans (congrArg some (by kernel_rfl))
  t3 := Tryd.underlying3
  a3 := Tryd.isAgg3
  z3 := Tryd.sizeOf3
  v3 := Tryd.zeroValue3
  t4 := Tryd.underlying4
  a4 := Tryd.isAgg4
  z4 := Tryd.sizeOf4
  v4 := Tryd.zeroValue4
  t5 := Tryd.underlying5
  a5 := Tryd.isAgg5
  z5 := Tryd.sizeOf5
  v5 := Tryd.zeroValue5
  t9 := Tryd.underlying9
  a9 := Tryd.isAgg9
  z9 := Tryd.sizeOf9
  v9 := Tryd.zeroValue9
  t46 := Tryd.underlying90
  a46 := Tryd.isAgg90
  z46 := Tryd.sizeOf90
  v46 := Tryd.zeroValue90
  t53 := Tryd.underlying54
  a53 := Tryd.isAgg54
  z53 := Tryd.sizeOf54
  v53 := Tryd.zeroValue54 }
theorem Tryd.bits_Len64 (x : Int) (w : World) (h0 : 0 ≤ x) (h1 : x ≤ 18446744073709551615) :
    Calls Tryd.prog 47 #[.int .u64 x] w fun e w' => e = .returned (.int .i64 (Lib.bitLen x.toNat)) ∧ w' = w := Any.bits_Len64 Tryd.lays129 x w h0 h1
def len64T : TF := { doms := [.int .u64], cods := [.int .i64], pre := fun x => 0 ≤ (x.1 : Int) ∧ (x.1 : Int) < 18446744073709551616, fn := fun x => ((Lib.bitLen (x.1 : Int).toNat : Int), ()) }
theorem len64_ok : TFOk Tryd.prog 47 len64T := by
  refine tf_below rfl rfl ?_
  rintro S w hb ⟨(n : Int), _⟩ vs hx ho
  obtain ⟨v, hv, h2⟩ := argsRep_one hx
  have h0 : 0 ≤ n := ho.1
  have h1 : n < 18446744073709551616 := ho.2
  simp only [RepV, valueOf, Ty.isAgg, Bool.false_eq_true, if_false, Rep, List.cons.injEq, and_true] at h2
  rw [hv, h2]
  refine (Tryd.bits_Len64 n w h0 (by omega)).mono fun e w' ⟨he, hw⟩ => ⟨_, he, ?_, by rw [hw]; exact Below.refl _ _⟩
  refine ⟨[_], ⟨_, _, rfl, ?_, rfl⟩, rfl⟩ <;> simp [RepV, valueOf, Ty.isAgg, Rep, len64T]
end Go.Proofs.YtlibncpahaefbaaDoor
