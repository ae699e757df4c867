/- Helper lemmas towards this seat's statements: a contract, proved for every input within its own premise, of functions of the program. -/
import Derived.Test.YtnbicdeehppgpaaGreatDoorPart
import Derived.Test.YtnbicdeehppgpaaGreatDoorStr
namespace Go.Proofs.YtnbicdeehppgpaaGreatDoor
open Go Go.Vx
set_option maxRecDepth 100000
set_option linter.unusedSimpArgs false
set_option linter.unusedVariables false
/-- Quotes and backslashes, each behind a backslash. -/
def escF : List UInt8 → List UInt8
  | [] => []
  | b :: l => if b = 34 then 92 :: 34 :: escF l else if b = 92 then 92 :: 92 :: escF l else b :: escF l
def cntE : List UInt8 → Nat
  | [] => 0
  | b :: l => (if b = 34 then 1 else if b = 92 then 1 else 0) + cntE l
theorem escF_app : (a b : List UInt8) → escF (a ++ b) = escF a ++ escF b
  | [], b => rfl
  | x :: a, b => by
    simp only [List.cons_append, escF, escF_app a b]
    split
    · rfl
    split <;> rfl
theorem cntE_app : (a b : List UInt8) → cntE (a ++ b) = cntE a + cntE b
  | [], b => by simp [cntE]
  | x :: a, b => by simp only [List.cons_append, cntE, cntE_app a b]; omega
theorem escF_length : (s : List UInt8) → (escF s).length = s.length + cntE s
  | [] => rfl
  | b :: l => by
    have := escF_length l
    simp only [escF, cntE, List.length_cons]
    split
    · simp only [List.length_cons]; omega
    split
    · simp only [List.length_cons]; omega
    · simp only [List.length_cons]; omega
theorem cntE_le : (s : List UInt8) → cntE s ≤ s.length
  | [] => Nat.le_refl _
  | b :: l => by
    have := cntE_le l
    simp only [cntE, List.length_cons]
    split
    · omega
    split <;> omega
theorem escF_same : (s : List UInt8) → cntE s = 0 → escF s = s
  | [], _ => rfl
  | b :: l, h => by
    simp only [cntE] at h
    simp only [escF]
    split
    · rename_i h1; rw [if_pos h1] at h; omega
    · rename_i h1
      rw [if_neg h1] at h
      split
      · rename_i h2; rw [if_pos h2] at h; omega
      · rename_i h2
        rw [if_neg h2] at h
        rw [escF_same l (by omega)]
theorem cntE_count : (s : List UInt8) → cntE s = Lib.countByte s 92 + Lib.countByte s 34
  | [] => rfl
  | b :: l => by
    have := cntE_count l
    simp only [cntE, Lib.countByte, List.count_cons, beq_iff_eq] at this ⊢
    by_cases h1 : b = 34
    · subst h1
      simp
      omega
    · by_cases h2 : b = 92
      · subst h2
        simp
        omega
      · simp [h1, h2]
        omega
theorem cnt_snoc (s : List UInt8) (g : Nat) (h : g < s.length) : cntE (s.take (g + 1)) = cntE (s.take g) + (if s.getD g 0 = 34 then 1 else if s.getD g 0 = 92 then 1 else 0) := by
  rw [take_snocG (d := (0 : UInt8)) h, cntE_app]
  simp [cntE]
theorem cnt_mono (s : List UInt8) (g : Nat) : cntE (s.take g) ≤ cntE s := by
  conv => rhs; rw [← List.take_append_drop g s, cntE_app]
  omega
/-- What has been written, zeros behind it. -/
def filled (s : List UInt8) (g : Nat) : List Int := (escF (s.take g)).map (fun b => (b.toNat : Int)) ++ List.replicate ((escF s).length - (escF (s.take g)).length) 0
theorem esc_take_le (s : List UInt8) (g : Nat) : (escF (s.take g)).length ≤ (escF s).length := by
  conv => rhs; rw [← List.take_append_drop g s, escF_app]
  simp
theorem filled_zero (s : List UInt8) : filled s 0 = List.replicate (escF s).length 0 := by simp [filled, escF]
theorem filled_len (s : List UInt8) (g : Nat) : (filled s g).length = (escF s).length := by
  have := esc_take_le s g
  simp only [filled, List.length_append, List.length_map, List.length_replicate]; omega
theorem filled_take (s : List UInt8) (g : Nat) : (filled s g).take (escF s).length = filled s g := List.take_of_length_le (by rw [filled_len]; exact Nat.le_refl _)
theorem esc_snoc (s : List UInt8) (g : Nat) (h : g < s.length) : escF (s.take (g + 1)) = escF (s.take g) ++ escF [s.getD g 0] := by
  rw [take_snocG (d := (0 : UInt8)) h, escF_app]
theorem filled_put (s : List UInt8) (g : Nat) (h : g < s.length) : (filled s g).take (escF (s.take g)).length ++ ((escF [s.getD g 0]).map (fun b => (b.toNat : Int)) ++ (filled s g).drop ((escF (s.take g)).length + (escF [s.getD g 0]).length)) = filled s (g + 1) := by
  have h1 := esc_take_le s (g + 1)
  have e := esc_snoc s g h
  rw [e, List.length_append] at h1
  have hl : ((escF (s.take g)).map (fun b => (b.toNat : Int))).length = (escF (s.take g)).length := List.length_map _
  have t1 : (filled s g).take (escF (s.take g)).length = (escF (s.take g)).map (fun b => (b.toNat : Int)) := by
    unfold filled
    rw [List.take_append_of_le_length (by omega), List.take_of_length_le (by omega)]
  have t2 : (filled s g).drop ((escF (s.take g)).length + (escF [s.getD g 0]).length) = List.replicate ((escF s).length - ((escF (s.take g)).length + (escF [s.getD g 0]).length)) 0 := by
    unfold filled
    rw [List.drop_append, List.drop_of_length_le (by omega), List.nil_append, List.drop_replicate, hl]
    congr 1
    omega
  rw [t1, t2]
  unfold filled
  rw [e, List.map_append, List.append_assoc, List.length_append]
theorem filled_two (s : List UInt8) (g : Nat) (h : g < s.length) (hc : s.getD g 0 = 34 ∨ s.getD g 0 = 92) : (filled s g).take (escF (s.take g)).length ++ ([92, ((s.getD g 0).toNat : Int)] ++ (filled s g).drop ((escF (s.take g)).length + 2)) = filled s (g + 1) := by
  have := filled_put s g h
  rcases hc with hc | hc <;> rw [hc] at this ⊢ <;> exact this
theorem filled_one (s : List UInt8) (g : Nat) (h : g < s.length) (h1 : ¬ s.getD g 0 = 34) (h2 : ¬ s.getD g 0 = 92) : (filled s g).set (escF (s.take g)).length ((s.getD g 0).toNat : Int) = filled s (g + 1) := by
  rw [← filled_put s g h]
  have e : escF [s.getD g 0] = [s.getD g 0] := by simp only [escF, if_neg h1, if_neg h2]
  rw [e]
  have hlt : (escF (s.take g)).length < (filled s g).length := by
    have h3 := esc_take_le s (g + 1)
    rw [esc_snoc s g h, e, List.length_append] at h3
    rw [filled_len]
    simp at h3
    omega
  rw [List.set_eq_take_append_cons_drop, if_pos hlt]
  rfl
theorem filled_end (s : List UInt8) (g : Nat) (h : s.length ≤ g) : ((filled s g).map fun n => UInt8.ofNat n.toNat) = escF s := by
  unfold filled
  rw [List.take_of_length_le h]
  simp [Function.comp_def]
end Go.Proofs.YtnbicdeehppgpaaGreatDoor
