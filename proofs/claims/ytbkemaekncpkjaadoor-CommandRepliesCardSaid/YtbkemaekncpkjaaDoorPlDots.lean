/- Helper lemmas towards this seat's statements: a contract, proved for every input within its own premise, of functions of the program. -/
import Derived.Test.YtbkemaekncpkjaaDoorAddr2
import Derived.Test.YtbkemaekncpkjaaDoorPlTrim
namespace Go.Proofs.YtbkemaekncpkjaaDoor
open Go Go.Vx
set_option maxRecDepth 100000
/-- Dots are single, and within: has a dot, or the beginning, just been? -/
def dotsR : Bool → List UInt8 → Bool
  | pd, [] => !pd
  | pd, b :: l => if b == 46 then !pd && dotsR true l else dotsR false l
def full (p : List UInt8) : Bool := !(p == [])
theorem split_dots : (s : List UInt8) → (splitC 46 s).all full = dotsR true s ∧ (splitC 46 s).tail.all full = dotsR false s
  | [] => by simp [splitC, dotsR, full]
  | b :: l => by
    obtain ⟨h1, h2⟩ := split_dots l
    unfold splitC
    by_cases hb : (b == 46) = true
    · simp only [hb, if_true, List.all_cons, List.tail_cons, dotsR, h1]
      simp [full]
    · simp only [hb, Bool.false_eq_true, if_false, dotsR]
      have hl := splitC_length 46 l
      cases e : splitC 46 l with
      | nil => rw [e] at hl; simp at hl
      | cons x t =>
        rw [e, List.tail_cons] at h2
        simp only [List.all_cons, List.tail_cons, h2]
        simp [full]
theorem split_all (c : UInt8) (q : UInt8 → Bool) : (s : List UInt8) → ((splitC c s).all fun p => p.all q) = s.all fun b => b == c || q b
  | [] => by simp [splitC]
  | b :: l => by
    have h1 := split_all c q l
    unfold splitC
    by_cases hb : (b == c) = true
    · simp only [hb, if_true, List.all_cons, List.all_nil, h1, Bool.true_or, Bool.true_and]
    · simp only [hb, Bool.false_eq_true, if_false, List.all_cons, Bool.false_or]
      cases e : splitC c l with
      | nil => have hl := splitC_length c l; rw [e] at hl; simp at hl
      | cons x t =>
        rw [e] at h1
        simp only [List.all_cons] at h1 ⊢
        rw [← h1, Bool.and_assoc]
theorem ofF_eq (cs s : List UInt8) : ofF cs s = (full s && s.all (isIn cs)) := by
  rw [Bool.eq_iff_iff]
  unfold ofF full
  rw [Bool.and_eq_true, Bool.and_eq_true, beq_iff_eq, trim_nil', List.all_eq_true]
theorem all_and {α : Type} (p q : α → Bool) (l : List α) : (l.all fun x => p x && q x) = (l.all p && l.all q) := by
  induction l with
  | nil => rfl
  | cons a l ih => simp only [List.all_cons, ih]; cases p a <;> cases q a <;> simp
theorem dottedF_eq (cs s : List UInt8) : dottedF cs s = ((s.all fun b => b == 46 || isIn cs b) && (dotsR true s && decide (s.length ≤ 64))) := by
  unfold dottedF
  rw [show ofF cs = fun x => full x && x.all (isIn cs) from funext (ofF_eq cs), all_and, (split_dots s).1, split_all]
  cases dotsR true s <;> cases (s.all fun b => b == 46 || isIn cs b) <;> simp
theorem trim_same (p : UInt8 → Bool) (s : List UInt8) : trimL p (trimR p s) = s ↔ s = [] ∨ (p (s.getD 0 0) = false ∧ p (s.getD (s.length - 1) 0) = false) := by
  by_cases h0 : s = []
  · subst h0; simp [trimL, trimR]
  · have hl : 0 < s.length := List.length_pos_iff.2 h0
    have rl : ∀ t : List UInt8, (trimR p t).length ≤ t.length := fun t => by
      unfold trimR; rw [List.length_reverse]
      have := (List.dropWhile_sublist p (l := t.reverse)).length_le
      simpa using this
    constructor
    · intro h
      refine .inr ⟨?_, ?_⟩
      · cases hp : p (s.getD 0 0) with
        | false => rfl
        | true =>
          have h1 := trimR_last p s hl
          have h2 := congrArg List.length h
          have h3 := trimL_len p (trimR p s)
          have h4 := rl s
          have e : trimR p s = s := by
            by_cases hq : p (s.getD (s.length - 1) 0) = true
            · rw [if_pos hq] at h1
              have := rl (s.take (s.length - 1))
              rw [← h1, List.length_take] at this
              omega
            · rw [if_neg hq] at h1; exact h1
          rw [e, trimL_head p s hl, if_pos hp] at h2
          have := trimL_len p (s.drop 1)
          rw [h2, List.length_drop] at this
          omega
      · cases hq : p (s.getD (s.length - 1) 0) with
        | false => rfl
        | true =>
          have h1 := trimR_last p s hl
          rw [if_pos hq] at h1
          have h2 := congrArg List.length h
          have h3 := trimL_len p (trimR p s)
          have := rl (s.take (s.length - 1))
          rw [← h1, List.length_take] at this
          omega
    · rintro (h | ⟨h1, h2⟩)
      · exact absurd h h0
      · rw [trimR_last p s hl, if_neg (by rw [h2]; simp), trimL_head p s hl, if_neg (by rw [h1]; simp)]
theorem indexByte_first (c : UInt8) : (s t : List UInt8) → (∀ x ∈ s, x ≠ c) → Lib.indexByte (s ++ c :: t) c = s.length
  | [], t, _ => by simp [Lib.indexByte]
  | b :: l, t, h => by
    have hb : (b == c) = false := by simpa using h b (by simp)
    have ih := indexByte_first c l t (fun x hx => h x (by simp [hx]))
    simp only [List.cons_append, Lib.indexByte, hb, ih]
    simp
theorem cutAt_first (c : UInt8) (s t : List UInt8) (h : ∀ x ∈ s, x ≠ c) : cutAt (s ++ c :: t) c = (s, t, true, ()) := by
  unfold cutAt
  rw [indexByte_first c s t h, if_neg (by omega)]
  simp only [Int.toNat_natCast]
  rw [List.take_left' rfl, show s.length + 1 = (s ++ [c]).length by simp, show s ++ c :: t = (s ++ [c]) ++ t by simp, List.drop_left' rfl]
theorem indexByte_none (c : UInt8) : (s : List UInt8) → (∀ x ∈ s, x ≠ c) → Lib.indexByte s c = -1
  | [], _ => rfl
  | b :: l, h => by
    have hb : (b == c) = false := by simpa using h b (by simp)
    simp [Lib.indexByte, hb, indexByte_none c l (fun x hx => h x (by simp [hx]))]
/-- Where the first c stands at g, or none at all. -/
theorem cutAt_at (c : UInt8) (s : List UInt8) (g : Nat) (h : ∀ x ∈ s.take g, x ≠ c) (hg : g < s.length) (hc : s.getD g 0 = c) : cutAt s c = (s.take g, s.drop (g + 1), true, ()) := by
  have e : s = s.take g ++ c :: s.drop (g + 1) := by
    conv => lhs; rw [← List.take_append_drop g s, drop_at (d := 0) hg, hc]
  conv => lhs; rw [e]
  exact cutAt_first c _ _ h
theorem cutAt_none (c : UInt8) (s : List UInt8) (h : ∀ x ∈ s, x ≠ c) : cutAt s c = (s, [], false, ()) := by
  unfold cutAt
  rw [indexByte_none c s h, if_pos rfl]
theorem take_ne (c : UInt8) (s : List UInt8) (g : Nat) (h : ∀ x ∈ s.take g, x ≠ c) (hg : g < s.length) (hc : s.getD g 0 ≠ c) : ∀ x ∈ s.take (g + 1), x ≠ c := by
  intro x hx
  rw [List.take_add_one, List.mem_append] at hx
  rcases hx with hx | hx
  · exact h x hx
  · rw [List.getD_eq_getElem?_getD] at hc
    cases e : s[g]? with
    | none => rw [e] at hx; simp at hx
    | some y => rw [e] at hx hc; simp at hx hc; subst hx; exact hc
end Go.Proofs.YtbkemaekncpkjaaDoor
