/- Helper lemmas towards this seat's statements: a contract, proved for every input within its own premise, of functions of the program. -/
import Derived.Test.YtlibncpahaefbaaDoorPl19
namespace Go.Proofs.YtlibncpahaefbaaDoor
open Go Go.Vx
set_option maxRecDepth 100000
set_option linter.unusedSimpArgs false
set_option linter.unusedVariables false
theorem dropWhile_nil {α : Type} (p : α → Bool) (l : List α) : l.dropWhile p = [] ↔ ∀ x ∈ l, p x = true := by
  induction l with
  | nil => simp
  | cons a l ih =>
    rw [List.dropWhile_cons]
    by_cases h : p a = true
    · rw [if_pos h, ih]; simp [h]
    · rw [if_neg h]; simp [h]
theorem trim_nil (p : UInt8 → Bool) (s : List UInt8) : trimL p (trimR p s) = [] ↔ ∀ x ∈ s, p x = true := by
  unfold trimL
  rw [dropWhile_nil]
  unfold trimR
  constructor
  · intro h
    have h2 : s.reverse.dropWhile p = [] := by
      cases e : s.reverse.dropWhile p with
      | nil => rfl
      | cons a l =>
        have h3 : p a = true := h a (by rw [e]; simp)
        have h4 : ¬ p a = true := by
          have := List.head_dropWhile_not (p := p) (l := s.reverse) (w := by rw [e]; simp)
          simp only [e, List.head_cons] at this
          rw [this]; simp
        exact absurd h3 h4
    rw [dropWhile_nil] at h2
    intro x hx
    exact h2 x (by simpa using hx)
  · intro h x hx
    rw [List.mem_reverse] at hx
    exact h x (by have := (List.dropWhile_sublist p).subset hx; simpa using this)
theorem trim_nil' (p : UInt8 → Bool) (s : List UInt8) : trimR p (trimL p s) = [] ↔ ∀ x ∈ s, p x = true := by
  unfold trimR
  rw [List.reverse_eq_nil_iff, dropWhile_nil]
  unfold trimL
  constructor
  · intro h
    have h2 : s.dropWhile p = [] := by
      cases e : s.dropWhile p with
      | nil => rfl
      | cons a l =>
        have h3 : p a = true := h a (by rw [e]; simp)
        have h4 : ¬ p a = true := by
          have := List.head_dropWhile_not (p := p) (l := s) (w := by rw [e]; simp)
          simp only [e, List.head_cons] at this
          rw [this]; simp
        exact absurd h3 h4
    exact (dropWhile_nil p s).1 h2
  · intro h x hx
    exact h x ((List.dropWhile_sublist p).subset (by simpa using hx))
theorem ofF_iff (cs s : List UInt8) : ofF cs s = true ↔ s ≠ [] ∧ ∀ x ∈ s, isIn cs x = true := by
  unfold ofF
  rw [Bool.and_eq_true, beq_iff_eq, trim_nil']
  simp
theorem userF_iff (s : List UInt8) : userF s = true ↔ s ≠ [] ∧ s.length ≤ 16 ∧ ∀ x ∈ s, isIn smallLetters x = true := by
  unfold userF
  rw [Bool.and_eq_true, Bool.and_eq_true, beq_iff_eq, trim_nil]
  simp [and_assoc]
theorem splitC_one (c : UInt8) : (s : List UInt8) → (∀ x ∈ s, x ≠ c) → splitC c s = [s]
  | [], _ => rfl
  | b :: l, h => by
    have hb : (b == c) = false := by simpa using h b (by simp)
    rw [splitC, hb, splitC_one c l (fun x hx => h x (by simp [hx]))]
    rfl
theorem small_letter : ∀ x ∈ smallLetters, isIn addrLetters x = true ∧ x ≠ 46 ∧ x ≠ 64 := by decide
theorem user_dotted {s : List UInt8} (h : userF s = true) : dottedF addrLetters s = true := by
  rw [userF_iff] at h
  have hm : ∀ x ∈ s, x ∈ smallLetters := fun x hx => List.contains_iff_mem.1 (h.2.2 x hx)
  unfold dottedF
  rw [splitC_one 46 s (fun x hx => (small_letter x (hm x hx)).2.1)]
  have : ofF addrLetters s = true := (ofF_iff _ _).2 ⟨h.1, fun x hx => (small_letter x (hm x hx)).1⟩
  simp [this]
  omega
theorem indexByte_first (c : UInt8) : (s t : List UInt8) → (∀ x ∈ s, x ≠ c) → Lib.indexByte (s ++ c :: t) c = s.length
  | [], t, _ => by simp [Lib.indexByte]
  | b :: l, t, h => by
    have hb : (b == c) = false := by simpa using h b (by simp)
    have ih := indexByte_first c l t (fun x hx => h x (by simp [hx]))
    simp only [List.cons_append, Lib.indexByte, hb, ih]
    simp
theorem cutAt_first (c : UInt8) (s t : List UInt8) (h : ∀ x ∈ s, x ≠ c) : cutAt (s ++ c :: t) c = (s, t, true, ()) := by
  unfold cutAt
  rw [indexByte_first c s t h, if_neg (by omega)]
  simp only [Int.toNat_natCast]
  rw [List.take_left' rfl, show s.length + 1 = (s ++ [c]).length by simp, show s ++ c :: t = (s ++ [c]) ++ t by simp, List.drop_left' rfl]
theorem addr_of_user {p : Policy} (h : policyRightF p = true) {u : List UInt8 × Int} (hu : u ∈ pUsers p) : addrMailboxF (addrOf u.1 (pDomain p)) = (([], u.1, pDomain p), 0) := by
  have h1 := allNew_all _ _ _ _ (right_parts h).2.1 u hu
  simp only [userOk, Bool.and_eq_true] at h1
  have h2 := h1.1
  have h3 := user_dotted h2
  rw [userF_iff] at h2
  have hm : ∀ x ∈ u.1, x ∈ smallLetters := fun x hx => List.contains_iff_mem.1 (h2.2.2 x hx)
  have h4 := (right_parts h).2.2.2.2
  simp only [addrRightF, Bool.and_eq_true] at h4
  have hn : namedF [] = true := by decide
  unfold addrMailboxF addrOf
  simp only [cutAt_first 64 u.1 (pDomain p) (fun x hx => (small_letter x (hm x hx)).2.2)]
  rw [if_pos]
  simp only [addrRightF, hn, h3, h4.2, Bool.and_self]
theorem local_user {p : Policy} (h : policyRightF p = true) {u : List UInt8 × Int} (hu : u ∈ pUsers p) : localF p (addrOf u.1 (pDomain p)) = true := by
  unfold localF
  rw [addr_of_user h hu]
  simp
theorem ixF_at {α : Type} (p : α → Bool) : (l : List α) → (i : Int) → (k : Nat) → (hk : k < l.length) → p l[k] = true → (∀ (j : Nat) (hj : j < k), p l[j] = false) → ixF p l i = i + k
  | [], i, k, hk, _, _ => by simp at hk
  | x :: l, i, 0, hk, h, _ => by simp only [List.getElem_cons_zero] at h; simp [ixF, h]
  | x :: l, i, k + 1, hk, h, h0 => by
    have hx : p x = false := h0 0 (by omega)
    rw [ixF, if_neg (by rw [hx]; simp), ixF_at p l (i + 1) k (by simpa using hk) (by simpa using h) (fun j hj => by simpa using h0 (j + 1) (by omega))]
    omega
theorem ixF_hit {α : Type} (p : α → Bool) : (l : List α) → (i : Int) → 0 ≤ i → 0 ≤ ixF p l i → ∃ (k : Nat) (hk : k < l.length), ixF p l i = i + k ∧ p l[k] = true
  | [], i, hi, h => by simp [ixF] at h
  | x :: l, i, hi, h => by
    unfold ixF at h ⊢
    split
    · rename_i hx
      exact ⟨0, by simp, by omega, hx⟩
    · rename_i hx
      rw [if_neg hx] at h
      obtain ⟨k, hk, h1, h2⟩ := ixF_hit p l (i + 1) (by omega) h
      exact ⟨k + 1, by simp; omega, by omega, by simpa using h2⟩
theorem addrOf_inj {a b d : List UInt8} (h : addrOf a d = addrOf b d) : a = b := List.append_cancel_right h
theorem find_user {p : Policy} (h : policyRightF p = true) {i : Nat} (hi : i < (pUsers p).length) : findF p (addrOf (pUsers p)[i].1 (pDomain p)) = i := by
  have hp := allNew_pair _ _ _ _ (right_parts h).2.1
  rw [List.pairwise_iff_getElem] at hp
  unfold findF
  rw [ixF_at _ (pUsers p) 0 i hi (by simp) (fun j hj => ?_)]
  · omega
  · rw [beq_eq_false_iff_ne]
    intro e
    have e2 := addrOf_inj e
    have := hp j i (by omega) hi hj
    simp only [sameR, e2] at this
    simp at this
theorem startF_stop : (l : List Int) → (part i n : Int) → part ≤ i → startF l part i n = n
  | [], part, i, n, h => rfl
  | b :: l, part, i, n, h => by
    rw [startF, if_neg (by omega), startF_stop l part (i + 1) n (by omega)]
theorem startF_succ : (l : List Int) → (i n : Int) → (k : Nat) → (hk : k < l.length) → startF l (i + k + 1) i n = IntKind.i64.wrap (startF l (i + k) i n + l[k])
  | [], i, n, k, hk => by simp at hk
  | b :: l, i, n, 0, hk => by
    rw [startF, startF, if_pos (by omega), if_neg (by omega), startF_stop l _ _ _ (by omega), startF_stop l _ _ _ (by omega)]
    rfl
  | b :: l, i, n, k + 1, hk => by
    rw [startF, startF, if_pos (by omega), if_pos (by omega)]
    have := startF_succ l (i + 1) (IntKind.i64.wrap (n + b)) k (by simpa using hk)
    rw [show i + ((k + 1 : Nat) : Int) + 1 = i + 1 + (k : Int) + 1 by omega, show i + ((k + 1 : Nat) : Int) = i + 1 + (k : Int) by omega, this]
    rfl
end Go.Proofs.YtlibncpahaefbaaDoor
