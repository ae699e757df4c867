/- A part of a small verifier for the model's programs, proved sound for any program; no condition. -/
import Derived.Test.YtlibncpahaefbaaDoorVxJ
namespace Go.Vx
open Go
set_option linter.unusedSectionVars false
set_option linter.unusedVariables false

/-! #### which operations stand ahead of which -/

def ancOf (acc : List Nat) (o : Oper) : Nat := o.after.toList.foldl (fun s e => if Region.binds .any e then s ||| 2 ^ e.on ||| acc.getD e.on 0 else s) 0
def ancs : List Oper → List Nat → List Nat
  | [], acc => acc
  | o :: l, acc => ancs l (acc ++ [ancOf acc o])

def drawOk (m : Nat) (ops : Array Oper) : Bool :=
  let A := ancs ops.toList []
  (List.range ops.size).all fun j => match ops[j]? with
    | none => false
    | some oj => oj.after.all (fun e => e.on < j || !Region.binds .any e) && (List.range j).all fun i => (A.getD j 0).testBit i || (decide (j < m) && match ops[i]? with
      | none => false
      | some oi => oi.apart ops oj)

theorem ancs_length : (l : List Oper) → (acc : List Nat) → (ancs l acc).length = acc.length + l.length
  | [], acc => by simp [ancs]
  | o :: l, acc => by simp [ancs, ancs_length l]; omega

theorem ancs_prefix : (l : List Oper) → (acc : List Nat) → ∀ i, i < acc.length → (ancs l acc)[i]? = acc[i]?
  | [], acc, i, h => rfl
  | o :: l, acc, i, h => by
    rw [ancs, ancs_prefix l _ i (by simp; omega), List.getElem?_append_left h]

theorem ancs_at : (l : List Oper) → (acc : List Nat) → ∀ j o, l[j]? = some o → (ancs l acc)[acc.length + j]? = some (ancOf ((ancs l acc).take (acc.length + j)) o)
  | [], acc, j, o, h => by simp at h
  | o' :: l, acc, 0, o, h => by
    simp at h; subst h
    simp only [ancs, Nat.add_zero]
    rw [ancs_prefix l _ acc.length (by simp)]
    have ht : (ancs l (acc ++ [ancOf acc o'])).take acc.length = acc := by
      apply List.ext_getElem?
      intro i
      rw [List.getElem?_take]
      split
      · rename_i hi
        rw [ancs_prefix l _ i (by simp; omega), List.getElem?_append_left hi]
      · rename_i hi
        rw [List.getElem?_eq_none (by omega)]
    rw [ht]
    simp
  | o' :: l, acc, j + 1, o, h => by
    have := ancs_at l (acc ++ [ancOf acc o']) j o (by simpa using h)
    simp only [ancs]
    rwa [show acc.length + (j + 1) = (acc ++ [ancOf acc o']).length + j from by simp; omega]

theorem ancOf_bit {acc : List Nat} {o : Oper} {i : Nat} (h : (ancOf acc o).testBit i = true) : ∃ e ∈ o.after, Region.binds .any e = true ∧ (e.on = i ∨ (acc.getD e.on 0).testBit i = true) := by
  unfold ancOf at h
  have key : ∀ (l : List Edge) (s : Nat), (l.foldl (fun s e => if Region.binds .any e then s ||| 2 ^ e.on ||| acc.getD e.on 0 else s) s).testBit i = true → s.testBit i = true ∨ ∃ e ∈ l, Region.binds .any e = true ∧ (e.on = i ∨ (acc.getD e.on 0).testBit i = true) := by
    intro l
    induction l with
    | nil => intro s h; exact .inl h
    | cons e l ih =>
      intro s h
      simp only [List.foldl_cons] at h
      rcases ih _ h with h1 | ⟨e', he', h1⟩
      · split at h1
        · rename_i hb
          rw [Nat.testBit_or, Nat.testBit_or, Bool.or_eq_true, Bool.or_eq_true, Nat.testBit_two_pow] at h1
          rcases h1 with (h1 | h1) | h1
          · exact .inl h1
          · exact .inr ⟨e, by simp, hb, .inl (by simpa using h1)⟩
          · exact .inr ⟨e, by simp, hb, .inr h1⟩
        · exact .inl h1
      · exact .inr ⟨e', by simp [he'], h1⟩
  rcases key _ 0 h with h1 | ⟨e, he, h1⟩
  · simp at h1
  · exact ⟨e, by simpa using he, h1⟩

/-- Every binding edge of what is listed leads to what is listed. -/
def Closed (ops : Array Oper) (L : Nat → Prop) : Prop := ∀ j oj, L j → ops[j]? = some oj → ∀ e ∈ oj.after, Region.binds .any e = true → L e.on

theorem closed_anc {ops : Array Oper} {L : Nat → Prop} (hc : Closed ops L) {j : Nat} {oj : Oper} (hj : ops[j]? = some oj) (he : ∀ e ∈ oj.after, Region.binds .any e = true → L e.on ∧ e.on < j) (hback : ∀ k ok, ops[k]? = some ok → ∀ e ∈ ok.after, Region.binds .any e = true → e.on < k) :
    ∀ i, ((ancs ops.toList []).getD j 0).testBit i = true → L i := by
  induction j using Nat.strongRecOn generalizing oj with
  | _ j ih =>
    intro i hi
    have hat := ancs_at ops.toList [] j oj (by simpa using hj)
    simp only [List.length_nil, Nat.zero_add] at hat
    rw [List.getD_eq_getElem?_getD, hat] at hi
    simp only [Option.getD_some] at hi
    obtain ⟨e, he1, he2, he3⟩ := ancOf_bit hi
    obtain ⟨hL, hlt⟩ := he e he1 he2
    rcases he3 with rfl | he3
    · exact hL
    · have hlt' : e.on < ops.size := by have := (Array.getElem?_eq_some_iff.1 hj).1; omega
      refine ih e.on hlt (oj := ops[e.on]) (by simp [hlt']) (fun e' h1 h2 => ⟨hc e.on _ hL (by simp [hlt']) e' h1 h2, hback e.on _ (by simp [hlt']) e' h1 h2⟩) i ?_
      rw [List.getD_eq_getElem?_getD, List.getElem?_take, if_pos hlt] at he3
      rw [List.getD_eq_getElem?_getD]
      exact he3

structure DrawFacts (m : Nat) (ops : Array Oper) : Prop where
  back : ∀ k ok, ops[k]? = some ok → ∀ e ∈ ok.after, Region.binds .any e = true → e.on < k
  pair : ∀ i j oi oj, i < j → ops[i]? = some oi → ops[j]? = some oj → ((ancs ops.toList []).getD j 0).testBit i = true ∨ (j < m ∧ oi.apart ops oj = true)

theorem drawOk_facts {m : Nat} {ops : Array Oper} (h : drawOk m ops = true) : DrawFacts m ops := by
  unfold drawOk at h
  simp only [List.all_eq_true, List.mem_range] at h
  constructor
  · intro k ok hk e he hb
    have hlt := (Array.getElem?_eq_some_iff.1 hk).1
    have := h k hlt
    rw [hk] at this
    simp only [Bool.and_eq_true] at this
    have h1 := this.1
    rw [Array.all_eq_true'] at h1
    have := h1 e he
    simpa [hb] using this
  · intro i j oi oj hij hi hj
    have hlt := (Array.getElem?_eq_some_iff.1 hj).1
    have := h j hlt
    rw [hj] at this
    simp only [Bool.and_eq_true, List.all_eq_true, List.mem_range] at this
    have h1 := this.2 i hij
    rw [hi] at h1
    simpa using h1

end Go.Vx
