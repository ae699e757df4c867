/- Helper lemmas towards this seat's statements: a contract, proved for every input within its own premise, of functions of the program. -/
import Derived.Test.YtnbicdeehppgpaaGreatDoorPl12
namespace Go.Proofs.YtnbicdeehppgpaaGreatDoor
open Go Go.Vx
set_option maxRecDepth 100000
set_option linter.unusedSimpArgs false
set_option linter.unusedVariables false
theorem parse_right {s : List UInt8} (h : (ctParseF s).2 = 0) : ctRightF (ctParseF s).1 = true := by
  have hend : ∀ a b o, (ctEnd a b o).2 = 0 → ctRightF (ctEnd a b o).1 = true := fun a b o h => by
    cases o with
    | none => cases h
    | some ps =>
      simp only [ctEnd] at h ⊢
      by_cases hr : ctRightF (a, b, ps) = true
      · rw [if_pos hr]; exact hr
      · rw [if_neg hr] at h; cases h
  unfold ctParseF ctMain at h ⊢
  split at h
  · cases h
  · rename_i hp
    rw [if_neg hp]
    exact hend _ _ _ h
theorem quot_escF (t : List UInt8) : (v : List UInt8) → quotF (escF v ++ 34 :: t) = (v, 34 :: t)
  | [] => quotF_stop (.inr rfl)
  | b :: l => by
    unfold escF
    split
    · rename_i h
      subst h
      show quotF (92 :: 34 :: (escF l ++ 34 :: t)) = _
      rw [quotF_esc rfl, quot_escF t l]
    split
    · rename_i _ h
      subst h
      show quotF (92 :: 92 :: (escF l ++ 34 :: t)) = _
      rw [quotF_esc rfl, quot_escF t l]
    · rename_i h1 h2
      show quotF (b :: (escF l ++ 34 :: t)) = _
      rw [quotF_next (fun h => h1 (UInt8.toNat_inj.1 (by rw [show b.toNat = 34 by omega]; rfl))) (fun h => h2 (UInt8.toNat_inj.1 (by rw [show b.toNat = 92 by omega]; rfl))), quot_escF t l]
theorem let_all {s : List UInt8} (h : ∀ b ∈ s, isIn ctLetters b = true) : (∀ x ∈ s, isIn ctAll x = true) ∧ s.map lo12 = s := by
  have := turn_all (fun _ => false) s 0 h
  have e : ∀ (l : List UInt8) (k : Nat), turn12F (fun _ => false) k l = l := by
    intro l
    induction l with
    | nil => intro k; rfl
    | cons b l ih => intro k; simp [turn12F, ih]
  rwa [e] at this
theorem let_notBl {b : UInt8} (h : isIn ctLetters b = true) : isIn kBl b = false := by
  have : ∀ n : Fin 256, isIn ctLetters (UInt8.ofNat n.val) = true → isIn kBl (UInt8.ofNat n.val) = false := by decide +kernel
  have := this ⟨b.toNat, b.toNat_lt⟩
  simp only [UInt8.ofNat_toNat] at this
  exact this h
theorem let_not34 {b : UInt8} (h : isIn ctLetters b = true) : b ≠ 34 := by
  rintro rfl; exact absurd h (by decide)
theorem trimL_word {s rest : List UInt8} (h0 : s ≠ []) (h : ∀ b ∈ s, isIn ctLetters b = true) : trimL (isIn kBl) (s ++ rest) = s ++ rest := by
  cases s with
  | nil => exact absurd rfl h0
  | cons c l => exact trimL_stop (let_notBl (h c (by simp)))
/-- A parameter's text is read. -/
theorem parT_step (p : Param) (x : List UInt8) (hp : tokF p.1 = true) (hx : x = [] ∨ x.getD 0 0 = 59) : ctStep (ctParT p ++ x) = .next p x := by
  obtain ⟨h1, h2, h3⟩ := (tok_iff p.1).1 hp
  obtain ⟨h4, h5⟩ := let_all h3
  have e : ctParT p ++ x = 59 :: 32 :: (p.1 ++ 61 :: (ctValT p.2 ++ x)) := by simp [ctParT]
  rw [e, ctStep, trimL_stop (show isIn kBl 59 = false by decide), ctOne, if_neg (by simp), if_neg (by rw [pre_one]; simp)]
  rw [show List.drop 1 (59 :: 32 :: (p.1 ++ 61 :: (ctValT p.2 ++ x))) = 32 :: (p.1 ++ 61 :: (ctValT p.2 ++ x)) from rfl, trimL_go (show isIn kBl 32 = true by decide), trimL_word h1 h3]
  obtain ⟨r1, r2⟩ := run_app ctAll p.1 (61 :: (ctValT p.2 ++ x)) h4 (.inr (show isIn ctAll 61 = false by decide))
  rw [ctSemi, r1, r2, h5, ctNamed, if_neg (by rw [pre_one]; simp)]
  rw [show List.drop 1 (61 :: (ctValT p.2 ++ x)) = ctValT p.2 ++ x from rfl]
  unfold ctValT
  by_cases hv : tokF p.2 = true
  · rw [if_pos hv]
    obtain ⟨v1, v2, v3⟩ := (tok_iff p.2).1 hv
    have hn : preF (p.2 ++ x) [34] = false := by
      cases hc : p.2 with
      | nil => exact absurd hc v1
      | cons c l =>
        have hne : c ≠ 34 := let_not34 (v3 c (by rw [hc]; simp))
        cases hq : preF (c :: l ++ x) [34] with
        | false => rfl
        | true =>
          obtain ⟨r, hr⟩ := (preF_iff _ _).1 hq
          simp at hr
          exact absurd hr.1 hne
    rw [if_pos hn]
    obtain ⟨s1, s2⟩ := run_app ctLetters p.2 x v3 (hx.imp id fun h => by rw [h]; decide)
    rw [ctVal, s1, s2, if_neg]
    rintro (h | h)
    · exact v1 h
    · omega
  · rw [if_neg hv]
    have e2 : [34] ++ escF p.2 ++ [34] ++ x = 34 :: (escF p.2 ++ 34 :: x) := by simp
    rw [e2, if_neg (by rw [pre_one]; simp)]
    rw [show List.drop 1 (34 :: (escF p.2 ++ 34 :: x)) = escF p.2 ++ 34 :: x from rfl, ctQuo, quot_escF, if_neg (by rw [pre_one]; simp)]
    rfl
theorem parsT_head (ps : List Param) : ctParsT ps = [] ∨ (ctParsT ps).getD 0 0 = 59 := by
  cases ps with
  | nil => exact .inl rfl
  | cons p l => exact .inr (by simp [ctParsT, ctParT])
theorem parsT_read : ∀ (ps acc : List Param) (n : Nat), (∀ p ∈ ps, tokF p.1 = true) → (ctParsT ps).length < n → ctPars n (ctParsT ps) acc = some (acc ++ ps)
  | [], acc, n, hp, hn => by
    obtain ⟨m, rfl⟩ : ∃ m, n = m + 1 := ⟨n - 1, by omega⟩
    rw [ctPars, show ctStep (ctParsT []) = .over from rfl, List.append_nil]
  | p :: l, acc, n, hp, hn => by
    obtain ⟨m, rfl⟩ : ∃ m, n = m + 1 := ⟨n - 1, by omega⟩
    have e : ctParsT (p :: l) = ctParT p ++ ctParsT l := rfl
    rw [e, List.length_append] at hn
    have h1 : 0 < (ctParT p).length := by simp [ctParT]
    rw [ctPars, e, parT_step p _ (hp p (by simp)) (parsT_head l)]
    show ctPars m (ctParsT l) (acc ++ [p]) = _
    rw [parsT_read l (acc ++ [p]) m (fun q hq => hp q (by simp [hq])) (by omega)]
    simp
theorem valT_end (v : List UInt8) : ∃ y c, ctValT v = y ++ [c] ∧ isIn kBl c = false := by
  unfold ctValT
  by_cases hv : tokF v = true
  · rw [if_pos hv]
    obtain ⟨v1, v2, v3⟩ := (tok_iff v).1 hv
    exact ⟨v.dropLast, v.getLast v1, (List.dropLast_concat_getLast v1).symm, let_notBl (v3 _ (List.getLast_mem v1))⟩
  · rw [if_neg hv]
    exact ⟨[34] ++ escF v, 34, rfl, by decide⟩
theorem parsT_end : ∀ (ps : List Param) (a : List UInt8), (∃ y c, a = y ++ [c] ∧ isIn kBl c = false) → ∃ y c, a ++ ctParsT ps = y ++ [c] ∧ isIn kBl c = false
  | [], a, h => by simpa [ctParsT] using h
  | p :: l, a, h => by
    obtain ⟨y, c, h1, h2⟩ := valT_end p.2
    have := parsT_end l (a ++ ctParT p) ⟨a ++ ([59, 32] ++ p.1 ++ [61]) ++ y, c, by simp [ctParT, h1], h2⟩
    simpa [ctParsT] using this
theorem trimR_nil (p : UInt8 → Bool) (b : List UInt8) (h : ∀ x ∈ b, p x = true) : trimR p b = [] := by
  unfold trimR
  rw [List.reverse_eq_nil_iff, dropWhile_nil]
  intro x hx
  exact h x (by simpa using hx)
/-- What was printed is parsed, blanks around it or none. -/
theorem print_parse {t : CType} (h : ctRightF t = true) (a b : List UInt8) (ha : ∀ x ∈ a, isIn kBl x = true) (hb : ∀ x ∈ b, isIn kBl x = true) : ctParseF (a ++ ctTextF t ++ b) = (t, 0) := by
  have h' := h
  simp only [ctRightF, Bool.and_eq_true, decide_eq_true_eq] at h'
  obtain ⟨⟨⟨h1, h2⟩, h3⟩, _⟩ := h'
  have hn : ∀ p ∈ t.2.2, tokF p.1 = true := fun p hp => by
    obtain ⟨i, hi, e⟩ := List.mem_iff_getElem.1 hp
    have h5 := List.all_eq_true.1 h1 i (List.mem_range.2 hi)
    have e2 : t.2.2.getD i tParam.dflt = p := by rw [List.getD_eq_getElem?_getD, List.getElem?_eq_getElem hi]; exact e
    unfold rightP at h5
    rw [e2] at h5
    simp only [Bool.and_eq_true] at h5
    exact h5.1.1
  obtain ⟨mn, sb, ps⟩ := t
  obtain ⟨m1, _, m3⟩ := (tok_iff mn).1 h2
  obtain ⟨m4, m5⟩ := let_all m3
  obtain ⟨n1, _, n3⟩ := (tok_iff sb).1 h3
  obtain ⟨n4, n5⟩ := let_all n3
  have hT : ctTextF (mn, sb, ps) = mn ++ 47 :: (sb ++ ctParsT ps) := by simp [ctTextF]
  have hL : trimL (isIn kBl) (a ++ ctTextF (mn, sb, ps) ++ b) = ctTextF (mn, sb, ps) ++ b := by
    rw [List.append_assoc]
    refine trimL_run _ a _ ha (.inr ?_)
    rw [hT]
    cases mn with
    | nil => exact absurd rfl m1
    | cons c l => exact let_notBl (m3 c (by simp))
  obtain ⟨y, c, e1, e2⟩ := parsT_end ps (mn ++ 47 :: sb) ⟨mn ++ 47 :: sb.dropLast, sb.getLast n1, by
    conv => lhs; rw [← List.dropLast_concat_getLast n1]
    simp, let_notBl (n3 _ (List.getLast_mem n1))⟩
  have hT2 : ctTextF (mn, sb, ps) = y ++ [c] := by rw [← e1]; simp [ctTextF]
  have hR : trimR (isIn kBl) (ctTextF (mn, sb, ps) ++ b) = ctTextF (mn, sb, ps) := by
    rw [hT2, List.append_assoc]
    show trimR (isIn kBl) (y ++ c :: b) = _
    rw [trimR_pass _ c e2, trimR_nil _ b hb]
  obtain ⟨a1, a2⟩ := run_app ctAll mn (47 :: (sb ++ ctParsT ps)) m4 (.inr (show isIn ctAll 47 = false by decide))
  obtain ⟨b1, b2⟩ := run_app ctAll sb (ctParsT ps) n4 ((parsT_head ps).imp id fun h => by rw [h]; decide)
  rw [ctParseF, hL, hR, hT, ctMain, a1, a2, if_neg (by rw [pre_one]; simp), m5]
  rw [show List.drop 1 (47 :: (sb ++ ctParsT ps)) = sb ++ ctParsT ps from rfl, ctSub, b1, b2, n5]
  rw [parsT_read ps [] _ hn (Nat.lt_succ_self _)]
  rw [List.nil_append, ctEnd, if_pos h]
theorem text_len {t : CType} (h : ctRightF t = true) : (ctTextF t).length ≤ 3000 := by
  obtain ⟨b1, b2, b3, b4⟩ := right_bounds h
  have := ctParsT_len t.2.2 b4
  simp only [ctTextF, List.length_append, List.length_cons, List.length_nil]
  omega
end Go.Proofs.YtnbicdeehppgpaaGreatDoor
