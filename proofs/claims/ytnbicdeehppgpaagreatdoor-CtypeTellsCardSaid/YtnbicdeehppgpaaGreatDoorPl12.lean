/- Helper lemmas towards this seat's statements: a contract, proved for every input within its own premise, of functions of the program. -/
import Derived.Test.YtnbicdeehppgpaaGreatDoorLaw12
import Derived.Test.YtnbicdeehppgpaaGreatDoorPlTrim
namespace Go.Proofs.YtnbicdeehppgpaaGreatDoor
open Go Go.Vx
set_option maxRecDepth 100000
set_option linter.unusedSimpArgs false
set_option linter.unusedVariables false
theorem all256 {q : UInt8 → Prop} [DecidablePred q] (h : ∀ n : Fin 256, q (UInt8.ofNat n.val)) (b : UInt8) : q b := by
  have := h ⟨b.toNat, b.toNat_lt⟩
  simpa using this
theorem tok_iff (s : List UInt8) : tokF s = true ↔ s ≠ [] ∧ s.length ≤ 64 ∧ ∀ b ∈ s, isIn ctLetters b = true := by
  simp only [tokF, Bool.and_eq_true, Bool.not_eq_true', beq_eq_false_iff_ne, ne_eq, decide_eq_true_eq, beq_iff_eq, trim_nil, and_assoc]
theorem turn_byte (c : Bool) (b : UInt8) (h : isIn ctLetters b = true) : isIn ctAll (if c = true ∧ 97 ≤ b.toNat ∧ b.toNat ≤ 122 then b - 32 else b) = true ∧ lo12 (if c = true ∧ 97 ≤ b.toNat ∧ b.toNat ≤ 122 then b - 32 else b) = b := by
  have h1 : ∀ n : Fin 256, isIn ctLetters (UInt8.ofNat n.val) = true → isIn ctAll (if true = true ∧ 97 ≤ (UInt8.ofNat n.val).toNat ∧ (UInt8.ofNat n.val).toNat ≤ 122 then UInt8.ofNat n.val - 32 else UInt8.ofNat n.val) = true ∧ lo12 (if true = true ∧ 97 ≤ (UInt8.ofNat n.val).toNat ∧ (UInt8.ofNat n.val).toNat ≤ 122 then UInt8.ofNat n.val - 32 else UInt8.ofNat n.val) = UInt8.ofNat n.val := by decide +kernel
  have h2 : ∀ n : Fin 256, isIn ctLetters (UInt8.ofNat n.val) = true → isIn ctAll (UInt8.ofNat n.val) = true ∧ lo12 (UInt8.ofNat n.val) = UInt8.ofNat n.val := by decide +kernel
  cases c with
  | true =>
    have := h1 ⟨b.toNat, b.toNat_lt⟩
    simp only [UInt8.ofNat_toNat] at this
    simpa using this h
  | false =>
    have := h2 ⟨b.toNat, b.toNat_lt⟩
    simp only [UInt8.ofNat_toNat] at this
    rw [if_neg (fun h => by cases h.1)]
    exact this h
theorem turn_all (bt : Nat → Bool) : ∀ (s : List UInt8) (k : Nat), (∀ b ∈ s, isIn ctLetters b = true) → (∀ x ∈ turn12F bt k s, isIn ctAll x = true) ∧ (turn12F bt k s).map lo12 = s
  | [], k, h => ⟨fun x hx => (nomatch hx), rfl⟩
  | b :: l, k, h => by
    obtain ⟨h1, h2⟩ := turn_byte (bt k) b (h b (by simp))
    obtain ⟨h3, h4⟩ := turn_all bt l (k + 1) fun x hx => h x (by simp [hx])
    simp only [turn12F, List.map_cons, List.mem_cons, h2, h4, and_true]
    rintro x (rfl | hx)
    · exact h1
    · exact h3 x hx
theorem all_notBl {b : UInt8} (h : isIn ctAll b = true) : isIn kBl b = false := by
  have : ∀ n : Fin 256, isIn ctAll (UInt8.ofNat n.val) = true → isIn kBl (UInt8.ofNat n.val) = false := by decide +kernel
  have := this ⟨b.toNat, b.toNat_lt⟩
  simp only [UInt8.ofNat_toNat] at this
  exact this h
theorem trimL_stop {p : UInt8 → Bool} {c : UInt8} {l : List UInt8} (h : p c = false) : trimL p (c :: l) = c :: l := by
  unfold trimL; rw [List.dropWhile_cons, if_neg (by rw [h]; simp)]
theorem trimL_go {p : UInt8 → Bool} {c : UInt8} {l : List UInt8} (h : p c = true) : trimL p (c :: l) = trimL p l := by
  unfold trimL; rw [List.dropWhile_cons, if_pos h]
theorem trimL_run (p : UInt8 → Bool) : ∀ (a rest : List UInt8), (∀ x ∈ a, p x = true) → (rest = [] ∨ p (rest.getD 0 0) = false) → trimL p (a ++ rest) = rest
  | [], rest, _, h => by
    rcases h with rfl | h
    · rfl
    · cases rest with
      | nil => rfl
      | cons c l => exact trimL_stop h
  | x :: a, rest, ha, h => by
    rw [List.cons_append, trimL_go (ha x (by simp))]
    exact trimL_run p a rest (fun y hy => ha y (by simp [hy])) h
theorem run_app (set a rest : List UInt8) (ha : ∀ x ∈ a, isIn set x = true) (h : rest = [] ∨ isIn set (rest.getD 0 0) = false) : trimL (isIn set) (a ++ rest) = rest ∧ runF set (a ++ rest) = a := by
  have h1 := trimL_run (isIn set) a rest ha h
  refine ⟨h1, ?_⟩
  unfold runF
  rw [h1, List.length_append, Nat.add_sub_cancel]
  exact List.take_left' rfl
theorem trimR_cons (p : UInt8 → Bool) (b : UInt8) (x : List UInt8) : trimR p (b :: x) = if trimR p x = [] then (if p b = true then [] else [b]) else b :: trimR p x := by
  unfold trimR
  rw [List.reverse_cons, List.dropWhile_append]
  by_cases h : x.reverse.dropWhile p = []
  · rw [h]
    simp only [List.isEmpty_nil, if_true, List.reverse_nil]
    by_cases hb : p b = true
    · simp [hb]
    · simp [hb]
  · rw [if_neg (by simpa using h), if_neg (by simpa using h)]
    simp
theorem trimR_pass (p : UInt8 → Bool) (c : UInt8) (hc : p c = false) (b : List UInt8) : ∀ a : List UInt8, trimR p (a ++ c :: b) = a ++ c :: trimR p b
  | [] => by
    rw [List.nil_append, List.nil_append, trimR_cons]
    split
    · rename_i h
      rw [if_neg (by rw [hc]; simp), h]
    · rfl
  | x :: a => by
    rw [List.cons_append, trimR_cons, trimR_pass p c hc b a, if_neg (by simp)]
    rfl
theorem trimR_word (p : UInt8 → Bool) (a b : List UInt8) (h0 : a ≠ []) (ha : ∀ x ∈ a, p x = false) : trimR p (a ++ b) = a ++ trimR p b := by
  have e := List.dropLast_concat_getLast h0
  have e2 : a ++ b = a.dropLast ++ a.getLast h0 :: b := by
    conv => lhs; rw [← e]
    simp
  rw [e2, trimR_pass p _ (ha _ (List.getLast_mem h0))]
  conv => rhs; rw [← e]
  simp
theorem trim_lead (p : UInt8 → Bool) (b : UInt8) (hb : p b = true) (x : List UInt8) : trimL p (trimR p (b :: x)) = trimL p (trimR p x) := by
  rw [trimR_cons]
  split
  · rename_i h
    rw [h]
  · exact trimL_go hb
def escAll : List UInt8 → List UInt8
  | [] => []
  | b :: l => 92 :: b :: escAll l
theorem escAll_app : (a b : List UInt8) → escAll (a ++ b) = escAll a ++ escAll b
  | [], b => rfl
  | x :: a, b => by simp [escAll, escAll_app a b]
theorem escAll_len : (a : List UInt8) → (escAll a).length = 2 * a.length
  | [] => rfl
  | x :: a => by simp only [escAll, List.length_cons, escAll_len a]; omega
theorem quot_esc (t : List UInt8) : (v : List UInt8) → quotF (escAll v ++ 34 :: t) = (v, 34 :: t)
  | [] => quotF_stop (.inr rfl)
  | b :: l => by
    show quotF (92 :: b :: (escAll l ++ 34 :: t)) = _
    rw [quotF_esc rfl, quot_esc t l]
def letPar (bt : Nat → Bool) (p : Param) : List UInt8 := [32, 59, 9] ++ turn12F bt 0 p.1 ++ [61, 34] ++ escAll p.2 ++ [34, 32]
def letPars (bt : Nat → Bool) : List Param → List UInt8
  | [] => []
  | p :: l => letPar bt p ++ letPars bt l
theorem letPars_app (bt : Nat → Bool) : (a b : List Param) → letPars bt (a ++ b) = letPars bt a ++ letPars bt b
  | [], b => rfl
  | p :: a, b => by simp [letPars, letPars_app bt a b]
theorem letPars_len (bt : Nat → Bool) (ps : List Param) (h : ∀ p ∈ ps, p.1.length ≤ 200 ∧ p.2.length ≤ 200) : (letPars bt ps).length ≤ 700 * ps.length := by
  induction ps with
  | nil => exact Nat.le_refl _
  | cons p l ih =>
    have h1 := ih fun q hq => h q (by simp [hq])
    obtain ⟨h2, h3⟩ := h p (by simp)
    simp only [letPars, letPar, List.length_append, List.length_cons, List.length_nil, escAll_len, turn12F_len] at h1 ⊢
    omega
def letText (bt : Nat → Bool) (t : CType) : List UInt8 := 9 :: (turn12F bt 0 t.1 ++ 47 :: (turn12F bt 0 t.2.1 ++ letPars bt t.2.2))
theorem pre_one (c : UInt8) (l : List UInt8) : preF (c :: l) [c] = true := (preF_iff _ _).2 ⟨l, rfl⟩
theorem par_step (bt : Nat → Bool) (p : Param) (x : List UInt8) (hp : tokF p.1 = true) : trimL (isIn kBl) (trimR (isIn kBl) (letPar bt p ++ x)) = 59 :: 9 :: (turn12F bt 0 p.1 ++ 61 :: 34 :: (escAll p.2 ++ 34 :: trimR (isIn kBl) (32 :: x))) ∧
    ctOne (59 :: 9 :: (turn12F bt 0 p.1 ++ 61 :: 34 :: (escAll p.2 ++ 34 :: trimR (isIn kBl) (32 :: x)))) = .next p (trimR (isIn kBl) (32 :: x)) := by
  obtain ⟨h1, h2, h3⟩ := (tok_iff p.1).1 hp
  obtain ⟨h4, h5⟩ := turn_all bt p.1 0 h3
  constructor
  · have e : letPar bt p ++ x = (32 :: 59 :: 9 :: (turn12F bt 0 p.1 ++ 61 :: 34 :: escAll p.2)) ++ 34 :: (32 :: x) := by simp [letPar]
    rw [e, trimR_pass (isIn kBl) 34 (by decide)]
    rw [List.cons_append, trimL_go (by decide), List.cons_append, trimL_stop (by decide)]
    simp
  · generalize trimR (isIn kBl) (32 :: x) = T
    rw [ctOne, if_neg (by simp), if_neg (by rw [pre_one]; simp)]
    rw [show List.drop 1 (59 :: 9 :: (turn12F bt 0 p.1 ++ 61 :: 34 :: (escAll p.2 ++ 34 :: T))) = 9 :: (turn12F bt 0 p.1 ++ 61 :: 34 :: (escAll p.2 ++ 34 :: T)) from rfl, trimL_go (by decide)]
    have hst : trimL (isIn kBl) (turn12F bt 0 p.1 ++ 61 :: 34 :: (escAll p.2 ++ 34 :: T)) = turn12F bt 0 p.1 ++ 61 :: 34 :: (escAll p.2 ++ 34 :: T) := by
      cases hn : turn12F bt 0 p.1 with
      | nil =>
        have := turn12F_len bt p.1 0
        rw [hn] at this
        exact absurd (List.length_eq_zero_iff.1 this.symm) h1
      | cons c l => exact trimL_stop (all_notBl (h4 c (by rw [hn]; simp)))
    obtain ⟨r1, r2⟩ := run_app ctAll (turn12F bt 0 p.1) (61 :: 34 :: (escAll p.2 ++ 34 :: T)) h4 (.inr (show isIn ctAll 61 = false by decide))
    rw [hst, ctSemi, r1, r2, h5, ctNamed, if_neg (by rw [pre_one]; simp)]
    rw [show List.drop 1 (61 :: 34 :: (escAll p.2 ++ 34 :: T)) = 34 :: (escAll p.2 ++ 34 :: T) from rfl, if_neg (by rw [pre_one]; simp)]
    rw [show List.drop 1 (34 :: (escAll p.2 ++ 34 :: T)) = escAll p.2 ++ 34 :: T from rfl, ctQuo, quot_esc, if_neg (by rw [pre_one]; simp)]
    rfl
theorem pars_ok (bt : Nat → Bool) : ∀ (ps acc : List Param) (n : Nat) (r : List UInt8), (∀ p ∈ ps, tokF p.1 = true) → trimL (isIn kBl) r = trimL (isIn kBl) (trimR (isIn kBl) (letPars bt ps)) → r.length < n → ctPars n r acc = some (acc ++ ps)
  | [], acc, n, r, hp, hr, hn => by
    obtain ⟨m, rfl⟩ : ∃ m, n = m + 1 := ⟨n - 1, by omega⟩
    have e : ctStep r = .over := by
      rw [ctStep, hr]; rfl
    rw [ctPars, e, List.append_nil]
  | p :: l, acc, n, r, hp, hr, hn => by
    obtain ⟨m, rfl⟩ : ∃ m, n = m + 1 := ⟨n - 1, by omega⟩
    obtain ⟨s1, s2⟩ := par_step bt p (letPars bt l) (hp p (by simp))
    have hlen := trimL_le (isIn kBl) r
    rw [hr, show letPars bt (p :: l) = letPar bt p ++ letPars bt l from rfl, s1] at hlen
    have e : ctStep r = .next p (trimR (isIn kBl) (32 :: letPars bt l)) := by
      rw [ctStep, hr, show letPars bt (p :: l) = letPar bt p ++ letPars bt l from rfl, s1, s2]
    simp only [List.length_cons, List.length_append] at hlen
    rw [ctPars, e]
    show ctPars m (trimR (isIn kBl) (32 :: letPars bt l)) (acc ++ [p]) = _
    rw [pars_ok bt l (acc ++ [p]) m _ (fun q hq => hp q (by simp [hq])) (trim_lead _ 32 (by decide) _) (by omega)]
    simp
/-- Letters, blanks and quotes play no part. -/
theorem letters_parse (bt : Nat → Bool) (t : CType) (h : ctRightF t = true) : ctParseF (letText bt t) = (t, 0) := by
  have h' := h
  simp only [ctRightF, Bool.and_eq_true, decide_eq_true_eq] at h'
  obtain ⟨⟨⟨h1, h2⟩, h3⟩, _⟩ := h'
  have hn : ∀ p ∈ t.2.2, tokF p.1 = true := fun p hp => by
    obtain ⟨i, hi, e⟩ := List.mem_iff_getElem.1 hp
    have h5 := List.all_eq_true.1 h1 i (List.mem_range.2 hi)
    have e2 : t.2.2.getD i tParam.dflt = p := by rw [List.getD_eq_getElem?_getD, List.getElem?_eq_getElem hi]; exact e
    unfold rightP at h5
    rw [e2] at h5
    simp only [Bool.and_eq_true] at h5
    exact h5.1.1
  obtain ⟨mn, sb, ps⟩ := t
  obtain ⟨m1, _, m3⟩ := (tok_iff mn).1 h2
  obtain ⟨m4, m5⟩ := turn_all bt mn 0 m3
  obtain ⟨n1, _, n3⟩ := (tok_iff sb).1 h3
  obtain ⟨n4, n5⟩ := turn_all bt sb 0 n3
  have hm0 : turn12F bt 0 mn ≠ [] := fun e => by
    have := turn12F_len bt mn 0
    rw [e] at this
    exact m1 (List.length_eq_zero_iff.1 this.symm)
  have hs0 : turn12F bt 0 sb ≠ [] := fun e => by
    have := turn12F_len bt sb 0
    rw [e] at this
    exact n1 (List.length_eq_zero_iff.1 this.symm)
  have hL : trimL (isIn kBl) (letText bt (mn, sb, ps)) = turn12F bt 0 mn ++ 47 :: (turn12F bt 0 sb ++ letPars bt ps) := by
    rw [letText, trimL_go (by decide)]
    simp only
    cases hc : turn12F bt 0 mn with
    | nil => exact absurd hc hm0
    | cons c l => exact trimL_stop (all_notBl (m4 c (by rw [hc]; simp)))
  have hR : trimR (isIn kBl) (turn12F bt 0 mn ++ 47 :: (turn12F bt 0 sb ++ letPars bt ps)) = turn12F bt 0 mn ++ 47 :: (turn12F bt 0 sb ++ trimR (isIn kBl) (letPars bt ps)) := by
    rw [trimR_pass (isIn kBl) 47 (by decide), trimR_word _ _ _ hs0 fun x hx => all_notBl (n4 x hx)]
  have hX : trimR (isIn kBl) (letPars bt ps) = [] ∨ isIn ctAll ((trimR (isIn kBl) (letPars bt ps)).getD 0 0) = false := by
    cases ps with
    | nil => exact .inl rfl
    | cons p l =>
      have e : letPars bt (p :: l) = 32 :: (59 :: 9 :: (turn12F bt 0 p.1 ++ [61, 34] ++ escAll p.2 ++ [34, 32] ++ letPars bt l)) := by simp [letPars, letPar]
      rw [e, trimR_cons]
      split
      · exact .inl (if_pos (by decide))
      · exact .inr (show isIn ctAll 32 = false by decide)
  obtain ⟨a1, a2⟩ := run_app ctAll (turn12F bt 0 mn) (47 :: (turn12F bt 0 sb ++ trimR (isIn kBl) (letPars bt ps))) m4 (.inr (show isIn ctAll 47 = false by decide))
  obtain ⟨b1, b2⟩ := run_app ctAll (turn12F bt 0 sb) (trimR (isIn kBl) (letPars bt ps)) n4 hX
  rw [ctParseF, hL, hR, ctMain, a1, a2, if_neg (by rw [pre_one]; simp), m5]
  rw [show List.drop 1 (47 :: (turn12F bt 0 sb ++ trimR (isIn kBl) (letPars bt ps))) = turn12F bt 0 sb ++ trimR (isIn kBl) (letPars bt ps) from rfl, ctSub, b1, b2, n5]
  rw [pars_ok bt ps [] _ _ hn rfl (Nat.lt_succ_self _)]
  rw [List.nil_append, ctEnd, if_pos h]
theorem same_self (t : CType) : ctSameF t t = true := by simp [ctSameF]
end Go.Proofs.YtnbicdeehppgpaaGreatDoor
