/- Helper lemmas towards this seat's statements: a contract, proved for every input within its own premise, of functions of the program. -/
import Derived.Test.YtbkemaekncpkjaaDoorL18c
namespace Go.Proofs.YtbkemaekncpkjaaDoor
open Go Go.Vx
set_option maxRecDepth 100000
set_option linter.unusedSimpArgs false
set_option linter.unusedVariables false
/-! numerals -/
def digs (l : List UInt8) : Prop := ∀ b ∈ l, 48 ≤ b.toNat ∧ b.toNat ≤ 57
def valF (acc : Nat) (l : List UInt8) : Nat := l.foldl (fun a b => a * 10 + (b.toNat - 48)) acc
theorem valF_ge : ∀ (l : List UInt8) (acc : Nat), acc ≤ valF acc l
  | [], acc => Nat.le_refl _
  | c :: r, acc => by
    have := valF_ge r (acc * 10 + (c.toNat - 48))
    show acc ≤ valF (acc * 10 + (c.toNat - 48)) r
    omega
theorem parse_digs : ∀ (l : List UInt8) (acc : Nat), digs l → valF acc l < 18446744073709551610 → Lib.parseUint10 acc l = .ok (valF acc l)
  | [], acc, _, _ => rfl
  | c :: r, acc, hd, hv => by
    have hc := hd c (by simp)
    have hg := valF_ge r (acc * 10 + (c.toNat - 48))
    have e : valF acc (c :: r) = valF (acc * 10 + (c.toNat - 48)) r := rfl
    rw [e] at hv ⊢
    rw [Lib.parseUint10, if_pos hc, if_neg (by omega), if_neg (by omega), parse_digs r _ (fun b hb => hd b (by simp [hb])) hv]
theorem valF_lt : ∀ (l : List UInt8) (acc : Nat), digs l → valF acc l < (acc + 1) * 10 ^ l.length
  | [], acc, _ => by simp [valF]
  | c :: r, acc, hd => by
    have hc := hd c (by simp)
    have h1 := valF_lt r (acc * 10 + (c.toNat - 48)) (fun b hb => hd b (by simp [hb]))
    have h2 : (acc * 10 + (c.toNat - 48) + 1) * 10 ^ r.length ≤ ((acc + 1) * 10) * 10 ^ r.length := Nat.mul_le_mul_right _ (by omega)
    have h3 : (acc + 1) * 10 ^ (c :: r).length = ((acc + 1) * 10) * 10 ^ r.length := by
      rw [List.length_cons, Nat.pow_succ, Nat.mul_assoc, Nat.mul_comm 10]
    rw [h3]
    show valF (acc * 10 + (c.toNat - 48)) r < _
    omega
theorem atoiF_digs (l : List UInt8) (h0 : l ≠ []) (hd : digs l) (hv : valF 0 l < 9223372036854775808) : atoiF l = (valF 0 l : Int) := by
  cases l with
  | nil => exact absurd rfl h0
  | cons c r =>
    have hc := hd c (by simp)
    unfold atoiF
    rw [Lib.atoiAll_plain c r (by omega) (by omega), Lib.parseMag, if_neg (by simp), parse_digs _ 0 hd (by omega)]
    simp only [Lib.signless]
    rw [if_neg (by omega)]
theorem byte_digit (n : Nat) (h : n < 10) : (UInt8.ofNat (48 + n)).toNat = 48 + n := by
  rw [UInt8.toNat_ofNat']; omega
theorem decDigits_digs (u : Nat) : digs (Lib.decDigits u) := by
  intro b hb
  rw [Lib.decDigits] at hb
  split at hb
  · rename_i h
    simp only [List.mem_singleton] at hb
    subst hb
    have := byte_digit u h
    omega
  · rw [List.mem_append] at hb
    rcases hb with hb | hb
    · exact decDigits_digs (u / 10) b hb
    · simp only [List.mem_singleton] at hb
      subst hb
      have := byte_digit (u % 10) (by omega)
      omega
termination_by u
decreasing_by omega
theorem decDigits_val (u : Nat) : valF 0 (Lib.decDigits u) = u := by
  rw [Lib.decDigits]
  split
  · rename_i h
    have := byte_digit u h
    simp only [valF, List.foldl_cons, List.foldl_nil]
    omega
  · have h1 := decDigits_val (u / 10)
    have h2 := byte_digit (u % 10) (by omega)
    have e : valF 0 (Lib.decDigits (u / 10) ++ [UInt8.ofNat (48 + u % 10)]) = valF 0 (Lib.decDigits (u / 10)) * 10 + ((UInt8.ofNat (48 + u % 10)).toNat - 48) := by
      simp only [valF, List.foldl_append, List.foldl_cons, List.foldl_nil]
    rw [e, h1]
    omega
termination_by u
decreasing_by omega
theorem nDigits_le : ∀ (k u : Nat), u < 10 ^ (k + 1) → Lib.nDigits u ≤ k + 1
  | 0, u, h => by rw [Lib.nDigits_small (by simpa using h)]; exact Nat.le_refl _
  | k + 1, u, h => by
    by_cases h1 : u < 10
    · rw [Lib.nDigits_small h1]; omega
    · rw [Lib.nDigits_big h1]
      have := nDigits_le k (u / 10) (by rw [Nat.pow_succ] at h; omega)
      omega
theorem itoa_nn {n : Int} (h : 0 ≤ n) : Lib.itoa n = Lib.decDigits n.toNat := by rw [Lib.itoa, if_neg (by omega)]
theorem itoa_digs {n : Int} (h : 0 ≤ n) : digs (Lib.itoa n) := by rw [itoa_nn h]; exact decDigits_digs _
theorem itoa_ne {n : Int} (h : 0 ≤ n) : Lib.itoa n ≠ [] := by
  rw [itoa_nn h]
  intro h1
  have h2 := Lib.decDigits_length n.toNat
  have h3 := Lib.nDigits_pos n.toNat
  rw [h1] at h2
  simp at h2
  omega
theorem itoa_len9 {n : Int} (h : 0 ≤ n) (h9 : n ≤ 999999999) : (Lib.itoa n).length ≤ 9 := by
  rw [itoa_nn h, Lib.decDigits_length]
  exact nDigits_le 8 _ (by show n.toNat < 1000000000; omega)
theorem atoi_itoa {n : Int} (h : 0 ≤ n) (h9 : n < 9223372036854775808) : atoiF (Lib.itoa n) = n := by
  rw [atoiF_digs _ (itoa_ne h) (itoa_digs h) (by rw [itoa_nn h, decDigits_val]; omega), itoa_nn h, decDigits_val]
  omega
theorem itoa3 {n : Int} (h : 200 ≤ n) (h9 : n ≤ 599) : Lib.itoa n = [UInt8.ofNat (48 + n.toNat / 10 / 10), UInt8.ofNat (48 + n.toNat / 10 % 10), UInt8.ofNat (48 + n.toNat % 10)] := by
  rw [itoa_nn (by omega), Lib.decDigits, dif_neg (by omega), Lib.decDigits, dif_neg (by omega), Lib.decDigits, dif_pos (by omega)]
  rfl
theorem digs_iff (v : List UInt8) : trimL (isIn digitL) (trimR (isIn digitL) v) = [] ↔ digs v := by
  rw [trim_nil]
  have h : ∀ j : Fin 256, (isIn digitL (UInt8.ofNat j.val) = true ↔ 48 ≤ j.val ∧ j.val ≤ 57) := by decide +kernel
  have h' : ∀ b : UInt8, (isIn digitL b = true ↔ 48 ≤ b.toNat ∧ b.toNat ≤ 57) := fun b => by
    have := h ⟨b.toNat, b.toNat_lt⟩
    simpa using this
  exact ⟨fun h b hb => (h' b).1 (h b hb), fun h b hb => (h' b).2 (h b hb)⟩
theorem sizeOk_iff (v : List UInt8) : sizeOk v = true ↔ v ≠ [] ∧ v.length ≤ 9 ∧ digs v := by
  simp only [sizeOk, Bool.and_eq_true, Bool.not_eq_true', beq_eq_false_iff_ne, ne_eq, decide_eq_true_eq, beq_iff_eq, digs_iff, and_assoc]
theorem size_bound (v : List UInt8) (h : sizeOk v = true) : 0 ≤ atoiF v ∧ atoiF v ≤ 999999999 := by
  obtain ⟨h1, h2, h3⟩ := (sizeOk_iff v).1 h
  have h4 := valF_lt v 0 h3
  have h5 : 10 ^ v.length ≤ 10 ^ 9 := Nat.pow_le_pow_right (by decide) h2
  rw [Nat.zero_add, Nat.one_mul] at h4
  have h6 : (10 : Nat) ^ 9 = 1000000000 := by decide
  rw [atoiF_digs v h1 h3 (by omega)]
  omega
/-! letters -/
theorem upB_idem (b : UInt8) : upB (upB b) = upB b := by
  have h : ∀ j : Fin 256, upB (upB (UInt8.ofNat j.val)) = upB (UInt8.ofNat j.val) := by decide +kernel
  have := h ⟨b.toNat, b.toNat_lt⟩
  simpa using this
theorem upB_low (b : UInt8) (h : b.toNat < 97) : upB b = b := by unfold upB; rw [if_neg (by omega)]
theorem upB_eqc (c : UInt8) (hc : c.toNat < 65) (b : UInt8) : upB b = c ↔ b = c := by
  have h : ∀ i : Fin 65, ∀ j : Fin 256, (upB (UInt8.ofNat j.val) = UInt8.ofNat i.val ↔ UInt8.ofNat j.val = UInt8.ofNat i.val) := by decide +kernel
  have := h ⟨c.toNat, hc⟩ ⟨b.toNat, b.toNat_lt⟩
  simpa using this
theorem upB_flip (b : UInt8) (h : 65 ≤ b.toNat ∧ b.toNat ≤ 90) : upB (b + 32) = upB b := by
  have h1 : ∀ j : Fin 256, 65 ≤ (UInt8.ofNat j.val).toNat ∧ (UInt8.ofNat j.val).toNat ≤ 90 → upB (UInt8.ofNat j.val + 32) = upB (UInt8.ofNat j.val) := by decide +kernel
  have := h1 ⟨b.toNat, b.toNat_lt⟩
  simp only [UInt8.ofNat_toNat] at this
  exact this h
theorem digs_up (l : List UInt8) (h : digs l) : l.map upB = l := by
  conv => rhs; rw [← List.map_id l]
  exact List.map_congr_left fun b hb => upB_low b (by have := h b hb; omega)
/-! cuts -/
theorem cutAt_cases (c : UInt8) : (s : List UInt8) → ((∀ x ∈ s, x ≠ c) ∧ cutAt s c = (s, [], false, ())) ∨ ∃ a b, s = a ++ c :: b ∧ (∀ x ∈ a, x ≠ c) ∧ cutAt s c = (a, b, true, ())
  | [] => .inl ⟨fun x hx => by simp at hx, cutAt_none c [] fun x hx => by simp at hx⟩
  | b :: l => by
    by_cases hb : b = c
    · subst hb
      exact .inr ⟨[], l, rfl, fun x hx => by simp at hx, cutAt_first b [] l fun x hx => by simp at hx⟩
    · rcases cutAt_cases c l with ⟨h1, _⟩ | ⟨x, y, h1, h2, _⟩
      · have h3 : ∀ z ∈ b :: l, z ≠ c := fun z hz => by
          rcases List.mem_cons.1 hz with rfl | hz
          · exact hb
          · exact h1 z hz
        exact .inl ⟨h3, cutAt_none c _ h3⟩
      · have h3 : ∀ z ∈ b :: x, z ≠ c := fun z hz => by
          rcases List.mem_cons.1 hz with rfl | hz
          · exact hb
          · exact h2 z hz
        subst h1
        exact .inr ⟨b :: x, y, rfl, h3, cutAt_first c (b :: x) y h3⟩
theorem cutAt_ne (c : UInt8) (s : List UInt8) : ∀ x ∈ (cutAt s c).1, x ≠ c := by
  rcases cutAt_cases c s with ⟨h1, h2⟩ | ⟨a, b, _, h1, h2⟩ <;> rw [h2] <;> exact h1
theorem cutAt_more (c : UInt8) (s t : List UInt8) : (cutAt (s ++ c :: t) c).1 = (cutAt s c).1 := by
  rcases cutAt_cases c s with ⟨h1, h2⟩ | ⟨a, b, rfl, h1, h2⟩
  · rw [cutAt_first c s t h1, h2]
  · rw [h2, List.append_assoc, List.cons_append, cutAt_first c a _ h1]
/-! trims -/
def trimS (s : List UInt8) : List UInt8 := trimL (isIn [32]) (trimR (isIn [32]) s)
theorem edge_L (p : UInt8 → Bool) : ∀ s : List UInt8, trimL p s = [] ∨ p ((trimL p s).getD 0 0) = false
  | [] => .inl rfl
  | b :: l => by
    unfold trimL
    rw [List.dropWhile_cons]
    by_cases hb : p b = true
    · rw [if_pos hb]; exact edge_L p l
    · rw [if_neg hb]; exact .inr (by simpa using hb)
theorem last_L (p : UInt8 → Bool) : ∀ s : List UInt8, trimL p s = [] ∨ (trimL p s).getD ((trimL p s).length - 1) 0 = s.getD (s.length - 1) 0
  | [] => .inl rfl
  | b :: l => by
    have ih := last_L p l
    unfold trimL at ih ⊢
    rw [List.dropWhile_cons]
    by_cases hb : p b = true
    · rw [if_pos hb]
      rcases ih with h | h
      · exact .inl h
      · by_cases h0 : l.dropWhile p = []
        · exact .inl h0
        · refine .inr ?_
          rw [h]
          cases l with
          | nil => exact absurd rfl h0
          | cons c r => simp
    · rw [if_neg hb]; exact .inr rfl
theorem edge_R (p : UInt8 → Bool) : ∀ (n : Nat) (s : List UInt8), s.length = n → trimR p s = [] ∨ p ((trimR p s).getD ((trimR p s).length - 1) 0) = false
  | 0, s, h => by
    have : s = [] := List.length_eq_zero_iff.1 h
    subst this
    exact .inl rfl
  | n + 1, s, h => by
    rw [trimR_last p s (by omega)]
    by_cases hb : p (s.getD (s.length - 1) 0) = true
    · rw [if_pos hb]
      exact edge_R p n _ (by rw [List.length_take]; omega)
    · rw [if_neg hb]; exact .inr (by simpa using hb)
theorem trimS_edges (s : List UInt8) : trimS s = [] ∨ (isIn [32] ((trimS s).getD 0 0) = false ∧ isIn [32] ((trimS s).getD ((trimS s).length - 1) 0) = false) := by
  rcases edge_L (isIn [32]) (trimR (isIn [32]) s) with h1 | h1
  · exact .inl h1
  · rcases last_L (isIn [32]) (trimR (isIn [32]) s) with h2 | h2
    · exact .inl h2
    · rcases edge_R (isIn [32]) s.length s rfl with h3 | h3
      · left; unfold trimS; rw [h3]; rfl
      · refine .inr ⟨h1, ?_⟩
        unfold trimS
        rw [h2]
        exact h3
theorem trimS_idem (s : List UInt8) : trimS (trimS s) = trimS s := (trim_same (isIn [32]) (trimS s)).2 (trimS_edges s)
theorem trimS_same (s : List UInt8) (h1 : s.getD 0 0 ≠ 32) (h2 : s.getD (s.length - 1) 0 ≠ 32) : trimS s = s :=
  (trim_same (isIn [32]) s).2 (.inr ⟨by simpa [isIn] using h1, by simpa [isIn] using h2⟩)
theorem trimS_blank (s : List UInt8) : trimS (s ++ [32]) = trimS s := by
  unfold trimS trimR
  rw [List.reverse_append]
  simp [List.dropWhile_cons, isIn]
theorem last_append (a b : List UInt8) (h : b ≠ []) : (a ++ b).getD ((a ++ b).length - 1) 0 = b.getD (b.length - 1) 0 := by
  have hl : 0 < b.length := List.length_pos_iff.2 h
  rw [List.getD_eq_getElem?_getD, List.getD_eq_getElem?_getD, List.getElem?_append_right (by rw [List.length_append]; omega), List.length_append]
  congr 2
  omega
/-! verbs -/
def vIx (w : List UInt8) : Int := ixF (fun y => w == y) verbs 0
theorem verbF_eq (line : List UInt8) : verbF line = vIx ((cutAt line 32).1.map upB) := rfl
theorem argF_eq (line : List UInt8) : argF line = trimS (cutAt line 32).2.1 := rfl
theorem ixF_cases {α : Type} (p : α → Bool) (d : α) : (l : List α) → (i : Int) → ixF p l i = -1 ∨ ∃ k : Nat, k < l.length ∧ ixF p l i = i + k ∧ p (l.getD k d) = true
  | [], i => .inl rfl
  | x :: l, i => by
    unfold ixF
    split
    · rename_i h
      exact .inr ⟨0, by simp, by simp, h⟩
    · rcases ixF_cases p d l (i + 1) with h | ⟨k, h1, h2, h3⟩
      · exact .inl h
      · exact .inr ⟨k + 1, by simpa using h1, by rw [h2]; omega, by simpa using h3⟩
theorem vIx_cases (w : List UInt8) : vIx w = -1 ∨ ∃ k : Nat, k < 10 ∧ vIx w = k ∧ w = verbs.getD k [] := by
  rcases ixF_cases (fun y => w == y) ([] : List UInt8) verbs 0 with h | ⟨k, h1, h2, h3⟩
  · exact .inl h
  · exact .inr ⟨k, h1, by show ixF _ _ _ = _; omega, by simpa using h3⟩
theorem vIx_le (w : List UInt8) : vIx w ≤ 9 := by
  rcases vIx_cases w with h | ⟨k, h1, h2, _⟩ <;> omega
theorem verb_at (i : Int) (h1 : 1 ≤ i) (h2 : i ≤ 9) : vIx ((verbs.getD i.toNat []).map upB) = i ∧ ∀ x ∈ verbs.getD i.toNat [], x ≠ 32 := by
  have h : ∀ j : Fin 10, 1 ≤ j.val → vIx ((verbs.getD j.val []).map upB) = (j.val : Int) ∧ ∀ x ∈ verbs.getD j.val [], x ≠ 32 := by decide +kernel
  have := h ⟨i.toNat, by omega⟩ (by show 1 ≤ i.toNat; omega)
  refine ⟨this.1.trans (by show (i.toNat : Int) = i; omega), this.2⟩
/-! options -/
theorem optF_inv : ∀ (n : Nat) (c : Cmd) (m : List (MK × Bool)) (r : List UInt8), 0 ≤ c.2.2.1 → c.2.2.1 ≤ 999999999 →
    (optF n c m r).2.1 = c.1 ∧ (optF n c m r).2.2.1 = c.2.1 ∧ 0 ≤ (optF n c m r).2.2.2.1 ∧ (optF n c m r).2.2.2.1 ≤ 999999999
  | 0, c, m, r, h1, h2 => ⟨rfl, rfl, h1, h2⟩
  | n + 1, c, m, r, h1, h2 => by
    rw [optF]
    split
    · exact ⟨rfl, rfl, h1, h2⟩
    split
    · exact ⟨rfl, rfl, h1, h2⟩
    split
    · rename_i c' hc
      have hc' : c'.1 = c.1 ∧ c'.2.1 = c.2.1 ∧ 0 ≤ c'.2.2.1 ∧ c'.2.2.1 ≤ 999999999 := by
        unfold optOne at hc
        split at hc
        · rename_i hs
          obtain rfl := Option.some.inj hc
          have := size_bound _ hs.2
          exact ⟨rfl, rfl, this.1, this.2⟩
        split at hc
        · obtain rfl := Option.some.inj hc
          exact ⟨rfl, rfl, h1, h2⟩
        · cases hc
      have ih := optF_inv n c' (mset m (.s (oName r)) true) (oNext r) hc'.2.2.1 hc'.2.2.2
      rw [hc'.1, hc'.2.1] at ih
      exact ih
    · exact ⟨rfl, rfl, h1, h2⟩
theorem optF_verb : ∀ (n : Nat) (c : Cmd) (m : List (MK × Bool)) (r : List UInt8), (optF n c m r).2.1 = c.1
  | 0, c, m, r => rfl
  | n + 1, c, m, r => by
    rw [optF]
    split
    · rfl
    split
    · rfl
    split
    · rename_i c' hc
      have hc' : c'.1 = c.1 := by
        unfold optOne at hc
        split at hc
        · obtain rfl := Option.some.inj hc; rfl
        split at hc
        · obtain rfl := Option.some.inj hc; rfl
        · cases hc
      rw [optF_verb n c' _ _, hc']
    · rfl
theorem opt_word (w t : List UInt8) (hw : ∀ x ∈ w, x ≠ 32) (ht : t = [] ∨ ∃ u, t = 32 :: u) : preF (32 :: (w ++ t)) [32] = true ∧ oWord (32 :: (w ++ t)) = w ∧ oNext (32 :: (w ++ t)) = t := by
  have h1 : preF (32 :: (w ++ t)) [32] = true := (preF_iff _ _).2 ⟨_, rfl⟩
  have h2 : oBody (32 :: (w ++ t)) = w ++ t := by rw [oBody, if_pos h1]; rfl
  refine ⟨h1, ?_, ?_⟩
  · rw [oWord, h2]
    rcases ht with rfl | ⟨u, rfl⟩
    · rw [List.append_nil, cutAt_none 32 w hw]
    · rw [cutAt_first 32 w u hw]
  · rw [oNext, oMore, oBehind, h2]
    rcases ht with rfl | ⟨u, rfl⟩
    · rw [List.append_nil, cutAt_none 32 w hw]; rfl
    · rw [cutAt_first 32 w u hw]; rfl
theorem opt_name (w t name value : List UInt8) (hw : ∀ x ∈ w, x ≠ 32) (ht : t = [] ∨ ∃ u, t = 32 :: u) (hu : w.map upB = name ++ 61 :: value) (hn : ∀ x ∈ name, x ≠ 61) :
    oIs (32 :: (w ++ t)) = true ∧ oName (32 :: (w ++ t)) = name ∧ oValue (32 :: (w ++ t)) = value := by
  have h := (opt_word w t hw ht).2.1
  rw [oIs, oName, oValue, h, hu, cutAt_first 61 name value hn]
  exact ⟨rfl, rfl, rfl⟩
theorem opt_step (n : Nat) (c c' : Cmd) (m : List (MK × Bool)) (w t name value : List UInt8) (hw : ∀ x ∈ w, x ≠ 32) (ht : t = [] ∨ ∃ u, t = 32 :: u) (hu : w.map upB = name ++ 61 :: value) (hn : ∀ x ∈ name, x ≠ 61)
    (hs : seenF m name = false) (hc : optOne c name value = some c') : optF (n + 1) c m (32 :: (w ++ t)) = optF n c' (mset m (.s name) true) t := by
  obtain ⟨h1, h2, h3⟩ := opt_word w t hw ht
  obtain ⟨h4, h5, h6⟩ := opt_name w t name value hw ht hu hn
  rw [optF_some (c' := c') (by simp) h1 h4 (by rw [h5]; exact hs) (by rw [h5, h6]; exact hc), h5, h3]
def sizeT (n : Int) : List UInt8 := if 0 < n then [32, 83, 73, 90, 69, 61] ++ Lib.itoa n else []
def eightT (e : Bool) : List UInt8 := if e = true then [32, 66, 79, 68, 89, 61, 56, 66, 73, 84, 77, 73, 77, 69] else []
theorem eight_tail (e : Bool) : eightT e = [] ∨ ∃ u, eightT e = 32 :: u := by
  unfold eightT
  split
  · exact .inr ⟨_, rfl⟩
  · exact .inl rfl
theorem optF_nil (n : Nat) (c : Cmd) (m : List (MK × Bool)) : optF n c m [] = (true, c) := by
  cases n with
  | zero => rfl
  | succ n => rw [optF, if_pos rfl]
theorem opt_eight (n : Nat) (c : Cmd) (m : List (MK × Bool)) (e : Bool) (hc : c.2.2.2 = false) (hm : seenF m kBODY = false) : optF (n + 1) c m (eightT e) = (true, (c.1, c.2.1, c.2.2.1, e)) := by
  obtain ⟨v, a, s, g⟩ := c
  have hg : g = false := hc
  subst hg
  unfold eightT
  split
  · rename_i he
    subst he
    have := opt_step n (v, a, s, false) (v, a, s, true) m [66, 79, 68, 89, 61, 56, 66, 73, 84, 77, 73, 77, 69] [] kBODY k8BIT (by decide) (.inl rfl) (by decide) (by decide) hm ((optOne_body rfl (.inr rfl)))
    rw [show ([32, 66, 79, 68, 89, 61, 56, 66, 73, 84, 77, 73, 77, 69] : List UInt8) = 32 :: ([66, 79, 68, 89, 61, 56, 66, 73, 84, 77, 73, 77, 69] ++ []) from rfl, this, optF_nil]
  · rename_i he
    have he : e = false := by simpa using he
    subst he
    rw [optF_nil]
theorem optR_put (v : Int) (arg : List UInt8) (n : Int) (e : Bool) (h0 : 0 ≤ n) (h9 : n ≤ 999999999) : optR (v, arg, 0, false) (sizeT n ++ eightT e) = (true, (v, arg, n, e)) := by
  unfold optR sizeT
  split
  · rename_i hn
    have hd := itoa_digs h0
    have hw : ∀ x ∈ [83, 73, 90, 69, 61] ++ Lib.itoa n, x ≠ 32 := fun x hx => by
      rw [List.mem_append] at hx
      rcases hx with hx | hx
      · exact (show ∀ y ∈ ([83, 73, 90, 69, 61] : List UInt8), y ≠ 32 by decide) x hx
      · have := hd x hx
        intro h; subst h; exact absurd this (by decide)
    have hu : ([83, 73, 90, 69, 61] ++ Lib.itoa n).map upB = kSIZE ++ 61 :: Lib.itoa n := by
      rw [List.map_append, digs_up _ hd]; rfl
    have hs : optOne (v, arg, 0, false) kSIZE (Lib.itoa n) = some (v, arg, n, false) := by
      exact (optOne_size rfl (itoa_ne h0) (by have := itoa_len9 h0 h9; omega) ((digs_iff _).2 hd)).trans (by rw [atoi_itoa h0 (by omega)])
    have e1 : [32, 83, 73, 90, 69, 61] ++ Lib.itoa n ++ eightT e = 32 :: (([83, 73, 90, 69, 61] ++ Lib.itoa n) ++ eightT e) := rfl
    have e2 : ([32, 83, 73, 90, 69, 61] ++ Lib.itoa n ++ eightT e).length + 1 = (([83, 73, 90, 69, 61] ++ Lib.itoa n ++ eightT e).length) + 1 + 1 := by rw [e1, List.length_cons]
    rw [e2, e1, opt_step _ _ _ [] _ _ kSIZE _ hw (eight_tail e) hu (by decide) rfl hs, opt_eight _ _ _ e rfl (by rfl)]
  · rename_i hn
    have hn : n = 0 := by omega
    subst hn
    rw [List.nil_append, opt_eight _ _ _ e rfl rfl]
/-! paths -/
theorem path_put (h' head arg rest : List UInt8) (empty : Bool) (hl : h'.map upB = head) (ha : ∀ x ∈ arg, x ≠ 62) :
    pathF (h' ++ 60 :: (arg ++ 62 :: rest)) head empty = (arg, rest, (addrMailboxF arg).2 == 0 || (empty && arg == [])) := by
  have hlen : h'.length = head.length := by rw [← hl, List.length_map]
  have hd : (h' ++ 60 :: (arg ++ 62 :: rest)).drop head.length = 60 :: (arg ++ 62 :: rest) := List.drop_left' hlen
  have hU : pathU (h' ++ 60 :: (arg ++ 62 :: rest)) head = arg ++ 62 :: rest := by
    unfold pathU
    have hp : preF (60 :: (arg ++ 62 :: rest)) [60] = true := (preF_iff _ _).2 ⟨_, rfl⟩
    rw [hd, if_pos hp]
    rfl
  have ht : (h' ++ 60 :: (arg ++ 62 :: rest)).take head.length = h' := List.take_left' hlen
  have hg : (h' ++ 60 :: (arg ++ 62 :: rest)).getD head.length 0 = 60 := by
    rw [List.getD_eq_getElem?_getD, List.getElem?_append_right (by omega), hlen]
    simp
  rw [pathF, hU, cutAt_first 62 arg rest ha, if_neg, if_neg]
  · rintro (h | h)
    · cases h
    · exact h hg
  · rintro (h | h)
    · rw [List.length_append] at h; omega
    · exact h (by rw [ht, hl])
theorem path_inv (a head : List UInt8) (empty : Bool) (h : (pathF a head empty).2.2 = true) :
    (∀ x ∈ (pathF a head empty).1, x ≠ 62) ∧ ((addrMailboxF (pathF a head empty).1).2 == 0 || (empty && (pathF a head empty).1 == [])) = true := by
  unfold pathF at h ⊢
  split
  · rename_i h1; rw [if_pos h1] at h; cases h
  · rename_i h1
    rw [if_neg h1] at h
    split
    · rename_i h2; rw [if_pos h2] at h; cases h
    · rename_i h2
      rw [if_neg h2] at h
      exact ⟨cutAt_ne 62 _, h⟩
/-! commands -/
theorem parse_inv (line : List UInt8) (c : Cmd) (h : parseF line = (c, 0)) : 1 ≤ verbF line ∧ bodyF (verbF line) (argF line) = (true, c) := by
  unfold parseF at h
  split at h
  · cases h
  · rename_i h1
    split at h
    · rename_i h2
      refine ⟨by omega, ?_⟩
      have : (bodyF (verbF line) (argF line)).2 = c := congrArg Prod.fst h
      rw [← this, ← h2]
    · cases h
theorem parse_of (line : List UInt8) (c : Cmd) (h1 : 1 ≤ verbF line) (h2 : bodyF (verbF line) (argF line) = (true, c)) : parseF line = (c, 0) := by
  rw [parseF, if_neg (by omega), h2, if_pos rfl]
theorem parse_words (w b : List UInt8) (c : Cmd) (i : Int) (hw : ∀ x ∈ w, x ≠ 32) (hv : vIx (w.map upB) = i) (h1 : 1 ≤ i) (h2 : bodyF i (trimS b) = (true, c)) : parseF (w ++ 32 :: b) = (c, 0) := by
  have e := cutAt_first 32 w b hw
  refine parse_of _ _ ?_ ?_
  · rw [verbF_eq, e]; show 1 ≤ vIx (w.map upB); omega
  · rw [verbF_eq, argF_eq, e]; show bodyF (vIx (w.map upB)) (trimS b) = _; rw [hv, h2]
theorem parse_alone (w : List UInt8) (c : Cmd) (i : Int) (hw : ∀ x ∈ w, x ≠ 32) (hv : vIx (w.map upB) = i) (h1 : 1 ≤ i) (h2 : bodyF i [] = (true, c)) : parseF w = (c, 0) := by
  have e := cutAt_none 32 w hw
  refine parse_of _ _ ?_ ?_
  · rw [verbF_eq, e]; show 1 ≤ vIx (w.map upB); omega
  · rw [verbF_eq, argF_eq, e]; show bodyF (vIx (w.map upB)) (trimS []) = _; rw [hv]; exact h2
theorem body_cases (i : Int) (a : List UInt8) (c : Cmd) (h1 : 1 ≤ i) (h9 : i ≤ 9) (h : bodyF i a = (true, c)) :
    (i ≠ 3 ∧ i ≠ 4 ∧ c = (i, a, 0, false)) ∨ (i = 4 ∧ ∃ arg, pathF a kTO false = (arg, [], true) ∧ c = (4, arg, 0, false)) ∨ (i = 3 ∧ ∃ arg rest, pathF a kFROM true = (arg, rest, true) ∧ optR (3, arg, 0, false) rest = (true, c)) := by
  unfold bodyF at h
  split at h
  · rename_i h2
    exact .inl ⟨by omega, by omega, (congrArg Prod.snd h).symm⟩
  split at h
  · rename_i h3
    subst h3
    right; right
    refine ⟨rfl, ?_⟩
    split at h
    · rename_i h4
      exact ⟨_, _, Prod.ext rfl (Prod.ext rfl h4), h⟩
    · cases h
  split at h
  · rename_i h4
    subst h4
    right; left
    refine ⟨rfl, _, ?_, (congrArg Prod.snd h).symm⟩
    have := congrArg Prod.fst h
    simp only [Bool.and_eq_true, beq_iff_eq] at this
    exact Prod.ext rfl (Prod.ext this.2 this.1)
  split at h
  · exact .inl ⟨by assumption, by assumption, (congrArg Prod.snd h).symm⟩
  split at h
  · exact .inl ⟨by assumption, by assumption, (congrArg Prod.snd h).symm⟩
  · exact .inl ⟨by assumption, by assumption, (congrArg Prod.snd h).symm⟩
theorem bodyF_verb (i : Int) (a : List UInt8) : (bodyF i a).2.1 = i := by
  unfold bodyF
  repeat' split
  all_goals first
    | rfl
    | (unfold optR; rw [optF_verb]; done)
/-- What a sender's line is. -/
def mailT (c : Cmd) : List UInt8 := [70, 82, 79, 77, 58] ++ 60 :: (c.2.1 ++ 62 :: (sizeT c.2.2.1 ++ eightT c.2.2.2))
def rcptT (c : Cmd) : List UInt8 := [84, 79, 58] ++ 60 :: (c.2.1 ++ 62 :: (sizeT c.2.2.1 ++ eightT c.2.2.2))
theorem put_mail (c : Cmd) (h : c.1 = 3) : putAll c = [77, 65, 73, 76] ++ 32 :: mailT c := by
  obtain ⟨v, a, s, e⟩ := c
  have h : v = 3 := h
  subst h
  have h0 : putArg (3, a, s, e) = [77, 65, 73, 76, 32, 70, 82, 79, 77, 58, 60] ++ a ++ [62] := rfl
  unfold putAll putSize
  rw [h0]
  simp only [mailT, sizeT, eightT]
  split <;> split <;> simp
theorem put_rcpt (c : Cmd) (h : c.1 = 4) : putAll c = [82, 67, 80, 84] ++ 32 :: rcptT c := by
  obtain ⟨v, a, s, e⟩ := c
  have h : v = 4 := h
  subst h
  have h0 : putArg (4, a, s, e) = [82, 67, 80, 84, 32, 84, 79, 58, 60] ++ a ++ [62] := rfl
  unfold putAll putSize
  rw [h0]
  simp only [rcptT, sizeT, eightT]
  split <;> split <;> simp
theorem opts_last (n : Int) (e : Bool) (h0 : 0 ≤ n) (a : List UInt8) : (a ++ 62 :: (sizeT n ++ eightT e)).getD ((a ++ 62 :: (sizeT n ++ eightT e)).length - 1) 0 ≠ 32 := by
  rw [last_append _ _ (by simp)]
  cases e with
  | true =>
    rw [show 62 :: (sizeT n ++ eightT true) = (62 :: sizeT n) ++ eightT true from rfl, last_append _ _ (by decide)]
    decide
  | false =>
    rw [show eightT false = [] from rfl, List.append_nil]
    by_cases hn : 0 < n
    · have hd := itoa_digs h0
      have hi := itoa_ne h0
      rw [show 62 :: sizeT n = [62, 32, 83, 73, 90, 69, 61] ++ Lib.itoa n by rw [sizeT, if_pos hn]; rfl, last_append _ _ hi]
      have hm : (Lib.itoa n).getD ((Lib.itoa n).length - 1) 0 ∈ Lib.itoa n := getD_mem (by have := List.length_pos_iff.2 hi; omega)
      have := hd _ hm
      intro h
      rw [h] at this
      exact absurd this (by decide)
    · rw [sizeT, if_neg hn]; decide
theorem mail_trim (c : Cmd) (h0 : 0 ≤ c.2.2.1) : trimS (mailT c) = mailT c :=
  trimS_same _ (by simp [mailT]) (by
    have := opts_last c.2.2.1 c.2.2.2 h0 ([70, 82, 79, 77, 58] ++ 60 :: c.2.1)
    rw [List.append_assoc] at this
    exact this)
theorem rcpt_trim (c : Cmd) (h0 : 0 ≤ c.2.2.1) : trimS (rcptT c) = rcptT c :=
  trimS_same _ (by simp [rcptT]) (by
    have := opts_last c.2.2.1 c.2.2.2 h0 ([84, 79, 58] ++ 60 :: c.2.1)
    rw [List.append_assoc] at this
    exact this)
/-- What was parsed, printed, is parsed to the same. -/
theorem print_parse (line : List UInt8) (c : Cmd) (h : parseF line = (c, 0)) : parseF (putAll c) = (c, 0) := by
  obtain ⟨h1, h2⟩ := parse_inv line c h
  have h9 : verbF line ≤ 9 := by rw [verbF_eq]; exact vIx_le _
  have ht : trimS (argF line) = argF line := by rw [argF_eq]; exact trimS_idem _
  generalize verbF line = i at *
  generalize argF line = a at *
  obtain ⟨v1, v2⟩ := verb_at i h1 h9
  rcases body_cases i a c h1 h9 h2 with ⟨n3, n4, rfl⟩ | ⟨rfl, arg, hp, rfl⟩ | ⟨rfl, arg, rest, hp, ho⟩
  · have e : putAll (i, a, 0, false) = putArg (i, a, 0, false) := rfl
    rw [e, putArg, if_neg n3, if_neg n4]
    split
    · exact parse_words _ a _ i v2 v1 h1 (by rw [ht]; exact h2)
    · rename_i h0
      have h0 : a = [] := by simpa using h0
      subst h0
      exact parse_alone _ _ i v2 v1 h1 h2
  · have hi := path_inv a kTO false (by rw [hp])
    rw [hp] at hi
    rw [put_rcpt _ rfl]
    refine parse_words _ _ _ 4 (by decide) (by decide) (by decide) ?_
    rw [rcpt_trim _ (Int.le_refl 0), rcptT]
    have hq := path_put [84, 79, 58] kTO arg [] false (by decide) hi.1
    rw [hi.2] at hq
    have e : [84, 79, 58] ++ 60 :: (arg ++ 62 :: (sizeT 0 ++ eightT false)) = [84, 79, 58] ++ 60 :: (arg ++ [62]) := rfl
    show bodyF 4 ([84, 79, 58] ++ 60 :: (arg ++ 62 :: (sizeT 0 ++ eightT false))) = _
    rw [e, bodyF, if_neg (by decide), if_neg (by decide), if_pos rfl, hq]
    rfl
  · have hi := path_inv a kFROM true (by rw [hp])
    rw [hp] at hi
    have hv := optF_inv (rest.length + 1) (3, arg, 0, false) [] rest (Int.le_refl 0) (by show (0 : Int) ≤ 999999999; decide)
    rw [show optF (rest.length + 1) (3, arg, 0, false) [] rest = (true, c) from ho] at hv
    obtain ⟨cv, ca, cs, ce⟩ := c
    obtain ⟨q1, q2, q3, q4⟩ := hv
    have q1 : cv = 3 := q1
    have q2 : ca = arg := q2
    have q3 : 0 ≤ cs := q3
    have q4 : cs ≤ 999999999 := q4
    subst q1 q2
    rw [put_mail _ rfl]
    refine parse_words _ _ _ 3 (by decide) (by decide) (by decide) ?_
    rw [mail_trim _ q3, mailT]
    have hq := path_put [70, 82, 79, 77, 58] kFROM ca (sizeT cs ++ eightT ce) true (by decide) hi.1
    rw [hi.2] at hq
    have hr := optR_put 3 ca cs ce q3 q4
    show bodyF 3 ([70, 82, 79, 77, 58] ++ 60 :: (ca ++ 62 :: (sizeT cs ++ eightT ce))) = _
    rw [bodyF, if_neg (by decide), if_pos rfl, hq]
    simp only [if_pos]
    exact hr
/-! replies -/
theorem read_line (r : Int × List UInt8) (h : replyOk r = true) : readF (Lib.itoa r.1 ++ 32 :: r.2) = (r, 0) := by
  have hc : 200 ≤ r.1 ∧ r.1 ≤ 599 := by
    have hc := h
    simp only [replyOk, Bool.and_eq_true, decide_eq_true_eq] at hc
    exact ⟨hc.1.1.1, hc.1.1.2⟩
  have hw : ∀ x ∈ Lib.itoa r.1, x ≠ 32 := fun x hx hh => by
    have := itoa_digs (n := r.1) (by omega) x hx
    subst hh
    exact absurd this (by decide)
  unfold readF
  rw [cutAt_first 32 _ _ hw]
  have e : atoiF (Lib.itoa r.1) = r.1 := atoi_itoa (by omega) (by omega)
  show (if true = true ∧ Lib.itoa (atoiF (Lib.itoa r.1)) = Lib.itoa r.1 ∧ replyOk (atoiF (Lib.itoa r.1), r.2) = true then ((atoiF (Lib.itoa r.1), r.2), 0) else ((0, []), 2)) = _
  rw [e, if_pos ⟨rfl, rfl, h⟩]
end Go.Proofs.YtbkemaekncpkjaaDoor
