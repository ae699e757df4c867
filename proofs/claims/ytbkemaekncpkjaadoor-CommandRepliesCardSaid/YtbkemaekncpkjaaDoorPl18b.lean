/- Helper lemmas towards this seat's statements: a contract, proved for every input within its own premise, of functions of the program. -/
import Derived.Test.YtbkemaekncpkjaaDoorPl18
namespace Go.Proofs.YtbkemaekncpkjaaDoor
open Go Go.Vx
set_option maxRecDepth 100000
set_option linter.unusedSimpArgs false
set_option linter.unusedVariables false
/-! bounds -/
theorem parse_bound (line : List UInt8) (c : Cmd) (h : parseF line = (c, 0)) : 1 ≤ c.1 ∧ c.1 ≤ 9 ∧ c.2.1.length ≤ line.length ∧ 0 ≤ c.2.2.1 ∧ c.2.2.1 ≤ 999999999 := by
  obtain ⟨h1, h2⟩ := parse_inv line c h
  have h9 : verbF line ≤ 9 := by rw [verbF_eq]; exact vIx_le _
  have hl : (argF line).length ≤ line.length := Nat.le_trans (trimLR_len _ _) (cutAt_len line 32).2
  generalize verbF line = i at *
  generalize argF line = a at *
  rcases body_cases i a c h1 h9 h2 with ⟨n3, n4, rfl⟩ | ⟨rfl, arg, hp, rfl⟩ | ⟨rfl, arg, rest, hp, ho⟩
  · exact ⟨h1, h9, hl, Int.le_refl 0, by show (0 : Int) ≤ 999999999; decide⟩
  · have := (pathF_len a kTO false).1
    rw [hp] at this
    exact ⟨h1, h9, Nat.le_trans this hl, Int.le_refl 0, by show (0 : Int) ≤ 999999999; decide⟩
  · have := (pathF_len a kFROM true).1
    rw [hp] at this
    have hv := optF_inv (rest.length + 1) (3, arg, 0, false) [] rest (Int.le_refl 0) (by show (0 : Int) ≤ 999999999; decide)
    rw [show optF (rest.length + 1) (3, arg, 0, false) [] rest = (true, c) from ho] at hv
    obtain ⟨q1, q2, q3, q4⟩ := hv
    have q1 : c.1 = 3 := q1
    have q2 : c.2.1 = arg := q2
    exact ⟨by omega, by omega, by rw [q2]; exact Nat.le_trans this hl, q3, q4⟩
theorem putAll_len (c : Cmd) (h1 : 1 ≤ c.1) (h9 : c.1 ≤ 9) (hs1 : -9223372036854775808 ≤ c.2.2.1) (hs2 : c.2.2.1 ≤ 9223372036854775807) : (putAll c).length ≤ c.2.1.length + 61 := by
  have hv : (verbs.getD c.1.toNat []).length = 4 := (verbs_len c.1 h1 h9).1
  have hi := Lib.itoa_length_le c.2.2.1 hs1 hs2
  have ha : (putArg c).length ≤ c.2.1.length + 20 := by
    unfold putArg
    split
    · simp only [List.length_append, List.length_cons, List.length_nil]; omega
    split
    · simp only [List.length_append, List.length_cons, List.length_nil]; omega
    split
    · simp only [List.length_append, List.length_cons, List.length_nil]; omega
    · omega
  have hb : (putSize c).length ≤ c.2.1.length + 47 := by
    unfold putSize
    split
    · simp only [List.length_append, List.length_cons, List.length_nil]; omega
    · omega
  unfold putAll
  split
  · simp only [List.length_append, List.length_cons, List.length_nil]; omega
  · omega
theorem print_inv (c : Cmd) (q : List UInt8) (h : cmdPrintF c = (q, 0)) : 1 ≤ c.1 ∧ c.1 ≤ 9 ∧ q = putAll c ∧ parseF q = (c, 0) := by
  unfold cmdPrintF at h
  split at h
  · exact absurd (congrArg Prod.snd h) (by show ¬ ((2 : Int) = 0); decide)
  · rename_i h1
    split at h
    · rename_i h2
      have e : putAll c = q := congrArg Prod.fst h
      subst e
      exact ⟨by omega, by omega, rfl, Prod.ext h2.2 h2.1⟩
    · exact absurd (congrArg Prod.snd h) (by show ¬ ((2 : Int) = 0); decide)
theorem print_of (c : Cmd) (h : parseF (putAll c) = (c, 0)) (h1 : 1 ≤ c.1) (h9 : c.1 ≤ 9) : cmdPrintF c = (putAll c, 0) := by
  rw [cmdPrintF, if_neg (by omega), h, if_pos ⟨rfl, rfl⟩]
theorem parse_zero (l : List UInt8) (h : verbF l < 1) : parseF l = (zeroC, 14) := by rw [parseF, if_pos h]
theorem parse_verb (l : List UInt8) (h : ¬ verbF l < 1) : (parseF l).2 = 2 ∨ ((parseF l).2 = 0 ∧ (parseF l).1.1 = verbF l) := by
  rw [parseF, if_neg h]
  split
  · exact .inr ⟨rfl, bodyF_verb _ _⟩
  · exact .inl rfl
theorem more_verb (s t : List UInt8) : verbF (s ++ [32] ++ t) = verbF s := by
  rw [verbF_eq, verbF_eq, List.append_assoc, List.cons_append, List.nil_append, cutAt_more]
theorem blank_parse (w t : List UInt8) (hw : ∀ x ∈ w, x ≠ 32) : parseF (w ++ 32 :: t ++ [32, 32]) = parseF (w ++ 32 :: t) := by
  have e1 : w ++ 32 :: t ++ [32, 32] = w ++ 32 :: ((t ++ [32]) ++ [32]) := by simp
  have v : verbF (w ++ 32 :: ((t ++ [32]) ++ [32])) = verbF (w ++ 32 :: t) := by rw [verbF_eq, verbF_eq, cutAt_first 32 w _ hw, cutAt_first 32 w _ hw]
  have a : argF (w ++ 32 :: ((t ++ [32]) ++ [32])) = argF (w ++ 32 :: t) := by
    rw [argF_eq, argF_eq, cutAt_first 32 w _ hw, cutAt_first 32 w _ hw]
    show trimS ((t ++ [32]) ++ [32]) = trimS t
    rw [trimS_blank, trimS_blank]
  rw [e1]
  unfold parseF
  rw [v, a]
/-! lines -/
theorem line_bad (r : Int × List UInt8) (h : ¬ (lineF r).2 = 0) : (lineF r).1 = [] := by
  unfold lineF at h ⊢
  split
  · rename_i h1; rw [if_pos h1] at h; exact absurd rfl h
  · rfl
theorem line_good (r : Int × List UInt8) (h : (lineF r).2 = 0) : replyOk r = true ∧ (lineF r).1 = (Lib.itoa r.1 ++ 32 :: r.2) ++ [13, 10] ∧ 200 ≤ r.1 ∧ r.1 ≤ 599 := by
  unfold lineF at h ⊢
  split
  · rename_i h1
    have hc := h1
    simp only [replyOk, Bool.and_eq_true, decide_eq_true_eq] at hc
    exact ⟨h1, rfl, hc.1.1.1, hc.1.1.2⟩
  · rename_i h1; rw [if_neg h1] at h; exact absurd h (by decide)
theorem line_shape (r : Int × List UInt8) (h : (lineF r).2 = 0) : ∃ x y z : Nat, x < 10 ∧ y < 10 ∧ z < 10 ∧ r.1 = 100 * x + 10 * y + z ∧ (lineF r).1 = UInt8.ofNat (48 + x) :: UInt8.ofNat (48 + y) :: UInt8.ofNat (48 + z) :: 32 :: (r.2 ++ [13, 10]) := by
  obtain ⟨_, h1, h2, h3⟩ := line_good r h
  refine ⟨r.1.toNat / 10 / 10, r.1.toNat / 10 % 10, r.1.toNat % 10, by omega, by omega, by omega, by omega, ?_⟩
  rw [h1, itoa3 h2 h3]
  rfl
theorem line_inj (r r' : Int × List UInt8) (h : (lineF r).2 = 0) (h' : (lineF r').2 = 0) (e : (lineF r).1 = (lineF r').1) : r = r' := by
  obtain ⟨a1, a2, a3, a4⟩ := line_good r h
  obtain ⟨b1, b2, b3, b4⟩ := line_good r' h'
  rw [a2, b2] at e
  have e2 := (List.append_left_inj [13, 10]).1 e
  have c1 := read_line r a1
  have c2 := read_line r' b1
  rw [e2, c2] at c1
  exact (congrArg Prod.fst c1).symm
/-! letters turned -/
def flipB (bt : Nat → Bool) (k : Nat) (i : Bool) (b : UInt8) : UInt8 := if i = false ∧ bt k = true ∧ 65 ≤ b.toNat ∧ b.toNat ≤ 90 then b + 32 else b
def inB (i : Bool) (b : UInt8) : Bool := if b = 60 then true else if b = 62 then false else i
def inF : Bool → List UInt8 → Bool
  | i, [] => i
  | i, b :: l => inF (inB i b) l
def flipF (bt : Nat → Bool) : Nat → Bool → List UInt8 → List UInt8
  | _, _, [] => []
  | k, i, b :: l => flipB bt k (inB i b) b :: flipF bt (k + 1) (inB i b) l
theorem flipF_app (bt : Nat → Bool) : ∀ (a b : List UInt8) (k : Nat) (i : Bool), flipF bt k i (a ++ b) = flipF bt k i a ++ flipF bt (k + a.length) (inF i a) b
  | [], b, k, i => by simp [flipF, inF]
  | x :: a, b, k, i => by
    simp only [List.cons_append, flipF, inF, flipF_app bt a b, List.length_cons]
    rw [show k + 1 + a.length = k + (a.length + 1) by omega]
theorem inF_app : ∀ (a b : List UInt8) (i : Bool), inF i (a ++ b) = inF (inF i a) b
  | [], b, i => rfl
  | x :: a, b, i => by simp only [List.cons_append, inF, inF_app a b]
theorem flipF_len (bt : Nat → Bool) : ∀ (a : List UInt8) (k : Nat) (i : Bool), (flipF bt k i a).length = a.length
  | [], k, i => rfl
  | x :: a, k, i => by simp [flipF, flipF_len bt a]
theorem flipF_up (bt : Nat → Bool) : ∀ (a : List UInt8) (k : Nat) (i : Bool), (flipF bt k i a).map upB = a.map upB
  | [], k, i => rfl
  | x :: a, k, i => by
    simp only [flipF, List.map_cons, flipF_up bt a]
    congr 1
    unfold flipB
    split
    · rename_i h; exact upB_flip x h.2.2
    · rfl
theorem flipB_low (bt : Nat → Bool) (k : Nat) (i : Bool) (b : UInt8) (h : b.toNat < 65) : flipB bt k i b = b := by
  unfold flipB; rw [if_neg (by omega)]
theorem flipF_in (bt : Nat → Bool) : ∀ (a t : List UInt8) (k : Nat), (∀ x ∈ a, x ≠ 62) → flipF bt k true (a ++ 62 :: t) = a ++ 62 :: flipF bt (k + a.length + 1) false t
  | [], t, k, h => by
    simp only [List.nil_append, flipF, List.length_nil, Nat.add_zero]
    rw [flipB_low _ _ _ _ (by decide)]
    rfl
  | x :: a, t, k, h => by
    have hx : inB true x = true := by
      unfold inB
      split
      · rfl
      · rw [if_neg (h x (by simp))]
    simp only [List.cons_append, flipF, hx, flipF_in bt a t (k + 1) (fun y hy => h y (by simp [hy])), List.length_cons]
    rw [show k + 1 + a.length + 1 = k + (a.length + 1) + 1 by omega]
    rfl
theorem flipF_shape (bt : Nat → Bool) (w h arg o : List UInt8) (ha : ∀ x ∈ arg, x ≠ 62) : ∃ w' h' o', flipF bt 0 false (w ++ 32 :: (h ++ 60 :: (arg ++ 62 :: o))) = w' ++ 32 :: (h' ++ 60 :: (arg ++ 62 :: o')) ∧
    w'.map upB = w.map upB ∧ h'.map upB = h.map upB ∧ o'.map upB = o.map upB := by
  refine ⟨flipF bt 0 false w, flipF bt (0 + w.length + 1) (inF false w) h, flipF bt (0 + w.length + 1 + h.length + 1 + arg.length + 1) false o, ?_, flipF_up bt _ _ _, flipF_up bt _ _ _, flipF_up bt _ _ _⟩
  rw [flipF_app]
  congr 1
  simp only [flipF]
  rw [flipB_low _ _ _ 32 (by decide), show inB (inF false w) 32 = inF false w from rfl, flipF_app]
  congr 2
  simp only [flipF]
  rw [flipB_low _ _ _ 60 (by decide), show inB (inF (inF false w) h) 60 = true from rfl, flipF_in bt arg o _ ha]
/-! texts alike but for letters -/
theorem up_no {a b : List UInt8} (h : a.map upB = b.map upB) {c : UInt8} (hc : c.toNat < 65) (hb : ∀ x ∈ b, x ≠ c) : ∀ x ∈ a, x ≠ c := by
  intro x hx e
  subst e
  have h1 : upB x ∈ b.map upB := h ▸ List.mem_map_of_mem hx
  obtain ⟨y, hy, he⟩ := List.mem_map.1 h1
  rw [(upB_eqc x hc x).2 rfl] at he
  exact hb y hy ((upB_eqc x hc y).1 he)
theorem up_len {a b : List UInt8} (h : a.map upB = b.map upB) : a.length = b.length := by simpa using congrArg List.length h
theorem up_at {a b : List UInt8} (h : a.map upB = b.map upB) {c : UInt8} (hc : c.toNat < 65) (k : Nat) : a.getD k 0 = c ↔ b.getD k 0 = c := by
  have h1 : upB (a.getD k 0) = upB (b.getD k 0) := by
    have e := congrArg (fun l => l[k]?) h
    simp only [List.getElem?_map] at e
    rw [List.getD_eq_getElem?_getD, List.getD_eq_getElem?_getD]
    cases e1 : a[k]? <;> cases e2 : b[k]? <;> rw [e1, e2] at e <;> simp at e ⊢
    exact e
  rw [← upB_eqc c hc, h1, upB_eqc c hc]
theorem up_trim {a b : List UInt8} (h : a.map upB = b.map upB) (hb : trimS b = b) : trimS a = a := by
  have hl := up_len h
  have e : ∀ x : UInt8, isIn [32] x = false ↔ ¬ x = 32 := fun x => by simp [isIn]
  refine (trim_same (isIn [32]) a).2 ?_
  rcases (trim_same (isIn [32]) b).1 hb with h0 | ⟨h1, h2⟩
  · left
    subst h0
    exact List.length_eq_zero_iff.1 (by simpa using hl)
  · right
    rw [e] at h1 h2 ⊢
    rw [e, up_at h (by decide), up_at h (by decide), hl]
    exact ⟨h1, h2⟩
theorem cutAt_up (c : UInt8) (hc : c.toNat < 65) (s : List UInt8) : cutAt (s.map upB) c = ((cutAt s c).1.map upB, (cutAt s c).2.1.map upB, (cutAt s c).2.2.1, ()) := by
  have hno : ∀ l : List UInt8, (∀ x ∈ l, x ≠ c) → ∀ x ∈ l.map upB, x ≠ c := fun l hl => up_no (a := l.map upB) (b := l) (by rw [List.map_map]; exact List.map_congr_left fun b _ => upB_idem b) hc hl
  rcases cutAt_cases c s with ⟨h1, h2⟩ | ⟨a, b, rfl, h1, h2⟩
  · rw [h2, cutAt_none c _ (hno s h1)]; rfl
  · rw [h2, List.map_append, List.map_cons, (upB_eqc c hc c).2 rfl, cutAt_first c _ _ (hno a h1)]
theorem cut_up {c : UInt8} (hc : c.toNat < 65) {a b : List UInt8} (h : a.map upB = b.map upB) : (cutAt a c).1.map upB = (cutAt b c).1.map upB ∧ (cutAt a c).2.1.map upB = (cutAt b c).2.1.map upB ∧ (cutAt a c).2.2.1 = (cutAt b c).2.2.1 := by
  have e := cutAt_up c hc a
  rw [h, cutAt_up c hc b] at e
  simp only [Prod.mk.injEq] at e
  exact ⟨e.1.symm, e.2.1.symm, e.2.2.1.symm⟩
theorem pre_up {a b : List UInt8} (h : a.map upB = b.map upB) : preF a [32] = preF b [32] := by
  cases a with
  | nil => cases b with
    | nil => rfl
    | cons y b => simp at h
  | cons x a => cases b with
    | nil => simp at h
    | cons y b =>
      simp only [List.map_cons, List.cons.injEq] at h
      have e : x = 32 ↔ y = 32 := by rw [← upB_eqc 32 (by decide) x, h.1, upB_eqc 32 (by decide) y]
      have e1 : ∀ (z : UInt8) (l : List UInt8), preF (z :: l) [32] = true ↔ z = 32 := fun z l => by
        rw [preF_iff]
        constructor
        · rintro ⟨r, hr⟩; simpa using (List.cons.inj hr).1
        · rintro rfl; exact ⟨l, rfl⟩
      rw [Bool.eq_iff_iff, e1, e1, e]
theorem body_up {a b : List UInt8} (h : a.map upB = b.map upB) : (oBody a).map upB = (oBody b).map upB := by
  unfold oBody
  rw [pre_up h]
  split
  · rw [List.map_drop, List.map_drop, h]
  · exact h
theorem next_up {a b : List UInt8} (h : a.map upB = b.map upB) : (oNext a).map upB = (oNext b).map upB := by
  obtain ⟨_, h2, h3⟩ := cut_up (c := 32) (by decide) (body_up h)
  unfold oNext oMore oBehind
  rw [h3]
  split
  · rw [List.map_cons, List.map_cons, h2]
  · exact h2
theorem word_up {a b : List UInt8} (h : a.map upB = b.map upB) : (oWord a).map upB = (oWord b).map upB := (cut_up (c := 32) (by decide) (body_up h)).1
theorem optF_up : ∀ (n : Nat) (c : Cmd) (m : List (MK × Bool)) (a b : List UInt8), a.map upB = b.map upB → optF n c m a = optF n c m b
  | 0, c, m, a, b, h => by
    have : a = [] ↔ b = [] := by rw [← List.length_eq_zero_iff, up_len h, List.length_eq_zero_iff]
    simp only [optF]
    congr 1
    rw [Bool.eq_iff_iff, beq_iff_eq, beq_iff_eq, this]
  | n + 1, c, m, a, b, h => by
    have h0 : a = [] ↔ b = [] := by rw [← List.length_eq_zero_iff, up_len h, List.length_eq_zero_iff]
    have e1 : oIs a = oIs b := by unfold oIs; rw [word_up h]
    have e2 : oName a = oName b := by unfold oName; rw [word_up h]
    have e3 : oValue a = oValue b := by unfold oValue; rw [word_up h]
    have ih : ∀ c' m', optF n c' m' (oNext a) = optF n c' m' (oNext b) := fun c' m' => optF_up n c' m' _ _ (next_up h)
    simp only [optF, pre_up h, e1, e2, e3, ih, h0]
theorem optR_up (c : Cmd) (a b : List UInt8) (h : a.map upB = b.map upB) : optR c a = optR c b := by
  unfold optR
  rw [up_len h]
  exact optF_up _ _ _ _ _ h
/-- What a sender's, or a recipient's, printed command is. -/
theorem printed_mail (c : Cmd) (h : parseF (putAll c) = (c, 0)) (hv : c.1 = 3) : (∀ x ∈ c.2.1, x ≠ 62) ∧ ((addrMailboxF c.2.1).2 == 0 || (true && c.2.1 == [])) = true ∧ 0 ≤ c.2.2.1 ∧ c.2.2.1 ≤ 999999999 := by
  obtain ⟨_, _, _, q3, q4⟩ := parse_bound _ c h
  have ei := parse_inv _ c h
  rw [put_mail c hv, verbF_eq, argF_eq, cutAt_first 32 _ _ (by decide)] at ei
  have e2 : bodyF 3 (trimS (mailT c)) = (true, c) := ei.2
  rw [mail_trim c q3] at e2
  rcases body_cases 3 _ c (by decide) (by decide) e2 with ⟨n3, n4, _⟩ | ⟨n4, _⟩ | ⟨_, arg, rest, hp, ho⟩
  · exact absurd rfl n3
  · exact absurd n4 (by decide)
  · have hi := path_inv (mailT c) kFROM true (by rw [hp])
    rw [hp] at hi
    have hv := optF_inv (rest.length + 1) (3, arg, 0, false) [] rest (Int.le_refl 0) (by show (0 : Int) ≤ 999999999; decide)
    rw [show optF (rest.length + 1) (3, arg, 0, false) [] rest = (true, c) from ho] at hv
    have q2 : c.2.1 = arg := hv.2.1
    rw [q2]
    exact ⟨hi.1, hi.2, q3, q4⟩
theorem printed_rcpt (c : Cmd) (h : parseF (putAll c) = (c, 0)) (hv : c.1 = 4) : (∀ x ∈ c.2.1, x ≠ 62) ∧ ((addrMailboxF c.2.1).2 == 0 || (false && c.2.1 == [])) = true ∧ c = (4, c.2.1, 0, false) := by
  obtain ⟨_, _, _, q3, q4⟩ := parse_bound _ c h
  have ei := parse_inv _ c h
  rw [put_rcpt c hv, verbF_eq, argF_eq, cutAt_first 32 _ _ (by decide)] at ei
  have e2 : bodyF 4 (trimS (rcptT c)) = (true, c) := ei.2
  rw [rcpt_trim c q3] at e2
  rcases body_cases 4 _ c (by decide) (by decide) e2 with ⟨n3, n4, _⟩ | ⟨_, arg, hp, he⟩ | ⟨n3, _⟩
  · exact absurd rfl n4
  · have hi := path_inv (rcptT c) kTO false (by rw [hp])
    rw [hp] at hi
    have q2 : c.2.1 = arg := by rw [he]
    rw [q2]
    exact ⟨hi.1, hi.2, he⟩
  · exact absurd n3 (by decide)
/-- Letters outside of < and > play no part. -/
theorem flip_parse (bt : Nat → Bool) (c : Cmd) (h : parseF (putAll c) = (c, 0)) (hv : c.1 = 3 ∨ c.1 = 4) : parseF (flipF bt 0 false (putAll c)) = (c, 0) := by
  rcases hv with hv | hv
  · obtain ⟨ha, hm, q3, q4⟩ := printed_mail c h hv
    obtain ⟨w', h', o', e, hw, hh, ho⟩ := flipF_shape bt [77, 65, 73, 76] [70, 82, 79, 77, 58] c.2.1 (sizeT c.2.2.1 ++ eightT c.2.2.2) ha
    rw [put_mail c hv]
    show parseF (flipF bt 0 false ([77, 65, 73, 76] ++ 32 :: ([70, 82, 79, 77, 58] ++ 60 :: (c.2.1 ++ 62 :: (sizeT c.2.2.1 ++ eightT c.2.2.2))))) = _
    rw [e]
    have ht : (h' ++ 60 :: (c.2.1 ++ 62 :: o')).map upB = (mailT c).map upB := by
      simp only [mailT, List.map_append, List.map_cons, hh, ho]
    refine parse_words w' _ c 3 (up_no hw (by decide) (by decide)) (by rw [hw]; decide) (by decide) ?_
    rw [up_trim ht (mail_trim c q3), bodyF, if_neg (by decide), if_pos rfl, path_put h' kFROM c.2.1 o' true (by rw [hh]; decide) ha, hm]
    simp only [if_pos]
    rw [optR_up _ _ _ ho, optR_put 3 c.2.1 _ _ q3 q4]
    obtain ⟨c1, c2, c3, c4⟩ := c
    have hv : c1 = 3 := hv
    subst hv
    rfl
  · obtain ⟨ha, hm, hc⟩ := printed_rcpt c h hv
    have h2 : c.2.2.1 = 0 := by rw [hc]
    have h3 : c.2.2.2 = false := by rw [hc]
    obtain ⟨w', h', o', e, hw, hh, ho⟩ := flipF_shape bt [82, 67, 80, 84] [84, 79, 58] c.2.1 (sizeT c.2.2.1 ++ eightT c.2.2.2) ha
    rw [put_rcpt c hv]
    show parseF (flipF bt 0 false ([82, 67, 80, 84] ++ 32 :: ([84, 79, 58] ++ 60 :: (c.2.1 ++ 62 :: (sizeT c.2.2.1 ++ eightT c.2.2.2))))) = _
    rw [e]
    have ht : (h' ++ 60 :: (c.2.1 ++ 62 :: o')).map upB = (rcptT c).map upB := by
      simp only [rcptT, List.map_append, List.map_cons, hh, ho]
    have ho' : o' = [] := by
      rw [h2, h3] at ho
      have := up_len ho
      exact List.length_eq_zero_iff.1 (by simpa [sizeT, eightT] using this)
    subst ho'
    refine parse_words w' _ c 4 (up_no hw (by decide) (by decide)) (by rw [hw]; decide) (by decide) ?_
    rw [up_trim ht (rcpt_trim c (by rw [h2]; decide)), bodyF, if_neg (by decide), if_neg (by decide), if_pos rfl, path_put h' kTO c.2.1 [] false (by rw [hh]; decide) ha, hm]
    rw [hc]
    rfl
/-! what the law's loop has turned -/
def turned (bt : Nat → Bool) (q : List UInt8) (g : Nat) : List Int := (flipF bt 0 false (q.take g) ++ q.drop g).map fun b => (b.toNat : Int)
theorem turned_zero (bt : Nat → Bool) (q : List UInt8) : turned bt q 0 = q.map fun b => (b.toNat : Int) := by simp [turned, flipF]
theorem turned_len (bt : Nat → Bool) (q : List UInt8) (g : Nat) : (turned bt q g).length = q.length := by simp [turned, flipF_len]; omega
theorem turned_take (bt : Nat → Bool) (q : List UInt8) (g : Nat) : (turned bt q g).take q.length = turned bt q g := List.take_of_length_le (by rw [turned_len]; exact Nat.le_refl _)
theorem turned_at (bt : Nat → Bool) (q : List UInt8) (g : Nat) (h : g < q.length) (d : Int) : (turned bt q g).getD g d = ((q.getD g 0).toNat : Int) := by
  have hl : (flipF bt 0 false (q.take g)).length = g := by rw [flipF_len, List.length_take]; omega
  simp only [turned, List.getD_eq_getElem?_getD, List.getElem?_map]
  rw [List.getElem?_append_right (by omega), hl]
  simp [List.getElem?_eq_getElem h]
theorem turned_set (bt : Nat → Bool) (q : List UInt8) (g : Nat) (h : g < q.length) : (turned bt q g).set g ((flipB bt g (inB (inF false (q.take g)) (q.getD g 0)) (q.getD g 0)).toNat : Int) = turned bt q (g + 1) := by
  have hl : (flipF bt 0 false (q.take g)).length = g := by rw [flipF_len, List.length_take]; omega
  have ht : q.take (g + 1) = q.take g ++ [q.getD g 0] := by
    rw [List.take_add_one, List.getElem?_eq_getElem h, List.getD_eq_getElem?_getD, List.getElem?_eq_getElem h]; rfl
  have e : (flipF bt 0 false (q.take g) ++ q.drop g).set g (flipB bt g (inB (inF false (q.take g)) (q.getD g 0)) (q.getD g 0)) = flipF bt 0 false (q.take (g + 1)) ++ q.drop (g + 1) := by
    rw [List.set_append_right _ _ (by omega), hl, Nat.sub_self, drop_at (d := (0 : UInt8)) h, List.set_cons_zero, ht, flipF_app, List.length_take, Nat.min_eq_left (Nat.le_of_lt h)]
    simp [flipF]
  simp only [turned]
  rw [← e, List.map_set]
theorem turned_same (bt : Nat → Bool) (q : List UInt8) (g : Nat) (h : g < q.length) (hf : flipB bt g (inB (inF false (q.take g)) (q.getD g 0)) (q.getD g 0) = q.getD g 0) : turned bt q g = turned bt q (g + 1) := by
  rw [← turned_set bt q g h, hf, ← turned_at bt q g h 0]
  rw [List.getD_eq_getElem?_getD, List.getElem?_eq_getElem (by rw [turned_len]; exact h)]
  simp
theorem turned_in (q : List UInt8) (g : Nat) (h : g < q.length) : inF false (q.take (g + 1)) = inB (inF false (q.take g)) (q.getD g 0) := by
  have ht : q.take (g + 1) = q.take g ++ [q.getD g 0] := by
    rw [List.take_add_one, List.getElem?_eq_getElem h, List.getD_eq_getElem?_getD, List.getElem?_eq_getElem h]; rfl
  rw [ht, inF_app]; rfl
theorem turned_end (bt : Nat → Bool) (q : List UInt8) (g : Nat) (h : q.length ≤ g) : ((turned bt q g).map fun n => UInt8.ofNat n.toNat) = flipF bt 0 false q := by
  simp [turned, List.take_of_length_le h, List.drop_eq_nil_of_le h, Function.comp_def]
end Go.Proofs.YtbkemaekncpkjaaDoor
