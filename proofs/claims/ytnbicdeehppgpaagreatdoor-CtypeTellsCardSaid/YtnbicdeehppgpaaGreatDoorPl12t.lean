/- Helper lemmas towards this seat's statements: a contract, proved for every input within its own premise, of functions of the program. -/
import Derived.Test.YtnbicdeehppgpaaGreatDoorPl12b
namespace Go.Proofs.YtnbicdeehppgpaaGreatDoor
open Go Go.Vx
set_option maxRecDepth 100000
set_option linter.unusedSimpArgs false
set_option linter.unusedVariables false
/-- Blanks at an end. -/
def Bl (b : List UInt8) : Prop := ∀ x ∈ b, isIn kBl x = true
theorem takeWhile_all (p : UInt8 → Bool) : ∀ (l : List UInt8), ∀ x ∈ l.takeWhile p, p x = true
  | [], x, hx => nomatch hx
  | c :: l, x, hx => by
    rw [List.takeWhile_cons] at hx
    split at hx
    · rename_i h
      rcases List.mem_cons.1 hx with rfl | h2
      · exact h
      · exact takeWhile_all p l x h2
    · cases hx
theorem trimR_app (x : List UInt8) : ∃ b, Bl b ∧ x = trimR (isIn kBl) x ++ b := by
  refine ⟨(x.reverse.takeWhile (isIn kBl)).reverse, fun y hy => ?_, ?_⟩
  · exact takeWhile_all _ _ y (List.mem_reverse.1 hy)
  · unfold trimR
    rw [← List.reverse_append, List.takeWhile_append_dropWhile, List.reverse_reverse]
theorem bl_not34 {c : UInt8} (h : isIn kBl c = true) : ¬ (c.toNat : Int) = 34 ∧ ¬ (c.toNat : Int) = 92 := by
  have : ∀ n : Fin 256, isIn kBl (UInt8.ofNat n.val) = true → ¬ ((UInt8.ofNat n.val).toNat : Int) = 34 ∧ ¬ ((UInt8.ofNat n.val).toNat : Int) = 92 := by decide +kernel
  have := this ⟨c.toNat, c.toNat_lt⟩
  simp only [UInt8.ofNat_toNat] at this
  exact this h
theorem bl_notAll {c : UInt8} (h : isIn kBl c = true) : isIn ctAll c = false := by
  cases hc : isIn ctAll c with
  | false => rfl
  | true => rw [all_notBl hc] at h; cases h
theorem bl_notLet {c : UInt8} (h : isIn kBl c = true) : isIn ctLetters c = false := by
  cases hc : isIn ctLetters c with
  | false => rfl
  | true => rw [let_notBl hc] at h; cases h
theorem run_bl (set : List UInt8) (hs : ∀ c, isIn kBl c = true → isIn set c = false) (b : List UInt8) (hb : Bl b) : ∀ v : List UInt8, trimL (isIn set) (v ++ b) = trimL (isIn set) v ++ b
  | [] => by
    cases b with
    | nil => rfl
    | cons c l => exact trimL_stop (hs c (hb c (by simp)))
  | c :: l => by
    cases hc : isIn set c with
    | true => rw [List.cons_append, trimL_go hc, trimL_go hc, run_bl set hs b hb l]
    | false => rw [List.cons_append, trimL_stop hc, trimL_stop hc, List.cons_append]
theorem runF_bl (set : List UInt8) (hs : ∀ c, isIn kBl c = true → isIn set c = false) (b : List UInt8) (hb : Bl b) (v : List UInt8) : runF set (v ++ b) = runF set v := by
  have := trimL_le (isIn set) v
  unfold runF
  rw [run_bl set hs b hb, List.length_append, List.length_append, show v.length + b.length - ((trimL (isIn set) v).length + b.length) = v.length - (trimL (isIn set) v).length by omega]
  exact List.take_append_of_le_length (by omega)
theorem trim_bl (b : List UInt8) (hb : Bl b) : ∀ v : List UInt8, ∃ b', Bl b' ∧ (trimL (isIn kBl) v = [] → b' = []) ∧ trimL (isIn kBl) (v ++ b) = trimL (isIn kBl) v ++ b'
  | [] => ⟨[], (fun x hx => nomatch hx), fun _ => rfl, by
      rw [List.nil_append]
      show trimL (isIn kBl) b = []
      unfold trimL
      rw [dropWhile_nil]
      exact hb⟩
  | c :: l => by
    cases hc : isIn kBl c with
    | true =>
      obtain ⟨b', h1, h2, h3⟩ := trim_bl b hb l
      exact ⟨b', h1, by rw [trimL_go hc]; exact h2, by rw [List.cons_append, trimL_go hc, trimL_go hc, h3]⟩
    | false => exact ⟨b, hb, (by rw [trimL_stop hc]; exact fun h => absurd h (by simp)), by rw [List.cons_append, trimL_stop hc, trimL_stop hc, List.cons_append]⟩
theorem pre_bl (c : UInt8) (hc : isIn kBl c = false) (b : List UInt8) (hb : Bl b) (v : List UInt8) : preF (v ++ b) [c] = preF v [c] := by
  rw [Bool.eq_iff_iff, preF_iff, preF_iff]
  cases v with
  | nil =>
    constructor
    · rintro ⟨r, hr⟩
      rw [List.nil_append] at hr
      have := hb c (by rw [hr]; simp)
      rw [hc] at this; cases this
    · rintro ⟨r, hr⟩; cases hr
  | cons x l =>
    constructor
    · rintro ⟨r, hr⟩
      simp at hr
      exact ⟨l, by rw [hr.1]; rfl⟩
    · rintro ⟨r, hr⟩
      simp at hr
      exact ⟨l ++ b, by rw [hr.1]; rfl⟩
theorem quot_bl : ∀ b : List UInt8, Bl b → (quotF b).2 = []
  | [], _ => rfl
  | c :: l, h => by
    obtain ⟨h1, h2⟩ := bl_not34 (h c (by simp))
    rw [quotF_next h1 h2]
    exact quot_bl l fun x hx => h x (by simp [hx])
theorem byte34 {c : UInt8} (h : (c.toNat : Int) = 34) : c = 34 := UInt8.toNat_inj.1 (show c.toNat = 34 by omega)
theorem quot_app (b : List UInt8) (hb : Bl b) : ∀ v : List UInt8, ((quotF v).2 = [] → (quotF (v ++ b)).2 = []) ∧ ((quotF v).2 ≠ [] → quotF (v ++ b) = ((quotF v).1, (quotF v).2 ++ b))
  | [] => ⟨fun _ => quot_bl b hb, fun h => absurd rfl h⟩
  | [c] => by
    by_cases h1 : (c.toNat : Int) = 34
    · have e : quotF [c] = ([], [c]) := quotF_stop (.inr h1)
      rw [e]
      exact ⟨(fun h => absurd h (by simp)), fun _ => quotF_stop (.inr h1)⟩
    · have e := quotF_one h1
      rw [e]
      refine ⟨fun _ => ?_, fun h => absurd rfl h⟩
      by_cases h2 : (c.toNat : Int) = 92
      · cases b with
        | nil => show (quotF [c]).2 = []; rw [e]
        | cons d l =>
          show (quotF (c :: d :: l)).2 = []
          rw [quotF_esc h2]
          exact quot_bl l fun x hx => hb x (by simp [hx])
      · show (quotF (c :: b)).2 = []
        rw [quotF_next h1 h2]
        exact quot_bl b hb
  | c :: d :: l => by
    by_cases h1 : (c.toNat : Int) = 34
    · have e : quotF (c :: d :: l) = ([], c :: d :: l) := quotF_stop (.inr h1)
      rw [e]
      exact ⟨(fun h => absurd h (by simp)), fun _ => quotF_stop (.inr h1)⟩
    · by_cases h2 : (c.toNat : Int) = 92
      · obtain ⟨i1, i2⟩ := quot_app b hb l
        have e := @quotF_esc c d l h2
        have e2 : quotF (c :: d :: l ++ b) = (d :: (quotF (l ++ b)).1, (quotF (l ++ b)).2) := quotF_esc h2
        rw [e, e2]
        exact ⟨fun h => i1 h, fun h => by rw [i2 h]⟩
      · obtain ⟨i1, i2⟩ := quot_app b hb (d :: l)
        have e := @quotF_next c (d :: l) h1 h2
        have e2 : quotF (c :: d :: l ++ b) = (c :: (quotF (d :: l ++ b)).1, (quotF (d :: l ++ b)).2) := quotF_next h1 h2
        rw [e, e2]
        exact ⟨fun h => i1 h, fun h => by rw [i2 h]⟩
def BlS : CtS → CtS → Prop
  | .over, .over => True
  | .fail, .fail => True
  | .next p r, .next q r' => q = p ∧ ∃ b, Bl b ∧ r' = r ++ b
  | _, _ => False
theorem drop_bl {v : List UInt8} (b : List UInt8) (h : v ≠ []) : (v ++ b).drop 1 = v.drop 1 ++ b := by
  cases v with
  | nil => exact absurd rfl h
  | cons c l => rfl
theorem pre_ne {v : List UInt8} {c : UInt8} (h : preF v [c] = true) : v ≠ [] := fun e => by
  have := preF_pos h
  rw [e] at this; simp at this
theorem val_bl (nm b : List UInt8) (hb : Bl b) (v : List UInt8) : BlS (ctVal nm v) (ctVal nm (v ++ b)) := by
  unfold ctVal
  rw [runF_bl ctLetters (fun _ => bl_notLet) b hb, run_bl ctLetters (fun _ => bl_notLet) b hb]
  split
  · trivial
  · exact ⟨rfl, b, hb, rfl⟩
theorem quo_bl (nm b : List UInt8) (hb : Bl b) (v : List UInt8) : BlS (ctQuo nm v) (ctQuo nm (v ++ b)) := by
  obtain ⟨h1, h2⟩ := quot_app b hb v
  unfold ctQuo
  by_cases h : (quotF v).2 = []
  · rw [h1 h, h]
    rw [if_pos (show preF [] [34] = false by decide), if_pos (show preF [] [34] = false by decide)]
    trivial
  · rw [h2 h]
    simp only
    rw [pre_bl 34 (by decide) b hb]
    split
    · trivial
    · exact ⟨rfl, b, hb, drop_bl b h⟩
theorem named_bl (nm b : List UInt8) (hb : Bl b) (v : List UInt8) : BlS (ctNamed nm v) (ctNamed nm (v ++ b)) := by
  unfold ctNamed
  rw [pre_bl 61 (by decide) b hb]
  cases h : preF v [61] with
  | false => simp only [if_true]; trivial
  | true =>
    simp only [Bool.true_eq_false, if_false]
    rw [drop_bl b (pre_ne h), pre_bl 34 (by decide) b hb]
    cases h2 : preF (v.drop 1) [34] with
    | false => simp only [if_true]; exact val_bl nm b hb _
    | true =>
      simp only [Bool.true_eq_false, if_false]
      rw [drop_bl b (pre_ne h2)]; exact quo_bl nm b hb _
theorem step_bl (b : List UInt8) (hb : Bl b) (v : List UInt8) : BlS (ctStep v) (ctStep (v ++ b)) := by
  obtain ⟨b', h1, h2, h3⟩ := trim_bl b hb v
  unfold ctStep
  rw [h3]
  generalize trimL (isIn kBl) v = r at *
  unfold ctOne
  by_cases hr : r = []
  · rw [hr, h2 hr]
    trivial
  · have hr2 : ¬ r ++ b' = [] := fun h => hr (List.append_eq_nil_iff.1 h).1
    rw [if_neg hr, if_neg hr2, pre_bl 59 (by decide) b' h1, drop_bl b' hr]
    split
    · trivial
    · obtain ⟨b2, k1, _, k3⟩ := trim_bl b' h1 (r.drop 1)
      rw [k3]
      unfold ctSemi
      rw [runF_bl ctAll (fun _ => bl_notAll) b2 k1, run_bl ctAll (fun _ => bl_notAll) b2 k1]
      exact named_bl _ b2 k1 _
theorem pars_bl : ∀ (n : Nat) (v b : List UInt8) (acc : List Param), Bl b → ctPars n (v ++ b) acc = ctPars n v acc
  | 0, _, _, _, _ => rfl
  | n + 1, v, b, acc, hb => by
    have h := step_bl b hb v
    rw [ctPars, ctPars]
    cases h1 : ctStep v with
    | over =>
      cases h2 : ctStep (v ++ b) with
      | over => rfl
      | fail => rw [h1, h2] at h; exact h.elim
      | next q r => rw [h1, h2] at h; exact h.elim
    | fail =>
      cases h2 : ctStep (v ++ b) with
      | over => rw [h1, h2] at h; exact h.elim
      | fail => rfl
      | next q r => rw [h1, h2] at h; exact h.elim
    | next p r =>
      cases h2 : ctStep (v ++ b) with
      | over => rw [h1, h2] at h; exact h.elim
      | fail => rw [h1, h2] at h; exact h.elim
      | next q r' =>
        rw [h1, h2] at h
        obtain ⟨rfl, b', h3, rfl⟩ := h
        exact pars_bl n r b' _ h3
theorem step_lt {r r' : List UInt8} {p : Param} (h : ctStep r = .next p r') : r'.length < r.length := by
  unfold ctStep ctOne at h
  have k1 := trimL_le (isIn kBl) r
  generalize trimL (isIn kBl) r = r1 at *
  split at h
  · cases h
  split at h
  · cases h
  rename_i _ h59
  have d1 := preF_pos (show preF r1 [59] = true by simpa using h59)
  have d2 : (r1.drop 1).length = r1.length - 1 := List.length_drop
  have k2 := trimL_le (isIn kBl) (r1.drop 1)
  unfold ctSemi ctNamed at h
  generalize trimL (isIn kBl) (r1.drop 1) = r2 at *
  have k3 := trimL_le (isIn ctAll) r2
  generalize trimL (isIn ctAll) r2 = r3 at *
  have d3 : (r3.drop 1).length = r3.length - 1 := List.length_drop
  split at h
  · cases h
  split at h
  · unfold ctVal at h
    split at h
    · cases h
    · cases h
      have := trimL_le (isIn ctLetters) (r3.drop 1)
      omega
  · unfold ctQuo at h
    split at h
    · cases h
    · cases h
      have d4 : ((r3.drop 1).drop 1).length = (r3.drop 1).length - 1 := List.length_drop
      have := (quotF_le ((r3.drop 1).drop 1)).2
      rw [List.length_drop]
      omega
theorem pars_fuel : ∀ (n m : Nat) (r : List UInt8) (acc : List Param), r.length < n → r.length < m → ctPars n r acc = ctPars m r acc
  | 0, _, _, _, h, _ => absurd h (Nat.not_lt_zero _)
  | _ + 1, 0, _, _, _, h => absurd h (Nat.not_lt_zero _)
  | n + 1, m + 1, r, acc, h1, h2 => by
    rw [ctPars, ctPars]
    cases h : ctStep r with
    | over => rfl
    | fail => rfl
    | next p r' =>
      have := step_lt h
      exact pars_fuel n m r' _ (by omega) (by omega)
theorem main_bl (b : List UInt8) (hb : Bl b) (v : List UInt8) : ctMain (v ++ b) = ctMain v := by
  unfold ctMain
  rw [run_bl ctAll (fun _ => bl_notAll) b hb, runF_bl ctAll (fun _ => bl_notAll) b hb, pre_bl 47 (by decide) b hb]
  cases h : preF (trimL (isIn ctAll) v) [47] with
  | false => rfl
  | true =>
    simp only [Bool.true_eq_false, if_false]
    rw [drop_bl b (pre_ne h)]
    unfold ctSub
    generalize (trimL (isIn ctAll) v).drop 1 = u
    rw [run_bl ctAll (fun _ => bl_notAll) b hb, runF_bl ctAll (fun _ => bl_notAll) b hb, pars_bl _ _ b _ hb, pars_fuel _ ((trimL (isIn ctAll) u).length + 1) _ _ (by rw [List.length_append]; omega) (by omega)]
/-- Blanks at the end play no part. -/
theorem parse_main (s : List UInt8) : ctMain (trimL (isIn kBl) s) = ctParseF s := by
  obtain ⟨b, h1, h2⟩ := trimR_app (trimL (isIn kBl) s)
  conv => lhs; rw [h2]
  rw [main_bl b h1]
  rfl
end Go.Proofs.YtnbicdeehppgpaaGreatDoor
