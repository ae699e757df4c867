/- A part of a small verifier for the model's programs, proved sound for any program; no condition. -/
import Derived.Test.YtlibncpahaefbaaDoorVxL
namespace Go.Vx
open Go
set_option linter.unusedSectionVars false
set_option linter.unusedVariables false
section
variable {P : Program} {tbl : List (FuncId × TF)} {ops : Array Oper} {H0 : List Blk}

/-- The blocks while some of a region's operations have run. -/
def hD (H0 : List Blk) (rs : List Rec) (L : Nat → Bool) (nm : Nat) : Blk :=
  if nm < H0.length then getB H0 nm else if L (nm - H0.length) then ((rs[nm - H0.length]?).bind (·.q.new)).getD .gone else .gone

/-- Slot t is as it was at time i: of the operations that write it, those before i have run, and no other one. -/
def AtTime (ops : Array Oper) (m : Nat) (L : Nat → Bool) (t i : Nat) : Prop :=
  i ≤ m ∧ (∀ j oj, j < m → ops[j]? = some oj → oj.dst = some t → (L j = true ↔ j < i))

structure DInv (P : Program) (cx : Cx) (ops : Array Oper) (m : Nat) (H0 : List Blk) (rs : List Rec) (s' : List SV) (L : Nat → Bool) (a : Act) (w : World) (S : Nat → Prop) (ρ : Names) : Prop where
  good : Good P S ρ (hD H0 rs L) w
  since : Since cx S ρ (hD H0 rs L) w
  size : a.tmps.size = s'.length
  slots : ∀ t i, AtTime ops m L t i → Rel P S w ρ (get (slotsAt rs s' i) t) (a.tmps.getD t undef)
  fresh : ∀ i, (L i = true → (rs[i]?).bind (·.q.new) = none) → ρ (H0.length + i) = none
  len : cx.H0.length ≤ H0.length
  defers : a.defers = []

theorem guardFact_wanted {S : Nat → Prop} {w : World} {ρ : Names} {o : Oper} {s : List SV} {go : Bool} {tmps : Array Value} (h : GuardFact ops o s go)
    (hs : ∀ g want d, o.guard = some (g, want) → (ops[g]?).bind (·.dst) = some d → Rel P S w ρ (get s d) (tmps.getD d undef)) : Region.wanted o (yielded ops tmps) = go := by
  unfold GuardFact at h
  unfold Region.wanted
  split at h
  · rename_i hg; rw [hg]; exact h.symm
  · rename_i j want hg
    rw [hg]
    simp only
    obtain ⟨d, hd, h⟩ := h
    have hr := hs j want d hg hd
    rcases h with ⟨b, hb, rfl⟩ | ⟨vs, hb, rfl⟩
    · rw [hb] at hr
      simp only [Rel] at hr
      have : yielded ops tmps j = some b := by
        unfold yielded
        rw [hd]
        simp only [Option.bind_some]
        rw [Array.getD_eq_getD_getElem?] at hr
        cases he : tmps[d]? with
        | none => rw [he] at hr; simp [undef] at hr
        | some v => rw [he] at hr; simp at hr; subst hr; rfl
      rw [this]
      simp
    · rw [hb] at hr
      simp only [Rel] at hr
      have : yielded ops tmps j = none := by
        unfold yielded
        rw [hd]
        simp only [Option.bind_some]
        rw [Array.getD_eq_getD_getElem?] at hr
        cases he : tmps[d]? with
        | none => rfl
        | some v => rw [he] at hr; simp at hr; subst hr; rfl
      rw [this]
      rfl

theorem mem_looksAt_operand {o : Oper} {t : Tmp} (h : Operand.tmp t ∈ o.op.operands) : t ∈ o.looksAt ops :=
  List.mem_append_left _ (List.mem_filterMap.2 ⟨.tmp t, by simpa using h, rfl⟩)

theorem mem_looksAt_guard {o : Oper} {g : Nat} {want : Bool} {d : Tmp} (h : o.guard = some (g, want)) (hd : (ops[g]?).bind (·.dst) = some d) : d ∈ o.looksAt ops := by
  refine List.mem_append_right _ ?_
  rw [h]
  simp [hd]

/-- What an operation that comes up looks at is as it was in the text's order. -/
theorem atTime_of_ready {m : Nat} {L : Nat → Bool} {i : Nat} {oi : Oper} (hf : DrawFacts m ops) (hc : Closed ops (fun k => L k = true)) (hi : ops[i]? = some oi) (him : i < m) (hL : L i = false)
    (hready : ∀ e ∈ oi.after, Region.binds .any e = true → L e.on = true) {t : Tmp} (ht : t ∈ oi.looksAt ops ∨ oi.dst = some t) : AtTime ops m L t i := by
  have ancI : ∀ k, ((ancs ops.toList []).getD i 0).testBit k = true → L k = true :=
    closed_anc hc hi (fun e he hb => ⟨hready e he hb, hf.back i oi hi e he hb⟩) hf.back
  have ancJ : ∀ j oj, ops[j]? = some oj → L j = true → ∀ k, ((ancs ops.toList []).getD j 0).testBit k = true → L k = true := fun j oj hj hLj =>
    closed_anc hc hj (fun e he hb => ⟨hc j oj hLj hj e he hb, hf.back j oj hj e he hb⟩) hf.back
  refine ⟨Nat.le_of_lt him, fun j oj hjm hj hd => ?_⟩
  constructor
  · intro hLj
    rcases Nat.lt_or_ge j i with h | h
    · exact h
    · exfalso
      have hne : i ≠ j := fun e => by subst e; rw [hL] at hLj; cases hLj
      rcases hf.pair i j oi oj (by omega) hi hj with h1 | ⟨_, h1⟩
      · have := ancJ j oj hj hLj i h1; rw [hL] at this; cases this
      · obtain ⟨p1, p2, p3⟩ := Oper.apart_spec h1
        rcases ht with ht | ht
        · exact p3 t hd ht
        · exact p2 t ht hd
  · intro hji
    rcases hf.pair j i oj oi hji hj hi with h1 | ⟨_, h1⟩
    · exact ancI j h1
    · exfalso
      obtain ⟨p1, p2, p3⟩ := Oper.apart_spec h1
      rcases ht with ht | ht
      · exact p1 t hd ht
      · exact p2 t hd ht

/-- What a slot holds it holds on, as long as nobody writes it. -/
theorem slots_on {rs : List Rec} {s' : List SV} {m : Nat} {S : Nat → Prop} {w : World} {ρ : Names} {v : Value} {t : Nat}
    (htr : ∀ i o, i < m → ops[i]? = some o → ∃ r, rs[i]? = some r ∧ Ref P (setO r.s o.dst r.q.val) (slotsAt rs s' (i + 1))) (hm : m ≤ ops.size) :
    ∀ (n i : Nat), i + n ≤ m → (∀ j oj, i ≤ j → j < i + n → ops[j]? = some oj → oj.dst ≠ some t) → Rel P S w ρ (get (slotsAt rs s' i) t) v → Rel P S w ρ (get (slotsAt rs s' (i + n)) t) v
  | 0, i, _, _, h => h
  | n + 1, i, hle, hno, h => by
    obtain ⟨o, ho⟩ : ∃ o, ops[i]? = some o := ⟨ops[i], by simp⟩
    obtain ⟨r, hr, href⟩ := htr i o (by omega) ho
    have h1 : Rel P S w ρ (get (setO r.s o.dst r.q.val) t) v := by
      have e : slotsAt rs s' i = r.s := by simp [slotsAt, hr]
      rw [e] at h
      cases hd : o.dst with
      | none => simpa [setO] using h
      | some d =>
        have hne := hno i o (Nat.le_refl _) (by omega) ho
        rw [hd] at hne
        simp only [setO, get_setS]
        rw [if_neg (fun h => hne (by rw [h.1]))]
        exact h
    have := slots_on htr hm n (i + 1) (by omega) (fun j oj h1 h2 => hno j oj (by omega) (by omega)) (href.2 _ _ _ _ _ h1)
    rwa [show i + 1 + n = i + (n + 1) from by omega] at this

theorem hD_gone {rs : List Rec} {L : Nat → Bool} {i : Nat} (h : L i = false) : hD H0 rs L (H0.length + i) = .gone := by
  have : ¬ (H0.length + i < H0.length) := by omega
  simp [hD, this, h]

theorem hD_set {rs : List Rec} {L : Nat → Bool} {i : Nat} {r : Rec} (hr : rs[i]? = some r) : upd (hD H0 rs L) (H0.length + i) (r.q.new.getD .gone) = hD H0 rs (fun k => if k = i then true else L k) := by
  funext nm
  by_cases h1 : nm = H0.length + i
  · subst h1
    have h2 : ¬ (H0.length + i < H0.length) := by omega
    have h3 : H0.length + i - H0.length = i := by omega
    unfold hD
    rw [if_neg h2, h3]
    simp [upd, hr]
  · unfold upd hD
    rw [if_neg h1]
    split
    · rfl
    · rename_i h2
      have : nm - H0.length ≠ i := by omega
      simp [this]

/-- One operation has run: the facts go on. -/
theorem DInv.next {cx : Cx} {m : Nat} {rs : List Rec} {s' : List SV} {L : Nat → Bool} {a : Act} {w w' : World} {S S' : Nat → Prop} {ρ ρ' : Names} {i : Nat} {oi : Oper} {r : Rec} {v : Value}
    (h : DInv P cx ops m H0 rs s' L a w S ρ) (hf : DrawFacts m ops) (hc : Closed ops (fun k => L k = true)) (hi : ops[i]? = some oi) (him : i < m) (hL : L i = false) (hm : m ≤ ops.size)
    (htr : ∀ i o, i < m → ops[i]? = some o → ∃ r, rs[i]? = some r ∧ r.s.length = s'.length ∧ Ref P (setO r.s o.dst r.q.val) (slotsAt rs s' (i + 1))) (hr : rs[i]? = some r) (hrs : rs.length = m)
    (hq : QPost P S w ρ (H0.length + i) r.q.new S' w' ρ') (hv : Rel P S' w' ρ' r.q.val v) :
    DInv P cx ops m H0 rs s' (fun k => if k = i then true else L k) (a.put oi.dst v) w' S' ρ' := by
  have hgone := hD_gone (H0 := H0) (rs := rs) hL
  have hfut := hq.ext.fut h.good.bounded
  have hg := h.good.step hq hgone
  have hs := h.since.step hq hgone (by have := h.len; omega)
  rw [hD_set hr] at hg hs
  refine ⟨hg, hs, ?_, fun t k hk => ?_, fun k hk => ?_, h.len, by cases oi.dst <;> simpa [Act.put] using h.defers⟩
  · cases oi.dst <;> simp [Act.put, h.size]
  · by_cases ht : oi.dst = some t
    · -- the slot that was written
      have hik : i < k := (hk.2 i oi him hi ht).1 (by simp)
      obtain ⟨r', hr', hrl, href⟩ := htr i oi him hi
      rw [hr] at hr'; cases hr'
      by_cases hlt : t < s'.length
      · have hval : (a.put oi.dst v).tmps.getD t undef = v := by
          rw [ht]
          simp only [Act.put]
          rw [Array.getD_eq_getD_getElem?, Array.getElem?_setIfInBounds_self_of_lt (by rw [h.size]; exact hlt)]
          rfl
        rw [hval]
        have h1 : Rel P S' w' ρ' (get (slotsAt rs s' (i + 1)) t) v := by
          refine href.2 _ _ _ _ _ ?_
          rw [ht]
          simp only [setO, get_setS]
          rw [if_pos ⟨trivial, by rw [hrl]; exact hlt⟩]
          exact hv
        have := slots_on (P := P) (rs := rs) (s' := s') (fun i o h1 h2 => by obtain ⟨r, e1, _, e2⟩ := htr i o h1 h2; exact ⟨r, e1, e2⟩) hm (k - (i + 1)) (i + 1) (by have := hk.1; omega) (fun j oj h2 h3 hj hd => ?_) h1
        · rwa [show i + 1 + (k - (i + 1)) = k from by omega] at this
        · have hjm : j < m := by have := hk.1; omega
          have h4 := (hk.2 j oj hjm hj hd).2 (by omega)
          simp only [show j ≠ i from by omega, if_false] at h4
          -- j is listed, i is ahead of it or apart from it
          rcases hf.pair i j oi oj (by omega) hi hj with h5 | ⟨_, h5⟩
          · have := closed_anc hc hj (fun e he hb => ⟨hc j oj h4 hj e he hb, hf.back j oj hj e he hb⟩) hf.back i h5
            rw [hL] at this; cases this
          · exact (Oper.apart_spec h5).2.1 t ht hd
      · have : get (slotsAt rs s' k) t = .any := by
          refine get_out _ _ ?_
          unfold slotsAt
          split
          · rename_i r2 hr2
            have hk2 : k < m := by have := (List.getElem?_eq_some_iff.1 hr2).1; omega
            obtain ⟨o2, ho2⟩ : ∃ o, ops[k]? = some o := ⟨ops[k], by simp⟩
            obtain ⟨r3, e1, e2, _⟩ := htr k o2 hk2 ho2
            rw [hr2] at e1; cases e1
            omega
          · omega
        rw [this]
        simp only [Rel]
    · have hk' : AtTime ops m L t k := ⟨hk.1, fun j oj hjm hj hd => by
        have := hk.2 j oj hjm hj hd
        have hne : j ≠ i := fun e => by subst e; rw [hi] at hj; cases hj; exact ht hd
        simpa [hne] using this⟩
      have hval : (a.put oi.dst v).tmps.getD t undef = a.tmps.getD t undef := by
        cases hd : oi.dst with
        | none => rfl
        | some d =>
          simp only [Act.put]
          rw [Array.getD_eq_getD_getElem?, Array.getD_eq_getD_getElem?, Array.getElem?_setIfInBounds_ne (fun e => ht (by rw [hd, e]))]
      rw [hval]
      exact Rel.fut hfut hq.keep _ (h.slots t k hk')
  · by_cases he : k = i
    · subst he
      have hn : r.q.new = none := by have := hk (by simp); simpa [hr] using this
      rw [hq.none_ hn]
      exact h.fresh k (fun h1 => by rw [hL] at h1; cases h1)
    · rw [hq.others _ (by omega)]
      exact h.fresh k (fun h1 => hk (by simp [he, h1]))
end
end Go.Vx
