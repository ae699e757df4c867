/- A part of a small verifier for the model's programs, proved sound for any program; no condition. -/
import Derived.Test.YtlibncpahaefbaaDoorVxIa
import Derived.Test.YtlibncpahaefbaaDoorVxJ0
namespace Go.Vx
open Go
set_option linter.unusedSectionVars false
set_option linter.unusedVariables false

mutual
/-- A value without what it tells of the name. -/
def forget (nm : Nat) : SV → SV
  | .osl n k => if n = nm then .any else .osl n k
  | .eptr n e i => if n = nm then .any else .eptr n e i
  | .ptr n o => if n = nm then .any else .ptr n o
  | .agg l => .agg (forgetL nm l)
  | .tup l => .tup (forgetL nm l)
  | .fn f l => .fn f (forgetL nm l)
  | .ifc t x => .ifc t (forget nm x)
  | .any => .any
  | .int k n => .int k n
  | .bool b => .bool b
  | .kb b => .kb b
  | .str s => .str s
  | .sl e xs => .sl e xs
  | .nils => .nils
  | .slf e xs => .slf e xs
  | .ag t x => .ag t x
  | .pp t x => .pp t x
  | .nilp => .nilp
  | .f1 a c F => .f1 a c F
  | .f2 a b c F => .f2 a b c F
  | .nilf => .nilf
  | .nili => .nili
  | .raw v => .raw v
def forgetL (nm : Nat) : List SV → List SV
  | [] => []
  | s :: l => forget nm s :: forgetL nm l
end

def forgetB (nm : Nat) : Blk → Blk
  | .gone => .gone
  | .cells l t => .cells (forgetL nm l) t
  | .own e xs t => .own e xs t
  | .iter s p => .iter s p

def forgetH (nm : Nat) : List Blk → List Blk
  | [] => []
  | b :: l => forgetB nm b :: forgetH nm l

section
variable {P : Program} {S S' : Nat → Prop} {w w' : World} {ρ ρ' : Names}

mutual
theorem forget_rel {nm : Nat} (hf : Fut S w S' w') (hk : ∀ k, k ≠ nm → ρ' k = ρ k) : (s : SV) → {v : Value} → Rel P S w ρ s v → Rel P S' w' ρ' (forget nm s) v
  | .any, v, h => by simp only [forget, Rel]
  | .int k n, v, h => by simpa only [forget, Rel] using h
  | .bool b, v, h => by simpa only [forget, Rel] using h
  | .kb b, v, h => by simpa only [forget, Rel] using h
  | .str s, v, h => by simpa only [forget, Rel] using h
  | .sl e xs, v, h => by simp only [forget, Rel] at h ⊢; exact Rep.fut hf _ h
  | .nils, v, h => by simpa only [forget, Rel] using h
  | .osl n m, v, h => by
    simp only [forget]
    split
    · simp only [Rel]
    · rename_i hn
      simp only [Rel] at h ⊢
      rw [hk n hn]; exact h
  | .slf e xs, v, h => by simp only [forget, Rel] at h ⊢; exact ⟨h.1, Rep.fut hf _ h.2⟩
  | .ag t x, v, h => by simp only [forget, Rel] at h ⊢; obtain ⟨cs, h1, h2⟩ := h; exact ⟨cs, h1, Rep.fut hf _ h2⟩
  | .pp t x, v, h => by simp only [forget, Rel] at h ⊢; exact Rep.fut hf _ h
  | .f1 a c F, v, h => by simp only [forget, Rel] at h ⊢; exact Rep.fut hf _ h
  | .f2 a b c F, v, h => by simp only [forget, Rel] at h ⊢; exact Rep.fut hf _ h
  | .ptr n off, v, h => by
    simp only [forget]
    split
    · simp only [Rel]
    · rename_i hn
      simp only [Rel] at h ⊢
      rw [hk n hn]; exact h
  | .eptr n e i, v, h => by
    simp only [forget]
    split
    · simp only [Rel]
    · rename_i hn
      simp only [Rel] at h ⊢
      rw [hk n hn]; exact h
  | .nilp, v, h => by simpa only [forget, Rel] using h
  | .agg l, v, h => by
    simp only [forget, Rel] at h ⊢
    obtain ⟨cs, e, h⟩ := h
    exact ⟨cs, e, forget_relL hf hk l h⟩
  | .tup l, v, h => by
    simp only [forget, Rel] at h ⊢
    obtain ⟨cs, e, h⟩ := h
    exact ⟨cs, e, forget_relL hf hk l h⟩
  | .fn f l, v, h => by
    simp only [forget, Rel] at h ⊢
    obtain ⟨cs, e, h⟩ := h
    exact ⟨cs, e, forget_relL hf hk l h⟩
  | .nilf, v, h => by simpa only [forget, Rel] using h
  | .ifc t x, v, h => by
    simp only [forget, Rel] at h ⊢
    obtain ⟨u, e, h⟩ := h
    exact ⟨u, e, forget_rel hf hk x h⟩
  | .nili, v, h => by simpa only [forget, Rel] using h
  | .raw u, v, h => by simpa only [forget, Rel] using h
theorem forget_relL {nm : Nat} (hf : Fut S w S' w') (hk : ∀ k, k ≠ nm → ρ' k = ρ k) : (l : List SV) → {vs : List Value} → RelL P S w ρ l vs → RelL P S' w' ρ' (forgetL nm l) vs
  | [], vs, h => by simpa only [forgetL, RelL] using h
  | s :: l, vs, h => by
    simp only [forgetL, RelL] at h ⊢
    obtain ⟨v, vs', e, h1, h2⟩ := h
    exact ⟨v, vs', e, forget_rel hf hk s h1, forget_relL hf hk l h2⟩
end

theorem get_forget (nm : Nat) : (l : List SV) → (t : Nat) → get (forgetL nm l) t = forget nm (get l t)
  | [], t => by simp [forgetL, get, forget]
  | s :: l, 0 => by simp [forgetL, get]
  | s :: l, t + 1 => by simpa [forgetL, get] using get_forget nm l t

theorem forgetL_length (nm : Nat) : (l : List SV) → (forgetL nm l).length = l.length
  | [] => by simp [forgetL]
  | s :: l => by simp [forgetL, forgetL_length nm l]

theorem getB_forget (nm : Nat) : (l : List Blk) → (t : Nat) → getB (forgetH nm l) t = forgetB nm (getB l t)
  | [], t => by simp [forgetH, getB, forgetB]
  | s :: l, 0 => by simp [forgetH, getB]
  | s :: l, t + 1 => by simpa [forgetH, getB] using getB_forget nm l t

theorem forgetH_length (nm : Nat) : (l : List Blk) → (forgetH nm l).length = l.length
  | [] => by simp [forgetH]
  | s :: l => by simp [forgetH, forgetH_length nm l]

theorem forgetB_live (nm : Nat) (b : Blk) : (forgetB nm b).live = b.live := by cases b <;> rfl
theorem forgetB_own (nm : Nat) (b : Blk) : (forgetB nm b).isOwn = b.isOwn := by cases b <;> rfl

/-- An own list turns, and may lie elsewhere now. -/
theorem Holds.rename {cx : Cx} {σ : St} {a : Act} (h : Holds P cx σ a w S ρ) {nm : Nat} {ob' : Option Nat} {cap' : Nat} {blk' : Blk} (hown : (getB σ.H nm).isOwn = true) (hown' : blk'.isOwn = true)
    (hos : w'.os = w.os) (htape : w'.tape = w.tape) (hout : w'.output = w.output) (hsize : w.heap.size ≤ w'.heap.size)
    (hold : ∀ k, k < w.heap.size → (∀ cap, ρ nm ≠ some (some k, cap)) → w'.heap[k]? = w.heap[k]?)
    (hb' : ∀ b, ob' = some b → (∃ cap, ρ nm = some (some b, cap)) ∨ (w.heap.size ≤ b ∧ b < w'.heap.size))
    (hr : Fut S w S w' → BlkRel P S w' (setN ρ nm (ob', cap')) nm blk') : Holds P cx { slots := forgetL nm σ.slots, H := setB (forgetH nm σ.H) nm blk' } a w' S (setN ρ nm (ob', cap')) := by
  have hlive : (getB σ.H nm).live = true := by cases hh : getB σ.H nm <;> simp_all [Blk.isOwn, Blk.live]
  have hlt := live_lt hlive
  have hfut : Fut S w S w' := ⟨fun _ h => h, fun k hk => hold k (h.good.bounded.lt k hk) fun cap e => (h.good.apart nm k cap hlive e).1 hk⟩
  have hk : ∀ k, k ≠ nm → setN ρ nm (ob', cap') k = ρ k := fun k hk => by simp [setN, hk]
  have hn : setN ρ nm (ob', cap') nm = some (ob', cap') := by simp [setN]
  have hg : ∀ k, getB (setB (forgetH nm σ.H) nm blk') k = if k = nm then blk' else forgetB nm (getB σ.H k) := fun k => by
    rw [getB_setB, forgetH_length, getB_forget]
    by_cases e : k = nm
    · subst e; simp [hlt]
    · simp [e]
  have liv : ∀ k, (getB (setB (forgetH nm σ.H) nm blk') k).live = true → k ≠ nm → (getB σ.H k).live = true := fun k hk e => by
    rw [hg, if_neg e, forgetB_live] at hk; exact hk
  have bnew : ∀ b cap, setN ρ nm (ob', cap') nm = some (some b, cap) → (∃ cap, ρ nm = some (some b, cap)) ∨ (w.heap.size ≤ b ∧ b < w'.heap.size) := fun b cap e => by
    rw [hn] at e
    exact hb' b (by cases e; rfl)
  refine ⟨⟨h.good.bounded.same (fun k hk => Nat.lt_of_lt_of_le (h.good.bounded.lt k hk) hsize) hfut, fun k => ?_, fun k b cap hk1 hk2 => ?_, fun k k' b c1 c2 hk1 hk1' hk2 hk2' => ?_⟩, ⟨by simp [forgetL_length, h.slots.size], fun t => ?_⟩, ?_, fun k hk' => ?_, by simp only [setB_length, forgetH_length]; exact h.len, h.defers⟩
  · rw [hg]
    split
    · rename_i e; subst e; exact hr hfut
    · rename_i e
      have hrel := h.good.rel k
      cases hh : getB σ.H k with
      | gone => simp [forgetB, BlkRel]
      | cells l t =>
        rw [hh] at hrel
        obtain ⟨b, cap, h1, cs, h2, h3⟩ := hrel
        have hl' : (getB σ.H k).live = true := by rw [hh]; rfl
        exact ⟨b, cap, by rw [hk k e]; exact h1, cs, (hold b (h.good.apart k b cap hl' h1).2 fun cap2 e2 => e (h.good.inj k nm b cap cap2 hl' hlive h1 e2)).trans h2, forget_relL hfut hk l h3⟩
      | own e' xs t =>
        rw [hh] at hrel
        have hl' : (getB σ.H k).live = true := by rw [hh]; rfl
        simp only [forgetB]
        obtain ⟨ob, cap, h1, h2, h3⟩ := hrel
        refine ⟨ob, cap, by rw [hk k e]; exact h1, h2, ?_⟩
        cases ob with
        | none => exact h3
        | some b =>
          obtain ⟨cs, fr, h4, h5, h6, h7⟩ := h3
          refine ⟨cs, fr, (hold b (h.good.apart k b cap hl' h1).2 fun cap2 e2 => e (h.good.inj k nm b cap cap2 hl' hlive h1 e2)).trans h4, h5, h6, fun i x hx => ?_⟩
          obtain ⟨c, r, g⟩ := h7 i x hx
          exact ⟨c, Rep.fut hfut e' r, g⟩
      | iter s pos =>
        rw [hh] at hrel
        have hl' : (getB σ.H k).live = true := by rw [hh]; rfl
        obtain ⟨b, cap, h1, h2⟩ := hrel
        exact ⟨b, cap, by rw [hk k e]; exact h1, (hold b (h.good.apart k b cap hl' h1).2 fun cap2 e2 => e (h.good.inj k nm b cap cap2 hl' hlive h1 e2)).trans h2⟩
  · by_cases e : k = nm
    · subst e
      rcases bnew b cap hk2 with ⟨c, h1⟩ | ⟨h1, h2⟩
      · obtain ⟨g1, g2⟩ := h.good.apart k b c hlive h1
        exact ⟨g1, Nat.lt_of_lt_of_le g2 hsize⟩
      · exact ⟨fun hS => by have := h.good.bounded.lt b hS; omega, h2⟩
    · rw [hk k e] at hk2
      obtain ⟨g1, g2⟩ := h.good.apart k b cap (liv k hk1 e) hk2
      exact ⟨g1, Nat.lt_of_lt_of_le g2 hsize⟩
  · by_cases e : k = nm <;> by_cases e' : k' = nm
    · rw [e, e']
    · subst e
      rw [hk k' e'] at hk2'
      have h2 := h.good.apart k' b c2 (liv k' hk1' e') hk2'
      rcases bnew b c1 hk2 with ⟨c, h1⟩ | ⟨h1, _⟩
      · exact h.good.inj k k' b c c2 hlive (liv k' hk1' e') h1 hk2'
      · omega
    · subst e'
      rw [hk k e] at hk2
      have h2 := h.good.apart k b c1 (liv k hk1 e) hk2
      rcases bnew b c2 hk2' with ⟨c, h1⟩ | ⟨h1, _⟩
      · exact h.good.inj k k' b c1 c (liv k hk1 e) hlive hk2 h1
      · omega
    · rw [hk k e] at hk2
      rw [hk k' e'] at hk2'
      exact h.good.inj k k' b c1 c2 (liv k hk1 e) (liv k' hk1' e') hk2 hk2'
  · simp only [get_forget]
    exact forget_rel hfut hk _ (h.slots.rel t)
  · have hs := h.since
    refine ⟨hs.sub, Nat.le_trans hs.size hsize, hos.trans hs.os, htape.trans hs.tape, hout.trans hs.output, fun k hk1 ho => ?_, fun k b cap hk1 hk2 => ?_, hs.pers, fun k hk1 ho => ?_, fun k hk1 hk2 => ?_⟩
    · refine (hold k (Nat.lt_of_lt_of_le hk1 hs.size) fun cap e => ?_).trans (hs.old k hk1 ho)
      rcases hs.own nm k cap hlive e with h1 | h1
      · exact ho h1
      · omega
    · by_cases e : k = nm
      · subst e
        rcases bnew b cap hk2 with ⟨c, h1⟩ | ⟨h1, _⟩
        · exact hs.own k b c hlive h1
        · exact .inr (Nat.le_trans hs.size h1)
      · rw [hk k e] at hk2
        exact hs.own k b cap (liv k hk1 e) hk2
    · have hne : k ≠ nm := fun e => by
        subst e
        have h1 := hs.ownH k hown hk1
        rw [h1] at ho; cases ho
      rw [hk k hne]
      exact hs.names k hk1 ho
    · by_cases e : k = nm
      · subst e; exact hs.ownH k hown hk2
      · rw [hg, if_neg e, forgetB_own] at hk1
        exact hs.ownH k hk1 hk2
  · simp only [setB_length, forgetH_length] at hk'
    rw [hk k (by omega)]
    exact h.fresh k hk'
end
end Go.Vx
