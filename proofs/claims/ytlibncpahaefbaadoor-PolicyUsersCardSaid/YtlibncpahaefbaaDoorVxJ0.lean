/- A part of a small verifier for the model's programs, proved sound for any program; no condition. -/
import Derived.Test.YtlibncpahaefbaaDoorVxI
namespace Go.Vx
open Go
set_option linter.unusedSectionVars false
set_option linter.unusedVariables false

def setB : List Blk → Nat → Blk → List Blk
  | [], _, _ => []
  | _ :: l, 0, x => x :: l
  | s :: l, n + 1, x => s :: setB l n x

theorem setB_length : (l : List Blk) → (d : Nat) → (x : Blk) → (setB l d x).length = l.length
  | [], _, _ => rfl
  | _ :: l, 0, x => rfl
  | s :: l, d + 1, x => by simp [setB, setB_length l d x]

theorem getB_setB : (l : List Blk) → (d : Nat) → (x : Blk) → (t : Nat) → getB (setB l d x) t = if t = d ∧ d < l.length then x else getB l t
  | [], d, x, t => by simp [setB, getB]
  | s :: l, 0, x, t => by
    cases t with
    | zero => simp [setB, getB]
    | succ t => simp [setB, getB]
  | s :: l, d + 1, x, t => by
    cases t with
    | zero => simp [setB, getB]
    | succ t => simp [setB, getB, getB_setB l d x t]

theorem live_lt {H : List Blk} {nm : Nat} (h : (getB H nm).live = true) : nm < H.length := by
  rcases Nat.lt_or_ge nm H.length with h1 | h1
  · exact h1
  · rw [getB_out _ _ h1] at h; cases h

section
variable {P : Program}

/-- One of the call's own blocks turns. -/
theorem Holds.update {cx : Cx} {σ : St} {a : Act} {w w' : World} {S : Nat → Prop} {ρ : Names} (h : Holds P cx σ a w S ρ) {nm b cap : Nat} {blk' : Blk} (hl : (getB σ.H nm).live = true) (hr : ρ nm = some (some b, cap))
    (hos : w'.os = w.os) (htape : w'.tape = w.tape) (hout : w'.output = w.output) (hsize : w'.heap.size = w.heap.size) (hsame : ∀ k, k ≠ b → w'.heap[k]? = w.heap[k]?)
    (hb : Fut S w S w' → BlkRel P S w' ρ nm blk') (hown : (getB σ.H nm).isOwn = blk'.isOwn) : Holds P cx { σ with H := setB σ.H nm blk' } a w' S ρ := by
  have hlt := live_lt hl
  obtain ⟨hnS, hbl⟩ := h.good.apart nm b cap hl hr
  have hfut : Fut S w S w' := ⟨fun _ h => h, fun k hk => hsame k (fun e => hnS (e ▸ hk))⟩
  have live' : ∀ k, k ≠ nm → getB (setB σ.H nm blk') k = getB σ.H k := fun k hk => by rw [getB_setB, if_neg (fun e => hk e.1)]
  have liv : ∀ k, (getB (setB σ.H nm blk') k).live = true → (getB σ.H k).live = true := fun k hk => by
    by_cases e : k = nm
    · subst e; exact hl
    · rwa [live' k e] at hk
  refine ⟨⟨h.good.bounded.same (fun k hk => by rw [hsize]; exact h.good.bounded.lt k hk) hfut, fun k => ?_, fun k b' cap' hk hr' => ?_, fun k k' b' c1 c2 hk hk' h1 h2 => ?_⟩, h.slots.fut hfut (Keep.refl ρ), ?_, fun k hk => h.fresh k (by simpa [setB_length] using hk), by simp only [setB_length]; exact h.len, h.defers⟩
  · by_cases e : k = nm
    · subst e
      simp only [getB_setB, hlt, and_self, if_true]
      exact hb hfut
    · simp only
      rw [live' k e]
      by_cases hlk : (getB σ.H k).live = true
      · refine (h.good.rel k).keep hfut (Keep.refl ρ) fun b' cap' hr' => hsame b' fun e' => ?_
        subst e'
        exact e (h.good.inj k nm b' cap' cap hlk hl hr' hr)
      · cases hh : getB σ.H k with
        | gone => simp [BlkRel]
        | _ => simp [hh, Blk.live] at hlk
  · obtain ⟨h1, h2⟩ := h.good.apart k b' cap' (liv k hk) hr'
    exact ⟨h1, by rw [hsize]; exact h2⟩
  · exact h.good.inj k k' b' c1 c2 (liv k hk) (liv k' hk') h1 h2
  · have hs := h.since
    refine ⟨hs.sub, by rw [hsize]; exact hs.size, hos.trans hs.os, htape.trans hs.tape, hout.trans hs.output, fun k hk ho => ?_, fun k b' cap' hk hr' => hs.own k b' cap' (liv k hk) hr', hs.pers, hs.names, fun k hk hlt' => ?_⟩
    · rw [hsame k ?_]
      · exact hs.old k hk ho
      · intro e
        subst e
        rcases hs.own nm k cap hl hr with h1 | h1
        · exact ho h1
        · omega
    · by_cases e : k = nm
      · subst e
        simp only [getB_setB, hlt, and_self, if_true] at hk
        exact hs.ownH k (hown.trans hk) hlt'
      · rw [live' k e] at hk
        exact hs.ownH k hk hlt'

/-- A slot forgets, or takes what it holds. -/
theorem Holds.putSlot {cx : Cx} {σ : St} {a : Act} {w : World} {S : Nat → Prop} {ρ : Names} (h : Holds P cx σ a w S ρ) (d : Option Nat) {x : SV} {v : Value} (hx : Rel P S w ρ x v) : Holds P cx { σ with slots := setO σ.slots d x } (a.put d v) w S ρ :=
  ⟨h.good, h.slots.put hx, h.since, h.fresh, h.len, by cases d <;> simpa [Act.put] using h.defers⟩

end
end Go.Vx
