/- A part of a small verifier for the model's programs, proved sound for any program; no condition. -/
import Derived.Test.YtlibncpahaefbaaDoorVxH
namespace Go.Vx
open Go
set_option linter.unusedSectionVars false
set_option linter.unusedVariables false

/-- What the executor knows: the slots, and the call's own blocks. -/
structure St where
  slots : List SV
  H : List Blk

/-- Where a call began. -/
structure Cx where
  S0 : Nat → Prop
  ρ0 : Names
  H0 : List Blk
  w0 : World

def Cx.Own (cx : Cx) (k : Nat) : Prop := ∃ nm cap, (getB cx.H0 nm).live = true ∧ cx.ρ0 nm = some (some k, cap)

def Blk.isOwn : Blk → Bool
  | .own _ _ _ => true
  | _ => false

/-- Since the call began nothing old has turned but what was handed to it. -/
structure Since (cx : Cx) (S : Nat → Prop) (ρ : Names) (h : Nat → Blk) (w : World) : Prop where
  sub : ∀ k, cx.S0 k → S k
  size : cx.w0.heap.size ≤ w.heap.size
  os : w.os = cx.w0.os
  tape : w.tape = cx.w0.tape
  output : w.output = cx.w0.output
  old : ∀ k, k < cx.w0.heap.size → ¬ cx.Own k → w.heap[k]? = cx.w0.heap[k]?
  own : ∀ nm b cap, (h nm).live = true → ρ nm = some (some b, cap) → cx.Own b ∨ cx.w0.heap.size ≤ b
  pers : ∀ k, S k → cx.S0 k ∨ cx.Own k ∨ cx.w0.heap.size ≤ k
  names : ∀ nm, nm < cx.H0.length → (getB cx.H0 nm).isOwn = false → ρ nm = cx.ρ0 nm
  ownH : ∀ nm, (h nm).isOwn = true → nm < cx.H0.length → (getB cx.H0 nm).isOwn = true

section
variable {P : Program}

theorem Since.step {cx : Cx} {S S' : Nat → Prop} {w w' : World} {ρ ρ' : Names} {nm : Nat} {new : Option Blk} {h : Nat → Blk} (hs : Since cx S ρ h w) (hq : QPost P S w ρ nm new S' w' ρ')
    (hn : h nm = .gone) (hnm : cx.H0.length ≤ nm) : Since cx S' ρ' (upd h nm (new.getD .gone)) w' := by
  refine ⟨fun k hk => hq.ext.sub k (hs.sub k hk), Nat.le_trans hs.size hq.ext.size, hq.ext.os.trans hs.os, hq.ext.tape.trans hs.tape, hq.ext.output.trans hs.output, fun k hk ho => ?_, fun k b cap hl hr => ?_, fun k hk => ?_, fun k hk ho => ?_, fun k hk hlt => ?_⟩
  · exact (hq.ext.old k (Nat.lt_of_lt_of_le hk hs.size)).trans (hs.old k hk ho)
  · by_cases hk : k = nm
    · subst hk
      cases hnew : new with
      | none => simp [upd, hnew, Blk.live] at hl
      | some blk =>
        have := ((hq.new_ blk hnew).2 b cap hr).1
        exact .inr (Nat.le_trans hs.size this)
    · simp only [upd, if_neg hk] at hl
      rw [hq.others k hk] at hr
      exact hs.own k b cap hl hr
  · rcases hq.ext.fresh k hk with h1 | h1
    · exact hs.pers k h1
    · exact .inr (.inr (Nat.le_trans hs.size h1))
  · rw [hq.others k (by omega)]
    exact hs.names k hk ho
  · rw [upd, if_neg (by omega)] at hk
    exact hs.ownH k hk hlt

/-- The state tells what is there. -/
structure Holds (P : Program) (cx : Cx) (σ : St) (a : Act) (w : World) (S : Nat → Prop) (ρ : Names) : Prop where
  good : Good P S ρ (getB σ.H) w
  slots : SlotsR P S w ρ σ.slots a
  since : Since cx S ρ (getB σ.H) w
  fresh : ∀ nm, σ.H.length ≤ nm → ρ nm = none
  len : cx.H0.length ≤ σ.H.length
  defers : a.defers = []

def setO (l : List SV) (d : Option Nat) (x : SV) : List SV :=
  match d with
  | some d => setS l d x
  | none => l

def St.put (σ : St) (d : Option Nat) (q : QR) : St :=
  { slots := setO σ.slots d q.val, H := match q.new with | some b => σ.H ++ [b] | none => σ.H }

theorem setS_length : (l : List SV) → (d : Nat) → (x : SV) → (setS l d x).length = l.length
  | [], _, _ => rfl
  | _ :: l, 0, x => rfl
  | s :: l, d + 1, x => by simp [setS, setS_length l d x]

theorem setO_length (l : List SV) (d : Option Nat) (x : SV) : (setO l d x).length = l.length := by
  cases d <;> simp [setO, setS_length]

theorem get_setS : (l : List SV) → (d : Nat) → (x : SV) → (t : Nat) → get (setS l d x) t = if t = d ∧ d < l.length then x else get l t
  | [], d, x, t => by simp [setS, get]
  | s :: l, 0, x, t => by
    cases t with
    | zero => simp [setS, get]
    | succ t => simp [setS, get]
  | s :: l, d + 1, x, t => by
    cases t with
    | zero => simp [setS, get]
    | succ t => simp [setS, get, get_setS l d x t]

theorem getB_append : (l : List Blk) → (b : Blk) → (nm : Nat) → getB (l ++ [b]) nm = if nm = l.length then b else getB l nm
  | [], b, 0 => by simp [getB]
  | [], b, nm + 1 => by simp [getB]
  | c :: l, b, 0 => by simp [getB]
  | c :: l, b, nm + 1 => by simp [getB, getB_append l b nm]

theorem getB_out : (l : List Blk) → (nm : Nat) → l.length ≤ nm → getB l nm = .gone
  | [], _, _ => rfl
  | c :: l, 0, h => by simp at h
  | c :: l, nm + 1, h => by simpa [getB] using getB_out l nm (by simpa using h)

theorem SlotsR.put {S : Nat → Prop} {w : World} {ρ : Names} {slots : List SV} {a : Act} {d : Option Nat} {x : SV} {v : Value} (h : SlotsR P S w ρ slots a) (hx : Rel P S w ρ x v) : SlotsR P S w ρ (setO slots d x) (a.put d v) := by
  cases d with
  | none => exact h
  | some d =>
    refine ⟨by simp [Act.put, setO, setS_length, h.size], fun t => ?_⟩
    simp only [setO, get_setS, Act.put]
    have hsz := h.size
    by_cases ht : t = d ∧ d < slots.length
    · rw [if_pos ht]
      obtain ⟨rfl, hlt⟩ := ht
      rw [Array.getD_eq_getD_getElem?, Array.getElem?_setIfInBounds_self_of_lt (by omega)]
      exact hx
    · rw [if_neg ht]
      have : (a.tmps.setIfInBounds d v).getD t undef = a.tmps.getD t undef := by
        rw [Array.getD_eq_getD_getElem?, Array.getD_eq_getD_getElem?]
        by_cases htd : t = d
        · subst htd
          have : ¬ t < slots.length := fun h => ht ⟨rfl, h⟩
          rw [Array.getElem?_eq_none (by simp; omega), Array.getElem?_eq_none (by omega)]
        · rw [Array.getElem?_setIfInBounds_ne (Ne.symm htd)]
      rw [this]
      exact h.rel t

theorem SlotsR.fut {S S' : Nat → Prop} {w w' : World} {ρ ρ' : Names} {slots : List SV} {a : Act} (hf : Fut S w S' w') (hk : Keep ρ ρ') (h : SlotsR P S w ρ slots a) : SlotsR P S' w' ρ' slots a :=
  ⟨h.size, fun t => Rel.fut hf hk _ (h.rel t)⟩

theorem upd_getB (l : List Blk) (b : Blk) : upd (getB l) l.length b = getB (l ++ [b]) := by
  funext nm
  simp [upd, getB_append]

theorem upd_gone (l : List Blk) : upd (getB l) l.length .gone = getB l := by
  funext nm
  unfold upd
  split
  · subst_vars; exact (getB_out l _ (Nat.le_refl _)).symm
  · rfl

theorem Holds.put {cx : Cx} {σ : St} {a : Act} {w : World} {S S' : Nat → Prop} {ρ ρ' : Names} {q : QR} {v : Value} {w' : World} (d : Option Nat) (h : Holds P cx σ a w S ρ) (hq : QPost P S w ρ σ.H.length q.new S' w' ρ') (hv : Rel P S' w' ρ' q.val v) :
    Holds P cx (σ.put d q) (a.put d v) w' S' ρ' := by
  have hgone : getB σ.H σ.H.length = .gone := getB_out _ _ (Nat.le_refl _)
  have hg := h.good.step hq hgone
  have hsn := h.since.step hq hgone h.len
  have hfut := hq.ext.fut h.good.bounded
  have hH : upd (getB σ.H) σ.H.length (q.new.getD .gone) = getB (σ.put d q).H := by
    unfold St.put
    cases q.new with
    | none => simp [upd_gone]
    | some b => simp [upd_getB]
  rw [hH] at hg hsn
  refine ⟨hg, (h.slots.fut hfut hq.keep).put hv, hsn, fun nm hnm => ?_, ?_, by cases d <;> simpa [Act.put] using h.defers⟩
  · have hle : σ.H.length ≤ nm := by
      unfold St.put at hnm
      cases hn : q.new with
      | none => simpa [hn] using hnm
      | some b => simp [hn] at hnm; omega
    by_cases he : nm = σ.H.length
    · subst he
      cases hn : q.new with
      | none => rw [hq.none_ hn]; exact h.fresh _ (Nat.le_refl _)
      | some b => unfold St.put at hnm; simp [hn] at hnm; omega
    · rw [hq.others nm he]; exact h.fresh nm hle
  · unfold St.put
    have := h.len
    cases q.new <;> simp <;> omega

/-- Operations that are run one behind the other. -/
def guardx (ops : Array Oper) (o : Oper) (σ : St) (run skip : St → Prop) : Prop :=
  match o.guard with
  | none => run σ
  | some (j, want) => match (ops[j]?).bind (·.dst) with
    | none => False
    | some d => match get σ.slots d with
      | .kb b => if b = want then run σ else skip σ
      | .bool b => (b = want → run { σ with slots := setS σ.slots d (.kb want) }) ∧ (b = (!want) → skip { σ with slots := setS σ.slots d (.kb (!want)) })
      | .raw (.tuple _) => skip σ
      | _ => False

theorem Holds.same {cx : Cx} {σ : St} {a : Act} {w : World} {S : Nat → Prop} {ρ : Names} (h : Holds P cx σ a w S ρ) {d : Nat} {x : SV} (hx : Rel P S w ρ x (a.tmps.getD d undef)) : Holds P cx { σ with slots := setS σ.slots d x } a w S ρ := by
  refine ⟨h.good, ⟨by simp [setS_length, h.slots.size], fun t => ?_⟩, h.since, h.fresh, h.len, h.defers⟩
  rw [get_setS]
  split
  · rename_i ht; obtain ⟨rfl, _⟩ := ht; exact hx
  · exact h.slots.rel t

theorem guardx_ok {cx : Cx} {ops : Array Oper} {o : Oper} {σ : St} {a : Act} {w : World} {S : Nat → Prop} {ρ : Names} {run skip : St → Prop} (h : Holds P cx σ a w S ρ) (hx : guardx ops o σ run skip) :
    (Region.wanted o (yielded ops a.tmps) = true ∧ ∃ σ', σ'.H = σ.H ∧ Holds P cx σ' a w S ρ ∧ run σ') ∨ (Region.wanted o (yielded ops a.tmps) = false ∧ ∃ σ', σ'.H = σ.H ∧ Holds P cx σ' a w S ρ ∧ skip σ') := by
  unfold guardx at hx
  unfold Region.wanted
  split at hx
  · rename_i hg
    rw [hg]
    exact .inl ⟨rfl, σ, rfl, h, hx⟩
  · rename_i j want hg
    rw [hg]
    simp only
    split at hx
    · exact hx.elim
    · rename_i d hd
      have hy : ∀ b, a.tmps.getD d undef = .bool b → yielded ops a.tmps j = some b := by
        intro b hb
        unfold yielded
        rw [hd]
        simp only [Option.bind_some]
        rw [Array.getD_eq_getD_getElem?] at hb
        cases he : a.tmps[d]? with
        | none => rw [he] at hb; simp [undef] at hb
        | some v => rw [he] at hb; simp at hb; subst hb; rfl
      have hr := h.slots.rel d
      split at hx
      · rename_i b hs
        rw [hs] at hr
        simp only [Rel] at hr
        rw [hy b hr]
        split at hx
        · rename_i hb; subst hb; exact .inl ⟨by simp, σ, rfl, h, hx⟩
        · rename_i hb; exact .inr ⟨by simpa using hb, σ, rfl, h, hx⟩
      · rename_i b hs
        rw [hs] at hr
        simp only [Rel] at hr
        rw [hy b hr]
        by_cases hb : b = want
        · exact .inl ⟨by simpa using hb, { σ with slots := setS σ.slots d (.kb want) }, rfl, h.same (by simp only [Rel]; rw [hr, hb]), hx.1 hb⟩
        · have hb' : b = !want := by cases b <;> cases want <;> simp_all
          exact .inr ⟨by simpa using hb, { σ with slots := setS σ.slots d (.kb (!want)) }, rfl, h.same (by simp only [Rel]; rw [hr, hb']), hx.2 hb'⟩
      · rename_i vs hs
        rw [hs] at hr
        simp only [Rel] at hr
        refine .inr ⟨?_, σ, rfl, h, hx⟩
        have : yielded ops a.tmps j = none := by
          unfold yielded
          rw [hd]
          simp only [Option.bind_some]
          rw [Array.getD_eq_getD_getElem?] at hr
          cases he : a.tmps[d]? with
          | none => rfl
          | some v => rw [he] at hr; simp at hr; subst hr; rfl
        rw [this]
        rfl
      · exact hx.elim

end
end Go.Vx
