/- A part of a small verifier for the model's programs, proved sound for any program; no condition. -/
import Derived.Test.YtnbicdeehppgpaaGreatDoorVxH
import Derived.Test.YtnbicdeehppgpaaGreatDoorVxIa
set_option linter.unusedSimpArgs false
set_option linter.unusedVariables false
namespace Go.Vx
open Go
set_option linter.unusedSectionVars false
set_option linter.unusedVariables false

section
variable {P : Program}

theorem Since.step {cx : Cx} {S S' : Nat → Prop} {w w' : World} {ρ ρ' : Names} {nm : Nat} {new : Option Blk} {h : Nat → Blk} (hs : Since cx S ρ h w) (hq : QPost P S w ρ nm new S' w' ρ')
    (hn : h nm = .gone) (hnm : cx.H0.length ≤ nm) : Since cx S' ρ' (upd h nm (new.getD .gone)) w' := by
  refine ⟨fun k hk => hq.ext.sub k (hs.sub k hk), Nat.le_trans hs.size hq.ext.size, hq.ext.os.trans hs.os, hq.ext.tape.trans hs.tape, hq.ext.output.trans hs.output, fun k hk ho => ?_, fun k b cap hl hr => ?_, fun k hk => ?_, fun k hk ho => ?_, fun k hk hlt => ?_⟩
  · exact (hq.ext.old k (Nat.lt_of_lt_of_le hk hs.size)).trans (hs.old k hk ho)
  · by_cases hk : k = nm
    · subst hk
      cases hnew : new with
      | none => simp [upd, hnew, Blk.live] at hl
      | some blk =>
        have := ((hq.new_ blk hnew).2 b cap hr).1
        exact .inr (Nat.le_trans hs.size this)
    · simp only [upd, if_neg hk] at hl
      rw [hq.others k hk] at hr
      exact hs.own k b cap hl hr
  · rcases hq.ext.fresh k hk with h1 | h1
    · exact hs.pers k h1
    · exact .inr (.inr (Nat.le_trans hs.size h1))
  · rw [hq.others k (by omega)]
    exact hs.names k hk ho
  · rw [upd, if_neg (by omega)] at hk
    exact hs.ownH k hk hlt

def setO (l : List SV) (d : Option Nat) (x : SV) : List SV :=
  match d with
  | some d => setS l d x
  | none => l

def St.put (σ : St) (d : Option Nat) (q : QR) : St :=
  { slots := setO σ.slots d q.val, H := match q.new with | some b => σ.H ++ [b] | none => σ.H }

theorem setS_length : (l : List SV) → (d : Nat) → (x : SV) → (setS l d x).length = l.length
  | [], _, _ => rfl
  | _ :: l, 0, x => rfl
  | s :: l, d + 1, x => by simp [setS, setS_length l d x]

theorem setO_length (l : List SV) (d : Option Nat) (x : SV) : (setO l d x).length = l.length := by
  cases d <;> simp [setO, setS_length]

theorem get_setS : (l : List SV) → (d : Nat) → (x : SV) → (t : Nat) → get (setS l d x) t = if t = d ∧ d < l.length then x else get l t
  | [], d, x, t => by simp [setS, get]
  | s :: l, 0, x, t => by
    cases t with
    | zero => simp [setS, get]
    | succ t => simp [setS, get]
  | s :: l, d + 1, x, t => by
    cases t with
    | zero => simp [setS, get]
    | succ t => simp [setS, get, get_setS l d x t]

theorem getB_append : (l : List Blk) → (b : Blk) → (nm : Nat) → getB (l ++ [b]) nm = if nm = l.length then b else getB l nm
  | [], b, 0 => by simp [getB]
  | [], b, nm + 1 => by simp [getB]
  | c :: l, b, 0 => by simp [getB]
  | c :: l, b, nm + 1 => by simp [getB, getB_append l b nm]

theorem getB_out : (l : List Blk) → (nm : Nat) → l.length ≤ nm → getB l nm = .gone
  | [], _, _ => rfl
  | c :: l, 0, h => by simp at h
  | c :: l, nm + 1, h => by simpa [getB] using getB_out l nm (by simpa using h)

theorem SlotsR.put {S : Nat → Prop} {w : World} {ρ : Names} {slots : List SV} {a : Act} {d : Option Nat} {x : SV} {v : Value} (h : SlotsR P S w ρ slots a) (hx : Rel P S w ρ x v) : SlotsR P S w ρ (setO slots d x) (a.put d v) := by
  cases d with
  | none => exact h
  | some d =>
    refine ⟨by simp [Act.put, setO, setS_length, h.size], fun t => ?_⟩
    simp only [setO, get_setS, Act.put]
    have hsz := h.size
    by_cases ht : t = d ∧ d < slots.length
    · rw [if_pos ht]
      obtain ⟨rfl, hlt⟩ := ht
      rw [Array.getD_eq_getD_getElem?, Array.getElem?_setIfInBounds_self_of_lt (by omega)]
      exact hx
    · rw [if_neg ht]
      have : (a.tmps.setIfInBounds d v).getD t undef = a.tmps.getD t undef := by
        rw [Array.getD_eq_getD_getElem?, Array.getD_eq_getD_getElem?]
        by_cases htd : t = d
        · subst htd
          have : ¬ t < slots.length := fun h => ht ⟨rfl, h⟩
          rw [Array.getElem?_eq_none (by simp; omega), Array.getElem?_eq_none (by omega)]
        · rw [Array.getElem?_setIfInBounds_ne (Ne.symm htd)]
      rw [this]
      exact h.rel t

theorem SlotsR.fut {S S' : Nat → Prop} {w w' : World} {ρ ρ' : Names} {slots : List SV} {a : Act} (hf : Fut S w S' w') (hk : Keep ρ ρ') (h : SlotsR P S w ρ slots a) : SlotsR P S' w' ρ' slots a :=
  ⟨h.size, fun t => Rel.fut hf hk _ (h.rel t)⟩

theorem upd_getB (l : List Blk) (b : Blk) : upd (getB l) l.length b = getB (l ++ [b]) := by
  funext nm
  simp [upd, getB_append]

theorem upd_gone (l : List Blk) : upd (getB l) l.length .gone = getB l := by
  funext nm
  unfold upd
  split
  · subst_vars; exact (getB_out l _ (Nat.le_refl _)).symm
  · rfl

theorem Holds.put {cx : Cx} {σ : St} {a : Act} {w : World} {S S' : Nat → Prop} {ρ ρ' : Names} {q : QR} {v : Value} {w' : World} (d : Option Nat) (h : Holds P cx σ a w S ρ) (hq : QPost P S w ρ σ.H.length q.new S' w' ρ') (hv : Rel P S' w' ρ' q.val v) :
    Holds P cx (σ.put d q) (a.put d v) w' S' ρ' := by
  have hgone : getB σ.H σ.H.length = .gone := getB_out _ _ (Nat.le_refl _)
  have hg := h.good.step hq hgone
  have hsn := h.since.step hq hgone h.len
  have hfut := hq.ext.fut h.good.bounded
  have hH : upd (getB σ.H) σ.H.length (q.new.getD .gone) = getB (σ.put d q).H := by
    unfold St.put
    cases q.new with
    | none => simp [upd_gone]
    | some b => simp [upd_getB]
  rw [hH] at hg hsn
  refine ⟨hg, (h.slots.fut hfut hq.keep).put hv, hsn, fun nm hnm => ?_, ?_, by cases d <;> simpa [Act.put] using h.defers⟩
  · have hle : σ.H.length ≤ nm := by
      unfold St.put at hnm
      cases hn : q.new with
      | none => simpa [hn] using hnm
      | some b => simp [hn] at hnm; omega
    by_cases he : nm = σ.H.length
    · subst he
      cases hn : q.new with
      | none => rw [hq.none_ hn]; exact h.fresh _ (Nat.le_refl _)
      | some b => unfold St.put at hnm; simp [hn] at hnm; omega
    · rw [hq.others nm he]; exact h.fresh nm hle
  · unfold St.put
    have := h.len
    cases q.new <;> simp <;> omega

/-- Operations that are run one behind the other. -/
def guardx (ops : Array Oper) (o : Oper) (σ : St) (run skip : St → Prop) : Prop :=
  match o.guard with
  | none => run σ
  | some (j, want) => match (ops[j]?).bind (·.dst) with
    | none => False
    | some d => match get σ.slots d with
      | .kb b => if b = want then run σ else skip σ
      | .bool b => (b = want → run { σ with slots := setS σ.slots d (.kb want) }) ∧ (b = (!want) → skip { σ with slots := setS σ.slots d (.kb (!want)) })
      | .raw (.tuple _) => skip σ
      | _ => False

theorem Holds.same {cx : Cx} {σ : St} {a : Act} {w : World} {S : Nat → Prop} {ρ : Names} (h : Holds P cx σ a w S ρ) {d : Nat} {x : SV} (hx : Rel P S w ρ x (a.tmps.getD d undef)) : Holds P cx { σ with slots := setS σ.slots d x } a w S ρ := by
  refine ⟨h.good, ⟨by simp [setS_length, h.slots.size], fun t => ?_⟩, h.since, h.fresh, h.len, h.defers⟩
  rw [get_setS]
  split
  · rename_i ht; obtain ⟨rfl, _⟩ := ht; exact hx
  · exact h.slots.rel t

theorem guardx_ok {cx : Cx} {ops : Array Oper} {o : Oper} {σ : St} {a : Act} {w : World} {S : Nat → Prop} {ρ : Names} {run skip : St → Prop} (h : Holds P cx σ a w S ρ) (hx : guardx ops o σ run skip) :
    (Region.wanted o (yielded ops a.tmps) = true ∧ ∃ σ', σ'.H = σ.H ∧ Holds P cx σ' a w S ρ ∧ run σ') ∨ (Region.wanted o (yielded ops a.tmps) = false ∧ ∃ σ', σ'.H = σ.H ∧ Holds P cx σ' a w S ρ ∧ skip σ') := by
  unfold guardx at hx
  unfold Region.wanted
  split at hx
  · rename_i hg
    rw [hg]
    exact .inl ⟨rfl, σ, rfl, h, hx⟩
  · rename_i j want hg
    rw [hg]
    simp only
    split at hx
    · exact hx.elim
    · rename_i d hd
      have hy : ∀ b, a.tmps.getD d undef = .bool b → yielded ops a.tmps j = some b := by
        intro b hb
        unfold yielded
        rw [hd]
        simp only [Option.bind_some]
        rw [Array.getD_eq_getD_getElem?] at hb
        cases he : a.tmps[d]? with
        | none => rw [he] at hb; simp [undef] at hb
        | some v => rw [he] at hb; simp at hb; subst hb; rfl
      have hr := h.slots.rel d
      split at hx
      · rename_i b hs
        rw [hs] at hr
        simp only [Rel] at hr
        rw [hy b hr]
        split at hx
        · rename_i hb; subst hb; exact .inl ⟨by simp, σ, rfl, h, hx⟩
        · rename_i hb; exact .inr ⟨by simpa using hb, σ, rfl, h, hx⟩
      · rename_i b hs
        rw [hs] at hr
        simp only [Rel] at hr
        rw [hy b hr]
        by_cases hb : b = want
        · exact .inl ⟨by simpa using hb, { σ with slots := setS σ.slots d (.kb want) }, rfl, h.same (by simp only [Rel]; rw [hr, hb]), hx.1 hb⟩
        · have hb' : b = !want := by cases b <;> cases want <;> simp_all
          exact .inr ⟨by simpa using hb, { σ with slots := setS σ.slots d (.kb (!want)) }, rfl, h.same (by simp only [Rel]; rw [hr, hb']), hx.2 hb'⟩
      · rename_i vs hs
        rw [hs] at hr
        simp only [Rel] at hr
        refine .inr ⟨?_, σ, rfl, h, hx⟩
        have : yielded ops a.tmps j = none := by
          unfold yielded
          rw [hd]
          simp only [Option.bind_some]
          rw [Array.getD_eq_getD_getElem?] at hr
          cases he : a.tmps[d]? with
          | none => rfl
          | some v => rw [he] at hr; simp at hr; subst hr; rfl
        rw [this]
        rfl
      · exact hx.elim

end
end Go.Vx

namespace Go.Vx
open Go
set_option linter.unusedSectionVars false
set_option linter.unusedVariables false

def setB : List Blk → Nat → Blk → List Blk
  | [], _, _ => []
  | _ :: l, 0, x => x :: l
  | s :: l, n + 1, x => s :: setB l n x

theorem setB_length : (l : List Blk) → (d : Nat) → (x : Blk) → (setB l d x).length = l.length
  | [], _, _ => rfl
  | _ :: l, 0, x => rfl
  | s :: l, d + 1, x => by simp [setB, setB_length l d x]

theorem getB_setB : (l : List Blk) → (d : Nat) → (x : Blk) → (t : Nat) → getB (setB l d x) t = if t = d ∧ d < l.length then x else getB l t
  | [], d, x, t => by simp [setB, getB]
  | s :: l, 0, x, t => by
    cases t with
    | zero => simp [setB, getB]
    | succ t => simp [setB, getB]
  | s :: l, d + 1, x, t => by
    cases t with
    | zero => simp [setB, getB]
    | succ t => simp [setB, getB, getB_setB l d x t]

theorem live_lt {H : List Blk} {nm : Nat} (h : (getB H nm).live = true) : nm < H.length := by
  rcases Nat.lt_or_ge nm H.length with h1 | h1
  · exact h1
  · rw [getB_out _ _ h1] at h; cases h

section
variable {P : Program}

/-- One of the call's own blocks turns. -/
theorem Holds.update {cx : Cx} {σ : St} {a : Act} {w w' : World} {S : Nat → Prop} {ρ : Names} (h : Holds P cx σ a w S ρ) {nm b cap : Nat} {blk' : Blk} (hl : (getB σ.H nm).live = true) (hr : ρ nm = some (some b, cap))
    (hos : w'.os = w.os) (htape : w'.tape = w.tape) (hout : w'.output = w.output) (hsize : w'.heap.size = w.heap.size) (hsame : ∀ k, k ≠ b → w'.heap[k]? = w.heap[k]?)
    (hb : Fut S w S w' → BlkRel P S w' ρ nm blk') (hown : (getB σ.H nm).isOwn = blk'.isOwn) : Holds P cx { σ with H := setB σ.H nm blk' } a w' S ρ := by
  have hlt := live_lt hl
  obtain ⟨hnS, hbl⟩ := h.good.apart nm b cap hl hr
  have hfut : Fut S w S w' := ⟨fun _ h => h, fun k hk => hsame k (fun e => hnS (e ▸ hk))⟩
  have live' : ∀ k, k ≠ nm → getB (setB σ.H nm blk') k = getB σ.H k := fun k hk => by rw [getB_setB, if_neg (fun e => hk e.1)]
  have liv : ∀ k, (getB (setB σ.H nm blk') k).live = true → (getB σ.H k).live = true := fun k hk => by
    by_cases e : k = nm
    · subst e; exact hl
    · rwa [live' k e] at hk
  refine ⟨⟨h.good.bounded.same (fun k hk => by rw [hsize]; exact h.good.bounded.lt k hk) hfut, fun k => ?_, fun k b' cap' hk hr' => ?_, fun k k' b' c1 c2 hk hk' h1 h2 => ?_⟩, h.slots.fut hfut (Keep.refl ρ), ?_, fun k hk => h.fresh k (by simpa [setB_length] using hk), by simp only [setB_length]; exact h.len, h.defers⟩
  · by_cases e : k = nm
    · subst e
      simp only [getB_setB, hlt, and_self, if_true]
      exact hb hfut
    · simp only
      rw [live' k e]
      by_cases hlk : (getB σ.H k).live = true
      · refine (h.good.rel k).keep hfut (Keep.refl ρ) fun b' cap' hr' => hsame b' fun e' => ?_
        subst e'
        exact e (h.good.inj k nm b' cap' cap hlk hl hr' hr)
      · cases hh : getB σ.H k with
        | gone => simp [BlkRel]
        | frame l vs =>
          have hrel := h.good.rel k
          rw [hh] at hrel
          exact RelL.fut hfut (Keep.refl ρ) l hrel
        | _ => simp [hh, Blk.live] at hlk
  · obtain ⟨h1, h2⟩ := h.good.apart k b' cap' (liv k hk) hr'
    exact ⟨h1, by rw [hsize]; exact h2⟩
  · exact h.good.inj k k' b' c1 c2 (liv k hk) (liv k' hk') h1 h2
  · have hs := h.since
    refine ⟨hs.sub, by rw [hsize]; exact hs.size, hos.trans hs.os, htape.trans hs.tape, hout.trans hs.output, fun k hk ho => ?_, fun k b' cap' hk hr' => hs.own k b' cap' (liv k hk) hr', hs.pers, hs.names, fun k hk hlt' => ?_⟩
    · rw [hsame k ?_]
      · exact hs.old k hk ho
      · intro e
        subst e
        rcases hs.own nm k cap hl hr with h1 | h1
        · exact ho h1
        · omega
    · by_cases e : k = nm
      · subst e
        simp only [getB_setB, hlt, and_self, if_true] at hk
        exact hs.ownH k (hown.trans hk) hlt'
      · rw [live' k e] at hk
        exact hs.ownH k hk hlt'

/-- A slot forgets, or takes what it holds. -/
theorem Holds.putSlot {cx : Cx} {σ : St} {a : Act} {w : World} {S : Nat → Prop} {ρ : Names} (h : Holds P cx σ a w S ρ) (d : Option Nat) {x : SV} {v : Value} (hx : Rel P S w ρ x v) : Holds P cx { σ with slots := setO σ.slots d x } (a.put d v) w S ρ :=
  ⟨h.good, h.slots.put hx, h.since, h.fresh, h.len, by cases d <;> simpa [Act.put] using h.defers⟩

end
end Go.Vx

namespace Go.Vx
open Go
set_option linter.unusedSectionVars false
set_option linter.unusedVariables false

mutual
/-- A value without what it tells of the name. -/
def forget (nm : Nat) : SV → SV
  | .osl n k => if n = nm then .any else .osl n k
  | .eptr n e i => if n = nm then .any else .eptr n e i
  | .ptr n o => if n = nm then .any else .ptr n o
  | .agg l => .agg (forgetL nm l)
  | .tup l => .tup (forgetL nm l)
  | .fn f l => .fn f (forgetL nm l)
  | .bd f l => .bd f (forgetL nm l)
  | .nil0 => .nil0
  | .osub n sz k i => if n = nm then .any else .osub n sz k i
  | .ifc t x => .ifc t (forget nm x)
  | .any => .any
  | .int k n => .int k n
  | .bool b => .bool b
  | .kb b => .kb b
  | .str s => .str s
  | .sl e xs => .sl e xs
  | .nils => .nils
  | .slf e xs => .slf e xs
  | .ag t x => .ag t x
  | .pp t x => .pp t x
  | .nilp => .nilp
  | .f1 a c F => .f1 a c F
  | .f2 a b c F => .f2 a b c F
  | .nilf => .nilf
  | .mp n => if n = nm then .any else .mp n
  | .nili => .nili
  | .raw v => .raw v
def forgetL (nm : Nat) : List SV → List SV
  | [] => []
  | s :: l => forget nm s :: forgetL nm l
end

def forgetB (nm : Nat) : Blk → Blk
  | .gone => .gone
  | .cells l t => .cells (forgetL nm l) t
  | .own e xs t => .own e xs t
  | .iter s p => .iter s p
  | .mp d e m => .mp d e m
  | .frame l vs => .frame (forgetL nm l) vs

def forgetH (nm : Nat) : List Blk → List Blk
  | [] => []
  | b :: l => forgetB nm b :: forgetH nm l

section
variable {P : Program} {S S' : Nat → Prop} {w w' : World} {ρ ρ' : Names}

mutual
theorem forget_rel {nm : Nat} (hf : Fut S w S' w') (hk : ∀ k, k ≠ nm → ρ' k = ρ k) : (s : SV) → {v : Value} → Rel P S w ρ s v → Rel P S' w' ρ' (forget nm s) v
  | .any, v, h => by simp only [forget, Rel]
  | .int k n, v, h => by simpa only [forget, Rel] using h
  | .bool b, v, h => by simpa only [forget, Rel] using h
  | .kb b, v, h => by simpa only [forget, Rel] using h
  | .str s, v, h => by simpa only [forget, Rel] using h
  | .sl e xs, v, h => by simp only [forget, Rel] at h ⊢; exact Rep.fut hf _ h
  | .nils, v, h => by simpa only [forget, Rel] using h
  | .osl n m, v, h => by
    simp only [forget]
    split
    · simp only [Rel]
    · rename_i hn
      simp only [Rel] at h ⊢
      rw [hk n hn]; exact h
  | .slf e xs, v, h => by simp only [forget, Rel] at h ⊢; exact ⟨h.1, Rep.fut hf _ h.2⟩
  | .ag t x, v, h => by simp only [forget, Rel] at h ⊢; obtain ⟨cs, h1, h2⟩ := h; exact ⟨cs, h1, Rep.fut hf _ h2⟩
  | .pp t x, v, h => by simp only [forget, Rel] at h ⊢; exact Rep.fut hf _ h
  | .f1 a c F, v, h => by simp only [forget, Rel] at h ⊢; exact Rep.fut hf _ h
  | .f2 a b c F, v, h => by simp only [forget, Rel] at h ⊢; exact Rep.fut hf _ h
  | .ptr n off, v, h => by
    simp only [forget]
    split
    · simp only [Rel]
    · rename_i hn
      simp only [Rel] at h ⊢
      rw [hk n hn]; exact h
  | .eptr n e i, v, h => by
    simp only [forget]
    split
    · simp only [Rel]
    · rename_i hn
      simp only [Rel] at h ⊢
      rw [hk n hn]; exact h
  | .nilp, v, h => by simpa only [forget, Rel] using h
  | .agg l, v, h => by
    simp only [forget, Rel] at h ⊢
    obtain ⟨cs, e, h⟩ := h
    exact ⟨cs, e, forget_relL hf hk l h⟩
  | .tup l, v, h => by
    simp only [forget, Rel] at h ⊢
    obtain ⟨cs, e, h⟩ := h
    exact ⟨cs, e, forget_relL hf hk l h⟩
  | .fn f l, v, h => by
    simp only [forget, Rel] at h ⊢
    obtain ⟨cs, e, h⟩ := h
    exact ⟨cs, e, forget_relL hf hk l h⟩
  | .bd f l, v, h => by
    simp only [forget, Rel] at h ⊢
    obtain ⟨cs, e, h⟩ := h
    exact ⟨cs, e, forget_relL hf hk l h⟩
  | .nil0, v, h => by simpa only [forget, Rel] using h
  | .osub n sz k i, v, h => by
    simp only [forget]
    split
    · simp only [Rel]
    · rename_i hn
      simp only [Rel] at h ⊢
      rw [hk n hn]; exact h
  | .nilf, v, h => by simpa only [forget, Rel] using h
  | .mp n, v, h => by
    simp only [forget]
    split
    · simp only [Rel]
    · rename_i hn
      simp only [Rel] at h ⊢
      rw [hk n hn]; exact h
  | .ifc t x, v, h => by
    simp only [forget, Rel] at h ⊢
    obtain ⟨u, e, h⟩ := h
    exact ⟨u, e, forget_rel hf hk x h⟩
  | .nili, v, h => by simpa only [forget, Rel] using h
  | .raw u, v, h => by simpa only [forget, Rel] using h
theorem forget_relL {nm : Nat} (hf : Fut S w S' w') (hk : ∀ k, k ≠ nm → ρ' k = ρ k) : (l : List SV) → {vs : List Value} → RelL P S w ρ l vs → RelL P S' w' ρ' (forgetL nm l) vs
  | [], vs, h => by simpa only [forgetL, RelL] using h
  | s :: l, vs, h => by
    simp only [forgetL, RelL] at h ⊢
    obtain ⟨v, vs', e, h1, h2⟩ := h
    exact ⟨v, vs', e, forget_rel hf hk s h1, forget_relL hf hk l h2⟩
end

theorem get_forget (nm : Nat) : (l : List SV) → (t : Nat) → get (forgetL nm l) t = forget nm (get l t)
  | [], t => by simp [forgetL, get, forget]
  | s :: l, 0 => by simp [forgetL, get]
  | s :: l, t + 1 => by simpa [forgetL, get] using get_forget nm l t

theorem forgetL_length (nm : Nat) : (l : List SV) → (forgetL nm l).length = l.length
  | [] => by simp [forgetL]
  | s :: l => by simp [forgetL, forgetL_length nm l]

theorem getB_forget (nm : Nat) : (l : List Blk) → (t : Nat) → getB (forgetH nm l) t = forgetB nm (getB l t)
  | [], t => by simp [forgetH, getB, forgetB]
  | s :: l, 0 => by simp [forgetH, getB]
  | s :: l, t + 1 => by simpa [forgetH, getB] using getB_forget nm l t

theorem forgetH_length (nm : Nat) : (l : List Blk) → (forgetH nm l).length = l.length
  | [] => by simp [forgetH]
  | s :: l => by simp [forgetH, forgetH_length nm l]

theorem forgetB_live (nm : Nat) (b : Blk) : (forgetB nm b).live = b.live := by cases b <;> rfl
theorem forgetB_own (nm : Nat) (b : Blk) : (forgetB nm b).isOwn = b.isOwn := by cases b <;> rfl

/-- An own list turns, and may lie elsewhere now. -/
theorem Holds.rename {cx : Cx} {σ : St} {a : Act} (h : Holds P cx σ a w S ρ) {nm : Nat} {ob' : Option Nat} {cap' : Nat} {blk' : Blk} (hown : (getB σ.H nm).isOwn = true) (hown' : blk'.isOwn = true)
    (hos : w'.os = w.os) (htape : w'.tape = w.tape) (hout : w'.output = w.output) (hsize : w.heap.size ≤ w'.heap.size)
    (hold : ∀ k, k < w.heap.size → (∀ cap, ρ nm ≠ some (some k, cap)) → w'.heap[k]? = w.heap[k]?)
    (hb' : ∀ b, ob' = some b → (∃ cap, ρ nm = some (some b, cap)) ∨ (w.heap.size ≤ b ∧ b < w'.heap.size))
    (hr : Fut S w S w' → BlkRel P S w' (setN ρ nm (ob', cap')) nm blk') : Holds P cx { slots := forgetL nm σ.slots, H := setB (forgetH nm σ.H) nm blk' } a w' S (setN ρ nm (ob', cap')) := by
  have hlive : (getB σ.H nm).live = true := by cases hh : getB σ.H nm <;> simp_all [Blk.isOwn, Blk.live]
  have hlt := live_lt hlive
  have hfut : Fut S w S w' := ⟨fun _ h => h, fun k hk => hold k (h.good.bounded.lt k hk) fun cap e => (h.good.apart nm k cap hlive e).1 hk⟩
  have hk : ∀ k, k ≠ nm → setN ρ nm (ob', cap') k = ρ k := fun k hk => by simp [setN, hk]
  have hn : setN ρ nm (ob', cap') nm = some (ob', cap') := by simp [setN]
  have hg : ∀ k, getB (setB (forgetH nm σ.H) nm blk') k = if k = nm then blk' else forgetB nm (getB σ.H k) := fun k => by
    rw [getB_setB, forgetH_length, getB_forget]
    by_cases e : k = nm
    · subst e; simp [hlt]
    · simp [e]
  have liv : ∀ k, (getB (setB (forgetH nm σ.H) nm blk') k).live = true → k ≠ nm → (getB σ.H k).live = true := fun k hk e => by
    rw [hg, if_neg e, forgetB_live] at hk; exact hk
  have bnew : ∀ b cap, setN ρ nm (ob', cap') nm = some (some b, cap) → (∃ cap, ρ nm = some (some b, cap)) ∨ (w.heap.size ≤ b ∧ b < w'.heap.size) := fun b cap e => by
    rw [hn] at e
    exact hb' b (by cases e; rfl)
  refine ⟨⟨h.good.bounded.same (fun k hk => Nat.lt_of_lt_of_le (h.good.bounded.lt k hk) hsize) hfut, fun k => ?_, fun k b cap hk1 hk2 => ?_, fun k k' b c1 c2 hk1 hk1' hk2 hk2' => ?_⟩, ⟨by simp [forgetL_length, h.slots.size], fun t => ?_⟩, ?_, fun k hk' => ?_, by simp only [setB_length, forgetH_length]; exact h.len, h.defers⟩
  · rw [hg]
    split
    · rename_i e; subst e; exact hr hfut
    · rename_i e
      have hrel := h.good.rel k
      cases hh : getB σ.H k with
      | gone => simp [forgetB, BlkRel]
      | cells l t =>
        rw [hh] at hrel
        obtain ⟨b, cap, h1, cs, h2, h3⟩ := hrel
        have hl' : (getB σ.H k).live = true := by rw [hh]; rfl
        exact ⟨b, cap, by rw [hk k e]; exact h1, cs, (hold b (h.good.apart k b cap hl' h1).2 fun cap2 e2 => e (h.good.inj k nm b cap cap2 hl' hlive h1 e2)).trans h2, forget_relL hfut hk l h3⟩
      | own e' xs t =>
        rw [hh] at hrel
        have hl' : (getB σ.H k).live = true := by rw [hh]; rfl
        simp only [forgetB]
        obtain ⟨ob, cap, h1, h2, h3⟩ := hrel
        refine ⟨ob, cap, by rw [hk k e]; exact h1, h2, ?_⟩
        cases ob with
        | none => exact h3
        | some b =>
          obtain ⟨cs, fr, h4, h5, h6, h7⟩ := h3
          refine ⟨cs, fr, (hold b (h.good.apart k b cap hl' h1).2 fun cap2 e2 => e (h.good.inj k nm b cap cap2 hl' hlive h1 e2)).trans h4, h5, h6, fun i x hx => ?_⟩
          obtain ⟨c, r, g⟩ := h7 i x hx
          exact ⟨c, Rep.fut hfut e' r, g⟩
      | mp d e' m =>
        rw [hh] at hrel
        have hl' : (getB σ.H k).live = true := by rw [hh]; rfl
        obtain ⟨b, cap, h1, es, clock, h2, h3⟩ := hrel
        exact ⟨b, cap, by rw [hk k e]; exact h1, es, clock, (hold b (h.good.apart k b cap hl' h1).2 fun cap2 e2 => e (h.good.inj k nm b cap cap2 hl' hlive h1 e2)).trans h2, h3.fut hfut⟩
      | iter s pos =>
        rw [hh] at hrel
        have hl' : (getB σ.H k).live = true := by rw [hh]; rfl
        obtain ⟨b, cap, h1, h2⟩ := hrel
        exact ⟨b, cap, by rw [hk k e]; exact h1, (hold b (h.good.apart k b cap hl' h1).2 fun cap2 e2 => e (h.good.inj k nm b cap cap2 hl' hlive h1 e2)).trans h2⟩
      | frame l vs =>
        rw [hh] at hrel
        exact forget_relL hfut hk l hrel
  · by_cases e : k = nm
    · subst e
      rcases bnew b cap hk2 with ⟨c, h1⟩ | ⟨h1, h2⟩
      · obtain ⟨g1, g2⟩ := h.good.apart k b c hlive h1
        exact ⟨g1, Nat.lt_of_lt_of_le g2 hsize⟩
      · exact ⟨fun hS => by have := h.good.bounded.lt b hS; omega, h2⟩
    · rw [hk k e] at hk2
      obtain ⟨g1, g2⟩ := h.good.apart k b cap (liv k hk1 e) hk2
      exact ⟨g1, Nat.lt_of_lt_of_le g2 hsize⟩
  · by_cases e : k = nm <;> by_cases e' : k' = nm
    · rw [e, e']
    · subst e
      rw [hk k' e'] at hk2'
      have h2 := h.good.apart k' b c2 (liv k' hk1' e') hk2'
      rcases bnew b c1 hk2 with ⟨c, h1⟩ | ⟨h1, _⟩
      · exact h.good.inj k k' b c c2 hlive (liv k' hk1' e') h1 hk2'
      · omega
    · subst e'
      rw [hk k e] at hk2
      have h2 := h.good.apart k b c1 (liv k hk1 e) hk2
      rcases bnew b c2 hk2' with ⟨c, h1⟩ | ⟨h1, _⟩
      · exact h.good.inj k k' b c1 c (liv k hk1 e) hlive hk2 h1
      · omega
    · rw [hk k e] at hk2
      rw [hk k' e'] at hk2'
      exact h.good.inj k k' b c1 c2 (liv k hk1 e) (liv k' hk1' e') hk2 hk2'
  · simp only [get_forget]
    exact forget_rel hfut hk _ (h.slots.rel t)
  · have hs := h.since
    refine ⟨hs.sub, Nat.le_trans hs.size hsize, hos.trans hs.os, htape.trans hs.tape, hout.trans hs.output, fun k hk1 ho => ?_, fun k b cap hk1 hk2 => ?_, hs.pers, fun k hk1 ho => ?_, fun k hk1 hk2 => ?_⟩
    · refine (hold k (Nat.lt_of_lt_of_le hk1 hs.size) fun cap e => ?_).trans (hs.old k hk1 ho)
      rcases hs.own nm k cap hlive e with h1 | h1
      · exact ho h1
      · omega
    · by_cases e : k = nm
      · subst e
        rcases bnew b cap hk2 with ⟨c, h1⟩ | ⟨h1, _⟩
        · exact hs.own k b c hlive h1
        · exact .inr (Nat.le_trans hs.size h1)
      · rw [hk k e] at hk2
        exact hs.own k b cap (liv k hk1 e) hk2
    · have hne : k ≠ nm := fun e => by
        subst e
        have h1 := hs.ownH k hown hk1
        rw [h1] at ho; cases ho
      rw [hk k hne]
      exact hs.names k hk1 ho
    · by_cases e : k = nm
      · subst e; exact hs.ownH k hown hk2
      · rw [hg, if_neg e, forgetB_own] at hk1
        exact hs.ownH k hk1 hk2
  · simp only [setB_length, forgetH_length] at hk'
    rw [hk k (by omega)]
    exact h.fresh k hk'
end
end Go.Vx
