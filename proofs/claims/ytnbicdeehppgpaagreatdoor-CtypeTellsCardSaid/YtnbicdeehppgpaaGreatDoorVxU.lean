/- A part of a small verifier for the model's programs, proved sound for any program; no condition. -/
import Derived.Test.YtnbicdeehppgpaaGreatDoorVxT
import Derived.Laws.LoneSync
set_option linter.unusedSimpArgs false
set_option linter.unusedVariables false
namespace Go.Vx
open Go
set_option linter.unusedSectionVars false
set_option linter.unusedVariables false

/-! #### rows of cells that are told by their turns -/
theorem nilRow_length (n : Nat) : (nilRow n).length = n := List.length_replicate ..
theorem get_nilRow : (n i : Nat) → get (nilRow n) i = if i < n then .nil0 else .any
  | 0, i => by simp [nilRow, get]
  | n + 1, 0 => by simp [nilRow, List.replicate_succ, get]
  | n + 1, i + 1 => by
    have := get_nilRow n i
    simp only [nilRow, List.replicate_succ, get] at this ⊢
    rw [this]
    simp
theorem cell_osl {nm n : Nat} : isCell (.osl nm n) = true := rfl
theorem cell_str {s : List UInt8} : isCell (.str s) = true := rfl
theorem cell_slf {e : Ty} {xs : List e.D} : isCell (.slf e xs) = true := rfl
theorem cell_nil0 : isCell .nil0 = true := rfl
theorem cell_nilRow (n : Nat) : (nilRow n).all isCell = true := by simp [nilRow, isCell]
theorem cell_setS : {l : List SV} → {d : Nat} → {x : SV} → l.all isCell = true → isCell x = true → (setS l d x).all isCell = true
  | [], d, x, h, _ => h
  | s :: l, 0, x, h, hx => by simp only [setS, List.all_cons, Bool.and_eq_true] at h ⊢; exact ⟨hx, h.2⟩
  | s :: l, d + 1, x, h, hx => by simp only [setS, List.all_cons, Bool.and_eq_true] at h ⊢; exact ⟨h.1, cell_setS h.2 hx⟩
theorem cell_setS1 {l : List SV} {d nm n : Nat} (h : l.all isCell = true) : (setS l d (.osl nm n)).all isCell = true := cell_setS h rfl
theorem cell_setS2 {l : List SV} {d : Nat} {e : Ty} {xs : List e.D} (h : l.all isCell = true) : (setS l d (.slf e xs)).all isCell = true := cell_setS h rfl
theorem below_noVal (n : Nat) : below n noVal = True := by simp [noVal, below]
theorem below_nilRow (n : Nat) : (k : Nat) → below.belowL n (nilRow k) = True
  | 0 => by simp [nilRow, below.belowL]
  | k + 1 => by
    have := below_nilRow n k
    simp only [nilRow, List.replicate_succ, below.belowL, below, true_and] at this ⊢
    exact this
theorem below_setS : {l : List SV} → {n d : Nat} → {x : SV} → below.belowL n l → below n x → below.belowL n (setS l d x)
  | [], n, d, x, h, _ => h
  | s :: l, n, 0, x, h, hx => ⟨hx, h.2⟩
  | s :: l, n, d + 1, x, h, hx => ⟨h.1, below_setS h.2 hx⟩
theorem below_setS1 {l : List SV} {n d nm k : Nat} (h : below.belowL n l) (hx : nm < n) : below.belowL n (setS l d (.osl nm k)) := below_setS h hx
theorem below_setS2 {l : List SV} {n d : Nat} {e : Ty} {xs : List e.D} (h : below.belowL n l) : below.belowL n (setS l d (.slf e xs)) := below_setS h trivial
theorem le1_self (s : SV) : le1 s s := by
  cases s <;> simp [le1]
theorem leS_self : (l : List SV) → leS l l
  | [] => trivial
  | s :: l => ⟨le1_self s, leS_self l⟩
theorem leS_same (l : List SV) : leS l l = True := eq_true (leS_self l)
theorem forget_nilRow (nm : Nat) : (k : Nat) → forgetL nm (nilRow k) = nilRow k
  | 0 => by simp [nilRow, forgetL]
  | k + 1 => by
    have := forget_nilRow nm k
    simp only [nilRow, List.replicate_succ, forgetL, forget] at this ⊢
    rw [this]
theorem forget_setS (nm : Nat) : (l : List SV) → (d : Nat) → (x : SV) → forgetL nm (setS l d x) = setS (forgetL nm l) d (forget nm x)
  | [], d, x => rfl
  | s :: l, 0, x => rfl
  | s :: l, d + 1, x => by simp only [setS, forgetL, forget_setS nm l]

/-! #### the library's atomics and race marks -/
section
variable {P : Program}

theorem relL_put {S : Nat → Prop} {w : World} {ρ : Names} {s : SV} {v : Value} (hs : Rel P S w ρ s v) : (l : List SV) → (cs : List Value) → (off : Nat) → RelL P S w ρ l cs → RelL P S w ρ (setS l off s) (cs.set off v)
  | [], cs, off, h => by simp only [RelL] at h; subst h; simp [setS, RelL]
  | x :: l, cs, off, h => by
    simp only [RelL] at h
    obtain ⟨u, cs', rfl, h1, h2⟩ := h
    cases off with
    | zero => simp only [setS, List.set_cons_zero, RelL]; exact ⟨v, cs', rfl, hs, h2⟩
    | succ off => simp only [setS, List.set_cons_succ, RelL]; exact ⟨u, _, rfl, h1, relL_put hs l cs' off h2⟩

theorem Holds.cellAt {cx : Cx} {σ : St} {a : Act} {w : World} {S : Nat → Prop} {ρ : Names} (h : Holds P cx σ a w S ρ) {nm off : Nat} {l : List SV} {t : TypeId} (hl : getB σ.H nm = .cells l t) (hoff : off < l.length) {b cap : Nat} (hρ : ρ nm = some (some b, cap)) :
    ∃ v, w.cell? ⟨b, off, none⟩ = some v ∧ Rel P S w ρ (Vx.get l off) v ∧ w.frozen? ⟨b, off, none⟩ = false := by
  have hblk := h.good.rel nm
  rw [hl] at hblk
  obtain ⟨b', cap', hb', cs, hh, hrl⟩ := hblk
  rw [hρ] at hb'; cases hb'
  obtain ⟨v, h1, h2⟩ := hrl.get' hoff
  exact ⟨v, by rw [cell_of hh]; exact h1, h2, by simp only [World.frozen?, hh]; simp⟩

theorem Holds.setCell {cx : Cx} {σ : St} {a : Act} {w : World} {S : Nat → Prop} {ρ : Names} (h : Holds P cx σ a w S ρ) {nm off : Nat} {l : List SV} {t : TypeId} (hl : getB σ.H nm = .cells l t) {b cap : Nat} (hρ : ρ nm = some (some b, cap)) {s : SV} {v : Value} (hr : Rel P S w ρ s v) :
    Holds P cx { σ with H := setB σ.H nm (.cells (setS l off s) t) } a (w.setCell ⟨b, off, none⟩ v) S ρ := by
  have hlive : (getB σ.H nm).live = true := by rw [hl]; rfl
  have hblk := h.good.rel nm
  rw [hl] at hblk
  obtain ⟨b', cap', hb', cs, hh, hrl⟩ := hblk
  rw [hρ] at hb'; cases hb'
  refine h.update (w' := w.setCell ⟨b, off, none⟩ v) (blk' := .cells (setS l off s) t) hlive hρ rfl rfl rfl (by simp) (fun k hk => by simp [World.setCell, Array.getElem?_modify, Ne.symm hk]) (fun hf => ?_) (by rw [hl]; rfl)
  refine ⟨b, cap, hρ, cs.set off v, by simp [World.setCell, Array.getElem?_modify, hh], ?_⟩
  exact RelL.fut hf (Keep.refl ρ) _ (relL_put hr l cs off hrl)

def ptr1 (args : List SV) (K : Nat → Nat → Prop) : Prop :=
  match args with
  | [.ptr nm off] => K nm off
  | _ => False
def cellK (H : List Blk) (nm off : Nat) (K : List SV → TypeId → SV → Prop) : Prop :=
  match getB H nm with
  | .cells l t => off < l.length ∧ K l t (Vx.get l off)
  | _ => False
def intK (k : IntKind) (K : Int → Prop) : SV → Prop
  | .int k' n => k' = k ∧ K n
  | _ => False

/-- LoadT. -/
def atLoad (k : IntKind) : WP := fun args H K => ptr1 args fun nm off => cellK H nm off fun l t => intK k fun n => K (.int k n) H
/-- StoreT. -/
def atStore (k : IntKind) : WP := fun args H K =>
  match args with
  | [.ptr nm off, .int k' n] => k' = k ∧ cellK H nm off fun l t => intK k fun _ => K (.tup []) (setB H nm (.cells (setS l off (.int k n)) t))
  | _ => False
/-- CompareAndSwapT. -/
def atCas (k : IntKind) : WP := fun args H K =>
  match args with
  | [.ptr nm off, .int k1 o, .int k2 n] => k1 = k ∧ k2 = k ∧ cellK H nm off fun l t => intK k fun x => (x = o → K (.kb true) (setB H nm (.cells (setS l off (.int k n)) t))) ∧ (¬ x = o → K (.kb false) H)
  | _ => False
/-- AddT. -/
def atAdd (k : IntKind) : WP := fun args H K =>
  match args with
  | [.ptr nm off, .int k' y] => k' = k ∧ cellK H nm off fun l t => intK k fun x => K (.int k (k.wrap (x + y))) (setB H nm (.cells (setS l off (.int k (k.wrap (x + y)))) t))
  | _ => False
def mark0 : WP := fun args H K => args = [] ∧ K (.tup []) H
def mark1 : WP := fun args H K => ptr1 args fun nm off => K (.tup []) H

theorem cellK_some {H : List Blk} {nm off : Nat} {K : List SV → TypeId → SV → Prop} (h : cellK H nm off K) : ∃ l t, getB H nm = .cells l t ∧ off < l.length ∧ K l t (Vx.get l off) := by
  unfold cellK at h
  split at h
  · rename_i l t hl; exact ⟨l, t, hl, h⟩
  · exact h.elim
theorem intK_some {k : IntKind} {K : Int → Prop} {s : SV} (h : intK k K s) : ∃ n, s = .int k n ∧ K n := by
  unfold intK at h
  split at h
  · obtain ⟨rfl, h⟩ := h; exact ⟨_, rfl, h⟩
  · exact h.elim

section
variable {f : FuncId} {fn : Func}
theorem rel_tup0 {S : Nat → Prop} {w : World} {ρ : Names} : Rel P S w ρ (.tup []) (.tuple #[]) := by simp only [Rel]; exact ⟨[], rfl, by simp [RelL]⟩

theorem relL1 {S : Nat → Prop} {w : World} {ρ : Names} {nm off : Nat} {vs : List Value} (h : RelL P S w ρ [.ptr nm off] vs) : ∃ b cap, ρ nm = some (some b, cap) ∧ vs = [.pointer (some ⟨b, off, none⟩)] := by
  simp only [RelL, Rel] at h
  obtain ⟨v, vs', rfl, ⟨b, cap, h1, rfl⟩, rfl⟩ := h
  exact ⟨b, cap, h1, rfl⟩
theorem relL2 {S : Nat → Prop} {w : World} {ρ : Names} {nm off : Nat} {k : IntKind} {n : Int} {vs : List Value} (h : RelL P S w ρ [.ptr nm off, .int k n] vs) : ∃ b cap, ρ nm = some (some b, cap) ∧ vs = [.pointer (some ⟨b, off, none⟩), .int k n] := by
  simp only [RelL, Rel] at h
  obtain ⟨v, vs', rfl, ⟨b, cap, h1, rfl⟩, v2, vs2, rfl, rfl, rfl⟩ := h
  exact ⟨b, cap, h1, rfl⟩
theorem relL3 {S : Nat → Prop} {w : World} {ρ : Names} {nm off : Nat} {k k' : IntKind} {n n' : Int} {vs : List Value} (h : RelL P S w ρ [.ptr nm off, .int k n, .int k' n'] vs) : ∃ b cap, ρ nm = some (some b, cap) ∧ vs = [.pointer (some ⟨b, off, none⟩), .int k n, .int k' n'] := by
  simp only [RelL, Rel] at h
  obtain ⟨v, vs', rfl, ⟨b, cap, h1, rfl⟩, v2, vs2, rfl, rfl, v3, vs3, rfl, rfl, rfl⟩ := h
  exact ⟨b, cap, h1, rfl⟩

theorem mark0_ok (hf : P.funcs[f]? = some fn) (hname : (fn.name == "runtime.NumGoroutine") = false) (hb : fn.body.isNone = true) (hn : Extern.findNext fn = none) (m : Mark)
    (he : Extern.find fn = some (fun _ => do mark m; pure Extern.Race.none_)) : NWOk P f mark0 := by
  intro cx w S ρ H args vs K h hr hk
  obtain ⟨rfl, hk⟩ := hk
  simp only [RelL] at hr
  subst hr
  exact ⟨_, w, .tup [], H, S, ρ, run_call_mark0 hf hname hb hn m he w, rel_tup0, hk, h⟩

theorem mark1_ok (hf : P.funcs[f]? = some fn) (hname : (fn.name == "runtime.NumGoroutine") = false) (hb : fn.body.isNone = true) (hn : Extern.findNext fn = none) (m : Addr → Mark)
    (he : Extern.find fn = some (Extern.Race.marked m)) : NWOk P f mark1 := by
  intro cx w S ρ H args vs K h hr hk
  unfold mark1 ptr1 at hk
  split at hk
  · obtain ⟨b, cap, h1, rfl⟩ := relL1 hr
    exact ⟨_, w, .tup [], H, S, ρ, run_call_marked hf hname hb hn m he _ w, rel_tup0, hk, h⟩
  · exact hk.elim

theorem atLoad_ok (hf : P.funcs[f]? = some fn) (hname : (fn.name == "runtime.NumGoroutine") = false) (hb : fn.body.isNone = true) (hn : Extern.findNext fn = none) (k : IntKind)
    (he : Extern.find fn = some (Extern.Atomic.loadT (.int k))) : NWOk P f (atLoad k) := by
  intro cx w S ρ H args vs K h hr hk
  unfold atLoad ptr1 at hk
  split at hk
  · rename_i nm off
    obtain ⟨b, cap, h1, rfl⟩ := relL1 hr
    obtain ⟨l, t, hl, hoff, hk⟩ := cellK_some hk
    obtain ⟨n, hn1, hk⟩ := intK_some hk
    obtain ⟨v, hc, hv, hz⟩ := h.cellAt hl hoff h1
    rw [hn1] at hv
    simp only [Rel] at hv
    subst hv
    exact ⟨_, w, .int k n, H, S, ρ, run_call_load hf hname hb hn k he hc, by simp [Rel], hk, h⟩
  · exact hk.elim

theorem atStore_ok (hf : P.funcs[f]? = some fn) (hname : (fn.name == "runtime.NumGoroutine") = false) (hb : fn.body.isNone = true) (hn : Extern.findNext fn = none) (k : IntKind)
    (he : Extern.find fn = some Extern.Atomic.storeT) : NWOk P f (atStore k) := by
  intro cx w S ρ H args vs K h hr hk
  unfold atStore at hk
  split at hk
  · rename_i nm off k' n
    obtain ⟨rfl, hk⟩ := hk
    obtain ⟨b, cap, h1, rfl⟩ := relL2 hr
    obtain ⟨l, t, hl, hoff, hk⟩ := cellK_some hk
    obtain ⟨m, hn1, hk⟩ := intK_some hk
    obtain ⟨v, hc, hv, hz⟩ := h.cellAt hl hoff h1
    exact ⟨_, _, .tup [], _, S, ρ, run_call_store hf hname hb hn he hc hz, rel_tup0, hk, h.setCell hl h1 (s := .int k' n) (by simp [Rel])⟩
  · exact hk.elim

theorem atCas_ok (hf : P.funcs[f]? = some fn) (hname : (fn.name == "runtime.NumGoroutine") = false) (hb : fn.body.isNone = true) (hn : Extern.findNext fn = none) (k : IntKind)
    (he : Extern.find fn = some (Extern.Atomic.casT (.int k))) : NWOk P f (atCas k) := by
  intro cx w S ρ H args vs K h hr hk
  unfold atCas at hk
  split at hk
  · rename_i nm off k1 o k2 n
    obtain ⟨rfl, rfl, hk⟩ := hk
    obtain ⟨b, cap, h1, rfl⟩ := relL3 hr
    obtain ⟨l, t, hl, hoff, hk⟩ := cellK_some hk
    obtain ⟨x, hn1, hk⟩ := intK_some hk
    obtain ⟨v, hc, hv, hz⟩ := h.cellAt hl hoff h1
    rw [hn1] at hv
    simp only [Rel] at hv
    subst hv
    by_cases hx : x = o
    · subst hx
      exact ⟨_, _, .kb true, _, S, ρ, run_call_cas_hit hf hname hb hn _ he hc hz, by simp [Rel], hk.1 rfl, h.setCell hl h1 (s := .int _ n) (by simp [Rel])⟩
    · exact ⟨_, _, .kb false, _, S, ρ, run_call_cas_miss hf hname hb hn _ he hc hz hx, by simp [Rel], hk.2 hx, h⟩
  · exact hk.elim

theorem atAdd_ok (hf : P.funcs[f]? = some fn) (hname : (fn.name == "runtime.NumGoroutine") = false) (hb : fn.body.isNone = true) (hn : Extern.findNext fn = none) (k : IntKind)
    (he : Extern.find fn = some (Extern.Atomic.update (Op.intArith .add) k true)) : NWOk P f (atAdd k) := by
  intro cx w S ρ H args vs K h hr hk
  unfold atAdd at hk
  split at hk
  · rename_i nm off k' y
    obtain ⟨rfl, hk⟩ := hk
    obtain ⟨b, cap, h1, rfl⟩ := relL2 hr
    obtain ⟨l, t, hl, hoff, hk⟩ := cellK_some hk
    obtain ⟨x, hn1, hk⟩ := intK_some hk
    obtain ⟨v, hc, hv, hz⟩ := h.cellAt hl hoff h1
    rw [hn1] at hv
    simp only [Rel] at hv
    subst hv
    exact ⟨.int k' (k'.wrap (x + y)), w.setCell ⟨b, off, none⟩ (.int k' (k'.wrap (x + y))), .int k' (k'.wrap (x + y)), _, S, ρ, run_call_add hf hname hb hn k' he (s := k'.wrap (x + y)) hc hz (by simp [Op.intArith]), by simp [Rel], hk, h.setCell hl h1 (s := .int k' (k'.wrap (x + y))) (by simp [Rel])⟩
  · exact hk.elim
end
end
end Go.Vx
