/- A part of a small verifier for the model's programs, proved sound for any program; no condition. -/
import Derived.Test.YtnbicdeehppgpaaGreatDoorVxA
set_option linter.unusedSimpArgs false
set_option linter.unusedVariables false
namespace Go.Vx
open Go

/-- Abstract values. -/
inductive SV where
  | any
  | int (k : IntKind) (n : Int)
  | bool (b : Bool)
  | kb (b : Bool)
  | str (s : List UInt8)
  | sl (e : Ty) (xs : List e.D)
  | nils
  | nil0
  | osl (nm n : Nat)
  | osub (nm sz n i : Nat)
  | mp (nm : Nat)
  | slf (e : Ty) (xs : List e.D)
  | ag (t : Ty) (x : t.D)
  | pp (t : Ty) (x : t.D)
  | ptr (nm off : Nat)
  | eptr (nm : Nat) (e : Ty) (i : Nat)
  | nilp
  | agg (l : List SV)
  | tup (l : List SV)
  | fn (f : FuncId) (caps : List SV)
  | bd (f : FuncId) (first : List SV)
  | f1 (a c : Ty) (F : (a.D → Prop) × (a.D → c.D))
  | f2 (a b c : Ty) (F : (a.D → b.D → Prop) × (a.D → b.D → c.D))
  | nilf
  | ifc (t : TypeId) (v : SV)
  | nili
  | raw (v : Value)

instance : Inhabited SV := ⟨.any⟩

abbrev Names := Nat → Option (Option Nat × Nat)

/-- A slice of an own list's first elements: its row, or no row at all. -/
def OslA (ob : Option Nat) (A : Option Addr) (n cap : Nat) : Prop := match ob with
  | none => n = 0 ∧ cap = 0
  | some b => A = some ⟨b, 0, none⟩

mutual
def Rel (P : Program) (S : Nat → Prop) (w : World) (ρ : Names) : SV → Value → Prop
  | .any, _ => True
  | .int k n, v => v = .int k n
  | .bool b, v => v = .bool b
  | .kb b, v => v = .bool b
  | .str s, v => v = mkStr s
  | .sl e xs, v => Rep P (.slice e) S w xs [v]
  | .nils, v => ∃ A, v = .slice A 0 0
  | .nil0, v => v = .slice none 0 0
  | .osub nm sz n i, v => ∃ ob cap A, ρ nm = some (ob, cap) ∧ v = .slice A (n - i) (cap - i) ∧ i ≤ n ∧ n ≤ cap ∧ (i < n → ∃ b, ob = some b ∧ A = some ⟨b, i * sz, none⟩)
  | .mp nm, v => ∃ b cap, ρ nm = some (some b, cap) ∧ v = .map (some b)
  | .osl nm n, v => ∃ b cap A, ρ nm = some (b, cap) ∧ OslA b A n cap ∧ v = .slice A n cap
  | .slf e xs, v => (∃ A, v = .slice A (List.length xs) (List.length xs)) ∧ Rep P (.slice e) S w xs [v]
  | .ag t x, v => ∃ cs : List Value, v = .agg cs.toArray ∧ Rep P t S w x cs
  | .pp t x, v => Rep P (.ref t) S w x [v]
  | .f1 a c F, v => Rep P (.fn1 a c) S w F [v]
  | .f2 a b c F, v => Rep P (.fn2 a b c) S w F [v]
  | .ptr nm off, v => ∃ b cap, ρ nm = some (some b, cap) ∧ v = .pointer (some ⟨b, off, none⟩)
  | .eptr nm e i, v => ∃ b cap, ρ nm = some (some b, cap) ∧ v = .pointer (some ⟨b, i * e.size, none⟩)
  | .nilp, v => v = .pointer none
  | .agg l, v => ∃ cs : List Value, v = .agg cs.toArray ∧ RelL P S w ρ l cs
  | .tup l, v => ∃ cs : List Value, v = .tuple cs.toArray ∧ RelL P S w ρ l cs
  | .fn f caps, v => ∃ cs : List Value, v = .func (.func f) #[] cs.toArray ∧ RelL P S w ρ caps cs
  | .bd f l, v => ∃ cs : List Value, v = .func (.func f) cs.toArray #[] ∧ RelL P S w ρ l cs
  | .nilf, v => v = .nilFunc
  | .ifc t x, v => ∃ u, v = .iface t u ∧ Rel P S w ρ x u
  | .nili, v => v = .nilIface
  | .raw u, v => v = u
def RelL (P : Program) (S : Nat → Prop) (w : World) (ρ : Names) : List SV → List Value → Prop
  | [], vs => vs = []
  | s :: l, vs => ∃ v vs', vs = v :: vs' ∧ Rel P S w ρ s v ∧ RelL P S w ρ l vs'
end

section
variable {P : Program} {S : Nat → Prop} {w : World} {ρ : Names}

theorem RelL.length : {l : List SV} → {vs : List Value} → RelL P S w ρ l vs → vs.length = l.length
  | [], vs, h => by simp only [RelL] at h; subst h; rfl
  | s :: l, vs, h => by
    simp only [RelL] at h
    obtain ⟨v, vs', rfl, _, h2⟩ := h
    simp [RelL.length h2]

theorem RelL.get : {l : List SV} → {vs : List Value} → RelL P S w ρ l vs → ∀ (i : Nat) (s : SV), l[i]? = some s → ∃ v, vs[i]? = some v ∧ Rel P S w ρ s v
  | [], vs, h, i, s, hi => by simp at hi
  | s0 :: l, vs, h, i, s, hi => by
    simp only [RelL] at h
    obtain ⟨v, vs', rfl, h1, h2⟩ := h
    cases i with
    | zero => simp at hi; subst hi; exact ⟨v, by simp, h1⟩
    | succ i => simpa using RelL.get h2 i s (by simpa using hi)

theorem RelL.of_get : {l : List SV} → {vs : List Value} → vs.length = l.length → (∀ (i : Nat) (s : SV) (v : Value), l[i]? = some s → vs[i]? = some v → Rel P S w ρ s v) → RelL P S w ρ l vs
  | [], vs, hl, h => by simp only [RelL]; exact List.length_eq_zero_iff.1 (by simpa using hl)
  | s :: l, vs, hl, h => by
    cases vs with
    | nil => simp at hl
    | cons v vs =>
      simp only [RelL]
      exact ⟨v, vs, rfl, h 0 s v (by simp) (by simp), RelL.of_get (by simpa using hl) fun i s v h1 h2 => h (i + 1) s v (by simpa using h1) (by simpa using h2)⟩

theorem RelL.append : {l1 : List SV} → {v1 : List Value} → {l2 : List SV} → {v2 : List Value} → RelL P S w ρ l1 v1 → RelL P S w ρ l2 v2 → RelL P S w ρ (l1 ++ l2) (v1 ++ v2)
  | [], v1, l2, v2, h1, h2 => by simp only [RelL] at h1; subst h1; simpa using h2
  | s :: l, v1, l2, v2, h1, h2 => by
    simp only [RelL] at h1
    obtain ⟨v, vs', rfl, h1, h3⟩ := h1
    simp only [List.cons_append, RelL]
    exact ⟨v, _, rfl, h1, RelL.append h3 h2⟩

theorem RelL.take_drop {l : List SV} {vs : List Value} (h : RelL P S w ρ l vs) (n : Nat) : RelL P S w ρ (l.take n) (vs.take n) ∧ RelL P S w ρ (l.drop n) (vs.drop n) := by
  induction n generalizing l vs with
  | zero => exact ⟨by simp [RelL], by simpa using h⟩
  | succ n ih =>
    cases l with
    | nil => simp only [RelL] at h; subst h; simp [RelL]
    | cons s l =>
      simp only [RelL] at h
      obtain ⟨v, vs', rfl, h1, h2⟩ := h
      obtain ⟨i1, i2⟩ := ih h2
      exact ⟨by simp only [List.take_succ_cons, RelL]; exact ⟨v, _, rfl, h1, i1⟩, by simpa using i2⟩
end

/-- Names that are kept. -/
def Keep (ρ ρ' : Names) : Prop := ∀ nm x, ρ nm = some x → ρ' nm = some x

theorem Keep.refl (ρ : Names) : Keep ρ ρ := fun _ _ h => h
theorem Keep.trans {a b c : Names} (h : Keep a b) (h' : Keep b c) : Keep a c := fun nm x e => h' nm x (h nm x e)

mutual
/-- What a value is stays so when the persistent part grows and names are kept. -/
theorem Rel.fut {P : Program} {S S' : Nat → Prop} {w w' : World} {ρ ρ' : Names} (hf : Fut S w S' w') (hk : Keep ρ ρ') : (s : SV) → {v : Value} → Rel P S w ρ s v → Rel P S' w' ρ' s v
  | .any, v, h => by simp only [Rel]
  | .int k n, v, h => by simpa only [Rel] using h
  | .bool b, v, h => by simpa only [Rel] using h
  | .kb b, v, h => by simpa only [Rel] using h
  | .str s, v, h => by simpa only [Rel] using h
  | .sl e xs, v, h => by simp only [Rel] at h ⊢; exact Rep.fut hf _ h
  | .nils, v, h => by simpa only [Rel] using h
  | .mp nm, v, h => by simp only [Rel] at h ⊢; obtain ⟨b, cap, h1, h2⟩ := h; exact ⟨b, cap, hk _ _ h1, h2⟩
  | .osl nm n, v, h => by simp only [Rel] at h ⊢; obtain ⟨b, cap, A, h1, h2, h3⟩ := h; exact ⟨b, cap, A, hk _ _ h1, h2, h3⟩
  | .slf e xs, v, h => by simp only [Rel] at h ⊢; exact ⟨h.1, Rep.fut hf _ h.2⟩
  | .ag t x, v, h => by simp only [Rel] at h ⊢; obtain ⟨cs, h1, h2⟩ := h; exact ⟨cs, h1, Rep.fut hf _ h2⟩
  | .pp t x, v, h => by simp only [Rel] at h ⊢; exact Rep.fut hf _ h
  | .f1 a c F, v, h => by simp only [Rel] at h ⊢; exact Rep.fut hf _ h
  | .f2 a b c F, v, h => by simp only [Rel] at h ⊢; exact Rep.fut hf _ h
  | .ptr nm off, v, h => by simp only [Rel] at h ⊢; obtain ⟨b, cap, h1, h2⟩ := h; exact ⟨b, cap, hk _ _ h1, h2⟩
  | .eptr nm e i, v, h => by simp only [Rel] at h ⊢; obtain ⟨b, cap, h1, h2⟩ := h; exact ⟨b, cap, hk _ _ h1, h2⟩
  | .nilp, v, h => by simpa only [Rel] using h
  | .agg l, v, h => by
    simp only [Rel] at h ⊢
    obtain ⟨cs, e, h⟩ := h
    exact ⟨cs, e, RelL.fut hf hk l h⟩
  | .tup l, v, h => by
    simp only [Rel] at h ⊢
    obtain ⟨cs, e, h⟩ := h
    exact ⟨cs, e, RelL.fut hf hk l h⟩
  | .fn f l, v, h => by
    simp only [Rel] at h ⊢
    obtain ⟨cs, e, h⟩ := h
    exact ⟨cs, e, RelL.fut hf hk l h⟩
  | .bd f l, v, h => by
    simp only [Rel] at h ⊢
    obtain ⟨cs, e, h⟩ := h
    exact ⟨cs, e, RelL.fut hf hk l h⟩
  | .nil0, v, h => by simpa only [Rel] using h
  | .osub nm sz n i, v, h => by simp only [Rel] at h ⊢; obtain ⟨ob, cap, A, h1, h2⟩ := h; exact ⟨ob, cap, A, hk _ _ h1, h2⟩
  | .nilf, v, h => by simpa only [Rel] using h
  | .ifc t x, v, h => by
    simp only [Rel] at h ⊢
    obtain ⟨u, e, h⟩ := h
    exact ⟨u, e, Rel.fut hf hk x h⟩
  | .nili, v, h => by simpa only [Rel] using h
  | .raw u, v, h => by simpa only [Rel] using h
theorem RelL.fut {P : Program} {S S' : Nat → Prop} {w w' : World} {ρ ρ' : Names} (hf : Fut S w S' w') (hk : Keep ρ ρ') : (l : List SV) → {vs : List Value} → RelL P S w ρ l vs → RelL P S' w' ρ' l vs
  | [], vs, h => by simpa only [RelL] using h
  | s :: l, vs, h => by
    simp only [RelL] at h ⊢
    obtain ⟨v, vs', e, h1, h2⟩ := h
    exact ⟨v, vs', e, Rel.fut hf hk s h1, RelL.fut hf hk l h2⟩
end

/-- A map's key. -/
inductive MK where
  | s (l : List UInt8)
  | i (k : IntKind) (n : Int)
  deriving DecidableEq

def keyV : MK → Value
  | .s l => mkStr l
  | .i k n => .int k n

def mkOk (d : TypeDesc) : MK → Bool
  | .s _ => match d with
    | .string => true
    | _ => false
  | .i k _ => match d with
    | .int k' => decide (k = k')
    | _ => false

/-- What is known of a block. -/
inductive Blk where
  | gone
  | mp (d : TypeDesc) (e : Ty) (m : List (MK × e.D))
  | cells (l : List SV) (t : TypeId)
  | own (e : Ty) (xs : List e.D) (t : TypeId)
  | iter (s : List UInt8) (pos : Nat)
  | frame (l : List SV) (vs : List Value)

instance : Inhabited Blk := ⟨.gone⟩

def Blk.live : Blk → Bool
  | .gone => false
  | .frame _ _ => false
  | _ => true

def MapRel (P : Program) (S : Nat → Prop) (w : World) (d : TypeDesc) (e : Ty) : List (MK × e.D) → List MapEntry → Prop
  | [], es => es = []
  | x :: m, es => ∃ y es', es = y :: es' ∧ y.key = keyV x.1 ∧ mkOk d x.1 = true ∧ RepV P e S w x.2 y.val ∧ MapRel P S w d e m es'

theorem MapRel.fut {P : Program} {S S' : Nat → Prop} {w w' : World} (hf : Fut S w S' w') {d : TypeDesc} {e : Ty} : (m : List (MK × e.D)) → {es : List MapEntry} → MapRel P S w d e m es → MapRel P S' w' d e m es
  | [], es, h => h
  | x :: m, es, h => by
    obtain ⟨y, es', h1, h2, h3, h4, h5⟩ := h
    exact ⟨y, es', h1, h2, h3, RepV.fut hf h4, MapRel.fut hf m h5⟩

def BlkRel (P : Program) (S : Nat → Prop) (w : World) (ρ : Names) (nm : Nat) : Blk → Prop
  | .gone => True
  | .cells l t => ∃ b cap, ρ nm = some (some b, cap) ∧ ∃ cs : List Value, w.heap[b]? = some (.cells cs.toArray t (0, 0)) ∧ RelL P S w ρ l cs
  | .own e xs t => ∃ ob cap, ρ nm = some (ob, cap) ∧ List.length xs ≤ cap ∧ match ob with
    | none => cap = 0
    | some b => ∃ (cs : List Value) (fr : Nat × Nat), w.heap[b]? = some (.cells cs.toArray t fr) ∧ (fr.1 = fr.2 ∨ cs.length ≤ fr.1) ∧ cs.length = cap * e.size ∧
        ∀ i x, xs[i]? = some x → ∃ c, Rep P e S w x c ∧ c.length = e.size ∧ ∀ j v, c[j]? = some v → cs[i * e.size + j]? = some v
  | .mp d e m => ∃ b cap, ρ nm = some (some b, cap) ∧ ∃ (es : List MapEntry) (clock : Nat), w.heap[b]? = some (.map es.toArray clock) ∧ MapRel P S w d e m es
  | .iter s pos => ∃ b cap, ρ nm = some (some b, cap) ∧ w.heap[b]? = some (.stringIter ⟨s.toArray⟩ pos)
  | .frame l vs => RelL P S w ρ l vs

/-- The persistent part lies in the heap; each block of h is what it is said to be, and the call's own alone. -/
structure Good (P : Program) (S : Nat → Prop) (ρ : Names) (h : Nat → Blk) (w : World) : Prop where
  bounded : Bounded S w
  rel : ∀ nm, BlkRel P S w ρ nm (h nm)
  apart : ∀ nm b cap, (h nm).live = true → ρ nm = some (some b, cap) → ¬ S b ∧ b < w.heap.size
  inj : ∀ nm nm' b cap cap', (h nm).live = true → (h nm').live = true → ρ nm = some (some b, cap) → ρ nm' = some (some b, cap') → nm = nm'

/-- The block nm reads so still, where its content has not moved. -/
theorem BlkRel.keep {P : Program} {S S' : Nat → Prop} {w w' : World} {ρ ρ' : Names} (hf : Fut S w S' w') (hk : Keep ρ ρ') {nm : Nat} {blk : Blk}
    (hb : ∀ b cap, ρ nm = some (some b, cap) → w'.heap[b]? = w.heap[b]?) (h : BlkRel P S w ρ nm blk) : BlkRel P S' w' ρ' nm blk := by
  cases blk with
  | gone => trivial
  | cells l t =>
    obtain ⟨b, cap, h1, cs, h2, h3⟩ := h
    exact ⟨b, cap, hk _ _ h1, cs, by rw [hb b cap h1]; exact h2, RelL.fut hf hk l h3⟩
  | own e xs t =>
    obtain ⟨ob, cap, h1, h2, h3⟩ := h
    refine ⟨ob, cap, hk _ _ h1, h2, ?_⟩
    cases ob with
    | none => exact h3
    | some b =>
      obtain ⟨cs, fr, h4, h5, h6, h7⟩ := h3
      refine ⟨cs, fr, by rw [hb b cap h1]; exact h4, h5, h6, fun i x hx => ?_⟩
      obtain ⟨c, r, hl, hc⟩ := h7 i x hx
      exact ⟨c, Rep.fut hf e r, hl, hc⟩
  | mp d e m =>
    obtain ⟨b, cap, h1, es, clock, h2, h3⟩ := h
    exact ⟨b, cap, hk _ _ h1, es, clock, by rw [hb b cap h1]; exact h2, h3.fut hf⟩
  | iter s pos =>
    obtain ⟨b, cap, h1, h2⟩ := h
    exact ⟨b, cap, hk _ _ h1, by rw [hb b cap h1]; exact h2⟩
  | frame l vs => exact RelL.fut hf hk l h

def upd (h : Nat → Blk) (nm : Nat) (blk : Blk) : Nat → Blk := fun k => if k = nm then blk else h k

/-- Behind an operation that touches nothing old and may lay one new block, named nm. -/
structure QPost (P : Program) (S : Nat → Prop) (w : World) (ρ : Names) (nm : Nat) (new : Option Blk) (S' : Nat → Prop) (w' : World) (ρ' : Names) : Prop where
  ext : Ext S w S' w'
  keep : Keep ρ ρ'
  others : ∀ k, k ≠ nm → ρ' k = ρ k
  none_ : new = none → ρ' nm = ρ nm
  new_ : ∀ blk, new = some blk → BlkRel P S' w' ρ' nm blk ∧ ∀ b cap, ρ' nm = some (some b, cap) → w.heap.size ≤ b ∧ b < w'.heap.size ∧ ¬ S' b

theorem QPost.same {P : Program} {S : Nat → Prop} {w : World} {ρ : Names} (nm : Nat) (hb : Bounded S w) : QPost P S w ρ nm none S w ρ :=
  ⟨Ext.refl hb, Keep.refl ρ, fun _ _ => rfl, fun _ => rfl, fun _ h => by cases h⟩

theorem Good.step {P : Program} {S S' : Nat → Prop} {w w' : World} {ρ ρ' : Names} {nm : Nat} {new : Option Blk} {h : Nat → Blk} (hg : Good P S ρ h w) (hq : QPost P S w ρ nm new S' w' ρ')
    (hn : h nm = .gone) : Good P S' ρ' (upd h nm (new.getD .gone)) w' := by
  have hfut := hq.ext.fut hg.bounded
  have old : ∀ k, k ≠ nm → (h k).live = true → ∀ b cap, ρ' k = some (some b, cap) → ¬ S' b ∧ b < w.heap.size := by
    intro k hk hl b cap hr
    rw [hq.others k hk] at hr
    obtain ⟨h1, h2⟩ := hg.apart k b cap hl hr
    exact ⟨fun h3 => (hq.ext.fresh b h3).elim h1 (fun h4 => by omega), h2⟩
  have fresh : ∀ blk, new = some blk → ∀ b cap, ρ' nm = some (some b, cap) → w.heap.size ≤ b ∧ b < w'.heap.size ∧ ¬ S' b := fun blk he => (hq.new_ blk he).2
  refine ⟨hg.bounded.ext hq.ext, fun k => ?_, fun k b cap hl hr => ?_, fun k k' b cap cap' hl hl' hr hr' => ?_⟩
  · by_cases hk : k = nm
    · subst hk
      simp only [upd, if_true]
      cases hnew : new with
      | none => simp [BlkRel]
      | some blk => simpa using (hq.new_ blk hnew).1
    · simp only [upd, if_neg hk]
      by_cases hl : (h k).live = true
      · exact (hg.rel k).keep hfut hq.keep fun b cap hr => hq.ext.old b (hg.apart k b cap hl hr).2
      · cases hh : h k with
        | gone => simp [BlkRel]
        | frame l vs =>
          have hrel := hg.rel k
          rw [hh] at hrel
          exact RelL.fut hfut hq.keep l hrel
        | _ => simp [hh, Blk.live] at hl
  · by_cases hk : k = nm
    · subst hk
      cases hnew : new with
      | none => simp [upd, hnew, Blk.live] at hl
      | some blk => obtain ⟨_, h2, h3⟩ := fresh blk hnew b cap hr; exact ⟨h3, h2⟩
    · simp only [upd, if_neg hk] at hl
      obtain ⟨h1, h2⟩ := old k hk hl b cap hr
      exact ⟨h1, Nat.lt_of_lt_of_le h2 hq.ext.size⟩
  · by_cases hk : k = nm <;> by_cases hk' : k' = nm
    · rw [hk, hk']
    · subst hk
      simp only [upd, if_neg hk'] at hl'
      cases hnew : new with
      | none => simp [upd, hnew, Blk.live] at hl
      | some blk =>
        have h1 := (fresh blk hnew b cap hr).1
        have h2 := (old k' hk' hl' b cap' hr').2
        omega
    · subst hk'
      simp only [upd, if_neg hk] at hl
      cases hnew : new with
      | none => simp [upd, hnew, Blk.live] at hl'
      | some blk =>
        have h1 := (fresh blk hnew b cap' hr').1
        have h2 := (old k hk hl b cap hr).2
        omega
    · simp only [upd, if_neg hk, if_neg hk'] at hl hl'
      rw [hq.others k hk] at hr
      rw [hq.others k' hk'] at hr'
      exact hg.inj k k' b cap cap' hl hl' hr hr'

end Go.Vx
