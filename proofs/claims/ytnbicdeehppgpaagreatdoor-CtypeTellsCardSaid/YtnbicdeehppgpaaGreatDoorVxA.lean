/- A part of a small verifier for the model's programs, proved sound for any program; no condition. -/
import Derived.Test.YtnbicdeehppgpaaGreatDoorGl
import Derived.Calls
import Derived.Orders
import Derived.KernelRfl
import Derived.Laws.Sem
set_option linter.unusedSimpArgs false
set_option linter.unusedVariables false
namespace Go.Vx
open Go

/-- Trees of structs: a struct whose last field is a slice of its own type. -/
inductive Tree (α : Type) where
  | node (a : α) (kids : List (Tree α))

/-- Types of persistent data. -/
inductive Ty where
  | int (k : IntKind)
  | bool
  | str
  | nilS
  | opq
  | pair (a b : Ty)
  | slice (e : Ty)
  | tree (a : Ty)
  | ref (a : Ty)
  | fn1 (a c : Ty)
  | fn2 (a b c : Ty)
  | arr (e : Ty) (n : Nat)
  deriving DecidableEq

@[reducible] def Ty.D : Ty → Type
  | .int _ => Int
  | .bool => Bool
  | .str => List UInt8
  | .nilS => Unit
  | .opq => Unit
  | .pair a b => a.D × b.D
  | .slice e => List e.D
  | .tree a => Tree a.D
  | .ref a => a.D
  | .fn1 a c => (a.D → Prop) × (a.D → c.D)
  | .fn2 a b c => (a.D → b.D → Prop) × (a.D → b.D → c.D)
  | .arr e _ => List e.D

def Ty.size : Ty → Nat
  | .pair a b => a.size + b.size
  | .tree a => a.size + 1
  | .arr e n => n * e.size
  | _ => 1

def Ty.isAgg : Ty → Bool
  | .pair _ _ => true
  | .tree _ => true
  | .arr _ _ => true
  | _ => false

def Ty.dflt : (t : Ty) → t.D
  | .int _ => (0 : Int)
  | .bool => false
  | .str => ([] : List UInt8)
  | .nilS => ()
  | .opq => ()
  | .pair a b => (a.dflt, b.dflt)
  | .slice e => ([] : List e.D)
  | .tree a => .node a.dflt []
  | .ref a => a.dflt
  | .fn1 _ c => (fun _ => False, fun _ => c.dflt)
  | .fn2 _ _ c => (fun _ _ => False, fun _ _ => c.dflt)
  | .arr e n => List.replicate n e.dflt

instance (t : Ty) : Inhabited t.D := ⟨t.dflt⟩

/-- Its values hold no address. -/
def Ty.scal : Ty → Bool
  | .int _ => true
  | .bool => true
  | .str => true
  | .nilS => true
  | .opq => true
  | .pair a b => a.scal && b.scal
  | .arr e _ => e.scal
  | _ => false

def mkStr (s : List UInt8) : Value := .string ⟨s.toArray⟩

/-- The cells c lie at ad, off cells behind it. -/
def AtCells (w : World) (ad : Addr) (off : Nat) (c : List Value) : Prop :=
  ∀ j v, c[j]? = some v → w.cell? ⟨ad.block, ad.off + off + j, none⟩ = some v

/-- A slice value at A, of capacity cap, reads as xs, in persistent memory. -/
structure SlAt {α : Type} (R : α → List Value → Prop) (sz : Nat) (S : Nat → Prop) (w : World) (A : Option Addr) (cap : Nat) (xs : List α) : Prop where
  le : xs.length ≤ cap
  at_ : xs ≠ [] → ∃ ad, A = some ad ∧ ad.spot = none ∧ S ad.block ∧ ∀ i x, xs[i]? = some x → ∃ c, R x c ∧ c.length = sz ∧ AtCells w ad (i * sz) c

mutual
def TreeRep {α : Type} (R : α → List Value → Prop) (sz : Nat) (S : Nat → Prop) (w : World) : Tree α → List Value → Prop
  | .node a kids, cs => ∃ c1 A cap, cs = c1 ++ [.slice A kids.length cap] ∧ R a c1 ∧ kids.length ≤ cap ∧ (kids ≠ [] → ∃ ad, A = some ad ∧ ad.spot = none ∧ S ad.block ∧ KidsRep R sz S w ad 0 kids)
def KidsRep {α : Type} (R : α → List Value → Prop) (sz : Nat) (S : Nat → Prop) (w : World) (ad : Addr) : Nat → List (Tree α) → Prop
  | _, [] => True
  | i, k :: ks => (∃ c, TreeRep R sz S w k c ∧ c.length = sz ∧ AtCells w ad (i * sz) c) ∧ KidsRep R sz S w ad (i + 1) ks
end

theorem kidsRep_iff {α : Type} {R : α → List Value → Prop} {sz : Nat} {S : Nat → Prop} {w : World} {ad : Addr} (ks : List (Tree α)) :
    ∀ i, KidsRep R sz S w ad i ks ↔ ∀ j x, ks[j]? = some x → ∃ c, TreeRep R sz S w x c ∧ c.length = sz ∧ AtCells w ad ((i + j) * sz) c := by
  induction ks with
  | nil => intro i; simp [KidsRep]
  | cons k ks ih =>
    intro i
    simp only [KidsRep, ih]
    constructor
    · rintro ⟨h0, h⟩ j x hj
      cases j with
      | zero => simp at hj; subst hj; simpa using h0
      | succ j => have := h j x (by simpa using hj); rwa [show i + 1 + j = i + (j + 1) from by omega] at this
    · intro h
      refine ⟨by simpa using h 0 k (by simp), fun j x hj => ?_⟩
      have := h (j + 1) x (by simpa using hj)
      rwa [show i + (j + 1) = i + 1 + j from by omega] at this

theorem treeRep_iff {α : Type} {R : α → List Value → Prop} {sz : Nat} {S : Nat → Prop} {w : World} {a : α} {kids : List (Tree α)} {cs : List Value} :
    TreeRep R sz S w (.node a kids) cs ↔ ∃ c1 A cap, cs = c1 ++ [.slice A kids.length cap] ∧ R a c1 ∧ SlAt (TreeRep R sz S w) sz S w A cap kids := by
  simp only [TreeRep, kidsRep_iff]
  constructor
  · rintro ⟨c1, A, cap, h1, h2, h3, h4⟩
    exact ⟨c1, A, cap, h1, h2, ⟨h3, fun hne => by
      obtain ⟨ad, e1, e2, e3, e4⟩ := h4 hne
      exact ⟨ad, e1, e2, e3, fun i x hx => by simpa using e4 i x hx⟩⟩⟩
  · rintro ⟨c1, A, cap, h1, h2, h3⟩
    exact ⟨c1, A, cap, h1, h2, h3.le, fun hne => by
      obtain ⟨ad, e1, e2, e3, e4⟩ := h3.at_ hne
      exact ⟨ad, e1, e2, e3, fun i x hx => by simpa using e4 i x hx⟩⟩

/-- The persistent blocks of w are there, unchanged, in w'. -/
structure Fut (S : Nat → Prop) (w : World) (S' : Nat → Prop) (w' : World) : Prop where
  sub : ∀ k, S k → S' k
  same : ∀ k, S k → w'.heap[k]? = w.heap[k]?

theorem Fut.refl (S : Nat → Prop) (w : World) : Fut S w S w := ⟨fun _ h => h, fun _ _ => rfl⟩
theorem Fut.trans {S S' S'' : Nat → Prop} {w w' w'' : World} (h : Fut S w S' w') (h' : Fut S' w' S'' w'') : Fut S w S'' w'' :=
  ⟨fun k hk => h'.sub k (h.sub k hk), fun k hk => (h'.same k (h.sub k hk)).trans (h.same k hk)⟩

/-- What a call that touches nothing old does to the world. -/
structure Ext (S : Nat → Prop) (w : World) (S' : Nat → Prop) (w' : World) : Prop where
  sub : ∀ k, S k → S' k
  size : w.heap.size ≤ w'.heap.size
  old : ∀ k, k < w.heap.size → w'.heap[k]? = w.heap[k]?
  os : w'.os = w.os
  tape : w'.tape = w.tape
  output : w'.output = w.output
  fresh : ∀ k, S' k → S k ∨ w.heap.size ≤ k
  bound : ∀ k, S' k → k < w'.heap.size

/-- The persistent part lies in the heap; the library's tables are among it. -/
structure Bounded (S : Nat → Prop) (w : World) : Prop where
  lt : ∀ k, S k → k < w.heap.size
  glob : ∀ g cs, glTab g = some cs → S g ∧ AtCells w ⟨g, 0, none⟩ 0 cs
  whole : ∀ g cs, glWhole g = some cs → S g ∧ ∃ t fr, w.heap[g]? = some (.cells cs.toArray t fr)
  errs : ∀ g, glErr g = true → S g ∧ ∃ v, AtCells w ⟨g, 0, none⟩ 0 [v] ∧ (v = .nilIface ∨ ∃ te pe, v = .iface te pe)

theorem Ext.refl {S : Nat → Prop} {w : World} (h : Bounded S w) : Ext S w S w :=
  ⟨fun _ h => h, Nat.le_refl _, fun _ _ => rfl, rfl, rfl, rfl, fun _ h => .inl h, h.lt⟩
theorem Ext.trans {S S' S'' : Nat → Prop} {w w' w'' : World} (h : Ext S w S' w') (h' : Ext S' w' S'' w'') : Ext S w S'' w'' :=
  ⟨fun k hk => h'.sub k (h.sub k hk), Nat.le_trans h.size h'.size, fun k hk => (h'.old k (Nat.lt_of_lt_of_le hk h.size)).trans (h.old k hk),
   h'.os.trans h.os, h'.tape.trans h.tape, h'.output.trans h.output,
   fun k hk => (h'.fresh k hk).elim (fun h1 => h.fresh k h1) (fun h1 => .inr (Nat.le_trans h.size h1)), h'.bound⟩
theorem Ext.fut {S S' : Nat → Prop} {w w' : World} (hb : Bounded S w) (h : Ext S w S' w') : Fut S w S' w' := ⟨h.sub, fun k hk => h.old k (hb.lt k hk)⟩

def valueOf (t : Ty) (R : List Value → Prop) (v : Value) : Prop :=
  if t.isAgg then ∃ cs : List Value, v = .agg cs.toArray ∧ R cs else R [v]

/-- A function that is entered when it is called: it has a body. -/
def Enters (P : Program) (f : FuncId) : Prop := ∃ fn, P.funcs[f]? = some fn ∧ fn.body.isSome = true ∧ (fn.name == "runtime.NumGoroutine") = false

/-- The cells of a persistent datum. -/
def Rep (P : Program) : (t : Ty) → (Nat → Prop) → World → t.D → List Value → Prop
  | .int k, _, _, n, cs => cs = [.int k n]
  | .bool, _, _, b, cs => cs = [.bool b]
  | .str, _, _, s, cs => cs = [mkStr s]
  | .nilS, _, _, _, cs => ∃ A, cs = [.slice A 0 0]
  | .opq, _, _, _, cs => ∃ v, cs = [v] ∧ v.oneCell' = true
  | .pair a b, S, w, x, cs => ∃ c1 c2, cs = c1 ++ c2 ∧ Rep P a S w x.1 c1 ∧ Rep P b S w x.2 c2
  | .slice e, S, w, xs, cs => ∃ A cap, cs = [.slice A (List.length xs) cap] ∧ SlAt (Rep P e S w) e.size S w A cap xs
  | .tree a, S, w, x, cs => TreeRep (Rep P a S w) (a.size + 1) S w x cs
  | .ref a, S, w, x, cs => ∃ ad c, cs = [.pointer (some ad)] ∧ ad.spot = none ∧ S ad.block ∧ Rep P a S w x c ∧ AtCells w ad 0 c
  | .fn1 a c, S, w, F, cs => ∃ f caps, cs = [.func (.func f) #[] caps] ∧ Enters P f ∧ ∀ S' w', Fut S w S' w' → Bounded S' w' → ∀ x v, F.1 x → valueOf a (Rep P a S' w' x) v →
      Calls P f (#[v] ++ caps) w' fun e w'' => ∃ S'' r, e = .returned r ∧ valueOf c (Rep P c S'' w'' (F.2 x)) r ∧ Ext S' w' S'' w''
  | .fn2 a b c, S, w, F, cs => ∃ f caps, cs = [.func (.func f) #[] caps] ∧ Enters P f ∧ ∀ S' w', Fut S w S' w' → Bounded S' w' → ∀ x v y u, F.1 x y → valueOf a (Rep P a S' w' x) v → valueOf b (Rep P b S' w' y) u →
      Calls P f (#[v, u] ++ caps) w' fun e w'' => ∃ S'' r, e = .returned r ∧ valueOf c (Rep P c S'' w'' (F.2 x y)) r ∧ Ext S' w' S'' w''
  | .arr e n, S, w, xs, cs => List.length xs = n ∧ cs.length = n * e.size ∧ ∀ i x, xs[i]? = some x → ∃ c, Rep P e S w x c ∧ c.length = e.size ∧ ∀ j v, c[j]? = some v → cs[i * e.size + j]? = some v

theorem Rep.length {P : Program} {S : Nat → Prop} {w : World} : (t : Ty) → {x : t.D} → {cs : List Value} → Rep P t S w x cs → cs.length = t.size
  | .int k, n, cs, h => by simp only [Rep] at h; subst h; rfl
  | .bool, b, cs, h => by simp only [Rep] at h; subst h; rfl
  | .str, s, cs, h => by simp only [Rep] at h; subst h; rfl
  | .nilS, s, cs, h => by simp only [Rep] at h; obtain ⟨A, rfl⟩ := h; rfl
  | .opq, s, cs, h => by simp only [Rep] at h; obtain ⟨v, rfl, _⟩ := h; rfl
  | .pair a b, x, cs, h => by
    obtain ⟨c1, c2, rfl, h1, h2⟩ := h
    simp [Ty.size, Rep.length a h1, Rep.length b h2]
  | .slice e, xs, cs, h => by obtain ⟨A, cap, rfl, _⟩ := h; rfl
  | .tree a, .node x kids, cs, h => by
    obtain ⟨c1, A, cap, rfl, h1, _⟩ := treeRep_iff.1 h
    simp [Ty.size, Rep.length a h1]
  | .ref a, x, cs, h => by obtain ⟨ad, c, rfl, _⟩ := h; rfl
  | .fn1 a c, F, cs, h => by obtain ⟨f, caps, rfl, _⟩ := h; rfl
  | .fn2 a b c, F, cs, h => by obtain ⟨f, caps, rfl, _⟩ := h; rfl
  | .arr e n, xs, cs, h => h.2.1

theorem cell_of_block {w w' : World} {a : Addr} (h : w'.heap[a.block]? = w.heap[a.block]?) : w'.cell? a = w.cell? a := by
  simp [World.cell?, h]

theorem AtCells.fut {S S' : Nat → Prop} {w w' : World} (hf : Fut S w S' w') {ad : Addr} (hS : S ad.block) {off : Nat} {c : List Value} (h : AtCells w ad off c) : AtCells w' ad off c :=
  fun j v hj => (cell_of_block (a := ⟨ad.block, ad.off + off + j, none⟩) (hf.same _ hS)).trans (h j v hj)

theorem SlAt.fut {α : Type} {R R' : α → List Value → Prop} {sz : Nat} {S S' : Nat → Prop} {w w' : World} (hf : Fut S w S' w') {A : Option Addr} {cap : Nat} {xs : List α}
    (hR : ∀ (i : Nat) (x : α) (c : List Value), xs[i]? = some x → R x c → R' x c) (h : SlAt R sz S w A cap xs) : SlAt R' sz S' w' A cap xs :=
  ⟨h.le, fun hne => by
    obtain ⟨ad, e1, e2, e3, e4⟩ := h.at_ hne
    exact ⟨ad, e1, e2, hf.sub _ e3, fun i x hx => by
      obtain ⟨c, r, l, at_⟩ := e4 i x hx
      exact ⟨c, hR i x c hx r, l, at_.fut hf e3⟩⟩⟩

theorem TreeRep.fut {α : Type} {R R' : α → List Value → Prop} {sz : Nat} {S S' : Nat → Prop} {w w' : World} (hf : Fut S w S' w') (hR : ∀ x c, R x c → R' x c) :
    (x : Tree α) → {cs : List Value} → TreeRep R sz S w x cs → TreeRep R' sz S' w' x cs
  | .node a kids, cs, h => by
    rw [treeRep_iff] at h ⊢
    obtain ⟨c1, A, cap, h1, h2, h3⟩ := h
    refine ⟨c1, A, cap, h1, hR _ _ h2, h3.fut hf fun i x c hx hr => ?_⟩
    have : x ∈ kids := List.mem_of_getElem? hx
    exact TreeRep.fut hf hR x hr

theorem Rep.fut {P : Program} {S S' : Nat → Prop} {w w' : World} (hf : Fut S w S' w') : (t : Ty) → {x : t.D} → {cs : List Value} → Rep P t S w x cs → Rep P t S' w' x cs
  | .int k, n, cs, h => h
  | .bool, b, cs, h => h
  | .str, s, cs, h => h
  | .nilS, s, cs, h => h
  | .opq, s, cs, h => h
  | .pair a b, x, cs, h => by
    obtain ⟨c1, c2, e, h1, h2⟩ := h
    exact ⟨c1, c2, e, Rep.fut hf a h1, Rep.fut hf b h2⟩
  | .slice e, xs, cs, h => by
    obtain ⟨A, cap, e1, h1⟩ := h
    exact ⟨A, cap, e1, h1.fut hf fun _ _ _ _ => Rep.fut hf e⟩
  | .tree a, x, cs, h => TreeRep.fut hf (fun _ _ => Rep.fut hf a) x h
  | .ref a, x, cs, h => by
    obtain ⟨ad, c, e, h1, h2, h3, h4⟩ := h
    exact ⟨ad, c, e, h1, hf.sub _ h2, Rep.fut hf a h3, h4.fut hf h2⟩
  | .fn1 a c, F, cs, h => by
    obtain ⟨f, caps, e, h0, h1⟩ := h
    exact ⟨f, caps, e, h0, fun S2 w2 hf2 => h1 S2 w2 (hf.trans hf2)⟩
  | .fn2 a b c, F, cs, h => by
    obtain ⟨f, caps, e, h0, h1⟩ := h
    exact ⟨f, caps, e, h0, fun S2 w2 hf2 => h1 S2 w2 (hf.trans hf2)⟩
  | .arr e n, xs, cs, h => by
    obtain ⟨h1, h2, h3⟩ := h
    refine ⟨h1, h2, fun i x hx => ?_⟩
    obtain ⟨c, r, g⟩ := h3 i x hx
    exact ⟨c, Rep.fut hf e r, g⟩

theorem Bounded.ext {S S' : Nat → Prop} {w w' : World} (hb : Bounded S w) (h : Ext S w S' w') : Bounded S' w' :=
  ⟨h.bound, fun g cs hg => ⟨h.sub _ (hb.glob g cs hg).1, (hb.glob g cs hg).2.fut (h.fut hb) (hb.glob g cs hg).1⟩,
    fun g cs hg => by obtain ⟨h1, t, fr, h2⟩ := hb.whole g cs hg; exact ⟨h.sub _ h1, t, fr, by rw [(h.fut hb).same _ h1]; exact h2⟩,
    fun g hg => by obtain ⟨h1, v, h2, h3⟩ := hb.errs g hg; exact ⟨h.sub _ h1, v, h2.fut (h.fut hb) h1, h3⟩⟩

theorem Bounded.same {S S' : Nat → Prop} {w w' : World} (hb : Bounded S w) (hl : ∀ k, S' k → k < w'.heap.size) (hf : Fut S w S' w') : Bounded S' w' :=
  ⟨hl, fun g cs hg => ⟨hf.sub _ (hb.glob g cs hg).1, (hb.glob g cs hg).2.fut hf (hb.glob g cs hg).1⟩,
    fun g cs hg => by obtain ⟨h1, t, fr, h2⟩ := hb.whole g cs hg; exact ⟨hf.sub _ h1, t, fr, by rw [hf.same _ h1]; exact h2⟩,
    fun g hg => by obtain ⟨h1, v, h2, h3⟩ := hb.errs g hg; exact ⟨hf.sub _ h1, v, h2.fut hf h1, h3⟩⟩

/-- Data without addresses lie anywhere. -/
theorem Rep.anywhere {P : Program} {S S' : Nat → Prop} {w w' : World} : (t : Ty) → t.scal = true → {x : t.D} → {cs : List Value} → Rep P t S w x cs → Rep P t S' w' x cs
  | .int k, _, n, cs, h => h
  | .bool, _, b, cs, h => h
  | .str, _, s, cs, h => h
  | .nilS, _, s, cs, h => h
  | .opq, _, s, cs, h => h
  | .pair a b, ht, x, cs, h => by
    simp only [Ty.scal, Bool.and_eq_true] at ht
    obtain ⟨c1, c2, e, h1, h2⟩ := h
    exact ⟨c1, c2, e, Rep.anywhere a ht.1 h1, Rep.anywhere b ht.2 h2⟩
  | .arr e n, ht, xs, cs, h => by
    simp only [Ty.scal] at ht
    obtain ⟨h1, h2, h3⟩ := h
    refine ⟨h1, h2, fun i x hx => ?_⟩
    obtain ⟨c, r, g⟩ := h3 i x hx
    exact ⟨c, Rep.anywhere e ht r, g⟩
  | .slice e, ht, _, _, _ => by simp [Ty.scal] at ht
  | .tree e, ht, _, _, _ => by simp [Ty.scal] at ht
  | .ref e, ht, _, _, _ => by simp [Ty.scal] at ht
  | .fn1 _ _, ht, _, _, _ => by simp [Ty.scal] at ht
  | .fn2 _ _ _, ht, _, _, _ => by simp [Ty.scal] at ht

theorem valueOf.mono {t : Ty} {R R' : List Value → Prop} {v : Value} (h : ∀ c, R c → R' c) (hv : valueOf t R v) : valueOf t R' v := by
  unfold valueOf at *
  split
  · rename_i ha; rw [if_pos ha] at hv; obtain ⟨cs, e, r⟩ := hv; exact ⟨cs, e, h _ r⟩
  · rename_i ha; rw [if_neg ha] at hv; exact h _ hv

/-- A value of a type. -/
def RepV (P : Program) (t : Ty) (S : Nat → Prop) (w : World) (x : t.D) (v : Value) : Prop := valueOf t (Rep P t S w x) v

theorem RepV.fut {P : Program} {S S' : Nat → Prop} {w w' : World} (hf : Fut S w S' w') {t : Ty} {x : t.D} {v : Value} (h : RepV P t S w x v) : RepV P t S' w' x v :=
  valueOf.mono (fun _ => Rep.fut hf t) h

/-- Arguments of several types. -/
@[reducible] def Args : List Ty → Type
  | [] => Unit
  | t :: ts => t.D × Args ts

def ArgsRep (P : Program) : (ts : List Ty) → (Nat → Prop) → World → Args ts → List Value → Prop
  | [], _, _, _, vs => vs = []
  | t :: ts, S, w, x, vs => ∃ v vs', vs = v :: vs' ∧ RepV P t S w x.1 v ∧ ArgsRep P ts S w x.2 vs'

theorem ArgsRep.fut {P : Program} {S S' : Nat → Prop} {w w' : World} (hf : Fut S w S' w') : {ts : List Ty} → {x : Args ts} → {vs : List Value} → ArgsRep P ts S w x vs → ArgsRep P ts S' w' x vs
  | [], _, _, h => h
  | t :: ts, x, vs, h => by
    obtain ⟨v, vs', e, h1, h2⟩ := h
    exact ⟨v, vs', e, h1.fut hf, ArgsRep.fut hf h2⟩

end Go.Vx
