/- A part of a small verifier for the model's programs, proved sound for any program; no condition. -/
import Derived.Test.YtnbicdeehppgpaaGreatDoorVxR
import Derived.ProofKit
import Derived.Carry
set_option linter.unusedSimpArgs false
set_option linter.unusedVariables false
namespace Go.Vx
open Go Go.RowKit
set_option linter.unusedVariables false
set_option linter.unusedSectionVars false

/-! #### from readable data to Rep -/

def layFs (r : TypeId → Ty → Bool) (P : Program) : List Field → Nat → Ty → Bool
  | [f], off, T => f.offset == off && r f.type T && P.cellsOf f.type == T.size
  | f :: g :: fs, off, .pair a b => f.offset == off && r f.type a && P.cellsOf f.type == a.size && layFs r P (g :: fs) (off + a.size) b
  | _, _, _ => false

/-- Values of a type are data of this kind, field behind field. -/
def layOk (P : Program) : Nat → TypeId → Ty → Bool
  | 0, _, _ => false
  | n + 1, t, T => match P.underlying t, T with
    | some (.int k), .int k' => decide (k = k')
    | some .bool, .bool => true
    | some .string, .str => true
    | some (.slice e), .slice E => layOk P n e E && P.cellsOf e == E.size && decide (0 < E.size)
    | some (.struct fs), T => P.cellsOf t == T.size && T.isAgg && layFs (layOk P n) P fs.toList 0 T
    | _, _ => false

/-- The data are within what Go's types hold. -/
def Fit : (T : Ty) → T.D → Prop
  | .int k, n => (Lit.int k n).wf = true
  | .str, s => List.length s ≤ 9223372036854775807
  | .pair a b, x => Fit a x.1 ∧ Fit b x.2
  | .slice e, xs => List.length xs ≤ 9223372036854775807 ∧ ∀ x ∈ (xs : List e.D), Fit e x
  | _, _ => True

theorem mapM_at {α β : Type} {f : α → Option β} : {l : List α} → {ys : List β} → l.mapM f = some ys → ys.length = l.length ∧ ∀ (i : Nat) a, l[i]? = some a → ∃ b, ys[i]? = some b ∧ f a = some b
  | [], ys, h => by simp at h; subst h; simp
  | x :: l, ys, h => by
    simp only [List.mapM_cons, Option.bind_eq_bind, Option.bind_eq_some_iff] at h
    obtain ⟨y, hy, zs, hz, h⟩ := h
    simp at h
    subst h
    obtain ⟨h1, h2⟩ := mapM_at hz
    refine ⟨by simp [h1], fun i a hi => ?_⟩
    cases i with
    | zero => simp at hi; subst hi; exact ⟨y, by simp, hy⟩
    | succ i => simpa using h2 i a (by simpa using hi)

theorem cells_at {w : World} {base : Nat} {a : Addr} {n : Nat} {cs : List Value} (h : w.cells? base a n = some cs) : cs.length = n ∧ ∀ (j : Nat) v, cs[j]? = some v → w.cell? (a.add j) = some v := by
  unfold World.cells? at h
  split at h
  · obtain ⟨h1, h2⟩ := mapM_at h
    simp only [List.length_range] at h1
    refine ⟨h1, fun j v hj => ?_⟩
    have hlt : j < n := by have := (List.getElem?_eq_some_iff.1 hj).1; omega
    obtain ⟨b, hb, hb2⟩ := h2 j j (List.getElem?_range hlt)
    rw [hj] at hb
    cases hb
    exact hb2
  · cases h

theorem cell_some {w : World} {a : Addr} {v : Value} (h : w.cell? a = some v) : a.spot = none ∧ a.block < w.heap.size := by
  unfold World.cell? at h
  split at h
  · rename_i hh
    have := (Array.getElem?_eq_some_iff.1 hh).1
    split at h
    · cases h
    · rename_i hs
      exact ⟨by simpa using hs, this⟩
  · cases h

def Old (w : World) : Nat → Prop := fun k => k < w.heap.size

section
variable {H : Type} {enc : TypeId × Value → H} {P : Program} {w : World} {base : Nat} {sp : Nat → Bool} {held : Bool}

theorem layFs_rep (r : TypeId → Ty → Bool) (m : Nat) (hr : ∀ (t : TypeId) (T : Ty) (cs : List Value) (y : DataW H × List MemPlace), r t T = true → cs.length = T.size → DataW.trod enc P w base sp held m t cs = some y → ∃ x : T.D, Rep P T (Old w) w x cs ∧ Fit T x) :
    (fs : List Field) → (off : Nat) → (T : Ty) → (cs : List Value) → layFs r P fs off T = true → off + T.size = cs.length →
      (∀ f ∈ fs, ∃ y, DataW.trod enc P w base sp held m f.type ((cs.drop f.offset).take (P.cellsOf f.type)) = some y) → ∃ x : T.D, Rep P T (Old w) w x (cs.drop off) ∧ Fit T x
  | [], off, T, cs, h, hl, hm => by simp [layFs] at h
  | [f], off, T, cs, h, hl, hm => by
    simp only [layFs, Bool.and_eq_true, beq_iff_eq] at h
    obtain ⟨⟨h1, h2⟩, h3⟩ := h
    obtain ⟨y, hy⟩ := hm f (by simp)
    rw [h1, h3, List.take_of_length_le (by simp; omega)] at hy
    exact hr _ _ _ _ h2 (by simp; omega) hy
  | f :: g :: fs, off, T, cs, h, hl, hm => by
    cases T with
    | pair a b =>
      simp only [layFs, Bool.and_eq_true, beq_iff_eq] at h
      obtain ⟨⟨⟨h1, h2⟩, h3⟩, h4⟩ := h
      simp only [Ty.size] at hl
      obtain ⟨y, hy⟩ := hm f (by simp)
      rw [h1, h3] at hy
      obtain ⟨x1, r1, f1⟩ := hr _ _ _ _ h2 (by simp; omega) hy
      obtain ⟨x2, r2, f2⟩ := layFs_rep r m hr (g :: fs) (off + a.size) b cs h4 (by omega) (fun f' hf => hm f' (by simp at hf ⊢; exact .inr hf))
      refine ⟨(x1, x2), ⟨_, _, ?_, r1, r2⟩, f1, f2⟩
      rw [← List.drop_drop, List.take_append_drop]
    | _ => simp [layFs] at h

theorem list_choose {α : Type} {p : Nat → α → Prop} : (n : Nat) → (∀ i, i < n → ∃ x, p i x) → ∃ xs : List α, xs.length = n ∧ ∀ (i : Nat) x, xs[i]? = some x → p i x
  | 0, _ => ⟨[], rfl, fun i x h => by simp at h⟩
  | n + 1, h => by
    obtain ⟨xs, h1, h2⟩ := list_choose n fun i hi => h i (by omega)
    obtain ⟨x, hx⟩ := h n (by omega)
    refine ⟨xs ++ [x], by simp [h1], fun i y hy => ?_⟩
    rcases Nat.lt_or_ge i n with hi | hi
    · rw [List.getElem?_append_left (by omega)] at hy; exact h2 i y hy
    · rw [List.getElem?_append_right (by omega)] at hy
      have hi' : i - xs.length = 0 := by
        have := (List.getElem?_eq_some_iff.1 hy).1
        simp at this; omega
      rw [hi'] at hy
      simp at hy
      subst hy
      rw [show i = n by omega]; exact hx

theorem trod_rep : (n m : Nat) → (t : TypeId) → (T : Ty) → (cs : List Value) → (y : DataW H × List MemPlace) → layOk P n t T = true → cs.length = T.size → DataW.trod enc P w base sp held m t cs = some y → ∃ x : T.D, Rep P T (Old w) w x cs ∧ Fit T x
  | 0, m, t, T, cs, y, h, hl, ht => by simp [layOk] at h
  | n + 1, m, t, T, cs, y, h, hl, ht => by
    unfold layOk at h
    split at h
    · rename_i k k' hu
      rw [decide_eq_true_eq] at h
      subst h
      obtain ⟨x, rfl, _, hw⟩ := DataW.trod_int hu ht
      exact ⟨x, rfl, hw⟩
    · rename_i hu
      obtain ⟨x, rfl, _⟩ := DataW.trod_bool hu ht
      exact ⟨x, rfl, trivial⟩
    · rename_i hu
      obtain ⟨s, rfl, _, hs⟩ := DataW.trod_string hu ht
      refine ⟨s.data.toList, ?_, ?_⟩
      · simp [Rep, mkStr]
      · have h2 : s.data.toList.length ≤ 9223372036854775807 := by rw [Array.length_toList]; exact hs
        exact h2
    · rename_i e E hu
      simp only [Bool.and_eq_true, beq_iff_eq, decide_eq_true_eq] at h
      obtain ⟨⟨h1, h2⟩, h3⟩ := h
      rcases DataW.trod_slice hu ht with ⟨rfl, _⟩ | ⟨a, len, cap, elems, rest, m', rfl, rfl, _, _, hle, hcap, hel, hat, _⟩
      · exact ⟨([] : List E.D), ⟨none, 0, rfl, ⟨Nat.le_refl _, fun h => absurd rfl h⟩⟩, by simp [Fit]⟩
      · have key : ∀ i, i < len → ∃ x : E.D, (∃ c, Rep P E (Old w) w x c ∧ c.length = E.size ∧ ∀ (j : Nat) v, c[j]? = some v → w.cell? ((a.add (i * E.size)).add j) = some v) ∧ Fit E x := fun i hi => by
          have hi' := hat i hi
          rw [List.getElem?_eq_getElem (by omega), h2] at hi'
          rw [Option.bind_eq_some_iff] at hi'
          obtain ⟨c, hc, hy⟩ := hi'
          obtain ⟨hcl, hca⟩ := cells_at hc
          obtain ⟨x, hx, hf⟩ := trod_rep n m' e E c _ h1 hcl hy
          exact ⟨x, ⟨c, hx, hcl, hca⟩, hf⟩
        obtain ⟨xs, hxl, hx⟩ := list_choose len key
        have hcap' : cap ≤ 9223372036854775807 := hcap
        refine ⟨xs, ⟨some a, cap, by rw [hxl], ⟨by omega, fun hne => ?_⟩⟩, by omega, fun x hm => ?_⟩
        · have hpos : 0 < xs.length := List.length_pos_iff.2 hne
          obtain ⟨⟨c, _, hcl, hca⟩, _⟩ := hx 0 (xs[0]) (by simp)
          have h0 := hca 0 (c[0]'(by omega)) (by simp)
          simp only [Nat.zero_mul] at h0
          have hz : (a.add 0).add 0 = a := by simp [Addr.add]
          rw [hz] at h0
          obtain ⟨s1, s2⟩ := cell_some h0
          refine ⟨a, rfl, s1, s2, fun i x hi => ?_⟩
          obtain ⟨⟨c, r1, r2, r3⟩, _⟩ := hx i x hi
          refine ⟨c, r1, r2, fun j v hj => ?_⟩
          have := r3 j v hj
          obtain ⟨ab, ao, as_⟩ := a
          simp only at s1
          subst s1
          by_cases hi0 : i * E.size = 0 <;> by_cases hj0 : j = 0 <;> simpa [Addr.add, hi0, hj0] using this
        · obtain ⟨i, hi, rfl⟩ := List.mem_iff_getElem.1 hm
          exact (hx i _ (by simp [hi])).2
    · rename_i fs hu
      simp only [Bool.and_eq_true, beq_iff_eq] at h
      obtain ⟨⟨h1, h2⟩, h3⟩ := h
      obtain ⟨xs, m', rfl, _, _, hxl, hat⟩ := DataW.trod_struct hu ht
      have := layFs_rep (enc := enc) (w := w) (base := base) (sp := sp) (held := held) (layOk P n) m' (fun t T cs y => trod_rep n m' t T cs y) fs.toList 0 _ cs h3 (by omega) (fun f hf => by
        obtain ⟨i, hi, rfl⟩ := List.mem_iff_getElem.1 hf
        simp only [Array.length_toList] at hi
        have := hat i fs[i] (by simp [hi])
        rw [List.getElem?_eq_getElem (by omega)] at this
        exact ⟨_, this⟩)
      simpa using this
    · cases h

theorem arg_rep {n : Nat} {t : TypeId} {T : Ty} {v : Value} {d : DataW H} {ps : List MemPlace} {b : Nat} (h : layOk P n t T = true) (hok : Value.okWide P w .any b t v) (ht : DataW.Trod enc P w base sp held t v d ps) :
    ∃ x : T.D, RepV P T (Old w) w x v ∧ Fit T x := by
  obtain ⟨m, ht⟩ := ht
  cases n with
  | zero => simp [layOk] at h
  | succ n =>
    have h' := h
    unfold layOk at h
    unfold RepV valueOf
    unfold Value.okWide at hok
    split at h
    · rename_i k k' hu
      rw [hu] at hok
      simp only [Cell.okWide, Cell.ok, hu] at hok
      have : ∃ x, v = .int k x := by cases v <;> simp at hok; exact ⟨_, by rw [hok.1]⟩
      obtain ⟨x, rfl⟩ := this
      obtain ⟨y, hy, hf⟩ := trod_rep _ _ _ _ _ _ h' rfl ht
      exact ⟨y, hy, hf⟩
    · rename_i hu
      rw [hu] at hok
      simp only [Cell.okWide, Cell.ok, hu] at hok
      have : ∃ x, v = .bool x := by cases v <;> simp at hok; exact ⟨_, rfl⟩
      obtain ⟨x, rfl⟩ := this
      obtain ⟨y, hy, hf⟩ := trod_rep _ _ _ _ _ _ h' rfl ht
      exact ⟨y, hy, hf⟩
    · rename_i hu
      rw [hu] at hok
      simp only [Cell.okWide, Cell.ok, hu] at hok
      have : ∃ x, v = .string x := by cases v <;> simp at hok; exact ⟨_, rfl⟩
      obtain ⟨x, rfl⟩ := this
      obtain ⟨y, hy, hf⟩ := trod_rep _ _ _ _ _ _ h' rfl ht
      exact ⟨y, hy, hf⟩
    · rename_i e E hu
      rw [hu] at hok
      simp only [Cell.okWide, Cell.ok, hu] at hok
      have : ∃ a l c, v = .slice a l c := by cases v <;> simp at hok; exact ⟨_, _, _, rfl⟩
      obtain ⟨a, l, c, rfl⟩ := this
      obtain ⟨y, hy, hf⟩ := trod_rep _ _ _ _ _ _ h' rfl ht
      exact ⟨y, hy, hf⟩
    · rename_i fs hu
      rw [hu] at hok
      simp only [Bool.and_eq_true, beq_iff_eq] at h
      obtain ⟨cs, rfl, hsz, _⟩ := hok
      obtain ⟨y, hy, hf⟩ := trod_rep _ _ _ _ _ _ h' (by simp only [Value.cells, Array.length_toList]; rw [hsz]; exact h.1.1) ht
      refine ⟨y, ?_, hf⟩
      rw [if_pos h.1.2]
      exact ⟨cs.toList, by simp, by simpa [Value.cells] using hy⟩
    · cases h

def layAll (P : Program) : List TypeId → List Ty → Bool
  | [], [] => true
  | t :: ts, T :: Ts => layOk P 12 t T && layAll P ts Ts
  | _, _ => false

def FitArgs : (ts : List Ty) → Args ts → Prop
  | [], _ => True
  | t :: ts, x => Fit t x.1 ∧ FitArgs ts x.2

theorem args_rep {b : Nat} : (ts : List TypeId) → (Ts : List Ty) → (vs : List Value) → (ds : List (DataW H)) → (ps : List MemPlace) → layAll P ts Ts = true → (∀ (j : Nat) t v, ts[j]? = some t → vs[j]? = some v → Value.okWide P w .any b t v) →
    DataW.TrodAll enc P w base sp held ts vs ds ps → ∃ x : Args Ts, ArgsRep P Ts (Old w) w x vs ∧ FitArgs Ts x
  | [], [], [], [], ps, _, _, _ => ⟨(), rfl, trivial⟩
  | t :: ts, T :: Ts, v :: vs, d :: ds, ps, hl, hok, ht => by
    simp only [layAll, Bool.and_eq_true] at hl
    obtain ⟨p, q, h1, h2, _⟩ := ht
    obtain ⟨x, hx, hf⟩ := arg_rep hl.1 (hok 0 t v rfl rfl) h1
    obtain ⟨y, hy, hg⟩ := args_rep ts Ts vs ds q hl.2 (fun j t v h1 h2 => hok (j + 1) t v (by simpa using h1) (by simpa using h2)) h2
    exact ⟨(x, y), ⟨v, vs, rfl, hx, hy⟩, hf, hg⟩
  | [], [], _ :: _, _, ps, _, _, h => by simp [DataW.TrodAll] at h
  | [], [], [], _ :: _, ps, _, _, h => by simp [DataW.TrodAll] at h
  | [], _ :: _, _, _, ps, h, _, _ => by simp [layAll] at h
  | _ :: _, [], _, _, ps, h, _, _ => by simp [layAll] at h
  | _ :: _, _ :: _, [], _, ps, _, _, h => by simp [DataW.TrodAll] at h
  | _ :: _, _ :: _, _ :: _, [], ps, _, _, h => by simp [DataW.TrodAll] at h

theorem trodAll_stays (hl : laidOutB P = true) {W W' : World} (hb : RowKit.Below W.heap.size W W') {sp' : Nat → Bool} : (ts : List TypeId) → (vs : List Value) → (ds : List (DataW H)) → (ps : List MemPlace) → (ts.all fun t => P.readableRec t && decide (t < P.types.size)) = true →
    DataW.TrodAll enc P W 0 (fun _ => true) true ts vs ds ps → (∀ x ∈ ps, x.block < W.heap.size) → (∀ x ∈ ps, sp' x.block = true) → DataW.TrodAll enc P W' 0 sp' true ts vs ds ps
  | [], [], [], ps, _, h, _, _ => h
  | t :: ts, v :: vs, d :: ds, ps, hts, h, hlt, hs => by
    obtain ⟨p, q, h1, h2, rfl⟩ := h
    simp only [List.all_cons, Bool.and_eq_true, decide_eq_true_eq] at hts
    exact ⟨p, q, WideElems.Trod_stays hl hts.1.1 hts.1.2 h1 (fun x hx => hb.same (hlt x (by simp [hx]))) (fun x hx => hs x (by simp [hx])),
      trodAll_stays hl hb ts vs ds q hts.2 h2 (fun x hx => hlt x (by simp [hx])) (fun x hx => hs x (by simp [hx])), rfl⟩
  | [], [], _ :: _, ps, _, h, _, _ => by simp [DataW.TrodAll] at h
  | [], _ :: _, _, ps, _, h, _, _ => by simp [DataW.TrodAll] at h
  | _ :: _, [], _, ps, _, h, _, _ => by simp [DataW.TrodAll] at h
  | _ :: _, _ :: _, [], ps, _, h, _, _ => by simp [DataW.TrodAll] at h

theorem trodAll_len : (ts : List TypeId) → (vs : List Value) → (ds : List (DataW H)) → (ps : List MemPlace) → DataW.TrodAll enc P w base sp held ts vs ds ps → ds.length = ts.length
  | [], [], [], ps, _ => rfl
  | t :: ts, v :: vs, d :: ds, ps, h => by
    obtain ⟨p, q, _, h2, _⟩ := h
    simp [trodAll_len ts vs ds q h2]
  | [], [], _ :: _, ps, h => by simp [DataW.TrodAll] at h
  | [], _ :: _, _, ps, h => by simp [DataW.TrodAll] at h
  | _ :: _, [], _, ps, h => by simp [DataW.TrodAll] at h
  | _ :: _, _ :: _, [], ps, h => by simp [DataW.TrodAll] at h
theorem len3 {α : Type} {l : List α} (h : l.length = 3) : ∃ a b c, l = [a, b, c] := by
  match l, h with
  | [a, b, c], _ => exact ⟨a, b, c, rfl⟩
theorem len1 {α : Type} {l : List α} (h : l.length = 1) : ∃ a, l = [a] := by
  match l, h with
  | [a], _ => exact ⟨a, rfl⟩
theorem len2 {α : Type} {l : List α} (h : l.length = 2) : ∃ a b, l = [a, b] := by
  match l, h with
  | [a, b], _ => exact ⟨a, b, rfl⟩
theorem len4 {α : Type} {l : List α} (h : l.length = 4) : ∃ a b c d, l = [a, b, c, d] := by
  match l, h with
  | [a, b, c, d], _ => exact ⟨a, b, c, d, rfl⟩
theorem len5 {α : Type} {l : List α} (h : l.length = 5) : ∃ a b c d e, l = [a, b, c, d, e] := by
  match l, h with
  | [a, b, c, d, e], _ => exact ⟨a, b, c, d, e, rfl⟩

/-- A law that says true: its call, in a world as it stands. -/
theorem calls_law {f : FuncId} {doms : List Ty} {p : Args doms → Prop} (h : TFOk P f { doms := doms, cods := [.bool], pre := p, fn := fun _ => (true, ()) }) {W : World} (hb : Bounded (Old W) W) {x : Args doms} {vs : List Value} (hx : ArgsRep P doms (Old W) W x vs) (hp : p x) :
    Calls P f vs.toArray W fun e W' => e = .returned (.bool true) ∧ RowKit.Below W.heap.size W W' := by
  refine (h _ W hb x vs hx hp).mono fun e W' ⟨S', r, he, hr, hext⟩ => ⟨?_, ⟨hext.os, hext.tape, hext.output, hext.size, hext.old⟩⟩
  rw [he]
  have := resRep_one hr
  simp only [RepV, valueOf, Ty.isAgg, Bool.false_eq_true, if_false, Rep, List.cons.injEq, and_true] at this
  rw [this]

end
end Go.Vx
