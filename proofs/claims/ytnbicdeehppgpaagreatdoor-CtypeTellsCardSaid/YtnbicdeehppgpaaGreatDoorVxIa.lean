/- A part of a small verifier for the model's programs, proved sound for any program; no condition. -/
import Derived.Test.YtnbicdeehppgpaaGreatDoorVxG
import Derived.Deep.AppendSrc
set_option linter.unusedSimpArgs false
set_option linter.unusedVariables false
namespace Go.Vx
open Go
set_option linter.unusedSectionVars false
set_option linter.unusedVariables false
section
variable {P : Program} {S : Nat → Prop} {w : World} {ρ : Names}

theorem TreeRep.one {α : Type} {R : α → List Value → Prop} {sz : Nat} (hR : ∀ x c, R x c → ∀ u ∈ c, u.oneCell' = true) {x : Tree α} {cs : List Value} (h : TreeRep R sz S w x cs) : ∀ u ∈ cs, u.oneCell' = true := by
  cases x with
  | node a kids =>
    rw [treeRep_iff] at h
    obtain ⟨c1, A, cap, rfl, h1, _⟩ := h
    intro u hu
    rcases List.mem_append.1 hu with h2 | h2
    · exact hR _ _ h1 u h2
    · simp at h2; subst h2; rfl

theorem Rep.one : (t : Ty) → {x : t.D} → {cs : List Value} → Rep P t S w x cs → ∀ u ∈ cs, u.oneCell' = true
  | .int k, n, cs, h => by simp only [Rep] at h; subst h; simp [Value.oneCell']
  | .bool, b, cs, h => by simp only [Rep] at h; subst h; simp [Value.oneCell']
  | .str, b, cs, h => by simp only [Rep] at h; subst h; simp [Value.oneCell', mkStr]
  | .nilS, b, cs, h => by simp only [Rep] at h; obtain ⟨A, rfl⟩ := h; simp [Value.oneCell']
  | .opq, b, cs, h => by simp only [Rep] at h; obtain ⟨v, rfl, h1⟩ := h; simpa using h1
  | .pair a b, x, cs, h => by
    obtain ⟨c1, c2, rfl, h1, h2⟩ := h
    intro u hu
    rcases List.mem_append.1 hu with h3 | h3
    · exact Rep.one a h1 u h3
    · exact Rep.one b h2 u h3
  | .slice e, xs, cs, h => by obtain ⟨A, cap, rfl, _⟩ := h; simp [Value.oneCell']
  | .tree a, x, cs, h => TreeRep.one (fun _ _ hr => Rep.one a hr) h
  | .ref a, x, cs, h => by obtain ⟨ad, c, rfl, _⟩ := h; simp [Value.oneCell']
  | .fn1 a c, x, cs, h => by obtain ⟨ad, c, rfl, _⟩ := h; simp [Value.oneCell']
  | .fn2 a b c, x, cs, h => by obtain ⟨ad, c, rfl, _⟩ := h; simp [Value.oneCell']
  | .arr e n, xs, cs, h => by
    obtain ⟨h1, h2, h3⟩ := h
    intro u hu
    obtain ⟨j, hj, rfl⟩ := List.mem_iff_getElem.1 hu
    rw [h2] at hj
    have hsz : 0 < e.size := by
      rcases Nat.eq_zero_or_pos e.size with h0 | h0
      · rw [h0] at hj; omega
      · exact h0
    have hi : j / e.size < n := Nat.div_lt_of_lt_mul (by rwa [Nat.mul_comm])
    obtain ⟨x, hx⟩ : ∃ x, (xs : List _)[j / e.size]? = some x := ⟨xs[j / e.size], by simp [h1, hi]⟩
    obtain ⟨c, r1, r2, r3⟩ := h3 _ _ hx
    have hr : j % e.size < c.length := by rw [r2]; exact Nat.mod_lt _ hsz
    have := r3 (j % e.size) c[j % e.size] (by simp [hr])
    rw [show j / e.size * e.size + j % e.size = j from by rw [Nat.mul_comm]; exact Nat.div_add_mod j e.size] at this
    rw [List.getElem?_eq_getElem (by omega)] at this
    rw [Option.some.inj this]
    exact Rep.one e r1 _ (List.getElem_mem _)

/-- A list's elements, one behind the other. -/
def Chunks {α : Type} (R : α → List Value → Prop) (sz : Nat) (xs : List α) (cs : List Value) : Prop :=
  ∀ i x, xs[i]? = some x → ∃ c, R x c ∧ c.length = sz ∧ ∀ j v, c[j]? = some v → cs[i * sz + j]? = some v

section
variable {α : Type} {R R' : α → List Value → Prop} {sz : Nat}

theorem chunk_lt {i j n : Nat} (hi : i < n) (hj : j < sz) : i * sz + j < n * sz := by
  have : (i + 1) * sz ≤ n * sz := Nat.mul_le_mul_right _ hi
  rw [Nat.add_mul] at this
  omega

theorem Chunks.nil (cs : List Value) : Chunks R sz [] cs := fun i x h => by simp at h

theorem Chunks.mono {xs : List α} {cs : List Value} (h : Chunks R sz xs cs) (hR : ∀ x c, R x c → R' x c) : Chunks R' sz xs cs := fun i x hx => by
  obtain ⟨c, r, g⟩ := h i x hx
  exact ⟨c, hR _ _ r, g⟩

theorem Chunks.take {xs : List α} {cs : List Value} (h : Chunks R sz xs cs) (n : Nat) : Chunks R sz (xs.take n) (cs.take (n * sz)) := fun i x hx => by
  rw [List.getElem?_take] at hx
  split at hx
  · rename_i hi
    obtain ⟨c, r, l, g⟩ := h i x hx
    refine ⟨c, r, l, fun j v hj => ?_⟩
    have hj' := (List.getElem?_eq_some_iff.1 hj).1
    rw [List.getElem?_take, if_pos (chunk_lt hi (by omega))]
    exact g j v hj
  · cases hx

theorem Chunks.drop {xs : List α} {cs : List Value} (h : Chunks R sz xs cs) (n : Nat) : Chunks R sz (xs.drop n) (cs.drop (n * sz)) := fun i x hx => by
  rw [List.getElem?_drop] at hx
  obtain ⟨c, h1, h2, h3⟩ := h _ _ hx
  refine ⟨c, h1, h2, fun j v hj => ?_⟩
  rw [List.getElem?_drop, ← h3 j v hj, Nat.add_mul, Nat.add_assoc]

theorem Chunks.append {xs ys : List α} {cs ds : List Value} (h : Chunks R sz xs cs) (hl : cs.length = xs.length * sz) (h' : Chunks R sz ys ds) : Chunks R sz (xs ++ ys) (cs ++ ds) := fun i x hx => by
  rcases Nat.lt_or_ge i xs.length with hi | hi
  · rw [List.getElem?_append_left hi] at hx
    obtain ⟨c, r, l, g⟩ := h i x hx
    refine ⟨c, r, l, fun j v hj => ?_⟩
    have hj' := (List.getElem?_eq_some_iff.1 hj).1
    rw [List.getElem?_append_left (by rw [hl]; exact chunk_lt hi (by omega))]
    exact g j v hj
  · rw [List.getElem?_append_right hi] at hx
    obtain ⟨c, r, l, g⟩ := h' _ x hx
    refine ⟨c, r, l, fun j v hj => ?_⟩
    have hm : xs.length * sz ≤ i * sz := Nat.mul_le_mul_right _ hi
    rw [List.getElem?_append_right (by rw [hl]; omega)]
    have := g j v hj
    rwa [Nat.sub_mul, show i * sz - xs.length * sz + j = i * sz + j - cs.length from by rw [hl]; omega] at this

theorem Chunks.more {xs : List α} {cs : List Value} (h : Chunks R sz xs cs) (ds : List Value) : Chunks R sz xs (cs ++ ds) := fun i x hx => by
  obtain ⟨c, r, l, g⟩ := h i x hx
  refine ⟨c, r, l, fun j v hj => ?_⟩
  have := g j v hj
  rw [List.getElem?_append_left (List.getElem?_eq_some_iff.1 this).1]
  exact this

theorem Chunks.one {x : α} {c : List Value} (h : R x c) (hl : c.length = sz) : Chunks R sz [x] c := fun i y hy => by
  cases i with
  | zero => simp at hy; subst hy; exact ⟨c, h, hl, fun j v hj => by simpa using hj⟩
  | succ i => simp at hy

theorem Chunks.le {xs : List α} {cs : List Value} (h : Chunks R sz xs cs) : xs.length * sz ≤ cs.length := by
  rcases Nat.eq_zero_or_pos (xs.length * sz) with h0 | h0
  · omega
  · have hsz : 0 < sz := Nat.pos_of_mul_pos_left h0
    have hxs : 0 < xs.length := Nat.pos_of_mul_pos_right h0
    obtain ⟨c, r, l, g⟩ := h (xs.length - 1) (xs[xs.length - 1]) (by simp)
    have := g (sz - 1) (c[sz - 1]'(by omega)) (by simp)
    have h1 := (List.getElem?_eq_some_iff.1 this).1
    rw [Nat.sub_mul] at h1
    have : sz ≤ xs.length * sz := Nat.le_mul_of_pos_left _ hxs
    omega

/-- The cells of a persistent slice. -/
theorem SlAt.cells {A : Option Addr} {cap : Nat} {xs : List α} (h : SlAt R sz S w A cap xs) (hl : ∀ x c, R x c → c.length = sz) (h1 : ∀ x c, R x c → ∀ u ∈ c, u.oneCell' = true) :
    ∃ cs : List Value, cs.length = xs.length * sz ∧ Chunks R sz xs cs ∧ (∀ u ∈ cs, u.oneCell' = true) ∧ ((xs = [] ∧ cs = []) ∨ ∃ ad, A = some ad ∧ ∀ j v, cs[j]? = some v → w.cell? (ad.add j) = some v) := by
  by_cases hne : xs = []
  · subst hne
    exact ⟨[], by simp, Chunks.nil _, by simp, .inl ⟨rfl, rfl⟩⟩
  · obtain ⟨ad, rfl, hsp, hS, hel⟩ := h.at_ hne
    have cover : ∀ j, j < xs.length * sz → ∃ u, w.cell? ⟨ad.block, ad.off + j, none⟩ = some u ∧ u.oneCell' = true := by
      intro j hj
      have hsz : 0 < sz := by
        rcases Nat.eq_zero_or_pos sz with h0 | h0
        · rw [h0] at hj; omega
        · exact h0
      have hi : j / sz < xs.length := Nat.div_lt_of_lt_mul (by rwa [Nat.mul_comm])
      obtain ⟨c, r1, r2, r3⟩ := hel (j / sz) xs[j / sz] (by simp [hi])
      have hr : j % sz < c.length := by rw [r2]; exact Nat.mod_lt _ hsz
      have := r3 (j % sz) c[j % sz] (by simp [hr])
      rw [Nat.add_assoc, show j / sz * sz + j % sz = j from by rw [Nat.mul_comm]; exact Nat.div_add_mod j sz] at this
      exact ⟨_, this, h1 _ _ r1 _ (List.getElem_mem _)⟩
    let f : Nat → Value := fun j => (w.cell? ⟨ad.block, ad.off + j, none⟩).getD undef
    have hf : ∀ j, j < xs.length * sz → w.cell? ⟨ad.block, ad.off + j, none⟩ = some (f j) := fun j hj => by
      obtain ⟨u, hu, _⟩ := cover j hj
      simp [f, hu]
    have hget : ∀ (j : Nat) v, ((List.range (xs.length * sz)).map f)[j]? = some v → j < xs.length * sz ∧ v = f j := fun j v hv => by
      have hj : j < xs.length * sz := by have := (List.getElem?_eq_some_iff.1 hv).1; simpa using this
      rw [List.getElem?_map, List.getElem?_range hj] at hv
      exact ⟨hj, by simpa using hv.symm⟩
    refine ⟨(List.range (xs.length * sz)).map f, by simp, fun i x hx => ?_, fun u hu => ?_, .inr ⟨ad, rfl, fun j v hv => ?_⟩⟩
    · obtain ⟨c, r1, r2, r3⟩ := hel i x hx
      refine ⟨c, r1, r2, fun j v hj => ?_⟩
      have hi := (List.getElem?_eq_some_iff.1 hx).1
      have hj' := (List.getElem?_eq_some_iff.1 hj).1
      have hlt : i * sz + j < xs.length * sz := chunk_lt hi (by omega)
      have := r3 j v hj
      rw [Nat.add_assoc, hf _ hlt] at this
      rw [List.getElem?_map, List.getElem?_range hlt]
      simpa using this
    · obtain ⟨j, hj, rfl⟩ := List.mem_iff_getElem.1 hu
      simp only [List.length_map, List.length_range] at hj
      obtain ⟨u, hu, h2⟩ := cover j hj
      simp [f, hu, h2]
    · obtain ⟨hj, rfl⟩ := hget j v hv
      rw [addr_eta hsp, add_off]
      exact hf j hj
end

theorem setCells_cells {b : Nat} {t : TypeId} {fr : Nat × Nat} : (vs : List Value) → (o : Nat) → (w : World) → (cs : List Value) → w.heap[b]? = some (.cells cs.toArray t fr) → o + vs.length ≤ cs.length →
    (w.setCells b o vs).heap[b]? = some (.cells (cs.take o ++ vs ++ cs.drop (o + vs.length)).toArray t fr)
  | [], o, w, cs, h, _ => by simpa [World.setCells] using h
  | v :: r, o, w, cs, h, hl => by
    simp only [List.length_cons] at hl
    have h2 : (w.setCell ⟨b, o, none⟩ v).heap[b]? = some (.cells (cs.set o v).toArray t fr) := by
      simp [World.setCell, Array.getElem?_modify, h]
    have := setCells_cells r (o + 1) (w.setCell ⟨b, o, none⟩ v) (cs.set o v) h2 (by simp; omega)
    simp only [World.setCells]
    rw [this]
    congr 3
    have hs : cs.set o v = cs.take o ++ v :: cs.drop (o + 1) := by rw [List.set_eq_take_append_cons_drop, if_pos (by omega)]
    have hl1 : (cs.take o).length = o := by simp; omega
    rw [hs]
    have e1 : (cs.take o ++ v :: cs.drop (o + 1)).take (o + 1) = cs.take o ++ [v] := by
      rw [List.take_append, hl1, show o + 1 - o = 1 from by omega, List.take_of_length_le (by omega)]
      rfl
    have e2 : (cs.take o ++ v :: cs.drop (o + 1)).drop (o + 1 + r.length) = cs.drop (o + (r.length + 1)) := by
      rw [List.drop_append, hl1, List.drop_of_length_le (by omega), show o + 1 + r.length - o = r.length + 1 from by omega, List.drop_succ_cons, List.drop_drop]
      simp only [List.nil_append]
      congr 1
      omega
    rw [e1, e2]
    simp

theorem setCells_rest {b : Nat} : (vs : List Value) → (o : Nat) → (w : World) → (∀ k, k ≠ b → (w.setCells b o vs).heap[k]? = w.heap[k]?) ∧ (w.setCells b o vs).heap.size = w.heap.size ∧ (w.setCells b o vs).os = w.os ∧ (w.setCells b o vs).tape = w.tape ∧ (w.setCells b o vs).output = w.output
  | [], o, w => ⟨fun _ _ => rfl, rfl, rfl, rfl, rfl⟩
  | v :: r, o, w => by
    obtain ⟨h1, h2, h3, h4, h5⟩ := setCells_rest (b := b) r (o + 1) (w.setCell ⟨b, o, none⟩ v)
    simp only [World.setCells]
    refine ⟨fun k hk => (h1 k hk).trans ?_, h2.trans (by simp), h3.trans rfl, h4.trans rfl, h5.trans rfl⟩
    simp [World.setCell, Array.getElem?_modify, Ne.symm hk]
end
end Go.Vx
