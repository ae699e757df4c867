/- A part of a small verifier for the model's programs, proved sound for any program; no condition. -/
import Derived.Test.YtnbicdeehppgpaaGreatDoorVxC
import Derived.WalkKit
import Derived.WalkLawsBesides
set_option linter.unusedSimpArgs false
set_option linter.unusedVariables false
namespace Go.Vx
open Go
set_option linter.unusedSectionVars false
set_option linter.unusedVariables false

section
variable {P : Program} {S : Nat → Prop} {w : World} {ρ : Names}

theorem mkStr_data (s : ByteArray) : mkStr s.data.toList = .string s := by simp [mkStr]

theorem ofCell_rel (v : Value) : Rel P S w ρ (ofCell v) v := by
  unfold ofCell
  split <;> simp [Rel, mkStr_data]

theorem ofCells_rel : (vs : List Value) → RelL P S w ρ (vs.map ofCell) vs
  | [] => by simp [RelL]
  | v :: vs => by simp only [List.map_cons, RelL]; exact ⟨v, vs, rfl, ofCell_rel v, ofCells_rel vs⟩

theorem ofZCell_rel (v : Value) : Rel P S w ρ (ofZCell v) v := by
  unfold ofZCell
  split
  · simp [Rel]
  · exact ofCell_rel v

theorem ofZCells_rel : (vs : List Value) → RelL P S w ρ (vs.map ofZCell) vs
  | [] => by simp [RelL]
  | v :: vs => by simp only [List.map_cons, RelL]; exact ⟨v, vs, rfl, ofZCell_rel v, ofZCells_rel vs⟩

theorem ofConst_rel (v : Value) : Rel P S w ρ (ofConst v) v := by
  unfold ofConst
  split
  · rename_i cs
    simp only [Rel]
    exact ⟨cs.toList, by simp, ofCells_rel _⟩
  · exact ofCell_rel _

/-- The slots hold what they are said to. -/
structure SlotsR (P : Program) (S : Nat → Prop) (w : World) (ρ : Names) (slots : List SV) (a : Act) : Prop where
  size : a.tmps.size = slots.length
  rel : ∀ t, Rel P S w ρ (get slots t) (a.tmps.getD t undef)

theorem glS_rel (hb : Bounded S w) (g : Nat) : Rel P S w ρ (glS g (glTyp g)) (.pointer (some ⟨g, 0, none⟩)) := by
  cases h : glTyp g with
  | none => simp [glS, Rel]
  | some x =>
    obtain ⟨cs, h1, h2⟩ := glTyp_ok P S w g x h
    obtain ⟨h3, h4⟩ := hb.glob g cs h1
    simp only [glS, Rel, Rep]
    exact ⟨_, cs, rfl, rfl, h3, h2, h4⟩

theorem evS_rel {slots : List SV} {a : Act} (hb : Bounded S w) (h : SlotsR P S w ρ slots a) (x : Operand) : Rel P S w ρ (evS slots x) (a.eval x) := by
  cases x with
  | tmp t => exact h.rel t
  | const v => exact ofConst_rel v
  | global g => exact glS_rel hb g
  | func f => simp [evS, Act.eval, Rel, RelL]

theorem evS_relL {slots : List SV} {a : Act} (hb : Bounded S w) (h : SlotsR P S w ρ slots a) : (xs : List Operand) → RelL P S w ρ (xs.map (evS slots)) (xs.map a.eval)
  | [] => by simp [RelL]
  | x :: xs => by simp only [List.map_cons, RelL]; exact ⟨_, _, rfl, evS_rel hb h x, evS_relL hb h xs⟩

theorem get_eq : (l : List SV) → (i : Nat) → (h : i < l.length) → l[i]? = some (get l i)
  | [], i, h => by simp at h
  | s :: l, 0, h => by simp [get]
  | s :: l, i + 1, h => by simpa [get] using get_eq l i (by simpa using h)

theorem get_out : (l : List SV) → (i : Nat) → (h : l.length ≤ i) → get l i = .any
  | [], i, h => by simp [get]
  | s :: l, 0, h => by simp at h
  | s :: l, i + 1, h => by simpa [get] using get_out l i (by simpa using h)

theorem RelL.get' {l : List SV} {vs : List Value} (h : RelL P S w ρ l vs) {i : Nat} (hi : i < l.length) : ∃ v, vs[i]? = some v ∧ Rel P S w ρ (Vx.get l i) v :=
  h.get i _ (get_eq l i hi)

theorem asB_rel {s : SV} {b : Bool} {v : Value} (h : asB s = some b) (hr : Rel P S w ρ s v) : v = .bool b := by
  cases s <;> simp [asB] at h <;> simp [Rel] at hr <;> simp_all

theorem flat_rel {s : SV} {v : Value} (h : Rel P S w ρ s v) (h1 : s ≠ .any) (h2 : ∀ u, s ≠ .raw u) (h3 : ∀ t x, s ≠ .ag t x) : RelL P S w ρ (flat s) v.cells.toList := by
  cases s with
  | any => exact absurd rfl h1
  | raw u => exact absurd rfl (h2 u)
  | agg l =>
    simp only [Rel] at h
    obtain ⟨cs, rfl, h⟩ := h
    simpa [flat, Value.cells] using h
  | sl e xs =>
    have h' := h
    simp only [Rel, Rep] at h
    obtain ⟨A, cap, e1, _⟩ := h
    simp at e1; subst e1
    simp only [flat, Value.cells, RelL]
    exact ⟨_, _, rfl, h', rfl⟩
  | pp t x =>
    have h' := h
    simp only [Rel, Rep] at h
    obtain ⟨A, cap, e1, _⟩ := h
    simp at e1; subst e1
    simp only [flat, Value.cells, RelL]
    exact ⟨_, _, rfl, h', rfl⟩
  | f1 a c F =>
    have h' := h
    simp only [Rel, Rep] at h
    obtain ⟨A, cap, e1, _⟩ := h
    simp at e1; subst e1
    simp only [flat, Value.cells, RelL]
    exact ⟨_, _, rfl, h', rfl⟩
  | f2 a b c F =>
    have h' := h
    simp only [Rel, Rep] at h
    obtain ⟨A, cap, e1, _⟩ := h
    simp at e1; subst e1
    simp only [flat, Value.cells, RelL]
    exact ⟨_, _, rfl, h', rfl⟩
  | slf e xs =>
    have h' := h
    simp only [Rel] at h
    obtain ⟨⟨A, rfl⟩, _⟩ := h
    simp only [flat, Value.cells, RelL]
    exact ⟨_, _, rfl, h', rfl⟩
  | ag t x => exact absurd rfl (h3 t x)
  | mp nm =>
    have h' := h
    simp only [Rel] at h
    obtain ⟨b, cap, _, rfl⟩ := h
    simp only [flat, Value.cells, RelL]
    exact ⟨_, _, rfl, h', rfl⟩
  | osl nm n =>
    have h' := h
    simp only [Rel] at h
    obtain ⟨b, cap, A, _, _, rfl⟩ := h
    simp only [flat, Value.cells, RelL]
    exact ⟨_, _, rfl, h', rfl⟩
  | nils =>
    have h' := h
    simp only [Rel] at h
    obtain ⟨A, rfl⟩ := h
    simp only [flat, Value.cells, RelL]
    exact ⟨_, _, rfl, h', rfl⟩
  | ptr nm off =>
    have h' := h
    simp only [Rel] at h
    obtain ⟨b, cap, _, rfl⟩ := h
    simp only [flat, Value.cells, RelL]
    exact ⟨_, _, rfl, h', rfl⟩
  | eptr nm e i =>
    have h' := h
    simp only [Rel] at h
    obtain ⟨b, cap, _, rfl⟩ := h
    simp only [flat, Value.cells, RelL]
    exact ⟨_, _, rfl, h', rfl⟩
  | tup l =>
    have h' := h
    simp only [Rel] at h
    obtain ⟨cs, rfl, h⟩ := h
    simp only [flat, Value.cells, RelL]
    exact ⟨_, _, rfl, h', rfl⟩
  | fn f l =>
    have h' := h
    simp only [Rel] at h
    obtain ⟨cs, rfl, h⟩ := h
    simp only [flat, Value.cells, RelL]
    exact ⟨_, _, rfl, h', rfl⟩
  | bd f l =>
    have h' := h
    simp only [Rel] at h
    obtain ⟨cs, rfl, h⟩ := h
    simp only [flat, Value.cells, RelL]
    exact ⟨_, _, rfl, h', rfl⟩
  | osub nm sz n i =>
    have h' := h
    simp only [Rel] at h
    obtain ⟨ob, cap, A, _, rfl, h⟩ := h
    simp only [flat, Value.cells, RelL]
    exact ⟨_, _, rfl, h', rfl⟩
  | ifc t x =>
    have h' := h
    simp only [Rel] at h
    obtain ⟨u, rfl, h⟩ := h
    simp only [flat, Value.cells, RelL]
    exact ⟨_, _, rfl, h', rfl⟩
  | str s =>
    have h' := h
    simp only [Rel] at h
    subst h
    simp only [flat, RelL]
    exact ⟨_, _, rfl, h', rfl⟩
  | _ =>
    have h' := h
    simp only [Rel] at h
    subst h
    simp only [flat, Value.cells, RelL]
    exact ⟨_, _, rfl, h', rfl⟩

/-! #### data and cells -/

theorem relL_one {s : SV} {cs : List Value} (h : RelL P S w ρ [s] cs) : ∃ v, cs = [v] ∧ Rel P S w ρ s v := by
  simp only [RelL] at h
  obtain ⟨v, vs, rfl, h, rfl⟩ := h
  exact ⟨v, rfl, h⟩

theorem oneOf_some {α : Type} {f : SV → Option α} {l : List SV} {x : α} (h : oneOf f l = some x) : ∃ s, l = [s] ∧ f s = some x := by
  unfold oneOf at h
  split at h
  · exact ⟨_, rfl, h⟩
  · cases h

theorem both_some {α β : Type} {a : Option α} {b : Option β} {x : α × β} (h : both a b = some x) : a = some x.1 ∧ b = some x.2 := by
  unfold both at h
  split at h
  · cases h; exact ⟨rfl, rfl⟩
  · cases h

/-- The persistent part, and all that is the call's own. -/
def SLend (S : Nat → Prop) (ρ : Names) (h : Nat → Blk) (k : Nat) : Prop := S k ∨ ∃ nm cap, (h nm).live = true ∧ ρ nm = some (some k, cap)

theorem fut_lend (h : Nat → Blk) : Fut S w (SLend S ρ h) w := ⟨fun _ hk => .inl hk, fun _ _ => rfl⟩

theorem cell_of {b : Nat} {cs : List Value} {t : TypeId} {fr : Nat × Nat} (h : w.heap[b]? = some (.cells cs.toArray t fr)) (i : Nat) : w.cell? ⟨b, i, none⟩ = cs[i]? := by
  simp [World.cell?, h]

section
variable {H : List Blk}

theorem toSl_rep (hg : ∀ nm, BlkRel P S w ρ nm (getB H nm)) {e : Ty} {s : SV} {xs : List e.D} {v : Value} (h : toSl H e s = some xs) (hr : Rel P S w ρ s v) : Rep P (.slice e) (SLend S ρ (getB H)) w xs [v] := by
  unfold toSl at h
  split at h
  · split at h
    · rename_i he
      subst he
      cases h
      simp only [Rel] at hr
      exact Rep.fut (fut_lend _) _ hr
    · cases h
  · split at h
    · rename_i he
      subst he
      cases h
      simp only [Rel] at hr
      exact Rep.fut (fut_lend _) _ hr.2
    · cases h
  · cases h
    simp only [Rel] at hr
    obtain ⟨A, rfl⟩ := hr
    exact ⟨A, 0, rfl, ⟨by simp, fun h => absurd rfl h⟩⟩
  · rename_i nm n
    unfold toSlB at h
    split at h
    · rename_i e' xs' t hh
      split at h
      · rename_i he
        subst he
        split at h
        · rename_i hn
          cases h
          show Rep P (.slice e') _ w (List.take n xs') _
          simp only [Rel] at hr
          obtain ⟨b, cap, A, hb, h0, rfl⟩ := hr
          have hblk := hg nm
          rw [hh] at hblk
          obtain ⟨ob, cap', hb', hle, hblk⟩ := hblk
          rw [hb] at hb'; cases hb'
          have hl : List.length (List.take n xs') = n := by rw [List.length_take]; omega
          refine ⟨_, cap, by simp only [hl]; rfl, ⟨by omega, fun hne => ?_⟩⟩
          cases b with
          | none => have := h0.1; subst this; simp at hne
          | some b =>
            simp only [OslA] at h0
            subst h0
            obtain ⟨cs, fr, h1, _, h2, h3⟩ := hblk
            refine ⟨⟨b, 0, none⟩, rfl, rfl, .inr ⟨nm, cap, by rw [hh]; rfl, hb⟩, fun i x hx => ?_⟩
            have hx' : xs'[i]? = some x := by
              rw [List.getElem?_take] at hx
              split at hx
              · exact hx
              · cases hx
            obtain ⟨c, r1, r2, r3⟩ := h3 i x hx'
            refine ⟨c, Rep.fut (fut_lend _) _ r1, r2, fun j v hj => ?_⟩
            simp only [Nat.zero_add]
            rw [cell_of h1]
            exact r3 j v hj
        · cases h
      · cases h
    · cases h
  · cases h

theorem oneOf_nil {α : Type} {f : SV → Option α} {x : α} (h : oneOf f [] = some x) : False := by simp [oneOf] at h

theorem toD_rep {F1 : Clo1} {F2 : Clo2} (hg : ∀ nm, BlkRel P S w ρ nm (getB H nm))
    (hF1 : ∀ a c s F v, F1 a c s = some F → Rel P S w ρ s v → Rep P (.fn1 a c) (SLend S ρ (getB H)) w F [v]) (hF2 : ∀ a b c s F v, F2 a b c s = some F → Rel P S w ρ s v → Rep P (.fn2 a b c) (SLend S ρ (getB H)) w F [v]) :
    (t : Ty) → {l : List SV} → {x : t.D} → {cs : List Value} → toD F1 F2 H t l = some x → RelL P S w ρ l cs → Rep P t (SLend S ρ (getB H)) w x cs
  | .int k, l, x, cs, h, hr => by
    obtain ⟨s, rfl, h1⟩ := oneOf_some h
    obtain ⟨v, rfl, hv⟩ := relL_one hr
    clear h
    have h := h1
    unfold toInt at h
    split at h
    · split at h
      · cases h; rename_i he; subst he; simp only [Rel] at hv; subst hv; rfl
      · cases h
    · cases h
  | .bool, l, x, cs, h, hr => by
    obtain ⟨s, rfl, h1⟩ := oneOf_some h
    obtain ⟨v, rfl, hv⟩ := relL_one hr
    clear h
    have h := h1
    unfold toBool at h
    split at h
    · cases h; simp only [Rel] at hv; subst hv; rfl
    · cases h; simp only [Rel] at hv; subst hv; rfl
    · cases h
  | .opq, l, x, cs, h, hr => by simp [toD] at h
  | .nilS, l, x, cs, h, hr => by
    obtain ⟨s, rfl, h1⟩ := oneOf_some h
    obtain ⟨v, rfl, hv⟩ := relL_one hr
    clear h
    have h := h1
    unfold toNil at h
    split at h
    · cases h; simp only [Rel] at hv; obtain ⟨A, rfl⟩ := hv; exact ⟨A, rfl⟩
    · cases h
  | .str, l, x, cs, h, hr => by
    obtain ⟨s, rfl, h1⟩ := oneOf_some h
    obtain ⟨v, rfl, hv⟩ := relL_one hr
    clear h
    have h := h1
    unfold toStr at h
    split at h
    · cases h; simp only [Rel] at hv; subst hv; rfl
    · cases h
  | .pair a b, l, x, cs, h, hr => by
    obtain ⟨h1, h2⟩ := both_some h
    obtain ⟨r1, r2⟩ := hr.take_drop a.size
    exact ⟨_, _, (List.take_append_drop a.size cs).symm, toD_rep hg hF1 hF2 a h1 r1, toD_rep hg hF1 hF2 b h2 r2⟩
  | .slice e, l, x, cs, h, hr => by
    obtain ⟨s, rfl, h⟩ := oneOf_some h
    obtain ⟨v, rfl, hv⟩ := relL_one hr
    exact toSl_rep hg h hv
  | .tree a, l, x, cs, h, hr => by
    simp only [toD, Option.map_eq_some_iff] at h
    obtain ⟨⟨y, ks⟩, h, rfl⟩ := h
    obtain ⟨h1, h2⟩ := both_some h
    obtain ⟨r1, r2⟩ := hr.take_drop a.size
    obtain ⟨s, hs, h2⟩ := oneOf_some h2
    rw [hs] at r2
    obtain ⟨v, hv, r2⟩ := relL_one r2
    obtain ⟨A, cap, e1, h3⟩ := toSl_rep hg h2 r2
    simp only [Rep]
    rw [treeRep_iff]
    refine ⟨cs.take a.size, A, cap, ?_, toD_rep hg hF1 hF2 a h1 r1, h3⟩
    rw [← e1, ← hv, List.take_append_drop]
  | .ref a, l, x, cs, h, hr => by
    have h' : oneOf (toRef H a (toD F1 F2 H a)) l = some x := h
    clear h
    obtain ⟨s, rfl, h⟩ := oneOf_some h'
    clear h'
    obtain ⟨v, rfl, hv⟩ := relL_one hr
    unfold toRef at h
    split at h
    · split at h
      · rename_i he
        subst he
        cases h
        simp only [Rel] at hv
        exact Rep.fut (fut_lend _) _ hv
      · cases h
    · rename_i nm off
      split at h
      · rename_i ho
        subst ho
        simp only [Rel] at hv
        obtain ⟨b, cap, hb, rfl⟩ := hv
        have hblk := hg nm
        unfold boxD at h
        split at h
        · rename_i l t hl
          rw [hl] at hblk
          obtain ⟨b', cap', hb', cs, hh, hrl⟩ := hblk
          rw [hb] at hb'; cases hb'
          exact ⟨_, cs, rfl, rfl, .inr ⟨nm, cap, by rw [hl]; rfl, hb⟩, toD_rep hg hF1 hF2 a h hrl, fun j v hj => by simp only [Nat.zero_add]; rw [cell_of hh]; exact hj⟩
        · rename_i e xs t hl
          rw [hl] at hblk
          obtain ⟨ob, cap', hb', hle, hblk⟩ := hblk
          rw [hb] at hb'; cases hb'
          obtain ⟨cs, fr, hh, _, hcl, hel⟩ := hblk
          unfold arrD at h
          split at h
          · rename_i e' n
            split at h
            · rename_i he
              subst he
              split at h
              · rename_i hn
                cases h
                show Rep P (.ref (.arr e n)) _ w (xs : List e.D) _
                have hn' : n * e.size ≤ cs.length := by rw [hcl]; exact Nat.mul_le_mul_right _ (by omega)
                refine ⟨_, cs.take (n * e.size), rfl, rfl, .inr ⟨nm, cap, by rw [hl]; rfl, hb⟩, ⟨hn, by simp; omega, fun i x hx => ?_⟩, fun j v hj => ?_⟩
                · obtain ⟨c, r1, r2, r3⟩ := hel i x hx
                  refine ⟨c, Rep.fut (fut_lend _) _ r1, r2, fun j v hj => ?_⟩
                  have hi : i < n := by have := (List.getElem?_eq_some_iff.1 hx).1; omega
                  have hj' : j < e.size := by have := (List.getElem?_eq_some_iff.1 hj).1; omega
                  have : i * e.size + j < n * e.size := by
                    have : (i + 1) * e.size ≤ n * e.size := Nat.mul_le_mul_right _ (by omega)
                    rw [Nat.add_mul] at this; omega
                  rw [List.getElem?_take, if_pos this]
                  exact r3 j v hj
                · simp only [Nat.zero_add]
                  rw [cell_of hh]
                  rw [List.getElem?_take] at hj
                  split at hj
                  · exact hj
                  · cases hj
              · cases h
            · cases h
          · cases h
        · cases h
      · cases h
    · cases h
  | .fn1 a c, l, x, cs, h, hr => by
    obtain ⟨s, rfl, h⟩ := oneOf_some h
    obtain ⟨v, rfl, hv⟩ := relL_one hr
    exact hF1 _ _ _ _ _ h hv
  | .fn2 a b c, l, x, cs, h, hr => by
    obtain ⟨s, rfl, h⟩ := oneOf_some h
    obtain ⟨v, rfl, hv⟩ := relL_one hr
    exact hF2 _ _ _ _ _ _ h hv
  | .arr e n, l, x, cs, h, hr => by simp [toD] at h

theorem no1_rep (a c : Ty) (s : SV) (F : F1D a c) (v : Value) (h : no1 a c s = some F) (hr : Rel P S w ρ s v) : Rep P (.fn1 a c) (SLend S ρ (getB H)) w F [v] := by
  unfold no1 at h
  split at h
  · split at h
    · rename_i he
      obtain ⟨rfl, rfl⟩ := he
      cases h
      simp only [Rel] at hr
      exact Rep.fut (fut_lend _) _ hr
    · cases h
  · cases h

theorem no2_rep (a b c : Ty) (s : SV) (F : F2D a b c) (v : Value) (h : no2 a b c s = some F) (hr : Rel P S w ρ s v) : Rep P (.fn2 a b c) (SLend S ρ (getB H)) w F [v] := by
  unfold no2 at h
  split at h
  · split at h
    · rename_i he
      obtain ⟨rfl, rfl, rfl⟩ := he
      cases h
      simp only [Rel] at hr
      exact Rep.fut (fut_lend _) _ hr
    · cases h
  · cases h

end

theorem relL_mk {s : SV} {v : Value} (h : Rel P S w ρ s v) : RelL P S w ρ [s] [v] := by
  simp only [RelL]; exact ⟨v, [], rfl, h, rfl⟩

theorem relL_any : (n : Nat) → {cs : List Value} → cs.length = n → RelL P S w ρ (List.replicate n .any) cs
  | 0, cs, h => by simp only [List.replicate_zero, RelL]; exact List.length_eq_zero_iff.1 h
  | n + 1, cs, h => by
    cases cs with
    | nil => simp at h
    | cons c cs =>
      simp only [List.replicate_succ, RelL]
      exact ⟨c, cs, rfl, by simp only [Rel], relL_any n (by simpa using h)⟩

theorem ofD_rel : (t : Ty) → {x : t.D} → {cs : List Value} → Rep P t S w x cs → RelL P S w ρ (ofD t x) cs
  | .int k, n, cs, h => by simp only [Rep] at h; subst h; exact relL_mk (by simp [Rel])
  | .bool, b, cs, h => by simp only [Rep] at h; subst h; exact relL_mk (by simp [Rel])
  | .str, b, cs, h => by simp only [Rep] at h; subst h; exact relL_mk (by simp [Rel])
  | .nilS, b, cs, h => by simp only [Rep] at h; obtain ⟨A, rfl⟩ := h; exact relL_mk (by simp [Rel])
  | .opq, b, cs, h => by simp only [Rep] at h; obtain ⟨v, rfl, _⟩ := h; exact relL_mk (by simp [Rel])
  | .pair a b, x, cs, h => by
    obtain ⟨c1, c2, rfl, h1, h2⟩ := h
    exact (ofD_rel a h1).append (ofD_rel b h2)
  | .slice e, xs, cs, h => by
    have h' := h
    obtain ⟨A, cap, rfl, _⟩ := h
    exact relL_mk (by simpa only [Rel] using h')
  | .tree a, .node x ks, cs, h => by
    simp only [Rep] at h
    rw [treeRep_iff] at h
    obtain ⟨c1, A, cap, rfl, h1, h2⟩ := h
    exact (ofD_rel a h1).append (relL_mk (by simp only [Rel, Rep]; exact ⟨A, cap, rfl, h2⟩))
  | .ref a, x, cs, h => by
    have h' := h
    obtain ⟨A, cap, rfl, _⟩ := h
    exact relL_mk (by simpa only [Rel] using h')
  | .fn1 a c, x, cs, h => by
    have h' := h
    obtain ⟨A, cap, rfl, _⟩ := h
    exact relL_mk (by simpa only [Rel] using h')
  | .fn2 a b c, x, cs, h => by
    have h' := h
    obtain ⟨A, cap, rfl, _⟩ := h
    exact relL_mk (by simpa only [Rel] using h')
  | .arr e n, xs, cs, h => relL_any _ h.2.1

theorem ofD_one {t : Ty} (h : t.isAgg = false) (x : t.D) : ∃ s, ofD t x = [s] := by
  cases t <;> first | exact ⟨_, rfl⟩ | (simp [Ty.isAgg] at h)

theorem ofDV_rel {t : Ty} {x : t.D} {v : Value} (h : RepV P t S w x v) : Rel P S w ρ (ofDV t x) v := by
  unfold RepV valueOf at h
  unfold ofDV
  split
  · rename_i ha
    rw [if_pos ha] at h
    obtain ⟨cs, rfl, h⟩ := h
    cases t with
    | arr e n => simp only [Rel]; exact ⟨cs, rfl, h⟩
    | _ => simp only [Rel]; exact ⟨cs, rfl, ofD_rel _ h⟩
  · rename_i ha
    rw [if_neg ha] at h
    obtain ⟨s, hs⟩ := ofD_one (by simpa using ha) x
    have := ofD_rel (ρ := ρ) t h
    rw [hs] at this ⊢
    obtain ⟨v', e, h'⟩ := relL_one this
    cases e
    exact h'

section
variable {H : List Blk} {F1 : Clo1} {F2 : Clo2}

theorem toDV_repV (hg : ∀ nm, BlkRel P S w ρ nm (getB H nm))
    (hF1 : ∀ a c s F v, F1 a c s = some F → Rel P S w ρ s v → Rep P (.fn1 a c) (SLend S ρ (getB H)) w F [v]) (hF2 : ∀ a b c s F v, F2 a b c s = some F → Rel P S w ρ s v → Rep P (.fn2 a b c) (SLend S ρ (getB H)) w F [v])
    {t : Ty} {s : SV} {x : t.D} {v : Value} (h : toDV F1 F2 H t s = some x) (hr : Rel P S w ρ s v) : RepV P t (SLend S ρ (getB H)) w x v := by
  unfold toDV at h
  unfold RepV valueOf
  split
  · rename_i ha
    rw [if_pos ha] at h
    split at h
    · simp only [Rel] at hr
      obtain ⟨cs, rfl, hr⟩ := hr
      exact ⟨cs, rfl, toD_rep hg hF1 hF2 t h hr⟩
    · unfold toAg at h
      split at h
      · split at h
        · rename_i he
          subst he
          cases h
          simp only [Rel] at hr
          obtain ⟨cs, h1, h2⟩ := hr
          exact ⟨cs, h1, Rep.fut (fut_lend _) _ h2⟩
        · cases h
      · cases h
  · rename_i ha
    rw [if_neg ha] at h
    exact toD_rep hg hF1 hF2 t h (relL_mk hr)

theorem toArgs_rep (hg : ∀ nm, BlkRel P S w ρ nm (getB H nm))
    (hF1 : ∀ a c s F v, F1 a c s = some F → Rel P S w ρ s v → Rep P (.fn1 a c) (SLend S ρ (getB H)) w F [v]) (hF2 : ∀ a b c s F v, F2 a b c s = some F → Rel P S w ρ s v → Rep P (.fn2 a b c) (SLend S ρ (getB H)) w F [v]) :
    (ts : List Ty) → {l : List SV} → {x : Args ts} → {vs : List Value} → toArgs F1 F2 H ts l = some x → RelL P S w ρ l vs → ArgsRep P ts (SLend S ρ (getB H)) w x vs
  | [], [], x, vs, h, hr => by simp only [RelL] at hr; exact hr
  | [], s :: l, x, vs, h, hr => by simp [toArgs] at h
  | t :: ts, [], x, vs, h, hr => by simp [toArgs] at h
  | t :: ts, s :: l, x, vs, h, hr => by
    simp only [toArgs] at h
    obtain ⟨h1, h2⟩ := both_some h
    simp only [RelL] at hr
    obtain ⟨v, vs', rfl, r1, r2⟩ := hr
    exact ⟨v, vs', rfl, toDV_repV hg hF1 hF2 h1 r1, toArgs_rep hg hF1 hF2 ts h2 r2⟩
end

theorem ofArgs_rel : (ts : List Ty) → {x : Args ts} → {vs : List Value} → ArgsRep P ts S w x vs → RelL P S w ρ (ofArgs ts x) vs
  | [], x, vs, h => by simp only [ofArgs, RelL]; exact h
  | t :: ts, x, vs, h => by
    obtain ⟨v, vs', rfl, h1, h2⟩ := h
    simp only [ofArgs, RelL]
    exact ⟨v, vs', rfl, ofDV_rel h1, ofArgs_rel ts h2⟩

theorem RepV.anywhere {S' : Nat → Prop} {w' : World} {t : Ty} (ht : t.scal = true) {x : t.D} {v : Value} (h : RepV P t S w x v) : RepV P t S' w' x v :=
  valueOf.mono (fun _ => Rep.anywhere t ht) h

theorem ArgsRep.anywhere {S' : Nat → Prop} {w' : World} : (ts : List Ty) → scalL ts = true → {x : Args ts} → {vs : List Value} → ArgsRep P ts S w x vs → ArgsRep P ts S' w' x vs
  | [], _, x, vs, h => h
  | t :: ts, ht, x, vs, h => by
    simp only [scalL, Bool.and_eq_true] at ht
    obtain ⟨v, vs', rfl, h1, h2⟩ := h
    exact ⟨v, vs', rfl, h1.anywhere ht.1, ArgsRep.anywhere ts ht.2 h2⟩

def retOf : List Value → Value
  | [u] => u
  | vs => .tuple vs.toArray

/-- A result of several types. -/
def ResRep (P : Program) (ts : List Ty) (S : Nat → Prop) (w : World) (x : Args ts) (v : Value) : Prop :=
  ∃ vs : List Value, ArgsRep P ts S w x vs ∧ v = retOf vs

theorem ofRes_rel {ts : List Ty} {x : Args ts} {v : Value} (h : ResRep P ts S w x v) : Rel P S w ρ (ofRes ts x) v := by
  obtain ⟨vs, h, rfl⟩ := h
  cases ts with
  | nil => simp only [ArgsRep] at h; subst h; simp [ofRes, ofArgs, Rel, RelL, retOf]
  | cons t ts =>
    cases ts with
    | nil =>
      obtain ⟨u, vs', rfl, h1, h2⟩ := h
      simp only [ArgsRep] at h2
      subst h2
      exact ofDV_rel h1
    | cons t' ts =>
      have := ofArgs_rel (ρ := ρ) _ h
      obtain ⟨u, vs', rfl, h1, u', vs'', rfl, h2, h3⟩ := h
      simp only [ofRes, Rel]
      exact ⟨_, rfl, this⟩

/-- A list that the callee has made, and nobody else knows. -/
def OwnRep (P : Program) (et : TypeId) (S : Nat → Prop) (w0 w : World) : (ts : List Ty) → Args ts → Value → Prop
  | [.slice e], y, r => ∃ ob cap A, r = .slice A (List.length y.1) cap ∧ OslA ob A (List.length y.1) cap ∧ BlkRel P S w (fun _ => some (ob, cap)) 0 (.own e y.1 et) ∧ ∀ b, ob = some b → w0.heap.size ≤ b ∧ b < w.heap.size ∧ ¬ S b
  | _, _, _ => False

def ResOk (P : Program) (o : Option TypeId) (ts : List Ty) (S : Nat → Prop) (w0 w : World) (x : Args ts) (v : Value) : Prop :=
  match o with
  | none => ResRep P ts S w x v
  | some et => OwnRep P et S w0 w ts x v

/-- What a function's typed contract says. -/
def TFOk (P : Program) (f : FuncId) (tf : TF) : Prop :=
  ∀ S w, Bounded S w → ∀ x vs, ArgsRep P tf.doms S w x vs → tf.ob x →
    Calls P f vs.toArray w fun e w' => ∃ S' r, e = .returned r ∧ ResOk P tf.own tf.cods S' w w' (tf.fn x) r ∧ Ext S w S' w'


/-! #### functions that turn boxes of the caller's -/

/-- As Ext, where the blocks bs may turn. -/
structure ExtB (bs : List Nat) (S : Nat → Prop) (w : World) (S' : Nat → Prop) (w' : World) : Prop where
  sub : ∀ k, S k → S' k
  size : w.heap.size ≤ w'.heap.size
  old : ∀ k, k < w.heap.size → k ∉ bs → w'.heap[k]? = w.heap[k]?
  os : w'.os = w.os
  tape : w'.tape = w.tape
  output : w'.output = w.output
  fresh : ∀ k, S' k → S k ∨ w.heap.size ≤ k
  bound : ∀ k, S' k → k < w'.heap.size

/-- A box of nobody's but the caller's. -/
def BoxAt (P : Program) (S : Nat → Prop) (w : World) (t : Ty) (tid : TypeId) (b : Nat) (x : t.D) : Prop :=
  ¬ S b ∧ b < w.heap.size ∧ ∃ cs : List Value, w.heap[b]? = some (.cells cs.toArray tid (0, 0)) ∧ Rep P t S w x cs

def EArgsRep (P : Program) (S : Nat → Prop) (w : World) : (ds : List EA) → EArgs ds → List Value → List Nat → Prop
  | [], _, vs, bs => vs = [] ∧ bs = []
  | .pl t :: ds, x, vs, bs => ∃ v vs', vs = v :: vs' ∧ RepV P t S w x.1 v ∧ EArgsRep P S w ds x.2 vs' bs
  | .bx t tid :: ds, x, vs, bs => ∃ b vs' bs', vs = .pointer (some ⟨b, 0, none⟩) :: vs' ∧ bs = b :: bs' ∧ BoxAt P S w t tid b x.1 ∧ b ∉ bs' ∧ EArgsRep P S w ds x.2 vs' bs'

def BoxesAt (P : Program) (S : Nat → Prop) (w : World) : (ds : List EA) → List Nat → Args (bxs ds) → Prop
  | [], bs, _ => bs = []
  | .pl _ :: ds, bs, x => BoxesAt P S w ds bs x
  | .bx t tid :: ds, bs, x => ∃ b bs', bs = b :: bs' ∧ BoxAt P S w t tid b x.1 ∧ BoxesAt P S w ds bs' x.2

def EFOk (P : Program) (f : FuncId) (ef : EF) : Prop :=
  ∀ S w, Bounded S w → ∀ x vs bs, EArgsRep P S w ef.doms x vs bs → ef.pre x →
    Calls P f vs.toArray w fun e w' => ∃ S' r, e = .returned r ∧ ResRep P ef.cods S' w' (ef.fn x).1 r ∧ BoxesAt P S' w' ef.doms bs (ef.fn x).2 ∧ ExtB bs S w S' w'

end
end Go.Vx
