/- A part of a small verifier for the model's programs, proved sound for any program; no condition. -/
import Derived.Test.YtlibncpahaefbaaDoorVxK
namespace Go.Vx
open Go
set_option linter.unusedSectionVars false
set_option linter.unusedVariables false

/-- One operation of a region, as it went in the text's order. -/
structure Rec where
  s : List SV
  go : Bool
  q : QR

section
variable (P : Program) (tbl : List (FuncId × TF)) (ops : Array Oper) (H0 : List Blk)

/-- What is known of the slots becomes no less. -/
def Ref (s s1 : List SV) : Prop := s1.length = s.length ∧ ∀ t S w ρ v, Rel P S w ρ (get s t) v → Rel P S w ρ (get s1 t) v

def GuardFact (o : Oper) (s : List SV) (go : Bool) : Prop :=
  match o.guard with
  | none => go = true
  | some (j, want) => ∃ d, (ops[j]?).bind (·.dst) = some d ∧ ((∃ b, get s d = .kb b ∧ go = (b == want)) ∨ (∃ vs, get s d = .raw (.tuple vs) ∧ go = false))

def TrOk : List Oper → List SV → Nat → List Rec → List SV → Prop
  | [], s, _, [], s' => s' = s
  | o :: l, s, i, r :: rs, s' => Ref P s r.s ∧ GuardFact ops o r.s r.go ∧ (r.go = true → evq P tbl H0 (H0.length + i) r.s o.op = some r.q ∧ r.q.ob) ∧ (r.go = false → r.q = ⟨True, noVal, none⟩) ∧
      TrOk l (setO r.s o.dst r.q.val) (i + 1) rs s'
  | _, _, _, _, _ => False

/-- Operations that may be run in any order: quiet ones; what is loaded was there before. -/
def guardD (o : Oper) (s : List SV) (run skip : List SV → Prop) : Prop :=
  match o.guard with
  | none => run s
  | some (j, want) => match (ops[j]?).bind (·.dst) with
    | none => False
    | some d => match get s d with
      | .kb b => if b = want then run s else skip s
      | .bool b => (b = want → run (setS s d (.kb want))) ∧ (b = (!want) → skip (setS s d (.kb (!want))))
      | .raw (.tuple _) => skip s
      | _ => False

def drawx : List Oper → List SV → List (Option Blk) → (List SV → List (Option Blk) → Prop) → Prop
  | [], s, nw, K => K s nw
  | o :: l, s, nw, K => guardD ops o s
      (fun s => match evq P tbl H0 (H0.length + nw.length) s o.op with
        | some q => q.ob ∧ drawx l (setO s o.dst q.val) (nw ++ [q.new]) K
        | none => False)
      (fun s => drawx l (setO s o.dst noVal) (nw ++ [none]) K)
end

section
variable {P : Program} {tbl : List (FuncId × TF)} {ops : Array Oper} {H0 : List Blk}

theorem Ref.refl (s : List SV) : Ref P s s := ⟨rfl, fun _ _ _ _ _ h => h⟩

theorem Ref.set {s : List SV} {d : Nat} {b : Bool} (h : get s d = .bool b) : Ref P s (setS s d (.kb b)) :=
  ⟨setS_length _ _ _, fun t S w ρ v hr => by
    rw [get_setS]
    split
    · rename_i ht
      obtain ⟨rfl, _⟩ := ht
      rw [h] at hr
      simpa only [Rel] using hr
    · exact hr⟩

theorem get_lt {s : List SV} {d : Nat} (h : get s d ≠ .any) : d < s.length := by
  rcases Nat.lt_or_ge d s.length with h1 | h1
  · exact h1
  · exact absurd (get_out s d h1) h

theorem guardD_ok {o : Oper} {s : List SV} {run skip : List SV → Prop} (h : guardD ops o s run skip) :
    ∃ s1, Ref P s s1 ∧ ((GuardFact ops o s1 true ∧ run s1) ∨ (GuardFact ops o s1 false ∧ skip s1)) := by
  unfold guardD at h
  unfold GuardFact
  split at h
  · exact ⟨s, Ref.refl s, .inl ⟨rfl, h⟩⟩
  · rename_i j want hg
    split at h
    · exact h.elim
    · rename_i d hd
      split at h
      · rename_i b hs
        split at h
        · rename_i hb
          subst hb
          exact ⟨s, Ref.refl s, .inl ⟨⟨d, hd, .inl ⟨b, hs, by simp⟩⟩, h⟩⟩
        · rename_i hb
          exact ⟨s, Ref.refl s, .inr ⟨⟨d, hd, .inl ⟨b, hs, by simpa using hb⟩⟩, h⟩⟩
      · rename_i b hs
        have hlt : d < s.length := get_lt (by rw [hs]; simp)
        by_cases hb : b = want
        · subst hb
          exact ⟨_, Ref.set hs, .inl ⟨⟨d, hd, .inl ⟨b, by rw [get_setS, if_pos ⟨rfl, hlt⟩], by simp⟩⟩, h.1 rfl⟩⟩
        · have hb' : b = !want := by cases b <;> cases want <;> simp_all
          subst hb'
          exact ⟨_, Ref.set hs, .inr ⟨⟨d, hd, .inl ⟨!want, by rw [get_setS, if_pos ⟨rfl, hlt⟩], by simp⟩⟩, h.2 rfl⟩⟩
      · rename_i vs hs
        exact ⟨s, Ref.refl s, .inr ⟨⟨d, hd, .inr ⟨vs, hs, rfl⟩⟩, h⟩⟩
      · exact h.elim

theorem drawx_tr {K : List SV → List (Option Blk) → Prop} : (l : List Oper) → (s : List SV) → (nw : List (Option Blk)) → drawx P tbl ops H0 l s nw K → ∃ rs s', TrOk P tbl ops H0 l s nw.length rs s' ∧ rs.length = l.length ∧ K s' (nw ++ rs.map fun r => r.q.new)
  | [], s, nw, h => ⟨[], s, rfl, rfl, by simpa [drawx] using h⟩
  | o :: l, s, nw, h => by
    obtain ⟨s1, href, hcase⟩ := guardD_ok (P := P) h
    rcases hcase with ⟨hg, hr⟩ | ⟨hg, hr⟩
    · split at hr
      · rename_i q hq
        obtain ⟨rs, s', h1, h2, h3⟩ := drawx_tr l _ _ hr.2
        refine ⟨⟨s1, true, q⟩ :: rs, s', ⟨href, hg, fun _ => ⟨hq, hr.1⟩, fun h => (by cases h), by simpa using h1⟩, by simp [h2], by simpa using h3⟩
      · exact hr.elim
    · obtain ⟨rs, s', h1, h2, h3⟩ := drawx_tr l _ _ hr
      exact ⟨⟨s1, false, ⟨True, noVal, none⟩⟩ :: rs, s', ⟨href, hg, fun h => (by cases h), fun _ => rfl, by simpa using h1⟩, by simp [h2], by simpa using h3⟩

/-- The slots at time i. -/
def slotsAt (rs : List Rec) (s' : List SV) (i : Nat) : List SV := match rs[i]? with
  | some r => r.s
  | none => s'

structure TrAt (P : Program) (tbl : List (FuncId × TF)) (ops : Array Oper) (H0 : List Blk) (rs : List Rec) (s' : List SV) (i : Nat) (o : Oper) (r : Rec) : Prop where
  guard : GuardFact ops o r.s r.go
  run : r.go = true → evq P tbl H0 (H0.length + i) r.s o.op = some r.q ∧ r.q.ob
  skip : r.go = false → r.q = ⟨True, noVal, none⟩
  next : Ref P (setO r.s o.dst r.q.val) (slotsAt rs s' (i + 1))

theorem slotsAt_cons (r : Rec) (rs : List Rec) (s' : List SV) (i : Nat) : slotsAt (r :: rs) s' (i + 1) = slotsAt rs s' i := by simp [slotsAt]

theorem trOk_at : (l : List Oper) → (s : List SV) → (b : Nat) → (rs : List Rec) → (s' : List SV) → TrOk P tbl ops H0 l s b rs s' →
    Ref P s (slotsAt rs s' 0) ∧ ∀ i o, l[i]? = some o → ∃ r, rs[i]? = some r ∧ GuardFact ops o r.s r.go ∧ (r.go = true → evq P tbl H0 (H0.length + (b + i)) r.s o.op = some r.q ∧ r.q.ob) ∧ (r.go = false → r.q = ⟨True, noVal, none⟩) ∧ Ref P (setO r.s o.dst r.q.val) (slotsAt rs s' (i + 1))
  | [], s, b, [], s', h => by
    simp only [TrOk] at h
    subst h
    exact ⟨Ref.refl _, fun i o hi => by simp at hi⟩
  | [], s, b, r :: rs, s', h => by simp [TrOk] at h
  | o :: l, s, b, [], s', h => by simp [TrOk] at h
  | o :: l, s, b, r :: rs, s', h => by
    obtain ⟨h1, h2, h3, h4, h5⟩ := h
    obtain ⟨g1, g2⟩ := trOk_at l _ _ rs s' h5
    refine ⟨h1, fun i o' hi => ?_⟩
    cases i with
    | zero =>
      simp at hi; subst hi
      exact ⟨r, rfl, h2, by simpa using h3, h4, by rw [slotsAt_cons]; exact g1⟩
    | succ i =>
      obtain ⟨r', e1, e2, e3, e4, e5⟩ := g2 i o' (by simpa using hi)
      exact ⟨r', by simpa using e1, e2, by rwa [show b + (i + 1) = b + 1 + i from by omega], e4, by rw [slotsAt_cons]; exact e5⟩

end
end Go.Vx
