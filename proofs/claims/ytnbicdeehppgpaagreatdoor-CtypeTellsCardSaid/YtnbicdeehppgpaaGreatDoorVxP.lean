/- A part of a small verifier for the model's programs, proved sound for any program; no condition. -/
import Derived.LoopN
import Derived.Test.YtnbicdeehppgpaaGreatDoorVxJ
import Derived.Deep.LoopGhost
set_option linter.unusedSimpArgs false
set_option linter.unusedVariables false
namespace Go.Vx
open Go
set_option linter.unusedSectionVars false
set_option linter.unusedVariables false

/-! #### which operations stand ahead of which -/

def ancOf (acc : List Nat) (o : Oper) : Nat := o.after.toList.foldl (fun s e => if Region.binds .any e then s ||| 2 ^ e.on ||| acc.getD e.on 0 else s) 0
def ancs : List Oper → List Nat → List Nat
  | [], acc => acc
  | o :: l, acc => ancs l (acc ++ [ancOf acc o])

/-- A move that may as well be the first of all. -/
def early (ops : Array Oper) (i : Nat) : Bool := match ops[i]? with
  | some ⟨d, .move (.tmp x), ty, pos, after, none⟩ => Region.noSelect ops && after.all (fun e => !Region.binds .any e) && (List.range ops.size).all fun j => j == i || match ops[j]? with
    | some oj => oj.after.any (fun e => Region.binds .any e && e.on == i) || Oper.apart ops ⟨d, .move (.tmp x), ty, pos, after, none⟩ oj
    | none => true
  | _ => false

def drawOk (m : Nat) (ops : Array Oper) : Bool :=
  let A := ancs ops.toList []
  (List.range ops.size).all fun j => match ops[j]? with
    | none => false
    | some oj => oj.after.all (fun e => e.on < j || !Region.binds .any e) && (List.range j).all fun i => (A.getD j 0).testBit i || (decide (j < m) && match ops[i]? with
      | none => false
      | some oi => oi.apart ops oj) || (decide (m ≤ j) && decide (i < m) && early ops i)

theorem ancs_length : (l : List Oper) → (acc : List Nat) → (ancs l acc).length = acc.length + l.length
  | [], acc => by simp [ancs]
  | o :: l, acc => by simp [ancs, ancs_length l]; omega

theorem ancs_prefix : (l : List Oper) → (acc : List Nat) → ∀ i, i < acc.length → (ancs l acc)[i]? = acc[i]?
  | [], acc, i, h => rfl
  | o :: l, acc, i, h => by
    rw [ancs, ancs_prefix l _ i (by simp; omega), List.getElem?_append_left h]

theorem ancs_at : (l : List Oper) → (acc : List Nat) → ∀ j o, l[j]? = some o → (ancs l acc)[acc.length + j]? = some (ancOf ((ancs l acc).take (acc.length + j)) o)
  | [], acc, j, o, h => by simp at h
  | o' :: l, acc, 0, o, h => by
    simp at h; subst h
    simp only [ancs, Nat.add_zero]
    rw [ancs_prefix l _ acc.length (by simp)]
    have ht : (ancs l (acc ++ [ancOf acc o'])).take acc.length = acc := by
      apply List.ext_getElem?
      intro i
      rw [List.getElem?_take]
      split
      · rename_i hi
        rw [ancs_prefix l _ i (by simp; omega), List.getElem?_append_left hi]
      · rename_i hi
        rw [List.getElem?_eq_none (by omega)]
    rw [ht]
    simp
  | o' :: l, acc, j + 1, o, h => by
    have := ancs_at l (acc ++ [ancOf acc o']) j o (by simpa using h)
    simp only [ancs]
    rwa [show acc.length + (j + 1) = (acc ++ [ancOf acc o']).length + j from by simp; omega]

theorem ancOf_bit {acc : List Nat} {o : Oper} {i : Nat} (h : (ancOf acc o).testBit i = true) : ∃ e ∈ o.after, Region.binds .any e = true ∧ (e.on = i ∨ (acc.getD e.on 0).testBit i = true) := by
  unfold ancOf at h
  have key : ∀ (l : List Edge) (s : Nat), (l.foldl (fun s e => if Region.binds .any e then s ||| 2 ^ e.on ||| acc.getD e.on 0 else s) s).testBit i = true → s.testBit i = true ∨ ∃ e ∈ l, Region.binds .any e = true ∧ (e.on = i ∨ (acc.getD e.on 0).testBit i = true) := by
    intro l
    induction l with
    | nil => intro s h; exact .inl h
    | cons e l ih =>
      intro s h
      simp only [List.foldl_cons] at h
      rcases ih _ h with h1 | ⟨e', he', h1⟩
      · split at h1
        · rename_i hb
          rw [Nat.testBit_or, Nat.testBit_or, Bool.or_eq_true, Bool.or_eq_true, Nat.testBit_two_pow] at h1
          rcases h1 with (h1 | h1) | h1
          · exact .inl h1
          · exact .inr ⟨e, by simp, hb, .inl (by simpa using h1)⟩
          · exact .inr ⟨e, by simp, hb, .inr h1⟩
        · exact .inl h1
      · exact .inr ⟨e', by simp [he'], h1⟩
  rcases key _ 0 h with h1 | ⟨e, he, h1⟩
  · simp at h1
  · exact ⟨e, by simpa using he, h1⟩

/-- Every binding edge of what is listed leads to what is listed. -/
def Closed (ops : Array Oper) (L : Nat → Prop) : Prop := ∀ j oj, L j → ops[j]? = some oj → ∀ e ∈ oj.after, Region.binds .any e = true → L e.on

theorem closed_anc {ops : Array Oper} {L : Nat → Prop} (hc : Closed ops L) {j : Nat} {oj : Oper} (hj : ops[j]? = some oj) (he : ∀ e ∈ oj.after, Region.binds .any e = true → L e.on ∧ e.on < j) (hback : ∀ k ok, ops[k]? = some ok → ∀ e ∈ ok.after, Region.binds .any e = true → e.on < k) :
    ∀ i, ((ancs ops.toList []).getD j 0).testBit i = true → L i := by
  induction j using Nat.strongRecOn generalizing oj with
  | _ j ih =>
    intro i hi
    have hat := ancs_at ops.toList [] j oj (by simpa using hj)
    simp only [List.length_nil, Nat.zero_add] at hat
    rw [List.getD_eq_getElem?_getD, hat] at hi
    simp only [Option.getD_some] at hi
    obtain ⟨e, he1, he2, he3⟩ := ancOf_bit hi
    obtain ⟨hL, hlt⟩ := he e he1 he2
    rcases he3 with rfl | he3
    · exact hL
    · have hlt' : e.on < ops.size := by have := (Array.getElem?_eq_some_iff.1 hj).1; omega
      refine ih e.on hlt (oj := ops[e.on]) (by simp [hlt']) (fun e' h1 h2 => ⟨hc e.on _ hL (by simp [hlt']) e' h1 h2, hback e.on _ (by simp [hlt']) e' h1 h2⟩) i ?_
      rw [List.getD_eq_getElem?_getD, List.getElem?_take, if_pos hlt] at he3
      rw [List.getD_eq_getElem?_getD]
      exact he3

structure DrawFacts (m : Nat) (ops : Array Oper) : Prop where
  back : ∀ k ok, ops[k]? = some ok → ∀ e ∈ ok.after, Region.binds .any e = true → e.on < k
  pair : ∀ i j oi oj, i < j → ops[i]? = some oi → ops[j]? = some oj → ((ancs ops.toList []).getD j 0).testBit i = true ∨ (j < m ∧ oi.apart ops oj = true) ∨ (m ≤ j ∧ i < m ∧ early ops i = true)

theorem drawOk_facts {m : Nat} {ops : Array Oper} (h : drawOk m ops = true) : DrawFacts m ops := by
  unfold drawOk at h
  simp only [List.all_eq_true, List.mem_range] at h
  constructor
  · intro k ok hk e he hb
    have hlt := (Array.getElem?_eq_some_iff.1 hk).1
    have := h k hlt
    rw [hk] at this
    simp only [Bool.and_eq_true] at this
    have h1 := this.1
    rw [Array.all_eq_true'] at h1
    have := h1 e he
    simpa [hb] using this
  · intro i j oi oj hij hi hj
    have hlt := (Array.getElem?_eq_some_iff.1 hj).1
    have := h j hlt
    rw [hj] at this
    simp only [Bool.and_eq_true, List.all_eq_true, List.mem_range] at this
    have h1 := this.2 i hij
    rw [hi] at h1
    simpa [or_assoc, and_assoc] using h1

end Go.Vx

namespace Go.Vx
open Go
set_option linter.unusedSectionVars false
set_option linter.unusedVariables false

/-- One operation of a region, as it went in the text's order. -/
structure Rec where
  s : List SV
  go : Bool
  q : QR

section
variable (P : Program) (tbl : List (FuncId × TF)) (ops : Array Oper) (H0 : List Blk)

/-- What is known of the slots becomes no less. -/
def Ref (s s1 : List SV) : Prop := s1.length = s.length ∧ ∀ t S w ρ v, Rel P S w ρ (get s t) v → Rel P S w ρ (get s1 t) v

def GuardFact (o : Oper) (s : List SV) (go : Bool) : Prop :=
  match o.guard with
  | none => go = true
  | some (j, want) => ∃ d, (ops[j]?).bind (·.dst) = some d ∧ ((∃ b, get s d = .kb b ∧ go = (b == want)) ∨ (∃ vs, get s d = .raw (.tuple vs) ∧ go = false))

def TrOk : List Oper → List SV → Nat → List Rec → List SV → Prop
  | [], s, _, [], s' => s' = s
  | o :: l, s, i, r :: rs, s' => Ref P s r.s ∧ GuardFact ops o r.s r.go ∧ (r.go = true → evA P tbl H0 (H0.length + i) r.s o.op = some r.q ∧ r.q.ob) ∧ (r.go = false → r.q = ⟨True, noVal, none⟩) ∧
      TrOk l (setO r.s o.dst r.q.val) (i + 1) rs s'
  | _, _, _, _, _ => False

/-- Operations that may be run in any order: quiet ones; what is loaded was there before. -/
def guardD (o : Oper) (s : List SV) (run skip : List SV → Prop) : Prop :=
  match o.guard with
  | none => run s
  | some (j, want) => match (ops[j]?).bind (·.dst) with
    | none => False
    | some d => match get s d with
      | .kb b => if b = want then run s else skip s
      | .bool b => (b = want → run (setS s d (.kb want))) ∧ (b = (!want) → skip (setS s d (.kb (!want))))
      | .raw (.tuple _) => skip s
      | _ => False

def drawx : List Oper → List SV → List (Option Blk) → (List SV → List (Option Blk) → Prop) → Prop
  | [], s, nw, K => K s nw
  | o :: l, s, nw, K => guardD ops o s
      (fun s => match evA P tbl H0 (H0.length + nw.length) s o.op with
        | some q => q.ob ∧ drawx l (setO s o.dst q.val) (nw ++ [q.new]) K
        | none => False)
      (fun s => drawx l (setO s o.dst noVal) (nw ++ [none]) K)
end

section
variable {P : Program} {tbl : List (FuncId × TF)} {ops : Array Oper} {H0 : List Blk}

theorem Ref.refl (s : List SV) : Ref P s s := ⟨rfl, fun _ _ _ _ _ h => h⟩

theorem Ref.set {s : List SV} {d : Nat} {b : Bool} (h : get s d = .bool b) : Ref P s (setS s d (.kb b)) :=
  ⟨setS_length _ _ _, fun t S w ρ v hr => by
    rw [get_setS]
    split
    · rename_i ht
      obtain ⟨rfl, _⟩ := ht
      rw [h] at hr
      simpa only [Rel] using hr
    · exact hr⟩

theorem get_lt {s : List SV} {d : Nat} (h : get s d ≠ .any) : d < s.length := by
  rcases Nat.lt_or_ge d s.length with h1 | h1
  · exact h1
  · exact absurd (get_out s d h1) h

theorem guardD_ok {o : Oper} {s : List SV} {run skip : List SV → Prop} (h : guardD ops o s run skip) :
    ∃ s1, Ref P s s1 ∧ ((GuardFact ops o s1 true ∧ run s1) ∨ (GuardFact ops o s1 false ∧ skip s1)) := by
  unfold guardD at h
  unfold GuardFact
  split at h
  · exact ⟨s, Ref.refl s, .inl ⟨rfl, h⟩⟩
  · rename_i j want hg
    split at h
    · exact h.elim
    · rename_i d hd
      split at h
      · rename_i b hs
        split at h
        · rename_i hb
          subst hb
          exact ⟨s, Ref.refl s, .inl ⟨⟨d, hd, .inl ⟨b, hs, by simp⟩⟩, h⟩⟩
        · rename_i hb
          exact ⟨s, Ref.refl s, .inr ⟨⟨d, hd, .inl ⟨b, hs, by simpa using hb⟩⟩, h⟩⟩
      · rename_i b hs
        have hlt : d < s.length := get_lt (by rw [hs]; simp)
        by_cases hb : b = want
        · subst hb
          exact ⟨_, Ref.set hs, .inl ⟨⟨d, hd, .inl ⟨b, by rw [get_setS, if_pos ⟨rfl, hlt⟩], by simp⟩⟩, h.1 rfl⟩⟩
        · have hb' : b = !want := by cases b <;> cases want <;> simp_all
          subst hb'
          exact ⟨_, Ref.set hs, .inr ⟨⟨d, hd, .inl ⟨!want, by rw [get_setS, if_pos ⟨rfl, hlt⟩], by simp⟩⟩, h.2 rfl⟩⟩
      · rename_i vs hs
        exact ⟨s, Ref.refl s, .inr ⟨⟨d, hd, .inr ⟨vs, hs, rfl⟩⟩, h⟩⟩
      · exact h.elim

theorem drawx_tr {K : List SV → List (Option Blk) → Prop} : (l : List Oper) → (s : List SV) → (nw : List (Option Blk)) → drawx P tbl ops H0 l s nw K → ∃ rs s', TrOk P tbl ops H0 l s nw.length rs s' ∧ rs.length = l.length ∧ K s' (nw ++ rs.map fun r => r.q.new)
  | [], s, nw, h => ⟨[], s, rfl, rfl, by simpa [drawx] using h⟩
  | o :: l, s, nw, h => by
    obtain ⟨s1, href, hcase⟩ := guardD_ok (P := P) h
    rcases hcase with ⟨hg, hr⟩ | ⟨hg, hr⟩
    · split at hr
      · rename_i q hq
        obtain ⟨rs, s', h1, h2, h3⟩ := drawx_tr l _ _ hr.2
        refine ⟨⟨s1, true, q⟩ :: rs, s', ⟨href, hg, fun _ => ⟨hq, hr.1⟩, fun h => (by cases h), by simpa using h1⟩, by simp [h2], by simpa using h3⟩
      · exact hr.elim
    · obtain ⟨rs, s', h1, h2, h3⟩ := drawx_tr l _ _ hr
      exact ⟨⟨s1, false, ⟨True, noVal, none⟩⟩ :: rs, s', ⟨href, hg, fun h => (by cases h), fun _ => rfl, by simpa using h1⟩, by simp [h2], by simpa using h3⟩

/-- The slots at time i. -/
def slotsAt (rs : List Rec) (s' : List SV) (i : Nat) : List SV := match rs[i]? with
  | some r => r.s
  | none => s'

structure TrAt (P : Program) (tbl : List (FuncId × TF)) (ops : Array Oper) (H0 : List Blk) (rs : List Rec) (s' : List SV) (i : Nat) (o : Oper) (r : Rec) : Prop where
  guard : GuardFact ops o r.s r.go
  run : r.go = true → evA P tbl H0 (H0.length + i) r.s o.op = some r.q ∧ r.q.ob
  skip : r.go = false → r.q = ⟨True, noVal, none⟩
  next : Ref P (setO r.s o.dst r.q.val) (slotsAt rs s' (i + 1))

theorem slotsAt_cons (r : Rec) (rs : List Rec) (s' : List SV) (i : Nat) : slotsAt (r :: rs) s' (i + 1) = slotsAt rs s' i := by simp [slotsAt]

theorem trOk_at : (l : List Oper) → (s : List SV) → (b : Nat) → (rs : List Rec) → (s' : List SV) → TrOk P tbl ops H0 l s b rs s' →
    Ref P s (slotsAt rs s' 0) ∧ ∀ i o, l[i]? = some o → ∃ r, rs[i]? = some r ∧ GuardFact ops o r.s r.go ∧ (r.go = true → evA P tbl H0 (H0.length + (b + i)) r.s o.op = some r.q ∧ r.q.ob) ∧ (r.go = false → r.q = ⟨True, noVal, none⟩) ∧ Ref P (setO r.s o.dst r.q.val) (slotsAt rs s' (i + 1))
  | [], s, b, [], s', h => by
    simp only [TrOk] at h
    subst h
    exact ⟨Ref.refl _, fun i o hi => by simp at hi⟩
  | [], s, b, r :: rs, s', h => by simp [TrOk] at h
  | o :: l, s, b, [], s', h => by simp [TrOk] at h
  | o :: l, s, b, r :: rs, s', h => by
    obtain ⟨h1, h2, h3, h4, h5⟩ := h
    obtain ⟨g1, g2⟩ := trOk_at l _ _ rs s' h5
    refine ⟨h1, fun i o' hi => ?_⟩
    cases i with
    | zero =>
      simp at hi; subst hi
      exact ⟨r, rfl, h2, by simpa using h3, h4, by rw [slotsAt_cons]; exact g1⟩
    | succ i =>
      obtain ⟨r', e1, e2, e3, e4, e5⟩ := g2 i o' (by simpa using hi)
      exact ⟨r', by simpa using e1, e2, by rwa [show b + (i + 1) = b + 1 + i from by omega], e4, by rw [slotsAt_cons]; exact e5⟩

end
end Go.Vx

namespace Go.Vx
open Go
set_option linter.unusedSectionVars false
set_option linter.unusedVariables false
section
variable {P : Program} {tbl : List (FuncId × TF)} {ops : Array Oper} {H0 : List Blk}

/-- The blocks while some of a region's operations have run. -/
def hD (H0 : List Blk) (rs : List Rec) (L : Nat → Bool) (nm : Nat) : Blk :=
  if nm < H0.length then getB H0 nm else if L (nm - H0.length) then ((rs[nm - H0.length]?).bind (·.q.new)).getD .gone else .gone

/-- Slot t is as it was at time i: of the operations that write it, those before i have run, and no other one. -/
def AtTime (ops : Array Oper) (m : Nat) (L : Nat → Bool) (t i : Nat) : Prop :=
  i ≤ m ∧ (∀ j oj, j < m → ops[j]? = some oj → oj.dst = some t → (L j = true ↔ j < i))

structure DInv (P : Program) (cx : Cx) (ops : Array Oper) (m : Nat) (H0 : List Blk) (rs : List Rec) (s' : List SV) (L : Nat → Bool) (a : Act) (w : World) (S : Nat → Prop) (ρ : Names) : Prop where
  good : Good P S ρ (hD H0 rs L) w
  since : Since cx S ρ (hD H0 rs L) w
  size : a.tmps.size = s'.length
  slots : ∀ t i, AtTime ops m L t i → Rel P S w ρ (get (slotsAt rs s' i) t) (a.tmps.getD t undef)
  fresh : ∀ i, (L i = true → (rs[i]?).bind (·.q.new) = none) → ρ (H0.length + i) = none
  len : cx.H0.length ≤ H0.length
  defers : a.defers = cx.D

theorem guardFact_wanted {S : Nat → Prop} {w : World} {ρ : Names} {o : Oper} {s : List SV} {go : Bool} {tmps : Array Value} (h : GuardFact ops o s go)
    (hs : ∀ g want d, o.guard = some (g, want) → (ops[g]?).bind (·.dst) = some d → Rel P S w ρ (get s d) (tmps.getD d undef)) : Region.wanted o (yielded ops tmps) = go := by
  unfold GuardFact at h
  unfold Region.wanted
  split at h
  · rename_i hg; rw [hg]; exact h.symm
  · rename_i j want hg
    rw [hg]
    simp only
    obtain ⟨d, hd, h⟩ := h
    have hr := hs j want d hg hd
    rcases h with ⟨b, hb, rfl⟩ | ⟨vs, hb, rfl⟩
    · rw [hb] at hr
      simp only [Rel] at hr
      have : yielded ops tmps j = some b := by
        unfold yielded
        rw [hd]
        simp only [Option.bind_some]
        rw [Array.getD_eq_getD_getElem?] at hr
        cases he : tmps[d]? with
        | none => rw [he] at hr; simp [undef] at hr
        | some v => rw [he] at hr; simp at hr; subst hr; rfl
      rw [this]
      simp
    · rw [hb] at hr
      simp only [Rel] at hr
      have : yielded ops tmps j = none := by
        unfold yielded
        rw [hd]
        simp only [Option.bind_some]
        rw [Array.getD_eq_getD_getElem?] at hr
        cases he : tmps[d]? with
        | none => rfl
        | some v => rw [he] at hr; simp at hr; subst hr; rfl
      rw [this]
      rfl

theorem mem_looksAt_operand {o : Oper} {t : Tmp} (h : Operand.tmp t ∈ o.op.operands) : t ∈ o.looksAt ops :=
  List.mem_append_left _ (List.mem_filterMap.2 ⟨.tmp t, by simpa using h, rfl⟩)

theorem mem_looksAt_guard {o : Oper} {g : Nat} {want : Bool} {d : Tmp} (h : o.guard = some (g, want)) (hd : (ops[g]?).bind (·.dst) = some d) : d ∈ o.looksAt ops := by
  refine List.mem_append_right _ ?_
  rw [h]
  simp [hd]

/-- What an operation that comes up looks at is as it was in the text's order. -/
theorem atTime_of_ready {m : Nat} {L : Nat → Bool} {i : Nat} {oi : Oper} (hf : DrawFacts m ops) (hc : Closed ops (fun k => L k = true)) (hi : ops[i]? = some oi) (him : i < m) (hL : L i = false)
    (hready : ∀ e ∈ oi.after, Region.binds .any e = true → L e.on = true) {t : Tmp} (ht : t ∈ oi.looksAt ops ∨ oi.dst = some t) : AtTime ops m L t i := by
  have ancI : ∀ k, ((ancs ops.toList []).getD i 0).testBit k = true → L k = true :=
    closed_anc hc hi (fun e he hb => ⟨hready e he hb, hf.back i oi hi e he hb⟩) hf.back
  have ancJ : ∀ j oj, ops[j]? = some oj → L j = true → ∀ k, ((ancs ops.toList []).getD j 0).testBit k = true → L k = true := fun j oj hj hLj =>
    closed_anc hc hj (fun e he hb => ⟨hc j oj hLj hj e he hb, hf.back j oj hj e he hb⟩) hf.back
  refine ⟨Nat.le_of_lt him, fun j oj hjm hj hd => ?_⟩
  constructor
  · intro hLj
    rcases Nat.lt_or_ge j i with h | h
    · exact h
    · exfalso
      have hne : i ≠ j := fun e => by subst e; rw [hL] at hLj; cases hLj
      rcases hf.pair i j oi oj (by omega) hi hj with h1 | ⟨_, h1⟩ | ⟨h1, _⟩
      rotate_right
      · omega
      · have := ancJ j oj hj hLj i h1; rw [hL] at this; cases this
      · obtain ⟨p1, p2, p3⟩ := Oper.apart_spec h1
        rcases ht with ht | ht
        · exact p3 t hd ht
        · exact p2 t ht hd
  · intro hji
    rcases hf.pair j i oj oi hji hj hi with h1 | ⟨_, h1⟩ | ⟨h1, _⟩
    rotate_right
    · omega
    · exact ancI j h1
    · exfalso
      obtain ⟨p1, p2, p3⟩ := Oper.apart_spec h1
      rcases ht with ht | ht
      · exact p1 t hd ht
      · exact p2 t hd ht

/-- What a slot holds it holds on, as long as nobody writes it. -/
theorem slots_on {rs : List Rec} {s' : List SV} {m : Nat} {S : Nat → Prop} {w : World} {ρ : Names} {v : Value} {t : Nat}
    (htr : ∀ i o, i < m → ops[i]? = some o → ∃ r, rs[i]? = some r ∧ Ref P (setO r.s o.dst r.q.val) (slotsAt rs s' (i + 1))) (hm : m ≤ ops.size) :
    ∀ (n i : Nat), i + n ≤ m → (∀ j oj, i ≤ j → j < i + n → ops[j]? = some oj → oj.dst ≠ some t) → Rel P S w ρ (get (slotsAt rs s' i) t) v → Rel P S w ρ (get (slotsAt rs s' (i + n)) t) v
  | 0, i, _, _, h => h
  | n + 1, i, hle, hno, h => by
    obtain ⟨o, ho⟩ : ∃ o, ops[i]? = some o := ⟨ops[i], by simp⟩
    obtain ⟨r, hr, href⟩ := htr i o (by omega) ho
    have h1 : Rel P S w ρ (get (setO r.s o.dst r.q.val) t) v := by
      have e : slotsAt rs s' i = r.s := by simp [slotsAt, hr]
      rw [e] at h
      cases hd : o.dst with
      | none => simpa [setO] using h
      | some d =>
        have hne := hno i o (Nat.le_refl _) (by omega) ho
        rw [hd] at hne
        simp only [setO, get_setS]
        rw [if_neg (fun h => hne (by rw [h.1]))]
        exact h
    have := slots_on htr hm n (i + 1) (by omega) (fun j oj h1 h2 => hno j oj (by omega) (by omega)) (href.2 _ _ _ _ _ h1)
    rwa [show i + 1 + n = i + (n + 1) from by omega] at this

theorem hD_gone {rs : List Rec} {L : Nat → Bool} {i : Nat} (h : L i = false) : hD H0 rs L (H0.length + i) = .gone := by
  have : ¬ (H0.length + i < H0.length) := by omega
  simp [hD, this, h]

theorem hD_set {rs : List Rec} {L : Nat → Bool} {i : Nat} {r : Rec} (hr : rs[i]? = some r) : upd (hD H0 rs L) (H0.length + i) (r.q.new.getD .gone) = hD H0 rs (fun k => if k = i then true else L k) := by
  funext nm
  by_cases h1 : nm = H0.length + i
  · subst h1
    have h2 : ¬ (H0.length + i < H0.length) := by omega
    have h3 : H0.length + i - H0.length = i := by omega
    unfold hD
    rw [if_neg h2, h3]
    simp [upd, hr]
  · unfold upd hD
    rw [if_neg h1]
    split
    · rfl
    · rename_i h2
      have : nm - H0.length ≠ i := by omega
      simp [this]

/-- One operation has run: the facts go on. -/
theorem DInv.next {cx : Cx} {m : Nat} {rs : List Rec} {s' : List SV} {L : Nat → Bool} {a : Act} {w w' : World} {S S' : Nat → Prop} {ρ ρ' : Names} {i : Nat} {oi : Oper} {r : Rec} {v : Value}
    (h : DInv P cx ops m H0 rs s' L a w S ρ) (hf : DrawFacts m ops) (hc : Closed ops (fun k => L k = true)) (hi : ops[i]? = some oi) (him : i < m) (hL : L i = false) (hm : m ≤ ops.size)
    (htr : ∀ i o, i < m → ops[i]? = some o → ∃ r, rs[i]? = some r ∧ r.s.length = s'.length ∧ Ref P (setO r.s o.dst r.q.val) (slotsAt rs s' (i + 1))) (hr : rs[i]? = some r) (hrs : rs.length = m)
    (hq : QPost P S w ρ (H0.length + i) r.q.new S' w' ρ') (hv : Rel P S' w' ρ' r.q.val v) :
    DInv P cx ops m H0 rs s' (fun k => if k = i then true else L k) (a.put oi.dst v) w' S' ρ' := by
  have hgone := hD_gone (H0 := H0) (rs := rs) hL
  have hfut := hq.ext.fut h.good.bounded
  have hg := h.good.step hq hgone
  have hs := h.since.step hq hgone (by have := h.len; omega)
  rw [hD_set hr] at hg hs
  refine ⟨hg, hs, ?_, fun t k hk => ?_, fun k hk => ?_, h.len, by cases oi.dst <;> simpa [Act.put] using h.defers⟩
  · cases oi.dst <;> simp [Act.put, h.size]
  · by_cases ht : oi.dst = some t
    · -- the slot that was written
      have hik : i < k := (hk.2 i oi him hi ht).1 (by simp)
      obtain ⟨r', hr', hrl, href⟩ := htr i oi him hi
      rw [hr] at hr'; cases hr'
      by_cases hlt : t < s'.length
      · have hval : (a.put oi.dst v).tmps.getD t undef = v := by
          rw [ht]
          simp only [Act.put]
          rw [Array.getD_eq_getD_getElem?, Array.getElem?_setIfInBounds_self_of_lt (by rw [h.size]; exact hlt)]
          rfl
        rw [hval]
        have h1 : Rel P S' w' ρ' (get (slotsAt rs s' (i + 1)) t) v := by
          refine href.2 _ _ _ _ _ ?_
          rw [ht]
          simp only [setO, get_setS]
          rw [if_pos ⟨trivial, by rw [hrl]; exact hlt⟩]
          exact hv
        have := slots_on (P := P) (rs := rs) (s' := s') (fun i o h1 h2 => by obtain ⟨r, e1, _, e2⟩ := htr i o h1 h2; exact ⟨r, e1, e2⟩) hm (k - (i + 1)) (i + 1) (by have := hk.1; omega) (fun j oj h2 h3 hj hd => ?_) h1
        · rwa [show i + 1 + (k - (i + 1)) = k from by omega] at this
        · have hjm : j < m := by have := hk.1; omega
          have h4 := (hk.2 j oj hjm hj hd).2 (by omega)
          simp only [show j ≠ i from by omega, if_false] at h4
          -- j is listed, i is ahead of it or apart from it
          rcases hf.pair i j oi oj (by omega) hi hj with h5 | ⟨_, h5⟩ | ⟨h5, _⟩
          rotate_right
          · omega
          · have := closed_anc hc hj (fun e he hb => ⟨hc j oj h4 hj e he hb, hf.back j oj hj e he hb⟩) hf.back i h5
            rw [hL] at this; cases this
          · exact (Oper.apart_spec h5).2.1 t ht hd
      · have : get (slotsAt rs s' k) t = .any := by
          refine get_out _ _ ?_
          unfold slotsAt
          split
          · rename_i r2 hr2
            have hk2 : k < m := by have := (List.getElem?_eq_some_iff.1 hr2).1; omega
            obtain ⟨o2, ho2⟩ : ∃ o, ops[k]? = some o := ⟨ops[k], by simp⟩
            obtain ⟨r3, e1, e2, _⟩ := htr k o2 hk2 ho2
            rw [hr2] at e1; cases e1
            omega
          · omega
        rw [this]
        simp only [Rel]
    · have hk' : AtTime ops m L t k := ⟨hk.1, fun j oj hjm hj hd => by
        have := hk.2 j oj hjm hj hd
        have hne : j ≠ i := fun e => by subst e; rw [hi] at hj; cases hj; exact ht hd
        simpa [hne] using this⟩
      have hval : (a.put oi.dst v).tmps.getD t undef = a.tmps.getD t undef := by
        cases hd : oi.dst with
        | none => rfl
        | some d =>
          simp only [Act.put]
          rw [Array.getD_eq_getD_getElem?, Array.getD_eq_getD_getElem?, Array.getElem?_setIfInBounds_ne (fun e => ht (by rw [hd, e]))]
      rw [hval]
      exact Rel.fut hfut hq.keep _ (h.slots t k hk')
  · by_cases he : k = i
    · subst he
      have hn : r.q.new = none := by have := hk (by simp); simpa [hr] using this
      rw [hq.none_ hn]
      exact h.fresh k (fun h1 => by rw [hL] at h1; cases h1)
    · rw [hq.others _ (by omega)]
      exact h.fresh k (fun h1 => hk (by simp [he, h1]))
end
end Go.Vx

namespace Go.Vx
open Go
set_option linter.unusedSectionVars false
set_option linter.unusedVariables false

def trimN : List (Option Blk) → List (Option Blk)
  | [] => []
  | x :: l => match trimN l, x with
    | [], none => []
    | l', x => x :: l'

theorem trimN_get : (l : List (Option Blk)) → (i : Nat) → ((trimN l)[i]?).join = (l[i]?).join
  | [], i => rfl
  | x :: l, i => by
    have ih := trimN_get l
    unfold trimN
    split
    · rename_i h1
      rw [h1] at ih
      cases i with
      | zero => rfl
      | succ i => simpa using ih i
    · cases i with
      | zero => simp
      | succ i => simpa using ih i

theorem trimN_out (l : List (Option Blk)) (i : Nat) (h : (trimN l).length ≤ i) : (l[i]?).join = none := by
  rw [← trimN_get, List.getElem?_eq_none h]; rfl

section
variable {P : Program} {tbl : List (FuncId × TF)} {ops : Array Oper}

theorem fut_drew (S : Nat → Prop) (w : World) : Fut S w S w.drew := ⟨fun _ h => h, fun _ _ => rfl⟩

theorem Good.drew {S : Nat → Prop} {ρ : Names} {h : Nat → Blk} {w : World} (hg : Good P S ρ h w) : Good P S ρ h w.drew := by
  refine ⟨hg.bounded.same hg.bounded.lt (fut_drew S w), fun nm => ?_, hg.apart, hg.inj⟩
  exact (hg.rel nm).keep (fut_drew S w) (Keep.refl ρ) fun _ _ _ => rfl

theorem Holds.drew {cx : Cx} {σ : St} {a : Act} {w : World} {S : Nat → Prop} {ρ : Names} (h : Holds P cx σ a w S ρ) : Holds P cx σ a w.drew S ρ :=
  ⟨h.good.drew, h.slots.fut (fut_drew S w) (Keep.refl ρ), ⟨h.since.sub, h.since.size, h.since.os, h.since.tape, h.since.output, h.since.old, h.since.own, h.since.pers, h.since.names, h.since.ownH⟩, h.fresh, h.len, h.defers⟩

theorem getB_append' : (l l' : List Blk) → (nm : Nat) → getB (l ++ l') nm = if nm < l.length then getB l nm else getB l' (nm - l.length)
  | [], l', nm => by simp
  | c :: l, l', 0 => by simp [getB]
  | c :: l, l', nm + 1 => by simp [getB, getB_append' l l' nm]

theorem getB_get? : (l : List Blk) → (nm : Nat) → getB l nm = (l[nm]?).getD .gone
  | [], _ => rfl
  | c :: l, 0 => rfl
  | c :: l, nm + 1 => by simp [getB, getB_get? l nm]

/-- How many operations have not run yet. -/
def left (n : Nat) (L : Nat → Bool) : Nat := ((List.range n).filter fun i => !L i).length

theorem left_set {n : Nat} {L : Nat → Bool} {i : Nat} (hi : i < n) (hL : L i = false) : left n (fun k => if k = i then true else L k) + 1 = left n L := by
  unfold left
  induction n with
  | zero => omega
  | succ n ih =>
    simp only [List.range_succ, List.filter_append, List.length_append]
    by_cases h : i = n
    · subst h
      have : (List.filter (fun k => !(if k = i then true else L k)) (List.range i)) = List.filter (fun k => !L k) (List.range i) := by
        apply List.filter_congr
        intro k hk
        have := List.mem_range.1 hk
        simp [show k ≠ i from by omega]
      rw [this]
      simp [hL]
    · have h1 := ih (by omega)
      simp only at h1 ⊢
      have : (List.filter (fun k => !(if k = i then true else L k)) [n]) = List.filter (fun k => !L k) [n] := by
        have hn : n ≠ i := fun e => h e.symm
        simp only [List.filter_cons, List.filter_nil, hn, if_false]
      rw [this]
      omega

theorem mem_ready {L : Array Bool} {i : Nat} (hsz : L.size = ops.size) : i ∈ Region.ready .any ops L ↔ i < ops.size ∧ L.getD i false = false ∧ ∃ o, ops[i]? = some o ∧ ∀ e ∈ o.after, Region.binds .any e = true → L.getD e.on false = true := by
  unfold Region.ready
  simp only [List.mem_filter, List.mem_range, Bool.and_eq_true, Bool.not_eq_true']
  constructor
  · rintro ⟨h1, h2, h3⟩
    have ho : ops[i]? = some ops[i] := by simp [h1]
    rw [ho] at h3
    simp only [Option.map_some, Option.getD_some] at h3
    rw [Array.all_eq_true'] at h3
    refine ⟨h1, ?_, ops[i], ho, fun e he hb => ?_⟩
    · rw [Array.getD_eq_getD_getElem?] at h2 ⊢
      have : i < L.size := by omega
      simp [this] at h2 ⊢
      exact h2
    · have := h3 e he
      simpa [hb] using this
  · rintro ⟨h1, h2, o, ho, h3⟩
    refine ⟨h1, ?_, ?_⟩
    · rw [Array.getD_eq_getD_getElem?] at h2 ⊢
      have : i < L.size := by omega
      simp [this] at h2 ⊢
      exact h2
    · rw [ho]
      simp only [Option.map_some, Option.getD_some]
      rw [Array.all_eq_true']
      intro e he
      cases hb : Region.binds .any e with
      | false => simp
      | true => simp [h3 e he hb]

theorem getD_set {L : Array Bool} {i : Nat} (hi : i < L.size) : (fun k => (L.setIfInBounds i true).getD k false) = fun k => if k = i then true else L.getD k false := by
  funext k
  simp only [Array.getD_eq_getD_getElem?]
  by_cases h : k = i
  · subst h; simp [hi]
  · simp [h, Array.getElem?_setIfInBounds_ne (Ne.symm h)]

/-- The least operation that has not run is one that may come up. -/
theorem exists_ready {L : Array Bool} {m : Nat} (hsz : L.size = ops.size) (hf : DrawFacts m ops) {k : Nat} (hk : k < ops.size) (hL : L.getD k false = false) : ∃ i, i ≤ k ∧ i ∈ Region.ready .any ops L := by
  induction k using Nat.strongRecOn with
  | _ k ih =>
    by_cases h : ∃ j, j < k ∧ L.getD j false = false
    · obtain ⟨j, hj, hLj⟩ := h
      obtain ⟨i, h1, h2⟩ := ih j hj (by omega) hLj
      exact ⟨i, by omega, h2⟩
    · refine ⟨k, Nat.le_refl _, (mem_ready hsz).2 ⟨hk, hL, ops[k], by simp [hk], fun e he hb => ?_⟩⟩
      have hlt := hf.back k ops[k] (by simp [hk]) e he hb
      cases hc : L.getD e.on false with
      | true => rfl
      | false => exact absurd ⟨e.on, hlt, hc⟩ h

/-- Behind the operations that may be run in any order: the others, one behind the other. -/
theorem draw_tail {cx : Cx} {Q : Exit → Act → World → Prop} {K : St → Prop} {m : Nat} (htbl : TblOk P tbl) (hQ : ∀ a w, After P cx K a w → Q .normal a w) (hf : DrawFacts m ops) :
    ∀ (fuel : Nat) (L : Array Bool) (j : Nat) (a : Act) (w : World) (σ : St) (S : Nat → Prop) (ρ : Names), L.size = ops.size → m ≤ j → j ≤ ops.size → (∀ k, k < ops.size → (L.getD k false = true ↔ k < j)) → Closed ops (fun k => L.getD k false = true) → ops.size - j ≤ fuel →
      Holds P cx σ a w S ρ → seqx P tbl ops (ops.toList.drop j) σ K → wpAny P .any ops Q fuel L a w := by
  intro fuel
  induction fuel with
  | zero =>
    intro L j a w σ S ρ hsz hmj hj hL hc hfuel h hk
    obtain rfl : j = ops.size := by omega
    have hnone : Region.ready .any ops L = [] := by
      rw [List.eq_nil_iff_forall_not_mem]
      intro i hi
      obtain ⟨h1, h2, _⟩ := (mem_ready hsz).1 hi
      rw [(hL i h1).2 h1] at h2; cases h2
    refine ⟨hnone, hQ a w ⟨σ, S, ρ, ?_, h⟩⟩
    rw [List.drop_of_length_le (by simp)] at hk
    simpa [seqx] using hk
  | succ fuel ih =>
    intro L j a w σ S ρ hsz hmj hj hL hc hfuel h hk
    rcases Nat.lt_or_ge j ops.size with hlt | hge
    · have hjo : ops[j]? = some ops[j] := by simp [hlt]
      have hLj : L.getD j false = false := by
        cases hcj : L.getD j false with
        | false => rfl
        | true => have := (hL j hlt).1 hcj; omega
      have hdrop : ops.toList.drop j = ops[j] :: ops.toList.drop (j + 1) := by
        rw [List.drop_eq_getElem_cons (by simpa using hlt)]; simp
      rw [hdrop] at hk
      refine ⟨fun hnone => ?_, fun i hi => ?_⟩
      · obtain ⟨i, _, hi⟩ := exists_ready hsz hf hlt hLj
        rw [hnone] at hi; cases hi
      · obtain ⟨h1, h2, oi, hoi, h3⟩ := (mem_ready hsz).1 hi
        have hij : i = j := by
          rcases Nat.lt_trichotomy i j with h4 | h4 | h4
          · rw [(hL i h1).2 h4] at h2; cases h2
          · exact h4
          · exfalso
            rcases hf.pair j i ops[j] oi h4 hjo hoi with h5 | ⟨h5, _⟩ | ⟨_, h5, _⟩
            rotate_right
            · omega
            · have := closed_anc hc hoi (fun e he hb => ⟨h3 e he hb, hf.back i oi hoi e he hb⟩) hf.back j h5
              rw [hLj] at this; cases this
            · omega
        subst hij
        have hLsz : (L.setIfInBounds i true).size = ops.size := by simp [hsz]
        have hL' : ∀ k, k < ops.size → ((L.setIfInBounds i true).getD k false = true ↔ k < i + 1) := fun k hk => by
          rw [show (L.setIfInBounds i true).getD k false = (if k = i then true else L.getD k false) from congrFun (getD_set (by omega)) k]
          by_cases he : k = i
          · subst he; simp
          · rw [if_neg he, hL k hk]; omega
        have hc' : Closed ops (fun k => (L.setIfInBounds i true).getD k false = true) := by
          intro k ok hk1 hk2 e he hb
          rw [show (L.setIfInBounds i true).getD k false = (if k = i then true else L.getD k false) from congrFun (getD_set (by omega)) k] at hk1
          rw [show (L.setIfInBounds i true).getD e.on false = (if e.on = i then true else L.getD e.on false) from congrFun (getD_set (by omega)) e.on]
          split
          · rfl
          · by_cases he2 : k = i
            · subst he2; rw [hoi] at hk2; cases hk2; exact h3 e he hb
            · rw [if_neg he2] at hk1; exact hc k ok hk1 hk2 e he hb
        have hoi' : oi = ops[i] := by rw [hjo] at hoi; exact (Option.some.inj hoi).symm
        subst hoi'
        unfold wpOp
        rw [hjo]
        simp only
        rcases guardx_ok h hk with ⟨hw, σ', _, h', hr⟩ | ⟨hw, σ', _, h', hr⟩
        · rw [if_pos hw]
          refine .inl (opx_ok htbl h' hr _ Q fun v w' hv => ?_)
          obtain ⟨σ2, S2, ρ2, hk2, h2⟩ := hv
          exact ih _ (i + 1) _ _ σ2 S2 ρ2 hLsz (by omega) (by omega) hL' hc' (by omega) h2 hk2
        · rw [hw]
          simp only [Bool.false_eq_true, if_false]
          exact ih _ (i + 1) _ _ _ S ρ hLsz (by omega) (by omega) hL' hc' (by omega) (h'.putSlot _ (by simp [noVal, Rel])) hr
    · obtain rfl : j = ops.size := by omega
      have hnone : Region.ready .any ops L = [] := by
        rw [List.eq_nil_iff_forall_not_mem]
        intro i hi
        obtain ⟨h1, h2, _⟩ := (mem_ready hsz).1 hi
        rw [(hL i h1).2 h1] at h2; cases h2
      refine ⟨fun _ => hQ a w ⟨σ, S, ρ, ?_, h⟩, fun i hi => by rw [hnone] at hi; cases hi⟩
      rw [List.drop_of_length_le (by simp)] at hk
      simpa [seqx] using hk

theorem left_ge {n m : Nat} {L : Nat → Bool} (h : ∀ k, m ≤ k → L k = false) : n - m ≤ left n L := by
  unfold left
  induction n with
  | zero => omega
  | succ n ih =>
    rw [List.range_succ, List.filter_append, List.length_append]
    rcases Nat.lt_or_ge n m with h1 | h1
    · omega
    · have : (List.filter (fun i => !L i) [n]).length = 1 := by simp [h n h1]
      omega

theorem DInv.holds {cx : Cx} {m : Nat} {H0 : List Blk} {rs : List Rec} {s' : List SV} {L : Nat → Bool} {a : Act} {w : World} {S : Nat → Prop} {ρ : Names} (h : DInv P cx ops m H0 rs s' L a w S ρ) (hrs : rs.length = m) (hL : ∀ k, k < m → L k = true) :
    Holds P cx ⟨s', H0 ++ (trimN (rs.map fun r => r.q.new)).map (·.getD .gone)⟩ a w S ρ := by
  have hH : hD H0 rs L = getB (H0 ++ (trimN (rs.map fun r => r.q.new)).map (·.getD .gone)) := by
    funext nm
    rw [getB_append']
    unfold hD
    split
    · rfl
    · rename_i hge
      rw [getB_get?, List.getElem?_map]
      have ht := trimN_get (rs.map fun r => r.q.new) (nm - H0.length)
      rw [List.getElem?_map] at ht
      cases h1 : (trimN (rs.map fun r => r.q.new))[nm - H0.length]? with
      | none =>
        rw [h1] at ht
        cases h2 : rs[nm - H0.length]? with
        | none => simp
        | some r => rw [h2] at ht; simp at ht; simp [← ht]
      | some x =>
        rw [h1] at ht
        cases h2 : rs[nm - H0.length]? with
        | none => rw [h2] at ht; simp at ht; simp [ht]
        | some r =>
          rw [h2] at ht
          have hlt : nm - H0.length < m := by have := (List.getElem?_eq_some_iff.1 h2).1; omega
          rw [hL _ hlt]
          simp at ht
          simp [ht]
  have hsl : slotsAt rs s' m = s' := by simp [slotsAt, hrs]
  refine ⟨by simp only; rw [← hH]; exact h.good, ⟨h.size, fun t => ?_⟩, by simp only; rw [← hH]; exact h.since, fun nm hnm => ?_, by simp only [List.length_append]; have := h.len; omega, h.defers⟩
  · have := h.slots t m ⟨Nat.le_refl _, fun j oj hj _ _ => ⟨fun _ => hj, fun _ => hL j hj⟩⟩
    rwa [hsl] at this
  · simp only [List.length_append, List.length_map] at hnm
    have := h.fresh (nm - H0.length) fun _ => ?_
    · rwa [show H0.length + (nm - H0.length) = nm from by omega] at this
    · have ht := trimN_out (rs.map fun r => r.q.new) (nm - H0.length) (by omega)
      rw [List.getElem?_map] at ht
      cases h2 : rs[nm - H0.length]? with
      | none => rfl
      | some r => rw [h2] at ht; simpa using ht

/-- The part of a region that may be run in any order. -/
theorem draw_head {cx : Cx} {Q : Exit → Act → World → Prop} {K : St → Prop} {m : Nat} {H0 : List Blk} {rs : List Rec} {s' : List SV} (htbl : TblOk P tbl) (hQ : ∀ a w, After P cx K a w → Q .normal a w) (hf : DrawFacts m ops) (hm : m ≤ ops.size) (hrs : rs.length = m)
    (htr : ∀ i o, i < m → ops[i]? = some o → ∃ r, rs[i]? = some r ∧ r.s.length = s'.length ∧ GuardFact ops o r.s r.go ∧ (r.go = true → evA P tbl H0 (H0.length + i) r.s o.op = some r.q ∧ r.q.ob) ∧ (r.go = false → r.q = ⟨True, noVal, none⟩) ∧ Ref P (setO r.s o.dst r.q.val) (slotsAt rs s' (i + 1)))
    (hk : seqx P tbl ops (ops.toList.drop m) ⟨s', H0 ++ (trimN (rs.map fun r => r.q.new)).map (·.getD .gone)⟩ K) :
    ∀ (fuel : Nat) (L : Array Bool) (a : Act) (w : World) (S : Nat → Prop) (ρ : Names), L.size = ops.size → (∀ k, m ≤ k → L.getD k false = false) → Closed ops (fun k => L.getD k false = true) → (∀ k, k < m → early ops k = true → L.getD k false = true) → left ops.size (fun k => L.getD k false) ≤ fuel →
      DInv P cx ops m H0 rs s' (fun k => L.getD k false) a w S ρ → wpAny P .any ops Q fuel L a w := by
  intro fuel
  induction fuel with
  | zero =>
    intro L a w S ρ hsz hL hc hE hfuel h
    by_cases hall : ∃ k, k < ops.size ∧ L.getD k false = false
    · exfalso
      obtain ⟨k, hk1, hk2⟩ := hall
      have := left_set (L := fun k => L.getD k false) hk1 hk2
      omega
    · have hnm : ops.size ≤ m := by
        rcases Nat.lt_or_ge m ops.size with h1 | h1
        · exact absurd ⟨m, h1, hL m (Nat.le_refl _)⟩ hall
        · exact h1
      refine draw_tail (K := K) htbl hQ hf 0 L m a w ⟨s', H0 ++ (trimN (rs.map fun r => r.q.new)).map (·.getD .gone)⟩ S ρ hsz (Nat.le_refl _) hm (fun k hk1 => ⟨fun _ => by omega, fun _ => ?_⟩) hc (by omega) ?_ hk
      · cases hcl : L.getD k false with
        | true => rfl
        | false => exact absurd ⟨k, hk1, hcl⟩ hall
      · refine h.holds hrs fun k hk => ?_
        cases hcl : L.getD k false with
        | true => rfl
        | false => exact absurd ⟨k, by omega, hcl⟩ hall
  | succ fuel ih =>
    intro L a w S ρ hsz hL hc hE hfuel h
    by_cases hall : ∃ k, k < m ∧ L.getD k false = false
    · obtain ⟨k, hkm, hLk⟩ := hall
      refine ⟨fun hnone => ?_, fun i hi => ?_⟩
      · obtain ⟨i, _, hi⟩ := exists_ready hsz hf (show k < ops.size by omega) hLk
        rw [hnone] at hi; cases hi
      · obtain ⟨h1, h2, oi, hoi, h3⟩ := (mem_ready hsz).1 hi
        have him : i < m := by
          rcases Nat.lt_or_ge i m with h4 | h4
          · exact h4
          · exfalso
            rcases hf.pair k i ops[k] oi (by omega) (by simp) hoi with h5 | ⟨h5, _⟩ | ⟨_, _, h5⟩
            rotate_right
            · rw [hE k hkm h5] at hLk; cases hLk
            · have := closed_anc hc hoi (fun e he hb => ⟨h3 e he hb, hf.back i oi hoi e he hb⟩) hf.back k h5
              rw [hLk] at this; cases this
            · omega
        obtain ⟨r, hr, hrl, hg, hgo, hskip, hnext⟩ := htr i oi him hoi
        have hs : slotsAt rs s' i = r.s := by simp [slotsAt, hr]
        have slot : ∀ t, t ∈ oi.looksAt ops → Rel P S w ρ (get r.s t) (a.tmps.getD t undef) := fun t ht => by
          have := h.slots t i (atTime_of_ready hf hc hoi him h2 h3 (.inl ht))
          rwa [hs] at this
        have hop : ∀ x ∈ oi.op.operands, Rel P S w ρ (evS r.s x) (a.eval x) := fun x hx => by
          cases x with
          | tmp t => exact slot t (mem_looksAt_operand hx)
          | const v => exact ofConst_rel v
          | global g => exact glS_rel h.good.bounded g
          | func f => simp [evS, Act.eval, Rel, RelL]
        have hw := guardFact_wanted (P := P) (tmps := a.tmps) hg (fun g want d h1 h2 => slot d (mem_looksAt_guard h1 h2))
        have hLsz : (L.setIfInBounds i true).size = ops.size := by simp [hsz]
        have hset := getD_set (L := L) (i := i) (by omega)
        have hL' : ∀ k, m ≤ k → (L.setIfInBounds i true).getD k false = false := fun k hk => by
          rw [show (L.setIfInBounds i true).getD k false = (if k = i then true else L.getD k false) from congrFun hset k, if_neg (by omega)]
          exact hL k hk
        have hc' : Closed ops (fun k => (L.setIfInBounds i true).getD k false = true) := by
          intro k ok hk1 hk2 e he hb
          rw [show (L.setIfInBounds i true).getD k false = (if k = i then true else L.getD k false) from congrFun hset k] at hk1
          rw [show (L.setIfInBounds i true).getD e.on false = (if e.on = i then true else L.getD e.on false) from congrFun hset e.on]
          split
          · rfl
          · by_cases he2 : k = i
            · subst he2; rw [hoi] at hk2; cases hk2; exact h3 e he hb
            · rw [if_neg he2] at hk1; exact hc k ok hk1 hk2 e he hb
        have hleft : left ops.size (fun k => (L.setIfInBounds i true).getD k false) ≤ fuel := by
          rw [hset]
          have := left_set (L := fun k => L.getD k false) h1 h2
          omega
        have hE' : ∀ k, k < m → early ops k = true → (L.setIfInBounds i true).getD k false = true := fun k hk he => by
          rw [show (L.setIfInBounds i true).getD k false = (if k = i then true else L.getD k false) from congrFun hset k]
          split
          · rfl
          · exact hE k hk he
        have go : ∀ (v : Value) (w' : World), QOut P S w ρ (H0.length + i) r.q v w' → wpAny P .any ops Q fuel (L.setIfInBounds i true) (a.put oi.dst v) w' := by
          intro v w' ⟨S', ρ', hq, hv⟩
          refine ih _ _ _ S' ρ' hLsz hL' hc' hE' hleft ?_
          rw [hset]
          exact h.next hf hc hoi him h2 hm (fun i o h1 h2 => by obtain ⟨r, e1, e2, _, _, _, e3⟩ := htr i o h1 h2; exact ⟨r, e1, e2, e3⟩) hr hrs hq hv
        unfold wpOp
        rw [hoi]
        simp only
        rw [hw]
        cases hgo' : r.go with
        | true =>
          simp only [if_true]
          obtain ⟨he, hob⟩ := hgo hgo'
          refine .inl (evA_ok htbl h.good.bounded (fun nm => ?_) (fun nm b cap hl hr => ?_) hop (h.fresh i fun h5 => by rw [h2] at h5; cases h5) he hob _ Q fun v w' hv => go v w' hv)
          have := h.good.rel nm
          unfold hD at this
          split at this
          · exact this
          · rename_i h5
            rw [getB_out _ _ (by omega)]
            simp [BlkRel]
          · have h6 := live_lt hl
            exact (h.good.apart nm b cap (by unfold hD; rw [if_pos h6]; exact hl) hr).2
        | false =>
          simp only [Bool.false_eq_true, if_false]
          refine go undef w ?_
          rw [hskip hgo']
          exact ⟨S, ρ, QPost.same _ h.good.bounded, by simp [noVal, Rel]⟩
    · refine draw_tail (K := K) htbl hQ hf (fuel + 1) L m a w ⟨s', H0 ++ (trimN (rs.map fun r => r.q.new)).map (·.getD .gone)⟩ S ρ hsz (Nat.le_refl _) hm (fun k hk1 => ⟨fun h1 => ?_, fun h1 => ?_⟩) hc ?_ ?_ hk
      · rcases Nat.lt_or_ge k m with h2 | h2
        · exact h2
        · rw [hL k h2] at h1; cases h1
      · cases hcl : L.getD k false with
        | true => rfl
        | false => exact absurd ⟨k, h1, hcl⟩ hall
      · have := left_ge (n := ops.size) hL
        omega
      · refine h.holds hrs fun k hk => ?_
        cases hcl : L.getD k false with
        | true => rfl
        | false => exact absurd ⟨k, hk, hcl⟩ hall

theorem early_spec {i : Nat} (h : early ops i = true) : ∃ oi x, ops[i]? = some oi ∧ oi.op = .move (.tmp x) ∧ oi.guard = none ∧ Region.noSelect ops = true ∧ (∀ e ∈ oi.after, Region.binds .any e = false) ∧
    ∀ j oj, ops[j]? = some oj → j ≠ i → (∀ e ∈ oj.after, Region.binds .any e = true → e.on ≠ i) → oi.apart ops oj = true := by
  unfold early at h
  split at h
  · rename_i d x ty pos after ho
    simp only [Bool.and_eq_true, List.all_eq_true, List.mem_range] at h
    obtain ⟨⟨h1, h2⟩, h3⟩ := h
    rw [Array.all_eq_true'] at h2
    refine ⟨_, x, ho, rfl, rfl, h1, fun e he => by simpa using h2 e he, fun j oj hj hne hno => ?_⟩
    have h4 := h3 j (Array.getElem?_eq_some_iff.1 hj).1
    simp only [hj, Bool.or_eq_true, beq_iff_eq, hne, false_or] at h4
    rcases h4 with h4 | h4
    · obtain ⟨e, he, hb⟩ := Array.any_eq_true'.1 h4
      simp only [Bool.and_eq_true, beq_iff_eq] at hb
      exact absurd hb.2 (hno e he hb.1)
    · exact h4
  · cases h

/-- The moves that may as well be the first ones: they are. -/
theorem draw_early {cx : Cx} {Q : Exit → Act → World → Prop} {K : St → Prop} {m : Nat} {H0 : List Blk} {rs : List Rec} {s' : List SV} (htbl : TblOk P tbl) (hQ : ∀ a w, After P cx K a w → Q .normal a w) (hQp : ∀ c d v a w, Q (.panic c) (a.put d v) w → Q (.panic c) a w) (hf : DrawFacts m ops) (hm : m ≤ ops.size) (hrs : rs.length = m)
    (htr : ∀ i o, i < m → ops[i]? = some o → ∃ r, rs[i]? = some r ∧ r.s.length = s'.length ∧ GuardFact ops o r.s r.go ∧ (r.go = true → evA P tbl H0 (H0.length + i) r.s o.op = some r.q ∧ r.q.ob) ∧ (r.go = false → r.q = ⟨True, noVal, none⟩) ∧ Ref P (setO r.s o.dst r.q.val) (slotsAt rs s' (i + 1)))
    (hk : seqx P tbl ops (ops.toList.drop m) ⟨s', H0 ++ (trimN (rs.map fun r => r.q.new)).map (·.getD .gone)⟩ K) :
    ∀ (n i fuel : Nat) (L : Array Bool) (a : Act) (w : World) (S : Nat → Prop) (ρ : Names), i + n = m → L.size = ops.size → (∀ k, L.getD k false = true ↔ k < i ∧ early ops k = true) → left ops.size (fun k => L.getD k false) ≤ fuel →
      DInv P cx ops m H0 rs s' (fun k => L.getD k false) a w S ρ → wpAny P .any ops Q fuel L a w := by
  have hcl : ∀ (i : Nat) (L : Array Bool), (∀ k, L.getD k false = true ↔ k < i ∧ early ops k = true) → Closed ops (fun k => L.getD k false = true) := fun i L hL j oj hj hjo e he hb => by
    obtain ⟨o, x, h1, _, _, _, h2, _⟩ := early_spec ((hL j).1 hj).2
    rw [h1] at hjo; cases hjo
    rw [h2 e he] at hb; cases hb
  intro n
  induction n with
  | zero =>
    intro i fuel L a w S ρ him hsz hL hfuel h
    have him : i = m := by omega
    subst him
    refine draw_head htbl hQ hf hm hrs htr hk fuel L a w S ρ hsz (fun k hk => ?_) (hcl _ L hL) (fun k h1 h2 => (hL k).2 ⟨h1, h2⟩) hfuel h
    cases hc : L.getD k false with
    | false => rfl
    | true => have := ((hL k).1 hc).1; omega
  | succ n ih =>
    intro i fuel L a w S ρ him hsz hL hfuel h
    by_cases he : early ops i = true
    · obtain ⟨oi, x, hoi, hop, hgu, hns, haf, hap⟩ := early_spec he
      have hi : i < ops.size := (Array.getElem?_eq_some_iff.1 hoi).1
      have h2 : L.getD i false = false := by
        cases hc : L.getD i false with
        | false => rfl
        | true => have := ((hL i).1 hc).1; omega
      have hset := getD_set (L := L) (i := i) (by omega)
      have hl := left_set (L := fun k => L.getD k false) hi h2
      obtain ⟨fuel, rfl⟩ : ∃ f, fuel = f + 1 := ⟨fuel - 1, by omega⟩
      have hready : i ∈ Region.ready .any ops L := (mem_ready hsz).2 ⟨hi, h2, oi, hoi, fun e h1 h3 => by rw [haf e h1] at h3; cases h3⟩
      have hc := hcl i L hL
      obtain ⟨r, hr, hrl, hg, hgo, hskip, hnext⟩ := htr i oi (by omega) hoi
      have hgt : r.go = true := by unfold GuardFact at hg; rw [hgu] at hg; exact hg
      obtain ⟨he1, hob⟩ := hgo hgt
      have hs : slotsAt rs s' i = r.s := by simp [slotsAt, hr]
      have hopd : ∀ y ∈ oi.op.operands, Rel P S w ρ (evS r.s y) (a.eval y) := fun y hy => by
        cases y with
        | tmp t =>
          have := h.slots t i (atTime_of_ready hf hc hoi (by omega) h2 (fun e h1 h3 => by rw [haf e h1] at h3; cases h3) (.inl (mem_looksAt_operand hy)))
          rwa [hs] at this
        | const v => exact ofConst_rel v
        | global g => exact glS_rel h.good.bounded g
        | func f => simp [evS, Act.eval, Rel, RelL]
      have hx : ∀ w, (execOp a.eval oi).run P w = .ok (.value (a.eval (.tmp x))) w := fun w => by simp [execOp, hop, pure, StateT.pure]
      refine wpAny_first hoi (Region.noSelect_spec hns) (fun c a w h => hQp c oi.dst _ a w h) fuel L a w (fun j oj hj hne _ hno => hap j oj hj hne hno) (Go.mem_ready.2 ⟨?_, oi, hoi, fun e h1 h3 => by rw [haf e h1] at h3; cases h3⟩) (.inl ⟨by simp [Region.wanted, hgu], hx⟩) ?_
      · rw [Array.getD_eq_getD_getElem?] at h2 ⊢
        simp only [show i < L.size by omega, Array.getElem?_eq_getElem, Option.getD_some] at h2 ⊢
        exact h2
      have hstep := evA_ok htbl h.good.bounded (fun nm => ?_) (fun nm b cap hl hr => ?_) hopd (h.fresh i fun h5 => by rw [h2] at h5; cases h5) he1 hob (fun a' w' => wpAny P .any ops Q fuel (L.setIfInBounds i true) a' w') (fun _ _ _ => False) fun v w' hv => ?_
      · unfold Oper.wp at hstep
        rw [hx] at hstep
        exact hstep
      · have := h.good.rel nm
        unfold hD at this
        split at this
        · exact this
        · rename_i h5
          rw [getB_out _ _ (by omega)]
          simp [BlkRel]
      · have h6 := live_lt hl
        exact (h.good.apart nm b cap (by unfold hD; rw [if_pos h6]; exact hl) hr).2
      · obtain ⟨S', ρ', hq, hv⟩ := hv
        refine ih (i + 1) fuel _ _ _ S' ρ' (by omega) (by simp [hsz]) (fun k => ?_) (by rw [hset]; omega) ?_
        · rw [show (L.setIfInBounds i true).getD k false = (if k = i then true else L.getD k false) from congrFun hset k]
          by_cases hki : k = i
          · subst hki; simp [he]
          · rw [if_neg hki, hL k]
            exact ⟨fun h1 => ⟨by omega, h1.2⟩, fun h1 => ⟨by omega, h1.2⟩⟩
        · rw [hset]
          exact h.next hf hc hoi (by omega) h2 hm (fun i o h1 h2 => by obtain ⟨r, e1, e2, _, _, _, e3⟩ := htr i o h1 h2; exact ⟨r, e1, e2, e3⟩) hr hrs hq hv
    · refine ih (i + 1) fuel L a w S ρ (by omega) hsz (fun k => ⟨fun h1 => ⟨by have := ((hL k).1 h1).1; omega, ((hL k).1 h1).2⟩, fun h1 => (hL k).2 ⟨?_, h1.2⟩⟩) hfuel h
      rcases Nat.lt_or_ge k i with h3 | h3
      · exact h3
      · have : k = i := by omega
        subst this
        exact absurd h1.2 he

theorem trOk_len {H0 : List Blk} : (l : List Oper) → (s : List SV) → (b : Nat) → (rs : List Rec) → (s' : List SV) → TrOk P tbl ops H0 l s b rs s' → s'.length = s.length ∧ ∀ (i : Nat) (r : Rec), rs[i]? = some r → r.s.length = s.length
  | [], s, b, [], s', h => by simp only [TrOk] at h; subst h; exact ⟨rfl, fun i r hi => by simp at hi⟩
  | [], s, b, r :: rs, s', h => by simp [TrOk] at h
  | o :: l, s, b, [], s', h => by simp [TrOk] at h
  | o :: l, s, b, r :: rs, s', h => by
    obtain ⟨h1, h2, h3, h4, h5⟩ := h
    obtain ⟨g1, g2⟩ := trOk_len l _ _ rs s' h5
    rw [setO_length] at g1 g2
    refine ⟨g1.trans h1.1, fun i r' hi => ?_⟩
    cases i with
    | zero => simp at hi; subst hi; exact h1.1
    | succ i => exact (g2 i r' (by simpa using hi)).trans h1.1

/-- A region whose order is drawn: its quiet operations in whatever order, then the others. -/
theorem region_draw {cx : Cx} {Q : Exit → Act → World → Prop} {K : St → Prop} {m id : Nat} {σ : St} {a : Act} {w : World} {S : Nat → Prop} {ρ : Names} (hfol : P.follows .mixedOrders = true) (htbl : TblOk P tbl) (hQ : ∀ a w, After P cx K a w → Q .normal a w)
    (hok : drawOk m ops = true) (hm : m ≤ ops.size) (h : Holds P cx σ a w S ρ)
    (hk : drawx P tbl ops σ.H (ops.toList.take m) σ.slots [] fun s nw => seqx P tbl ops (ops.toList.drop m) ⟨s, σ.H ++ (trimN nw).map (·.getD .gone)⟩ K) :
    (Code.region id ops true).wp P Q a w := by
  obtain ⟨rs, s', htr, hrs, hk⟩ := drawx_tr _ _ _ hk
  have hrs' : rs.length = m := by rw [hrs]; simp; omega
  obtain ⟨h0, hat⟩ := trOk_at _ _ _ _ _ htr
  obtain ⟨l0, lat⟩ := trOk_len _ _ _ _ _ htr
  have hf := drawOk_facts hok
  refine wp_mono (Q := fun e a w => e = .normal ∧ Q .normal a w) (wp_region_any hfol ?_) fun e a w h => by obtain ⟨rfl, h⟩ := h; exact h
  have h' := h.drew
  simp only [List.nil_append] at hk
  have hrep : ∀ k, (Array.replicate ops.size false).getD k false = false := fun k => by
    rw [Array.getD_eq_getD_getElem?]
    by_cases hk : k < ops.size <;> simp [hk]
  refine draw_early (Q := fun e a w => e = .normal ∧ Q .normal a w) htbl (fun a w h => ⟨rfl, hQ a w h⟩) (fun _ _ _ _ _ h => by cases h.1) hf hm hrs' (fun i o hi ho => ?_) hk m 0 ops.size (Array.replicate ops.size false) a w.drew S ρ (by simp) (by simp) (fun k => by rw [hrep]; simp) (by
    unfold left
    exact Nat.le_trans (List.length_filter_le _ _) (by simp)) ?_
  · obtain ⟨r, h1, h2, h3, h4, h5⟩ := hat i o (by rw [List.getElem?_take, if_pos hi]; simpa using ho)
    exact ⟨r, h1, by rw [lat i r h1, l0], h2, by simpa using h3, h4, h5⟩
  · have hL : (fun k => (Array.replicate ops.size false).getD k false) = fun _ => false := funext hrep
    rw [hL]
    have hH : hD σ.H rs (fun _ => false) = getB σ.H := by
      funext nm
      unfold hD
      split
      · rfl
      · rename_i hge; simp [getB_out σ.H nm (by omega)]
    refine ⟨by rw [hH]; exact h'.good, by rw [hH]; exact h'.since, by rw [l0]; exact h'.slots.size, fun t i hi => ?_, fun i _ => h'.fresh _ (by omega), h'.len, h'.defers⟩
    have hb := h0.2 _ _ _ _ _ (h'.slots.rel t)
    have := slots_on (P := P) (ops := ops) (rs := rs) (s' := s') (m := m) (fun i o h1 h2 => by
      obtain ⟨r, e1, _, _, _, e2⟩ := hat i o (by rw [List.getElem?_take, if_pos h1]; simpa using h2); exact ⟨r, e1, e2⟩) hm i 0 (by have := hi.1; omega) (fun j oj _ h2 hj hd => ?_) hb
    · rwa [Nat.zero_add] at this
    · have := (hi.2 j oj (by have := hi.1; omega) hj hd).2 (by omega)
      cases this
end
end Go.Vx

namespace Go.Vx
open Go
set_option linter.unusedSectionVars false
set_option linter.unusedVariables false

/-- How a piece of code ends. -/
inductive Ex where
  | normal
  | exit (id : Nat)
  | ret

def quietEf : Option EF → Bool
  | some _ => false
  | none => true
def quietTF : Option TF → Bool
  | some tf => quietEf tf.eff
  | none => true
/-- A function value that has a contract of the plain kind. -/
def cloQ (tbl : List (FuncId × TF)) : SV → Bool
  | .fn f _ => quietTF (tlook tbl f)
  | .bd f _ => quietTF (tlook tbl f)
  | .f1 _ _ _ => true
  | .f2 _ _ _ _ => true
  | _ => false
section
variable {tbl : List (FuncId × TF)}
theorem cq_any  : cloQ tbl (.any) = false := rfl
theorem cq_int {k n} : cloQ tbl (.int k n) = false := rfl
theorem cq_bool {b} : cloQ tbl (.bool b) = false := rfl
theorem cq_kb {b} : cloQ tbl (.kb b) = false := rfl
theorem cq_str {s} : cloQ tbl (.str s) = false := rfl
theorem cq_sl {e} {xs : List e.D} : cloQ tbl (.sl e xs) = false := rfl
theorem cq_nils  : cloQ tbl (.nils) = false := rfl
theorem cq_osl {nm n} : cloQ tbl (.osl nm n) = false := rfl
theorem cq_mp {nm} : cloQ tbl (.mp nm) = false := rfl
theorem cq_slf {e} {xs : List e.D} : cloQ tbl (.slf e xs) = false := rfl
theorem cq_ag {t} {x : t.D} : cloQ tbl (.ag t x) = false := rfl
theorem cq_pp {t} {x : t.D} : cloQ tbl (.pp t x) = false := rfl
theorem cq_ptr {nm off} : cloQ tbl (.ptr nm off) = false := rfl
theorem cq_eptr {nm e i} : cloQ tbl (.eptr nm e i) = false := rfl
theorem cq_nilp  : cloQ tbl (.nilp) = false := rfl
theorem cq_agg {l} : cloQ tbl (.agg l) = false := rfl
theorem cq_tup {l} : cloQ tbl (.tup l) = false := rfl
theorem cq_nilf  : cloQ tbl (.nilf) = false := rfl
theorem cq_ifc {t v} : cloQ tbl (.ifc t v) = false := rfl
theorem cq_nili  : cloQ tbl (.nili) = false := rfl
theorem cq_raw {v} : cloQ tbl (.raw v) = false := rfl
theorem cq_noVal : cloQ tbl noVal = false := rfl
theorem cq_fn {f caps} : cloQ tbl (.fn f caps) = quietTF (tlook tbl f) := rfl
theorem cq_bd {f l} : cloQ tbl (.bd f l) = quietTF (tlook tbl f) := rfl
theorem cq_nil0  : cloQ tbl .nil0 = false := rfl
theorem cq_osub {nm sz n i} : cloQ tbl (.osub nm sz n i) = false := rfl
theorem cq_f1 {a c F} : cloQ tbl (.f1 a c F) = true := rfl
theorem cq_f2 {a b c F} : cloQ tbl (.f2 a b c F) = true := rfl
end

/-- Is an operation one of those that may be run in any order? (Else it waits for all ahead of it.) E: slots of the region's own empty literals; F: slots of function values. -/
def opQuiet (tbl : List (FuncId × TF)) (s : List SV) (E F : List Nat) : Op → Bool
  | .store .. | .mapUpdate .. | .insert .. | .next .. | .range .. | .entryStore .. | .mapEntry .. | .defer _ | .go _ | .send .. | .recv .. | .select .. | .panic _ | .makeMap .. => false
  | .call c => match c.callee with
    | .builtin b => match b with
      | .len | .cap | .max | .min => true
      | .append => onEmpty E c.args.toList
      | _ => false
    | .value (.func f) => quietTF (tlook tbl f)
    | .value (.tmp t) => F.contains t || cloQ tbl (Vx.get s t)
    | _ => true
  | _ => true
where
  onEmpty (E : List Nat) : List Operand → Bool
  | .tmp t :: _ => E.contains t
  | .const (.slice none 0 0) :: _ => true
  | _ => false

/-- An empty literal's slot. -/
def litSlot (d : Option Tmp) : Op → List Nat
  | .buildSlice _ 0 _ => d.toList
  | _ => []

/-- A function value's slot. -/
def cloSlot (tbl : List (FuncId × TF)) (s : List SV) (F : List Nat) (d : Option Tmp) : Op → List Nat
  | .move (.tmp t) => if F.contains t || cloQ tbl (Vx.get s t) then d.toList else []
  | _ => []

def quietPre (tbl : List (FuncId × TF)) (s : List SV) : List Nat → List Nat → List Oper → Nat
  | _, _, [] => 0
  | E, F, o :: l => if opQuiet tbl s E F o.op then quietPre tbl s (litSlot o.dst o.op ++ E) (cloSlot tbl s F o.dst o.op ++ F) l + 1 else 0

/-- Slots that a piece of code writes. -/
def wrote : Code → List Nat
  | .region _ ops _ => ops.toList.filterMap (·.dst)
  | .seq a b => wrote a ++ wrote b
  | .cond _ a b => wrote a ++ wrote b
  | .block _ a => wrote a
  | .loop a => wrote a
  | .scope a => wrote a
  | _ => []

def havoc (s : List SV) : List Nat → List SV
  | [] => s
  | d :: l => havoc (setS s d .any) l

def setSs (s : List SV) : List (Nat × SV) → List SV
  | [] => s
  | (d, x) :: l => setSs (setS s d x) l

def setBs (h : List Blk) : List (Nat × Blk) → List Blk
  | [] => h
  | (d, x) :: l => setBs (setB h d x) l

def atHead (σ : St) (W : List Nat) (ups : List (Nat × SV)) (hups : List (Nat × Blk)) : St := { slots := setSs (havoc σ.slots W) ups, H := setBs σ.H hups }

/-! #### what is known may be forgotten -/

def le1 (s s' : SV) : Prop :=
  match s' with
  | .any => True
  | .bool b' => match s with
    | .bool b => b = b'
    | .kb b => b = b'
    | _ => False
  | .sl e xs => match s with
    | .nils => xs = ([] : List e.D)
    | .slf e' ys => SV.sl e' ys = .sl e xs
    | s => s = .sl e xs
  | s' => s = s'

def leS : List SV → List SV → Prop
  | [], [] => True
  | s :: l, s' :: l' => le1 s s' ∧ leS l l'
  | _, _ => False

def leB (b b' : Blk) : Prop :=
  match b' with
  | .gone => True
  | .cells l' t' => match b with
    | .cells l t => t = t' ∧ leS l l'
    | _ => False
  | .frame l' vs' => match b with
    | .frame l vs => vs = vs' ∧ leS l l'
    | _ => False
  | b' => b = b'

def leH : List Blk → List Blk → Prop
  | _, [] => True
  | b :: l, b' :: l' => leB b b' ∧ leH l l'
  | [], _ :: _ => False

/-- The names that a value tells of lie below n. -/
def below (n : Nat) : SV → Prop
  | .ptr nm _ => nm < n
  | .eptr nm _ _ => nm < n
  | .osl nm _ => nm < n
  | .mp nm => nm < n
  | .agg l => belowL n l
  | .tup l => belowL n l
  | .fn _ l => belowL n l
  | .bd _ l => belowL n l
  | .osub nm _ _ _ => nm < n
  | .ifc _ x => below n x
  | _ => True
where belowL (n : Nat) : List SV → Prop
  | [] => True
  | s :: l => below n s ∧ belowL n l

def belowB (n : Nat) : Blk → Prop
  | .cells l _ => below.belowL n l
  | .frame l _ => below.belowL n l
  | _ => True

def belowH (n : Nat) : List Blk → Prop
  | [] => True
  | b :: l => belowB n b ∧ belowH n l

/-- σ knows all that σ' knows. -/
def Sub (σ σ' : St) : Prop := leS σ.slots σ'.slots ∧ leH σ.H σ'.H ∧ below.belowL σ'.H.length σ'.slots ∧ belowH σ'.H.length σ'.H

/-- A loop: an invariant over ghost values g. -/
def LoopVC (run : St → (Ex → St → Prop) → Prop) (W : List Nat) (σ : St) (K : Ex → St → Prop) : Prop :=
  ∃ (γ : Type) (ups : γ → List (Nat × SV)) (hups : γ → List (Nat × Blk)) (inv : γ → Prop) (μ : γ → Nat),
    (∃ g, inv g ∧ Sub σ (atHead σ W (ups g) (hups g))) ∧
    ∀ g, inv g → run (atHead σ W (ups g) (hups g)) fun e σ' => match e with
      | .normal => ∃ g', inv g' ∧ μ g' < μ g ∧ Sub σ' (atHead σ W (ups g') (hups g'))
      | e => K e σ'

/-- A slot, or (from 10000 on, 100 a block) a cell of a block. -/
def getC : Blk → Nat → SV
  | .cells l _, i => get l i
  | _, _ => .any
def setC : Blk → Nat → SV → Blk
  | .cells l t, i, x => .cells (setS l i x) t
  | b, _, _ => b
def getA (σ : St) (d : Nat) : SV := if d < 10000 then get σ.slots d else getC (getB σ.H ((d - 10000) / 100)) ((d - 10000) % 100)
def setA (σ : St) (d : Nat) (x : SV) : St := if d < 10000 then { slots := setS σ.slots d x, H := σ.H } else { slots := σ.slots, H := setB σ.H ((d - 10000) / 100) (setC (getB σ.H ((d - 10000) / 100)) ((d - 10000) % 100) x) }

/-- Nil slices that are the call's own from here on: their places, their elements' types. -/
def adopt : St → List (Nat × Ty × TypeId) → St
  | σ, [] => σ
  | σ, (d, e, t) :: l => adopt (setA { slots := σ.slots, H := σ.H ++ [.own e [] t] } d (.osl σ.H.length 0)) l

def adoptOk : St → List (Nat × Ty × TypeId) → Prop
  | _, [] => True
  | σ, (d, e, t) :: l => getA σ d = .nils ∧ adoptOk (setA { slots := σ.slots, H := σ.H ++ [.own e [] t] } d (.osl σ.H.length 0)) l

/-- A loop of so many rounds at most. -/
def UnrollVC (run : St → (Ex → St → Prop) → Prop) : Nat → St → (Ex → St → Prop) → Prop
  | 0, _, _ => False
  | n + 1, σ, K => run σ fun e σ' => match e with
    | .normal => UnrollVC run n σ' K
    | e => K e σ'

/-- The executor. -/
def exec (P : Program) (tbl : List (FuncId × TF)) : Code → St → (Ex → St → Prop) → Prop
  | .skip, σ, K => K .normal σ
  | .region _ ops false, σ, K => seqx P tbl ops ops.toList σ (K .normal)
  | .region _ ops true, σ, K => drawOk (quietPre tbl σ.slots [] [] ops.toList) ops = true ∧
      drawx P tbl ops σ.H (ops.toList.take (quietPre tbl σ.slots [] [] ops.toList)) σ.slots [] fun s nw => seqx P tbl ops (ops.toList.drop (quietPre tbl σ.slots [] [] ops.toList)) ⟨s, σ.H ++ (trimN nw).map (·.getD .gone)⟩ (K .normal)
  | .seq a b, σ, K => exec P tbl a σ fun e σ' => match e with
      | .normal => exec P tbl b σ' K
      | e => K e σ'
  | .cond c x y, σ, K => match evS σ.slots c with
      | .kb true => exec P tbl x σ K
      | .kb false => exec P tbl y σ K
      | .bool b => (b = true → exec P tbl x σ K) ∧ (b = false → exec P tbl y σ K)
      | _ => False
  | .block id c, σ, K => exec P tbl c σ fun e σ' => match e with
      | .exit j => if j = id then K .normal σ' else K (.exit j) σ'
      | e => K e σ'
  | .loop c, σ, K => (∃ ad, adoptOk σ ad ∧ LoopVC (exec P tbl c) (wrote c) (adopt σ ad) K) ∨ ∃ n, UnrollVC (exec P tbl c) n σ K
  | .exit id, σ, K => K (.exit id) σ
  | .ret, σ, K => K .ret σ
  | .label _, σ, K => K .normal σ
  | _, _, _ => False

end Go.Vx

namespace Go.Vx
open Go
set_option linter.unusedSectionVars false
set_option linter.unusedVariables false

def Ex.to : Ex → Exit
  | .normal => .normal
  | .exit id => .exit id
  | .ret => .ret

section
variable {P : Program} {tbl : List (FuncId × TF)}

theorem le1_ok {S : Nat → Prop} {w : World} {ρ : Names} {s s' : SV} {v : Value} (h : le1 s s') (hr : Rel P S w ρ s v) : Rel P S w ρ s' v := by
  unfold le1 at h
  split at h
  · simp only [Rel]
  · split at h
    · subst h; exact hr
    · subst h; simpa only [Rel] using hr
    · exact h.elim
  · split at h
    · subst h
      simp only [Rel] at hr ⊢
      obtain ⟨A, rfl⟩ := hr
      exact ⟨A, 0, rfl, ⟨by simp, fun h => absurd rfl h⟩⟩
    · cases h
      simp only [Rel] at hr ⊢
      exact hr.2
    · subst h; exact hr
  · subst h; exact hr

theorem leS_len : (l l' : List SV) → leS l l' → l.length = l'.length
  | [], [], _ => rfl
  | s :: l, s' :: l', h => by simp [leS_len l l' h.2]
  | [], _ :: _, h => h.elim
  | _ :: _, [], h => h.elim

theorem leS_get : (l l' : List SV) → leS l l' → ∀ t, le1 (get l t) (get l' t)
  | [], [], _, t => by simp [get, le1]
  | s :: l, s' :: l', h, 0 => h.1
  | s :: l, s' :: l', h, t + 1 => leS_get l l' h.2 t
  | [], _ :: _, h, _ => h.elim
  | _ :: _, [], h, _ => h.elim

theorem leS_rel {S : Nat → Prop} {w : World} {ρ : Names} : (l l' : List SV) → leS l l' → {vs : List Value} → RelL P S w ρ l vs → RelL P S w ρ l' vs
  | [], [], _, vs, h => h
  | s :: l, s' :: l', h, vs, hr => by
    simp only [RelL] at hr ⊢
    obtain ⟨v, vs', e, h1, h2⟩ := hr
    exact ⟨v, vs', e, le1_ok h.1 h1, leS_rel l l' h.2 h2⟩
  | [], _ :: _, h, _, _ => h.elim
  | _ :: _, [], h, _, _ => h.elim

theorem leH_get : (l l' : List Blk) → leH l l' → ∀ nm, leB (getB l nm) (getB l' nm)
  | l, [], _, nm => by simp [getB, leB]
  | b :: l, b' :: l', h, 0 => h.1
  | b :: l, b' :: l', h, nm + 1 => leH_get l l' h.2 nm
  | [], _ :: _, h, _ => h.elim

theorem belowH_get {n : Nat} : (l : List Blk) → belowH n l → ∀ nm, belowB n (getB l nm)
  | [], _, nm => by simp [getB, belowB]
  | b :: l, h, 0 => h.1
  | b :: l, h, nm + 1 => belowH_get l h.2 nm

theorem belowL_get {n : Nat} : (l : List SV) → below.belowL n l → ∀ t, below n (get l t)
  | [], _, t => by simp [get, below]
  | b :: l, h, 0 => by simp only [below.belowL] at h; exact h.1
  | b :: l, h, t + 1 => by simp only [below.belowL] at h; exact belowL_get l h.2 t

def cutN (ρ : Names) (n : Nat) : Names := fun nm => if nm < n then ρ nm else none

mutual
theorem below_rel {S : Nat → Prop} {w : World} {ρ : Names} {n : Nat} : (s : SV) → {v : Value} → below n s → Rel P S w ρ s v → Rel P S w (cutN ρ n) s v
  | .any, v, _, h => by simp only [Rel]
  | .int k m, v, _, h => by simpa only [Rel] using h
  | .bool b, v, _, h => by simpa only [Rel] using h
  | .kb b, v, _, h => by simpa only [Rel] using h
  | .str s, v, _, h => by simpa only [Rel] using h
  | .sl e xs, v, _, h => by simpa only [Rel] using h
  | .nils, v, _, h => by simpa only [Rel] using h
  | .osl nm m, v, hb, h => by
    simp only [below] at hb
    simp only [Rel, cutN, hb, if_true] at h ⊢; exact h
  | .slf e xs, v, _, h => by simpa only [Rel] using h
  | .ag t x, v, _, h => by simpa only [Rel] using h
  | .pp t x, v, _, h => by simpa only [Rel] using h
  | .f1 a c F, v, _, h => by simpa only [Rel] using h
  | .f2 a b c F, v, _, h => by simpa only [Rel] using h
  | .ptr nm off, v, hb, h => by
    simp only [below] at hb
    simp only [Rel, cutN, hb, if_true] at h ⊢; exact h
  | .eptr nm e i, v, hb, h => by
    simp only [below] at hb
    simp only [Rel, cutN, hb, if_true] at h ⊢; exact h
  | .nilp, v, _, h => by simpa only [Rel] using h
  | .agg l, v, hb, h => by
    simp only [below] at hb
    simp only [Rel] at h ⊢
    obtain ⟨cs, e, h⟩ := h
    exact ⟨cs, e, below_relL l hb h⟩
  | .tup l, v, hb, h => by
    simp only [below] at hb
    simp only [Rel] at h ⊢
    obtain ⟨cs, e, h⟩ := h
    exact ⟨cs, e, below_relL l hb h⟩
  | .fn f l, v, hb, h => by
    simp only [below] at hb
    simp only [Rel] at h ⊢
    obtain ⟨cs, e, h⟩ := h
    exact ⟨cs, e, below_relL l hb h⟩
  | .bd f l, v, hb, h => by
    simp only [below] at hb
    simp only [Rel] at h ⊢
    obtain ⟨cs, e, h⟩ := h
    exact ⟨cs, e, below_relL l hb h⟩
  | .nil0, v, _, h => by simpa only [Rel] using h
  | .osub nm sz k i, v, hb, h => by
    simp only [below] at hb
    simp only [Rel, cutN, hb, if_true] at h ⊢; exact h
  | .nilf, v, _, h => by simpa only [Rel] using h
  | .mp nm, v, hb, h => by
    simp only [below] at hb
    simp only [Rel, cutN, hb, if_true] at h ⊢; exact h
  | .ifc t x, v, hb, h => by
    simp only [below] at hb
    simp only [Rel] at h ⊢
    obtain ⟨u, e, h⟩ := h
    exact ⟨u, e, below_rel x hb h⟩
  | .nili, v, _, h => by simpa only [Rel] using h
  | .raw u, v, _, h => by simpa only [Rel] using h
theorem below_relL {S : Nat → Prop} {w : World} {ρ : Names} {n : Nat} : (l : List SV) → {vs : List Value} → below.belowL n l → RelL P S w ρ l vs → RelL P S w (cutN ρ n) l vs
  | [], vs, _, h => by simpa only [RelL] using h
  | s :: l, vs, hb, h => by
    simp only [below.belowL] at hb
    simp only [RelL] at h ⊢
    obtain ⟨v, vs', e, h1, h2⟩ := h
    exact ⟨v, vs', e, below_rel s hb.1 h1, below_relL l hb.2 h2⟩
end

theorem Sub_ok {cx : Cx} {σ σ' : St} {a : Act} {w : World} {S : Nat → Prop} {ρ : Names} (h : Holds P cx σ a w S ρ) (hs : Sub σ σ') (hlen : cx.H0.length ≤ σ'.H.length) : Holds P cx σ' a w S (cutN ρ σ'.H.length) := by
  obtain ⟨h1, h2, h3, h4⟩ := hs
  have hlt : ∀ nm, (getB σ'.H nm).live = true → nm < σ'.H.length := fun nm hl => live_lt hl
  have hlive : ∀ nm, (getB σ'.H nm).live = true → (getB σ.H nm).live = true := fun nm hl => by
    have := leH_get _ _ h2 nm
    unfold leB at this
    split at this
    · rename_i e; rw [e] at hl; cases hl
    · split at this
      · rename_i e; rw [e]; rfl
      · exact this.elim
    · rename_i e; rw [e] at hl; cases hl
    · rw [this]; exact hl
  have hownb : ∀ nm, (getB σ'.H nm).isOwn = true → (getB σ.H nm).isOwn = true := fun nm hl => by
    have := leH_get _ _ h2 nm
    unfold leB at this
    split at this
    · rename_i e; rw [e] at hl; cases hl
    · rename_i e; rw [e] at hl; cases hl
    · rename_i e; rw [e] at hl; cases hl
    · rw [this]; exact hl
  have hcut : ∀ nm b cap, (getB σ'.H nm).live = true → cutN ρ σ'.H.length nm = some (some b, cap) → ρ nm = some (some b, cap) := fun nm b cap hl hr => by
    simpa [cutN, hlt nm hl] using hr
  refine ⟨⟨h.good.bounded, fun nm => ?_, fun nm b cap hl hr => h.good.apart nm b cap (hlive nm hl) (hcut nm b cap hl hr), fun nm nm' b c1 c2 hl hl' hr hr' => h.good.inj nm nm' b c1 c2 (hlive nm hl) (hlive nm' hl') (hcut nm b c1 hl hr) (hcut nm' b c2 hl' hr')⟩,
    ⟨by rw [h.slots.size, leS_len _ _ h1], fun t => below_rel _ (belowL_get _ h3 t) (le1_ok (leS_get _ _ h1 t) (h.slots.rel t))⟩,
    ⟨h.since.sub, h.since.size, h.since.os, h.since.tape, h.since.output, h.since.old, fun nm b cap hl hr => h.since.own nm b cap (hlive nm hl) (hcut nm b cap hl hr), h.since.pers, fun nm hnm ho => by rw [← h.since.names nm hnm ho]; simp [cutN, show nm < σ'.H.length by omega], fun nm hk hl => h.since.ownH nm (hownb nm hk) hl⟩,
    fun nm hnm => by simp [cutN, Nat.not_lt.2 hnm], hlen, h.defers⟩
  have hb := h.good.rel nm
  have hbl := belowH_get _ h4 nm
  have hle := leH_get _ _ h2 nm
  unfold leB at hle
  split at hle
  · rename_i e; rw [e]; simp [BlkRel]
  · rename_i l' t' e
    rw [e] at hbl ⊢
    have hlt' := hlt nm (by rw [e]; rfl)
    split at hle
    · rename_i l t e2
      rw [e2] at hb
      obtain ⟨rfl, hls⟩ := hle
      obtain ⟨b, cap, hb1, cs, hb2, hb3⟩ := hb
      exact ⟨b, cap, by simp [cutN, hlt', hb1], cs, hb2, below_relL _ hbl (leS_rel _ _ hls hb3)⟩
    · exact hle.elim
  · rename_i l' vs' e
    rw [e] at hbl ⊢
    split at hle
    · rename_i l vs e2
      rw [e2] at hb
      obtain ⟨rfl, hls⟩ := hle
      exact below_relL _ hbl (leS_rel _ _ hls hb)
    · exact hle.elim
  · rename_i h5 h6 h7
    rw [hle] at hb
    have hlt' : (getB σ'.H nm).live = true → nm < σ'.H.length := hlt nm
    cases hbb : getB σ'.H nm with
    | gone => simp [BlkRel]
    | cells l t => exact absurd hbb (h6 l t)
    | frame l vs => exact absurd hbb (h7 l vs)
    | own e xs t =>
      rw [hbb] at hb hlt'
      obtain ⟨ob, cap, g1, g2⟩ := hb
      exact ⟨ob, cap, by simp [cutN, hlt' rfl, g1], g2⟩
    | mp d e m =>
      rw [hbb] at hb hlt'
      obtain ⟨b, cap, g1, g2⟩ := hb
      exact ⟨b, cap, by simp [cutN, hlt' rfl, g1], g2⟩
    | iter s pos =>
      rw [hbb] at hb hlt'
      obtain ⟨b, cap, g1, g2⟩ := hb
      exact ⟨b, cap, by simp [cutN, hlt' rfl, g1], g2⟩

theorem setBs_length : (l : List (Nat × Blk)) → (h : List Blk) → (setBs h l).length = h.length
  | [], h => rfl
  | (d, x) :: l, h => by rw [setBs, setBs_length l]; exact setB_length _ _ _

theorem get_at : (l : List SV) → (i : Nat) → i < l.length → l[i]? = some (get l i)
  | s :: l, 0, _ => rfl
  | s :: l, i + 1, h => by simpa [get] using get_at l i (by simpa using h)

theorem relL_setS {S : Nat → Prop} {w : World} {ρ : Names} {x : SV} : (l : List SV) → {cs : List Value} → (i : Nat) → RelL P S w ρ l cs → (∀ v, cs[i]? = some v → Rel P S w ρ x v) → RelL P S w ρ (setS l i x) cs
  | [], cs, i, h, _ => h
  | s :: l, cs, 0, h, hx => by
    simp only [RelL] at h
    obtain ⟨v, vs', rfl, h1, h2⟩ := h
    simp only [setS, RelL]
    exact ⟨v, vs', rfl, hx v rfl, h2⟩
  | s :: l, cs, i + 1, h, hx => by
    simp only [RelL] at h
    obtain ⟨v, vs', rfl, h1, h2⟩ := h
    simp only [setS, RelL]
    exact ⟨v, vs', rfl, h1, relL_setS l i h2 fun v hv => hx v (by simpa using hv)⟩

theorem Holds.adopt {cx : Cx} {a : Act} {w : World} {S : Nat → Prop} : (ad : List (Nat × Ty × TypeId)) → {σ : St} → {ρ : Names} → Holds P cx σ a w S ρ → adoptOk σ ad → ∃ ρ', Holds P cx (Vx.adopt σ ad) a w S ρ'
  | [], σ, ρ, h, _ => ⟨ρ, h⟩
  | (d, e, t) :: l, σ, ρ, h, hk => by
    obtain ⟨h1, h2⟩ := hk
    have hfr := h.fresh σ.H.length (Nat.le_refl _)
    have hn : setN ρ σ.H.length (none, 0) σ.H.length = some (none, 0) := by simp [setN]
    have hkeep : Keep ρ (setN ρ σ.H.length (none, 0)) := setN_keep hfr
    have hp := h.put (S' := S) (w' := w) (ρ' := setN ρ σ.H.length (none, 0)) (q := ⟨True, .osl σ.H.length 0, some (.own e [] t)⟩) (v := .slice none 0 0) none ⟨Ext.refl h.good.bounded, setN_keep hfr, fun k hk => by simp [setN, hk], fun h => (by cases h), fun blk hb => by
      cases hb
      exact ⟨⟨none, 0, hn, Nat.le_refl _, rfl⟩, fun b cap he => by rw [hn] at he; cases he⟩⟩ (by simp only [Rel]; exact ⟨none, 0, none, hn, ⟨rfl, rfl⟩, rfl⟩)
    have hnil : ∀ v, Rel P S w ρ .nils v → Rel P S w (setN ρ σ.H.length (none, 0)) (.osl σ.H.length 0) v := fun v hv => by
      simp only [Rel] at hv ⊢
      obtain ⟨A, hv⟩ := hv
      exact ⟨none, 0, A, hn, ⟨rfl, rfl⟩, hv⟩
    have hlt0 : ∀ (b : Blk) i x, getC b i = x → x ≠ .any → ∃ l t', b = .cells l t' ∧ get l i = x := fun b i x hb hx => by
      cases b with
      | cells l t' => exact ⟨l, t', rfl, hb⟩
      | _ => exact absurd hb.symm hx
    refine Holds.adopt l (ρ := setN ρ σ.H.length (none, 0)) ?_ h2
    unfold getA at h1
    unfold setA
    split at h1
    · rename_i hd
      rw [if_pos hd]
      have hr := h.slots.rel d
      rw [h1] at hr
      exact hp.same (d := d) (x := .osl σ.H.length 0) (by simp only [Act.put]; exact hnil _ hr)
    · rename_i hd
      rw [if_neg hd]
      obtain ⟨l0, t0, hb0, hg0⟩ := hlt0 _ _ _ h1 (by simp)
      generalize (d - 10000) / 100 = nm at *
      generalize (d - 10000) % 100 = i at *
      have hlive0 : (getB σ.H nm).live = true := by rw [hb0]; rfl
      have hlt := live_lt hlive0
      have hb1 : getB (σ.H ++ [.own e [] t]) nm = .cells l0 t0 := by rw [getB_append, if_neg (by omega)]; exact hb0
      have hrel0 := h.good.rel nm
      rw [hb0] at hrel0
      obtain ⟨b, cap, g1, cs, g2, g3⟩ := hrel0
      have hcell : RelL P S w (setN ρ σ.H.length (none, 0)) (setS l0 i (.osl σ.H.length 0)) cs := relL_setS l0 i (RelL.fut ⟨fun _ h => h, fun _ _ => rfl⟩ hkeep l0 g3) fun v hv => hnil v (by
        have hil : i < l0.length := by
          have := (List.getElem?_eq_some_iff.1 hv).1
          rw [g3.length] at this; exact this
        obtain ⟨v', e1, e2⟩ := g3.get i _ (show l0[i]? = some (get l0 i) from get_at l0 i hil)
        rw [hg0] at e2
        rw [e1] at hv; cases hv
        exact e2)
      have hu := hp.update (w' := w) (nm := nm) (b := b) (cap := cap) (blk' := .cells (setS l0 i (.osl σ.H.length 0)) t0) (by show (getB (σ.H ++ [.own e [] t]) nm).live = true; rw [hb1]; rfl) (hkeep _ _ g1) rfl rfl rfl rfl (fun _ _ => rfl)
        (fun _ => ⟨b, cap, hkeep _ _ g1, cs, g2, hcell⟩) (by show (getB (σ.H ++ [.own e [] t]) nm).isOwn = _; rw [hb1]; rfl)
      have e1 : setC (getB (σ.H ++ [.own e [] t]) nm) i (.osl σ.H.length 0) = .cells (setS l0 i (.osl σ.H.length 0)) t0 := by rw [hb1]; rfl
      show Holds P cx { slots := σ.slots, H := setB (σ.H ++ [.own e [] t]) nm (setC (getB (σ.H ++ [.own e [] t]) nm) i (.osl σ.H.length 0)) } a w S (setN ρ σ.H.length (none, 0))
      rw [e1]
      exact hu

theorem adopt_len : (ad : List (Nat × Ty × TypeId)) → (σ : St) → σ.H.length ≤ (Vx.adopt σ ad).H.length
  | [], σ => Nat.le_refl _
  | (d, e, t) :: l, σ => by
    have := adopt_len l (setA { slots := σ.slots, H := σ.H ++ [.own e [] t] } d (.osl σ.H.length 0))
    have e2 : (setA { slots := σ.slots, H := σ.H ++ [.own e [] t] } d (.osl σ.H.length 0)).H.length = σ.H.length + 1 := by
      unfold setA
      split <;> simp [setB_length]
    simp only [Vx.adopt]
    omega

theorem exec_ok {cx : Cx} (hfol : P.follows .mixedOrders = true) (htbl : TblOk P tbl) : (c : Code) → {σ : St} → {K : Ex → St → Prop} → {a : Act} → {w : World} → {S : Nat → Prop} → {ρ : Names} → {Q : Exit → Act → World → Prop} →
    Holds P cx σ a w S ρ → exec P tbl c σ K → (∀ e a w, After P cx (K e) a w → Q e.to a w) → c.wp P Q a w
  | .skip, σ, K, a, w, S, ρ, Q, h, hk, hQ => wp_skip (hQ .normal a w ⟨σ, S, ρ, hk, h⟩)
  | .region id ops false, σ, K, a, w, S, ρ, Q, h, hk, hQ => region_seq htbl (fun a w hA => hQ .normal a w hA) h hk
  | .region id ops true, σ, K, a, w, S, ρ, Q, h, hk, hQ => by
    obtain ⟨h1, h2⟩ := hk
    refine region_draw hfol htbl (fun a w hA => hQ .normal a w hA) h1 ?_ h h2
    have : ∀ (l : List Oper) (E F : List Nat), quietPre tbl σ.slots E F l ≤ l.length := by
      intro l
      induction l with
      | nil => intro E F; simp [quietPre]
      | cons o l ih => intro E F; have := ih (litSlot o.dst o.op ++ E) (cloSlot tbl σ.slots F o.dst o.op ++ F); simp only [quietPre, List.length_cons]; split <;> omega
    simpa using this ops.toList [] []
  | .seq x y, σ, K, a, w, S, ρ, Q, h, hk, hQ => by
    refine wp_seq (exec_ok hfol htbl x h hk fun e a w hA => ?_)
    obtain ⟨σ', S', ρ', hk', h'⟩ := hA
    cases e with
    | normal => exact exec_ok hfol htbl y h' hk' hQ
    | exit j => exact hQ (.exit j) a w ⟨σ', S', ρ', hk', h'⟩
    | ret => exact hQ .ret a w ⟨σ', S', ρ', hk', h'⟩
  | .cond c x y, σ, K, a, w, S, ρ, Q, h, hk, hQ => by
    have hr := evS_rel h.good.bounded h.slots c
    unfold exec at hk
    split at hk
    · rename_i e; rw [e] at hr; simp only [Rel] at hr
      exact wp_cond hr (exec_ok hfol htbl x h hk hQ)
    · rename_i e; rw [e] at hr; simp only [Rel] at hr
      exact wp_cond hr (exec_ok hfol htbl y h hk hQ)
    · rename_i b e; rw [e] at hr; simp only [Rel] at hr
      exact wp_cond_split hr (fun hb => exec_ok hfol htbl x h (hk.1 hb) hQ) (fun hb => exec_ok hfol htbl y h (hk.2 hb) hQ)
    · exact hk.elim
  | .block id c, σ, K, a, w, S, ρ, Q, h, hk, hQ => by
    refine wp_block (exec_ok hfol htbl c h hk fun e a w hA => ?_)
    obtain ⟨σ', S', ρ', hk', h'⟩ := hA
    cases e with
    | normal => exact hQ .normal a w ⟨σ', S', ρ', hk', h'⟩
    | exit j =>
      simp only [Ex.to, Exit.inBlock]
      simp only at hk'
      split at hk'
      · rename_i he; rw [if_pos he]; exact hQ .normal a w ⟨σ', S', ρ', hk', h'⟩
      · rename_i he; rw [if_neg he]; exact hQ (.exit j) a w ⟨σ', S', ρ', hk', h'⟩
    | ret => exact hQ .ret a w ⟨σ', S', ρ', hk', h'⟩
  | .loop c, σ, K, a, w, S, ρ, Q, h, hk, hQ => by
    rcases hk with ⟨ad, hak, γ, ups, hups, inv, μ, ⟨g0, hi0, hs0⟩, hround⟩ | ⟨n, hk⟩
    rotate_left
    · refine wp_loop_rounds n ?_
      induction n generalizing σ a w S ρ with
      | zero => exact hk.elim
      | succ n ih =>
        refine exec_ok hfol htbl c h hk fun e a w hA => ?_
        obtain ⟨σ', S', ρ', hk', h'⟩ := hA
        cases e with
        | normal => exact ih _ _ _ _ _ h' hk'
        | exit j => exact hQ (.exit j) a w ⟨σ', S', ρ', hk', h'⟩
        | ret => exact hQ .ret a w ⟨σ', S', ρ', hk', h'⟩
    obtain ⟨ρ1, h1⟩ := h.adopt ad hak
    have hle := adopt_len ad σ
    clear h
    have h := h1
    clear h1
    generalize Vx.adopt σ ad = σ at *
    have hl : ∀ g, (atHead σ (wrote c) (ups g) (hups g)).H.length = σ.H.length := fun g => setBs_length _ _
    refine wp_loop_ghost (fun n a w => ∃ g S ρ, μ g = n ∧ inv g ∧ Holds P cx (atHead σ (wrote c) (ups g) (hups g)) a w S ρ) (μ g0) ⟨g0, S, _, rfl, hi0, Sub_ok h hs0 (by rw [hl]; exact h.len)⟩ ?_
    rintro n a w ⟨g, S, ρ, rfl, hi, hh⟩
    refine exec_ok hfol htbl c hh (hround g hi) fun e a w hA => ?_
    obtain ⟨σ', S', ρ', hk', h'⟩ := hA
    cases e with
    | normal =>
      obtain ⟨g', hi', hlt, hsub⟩ := hk'
      exact ⟨μ g', hlt, g', S', _, rfl, hi', Sub_ok h' hsub (by rw [hl]; exact h.len)⟩
    | exit j => exact hQ (.exit j) a w ⟨σ', S', ρ', hk', h'⟩
    | ret => exact hQ .ret a w ⟨σ', S', ρ', hk', h'⟩
  | .exit id, σ, K, a, w, S, ρ, Q, h, hk, hQ => wp_exit (hQ (.exit id) a w ⟨σ, S, ρ, hk, h⟩)
  | .ret, σ, K, a, w, S, ρ, Q, h, hk, hQ => wp_ret (hQ .ret a w ⟨σ, S, ρ, hk, h⟩)
  | .label l, σ, K, a, w, S, ρ, Q, h, hk, hQ => wp_label (hQ .normal a w ⟨σ, S, ρ, hk, h⟩)
  | .rangeFunc _ _ _ _, σ, K, a, w, S, ρ, Q, h, hk, hQ => hk.elim
  | .scope _, σ, K, a, w, S, ρ, Q, h, hk, hQ => hk.elim
  | .goto _, σ, K, a, w, S, ρ, Q, h, hk, hQ => hk.elim
  | .refuse _, σ, K, a, w, S, ρ, Q, h, hk, hQ => hk.elim

end
end Go.Vx
