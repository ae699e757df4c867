/- A part of a small verifier for the model's programs, proved sound for any program; no condition. -/
import Derived.Test.YtlibncpahaefbaaDoorVxM
namespace Go.Vx
open Go
set_option linter.unusedSectionVars false
set_option linter.unusedVariables false

def trimN : List (Option Blk) → List (Option Blk)
  | [] => []
  | x :: l => match trimN l, x with
    | [], none => []
    | l', x => x :: l'

theorem trimN_get : (l : List (Option Blk)) → (i : Nat) → ((trimN l)[i]?).join = (l[i]?).join
  | [], i => rfl
  | x :: l, i => by
    have ih := trimN_get l
    unfold trimN
    split
    · rename_i h1
      rw [h1] at ih
      cases i with
      | zero => rfl
      | succ i => simpa using ih i
    · cases i with
      | zero => simp
      | succ i => simpa using ih i

theorem trimN_out (l : List (Option Blk)) (i : Nat) (h : (trimN l).length ≤ i) : (l[i]?).join = none := by
  rw [← trimN_get, List.getElem?_eq_none h]; rfl

section
variable {P : Program} {tbl : List (FuncId × TF)} {ops : Array Oper}

theorem fut_drew (S : Nat → Prop) (w : World) : Fut S w S w.drew := ⟨fun _ h => h, fun _ _ => rfl⟩

theorem Good.drew {S : Nat → Prop} {ρ : Names} {h : Nat → Blk} {w : World} (hg : Good P S ρ h w) : Good P S ρ h w.drew := by
  refine ⟨hg.bounded.same hg.bounded.lt (fut_drew S w), fun nm => ?_, hg.apart, hg.inj⟩
  exact (hg.rel nm).keep (fut_drew S w) (Keep.refl ρ) fun _ _ _ => rfl

theorem Holds.drew {cx : Cx} {σ : St} {a : Act} {w : World} {S : Nat → Prop} {ρ : Names} (h : Holds P cx σ a w S ρ) : Holds P cx σ a w.drew S ρ :=
  ⟨h.good.drew, h.slots.fut (fut_drew S w) (Keep.refl ρ), ⟨h.since.sub, h.since.size, h.since.os, h.since.tape, h.since.output, h.since.old, h.since.own, h.since.pers, h.since.names, h.since.ownH⟩, h.fresh, h.len, h.defers⟩

theorem getB_append' : (l l' : List Blk) → (nm : Nat) → getB (l ++ l') nm = if nm < l.length then getB l nm else getB l' (nm - l.length)
  | [], l', nm => by simp
  | c :: l, l', 0 => by simp [getB]
  | c :: l, l', nm + 1 => by simp [getB, getB_append' l l' nm]

theorem getB_get? : (l : List Blk) → (nm : Nat) → getB l nm = (l[nm]?).getD .gone
  | [], _ => rfl
  | c :: l, 0 => rfl
  | c :: l, nm + 1 => by simp [getB, getB_get? l nm]

/-- How many operations have not run yet. -/
def left (n : Nat) (L : Nat → Bool) : Nat := ((List.range n).filter fun i => !L i).length

theorem left_set {n : Nat} {L : Nat → Bool} {i : Nat} (hi : i < n) (hL : L i = false) : left n (fun k => if k = i then true else L k) + 1 = left n L := by
  unfold left
  induction n with
  | zero => omega
  | succ n ih =>
    simp only [List.range_succ, List.filter_append, List.length_append]
    by_cases h : i = n
    · subst h
      have : (List.filter (fun k => !(if k = i then true else L k)) (List.range i)) = List.filter (fun k => !L k) (List.range i) := by
        apply List.filter_congr
        intro k hk
        have := List.mem_range.1 hk
        simp [show k ≠ i from by omega]
      rw [this]
      simp [hL]
    · have h1 := ih (by omega)
      simp only at h1 ⊢
      have : (List.filter (fun k => !(if k = i then true else L k)) [n]) = List.filter (fun k => !L k) [n] := by
        have hn : n ≠ i := fun e => h e.symm
        simp only [List.filter_cons, List.filter_nil, hn, if_false]
      rw [this]
      omega

theorem mem_ready {L : Array Bool} {i : Nat} (hsz : L.size = ops.size) : i ∈ Region.ready .any ops L ↔ i < ops.size ∧ L.getD i false = false ∧ ∃ o, ops[i]? = some o ∧ ∀ e ∈ o.after, Region.binds .any e = true → L.getD e.on false = true := by
  unfold Region.ready
  simp only [List.mem_filter, List.mem_range, Bool.and_eq_true, Bool.not_eq_true']
  constructor
  · rintro ⟨h1, h2, h3⟩
    have ho : ops[i]? = some ops[i] := by simp [h1]
    rw [ho] at h3
    simp only [Option.map_some, Option.getD_some] at h3
    rw [Array.all_eq_true'] at h3
    refine ⟨h1, ?_, ops[i], ho, fun e he hb => ?_⟩
    · rw [Array.getD_eq_getD_getElem?] at h2 ⊢
      have : i < L.size := by omega
      simp [this] at h2 ⊢
      exact h2
    · have := h3 e he
      simpa [hb] using this
  · rintro ⟨h1, h2, o, ho, h3⟩
    refine ⟨h1, ?_, ?_⟩
    · rw [Array.getD_eq_getD_getElem?] at h2 ⊢
      have : i < L.size := by omega
      simp [this] at h2 ⊢
      exact h2
    · rw [ho]
      simp only [Option.map_some, Option.getD_some]
      rw [Array.all_eq_true']
      intro e he
      cases hb : Region.binds .any e with
      | false => simp
      | true => simp [h3 e he hb]

theorem getD_set {L : Array Bool} {i : Nat} (hi : i < L.size) : (fun k => (L.setIfInBounds i true).getD k false) = fun k => if k = i then true else L.getD k false := by
  funext k
  simp only [Array.getD_eq_getD_getElem?]
  by_cases h : k = i
  · subst h; simp [hi]
  · simp [h, Array.getElem?_setIfInBounds_ne (Ne.symm h)]

/-- The least operation that has not run is one that may come up. -/
theorem exists_ready {L : Array Bool} {m : Nat} (hsz : L.size = ops.size) (hf : DrawFacts m ops) {k : Nat} (hk : k < ops.size) (hL : L.getD k false = false) : ∃ i, i ≤ k ∧ i ∈ Region.ready .any ops L := by
  induction k using Nat.strongRecOn with
  | _ k ih =>
    by_cases h : ∃ j, j < k ∧ L.getD j false = false
    · obtain ⟨j, hj, hLj⟩ := h
      obtain ⟨i, h1, h2⟩ := ih j hj (by omega) hLj
      exact ⟨i, by omega, h2⟩
    · refine ⟨k, Nat.le_refl _, (mem_ready hsz).2 ⟨hk, hL, ops[k], by simp [hk], fun e he hb => ?_⟩⟩
      have hlt := hf.back k ops[k] (by simp [hk]) e he hb
      cases hc : L.getD e.on false with
      | true => rfl
      | false => exact absurd ⟨e.on, hlt, hc⟩ h

/-- Behind the operations that may be run in any order: the others, one behind the other. -/
theorem draw_tail {cx : Cx} {Q : Exit → Act → World → Prop} {K : St → Prop} {m : Nat} (htbl : TblOk P tbl) (hQ : ∀ a w, After P cx K a w → Q .normal a w) (hf : DrawFacts m ops) :
    ∀ (fuel : Nat) (L : Array Bool) (j : Nat) (a : Act) (w : World) (σ : St) (S : Nat → Prop) (ρ : Names), L.size = ops.size → m ≤ j → j ≤ ops.size → (∀ k, k < ops.size → (L.getD k false = true ↔ k < j)) → Closed ops (fun k => L.getD k false = true) → ops.size - j ≤ fuel →
      Holds P cx σ a w S ρ → seqx P tbl ops (ops.toList.drop j) σ K → wpAny P .any ops Q fuel L a w := by
  intro fuel
  induction fuel with
  | zero =>
    intro L j a w σ S ρ hsz hmj hj hL hc hfuel h hk
    obtain rfl : j = ops.size := by omega
    have hnone : Region.ready .any ops L = [] := by
      rw [List.eq_nil_iff_forall_not_mem]
      intro i hi
      obtain ⟨h1, h2, _⟩ := (mem_ready hsz).1 hi
      rw [(hL i h1).2 h1] at h2; cases h2
    refine ⟨hnone, hQ a w ⟨σ, S, ρ, ?_, h⟩⟩
    rw [List.drop_of_length_le (by simp)] at hk
    simpa [seqx] using hk
  | succ fuel ih =>
    intro L j a w σ S ρ hsz hmj hj hL hc hfuel h hk
    rcases Nat.lt_or_ge j ops.size with hlt | hge
    · have hjo : ops[j]? = some ops[j] := by simp [hlt]
      have hLj : L.getD j false = false := by
        cases hcj : L.getD j false with
        | false => rfl
        | true => have := (hL j hlt).1 hcj; omega
      have hdrop : ops.toList.drop j = ops[j] :: ops.toList.drop (j + 1) := by
        rw [List.drop_eq_getElem_cons (by simpa using hlt)]; simp
      rw [hdrop] at hk
      refine ⟨fun hnone => ?_, fun i hi => ?_⟩
      · obtain ⟨i, _, hi⟩ := exists_ready hsz hf hlt hLj
        rw [hnone] at hi; cases hi
      · obtain ⟨h1, h2, oi, hoi, h3⟩ := (mem_ready hsz).1 hi
        have hij : i = j := by
          rcases Nat.lt_trichotomy i j with h4 | h4 | h4
          · rw [(hL i h1).2 h4] at h2; cases h2
          · exact h4
          · exfalso
            rcases hf.pair j i ops[j] oi h4 hjo hoi with h5 | ⟨h5, _⟩
            · have := closed_anc hc hoi (fun e he hb => ⟨h3 e he hb, hf.back i oi hoi e he hb⟩) hf.back j h5
              rw [hLj] at this; cases this
            · omega
        subst hij
        have hLsz : (L.setIfInBounds i true).size = ops.size := by simp [hsz]
        have hL' : ∀ k, k < ops.size → ((L.setIfInBounds i true).getD k false = true ↔ k < i + 1) := fun k hk => by
          rw [show (L.setIfInBounds i true).getD k false = (if k = i then true else L.getD k false) from congrFun (getD_set (by omega)) k]
          by_cases he : k = i
          · subst he; simp
          · rw [if_neg he, hL k hk]; omega
        have hc' : Closed ops (fun k => (L.setIfInBounds i true).getD k false = true) := by
          intro k ok hk1 hk2 e he hb
          rw [show (L.setIfInBounds i true).getD k false = (if k = i then true else L.getD k false) from congrFun (getD_set (by omega)) k] at hk1
          rw [show (L.setIfInBounds i true).getD e.on false = (if e.on = i then true else L.getD e.on false) from congrFun (getD_set (by omega)) e.on]
          split
          · rfl
          · by_cases he2 : k = i
            · subst he2; rw [hoi] at hk2; cases hk2; exact h3 e he hb
            · rw [if_neg he2] at hk1; exact hc k ok hk1 hk2 e he hb
        have hoi' : oi = ops[i] := by rw [hjo] at hoi; exact (Option.some.inj hoi).symm
        subst hoi'
        unfold wpOp
        rw [hjo]
        simp only
        rcases guardx_ok h hk with ⟨hw, σ', _, h', hr⟩ | ⟨hw, σ', _, h', hr⟩
        · rw [if_pos hw]
          refine .inl (opx_ok htbl h' hr _ Q fun v w' hv => ?_)
          obtain ⟨σ2, S2, ρ2, hk2, h2⟩ := hv
          exact ih _ (i + 1) _ _ σ2 S2 ρ2 hLsz (by omega) (by omega) hL' hc' (by omega) h2 hk2
        · rw [hw]
          simp only [Bool.false_eq_true, if_false]
          exact ih _ (i + 1) _ _ _ S ρ hLsz (by omega) (by omega) hL' hc' (by omega) (h'.putSlot _ (by simp [noVal, Rel])) hr
    · obtain rfl : j = ops.size := by omega
      have hnone : Region.ready .any ops L = [] := by
        rw [List.eq_nil_iff_forall_not_mem]
        intro i hi
        obtain ⟨h1, h2, _⟩ := (mem_ready hsz).1 hi
        rw [(hL i h1).2 h1] at h2; cases h2
      refine ⟨fun _ => hQ a w ⟨σ, S, ρ, ?_, h⟩, fun i hi => by rw [hnone] at hi; cases hi⟩
      rw [List.drop_of_length_le (by simp)] at hk
      simpa [seqx] using hk

theorem left_ge {n m : Nat} {L : Nat → Bool} (h : ∀ k, m ≤ k → L k = false) : n - m ≤ left n L := by
  unfold left
  induction n with
  | zero => omega
  | succ n ih =>
    rw [List.range_succ, List.filter_append, List.length_append]
    rcases Nat.lt_or_ge n m with h1 | h1
    · omega
    · have : (List.filter (fun i => !L i) [n]).length = 1 := by simp [h n h1]
      omega

theorem DInv.holds {cx : Cx} {m : Nat} {H0 : List Blk} {rs : List Rec} {s' : List SV} {L : Nat → Bool} {a : Act} {w : World} {S : Nat → Prop} {ρ : Names} (h : DInv P cx ops m H0 rs s' L a w S ρ) (hrs : rs.length = m) (hL : ∀ k, k < m → L k = true) :
    Holds P cx ⟨s', H0 ++ (trimN (rs.map fun r => r.q.new)).map (·.getD .gone)⟩ a w S ρ := by
  have hH : hD H0 rs L = getB (H0 ++ (trimN (rs.map fun r => r.q.new)).map (·.getD .gone)) := by
    funext nm
    rw [getB_append']
    unfold hD
    split
    · rfl
    · rename_i hge
      rw [getB_get?, List.getElem?_map]
      have ht := trimN_get (rs.map fun r => r.q.new) (nm - H0.length)
      rw [List.getElem?_map] at ht
      cases h1 : (trimN (rs.map fun r => r.q.new))[nm - H0.length]? with
      | none =>
        rw [h1] at ht
        cases h2 : rs[nm - H0.length]? with
        | none => simp
        | some r => rw [h2] at ht; simp at ht; simp [← ht]
      | some x =>
        rw [h1] at ht
        cases h2 : rs[nm - H0.length]? with
        | none => rw [h2] at ht; simp at ht; simp [ht]
        | some r =>
          rw [h2] at ht
          have hlt : nm - H0.length < m := by have := (List.getElem?_eq_some_iff.1 h2).1; omega
          rw [hL _ hlt]
          simp at ht
          simp [ht]
  have hsl : slotsAt rs s' m = s' := by simp [slotsAt, hrs]
  refine ⟨by simp only; rw [← hH]; exact h.good, ⟨h.size, fun t => ?_⟩, by simp only; rw [← hH]; exact h.since, fun nm hnm => ?_, by simp only [List.length_append]; have := h.len; omega, h.defers⟩
  · have := h.slots t m ⟨Nat.le_refl _, fun j oj hj _ _ => ⟨fun _ => hj, fun _ => hL j hj⟩⟩
    rwa [hsl] at this
  · simp only [List.length_append, List.length_map] at hnm
    have := h.fresh (nm - H0.length) fun _ => ?_
    · rwa [show H0.length + (nm - H0.length) = nm from by omega] at this
    · have ht := trimN_out (rs.map fun r => r.q.new) (nm - H0.length) (by omega)
      rw [List.getElem?_map] at ht
      cases h2 : rs[nm - H0.length]? with
      | none => rfl
      | some r => rw [h2] at ht; simpa using ht

/-- The part of a region that may be run in any order. -/
theorem draw_head {cx : Cx} {Q : Exit → Act → World → Prop} {K : St → Prop} {m : Nat} {H0 : List Blk} {rs : List Rec} {s' : List SV} (htbl : TblOk P tbl) (hQ : ∀ a w, After P cx K a w → Q .normal a w) (hf : DrawFacts m ops) (hm : m ≤ ops.size) (hrs : rs.length = m)
    (htr : ∀ i o, i < m → ops[i]? = some o → ∃ r, rs[i]? = some r ∧ r.s.length = s'.length ∧ GuardFact ops o r.s r.go ∧ (r.go = true → evq P tbl H0 (H0.length + i) r.s o.op = some r.q ∧ r.q.ob) ∧ (r.go = false → r.q = ⟨True, noVal, none⟩) ∧ Ref P (setO r.s o.dst r.q.val) (slotsAt rs s' (i + 1)))
    (hk : seqx P tbl ops (ops.toList.drop m) ⟨s', H0 ++ (trimN (rs.map fun r => r.q.new)).map (·.getD .gone)⟩ K) :
    ∀ (fuel : Nat) (L : Array Bool) (a : Act) (w : World) (S : Nat → Prop) (ρ : Names), L.size = ops.size → (∀ k, m ≤ k → L.getD k false = false) → Closed ops (fun k => L.getD k false = true) → left ops.size (fun k => L.getD k false) ≤ fuel →
      DInv P cx ops m H0 rs s' (fun k => L.getD k false) a w S ρ → wpAny P .any ops Q fuel L a w := by
  intro fuel
  induction fuel with
  | zero =>
    intro L a w S ρ hsz hL hc hfuel h
    by_cases hall : ∃ k, k < ops.size ∧ L.getD k false = false
    · exfalso
      obtain ⟨k, hk1, hk2⟩ := hall
      have := left_set (L := fun k => L.getD k false) hk1 hk2
      omega
    · have hnm : ops.size ≤ m := by
        rcases Nat.lt_or_ge m ops.size with h1 | h1
        · exact absurd ⟨m, h1, hL m (Nat.le_refl _)⟩ hall
        · exact h1
      refine draw_tail (K := K) htbl hQ hf 0 L m a w ⟨s', H0 ++ (trimN (rs.map fun r => r.q.new)).map (·.getD .gone)⟩ S ρ hsz (Nat.le_refl _) hm (fun k hk1 => ⟨fun _ => by omega, fun _ => ?_⟩) hc (by omega) ?_ hk
      · cases hcl : L.getD k false with
        | true => rfl
        | false => exact absurd ⟨k, hk1, hcl⟩ hall
      · refine h.holds hrs fun k hk => ?_
        cases hcl : L.getD k false with
        | true => rfl
        | false => exact absurd ⟨k, by omega, hcl⟩ hall
  | succ fuel ih =>
    intro L a w S ρ hsz hL hc hfuel h
    by_cases hall : ∃ k, k < m ∧ L.getD k false = false
    · obtain ⟨k, hkm, hLk⟩ := hall
      refine ⟨fun hnone => ?_, fun i hi => ?_⟩
      · obtain ⟨i, _, hi⟩ := exists_ready hsz hf (show k < ops.size by omega) hLk
        rw [hnone] at hi; cases hi
      · obtain ⟨h1, h2, oi, hoi, h3⟩ := (mem_ready hsz).1 hi
        have him : i < m := by
          rcases Nat.lt_or_ge i m with h4 | h4
          · exact h4
          · exfalso
            rcases hf.pair k i ops[k] oi (by omega) (by simp) hoi with h5 | ⟨h5, _⟩
            · have := closed_anc hc hoi (fun e he hb => ⟨h3 e he hb, hf.back i oi hoi e he hb⟩) hf.back k h5
              rw [hLk] at this; cases this
            · omega
        obtain ⟨r, hr, hrl, hg, hgo, hskip, hnext⟩ := htr i oi him hoi
        have hs : slotsAt rs s' i = r.s := by simp [slotsAt, hr]
        have slot : ∀ t, t ∈ oi.looksAt ops → Rel P S w ρ (get r.s t) (a.tmps.getD t undef) := fun t ht => by
          have := h.slots t i (atTime_of_ready hf hc hoi him h2 h3 (.inl ht))
          rwa [hs] at this
        have hop : ∀ x ∈ oi.op.operands, Rel P S w ρ (evS r.s x) (a.eval x) := fun x hx => by
          cases x with
          | tmp t => exact slot t (mem_looksAt_operand hx)
          | const v => exact ofConst_rel v
          | global g => exact glS_rel h.good.bounded g
          | func f => simp [evS, Act.eval, Rel, RelL]
        have hw := guardFact_wanted (P := P) (tmps := a.tmps) hg (fun g want d h1 h2 => slot d (mem_looksAt_guard h1 h2))
        have hLsz : (L.setIfInBounds i true).size = ops.size := by simp [hsz]
        have hset := getD_set (L := L) (i := i) (by omega)
        have hL' : ∀ k, m ≤ k → (L.setIfInBounds i true).getD k false = false := fun k hk => by
          rw [show (L.setIfInBounds i true).getD k false = (if k = i then true else L.getD k false) from congrFun hset k, if_neg (by omega)]
          exact hL k hk
        have hc' : Closed ops (fun k => (L.setIfInBounds i true).getD k false = true) := by
          intro k ok hk1 hk2 e he hb
          rw [show (L.setIfInBounds i true).getD k false = (if k = i then true else L.getD k false) from congrFun hset k] at hk1
          rw [show (L.setIfInBounds i true).getD e.on false = (if e.on = i then true else L.getD e.on false) from congrFun hset e.on]
          split
          · rfl
          · by_cases he2 : k = i
            · subst he2; rw [hoi] at hk2; cases hk2; exact h3 e he hb
            · rw [if_neg he2] at hk1; exact hc k ok hk1 hk2 e he hb
        have hleft : left ops.size (fun k => (L.setIfInBounds i true).getD k false) ≤ fuel := by
          rw [hset]
          have := left_set (L := fun k => L.getD k false) h1 h2
          omega
        have go : ∀ (v : Value) (w' : World), QOut P S w ρ (H0.length + i) r.q v w' → wpAny P .any ops Q fuel (L.setIfInBounds i true) (a.put oi.dst v) w' := by
          intro v w' ⟨S', ρ', hq, hv⟩
          refine ih _ _ _ S' ρ' hLsz hL' hc' hleft ?_
          rw [hset]
          exact h.next hf hc hoi him h2 hm (fun i o h1 h2 => by obtain ⟨r, e1, e2, _, _, _, e3⟩ := htr i o h1 h2; exact ⟨r, e1, e2, e3⟩) hr hrs hq hv
        unfold wpOp
        rw [hoi]
        simp only
        rw [hw]
        cases hgo' : r.go with
        | true =>
          simp only [if_true]
          obtain ⟨he, hob⟩ := hgo hgo'
          refine .inl (evq_ok htbl h.good.bounded (fun nm => ?_) (fun nm b cap hl hr => ?_) hop (h.fresh i fun h5 => by rw [h2] at h5; cases h5) he hob _ Q fun v w' hv => go v w' hv)
          have := h.good.rel nm
          unfold hD at this
          split at this
          · exact this
          · rename_i h5
            rw [getB_out _ _ (by omega)]
            simp [BlkRel]
          · have h6 := live_lt hl
            exact (h.good.apart nm b cap (by unfold hD; rw [if_pos h6]; exact hl) hr).2
        | false =>
          simp only [Bool.false_eq_true, if_false]
          refine go undef w ?_
          rw [hskip hgo']
          exact ⟨S, ρ, QPost.same _ h.good.bounded, by simp [noVal, Rel]⟩
    · refine draw_tail (K := K) htbl hQ hf (fuel + 1) L m a w ⟨s', H0 ++ (trimN (rs.map fun r => r.q.new)).map (·.getD .gone)⟩ S ρ hsz (Nat.le_refl _) hm (fun k hk1 => ⟨fun h1 => ?_, fun h1 => ?_⟩) hc ?_ ?_ hk
      · rcases Nat.lt_or_ge k m with h2 | h2
        · exact h2
        · rw [hL k h2] at h1; cases h1
      · cases hcl : L.getD k false with
        | true => rfl
        | false => exact absurd ⟨k, h1, hcl⟩ hall
      · have := left_ge (n := ops.size) hL
        omega
      · refine h.holds hrs fun k hk => ?_
        cases hcl : L.getD k false with
        | true => rfl
        | false => exact absurd ⟨k, hk, hcl⟩ hall

theorem trOk_len {H0 : List Blk} : (l : List Oper) → (s : List SV) → (b : Nat) → (rs : List Rec) → (s' : List SV) → TrOk P tbl ops H0 l s b rs s' → s'.length = s.length ∧ ∀ (i : Nat) (r : Rec), rs[i]? = some r → r.s.length = s.length
  | [], s, b, [], s', h => by simp only [TrOk] at h; subst h; exact ⟨rfl, fun i r hi => by simp at hi⟩
  | [], s, b, r :: rs, s', h => by simp [TrOk] at h
  | o :: l, s, b, [], s', h => by simp [TrOk] at h
  | o :: l, s, b, r :: rs, s', h => by
    obtain ⟨h1, h2, h3, h4, h5⟩ := h
    obtain ⟨g1, g2⟩ := trOk_len l _ _ rs s' h5
    rw [setO_length] at g1 g2
    refine ⟨g1.trans h1.1, fun i r' hi => ?_⟩
    cases i with
    | zero => simp at hi; subst hi; exact h1.1
    | succ i => exact (g2 i r' (by simpa using hi)).trans h1.1

/-- A region whose order is drawn: its quiet operations in whatever order, then the others. -/
theorem region_draw {cx : Cx} {Q : Exit → Act → World → Prop} {K : St → Prop} {m id : Nat} {σ : St} {a : Act} {w : World} {S : Nat → Prop} {ρ : Names} (hfol : P.follows .mixedOrders = true) (htbl : TblOk P tbl) (hQ : ∀ a w, After P cx K a w → Q .normal a w)
    (hok : drawOk m ops = true) (hm : m ≤ ops.size) (h : Holds P cx σ a w S ρ)
    (hk : drawx P tbl ops σ.H (ops.toList.take m) σ.slots [] fun s nw => seqx P tbl ops (ops.toList.drop m) ⟨s, σ.H ++ (trimN nw).map (·.getD .gone)⟩ K) :
    (Code.region id ops true).wp P Q a w := by
  obtain ⟨rs, s', htr, hrs, hk⟩ := drawx_tr _ _ _ hk
  have hrs' : rs.length = m := by rw [hrs]; simp; omega
  obtain ⟨h0, hat⟩ := trOk_at _ _ _ _ _ htr
  obtain ⟨l0, lat⟩ := trOk_len _ _ _ _ _ htr
  have hf := drawOk_facts hok
  refine wp_region_any hfol ?_
  have h' := h.drew
  simp only [List.nil_append] at hk
  have hrep : ∀ k, (Array.replicate ops.size false).getD k false = false := fun k => by
    rw [Array.getD_eq_getD_getElem?]
    by_cases hk : k < ops.size <;> simp [hk]
  refine draw_head htbl hQ hf hm hrs' (fun i o hi ho => ?_) hk ops.size (Array.replicate ops.size false) a w.drew S ρ (by simp) (fun k _ => hrep k) (fun j oj hj => by simp only at hj; rw [hrep] at hj; cases hj) (by
    unfold left
    exact Nat.le_trans (List.length_filter_le _ _) (by simp)) ?_
  · obtain ⟨r, h1, h2, h3, h4, h5⟩ := hat i o (by rw [List.getElem?_take, if_pos hi]; simpa using ho)
    exact ⟨r, h1, by rw [lat i r h1, l0], h2, by simpa using h3, h4, h5⟩
  · have hL : (fun k => (Array.replicate ops.size false).getD k false) = fun _ => false := funext hrep
    rw [hL]
    have hH : hD σ.H rs (fun _ => false) = getB σ.H := by
      funext nm
      unfold hD
      split
      · rfl
      · rename_i hge; simp [getB_out σ.H nm (by omega)]
    refine ⟨by rw [hH]; exact h'.good, by rw [hH]; exact h'.since, by rw [l0]; exact h'.slots.size, fun t i hi => ?_, fun i _ => h'.fresh _ (by omega), h'.len, h'.defers⟩
    have hb := h0.2 _ _ _ _ _ (h'.slots.rel t)
    have := slots_on (P := P) (ops := ops) (rs := rs) (s' := s') (m := m) (fun i o h1 h2 => by
      obtain ⟨r, e1, _, _, _, e2⟩ := hat i o (by rw [List.getElem?_take, if_pos h1]; simpa using h2); exact ⟨r, e1, e2⟩) hm i 0 (by have := hi.1; omega) (fun j oj _ h2 hj hd => ?_) hb
    · rwa [Nat.zero_add] at this
    · have := (hi.2 j oj (by have := hi.1; omega) hj hd).2 (by omega)
      cases this
end
end Go.Vx
