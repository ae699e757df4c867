/- A part of a small verifier for the model's programs, proved sound for any program; no condition. -/
import Derived.Test.YtnbicdeehppgpaaGreatDoorVxF
set_option linter.unusedSimpArgs false
set_option linter.unusedVariables false
namespace Go.Vx
open Go
set_option linter.unusedSectionVars false
set_option linter.unusedVariables false
section
variable {P : Program} {S : Nat → Prop} {w : World} {ρ : Names}

theorem rel_intO {o : Option SV} {s : SV} (h : o = some s) : o ≠ none := by simp [h]

/-- Optional bounds. -/
def RelO (P : Program) (S : Nat → Prop) (w : World) (ρ : Names) : Option SV → Option Value → Prop
  | none, none => True
  | some s, some v => Rel P S w ρ s v
  | _, _ => False

theorem strCut_ok {s : List UInt8} {t : TypeId} {lo hi : Option SV} {vl vh : Option Value} {q : QR} (ht : P.underlying t = some .string) (h : strCut s lo hi = some q) (hob : q.ob) (hl : RelO P S w ρ lo vl) (hh : RelO P S w ρ hi vh) :
    RunOk P S w ρ (Instr.sliceAt t (mkStr s) vl vh none) q := by
  have hsz : (⟨s.toArray⟩ : ByteArray).size = s.length := mkStr_size s
  have hrun : ∀ (l h : Nat) vl vh, (Instr.sliceBounds false s.length s.length vl vh none).run P w = .ok (l, h, s.length) w →
      (Instr.sliceAt t (mkStr s) vl vh none).run P w = .ok (mkStr ((s.drop l).take (h - l))) w := by
    intro l h vl vh hb
    simp [Instr.sliceAt, Instr.slice, run_underlying ht, mkStr, hsz, hb, ByteArray.extract_mk]
  unfold strCut at h
  split at h
  · cases h
    cases vl <;> cases vh <;> simp [RelO] at hl hh
    refine runStr ?_
    rw [hrun 0 s.length none none (by simp [Instr.sliceBounds])]
    simp
  · rename_i k l
    cases h
    cases vl <;> cases vh <;> simp [RelO, Rel] at hl hh
    subst hl
    try simp only at hob
    refine runStr ?_
    rw [hrun l.toNat s.length _ none (by simp [Instr.sliceBounds, Instr.sliceBound, asIntOf, hob])]
    rw [List.take_of_length_le (by simp)]
  · rename_i k hb
    cases h
    cases vl <;> cases vh <;> simp [RelO, Rel] at hl hh
    subst hh
    try simp only at hob
    refine runStr ?_
    rw [hrun 0 hb.toNat none _ (by simp [Instr.sliceBounds, Instr.sliceBound, asIntOf, hob])]
    simp
  · rename_i k l k' hb
    cases h
    cases vl <;> cases vh <;> simp [RelO, Rel] at hl hh
    subst hh; subst hl
    try simp only at hob
    have h3 : l ≤ max hb 0 := by omega
    have h0 : 0 ≤ hb := by omega
    refine runStr ?_
    rw [hrun l.toNat hb.toNat _ _ (by simp [Instr.sliceBounds, Instr.sliceBound, asIntOf, hob.1, hob.2.2, h3, h0])]
    rw [List.drop_take]
  · cases h

theorem SlAt.take {α : Type} {R : α → List Value → Prop} {sz : Nat} {A : Option Addr} {cap : Nat} {xs : List α} (h : SlAt R sz S w A cap xs) (n : Nat) : SlAt R sz S w A cap (xs.take n) :=
  ⟨Nat.le_trans (by simp; omega) h.le, fun hne => by
    have hne' : xs ≠ [] := fun e => hne (by simp [e])
    obtain ⟨ad, e1, e2, e3, e4⟩ := h.at_ hne'
    refine ⟨ad, e1, e2, e3, fun i x hx => e4 i x ?_⟩
    rw [List.getElem?_take] at hx
    split at hx
    · exact hx
    · cases hx⟩

theorem SlAt.drop {α : Type} {R : α → List Value → Prop} {sz : Nat} {A : Option Addr} {cap : Nat} {xs : List α} (h : SlAt R sz S w A cap xs) (n : Nat) :
    SlAt R sz S w (if cap = n then A else A.map (·.add (n * sz))) (cap - n) (xs.drop n) :=
  ⟨by have := h.le; simp; omega, fun hne => by
    have hlt : n < xs.length := by
      rcases Nat.lt_or_ge n xs.length with h1 | h1
      · exact h1
      · exact absurd (List.drop_eq_nil_of_le h1) hne
    have hne' : xs ≠ [] := fun e => by simp [e] at hlt
    obtain ⟨ad, rfl, e2, e3, e4⟩ := h.at_ hne'
    have := h.le
    rw [if_neg (by omega)]
    obtain ⟨g1, g2⟩ := (show ((ad.add (n * sz)).spot = none ∧ (ad.add (n * sz)).block = ad.block) from add_spot e2 _)
    refine ⟨_, rfl, g1, by rw [g2]; exact e3, fun i x hx => ?_⟩
    obtain ⟨c, r1, r2, r3⟩ := e4 (n + i) x (by simpa using hx)
    refine ⟨c, r1, r2, fun j v hj => ?_⟩
    have := r3 j v hj
    show w.cell? ⟨(ad.add (n * sz)).block, (ad.add (n * sz)).off + i * sz + j, none⟩ = some v
    rw [addr_eta e2, add_off]
    rw [Nat.add_mul, ← Nat.add_assoc] at this
    exact this⟩

theorem slCut_ok {e : Ty} {xs : List e.D} {t et : TypeId} {lo hi : Option SV} {vx : Value} {vl vh : Option Value} {q : QR} (ht : P.underlying t = some (.slice et)) (hsz : sizeP P et = some e.size)
    (h : slCut e xs lo hi = some q) (hob : q.ob) (hx : Rel P S w ρ (.sl e xs) vx) (hl : RelO P S w ρ lo vl) (hh : RelO P S w ρ hi vh) :
    RunOk P S w ρ (Instr.sliceAt t vx vl vh none) q := by
  obtain ⟨inf, hinf, hsz⟩ := sz_some hsz
  have hx' := hx
  simp only [Rel, Rep] at hx
  obtain ⟨A, cap, e0, hsl⟩ := hx
  simp at e0; subst e0
  have hle := hsl.le
  have hrun : ∀ (l h : Nat), l ≤ h → h ≤ cap → ∀ vl vh, (Instr.sliceBounds true (List.length xs) cap vl vh none).run P w = .ok (l, h, cap) w →
      (Instr.sliceAt t (.slice A (List.length xs) cap) vl vh none).run P w = .ok (.slice (if cap = l then A else A.map (·.add (l * e.size))) (h - l) (cap - l)) w := by
    intro l h h1 h2 vl vh hb
    simp [Instr.sliceAt, Instr.slice, run_underlying ht, hb, run_sizeOf hinf, hsz]
  unfold slCut at h
  split at h
  · cases h
    cases vl <;> cases vh <;> simp [RelO] at hl hh
    refine ⟨rfl, _, hrun 0 (List.length xs) (by omega) hle none none (by simp [Instr.sliceBounds]), ?_⟩
    simp only [Rel, Rep]
    exact ⟨_, _, rfl, by have := hsl.drop 0; simpa using this⟩
  · rename_i k l
    cases h
    cases vl <;> cases vh <;> simp [RelO, Rel] at hl hh
    subst hl
    try simp only at hob
    refine ⟨rfl, _, hrun l.toNat (List.length xs) (by omega) hle _ none (by simp [Instr.sliceBounds, Instr.sliceBound, asIntOf, hob]), ?_⟩
    simp only [Rel, Rep]
    exact ⟨_, _, by rw [List.length_drop], hsl.drop l.toNat⟩
  · rename_i k hb
    cases h
    cases vl <;> cases vh <;> simp [RelO, Rel] at hl hh
    subst hh
    try simp only at hob
    have h2 : hb ≤ (cap : Int) := by omega
    refine ⟨rfl, _, hrun 0 hb.toNat (by omega) (by omega) none _ (by simp [Instr.sliceBounds, Instr.sliceBound, asIntOf, hob.1, h2]), ?_⟩
    simp only [Rel, Rep]
    have := (hsl.take hb.toNat).drop 0
    refine ⟨_, _, ?_, by simpa using this⟩
    rw [show List.length (List.take hb.toNat xs) = hb.toNat - 0 from by simp; omega]
    simp
  · rename_i k l k' hb
    cases h
    cases vl <;> cases vh <;> simp [RelO, Rel] at hl hh
    subst hh; subst hl
    try simp only at hob
    have h2 : hb ≤ (cap : Int) := by omega
    have h3 : l ≤ max hb 0 := by omega
    have h0 : 0 ≤ hb := by omega
    refine ⟨rfl, _, hrun l.toNat hb.toNat (by omega) (by omega) _ _ (by simp [Instr.sliceBounds, Instr.sliceBound, asIntOf, hob.1, h2, h3, h0]), ?_⟩
    simp only [Rel, Rep]
    have := (hsl.take hb.toNat).drop l.toNat
    refine ⟨_, _, ?_, this⟩
    rw [show List.length (List.drop l.toNat (List.take hb.toNat xs)) = hb.toNat - l.toNat from by simp; omega]
  · cases h

theorem sliceq_ok {H : List Blk} {t : TypeId} {x : SV} {lo hi : Option SV} {vx : Value} {vl vh : Option Value} {q : QR} (hg : ∀ nm, BlkRel P S w ρ nm (getB H nm)) (h : sliceq P H t x lo hi = some q) (hob : q.ob) (hx : Rel P S w ρ x vx) (hl : RelO P S w ρ lo vl) (hh : RelO P S w ρ hi vh) :
    RunOk P S w ρ (Instr.sliceAt t vx vl vh none) q := by
  unfold sliceq at h
  split at h
  · rename_i s h1
    obtain ⟨_, _, d1, _, _, hd1, e1⟩ := tk_some h1
    have e1' : d1 = .string := by cases d1 <;> simp [kindOf] at e1 <;> simp_all
    subst e1'
    simp only [Rel] at hx; subst hx
    exact strCut_ok hd1 h hob hl hh
  · rename_i e xs et h1
    obtain ⟨_, _, d1, _, _, hd1, e1⟩ := tk_some h1
    have e1' : d1 = .slice et := by cases d1 <;> simp [kindOf] at e1 <;> simp_all
    subst e1'
    split at h
    · rename_i hsz
      exact slCut_ok hd1 hsz h hob hx hl hh
    · cases h
  · rename_i e xs et h1
    obtain ⟨_, _, d1, _, _, hd1, e1⟩ := tk_some h1
    have e1' : d1 = .slice et := by cases d1 <;> simp [kindOf] at e1 <;> simp_all
    subst e1'
    split at h
    · rename_i hsz
      simp only [Rel] at hx
      exact slCut_ok (ρ := ρ) hd1 hsz h hob (by simp only [Rel]; exact hx.2) hl hh
    · cases h
  · rename_i et h1
    obtain ⟨_, _, d1, _, _, hd1, e1⟩ := tk_some h1
    have e1' : d1 = .slice et := by cases d1 <;> simp [kindOf] at e1 <;> simp_all
    subst e1'
    split at h
    · rename_i sz k hb hsz
      cases h
      simp only at hob
      subst hob
      simp only [Rel] at hx
      obtain ⟨A, rfl⟩ := hx
      cases vl <;> cases vh <;> simp [RelO, Rel] at hl hh
      subst hh
      obtain ⟨inf, hinf, _⟩ := sz_some hsz
      refine ⟨rfl, .slice A 0 0, ?_, by simp [Rel]⟩
      cases A <;> simp [Instr.sliceAt, Instr.slice, run_underlying hd1, Instr.sliceBounds, Instr.sliceBound, asIntOf, run_sizeOf hinf]
    · cases h
  · rename_i nm n et h1
    obtain ⟨_, _, d1, _, _, hd1, e1⟩ := tk_some h1
    have e1' : d1 = .slice et := by cases d1 <;> simp [kindOf] at e1 <;> simp_all
    subst e1'
    split at h
    · rename_i e xs t' k hb hl'
      split at h
      · rename_i hsz
        cases h
        simp only at hob
        have hblk := hg nm
        rw [hl'] at hblk
        obtain ⟨ob, cap', hb', hle, hblk⟩ := hblk
        simp only [Rel] at hx
        obtain ⟨b, cap, A, hbn, h0, rfl⟩ := hx
        rw [hbn] at hb'
        obtain ⟨rfl, rfl⟩ : b = ob ∧ cap = cap' := by simpa using hb'
        cases vl <;> cases vh <;> simp [RelO, Rel] at hl hh
        subst hh
        obtain ⟨inf, hinf, hsz⟩ := sz_some hsz
        have h2 : hb ≤ (cap : Int) := by omega
        refine ⟨rfl, .slice (if cap = 0 then A else A.map (·.add 0)) hb.toNat cap, ?_, ?_⟩
        · have hh0 : ¬ (cap : Int) < hb := by omega
          by_cases hc0 : cap = 0 <;> cases A <;> simp [hc0, hh0, Instr.sliceAt, Instr.slice, run_underlying hd1, Instr.sliceBounds, Instr.sliceBound, asIntOf, hob.1, h2, run_sizeOf hinf, add_off]
          all_goals (intro h; omega)
        · simp only [Rel]
          refine ⟨b, cap, _, hbn, ?_, rfl⟩
          cases b with
          | none =>
            simp only at hblk
            simp only [OslA]
            omega
          | some b => simp only [OslA] at h0 ⊢; rw [h0]; split <;> simp [add_off]
      · cases h
    · rename_i e xs t' k lb hl'
      split at h
      · rename_i hsz
        cases h
        simp only at hob
        have hblk := hg nm
        rw [hl'] at hblk
        obtain ⟨ob, cap', hb', hle, hblk⟩ := hblk
        simp only [Rel] at hx
        obtain ⟨b, cap, A, hbn, h0, rfl⟩ := hx
        rw [hbn] at hb'
        obtain ⟨rfl, rfl⟩ : b = ob ∧ cap = cap' := by simpa using hb'
        cases vl <;> cases vh <;> simp [RelO, Rel] at hl hh
        subst hl
        obtain ⟨inf, hinf, hsz⟩ := sz_some hsz
        obtain ⟨m, rfl⟩ := Int.eq_ofNat_of_zero_le hob.1.1
        have h1 : m ≤ n := by omega
        have h2 : n ≤ cap := by omega
        have h3 : ¬ (cap < n) := by omega
        have h4 : ¬ (n < m) := by omega
        have h5 : ¬ ((m : Int) < 0) := by omega
        refine ⟨rfl, .slice (if cap = m then A else A.map (·.add (m * e.size))) (n - m) (cap - m), ?_, ?_⟩
        · cases A <;> simp [Instr.sliceAt, Instr.slice, run_underlying hd1, Instr.sliceBounds, Instr.sliceBound, asIntOf, h1, h2, h3, h4, h5, run_sizeOf hinf, hsz]
        · simp only [Rel, Int.toNat_natCast]
          refine ⟨b, cap, _, hbn, rfl, h1, h2, fun hlt => ?_⟩
          cases b with
          | none =>
            simp only at hblk
            simp only [OslA] at h0
            omega
          | some b =>
            simp only [OslA] at h0
            refine ⟨b, rfl, ?_⟩
            rw [h0, if_neg (by omega)]
            simp [add_off]
      · cases h
    · cases h
  · cases h

theorem relO_map {slots : List SV} {a : Act} (hbd : Bounded S w) (h : SlotsR P S w ρ slots a) (x : Option Operand) : RelO P S w ρ (x.map (evS slots)) (x.map a.eval) := by
  cases x with
  | none => trivial
  | some x => exact evS_rel hbd h x

theorem relL_two {x y : SV} {cs : List Value} (h : RelL P S w ρ [x, y] cs) : ∃ u v, cs = [u, v] ∧ Rel P S w ρ x u ∧ Rel P S w ρ y v := by
  simp only [RelL] at h
  obtain ⟨u, vs, rfl, h1, v, vs', rfl, h2, rfl⟩ := h
  exact ⟨u, v, rfl, h1, h2⟩

theorem builtinq_ok {b : Builtin} {args : List SV} {ts : List TypeId} {ty : TypeId} {vs : List Value} {q : QR} (h : builtinq P b args ts = some q) (hx : RelL P S w ρ args vs) :
    q.new = none ∧ ∃ u, (∀ cb, (builtin b ts.toArray ty cb vs.toArray).run P w = .ok (.value u) w) ∧ Rel P S w ρ q.val u := by
  have len : ∀ (t : TypeId) (v : Value) (n : Int) (d : TypeDesc), P.underlying t = some d → (Builtin.len_ #[t] ty #[v]).run P w = .ok (goInt n) w → ts = [t] → vs = [v] → b = .len → q = ⟨True, .int .i64 n, none⟩ →
      q.new = none ∧ ∃ u, (∀ cb, (builtin b ts.toArray ty cb vs.toArray).run P w = .ok (.value u) w) ∧ Rel P S w ρ q.val u := by
    intro t v n d hd hrun h1 h2 h3 h4
    subst h1; subst h2; subst h3; subst h4
    exact ⟨rfl, goInt n, fun cb => by simp [builtin, hrun], by simp [Rel, goInt]⟩
  unfold builtinq at h
  split at h
  · rename_i x t
    obtain ⟨v, rfl, hv⟩ := relL_one hx
    split at h
    · rename_i s h1
      cases h
      obtain ⟨_, _, d1, _, _, hd1, e1⟩ := tk_some h1
      have e1' : d1 = .string := by cases d1 <;> simp [kindOf] at e1 <;> simp_all
      subst e1'
      simp only [Rel] at hv; subst hv
      exact len t _ _ _ hd1 (by simp [Builtin.len_, run_underlying hd1, mkStr, mkStr_size]) rfl rfl rfl rfl
    · rename_i et e xs h1
      cases h
      obtain ⟨_, _, d1, _, _, hd1, e1⟩ := tk_some h1
      have e1' : d1 = .slice et := by cases d1 <;> simp [kindOf] at e1 <;> simp_all
      subst e1'
      simp only [Rel, Rep] at hv
      obtain ⟨A, cap, e0, _⟩ := hv
      simp at e0; subst e0
      exact len t _ _ _ hd1 (by simp [Builtin.len_, run_underlying hd1]) rfl rfl rfl rfl
    · rename_i et e xs h1
      cases h
      obtain ⟨_, _, d1, _, _, hd1, e1⟩ := tk_some h1
      have e1' : d1 = .slice et := by cases d1 <;> simp [kindOf] at e1 <;> simp_all
      subst e1'
      simp only [Rel] at hv
      obtain ⟨⟨A, rfl⟩, _⟩ := hv
      exact len t _ _ _ hd1 (by simp [Builtin.len_, run_underlying hd1]) rfl rfl rfl rfl
    · rename_i et nm n h1
      cases h
      obtain ⟨_, _, d1, _, _, hd1, e1⟩ := tk_some h1
      have e1' : d1 = .slice et := by cases d1 <;> simp [kindOf] at e1 <;> simp_all
      subst e1'
      simp only [Rel] at hv
      obtain ⟨b, cap, A, _, _, rfl⟩ := hv
      exact len t _ _ _ hd1 (by simp [Builtin.len_, run_underlying hd1]) rfl rfl rfl rfl
    · rename_i et h1
      cases h
      obtain ⟨_, _, d1, _, _, hd1, e1⟩ := tk_some h1
      have e1' : d1 = .slice et := by cases d1 <;> simp [kindOf] at e1 <;> simp_all
      subst e1'
      simp only [Rel] at hv
      obtain ⟨A, rfl⟩ := hv
      exact len t _ _ _ hd1 (by simp [Builtin.len_, run_underlying hd1]) rfl rfl rfl rfl
    · cases h
  · rename_i x t
    obtain ⟨v, rfl, hv⟩ := relL_one hx
    split at h
    · rename_i et e xs h1
      cases h
      obtain ⟨_, _, d1, _, _, hd1, e1⟩ := tk_some h1
      have e1' : d1 = .slice et := by cases d1 <;> simp [kindOf] at e1 <;> simp_all
      subst e1'
      simp only [Rel] at hv
      obtain ⟨⟨A, rfl⟩, _⟩ := hv
      exact ⟨rfl, goInt (List.length xs), fun cb => by simp [builtin, Builtin.cap_, run_underlying hd1], by simp [Rel, goInt]⟩
    · rename_i et h1
      cases h
      obtain ⟨_, _, d1, _, _, hd1, e1⟩ := tk_some h1
      have e1' : d1 = .slice et := by cases d1 <;> simp [kindOf] at e1 <;> simp_all
      subst e1'
      simp only [Rel] at hv
      obtain ⟨A, rfl⟩ := hv
      exact ⟨rfl, goInt 0, fun cb => by simp [builtin, Builtin.cap_, run_underlying hd1], by simp [Rel, goInt]⟩
    · cases h
  · split at h
    · rename_i hk
      subst hk
      cases h
      obtain ⟨u, v, rfl, h1, h2⟩ := relL_two hx
      simp only [Rel] at h1 h2
      subst h1; subst h2
      exact ⟨rfl, _, fun cb => by simp [builtin, Builtin.max_, Builtin.max2]; rfl, by simp [Rel]⟩
    · cases h
  · split at h
    · rename_i hk
      subst hk
      cases h
      obtain ⟨u, v, rfl, h1, h2⟩ := relL_two hx
      simp only [Rel] at h1 h2
      subst h1; subst h2
      exact ⟨rfl, _, fun cb => by simp [builtin, Builtin.min_, Builtin.min2]; rfl, by simp [Rel]⟩
    · cases h
  · cases h
end
end Go.Vx
