/- A part of a small verifier for the model's programs, proved sound for any program; no condition. -/
import Derived.Test.YtlibncpahaefbaaDoorVxO
import Derived.Deep.LoopGhost
namespace Go.Vx
open Go
set_option linter.unusedSectionVars false
set_option linter.unusedVariables false

def Ex.to : Ex → Exit
  | .normal => .normal
  | .exit id => .exit id
  | .ret => .ret

section
variable {P : Program} {tbl : List (FuncId × TF)}

theorem le1_ok {S : Nat → Prop} {w : World} {ρ : Names} {s s' : SV} {v : Value} (h : le1 s s') (hr : Rel P S w ρ s v) : Rel P S w ρ s' v := by
  unfold le1 at h
  split at h
  · simp only [Rel]
  · split at h
    · subst h; exact hr
    · subst h; simpa only [Rel] using hr
    · exact h.elim
  · split at h
    · subst h
      simp only [Rel] at hr ⊢
      subst hr
      exact ⟨none, 0, rfl, ⟨by simp, fun h => absurd rfl h⟩⟩
    · cases h
      simp only [Rel] at hr ⊢
      exact hr.2
    · subst h; exact hr
  · subst h; exact hr

theorem leS_len : (l l' : List SV) → leS l l' → l.length = l'.length
  | [], [], _ => rfl
  | s :: l, s' :: l', h => by simp [leS_len l l' h.2]
  | [], _ :: _, h => h.elim
  | _ :: _, [], h => h.elim

theorem leS_get : (l l' : List SV) → leS l l' → ∀ t, le1 (get l t) (get l' t)
  | [], [], _, t => by simp [get, le1]
  | s :: l, s' :: l', h, 0 => h.1
  | s :: l, s' :: l', h, t + 1 => leS_get l l' h.2 t
  | [], _ :: _, h, _ => h.elim
  | _ :: _, [], h, _ => h.elim

theorem leS_rel {S : Nat → Prop} {w : World} {ρ : Names} : (l l' : List SV) → leS l l' → {vs : List Value} → RelL P S w ρ l vs → RelL P S w ρ l' vs
  | [], [], _, vs, h => h
  | s :: l, s' :: l', h, vs, hr => by
    simp only [RelL] at hr ⊢
    obtain ⟨v, vs', e, h1, h2⟩ := hr
    exact ⟨v, vs', e, le1_ok h.1 h1, leS_rel l l' h.2 h2⟩
  | [], _ :: _, h, _, _ => h.elim
  | _ :: _, [], h, _, _ => h.elim

theorem leH_get : (l l' : List Blk) → leH l l' → ∀ nm, leB (getB l nm) (getB l' nm)
  | l, [], _, nm => by simp [getB, leB]
  | b :: l, b' :: l', h, 0 => h.1
  | b :: l, b' :: l', h, nm + 1 => leH_get l l' h.2 nm
  | [], _ :: _, h, _ => h.elim

theorem belowH_get {n : Nat} : (l : List Blk) → belowH n l → ∀ nm, belowB n (getB l nm)
  | [], _, nm => by simp [getB, belowB]
  | b :: l, h, 0 => h.1
  | b :: l, h, nm + 1 => belowH_get l h.2 nm

theorem belowL_get {n : Nat} : (l : List SV) → below.belowL n l → ∀ t, below n (get l t)
  | [], _, t => by simp [get, below]
  | b :: l, h, 0 => by simp only [below.belowL] at h; exact h.1
  | b :: l, h, t + 1 => by simp only [below.belowL] at h; exact belowL_get l h.2 t

def cutN (ρ : Names) (n : Nat) : Names := fun nm => if nm < n then ρ nm else none

mutual
theorem below_rel {S : Nat → Prop} {w : World} {ρ : Names} {n : Nat} : (s : SV) → {v : Value} → below n s → Rel P S w ρ s v → Rel P S w (cutN ρ n) s v
  | .any, v, _, h => by simp only [Rel]
  | .int k m, v, _, h => by simpa only [Rel] using h
  | .bool b, v, _, h => by simpa only [Rel] using h
  | .kb b, v, _, h => by simpa only [Rel] using h
  | .str s, v, _, h => by simpa only [Rel] using h
  | .sl e xs, v, _, h => by simpa only [Rel] using h
  | .nils, v, _, h => by simpa only [Rel] using h
  | .osl nm m, v, hb, h => by
    simp only [below] at hb
    simp only [Rel, cutN, hb, if_true] at h ⊢; exact h
  | .slf e xs, v, _, h => by simpa only [Rel] using h
  | .ag t x, v, _, h => by simpa only [Rel] using h
  | .pp t x, v, _, h => by simpa only [Rel] using h
  | .f1 a c F, v, _, h => by simpa only [Rel] using h
  | .f2 a b c F, v, _, h => by simpa only [Rel] using h
  | .ptr nm off, v, hb, h => by
    simp only [below] at hb
    simp only [Rel, cutN, hb, if_true] at h ⊢; exact h
  | .eptr nm e i, v, hb, h => by
    simp only [below] at hb
    simp only [Rel, cutN, hb, if_true] at h ⊢; exact h
  | .nilp, v, _, h => by simpa only [Rel] using h
  | .agg l, v, hb, h => by
    simp only [below] at hb
    simp only [Rel] at h ⊢
    obtain ⟨cs, e, h⟩ := h
    exact ⟨cs, e, below_relL l hb h⟩
  | .tup l, v, hb, h => by
    simp only [below] at hb
    simp only [Rel] at h ⊢
    obtain ⟨cs, e, h⟩ := h
    exact ⟨cs, e, below_relL l hb h⟩
  | .fn f l, v, hb, h => by
    simp only [below] at hb
    simp only [Rel] at h ⊢
    obtain ⟨cs, e, h⟩ := h
    exact ⟨cs, e, below_relL l hb h⟩
  | .nilf, v, _, h => by simpa only [Rel] using h
  | .ifc t x, v, hb, h => by
    simp only [below] at hb
    simp only [Rel] at h ⊢
    obtain ⟨u, e, h⟩ := h
    exact ⟨u, e, below_rel x hb h⟩
  | .nili, v, _, h => by simpa only [Rel] using h
  | .raw u, v, _, h => by simpa only [Rel] using h
theorem below_relL {S : Nat → Prop} {w : World} {ρ : Names} {n : Nat} : (l : List SV) → {vs : List Value} → below.belowL n l → RelL P S w ρ l vs → RelL P S w (cutN ρ n) l vs
  | [], vs, _, h => by simpa only [RelL] using h
  | s :: l, vs, hb, h => by
    simp only [below.belowL] at hb
    simp only [RelL] at h ⊢
    obtain ⟨v, vs', e, h1, h2⟩ := h
    exact ⟨v, vs', e, below_rel s hb.1 h1, below_relL l hb.2 h2⟩
end

theorem Sub_ok {cx : Cx} {σ σ' : St} {a : Act} {w : World} {S : Nat → Prop} {ρ : Names} (h : Holds P cx σ a w S ρ) (hs : Sub σ σ') (hlen : cx.H0.length ≤ σ'.H.length) : Holds P cx σ' a w S (cutN ρ σ'.H.length) := by
  obtain ⟨h1, h2, h3, h4⟩ := hs
  have hlt : ∀ nm, (getB σ'.H nm).live = true → nm < σ'.H.length := fun nm hl => live_lt hl
  have hlive : ∀ nm, (getB σ'.H nm).live = true → (getB σ.H nm).live = true := fun nm hl => by
    have := leH_get _ _ h2 nm
    unfold leB at this
    split at this
    · rename_i e; rw [e] at hl; cases hl
    · split at this
      · rename_i e; rw [e]; rfl
      · exact this.elim
    · rw [this]; exact hl
  have hownb : ∀ nm, (getB σ'.H nm).isOwn = true → (getB σ.H nm).isOwn = true := fun nm hl => by
    have := leH_get _ _ h2 nm
    unfold leB at this
    split at this
    · rename_i e; rw [e] at hl; cases hl
    · rename_i e; rw [e] at hl; cases hl
    · rw [this]; exact hl
  have hcut : ∀ nm b cap, (getB σ'.H nm).live = true → cutN ρ σ'.H.length nm = some (some b, cap) → ρ nm = some (some b, cap) := fun nm b cap hl hr => by
    simpa [cutN, hlt nm hl] using hr
  refine ⟨⟨h.good.bounded, fun nm => ?_, fun nm b cap hl hr => h.good.apart nm b cap (hlive nm hl) (hcut nm b cap hl hr), fun nm nm' b c1 c2 hl hl' hr hr' => h.good.inj nm nm' b c1 c2 (hlive nm hl) (hlive nm' hl') (hcut nm b c1 hl hr) (hcut nm' b c2 hl' hr')⟩,
    ⟨by rw [h.slots.size, leS_len _ _ h1], fun t => below_rel _ (belowL_get _ h3 t) (le1_ok (leS_get _ _ h1 t) (h.slots.rel t))⟩,
    ⟨h.since.sub, h.since.size, h.since.os, h.since.tape, h.since.output, h.since.old, fun nm b cap hl hr => h.since.own nm b cap (hlive nm hl) (hcut nm b cap hl hr), h.since.pers, fun nm hnm ho => by rw [← h.since.names nm hnm ho]; simp [cutN, show nm < σ'.H.length by omega], fun nm hk hl => h.since.ownH nm (hownb nm hk) hl⟩,
    fun nm hnm => by simp [cutN, Nat.not_lt.2 hnm], hlen, h.defers⟩
  have hb := h.good.rel nm
  have hbl := belowH_get _ h4 nm
  have hle := leH_get _ _ h2 nm
  unfold leB at hle
  split at hle
  · rename_i e; rw [e]; simp [BlkRel]
  · rename_i l' t' e
    rw [e] at hbl ⊢
    have hlt' := hlt nm (by rw [e]; rfl)
    split at hle
    · rename_i l t e2
      rw [e2] at hb
      obtain ⟨rfl, hls⟩ := hle
      obtain ⟨b, cap, hb1, cs, hb2, hb3⟩ := hb
      exact ⟨b, cap, by simp [cutN, hlt', hb1], cs, hb2, below_relL _ hbl (leS_rel _ _ hls hb3)⟩
    · exact hle.elim
  · rename_i h5 h6
    rw [hle] at hb
    have hlt' : (getB σ'.H nm).live = true → nm < σ'.H.length := hlt nm
    cases hbb : getB σ'.H nm with
    | gone => simp [BlkRel]
    | cells l t => exact absurd hbb (h6 l t)
    | own e xs t =>
      rw [hbb] at hb hlt'
      obtain ⟨ob, cap, g1, g2⟩ := hb
      exact ⟨ob, cap, by simp [cutN, hlt' rfl, g1], g2⟩
    | iter s pos =>
      rw [hbb] at hb hlt'
      obtain ⟨b, cap, g1, g2⟩ := hb
      exact ⟨b, cap, by simp [cutN, hlt' rfl, g1], g2⟩

theorem setBs_length : (l : List (Nat × Blk)) → (h : List Blk) → (setBs h l).length = h.length
  | [], h => rfl
  | (d, x) :: l, h => by rw [setBs, setBs_length l]; exact setB_length _ _ _

theorem Holds.adopt {cx : Cx} {a : Act} {w : World} {S : Nat → Prop} : (ad : List (Nat × Ty × TypeId)) → {σ : St} → {ρ : Names} → Holds P cx σ a w S ρ → adoptOk σ ad → ∃ ρ', Holds P cx (Vx.adopt σ ad) a w S ρ'
  | [], σ, ρ, h, _ => ⟨ρ, h⟩
  | (d, e, t) :: l, σ, ρ, h, hk => by
    obtain ⟨h1, h2⟩ := hk
    have hfr := h.fresh σ.H.length (Nat.le_refl _)
    have hn : setN ρ σ.H.length (none, 0) σ.H.length = some (none, 0) := by simp [setN]
    have hp := h.put (S' := S) (w' := w) (ρ' := setN ρ σ.H.length (none, 0)) (q := ⟨True, .osl σ.H.length 0, some (.own e [] t)⟩) (v := .slice none 0 0) none ⟨Ext.refl h.good.bounded, setN_keep hfr, fun k hk => by simp [setN, hk], fun h => (by cases h), fun blk hb => by
      cases hb
      exact ⟨⟨none, 0, hn, Nat.le_refl _, rfl⟩, fun b cap he => by rw [hn] at he; cases he⟩⟩ (by simp only [Rel]; exact ⟨none, 0, hn, by simp, rfl⟩)
    have hr := h.slots.rel d
    rw [h1] at hr
    simp only [Rel] at hr
    have hs := hp.same (d := d) (x := .osl σ.H.length 0) (by simp only [Act.put, Rel]; exact ⟨none, 0, hn, by simp, hr⟩)
    exact Holds.adopt l hs h2

theorem adopt_len : (ad : List (Nat × Ty × TypeId)) → (σ : St) → σ.H.length ≤ (Vx.adopt σ ad).H.length
  | [], σ => Nat.le_refl _
  | (d, e, t) :: l, σ => by
    have := adopt_len l { slots := setS σ.slots d (.osl σ.H.length 0), H := σ.H ++ [.own e [] t] }
    simp only [List.length_append, List.length_cons, List.length_nil] at this
    simp only [Vx.adopt]
    omega

theorem exec_ok {cx : Cx} (hfol : P.follows .mixedOrders = true) (htbl : TblOk P tbl) : (c : Code) → {σ : St} → {K : Ex → St → Prop} → {a : Act} → {w : World} → {S : Nat → Prop} → {ρ : Names} → {Q : Exit → Act → World → Prop} →
    Holds P cx σ a w S ρ → exec P tbl c σ K → (∀ e a w, After P cx (K e) a w → Q e.to a w) → c.wp P Q a w
  | .skip, σ, K, a, w, S, ρ, Q, h, hk, hQ => wp_skip (hQ .normal a w ⟨σ, S, ρ, hk, h⟩)
  | .region id ops false, σ, K, a, w, S, ρ, Q, h, hk, hQ => region_seq htbl (fun a w hA => hQ .normal a w hA) h hk
  | .region id ops true, σ, K, a, w, S, ρ, Q, h, hk, hQ => by
    obtain ⟨h1, h2⟩ := hk
    refine region_draw hfol htbl (fun a w hA => hQ .normal a w hA) h1 ?_ h h2
    have : ∀ l : List Oper, quietPre l ≤ l.length := by
      intro l
      induction l with
      | nil => simp [quietPre]
      | cons o l ih => simp only [quietPre, List.length_cons]; split <;> omega
    simpa using this ops.toList
  | .seq x y, σ, K, a, w, S, ρ, Q, h, hk, hQ => by
    refine wp_seq (exec_ok hfol htbl x h hk fun e a w hA => ?_)
    obtain ⟨σ', S', ρ', hk', h'⟩ := hA
    cases e with
    | normal => exact exec_ok hfol htbl y h' hk' hQ
    | exit j => exact hQ (.exit j) a w ⟨σ', S', ρ', hk', h'⟩
    | ret => exact hQ .ret a w ⟨σ', S', ρ', hk', h'⟩
  | .cond c x y, σ, K, a, w, S, ρ, Q, h, hk, hQ => by
    have hr := evS_rel h.good.bounded h.slots c
    unfold exec at hk
    split at hk
    · rename_i e; rw [e] at hr; simp only [Rel] at hr
      exact wp_cond hr (exec_ok hfol htbl x h hk hQ)
    · rename_i e; rw [e] at hr; simp only [Rel] at hr
      exact wp_cond hr (exec_ok hfol htbl y h hk hQ)
    · rename_i b e; rw [e] at hr; simp only [Rel] at hr
      exact wp_cond_split hr (fun hb => exec_ok hfol htbl x h (hk.1 hb) hQ) (fun hb => exec_ok hfol htbl y h (hk.2 hb) hQ)
    · exact hk.elim
  | .block id c, σ, K, a, w, S, ρ, Q, h, hk, hQ => by
    refine wp_block (exec_ok hfol htbl c h hk fun e a w hA => ?_)
    obtain ⟨σ', S', ρ', hk', h'⟩ := hA
    cases e with
    | normal => exact hQ .normal a w ⟨σ', S', ρ', hk', h'⟩
    | exit j =>
      simp only [Ex.to, Exit.inBlock]
      simp only at hk'
      split at hk'
      · rename_i he; rw [if_pos he]; exact hQ .normal a w ⟨σ', S', ρ', hk', h'⟩
      · rename_i he; rw [if_neg he]; exact hQ (.exit j) a w ⟨σ', S', ρ', hk', h'⟩
    | ret => exact hQ .ret a w ⟨σ', S', ρ', hk', h'⟩
  | .loop c, σ, K, a, w, S, ρ, Q, h, hk, hQ => by
    obtain ⟨ad, hak, γ, ups, hups, inv, μ, ⟨g0, hi0, hs0⟩, hround⟩ := hk
    obtain ⟨ρ1, h1⟩ := h.adopt ad hak
    have hle := adopt_len ad σ
    clear h
    have h := h1
    clear h1
    generalize Vx.adopt σ ad = σ at *
    have hl : ∀ g, (atHead σ (wrote c) (ups g) (hups g)).H.length = σ.H.length := fun g => setBs_length _ _
    refine wp_loop_ghost (fun n a w => ∃ g S ρ, μ g = n ∧ inv g ∧ Holds P cx (atHead σ (wrote c) (ups g) (hups g)) a w S ρ) (μ g0) ⟨g0, S, _, rfl, hi0, Sub_ok h hs0 (by rw [hl]; exact h.len)⟩ ?_
    rintro n a w ⟨g, S, ρ, rfl, hi, hh⟩
    refine exec_ok hfol htbl c hh (hround g hi) fun e a w hA => ?_
    obtain ⟨σ', S', ρ', hk', h'⟩ := hA
    cases e with
    | normal =>
      obtain ⟨g', hi', hlt, hsub⟩ := hk'
      exact ⟨μ g', hlt, g', S', _, rfl, hi', Sub_ok h' hsub (by rw [hl]; exact h.len)⟩
    | exit j => exact hQ (.exit j) a w ⟨σ', S', ρ', hk', h'⟩
    | ret => exact hQ .ret a w ⟨σ', S', ρ', hk', h'⟩
  | .exit id, σ, K, a, w, S, ρ, Q, h, hk, hQ => wp_exit (hQ (.exit id) a w ⟨σ, S, ρ, hk, h⟩)
  | .ret, σ, K, a, w, S, ρ, Q, h, hk, hQ => wp_ret (hQ .ret a w ⟨σ, S, ρ, hk, h⟩)
  | .label l, σ, K, a, w, S, ρ, Q, h, hk, hQ => wp_label (hQ .normal a w ⟨σ, S, ρ, hk, h⟩)
  | .rangeFunc _ _ _ _, σ, K, a, w, S, ρ, Q, h, hk, hQ => hk.elim
  | .scope _, σ, K, a, w, S, ρ, Q, h, hk, hQ => hk.elim
  | .goto _, σ, K, a, w, S, ρ, Q, h, hk, hQ => hk.elim
  | .refuse _, σ, K, a, w, S, ρ, Q, h, hk, hQ => hk.elim

end
end Go.Vx
