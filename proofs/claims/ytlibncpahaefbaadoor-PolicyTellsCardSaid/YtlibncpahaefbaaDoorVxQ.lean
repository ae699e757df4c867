/- A part of a small verifier for the model's programs, proved sound for any program; no condition. -/
import Derived.Test.YtlibncpahaefbaaDoorVxP
namespace Go.Vx
open Go
set_option linter.unusedSectionVars false
set_option linter.unusedVariables false

def resL (P : Program) (σ : St) : List ResultVar → Option (List SV × Prop)
  | [] => some ([], True)
  | .tmp t :: l => match resL P σ l with
    | some (vs, p) => some (get σ.slots t :: vs, p)
    | none => none
  | .cell t ty :: l => match loadq P σ.H ty (get σ.slots t), resL P σ l with
    | some q, some (vs, p) => some (q.val :: vs, q.ob ∧ p)
    | _, _ => none

def RetVC (P : Program) (tbl : List (FuncId × TF)) (rs : List ResultVar) (cods : List Ty) (y : Args cods) (σ : St) : Prop :=
  match resL P σ rs with
  | some (vs, p) => p ∧ toArgs (clo1 tbl σ.H) (clo2 tbl σ.H) σ.H cods vs = some y
  | none => False

/-- Behind a function that hands out a list of its own. -/
def ownIs (et : TypeId) (n : Nat) : Blk → (cods : List Ty) → Args cods → Prop
  | .own e xs t, [.slice e'], y => t = et ∧ n ≤ List.length xs ∧ castL e e' (xs.take n) = some y.1
  | _, _, _ => False

def ownNil : (cods : List Ty) → Args cods → Prop
  | [.slice e'], y => y.1 = ([] : List e'.D)
  | _, _ => False

def ownVC (H : List Blk) (et : TypeId) (cods : List Ty) (y : Args cods) : List SV → Prop
  | [.osl nm n] => ownIs et n (getB H nm) cods y
  | [.nils] => ownNil cods y
  | _ => False

def RetO (P : Program) (tbl : List (FuncId × TF)) (rs : List ResultVar) (cods : List Ty) (y : Args cods) (σ : St) : Option TypeId → Prop
  | none => RetVC P tbl rs cods y σ
  | some et => match resL P σ rs with
    | some (vs, p) => p ∧ ownVC σ.H et cods y vs
    | none => False

section
variable {P : Program}

def resRun (tmps : Array Value) : ResultVar → Sem Value
  | .tmp t => pure (tmps.getD t undef)
  | .cell a t => do loadVar t (← asAddr (tmps.getD a undef))

theorem results_eq (fn : Func) (tmps : Array Value) : results fn tmps = (do let vs ← fn.results.mapM (resRun tmps); pure (if h : vs.size = 1 then vs[0] else .tuple vs)) := by
  unfold results
  congr 1

theorem run_results {fn : Func} {tmps : Array Value} {w : World} (vs : List Value) (h : ∀ (i : Nat) r v, fn.results.toList[i]? = some r → vs[i]? = some v → (resRun tmps r).run P w = .ok v w) (hl : vs.length = fn.results.size) :
    (results fn tmps).run P w = .ok (retOf vs) w := by
  have key : ∀ (f : ResultVar → Sem Value) (l : List ResultVar) (vs : List Value), vs.length = l.length → (∀ (i : Nat) r v, l[i]? = some r → vs[i]? = some v → (f r).run P w = .ok v w) → (l.mapM f).run P w = .ok vs w := by
    intro f l
    induction l with
    | nil => intro vs hl _; obtain rfl := List.length_eq_zero_iff.1 hl; simp
    | cons r l ih =>
      intro vs hl h
      cases vs with
      | nil => simp at hl
      | cons v vs =>
        simp only [List.mapM_cons, Sem.run_bind, h 0 r v (by simp) (by simp), Result.andThen_ok, ih vs (by simpa using hl) (fun i r v h1 h2 => h (i + 1) r v (by simpa using h1) (by simpa using h2)), Sem.run_pure]
  rw [results_eq]
  obtain ⟨name, origin, targs, params, resultTypes, nfree, ntmps, rs, body, norace, ours, file, endLine, litNo, met, tmpNames⟩ := fn
  obtain ⟨rs⟩ := rs
  simp only at h hl
  simp only [List.mapM_toArray, Sem.run_bind, Sem.run_map]
  rw [key _ rs vs (by simpa using hl) h]
  match vs with
  | [] => simp [retOf]
  | [u] => simp [retOf]
  | u :: v :: vs => simp [retOf]

theorem Holds.retS {cx : Cx} {σ : St} {a : Act} {w : World} {S : Nat → Prop} {ρ : Names} (h : Holds P cx σ a w S ρ) {rs : List ResultVar} {vs : List SV} {p : Prop} (hr : resL P σ rs = some (vs, p)) (hp : p) :
    ∃ us : List Value, RelL P S w ρ vs us ∧ us.length = rs.length ∧ ∀ (i : Nat) r v, rs[i]? = some r → us[i]? = some v → (resRun a.tmps r).run P w = .ok v w := by
  induction rs generalizing vs p with
  | nil =>
    simp only [resL] at hr
    cases hr
    exact ⟨[], by simp [RelL], rfl, fun i r v h1 => by simp at h1⟩
  | cons r rs ih =>
    cases r with
    | tmp t =>
      simp only [resL] at hr
      split at hr
      · rename_i vs' p' hr'
        cases hr
        obtain ⟨us, h1, h2, h3⟩ := ih hr' hp
        refine ⟨a.tmps.getD t undef :: us, by simp only [RelL]; exact ⟨_, _, rfl, h.slots.rel t, h1⟩, by simp [h2], fun i r v h4 h5 => ?_⟩
        cases i with
        | zero => simp at h4 h5; subst h4; subst h5; simp [resRun]
        | succ i => exact h3 i r v (by simpa using h4) (by simpa using h5)
      · cases hr
    | cell t ty =>
      simp only [resL] at hr
      split at hr
      · rename_i q vs' p' hq hr'
        cases hr
        obtain ⟨us, h1, h2, h3⟩ := ih hr' hp.2
        obtain ⟨_, u, hu, hru⟩ := loadq_ok h.good.rel hq hp.1 (h.slots.rel t)
        refine ⟨u :: us, by simp only [RelL]; exact ⟨_, _, rfl, hru, h1⟩, by simp [h2], fun i r v h4 h5 => ?_⟩
        cases i with
        | zero =>
          simp at h4 h5; subst h4; subst h5
          have hp : ∃ ad, a.tmps.getD t undef = .pointer (some ad) := by
            have hx := h.slots.rel t
            unfold loadq at hq
            split at hq
            · rename_i e _; rw [e] at hx; simp only [Rel] at hx; obtain ⟨b, cap, _, e2⟩ := hx; exact ⟨_, e2⟩
            · rename_i e _; rw [e] at hx; simp only [Rel, Rep] at hx; obtain ⟨ad, c, e2, _⟩ := hx; exact ⟨_, (List.cons.inj e2).1⟩
            · rename_i e _; rw [e] at hx; simp only [Rel] at hx; obtain ⟨b, cap, _, e2⟩ := hx; exact ⟨_, e2⟩
            · cases hq
          obtain ⟨ad, e⟩ := hp
          rw [e] at hu
          simpa [resRun, e, Instr.loadAt, Instr.sureAddr, asAddr] using hu
        | succ i => exact h3 i r v (by simpa using h4) (by simpa using h5)
      · cases hr

def undefs : Nat → List SV
  | 0 => []
  | n + 1 => noVal :: undefs n

theorem undefs_eq : (n : Nat) → undefs n = List.replicate n noVal
  | 0 => rfl
  | n + 1 => by rw [undefs, undefs_eq n, List.replicate_succ]

def startS (doms : List Ty) (x : Args doms) (n : Nat) : List SV := ofArgs doms x ++ undefs (n - doms.length)

theorem ofArgs_length : (ts : List Ty) → (x : Args ts) → (ofArgs ts x).length = ts.length
  | [], _ => rfl
  | t :: ts, x => by simp [ofArgs, ofArgs_length ts x.2]

theorem relL_replicate {S : Nat → Prop} {w : World} {ρ : Names} : (n : Nat) → RelL P S w ρ (List.replicate n noVal) (List.replicate n undef)
  | 0 => by simp [RelL]
  | n + 1 => by simp only [List.replicate_succ, RelL]; exact ⟨_, _, rfl, by simp [noVal, Rel], relL_replicate n⟩

theorem retO_ok {cx : Cx} {σ : St} {a : Act} {w w0 : World} {S0 S : Nat → Prop} {ρ : Names} {tbl : List (FuncId × TF)} {fn : Func} {cods : List Ty} {y : Args cods} {et : TypeId} (h : Holds P cx σ a w S ρ) (hext : Ext S0 w0 S w)
    (hnew : ∀ nm k cap, (getB σ.H nm).live = true → ρ nm = some (some k, cap) → w0.heap.size ≤ k) (hr : RetO P tbl fn.results.toList cods y σ (some et)) :
    a.defers = [] ∧ ∃ v, (results fn a.tmps).run P w = .ok v w ∧ ∃ S' r, Ending.returned v = .returned r ∧ ResOk P (some et) cods S' w0 w y r ∧ Ext S0 w0 S' w := by
  unfold RetO at hr
  simp only at hr
  split at hr
  · rename_i vs p hrl
    obtain ⟨hp, hy⟩ := hr
    obtain ⟨us, h1, h2, h3⟩ := h.retS hrl hp
    have hres := run_results (P := P) (fn := fn) (tmps := a.tmps) (w := w) us h3 (by simpa using h2)
    refine ⟨h.defers, _, hres, S, _, rfl, ?_, hext⟩
    unfold ownVC at hy
    split at hy
    · rename_i nm n
      obtain ⟨v, rfl, hv⟩ := relL_one h1
      unfold ownIs at hy
      split at hy
      · rename_i e xs t e' y hl
        obtain ⟨rfl, hn, hy⟩ := hy
        obtain ⟨rfl, hy⟩ := castL_some hy
        have hblk := h.good.rel nm
        rw [hl] at hblk
        obtain ⟨ob, cap, hb1, hle, hblk⟩ := hblk
        simp only [Rel] at hv
        obtain ⟨b, cap', A, hb, h0, rfl⟩ := hv
        rw [hb1] at hb
        obtain ⟨rfl, rfl⟩ : ob = b ∧ cap = cap' := by simpa using hb
        have hy' : y.1 = xs.take n := hy
        have hl' : List.length y.1 = n := by rw [hy', List.length_take]; omega
        refine ⟨ob, cap, A, by rw [hl']; rfl, by rw [hl']; exact h0, ⟨ob, cap, rfl, by rw [hl']; omega, ?_⟩, fun b hbb => ?_⟩
        · cases ob with
          | none => exact hblk
          | some b =>
            obtain ⟨cs, fr, g1, g2, g3, g4⟩ := hblk
            refine ⟨cs, fr, g1, g2, g3, fun i x hx => g4 i x ?_⟩
            rw [hy', List.getElem?_take] at hx
            split at hx
            · exact hx
            · cases hx
        · subst hbb
          have hlive : (getB σ.H nm).live = true := by rw [hl]; rfl
          obtain ⟨g1, g2⟩ := h.good.apart nm b cap hlive hb1
          exact ⟨hnew nm b cap hlive hb1, g2, g1⟩
      · exact hy.elim
    · obtain ⟨v, rfl, hv⟩ := relL_one h1
      unfold ownNil at hy
      split at hy
      · rename_i e' y
        simp only [Rel] at hv
        obtain ⟨A, rfl⟩ := hv
        have hy' : y.1 = [] := hy
        exact ⟨none, 0, A, by rw [hy']; rfl, by rw [hy']; exact ⟨rfl, rfl⟩, ⟨none, 0, rfl, by rw [hy']; exact Nat.le_refl _, rfl⟩, fun b hb => by cases hb⟩
      · exact hy.elim
    · exact hy.elim
  · exact hr.elim

/-- A function on persistent data, by its verification condition. -/
theorem tf_ok {tbl : List (FuncId × TF)} {o : Option TypeId} {f : FuncId} {fn : Func} {code : Code} {tf : TF} (hfol : P.follows .mixedOrders = true) (htbl : TblOk P tbl) (hf : P.funcs[f]? = some fn) (hbody : fn.body = some code) (hown : tf.own = o)
    (vc : ∀ x, tf.ob x → exec P tbl code ⟨startS tf.doms x fn.ntmps, []⟩ fun e σ => (match e with | .exit _ => False | _ => True) ∧ RetO P tbl fn.results.toList tf.cods (tf.fn x) σ o) : TFOk P f tf := by
  intro S w hb x vs hargs hpre
  have hlen : vs.length = tf.doms.length := by
    have := (ofArgs_rel (ρ := fun _ => none) _ hargs).length
    rw [this, ofArgs_length]
  refine calls_of_wp hf hbody ?_
  have htm : (vs.toArray ++ Array.replicate (fn.ntmps - vs.toArray.size) undef) = (vs ++ List.replicate (fn.ntmps - tf.doms.length) undef).toArray := by
    apply Array.ext'
    simp [hlen]
  rw [htm]
  let cx : Cx := ⟨S, fun _ => none, [], w⟩
  have h0 : Holds P cx ⟨startS tf.doms x fn.ntmps, []⟩ { tmps := (vs ++ List.replicate (fn.ntmps - tf.doms.length) undef).toArray, defers := [] } w S (fun _ => none) := by
    have hrel : RelL P S w (fun _ => none) (startS tf.doms x fn.ntmps) (vs ++ List.replicate (fn.ntmps - tf.doms.length) undef) := by rw [startS, undefs_eq]; exact (ofArgs_rel _ hargs).append (relL_replicate _)
    refine ⟨⟨hb, fun nm => by simp [getB, BlkRel], fun nm b cap hl => by simp [getB, Blk.live] at hl, fun nm nm' b c c' hl => by simp [getB, Blk.live] at hl⟩, ⟨by simpa using hrel.length, fun t => ?_⟩,
      ⟨fun _ h => h, Nat.le_refl _, rfl, rfl, rfl, fun _ _ _ => rfl, fun nm b cap hl => by simp [getB, Blk.live] at hl, fun k hk => .inl hk, fun nm hnm => by simp [cx] at hnm, fun nm hk hnm => by simp [cx] at hnm⟩, fun _ _ => rfl, Nat.le_refl _, rfl⟩
    rcases Nat.lt_or_ge t (startS tf.doms x fn.ntmps).length with h1 | h1
    · obtain ⟨v, h2, h3⟩ := hrel.get' h1
      rw [Array.getD_eq_getD_getElem?]
      simp only [List.getElem?_toArray, h2]
      exact h3
    · rw [get_out _ _ h1]; simp only [Rel]
  refine exec_ok hfol htbl code h0 (vc x hpre) fun e a w' hA => ?_
  obtain ⟨σ, S', ρ', ⟨he, hret⟩, h⟩ := hA
  have fin : a.defers = [] ∧ ∃ v, (results fn a.tmps).run P w' = .ok v w' ∧ ∃ S' r, Ending.returned v = .returned r ∧ ResOk P tf.own tf.cods S' w w' (tf.fn x) r ∧ Ext S w S' w' := by
    rw [hown]
    have hno : ∀ k, ¬ cx.Own k := fun k ⟨nm, cap, h1, _⟩ => by simp [cx, getB, Blk.live] at h1
    have hfr : ∀ k, S' k → S k ∨ w.heap.size ≤ k := fun k hk => by
      rcases h.since.pers k hk with h6 | h6 | h6
      · exact .inl h6
      · exact (hno k h6).elim
      · exact .inr h6
    have hext : Ext S w S' w' := ⟨h.since.sub, h.since.size, fun k hk => h.since.old k hk (hno k), h.since.os, h.since.tape, h.since.output, hfr, h.good.bounded.lt⟩
    cases o with
    | some et => exact retO_ok h hext (fun nm k cap h4 h5 => (h.since.own nm k cap h4 h5).elim (fun h6 => (hno k h6).elim) id) hret
    | none =>
    unfold RetO at hret
    simp only at hret
    unfold RetVC at hret
    split at hret
    · rename_i svs p hrl
      obtain ⟨hp, hy⟩ := hret
      obtain ⟨us, h1, h2, h3⟩ := h.retS hrl hp
      have hres := run_results (P := P) (fn := fn) (tmps := a.tmps) (w := w') us h3 (by simpa using h2)
      have hrel := toArgs_rep h.good.rel (clo1_rep htbl h.good.rel) (clo2_rep htbl h.good.rel) _ hy h1
      refine ⟨h.defers, _, hres, SLend S' ρ' (getB σ.H), _, rfl, ⟨us, hrel, rfl⟩, ?_⟩
      refine ⟨fun k hk => .inl (h.since.sub k hk), h.since.size, fun k hk => h.since.old k hk (hno k), h.since.os, h.since.tape, h.since.output, fun k hk => ?_, fun k hk => ?_⟩
      · rcases hk with hk | ⟨nm, cap, h4, h5⟩
        · rcases h.since.pers k hk with h6 | h6 | h6
          · exact .inl h6
          · exact (hno k h6).elim
          · exact .inr h6
        · rcases h.since.own nm k cap h4 h5 with h6 | h6
          · exact (hno k h6).elim
          · exact .inr h6
      · rcases hk with hk | ⟨nm, cap, h4, h5⟩
        · exact h.good.bounded.lt k hk
        · exact (h.good.apart nm k cap h4 h5).2
    · exact hret.elim
  obtain ⟨f1, v, f2, f3⟩ := fin
  cases e with
  | normal => exact ⟨f1, v, f2, f3⟩
  | ret => exact ⟨f1, v, f2, f3⟩
  | exit j => exact he.elim
end
end Go.Vx
