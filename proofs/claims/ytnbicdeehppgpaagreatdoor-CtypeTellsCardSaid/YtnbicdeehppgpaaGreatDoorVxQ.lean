/- A part of a small verifier for the model's programs, proved sound for any program; no condition. -/
import Derived.Test.YtnbicdeehppgpaaGreatDoorVxP
set_option linter.unusedSimpArgs false
set_option linter.unusedVariables false
namespace Go.Vx
open Go
set_option linter.unusedSectionVars false
set_option linter.unusedVariables false

def resL (P : Program) (σ : St) : List ResultVar → Option (List SV × Prop)
  | [] => some ([], True)
  | .tmp t :: l => match resL P σ l with
    | some (vs, p) => some (get σ.slots t :: vs, p)
    | none => none
  | .cell t ty :: l => match loadq P σ.H ty (get σ.slots t), resL P σ l with
    | some q, some (vs, p) => some (q.val :: vs, q.ob ∧ p)
    | _, _ => none

def RetVC (P : Program) (tbl : List (FuncId × TF)) (rs : List ResultVar) (cods : List Ty) (y : Args cods) (σ : St) : Prop :=
  match resL P σ rs with
  | some (vs, p) => p ∧ toArgs (clo1 tbl σ.H) (clo2 tbl σ.H) σ.H cods vs = some y
  | none => False

/-- Behind a function that hands out a list of its own. -/
def ownIs (et : TypeId) (n : Nat) : Blk → (cods : List Ty) → Args cods → Prop
  | .own e xs t, [.slice e'], y => t = et ∧ n ≤ List.length xs ∧ castL e e' (xs.take n) = some y.1
  | _, _, _ => False

def ownNil : (cods : List Ty) → Args cods → Prop
  | [.slice e'], y => y.1 = ([] : List e'.D)
  | _, _ => False

def ownVC (H : List Blk) (et : TypeId) (cods : List Ty) (y : Args cods) : List SV → Prop
  | [.osl nm n] => ownIs et n (getB H nm) cods y
  | [.nils] => ownNil cods y
  | _ => False

def RetO (P : Program) (tbl : List (FuncId × TF)) (rs : List ResultVar) (cods : List Ty) (y : Args cods) (σ : St) : Option TypeId → Prop
  | none => RetVC P tbl rs cods y σ
  | some et => match resL P σ rs with
    | some (vs, p) => p ∧ ownVC σ.H et cods y vs
    | none => False

section
variable {P : Program}

def resRun (tmps : Array Value) : ResultVar → Sem Value
  | .tmp t => pure (tmps.getD t undef)
  | .cell a t => do loadVar t (← asAddr (tmps.getD a undef))

theorem results_eq (fn : Func) (tmps : Array Value) : results fn tmps = (do let vs ← fn.results.mapM (resRun tmps); pure (if h : vs.size = 1 then vs[0] else .tuple vs)) := by
  unfold results
  congr 1

theorem run_results {fn : Func} {tmps : Array Value} {w : World} (vs : List Value) (h : ∀ (i : Nat) r v, fn.results.toList[i]? = some r → vs[i]? = some v → (resRun tmps r).run P w = .ok v w) (hl : vs.length = fn.results.size) :
    (results fn tmps).run P w = .ok (retOf vs) w := by
  have key : ∀ (f : ResultVar → Sem Value) (l : List ResultVar) (vs : List Value), vs.length = l.length → (∀ (i : Nat) r v, l[i]? = some r → vs[i]? = some v → (f r).run P w = .ok v w) → (l.mapM f).run P w = .ok vs w := by
    intro f l
    induction l with
    | nil => intro vs hl _; obtain rfl := List.length_eq_zero_iff.1 hl; simp
    | cons r l ih =>
      intro vs hl h
      cases vs with
      | nil => simp at hl
      | cons v vs =>
        simp only [List.mapM_cons, Sem.run_bind, h 0 r v (by simp) (by simp), Result.andThen_ok, ih vs (by simpa using hl) (fun i r v h1 h2 => h (i + 1) r v (by simpa using h1) (by simpa using h2)), Sem.run_pure]
  rw [results_eq]
  obtain ⟨name, origin, targs, params, resultTypes, nfree, ntmps, rs, body, norace, ours, file, endLine, litNo, met, tmpNames⟩ := fn
  obtain ⟨rs⟩ := rs
  simp only at h hl
  simp only [List.mapM_toArray, Sem.run_bind, Sem.run_map]
  rw [key _ rs vs (by simpa using hl) h]
  match vs with
  | [] => simp [retOf]
  | [u] => simp [retOf]
  | u :: v :: vs => simp [retOf]

theorem Holds.retS {cx : Cx} {σ : St} {a : Act} {w : World} {S : Nat → Prop} {ρ : Names} (h : Holds P cx σ a w S ρ) {rs : List ResultVar} {vs : List SV} {p : Prop} (hr : resL P σ rs = some (vs, p)) (hp : p) :
    ∃ us : List Value, RelL P S w ρ vs us ∧ us.length = rs.length ∧ ∀ (i : Nat) r v, rs[i]? = some r → us[i]? = some v → (resRun a.tmps r).run P w = .ok v w := by
  induction rs generalizing vs p with
  | nil =>
    simp only [resL] at hr
    cases hr
    exact ⟨[], by simp [RelL], rfl, fun i r v h1 => by simp at h1⟩
  | cons r rs ih =>
    cases r with
    | tmp t =>
      simp only [resL] at hr
      split at hr
      · rename_i vs' p' hr'
        cases hr
        obtain ⟨us, h1, h2, h3⟩ := ih hr' hp
        refine ⟨a.tmps.getD t undef :: us, by simp only [RelL]; exact ⟨_, _, rfl, h.slots.rel t, h1⟩, by simp [h2], fun i r v h4 h5 => ?_⟩
        cases i with
        | zero => simp at h4 h5; subst h4; subst h5; simp [resRun]
        | succ i => exact h3 i r v (by simpa using h4) (by simpa using h5)
      · cases hr
    | cell t ty =>
      simp only [resL] at hr
      split at hr
      · rename_i q vs' p' hq hr'
        cases hr
        obtain ⟨us, h1, h2, h3⟩ := ih hr' hp.2
        obtain ⟨_, u, hu, hru⟩ := loadq_ok h.good.rel hq hp.1 (h.slots.rel t)
        refine ⟨u :: us, by simp only [RelL]; exact ⟨_, _, rfl, hru, h1⟩, by simp [h2], fun i r v h4 h5 => ?_⟩
        cases i with
        | zero =>
          simp at h4 h5; subst h4; subst h5
          have hp : ∃ ad, a.tmps.getD t undef = .pointer (some ad) := by
            have hx := h.slots.rel t
            unfold loadq at hq
            split at hq
            · rename_i e _; rw [e] at hx; simp only [Rel] at hx; obtain ⟨b, cap, _, e2⟩ := hx; exact ⟨_, e2⟩
            · rename_i e _; rw [e] at hx; simp only [Rel, Rep] at hx; obtain ⟨ad, c, e2, _⟩ := hx; exact ⟨_, (List.cons.inj e2).1⟩
            · rename_i e _; rw [e] at hx; simp only [Rel] at hx; obtain ⟨b, cap, _, e2⟩ := hx; exact ⟨_, e2⟩
            · cases hq
          obtain ⟨ad, e⟩ := hp
          rw [e] at hu
          simpa [resRun, e, Instr.loadAt, Instr.sureAddr, asAddr] using hu
        | succ i => exact h3 i r v (by simpa using h4) (by simpa using h5)
      · cases hr

def undefs : Nat → List SV
  | 0 => []
  | n + 1 => noVal :: undefs n

theorem undefs_eq : (n : Nat) → undefs n = List.replicate n noVal
  | 0 => rfl
  | n + 1 => by rw [undefs, undefs_eq n, List.replicate_succ]

def startS (doms : List Ty) (x : Args doms) (n : Nat) : List SV := ofArgs doms x ++ undefs (n - doms.length)

theorem ofArgs_length : (ts : List Ty) → (x : Args ts) → (ofArgs ts x).length = ts.length
  | [], _ => rfl
  | t :: ts, x => by simp [ofArgs, ofArgs_length ts x.2]

theorem relL_replicate {S : Nat → Prop} {w : World} {ρ : Names} : (n : Nat) → RelL P S w ρ (List.replicate n noVal) (List.replicate n undef)
  | 0 => by simp [RelL]
  | n + 1 => by simp only [List.replicate_succ, RelL]; exact ⟨_, _, rfl, by simp [noVal, Rel], relL_replicate n⟩

theorem retO_ok {cx : Cx} {σ : St} {a : Act} {w w0 : World} {S0 S : Nat → Prop} {ρ : Names} {tbl : List (FuncId × TF)} {fn : Func} {cods : List Ty} {y : Args cods} {et : TypeId} (h : Holds P cx σ a w S ρ) (hext : Ext S0 w0 S w)
    (hnew : ∀ nm k cap, (getB σ.H nm).live = true → ρ nm = some (some k, cap) → w0.heap.size ≤ k) (hr : RetO P tbl fn.results.toList cods y σ (some et)) :
    a.defers = cx.D ∧ ∃ v, (results fn a.tmps).run P w = .ok v w ∧ ∃ S' r, Ending.returned v = .returned r ∧ ResOk P (some et) cods S' w0 w y r ∧ Ext S0 w0 S' w := by
  unfold RetO at hr
  simp only at hr
  split at hr
  · rename_i vs p hrl
    obtain ⟨hp, hy⟩ := hr
    obtain ⟨us, h1, h2, h3⟩ := h.retS hrl hp
    have hres := run_results (P := P) (fn := fn) (tmps := a.tmps) (w := w) us h3 (by simpa using h2)
    refine ⟨h.defers, _, hres, S, _, rfl, ?_, hext⟩
    unfold ownVC at hy
    split at hy
    · rename_i nm n
      obtain ⟨v, rfl, hv⟩ := relL_one h1
      unfold ownIs at hy
      split at hy
      · rename_i e xs t e' y hl
        obtain ⟨rfl, hn, hy⟩ := hy
        obtain ⟨rfl, hy⟩ := castL_some hy
        have hblk := h.good.rel nm
        rw [hl] at hblk
        obtain ⟨ob, cap, hb1, hle, hblk⟩ := hblk
        simp only [Rel] at hv
        obtain ⟨b, cap', A, hb, h0, rfl⟩ := hv
        rw [hb1] at hb
        obtain ⟨rfl, rfl⟩ : ob = b ∧ cap = cap' := by simpa using hb
        have hy' : y.1 = xs.take n := hy
        have hl' : List.length y.1 = n := by rw [hy', List.length_take]; omega
        refine ⟨ob, cap, A, by rw [hl']; rfl, by rw [hl']; exact h0, ⟨ob, cap, rfl, by rw [hl']; omega, ?_⟩, fun b hbb => ?_⟩
        · cases ob with
          | none => exact hblk
          | some b =>
            obtain ⟨cs, fr, g1, g2, g3, g4⟩ := hblk
            refine ⟨cs, fr, g1, g2, g3, fun i x hx => g4 i x ?_⟩
            rw [hy', List.getElem?_take] at hx
            split at hx
            · exact hx
            · cases hx
        · subst hbb
          have hlive : (getB σ.H nm).live = true := by rw [hl]; rfl
          obtain ⟨g1, g2⟩ := h.good.apart nm b cap hlive hb1
          exact ⟨hnew nm b cap hlive hb1, g2, g1⟩
      · exact hy.elim
    · obtain ⟨v, rfl, hv⟩ := relL_one h1
      unfold ownNil at hy
      split at hy
      · rename_i e' y
        simp only [Rel] at hv
        obtain ⟨A, rfl⟩ := hv
        have hy' : y.1 = [] := hy
        exact ⟨none, 0, A, by rw [hy']; rfl, by rw [hy']; exact ⟨rfl, rfl⟩, ⟨none, 0, rfl, by rw [hy']; exact Nat.le_refl _, rfl⟩, fun b hb => by cases hb⟩
      · exact hy.elim
    · exact hy.elim
  · exact hr.elim

/-- A function on persistent data, by its verification condition. -/
theorem tf_ok {tbl : List (FuncId × TF)} {o : Option TypeId} {f : FuncId} {fn : Func} {code : Code} {tf : TF} (hfol : P.follows .mixedOrders = true) (htbl : TblOk P tbl) (hf : P.funcs[f]? = some fn) (hbody : fn.body = some code) (hown : tf.own = o)
    (vc : ∀ x, tf.ob x → exec P tbl code ⟨startS tf.doms x fn.ntmps, []⟩ fun e σ => (match e with | .exit _ => False | _ => True) ∧ RetO P tbl fn.results.toList tf.cods (tf.fn x) σ o) : TFOk P f tf := by
  intro S w hb x vs hargs hpre
  have hlen : vs.length = tf.doms.length := by
    have := (ofArgs_rel (ρ := fun _ => none) _ hargs).length
    rw [this, ofArgs_length]
  refine calls_of_wp hf hbody ?_
  have htm : (vs.toArray ++ Array.replicate (fn.ntmps - vs.toArray.size) undef) = (vs ++ List.replicate (fn.ntmps - tf.doms.length) undef).toArray := by
    apply Array.ext'
    simp [hlen]
  rw [htm]
  let cx : Cx := ⟨S, fun _ => none, [], w, []⟩
  have h0 : Holds P cx ⟨startS tf.doms x fn.ntmps, []⟩ { tmps := (vs ++ List.replicate (fn.ntmps - tf.doms.length) undef).toArray, defers := [] } w S (fun _ => none) := by
    have hrel : RelL P S w (fun _ => none) (startS tf.doms x fn.ntmps) (vs ++ List.replicate (fn.ntmps - tf.doms.length) undef) := by rw [startS, undefs_eq]; exact (ofArgs_rel _ hargs).append (relL_replicate _)
    refine ⟨⟨hb, fun nm => by simp [getB, BlkRel], fun nm b cap hl => by simp [getB, Blk.live] at hl, fun nm nm' b c c' hl => by simp [getB, Blk.live] at hl⟩, ⟨by simpa using hrel.length, fun t => ?_⟩,
      ⟨fun _ h => h, Nat.le_refl _, rfl, rfl, rfl, fun _ _ _ => rfl, fun nm b cap hl => by simp [getB, Blk.live] at hl, fun k hk => .inl hk, fun nm hnm => by simp [cx] at hnm, fun nm hk hnm => by simp [cx] at hnm⟩, fun _ _ => rfl, Nat.le_refl _, rfl⟩
    rcases Nat.lt_or_ge t (startS tf.doms x fn.ntmps).length with h1 | h1
    · obtain ⟨v, h2, h3⟩ := hrel.get' h1
      rw [Array.getD_eq_getD_getElem?]
      simp only [List.getElem?_toArray, h2]
      exact h3
    · rw [get_out _ _ h1]; simp only [Rel]
  refine exec_ok hfol htbl code h0 (vc x hpre) fun e a w' hA => ?_
  obtain ⟨σ, S', ρ', ⟨he, hret⟩, h⟩ := hA
  have fin : a.defers = [] ∧ ∃ v, (results fn a.tmps).run P w' = .ok v w' ∧ ∃ S' r, Ending.returned v = .returned r ∧ ResOk P tf.own tf.cods S' w w' (tf.fn x) r ∧ Ext S w S' w' := by
    rw [hown]
    have hno : ∀ k, ¬ cx.Own k := fun k ⟨nm, cap, h1, _⟩ => by simp [cx, getB, Blk.live] at h1
    have hfr : ∀ k, S' k → S k ∨ w.heap.size ≤ k := fun k hk => by
      rcases h.since.pers k hk with h6 | h6 | h6
      · exact .inl h6
      · exact (hno k h6).elim
      · exact .inr h6
    have hext : Ext S w S' w' := ⟨h.since.sub, h.since.size, fun k hk => h.since.old k hk (hno k), h.since.os, h.since.tape, h.since.output, hfr, h.good.bounded.lt⟩
    cases o with
    | some et => exact retO_ok h hext (fun nm k cap h4 h5 => (h.since.own nm k cap h4 h5).elim (fun h6 => (hno k h6).elim) id) hret
    | none =>
    unfold RetO at hret
    simp only at hret
    unfold RetVC at hret
    split at hret
    · rename_i svs p hrl
      obtain ⟨hp, hy⟩ := hret
      obtain ⟨us, h1, h2, h3⟩ := h.retS hrl hp
      have hres := run_results (P := P) (fn := fn) (tmps := a.tmps) (w := w') us h3 (by simpa using h2)
      have hrel := toArgs_rep h.good.rel (clo1_rep htbl h.good.rel) (clo2_rep htbl h.good.rel) _ hy h1
      refine ⟨h.defers, _, hres, SLend S' ρ' (getB σ.H), _, rfl, ⟨us, hrel, rfl⟩, ?_⟩
      refine ⟨fun k hk => .inl (h.since.sub k hk), h.since.size, fun k hk => h.since.old k hk (hno k), h.since.os, h.since.tape, h.since.output, fun k hk => ?_, fun k hk => ?_⟩
      · rcases hk with hk | ⟨nm, cap, h4, h5⟩
        · rcases h.since.pers k hk with h6 | h6 | h6
          · exact .inl h6
          · exact (hno k h6).elim
          · exact .inr h6
        · rcases h.since.own nm k cap h4 h5 with h6 | h6
          · exact (hno k h6).elim
          · exact .inr h6
      · rcases hk with hk | ⟨nm, cap, h4, h5⟩
        · exact h.good.bounded.lt k hk
        · exact (h.good.apart nm k cap h4 h5).2
    · exact hret.elim
  obtain ⟨f1, v, f2, f3⟩ := fin
  cases e with
  | normal => exact ⟨f1, v, f2, f3⟩
  | ret => exact ⟨f1, v, f2, f3⟩
  | exit j => exact he.elim

/-! #### a function that turns boxes of the caller's -/

def goneN : Nat → List Blk → List Blk
  | 0, H => H
  | n + 1, [] => []
  | n + 1, _ :: H => .gone :: goneN n H

theorem goneN_get : (n : Nat) → (H : List Blk) → (nm : Nat) → getB (goneN n H) nm = if nm < n then .gone else getB H nm
  | 0, H, nm => by simp [goneN]
  | n + 1, [], nm => by simp [goneN, getB]
  | n + 1, b :: H, 0 => by simp [goneN, getB]
  | n + 1, b :: H, nm + 1 => by simp [goneN, getB, goneN_get n H nm]

def eSlots : (ds : List EA) → EArgs ds → Nat → List SV
  | [], _, _ => []
  | .pl t :: ds, x, n => ofDV t x.1 :: eSlots ds x.2 n
  | .bx _ _ :: ds, x, n => .ptr n 0 :: eSlots ds x.2 (n + 1)

def eH : (ds : List EA) → EArgs ds → List Blk
  | [], _ => []
  | .pl _ :: ds, x => eH ds x.2
  | .bx t tid :: ds, x => .cells (ofD t x.1) tid :: eH ds x.2

def eStart (ds : List EA) (x : EArgs ds) (n : Nat) : List SV := eSlots ds x 0 ++ undefs (n - ds.length)

/-- What the boxes hold at the end. -/
def boxE (F1 : Clo1) (F2 : Clo2) (H0 : List Blk) (t : Ty) (tid : TypeId) : Blk → Option t.D
  | .cells l t' => if t' = tid then toD F1 F2 H0 t l else none
  | _ => none
def boxesE (F1 : Clo1) (F2 : Clo2) (H0 H : List Blk) : (ds : List EA) → Nat → Option (Args (bxs ds))
  | [], _ => some ()
  | .pl _ :: ds, n => boxesE F1 F2 H0 H ds n
  | .bx t tid :: ds, n => both (boxE F1 F2 H0 t tid (getB H n)) (boxesE F1 F2 H0 H ds (n + 1))

def RetE (P : Program) (tbl : List (FuncId × TF)) (ds : List EA) (cods : List Ty) (y : Args cods × Args (bxs ds)) (H H' : List Blk) : Option (List SV × Prop) → Prop
  | some (vs, p) => p ∧ toArgs (clo1 tbl H') (clo2 tbl H') H' cods vs = some y.1 ∧ boxesE (clo1 tbl H') (clo2 tbl H') H' H ds 0 = some y.2
  | none => False

theorem eSlots_length : (ds : List EA) → (x : EArgs ds) → (n : Nat) → (eSlots ds x n).length = ds.length
  | [], _, _ => rfl
  | .pl t :: ds, x, n => by simp [eSlots, eSlots_length ds x.2 n]
  | .bx t tid :: ds, x, n => by simp [eSlots, eSlots_length ds x.2 (n + 1)]

theorem eH_length : (ds : List EA) → (x : EArgs ds) → (eH ds x).length = (bxs ds).length
  | [], _ => rfl
  | .pl t :: ds, x => by simp [eH, bxs, eH_length ds x.2]
  | .bx t tid :: ds, x => by simp [eH, bxs, eH_length ds x.2]

theorem eArgs_slots {S : Nat → Prop} {w : World} {ρ : Names} : (ds : List EA) → {x : EArgs ds} → {vs : List Value} → {bs : List Nat} → {n : Nat} → EArgsRep P S w ds x vs bs → (∀ i b, bs[i]? = some b → ρ (n + i) = some (some b, 0)) → RelL P S w ρ (eSlots ds x n) vs
  | [], x, vs, bs, n, h, hρ => by obtain ⟨rfl, rfl⟩ := h; simp [eSlots, RelL]
  | .pl t :: ds, x, vs, bs, n, h, hρ => by
    obtain ⟨v, vs', rfl, h1, h2⟩ := h
    simp only [eSlots, RelL]
    exact ⟨v, vs', rfl, ofDV_rel h1, eArgs_slots ds h2 hρ⟩
  | .bx t tid :: ds, x, vs, bs, n, h, hρ => by
    obtain ⟨b, vs', bs', rfl, rfl, h1, h2, h3⟩ := h
    simp only [eSlots, RelL]
    refine ⟨_, vs', rfl, ?_, eArgs_slots ds h3 fun i b' hb => ?_⟩
    · simp only [Rel]
      exact ⟨b, 0, by have := hρ 0 b rfl; simpa using this, rfl⟩
    · have := hρ (i + 1) b' (by simpa using hb)
      rwa [show n + (i + 1) = n + 1 + i from by omega] at this

theorem eArgs_boxes {S : Nat → Prop} {w : World} : (ds : List EA) → {x : EArgs ds} → {vs : List Value} → {bs : List Nat} → EArgsRep P S w ds x vs bs → bs.length = (eH ds x).length ∧ bs.Nodup ∧ vs.length = ds.length ∧
    ∀ i b, bs[i]? = some b → ∃ (t : Ty) (tid : TypeId) (y : t.D), getB (eH ds x) i = .cells (ofD t y) tid ∧ BoxAt P S w t tid b y
  | [], x, vs, bs, h => by obtain ⟨rfl, rfl⟩ := h; exact ⟨rfl, List.nodup_nil, rfl, fun i b h => by simp at h⟩
  | .pl t :: ds, x, vs, bs, h => by
    obtain ⟨v, vs', rfl, h1, h2⟩ := h
    obtain ⟨r1, r2, r3, r4⟩ := eArgs_boxes ds h2
    exact ⟨r1, r2, by simp [r3], r4⟩
  | .bx t tid :: ds, x, vs, bs, h => by
    obtain ⟨b, vs', bs', rfl, rfl, h1, h2, h3⟩ := h
    obtain ⟨r1, r2, r3, r4⟩ := eArgs_boxes ds h3
    refine ⟨by simp [eH, r1], List.nodup_cons.2 ⟨h2, r2⟩, by simp [r3], fun i b' hb => ?_⟩
    cases i with
    | zero => simp at hb; subst hb; exact ⟨t, tid, x.1, rfl, h1⟩
    | succ i => exact r4 i b' (by simpa using hb)

theorem boxesE_ok {S : Nat → Prop} {w : World} {ρ : Names} {F1 : Clo1} {F2 : Clo2} {H H' : List Blk} (hg' : ∀ nm, BlkRel P S w ρ nm (getB H' nm)) (hg : ∀ nm, BlkRel P S w ρ nm (getB H nm))
    (hF1 : ∀ a c s F v, F1 a c s = some F → Rel P S w ρ s v → Rep P (.fn1 a c) (SLend S ρ (getB H')) w F [v]) (hF2 : ∀ a b c s F v, F2 a b c s = some F → Rel P S w ρ s v → Rep P (.fn2 a b c) (SLend S ρ (getB H')) w F [v]) :
    (ds : List EA) → {n : Nat} → {y : Args (bxs ds)} → {bs : List Nat} → boxesE F1 F2 H' H ds n = some y → bs.length = (bxs ds).length → (∀ i b, bs[i]? = some b → ¬ SLend S ρ (getB H') b ∧ b < w.heap.size ∧ ∃ cap, ρ (n + i) = some (some b, cap)) → BoxesAt P (SLend S ρ (getB H')) w ds bs y
  | [], n, y, bs, h, hl, hb => List.length_eq_zero_iff.1 hl
  | .pl _ :: ds, n, y, bs, h, hl, hb => boxesE_ok hg' hg hF1 hF2 ds (n := n) (y := y) h hl hb
  | .bx t tid :: ds, n, y, bs, h, hl, hb => by
    cases bs with
    | nil => simp [bxs] at hl
    | cons b bs =>
      simp only [boxesE] at h
      obtain ⟨h1, h2⟩ := both_some h
      obtain ⟨g1, g2, cap, g3⟩ := hb 0 b rfl
      rw [Nat.add_zero] at g3
      refine ⟨b, bs, rfl, ⟨g1, g2, ?_⟩, boxesE_ok hg' hg hF1 hF2 ds h2 (by simpa [bxs] using hl) fun i b' hb' => ?_⟩
      · unfold boxE at h1
        split at h1
        · rename_i l t' hh
          split at h1
          · rename_i ht
            subst ht
            have hblk := hg n
            rw [hh] at hblk
            obtain ⟨b2, cap2, e1, cs, e2, e3⟩ := hblk
            rw [g3] at e1; cases e1
            exact ⟨cs, e2, toD_rep hg' hF1 hF2 t h1 e3⟩
          · cases h1
        · cases h1
      · obtain ⟨a1, a2, a3⟩ := hb (i + 1) b' (by simpa using hb')
        refine ⟨a1, a2, ?_⟩
        rwa [show n + (i + 1) = n + 1 + i from by omega] at a3

theorem boxesE_live {F1 : Clo1} {F2 : Clo2} {H H' : List Blk} : (ds : List EA) → {n : Nat} → {y : Args (bxs ds)} → boxesE F1 F2 H' H ds n = some y → ∀ i, i < (bxs ds).length → (getB H (n + i)).live = true
  | [], n, y, h, i, hi => by simp [bxs] at hi
  | .pl _ :: ds, n, y, h, i, hi => boxesE_live ds (n := n) (y := y) h i hi
  | .bx t tid :: ds, n, y, h, i, hi => by
    simp only [boxesE] at h
    obtain ⟨h1, h2⟩ := both_some h
    cases i with
    | zero =>
      unfold boxE at h1
      split at h1
      · rename_i hh; rw [Nat.add_zero, hh]; rfl
      · cases h1
    | succ i =>
      have := boxesE_live ds h2 i (by simpa [bxs] using hi)
      rwa [show n + 1 + i = n + (i + 1) from by omega] at this

theorem ef_ok {tbl : List (FuncId × TF)} {f : FuncId} {fn : Func} {code : Code} {ef : EF} (hfol : P.follows .mixedOrders = true) (htbl : TblOk P tbl) (hf : P.funcs[f]? = some fn) (hbody : fn.body = some code)
    (vc : ∀ x, ef.pre x → exec P tbl code ⟨eStart ef.doms x fn.ntmps, eH ef.doms x⟩ fun e σ => (match e with | .exit _ => False | _ => True) ∧ RetE P tbl ef.doms ef.cods (ef.fn x) σ.H (goneN (bxs ef.doms).length σ.H) (resL P σ fn.results.toList)) : EFOk P f ef := by
  intro S w hb x vs bs hargs hpre
  obtain ⟨hlb, hnd, hlen, hbox⟩ := eArgs_boxes ef.doms hargs
  refine calls_of_wp hf hbody ?_
  have htm : (vs.toArray ++ Array.replicate (fn.ntmps - vs.toArray.size) undef) = (vs ++ List.replicate (fn.ntmps - ef.doms.length) undef).toArray := by
    apply Array.ext'
    simp [hlen]
  rw [htm]
  let ρ0 : Names := fun nm => (bs[nm]?).map fun b => (some b, 0)
  have hρ : ∀ i b, ρ0 i = some (some b, 0) ↔ bs[i]? = some b := fun i b => by simp [ρ0]
  have hρ' : ∀ i b cap, ρ0 i = some (some b, cap) → bs[i]? = some b := fun i b cap h => by
    simp only [ρ0, Option.map_eq_some_iff, Prod.mk.injEq, Option.some.injEq] at h
    obtain ⟨a, h1, rfl, _⟩ := h
    exact h1
  let cx : Cx := ⟨S, ρ0, eH ef.doms x, w, []⟩
  have hown0 : ∀ i, (getB (eH ef.doms x) i).isOwn = false := fun i => by
    rcases Nat.lt_or_ge i bs.length with h1 | h1
    · obtain ⟨t, tid, y, e, _⟩ := hbox i bs[i] (by simp [h1])
      rw [e]; rfl
    · rw [getB_out _ _ (by omega)]; rfl
  have hOwn : ∀ k, cx.Own k → k ∈ bs := fun k ⟨nm, cap, h1, h2⟩ => List.mem_of_getElem? (hρ' nm k cap h2)
  have h0 : Holds P cx ⟨eStart ef.doms x fn.ntmps, eH ef.doms x⟩ { tmps := (vs ++ List.replicate (fn.ntmps - ef.doms.length) undef).toArray, defers := [] } w S ρ0 := by
    have hrel : RelL P S w ρ0 (eStart ef.doms x fn.ntmps) (vs ++ List.replicate (fn.ntmps - ef.doms.length) undef) := by
      rw [eStart, undefs_eq]
      exact (eArgs_slots ef.doms hargs fun i b hib => by rw [Nat.zero_add]; exact (hρ i b).2 hib).append (relL_replicate _)
    refine ⟨⟨hb, fun nm => ?_, fun nm b cap hl hr => ?_, fun nm nm' b c c' hl hl' h1 h2 => ?_⟩, ⟨by simpa using hrel.length, fun t => ?_⟩,
      ⟨fun _ h => h, Nat.le_refl _, rfl, rfl, rfl, fun _ _ _ => rfl, fun nm b cap hl hr => .inl ⟨nm, cap, hl, hr⟩, fun k hk => .inl hk, fun nm _ _ => rfl, fun nm hk _ => hk⟩, fun nm hnm => ?_, Nat.le_refl _, rfl⟩
    · rcases Nat.lt_or_ge nm bs.length with h1 | h1
      · obtain ⟨t, tid, y, e, g1, g2, cs, g3, g4⟩ := hbox nm bs[nm] (by simp [h1])
        show BlkRel P S w ρ0 nm (getB (eH ef.doms x) nm)
        rw [e]
        exact ⟨bs[nm], 0, (hρ nm _).2 (by simp [h1]), cs, g3, ofD_rel t g4⟩
      · show BlkRel P S w ρ0 nm (getB (eH ef.doms x) nm)
        rw [getB_out _ _ (by omega)]; simp [BlkRel]
    · obtain ⟨t, tid, y, e, g1, g2, _⟩ := hbox nm b (hρ' nm b cap hr)
      exact ⟨g1, g2⟩
    · have e1 := hρ' nm b c h1
      have e2 := hρ' nm' b c' h2
      obtain ⟨l1, e1⟩ := List.getElem?_eq_some_iff.1 e1
      obtain ⟨l2, e2⟩ := List.getElem?_eq_some_iff.1 e2
      exact (List.getElem_inj hnd).1 (e1.trans e2.symm)
    · rcases Nat.lt_or_ge t (eStart ef.doms x fn.ntmps).length with h1 | h1
      · obtain ⟨v, h2, h3⟩ := hrel.get' h1
        rw [Array.getD_eq_getD_getElem?]
        simp only [List.getElem?_toArray, h2]
        exact h3
      · rw [get_out _ _ h1]; simp only [Rel]
    · simp only [ρ0, Option.map_eq_none_iff]
      exact List.getElem?_eq_none (by simp only at hnm; omega)
  refine exec_ok hfol htbl code h0 (vc x hpre) fun e a w' hA => ?_
  obtain ⟨σ, S', ρ', ⟨he, hret⟩, h⟩ := hA
  have fin : a.defers = [] ∧ ∃ v, (results fn a.tmps).run P w' = .ok v w' ∧ ∃ S' r, Ending.returned v = .returned r ∧ ResRep P ef.cods S' w' (ef.fn x).1 r ∧ BoxesAt P S' w' ef.doms bs (ef.fn x).2 ∧ ExtB bs S w S' w' := by
    unfold RetE at hret
    split at hret
    · rename_i svs p hrl
      obtain ⟨hp, hy, hbx⟩ := hret
      obtain ⟨us, h1, h2, h3⟩ := h.retS hrl hp
      have hres := run_results (P := P) (fn := fn) (tmps := a.tmps) (w := w') us h3 (by simpa using h2)
      have hlk : (bxs ef.doms).length = bs.length := by rw [hlb, eH_length]
      have hg' : ∀ nm, BlkRel P S' w' ρ' nm (getB (goneN (bxs ef.doms).length σ.H) nm) := fun nm => by
        rw [goneN_get]
        split
        · simp [BlkRel]
        · exact h.good.rel nm
      have hnames : ∀ i b, bs[i]? = some b → ρ' i = some (some b, 0) := fun i b hib => by
        have hi : i < bs.length := (List.getElem?_eq_some_iff.1 hib).1
        rw [h.since.names i (by show i < (eH ef.doms x).length; omega) (hown0 i)]
        exact (hρ i b).2 hib
      have hlive : ∀ i, i < bs.length → (getB σ.H i).live = true := fun i hi => by
        have := boxesE_live ef.doms hbx i (by omega)
        rwa [Nat.zero_add] at this
      have hnot : ∀ b, b ∈ bs → ¬ SLend S' ρ' (getB (goneN (bxs ef.doms).length σ.H)) b ∧ b < w'.heap.size := fun b hm => by
        obtain ⟨i, hi, e⟩ := List.mem_iff_getElem.1 hm
        have hib : bs[i]? = some b := by simp [hi, e]
        have hn := hnames i b hib
        obtain ⟨g1, g2⟩ := h.good.apart i b 0 (hlive i hi) hn
        refine ⟨fun hs => ?_, g2⟩
        rcases hs with hs | ⟨nm, cap, hl, hr⟩
        · exact g1 hs
        · rw [goneN_get] at hl
          split at hl
          · cases hl
          · rename_i hge
            have := h.good.inj nm i b cap 0 hl (hlive i hi) hr hn
            omega
      have hrel := toArgs_rep hg' (clo1_rep htbl hg') (clo2_rep htbl hg') _ hy h1
      refine ⟨h.defers, _, hres, SLend S' ρ' (getB (goneN (bxs ef.doms).length σ.H)), _, rfl, ⟨us, hrel, rfl⟩, ?_, ?_⟩
      · refine boxesE_ok hg' h.good.rel (clo1_rep htbl hg') (clo2_rep htbl hg') ef.doms hbx hlk.symm fun i b hib => ?_
        obtain ⟨q1, q2⟩ := hnot b (List.mem_of_getElem? hib)
        exact ⟨q1, q2, 0, by rw [Nat.zero_add]; exact hnames i b hib⟩
      · refine ⟨fun k hk => .inl (h.since.sub k hk), h.since.size, fun k hk hm => h.since.old k hk fun ho => hm (hOwn k ho), h.since.os, h.since.tape, h.since.output, fun k hk => ?_, fun k hk => ?_⟩
        · have hnb : k ∉ bs := fun hm => (hnot k hm).1 hk
          rcases hk with hk | ⟨nm, cap, h4, h5⟩
          · rcases h.since.pers k hk with h6 | h6 | h6
            · exact .inl h6
            · exact (hnb (hOwn k h6)).elim
            · exact .inr h6
          · rw [goneN_get] at h4
            split at h4
            · cases h4
            · rcases h.since.own nm k cap h4 h5 with h6 | h6
              · exact (hnb (hOwn k h6)).elim
              · exact .inr h6
        · rcases hk with hk | ⟨nm, cap, h4, h5⟩
          · exact h.good.bounded.lt k hk
          · rw [goneN_get] at h4
            split at h4
            · cases h4
            · exact (h.good.apart nm k cap h4 h5).2
    · exact hret.elim
  obtain ⟨f1, v, f2, f3⟩ := fin
  cases e with
  | normal => exact ⟨f1, v, f2, f3⟩
  | ret => exact ⟨f1, v, f2, f3⟩
  | exit j => exact he.elim
end
end Go.Vx
