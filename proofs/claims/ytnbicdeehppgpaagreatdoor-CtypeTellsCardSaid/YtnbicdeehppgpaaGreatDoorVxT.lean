/- A part of a small verifier for the model's programs, proved sound for any program; no condition. -/
import Derived.Test.YtnbicdeehppgpaaGreatDoorVxS
import Derived.Defers
set_option linter.unusedSimpArgs false
set_option linter.unusedVariables false
namespace Go.Vx
open Go
set_option linter.unusedSectionVars false
set_option linter.unusedVariables false

/-! #### functions that defer -/

/-- A call that is deferred: its function, the name under which its arguments lie aside, and their values; what it captured last. -/
structure DX where
  f : FuncId
  n : Nat
  vs : List Value
  cs : List Value

def DX.run (d : DX) : Deferred := ⟨.fn (.func d.f) d.cs.toArray, d.vs.toArray⟩
def runD (D : List DX) : List Deferred := D.map DX.run

/-- A predicate transformer tells truly what a deferred call does. -/
def WOkD (P : Program) (f : FuncId) (W : WP) : Prop :=
  ∀ cx w S ρ H args vs K u, Holds P cx ⟨[], H⟩ ⟨#[], []⟩ w S ρ → RelL P S w ρ args vs → W args H K →
    CallsD P f vs.toArray u w fun e u' w' => u' = u ∧ ∃ r rv H' S' ρ', e = .returned r ∧ Rel P S' w' ρ' rv r ∧ K rv H' ∧ Holds P cx ⟨[], H'⟩ ⟨#[], []⟩ w' S' ρ'

def DTblOk (P : Program) (dtbl : List (FuncId × WP)) : Prop := ∀ f W, tlook dtbl f = some W → WOkD P f W ∧ Enters P f

/-- The operations ahead of the first that defers, that one, and those behind. -/
def cutD : List Oper → Option (List Oper × Call × Option Nat × List Oper)
  | [] => none
  | o :: l => match o.op, o.guard with
    | .defer c, none => some ([], c, o.dst, l)
    | _, _ => (cutD l).map fun x => (o :: x.1, x.2)

def deferF (σ : St) (dst : Option Nat) (D : List DX) (args : List SV) (K : St → List DX → Prop) : SV → Prop
  | .fn f caps => ∀ vs cs : List Value, vs.length = args.length → K ⟨setO σ.slots dst noVal, σ.H ++ [.frame (args ++ caps) (vs ++ cs)]⟩ (⟨f, σ.H.length, vs, cs⟩ :: D)
  | _ => False
def deferx (c : Call) (dst : Option Nat) (σ : St) (D : List DX) (K : St → List DX → Prop) : Prop :=
  match c.callee with
  | .value f => deferF σ dst D (c.args.toList.map (evS σ.slots)) K (evS σ.slots f)
  | _ => False

def hasD : List Oper → Bool
  | [] => false
  | o :: l => (match o.op with
    | .defer _ => true
    | _ => false) || hasD l

section
variable (P : Program) (tbl : List (FuncId × TF))

def seqD (ops : List Oper) : Nat → List Oper → St → List DX → (St → List DX → Prop) → Prop
  | 0, _, _, _, _ => False
  | n + 1, l, σ, D, K => match cutD l with
    | none => seqx P tbl ops.toArray l σ (den P tbl (fun _ σ => K σ D) [] .normal)
    | some x => seqx P tbl ops.toArray x.1 σ (den P tbl (fun _ σ => deferx x.2.1 x.2.2.1 σ D fun σ D => seqD ops n x.2.2.2 σ D K) [] .normal)

def execD : Code → St → List DX → (Ex → St → List DX → Prop) → Prop
  | .seq a b, σ, D, K => execD a σ D fun e σ' D' => match e with
    | .normal => execD b σ' D' K
    | e => K e σ' D'
  | .cond c x y, σ, D, K => match evS σ.slots c with
    | .kb true => execD x σ D K
    | .kb false => execD y σ D K
    | .bool b => (b = true → execD x σ D K) ∧ (b = false → execD y σ D K)
    | _ => False
  | .block id c, σ, D, K => execD c σ D fun e σ' D' => match e with
    | .exit j => if j = id then K .normal σ' D' else K (.exit j) σ' D'
    | e => K e σ' D'
  | .region id ops false, σ, D, K => match hasD ops.toList with
    | true => seqD P tbl ops.toList 9 ops.toList σ D (K .normal)
    | false => exec P tbl (.region id ops false) σ (den P tbl (fun e σ' => K e σ' D) [])
  | c, σ, D, K => exec P tbl c σ (den P tbl (fun e σ' => K e σ' D) [])

def leaveW (l : List SV) (H : List Blk) (K : List Blk → Prop) : Option WP → Prop
  | some W => W l H fun _ H' => K H'
  | none => False
def leaveB (d : DX) (H : List Blk) (K : List Blk → Prop) (o : Option WP) : Blk → Prop
  | .frame l vs' => vs' = d.vs ++ d.cs ∧ leaveW l (setB H d.n .gone) K o
  | _ => False
def leavesD (dtbl : List (FuncId × WP)) : List DX → List Blk → (List Blk → Prop) → Prop
  | [], H, K => K H
  | d :: D, H, K => leaveB d H (fun H' => leavesD dtbl D H' K) (tlook dtbl d.f) (getB H d.n)

def endD2 (rs : List ResultVar) (n : Nat) (vs : List Value) (K : SV → List Blk → Prop) (H : List Blk) : Blk → Prop
  | .frame l vs' => vs' = vs ∧ InlR K (setB H n .gone) (resL P ⟨l, setB H n .gone⟩ rs)
  | _ => False
def endD (dtbl : List (FuncId × WP)) (rs : List ResultVar) (K : SV → List Blk → Prop) (σ : St) (D : List DX) : Prop :=
  ∀ vs : List Value, leavesD dtbl D (σ.H ++ [.frame σ.slots vs]) fun H' => endD2 P rs σ.H.length vs K H' (getB H' σ.H.length)
def InlD (dtbl : List (FuncId × WP)) (rs : List ResultVar) (K : SV → List Blk → Prop) : Ex → St → List DX → Prop
  | .exit _, _, _ => False
  | .ret, σ, D => endD P dtbl rs K σ D
  | .normal, σ, D => endD P dtbl rs K σ D
/-- The body of a function that defers, run in place. -/
def inlD (dtbl : List (FuncId × WP)) (code : Code) (n : Nat) (rs : List ResultVar) : WP := fun args H K => execD P tbl code ⟨args ++ undefs (n - args.length), H⟩ [] (InlD P dtbl rs K)
end

section
variable {P : Program} {tbl : List (FuncId × TF)} {dtbl : List (FuncId × WP)}

def Cx.at (cx : Cx) (D : List DX) : Cx := { cx with D := runD D }
def AfterD (P : Program) (cx : Cx) (K : St → List DX → Prop) (a : Act) (w : World) : Prop := ∃ σ D S ρ, K σ D ∧ Holds P (cx.at D) σ a w S ρ

theorem deferx_ok {cx : Cx} {o : Oper} {c : Call} {σ : St} {D : List DX} {a : Act} {w : World} {S : Nat → Prop} {ρ : Names} {K : St → List DX → Prop} {next : Act → World → Prop} {Q : Exit → Act → World → Prop} (h : Holds P (cx.at D) σ a w S ρ) (ho : o.op = .defer c)
    (hk : deferx c o.dst σ D K) (hn : ∀ a' σ' D', K σ' D' → Holds P (cx.at D') σ' a' w S ρ → next a' w) : o.wp P a w next Q := by
  unfold deferx at hk
  split at hk
  · rename_i f hc
    unfold deferF at hk
    split at hk
    · rename_i id caps hfe
      have hfr := evS_rel h.good.bounded h.slots f
      rw [hfe] at hfr
      simp only [Rel] at hfr
      obtain ⟨cs, hv, hcs⟩ := hfr
      have har := evS_relL' (P := P) (S := S) (w := w) (ρ := ρ) (slots := σ.slots) (a := a) c.args.toList fun x hx => evS_rel h.good.bounded h.slots x
      have hk1 := hk (c.args.toList.map a.eval) cs (by simp)
      have hrun : (execOp a.eval o).run P w = .ok (.defer (DX.run ⟨id, σ.H.length, c.args.toList.map a.eval, cs⟩)) w := by
        have e : c.args.map a.eval = (c.args.toList.map a.eval).toArray := by rw [map_arr]
        simp [execOp, ho, resolve, hc, hv, Deferred.ofValue, DX.run, e]
      unfold Oper.wp
      rw [hrun, Oper.upon_defer]
      refine hn _ _ _ hk1 ?_
      have hfr := h.fresh σ.H.length (Nat.le_refl _)
      have hq : QPost P S w ρ σ.H.length (some (.frame (c.args.toList.map (evS σ.slots) ++ caps) (c.args.toList.map a.eval ++ cs))) S w ρ := ⟨Ext.refl h.good.bounded, Keep.refl ρ, fun _ _ => rfl, fun _ => rfl, fun blk hb => by
        cases hb
        exact ⟨har.append hcs, fun b cap e => by rw [hfr] at e; cases e⟩⟩
      have hp := h.put (q := ⟨True, noVal, some (.frame (c.args.toList.map (evS σ.slots) ++ caps) (c.args.toList.map a.eval ++ cs))⟩) (v := undef) o.dst hq (by simp [noVal, Rel])
      have ht : ({ a with defers := DX.run ⟨id, σ.H.length, c.args.toList.map a.eval, cs⟩ :: a.defers } : Act).put o.dst undef = ⟨(a.put o.dst undef).tmps, DX.run ⟨id, σ.H.length, c.args.toList.map a.eval, cs⟩ :: a.defers⟩ := by
        cases o.dst <;> rfl
      rw [ht]
      exact ⟨hp.good, ⟨hp.slots.size, hp.slots.rel⟩, ⟨hp.since.sub, hp.since.size, hp.since.os, hp.since.tape, hp.since.output, hp.since.old, hp.since.own, hp.since.pers, hp.since.names, hp.since.ownH⟩, hp.fresh, hp.len, by
        show _ :: a.defers = _ :: runD D
        rw [h.defers]; rfl⟩
    · exact hk.elim
  · exact hk.elim

theorem seqx_app {cx : Cx} {ops : Array Oper} {Q : Exit → Act → World → Prop} {K : St → Prop} {more : List Oper} (htbl : TblOk P tbl) (hQ : ∀ a w, After P cx K a w → wpList P ops Q more a w) :
    (l : List Oper) → {σ : St} → {a : Act} → {w : World} → {S : Nat → Prop} → {ρ : Names} → Holds P cx σ a w S ρ → seqx P tbl ops l σ K → wpList P ops Q (l ++ more) a w
  | [], σ, a, w, S, ρ, h, hk => hQ a w ⟨σ, S, ρ, hk, h⟩
  | o :: rest, σ, a, w, S, ρ, h, hk => by
    rw [List.cons_append]
    unfold wpList
    rcases guardx_ok h hk with ⟨hw, σ', _, h', hr⟩ | ⟨hw, σ', _, h', hr⟩
    · rw [if_pos hw]
      refine .inl (opx_ok htbl h' hr _ Q fun v w' hv => ?_)
      obtain ⟨σ2, S2, ρ2, hk2, h2⟩ := hv
      exact seqx_app htbl hQ rest h2 hk2
    · rw [hw]
      simp only [Bool.false_eq_true, if_false]
      exact seqx_app htbl hQ rest (h'.putSlot o.dst (by simp [noVal, Rel])) hr

theorem cutD_some : (l : List Oper) → {x : List Oper × Call × Option Nat × List Oper} → cutD l = some x → ∃ o, l = x.1 ++ o :: x.2.2.2 ∧ o.op = .defer x.2.1 ∧ o.guard = none ∧ o.dst = x.2.2.1
  | [], x, h => by cases h
  | o :: l, x, h => by
    unfold cutD at h
    split at h
    · rename_i c h1 h2
      cases h
      exact ⟨o, rfl, h1, h2, rfl⟩
    · obtain ⟨y, hy, rfl⟩ := Option.map_eq_some_iff.1 h
      obtain ⟨o', h1, h2⟩ := cutD_some l hy
      exact ⟨o', by rw [h1]; rfl, h2⟩

theorem seqD_ok {cx : Cx} {ops : List Oper} {Q : Exit → Act → World → Prop} {K : St → List DX → Prop} (htbl : TblOk P tbl) (hQ : ∀ a w, AfterD P cx K a w → Q .normal a w) :
    (n : Nat) → (l : List Oper) → {σ : St} → {D : List DX} → {a : Act} → {w : World} → {S : Nat → Prop} → {ρ : Names} → Holds P (cx.at D) σ a w S ρ → seqD P tbl ops n l σ D K → wpList P ops.toArray Q l a w
  | 0, l, σ, D, a, w, S, ρ, h, hk => hk.elim
  | n + 1, l, σ, D, a, w, S, ρ, h, hk => by
    unfold seqD at hk
    cases hcut : cutD l with
    | none =>
      rw [hcut] at hk
      exact seqx_ok htbl (fun a w ⟨σ, S, ρ, hk, h⟩ => hQ a w ⟨σ, D, S, ρ, hk, h⟩) l h hk
    | some x =>
      rw [hcut] at hk
      obtain ⟨o, h1, h2, h3, h4⟩ := cutD_some l hcut
      rw [h1]
      refine seqx_app htbl (fun a w ⟨σ', S, ρ, hk', h'⟩ => ?_) x.1 h hk
      unfold wpList
      have hg : guardx ops.toArray o σ' (fun s => s = σ') (fun _ => False) := by unfold guardx; rw [h3]
      rcases guardx_ok h' hg with ⟨hw, s1, _, h'', hr⟩ | ⟨_, _, _, _, hr⟩
      · rw [if_pos hw]
        subst hr
        have hk2 : deferx x.2.1 o.dst s1 D fun σ D => seqD P tbl ops n x.2.2.2 σ D K := by rw [h4]; exact hk'
        exact .inl (deferx_ok h'' h2 hk2 fun a' σ2 D2 hk3 h3 => seqD_ok htbl hQ n x.2.2.2 h3 hk3)
      · exact hr.elim

theorem execD_ok {cx : Cx} (hfol : P.follows .mixedOrders = true) (htbl : TblOk P tbl) : (c : Code) → {σ : St} → {D : List DX} → {K : Ex → St → List DX → Prop} → {a : Act} → {w : World} → {S : Nat → Prop} → {ρ : Names} → {Q : Exit → Act → World → Prop} →
    Holds P (cx.at D) σ a w S ρ → execD P tbl c σ D K → (∀ e a w, AfterD P cx (K e) a w → Q e.to a w) → c.wp P Q a w
  | .seq x y, σ, D, K, a, w, S, ρ, Q, h, hk, hQ => by
    refine wp_seq (execD_ok hfol htbl x h hk fun e a w hA => ?_)
    obtain ⟨σ', D', S', ρ', hk', h'⟩ := hA
    cases e with
    | normal => exact execD_ok hfol htbl y h' hk' hQ
    | exit j => exact hQ (.exit j) a w ⟨σ', D', S', ρ', hk', h'⟩
    | ret => exact hQ .ret a w ⟨σ', D', S', ρ', hk', h'⟩
  | .cond c x y, σ, D, K, a, w, S, ρ, Q, h, hk, hQ => by
    have hr := evS_rel h.good.bounded h.slots c
    unfold execD at hk
    split at hk
    · rename_i e; rw [e] at hr; simp only [Rel] at hr
      exact wp_cond hr (execD_ok hfol htbl x h hk hQ)
    · rename_i e; rw [e] at hr; simp only [Rel] at hr
      exact wp_cond hr (execD_ok hfol htbl y h hk hQ)
    · rename_i b e; rw [e] at hr; simp only [Rel] at hr
      exact wp_cond_split hr (fun hb => execD_ok hfol htbl x h (hk.1 hb) hQ) (fun hb => execD_ok hfol htbl y h (hk.2 hb) hQ)
    · exact hk.elim
  | .block id c, σ, D, K, a, w, S, ρ, Q, h, hk, hQ => by
    refine wp_block (execD_ok hfol htbl c h hk fun e a w hA => ?_)
    obtain ⟨σ', D', S', ρ', hk', h'⟩ := hA
    cases e with
    | normal => exact hQ .normal a w ⟨σ', D', S', ρ', hk', h'⟩
    | exit j =>
      simp only [Ex.to, Exit.inBlock]
      simp only at hk'
      split at hk'
      · rename_i he; rw [if_pos he]; exact hQ .normal a w ⟨σ', D', S', ρ', hk', h'⟩
      · rename_i he; rw [if_neg he]; exact hQ (.exit j) a w ⟨σ', D', S', ρ', hk', h'⟩
    | ret => exact hQ .ret a w ⟨σ', D', S', ρ', hk', h'⟩
  | .region id ops false, σ, D, K, a, w, S, ρ, Q, h, hk, hQ => by
    unfold execD at hk
    split at hk
    · have := seqD_ok (cx := cx) (ops := ops.toList) (Q := Q) htbl (fun a w hA => hQ .normal a w hA) 9 ops.toList h hk
      rw [Array.toArray_toList] at this
      exact wp_region_list this
    · exact exec_ok hfol htbl _ h hk fun e a w ⟨σ, S, ρ, hk, h⟩ => hQ e a w ⟨σ, D, S, ρ, hk, h⟩
  | .region id ops true, σ, D, K, a, w, S, ρ, Q, h, hk, hQ => exec_ok hfol htbl (.region id ops true) h hk fun e a w ⟨σ, S, ρ, hk, h⟩ => hQ e a w ⟨σ, D, S, ρ, hk, h⟩
  | .skip, σ, D, K, a, w, S, ρ, Q, h, hk, hQ => exec_ok hfol htbl .skip h hk fun e a w ⟨σ, S, ρ, hk, h⟩ => hQ e a w ⟨σ, D, S, ρ, hk, h⟩
  | .loop c, σ, D, K, a, w, S, ρ, Q, h, hk, hQ => exec_ok hfol htbl (.loop c) h hk fun e a w ⟨σ, S, ρ, hk, h⟩ => hQ e a w ⟨σ, D, S, ρ, hk, h⟩
  | .exit id, σ, D, K, a, w, S, ρ, Q, h, hk, hQ => exec_ok hfol htbl (.exit id) h hk fun e a w ⟨σ, S, ρ, hk, h⟩ => hQ e a w ⟨σ, D, S, ρ, hk, h⟩
  | .ret, σ, D, K, a, w, S, ρ, Q, h, hk, hQ => exec_ok hfol htbl .ret h hk fun e a w ⟨σ, S, ρ, hk, h⟩ => hQ e a w ⟨σ, D, S, ρ, hk, h⟩
  | .label l, σ, D, K, a, w, S, ρ, Q, h, hk, hQ => exec_ok hfol htbl (.label l) h hk fun e a w ⟨σ, S, ρ, hk, h⟩ => hQ e a w ⟨σ, D, S, ρ, hk, h⟩
  | .rangeFunc _ _ _ _, σ, D, K, a, w, S, ρ, Q, h, hk, hQ => hk.elim
  | .scope _, σ, D, K, a, w, S, ρ, Q, h, hk, hQ => hk.elim
  | .goto _, σ, D, K, a, w, S, ρ, Q, h, hk, hQ => hk.elim
  | .refuse _, σ, D, K, a, w, S, ρ, Q, h, hk, hQ => hk.elim

theorem leaves_ok (hdt : DTblOk P dtbl) {fn : Func} {tmps : Array Value} {R : Ending → World → Prop} {cx : Cx} {K : List Blk → Prop}
    (hR : ∀ H' w' S' ρ', K H' → Holds P { cx with D := [] } ⟨[], H'⟩ ⟨#[], []⟩ w' S' ρ' → ∃ v, (results fn tmps).run P w' = .ok v w' ∧ R (.returned v) w') :
    (D : List DX) → {H : List Blk} → {w : World} → {S : Nat → Prop} → {ρ : Names} → Holds P { cx with D := [] } ⟨[], H⟩ ⟨#[], []⟩ w S ρ → leavesD dtbl D H K → Leaves P fn tmps R (runD D) .returning w
  | [], H, w, S, ρ, h, hk => hR _ _ _ _ hk h
  | d :: D, H, w, S, ρ, h, hk => by
    unfold leavesD leaveB at hk
    split at hk
    · rename_i l vs' hfrm
      obtain ⟨rfl, hk⟩ := hk
      unfold leaveW at hk
      split at hk
      · rename_i W htl
        obtain ⟨hw, hen⟩ := hdt _ _ htl
        have hrel := h.good.rel d.n
        rw [hfrm] at hrel
        have h3 := Holds.again (cx := cx) (a := ⟨(d.vs ++ d.cs).toArray, cx.D⟩) h rfl (by rw [hfrm])
        have h4 : Holds P { cx with D := [] } ⟨[], setB H d.n .gone⟩ ⟨#[], []⟩ w S ρ := ⟨h3.good, ⟨rfl, fun t => by simp [get, Rel]⟩, h3.since.reD [], h3.fresh, h3.len, rfl⟩
        have hc := hw _ w S ρ _ _ _ _ .returning h4 hrel hk
        refine ⟨by simp, .func d.f, d.cs.toArray, d.f, (d.vs ++ d.cs).toArray, rfl, ?_, hc.mono fun e u' w' ⟨hu, r, rv, H', S', ρ', he, hr, hK, hH⟩ => ?_⟩
        · have := run_invoke (P := P) (w := w) (args := d.vs.toArray) (caps := d.cs.toArray) hen
          simpa [DX.run] using this
        · subst hu he
          exact leaves_ok hdt hR D hH hK
      · exact hk.elim
    · exact hk.elim

theorem inlD_ok {f : FuncId} {fn : Func} {code : Code} (hfol : P.follows .mixedOrders = true) (htbl : TblOk P tbl) (hdt : DTblOk P dtbl) (hf : P.funcs[f]? = some fn) (hbody : fn.body = some code) : WOk P f (inlD P tbl dtbl code fn.ntmps fn.results.toList) := by
  intro cx w S ρ H args vs K h hr hk
  have hlen := hr.length
  refine calls_of_wp_defers hf hbody ?_
  have htm : (vs.toArray ++ Array.replicate (fn.ntmps - vs.toArray.size) undef) = (vs ++ List.replicate (fn.ntmps - args.length) undef).toArray := by
    apply Array.ext'
    simp [hlen]
  rw [htm]
  have h0 : Holds P (cx.at []) ⟨args ++ undefs (fn.ntmps - args.length), H⟩ { tmps := (vs ++ List.replicate (fn.ntmps - args.length) undef).toArray, defers := [] } w S ρ :=
    ⟨h.good, .of_relL (by rw [undefs_eq]; exact hr.append (relL_replicate _)), h.since.reD [], h.fresh, h.len, rfl⟩
  refine execD_ok (cx := cx) hfol htbl code h0 hk fun e a w' hA => ?_
  obtain ⟨σ, D, S', ρ', hret, h'⟩ := hA
  have fin : endD P dtbl fn.results.toList K σ D → Leaves P fn a.tmps (fun e w' => ∃ r rv H' S' ρ', e = .returned r ∧ Rel P S' w' ρ' rv r ∧ K rv H' ∧ Holds P cx ⟨[], H'⟩ ⟨#[], []⟩ w' S' ρ') a.defers .returning w' := fun hend => by
    rw [show a.defers = runD D from h'.defers]
    refine leaves_ok (cx := cx) hdt (fun H2 w2 S2 ρ2 hk2 hH2 => ?_) D h'.aside (hend a.tmps.toList)
    unfold endD2 at hk2
    split at hk2
    · rename_i l vs' hfrm
      obtain ⟨rfl, hk2⟩ := hk2
      have h3 := Holds.again (cx := cx) (a := ⟨a.tmps, cx.D⟩) hH2 rfl hfrm
      unfold InlR at hk2
      split at hk2
      · rename_i svs p hrl
        obtain ⟨hp, hK⟩ := hk2
        obtain ⟨us, h1, h2, h4⟩ := h3.retS hrl hp
        have hres := run_results (P := P) (fn := fn) (tmps := a.tmps) (w := w2) us h4 (by simpa using h2)
        exact ⟨_, hres, _, _, _, S2, ρ2, rfl, rel_tup h1, hK, h3.good, ⟨rfl, fun t => by simp [get, Rel]⟩, h3.since, h3.fresh, h3.len, h.defers⟩
      · exact hk2.elim
    · exact hk2.elim
  cases e with
  | normal => exact fin hret
  | ret => exact fin hret
  | exit j => exact hret.elim

/-- One that defers nothing may be deferred. -/
theorem inl_okD {f : FuncId} {fn : Func} {code : Code} (hfol : P.follows .mixedOrders = true) (htbl : TblOk P tbl) (hf : P.funcs[f]? = some fn) (hbody : fn.body = some code) : WOkD P f (inlW P tbl code fn.ntmps fn.results.toList) := by
  intro cx w S ρ H args vs K u h hr hk
  have hlen := hr.length
  refine callsD_of_wp hf hbody ?_
  have htm : (vs.toArray ++ Array.replicate (fn.ntmps - vs.toArray.size) undef) = (vs ++ List.replicate (fn.ntmps - args.length) undef).toArray := by
    apply Array.ext'
    simp [hlen]
  rw [htm]
  have h0 : Holds P cx ⟨args ++ undefs (fn.ntmps - args.length), H⟩ { tmps := (vs ++ List.replicate (fn.ntmps - args.length) undef).toArray, defers := [] } w S ρ :=
    ⟨h.good, .of_relL (by rw [undefs_eq]; exact hr.append (relL_replicate _)), h.since, h.fresh, h.len, h.defers⟩
  refine exec_ok hfol htbl code h0 hk fun e a w' hA => ?_
  obtain ⟨σ, S', ρ', hret, h'⟩ := hA
  have hret : InlK P fn.results.toList K e σ := hret
  obtain ⟨he, hret⟩ := hret
  have fin : a.defers = [] ∧ ∃ v, (results fn a.tmps).run P w' = .ok v w' ∧ ∃ r rv H' S' ρ', Ending.returned v = .returned r ∧ Rel P S' w' ρ' rv r ∧ K rv H' ∧ Holds P cx ⟨[], H'⟩ ⟨#[], []⟩ w' S' ρ' := by
    unfold InlR at hret
    split at hret
    · rename_i svs p hrl
      obtain ⟨hp, hK⟩ := hret
      obtain ⟨us, h1, h2, h3⟩ := h'.retS hrl hp
      have hres := run_results (P := P) (fn := fn) (tmps := a.tmps) (w := w') us h3 (by simpa using h2)
      exact ⟨h'.defers.trans h.defers.symm, _, hres, _, _, _, S', ρ', rfl, rel_tup h1, hK, h'.good, ⟨rfl, fun t => by simp [get, Rel]⟩, h'.since, h'.fresh, h'.len, h.defers⟩
    · exact hret.elim
  obtain ⟨f1, v, f2, f3⟩ := fin
  cases e with
  | normal => exact ⟨f1, v, f2, f3⟩
  | ret => exact ⟨f1, v, f2, f3⟩
  | exit j => exact he.elim

theorem dtblNil : DTblOk P [] := fun f W h => by cases h
theorem dtblCons {f : FuncId} {W : WP} {fn : Func} (h : WOkD P f W) (hf : P.funcs[f]? = some fn) (hb : (fn.body.isSome && !(fn.name == "runtime.NumGoroutine")) = true) (ht : DTblOk P dtbl) : DTblOk P ((f, W) :: dtbl) := fun g W' hg => by
  simp only [tlook] at hg
  split at hg
  · rename_i e
    subst e
    cases hg
    simp only [Bool.and_eq_true, Bool.not_eq_true'] at hb
    exact ⟨h, fn, hf, hb.1, hb.2⟩
  · exact ht g W' hg
end
end Go.Vx
