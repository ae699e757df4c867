/- A part of a small verifier for the model's programs, proved sound for any program; no condition. -/
import Derived.Test.YtnbicdeehppgpaaGreatDoorVxQ
set_option linter.unusedSimpArgs false
set_option linter.unusedVariables false
namespace Go.Vx
open Go

/-! #### the executor, written so that 'simp only' runs it: what comes next is a list of frames -/

inductive Fr where
  | seq (c : Code)
  | block (id : Nat)

section
variable (P : Program) (tbl : List (FuncId × TF)) (K : Ex → St → Prop)

def den : List Fr → Ex → St → Prop
  | [], e, σ => K e σ
  | .seq c :: fs, .normal, σ => exec P tbl c σ (den fs)
  | .seq _ :: fs, .exit j, σ => den fs (.exit j) σ
  | .seq _ :: fs, .ret, σ => den fs .ret σ
  | .block id :: fs, .exit j, σ => if j = id then den fs .normal σ else den fs (.exit j) σ
  | .block _ :: fs, .normal, σ => den fs .normal σ
  | .block _ :: fs, .ret, σ => den fs .ret σ

def sq (ops : List Oper) (l : List Oper) (s : List SV) (H : List Blk) (fs : List Fr) : Prop := seqx P tbl ops.toArray l ⟨s, H⟩ (den P tbl K fs .normal)

def sqB (q : Option QR) (o : Oper) (ops l : List Oper) (s : List SV) (H : List Blk) (fs : List Fr) : Prop :=
  match q with
  | some q => q.ob ∧ seqx P tbl ops.toArray l (St.put ⟨s, H⟩ o.dst q) (den P tbl K fs .normal)
  | none => effx P tbl o ⟨s, H⟩ fun σ => seqx P tbl ops.toArray l σ (den P tbl K fs .normal)

def dstAt : List Oper → Nat → Option Nat
  | [], _ => none
  | o :: _, 0 => o.dst
  | _ :: l, n + 1 => dstAt l n

def sqG (x : SV) (d : Nat) (want : Bool) (o : Oper) (ops l : List Oper) (s : List SV) (H : List Blk) (fs : List Fr) : Prop :=
  match x with
  | .kb b => if b = want then sqB P tbl K (evA P tbl H H.length s o.op) o ops l s H fs else sq P tbl K ops l (setO s o.dst noVal) H fs
  | .bool b => (b = want → sqB P tbl K (evA P tbl H H.length (setS s d (.kb want)) o.op) o ops l (setS s d (.kb want)) H fs) ∧ (b = (!want) → sq P tbl K ops l (setO (setS s d (.kb (!want))) o.dst noVal) H fs)
  | .raw (.tuple _) => sq P tbl K ops l (setO s o.dst noVal) H fs
  | _ => False

def sqD (dd : Option Nat) (want : Bool) (o : Oper) (ops l : List Oper) (s : List SV) (H : List Blk) (fs : List Fr) : Prop :=
  match dd with
  | some d => sqG P tbl K (get s d) d want o ops l s H fs
  | none => False

def dr (ops H0l : List Oper) (H0 : List Blk) (l : List Oper) (s : List SV) (nw : List (Option Blk)) (fs : List Fr) : Prop :=
  drawx P tbl ops.toArray H0 l s nw fun s nw => seqx P tbl ops.toArray H0l ⟨s, H0 ++ (trimN nw).map (·.getD .gone)⟩ (den P tbl K fs .normal)

def drB (q : Option QR) (o : Oper) (ops H0l : List Oper) (H0 : List Blk) (l : List Oper) (s : List SV) (nw : List (Option Blk)) (fs : List Fr) : Prop :=
  match q with
  | some q => q.ob ∧ dr P tbl K ops H0l H0 l (setO s o.dst q.val) (nw ++ [q.new]) fs
  | none => False

def drG (x : SV) (d : Nat) (want : Bool) (o : Oper) (ops H0l : List Oper) (H0 : List Blk) (l : List Oper) (s : List SV) (nw : List (Option Blk)) (fs : List Fr) : Prop :=
  match x with
  | .kb b => if b = want then drB P tbl K (evA P tbl H0 (H0.length + nw.length) s o.op) o ops H0l H0 l s nw fs else dr P tbl K ops H0l H0 l (setO s o.dst noVal) (nw ++ [none]) fs
  | .bool b => (b = want → drB P tbl K (evA P tbl H0 (H0.length + nw.length) (setS s d (.kb want)) o.op) o ops H0l H0 l (setS s d (.kb want)) nw fs) ∧ (b = (!want) → dr P tbl K ops H0l H0 l (setO (setS s d (.kb (!want))) o.dst noVal) (nw ++ [none]) fs)
  | .raw (.tuple _) => dr P tbl K ops H0l H0 l (setO s o.dst noVal) (nw ++ [none]) fs
  | _ => False

def drD (dd : Option Nat) (want : Bool) (o : Oper) (ops H0l : List Oper) (H0 : List Blk) (l : List Oper) (s : List SV) (nw : List (Option Blk)) (fs : List Fr) : Prop :=
  match dd with
  | some d => drG P tbl K (get s d) d want o ops H0l H0 l s nw fs
  | none => False

def cnd (x : SV) (a b : Code) (s : List SV) (H : List Blk) (fs : List Fr) : Prop :=
  match x with
  | .kb true => exec P tbl a ⟨s, H⟩ (den P tbl K fs)
  | .kb false => exec P tbl b ⟨s, H⟩ (den P tbl K fs)
  | .bool c => (c = true → exec P tbl a ⟨s, H⟩ (den P tbl K fs)) ∧ (c = false → exec P tbl b ⟨s, H⟩ (den P tbl K fs))
  | _ => False
end

section
variable {P : Program} {tbl : List (FuncId × TF)} {K : Ex → St → Prop} {s : List SV} {H : List Blk} {fs : List Fr}

theorem x_den0 {e : Ex} {σ : St} : den P tbl K [] e σ = K e σ := rfl
theorem x_den1 {c : Code} : den P tbl K (.seq c :: fs) .normal ⟨s, H⟩ = exec P tbl c ⟨s, H⟩ (den P tbl K fs) := rfl
theorem x_den2 {c : Code} {j : Nat} {σ : St} : den P tbl K (.seq c :: fs) (.exit j) σ = den P tbl K fs (.exit j) σ := rfl
theorem x_den3 {c : Code} {σ : St} : den P tbl K (.seq c :: fs) .ret σ = den P tbl K fs .ret σ := rfl
theorem x_den4 {id j : Nat} {σ : St} : den P tbl K (.block id :: fs) (.exit j) σ = if j = id then den P tbl K fs .normal σ else den P tbl K fs (.exit j) σ := rfl
theorem x_den5 {id : Nat} {σ : St} : den P tbl K (.block id :: fs) .normal σ = den P tbl K fs .normal σ := rfl
theorem x_den6 {id : Nat} {σ : St} : den P tbl K (.block id :: fs) .ret σ = den P tbl K fs .ret σ := rfl

theorem x_skip : exec P tbl .skip ⟨s, H⟩ (den P tbl K fs) = den P tbl K fs .normal ⟨s, H⟩ := rfl
theorem x_label {l : Nat} : exec P tbl (.label l) ⟨s, H⟩ (den P tbl K fs) = den P tbl K fs .normal ⟨s, H⟩ := rfl
theorem x_ret : exec P tbl .ret ⟨s, H⟩ (den P tbl K fs) = den P tbl K fs .ret ⟨s, H⟩ := rfl
theorem x_exit {id : Nat} : exec P tbl (.exit id) ⟨s, H⟩ (den P tbl K fs) = den P tbl K fs (.exit id) ⟨s, H⟩ := rfl
theorem x_seq {a b : Code} : exec P tbl (.seq a b) ⟨s, H⟩ (den P tbl K fs) = exec P tbl a ⟨s, H⟩ (den P tbl K (.seq b :: fs)) :=
  congrArg (exec P tbl a ⟨s, H⟩) (funext fun e => funext fun σ => by cases e <;> rfl)
theorem x_block {id : Nat} {a : Code} : exec P tbl (.block id a) ⟨s, H⟩ (den P tbl K fs) = exec P tbl a ⟨s, H⟩ (den P tbl K (.block id :: fs)) :=
  congrArg (exec P tbl a ⟨s, H⟩) (funext fun e => funext fun σ => by cases e <;> rfl)
theorem x_cond {c : Operand} {a b : Code} : exec P tbl (.cond c a b) ⟨s, H⟩ (den P tbl K fs) = cnd P tbl K (evS s c) a b s H fs := by
  unfold cnd
  rw [exec]
  simp only
  generalize evS s c = x
  cases x <;> first | rfl | (rename_i b; cases b <;> rfl)
theorem x_cnd1 {a b : Code} : cnd P tbl K (.kb true) a b s H fs = exec P tbl a ⟨s, H⟩ (den P tbl K fs) := rfl
theorem x_cnd2 {a b : Code} : cnd P tbl K (.kb false) a b s H fs = exec P tbl b ⟨s, H⟩ (den P tbl K fs) := rfl
theorem x_cnd3 {a b : Code} {c : Bool} : cnd P tbl K (.bool c) a b s H fs = ((c = true → exec P tbl a ⟨s, H⟩ (den P tbl K fs)) ∧ (c = false → exec P tbl b ⟨s, H⟩ (den P tbl K fs))) := rfl
theorem x_region {id : Nat} {ops : List Oper} : exec P tbl (.region id ops.toArray false) ⟨s, H⟩ (den P tbl K fs) = sq P tbl K ops ops s H fs := rfl
theorem x_draw {id : Nat} {ops : List Oper} : exec P tbl (.region id ops.toArray true) ⟨s, H⟩ (den P tbl K fs) =
    (drawOk (quietPre tbl s [] [] ops) ops.toArray = true ∧ dr P tbl K ops (ops.drop (quietPre tbl s [] [] ops)) H (ops.take (quietPre tbl s [] [] ops)) s [] fs) := rfl

theorem x_sq0 {ops : List Oper} : sq P tbl K ops [] s H fs = den P tbl K fs .normal ⟨s, H⟩ := rfl
theorem x_sq1 {ops l : List Oper} {dst : Option Tmp} {op : Op} {ty : TypeId} {pos : String} {after : Array Edge} :
    sq P tbl K ops (⟨dst, op, ty, pos, after, none⟩ :: l) s H fs = sqB P tbl K (evA P tbl H H.length s op) ⟨dst, op, ty, pos, after, none⟩ ops l s H fs := by
  simp only [sq, sqB, seqx, guardx, opx]
  cases evA P tbl H H.length s op <;> rfl

theorem dstAt_eq : (l : List Oper) → (j : Nat) → (l.toArray[j]?).bind (·.dst) = dstAt l j
  | [], j => rfl
  | o :: l, 0 => by simp [dstAt]
  | o :: l, j + 1 => by simpa [dstAt] using dstAt_eq l j

theorem x_sq2 {ops l : List Oper} {dst : Option Tmp} {op : Op} {ty : TypeId} {pos : String} {after : Array Edge} {j : Nat} {want : Bool} :
    sq P tbl K ops (⟨dst, op, ty, pos, after, some (j, want)⟩ :: l) s H fs = sqD P tbl K (dstAt ops j) want ⟨dst, op, ty, pos, after, some (j, want)⟩ ops l s H fs := by
  simp only [sq, sqD, sqG, seqx, guardx, dstAt_eq, opx, sqB]
  cases dstAt ops j with
  | none => rfl
  | some d =>
    simp only
    generalize get s d = x
    cases x <;> rfl
theorem x_sqD {ops l : List Oper} {o : Oper} {want : Bool} {d : Nat} : sqD P tbl K (some d) want o ops l s H fs = sqG P tbl K (get s d) d want o ops l s H fs := rfl

theorem x_sqG1 {d : Nat} {o : Oper} {ops l : List Oper} : sqG P tbl K (.kb true) d true o ops l s H fs = sqB P tbl K (evA P tbl H H.length s o.op) o ops l s H fs := rfl
theorem x_sqG2 {d : Nat} {o : Oper} {ops l : List Oper} : sqG P tbl K (.kb false) d false o ops l s H fs = sqB P tbl K (evA P tbl H H.length s o.op) o ops l s H fs := rfl
theorem x_sqG3 {d : Nat} {o : Oper} {ops l : List Oper} : sqG P tbl K (.kb false) d true o ops l s H fs = sq P tbl K ops l (setO s o.dst noVal) H fs := rfl
theorem x_sqG4 {d : Nat} {o : Oper} {ops l : List Oper} : sqG P tbl K (.kb true) d false o ops l s H fs = sq P tbl K ops l (setO s o.dst noVal) H fs := rfl
theorem x_sqG5 {d : Nat} {b want : Bool} {o : Oper} {ops l : List Oper} : sqG P tbl K (.bool b) d want o ops l s H fs =
    ((b = want → sqG P tbl K (.kb want) d want o ops l (setS s d (.kb want)) H fs) ∧ (b = (!want) → sqG P tbl K (.kb (!want)) d want o ops l (setS s d (.kb (!want))) H fs)) := by
  cases want <;> rfl
theorem x_sqG6 {d : Nat} {want : Bool} {o : Oper} {ops l : List Oper} : sqG P tbl K noVal d want o ops l s H fs = sq P tbl K ops l (setO s o.dst noVal) H fs := rfl

theorem x_sqB1 {ob : Prop} {val : SV} {o : Oper} {ops l : List Oper} : sqB P tbl K (some ⟨ob, val, none⟩) o ops l s H fs = (ob ∧ sq P tbl K ops l (setO s o.dst val) H fs) := rfl
theorem x_sqB2 {ob : Prop} {val : SV} {b : Blk} {o : Oper} {ops l : List Oper} : sqB P tbl K (some ⟨ob, val, some b⟩) o ops l s H fs = (ob ∧ sq P tbl K ops l (setO s o.dst val) (H ++ [b]) fs) := rfl

theorem x_dr0 {ops l0 : List Oper} {nw : List (Option Blk)} : dr P tbl K ops l0 H [] s nw fs = sq P tbl K ops l0 s (H ++ (trimN nw).map (·.getD .gone)) fs := rfl
theorem x_dr1 {ops l0 l : List Oper} {dst : Option Tmp} {op : Op} {ty : TypeId} {pos : String} {after : Array Edge} {nw : List (Option Blk)} :
    dr P tbl K ops l0 H (⟨dst, op, ty, pos, after, none⟩ :: l) s nw fs = drB P tbl K (evA P tbl H (H.length + nw.length) s op) ⟨dst, op, ty, pos, after, none⟩ ops l0 H l s nw fs := by
  simp only [dr, drB, drawx, guardD]
  cases evA P tbl H (H.length + nw.length) s op <;> rfl
theorem x_dr2 {ops l0 l : List Oper} {dst : Option Tmp} {op : Op} {ty : TypeId} {pos : String} {after : Array Edge} {nw : List (Option Blk)} {j : Nat} {want : Bool} :
    dr P tbl K ops l0 H (⟨dst, op, ty, pos, after, some (j, want)⟩ :: l) s nw fs = drD P tbl K (dstAt ops j) want ⟨dst, op, ty, pos, after, some (j, want)⟩ ops l0 H l s nw fs := by
  simp only [dr, drD, drG, drawx, guardD, dstAt_eq, drB]
  cases dstAt ops j with
  | none => rfl
  | some d =>
    simp only
    generalize get s d = x
    cases x <;> rfl
theorem x_drD {ops l0 l : List Oper} {o : Oper} {nw : List (Option Blk)} {want : Bool} {d : Nat} : drD P tbl K (some d) want o ops l0 H l s nw fs = drG P tbl K (get s d) d want o ops l0 H l s nw fs := rfl

theorem x_drG1 {d : Nat} {o : Oper} {ops l0 l : List Oper} {nw : List (Option Blk)} : drG P tbl K (.kb true) d true o ops l0 H l s nw fs = drB P tbl K (evA P tbl H (H.length + nw.length) s o.op) o ops l0 H l s nw fs := rfl
theorem x_drG2 {d : Nat} {o : Oper} {ops l0 l : List Oper} {nw : List (Option Blk)} : drG P tbl K (.kb false) d false o ops l0 H l s nw fs = drB P tbl K (evA P tbl H (H.length + nw.length) s o.op) o ops l0 H l s nw fs := rfl
theorem x_drG3 {d : Nat} {o : Oper} {ops l0 l : List Oper} {nw : List (Option Blk)} : drG P tbl K (.kb false) d true o ops l0 H l s nw fs = dr P tbl K ops l0 H l (setO s o.dst noVal) (nw ++ [none]) fs := rfl
theorem x_drG4 {d : Nat} {o : Oper} {ops l0 l : List Oper} {nw : List (Option Blk)} : drG P tbl K (.kb true) d false o ops l0 H l s nw fs = dr P tbl K ops l0 H l (setO s o.dst noVal) (nw ++ [none]) fs := rfl
theorem x_drG5 {d : Nat} {b want : Bool} {o : Oper} {ops l0 l : List Oper} {nw : List (Option Blk)} : drG P tbl K (.bool b) d want o ops l0 H l s nw fs =
    ((b = want → drG P tbl K (.kb want) d want o ops l0 H l (setS s d (.kb want)) nw fs) ∧ (b = (!want) → drG P tbl K (.kb (!want)) d want o ops l0 H l (setS s d (.kb (!want))) nw fs)) := by
  cases want <;> rfl
theorem x_drG6 {d : Nat} {want : Bool} {o : Oper} {ops l0 l : List Oper} {nw : List (Option Blk)} : drG P tbl K noVal d want o ops l0 H l s nw fs = dr P tbl K ops l0 H l (setO s o.dst noVal) (nw ++ [none]) fs := rfl
theorem x_drB1 {ob : Prop} {val : SV} {nb : Option Blk} {o : Oper} {ops l0 l : List Oper} {nw : List (Option Blk)} : drB P tbl K (some ⟨ob, val, nb⟩) o ops l0 H l s nw fs = (ob ∧ dr P tbl K ops l0 H l (setO s o.dst val) (nw ++ [nb]) fs) := rfl

theorem tblNil : TblOk P [] := fun f tf h => by cases h

theorem tblNat {f : FuncId} {tf : TF} (h : NatOk P f tf) (ht0 : tf.nat = true) (ht : TblOk P tbl) (he : tf.eff = none := by rfl) : TblOk P ((f, tf) :: tbl) := fun g tg hg => by
  simp only [tlook] at hg
  split at hg
  · rename_i e
    subst e
    cases hg
    show match tf.eff with | none => _ | some _ => _
    rw [he]
    exact .inr ⟨ht0, h⟩
  · exact ht g tg hg

theorem tblCons {f : FuncId} {tf : TF} {fn : Func} (h : TFOk P f tf) (hf : P.funcs[f]? = some fn) (hb : (fn.body.isSome && !(fn.name == "runtime.NumGoroutine")) = true) (ht : TblOk P tbl) (he : tf.eff = none := by rfl) : TblOk P ((f, tf) :: tbl) := fun g tg hg => by
  simp only [tlook] at hg
  split at hg
  · rename_i e
    subst e
    cases hg
    simp only [Bool.and_eq_true, Bool.not_eq_true'] at hb
    show match tf.eff with | none => _ | some _ => _
    rw [he]
    exact .inl ⟨h, fn, hf, hb.1, hb.2⟩
  · exact ht g tg hg

theorem tblEff {f : FuncId} {ef : EF} {fn : Func} (h : EFOk P f ef) (hf : P.funcs[f]? = some fn) (hb : (fn.body.isSome && !(fn.name == "runtime.NumGoroutine")) = true) (ht : TblOk P tbl) (he : ef.wp = none := by rfl) : TblOk P ((f, ef.tf) :: tbl) := fun g tg hg => by
  simp only [tlook] at hg
  split at hg
  · rename_i e
    subst e
    cases hg
    simp only [Bool.and_eq_true, Bool.not_eq_true'] at hb
    show match ef.wp with | none => _ | some _ => _
    rw [he]
    exact ⟨h, fn, hf, hb.1, hb.2⟩
  · exact ht g tg hg

/-- A predicate transformer, in a table. -/
def wpE (W : WP) : EF := { doms := [], cods := [], pre := fun _ => True, fn := fun _ => ((), ()), wp := some W }
theorem tblWp {f : FuncId} {W : WP} {fn : Func} (h : WOk P f W) (hf : P.funcs[f]? = some fn) (hb : (fn.body.isSome && !(fn.name == "runtime.NumGoroutine")) = true) (ht : TblOk P tbl) : TblOk P ((f, (wpE W).tf) :: tbl) := fun g tg hg => by
  simp only [tlook] at hg
  split at hg
  · rename_i e
    subst e
    cases hg
    simp only [Bool.and_eq_true, Bool.not_eq_true'] at hb
    exact .inl ⟨h, fn, hf, hb.1, hb.2⟩
  · exact ht g tg hg
theorem tblNW {f : FuncId} {W : WP} (h : NWOk P f W) (ht : TblOk P tbl) : TblOk P ((f, (wpE W).tf) :: tbl) := fun g tg hg => by
  simp only [tlook] at hg
  split at hg
  · rename_i e
    subst e
    cases hg
    exact .inr h
  · exact ht g tg hg

/-! #### a call whose body is run in place -/
def bodyOf (fn : Func) : Code := fn.body.getD .skip
def tupS : List SV → SV
  | [s] => s
  | l => .tup l
def InlR (K : SV → List Blk → Prop) (H : List Blk) : Option (List SV × Prop) → Prop
  | some (vs, p) => p ∧ K (tupS vs) H
  | none => False
def InlK (P : Program) (rs : List ResultVar) (K : SV → List Blk → Prop) : Ex → St → Prop := fun e σ => (match e with | .exit _ => False | _ => True) ∧ InlR K σ.H (resL P σ rs)
theorem x_ink1 {rs : List ResultVar} {K : SV → List Blk → Prop} : InlK P rs K .ret ⟨s, H⟩ = InlR K H (resL P ⟨s, H⟩ rs) := by simp [InlK]
theorem x_ink2 {rs : List ResultVar} {K : SV → List Blk → Prop} : InlK P rs K .normal ⟨s, H⟩ = InlR K H (resL P ⟨s, H⟩ rs) := by simp [InlK]
def inlW (P : Program) (tbl : List (FuncId × TF)) (code : Code) (n : Nat) (rs : List ResultVar) : WP := fun args H K => exec P tbl code ⟨args ++ undefs (n - args.length), H⟩ (den P tbl (InlK P rs K) [])

theorem rel_tup {S : Nat → Prop} {w : World} {ρ : Names} {l : List SV} {us : List Value} (h : RelL P S w ρ l us) : Rel P S w ρ (tupS l) (retOf us) := by
  have hl := h.length
  match l, us, h, hl with
  | [], [], h, _ => simp only [tupS, retOf, Rel]; exact ⟨[], rfl, h⟩
  | [s], [u], h, _ =>
    simp only [RelL] at h
    obtain ⟨v, vs', e, h1, _⟩ := h
    cases e
    exact h1
  | s :: t :: l, u :: v :: us, h, _ => simp only [tupS, retOf, Rel]; exact ⟨_, rfl, h⟩
  | [], _ :: _, _, hl => simp at hl
  | _ :: _, [], _, hl => simp at hl
  | [_], _ :: _ :: _, _, hl => simp at hl
  | _ :: _ :: _, [_], _, hl => simp at hl

theorem inl_ok {f : FuncId} {fn : Func} {code : Code} (hfol : P.follows .mixedOrders = true) (htbl : TblOk P tbl) (hf : P.funcs[f]? = some fn) (hbody : fn.body = some code) : WOk P f (inlW P tbl code fn.ntmps fn.results.toList) := by
  intro cx w S ρ H args vs K h hr hk
  have hlen := hr.length
  refine calls_of_wp hf hbody ?_
  have htm : (vs.toArray ++ Array.replicate (fn.ntmps - vs.toArray.size) undef) = (vs ++ List.replicate (fn.ntmps - args.length) undef).toArray := by
    apply Array.ext'
    simp [hlen]
  rw [htm]
  have h0 : Holds P cx ⟨args ++ undefs (fn.ntmps - args.length), H⟩ { tmps := (vs ++ List.replicate (fn.ntmps - args.length) undef).toArray, defers := [] } w S ρ :=
    ⟨h.good, .of_relL (by rw [undefs_eq]; exact hr.append (relL_replicate _)), h.since, h.fresh, h.len, h.defers⟩
  refine exec_ok hfol htbl code h0 hk fun e a w' hA => ?_
  obtain ⟨σ, S', ρ', hret, h'⟩ := hA
  have hret : InlK P fn.results.toList K e σ := hret
  obtain ⟨he, hret⟩ := hret
  have fin : a.defers = [] ∧ ∃ v, (results fn a.tmps).run P w' = .ok v w' ∧ ∃ r rv H' S' ρ', Ending.returned v = .returned r ∧ Rel P S' w' ρ' rv r ∧ K rv H' ∧ Holds P cx ⟨[], H'⟩ ⟨#[], []⟩ w' S' ρ' := by
    unfold InlR at hret
    split at hret
    · rename_i svs p hrl
      obtain ⟨hp, hK⟩ := hret
      obtain ⟨us, h1, h2, h3⟩ := h'.retS hrl hp
      have hres := run_results (P := P) (fn := fn) (tmps := a.tmps) (w := w') us h3 (by simpa using h2)
      exact ⟨h'.defers.trans h.defers.symm, _, hres, _, _, _, S', ρ', rfl, rel_tup h1, hK, h'.good, ⟨rfl, fun t => by simp [get, Rel]⟩, h'.since, h'.fresh, h'.len, h.defers⟩
    · exact hret.elim
  obtain ⟨f1, v, f2, f3⟩ := fin
  cases e with
  | normal => exact ⟨f1, v, f2, f3⟩
  | ret => exact ⟨f1, v, f2, f3⟩
  | exit j => exact he.elim

theorem drawOk_by {m : Nat} {ops : Array Oper} (h : drawOk m ops = true) : drawOk m ops = true := h

/-- The end of a function. -/
def FinK (P : Program) (tbl : List (FuncId × TF)) (rs : List ResultVar) (cods : List Ty) (y : Args cods) : Ex → St → Prop := fun e σ => (match e with | .exit _ => False | _ => True) ∧ RetVC P tbl rs cods y σ

/-- The end of one that hands out a list of its own. -/
def FinO (P : Program) (tbl : List (FuncId × TF)) (rs : List ResultVar) (cods : List Ty) (y : Args cods) (et : TypeId) : Ex → St → Prop := fun e σ => (match e with | .exit _ => False | _ => True) ∧ RetO P tbl rs cods y σ (some et)

def RetOwn (P : Program) (rs : List ResultVar) (cods : List Ty) (y : Args cods) (et : TypeId) (H : List Blk) : Option (List SV × Prop) → Prop
  | some (vs, p) => p ∧ ownVC H et cods y vs
  | none => False

theorem x_fio1 {rs : List ResultVar} {cods : List Ty} {y : Args cods} {et : TypeId} : FinO P tbl rs cods y et .ret ⟨s, H⟩ = RetOwn P rs cods y et H (resL P ⟨s, H⟩ rs) := by
  simp only [FinO, RetO, RetOwn, true_and]
  split <;> rename_i h <;> rw [h]
theorem x_fio2 {rs : List ResultVar} {cods : List Ty} {y : Args cods} {et : TypeId} : FinO P tbl rs cods y et .normal ⟨s, H⟩ = RetOwn P rs cods y et H (resL P ⟨s, H⟩ rs) := by
  simp only [FinO, RetO, RetOwn, true_and]
  split <;> rename_i h <;> rw [h]
theorem x_own1 {e : Ty} {xs : List e.D} {n : Nat} {t et : TypeId} {y : Args [.slice e]} : ownIs et n (.own e xs t) [.slice e] y = (t = et ∧ n ≤ List.length xs ∧ xs.take n = y.1) := by simp [ownIs, castL_self]
theorem x_own2 {e : Ty} {y : Args [.slice e]} : ownNil [.slice e] y = (y.1 = []) := rfl

theorem x_fin1 {rs : List ResultVar} {cods : List Ty} {y : Args cods} {σ : St} : FinK P tbl rs cods y .ret σ = RetVC P tbl rs cods y σ := by simp [FinK]
theorem x_fin2 {rs : List ResultVar} {cods : List Ty} {y : Args cods} {σ : St} : FinK P tbl rs cods y .normal σ = RetVC P tbl rs cods y σ := by simp [FinK]

/-- The end of a round. -/
def LoopK {γ : Type} (inv : γ → Prop) (μ : γ → Nat) (head : γ → St) (g : γ) (K : Ex → St → Prop) : Ex → St → Prop
  | .normal, σ => ∃ g', inv g' ∧ μ g' < μ g ∧ Sub σ (head g')
  | e, σ => K e σ

theorem x_lk1 {γ : Type} {inv : γ → Prop} {μ : γ → Nat} {head : γ → St} {g : γ} {σ : St} : LoopK inv μ head g K .normal σ = ∃ g', inv g' ∧ μ g' < μ g ∧ Sub σ (head g') := rfl
theorem x_lk2 {γ : Type} {inv : γ → Prop} {μ : γ → Nat} {head : γ → St} {g : γ} {σ : St} {j : Nat} : LoopK inv μ head g K (.exit j) σ = K (.exit j) σ := rfl
theorem x_lk3 {γ : Type} {inv : γ → Prop} {μ : γ → Nat} {head : γ → St} {g : γ} {σ : St} : LoopK inv μ head g K .ret σ = K .ret σ := rfl

/-- A loop, by an invariant over ghost values: which slots and blocks a round's head has (the others that the round writes are unknown there). -/
theorem x_loopA (ad : List (Nat × Ty × TypeId)) {σ : St} (hσ : adopt ⟨s, H⟩ ad = σ) (had : adoptOk ⟨s, H⟩ ad) {γ : Type} (ups : γ → List (Nat × SV)) (hups : γ → List (Nat × Blk)) (inv : γ → Prop) (μ : γ → Nat) (g0 : γ) {c : Code} (h0 : inv g0 ∧ Vx.Sub σ (atHead σ (wrote c) (ups g0) (hups g0)))
    (hr : ∀ g, inv g → exec P tbl c (atHead σ (wrote c) (ups g) (hups g)) (den P tbl (LoopK inv μ (fun g => atHead σ (wrote c) (ups g) (hups g)) g (den P tbl K fs)) [])) :
    exec P tbl (.loop c) ⟨s, H⟩ (den P tbl K fs) := by
  refine .inl ⟨ad, had, ?_⟩
  rw [hσ]
  refine ⟨γ, ups, hups, inv, μ, ⟨g0, h0⟩, fun g hg => ?_⟩
  have := hr g hg
  have e : den P tbl (LoopK inv μ (fun g => atHead σ (wrote c) (ups g) (hups g)) g (den P tbl K fs)) [] = (fun e σ' => match e with
      | .normal => ∃ g', inv g' ∧ μ g' < μ g ∧ Vx.Sub σ' (atHead σ (wrote c) (ups g') (hups g'))
      | e => den P tbl K fs e σ') := funext fun e => funext fun σ => by cases e <;> rfl
  rw [e] at this
  exact this

theorem x_loop {γ : Type} (ups : γ → List (Nat × SV)) (hups : γ → List (Nat × Blk)) (inv : γ → Prop) (μ : γ → Nat) (g0 : γ) {c : Code} (h0 : inv g0 ∧ Vx.Sub ⟨s, H⟩ (atHead ⟨s, H⟩ (wrote c) (ups g0) (hups g0)))
    (hr : ∀ g, inv g → exec P tbl c (atHead ⟨s, H⟩ (wrote c) (ups g) (hups g)) (den P tbl (LoopK inv μ (fun g => atHead ⟨s, H⟩ (wrote c) (ups g) (hups g)) g (den P tbl K fs)) [])) :
    exec P tbl (.loop c) ⟨s, H⟩ (den P tbl K fs) := x_loopA [] rfl trivial ups hups inv μ g0 h0 hr

/-- A loop is run round by round. -/
def UnK (P : Program) (tbl : List (FuncId × TF)) (c : Code) (n : Nat) (K' : Ex → St → Prop) : Ex → St → Prop
  | .normal, σ => UnrollVC (exec P tbl c) n σ K'
  | e, σ => K' e σ
theorem x_un0 {c : Code} {n : Nat} {K' : Ex → St → Prop} : UnrollVC (exec P tbl c) (n + 1) ⟨s, H⟩ K' = exec P tbl c ⟨s, H⟩ (den P tbl (UnK P tbl c n K') []) :=
  congrArg (exec P tbl c ⟨s, H⟩) (funext fun e => funext fun σ => by cases e <;> rfl)
theorem x_un1 {c : Code} {n : Nat} {K' : Ex → St → Prop} {σ : St} : UnK P tbl c n K' .normal σ = UnrollVC (exec P tbl c) n σ K' := rfl
theorem x_un2 {c : Code} {n j : Nat} {K' : Ex → St → Prop} {σ : St} : UnK P tbl c n K' (.exit j) σ = K' (.exit j) σ := rfl
theorem x_un3 {c : Code} {n : Nat} {K' : Ex → St → Prop} {σ : St} : UnK P tbl c n K' .ret σ = K' .ret σ := rfl
theorem x_unroll (n : Nat) {c : Code} {K' : Ex → St → Prop} (h : UnrollVC (exec P tbl c) n ⟨s, H⟩ K') : exec P tbl (.loop c) ⟨s, H⟩ K' := .inr ⟨n, h⟩

theorem x_sqE {o : Oper} {ops l : List Oper} : sqB P tbl K none o ops l s H fs = effx P tbl o ⟨s, H⟩ (fun σ => seqx P tbl ops.toArray l σ (den P tbl K fs .normal)) := rfl
theorem x_fold {ops l : List Oper} : seqx P tbl ops.toArray l ⟨s, H⟩ (den P tbl K fs .normal) = sq P tbl K ops l s H fs := rfl
theorem x_put1 {d : Option Nat} {ob : Prop} {val : SV} {b : Blk} : St.put ⟨s, H⟩ d ⟨ob, val, some b⟩ = ⟨setO s d val, H ++ [b]⟩ := rfl
theorem x_put0 {d : Option Nat} {ob : Prop} {val : SV} : St.put ⟨s, H⟩ d ⟨ob, val, none⟩ = ⟨setO s d val, H⟩ := rfl
section
variable {dst : Option Tmp} {ty : TypeId} {pos : String} {after : Array Edge} {g : Option (Nat × Bool)} {K' : St → Prop}
theorem x_ef1 {t : TypeId} {x v : Operand} : effx P tbl ⟨dst, .store t x v, ty, pos, after, g⟩ ⟨s, H⟩ K' = storex P t (evS s x) (evS s v) dst ⟨s, H⟩ K' := rfl
theorem x_ef2 {x : Operand} : effx P tbl ⟨dst, .next x true, ty, pos, after, g⟩ ⟨s, H⟩ K' = nexts (evS s x) dst ⟨s, H⟩ K' := rfl
theorem x_ef4 {x : Operand} : effx P tbl ⟨dst, .panic x, ty, pos, after, g⟩ ⟨s, H⟩ K' = False := rfl
theorem x_ef5 {f : Operand} {args : List Operand} {ts : Array TypeId} : effx P tbl ⟨dst, .call ⟨.value f, args.toArray, ts⟩, ty, pos, after, g⟩ ⟨s, H⟩ K' = callEx tbl ⟨s, H⟩ (args.map (evS s)) dst K' (evS s f) := rfl
theorem x_ef8 {x : Operand} {name : String} {args : List Operand} {ts : Array TypeId} : effx P tbl ⟨dst, .call ⟨.invoke x name, args.toArray, ts⟩, ty, pos, after, g⟩ ⟨s, H⟩ K' = callIx P tbl ⟨s, H⟩ name (args.map (evS s)) dst K' (evS s x) := rfl
theorem x_ef6 {t : TypeId} {m k v : Operand} : effx P tbl ⟨dst, .mapUpdate t m k v, ty, pos, after, g⟩ ⟨s, H⟩ K' = mapx (evS s m) (evS s k) (evS s v) dst ⟨s, H⟩ K' (mapOf P t) := rfl
theorem x_ef7 {t : TypeId} {m k v : Operand} : effx P tbl ⟨dst, .insert t m k v, ty, pos, after, g⟩ ⟨s, H⟩ K' = mapx (evS s m) (evS s k) (evS s v) dst ⟨s, H⟩ K' (mapOf P t) := rfl
theorem x_ef3 {a b : Operand} {t tx : TypeId} : effx P tbl ⟨dst, .call ⟨.builtin .append, #[a, b], #[t, tx]⟩, ty, pos, after, g⟩ ⟨s, H⟩ K' = appendx P tx (evS s a) (evS s b) dst ⟨s, H⟩ K' (tkOf P t) := rfl
theorem x_ef9 {a b : Operand} {t tx : TypeId} : effx P tbl ⟨dst, .call ⟨.builtin .copy, #[a, b], #[t, tx]⟩, ty, pos, after, g⟩ ⟨s, H⟩ K' = copyx P tx (evS s a) (evS s b) dst ⟨s, H⟩ K' (tkOf P t) := rfl
end

theorem l_refl {x : SV} : le1 x x = True := by
  refine eq_true ?_
  unfold le1
  split
  · trivial
  · rfl
  · rfl
  · rfl
theorem l_mp {a b : Nat} : le1 (.mp a) (.mp b) = (a = b) := by simp [le1]
theorem l_any {x : SV} : le1 x .any = True := by simp [le1]
theorem l_int {k k' : IntKind} {a b : Int} : le1 (.int k a) (.int k' b) = (k = k' ∧ a = b) := by simp [le1]
theorem l_bool {a b : Bool} : le1 (.bool a) (.bool b) = (a = b) := by simp [le1]
theorem l_kb {a b : Bool} : le1 (.kb a) (.bool b) = (a = b) := by simp [le1]
theorem l_kk {a b : Bool} : le1 (.kb a) (.kb b) = (a = b) := by simp [le1]
theorem l_str {a b : List UInt8} : le1 (.str a) (.str b) = (a = b) := by simp [le1]
theorem l_sl {e : Ty} {a b : List e.D} : le1 (.sl e a) (.sl e b) = (a = b) := by simp [le1]
theorem l_nils {e : Ty} {b : List e.D} : le1 .nils (.sl e b) = (b = []) := by simp [le1]
theorem l_pp {e : Ty} {a b : e.D} : le1 (.pp e a) (.pp e b) = (a = b) := by simp [le1]
theorem l_ptr {a b c d : Nat} : le1 (.ptr a b) (.ptr c d) = (a = c ∧ b = d) := by simp [le1]
theorem l_osl {n m a b : Nat} : le1 (.osl n a) (.osl m b) = (n = m ∧ a = b) := by simp [le1]
theorem l_slf {e : Ty} {a b : List e.D} : le1 (.slf e a) (.slf e b) = (a = b) := by simp [le1]
theorem l_ag {e : Ty} {a b : e.D} : le1 (.ag e a) (.ag e b) = (a = b) := by simp [le1]
theorem l_sls {e : Ty} {a b : List e.D} : le1 (.slf e a) (.sl e b) = (a = b) := by simp [le1]
theorem l_agg {a b : List SV} : le1 (.agg a) (.agg b) = (a = b) := by simp [le1]
theorem x_nv2 {n : Nat} : below n noVal = True := by simp [below, noVal]
theorem x_nv3 {n : Nat} : forget n noVal = noVal := by simp [forget, noVal]
theorem x_wr1 {id : Nat} {ops : List Oper} {d : Bool} : wrote (.region id ops.toArray d) = ops.filterMap (·.dst) := rfl

/-- A function on persistent data, by what its body comes to. -/
theorem tf_by {f : FuncId} {fn : Func} {code : Code} {tf : TF} (hfol : P.follows .mixedOrders = true) (htbl : TblOk P tbl) (hf : P.funcs[f]? = some fn) (hbody : fn.body = some code) (htot : tf.tot = false) (hown : tf.own = none)
    (vc : ∀ x, tf.pre x → exec P tbl code ⟨startS tf.doms x fn.ntmps, []⟩ (den P tbl (FinK P tbl fn.results.toList tf.cods (tf.fn x)) [])) : TFOk P f tf :=
  tf_ok (o := none) hfol htbl hf hbody hown fun x hx => vc x (by unfold TF.ob at hx; rw [htot] at hx; exact hx)

/-- One that asks nothing. -/
theorem tf_byT {f : FuncId} {fn : Func} {code : Code} {tf : TF} (hfol : P.follows .mixedOrders = true) (htbl : TblOk P tbl) (hf : P.funcs[f]? = some fn) (hbody : fn.body = some code) (hown : tf.own = none)
    (vc : ∀ x, exec P tbl code ⟨startS tf.doms x fn.ntmps, []⟩ (den P tbl (FinK P tbl fn.results.toList tf.cods (tf.fn x)) [])) : TFOk P f tf :=
  tf_ok (o := none) hfol htbl hf hbody hown fun x _ => vc x

/-- One that hands out a list of its own. -/
theorem tf_byO {f : FuncId} {fn : Func} {code : Code} {tf : TF} {et : TypeId} (hfol : P.follows .mixedOrders = true) (htbl : TblOk P tbl) (hf : P.funcs[f]? = some fn) (hbody : fn.body = some code) (htot : tf.tot = false) (hown : tf.own = some et)
    (vc : ∀ x, tf.pre x → exec P tbl code ⟨startS tf.doms x fn.ntmps, []⟩ (den P tbl (FinO P tbl fn.results.toList tf.cods (tf.fn x) et) [])) : TFOk P f tf :=
  tf_ok (o := some et) hfol htbl hf hbody hown fun x hx => vc x (by unfold TF.ob at hx; rw [htot] at hx; exact hx)

/-- The end of one that turns boxes. -/
def FinE (P : Program) (tbl : List (FuncId × TF)) (rs : List ResultVar) (ds : List EA) (cods : List Ty) (y : Args cods × Args (bxs ds)) : Ex → St → Prop := fun e σ => (match e with | .exit _ => False | _ => True) ∧ RetE P tbl ds cods y σ.H (goneN (bxs ds).length σ.H) (resL P σ rs)
theorem x_fie1 {rs : List ResultVar} {ds : List EA} {cods : List Ty} {y : Args cods × Args (bxs ds)} : FinE P tbl rs ds cods y .ret ⟨s, H⟩ = RetE P tbl ds cods y H (goneN (bxs ds).length H) (resL P ⟨s, H⟩ rs) := by simp [FinE]
theorem x_fie2 {rs : List ResultVar} {ds : List EA} {cods : List Ty} {y : Args cods × Args (bxs ds)} : FinE P tbl rs ds cods y .normal ⟨s, H⟩ = RetE P tbl ds cods y H (goneN (bxs ds).length H) (resL P ⟨s, H⟩ rs) := by simp [FinE]
theorem ef_by {f : FuncId} {fn : Func} {code : Code} {ef : EF} (hfol : P.follows .mixedOrders = true) (htbl : TblOk P tbl) (hf : P.funcs[f]? = some fn) (hbody : fn.body = some code)
    (vc : ∀ x, ef.pre x → exec P tbl code ⟨eStart ef.doms x fn.ntmps, eH ef.doms x⟩ (den P tbl (FinE P tbl fn.results.toList ef.doms ef.cods (ef.fn x)) [])) : EFOk P f ef :=
  ef_ok hfol htbl hf hbody vc
end
end Go.Vx
