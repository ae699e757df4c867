/- A part of a small verifier for the model's programs, proved sound for any program; no condition. -/
import Derived.Test.YtlibncpahaefbaaDoorVxN
namespace Go.Vx
open Go
set_option linter.unusedSectionVars false
set_option linter.unusedVariables false

/-- How a piece of code ends. -/
inductive Ex where
  | normal
  | exit (id : Nat)
  | ret

/-- Is an operation one of those that may be run in any order? (Else it waits for all ahead of it.) -/
def opQuiet : Op → Bool
  | .store .. | .mapUpdate .. | .insert .. | .next .. | .range .. | .entryStore .. | .mapEntry .. | .defer _ | .go _ | .send .. | .recv .. | .select .. | .panic _ | .makeMap .. => false
  | .call c => match c.callee with
    | .builtin b => match b with | .len | .cap | .max | .min => true | _ => false
    | _ => true
  | _ => true

def quietPre : List Oper → Nat
  | [] => 0
  | o :: l => if opQuiet o.op then quietPre l + 1 else 0

/-- Slots that a piece of code writes. -/
def wrote : Code → List Nat
  | .region _ ops _ => ops.toList.filterMap (·.dst)
  | .seq a b => wrote a ++ wrote b
  | .cond _ a b => wrote a ++ wrote b
  | .block _ a => wrote a
  | .loop a => wrote a
  | .scope a => wrote a
  | _ => []

def havoc (s : List SV) : List Nat → List SV
  | [] => s
  | d :: l => havoc (setS s d .any) l

def setSs (s : List SV) : List (Nat × SV) → List SV
  | [] => s
  | (d, x) :: l => setSs (setS s d x) l

def setBs (h : List Blk) : List (Nat × Blk) → List Blk
  | [] => h
  | (d, x) :: l => setBs (setB h d x) l

def atHead (σ : St) (W : List Nat) (ups : List (Nat × SV)) (hups : List (Nat × Blk)) : St := { slots := setSs (havoc σ.slots W) ups, H := setBs σ.H hups }

/-! #### what is known may be forgotten -/

def le1 (s s' : SV) : Prop :=
  match s' with
  | .any => True
  | .bool b' => match s with
    | .bool b => b = b'
    | .kb b => b = b'
    | _ => False
  | .sl e xs => match s with
    | .nils => xs = ([] : List e.D)
    | .slf e' ys => SV.sl e' ys = .sl e xs
    | s => s = .sl e xs
  | s' => s = s'

def leS : List SV → List SV → Prop
  | [], [] => True
  | s :: l, s' :: l' => le1 s s' ∧ leS l l'
  | _, _ => False

def leB (b b' : Blk) : Prop :=
  match b' with
  | .gone => True
  | .cells l' t' => match b with
    | .cells l t => t = t' ∧ leS l l'
    | _ => False
  | b' => b = b'

def leH : List Blk → List Blk → Prop
  | _, [] => True
  | b :: l, b' :: l' => leB b b' ∧ leH l l'
  | [], _ :: _ => False

/-- The names that a value tells of lie below n. -/
def below (n : Nat) : SV → Prop
  | .ptr nm _ => nm < n
  | .eptr nm _ _ => nm < n
  | .osl nm _ => nm < n
  | .agg l => belowL n l
  | .tup l => belowL n l
  | .fn _ l => belowL n l
  | .ifc _ x => below n x
  | _ => True
where belowL (n : Nat) : List SV → Prop
  | [] => True
  | s :: l => below n s ∧ belowL n l

def belowB (n : Nat) : Blk → Prop
  | .cells l _ => below.belowL n l
  | _ => True

def belowH (n : Nat) : List Blk → Prop
  | [] => True
  | b :: l => belowB n b ∧ belowH n l

/-- σ knows all that σ' knows. -/
def Sub (σ σ' : St) : Prop := leS σ.slots σ'.slots ∧ leH σ.H σ'.H ∧ below.belowL σ'.H.length σ'.slots ∧ belowH σ'.H.length σ'.H

/-- A loop: an invariant over ghost values g. -/
def LoopVC (run : St → (Ex → St → Prop) → Prop) (W : List Nat) (σ : St) (K : Ex → St → Prop) : Prop :=
  ∃ (γ : Type) (ups : γ → List (Nat × SV)) (hups : γ → List (Nat × Blk)) (inv : γ → Prop) (μ : γ → Nat),
    (∃ g, inv g ∧ Sub σ (atHead σ W (ups g) (hups g))) ∧
    ∀ g, inv g → run (atHead σ W (ups g) (hups g)) fun e σ' => match e with
      | .normal => ∃ g', inv g' ∧ μ g' < μ g ∧ Sub σ' (atHead σ W (ups g') (hups g'))
      | e => K e σ'

/-- Nil slices that are the call's own from here on: their slots, their elements' types. -/
def adopt : St → List (Nat × Ty × TypeId) → St
  | σ, [] => σ
  | σ, (d, e, t) :: l => adopt { slots := setS σ.slots d (.osl σ.H.length 0), H := σ.H ++ [.own e [] t] } l

def adoptOk : St → List (Nat × Ty × TypeId) → Prop
  | _, [] => True
  | σ, (d, e, t) :: l => get σ.slots d = .nils ∧ adoptOk { slots := setS σ.slots d (.osl σ.H.length 0), H := σ.H ++ [.own e [] t] } l

/-- The executor. -/
def exec (P : Program) (tbl : List (FuncId × TF)) : Code → St → (Ex → St → Prop) → Prop
  | .skip, σ, K => K .normal σ
  | .region _ ops false, σ, K => seqx P tbl ops ops.toList σ (K .normal)
  | .region _ ops true, σ, K => drawOk (quietPre ops.toList) ops = true ∧
      drawx P tbl ops σ.H (ops.toList.take (quietPre ops.toList)) σ.slots [] fun s nw => seqx P tbl ops (ops.toList.drop (quietPre ops.toList)) ⟨s, σ.H ++ (trimN nw).map (·.getD .gone)⟩ (K .normal)
  | .seq a b, σ, K => exec P tbl a σ fun e σ' => match e with
      | .normal => exec P tbl b σ' K
      | e => K e σ'
  | .cond c x y, σ, K => match evS σ.slots c with
      | .kb true => exec P tbl x σ K
      | .kb false => exec P tbl y σ K
      | .bool b => (b = true → exec P tbl x σ K) ∧ (b = false → exec P tbl y σ K)
      | _ => False
  | .block id c, σ, K => exec P tbl c σ fun e σ' => match e with
      | .exit j => if j = id then K .normal σ' else K (.exit j) σ'
      | e => K e σ'
  | .loop c, σ, K => ∃ ad, adoptOk σ ad ∧ LoopVC (exec P tbl c) (wrote c) (adopt σ ad) K
  | .exit id, σ, K => K (.exit id) σ
  | .ret, σ, K => K .ret σ
  | .label _, σ, K => K .normal σ
  | _, _, _ => False

end Go.Vx
