/- A part of a small verifier for the model's programs, proved sound for any program; no condition. -/
import Derived.Test.YtnbicdeehppgpaaGreatDoorVxU
set_option linter.unusedSimpArgs false
set_option linter.unusedVariables false
namespace Go.Vx
open Go
set_option linter.unusedSectionVars false
set_option linter.unusedVariables false

/-! #### functions that defer, written so that 'simp only' runs them -/
section
variable (P : Program) (tbl : List (FuncId × TF))

def dBase (K : Ex → St → List DX → Prop) (D : List DX) : Ex → St → Prop := fun e σ => K e σ D
def dSeq (b : Code) (K : Ex → St → List DX → Prop) : Ex → St → List DX → Prop
  | .normal, σ, D => execD P tbl b σ D K
  | e, σ, D => K e σ D
def dBlk (id : Nat) (K : Ex → St → List DX → Prop) : Ex → St → List DX → Prop
  | .exit j, σ, D => if j = id then K .normal σ D else K (.exit j) σ D
  | e, σ, D => K e σ D
def dCnd (x y : Code) (s : List SV) (H : List Blk) (D : List DX) (K : Ex → St → List DX → Prop) : SV → Prop
  | .kb true => execD P tbl x ⟨s, H⟩ D K
  | .kb false => execD P tbl y ⟨s, H⟩ D K
  | .bool b => (b = true → execD P tbl x ⟨s, H⟩ D K) ∧ (b = false → execD P tbl y ⟨s, H⟩ D K)
  | _ => False
def dReg (id : Nat) (ops : List Oper) (s : List SV) (H : List Blk) (D : List DX) (K : Ex → St → List DX → Prop) : Bool → Prop
  | true => seqD P tbl ops 9 ops ⟨s, H⟩ D (K .normal)
  | false => exec P tbl (.region id ops.toArray false) ⟨s, H⟩ (den P tbl (dBase K D) [])
def dNext (ops : List Oper) (n : Nat) (l : List Oper) (K : St → List DX → Prop) : St → List DX → Prop := fun σ D => seqD P tbl ops n l σ D K
def dDef (ops : List Oper) (n : Nat) (c : Call) (dst : Option Nat) (l : List Oper) (D : List DX) (K : St → List DX → Prop) : Ex → St → Prop := fun _ σ => deferx c dst σ D (dNext P tbl ops n l K)
def dNone (D : List DX) (K : St → List DX → Prop) : Ex → St → Prop := fun _ σ => K σ D
def dSq (ops : List Oper) (n : Nat) (l : List Oper) (s : List SV) (H : List Blk) (D : List DX) (K : St → List DX → Prop) : Option (List Oper × Call × Option Nat × List Oper) → Prop
  | none => sq P tbl (dNone D K) ops l s H []
  | some x => sq P tbl (dDef P tbl ops n x.2.1 x.2.2.1 x.2.2.2 D K) ops x.1 s H []
def dRet (K : List Blk → Prop) : SV → List Blk → Prop := fun _ H => K H
def dLeave (dtbl : List (FuncId × WP)) (D : List DX) (K : List Blk → Prop) : List Blk → Prop := fun H => leavesD dtbl D H K
def dEnd (rs : List ResultVar) (n : Nat) (vs : List Value) (K : SV → List Blk → Prop) : List Blk → Prop := fun H => endD2 P rs n vs K H (getB H n)
end

section
variable {P : Program} {tbl : List (FuncId × TF)} {dtbl : List (FuncId × WP)} {s : List SV} {H : List Blk} {D : List DX} {K : Ex → St → List DX → Prop}

theorem xd_base {e : Ex} : dBase K D e ⟨s, H⟩ = K e ⟨s, H⟩ D := rfl
theorem xd_seq {a b : Code} : execD P tbl (.seq a b) ⟨s, H⟩ D K = execD P tbl a ⟨s, H⟩ D (dSeq P tbl b K) :=
  congrArg (execD P tbl a ⟨s, H⟩ D) (funext fun e => funext fun σ => funext fun D => by cases e <;> rfl)
theorem xd_seq1 {b : Code} : dSeq P tbl b K .normal ⟨s, H⟩ D = execD P tbl b ⟨s, H⟩ D K := rfl
theorem xd_seq2 {b : Code} : dSeq P tbl b K .ret ⟨s, H⟩ D = K .ret ⟨s, H⟩ D := rfl
theorem xd_seq3 {b : Code} {j : Nat} : dSeq P tbl b K (.exit j) ⟨s, H⟩ D = K (.exit j) ⟨s, H⟩ D := rfl
theorem xd_block {id : Nat} {a : Code} : execD P tbl (.block id a) ⟨s, H⟩ D K = execD P tbl a ⟨s, H⟩ D (dBlk id K) :=
  congrArg (execD P tbl a ⟨s, H⟩ D) (funext fun e => funext fun σ => funext fun D => by cases e <;> rfl)
theorem xd_blk1 {id : Nat} : dBlk id K .normal ⟨s, H⟩ D = K .normal ⟨s, H⟩ D := rfl
theorem xd_blk2 {id : Nat} : dBlk id K .ret ⟨s, H⟩ D = K .ret ⟨s, H⟩ D := rfl
theorem xd_blk3 {id j : Nat} : dBlk id K (.exit j) ⟨s, H⟩ D = if j = id then K .normal ⟨s, H⟩ D else K (.exit j) ⟨s, H⟩ D := rfl
theorem xd_cond {c : Operand} {a b : Code} : execD P tbl (.cond c a b) ⟨s, H⟩ D K = dCnd P tbl a b s H D K (evS s c) := by
  rw [execD]
  simp only
  generalize evS s c = x
  cases x <;> first | rfl | (rename_i b; cases b <;> rfl)
theorem xd_cnd1 {a b : Code} : dCnd P tbl a b s H D K (.kb true) = execD P tbl a ⟨s, H⟩ D K := rfl
theorem xd_cnd2 {a b : Code} : dCnd P tbl a b s H D K (.kb false) = execD P tbl b ⟨s, H⟩ D K := rfl
theorem xd_cnd3 {a b : Code} {c : Bool} : dCnd P tbl a b s H D K (.bool c) = ((c = true → execD P tbl a ⟨s, H⟩ D K) ∧ (c = false → execD P tbl b ⟨s, H⟩ D K)) := rfl
theorem xd_region {id : Nat} {ops : List Oper} : execD P tbl (.region id ops.toArray false) ⟨s, H⟩ D K = dReg P tbl id ops s H D K (hasD ops) := by
  rw [execD]
  simp only [List.toList_toArray]
  generalize hasD ops = x
  cases x <;> rfl
theorem xd_draw {id : Nat} {ops : List Oper} : execD P tbl (.region id ops.toArray true) ⟨s, H⟩ D K = exec P tbl (.region id ops.toArray true) ⟨s, H⟩ (den P tbl (dBase K D) []) := by
  rw [execD] <;> first | rfl | (intros; simp_all)
theorem xd_reg1 {id : Nat} {ops : List Oper} : dReg P tbl id ops s H D K true = seqD P tbl ops 9 ops ⟨s, H⟩ D (K .normal) := rfl
theorem xd_reg2 {id : Nat} {ops : List Oper} : dReg P tbl id ops s H D K false = exec P tbl (.region id ops.toArray false) ⟨s, H⟩ (den P tbl (dBase K D) []) := rfl
theorem xd_skip : execD P tbl .skip ⟨s, H⟩ D K = K .normal ⟨s, H⟩ D := by
  rw [execD] <;> first | rfl | (intros; simp_all)
theorem xd_ret : execD P tbl .ret ⟨s, H⟩ D K = K .ret ⟨s, H⟩ D := by
  rw [execD] <;> first | rfl | (intros; simp_all)
theorem xd_exit {j : Nat} : execD P tbl (.exit j) ⟨s, H⟩ D K = K (.exit j) ⟨s, H⟩ D := by
  rw [execD] <;> first | rfl | (intros; simp_all)

variable {K1 : St → List DX → Prop}
theorem xd_sq {ops l : List Oper} {n : Nat} : seqD P tbl ops (n + 1) l ⟨s, H⟩ D K1 = dSq P tbl ops n l s H D K1 (cutD l) := by
  rw [seqD]
  generalize cutD l = x
  cases x <;> rfl
theorem xd_sq9 {ops l : List Oper} : seqD P tbl ops 9 l ⟨s, H⟩ D K1 = dSq P tbl ops 8 l s H D K1 (cutD l) := xd_sq
theorem xd_sq8 {ops l : List Oper} : seqD P tbl ops 8 l ⟨s, H⟩ D K1 = dSq P tbl ops 7 l s H D K1 (cutD l) := xd_sq
theorem xd_sq7 {ops l : List Oper} : seqD P tbl ops 7 l ⟨s, H⟩ D K1 = dSq P tbl ops 6 l s H D K1 (cutD l) := xd_sq
theorem xd_sqn {ops l : List Oper} {n : Nat} : dSq P tbl ops n l s H D K1 none = sq P tbl (dNone D K1) ops l s H [] := rfl
theorem xd_sqs {ops l pre : List Oper} {n : Nat} {c : Call} {dst : Option Nat} {rest : List Oper} : dSq P tbl ops n l s H D K1 (some (pre, c, dst, rest)) = sq P tbl (dDef P tbl ops n c dst rest D K1) ops pre s H [] := rfl
theorem xd_none {e : Ex} : dNone D K1 e ⟨s, H⟩ = K1 ⟨s, H⟩ D := rfl
theorem xd_def {ops rest : List Oper} {n : Nat} {c : Call} {dst : Option Nat} {e : Ex} : dDef P tbl ops n c dst rest D K1 e ⟨s, H⟩ = deferx c dst ⟨s, H⟩ D (dNext P tbl ops n rest K1) := rfl
theorem xd_next {ops rest : List Oper} {n : Nat} : dNext P tbl ops n rest K1 ⟨s, H⟩ D = seqD P tbl ops n rest ⟨s, H⟩ D K1 := rfl

variable {rs : List ResultVar} {K2 : SV → List Blk → Prop} {K3 : List Blk → Prop}
theorem xd_fin1 : InlD P dtbl rs K2 .normal ⟨s, H⟩ D = ∀ vs : List Value, leavesD dtbl D (H ++ [.frame s vs]) (dEnd P rs H.length vs K2) := rfl
theorem xd_fin2 : InlD P dtbl rs K2 .ret ⟨s, H⟩ D = ∀ vs : List Value, leavesD dtbl D (H ++ [.frame s vs]) (dEnd P rs H.length vs K2) := rfl
theorem xd_end {n : Nat} {vs : List Value} : dEnd P rs n vs K2 H = endD2 P rs n vs K2 H (getB H n) := rfl
theorem xd_lv0 : leavesD dtbl [] H K3 = K3 H := rfl
theorem xd_lv1 {d : DX} : leavesD dtbl (d :: D) H K3 = leaveB d H (dLeave dtbl D K3) (tlook dtbl d.f) (getB H d.n) := rfl
theorem xd_lvw {l : List SV} {W : WP} : leaveW l H K3 (some W) = W l H (dRet K3) := rfl
theorem xd_rt {rv : SV} : dRet K3 rv H = K3 H := rfl
theorem xd_lv {dtbl : List (FuncId × WP)} : dLeave dtbl D K3 H = leavesD dtbl D H K3 := rfl
end
end Go.Vx
