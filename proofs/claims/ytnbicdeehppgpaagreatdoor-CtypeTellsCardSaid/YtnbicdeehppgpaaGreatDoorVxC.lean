/- A part of a small verifier for the model's programs, proved sound for any program; no condition. -/
import Derived.Test.YtnbicdeehppgpaaGreatDoorGlT
import Derived.Laws.Entries
set_option linter.unusedSimpArgs false
set_option linter.unusedVariables false
namespace Go.Vx
open Go
set_option linter.unusedVariables false

def get : List SV → Nat → SV
  | [], _ => .any
  | s :: _, 0 => s
  | _ :: l, n + 1 => get l n

def setS : List SV → Nat → SV → List SV
  | [], _, _ => []
  | _ :: l, 0, x => x :: l
  | s :: l, n + 1, x => s :: setS l n x

def getB : List Blk → Nat → Blk
  | [], _ => .gone
  | b :: _, 0 => b
  | _ :: l, n + 1 => getB l n

def flat : SV → List SV
  | .agg l => l
  | s => [s]

/-- A type, as far as operations look at it. -/
inductive TK where
  | bool
  | int (k : IntKind)
  | str
  | slice (e : TypeId)
  | struct (fs : List (Nat × TypeId))
  | array (n : Nat) (e : TypeId)
  | ptr (e : TypeId)
  | map (k v : TypeId)
  | other

structure TI where
  kind : TK
  size : Nat
  bytes : Nat
  zero : Option Value

def kindOf : TypeDesc → TK
  | .bool => .bool
  | .int k => .int k
  | .string => .str
  | .slice e => .slice e
  | .struct fs => .struct (fs.toList.map fun f => (f.offset, f.type))
  | .array n e => .array n e
  | .pointer e => .ptr e
  | .map k v => .map k v
  | _ => .other

def tiOf (P : Program) (t : TypeId) : Option TI :=
  match P.info? t, P.underlying t with
  | some i, some d => some { kind := kindOf d, size := i.size, bytes := i.bytes, zero := i.zero }
  | _, _ => none

def tkOf (P : Program) (t : TypeId) : Option TK := (tiOf P t).map (·.kind)

def TK.isAgg : TK → Bool
  | .struct _ => true
  | .array _ _ => true
  | _ => false

/-- The type of data that values of a type are, if there is one. -/
def tyOf (P : Program) : Nat → TypeId → Option Ty
  | 0, _ => none
  | n + 1, t =>
    match P.underlying t with
    | some (.int k) => some (.int k)
    | some .bool => some .bool
    | some .string => some .str
    | some (.slice e) => (tyOf P n e).map .slice
    | some (.struct fs) => fs.toList.reverse.foldl (fun acc f => match tyOf P n f.type with
        | some t => match acc with | some (some r) => some (some (.pair t r)) | some none => some (some t) | none => none
        | none => none) (some none) |>.join
    | _ => none

/-- Two values of this struct type are held against each other field by field, plainly: the fields' kinds. -/
def eqKs (P : Program) (t : TypeId) : Option (List TK) :=
  if !P.stoodInHeld t && !P.eqGuardType P.depth t then
    match P.underlying t with
    | some (.struct fs) => if fs.toList.zipIdx.all fun (f, i) => f.offset == i && f.name != "_" then some (fs.toList.map fun f => (tkOf P f.type).getD .other) else none
    | _ => none
  else none

def ofCell : Value → SV
  | .int k n => .int k n
  | .bool b => .kb b
  | .string s => .str s.data.toList
  | .slice none 0 0 => .nils
  | .pointer none => .nilp
  | .nilFunc => .nilf
  | .nilIface => .nili
  | v => .raw v

def ofConst : Value → SV
  | .agg cs => .agg (cs.toList.map ofCell)
  | v => ofCell v

/-- So many nil slices. -/
def nilRow (n : Nat) : List SV := List.replicate n .nil0
def ofZCell : Value → SV
  | .slice none 0 0 => .nil0
  | v => ofCell v
/-- A type's zero, cell by cell; of one with many cells what is nil is told. -/
def ofZero : Value → SV
  | .agg cs => if 100 < cs.size then .agg (cs.toList.map ofZCell) else .agg (cs.toList.map ofCell)
  | v => ofCell v
theorem ofZero_row (n : Nat) : ofZero (.agg (Array.replicate n (.slice none 0 0))) = if 100 < n then .agg (nilRow n) else .agg (List.replicate n .nils) := by
  simp [ofZero, nilRow, ofZCell, ofCell]
theorem ofZero_list (l : List Value) : ofZero (.agg l.toArray) = if 100 < l.length then .agg (l.map ofZCell) else .agg (l.map ofCell) := by simp [ofZero]
theorem ofZero_int {k n} : ofZero (.int k n) = .int k n := rfl
theorem ofZero_bool {b} : ofZero (.bool b) = .kb b := rfl
theorem ofZero_string {s} : ofZero (.string s) = .str s.data.toList := rfl
theorem ofZero_slice : ofZero (.slice none 0 0) = .nils := rfl
theorem ofZero_pointer : ofZero (.pointer none) = .nilp := rfl
theorem ofZero_func : ofZero .nilFunc = .nilf := rfl
theorem ofZero_iface : ofZero .nilIface = .nili := rfl
theorem ofZero_map {m} : ofZero (.map m) = ofCell (.map m) := rfl

def glS (g : Nat) : Option ((t : Ty) × t.D) → SV
  | some x => .pp x.1 x.2
  | none => .raw (.pointer (some ⟨g, 0, none⟩))

def evS (slots : List SV) : Operand → SV
  | .tmp t => get slots t
  | .const v => ofConst v
  | .global g => glS g (glTyp g)
  | .func f => .fn f []

def toInt (k : IntKind) : SV → Option Int
  | .int k' n => if k' = k then some n else none
  | _ => none

def toBool : SV → Option Bool
  | .bool b => some b
  | .kb b => some b
  | _ => none

def toStr : SV → Option (List UInt8)
  | .str s => some s
  | _ => none

def toNil : SV → Option Unit
  | .nils => some ()
  | _ => none

def toSlB (e : Ty) (n : Nat) : Blk → Option (List e.D)
  | .own e' xs _ => if h : e' = e then (if n ≤ List.length xs then some (h ▸ xs.take n) else none) else none
  | _ => none

def toSl (H : List Blk) (e : Ty) : SV → Option (List e.D)
  | .sl e' xs => if h : e' = e then some (h ▸ xs) else none
  | .slf e' xs => if h : e' = e then some (h ▸ xs) else none
  | .nils => some []
  | .osl nm n => toSlB e n (getB H nm)
  | _ => none

def arrD : (a : Ty) → (e : Ty) → List e.D → Option a.D
  | .arr e' n, e, xs => if h : e = e' then (if List.length xs = n then some (h ▸ xs) else none) else none
  | _, _, _ => none

def boxD (a : Ty) (f : List SV → Option a.D) : Blk → Option a.D
  | .cells l _ => f l
  | .own e xs _ => arrD a e xs
  | _ => none

def toRef (H : List Blk) (a : Ty) (f : List SV → Option a.D) : SV → Option a.D
  | .pp e' x => if h : e' = a then some (h ▸ x) else none
  | .ptr nm off => if off = 0 then boxD a f (getB H nm) else none
  | _ => none

/-- How function values are told. -/
abbrev F1D (a c : Ty) := (a.D → Prop) × (a.D → c.D)
abbrev F2D (a b c : Ty) := (a.D → b.D → Prop) × (a.D → b.D → c.D)
abbrev Clo1 := (a c : Ty) → SV → Option (F1D a c)
abbrev Clo2 := (a b c : Ty) → SV → Option (F2D a b c)

def no1 : Clo1 := fun a c s => match s with
  | .f1 a' c' F => if h : a' = a ∧ c' = c then some (h.1 ▸ h.2 ▸ F) else none
  | _ => none

def no2 : Clo2 := fun a b c s => match s with
  | .f2 a' b' c' F => if h : a' = a ∧ b' = b ∧ c' = c then some (h.1 ▸ h.2.1 ▸ h.2.2 ▸ F) else none
  | _ => none

theorem toInt_self (k : IntKind) (n : Int) : toInt k (.int k n) = some n := by simp [toInt]
theorem toSl_self (H : List Blk) (e : Ty) (xs : List e.D) : toSl H e (.sl e xs) = some xs := by simp [toSl]
theorem toSl_slf (H : List Blk) (e : Ty) (xs : List e.D) : toSl H e (.slf e xs) = some xs := by simp [toSl]
theorem toSl_nils (H : List Blk) (e : Ty) : toSl H e .nils = some [] := rfl
theorem toSl_osl (H : List Blk) (e : Ty) (nm n : Nat) : toSl H e (.osl nm n) = toSlB e n (getB H nm) := rfl
theorem toSlB_self (e : Ty) (n : Nat) (xs : List e.D) (t : TypeId) : toSlB e n (.own e xs t) = if n ≤ List.length xs then some (xs.take n) else none := by simp [toSlB]
theorem arrD_self (e : Ty) (n : Nat) (xs : List e.D) : arrD (.arr e n) e xs = if List.length xs = n then some xs else none := by simp [arrD]
theorem toRef_self (H : List Blk) (e : Ty) (f : List SV → Option e.D) (x : e.D) : toRef H e f (.pp e x) = some x := by simp [toRef]
theorem toRef_ptr (H : List Blk) (e : Ty) (f : List SV → Option e.D) (nm : Nat) : toRef H e f (.ptr nm 0) = boxD e f (getB H nm) := by simp [toRef]
theorem no1_self (a c : Ty) (F : F1D a c) : no1 a c (.f1 a c F) = some F := by simp [no1]
theorem no2_self (a b c : Ty) (F : F2D a b c) : no2 a b c (.f2 a b c F) = some F := by simp [no2]

def oneOf {α : Type} (f : SV → Option α) : List SV → Option α
  | [s] => f s
  | _ => none

def both {α β : Type} : Option α → Option β → Option (α × β)
  | some x, some y => some (x, y)
  | _, _ => none

/-- Data out of the cells of a value; what the call owns is lent. -/
def toD (F1 : Clo1) (F2 : Clo2) (H : List Blk) : (t : Ty) → List SV → Option t.D
  | .int k, l => oneOf (toInt k) l
  | .bool, l => oneOf toBool l
  | .str, l => oneOf toStr l
  | .nilS, l => oneOf toNil l
  | .opq, _ => none
  | .pair a b, l => both (toD F1 F2 H a (l.take a.size)) (toD F1 F2 H b (l.drop a.size))
  | .slice e, l => oneOf (toSl H e) l
  | .tree a, l => (both (toD F1 F2 H a (l.take a.size)) (oneOf (toSl H (.tree a)) (l.drop a.size))).map fun x => .node x.1 x.2
  | .ref a, l => oneOf (toRef H a (toD F1 F2 H a)) l
  | .fn1 a c, l => oneOf (F1 a c) l
  | .fn2 a b c, l => oneOf (F2 a b c) l
  | .arr _ _, _ => none

def toAg (t : Ty) : SV → Option t.D
  | .ag t' x => if h : t' = t then some (h ▸ x) else none
  | _ => none

theorem toAg_self (t : Ty) (x : t.D) : toAg t (.ag t x) = some x := by simp [toAg]

def toDV (F1 : Clo1) (F2 : Clo2) (H : List Blk) (t : Ty) (s : SV) : Option t.D :=
  if t.isAgg then match s with
    | .agg l => toD F1 F2 H t l
    | s => toAg t s
  else toD F1 F2 H t [s]

/-- The cells of a datum's value. -/
def ofD : (t : Ty) → t.D → List SV
  | .int k, n => [.int k n]
  | .bool, b => [.bool b]
  | .str, s => [.str s]
  | .nilS, _ => [.nils]
  | .opq, _ => [.any]
  | .pair a b, x => ofD a x.1 ++ ofD b x.2
  | .slice e, xs => [.sl e xs]
  | .tree a, .node x ks => ofD a x ++ [.sl (.tree a) ks]
  | .ref a, x => [.pp a x]
  | .fn1 a c, F => [.f1 a c F]
  | .fn2 a b c, F => [.f2 a b c F]
  | .arr e n, _ => List.replicate (n * e.size) .any

def one : List SV → SV
  | [s] => s
  | _ => .any

def ofDV (t : Ty) (x : t.D) : SV := if t.isAgg then (match t, x with
  | .arr e n, x => .ag (.arr e n) x
  | t, x => .agg (ofD t x)) else one (ofD t x)

/-- What a function that turns boxes of the caller's is handed: plain data, or a pointer to a box. -/
inductive EA where
  | pl (t : Ty)
  | bx (t : Ty) (tid : TypeId)

@[reducible] def EArgs : List EA → Type
  | [] => Unit
  | .pl t :: l => t.D × EArgs l
  | .bx t _ :: l => t.D × EArgs l

@[reducible] def bxs : List EA → List Ty
  | [] => []
  | .pl _ :: l => bxs l
  | .bx t _ :: l => t :: bxs l

/-- A contract that is a predicate transformer: what is handed, the blocks, and what must hold behind it. -/
abbrev WP := List SV → List Blk → (SV → List Blk → Prop) → Prop

/-- What such a function does: its results, and what the boxes hold behind it. -/
structure EF where
  doms : List EA
  cods : List Ty
  pre : EArgs doms → Prop
  fn : EArgs doms → Args cods × Args (bxs doms)
  wp : Option WP := none

/-- What a function on persistent data does. -/
structure TF where
  doms : List Ty
  cods : List Ty
  pre : Args doms → Prop
  fn : Args doms → Args cods
  tot : Bool := false
  nat : Bool := false
  own : Option TypeId := none
  eff : Option EF := none

/-- One that turns boxes, in a table. -/
def EF.tf (ef : EF) : TF := ⟨[], [], fun _ => True, fun x => x, false, false, none, some ef⟩

/-- What must hold of the arguments. -/
def TF.ob (tf : TF) (x : Args tf.doms) : Prop :=
  match tf.tot with
  | true => True
  | false => tf.pre x

def toArgs (F1 : Clo1) (F2 : Clo2) (H : List Blk) : (ts : List Ty) → List SV → Option (Args ts)
  | [], [] => some ()
  | t :: ts, s :: l => both (toDV F1 F2 H t s) (toArgs F1 F2 H ts l)
  | _, _ => none

def ofArgs : (ts : List Ty) → Args ts → List SV
  | [], _ => []
  | t :: ts, x => ofDV t x.1 :: ofArgs ts x.2

def ofRes : (ts : List Ty) → Args ts → SV
  | [t], x => ofDV t x.1
  | ts, x => .tup (ofArgs ts x)

def tlook {α : Type} : List (Nat × α) → Nat → Option α
  | [], _ => none
  | (k, x) :: l, n => if n = k then some x else tlook l n

/-- A part of a persistent struct, by its place and its size in cells. -/
def subP : (t : Ty) → t.D → Nat → Nat → SV
  | .pair a b, x, off, n => if off = 0 ∧ a.size + b.size = n then .pp (.pair a b) x else if off < a.size then subP a x.1 off n else subP b x.2 (off - a.size) n
  | .tree a, .node x ks, off, n => if off = 0 ∧ a.size + 1 = n then .pp (.tree a) (.node x ks) else if off < a.size then subP a x off n else if off = a.size ∧ n = 1 then .pp (.slice (.tree a)) ks else .any
  | .arr e k, x, off, n => if off = 0 ∧ k * e.size = n then .pp (.arr e k) x else .any
  | t, x, off, n => if off = 0 ∧ n = 1 then .pp t x else .any

structure QR where
  ob : Prop
  val : SV
  new : Option Blk := none

def shiftI (op : BinOp) (k : IntKind) (x y : Int) : Int :=
  let n := min y.toNat k.bits
  match op with
  | .shl => k.wrap (x * 2 ^ n)
  | _ => x.fdiv (2 ^ n)

def asB : SV → Option Bool
  | .bool b => some b
  | .kb b => some b
  | _ => none

def eqCells : List TK → List SV → List SV → Option Bool
  | [], [], [] => some true
  | .int _ :: ks, .int k a :: l, .int k' b :: m => if k = k' then (eqCells ks l m).map fun r => (a == b) && r else none
  | .str :: ks, .str a :: l, .str b :: m => (eqCells ks l m).map fun r => (a == b) && r
  | .bool :: ks, .bool a :: l, .bool b :: m => (eqCells ks l m).map fun r => (a == b) && r
  | .bool :: ks, .bool a :: l, .kb b :: m => (eqCells ks l m).map fun r => (a == b) && r
  | .bool :: ks, .kb a :: l, .bool b :: m => (eqCells ks l m).map fun r => (a == b) && r
  | .bool :: ks, .kb a :: l, .kb b :: m => (eqCells ks l m).map fun r => (a == b) && r
  | _, _, _ => none

def intBin (op : BinOp) (k : IntKind) (a b : Int) : Option QR :=
  match op with
  | .add => some ⟨True, .int k (k.wrap (a + b)), none⟩
  | .sub => some ⟨True, .int k (k.wrap (a - b)), none⟩
  | .mul => some ⟨True, .int k (k.wrap (a * b)), none⟩
  | .quo => some ⟨b ≠ 0, .int k (k.wrap (a.tdiv b)), none⟩
  | .rem => some ⟨b ≠ 0, .int k (a.tmod b), none⟩
  | .and => some ⟨True, .int k (bits .and k a b), none⟩
  | .or => some ⟨True, .int k (bits .or k a b), none⟩
  | .xor => some ⟨True, .int k (bits .xor k a b), none⟩
  | .andNot => some ⟨True, .int k (bits .andNot k a b), none⟩
  | .eql => some ⟨True, .bool (a == b), none⟩
  | .neq => some ⟨True, .bool (a != b), none⟩
  | .lss => some ⟨True, .bool (decide (a < b)), none⟩
  | .leq => some ⟨True, .bool (decide (a ≤ b)), none⟩
  | .gtr => some ⟨True, .bool (decide (b < a)), none⟩
  | .geq => some ⟨True, .bool (decide (b ≤ a)), none⟩
  | _ => none

def strBin (op : BinOp) (a b : List UInt8) : Option QR :=
  match op with
  | .add => some ⟨a.length + b.length ≤ 9223372036854775807, .str (a ++ b), none⟩
  | .eql => some ⟨True, .bool (a == b), none⟩
  | .neq => some ⟨True, .bool (a != b), none⟩
  | .lss => some ⟨True, .bool (Op.bytesLess a b), none⟩
  | .gtr => some ⟨True, .bool (!(Op.bytesLess a b || a == b)), none⟩
  | .leq => some ⟨True, .bool (Op.bytesLess a b || a == b), none⟩
  | .geq => some ⟨True, .bool (!Op.bytesLess a b), none⟩
  | _ => none

def boolBin (op : BinOp) (o : Option TK) (a b : Option Bool) : Option QR :=
  match op, o, a, b with
  | .eql, some .bool, some a, some b => some ⟨True, .bool (a == b), none⟩
  | .neq, some .bool, some a, some b => some ⟨True, .bool (!(a == b)), none⟩
  | _, _, _, _ => none

def binq (P : Program) (op : BinOp) (t : TypeId) (x y : SV) : Option QR :=
  match op, x, y with
  | .shl, .int k a, .int _ b => some ⟨0 ≤ b, .int k (shiftI .shl k a b), none⟩
  | .shr, .int k a, .int _ b => some ⟨0 ≤ b, .int k (shiftI .shr k a b), none⟩
  | op, .int k a, .int k' b => if k = k' then intBin op k a b else none
  | op, .str a, .str b => strBin op a b
  | .eql, .agg l, .agg m => (eqKs P t).bind fun ks => (eqCells ks l m).map fun b => ⟨True, .bool b, none⟩
  | .neq, .agg l, .agg m => (eqKs P t).bind fun ks => (eqCells ks l m).map fun b => ⟨True, .bool (!b), none⟩
  | op, .bool a, .bool b => boolBin op (tkOf P t) (some a) (some b)
  | op, .bool a, .kb b => boolBin op (tkOf P t) (some a) (some b)
  | op, .kb a, .bool b => boolBin op (tkOf P t) (some a) (some b)
  | op, .kb a, .kb b => boolBin op (tkOf P t) (some a) (some b)
  | _, _, _ => none

def strCut (s : List UInt8) (lo hi : Option SV) : Option QR :=
  match lo, hi with
  | none, none => some ⟨True, .str s, none⟩
  | some (.int _ l), none => some ⟨0 ≤ l ∧ l ≤ s.length, .str (s.drop l.toNat), none⟩
  | none, some (.int _ h) => some ⟨0 ≤ h ∧ h ≤ s.length, .str (s.take h.toNat), none⟩
  | some (.int _ l), some (.int _ h) => some ⟨0 ≤ l ∧ l ≤ h ∧ h ≤ s.length, .str ((s.take h.toNat).drop l.toNat), none⟩
  | _, _ => none

def slCut (e : Ty) (s : List e.D) (lo hi : Option SV) : Option QR :=
  match lo, hi with
  | none, none => some ⟨True, .sl e s, none⟩
  | some (.int _ l), none => some ⟨0 ≤ l ∧ l ≤ s.length, .sl e (s.drop l.toNat), none⟩
  | none, some (.int _ h) => some ⟨0 ≤ h ∧ h ≤ s.length, .sl e (s.take h.toNat), none⟩
  | some (.int _ l), some (.int _ h) => some ⟨0 ≤ l ∧ l ≤ h ∧ h ≤ s.length, .sl e ((s.take h.toNat).drop l.toNat), none⟩
  | _, _ => none

def scalL : List Ty → Bool
  | [] => true
  | t :: ts => t.scal && scalL ts

/-- A function with what it has captured. -/
def mk1 {a c : Ty} {ds : List Ty} (p : Args (a :: ds) → Prop) (fn : Args (a :: ds) → Args [c]) (tot : Bool) (ca : Args ds) : F1D a c :=
  (fun x => match tot with
    | true => True
    | false => p (x, ca), fun x => (fn (x, ca)).1)
def mk2 {a b c : Ty} {ds : List Ty} (p : Args (a :: b :: ds) → Prop) (fn : Args (a :: b :: ds) → Args [c]) (tot : Bool) (ca : Args ds) : F2D a b c :=
  (fun x y => match tot with
    | true => True
    | false => p (x, y, ca), fun x y => (fn (x, y, ca)).1)

def cloT1 (a c : Ty) (g : (ds : List Ty) → Option (Args ds)) : Option TF → Option (F1D a c)
  | some ⟨d :: ds, [c'], p, fn, tot, false, none, none⟩ => if h : d = a ∧ c' = c then (g ds).map fun ca => h.2 ▸ h.1 ▸ mk1 p fn tot ca else none
  | _ => none

def cloT2 (a b c : Ty) (g : (ds : List Ty) → Option (Args ds)) : Option TF → Option (F2D a b c)
  | some ⟨d :: d' :: ds, [c'], p, fn, tot, false, none, none⟩ => if h : d = a ∧ d' = b ∧ c' = c then (g ds).map fun ca => h.2.2 ▸ h.2.1 ▸ h.1 ▸ mk2 p fn tot ca else none
  | _ => none

theorem cloT1_self (a c : Ty) (ds : List Ty) (p : Args (a :: ds) → Prop) (fn : Args (a :: ds) → Args [c]) (tot : Bool) (g : (ds : List Ty) → Option (Args ds)) :
    cloT1 a c g (some ⟨a :: ds, [c], p, fn, tot, false, none, none⟩) = (g ds).map fun ca => mk1 p fn tot ca := by simp [cloT1]
theorem cloT2_self (a b c : Ty) (ds : List Ty) (p : Args (a :: b :: ds) → Prop) (fn : Args (a :: b :: ds) → Args [c]) (tot : Bool) (g : (ds : List Ty) → Option (Args ds)) :
    cloT2 a b c g (some ⟨a :: b :: ds, [c], p, fn, tot, false, none, none⟩) = (g ds).map fun ca => mk2 p fn tot ca := by simp [cloT2]

/-- A function value: one that came in, or one of the program's own with what it has captured. -/
def cloW1 (F1 : Clo1) (F2 : Clo2) (tbl : List (FuncId × TF)) (H : List Blk) : Clo1 := fun a c s => match s with
  | .fn f caps => cloT1 a c (fun ds => toArgs F1 F2 H ds caps) (tlook tbl f)
  | s => no1 a c s

def cloW2 (F1 : Clo1) (F2 : Clo2) (tbl : List (FuncId × TF)) (H : List Blk) : Clo2 := fun a b c s => match s with
  | .fn f caps => cloT2 a b c (fun ds => toArgs F1 F2 H ds caps) (tlook tbl f)
  | s => no2 a b c s

def cloA1 (tbl : List (FuncId × TF)) (H : List Blk) : Clo1 := cloW1 no1 no2 tbl H
def cloA2 (tbl : List (FuncId × TF)) (H : List Blk) : Clo2 := cloW2 no1 no2 tbl H
def clo1 (tbl : List (FuncId × TF)) (H : List Blk) : Clo1 := cloW1 (cloA1 tbl H) (cloA2 tbl H) tbl H
def clo2 (tbl : List (FuncId × TF)) (H : List Blk) : Clo2 := cloW2 (cloA1 tbl H) (cloA2 tbl H) tbl H

theorem clo1_fn (tbl : List (FuncId × TF)) (H : List Blk) (a c : Ty) (f : FuncId) (caps : List SV) : clo1 tbl H a c (.fn f caps) = cloT1 a c (fun ds => toArgs (cloA1 tbl H) (cloA2 tbl H) H ds caps) (tlook tbl f) := rfl
theorem clo1_f1 (tbl : List (FuncId × TF)) (H : List Blk) (a c : Ty) (F : F1D a c) : clo1 tbl H a c (.f1 a c F) = some F := by simp [clo1, cloW1, no1]
theorem clo2_fn (tbl : List (FuncId × TF)) (H : List Blk) (a b c : Ty) (f : FuncId) (caps : List SV) : clo2 tbl H a b c (.fn f caps) = cloT2 a b c (fun ds => toArgs (cloA1 tbl H) (cloA2 tbl H) H ds caps) (tlook tbl f) := rfl
theorem clo2_f2 (tbl : List (FuncId × TF)) (H : List Blk) (a b c : Ty) (F : F2D a b c) : clo2 tbl H a b c (.f2 a b c F) = some F := by simp [clo2, cloW2, no2]
theorem cloA1_fn (tbl : List (FuncId × TF)) (H : List Blk) (a c : Ty) (f : FuncId) (caps : List SV) : cloA1 tbl H a c (.fn f caps) = cloT1 a c (fun ds => toArgs no1 no2 H ds caps) (tlook tbl f) := rfl
theorem cloA1_f1 (tbl : List (FuncId × TF)) (H : List Blk) (a c : Ty) (F : F1D a c) : cloA1 tbl H a c (.f1 a c F) = some F := by simp [cloA1, cloW1, no1]
theorem cloA2_fn (tbl : List (FuncId × TF)) (H : List Blk) (a b c : Ty) (f : FuncId) (caps : List SV) : cloA2 tbl H a b c (.fn f caps) = cloT2 a b c (fun ds => toArgs no1 no2 H ds caps) (tlook tbl f) := rfl
theorem cloA2_f2 (tbl : List (FuncId × TF)) (H : List Blk) (a b c : Ty) (F : F2D a b c) : cloA2 tbl H a b c (.f2 a b c F) = some F := by simp [cloA2, cloW2, no2]

/-- What is lent to a call: all that is the caller's own, where nothing that comes back may lead to it. -/
def lent (c : Bool) (H : List Blk) : List Blk := match c with
  | true => H
  | false => []

/-- A list that comes back as the caller's own. -/
def ownQ (base : Nat) (et : TypeId) (ob : Prop) : (cods : List Ty) → Args cods → Option QR
  | [.slice e], y => some ⟨ob, .osl base (List.length y.1), some (.own e y.1 et)⟩
  | _, _ => none

def callO (tbl : List (FuncId × TF)) (H : List Blk) (base : Nat) (args : List SV) (tf : TF) : Option TypeId → Option QR
  | none => (toArgs (clo1 tbl (lent (scalL tf.cods) H)) (clo2 tbl (lent (scalL tf.cods) H)) (lent (scalL tf.cods) H) tf.doms args).map fun x => ⟨tf.ob x, ofRes tf.cods (tf.fn x), none⟩
  | some et => (toArgs (clo1 tbl []) (clo2 tbl []) [] tf.doms args).bind fun x => ownQ base et (tf.ob x) tf.cods (tf.fn x)

def callE (tbl : List (FuncId × TF)) (H : List Blk) (base : Nat) (args : List SV) (tf : TF) : Option EF → Option QR
  | none => callO tbl H base args tf tf.own
  | some _ => none

def callT (tbl : List (FuncId × TF)) (H : List Blk) (base : Nat) (args : List SV) : Option TF → Option QR
  | some tf => callE tbl H base args tf tf.eff
  | none => none

def callq (tbl : List (FuncId × TF)) (H : List Blk) (base : Nat) (f : FuncId) (args : List SV) : Option QR := callT tbl H base args (tlook tbl f)

def pickq (c a b : SV) : Option QR :=
  match c with
  | .kb true => some ⟨True, a, none⟩
  | .kb false => some ⟨True, b, none⟩
  | .bool c => match asB a, asB b with
    | some x, some y => some ⟨True, .bool (if c = true then x else y), none⟩
    | _, _ => none
  | _ => none

def boxq (base : Nat) (t : TypeId) (x : SV) : Option QR :=
  match x with
  | .any => none
  | .raw _ => none
  | .ag (.arr e _) x => some ⟨True, .ptr base 0, some (.own e x t)⟩
  | .ag _ _ => none
  | x => some ⟨True, .ptr base 0, some (.cells (flat x) t)⟩

/-- A type's zero cell. -/
def zcell : Ty → Value → Bool
  | .bool, .bool b => !b
  | .int k, .int k' n => k == k' && n == 0
  | _, _ => false

/-- An array type over scalars, whose zero is zeros. -/
def arrOf (P : Program) (t : TypeId) : Option (Ty × Nat) :=
  match P.info? t, P.underlying t with
  | some i, some (.array n et) => match tyOf P 12 et, i.zero with
    | some e, some (.agg cs) => if (cs.size == n && cs.toList.all (zcell e)) = true then some (e, n) else none
    | _, _ => none
  | _, _ => none

def allocA (P : Program) (base : Nat) (t : TypeId) : Option (Ty × Nat) → Option QR
  | some (e, n) => some ⟨True, .ptr base 0, some (.own e (List.replicate n e.dflt) t)⟩
  | none => match tiOf P t with
    | some ti => match ti.zero with
      | some z => some ⟨True, .ptr base 0, some (.cells (flat (ofZero z)) t)⟩
      | none => none
    | none => none

def allocq (P : Program) (base : Nat) (t : TypeId) : Option QR := allocA P base t (arrOf P t)

def loadq (P : Program) (H : List Blk) (t : TypeId) (x : SV) : Option QR :=
  match x, tiOf P t with
  | .ptr nm off, some ti => match getB H nm with
    | .cells l _ => if ti.kind.isAgg then (if off + ti.size ≤ l.length then some ⟨True, .agg ((l.drop off).take ti.size), none⟩ else none)
      else if off < l.length then some ⟨True, get l off, none⟩ else none
    | .own e xs _ => match ti.kind with
      | .array n _ => if off = 0 ∧ n * e.size = ti.size then some ⟨List.length xs = n, .ag (.arr e n) xs, none⟩ else none
      | _ => none
    | _ => none
  | .pp ty d, some ti => if ti.kind.isAgg then (if ty.isAgg ∧ ty.size = ti.size then some ⟨True, ofDV ty d, none⟩ else none)
      else if ty.isAgg then none else some ⟨True, one (ofD ty d), none⟩
  | .eptr nm e i, some ti => match getB H nm with
    | .own e' xs _ => if e' = e ∧ ti.kind.isAgg = e'.isAgg ∧ e'.size = ti.size then some ⟨i < List.length xs, ofDV e' ((xs : List e'.D).getD i e'.dflt), none⟩ else none
    | _ => none
  | _, _ => none

def nilq (x : SV) : Option QR :=
  match x with
  | .ptr nm off => some ⟨True, .ptr nm off, none⟩
  | .pp t d => some ⟨True, .pp t d, none⟩
  | .fn f caps => some ⟨True, .fn f caps, none⟩
  | .bd f l => some ⟨True, .bd f l, none⟩
  | .f1 a c F => some ⟨True, .f1 a c F, none⟩
  | .f2 a b c F => some ⟨True, .f2 a b c F, none⟩
  | _ => none

def unq (op : UnOp) (x : SV) : Option QR :=
  match op, x with
  | .not, .bool b => some ⟨True, .bool (!b), none⟩
  | .not, .kb true => some ⟨True, .kb false, none⟩
  | .not, .kb false => some ⟨True, .kb true, none⟩
  | .neg, .int k n => some ⟨True, .int k (k.wrap (0 - n)), none⟩
  | _, _ => none


def sizeP (P : Program) (t : TypeId) : Option Nat := (tiOf P t).map (·.size)

def sliceq (P : Program) (H : List Blk) (t : TypeId) (x : SV) (lo hi : Option SV) : Option QR :=
  match x, tkOf P t with
  | .str s, some .str => strCut s lo hi
  | .sl e xs, some (.slice et) => if sizeP P et = some e.size then slCut e xs lo hi else none
  | .slf e xs, some (.slice et) => if sizeP P et = some e.size then slCut e xs lo hi else none
  | .nils, some (.slice et) => match sizeP P et, lo, hi with
    | some _, none, some (.int _ h) => some ⟨h = 0, .nils, none⟩
    | _, _, _ => none
  | .osl nm n, some (.slice et) => match getB H nm, lo, hi with
    | .own e xs _, none, some (.int _ h) => if sizeP P et = some e.size then some ⟨0 ≤ h ∧ h ≤ List.length xs, .osl nm h.toNat, none⟩ else none
    | .own e xs _, some (.int _ l), none => if sizeP P et = some e.size then some ⟨(0 ≤ l ∧ l ≤ n) ∧ n ≤ List.length xs, .osub nm e.size n l.toNat, none⟩ else none
    | _, _, _ => none
  | _, _ => none

def slice3q (P : Program) (H : List Blk) (t : TypeId) (x : SV) (lo hi : Option SV) (mx : Option Operand) : Option QR :=
  match mx with
  | none => sliceq P H t x lo hi
  | some _ => none

def makeFuncq (fn : Fn) (first : List SV) (caps : List SV) : Option QR :=
  match fn, first, caps with
  | .func f, [], caps => some ⟨True, .fn f caps, none⟩
  | .func f, s :: l, [] => some ⟨True, .bd f (s :: l), none⟩
  | _, _, _ => none

def fieldAddrq (P : Program) (t : TypeId) (x : SV) (k : Nat) : Option QR :=
  match tkOf P t with
  | some (.struct fs) => match fs[k]? with
    | some (off, ft) => match sizeP P ft with
      | some n => if n = 0 then none else match x with
        | .ptr nm o => some ⟨True, .ptr nm (o + off), none⟩
        | .pp ty d => match subP ty d off n with
          | .pp ty' d' => some ⟨True, .pp ty' d', none⟩
          | _ => none
        | _ => none
      | none => none
    | none => none
  | _ => none

def fieldq (P : Program) (t : TypeId) (x : SV) (k : Nat) : Option QR :=
  match tkOf P t with
  | some (.struct fs) => match fs[k]? with
    | some (off, ft) => match tiOf P ft with
      | some fi => match x with
        | .agg l => if fi.kind.isAgg then some ⟨True, .agg ((l.drop off).take fi.size), none⟩ else if off < l.length then some ⟨True, get l off, none⟩ else none
        | _ => none
      | none => none
    | none => none
  | _ => none

def indexAddrq (P : Program) (H : List Blk) (t : TypeId) (x i : SV) : Option QR :=
  match x, i, tkOf P t with
  | .sl e xs, .int _ n, some (.slice et) => if sizeP P et = some e.size then some ⟨0 ≤ n ∧ n < List.length xs, .pp e ((xs : List e.D).getD n.toNat e.dflt), none⟩ else none
  | .slf e xs, .int _ n, some (.slice et) => if sizeP P et = some e.size then some ⟨0 ≤ n ∧ n < List.length xs, .pp e ((xs : List e.D).getD n.toNat e.dflt), none⟩ else none
  | .osl nm m, .int _ n, some (.slice et) => match getB H nm with
    | .own e _ _ => if sizeP P et = some e.size then some ⟨0 ≤ n ∧ n < m, .eptr nm e n.toNat, none⟩ else none
    | _ => none
  | .ptr nm off, .int _ n, some (.array k et) => match getB H nm with
    | .own e _ _ => if off = 0 ∧ sizeP P et = some e.size then some ⟨0 ≤ n ∧ n < k, .eptr nm e n.toNat, none⟩ else none
    | .cells _ _ => if sizeP P et = some 1 then some ⟨0 ≤ n ∧ n < k, .ptr nm (off + n.toNat), none⟩ else none
    | _ => none
  | .pp (.arr e k') xs, .int _ n, some (.array k et) => if k' = k ∧ sizeP P et = some e.size then some ⟨0 ≤ n ∧ n < k, .pp e ((xs : List e.D).getD n.toNat e.dflt), none⟩ else none
  | _, _, _ => none

def indexq (P : Program) (t : TypeId) (x i : SV) : Option QR :=
  match x, i, tkOf P t with
  | .str s, .int _ n, some .str => some ⟨0 ≤ n ∧ n < s.length, .int .u8 (s.getD n.toNat 0).toNat, none⟩
  | _, _, _ => none

def extractq (x : SV) (i : Nat) : Option QR :=
  match x with
  | .tup l => if i < l.length then some ⟨True, get l i, none⟩ else none
  | _ => none

def ifaceq (P : Program) (t : TypeId) (x : SV) : Option QR :=
  match tkOf P t with
  | some .other => none
  | some _ => some ⟨True, .ifc t x, none⟩
  | none => none

def builtinq (P : Program) (b : Builtin) (args : List SV) (ts : List TypeId) : Option QR :=
  match b, args, ts with
  | .len, [x], [t] => match tkOf P t, x with
    | some .str, .str s => some ⟨True, .int .i64 s.length, none⟩
    | some (.slice _), .sl _ xs => some ⟨True, .int .i64 (List.length xs), none⟩
    | some (.slice _), .slf _ xs => some ⟨True, .int .i64 (List.length xs), none⟩
    | some (.slice _), .osl _ n => some ⟨True, .int .i64 n, none⟩
    | some (.slice _), .nils => some ⟨True, .int .i64 0, none⟩
    | _, _ => none
  | .cap, [x], [t] => match tkOf P t, x with
    | some (.slice _), .slf _ xs => some ⟨True, .int .i64 (List.length xs), none⟩
    | some (.slice _), .nils => some ⟨True, .int .i64 0, none⟩
    | _, _ => none
  | .max, [.int k a, .int k' b], _ => if k = k' then some ⟨True, .int k (if b > a then b else a), none⟩ else none
  | .min, [.int k a, .int k' b], _ => if k = k' then some ⟨True, .int k (if b < a then b else a), none⟩ else none
  | _, _, _ => none

def callfq (tbl : List (FuncId × TF)) (H : List Blk) (base : Nat) (f : SV) (args : List SV) : Option QR :=
  match f with
  | .fn id caps => callq tbl H base id (args ++ caps)
  | .bd id l => callq tbl H base id (l ++ args)
  | .f1 a c F => (toArgs (clo1 tbl (lent c.scal H)) (clo2 tbl (lent c.scal H)) (lent c.scal H) [a] args).map fun x => ⟨F.1 x.1, ofDV c (F.2 x.1), none⟩
  | .f2 a b c F => (toArgs (clo1 tbl (lent c.scal H)) (clo2 tbl (lent c.scal H)) (lent c.scal H) [a, b] args).map fun x => ⟨F.1 x.1 x.2.1, ofDV c (F.2 x.1 x.2.1), none⟩
  | _ => none

/-- Cells are stored one behind the other. -/
def spl : List SV → Nat → List SV → List SV
  | l, _, [] => l
  | l, off, x :: xs => spl (setS l off x) (off + 1) xs

/-- What a type's zero is, as data. -/
def zeroD (e : Ty) : Option TI → Option e.D
  | some ⟨_, sz, _, some z⟩ => if sz = e.size then toD no1 no2 [] e (flat (ofConst z)) else none
  | _ => none

def bytesTI : Option TI → Nat
  | some ti => ti.bytes
  | none => 0

def makeT (base : Nat) (et : TypeId) (n m : Int) (by_ : Nat) (e : Ty) : Option e.D → Option QR
  | some z => some ⟨0 ≤ n ∧ n ≤ m ∧ m.toNat * (by_ + 1) ≤ 140737488355328, .osl base n.toNat, some (.own e (List.replicate n.toNat z) et)⟩
  | none => none

def makeE (base : Nat) (et : TypeId) (n m : Int) (o : Option TI) : Option Ty → Option QR
  | some e => makeT base et n m (bytesTI o) e (zeroD e o)
  | none => none

def makeq (P : Program) (base : Nat) (t : TypeId) (l c : SV) : Option QR :=
  match tkOf P t, l, c with
  | some (.slice et), .int _ n, .int _ m => makeE base et n m (tiOf P et) (tyOf P 12 et)
  | _, _, _ => none

def partsD (e : Ty) : Nat → List (Nat × SV) → Option (List e.D)
  | _, [] => some []
  | i, (j, s) :: l => if j = i then (both (toDV no1 no2 [] e s) (partsD e (i + 1) l)).map fun x => x.1 :: x.2 else none

def buildB (e : Ty) (len k : Nat) (sz : Option Nat) : Option (List e.D) → Option QR
  | some xs => if k = len ∧ len * e.size ≤ 16777216 ∧ sz = some e.size ∧ 0 < e.size then some ⟨True, .slf e xs, none⟩ else none
  | none => none

def tiSz : Option TI → Option Nat
  | some ⟨_, sz, _, some _⟩ => some sz
  | _ => none

def buildE (base : Nat) (et : TypeId) (len : Nat) (parts : List (Nat × SV)) (sz : Option Nat) : Option Ty → Option QR
  | some e => match parts with
    | [] => if len = 0 ∧ sz = some e.size then some ⟨True, .nils, none⟩ else none
    | _ :: _ => buildB e len parts.length sz (partsD e 0 parts)
  | none => none

def buildSq (P : Program) (base : Nat) (t : TypeId) (len : Nat) (parts : List (Nat × SV)) : Option QR :=
  match tkOf P t with
  | some (.slice et) => buildE base et len parts (tiSz (tiOf P et)) (tyOf P 12 et)
  | _ => none

def okFlat : SV → Bool
  | .any => false
  | .raw _ => false
  | .ag _ _ => false
  | _ => true

def fillS (P : Program) (fs : List (Nat × TypeId)) : List SV → List (Nat × SV) → Option (List SV)
  | l, [] => some l
  | l, (i, s) :: rest => match fs[i]? with
    | some (off, ft) => if okFlat s = true ∧ sizeP P ft = some (flat s).length ∧ off + (flat s).length ≤ l.length then fillS P fs (spl l off (flat s)) rest else none
    | none => none

def buildT (P : Program) (parts : List (Nat × SV)) : Option TI → Option QR
  | some ⟨.struct fs, _, _, some z⟩ => if fs.all (fun f => (sizeP P f.2).isSome) = true then (fillS P fs (flat (ofZero z)) parts).map fun l => ⟨True, .agg l, none⟩ else none
  | _ => none

def bytesQ (o : Option TK) (base : Nat) (et : TypeId) (s : List UInt8) : Option QR :=
  match o with
  | some (.int .u8) => some ⟨True, .osl base s.length, some (.own (.int .u8) (s.map fun b => (b.toNat : Int)) et)⟩
  | _ => none

def textQ (o : Option TK) (ns : Option (List Int)) : Option QR :=
  match o, ns with
  | some (.int .u8), some ns => some ⟨True, .str (ns.map fun n => UInt8.ofNat n.toNat), none⟩
  | _, _ => none

def isUnsafe (P : Program) (t : TypeId) : Bool :=
  match P.underlying t with
  | some .unsafePointer => true
  | _ => false
def convB (nm off : Nat) : Blk → Option QR
  | .cells l _ => some ⟨off < l.length, .ptr nm off, none⟩
  | _ => none
def convU (H : List Blk) (nm off : Nat) : Bool → Option Nat → Option QR
  | true, some (n + 1) => convB nm off (getB H nm)
  | _, _ => none

def convq (P : Program) (H : List Blk) (base : Nat) (src dst : TypeId) (x : SV) : Option QR :=
  match tkOf P src, tkOf P dst, x with
  | some (.int _), some (.int k), .int _ n => some ⟨True, .int k (k.wrap n), none⟩
  | some .str, some .str, .str s => some ⟨True, .str s, none⟩
  | some .str, some (.slice et), .str s => bytesQ (tkOf P et) base et s
  | some (.slice et), some .str, x => textQ (tkOf P et) (toSl H (.int .u8) x)
  | some (.ptr e), some .other, .ptr nm off => convU H nm off (isUnsafe P dst) (sizeP P e)
  | _, _, _ => none

def rangeq (P : Program) (base : Nat) (t : TypeId) (x : SV) : Option QR :=
  match tkOf P t, x with
  | some .str, .str s => some ⟨True, .ptr base 0, some (.iter s 0)⟩
  | _, _ => none

/-- A quiet operation: what must hold, and what it yields; a new block is named base. -/
def evq (P : Program) (tbl : List (FuncId × TF)) (H : List Blk) (base : Nat) (slots : List SV) (op : Op) : Option QR :=
  match op with
  | .move x => some ⟨True, evS slots x, none⟩
  | .assign x => some ⟨True, evS slots x, none⟩
  | .pick c a b => pickq (evS slots c) (evS slots a) (evS slots b)
  | .box t x => boxq base t (evS slots x)
  | .alloc t => allocq P base t
  | .load t x => loadq P H t (evS slots x)
  | .nilCheck x => nilq (evS slots x)
  | .binOp op t x y _ => binq P op t (evS slots x) (evS slots y)
  | .unOp op _ x => unq op (evS slots x)
  | .convert src dst x => convq P H base src dst (evS slots x)
  | .makeSlice t l c => makeq P base t (evS slots l) (evS slots c)
  | .buildSlice t len parts => buildSq P base t len (parts.toList.map fun p => (p.1, evS slots p.2))
  | .build t parts => buildT P (parts.toList.map fun p => (p.1, evS slots p.2)) (tiOf P t)
  | .range t x => rangeq P base t (evS slots x)
  | .makeFunc fn first caps => makeFuncq fn (first.toList.map (evS slots)) (caps.toList.map (evS slots))
  | .slice t x lo hi mx => slice3q P H t (evS slots x) (lo.map (evS slots)) (hi.map (evS slots)) mx
  | .fieldAddr t x k => fieldAddrq P t (evS slots x) k
  | .field t x k => fieldq P t (evS slots x) k
  | .indexAddr t x i => indexAddrq P H t (evS slots x) (evS slots i)
  | .index t x i => indexq P t (evS slots x) (evS slots i)
  | .extract x i => extractq (evS slots x) i
  | .makeInterface t x => ifaceq P t (evS slots x)
  | .call c => match c.callee with
    | .builtin b => builtinq P b (c.args.toList.map (evS slots)) c.argTypes.toList
    | .value f => callfq tbl H base (evS slots f) (c.args.toList.map (evS slots))
    | _ => none
  | _ => none

end Go.Vx
