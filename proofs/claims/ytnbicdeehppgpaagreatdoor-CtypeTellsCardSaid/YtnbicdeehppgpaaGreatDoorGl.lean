/- The cells of two of Go's own tables; no condition. -/
import GoSem.Step
import Derived.Lib.DecodeN
import Derived.Lib.ItoaNum
namespace Go.Vx
open Go
/-- The cells of unicode/utf8's tables. -/
def firstCells : List Value := (List.range 256).map fun c => .int .u8 (Lib.firstT c)
def accCells : List Value := (List.range 32).map fun j => .int .u8 (if j % 2 = 0 then Lib.accLo (j / 2) else Lib.accHi (j / 2))
/-- The library's tables that are read, by their blocks: their cells. -/
def glTab (g : Nat) : Option (List Value) := if g = 0 then some firstCells else if g = 1 then some accCells else none
/-- A table that is read as a whole. -/
def powCells : List Value := Lib.pow10Tab.map fun z => .int .u64 z
def glWhole (g : Nat) : Option (List Value) := none
/-- Variables that hold an error. -/
def glErr (g : Nat) : Bool := false
end Go.Vx
