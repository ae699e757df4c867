/- Helper lemmas towards this seat's statements: a contract, proved for every input within its own premise, of functions of the program. -/
import Derived.Test.YtnbicdeehppgpaaGreatDoorBase
import Derived.Test.YtnbicdeehppgpaaGreatDoorPl
import Derived.Lib.Bytealg
set_option linter.unusedSimpArgs false
set_option linter.unusedVariables false
namespace Go.Proofs.YtnbicdeehppgpaaGreatDoor
open Go Go.Vx
set_option maxRecDepth 100000
theorem nat_by {P : Program} {f : FuncId} {fn : Func} {e : Array Value → Sem Value} {tf : TF} (hf : P.funcs[f]? = some fn) (hname : (fn.name == "runtime.NumGoroutine") = false) (hb : fn.body.isNone = true) (hn : Extern.findNext fn = none) (he : Extern.find fn = some e) (hown : tf.own = none)
    (h : ∀ S w, Bounded S w → ∀ x vs, ArgsRep P tf.doms S w x vs → tf.ob x → ∃ r, (e vs.toArray).run P w = .ok r w ∧ ResRep P tf.cods S w (tf.fn x) r) : NatOk P f tf := fun S w hbd x vs ha ho => by
  obtain ⟨r, h1, h2⟩ := h S w hbd x vs ha ho
  exact ⟨S, w, r, by rw [run_callFunc_extern hf hname hb hn he, h1]; rfl, by rw [hown]; exact h2, Ext.refl hbd⟩
def indexByteStringT : TF := { doms := [.str, .int .u8], cods := [.int .i64], pre := fun _ => True, fn := fun x => (Lib.indexByte x.1 (x.2.1 : Int).toNat.toUInt8, ()), nat := true }
theorem indexByteString_ok : NatOk Tryz.prog 64 indexByteStringT := by
  refine nat_by Tryz.func64 (by kernel_rfl) (by kernel_rfl) (by kernel_rfl) (e := Extern.BytealgIndexByte.indexByte) (by kernel_rfl) rfl ?_
  rintro S w hb ⟨(s : List UInt8), (c : Int), _⟩ vs ⟨v, _, rfl, h1, v2, _, rfl, h2, h3⟩ _
  simp only [ArgsRep] at h3
  simp only [RepV, valueOf, Ty.isAgg, Bool.false_eq_true, if_false, Rep, List.cons.injEq, and_true] at h1 h2
  subst h3; subst h1; subst h2
  refine ⟨_, Lib.run_indexByteString _ c w, [_], ⟨_, [], rfl, ?_, rfl⟩, rfl⟩
  simp [RepV, valueOf, Ty.isAgg, Rep, indexByteStringT]
def countStringT : TF := { doms := [.str, .int .u8], cods := [.int .i64], pre := fun _ => True, fn := fun x => ((Lib.countByte x.1 (x.2.1 : Int).toNat.toUInt8 : Int), ()), nat := true }
theorem countString_ok : NatOk Tryz.prog 127 countStringT := by
  refine nat_by Tryz.func127 (by kernel_rfl) (by kernel_rfl) (by kernel_rfl) (e := Extern.BytealgCount.count) (by kernel_rfl) rfl ?_
  rintro S w hb ⟨(s : List UInt8), (c : Int), _⟩ vs ⟨v, _, rfl, h1, v2, _, rfl, h2, h3⟩ _
  simp only [ArgsRep] at h3
  simp only [RepV, valueOf, Ty.isAgg, Bool.false_eq_true, if_false, Rep, List.cons.injEq, and_true] at h1 h2
  subst h3; subst h1; subst h2
  refine ⟨_, Lib.run_countString _ c w, [_], ⟨_, [], rfl, ?_, rfl⟩, rfl⟩
  simp [RepV, valueOf, Ty.isAgg, Rep, countStringT]
end Go.Proofs.YtnbicdeehppgpaaGreatDoor
