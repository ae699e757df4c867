/- Helper lemmas towards this seat's statements: a contract, proved for every input within its own premise, of functions of the program. -/
import Derived.Test.YtnbicdeehppgpaaGreatDoorBase
import Derived.Test.YtnbicdeehppgpaaGreatDoorPl
import Derived.Test.YtnbicdeehppgpaaGreatDoorDec
import Derived.Shelf.Unicode.DecodeLast
namespace Go.Proofs.YtnbicdeehppgpaaGreatDoor
open Go Go.Vx Go.RowKit
set_option maxRecDepth 100000
set_option linter.unusedSimpArgs false
set_option linter.unusedVariables false
/-- The library's tables lie there. -/
theorem tabs_at {S : Nat → Prop} {w : World} (h : Bounded S w) : Lib.Utf8Tabs 0 1 w := by
  have h1 := (h.glob 0 firstCells (by simp [glTab])).2
  have h2 := (h.glob 1 accCells (by simp [glTab])).2
  refine ⟨fun c hc => ?_, fun i hi => ⟨?_, ?_⟩⟩
  · have := h1 c (.int .u8 (Lib.firstT c)) (by simp [firstCells, List.getElem?_range hc])
    simpa using this
  · have := h2 (2 * i) (.int .u8 (Lib.accLo i)) (by simp [accCells, List.getElem?_range (show 2 * i < 32 by omega)])
    simpa using this
  · have := h2 (2 * i + 1) (.int .u8 (Lib.accHi i)) (by simp [accCells, List.getElem?_range (show 2 * i + 1 < 32 by omega), show (2 * i + 1) / 2 = i by omega, show ¬ (2 * i + 1) % 2 = 0 by omega])
    simpa [Nat.add_assoc] using this
theorem tabs_glob {w : World} (h : Lib.Utf8Tabs 0 1 w) (g : Nat) (cs : List Value) (hg : glTab g = some cs) : AtCells w ⟨g, 0, none⟩ 0 cs ∧ g < w.heap.size := by
  have lt : ∀ b i v, w.cell? ⟨b, i, none⟩ = some v → b < w.heap.size := fun b i v hv => by
    rcases Nat.lt_or_ge b w.heap.size with h | h
    · exact h
    · simp [World.cell?, Array.getElem?_eq_none h] at hv
  unfold glTab at hg
  split at hg
  · rename_i he
    subst he
    cases hg
    refine ⟨fun j v hj => ?_, lt _ _ _ (h.1 0 (by omega))⟩
    have hj' : j < 256 := by have := (List.getElem?_eq_some_iff.1 hj).1; simpa [firstCells] using this
    simp [firstCells, List.getElem?_range hj'] at hj
    subst hj
    simpa using h.1 j hj'
  · split at hg
    · rename_i he
      subst he
      cases hg
      refine ⟨fun j v hj => ?_, lt _ _ _ (h.2 0 (by omega)).1⟩
      have hj' : j < 32 := by have := (List.getElem?_eq_some_iff.1 hj).1; simpa [accCells] using this
      simp [accCells, List.getElem?_range hj'] at hj
      subst hj
      obtain ⟨h1, h2⟩ := h.2 (j / 2) (by omega)
      split
      · rename_i h3
        rw [show 2 * (j / 2) = j by omega] at h1
        simpa using h1
      · rename_i h3
        rw [show 2 * (j / 2) + 1 = j by omega] at h2
        simpa using h2
    · cases hg
/-- A contract off the kit's shelf, whose results are plain. -/
theorem tf_below {P : Program} {f : FuncId} {tf : TF} (hown : tf.own = none) (hs : scalL tf.cods = true)
    (h : ∀ S w, Bounded S w → ∀ x vs, ArgsRep P tf.doms S w x vs → tf.ob x → Calls P f vs.toArray w fun e w' => ∃ r, e = .returned r ∧ ResRep P tf.cods S w (tf.fn x) r ∧ Below w.heap.size w w') : TFOk P f tf := by
  intro S w hb x vs hx ho
  refine (h S w hb x vs hx ho).mono fun e w' ⟨r, he, hr, hbl⟩ => ⟨S, r, he, ?_, ⟨fun _ h => h, hbl.size, hbl.block, hbl.os, hbl.tape, hbl.output, fun _ h => .inl h, fun k hk => Nat.lt_of_lt_of_le (hb.lt k hk) hbl.size⟩⟩
  rw [hown]
  exact hr.anywhere hs
theorem args_str {P : Program} {S : Nat → Prop} {w : World} {x : Args [.str]} {vs : List Value} (h : ArgsRep P [.str] S w x vs) : vs = [mkStr x.1] := by
  obtain ⟨v, h1, h2⟩ := argsRep_one h
  simp only [RepV, valueOf, Ty.isAgg, Bool.false_eq_true, if_false, Rep, List.cons.injEq, and_true] at h2
  rw [h1, h2]
def Tryz.lays271_ren : Go.Shelf.Ren := ⟨fun | 271 => 37 | 120 => 51 | 197 => 52 | 260 => 63 | n => n, fun | 9 => 9 | 21 => 21 | 3 => 3 | 4 => 4 | 5 => 5 | 105 => 74 | 119 => 97 | 0 => 0 | 46 => 119 | 139 => 122 | 138 => 121 | n => n, fun | 3 => 0 | 4 => 1 | n => n⟩
theorem Tryz.lays271 : Go.Proofs.Lays.n271 Tryz.prog Tryz.lays271_ren := {
  mixed := by kernel_rfl
  f120 := Tryz.func51.trans (congrArg some (by kernel_rfl))
  f197 := Tryz.func52.trans (congrArg some (by kernel_rfl))
  f260 := Tryz.func63.trans (congrArg some (by kernel_rfl))
  f271 := Tryz.func37.trans (congrArg some (by kernel_rfl))
  t0 := Tryz.underlying0
  a0 := Tryz.isAgg0
  z0 := Tryz.sizeOf0
  v0 := Tryz.zeroValue0
  t3 := Tryz.underlying3
  a3 := Tryz.isAgg3
  z3 := Tryz.sizeOf3
  v3 := Tryz.zeroValue3
  t4 := Tryz.underlying4
  a4 := Tryz.isAgg4
  z4 := Tryz.sizeOf4
  v4 := Tryz.zeroValue4
  t5 := Tryz.underlying5
  a5 := Tryz.isAgg5
  z5 := Tryz.sizeOf5
  v5 := Tryz.zeroValue5
  t9 := Tryz.underlying9
  a9 := Tryz.isAgg9
  z9 := Tryz.sizeOf9
  v9 := Tryz.zeroValue9
  t21 := Tryz.underlying21
  a21 := Tryz.isAgg21
  z21 := Tryz.sizeOf21
  v21 := Tryz.zeroValue21
  t46 := Tryz.underlying119
  a46 := Tryz.isAgg119
  z46 := Tryz.sizeOf119
  v46 := Tryz.zeroValue119
  t105 := Tryz.underlying74
  a105 := Tryz.isAgg74
  z105 := Tryz.sizeOf74
  v105 := Tryz.zeroValue74
  t119 := Tryz.underlying97
  a119 := Tryz.isAgg97
  z119 := Tryz.sizeOf97
  t138 := Tryz.underlying121
  a138 := Tryz.isAgg121
  z138 := Tryz.sizeOf121
  v138 := Tryz.zeroValue121
  t139 := Tryz.underlying122
  a139 := Tryz.isAgg122
  z139 := Tryz.sizeOf122
  v139 := Tryz.zeroValue122
  g3 := by kernel_rfl
  g4 := by kernel_rfl }
theorem Tryz.utf8_DecodeLastRuneInString (s : ByteArray) (w : World) (hs : s.size ≤ 9223372036854775807) (hT : Lib.Utf8Tabs 0 1 w) :
    Calls Tryz.prog 37 #[.string s] w fun e w' => e = .returned (.tuple #[.int .i32 (Lib.decodeLastL s.data.toList).1, .int .i64 (Lib.decodeLastL s.data.toList).2]) ∧ Below w.heap.size w w' := Any.utf8_DecodeLastRuneInString Tryz.lays271 s w hs hT
def decLastT : TF := { doms := [.str], cods := [.int .i32, .int .i64], pre := fun x => List.length x.1 ≤ 9223372036854775807, fn := fun x => ((Lib.decodeLastL x.1).1, (Lib.decodeLastL x.1).2, ()) }
theorem decLast_ok : TFOk Tryz.prog 37 decLastT := by
  refine tf_below rfl rfl ?_
  rintro S w hb ⟨(s : List UInt8), _⟩ vs hx ho
  rw [args_str hx]
  have hl : (⟨s.toArray⟩ : ByteArray).size ≤ 9223372036854775807 := ho
  refine (Tryz.utf8_DecodeLastRuneInString ⟨s.toArray⟩ w hl (tabs_at hb)).mono fun e w' ⟨he, hbl⟩ => ⟨_, he, ?_, hbl⟩
  refine ⟨[_, _], ⟨_, _, rfl, ?_, _, _, rfl, ?_, rfl⟩, rfl⟩ <;> simp [RepV, valueOf, Ty.isAgg, Rep, decLastT]
end Go.Proofs.YtnbicdeehppgpaaGreatDoor
