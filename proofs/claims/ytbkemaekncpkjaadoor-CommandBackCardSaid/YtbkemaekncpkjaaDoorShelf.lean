/- Helper lemmas towards this seat's statements: a contract, proved for every input within its own premise, of functions of the program. -/
import Derived.Test.YtbkemaekncpkjaaDoorBase
import Derived.Test.YtbkemaekncpkjaaDoorPl
import Derived.Test.YtbkemaekncpkjaaDoorDec
import Derived.Shelf.Unicode.DecodeLast
namespace Go.Proofs.YtbkemaekncpkjaaDoor
open Go Go.Vx Go.RowKit
set_option maxRecDepth 100000
set_option linter.unusedSimpArgs false
set_option linter.unusedVariables false
/-- The library's tables lie there. -/
theorem tabs_at {S : Nat → Prop} {w : World} (h : Bounded S w) : Lib.Utf8Tabs 3 4 w := by
  have h1 := (h.glob 3 firstCells (by simp [glTab])).2
  have h2 := (h.glob 4 accCells (by simp [glTab])).2
  refine ⟨fun c hc => ?_, fun i hi => ⟨?_, ?_⟩⟩
  · have := h1 c (.int .u8 (Lib.firstT c)) (by simp [firstCells, List.getElem?_range hc])
    simpa using this
  · have := h2 (2 * i) (.int .u8 (Lib.accLo i)) (by simp [accCells, List.getElem?_range (show 2 * i < 32 by omega)])
    simpa using this
  · have := h2 (2 * i + 1) (.int .u8 (Lib.accHi i)) (by simp [accCells, List.getElem?_range (show 2 * i + 1 < 32 by omega), show (2 * i + 1) / 2 = i by omega, show ¬ (2 * i + 1) % 2 = 0 by omega])
    simpa [Nat.add_assoc] using this
theorem tabs_glob {w : World} (h : Lib.Utf8Tabs 3 4 w) (g : Nat) (cs : List Value) (hg : glTab g = some cs) : AtCells w ⟨g, 0, none⟩ 0 cs ∧ g < w.heap.size := by
  have lt : ∀ b i v, w.cell? ⟨b, i, none⟩ = some v → b < w.heap.size := fun b i v hv => by
    rcases Nat.lt_or_ge b w.heap.size with h | h
    · exact h
    · simp [World.cell?, Array.getElem?_eq_none h] at hv
  unfold glTab at hg
  split at hg
  · rename_i he
    subst he
    cases hg
    refine ⟨fun j v hj => ?_, lt _ _ _ (h.1 0 (by omega))⟩
    have hj' : j < 256 := by have := (List.getElem?_eq_some_iff.1 hj).1; simpa [firstCells] using this
    simp [firstCells, List.getElem?_range hj'] at hj
    subst hj
    simpa using h.1 j hj'
  · split at hg
    · rename_i he
      subst he
      cases hg
      refine ⟨fun j v hj => ?_, lt _ _ _ (h.2 0 (by omega)).1⟩
      have hj' : j < 32 := by have := (List.getElem?_eq_some_iff.1 hj).1; simpa [accCells] using this
      simp [accCells, List.getElem?_range hj'] at hj
      subst hj
      obtain ⟨h1, h2⟩ := h.2 (j / 2) (by omega)
      split
      · rename_i h3
        rw [show 2 * (j / 2) = j by omega] at h1
        simpa using h1
      · rename_i h3
        rw [show 2 * (j / 2) + 1 = j by omega] at h2
        simpa using h2
    · cases hg
/-- A contract off the kit's shelf, whose results are plain. -/
theorem tf_below {P : Program} {f : FuncId} {tf : TF} (hown : tf.own = none) (hs : scalL tf.cods = true)
    (h : ∀ S w, Bounded S w → ∀ x vs, ArgsRep P tf.doms S w x vs → tf.ob x → Calls P f vs.toArray w fun e w' => ∃ r, e = .returned r ∧ ResRep P tf.cods S w (tf.fn x) r ∧ Below w.heap.size w w') : TFOk P f tf := by
  intro S w hb x vs hx ho
  refine (h S w hb x vs hx ho).mono fun e w' ⟨r, he, hr, hbl⟩ => ⟨S, r, he, ?_, ⟨fun _ h => h, hbl.size, hbl.block, hbl.os, hbl.tape, hbl.output, fun _ h => .inl h, fun k hk => Nat.lt_of_lt_of_le (hb.lt k hk) hbl.size⟩⟩
  rw [hown]
  exact hr.anywhere hs
theorem args_str {P : Program} {S : Nat → Prop} {w : World} {x : Args [.str]} {vs : List Value} (h : ArgsRep P [.str] S w x vs) : vs = [mkStr x.1] := by
  obtain ⟨v, h1, h2⟩ := argsRep_one h
  simp only [RepV, valueOf, Ty.isAgg, Bool.false_eq_true, if_false, Rep, List.cons.injEq, and_true] at h2
  rw [h1, h2]
def Tryd.lays271_ren : Go.Shelf.Ren := ⟨fun | 271 => 46 | 120 => 64 | 197 => 44 | 260 => 62 | n => n, fun | 9 => 9 | 21 => 21 | 3 => 3 | 4 => 4 | 5 => 5 | 105 => 79 | 119 => 107 | 0 => 0 | 46 => 38 | 139 => 110 | 138 => 109 | n => n, fun | 3 => 3 | 4 => 4 | n => n⟩
theorem Tryd.lays271 : Go.Proofs.Lays.n271 Tryd.prog Tryd.lays271_ren := {
  mixed := by kernel_rfl
  f120 := Tryd.func64.trans (congrArg some (by kernel_rfl))
  f197 := Tryd.func44.trans (congrArg some (by kernel_rfl))
  f260 := Tryd.func62.trans (congrArg some (by kernel_rfl))
  f271 := Tryd.func46.trans (congrArg some (by kernel_rfl))
  t0 := Tryd.underlying0
  a0 := Tryd.isAgg0
  z0 := Tryd.sizeOf0
  v0 := Tryd.zeroValue0
  t3 := Tryd.underlying3
  a3 := Tryd.isAgg3
  z3 := Tryd.sizeOf3
  v3 := Tryd.zeroValue3
  t4 := Tryd.underlying4
  a4 := Tryd.isAgg4
  z4 := Tryd.sizeOf4
  v4 := Tryd.zeroValue4
  t5 := Tryd.underlying5
  a5 := Tryd.isAgg5
  z5 := Tryd.sizeOf5
  v5 := Tryd.zeroValue5
  t9 := Tryd.underlying9
  a9 := Tryd.isAgg9
  z9 := Tryd.sizeOf9
  v9 := Tryd.zeroValue9
  t21 := Tryd.underlying21
  a21 := Tryd.isAgg21
  z21 := Tryd.sizeOf21
  v21 := Tryd.zeroValue21
  t46 := Tryd.underlying38
  a46 := Tryd.isAgg38
  z46 := Tryd.sizeOf38
  v46 := Tryd.zeroValue38
  t105 := Tryd.underlying79
  a105 := Tryd.isAgg79
  z105 := Tryd.sizeOf79
  v105 := Tryd.zeroValue79
  t119 := Tryd.underlying107
  a119 := Tryd.isAgg107
  z119 := Tryd.sizeOf107
  t138 := Tryd.underlying109
  a138 := Tryd.isAgg109
  z138 := Tryd.sizeOf109
  v138 := Tryd.zeroValue109
  t139 := Tryd.underlying110
  a139 := Tryd.isAgg110
  z139 := Tryd.sizeOf110
  v139 := Tryd.zeroValue110
  g3 := by kernel_rfl
  g4 := by kernel_rfl }
theorem Tryd.utf8_DecodeLastRuneInString (s : ByteArray) (w : World) (hs : s.size ≤ 9223372036854775807) (hT : Lib.Utf8Tabs 3 4 w) :
    Calls Tryd.prog 46 #[.string s] w fun e w' => e = .returned (.tuple #[.int .i32 (Lib.decodeLastL s.data.toList).1, .int .i64 (Lib.decodeLastL s.data.toList).2]) ∧ Below w.heap.size w w' := Any.utf8_DecodeLastRuneInString Tryd.lays271 s w hs hT
def decLastT : TF := { doms := [.str], cods := [.int .i32, .int .i64], pre := fun x => List.length x.1 ≤ 9223372036854775807, fn := fun x => ((Lib.decodeLastL x.1).1, (Lib.decodeLastL x.1).2, ()) }
theorem decLast_ok : TFOk Tryd.prog 46 decLastT := by
  refine tf_below rfl rfl ?_
  rintro S w hb ⟨(s : List UInt8), _⟩ vs hx ho
  rw [args_str hx]
  have hl : (⟨s.toArray⟩ : ByteArray).size ≤ 9223372036854775807 := ho
  refine (Tryd.utf8_DecodeLastRuneInString ⟨s.toArray⟩ w hl (tabs_at hb)).mono fun e w' ⟨he, hbl⟩ => ⟨_, he, ?_, hbl⟩
  refine ⟨[_, _], ⟨_, _, rfl, ?_, _, _, rfl, ?_, rfl⟩, rfl⟩ <;> simp [RepV, valueOf, Ty.isAgg, Rep, decLastT]
end Go.Proofs.YtbkemaekncpkjaaDoor
