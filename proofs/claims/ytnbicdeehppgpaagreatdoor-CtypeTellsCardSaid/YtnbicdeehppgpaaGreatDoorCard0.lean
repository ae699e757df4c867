/- Helper lemmas towards this seat's statements: a contract, proved for every input within its own premise, of functions of the program. -/
import Derived.Test.YtnbicdeehppgpaaGreatDoorVxS
import Derived.Test.YtnbicdeehppgpaaGreatDoorShelf
import Derived.Test.YtnbicdeehppgpaaGreatDoorTie
import Derived.Test.YtnbicdeehppgpaaGreatDoorCards
import Derived.Lib.LaidIn
import Derived.Lib.LaidU8T
import Derived.Deep.DeepHandedRow
import Derived.Deep.DeepWitnessRowRef
import Derived.ProofKit
import Derived.SizedLaws
import Derived.PinnedBridge
namespace Go.Proofs.YtnbicdeehppgpaaGreatDoor
open Go Go.Vx Go.ChangeShapes Go.WideShapes Go.ChangeAt Go.RowKit Go.Lib
set_option maxRecDepth 100000
set_option linter.unusedVariables false
theorem noStand {P : Program} {ps : Array TypeId} (h : (ps.toList.all fun t => !P.wantsStandIn t) = true) (j : Nat) (t : TypeId) (ht : ps[j]? = some t) : P.wantsStandIn t = false := by
  rw [List.all_eq_true] at h
  have := h t (by rw [List.mem_iff_getElem?]; exact ⟨j, by simpa using ht⟩)
  simpa using this
theorem own : ownKnob Tryz.prog.godebug = none := by kernel_rfl
theorem laidOut : laidOutB Tryz.prog = true := by kernel_rfl
def Tryz.lays260_ren : Go.Shelf.Ren := ⟨fun | 260 => 63 | n => n, fun | 9 => 9 | 21 => 21 | 3 => 3 | 4 => 4 | 5 => 5 | 119 => 97 | 0 => 0 | 46 => 119 | 139 => 122 | 138 => 121 | n => n, fun | 3 => 0 | 4 => 1 | n => n⟩
theorem Tryz.lays260 : Go.Proofs.Lays.n260 Tryz.prog Tryz.lays260_ren := {
  mixed := by kernel_rfl
  f260 := Tryz.func63.trans (congrArg some (by kernel_rfl))
  t0 := Tryz.underlying0
  a0 := Tryz.isAgg0
  z0 := Tryz.sizeOf0
  v0 := Tryz.zeroValue0
  t3 := Tryz.underlying3
  a3 := Tryz.isAgg3
  z3 := Tryz.sizeOf3
  v3 := Tryz.zeroValue3
  t4 := Tryz.underlying4
  a4 := Tryz.isAgg4
  z4 := Tryz.sizeOf4
  v4 := Tryz.zeroValue4
  t5 := Tryz.underlying5
  a5 := Tryz.isAgg5
  z5 := Tryz.sizeOf5
  v5 := Tryz.zeroValue5
  t9 := Tryz.underlying9
  a9 := Tryz.isAgg9
  z9 := Tryz.sizeOf9
  v9 := Tryz.zeroValue9
  t21 := Tryz.underlying21
  a21 := Tryz.isAgg21
  z21 := Tryz.sizeOf21
  v21 := Tryz.zeroValue21
  t46 := Tryz.underlying119
  a46 := Tryz.isAgg119
  z46 := Tryz.sizeOf119
  v46 := Tryz.zeroValue119
  t119 := Tryz.underlying97
  a119 := Tryz.isAgg97
  z119 := Tryz.sizeOf97
  t138 := Tryz.underlying121
  a138 := Tryz.isAgg121
  z138 := Tryz.sizeOf121
  v138 := Tryz.zeroValue121
  t139 := Tryz.underlying122
  a139 := Tryz.isAgg122
  z139 := Tryz.sizeOf122
  v139 := Tryz.zeroValue122
  g3 := by kernel_rfl
  g4 := by kernel_rfl }
/-- The type of a name. -/
def typeAt (P : Program) (n : String) : Option TypeId := (List.range P.types.size).find? fun u => P.typeName? 3 u == some n
/-- The cells of a datum, and the blocks that it needs. -/
def layD (P : Program) : Nat → TypeId → DataW Unit → Array Obj → Option (List Value × Array Obj)
  | 0, _, _, _ => none
  | n + 1, t, d, h =>
    let many (l : List (TypeId × DataW Unit)) : Option (List Value × Array Obj) := l.foldl (fun o x => o.bind fun (cs, h) => (layD P n x.1 x.2 h).map fun (c, h') => (cs ++ c, h')) (some ([], h))
    match d, P.underlying t with
    | .lit (.int k z), _ => some ([.int k z], h)
    | .lit (.bool b), _ => some ([.bool b], h)
    | .lit (.string s), _ => some ([.string ⟨s.toArray⟩], h)
    | .agg xs, some (.struct fs) => many ((fs.toList.map (·.type)).zip xs)
    | .agg xs, some (.array _ e) => many (xs.map fun x => (e, x))
    | .nil, some (.pointer _) => some ([.pointer none], h)
    | .nil, some (.slice _) => some ([.slice none 0 0], h)
    | .nil, some (.interface _) => some ([.nilIface], h)
    | .nil, some (.map _ _) => some ([.map none], h)
    | .ptr x, some (.pointer e) => (layD P n e x h).map fun (cs, h') => ([.pointer (some ⟨h'.size, 0, none⟩)], h'.push (.cells cs.toArray e (0, 0)))
    | .slice xs [], some (.slice e) => (many (xs.map fun x => (e, x))).map fun (cs, h') => ([.slice (some ⟨h'.size, 0, none⟩) xs.length xs.length], h'.push (.cells cs.toArray e (0, 0)))
    | .iface nm x, some (.interface _) => (typeAt P nm).bind fun u => (layD P n u x h).bind fun (cs, h') => match cs with
      | [v] => some ([.iface u v], h')
      | _ => none
    | _, _ => none
def layVars (P : Program) (l : List (String × DataW Unit)) (h : Array Obj) : Array Obj :=
  l.foldl (fun h x => match P.globalNamed x.1 with
    | some g => (match P.globals[g]? with
      | some v => (match layD P 20 v.type x.2 h with
        | some (cs, h') => h'.modify g fun
          | .cells _ t frozen => .cells cs.toArray t frozen
          | o => o
        | none => h)
      | none => h)
    | none => h) h
abbrev laidL : List (String × DataW Unit) := [("unicode/utf8.acceptRanges", Lib.acceptData), ("unicode/utf8.first", Lib.firstData)]
/-- The settled world, the variables that the rows find laid as their initialisers lay them. -/
noncomputable def laidWorld (os : Os) : World :=
  let w0 := World.holding Tryz.prog os ⟨#[], #[], []⟩
  { w0 with heap := layVars Tryz.prog laidL w0.heap }
theorem laid_accept : (Rows.laid_unicode_utf8_acceptRanges : DataW Unit) = Lib.acceptData := by kernel_rfl
theorem laid_first : Rows.laid_unicode_utf8_first = Lib.firstData := Go.Pinned.utf8First_eq
theorem laid_eq : ([("unicode/utf8.acceptRanges", Rows.laid_unicode_utf8_acceptRanges), ("unicode/utf8.first", Rows.laid_unicode_utf8_first)] : List (String × DataW Unit)) = laidL := by
  rw [laid_accept, laid_first]
theorem laid_met (os : Os) (args : Array Value) : laidMet Tryz.prog laidL ((laidWorld os).forCall (fun _ _ => 0) ⟨#[], args, []⟩).memory :=
  (LaidIn.of_run (l := laidL) (List.range 2000) 8 (by kernel_rfl) (by kernel_rfl) (by kernel_rfl) (by kernel_rfl)).met
theorem tabs_laid {W : World} (hL : laidMetH Tryz.prog laidL W) : Lib.Utf8Tabs 0 1 W :=
  utf8Tabs_of_readsT (U8Types.of260 Tryz.lays260) ⟨by kernel_rfl, by kernel_rfl, by kernel_rfl, by kernel_rfl, by kernel_rfl, by kernel_rfl, by kernel_rfl⟩ (Lib.laidMet.reads hL (.tail _ (.head _))) (Lib.laidMet.reads hL (.head _))
theorem iface_of_trod {H : Type} {enc : TypeId × Value → H} {P : Program} {w : World} {base : Nat} {sp : Nat → Bool} {fuel : Nat} {t : TypeId} {ms : Array (String × TypeId)} {cs : List Value} {nm : String} {d : DataW H} {p : List MemPlace}
    (ht : P.underlying t = some (.interface ms)) (h : DataW.trod enc P w base sp false fuel t cs = some (.iface nm d, p)) : ∃ u v, cs = [.iface u v] := by
  cases fuel with
  | zero => simp [DataW.trod] at h
  | succ n =>
    match cs with
    | [] => simp [DataW.trod, ht] at h
    | [v] => cases v <;> simp [DataW.trod, ht] at h ⊢
    | a :: b :: l => simp [DataW.trod, ht] at h
theorem var_block {P : Program} {W : World} {n : String} {g : Nat} {cs : Array Value} (hg : P.globalNamed n = some g) (hv : W.var? P n = some cs) : g < W.heap.size ∧ ∃ t fr, W.heap[g]? = some (.cells cs t fr) := by
  unfold World.var? at hv
  rw [hg, Option.bind_some] at hv
  split at hv
  · rename_i c t fr hh
    cases hv
    refine ⟨?_, t, fr, hh⟩
    rcases Nat.lt_or_ge g W.heap.size with h | h
    · exact h
    · rw [Array.getElem?_eq_none h] at hh; cases hh
  · cases hv
def ifaceVar (P : Program) (g : Nat) : Bool := match (P.globals[g]?).bind fun v => P.underlying v.type with
  | some (.interface _) => true
  | _ => false
theorem err_laid {P : Program} {W : World} {n : String} {g : Nat} {nm : String} {d : DataW Unit} (hg : P.globalNamed n = some g) (hi : ifaceVar P g = true)
    (h : Lib.VarReads P W n (.iface nm d)) : g < W.heap.size ∧ ∃ v, AtCells W ⟨g, 0, none⟩ 0 [v] ∧ (v = .nilIface ∨ ∃ te pe, v = .iface te pe) := by
  obtain ⟨g', t', cs, fuel, p, h1, h2, h3, h4⟩ := h
  obtain rfl := Option.some.inj (hg.symm.trans h1)
  obtain ⟨gv, e1, e2⟩ := Option.map_eq_some_iff.1 h2
  unfold ifaceVar at hi
  rw [e1, Option.bind_some, e2] at hi
  split at hi
  case h_2 => cases hi
  rename_i ms hu
  obtain ⟨u, v, hc⟩ := iface_of_trod hu h4
  obtain ⟨h5, ty, fr, h6⟩ := var_block hg h3
  refine ⟨h5, .iface u v, fun j x hj => ?_, .inr ⟨u, v, rfl⟩⟩
  cases j with
  | zero =>
    have hx : x = .iface u v := by simpa using hj.symm
    subst hx
    have hcs : cs[0]? = some (.iface u v) := by rw [← Array.getElem?_toList, hc]; rfl
    simp [World.cell?, h6, hcs]
  | succ j => simp at hj
theorem old_bounded {W : World} (hL : laidMetH Tryz.prog laidL W) : Bounded (Old W) W := by
  refine ⟨fun _ h => h, fun g cs hg => by obtain ⟨h1, h2⟩ := tabs_glob (tabs_laid hL) g cs hg; exact ⟨h2, h1⟩, ?_, ?_⟩
  · intro g cs hg
    unfold glWhole at hg
    cases hg
  · intro g hg
    all_goals (simp [glErr] at hg)
end Go.Proofs.YtnbicdeehppgpaaGreatDoor
