/- Helper lemmas towards this seat's statements: a contract, proved for every input within its own premise, of functions of the program. -/
import Derived.Test.YtbkemaekncpkjaaDoorVxS
import Derived.Test.YtbkemaekncpkjaaDoorShelf
import Derived.Test.YtbkemaekncpkjaaDoorTie
import Derived.Test.YtbkemaekncpkjaaDoorCards
import Derived.Lib.LaidIn
import Derived.Lib.LaidU8T
import Derived.Deep.DeepHandedRow
import Derived.Deep.DeepWitnessRowRef
import Derived.ProofKit
import Derived.SizedLaws
import Derived.PinnedBridge
namespace Go.Proofs.YtbkemaekncpkjaaDoor
open Go Go.Vx Go.ChangeShapes Go.WideShapes Go.ChangeAt Go.RowKit Go.Lib
set_option maxRecDepth 100000
set_option linter.unusedVariables false
theorem noStand {P : Program} {ps : Array TypeId} (h : (ps.toList.all fun t => !P.wantsStandIn t) = true) (j : Nat) (t : TypeId) (ht : ps[j]? = some t) : P.wantsStandIn t = false := by
  rw [List.all_eq_true] at h
  have := h t (by rw [List.mem_iff_getElem?]; exact ⟨j, by simpa using ht⟩)
  simpa using this
theorem own : ownKnob Tryd.prog.godebug = none := by kernel_rfl
theorem laidOut : laidOutB Tryd.prog = true := by kernel_rfl
def Tryd.lays260_ren : Go.Shelf.Ren := ⟨fun | 260 => 62 | n => n, fun | 9 => 9 | 21 => 21 | 3 => 3 | 4 => 4 | 5 => 5 | 119 => 107 | 0 => 0 | 46 => 38 | 139 => 110 | 138 => 109 | n => n, fun | 3 => 3 | 4 => 4 | n => n⟩
theorem Tryd.lays260 : Go.Proofs.Lays.n260 Tryd.prog Tryd.lays260_ren := {
  mixed := by kernel_rfl
  f260 := Tryd.func62.trans (congrArg some (by kernel_rfl))
  t0 := Tryd.underlying0
  a0 := Tryd.isAgg0
  z0 := Tryd.sizeOf0
  v0 := Tryd.zeroValue0
  t3 := Tryd.underlying3
  a3 := Tryd.isAgg3
  z3 := Tryd.sizeOf3
  v3 := Tryd.zeroValue3
  t4 := Tryd.underlying4
  a4 := Tryd.isAgg4
  z4 := Tryd.sizeOf4
  v4 := Tryd.zeroValue4
  t5 := Tryd.underlying5
  a5 := Tryd.isAgg5
  z5 := Tryd.sizeOf5
  v5 := Tryd.zeroValue5
  t9 := Tryd.underlying9
  a9 := Tryd.isAgg9
  z9 := Tryd.sizeOf9
  v9 := Tryd.zeroValue9
  t21 := Tryd.underlying21
  a21 := Tryd.isAgg21
  z21 := Tryd.sizeOf21
  v21 := Tryd.zeroValue21
  t46 := Tryd.underlying38
  a46 := Tryd.isAgg38
  z46 := Tryd.sizeOf38
  v46 := Tryd.zeroValue38
  t119 := Tryd.underlying107
  a119 := Tryd.isAgg107
  z119 := Tryd.sizeOf107
  t138 := Tryd.underlying109
  a138 := Tryd.isAgg109
  z138 := Tryd.sizeOf109
  v138 := Tryd.zeroValue109
  t139 := Tryd.underlying110
  a139 := Tryd.isAgg110
  z139 := Tryd.sizeOf110
  v139 := Tryd.zeroValue110
  g3 := by kernel_rfl
  g4 := by kernel_rfl }
/-- The type of a name. -/
def typeAt (P : Program) (n : String) : Option TypeId := (List.range P.types.size).find? fun u => P.typeName? 3 u == some n
/-- The cells of a datum, and the blocks that it needs. -/
def layD (P : Program) : Nat → TypeId → DataW Unit → Array Obj → Option (List Value × Array Obj)
  | 0, _, _, _ => none
  | n + 1, t, d, h =>
    let many (l : List (TypeId × DataW Unit)) : Option (List Value × Array Obj) := l.foldl (fun o x => o.bind fun (cs, h) => (layD P n x.1 x.2 h).map fun (c, h') => (cs ++ c, h')) (some ([], h))
    match d, P.underlying t with
    | .lit (.int k z), _ => some ([.int k z], h)
    | .lit (.bool b), _ => some ([.bool b], h)
    | .lit (.string s), _ => some ([.string ⟨s.toArray⟩], h)
    | .agg xs, some (.struct fs) => many ((fs.toList.map (·.type)).zip xs)
    | .agg xs, some (.array _ e) => many (xs.map fun x => (e, x))
    | .nil, some (.pointer _) => some ([.pointer none], h)
    | .nil, some (.slice _) => some ([.slice none 0 0], h)
    | .nil, some (.interface _) => some ([.nilIface], h)
    | .nil, some (.map _ _) => some ([.map none], h)
    | .ptr x, some (.pointer e) => (layD P n e x h).map fun (cs, h') => ([.pointer (some ⟨h'.size, 0, none⟩)], h'.push (.cells cs.toArray e (0, 0)))
    | .slice xs [], some (.slice e) => (many (xs.map fun x => (e, x))).map fun (cs, h') => ([.slice (some ⟨h'.size, 0, none⟩) xs.length xs.length], h'.push (.cells cs.toArray e (0, 0)))
    | .iface nm x, some (.interface _) => (typeAt P nm).bind fun u => (layD P n u x h).bind fun (cs, h') => match cs with
      | [v] => some ([.iface u v], h')
      | _ => none
    | _, _ => none
def layVars (P : Program) (l : List (String × DataW Unit)) (h : Array Obj) : Array Obj :=
  l.foldl (fun h x => match P.globalNamed x.1 with
    | some g => (match P.globals[g]? with
      | some v => (match layD P 20 v.type x.2 h with
        | some (cs, h') => h'.modify g fun
          | .cells _ t frozen => .cells cs.toArray t frozen
          | o => o
        | none => h)
      | none => h)
    | none => h) h
abbrev laidL : List (String × DataW Unit) := [("math/bits.deBruijn32tab", Rows.laid_math_bits_deBruijn32tab), ("math/bits.deBruijn64tab", Rows.laid_math_bits_deBruijn64tab), ("internal/strconv.uint64pow10", (Lib.tabData .u64 Lib.pow10Tab)), ("unicode/utf8.acceptRanges", Lib.acceptData), ("strconv.ErrRange", Rows.laid_strconv_ErrRange), ("strconv.ErrSyntax", Rows.laid_strconv_ErrSyntax), ("unicode/utf8.first", Lib.firstData)]
/-- The settled world, the variables that the rows find laid as their initialisers lay them. -/
noncomputable def laidWorld (os : Os) : World :=
  let w0 := World.holding Tryd.prog os ⟨#[], #[], []⟩
  { w0 with heap := layVars Tryd.prog laidL w0.heap }
theorem laid_accept : (Rows.laid_unicode_utf8_acceptRanges : DataW Unit) = Lib.acceptData := by kernel_rfl
theorem laid_first : Rows.laid_unicode_utf8_first = Lib.firstData := Go.Pinned.utf8First_eq
theorem laid_pow : (Rows.laid_internal_strconv_uint64pow10 : DataW Unit) = Lib.tabData .u64 Lib.pow10Tab := by kernel_rfl
theorem laid_eq : ([("math/bits.deBruijn32tab", Rows.laid_math_bits_deBruijn32tab), ("math/bits.deBruijn64tab", Rows.laid_math_bits_deBruijn64tab), ("internal/strconv.uint64pow10", Rows.laid_internal_strconv_uint64pow10), ("unicode/utf8.acceptRanges", Rows.laid_unicode_utf8_acceptRanges), ("strconv.ErrRange", Rows.laid_strconv_ErrRange), ("strconv.ErrSyntax", Rows.laid_strconv_ErrSyntax), ("unicode/utf8.first", Rows.laid_unicode_utf8_first)] : List (String × DataW Unit)) = laidL := by
  rw [laid_accept, laid_first, laid_pow]
theorem laid_met (os : Os) (args : Array Value) : laidMet Tryd.prog laidL ((laidWorld os).forCall (fun _ _ => 0) ⟨#[], args, []⟩).memory :=
  (LaidIn.of_run (l := laidL) (List.range 2000) 8 (by kernel_rfl) (by kernel_rfl) (by kernel_rfl) (by kernel_rfl)).met
theorem tabs_laid {W : World} (hL : laidMetH Tryd.prog laidL W) : Lib.Utf8Tabs 3 4 W :=
  utf8Tabs_of_readsT (U8Types.of260 Tryd.lays260) ⟨by kernel_rfl, by kernel_rfl, by kernel_rfl, by kernel_rfl, by kernel_rfl, by kernel_rfl, by kernel_rfl⟩ (Lib.laidMet.reads hL (.tail _ (.tail _ (.tail _ (.tail _ (.tail _ (.tail _ (.head _)))))))) (Lib.laidMet.reads hL (.tail _ (.tail _ (.tail _ (.head _)))))
theorem iface_of_trod {H : Type} {enc : TypeId × Value → H} {P : Program} {w : World} {base : Nat} {sp : Nat → Bool} {fuel : Nat} {t : TypeId} {ms : Array (String × TypeId)} {cs : List Value} {nm : String} {d : DataW H} {p : List MemPlace}
    (ht : P.underlying t = some (.interface ms)) (h : DataW.trod enc P w base sp false fuel t cs = some (.iface nm d, p)) : ∃ u v, cs = [.iface u v] := by
  cases fuel with
  | zero => simp [DataW.trod] at h
  | succ n =>
    match cs with
    | [] => simp [DataW.trod, ht] at h
    | [v] => cases v <;> simp [DataW.trod, ht] at h ⊢
    | a :: b :: l => simp [DataW.trod, ht] at h
theorem var_block {P : Program} {W : World} {n : String} {g : Nat} {cs : Array Value} (hg : P.globalNamed n = some g) (hv : W.var? P n = some cs) : g < W.heap.size ∧ ∃ t fr, W.heap[g]? = some (.cells cs t fr) := by
  unfold World.var? at hv
  rw [hg, Option.bind_some] at hv
  split at hv
  · rename_i c t fr hh
    cases hv
    refine ⟨?_, t, fr, hh⟩
    rcases Nat.lt_or_ge g W.heap.size with h | h
    · exact h
    · rw [Array.getElem?_eq_none h] at hh; cases hh
  · cases hv
def ifaceVar (P : Program) (g : Nat) : Bool := match (P.globals[g]?).bind fun v => P.underlying v.type with
  | some (.interface _) => true
  | _ => false
theorem err_laid {P : Program} {W : World} {n : String} {g : Nat} {nm : String} {d : DataW Unit} (hg : P.globalNamed n = some g) (hi : ifaceVar P g = true)
    (h : Lib.VarReads P W n (.iface nm d)) : g < W.heap.size ∧ ∃ v, AtCells W ⟨g, 0, none⟩ 0 [v] ∧ (v = .nilIface ∨ ∃ te pe, v = .iface te pe) := by
  obtain ⟨g', t', cs, fuel, p, h1, h2, h3, h4⟩ := h
  obtain rfl := Option.some.inj (hg.symm.trans h1)
  obtain ⟨gv, e1, e2⟩ := Option.map_eq_some_iff.1 h2
  unfold ifaceVar at hi
  rw [e1, Option.bind_some, e2] at hi
  split at hi
  case h_2 => cases hi
  rename_i ms hu
  obtain ⟨u, v, hc⟩ := iface_of_trod hu h4
  obtain ⟨h5, ty, fr, h6⟩ := var_block hg h3
  refine ⟨h5, .iface u v, fun j x hj => ?_, .inr ⟨u, v, rfl⟩⟩
  cases j with
  | zero =>
    have hx : x = .iface u v := by simpa using hj.symm
    subst hx
    have hcs : cs[0]? = some (.iface u v) := by rw [← Array.getElem?_toList, hc]; rfl
    simp [World.cell?, h6, hcs]
  | succ j => simp at hj
theorem pow_laid {W : World} (hL : laidMetH Tryd.prog laidL W) : 5 < W.heap.size ∧ ∃ t fr, W.heap[5]? = some (.cells powCells.toArray t fr) := by
  obtain ⟨g', t', cs, fuel, p, h1, h2, h3, h4⟩ := Lib.laidMet.reads hL (.tail _ (.tail _ (.head _)))
  have hg : Tryd.prog.globalNamed "internal/strconv.uint64pow10" = some 5 := by kernel_rfl
  obtain rfl := Option.some.inj (hg.symm.trans h1)
  have ht : ∃ t e n, (Tryd.prog.globals[5]?).map (·.type) = some t ∧ Tryd.prog.underlying t = some (.array n e) ∧ Tryd.prog.underlying e = some (.int .u64) ∧ Tryd.prog.cellsOf e = 1 ∧ Tryd.prog.cellsOf t = n := ⟨114, 36, 20, by kernel_rfl, by kernel_rfl, by kernel_rfl, by kernel_rfl, by kernel_rfl⟩
  obtain ⟨t, e, n, a1, a2, a3, a4, a5⟩ := ht
  obtain rfl := Option.some.inj (a1.symm.trans h2)
  have hc := Lib.cells_of_tab a2 a3 a4 a5 h4
  have hcs : cs = powCells.toArray := by rw [← Array.toArray_toList (xs := cs), hc]; rfl
  rw [← hcs]
  exact var_block hg h3
theorem old_bounded {W : World} (hL : laidMetH Tryd.prog laidL W) : Bounded (Old W) W := by
  refine ⟨fun _ h => h, fun g cs hg => by obtain ⟨h1, h2⟩ := tabs_glob (tabs_laid hL) g cs hg; exact ⟨h2, h1⟩, ?_, ?_⟩
  · intro g cs hg
    unfold glWhole at hg
    split at hg
    · rename_i e
      subst e
      cases hg
      exact pow_laid hL
    cases hg
  · intro g hg
    simp only [glErr, Bool.or_eq_true, decide_eq_true_eq, Bool.false_eq_true, or_false] at hg
    rcases hg with rfl | rfl
    · exact err_laid (n := "strconv.ErrSyntax") (by kernel_rfl) (by kernel_rfl) (Lib.laidMet.reads hL (.tail _ (.tail _ (.tail _ (.tail _ (.tail _ (.head _)))))))
    · exact err_laid (n := "strconv.ErrRange") (by kernel_rfl) (by kernel_rfl) (Lib.laidMet.reads hL (.tail _ (.tail _ (.tail _ (.tail _ (.head _))))))
    all_goals (simp [glErr] at hg)
end Go.Proofs.YtbkemaekncpkjaaDoor
