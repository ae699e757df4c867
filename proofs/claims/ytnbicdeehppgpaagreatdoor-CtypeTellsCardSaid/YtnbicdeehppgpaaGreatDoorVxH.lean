/- A part of a small verifier for the model's programs, proved sound for any program; no condition. -/
import Derived.Test.YtnbicdeehppgpaaGreatDoorVxIa
import Derived.Lib.ConvBytes
import Derived.Laws.BytesString
import Derived.Great.FillDense
import Derived.Laws.LoneSync
set_option linter.unusedSimpArgs false
set_option linter.unusedVariables false
namespace Go.Vx
open Go
set_option linter.unusedSectionVars false
set_option linter.unusedVariables false
section
variable {P : Program} {S : Nat → Prop} {w : World} {ρ : Names}

theorem ext_alloc (hb : Bounded S w) (o : Obj) : Ext S w S (w.alloc o) :=
  ⟨fun _ h => h, by simp, fun k hk => by show (w.heap.push o)[k]? = _; rw [Array.getElem?_push, if_neg (by omega)], rfl, rfl, rfl, fun _ h => .inl h, fun k hk => by have := hb.lt k hk; simp; omega⟩

def setN (ρ : Names) (nm : Nat) (x : Option Nat × Nat) : Names := fun k => if k = nm then some x else ρ k

theorem setN_keep {ρ : Names} {nm : Nat} {x : Option Nat × Nat} (h : ρ nm = none) : Keep ρ (setN ρ nm x) := fun k y hy => by
  unfold setN
  split
  · rename_i e; subst e; rw [h] at hy; cases hy
  · exact hy

theorem newBlock {base : Nat} {l : List SV} {t : TypeId} {cs : List Value} (hb : Bounded S w) (hbase : ρ base = none) (hr : RelL P S w ρ l cs) :
    QPost P S w ρ base (some (.cells l t)) S (w.alloc (.cells cs.toArray t)) (setN ρ base (some w.heap.size, 0)) ∧
    Rel P S (w.alloc (.cells cs.toArray t)) (setN ρ base (some w.heap.size, 0)) (.ptr base 0) (.pointer (some ⟨w.heap.size, 0, none⟩)) := by
  have hk : Keep ρ (setN ρ base (some w.heap.size, 0)) := setN_keep hbase
  have hext := ext_alloc hb (.cells cs.toArray t)
  have hn : setN ρ base (some w.heap.size, 0) base = some (some w.heap.size, 0) := by simp [setN]
  refine ⟨⟨hext, hk, fun k hk => by simp [setN, hk], fun h => (by cases h), fun blk h => ?_⟩, ?_⟩
  · cases h
    refine ⟨⟨w.heap.size, 0, hn, cs, by show (w.heap.push _)[w.heap.size]? = _; simp, RelL.fut (hext.fut hb) hk _ hr⟩, fun b cap he => ?_⟩
    rw [hn] at he
    cases he
    exact ⟨Nat.le_refl _, by simp, fun h => by have := hb.lt _ h; omega⟩
  · simp only [Rel]
    exact ⟨w.heap.size, 0, hn, rfl⟩

theorem boxq_ok {o : Oper} {a : Act} {t : TypeId} {x : Operand} {s : SV} {base : Nat} {q : QR} (hb : Bounded S w) (hbase : ρ base = none) (ho : o.op = .box t x) (h : boxq base t s = some q) (hx : Rel P S w ρ s (a.eval x)) :
    OpOk P o a w (QOut P S w ρ base q) := by
  have main : s ≠ .any → (∀ u, s ≠ .raw u) → (∀ t x, s ≠ .ag t x) → q = ⟨True, .ptr base 0, some (.cells (flat s) t)⟩ → OpOk P o a w (QOut P S w ρ base q) := by
    intro h1 h2 h3 hq
    subst hq
    have hr := flat_rel hx h1 h2 h3
    obtain ⟨p1, p2⟩ := newBlock (t := t) hb hbase hr
    refine OpOk.value (v := .pointer (some ⟨w.heap.size, 0, none⟩)) (w' := w.alloc (.cells (a.eval x).cells t)) ?_ ⟨S, setN ρ base (some w.heap.size, 0), by simpa using p1, by simpa using p2⟩
    simp [execOp, ho, Instr.box, newVar, newRow]
  unfold boxq at h
  split at h
  · cases h
  · cases h
  · rename_i e n xs
    cases h
    simp only [Rel] at hx
    obtain ⟨cs, hv, h1, h2, h3⟩ := hx
    have hk : Keep ρ (setN ρ base (some w.heap.size, List.length xs)) := setN_keep hbase
    have hext := ext_alloc (w := w) hb (.cells cs.toArray t)
    have hn : setN ρ base (some w.heap.size, List.length xs) base = some (some w.heap.size, List.length xs) := by simp [setN]
    refine OpOk.value (v := .pointer (some ⟨w.heap.size, 0, none⟩)) (w' := w.alloc (.cells cs.toArray t)) (by simp [execOp, ho, Instr.box, newVar, newRow, hv, Value.cells]) ⟨S, setN ρ base (some w.heap.size, List.length xs), ⟨hext, hk, fun k hk => by simp [setN, hk], fun h => (by cases h), fun blk hbk => ?_⟩, by simp only [Rel]; exact ⟨_, _, hn, rfl⟩⟩
    cases hbk
    refine ⟨⟨some w.heap.size, List.length xs, hn, Nat.le_refl _, cs, (0, 0), by show (w.heap.push _)[w.heap.size]? = _; simp, .inl rfl, by rw [h2, h1], fun i x hx => ?_⟩, fun b cap he => ?_⟩
    · obtain ⟨c, r1, r2⟩ := h3 i x hx
      exact ⟨c, Rep.fut (hext.fut hb) _ r1, r2⟩
    · rw [hn] at he
      cases he
      exact ⟨Nat.le_refl _, by simp, fun h => by have := hb.lt _ h; omega⟩
  · cases h
  · rename_i h1 h2 h3 h4
    cases h
    refine main h1 (fun u => h2 u) (fun t x => ?_) rfl
    intro e
    exact h4 t x e

theorem newOwn {base : Nat} {e : Ty} {xs : List e.D} {et : TypeId} {cs : List Value} {cap : Nat} {fr : Nat × Nat} {w' : World} (hb : Bounded S w) (hbase : ρ base = none) (hle : xs.length ≤ cap) (hl : cs.length = cap * e.size) (hc : Chunks (Rep P e S w) e.size xs cs) (hfr : fr.1 = fr.2 ∨ cs.length ≤ fr.1)
    (hnew : w'.heap[w.heap.size]? = some (.cells cs.toArray et fr)) (hold : ∀ k, k < w.heap.size → w'.heap[k]? = w.heap[k]?) (hsize : w.heap.size < w'.heap.size) (hos : w'.os = w.os) (htape : w'.tape = w.tape) (hout : w'.output = w.output) :
    QPost P S w ρ base (some (.own e xs et)) S w' (setN ρ base (some w.heap.size, cap)) ∧ setN ρ base (some w.heap.size, cap) base = some (some w.heap.size, cap) := by
  have hk : Keep ρ (setN ρ base (some w.heap.size, cap)) := setN_keep hbase
  have hext : Ext S w S w' := ⟨fun _ h => h, Nat.le_of_lt hsize, hold, hos, htape, hout, fun _ h => .inl h, fun k hk => Nat.lt_trans (hb.lt k hk) hsize⟩
  have hn : setN ρ base (some w.heap.size, cap) base = some (some w.heap.size, cap) := by simp [setN]
  refine ⟨⟨hext, hk, fun k hk => by simp [setN, hk], fun h => (by cases h), fun blk h => ?_⟩, hn⟩
  cases h
  refine ⟨⟨some w.heap.size, cap, hn, hle, cs, fr, hnew, hfr, hl, hc.mono fun _ _ hr => Rep.fut (hext.fut hb) e hr⟩, fun b cap he => ?_⟩
  rw [hn] at he
  cases he
  exact ⟨Nat.le_refl _, hsize, fun h => by have := hb.lt _ h; omega⟩

theorem alloc_facts (o : Obj) : (w.alloc o).heap[w.heap.size]? = some o ∧ (∀ k, k < w.heap.size → (w.alloc o).heap[k]? = w.heap[k]?) ∧ w.heap.size < (w.alloc o).heap.size ∧ (w.alloc o).os = w.os ∧ (w.alloc o).tape = w.tape ∧ (w.alloc o).output = w.output :=
  ⟨by show (w.heap.push o)[w.heap.size]? = _; simp, fun k hk => by show (w.heap.push o)[k]? = _; rw [Array.getElem?_push, if_neg (by omega)], by simp, rfl, rfl, rfl⟩

theorem chunks_map0 {α β : Type} {R : β → List Value → Prop} {sz : Nat} (f : α → β) (g : α → Value) (hs : sz = 1) (h : ∀ a, R (f a) [g a]) (l : List α) : Chunks R sz (l.map f) (l.map g) := fun i x hx => by
  subst hs
  rw [List.getElem?_map, Option.map_eq_some_iff] at hx
  obtain ⟨a, ha, rfl⟩ := hx
  refine ⟨[g a], h a, rfl, fun j v hj => ?_⟩
  have hj0 : j = 0 := by have := (List.getElem?_eq_some_iff.1 hj).1; simpa using this
  subst hj0
  simp at hj
  subst hj
  simp [ha]

theorem setS_len0 : (l : List SV) → (d : Nat) → (x : SV) → (setS l d x).length = l.length
  | [], _, _ => rfl
  | _ :: l, 0, x => rfl
  | s :: l, d + 1, x => by simp [setS, setS_len0 l d x]

theorem setS_get0 : (l : List SV) → (d : Nat) → (x : SV) → (t : Nat) → d < l.length → (setS l d x)[t]? = if t = d then some x else l[t]?
  | [], d, x, t, h => by simp at h
  | s :: l, 0, x, t, h => by cases t <;> simp [setS]
  | s :: l, d + 1, x, t, h => by
    cases t with
    | zero => simp [setS]
    | succ t => simp [setS, setS_get0 l d x t (by simpa using h)]

theorem spl_length : (xs l : List SV) → (off : Nat) → (spl l off xs).length = l.length
  | [], l, off => rfl
  | x :: xs, l, off => by rw [spl, spl_length xs, setS_len0]

theorem spl_get : (xs l : List SV) → (off : Nat) → off + xs.length ≤ l.length → ∀ t, (spl l off xs)[t]? = if off ≤ t ∧ t < off + xs.length then xs[t - off]? else l[t]?
  | [], l, off, _, t => by rw [spl, if_neg (by simp)]
  | x :: xs, l, off, h, t => by
    simp only [List.length_cons] at h
    rw [spl, spl_get xs _ (off + 1) (by rw [setS_len0]; omega) t]
    by_cases h1 : off + 1 ≤ t ∧ t < off + 1 + xs.length
    · rw [if_pos h1, if_pos (by simp; omega), show t - off = (t - (off + 1)) + 1 from by omega, List.getElem?_cons_succ]
    · rw [if_neg h1, setS_get0 _ _ _ _ (by omega)]
      by_cases h2 : t = off
      · subst h2; simp
      · rw [if_neg h2, if_neg (by simp; omega)]

/-- Zeros. -/
def zeros (z : Array Value) (n : Nat) : Array Value := (Array.range n).map (z[· % z.size]!)

theorem chunks_zeros {α : Type} {R : α → List Value → Prop} {sz : Nat} {z : Array Value} {d : α} (hz : z.size = sz) (hr : R d z.toList) (n m : Nat) (h : n ≤ m) : Chunks R sz (List.replicate n d) (zeros z (m * sz)).toList := fun i x hx => by
  rw [List.getElem?_replicate] at hx
  split at hx
  · rename_i hi
    cases hx
    refine ⟨z.toList, hr, by simpa using hz, fun j v hj => ?_⟩
    have hj' : j < z.size := by have := (List.getElem?_eq_some_iff.1 hj).1; simpa using this
    have hlt : i * sz + j < m * sz := Nat.lt_of_lt_of_le (chunk_lt hi (by omega)) (Nat.mul_le_mul_right _ h)
    have hmod : (i * sz + j) % z.size = j := by rw [hz, Nat.add_comm, Nat.add_mul_mod_self_right]; exact Nat.mod_eq_of_lt (by omega)
    simp only [zeros, Array.getElem?_toList, Array.getElem?_map]
    rw [Array.getElem?_range, if_pos hlt]
    simp only [Option.map_some, hmod]
    simp at hj
    rw [getElem!_pos z j hj']
    rw [Array.getElem?_eq_getElem hj'] at hj
    exact hj
  · cases hx

theorem Rep.here {e : Ty} {d : e.D} {c : List Value} (h : Rep P e (SLend S ρ (getB [])) w d c) : Rep P e S w d c := Rep.fut ⟨fun k hk => by
  rcases hk with hk | ⟨_, _, h1, _⟩
  · exact hk
  · simp [getB, Blk.live] at h1, fun _ _ => rfl⟩ e h

theorem noH : ∀ nm, BlkRel P S w ρ nm (getB [] nm) := fun nm => by simp [getB, BlkRel]

theorem zcells {z : Value} : RelL P S w ρ (flat (ofConst z)) z.cells.toList := by
  unfold ofConst
  split
  · exact ofCells_rel _
  · rename_i hna
    have : flat (ofCell z) = [ofCell z] := by
      unfold ofCell; split <;> rfl
    rw [this]
    have hc : z.cells.toList = [z] := by
      cases z <;> first | rfl | (exact absurd rfl (hna _))
    rw [hc]
    exact relL_mk (ofCell_rel z)

theorem zcells0 {z : Value} : RelL P S w ρ (flat (ofZero z)) z.cells.toList := by
  unfold ofZero
  split
  · split
    · exact ofZCells_rel _
    · exact ofCells_rel _
  · rename_i hna
    have : flat (ofCell z) = [ofCell z] := by
      unfold ofCell; split <;> rfl
    rw [this]
    have hc : z.cells.toList = [z] := by
      cases z <;> first | rfl | (exact absurd rfl (hna _))
    rw [hc]
    exact relL_mk (ofCell_rel z)

theorem zcell_rep {e : Ty} {c : Value} (h : zcell e c = true) : Rep P e S w e.dflt [c] ∧ e.size = 1 := by
  unfold zcell at h
  split at h
  · simp only [Bool.not_eq_true'] at h; subst h; exact ⟨rfl, rfl⟩
  · simp only [Bool.and_eq_true, beq_iff_eq] at h; obtain ⟨rfl, rfl⟩ := h; exact ⟨rfl, rfl⟩
  · cases h

theorem allocq_ok {o : Oper} {a : Act} {t : TypeId} {base : Nat} {q : QR} (hb : Bounded S w) (hbase : ρ base = none) (ho : o.op = .alloc t) (h : allocq P base t = some q) :
    OpOk P o a w (QOut P S w ρ base q) := by
  unfold allocq allocA at h
  split at h
  · rename_i e n he
    cases h
    unfold arrOf at he
    split at he
    · rename_i i n' et hi hd
      split at he
      · rename_i e' cs h1 h2
        split at he
        · rename_i hall
          cases he
          simp only [Bool.and_eq_true, beq_iff_eq, List.all_eq_true] at hall
          obtain ⟨hn, hall⟩ := hall
          obtain ⟨g1, g2, g3, g4, g5, g6⟩ := alloc_facts (w := w) (.cells cs t)
          have hch : Chunks (Rep P e S w) e.size (List.replicate n e.dflt) cs.toList := fun i x hx => by
            rw [List.getElem?_replicate] at hx
            split at hx
            · rename_i hi
              cases hx
              obtain ⟨c, hc⟩ : ∃ c, cs.toList[i]? = some c := ⟨cs.toList[i]'(by simp; omega), by simp⟩
              obtain ⟨r1, r2⟩ := zcell_rep (P := P) (S := S) (w := w) (hall c (List.mem_of_getElem? hc))
              refine ⟨[c], r1, by simp [r2], fun j v hj => ?_⟩
              have hj0 : j = 0 := by have := (List.getElem?_eq_some_iff.1 hj).1; simpa using this
              subst hj0
              simp at hj; subst hj
              rw [r2]; simpa using hc
            · cases hx
          by_cases hz : n = 0
          · subst hz
            have hcs : cs = #[] := by apply Array.ext'; exact List.length_eq_zero_iff.1 (by simpa using hn)
            subst hcs
            obtain ⟨hq, hnm⟩ := newOwn (P := P) (ρ := ρ) (S := S) (cap := 0) (e := e) (xs := List.replicate 0 e.dflt) (cs := []) (fr := (0, 0)) (et := t) hb hbase (by simp) (by simp) (Chunks.nil _) (.inl rfl) (by simpa using g1) g2 g3 g4 g5 g6
            refine OpOk.value (v := .pointer (some ⟨w.heap.size, 0, none⟩)) (w' := w.alloc (.cells #[] t)) ?_ ⟨S, _, hq, by simp only [Rel]; exact ⟨w.heap.size, 0, hnm, rfl⟩⟩
            simp [execOp, ho, Instr.alloc, newVar, newRow, run_zeroValue hi h2, Value.cells]
          · obtain ⟨c0, hc0⟩ : ∃ c, cs.toList[0]? = some c := ⟨cs.toList[0]'(by simp; omega), by simp⟩
            have hsz := (zcell_rep (P := P) (S := S) (w := w) (hall c0 (List.mem_of_getElem? hc0))).2
            obtain ⟨hq, hnm⟩ := newOwn (P := P) (ρ := ρ) (S := S) (cap := n) (e := e) (xs := List.replicate n e.dflt) (cs := cs.toList) (fr := (0, 0)) (et := t) hb hbase (by simp) (by simp [hsz, hn]) hch (.inl rfl) (by simpa using g1) g2 g3 g4 g5 g6
            refine OpOk.value (v := .pointer (some ⟨w.heap.size, 0, none⟩)) (w' := w.alloc (.cells cs t)) ?_ ⟨S, _, hq, by simp only [Rel]; exact ⟨w.heap.size, n, hnm, rfl⟩⟩
            simp [execOp, ho, Instr.alloc, newVar, newRow, run_zeroValue hi h2, Value.cells]
        · cases he
      · cases he
    · cases he
  · split at h
    · rename_i ti hti
      obtain ⟨i, d, h1, h2, rfl⟩ := ti_some hti
      split at h
      · rename_i z hz
        cases h
        simp only at hz
        have hr : RelL P S w ρ (flat (ofZero z)) z.cells.toList := zcells0
        obtain ⟨p1, p2⟩ := newBlock (t := t) hb hbase hr
        refine OpOk.value (v := .pointer (some ⟨w.heap.size, 0, none⟩)) (w' := w.alloc (.cells z.cells t)) ?_ ⟨S, setN ρ base (some w.heap.size, 0), by simpa using p1, by simpa using p2⟩
        simp [execOp, ho, Instr.alloc, newVar, newRow, run_zeroValue h1 hz]
      · cases h
    · cases h

/-- A row of the call's own, new. -/

theorem makeq_ok {o : Oper} {a : Act} {t : TypeId} {l c : Operand} {sl sc : SV} {base : Nat} {q : QR} (hb : Bounded S w) (hbase : ρ base = none) (ho : o.op = .makeSlice t l c) (h : makeq P base t sl sc = some q) (hob : q.ob) (hl : Rel P S w ρ sl (a.eval l)) (hc : Rel P S w ρ sc (a.eval c)) :
    OpOk P o a w (QOut P S w ρ base q) := by
  unfold makeq at h
  split at h
  · rename_i et k1 n k2 m h1
    simp only [Rel] at hl hc
    obtain ⟨_, _, d1, _, _, hd1, e1⟩ := tk_some h1
    have e1' : d1 = .slice et := by cases d1 <;> simp [kindOf] at e1 <;> simp_all
    subst e1'
    unfold makeE at h
    split at h
    · rename_i e he
      cases hti : tiOf P et with
      | none => rw [hti] at h; simp [makeT, zeroD] at h
      | some ti =>
        rw [hti] at h
        obtain ⟨i, d, hi, hd, rfl⟩ := ti_some hti
        unfold makeT at h
        split at h
        · rename_i z0 hz0
          cases h
          simp only [bytesTI] at hob
          obtain ⟨h0, h1, h2⟩ := hob
          unfold zeroD at hz0
          split at hz0
          · rename_i k sz by_ z hzz
            simp only [Option.some.injEq, TI.mk.injEq] at hzz
            obtain ⟨_, rfl, rfl, hz⟩ := hzz
            split at hz0
            · rename_i hsz
              have hrep := (toD_rep (P := P) (ρ := ρ) (w := w) (S := S) noH (fun _ _ _ _ _ => no1_rep _ _ _ _ _) (fun _ _ _ _ _ _ => no2_rep _ _ _ _ _ _) e hz0 zcells).here
              have hzl : z.cells.size = e.size := by have := hrep.length; simpa using this
              have hby : m.toNat * i.bytes ≤ 140737488355328 := Nat.le_trans (Nat.mul_le_mul_left _ (Nat.le_succ _)) h2
              have hm : m.toNat ≤ 140737488355328 := Nat.le_trans (Nat.le_mul_of_pos_right _ (Nat.succ_pos _)) h2
              have hwn : IntKind.i64.wrap n = n := by rw [IntKind.wrap_i64]; omega
              have hwm : IntKind.i64.wrap m = m := by rw [IntKind.wrap_i64]; omega
              have hbe : (i.bytes : Int) * m = ((m.toNat * i.bytes : Nat) : Int) := by rw [Int.natCast_mul, Int.toNat_of_nonneg (by omega), Int.mul_comm]
              have hbm : (i.bytes : Int) * m ≤ 140737488355328 := by rw [hbe]; omega
              have e0 : Array.range 0 = #[] := rfl
              have hzs : (if m.toNat * i.size = 0 then (#[] : Array Value) else z.cells) = if m.toNat * i.size = 0 then #[] else z.cells := rfl
              have hrun : (execOp a.eval o).run P w = .ok (.value (.slice (some ⟨w.heap.size, 0, none⟩) n.toNat m.toNat)) (w.alloc (.cells (zeros z.cells (m.toNat * e.size)) et)) := by
                have hnb : ¬ (281474976710656 < (i.bytes : Int) * m) := by omega
                have hnr : ¬ (140737488355328 < m.toNat * i.bytes) := by omega
                have hm0 : ¬ m < 0 := by omega
                have hn0 : ¬ n < 0 := by omega
                have hmn : ¬ m < n := by omega
                by_cases hz0 : m.toNat * i.size = 0
                · have hz1 : m.toNat * e.size = 0 := by rw [← hsz]; exact hz0
                  simp [execOp, ho, Instr.makeSlice, hl, hc, run_underlying hd1, asInt, asIntOf, typeInfo, sizeOf, hi, hwn, hwm, hnb, hm0, hn0, hmn, askRoom, roomBytes, hnr, newRow, hz0, hz1, zeros, e0]
                · have hz0' : ¬ m.toNat * e.size = 0 := by rw [← hsz]; exact hz0
                  clear hzs
                  simp [execOp, ho, Instr.makeSlice, hl, hc, run_underlying hd1, asInt, asIntOf, typeInfo, sizeOf, zeroValue, hi, hz, hwn, hwm, hnb, hm0, hn0, hmn, askRoom, roomBytes, hnr, newRow, hz0', zeros, hsz]
              obtain ⟨g1, g2, g3, g4, g5, g6⟩ := alloc_facts (w := w) (.cells (zeros z.cells (m.toNat * e.size)) et)
              obtain ⟨hq, hn⟩ := newOwn (P := P) (ρ := ρ) (cap := m.toNat) (xs := List.replicate n.toNat z0) (cs := (zeros z.cells (m.toNat * e.size)).toList) (fr := (0, 0)) (et := et) hb hbase (by simp; omega) (by simp [zeros]) (chunks_zeros hzl hrep n.toNat m.toNat (by omega)) (.inl rfl) (by simpa using g1) g2 g3 g4 g5 g6
              exact OpOk.value hrun ⟨S, _, hq, by simp only [Rel]; exact ⟨some w.heap.size, m.toNat, _, hn, rfl, rfl⟩⟩
            · cases hz0
          · cases hz0
        · cases h
    · cases h
  · cases h

theorem repV_cells {e : Ty} {y : e.D} {v : Value} (h : RepV P e S w y v) : ∃ c : List Value, v.cells = c.toArray ∧ Rep P e S w y c := by
  unfold RepV valueOf at h
  split at h
  · obtain ⟨c, hc, hr⟩ := h
    exact ⟨c, by rw [hc]; rfl, hr⟩
  · refine ⟨[v], ?_, h⟩
    have h1 := Rep.one e h v (by simp)
    cases hv2 : v <;> first | rfl | (rw [hv2] at h1; simp [Value.oneCell'] at h1)

theorem RepV.here {e : Ty} {d : e.D} {v : Value} (h : RepV P e (SLend S ρ (getB [])) w d v) : RepV P e S w d v := valueOf.mono (fun _ hr => Rep.here hr) h

theorem parts_ok {slots : List SV} {a : Act} {e : Ty} : (l : List (Nat × Operand)) → (∀ p ∈ l, Rel P S w ρ (evS slots p.2) (a.eval p.2)) → (k : Nat) → (xs : List e.D) → partsD e k (l.map fun p => (p.1, evS slots p.2)) = some xs →
    l.map (fun p => (p.1, a.eval p.2)) = ((l.map fun p => a.eval p.2).zipIdx k).map (fun x => (x.2, x.1)) ∧ (∀ v ∈ l.map (fun p => a.eval p.2), v.cells.size = e.size) ∧ Chunks (Rep P e S w) e.size xs ((l.map fun p => a.eval p.2).flatMap fun v => v.cells.toList) ∧
    ((l.map fun p => a.eval p.2).flatMap fun v => v.cells.toList).length = l.length * e.size ∧ List.length xs = l.length
  | [], _, k, xs, h => by
    simp only [List.map_nil, partsD, Option.some.injEq] at h
    subst h
    exact ⟨rfl, by simp, Chunks.nil _, by simp, rfl⟩
  | (j, x) :: l, hl, k, xs, h => by
    simp only [List.map_cons, partsD] at h
    split at h
    · rename_i hj
      subst hj
      simp only [Option.map_eq_some_iff] at h
      obtain ⟨⟨y, ys⟩, h, rfl⟩ := h
      obtain ⟨h1, h2⟩ := both_some h
      simp only at h1 h2
      have hx := hl (j, x) (by simp)
      have hr := (toDV_repV (P := P) (S := S) (w := w) (ρ := ρ) noH (fun _ _ _ _ _ => no1_rep _ _ _ _ _) (fun _ _ _ _ _ _ => no2_rep _ _ _ _ _ _) h1 hx).here
      obtain ⟨c, hc, hrep⟩ := repV_cells hr
      have hcl := hrep.length
      obtain ⟨g1, g2, g3, g4, g5⟩ := parts_ok l (fun p hp => hl p (by simp [hp])) (j + 1) ys h2
      refine ⟨by simp only [List.map_cons, List.zipIdx_cons]; rw [g1], fun v hv => ?_, ?_, ?_, by simp [g5]⟩
      · simp only [List.map_cons, List.mem_cons] at hv
        rcases hv with rfl | hv
        · rw [hc]; simpa using hcl
        · exact g2 v hv
      · simp only [List.map_cons, List.flatMap_cons, hc]
        have := (Chunks.one (R := Rep P e S w) hrep hcl).append (by simpa using hcl) g3
        simpa using this
      · simp only [List.map_cons, List.flatMap_cons, List.length_append, g4, List.length_cons, hc]
        simp only [hcl, Nat.add_mul]
        omega
    · cases h

theorem tiSz_some {et : TypeId} {n : Nat} (h : tiSz (tiOf P et) = some n) : ∃ i z, P.info? et = some i ∧ i.size = n ∧ i.zero = some z := by
  cases ht : tiOf P et with
  | none => rw [ht] at h; simp [tiSz] at h
  | some ti =>
    rw [ht] at h
    obtain ⟨i, d, h1, h2, rfl⟩ := ti_some ht
    cases hz : i.zero with
    | none => rw [hz] at h; simp [tiSz] at h
    | some z => rw [hz] at h; simp [tiSz] at h; exact ⟨i, z, h1, h, hz⟩

theorem buildSq_ok {o : Oper} {a : Act} {t : TypeId} {len : Nat} {parts : Array (Nat × Operand)} {slots : List SV} {base : Nat} {q : QR} (hb : Bounded S w) (hbase : ρ base = none) (ho : o.op = .buildSlice t len parts)
    (h : buildSq P base t len (parts.toList.map fun p => (p.1, evS slots p.2)) = some q) (hs : ∀ p ∈ parts.toList, Rel P S w ρ (evS slots p.2) (a.eval p.2)) : OpOk P o a w (QOut P S w ρ base q) := by
  unfold buildSq at h
  split at h
  · rename_i et h1
    obtain ⟨_, _, d1, _, _, hd1, e1⟩ := tk_some h1
    have e1' : d1 = .slice et := by cases d1 <;> simp [kindOf] at e1 <;> simp_all
    subst e1'
    unfold buildE at h
    split at h
    · rename_i e he
      cases hp : parts.toList with
      | nil =>
        rw [hp] at h
        simp only [List.map_nil] at h
        split at h
        · rename_i hh
          obtain ⟨rfl, hsz⟩ := hh
          cases h
          obtain ⟨inf, z, hinf, hsz, _⟩ := tiSz_some hsz
          have hp' : parts = #[] := by apply Array.ext'; simpa using hp
          obtain ⟨g1, g2, g3, g4, g5, g6⟩ := alloc_facts (w := w) (.cells #[] et)
          have hext : Ext S w S (w.alloc (.cells #[] et)) := ⟨fun _ h => h, Nat.le_of_lt g3, g2, g4, g5, g6, fun _ h => .inl h, fun k hk => Nat.lt_trans (hb.lt k hk) g3⟩
          have e0 : Array.range 0 = #[] := rfl
          refine OpOk.value (v := .slice (some ⟨w.heap.size, 0, none⟩) 0 0) ?_ ⟨S, ρ, ⟨hext, Keep.refl ρ, fun _ _ => rfl, fun _ => rfl, fun _ h => by cases h⟩, by simp only [Rel]; exact ⟨_, rfl⟩⟩
          simp [execOp, ho, hp', Instr.buildSlice, run_underlying hd1, run_sizeOf hinf, Instr.fill, newRow, e0]
        · cases h
      | cons p0 ps =>
        rw [hp] at h
        simp only [List.map_cons] at h
        rw [← List.map_cons (f := fun p : Nat × Operand => (p.1, evS slots p.2)), ← hp] at h
        unfold buildB at h
        split at h
        · rename_i xs hxs
          split at h
          · rename_i hh
            obtain ⟨hlen, hbig, hsz, hpos⟩ := hh
            cases h
            simp only [List.length_map] at hlen
            obtain ⟨inf, z, hinf, hsz, hzz⟩ := tiSz_some hsz
            obtain ⟨g1, g2, g3, g4, g5⟩ := parts_ok parts.toList hs 0 xs hxs
            have hne : ¬ (len * e.size = 0) := Nat.mul_ne_zero (by rw [← hlen, hp]; simp) (by omega)
            have hf := Go.Great.fill_whole hpos (parts.toList.map fun p => a.eval p.2) ((Array.range (len * e.size)).map (z.cells[· % z.cells.size]!)) g2 (by simp [hlen])
            have hg1 : (parts.map fun p => (p.1, a.eval p.2)).toList = ((parts.toList.map fun p => a.eval p.2).zipIdx 0).map fun x => (x.2, x.1) := by rw [← g1]; simp
            rw [← hg1] at hf
            simp only [Array.toList_map] at hf
            obtain ⟨cs, hcs⟩ : ∃ cs, cs = (parts.toList.map fun p => a.eval p.2).flatMap fun v => v.cells.toList := ⟨_, rfl⟩
            rw [← hcs] at hf g3 g4
            have hrun : (execOp a.eval o).run P w = .ok (.value (.slice (some ⟨w.heap.size, 0, none⟩) len len)) (w.alloc (.cells cs.toArray et)) := by
              have hnb : ¬ (16777216 < len * e.size) := by omega
              simp only [execOp, ho, Instr.buildSlice, Sem.run_bind, run_underlying hd1, Result.andThen_ok, run_sizeOf hinf, hsz]
              simp [hnb, hne, run_zeroValue hinf hzz, hf, newRow]
            obtain ⟨k1, k2, k3, k4, k5, k6⟩ := alloc_facts (w := w) (.cells cs.toArray et)
            have hxl : List.length xs = len := by rw [g5]; exact hlen
            let S' : Nat → Prop := fun k => S k ∨ k = w.heap.size
            have hext : Ext S w S' (w.alloc (.cells cs.toArray et)) := ⟨fun k hk => .inl hk, Nat.le_of_lt k3, k2, k4, k5, k6, fun k hk => hk.imp id fun e => by omega, fun k hk => by
              rcases hk with hk | rfl
              · exact Nat.lt_trans (hb.lt k hk) k3
              · exact k3⟩
            refine OpOk.value hrun ⟨S', ρ, ⟨hext, Keep.refl ρ, fun _ _ => rfl, fun _ => rfl, fun _ h => by cases h⟩, ?_⟩
            simp only [Rel]
            rw [hxl]
            refine ⟨⟨_, rfl⟩, ⟨some ⟨w.heap.size, 0, none⟩, len, by rw [hxl], ⟨by omega, fun _ => ⟨⟨w.heap.size, 0, none⟩, rfl, rfl, .inr rfl, fun i x hx => ?_⟩⟩⟩⟩
            obtain ⟨c, r1, r2, r3⟩ := g3 i x hx
            refine ⟨c, Rep.fut (hext.fut hb) e r1, r2, fun j v hj => ?_⟩
            simp only [Nat.zero_add]
            rw [cell_of k1]
            exact r3 j v hj
          · cases h
        · cases h
    · cases h
  · cases h

theorem fill_rel {fs : List (Nat × TypeId)} {places : Array (Nat × Nat)} (hp : ∀ (i : Nat) off ft n, fs[i]? = some (off, ft) → sizeP P ft = some n → places[i]? = some (off, n)) {slots : List SV} {a : Act} :
    (l : List (Nat × Operand)) → (∀ p ∈ l, Rel P S w ρ (evS slots p.2) (a.eval p.2)) → (m m' : List SV) → (cells : Array Value) → RelL P S w ρ m cells.toList → fillS P fs m (l.map fun p => (p.1, evS slots p.2)) = some m' →
    ∃ cells', Instr.fill (fun i => places[i]?) cells (l.map fun p => (p.1, a.eval p.2)) = some cells' ∧ RelL P S w ρ m' cells'.toList
  | [], _, m, m', cells, hm, h => by
    simp only [List.map_nil, fillS, Option.some.injEq] at h
    subst h
    exact ⟨cells, rfl, hm⟩
  | (j, x) :: l, hl, m, m', cells, hm, h => by
    simp only [List.map_cons, fillS] at h
    split at h
    · rename_i off ft hfs
      split at h
      · rename_i hh
        obtain ⟨hok, hsz, hle⟩ := hh
        have hx := hl (j, x) (by simp)
        have hfl := flat_rel hx (by intro e; simp only at e; rw [e] at hok; simp [okFlat] at hok) (by intro u e; simp only at e; rw [e] at hok; simp [okFlat] at hok) (by intro u v e; simp only at e; rw [e] at hok; simp [okFlat] at hok)
        simp only at hfl
        have hcl := hfl.length
        have hml := hm.length
        obtain ⟨g1, g2⟩ := Go.Great.foldl_set off (a.eval x).cells.toList 0 cells
        have hm2 : RelL P S w ρ (spl m off (flat (evS slots x))) ((((a.eval x).cells.toList.zipIdx 0).foldl (fun cs (y : Value × Nat) => cs.setIfInBounds (off + y.2) y.1) cells)).toList := by
          refine RelL.of_get (by rw [spl_length, Array.length_toList, g1, ← hml, Array.length_toList]) fun i s v h1 h2 => ?_
          rw [spl_get _ _ _ hle] at h1
          rw [Array.getElem?_toList, g2] at h2
          have hcs : cells.size = m.length := by rw [← hml, Array.length_toList]
          by_cases hin : off ≤ i ∧ i < off + (flat (evS slots x)).length
          · rw [if_pos hin] at h1
            rw [if_pos ⟨by omega, by rw [hcl]; omega, by omega⟩] at h2
            obtain ⟨v', h3, h4⟩ := hfl.get _ _ h1
            rw [Nat.add_zero] at h2
            rw [h3] at h2
            cases h2
            exact h4
          · rw [if_neg hin] at h1
            rw [if_neg (by rw [hcl]; omega)] at h2
            obtain ⟨v', h3, h4⟩ := hm.get _ _ h1
            rw [Array.getElem?_toList, h2] at h3
            cases h3
            exact h4
        obtain ⟨cells', r1, r2⟩ := fill_rel hp l (fun p hp => hl p (by simp [hp])) _ m' _ hm2 h
        refine ⟨cells', ?_, r2⟩
        simp only [List.map_cons]
        unfold Instr.fill
        have hcl' : (a.eval x).cells.size = (flat (evS slots x)).length := by rw [← hcl]; simp
        have hcs : cells.size = m.length := by rw [← hml, Array.length_toList]
        rw [hp j off ft _ hfs hsz]
        simp only
        rw [if_neg (by simp [hcl', hcs]; omega)]
        rw [← r1, ← Array.foldl_toList, Array.toList_zipIdx]
      · cases h
    · cases h

theorem buildT_ok {o : Oper} {a : Act} {t : TypeId} {parts : Array (Nat × Operand)} {slots : List SV} {base : Nat} {q : QR} (hb : Bounded S w) (ho : o.op = .build t parts)
    (h : buildT P (parts.toList.map fun p => (p.1, evS slots p.2)) (tiOf P t) = some q) (hs : ∀ p ∈ parts.toList, Rel P S w ρ (evS slots p.2) (a.eval p.2)) : OpOk P o a w (QOut P S w ρ base q) := by
  cases hti : tiOf P t with
  | none => rw [hti] at h; simp [buildT] at h
  | some ti =>
    rw [hti] at h
    obtain ⟨i, d, hi, hd, rfl⟩ := ti_some hti
    unfold buildT at h
    split at h
    · rename_i fs sz by_ z hzz
      simp only [Option.some.injEq, TI.mk.injEq] at hzz
      obtain ⟨hk, rfl, rfl, hz⟩ := hzz
      split at h
      · rename_i hall
        simp only [Option.map_eq_some_iff] at h
        obtain ⟨m, hm, rfl⟩ := h
        obtain ⟨fs', rfl, rfl⟩ : ∃ fs' : Array Field, d = .struct fs' ∧ fs = fs'.toList.map fun f => (f.offset, f.type) := by
          cases d <;> simp [kindOf] at hk
          exact ⟨_, rfl, hk.symm⟩
        rw [List.all_eq_true] at hall
        have hinfo : ∀ f ∈ fs'.toList, ∃ n, sizeP P f.type = some n := fun f hf => by
          have := hall (f.offset, f.type) (List.mem_map.2 ⟨f, hf, rfl⟩)
          exact Option.isSome_iff_exists.1 this
        have hmap : (fs'.mapM fun f => (do pure (f.offset, ← sizeOf f.type) : Sem (Nat × Nat))).run P w = .ok (fs'.map fun f => (f.offset, (sizeP P f.type).getD 0)) w := by
          have key : ∀ l : List Field, (∀ f ∈ l, ∃ n, sizeP P f.type = some n) → (l.mapM fun f => (do pure (f.offset, ← sizeOf f.type) : Sem (Nat × Nat))).run P w = .ok (l.map fun f => (f.offset, (sizeP P f.type).getD 0)) w := by
            intro l
            induction l with
            | nil => intro _; simp
            | cons f l ih =>
              intro hl
              obtain ⟨n, hn⟩ := hl f (by simp)
              obtain ⟨inf, hinf, hsz⟩ := sz_some hn
              simp only [List.mapM_cons, Sem.run_bind, run_sizeOf hinf, Result.andThen_ok, Sem.run_pure, ih fun g hg => hl g (by simp [hg]), List.map_cons, hn, Option.getD_some, hsz]
          obtain ⟨fl⟩ := fs'
          simp only [List.mapM_toArray, Sem.run_map, key fl hinfo]
          simp
        obtain ⟨cells', r1, r2⟩ := fill_rel (P := P) (S := S) (w := w) (ρ := ρ) (places := fs'.map fun f => (f.offset, (sizeP P f.type).getD 0)) (fun i off ft n h1 h2 => by
          rw [List.getElem?_map, Option.map_eq_some_iff] at h1
          obtain ⟨f, hf, he⟩ := h1
          cases he
          rw [Array.getElem?_toList] at hf
          simp [hf, h2]) parts.toList hs _ _ _ zcells0 hm
        refine OpOk.value (v := .agg cells') (w' := w) ?_ ⟨S, ρ, QPost.same base hb, by simp only [Rel]; exact ⟨cells'.toList, by simp, r2⟩⟩
        simp only [execOp, ho, Instr.build, Sem.run_bind, run_zeroValue hi hz, Result.andThen_ok, run_underlying hd, hmap]
        simp only [Array.getElem?_map] at r1
        simp [r1]
      · cases h
    · cases h

theorem convq_ok {o : Oper} {a : Act} {H : List Blk} {src dst : TypeId} {x : Operand} {s : SV} {base : Nat} {q : QR} (hb : Bounded S w) (hg : ∀ nm, BlkRel P S w ρ nm (getB H nm)) (hbase : ρ base = none) (ho : o.op = .convert src dst x) (h : convq P H base src dst s = some q) (hob : q.ob) (hx : Rel P S w ρ s (a.eval x)) :
    OpOk P o a w (QOut P S w ρ base q) := by
  have hex : ∀ v w', (convert src dst (a.eval x)).run P w = .ok v w' → (execOp a.eval o).run P w = .ok (.value v) w' := fun v w' hr => by simp [execOp, ho, hr]
  unfold convq at h
  split at h
  · rename_i k0 k kv n h1 h2
    cases h
    simp only [Rel] at hx
    obtain ⟨_, _, d1, _, _, hd1, e1⟩ := tk_some h1
    obtain ⟨_, _, d2, _, _, hd2, e2⟩ := tk_some h2
    have e2' : d2 = .int k := by cases d2 <;> simp [kindOf] at e2 <;> simp_all
    subst e2'
    refine OpOk.value (v := .int k (k.wrap n)) (w' := w) (hex _ _ ?_) ⟨S, ρ, QPost.same base hb, by simp only [Rel]⟩
    simp [hx, convert, run_underlying hd1, run_underlying hd2, Conv.intToInt]
  · rename_i s h1 h2
    cases h
    simp only [Rel] at hx
    obtain ⟨_, _, d1, _, _, hd1, e1⟩ := tk_some h1
    obtain ⟨_, _, d2, _, _, hd2, e2⟩ := tk_some h2
    have e2' : d2 = .string := by cases d2 <;> simp [kindOf] at e2 <;> simp_all
    have e1' : d1 = .string := by cases d1 <;> simp [kindOf] at e1 <;> simp_all
    subst e2'; subst e1'
    refine OpOk.value (v := mkStr s) (w' := w) (hex _ _ ?_) ⟨S, ρ, QPost.same base hb, by simp only [Rel]⟩
    simp [hx, convert, mkStr, run_underlying hd1, run_underlying hd2]
  · rename_i et s h1 h2
    simp only [Rel] at hx
    obtain ⟨_, _, d1, _, _, hd1, e1⟩ := tk_some h1
    obtain ⟨_, _, d2, _, _, hd2, e2⟩ := tk_some h2
    have e2' : d2 = .slice et := by cases d2 <;> simp [kindOf] at e2 <;> simp_all
    have e1' : d1 = .string := by cases d1 <;> simp [kindOf] at e1 <;> simp_all
    subst e2'; subst e1'
    unfold bytesQ at h
    split at h
    · rename_i h3
      cases h
      obtain ⟨_, _, d3, _, _, hd3, e3⟩ := tk_some h3
      have e3' : d3 = .int .u8 := by cases d3 <;> simp [kindOf] at e3 <;> simp_all
      subst e3'
      have hrun := Lib.run_convert_string_bytes (P := P) w src dst et ⟨s.toArray⟩ hd1 hd2 hd3
      have hsz := mkStr_size s
      have hge := grownCap_ge w s.length 0 et
      rw [hsz] at hrun
      have hcells : (Lib.bytesCells w et ⟨s.toArray⟩).size = grownCap w s.length 0 et := by
        simp only [Lib.bytesCells, Array.size_append, Array.size_map, Array.size_replicate, hsz, List.size_toArray]; omega
      have hnew := Lib.bytesWorld_at_new w et ⟨s.toArray⟩
      have hch : Chunks (Rep P (.int .u8) S w) (Ty.int .u8).size (s.map fun b => (b.toNat : Int)) (Lib.bytesCells w et ⟨s.toArray⟩).toList := by
        have := (chunks_map0 (R := Rep P (.int .u8) S w) (fun b : UInt8 => (b.toNat : Int)) (fun b => Value.int .u8 b.toNat) rfl (fun a => by simp only [Rep]) s).more (Array.replicate (grownCap w s.length 0 et - s.length) (Value.int .u8 0)).toList
        simpa [Lib.bytesCells, hsz, Ty.size] using this
      obtain ⟨hq, hn⟩ := newOwn (P := P) (ρ := ρ) (S := S) (e := .int .u8) (cap := grownCap w s.length 0 et) (xs := s.map fun b => (b.toNat : Int)) (cs := (Lib.bytesCells w et ⟨s.toArray⟩).toList) (fr := ((Lib.bytesCells w et ⟨s.toArray⟩).size, (Lib.bytesCells w et ⟨s.toArray⟩).size + 1)) (et := et) (w' := Lib.bytesWorld w et ⟨s.toArray⟩) hb hbase (by simpa using hge) (by simp [Ty.size, hcells]) hch (.inr (by simp)) (by simpa using hnew) (fun k hk => Lib.bytesWorld_at_old w et _ k hk) (by rw [Lib.bytesWorld_size]; omega) rfl rfl rfl
      refine OpOk.value (hex _ _ (by rw [hx]; exact hrun)) ⟨S, _, hq, ?_⟩
      simp only [Rel]
      exact ⟨some w.heap.size, _, _, hn, rfl, rfl⟩
    · cases h
  · rename_i et h1 h2
    obtain ⟨_, _, d1, _, _, hd1, e1⟩ := tk_some h1
    obtain ⟨_, _, d2, _, _, hd2, e2⟩ := tk_some h2
    have e1' : d1 = .slice et := by cases d1 <;> simp [kindOf] at e1 <;> simp_all
    have e2' : d2 = .string := by cases d2 <;> simp [kindOf] at e2 <;> simp_all
    subst e2'; subst e1'
    unfold textQ at h
    split at h
    · rename_i ns h3 h4
      cases h
      obtain ⟨_, _, d3, _, _, hd3, e3⟩ := tk_some h3
      have e3' : d3 = .int .u8 := by cases d3 <;> simp [kindOf] at e3 <;> simp_all
      subst e3'
      obtain ⟨A, cap, e4, hsl⟩ := toSl_rep hg h4 hx
      have e4 : a.eval x = .slice A (List.length ns) cap := by simpa using e4
      obtain ⟨cs, g1, g2, g3, g4⟩ := hsl.cells (fun _ _ hr => hr.length) (fun _ _ hr => Rep.one _ hr)
      have hcs : cs = ns.map (Value.int .u8) := by
        apply List.ext_getElem?
        intro i
        cases hn : (ns : List Int)[i]? with
        | none =>
          have : ns.length ≤ i := List.getElem?_eq_none_iff.1 hn
          rw [List.getElem?_eq_none (by rw [g1]; simp [Ty.size]; exact this), List.getElem?_eq_none (by simpa using this)]
        | some n =>
          obtain ⟨c, r1, r2, r3⟩ := g2 i n hn
          simp only [Rep] at r1
          subst r1
          have := r3 0 (Value.int .u8 n) (by simp)
          simp only [Ty.size, Nat.mul_one, Nat.add_zero] at this
          rw [this]
          simp [hn]
      refine OpOk.value (v := mkStr (ns.map fun n => UInt8.ofNat n.toNat)) (w' := w) (hex _ _ ?_) ⟨S, ρ, QPost.same base hb, by simp only [Rel]⟩
      rw [e4, run_convert_bytes_string w src dst et A _ cap hd1 hd3 hd2]
      rcases g4 with ⟨h5, h6⟩ | ⟨ad, rfl, h5⟩
      · subst h5
        cases A with
        | none => simp [Conv.bytesToString, mkStr]; rfl
        | some ad =>
          rw [run_bytesToString w ad _ cap [] (by simpa using run_loadCells_list (P := P) w ad [] (by simp))]
          rfl
      · rw [run_bytesToString w ad _ cap ns (by
          have := run_loadCells_list (P := P) w ad cs h5
          rw [g1] at this
          simpa [Ty.size, hcs] using this)]
        have key : ∀ (l : List Int) (b : ByteArray), l.foldl (fun r n => r.push (UInt8.ofNat n.toNat)) b = ⟨b.data ++ (l.map fun n => UInt8.ofNat n.toNat).toArray⟩ := by
          intro l
          induction l with
          | nil => intro b; simp
          | cons n l ih => intro b; rw [List.foldl_cons, ih]; simp [ByteArray.push]
        rw [key]
        simp [mkStr]
    · cases h
  · rename_i e nm off h1 h2
    obtain ⟨_, _, d1, _, _, hd1, e1⟩ := tk_some h1
    have e1' : d1 = .pointer e := by cases d1 <;> simp [kindOf] at e1 <;> simp_all
    subst e1'
    simp only [Rel] at hx
    obtain ⟨b, cap, hb1, hxv⟩ := hx
    unfold convU at h
    split at h
    · rename_i n hun hsz
      have hd2 : P.underlying dst = some .unsafePointer := by
        unfold isUnsafe at hun
        split at hun
        · assumption
        · cases hun
      obtain ⟨inf, hinf, hsz⟩ := sz_some hsz
      unfold convB at h
      split at h
      · rename_i l t hl
        cases h
        simp only at hob
        have hblk := hg nm
        rw [hl] at hblk
        obtain ⟨b', cap', hb', cs, hh, hrl⟩ := hblk
        rw [hb1] at hb'; cases hb'
        obtain ⟨v, hv1, hv2⟩ := hrl.get' hob
        have hc : w.cell? ⟨b, off, none⟩ = some v := by rw [cell_of hh]; exact hv1
        refine OpOk.value (v := .pointer (some ⟨b, off, none⟩)) (w' := w) (hex _ _ ?_) ⟨S, ρ, QPost.same base hb, by simp only [Rel]; exact ⟨b, cap, hb1, rfl⟩⟩
        rw [hxv]
        exact run_convert_to_unsafe hd1 hd2 (by rw [hinf]; simp [hsz]) hc
      · cases h
    · cases h
  · cases h

theorem rangeq_ok {o : Oper} {a : Act} {t : TypeId} {x : Operand} {s : SV} {base : Nat} {q : QR} (hb : Bounded S w) (hbase : ρ base = none) (ho : o.op = .range t x) (h : rangeq P base t s = some q) (hx : Rel P S w ρ s (a.eval x)) : OpOk P o a w (QOut P S w ρ base q) := by
  unfold rangeq at h
  split at h
  · rename_i s h1
    cases h
    simp only [Rel] at hx
    obtain ⟨_, _, d1, _, _, hd1, e1⟩ := tk_some h1
    have e1' : d1 = .string := by cases d1 <;> simp [kindOf] at e1 <;> simp_all
    subst e1'
    obtain ⟨g1, g2, g3, g4, g5, g6⟩ := alloc_facts (w := w) (.stringIter ⟨s.toArray⟩ 0)
    have hn : setN ρ base (some w.heap.size, 0) base = some (some w.heap.size, 0) := by simp [setN]
    refine OpOk.value (v := .pointer (some ⟨w.heap.size, 0, none⟩)) (w' := w.alloc (.stringIter ⟨s.toArray⟩ 0)) ?_ ⟨S, setN ρ base (some w.heap.size, 0), ⟨ext_alloc hb _, setN_keep hbase, fun k hk => by simp [setN, hk], fun h => (by cases h), fun blk h => ?_⟩, by simp only [Rel]; exact ⟨_, _, hn, rfl⟩⟩
    · simp [execOp, ho, hx, mkStr, Instr.range, run_underlying hd1]
    · cases h
      refine ⟨⟨w.heap.size, 0, hn, g1⟩, fun b cap he => ?_⟩
      rw [hn] at he
      cases he
      exact ⟨Nat.le_refl _, g3, fun h => by have := hb.lt _ h; omega⟩
  · cases h

/-- What the executor knows: the slots, and the call's own blocks. -/
structure St where
  slots : List SV
  H : List Blk

/-- Where a call began. -/
structure Cx where
  S0 : Nat → Prop
  ρ0 : Names
  H0 : List Blk
  w0 : World
  D : List Deferred

def Cx.Own (cx : Cx) (k : Nat) : Prop := ∃ nm cap, (getB cx.H0 nm).live = true ∧ cx.ρ0 nm = some (some k, cap)

def Blk.isOwn : Blk → Bool
  | .own _ _ _ => true
  | _ => false

/-- Since the call began nothing old has turned but what was handed to it. -/
structure Since (cx : Cx) (S : Nat → Prop) (ρ : Names) (h : Nat → Blk) (w : World) : Prop where
  sub : ∀ k, cx.S0 k → S k
  size : cx.w0.heap.size ≤ w.heap.size
  os : w.os = cx.w0.os
  tape : w.tape = cx.w0.tape
  output : w.output = cx.w0.output
  old : ∀ k, k < cx.w0.heap.size → ¬ cx.Own k → w.heap[k]? = cx.w0.heap[k]?
  own : ∀ nm b cap, (h nm).live = true → ρ nm = some (some b, cap) → cx.Own b ∨ cx.w0.heap.size ≤ b
  pers : ∀ k, S k → cx.S0 k ∨ cx.Own k ∨ cx.w0.heap.size ≤ k
  names : ∀ nm, nm < cx.H0.length → (getB cx.H0 nm).isOwn = false → ρ nm = cx.ρ0 nm
  ownH : ∀ nm, (h nm).isOwn = true → nm < cx.H0.length → (getB cx.H0 nm).isOwn = true

/-- The state tells what is there. -/
structure Holds (P : Program) (cx : Cx) (σ : St) (a : Act) (w : World) (S : Nat → Prop) (ρ : Names) : Prop where
  good : Good P S ρ (getB σ.H) w
  slots : SlotsR P S w ρ σ.slots a
  since : Since cx S ρ (getB σ.H) w
  fresh : ∀ nm, σ.H.length ≤ nm → ρ nm = none
  len : cx.H0.length ≤ σ.H.length
  defers : a.defers = cx.D

/-- A predicate transformer tells truly what a call does. -/
def WOk (P : Program) (f : FuncId) (W : WP) : Prop :=
  ∀ cx w S ρ H args vs K, Holds P cx ⟨[], H⟩ ⟨#[], []⟩ w S ρ → RelL P S w ρ args vs → W args H K →
    Calls P f vs.toArray w fun e w' => ∃ r rv H' S' ρ', e = .returned r ∧ Rel P S' w' ρ' rv r ∧ K rv H' ∧ Holds P cx ⟨[], H'⟩ ⟨#[], []⟩ w' S' ρ'

/-- The same, of a function of the model's own. -/
def NWOk (P : Program) (f : FuncId) (W : WP) : Prop :=
  ∀ cx w S ρ H args vs K, Holds P cx ⟨[], H⟩ ⟨#[], []⟩ w S ρ → RelL P S w ρ args vs → W args H K →
    ∃ r w' rv H' S' ρ', (callFunc f vs.toArray).run P w = .ok (.value r) w' ∧ Rel P S' w' ρ' rv r ∧ K rv H' ∧ Holds P cx ⟨[], H'⟩ ⟨#[], []⟩ w' S' ρ'

/-- A function of the model's own: it runs at once. -/
def NatOk (P : Program) (f : FuncId) (tf : TF) : Prop :=
  ∀ S w, Bounded S w → ∀ x vs, ArgsRep P tf.doms S w x vs → tf.ob x → ∃ S' w' r, (callFunc f vs.toArray).run P w = .ok (.value r) w' ∧ ResOk P tf.own tf.cods S' w w' (tf.fn x) r ∧ Ext S w S' w'

/-- The contracts of a table hold. -/
def TblOk (P : Program) (tbl : List (FuncId × TF)) : Prop := ∀ f tf, tlook tbl f = some tf → match tf.eff with
  | none => (TFOk P f tf ∧ Enters P f) ∨ (tf.nat = true ∧ NatOk P f tf)
  | some ef => match ef.wp with
    | none => EFOk P f ef ∧ Enters P f
    | some W => (WOk P f W ∧ Enters P f) ∨ NWOk P f W

theorem run_invoke {f : FuncId} {args caps : Array Value} (h : Enters P f) : (invoke (.fn (.func f) caps) args).run P w = .ok (.enter f (args ++ caps)) w := by
  obtain ⟨fn, hf, hb, hn⟩ := h
  have hb' : fn.body ≠ none := by intro e; simp [e] at hb
  have hn' : fn.name ≠ "runtime.NumGoroutine" := by simpa using hn
  simp [invoke, callFunc, hf, hn', hb']

theorem resRep_one {c : Ty} {x : Args [c]} {r : Value} (h : ResRep P [c] S w x r) : RepV P c S w x.1 r := by
  obtain ⟨vs, ⟨v, vs', rfl, h1, h2⟩, rfl⟩ := h
  simp only [ArgsRep] at h2
  subst h2
  exact h1

theorem ResRep.anywhere {S' : Nat → Prop} {w' : World} {ts : List Ty} (ht : scalL ts = true) {x : Args ts} {v : Value} (h : ResRep P ts S w x v) : ResRep P ts S' w' x v := by
  obtain ⟨vs, h1, h2⟩ := h
  exact ⟨vs, h1.anywhere ts ht, h2⟩

section
variable {tbl : List (FuncId × TF)} {H : List Blk}

theorem cloW1_rep {F1 : Clo1} {F2 : Clo2} (htbl : TblOk P tbl) (hg : ∀ nm, BlkRel P S w ρ nm (getB H nm)) (hF1 : ∀ a c s F v, F1 a c s = some F → Rel P S w ρ s v → Rep P (.fn1 a c) (SLend S ρ (getB H)) w F [v]) (hF2 : ∀ a b c s F v, F2 a b c s = some F → Rel P S w ρ s v → Rep P (.fn2 a b c) (SLend S ρ (getB H)) w F [v]) (a c : Ty) (s : SV) (F : F1D a c) (v : Value) (h : cloW1 F1 F2 tbl H a c s = some F) (hr : Rel P S w ρ s v) : Rep P (.fn1 a c) (SLend S ρ (getB H)) w F [v] := by
  unfold cloW1 at h
  split at h
  · rename_i f caps
    cases htl : tlook tbl f with
    | none => rw [htl] at h; simp [cloT1] at h
    | some tf =>
      rw [htl] at h
      obtain ⟨doms, cods, pre, fn, tot, nat, own, eff⟩ := tf
      unfold cloT1 at h
      split at h
      · rename_i hh
        cases hh
        split at h
        · rename_i he
          obtain ⟨rfl, rfl⟩ := he
          simp only [Option.map_eq_some_iff] at h
          obtain ⟨ca, hca, rfl⟩ := h
          have htb := htbl _ _ htl
          simp only at htb
          rcases htb with ⟨h1, h2⟩ | ⟨h1, _⟩
          · simp only [Rel] at hr
            obtain ⟨cs, rfl, hr⟩ := hr
            have hcs := toArgs_rep hg hF1 hF2 _ hca hr
            simp only [Rep]
            refine ⟨f, cs.toArray, rfl, h2, fun S' w' hf hb x v hpx hv => ?_⟩
            have hc := h1 S' w' hb (x, ca) (v :: cs) ⟨v, cs, rfl, hv, hcs.fut hf⟩ hpx
            have e0 : (#[v] ++ cs.toArray) = (v :: cs).toArray := by simp
            rw [e0]
            exact hc.mono fun e w'' ⟨S'', r, he, hr, hx⟩ => ⟨S'', r, he, resRep_one hr, hx⟩
          · cases h1
        · cases h
      · cases h
  · exact no1_rep a c s F v h hr

theorem cloW2_rep {F1 : Clo1} {F2 : Clo2} (htbl : TblOk P tbl) (hg : ∀ nm, BlkRel P S w ρ nm (getB H nm)) (hF1 : ∀ a c s F v, F1 a c s = some F → Rel P S w ρ s v → Rep P (.fn1 a c) (SLend S ρ (getB H)) w F [v]) (hF2 : ∀ a b c s F v, F2 a b c s = some F → Rel P S w ρ s v → Rep P (.fn2 a b c) (SLend S ρ (getB H)) w F [v]) (a b c : Ty) (s : SV) (F : F2D a b c) (v : Value) (h : cloW2 F1 F2 tbl H a b c s = some F) (hr : Rel P S w ρ s v) : Rep P (.fn2 a b c) (SLend S ρ (getB H)) w F [v] := by
  unfold cloW2 at h
  split at h
  · rename_i f caps
    cases htl : tlook tbl f with
    | none => rw [htl] at h; simp [cloT2] at h
    | some tf =>
      rw [htl] at h
      obtain ⟨doms, cods, pre, fn, tot, nat, own, eff⟩ := tf
      unfold cloT2 at h
      split at h
      · rename_i hh
        cases hh
        split at h
        · rename_i he
          obtain ⟨rfl, rfl, rfl⟩ := he
          simp only [Option.map_eq_some_iff] at h
          obtain ⟨ca, hca, rfl⟩ := h
          have htb := htbl _ _ htl
          simp only at htb
          rcases htb with ⟨h1, h2⟩ | ⟨h1, _⟩
          · simp only [Rel] at hr
            obtain ⟨cs, rfl, hr⟩ := hr
            have hcs := toArgs_rep hg hF1 hF2 _ hca hr
            simp only [Rep]
            refine ⟨f, cs.toArray, rfl, h2, fun S' w' hf hb x v y u hpx hv hu => ?_⟩
            have hc := h1 S' w' hb (x, y, ca) (v :: u :: cs) ⟨v, u :: cs, rfl, hv, u, cs, rfl, hu, hcs.fut hf⟩ hpx
            have e0 : (#[v, u] ++ cs.toArray) = (v :: u :: cs).toArray := by simp
            rw [e0]
            exact hc.mono fun e w'' ⟨S'', r, he, hr, hx⟩ => ⟨S'', r, he, resRep_one hr, hx⟩
          · cases h1
        · cases h
      · cases h
  · exact no2_rep a b c s F v h hr

theorem cloA1_rep (htbl : TblOk P tbl) (hg : ∀ nm, BlkRel P S w ρ nm (getB H nm)) (a c : Ty) (s : SV) (F : F1D a c) (v : Value) (h : cloA1 tbl H a c s = some F) (hr : Rel P S w ρ s v) : Rep P (.fn1 a c) (SLend S ρ (getB H)) w F [v] :=
  cloW1_rep htbl hg (fun _ _ _ _ _ => no1_rep _ _ _ _ _) (fun _ _ _ _ _ _ => no2_rep _ _ _ _ _ _) a c s F v h hr
theorem cloA2_rep (htbl : TblOk P tbl) (hg : ∀ nm, BlkRel P S w ρ nm (getB H nm)) (a b c : Ty) (s : SV) (F : F2D a b c) (v : Value) (h : cloA2 tbl H a b c s = some F) (hr : Rel P S w ρ s v) : Rep P (.fn2 a b c) (SLend S ρ (getB H)) w F [v] :=
  cloW2_rep htbl hg (fun _ _ _ _ _ => no1_rep _ _ _ _ _) (fun _ _ _ _ _ _ => no2_rep _ _ _ _ _ _) a b c s F v h hr
theorem clo1_rep (htbl : TblOk P tbl) (hg : ∀ nm, BlkRel P S w ρ nm (getB H nm)) (a c : Ty) (s : SV) (F : F1D a c) (v : Value) (h : clo1 tbl H a c s = some F) (hr : Rel P S w ρ s v) : Rep P (.fn1 a c) (SLend S ρ (getB H)) w F [v] :=
  cloW1_rep htbl hg (cloA1_rep htbl hg) (cloA2_rep htbl hg) a c s F v h hr
theorem clo2_rep (htbl : TblOk P tbl) (hg : ∀ nm, BlkRel P S w ρ nm (getB H nm)) (a b c : Ty) (s : SV) (F : F2D a b c) (v : Value) (h : clo2 tbl H a b c s = some F) (hr : Rel P S w ρ s v) : Rep P (.fn2 a b c) (SLend S ρ (getB H)) w F [v] :=
  cloW2_rep htbl hg (cloA1_rep htbl hg) (cloA2_rep htbl hg) a b c s F v h hr

theorem lent_rel {c : Bool} (hg : ∀ nm, BlkRel P S w ρ nm (getB H nm)) (nm : Nat) : BlkRel P S w ρ nm (getB (lent c H) nm) := by
  cases c
  · simp [lent, getB, BlkRel]
  · exact hg nm

theorem lend_bounded {c : Bool} (hb : Bounded S w) (hap : ∀ nm b cap, (getB H nm).live = true → ρ nm = some (some b, cap) → b < w.heap.size) : Bounded (SLend S ρ (getB (lent c H))) w :=
  hb.same (fun k hk => by
    rcases hk with hk | ⟨nm, cap, h1, h2⟩
    · exact hb.lt k hk
    · cases c
      · simp [lent, getB, Blk.live] at h1
      · exact hap nm k cap h1 h2) (fut_lend _)

def keptS (c : Bool) (S S' : Nat → Prop) : Nat → Prop := match c with
  | true => S
  | false => S'

theorem lend_ext {c : Bool} {S' : Nat → Prop} {w' : World} (hb : Bounded S w) (h : Ext (SLend S ρ (getB (lent c H))) w S' w') : Ext S w (keptS c S S') w' := by
  cases c with
  | true => exact ⟨fun _ h => h, h.size, h.old, h.os, h.tape, h.output, fun _ h => .inl h, fun k hk => Nat.lt_of_lt_of_le (hb.lt k hk) h.size⟩
  | false =>
    refine ⟨fun k hk => h.sub k (.inl hk), h.size, h.old, h.os, h.tape, h.output, fun k hk => ?_, h.bound⟩
    rcases h.fresh k hk with (h1 | ⟨nm, cap, h1, _⟩) | h1
    · exact .inl h1
    · simp [lent, getB, Blk.live] at h1
    · exact .inr h1

theorem QOut.call {base : Nat} {S' : Nat → Prop} {w' : World} {cods : List Ty} {y : Args cods} {r : Value} {ob : Prop} (hb : Bounded S w) (hext : Ext (SLend S ρ (getB (lent (scalL cods) H))) w S' w') (hr : ResRep P cods S' w' y r) :
    QOut P S w ρ base ⟨ob, ofRes cods y, none⟩ r w' := by
  have hx := lend_ext hb hext
  refine ⟨_, ρ, ⟨hx, Keep.refl ρ, fun _ _ => rfl, fun _ => rfl, fun _ h => by cases h⟩, ?_⟩
  show Rel P (keptS (scalL cods) S S') w' ρ (ofRes cods y) r
  cases hc : scalL cods with
  | true => exact ofRes_rel (hr.anywhere hc)
  | false => exact ofRes_rel hr

theorem ownQ_ob {base : Nat} {et : TypeId} {ob : Prop} {cods : List Ty} {y : Args cods} {q : QR} (h : ownQ base et ob cods y = some q) : q.ob = ob := by
  unfold ownQ at h
  split at h
  · cases h; rfl
  · cases h

theorem QOut.callOwn {base : Nat} {et : TypeId} {S' : Nat → Prop} {w' : World} {cods : List Ty} {y : Args cods} {r : Value} {ob : Prop} {q : QR} (hb : Bounded S w) (hbase : ρ base = none) (hext : Ext (SLend S ρ (getB (lent false H))) w S' w') (hr : OwnRep P et S' w w' cods y r)
    (hq : ownQ base et ob cods y = some q) : QOut P S w ρ base q r w' := by
  have hx := lend_ext hb hext
  unfold ownQ at hq
  split at hq
  · rename_i e y
    cases hq
    obtain ⟨o, cap, A, rfl, hA, h1, h2⟩ := hr
    have hn : setN ρ base (o, cap) base = some (o, cap) := by simp [setN]
    obtain ⟨o', cap', h3, h4, h5⟩ := h1
    cases h3
    refine ⟨_, setN ρ base (o, cap), ⟨hx, setN_keep hbase, fun k hk => by simp [setN, hk], fun h => (by cases h), fun blk h => ?_⟩, ?_⟩
    · cases h
      refine ⟨⟨o, cap, hn, h4, h5⟩, fun b cap' he => ?_⟩
      rw [hn] at he
      cases he
      exact h2 b rfl
    · simp only [Rel]
      exact ⟨o, cap, A, hn, hA, rfl⟩
  · cases hq

theorem callq_ok {f : FuncId} {args : List SV} {vs : List Value} {base : Nat} {q : QR} (htbl : TblOk P tbl) (hbase : ρ base = none) (hb : Bounded S w) (hg : ∀ nm, BlkRel P S w ρ nm (getB H nm)) (hap : ∀ nm b cap, (getB H nm).live = true → ρ nm = some (some b, cap) → b < w.heap.size)
    (h : callq tbl H base f args = some q) (hob : q.ob) (hx : RelL P S w ρ args vs) :
    (Enters P f ∧ Calls P f vs.toArray w fun e w' => ∃ v, e = .returned v ∧ QOut P S w ρ base q v w') ∨ (∃ v w', (callFunc f vs.toArray).run P w = .ok (.value v) w' ∧ QOut P S w ρ base q v w') := by
  unfold callq at h
  cases htl : tlook tbl f with
  | none => rw [htl] at h; simp [callT] at h
  | some tf =>
    rw [htl] at h
    have htb := htbl f tf htl
    cases heff : tf.eff with
    | some ef => simp [callT, callE, heff] at h
    | none =>
    rw [heff] at htb
    simp only at htb
    unfold TFOk NatOk at htb
    simp only [callT, callE, heff] at h
    cases hown : tf.own with
    | none =>
      simp only [hown, callO, Option.map_eq_some_iff] at h
      obtain ⟨x, hx', rfl⟩ := h
      have hg' := fun nm => lent_rel (c := scalL tf.cods) hg nm
      have hargs := toArgs_rep hg' (clo1_rep htbl hg') (clo2_rep htbl hg') _ hx' hx
      have hb' := lend_bounded (c := scalL tf.cods) hb hap
      rw [hown] at htb
      rcases htb with ⟨h1, h2⟩ | ⟨_, h1⟩
      · refine .inl ⟨h2, (h1 _ w hb' x vs hargs hob).mono fun e w' ⟨S', r, he, hr, hext⟩ => ⟨r, he, QOut.call hb hext hr⟩⟩
      · obtain ⟨S', w', r, h2, h3, h4⟩ := h1 _ w hb' x vs hargs hob
        exact .inr ⟨r, w', h2, QOut.call hb h4 h3⟩
    | some et =>
      simp only [hown, callO, Option.bind_eq_some_iff] at h
      obtain ⟨x, hx', hq⟩ := h
      have hg' := fun nm => lent_rel (c := false) hg nm
      have hargs := toArgs_rep hg' (clo1_rep htbl hg') (clo2_rep htbl hg') _ hx' hx
      have hb' := lend_bounded (c := false) hb hap
      rw [hown] at htb
      have hob' := ownQ_ob hq
      rcases htb with ⟨h1, h2⟩ | ⟨_, h1⟩
      · refine .inl ⟨h2, (h1 _ w hb' x vs hargs (hob' ▸ hob)).mono fun e w' ⟨S', r, he, hr, hext⟩ => ⟨r, he, QOut.callOwn hb hbase hext hr hq⟩⟩
      · obtain ⟨S', w', r, h2, h3, h4⟩ := h1 _ w hb' x vs hargs (hob' ▸ hob)
        exact .inr ⟨r, w', h2, QOut.callOwn hb hbase h4 h3 hq⟩
end

theorem argsRep_one {a : Ty} {x : Args [a]} {vs : List Value} (h : ArgsRep P [a] S w x vs) : ∃ v, vs = [v] ∧ RepV P a S w x.1 v := by
  obtain ⟨v, vs', rfl, h1, h2⟩ := h
  simp only [ArgsRep] at h2
  subst h2
  exact ⟨v, rfl, h1⟩

theorem argsRep_two {a b : Ty} {x : Args [a, b]} {vs : List Value} (h : ArgsRep P [a, b] S w x vs) : ∃ v u, vs = [v, u] ∧ RepV P a S w x.1 v ∧ RepV P b S w x.2.1 u := by
  obtain ⟨v, vs', rfl, h1, u, vs'', rfl, h2, h3⟩ := h
  simp only [ArgsRep] at h3
  subst h3
  exact ⟨v, u, rfl, h1, h2⟩

theorem repV_res {c : Ty} {y : c.D} {r : Value} (h : RepV P c S w y r) : ResRep P [c] S w (y, ()) r := ⟨[r], ⟨r, [], rfl, h, rfl⟩, rfl⟩

theorem map_arr {α β : Type} (f : α → β) (l : Array α) : l.map f = (l.toList.map f).toArray := by
  obtain ⟨l⟩ := l; simp

theorem evS_relL' {slots : List SV} {a : Act} : (xs : List Operand) → (∀ x ∈ xs, Rel P S w ρ (evS slots x) (a.eval x)) → RelL P S w ρ (xs.map (evS slots)) (xs.map a.eval)
  | [], _ => by simp [RelL]
  | x :: xs, h => by simp only [List.map_cons, RelL]; exact ⟨_, _, rfl, h x (by simp), evS_relL' xs fun y hy => h y (by simp [hy])⟩

theorem relO_map' {slots : List SV} {a : Act} (x : Option Operand) (h : ∀ y, x = some y → Rel P S w ρ (evS slots y) (a.eval y)) : RelO P S w ρ (x.map (evS slots)) (x.map a.eval) := by
  cases x with
  | none => trivial
  | some x => exact h x rfl

theorem evq_ok {tbl : List (FuncId × TF)} {H : List Blk} {base : Nat} {slots : List SV} {o : Oper} {a : Act} {q : QR} (htbl : TblOk P tbl) (hb : Bounded S w) (hg : ∀ nm, BlkRel P S w ρ nm (getB H nm)) (hap : ∀ nm b cap, (getB H nm).live = true → ρ nm = some (some b, cap) → b < w.heap.size) (hs : ∀ x ∈ o.op.operands, Rel P S w ρ (evS slots x) (a.eval x))
    (hbase : ρ base = none) (he : evq P tbl H base slots o.op = some q) (hob : q.ob) : OpOk P o a w (QOut P S w ρ base q) := by
  unfold evq at he
  split at he
  · rename_i x ho
    cases he
    exact OpOk.value (v := a.eval x) (w' := w) (by simp [execOp, ho]) ⟨S, ρ, QPost.same base hb, hs x (by simp [ho, Op.operands])⟩
  · rename_i x ho
    cases he
    exact OpOk.value (v := a.eval x) (w' := w) (by simp [execOp, ho]) ⟨S, ρ, QPost.same base hb, hs x (by simp [ho, Op.operands])⟩
  · rename_i c x y ho
    exact (pickq_ok he (hs c (by simp [ho, Op.operands])) (hs x (by simp [ho, Op.operands])) (hs y (by simp [ho, Op.operands]))).op hb (by simp [execOp, ho])
  · rename_i t x ho
    exact boxq_ok hb hbase ho he (hs x (by simp [ho, Op.operands]))
  · rename_i t ho
    exact allocq_ok hb hbase ho he
  · rename_i t x ho
    exact (loadq_ok hg he hob (hs x (by simp [ho, Op.operands]))).op hb (by simp [execOp, ho])
  · rename_i x ho
    exact nilq_ok hb ho he (hs x (by simp [ho, Op.operands]))
  · rename_i op t x y ty ho
    exact (binq_ok (x := x) (y := y) he hob (hs x (by simp [ho, Op.operands])) (hs y (by simp [ho, Op.operands]))).op hb (by simp [execOp, ho])
  · rename_i op t x ho
    exact (unq_ok he (hs x (by simp [ho, Op.operands]))).op hb (by simp [execOp, ho])
  · rename_i src dst x ho
    exact convq_ok hb hg hbase ho he hob (hs x (by simp [ho, Op.operands]))
  · rename_i t l c ho
    exact makeq_ok hb hbase ho he hob (hs l (by simp [ho, Op.operands])) (hs c (by simp [ho, Op.operands]))
  · rename_i t len parts ho
    exact buildSq_ok hb hbase ho he fun p hp => hs p.2 (by simp [ho, Op.operands]; exact ⟨p.1, by simpa using hp⟩)
  · rename_i t parts ho
    exact buildT_ok hb ho he fun p hp => hs p.2 (by simp [ho, Op.operands]; exact ⟨p.1, by simpa using hp⟩)
  · rename_i t x ho
    exact rangeq_ok hb hbase ho he (hs x (by simp [ho, Op.operands]))
  · rename_i fn first caps ho
    unfold makeFuncq at he
    split at he
    · rename_i f hfst
      cases he
      have hf0 : first = #[] := by simpa using hfst
      refine OpOk.value (v := .func (.func f) #[] (caps.map a.eval)) (w' := w) (by simp [execOp, ho, Instr.makeFunc, hf0]) ⟨S, ρ, QPost.same base hb, ?_⟩
      simp only [Rel]
      exact ⟨caps.toList.map a.eval, by rw [map_arr], evS_relL' _ fun x hx => hs x (by simp [ho, Op.operands]; exact .inr (by simpa using hx))⟩
    · rename_i f s l hfst hcps
      cases he
      have hf0 : caps = #[] := by simpa using hcps
      refine OpOk.value (v := .func (.func f) (first.map a.eval) #[]) (w' := w) (by simp [execOp, ho, Instr.makeFunc, hf0]) ⟨S, ρ, QPost.same base hb, ?_⟩
      simp only [Rel]
      refine ⟨first.toList.map a.eval, by rw [map_arr], ?_⟩
      rw [← hfst]
      exact evS_relL' _ fun x hx => hs x (by simp [ho, Op.operands]; exact .inl (by simpa using hx))
    · cases he
  · rename_i t x lo hi mx ho
    unfold slice3q at he
    split at he
    · exact (sliceq_ok hg he hob (hs x (by simp [ho, Op.operands])) (relO_map' lo fun x hx => hs x (by simp [ho, Op.operands, hx])) (relO_map' hi fun x hx => hs x (by simp [ho, Op.operands, hx]))).op hb (by simp [execOp, ho])
    · cases he
  · rename_i t x k ho
    exact (fieldAddrq_ok he (hs x (by simp [ho, Op.operands]))).op hb (by simp [execOp, ho])
  · rename_i t x k ho
    exact (fieldq_ok he (hs x (by simp [ho, Op.operands]))).op hb (by simp [execOp, ho])
  · rename_i t x i ho
    exact (indexAddrq_ok hg he hob (hs x (by simp [ho, Op.operands])) (hs i (by simp [ho, Op.operands]))).op hb (by simp [execOp, ho])
  · rename_i t x i ho
    exact (indexq_ok he hob (hs x (by simp [ho, Op.operands])) (hs i (by simp [ho, Op.operands]))).op hb (by simp [execOp, ho])
  · rename_i x i ho
    exact (extractq_ok he (hs x (by simp [ho, Op.operands]))).op hb (by simp [execOp, ho])
  · rename_i t x ho
    exact (ifaceq_ok he (hs x (by simp [ho, Op.operands]))).op hb (by simp [execOp, ho])
  · rename_i c ho
    split at he
    · rename_i b hc
      obtain ⟨hn, u, hu, hrel⟩ := builtinq_ok (ty := o.type) he (evS_relL' c.args.toList fun x hx => hs x (by simp [ho, Op.operands, Call.operands]; exact .inr (by simpa using hx)))
      refine OpOk.value (v := u) (w' := w) ?_ ⟨S, ρ, ?_, hrel⟩
      · rw [← map_arr] at hu
        simp only [Array.toArray_toList] at hu
        simp [execOp, ho, resolve, hc, invoke, hu]
      · rw [hn]; exact QPost.same base hb
    · rename_i f hc
      have hfr := hs f (by simp [ho, Op.operands, Call.operands, hc])
      have har := evS_relL' (P := P) (S := S) (w := w) (ρ := ρ) (slots := slots) (a := a) c.args.toList fun x hx => hs x (by simp [ho, Op.operands, Call.operands]; exact .inr (by simpa using hx))
      have run : ∀ (g : FuncId) (caps : Array Value), a.eval f = .func (.func g) #[] caps → Enters P g →
          (execOp a.eval o).run P w = .ok (.enter g (c.args.map a.eval ++ caps)) w := by
        intro g caps hv hen
        simp [execOp, ho, resolve, hc, hv, Deferred.ofValue, run_invoke hen]
      unfold callfq at he
      split at he
      · rename_i id caps hfe
        rw [hfe] at hfr
        simp only [Rel] at hfr
        obtain ⟨cs, hv, hcs⟩ := hfr
        rcases callq_ok (base := base) htbl hbase hb hg hap he hob (har.append hcs) with ⟨hbody, hcall⟩ | ⟨v, w', hrun, hq⟩
        · refine OpOk.enter (run id _ hv hbody) ?_
          rw [map_arr]
          simpa using hcall
        · refine OpOk.value (v := v) (w' := w') ?_ hq
          have e : c.args.map a.eval ++ cs.toArray = (c.args.toList.map a.eval ++ cs).toArray := by rw [map_arr]; simp
          simp [execOp, ho, resolve, hc, hv, Deferred.ofValue, invoke, e, hrun]
      · rename_i id l hfe
        rw [hfe] at hfr
        simp only [Rel] at hfr
        obtain ⟨cs, hv, hcs⟩ := hfr
        have e : cs.toArray ++ c.args.map a.eval = (cs ++ c.args.toList.map a.eval).toArray := by rw [map_arr]; simp
        rcases callq_ok (base := base) htbl hbase hb hg hap he hob (hcs.append har) with ⟨hbody, hcall⟩ | ⟨v, w', hrun, hq⟩
        · refine OpOk.enter (w1 := w) (f := id) (args := cs.toArray ++ c.args.map a.eval) ?_ ?_
          · have := run_invoke (P := P) (w := w) (args := cs.toArray ++ c.args.map a.eval) (caps := #[]) hbody
            simp [execOp, ho, resolve, hc, hv, Deferred.ofValue, this]
          · rw [e]; exact hcall
        · refine OpOk.value (v := v) (w' := w') ?_ hq
          simp [execOp, ho, resolve, hc, hv, Deferred.ofValue, invoke, e, hrun]
      · rename_i ta tc F hfe
        rw [hfe] at hfr
        simp only [Rel, Rep] at hfr
        obtain ⟨g, caps, e0, hen, hcall⟩ := hfr
        simp at e0
        simp only [Option.map_eq_some_iff] at he
        obtain ⟨x, hx, rfl⟩ := he
        have hg' := fun nm => lent_rel (c := tc.scal) hg nm
        have hargs := toArgs_rep hg' (clo1_rep htbl hg') (clo2_rep htbl hg') _ hx har
        obtain ⟨v, hvs, hrv⟩ := argsRep_one hargs
        have hvs' : c.args.map a.eval = #[v] := by rw [map_arr, hvs]
        refine OpOk.enter (run g caps e0 hen) ?_
        rw [hvs']
        have hsc : tc.scal = scalL [tc] := by simp [scalL]
        exact (hcall _ w (fut_lend _) (lend_bounded (c := tc.scal) hb hap) x.1 v hob hrv).mono fun e w' ⟨S', r, he, hr, hext⟩ => ⟨r, he, by
          rw [hsc] at hext
          exact QOut.call (cods := [tc]) (y := (F.2 x.1, ())) hb hext (repV_res hr)⟩
      · rename_i ta tb tc F hfe
        rw [hfe] at hfr
        simp only [Rel, Rep] at hfr
        obtain ⟨g, caps, e0, hen, hcall⟩ := hfr
        simp at e0
        simp only [Option.map_eq_some_iff] at he
        obtain ⟨x, hx, rfl⟩ := he
        have hg' := fun nm => lent_rel (c := tc.scal) hg nm
        have hargs := toArgs_rep hg' (clo1_rep htbl hg') (clo2_rep htbl hg') _ hx har
        obtain ⟨v, u, hvs, hrv, hru⟩ := argsRep_two hargs
        have hvs' : c.args.map a.eval = #[v, u] := by rw [map_arr, hvs]
        refine OpOk.enter (run g caps e0 hen) ?_
        rw [hvs']
        have hsc : tc.scal = scalL [tc] := by simp [scalL]
        exact (hcall _ w (fut_lend _) (lend_bounded (c := tc.scal) hb hap) x.1 v x.2.1 u hob hrv hru).mono fun e w' ⟨S', r, he, hr, hext⟩ => ⟨r, he, by
          rw [hsc] at hext
          exact QOut.call (cods := [tc]) (y := (F.2 x.1 x.2.1, ())) hb hext (repV_res hr)⟩
      · cases he
    · cases he
  · cases he
end
end Go.Vx
