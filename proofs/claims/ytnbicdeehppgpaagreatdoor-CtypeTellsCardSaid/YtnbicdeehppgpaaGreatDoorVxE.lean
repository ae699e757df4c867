/- A part of a small verifier for the model's programs, proved sound for any program; no condition. -/
import Derived.Test.YtnbicdeehppgpaaGreatDoorVxD
set_option linter.unusedSimpArgs false
set_option linter.unusedVariables false
namespace Go.Vx
open Go
set_option linter.unusedSectionVars false
set_option linter.unusedVariables false

/-- The operation runs, and what it yields meets R. -/
def OpOk (P : Program) (o : Oper) (a : Act) (w : World) (R : Value → World → Prop) : Prop :=
  ∀ (next : Act → World → Prop) (Q : Exit → Act → World → Prop), (∀ v w', R v w' → next (a.put o.dst v) w') → o.wp P a w next Q

section
variable {P : Program} {S : Nat → Prop} {w : World} {ρ : Names}

theorem OpOk.value {o : Oper} {a : Act} {w' : World} {v : Value} {R : Value → World → Prop} (h : (execOp a.eval o).run P w = .ok (.value v) w') (hR : R v w') : OpOk P o a w R :=
  fun next Q hn => by unfold Oper.wp; rw [h]; exact hn _ _ hR

theorem OpOk.enter {o : Oper} {a : Act} {w1 : World} {f : FuncId} {args : Array Value} {R : Value → World → Prop} (h : (execOp a.eval o).run P w = .ok (.enter f args) w1)
    (hc : Calls P f args w1 fun e w' => ∃ v, e = .returned v ∧ R v w') : OpOk P o a w R :=
  fun next Q hn => by
    unfold Oper.wp
    rw [h]
    exact hc.mono fun e w' ⟨v, he, hR⟩ => by subst he; exact hn _ _ hR

/-- What a quiet operation leaves. -/
def QOut (P : Program) (S : Nat → Prop) (w : World) (ρ : Names) (base : Nat) (q : QR) (v : Value) (w' : World) : Prop :=
  ∃ S' ρ', QPost P S w ρ base q.new S' w' ρ' ∧ Rel P S' w' ρ' q.val v

/-- A run that yields a value and leaves the world alone. -/
def RunOk (P : Program) (S : Nat → Prop) (w : World) (ρ : Names) (m : Sem Value) (q : QR) : Prop :=
  q.new = none ∧ ∃ u, m.run P w = .ok u w ∧ Rel P S w ρ q.val u

theorem RunOk.op {m : Sem Value} {q : QR} {o : Oper} {a : Act} {base : Nat} (hb : Bounded S w) (h : RunOk P S w ρ m q) (he : execOp a.eval o = (do pure (.value (← m)))) :
    OpOk P o a w (QOut P S w ρ base q) := by
  obtain ⟨hn, u, hr, hu⟩ := h
  refine OpOk.value (v := u) (w' := w) (by rw [he]; simp [hr]) ⟨S, ρ, ?_, hu⟩
  rw [hn]
  exact QPost.same base hb

theorem ti_some {t : TypeId} {ti : TI} (h : tiOf P t = some ti) : ∃ i d, P.info? t = some i ∧ P.underlying t = some d ∧ ti = { kind := kindOf d, size := i.size, bytes := i.bytes, zero := i.zero } := by
  unfold tiOf at h
  split at h
  · rename_i i d h1 h2
    cases h
    exact ⟨i, d, h1, h2, rfl⟩
  · cases h

theorem run_typeInfo {t : TypeId} {i : TypeInfo} (h : P.info? t = some i) : (typeInfo t).run P w = .ok i w := by
  simp [typeInfo, h]

theorem run_sizeOf {t : TypeId} {i : TypeInfo} (h : P.info? t = some i) : (sizeOf t).run P w = .ok i.size w := by
  simp [sizeOf, run_typeInfo h]

theorem run_zeroValue {t : TypeId} {i : TypeInfo} {z : Value} (h : P.info? t = some i) (hz : i.zero = some z) : (zeroValue t).run P w = .ok z w := by
  simp [zeroValue, run_typeInfo h, hz]

theorem kindOf_isAgg (d : TypeDesc) : (kindOf d).isAgg = (d matches .struct _ | .array _ _) := by
  cases d <;> rfl

theorem run_isAgg {t : TypeId} {d : TypeDesc} (h : P.underlying t = some d) : (isAgg t).run P w = .ok (kindOf d).isAgg w := by
  cases d <;> simp [isAgg, run_underlying h, kindOf, TK.isAgg]

theorem tk_some {t : TypeId} {k : TK} (h : tkOf P t = some k) : ∃ ti i d, tiOf P t = some ti ∧ P.info? t = some i ∧ P.underlying t = some d ∧ k = kindOf d := by
  unfold tkOf at h
  rw [Option.map_eq_some_iff] at h
  obtain ⟨ti, h1, h2⟩ := h
  obtain ⟨i, d, h3, h4, rfl⟩ := ti_some h1
  exact ⟨_, i, d, h1, h3, h4, h2.symm⟩

theorem sz_some {t : TypeId} {n : Nat} (h : sizeP P t = some n) : ∃ i, P.info? t = some i ∧ i.size = n := by
  unfold sizeP at h
  rw [Option.map_eq_some_iff] at h
  obtain ⟨ti, h1, h2⟩ := h
  obtain ⟨i, d, h3, h4, rfl⟩ := ti_some h1
  exact ⟨i, h3, h2⟩

/-- Cells loaded from an address. -/
theorem run_loadVar_agg {t : TypeId} {ti : TI} (h : tiOf P t = some ti) (ha : ti.kind.isAgg = true) {ad : Addr} {cs : List Value} (hl : cs.length = ti.size)
    (hc : ∀ j v, cs[j]? = some v → w.cell? (ad.add j) = some v) : (Instr.loadAt t (.pointer (some ad))).run P w = .ok (.agg cs.toArray) w := by
  obtain ⟨i, d, h1, h2, rfl⟩ := ti_some h
  simp only at ha hl
  have := run_loadCells_list (P := P) w ad cs hc
  rw [hl] at this
  simp [Instr.loadAt, Instr.sureAddr, loadVar, run_isAgg h2, ha, run_sizeOf h1, this]

theorem run_loadVar_one {t : TypeId} {ti : TI} (h : tiOf P t = some ti) (ha : ti.kind.isAgg = false) {ad : Addr} {v : Value}
    (hc : w.cell? ad = some v) : (Instr.loadAt t (.pointer (some ad))).run P w = .ok v w := by
  obtain ⟨i, d, h1, h2, rfl⟩ := ti_some h
  simp only at ha
  simp [Instr.loadAt, Instr.sureAddr, loadVar, run_isAgg h2, ha, hc]

theorem add_off (b o n : Nat) : (⟨b, o, none⟩ : Addr).add n = ⟨b, o + n, none⟩ := by
  unfold Addr.add
  split
  · subst_vars; rfl
  · rfl

theorem addr_eta {ad : Addr} (h : ad.spot = none) : ad = ⟨ad.block, ad.off, none⟩ := by
  cases ad; simp_all

theorem pickq_ok {c a b : SV} {q : QR} {vc va vb : Value} (h : pickq c a b = some q) (hc : Rel P S w ρ c vc) (ha : Rel P S w ρ a va) (hb : Rel P S w ρ b vb) :
    RunOk P S w ρ (do pure (if ← asBool vc then va else vb)) q := by
  unfold pickq at h
  split at h
  · cases h; simp only [Rel] at hc; subst hc; exact ⟨rfl, va, by simp [asBool], ha⟩
  · cases h; simp only [Rel] at hc; subst hc; exact ⟨rfl, vb, by simp [asBool], hb⟩
  · rename_i c
    split at h
    · rename_i x y hx hy
      cases h
      have e1 := asB_rel hx ha
      have e2 := asB_rel hy hb
      subst e1; subst e2
      simp only [Rel] at hc; subst hc
      refine ⟨rfl, .bool (if c = true then x else y), ?_, by simp [Rel]⟩
      cases c <;> simp [asBool]
    · cases h
  · cases h

theorem getB_at {H : List Blk} {nm : Nat} {blk : Blk} (hg : ∀ nm, BlkRel P S w ρ nm (getB H nm)) (h : getB H nm = blk) : BlkRel P S w ρ nm blk := h ▸ hg nm

theorem loadq_ok {H : List Blk} {t : TypeId} {x : SV} {q : QR} {vx : Value} (hg : ∀ nm, BlkRel P S w ρ nm (getB H nm)) (h : loadq P H t x = some q) (hob : q.ob) (hx : Rel P S w ρ x vx) :
    RunOk P S w ρ (Instr.loadAt t vx) q := by
  unfold loadq at h
  split at h
  · rename_i nm off ti hti
    simp only [Rel] at hx
    obtain ⟨b, cap, hb, rfl⟩ := hx
    split at h
    · rename_i l t' hl
      have hblk := getB_at hg hl
      obtain ⟨b', cap', hb', cs, hh, hr⟩ := hblk
      rw [hb] at hb'; cases hb'
      have hlen := hr.length
      split at h
      · rename_i ha
        split at h
        · rename_i hle
          cases h
          have hsub := ((hr.take_drop off).2.take_drop ti.size).1
          refine ⟨rfl, _, run_loadVar_agg (cs := (cs.drop off).take ti.size) hti ha (by simp; omega) (fun j v hj => ?_), ?_⟩
          · rw [add_off, cell_of hh]
            simp only [List.getElem?_take, List.getElem?_drop] at hj
            split at hj
            · exact hj
            · cases hj
          · simp only [Rel]
            exact ⟨_, rfl, hsub⟩
        · cases h
      · rename_i ha
        split at h
        · rename_i hlt
          cases h
          obtain ⟨v, hv, hrel⟩ := hr.get' hlt
          exact ⟨rfl, v, run_loadVar_one hti (by simpa using ha) (by rw [cell_of hh]; exact hv), hrel⟩
        · cases h
    · rename_i e xs t' hl
      split at h
      · rename_i n et hk
        split at h
        · rename_i ho
          obtain ⟨rfl, hsz⟩ := ho
          cases h
          have hblk := getB_at hg hl
          obtain ⟨b', cap', hb', hle, hh⟩ := hblk
          rw [hb] at hb'; cases hb'
          obtain ⟨cs, fr, hh, _, hcl, hel⟩ := hh
          have hob' : List.length xs = n := hob
          have hn' : n * e.size ≤ cs.length := by rw [hcl]; exact Nat.mul_le_mul_right _ (by omega)
          refine ⟨rfl, _, run_loadVar_agg (cs := cs.take (n * e.size)) hti (by rw [hk]; rfl) (by simp; omega) (fun j v hj => ?_), ?_⟩
          · rw [add_off, cell_of hh]
            rw [List.getElem?_take] at hj
            split at hj
            · simpa using hj
            · cases hj
          · simp only [Rel]
            refine ⟨_, rfl, hob', by simp; omega, fun i x hx => ?_⟩
            obtain ⟨c, r1, r2, r3⟩ := hel i x hx
            refine ⟨c, r1, r2, fun j v hj => ?_⟩
            have hi : i < n := by have := (List.getElem?_eq_some_iff.1 hx).1; omega
            have hj' : j < e.size := by have := (List.getElem?_eq_some_iff.1 hj).1; omega
            have : i * e.size + j < n * e.size := by
              have : (i + 1) * e.size ≤ n * e.size := Nat.mul_le_mul_right _ (by omega)
              rw [Nat.add_mul] at this; omega
            rw [List.getElem?_take, if_pos this]
            exact r3 j v hj
        · cases h
      · cases h
    · cases h
  · rename_i ty d ti hti
    simp only [Rel] at hx
    obtain ⟨ad, c, e, hsp, hS, hrep, hat⟩ := hx
    cases e
    have hlen := hrep.length
    have hcell : ∀ j v, c[j]? = some v → w.cell? (ad.add j) = some v := fun j v hj => by
      rw [addr_eta hsp, add_off]
      simpa using hat j v hj
    split at h
    · rename_i ha
      split at h
      · rename_i hs
        cases h
        refine ⟨rfl, _, run_loadVar_agg hti ha (by rw [hlen]; exact hs.2) hcell, ?_⟩
        simp only
        refine ofDV_rel ?_
        unfold RepV valueOf
        rw [if_pos hs.1]
        exact ⟨_, rfl, hrep⟩
      · cases h
    · rename_i ha
      split at h
      · cases h
      · rename_i hna
        cases h
        obtain ⟨s, hs⟩ := ofD_one (by simpa using hna) d
        have hr := ofD_rel (ρ := ρ) ty hrep
        rw [hs] at hr
        obtain ⟨v, rfl, hv⟩ := relL_one hr
        have := hcell 0 v (by simp)
        rw [addr_eta hsp, add_off] at this
        refine ⟨rfl, v, run_loadVar_one hti (by simpa using ha) (by rw [addr_eta hsp]; simpa using this), ?_⟩
        simp only [hs, one]
        exact hv
  · rename_i nm e i ti hti
    simp only [Rel] at hx
    obtain ⟨b, cap, hb, rfl⟩ := hx
    split at h
    · rename_i e' xs t' hl
      have hblk := getB_at hg hl
      obtain ⟨b', cap', hb', hle, hh⟩ := hblk
      rw [hb] at hb'; cases hb'
      split at h
      · rename_i hs
        obtain ⟨rfl, ha, hsz⟩ := hs
        cases h
        simp only at hob
        obtain ⟨cs, fr, hh, hfr, hcl, hel⟩ := hh
        have hget : (xs : List _)[i]? = some ((xs : List e'.D).getD i e'.dflt) := by simp [List.getD, List.getElem?_eq_getElem hob]
        obtain ⟨c, hrep, hcl', hc⟩ := hel i _ hget
        have hcell : ∀ j v, c[j]? = some v → w.cell? ((⟨b, i * e'.size, none⟩ : Addr).add j) = some v := fun j v hj => by
          rw [add_off, cell_of hh]; exact hc j v hj
        by_cases hag : e'.isAgg = true
        · refine ⟨rfl, _, run_loadVar_agg hti (by rw [ha]; exact hag) (by rw [hcl']; exact hsz) hcell, ?_⟩
          simp only
          refine ofDV_rel ?_
          unfold RepV valueOf
          rw [if_pos hag]
          exact ⟨_, rfl, hrep⟩
        · have hs1 : e'.size = 1 := by cases e' <;> simp_all [Ty.isAgg, Ty.size]
          obtain ⟨v, rfl⟩ : ∃ v, c = [v] := List.length_eq_one_iff.1 (by omega)
          refine ⟨rfl, v, run_loadVar_one hti (by rw [ha]; simpa using hag) (by have := hcell 0 v (by simp); rw [add_off] at this; simpa using this), ?_⟩
          simp only
          refine ofDV_rel ?_
          unfold RepV valueOf
          rw [if_neg hag]
          exact hrep
      · cases h
    · cases h
  · cases h

theorem nilq_ok {o : Oper} {a : Act} {x : Operand} {s : SV} {base : Nat} {q : QR} (hb : Bounded S w) (ho : o.op = .nilCheck x) (h : nilq s = some q) (hx : Rel P S w ρ s (a.eval x)) :
    OpOk P o a w (QOut P S w ρ base q) := by
  have key : ∀ v, a.eval x = v → (∃ ad, v = .pointer (some ad)) ∨ (∃ f fst caps, v = .func (.func f) fst caps) → (execOp a.eval o).run P w = .ok (.value v) w := by
    intro v hv hs
    simp only [execOp, ho, hv]
    rcases hs with ⟨ad, rfl⟩ | ⟨f, fst, caps, rfl⟩
    · simp
    · simp
  have fin : ∀ v, a.eval x = v → (∃ ad, v = .pointer (some ad)) ∨ (∃ f fst caps, v = .func (.func f) fst caps) → q = ⟨True, s, none⟩ → OpOk P o a w (QOut P S w ρ base q) := by
    intro v hv hs hq
    subst hq
    exact OpOk.value (key v hv hs) ⟨S, ρ, QPost.same base hb, by rw [← hv]; exact hx⟩
  unfold nilq at h
  split at h
  · cases h
    have hx' := hx
    simp only [Rel] at hx'
    obtain ⟨b, cap, _, e⟩ := hx'
    exact fin _ e (.inl ⟨_, rfl⟩) rfl
  · cases h
    have hx' := hx
    simp only [Rel, Rep] at hx'
    obtain ⟨ad, c, e, _⟩ := hx'
    simp at e
    exact fin _ e (.inl ⟨_, rfl⟩) rfl
  · cases h
    have hx' := hx
    simp only [Rel] at hx'
    obtain ⟨cs, e, _⟩ := hx'
    exact fin _ e (.inr ⟨_, _, _, rfl⟩) rfl
  · cases h
    have hx' := hx
    simp only [Rel] at hx'
    obtain ⟨cs, e, _⟩ := hx'
    exact fin _ e (.inr ⟨_, _, _, rfl⟩) rfl
  · cases h
    have hx' := hx
    simp only [Rel, Rep] at hx'
    obtain ⟨f, caps, e, _⟩ := hx'
    simp at e
    exact fin _ e (.inr ⟨_, _, _, rfl⟩) rfl
  · cases h
    have hx' := hx
    simp only [Rel, Rep] at hx'
    obtain ⟨f, caps, e, _⟩ := hx'
    simp at e
    exact fin _ e (.inr ⟨_, _, _, rfl⟩) rfl
  · cases h

theorem runInt {m : Sem Value} {ob : Prop} {k : IntKind} {n : Int} (h : m.run P w = .ok (.int k n) w) : RunOk P S w ρ m ⟨ob, .int k n, none⟩ := ⟨rfl, _, h, by simp [Rel]⟩
theorem runBool {m : Sem Value} {ob : Prop} {b : Bool} (h : m.run P w = .ok (.bool b) w) : RunOk P S w ρ m ⟨ob, .bool b, none⟩ := ⟨rfl, _, h, by simp [Rel]⟩
theorem runKb {m : Sem Value} {ob : Prop} {b : Bool} (h : m.run P w = .ok (.bool b) w) : RunOk P S w ρ m ⟨ob, .kb b, none⟩ := ⟨rfl, _, h, by simp [Rel]⟩
theorem runStr {m : Sem Value} {ob : Prop} {s : List UInt8} (h : m.run P w = .ok (mkStr s) w) : RunOk P S w ρ m ⟨ob, .str s, none⟩ := ⟨rfl, _, h, by simp [Rel]⟩

theorem intBin_ok {op : BinOp} {k : IntKind} {a b : Int} {t : TypeId} {x y : Operand} {q : QR} (h : intBin op k a b = some q) (hob : q.ob) :
    RunOk P S w ρ (do eqGuard op t x y (.int k a) (.int k b); binOp op t (.int k a) (.int k b)) q := by
  unfold intBin at h
  split at h <;> cases h <;> first
    | (refine runInt ?_; simp [eqGuard_at_int, binOp, Op.intArith, Op.intBits, bits]; done)
    | (refine runBool ?_; simp [eqGuard_at_int, binOp, Op.intCmp]; done)
    | (refine runInt ?_; simp only at hob; simp [eqGuard_at_int, binOp, Op.intDiv, hob]; done)

theorem mkStr_size (s : List UInt8) : ByteArray.size ⟨s.toArray⟩ = s.length := by simp [ByteArray.size]

theorem strBin_ok {op : BinOp} {a b : List UInt8} {t : TypeId} {x y : Operand} {q : QR} (h : strBin op a b = some q) (hob : q.ob) :
    RunOk P S w ρ (do eqGuard op t x y (mkStr a) (mkStr b); binOp op t (mkStr a) (mkStr b)) q := by
  unfold strBin at h
  split at h <;> cases h
  · refine runStr ?_
    simp only at hob
    simp only [mkStr]
    simp [eqGuard_at_string, binOp, Op.stringOp, mkStr_size]
    rw [if_neg (by omega)]
    congr 2
  all_goals
    refine runBool ?_
    simp only [mkStr]
    simp [eqGuard_at_string, binOp, Op.stringOp, bne]

theorem eqKs_fields {t : TypeId} {ks : List TK} (h : eqKs P t = some ks) : P.stoodInHeld t = false ∧ P.eqGuardType P.depth t = false ∧ P.underlying t = some (.struct (P.fieldsOf t)) ∧
    ks = (P.fieldsOf t).toList.map (fun f => (tkOf P f.type).getD .other) ∧ ∀ (i : Nat) f, (P.fieldsOf t).toList[i]? = some f → f.offset = i ∧ f.name ≠ "_" := by
  unfold eqKs at h
  split at h
  · rename_i hc
    simp only [Bool.and_eq_true, Bool.not_eq_true'] at hc
    split at h
    · rename_i fs hfs
      have hfo : P.fieldsOf t = fs := by simp [Program.fieldsOf, hfs]
      rw [hfo]
      split at h
      · rename_i hall
        cases h
        refine ⟨hc.1, hc.2, hfs, rfl, fun i f hi => ?_⟩
        rw [List.all_eq_true] at hall
        have hm : (f, i) ∈ fs.toList.zipIdx := by
          rw [List.mem_iff_getElem?]
          exact ⟨i, by simp [List.getElem?_zipIdx, hi]⟩
        have := hall _ hm
        simpa using this
      · cases h
    · cases h
  · cases h

theorem eqFields_ok {xs ys : List Value} : (fs : List Field) → (l m : List SV) → (n : Nat) → (b : Bool) → eqCells (fs.map fun f => (tkOf P f.type).getD .other) l m = some b → RelL P S w ρ l (xs.drop n) → RelL P S w ρ m (ys.drop n) →
    (∀ (i : Nat) f, fs[i]? = some f → f.offset = n + i ∧ f.name ≠ "_") →
    (Op.eqFields 9999 xs.toArray ys.toArray fs).run P w = .ok b w
  | [], l, m, n, b, h, hl, hm, hf => by
    cases l <;> cases m <;> simp [eqCells] at h
    subst h
    simp [Op.eqFields]
  | f :: fs, [], m, n, b, h, hl, hm, hf => by
    simp only [List.map_cons] at h
    generalize (tkOf P f.type).getD .other = k at h
    cases k <;> simp [eqCells] at h
  | f :: fs, s :: l, [], n, b, h, hl, hm, hf => by
    simp only [List.map_cons] at h
    generalize (tkOf P f.type).getD .other = k at h
    cases k <;> cases s <;> simp [eqCells] at h
  | f :: fs, s :: l, s' :: m, n, b, h, hl, hm, hf => by
    obtain ⟨ho, hn⟩ := hf 0 f (by simp)
    simp only [Nat.add_zero] at ho
    obtain ⟨v, vs, hv, hr, hl'⟩ := (show ∃ v vs', xs.drop n = v :: vs' ∧ Rel P S w ρ s v ∧ RelL P S w ρ l vs' by simpa only [RelL] using hl)
    obtain ⟨v', vs', hv', hr', hm'⟩ := (show ∃ v vs', ys.drop n = v :: vs' ∧ Rel P S w ρ s' v ∧ RelL P S w ρ m vs' by simpa only [RelL] using hm)
    have hx : xs[n]? = some v := by have := congrArg List.head? hv; simpa using this
    have hy : ys[n]? = some v' := by have := congrArg List.head? hv'; simpa using this
    have hxs : xs.drop (n + 1) = vs := by have := congrArg List.tail hv; simpa using this
    have hys : ys.drop (n + 1) = vs' := by have := congrArg List.tail hv'; simpa using this
    have again := fun b' h' => eqFields_ok (xs := xs) (ys := ys) fs l m (n + 1) b' h' (by rw [hxs]; exact hl') (by rw [hys]; exact hm') (fun i f hi => by
      obtain ⟨h1, h2⟩ := hf (i + 1) f (by simpa using hi); exact ⟨by omega, h2⟩)
    have go : ∀ (r : Bool) (b' : Bool) d, P.underlying f.type = some d → (kindOf d).isAgg = false → (Op.equalIn 9999 f.type v v').run P w = .ok r w → eqCells (fs.map fun f => (tkOf P f.type).getD .other) l m = some b' → b = (r && b') →
        (Op.eqFields 9999 xs.toArray ys.toArray (f :: fs)).run P w = .ok b w := by
      intro r b' d hd hna he hb' hbb
      have hnag : (isAgg f.type).run P w = .ok false w := by rw [run_isAgg hd, hna]
      have hpx : (part f.type xs.toArray f.offset).run P w = .ok v w := by simp [part, hnag, ho, hx]
      have hpy : (part f.type ys.toArray f.offset).run P w = .ok v' w := by simp [part, hnag, ho, hy]
      have := again b' hb'
      cases r <;> simp [Op.eqFields, hn, hpx, hpy, he, this, hbb]
    simp only [List.map_cons] at h
    cases hk : tkOf P f.type with
    | none => rw [hk] at h; simp [eqCells] at h
    | some k =>
      obtain ⟨ti, i, d, _, _, hd, rfl⟩ := tk_some hk
      rw [hk] at h
      simp only [Option.getD_some] at h
      cases d <;> (try (simp [kindOf, eqCells] at h; done)) <;> cases s <;> (try (simp [kindOf, eqCells] at h; done)) <;> cases s' <;> (try (simp [kindOf, eqCells] at h; done))
      all_goals first
        | (rename_i x y
           simp only [kindOf, eqCells, Option.map_eq_some_iff] at h
           obtain ⟨b', hb', hbb⟩ := h
           simp only [Rel] at hr hr'
           subst hr; subst hr'
           exact go (x == y) b' _ hd rfl (run_equalIn_bool' w 9998 _ x y hd) hb' hbb.symm)
        | (rename_i k k1 x k2 y
           simp only [kindOf, eqCells] at h
           split at h
           · rename_i hkk
             subst hkk
             simp only [Option.map_eq_some_iff] at h
             obtain ⟨b', hb', hbb⟩ := h
             simp only [Rel] at hr hr'
             subst hr; subst hr'
             exact go (x == y) b' _ hd rfl (run_equalIn_int w 9998 _ _ _ x y hd) hb' hbb.symm
           · cases h)
        | (rename_i x y
           simp only [kindOf, eqCells, Option.map_eq_some_iff] at h
           obtain ⟨b', hb', hbb⟩ := h
           simp only [Rel, mkStr] at hr hr'
           subst hr; subst hr'
           exact go (x == y) b' _ hd rfl (by rw [run_equalIn_string w 9998 _ _ _ hd]; simp) hb' hbb.symm)

theorem boolBin_ok {op : BinOp} {t : TypeId} {x y : Operand} {a b : Bool} {q : QR} (h : boolBin op (tkOf P t) (some a) (some b) = some q) :
    RunOk P S w ρ (do eqGuard op t x y (.bool a) (.bool b); binOp op t (.bool a) (.bool b)) q := by
  have key : ∀ k, tkOf P t = some k → k = .bool → P.underlying t = some .bool := by
    intro k hk he
    obtain ⟨_, _, d, _, _, hd, e⟩ := tk_some hk
    subst he
    have : d = .bool := by cases d <;> simp [kindOf] at e <;> rfl
    rw [hd, this]
  unfold boolBin at h
  split at h
  · rename_i ht ha hb
    cases h; cases ha; cases hb
    refine runBool ?_
    simp [eqGuard_at_bool, run_eql_bool w t a b (key _ ht rfl)]
  · rename_i ht ha hb
    cases h; cases ha; cases hb
    refine runBool ?_
    simp [eqGuard_at_bool, run_neq_bool w t a b (key _ ht rfl)]
  · cases h

theorem binq_ok {op : BinOp} {t : TypeId} {x y : Operand} {sx sy : SV} {vx vy : Value} {q : QR} (h : binq P op t sx sy = some q) (hob : q.ob) (hx : Rel P S w ρ sx vx) (hy : Rel P S w ρ sy vy) :
    RunOk P S w ρ (do eqGuard op t x y vx vy; binOp op t vx vy) q := by
  unfold binq at h
  split at h
  · cases h
    simp only [Rel] at hx hy
    subst hx; subst hy
    simp only at hob
    refine runInt ?_
    have hn := Int.not_lt.2 hob
    simp [eqGuard_at_int, binOp, Op.shift, hn, shiftI]
  · cases h
    simp only [Rel] at hx hy
    subst hx; subst hy
    simp only at hob
    refine runInt ?_
    have hn := Int.not_lt.2 hob
    simp [eqGuard_at_int, binOp, Op.shift, hn, shiftI]
  · split at h
    · rename_i hk
      subst hk
      simp only [Rel] at hx hy
      subst hx; subst hy
      exact intBin_ok h hob
    · cases h
  · simp only [Rel] at hx hy
    subst hx; subst hy
    exact strBin_ok h hob
  · simp only [Option.bind_eq_some_iff, Option.map_eq_some_iff] at h
    obtain ⟨ks, hks, b, hb, rfl⟩ := h
    obtain ⟨h1, h2, h3, rfl, h5⟩ := eqKs_fields hks
    simp only [Rel] at hx hy
    obtain ⟨cx, rfl, hx⟩ := hx
    obtain ⟨cy, rfl, hy⟩ := hy
    have := eqFields_ok (P := P) (S := S) (w := w) (ρ := ρ) (xs := cx) (ys := cy) _ _ _ 0 b hb (by simpa using hx) (by simpa using hy) (fun i f hi => by simpa using h5 i f hi)
    refine runBool ?_
    simp only [Sem.run_bind, run_eqGuard_agg w _ _ _ _ _ _ h2, Result.andThen_ok, run_eql_struct, run_equalIn_agg w 9999 t _ _ h3 h1, this]
  · simp only [Option.bind_eq_some_iff, Option.map_eq_some_iff] at h
    obtain ⟨ks, hks, b, hb, rfl⟩ := h
    obtain ⟨h1, h2, h3, rfl, h5⟩ := eqKs_fields hks
    simp only [Rel] at hx hy
    obtain ⟨cx, rfl, hx⟩ := hx
    obtain ⟨cy, rfl, hy⟩ := hy
    have := eqFields_ok (P := P) (S := S) (w := w) (ρ := ρ) (xs := cx) (ys := cy) _ _ _ 0 b hb (by simpa using hx) (by simpa using hy) (fun i f hi => by simpa using h5 i f hi)
    refine runBool ?_
    simp only [Sem.run_bind, run_eqGuard_agg w _ _ _ _ _ _ h2, Result.andThen_ok, run_neq_struct, run_equalIn_agg w 9999 t _ _ h3 h1, this]
  all_goals try
    (simp only [Rel] at hx hy
     subst hx; subst hy
     exact boolBin_ok h)
  · cases h
end
end Go.Vx
