/- A part of a small verifier for the model's programs, proved sound for any program; no condition. -/
import Derived.Test.YtnbicdeehppgpaaGreatDoorVxIc
set_option linter.unusedSimpArgs false
set_option linter.unusedVariables false
namespace Go.Vx
open Go
set_option linter.unusedSectionVars false
set_option linter.unusedVariables false
section
variable {P : Program}

/-! #### stores -/

def isCell : SV → Bool
  | .any => false
  | .raw _ => false
  | .agg _ => false
  | .ag _ _ => false
  | .tup _ => false
  | _ => true

theorem isCell_rel {S : Nat → Prop} {w : World} {ρ : Names} {s : SV} {v : Value} (h : isCell s = true) (hr : Rel P S w ρ s v) : (∀ c, v ≠ .agg c) ∧ (∀ c, v ≠ .tuple c) := by
  cases s <;> first | (simp [isCell] at h; done) | skip
  all_goals simp only [Rel, mkStr, Rep] at hr
  all_goals first
    | (subst hr; exact ⟨fun _ => (by simp), fun _ => (by simp)⟩)
    | (obtain ⟨_, _, e, _⟩ := hr; simp at e; subst e; exact ⟨fun _ => (by simp), fun _ => (by simp)⟩)
    | (obtain ⟨_, _, _, _, _, e⟩ := hr; subst e; exact ⟨fun _ => (by simp), fun _ => (by simp)⟩)
    | (obtain ⟨_, _, _, _, e⟩ := hr; subst e; exact ⟨fun _ => (by simp), fun _ => (by simp)⟩)
    | (obtain ⟨_, _, _, _, e, _⟩ := hr; subst e; exact ⟨fun _ => (by simp), fun _ => (by simp)⟩)
    | (obtain ⟨_, _, _, e⟩ := hr; subst e; exact ⟨fun _ => (by simp), fun _ => (by simp)⟩)
    | (obtain ⟨_, e⟩ := hr; subst e; exact ⟨fun _ => (by simp), fun _ => (by simp)⟩)
    | (obtain ⟨_, e, _⟩ := hr; subst e; exact ⟨fun _ => (by simp), fun _ => (by simp)⟩)
    | (obtain ⟨⟨_, e⟩, _⟩ := hr; subst e; exact ⟨fun _ => (by simp), fun _ => (by simp)⟩)

/-- A block of cells turns at one place. -/
theorem run_store_cell {w : World} {b off : Nat} {cs : List Value} {t : TypeId} {fr : Nat × Nat} {v : Value} (hh : w.heap[b]? = some (.cells cs.toArray t fr)) (hoff : off < cs.length) (hfr : fr.1 = fr.2 ∨ cs.length ≤ fr.1)
    (h1 : ∀ c, v ≠ .agg c) (h2 : ∀ c, v ≠ .tuple c) : ∃ w', (store ⟨b, off, none⟩ v).run P w = .ok () w' ∧ w'.heap[b]? = some (.cells (cs.set off v).toArray t fr) ∧ (∀ k, k ≠ b → w'.heap[k]? = w.heap[k]?) ∧ w'.heap.size = w.heap.size ∧ w'.os = w.os ∧ w'.tape = w.tape ∧ w'.output = w.output := by
  have hcell : w.cell? ⟨b, off, none⟩ = some cs[off] := by rw [cell_of hh]; simp [hoff]
  have hfz : w.frozen? ⟨b, off, none⟩ = false := by
    simp only [World.frozen?, hh]
    obtain ⟨lo, hi⟩ := fr
    simp only at hfr ⊢
    rcases hfr with h | h
    · subst h; simp; try omega
    · simp; omega
  refine ⟨w.setCell ⟨b, off, none⟩ v, ?_, ?_, fun k hk => ?_, by simp, rfl, rfl, rfl⟩
  · unfold store
    cases v <;> first | (exact absurd rfl (h1 _)) | (exact absurd rfl (h2 _)) | simp [Sem.run, hcell, hfz]
  · simp [World.setCell, Array.getElem?_modify, hh]
  · simp [World.setCell, Array.getElem?_modify, Ne.symm hk]

theorem run_storeCells {S : Nat → Prop} {ρ : Names} {b : Nat} {t : TypeId} (hbS : ¬ S b) : (vs : List Value) → (ss : List SV) → (l : List SV) → (cs : List Value) → (off i : Nat) → (w : World) → w.heap[b]? = some (.cells cs.toArray t (0, 0)) → RelL P S w ρ l cs → RelL P S w ρ ss vs →
    ss.all isCell = true → off + i + ss.length ≤ l.length →
    ∃ w' cs', (storeCells ⟨b, off, none⟩ vs i).run P w = .ok () w' ∧ w'.heap[b]? = some (.cells cs'.toArray t (0, 0)) ∧ RelL P S w' ρ (spl l (off + i) ss) cs' ∧ (∀ k, k ≠ b → w'.heap[k]? = w.heap[k]?) ∧ w'.heap.size = w.heap.size ∧ w'.os = w.os ∧ w'.tape = w.tape ∧ w'.output = w.output
  | vs, [], l, cs, off, i, w, hh, hl, hs, _, _ => by
    simp only [RelL] at hs
    subst hs
    exact ⟨w, cs, by simp [storeCells], hh, by simpa [spl] using hl, fun _ _ => rfl, rfl, rfl, rfl, rfl⟩
  | vs, s :: ss, l, cs, off, i, w, hh, hl, hs, hcell, hle => by
    simp only [RelL] at hs
    obtain ⟨v, vs', rfl, hv, hs⟩ := hs
    simp only [List.all_cons, Bool.and_eq_true] at hcell
    have hlen := hl.length
    simp only [List.length_cons] at hle
    obtain ⟨h1, h2⟩ := isCell_rel hcell.1 hv
    obtain ⟨w1, hrun, hh1, hsame, hsz, hos, htp, hout⟩ := run_store_cell (P := P) (v := v) (off := off + i) hh (by omega) (.inl rfl) h1 h2
    have hfut : Fut S w S w1 := ⟨fun _ h => h, fun k hk => hsame k fun e => hbS (e ▸ hk)⟩
    have hl1 : RelL P S w1 ρ (setS l (off + i) s) (cs.set (off + i) v) := by
      refine RelL.of_get (by simp [setS_length, hlen]) fun j s' v' hj hv' => ?_
      have hjl : j < l.length := by have := (List.getElem?_eq_some_iff.1 hj).1; simpa [setS_length] using this
      have e1 : get (setS l (off + i) s) j = s' := by
        have := get_eq (setS l (off + i) s) j (by simpa [setS_length] using hjl)
        rw [hj] at this; exact (Option.some.inj this).symm
      rw [get_setS] at e1
      by_cases he : j = off + i
      · subst he
        rw [if_pos ⟨rfl, by omega⟩] at e1
        subst e1
        have : v' = v := by
          rw [List.getElem?_set] at hv'
          simp at hv'
          exact hv'.2.symm
        subst this
        exact Rel.fut hfut (Keep.refl ρ) _ hv
      · rw [if_neg (fun h => he h.1)] at e1
        subst e1
        rw [List.getElem?_set_ne (Ne.symm he)] at hv'
        obtain ⟨v2, h3, h4⟩ := hl.get' hjl
        rw [h3] at hv'
        cases hv'
        exact Rel.fut hfut (Keep.refl ρ) _ h4
    obtain ⟨w', cs', r1, r2, r3, r4, r5, r6, r7, r8⟩ := run_storeCells hbS vs' ss _ _ off (i + 1) w1 hh1 hl1 (RelL.fut hfut (Keep.refl ρ) _ hs) hcell.2 (by simp [setS_length]; omega)
    refine ⟨w', cs', ?_, r2, by simpa [spl, Nat.add_assoc] using r3, fun k hk => (r4 k hk).trans (hsame k hk), r5.trans hsz, r6.trans hos, r7.trans htp, r8.trans hout⟩
    simp only [storeCells, Sem.run_bind]
    rw [add_off, hrun]
    exact r1


def noVal : SV := .raw undef

def castL (e e' : Ty) (xs : List e.D) : Option (List e'.D) := if h : e = e' then some (h ▸ xs) else none
theorem castL_some {e e' : Ty} {xs : List e.D} {ys : List e'.D} (h : castL e e' xs = some ys) : ∃ he : e = e', ys = he ▸ xs := by
  unfold castL at h
  split at h
  · rename_i he; cases h; exact ⟨he, rfl⟩
  · cases h
theorem castL_self (e : Ty) (xs : List e.D) : castL e e xs = some xs := by simp [castL]

/-- Cells over cells; over all of them: those alone. -/
def splx (l : List SV) (off : Nat) (xs : List SV) : List SV := if off = 0 ∧ xs.length = l.length then xs else spl l off xs
theorem spl_len : (xs l : List SV) → (off : Nat) → (spl l off xs).length = l.length
  | [], l, off => rfl
  | x :: xs, l, off => by simp only [spl]; rw [spl_len xs, setS_length]
theorem spl_cons : (xs : List SV) → (s : SV) → (l : List SV) → (off : Nat) → spl (s :: l) (off + 1) xs = s :: spl l off xs
  | [], s, l, off => rfl
  | x :: xs, s, l, off => by simp only [spl, setS]; exact spl_cons xs s _ _
theorem spl_all : (l xs : List SV) → xs.length = l.length → spl l 0 xs = xs
  | [], [], _ => rfl
  | [], x :: xs, h => by simp at h
  | s :: l, [], h => by simp at h
  | s :: l, x :: xs, h => by
    simp only [spl, setS]
    rw [spl_cons, spl_all l xs (by simpa using h)]
theorem splx_eq (l : List SV) (off : Nat) (xs : List SV) : splx l off xs = spl l off xs := by
  unfold splx
  split
  · rename_i h
    obtain ⟨rfl, h⟩ := h
    exact (spl_all l xs h).symm
  · rfl

def storex (P : Program) (t : TypeId) (x v : SV) (d : Option Nat) (σ : St) (K : St → Prop) : Prop :=
  match x with
  | .ptr nm off => match getB σ.H nm with
    | .cells l t' => sizeP P t = some (flat v).length ∧ off + (flat v).length ≤ l.length ∧ (flat v).all isCell = true ∧
        K { slots := setO σ.slots d noVal, H := setB σ.H nm (.cells (splx l off (flat v)) t') }
    | .own e xs t' => match v with
      | .ag (.arr e' n) ys => match castL e' e ys with
        | some zs => off = 0 ∧ sizeP P t = some (n * e.size) ∧ List.length xs = n ∧ K { slots := setO σ.slots d noVal, H := setB σ.H nm (.own e zs t') }
        | none => False
      | _ => False
    | _ => False
  | .eptr nm e i => match getB σ.H nm with
    | .own e' xs t' => match toDV no1 no2 [] e' v with
      | some y => e' = e ∧ sizeP P t = some e'.size ∧ i < List.length xs ∧ K { slots := setO σ.slots d noVal, H := setB σ.H nm (.own e' (xs.set i y) t') }
      | none => False
    | _ => False
  | _ => False

/-- Onto an own list. -/
def appendO (P : Program) (ti : TI) (et tx : TypeId) (nm n : Nat) (x : SV) (d : Option Nat) (σ : St) (K : St → Prop) : Blk → Prop
  | .own e xs t' => match srcq P σ.H nm e tx x with
    | some ys => t' = et ∧ ti.size = e.size ∧ n ≤ List.length xs ∧ List.length (xs.take n ++ ys) * (ti.bytes + 1) ≤ 140737488355328 ∧
        K { slots := setO (forgetL nm σ.slots) d (.osl nm (List.length (xs.take n ++ ys))), H := setB (forgetH nm σ.H) nm (.own e (xs.take n ++ ys) et) }
    | none => False
  | _ => False

/-- Onto nothing. -/
def appendN (P : Program) (ti : TI) (et tx : TypeId) (x : SV) (d : Option Nat) (σ : St) (K : St → Prop) : Option Ty → Prop
  | some e => match srcq P σ.H σ.H.length e tx x with
    | some ys => ti.size = e.size ∧ List.length ys * (ti.bytes + 1) ≤ 140737488355328 ∧ K (σ.put d ⟨True, .osl σ.H.length (List.length ys), some (.own e ys et)⟩)
    | none => False
  | none => False

/-- Onto a full slice. -/
def appendF (P : Program) (ti : TI) (et tx : TypeId) (e : Ty) (xs : List e.D) (d : Option Nat) (σ : St) (K : St → Prop) : Option (List e.D) → Prop
  | some ys => ti.size = e.size ∧ ys ≠ [] ∧ List.length (xs ++ ys) * (ti.bytes + 1) ≤ 140737488355328 ∧ K (σ.put d ⟨True, .osl σ.H.length (List.length (xs ++ ys)), some (.own e (xs ++ ys) et)⟩)
  | none => False

/-- Zeros onto nothing. -/
def appendZ (et : TypeId) (n : Int) (by_ : Nat) (d : Option Nat) (σ : St) (K : St → Prop) (e : Ty) : Option e.D → Prop
  | some z => 0 ≤ n ∧ n.toNat * (by_ + 1) ≤ 140737488355328 ∧ K (σ.put d ⟨True, .osl σ.H.length n.toNat, some (.own e (List.replicate n.toNat z) et)⟩)
  | none => False

def appendY (P : Program) (ti : TI) (et : TypeId) (n : Int) (d : Option Nat) (σ : St) (K : St → Prop) (kx : Option TK) : Option Ty → Prop
  | some e => match kx with
    | some (.int _) => appendZ et n ti.bytes d σ K e (zeroD e (some ti))
    | _ => False
  | none => False

def appendX (P : Program) (ti : TI) (et tx : TypeId) (x : SV) (d : Option Nat) (σ : St) (K : St → Prop) : Prop :=
  match x with
  | .int _ n => appendY P ti et n d σ K (tkOf P tx) (tyOf P 12 et)
  | x => appendN P ti et tx x d σ K (elemSV σ.H x)

def appendS (P : Program) (ti : TI) (et tx : TypeId) (s x : SV) (d : Option Nat) (σ : St) (K : St → Prop) : Prop :=
  match s with
  | .osl nm n => appendO P ti et tx nm n x d σ K (getB σ.H nm)
  | .nils => appendX P ti et tx x d σ K
  | .slf e xs => appendF P ti et tx e xs d σ K (srcq P σ.H σ.H.length e tx x)
  | _ => False

def appendT (P : Program) (et tx : TypeId) (s x : SV) (d : Option Nat) (σ : St) (K : St → Prop) : Option TI → Prop
  | some ⟨k, sz, by_, some z⟩ => (flat (ofConst z)).length = sz ∧ appendS P ⟨k, sz, by_, some z⟩ et tx s x d σ K
  | _ => False

def appendx (P : Program) (tx : TypeId) (s x : SV) (d : Option Nat) (σ : St) (K : St → Prop) : Option TK → Prop
  | some (.slice et) => appendT P et tx s x d σ K (tiOf P et)
  | _ => False

/-- The rune at a place of a text, and its width. -/
def dec (s : List UInt8) (i : Nat) : Nat × Nat := Utf8.decode ⟨s.toArray⟩ i

def nextx (nm : Nat) (d : Option Nat) (σ : St) (K : St → Prop) : Blk → Prop
  | .iter s pos => (pos < s.length → K { slots := setO σ.slots d (.tup [.kb true, .int .i64 pos, .int .i32 (dec s pos).1]), H := setB σ.H nm (.iter s (pos + (dec s pos).2)) }) ∧
      (s.length ≤ pos → K { slots := setO σ.slots d (.tup [.kb false]), H := σ.H })
  | _ => False

def nexts (x : SV) (d : Option Nat) (σ : St) (K : St → Prop) : Prop :=
  match x with
  | .ptr nm off => off = 0 ∧ nextx nm d σ K (getB σ.H nm)
  | _ => False

/-- An operation, whatever it does: what the state is behind it. -/
def OpTo (P : Program) (cx : Cx) (o : Oper) (a : Act) (w : World) (K : St → Prop) : Prop :=
  OpOk P o a w fun v w' => ∃ σ' S' ρ', K σ' ∧ Holds P cx σ' (a.put o.dst v) w' S' ρ'

theorem OpOk.mono {o : Oper} {a : Act} {w : World} {R R' : Value → World → Prop} (h : OpOk P o a w R) (hr : ∀ v w', R v w' → R' v w') : OpOk P o a w R' :=
  fun next Q hn => h next Q fun v w' hv => hn v w' (hr v w' hv)

theorem OpOk.skip {o : Oper} {a : Act} {w w' : World} {R : Value → World → Prop} (h : (execOp a.eval o).run P w = .ok .skip w') (hR : R undef w') : OpOk P o a w R :=
  fun next Q hn => by unfold Oper.wp; rw [h]; exact hn _ _ hR

theorem storex_ok {cx : Cx} {o : Oper} {σ : St} {a : Act} {w : World} {S : Nat → Prop} {ρ : Names} {t : TypeId} {x v : Operand} {K : St → Prop} (h : Holds P cx σ a w S ρ) (ho : o.op = .store t x v)
    (hk : storex P t (evS σ.slots x) (evS σ.slots v) o.dst σ K) : OpTo P cx o a w K := by
  have hx := evS_rel h.good.bounded h.slots x
  have hv := evS_rel h.good.bounded h.slots v
  unfold storex at hk
  split at hk
  · rename_i nm off hxe
    rw [hxe] at hx
    simp only [Rel] at hx
    obtain ⟨b, cap, hb, hxv⟩ := hx
    split at hk
    · rename_i l t' hl
      obtain ⟨hsz, hle, hall, hk⟩ := hk
      rw [splx_eq] at hk
      have hlive : (getB σ.H nm).live = true := by rw [hl]; rfl
      have hblk := h.good.rel nm
      rw [hl] at hblk
      obtain ⟨b', cap', hb', cs, hh, hr⟩ := hblk
      rw [hb] at hb'; cases hb'
      obtain ⟨hnS, hbl⟩ := h.good.apart nm b cap hlive hb
      have hne : evS σ.slots v ≠ .any ∧ (∀ u, evS σ.slots v ≠ .raw u) ∧ ∀ t x, evS σ.slots v ≠ .ag t x := by
        refine ⟨?_, ?_, ?_⟩
        · intro e; rw [e] at hall; simp [flat, isCell] at hall
        · intro u e; rw [e] at hall; simp [flat, isCell] at hall
        · intro t x e; rw [e] at hall; simp [flat, isCell] at hall
      have hf := flat_rel hv hne.1 hne.2.1 hne.2.2
      obtain ⟨w', cs', r1, r2, r3, r4, r5, r6, r7, r8⟩ := run_storeCells (P := P) hnS _ _ l cs off 0 w hh hr hf hall (by simpa using hle)
      obtain ⟨inf, hinf, hsz⟩ := sz_some hsz
      have hlen := hf.length
      have hrun : (execOp a.eval o).run P w = .ok .skip w' := by
        have hsz' : (a.eval v).cells.size = inf.size := by rw [hsz, ← hlen]; simp
        simp [execOp, ho, hxv, Instr.storeAt, Instr.sureAddr, storeVar, run_sizeOf hinf, hsz', r1]
      refine OpOk.skip hrun ⟨_, S, ρ, hk, ?_⟩
      have hu := h.update (blk' := .cells (spl l off (flat (evS σ.slots v))) t') hlive hb r6 r7 r8 r5 r4 (fun _ => ⟨b, cap, hb, cs', r2, by simpa using r3⟩) (by rw [hl]; rfl)
      exact hu.putSlot o.dst (x := noVal) (by simp [noVal, Rel])
    · rename_i e xs t' hl
      split at hk
      · rename_i e' n ys hve
        split at hk
        · rename_i zs hzs
          obtain ⟨rfl, rfl⟩ := castL_some hzs
          obtain ⟨rfl, hsz, hxl, hk⟩ := hk
          rw [hve] at hv
          simp only [Rel] at hv
          obtain ⟨c, hvv, hy1, hy2, hy3⟩ := hv
          have hlive : (getB σ.H nm).live = true := by rw [hl]; rfl
          have hblk := h.good.rel nm
          rw [hl] at hblk
          obtain ⟨ob, cap', hb', hle, hblk⟩ := hblk
          rw [hb] at hb'
          cases hb'
          obtain ⟨cs, fr, hh, hfr, hcl, hel⟩ := hblk
          obtain ⟨hnS, hbl⟩ := h.good.apart nm b cap hlive hb
          have hrep : Rep P (.arr e' n) S w zs c := ⟨hy1, hy2, hy3⟩
          have hfit : 0 + c.length ≤ cs.length := by
            rw [hy2, hcl, Nat.zero_add]
            exact Nat.mul_le_mul_right _ (by omega)
          have hst := run_storeCells_cells (P := P) b 0 c 0 w (fun j hj => by rw [cell_of hh, List.getElem?_eq_getElem (by omega)]; rfl) (fun j hj => by
            simp only [World.frozen?, hh]
            obtain ⟨lo, hi⟩ := fr
            simp only at hfr ⊢
            rcases hfr with h | h
            · subst h; simp; try omega
            · simp; omega) (Rep.one _ hrep)
          obtain ⟨g1, g2, g3, g4, g5⟩ := setCells_rest (b := b) c 0 w
          have hrow' := setCells_cells c 0 w cs hh hfit
          obtain ⟨inf, hinf, hsz⟩ := sz_some hsz
          have hrun : (execOp a.eval o).run P w = .ok .skip (w.setCells b 0 c) := by
            have hsz' : c.length = inf.size := by rw [hsz]; exact hy2
            simp only [Nat.add_zero] at hst
            simp [execOp, ho, hxv, Instr.storeAt, Instr.sureAddr, storeVar, run_sizeOf hinf, hsz', hvv, Value.cells, hst]
          refine OpOk.skip hrun ⟨_, S, ρ, hk, ?_⟩
          have hu := h.update (blk' := .own e' zs t') hlive hb g3 g4 g5 g2 g1 (fun hfut => ⟨some b, cap, hb, by rw [hy1]; omega, _, fr, hrow', by
              rcases hfr with h | h
              · exact .inl h
              · refine .inr (Nat.le_trans (Nat.le_of_eq ?_) h)
                simp only [List.length_append, List.length_take, List.length_drop]; omega, by rw [← hcl]; simp only [List.length_append, List.length_take, List.length_drop]; omega, ?_⟩) (by rw [hl]; rfl)
          · exact hu.putSlot o.dst (x := noVal) (by simp [noVal, Rel])
          · have hch : Chunks (Rep P e' S w) e'.size zs c := hy3
            have := (hch.more (cs.drop (0 + c.length))).mono fun _ _ hr => Rep.fut hfut e' hr
            simpa [Chunks] using this
        · exact hk.elim
      · exact hk.elim
    · exact hk.elim
  · rename_i nm e i hxe
    rw [hxe] at hx
    simp only [Rel] at hx
    obtain ⟨b, cap, hb, hxv⟩ := hx
    split at hk
    · rename_i e' xs t' hl
      split at hk
      · rename_i y hy
        obtain ⟨rfl, hsz, hi, hk⟩ := hk
        have hlive : (getB σ.H nm).live = true := by rw [hl]; rfl
        have hblk := h.good.rel nm
        rw [hl] at hblk
        obtain ⟨ob, cap', hb', hle, hblk⟩ := hblk
        rw [hb] at hb'
        cases hb'
        obtain ⟨cs, fr, hh, hfr, hcl, hel⟩ := hblk
        obtain ⟨hnS, hbl⟩ := h.good.apart nm b cap hlive hb
        have hrv := toDV_repV (H := []) (fun nm => by simp [getB, BlkRel]) (fun _ _ _ _ _ => no1_rep _ _ _ _ _) (fun _ _ _ _ _ _ => no2_rep _ _ _ _ _ _) hy hv
        have hrv' : RepV P e' S w y (a.eval v) := hrv.fut ⟨fun k hk => by
          rcases hk with hk | ⟨_, _, h1, _⟩
          · exact hk
          · simp [getB, Blk.live] at h1, fun _ _ => rfl⟩
        obtain ⟨c, hc1, hc2⟩ : ∃ c : List Value, (a.eval v).cells = c.toArray ∧ Rep P e' S w y c := by
          unfold RepV valueOf at hrv'
          split at hrv'
          · obtain ⟨c, hc, hr⟩ := hrv'
            exact ⟨c, by rw [hc]; rfl, hr⟩
          · refine ⟨[a.eval v], ?_, hrv'⟩
            have h1 := Rep.one e' hrv' (a.eval v) (by simp)
            cases hv2 : a.eval v <;> first | rfl | (rw [hv2] at h1; simp [Value.oneCell'] at h1)
        have hcl2 := hc2.length
        have hlt := chunk_lt (sz := e'.size) (j := 0) hi
        have hfit : i * e'.size + c.length ≤ cs.length := by
          rw [hcl2, hcl]
          have : (i + 1) * e'.size ≤ cap * e'.size := Nat.mul_le_mul_right _ (by omega)
          rw [Nat.add_mul] at this; omega
        have hst := run_storeCells_cells (P := P) b (i * e'.size) c 0 w (fun j hj => by rw [cell_of hh, List.getElem?_eq_getElem (by omega)]; rfl) (fun j hj => by
          simp only [World.frozen?, hh]
          obtain ⟨lo, hi⟩ := fr
          simp only at hfr ⊢
          rcases hfr with h | h
          · subst h; simp; try omega
          · simp; omega) (Rep.one e' hc2)
        obtain ⟨g1, g2, g3, g4, g5⟩ := setCells_rest (b := b) c (i * e'.size) w
        have hrow' := setCells_cells c (i * e'.size) w cs hh hfit
        obtain ⟨inf, hinf, hsz⟩ := sz_some hsz
        have hrun : (execOp a.eval o).run P w = .ok .skip (w.setCells b (i * e'.size) c) := by
          have hsz' : c.length = inf.size := by rw [hsz]; exact hcl2
          simp [execOp, ho, hxv, Instr.storeAt, Instr.sureAddr, storeVar, run_sizeOf hinf, hsz', hc1, hst]
        refine OpOk.skip hrun ⟨_, S, ρ, hk, ?_⟩
        have hu := h.update (blk' := .own e' (xs.set i y) t') hlive hb g3 g4 g5 g2 g1 (fun hfut => ⟨some b, cap, hb, by rw [List.length_set]; exact hle, _, fr, hrow', by
            rcases hfr with h | h
            · exact .inl h
            · refine .inr (Nat.le_trans (Nat.le_of_eq ?_) h)
              simp only [List.length_append, List.length_take, List.length_drop]; omega, by rw [← hcl]; simp only [List.length_append, List.length_take, List.length_drop]; omega, ?_⟩) (by rw [hl]; rfl)
        · exact hu.putSlot o.dst (x := noVal) (by simp [noVal, Rel])
        · intro j x hx
          by_cases hj : j = i
          · subst hj
            rw [List.getElem?_set_self (by omega)] at hx
            cases hx
            refine ⟨c, Rep.fut hfut e' hc2, hcl2, fun k v hk => ?_⟩
            have hk' := (List.getElem?_eq_some_iff.1 hk).1
            have e1 : (cs.take (j * e'.size)).length = j * e'.size := by rw [List.length_take]; omega
            rw [List.append_assoc, List.getElem?_append_right (by omega), e1, show j * e'.size + k - j * e'.size = k from by omega, List.getElem?_append_left (by omega)]
            exact hk
          · rw [List.getElem?_set_ne (Ne.symm hj)] at hx
            obtain ⟨c', r1, r2, r3⟩ := hel j x hx
            refine ⟨c', Rep.fut hfut e' r1, r2, fun k v hk => ?_⟩
            have hk' := (List.getElem?_eq_some_iff.1 hk).1
            have e1 : (cs.take (i * e'.size)).length = i * e'.size := by rw [List.length_take]; omega
            have := r3 k v hk
            rcases Nat.lt_or_ge j i with h1 | h1
            · have h2 := chunk_lt (sz := e'.size) (j := k) h1 (by omega)
              rw [List.append_assoc, List.getElem?_append_left (by omega), List.getElem?_take, if_pos h2]
              exact this
            · have h2 : (i + 1) * e'.size ≤ j * e'.size := Nat.mul_le_mul_right _ (by omega)
              rw [Nat.add_mul] at h2
              rw [List.getElem?_append_right (by rw [List.length_append, e1]; omega), List.length_append, e1, List.getElem?_drop, hcl2]
              rwa [show i * e'.size + e'.size + (j * e'.size + k - (i * e'.size + e'.size)) = j * e'.size + k from by omega]
      · exact hk.elim
    · exact hk.elim
  · exact hk.elim


theorem run_append_zeros {w : World} {t tx ty et : TypeId} {i : TypeInfo} {z : Value} (ht : P.underlying t = some (.slice et)) {k kx : IntKind} (htx : P.underlying tx = some (.int k)) (hi : P.info? et = some i) (hz : i.zero = some z) (hzs : z.cells.size = i.size)
    {n : Nat} {A : Option Addr} (hb : n * (i.bytes + 1) ≤ 140737488355328) :
    (n = 0 ∧ (Builtin.append_ #[t, tx] ty #[.slice A 0 0, .int kx n]).run P w = .ok (.slice A 0 0) w) ∨
    (0 < n ∧ (Builtin.append_ #[t, tx] ty #[.slice A 0 0, .int kx n]).run P w = .ok (.slice (some ⟨w.heap.size, 0, none⟩) n (grownCap w n 0 et))
      (w.drew.alloc (.cells (zeros z.cells (n * i.size) ++ Builtin.zeroCells z.cells (grownCap w n 0 et - n)) et))) := by
  have hb1 : n * i.bytes ≤ 140737488355328 := Nat.le_trans (Nat.mul_le_mul_left _ (Nat.le_succ _)) hb
  have hb2 : n ≤ 140737488355328 := Nat.le_trans (Nat.le_mul_of_pos_right _ (Nat.succ_pos _)) hb
  have hw : IntKind.i64.wrap (n : Int) = n := by rw [IntKind.wrap_i64]; omega
  have hw0 : IntKind.i64.wrap 0 = 0 := by rw [IntKind.wrap_i64]; rfl
  have hneg : ¬ ((n : Int) < 0) := by omega
  have hbig : ¬ (281474976710656 < (n : Int) * (i.bytes : Int)) := by rw [← Int.natCast_mul]; omega
  rcases Nat.eq_zero_or_pos n with h0 | h0
  · subst h0
    refine .inl ⟨rfl, ?_⟩
    cases A <;> simp [Builtin.append_, run_underlying ht, run_underlying htx, sizeOf, typeInfo, hi, asInt, asIntOf, hw0, storeCells]
  · refine .inr ⟨h0, ?_⟩
    have hfit := growslice_fits h0 hb1
    have h48' : ¬ (281474976710656 < Builtin.nextslicecap n 0 * i.bytes) := by omega
    have h63' : ¬ (9223372036854775807 < (n : Int)) := by omega
    have hn0 : ¬ n = 0 := by omega
    have e0 : Array.range 0 = #[] := rfl
    have hns0 : i.size ≠ 0 → ¬ n * i.size = 0 := fun h => Nat.mul_ne_zero hn0 h
    have hzz : zeros z.cells (n * i.size) = Builtin.zeroCells z.cells n := by simp [zeros, Builtin.zeroCells, hzs]
    by_cases hs : i.size = 0
    · cases A <;> simp [Builtin.append_, run_underlying ht, run_underlying htx, sizeOf, typeInfo, zeroValue, hi, hz, asInt, asIntOf, hw, hneg, hbig, hn0, h63', h48', Question.forced, newRow, grownCap, hs, Builtin.firstCells, zeros, e0, loadCells, loadCellsFrom]
    · have hns := hns0 hs
      cases A <;> simp [Builtin.append_, run_underlying ht, run_underlying htx, sizeOf, typeInfo, zeroValue, hi, hz, asInt, asIntOf, hw, hneg, hbig, hn0, h63', h48', Question.forced, newRow, grownCap, hns, Builtin.firstCells, hzz, loadCells, loadCellsFrom]

theorem appendx_ok {cx : Cx} {o : Oper} {σ : St} {a : Act} {w : World} {S : Nat → Prop} {ρ : Names} {t tx : TypeId} {s x : Operand} {c : Call} {K : St → Prop} (h : Holds P cx σ a w S ρ) (ho : o.op = .call c) (hc : c.callee = .builtin .append) (ha : c.args.toList = [s, x]) (hat : c.argTypes.toList = [t, tx])
    (hk : appendx P tx (evS σ.slots s) (evS σ.slots x) o.dst σ K (tkOf P t)) : OpTo P cx o a w K := by
  have hs := evS_rel h.good.bounded h.slots s
  have hx := evS_rel h.good.bounded h.slots x
  have ha' : c.args = #[s, x] := by apply Array.ext'; simpa using ha
  have hat' : c.argTypes = #[t, tx] := by apply Array.ext'; simpa using hat
  have hrun : ∀ v w', (Builtin.append_ #[t, tx] o.type #[a.eval s, a.eval x]).run P w = .ok v w' → (execOp a.eval o).run P w = .ok (.value v) w' := by
    intro v w' hr
    simp [execOp, ho, resolve, hc, invoke, builtin, ha', hat', hr]
  cases htk : tkOf P t with
  | none => rw [htk] at hk; exact hk.elim
  | some kt =>
    rw [htk] at hk
    cases kt with
    | slice et =>
      simp only [appendx] at hk
      obtain ⟨_, _, d1, _, _, hd1, e1⟩ := tk_some htk
      have e1' : d1 = .slice et := by cases d1 <;> simp [kindOf] at e1 <;> simp_all
      subst e1'
      unfold appendT at hk
      split at hk
      · rename_i k sz by_ z hti
        obtain ⟨hzl, hk⟩ := hk
        obtain ⟨i, hi, hi1, hi2, hi3⟩ := ti_at hti
        rw [zcells_length] at hzl
        unfold appendS at hk
        split at hk
        · rename_i nm n hse
          rw [hse] at hs
          simp only [Rel] at hs
          obtain ⟨ob, cap, A, hρ, hob0, hsv⟩ := hs
          unfold appendO at hk
          split at hk
          · rename_i e xs t' hl
            split at hk
            · rename_i ys hys
              obtain ⟨rfl, hsz, hn, hb, hk⟩ := hk
              simp only at hsz hb
              have hlive : (getB σ.H nm).live = true := by rw [hl]; rfl
              have hblk := h.good.rel nm
              rw [hl] at hblk
              obtain ⟨ob', cap', hb', hle, hblk⟩ := hblk
              rw [hρ] at hb'
              obtain ⟨rfl, rfl⟩ : ob = ob' ∧ cap = cap' := by simpa using hb'
              obtain ⟨news, hsrc, hch⟩ := srcq_ok h.good.rel hys hx
              obtain ⟨ob2, cap2, A2, w', r1, r8, r2, r3, r4, r5, r6, r7, r9, r10⟩ := run_append (P := P) (S := S) (ty := o.type) (t := t) (nm := nm) (cap := cap) (n := n) (ob := ob) (A := A) hd1 hi hi3 (by rw [hi1]; exact hsz) (by rw [hzl]; exact hsz) hle hn hblk hob0 hsrc hch (by rw [hi2]; exact hb) h.good.bounded (fun b hbb => by subst hbb; exact h.good.apart nm b cap hlive hρ)
              rw [← hsv] at r1
              refine OpOk.value (hrun _ _ r1) ⟨_, S, setN ρ nm (ob2, cap2), hk, ?_⟩
              have hre := h.rename (ob' := ob2) (cap' := cap2) (blk' := .own e (List.take n xs ++ ys) t') (by rw [hl]; rfl) rfl r2 r3 r4 r5 (fun k hk1 hk2 => r6 k hk1 fun he => hk2 cap (by rw [hρ, he])) (fun b hbb => (r7 b hbb).imp (fun he => ⟨cap, by rw [hρ, he]⟩) id) (fun _ => r10 _ (by simp [setN]))
              refine hre.putSlot o.dst ?_
              simp only [Rel]
              exact ⟨ob2, cap2, A2, by simp [setN], r8, rfl⟩
            · exact hk.elim
          · exact hk.elim
        · rename_i hse
          rw [hse] at hs
          simp only [Rel] at hs
          obtain ⟨A, hs⟩ := hs
          unfold appendX at hk
          split at hk
          · rename_i kx n hxe
            rw [hxe] at hx
            simp only [Rel] at hx
            unfold appendY at hk
            split at hk
            · rename_i e he
              split at hk
              · rename_i k' htx
                obtain ⟨_, _, d2, _, _, hd2, e2⟩ := tk_some htx
                have e2' : d2 = .int k' := by cases d2 <;> simp [kindOf] at e2 <;> simp_all
                subst e2'
                unfold appendZ at hk
                split at hk
                · rename_i z0 hz0
                  obtain ⟨h0, hb, hk⟩ := hk
                  obtain ⟨m, rfl⟩ := Int.eq_ofNat_of_zero_le h0
                  simp only [Int.toNat_natCast] at hb hk
                  unfold zeroD at hz0
                  simp only at hz0
                  split at hz0
                  · rename_i hsz
                    have hrep := (toD_rep (P := P) (ρ := ρ) (w := w) (S := S) noH (fun _ _ _ _ _ => no1_rep _ _ _ _ _) (fun _ _ _ _ _ _ => no2_rep _ _ _ _ _ _) e hz0 zcells).here
                    have hzs : z.cells.size = e.size := by have := hrep.length; simpa using this
                    have hfr := h.fresh σ.H.length (Nat.le_refl _)
                    rcases run_append_zeros (P := P) (w := w) (ty := o.type) (kx := kx) (n := m) (A := A) hd1 hd2 hi hi3 (by rw [hi1]; exact hzl) (by rw [hi2]; exact hb) with ⟨rfl, hr⟩ | ⟨hm, hr⟩
                    · rw [← hs, ← hx] at hr
                      refine OpOk.value (hrun _ _ hr) ⟨_, S, setN ρ σ.H.length (none, 0), hk, ?_⟩
                      have hn : setN ρ σ.H.length (none, 0) σ.H.length = some (none, 0) := by simp [setN]
                      refine h.put o.dst (q := ⟨True, .osl σ.H.length 0, some (.own e (List.replicate 0 z0) et)⟩) ⟨Ext.refl h.good.bounded, setN_keep hfr, fun k hk => by simp [setN, hk], fun h => (by cases h), fun blk hbk => ?_⟩ ?_
                      · cases hbk
                        exact ⟨⟨none, 0, hn, by simp, rfl⟩, fun b cap he => by rw [hn] at he; cases he⟩
                      · simp only [Rel]
                        exact ⟨none, 0, A, hn, ⟨rfl, rfl⟩, hs⟩
                    · rw [← hs, ← hx] at hr
                      have hge := grownCap_ge w m 0 et
                      obtain ⟨g1, g2, g3, g4, g5, g6⟩ := alloc_facts (w := w.drew) (.cells (zeros z.cells (m * i.size) ++ Builtin.zeroCells z.cells (grownCap w m 0 et - m)) et)
                      have hch := (chunks_zeros (R := Rep P e S w) hzs hrep m m (Nat.le_refl _)).more (Builtin.zeroCells z.cells (grownCap w m 0 et - m)).toList
                      obtain ⟨hq, hn⟩ := newOwn (P := P) (ρ := ρ) (S := S) (w := w) (base := σ.H.length) (e := e) (cap := grownCap w m 0 et) (xs := List.replicate m z0) (cs := (zeros z.cells (m * i.size) ++ Builtin.zeroCells z.cells (grownCap w m 0 et - m)).toList) (fr := (0, 0)) (et := et) h.good.bounded hfr (by simpa using hge) (by
                        have := zeroCells_len z.cells (grownCap w m 0 et - m)
                        rw [hzs] at this
                        simp only [Array.toList_append, List.length_append, Array.length_toList, this]
                        simp only [zeros, Array.size_map, Array.size_range, hi1, hsz, ← Nat.add_mul]
                        congr 1; omega) (by simpa [hi1, hsz] using hch) (.inl rfl) (by rw [Array.toArray_toList]; exact g1) g2 g3 g4 g5 g6
                      refine OpOk.value (hrun _ _ hr) ⟨_, S, _, hk, h.put o.dst (q := ⟨True, .osl σ.H.length m, some (.own e (List.replicate m z0) et)⟩) hq ?_⟩
                      simp only [Rel]
                      exact ⟨some w.heap.size, _, _, hn, rfl, rfl⟩
                  · cases hz0
                · exact hk.elim
              · exact hk.elim
            · exact hk.elim
          unfold appendN at hk
          split at hk
          · rename_i e he
            split at hk
            · rename_i ys hys
              obtain ⟨hsz, hb, hk⟩ := hk
              simp only at hsz hb
              obtain ⟨news, hsrc, hch⟩ := srcq_ok h.good.rel hys hx
              obtain ⟨ob2, cap2, A2, w', r1, r8, r2, r3, r4, r5, r6, r7, r9, r10⟩ := run_append (P := P) (S := S) (e := e) (xs := []) (ty := o.type) (t := t) (nm := σ.H.length) (cap := 0) (n := 0) (ob := none) (A := A) hd1 hi hi3 (by rw [hi1]; exact hsz) (by rw [hzl]; exact hsz) (by simp) (by simp) rfl ⟨rfl, rfl⟩ hsrc hch (by rw [hi2]; simpa using hb) h.good.bounded (fun b hbb => by cases hbb)
              have hs' : a.eval s = .slice A 0 0 := hs
              rw [← hs'] at r1
              have hfr := h.fresh σ.H.length (Nat.le_refl _)
              have hext : Ext S w S w' := ⟨fun _ h => h, r5, fun k hk => r6 k hk (by simp), r2, r3, r4, fun _ h => .inl h, fun k hk => Nat.lt_of_lt_of_le (h.good.bounded.lt k hk) r5⟩
              refine OpOk.value (hrun _ _ r1) ⟨_, S, setN ρ σ.H.length (ob2, cap2), hk, ?_⟩
              refine h.put o.dst (q := ⟨True, .osl σ.H.length (List.length ys), some (.own e ys et)⟩) ⟨hext, setN_keep hfr, fun k hk => by simp [setN, hk], fun h => (by cases h), fun blk hbk => ?_⟩ ?_
              · cases hbk
                refine ⟨by simpa using r10 (setN ρ σ.H.length (ob2, cap2)) (by simp [setN]), fun b cap hb2 => ?_⟩
                have : ob2 = some b := by have : setN ρ σ.H.length (ob2, cap2) σ.H.length = some (ob2, cap2) := by simp [setN]
                                          rw [this] at hb2; cases hb2; rfl
                rcases r7 b this with h1 | h1
                · cases h1
                · exact ⟨h1.1, h1.2, fun h2 => by have := h.good.bounded.lt b h2; omega⟩
              · simp only [Rel]
                exact ⟨ob2, cap2, A2, by simp [setN], by simpa using r8, by simp⟩
            · exact hk.elim
          · exact hk.elim
        · rename_i e xs hse
          rw [hse] at hs
          simp only [Rel] at hs
          unfold appendF at hk
          split at hk
          · rename_i ys hys
            obtain ⟨hsz, hne, hb, hk⟩ := hk
            simp only at hsz hb
            obtain ⟨⟨A, hsv⟩, hrep⟩ := hs
            obtain ⟨news, hsrc, hch⟩ := srcq_ok h.good.rel hys hx
            obtain ⟨A', cap', e2, hsl⟩ := hrep
            rw [hsv] at e2
            obtain ⟨rfl, rfl⟩ : A = A' ∧ List.length xs = cap' := by simpa using e2
            obtain ⟨olds, ho1, ho2, ho3, ho4⟩ := hsl.cells (fun _ _ hr => hr.length) (fun _ _ hr => Rep.one e hr)
            have hly : 0 < List.length ys := List.length_pos_iff.2 hne
            rw [List.length_append] at hb
            have hgt : List.length xs < List.length xs + List.length ys := by omega
            have hb1 : (List.length xs + List.length ys) * by_ ≤ 140737488355328 := Nat.le_trans (Nat.mul_le_mul_left _ (Nat.le_succ _)) hb
            have hb2 : List.length xs + List.length ys ≤ 140737488355328 := Nat.le_trans (Nat.le_mul_of_pos_right _ (Nat.succ_pos _)) hb
            have hfirst : (Builtin.firstCells i.size (List.length xs) (.slice A (List.length xs) (List.length xs))).run P w.drew = .ok olds.toArray w.drew := by
              rw [hi1, hsz]
              rcases ho4 with ⟨h1, h2⟩ | ⟨ad, rfl, h1⟩
              · subst h1; subst h2
                cases A with
                | none => simp [Builtin.firstCells]
                | some ad => exact run_firstCells_some w.drew e.size 0 ad 0 0 [] (by simp) (by simp)
              · exact run_firstCells_some w.drew e.size _ ad _ _ olds ho1 (by simpa using h1)
            have hr := run_append_grow_src w t tx o.type et i z hd1 hi hi3 A (List.length xs) (List.length xs) olds hfirst (a.eval x) (List.length ys) news (by rw [hi1, hsz]; exact hsrc) hgt (by omega) (growslice_fits hgt (by rw [hi2]; exact hb1))
            rw [← hsv] at hr
            have hfr := h.fresh σ.H.length (Nat.le_refl _)
            have hge := grownCap_ge w (List.length xs + List.length ys) (List.length xs) et
            have hold : ∀ k, k < w.heap.size → (w.drew.alloc (.cells ((olds ++ news).toArray ++ Builtin.zeroCells z.cells (grownCap w (List.length xs + List.length ys) (List.length xs) et - (List.length xs + List.length ys))) et)).heap[k]? = w.heap[k]? := fun k hk => by
              show (w.heap.push _)[k]? = _
              rw [Array.getElem?_push, if_neg (by omega)]
            have hext : Ext S w S (w.drew.alloc (.cells ((olds ++ news).toArray ++ Builtin.zeroCells z.cells (grownCap w (List.length xs + List.length ys) (List.length xs) et - (List.length xs + List.length ys))) et)) :=
              ⟨fun _ h => h, by simp, hold, rfl, rfl, rfl, fun _ h => .inl h, fun k hk => by have := h.good.bounded.lt k hk; simp; omega⟩
            refine OpOk.value (hrun _ _ hr) ⟨_, S, setN ρ σ.H.length (some w.heap.size, grownCap w (List.length xs + List.length ys) (List.length xs) et), hk, ?_⟩
            refine h.put o.dst (q := ⟨True, .osl σ.H.length (List.length (xs ++ ys)), some (.own e (xs ++ ys) et)⟩) ⟨hext, setN_keep hfr, fun k hk => by simp [setN, hk], fun h => (by cases h), fun blk hbk => ?_⟩ ?_
            · cases hbk
              have hn : setN ρ σ.H.length (some w.heap.size, grownCap w (List.length xs + List.length ys) (List.length xs) et) σ.H.length = some (some w.heap.size, grownCap w (List.length xs + List.length ys) (List.length xs) et) := by simp [setN]
              refine ⟨⟨some w.heap.size, _, hn, by rw [List.length_append]; exact hge, olds ++ news ++ (Builtin.zeroCells z.cells (grownCap w (List.length xs + List.length ys) (List.length xs) et - (List.length xs + List.length ys))).toList, (0, 0), ?_, .inl rfl, ?_, ?_⟩, fun b cap hb2 => ?_⟩
              · show (w.heap.push _)[w.heap.size]? = _
                rw [Array.getElem?_push, if_pos rfl]
                congr 2
                apply Array.ext'
                simp
              · have hz := zeroCells_len z.cells (grownCap w (List.length xs + List.length ys) (List.length xs) et - (List.length xs + List.length ys))
                rw [hzl, hsz] at hz
                simp only [List.length_append, Array.length_toList, hz, ho1, hsrc.newsLen, ← Nat.add_mul]
                congr 1
                omega
              · have hch2 := (ho2.append ho1 hch).more (Builtin.zeroCells z.cells (grownCap w (List.length xs + List.length ys) (List.length xs) et - (List.length xs + List.length ys))).toList
                exact hch2.mono fun _ _ hr => Rep.fut ⟨fun _ h => h, fun k hk => hold k (h.good.bounded.lt k hk)⟩ e hr
              · rw [hn] at hb2
                cases hb2
                exact ⟨Nat.le_refl _, by simp, fun h2 => by have := h.good.bounded.lt _ h2; omega⟩
            · simp only [Rel]
              exact ⟨some w.heap.size, grownCap w (List.length xs + List.length ys) (List.length xs) et, _, by simp [setN], rfl, by rw [List.length_append]⟩
          · exact hk.elim
        · exact hk.elim
      · exact hk.elim
    | _ => exact hk.elim

def setO1 (w : World) (b : Nat) (o : Obj) : World := { w with heap := w.heap.setIfInBounds b o }

theorem nexts_ok {cx : Cx} {o : Oper} {σ : St} {a : Act} {w : World} {S : Nat → Prop} {ρ : Names} {x : Operand} {K : St → Prop} (h : Holds P cx σ a w S ρ) (ho : o.op = .next x true)
    (hk : nexts (evS σ.slots x) o.dst σ K) : OpTo P cx o a w K := by
  have hx := evS_rel h.good.bounded h.slots x
  unfold nexts at hk
  split at hk
  · rename_i nm off hxe
    rw [hxe] at hx
    simp only [Rel] at hx
    obtain ⟨b, cap, hb, hxv⟩ := hx
    obtain ⟨rfl, hk⟩ := hk
    unfold nextx at hk
    split at hk
    · rename_i s pos hl
      have hlive : (getB σ.H nm).live = true := by rw [hl]; rfl
      have hblk := h.good.rel nm
      rw [hl] at hblk
      obtain ⟨b', cap', hb', hh⟩ := hblk
      rw [hb] at hb'; cases hb'
      have hsz : (⟨s.toArray⟩ : ByteArray).size = s.length := mkStr_size s
      have hgo : (getObj b).run P w = .ok (.stringIter ⟨s.toArray⟩ pos) w := by simp [getObj, Sem.run, hh]
      by_cases hlt : pos < s.length
      · have hk := hk.1 hlt
        have hrun : (execOp a.eval o).run P w = .ok (.value (.tuple #[.bool true, goInt pos, .int .i32 (dec s pos).1])) (setO1 w b (.stringIter ⟨s.toArray⟩ (pos + (dec s pos).2))) := by
          have hst : (setObj b (.stringIter ⟨s.toArray⟩ (pos + (Utf8.decode ⟨s.toArray⟩ pos).2))).run P w = .ok () (setO1 w b (.stringIter ⟨s.toArray⟩ (pos + (Utf8.decode ⟨s.toArray⟩ pos).2))) := by simp [setObj, Sem.run, hh, setO1]
          simp [execOp, ho, hxv, Instr.next, hgo, hsz, hlt, dec, hst]
        refine OpOk.value hrun ⟨_, S, ρ, hk, ?_⟩
        have hlb := (h.good.apart nm b cap hlive hb).2
        have hu := h.update (w' := setO1 w b (.stringIter ⟨s.toArray⟩ (pos + (dec s pos).2))) (blk' := .iter s (pos + (dec s pos).2)) hlive hb rfl rfl rfl (by simp [setO1]) (fun k hk => by simp [setO1, Array.getElem?_setIfInBounds, Ne.symm hk]) (fun _ => ⟨b, cap, hb, by simp [setO1, Array.getElem?_setIfInBounds, hlb]⟩) (by rw [hl]; rfl)
        refine hu.putSlot o.dst ?_
        simp only [Rel, RelL]
        exact ⟨[.bool true, goInt pos, .int .i32 (dec s pos).1], rfl, _, _, rfl, rfl, _, _, rfl, rfl, _, _, rfl, rfl, rfl⟩
      · have hk := hk.2 (by omega)
        have hrun : (execOp a.eval o).run P w = .ok (.value (.tuple #[.bool false])) w := by
          simp [execOp, ho, hxv, Instr.next, hgo, hsz, hlt]
        refine OpOk.value hrun ⟨_, S, ρ, hk, h.putSlot o.dst ?_⟩
        simp only [Rel, RelL]
        exact ⟨[.bool false], rfl, _, _, rfl, rfl, rfl⟩
    · exact hk.elim
  · exact hk.elim

def mapx2 (d : TypeDesc) (e : Ty) (m : List (MK × e.D)) (nm : Nat) (dst : Option Nat) (σ : St) (K : St → Prop) : Option MK → Option e.D → Prop
  | some k, some v => K { slots := setO σ.slots dst noVal, H := setB σ.H nm (.mp d e (mset m k v)) }
  | _, _ => False
def mapx1 (d : TypeDesc) (k v : SV) (nm : Nat) (dst : Option Nat) (σ : St) (K : St → Prop) : Blk → Prop
  | .mp d' e m => sameD d' d = true ∧ mapx2 d' e m nm dst σ K (keySV d' k) (toDV no1 no2 [] e v)
  | _ => False
/-- A map's entry is set. -/
def mapx (m k v : SV) (dst : Option Nat) (σ : St) (K : St → Prop) : Option (TypeDesc × TypeId) → Prop
  | some r => match m with
    | .mp nm => mapx1 r.1 k v nm dst σ K (getB σ.H nm)
    | _ => False
  | none => False


theorem mapx_ok {P : Program} {cx : Cx} {o : Oper} {σ : St} {a : Act} {w : World} {S : Nat → Prop} {ρ : Names} {t : TypeId} {m k v : Operand} {K : St → Prop} (h : Holds P cx σ a w S ρ) (ho : o.op = .mapUpdate t m k v ∨ o.op = .insert t m k v)
    (hk : mapx (evS σ.slots m) (evS σ.slots k) (evS σ.slots v) o.dst σ K (mapOf P t)) : OpTo P cx o a w K := by
  have hmr := evS_rel h.good.bounded h.slots m
  have hkr := evS_rel h.good.bounded h.slots k
  have hvr := evS_rel h.good.bounded h.slots v
  cases hm : mapOf P t with
  | none => rw [hm] at hk; exact hk.elim
  | some r =>
    rw [hm] at hk
    obtain ⟨kt, hu, hd⟩ := mapOf_some hm
    unfold mapx at hk
    simp only at hk
    split at hk
    · rename_i nm hse
      rw [hse] at hmr
      simp only [Rel] at hmr
      obtain ⟨b, cap, hbn, hmv⟩ := hmr
      unfold mapx1 at hk
      split at hk
      · rename_i d' e kvs hl
        obtain ⟨hsd, hk⟩ := hk
        have hsd := sameD_eq hsd
        subst hsd
        unfold mapx2 at hk
        split at hk
        · rename_i k' v' hks hvs
          obtain ⟨hko, hkv⟩ := keySV_ok hks hkr
          have hik := mkOk_key hko
          have hvv : RepV P e S w v' (a.eval v) := (toDV_repV (P := P) (S := S) (w := w) (ρ := ρ) noH (fun _ _ _ _ _ => no1_rep _ _ _ _ _) (fun _ _ _ _ _ _ => no2_rep _ _ _ _ _ _) hvs hvr).here
          have hblk := h.good.rel nm
          rw [hl] at hblk
          obtain ⟨b', cap', hb', es, clock, hh, hmrel⟩ := hblk
          rw [hbn] at hb'; cases hb'
          have hlive : (getB σ.H nm).live = true := by rw [hl]; rfl
          have hex : (execOp a.eval o).run P w = ((do Instr.mapUpdate t (a.eval m) (a.eval k) (a.eval v); pure .skip : Sem Next)).run P w := by rcases ho with ho | ho <;> simp [execOp, ho]
          have fin : ∀ (es' : List MapEntry) (clock' : Nat), (∀ S' w', Fut S w S' w' → MapRel P S' w' r.1 e (mset kvs k' v') es') → (Instr.mapUpdate t (a.eval m) (a.eval k) (a.eval v)).run P w = .ok () { w with heap := w.heap.setIfInBounds b (.map es'.toArray clock') } → OpTo P cx o a w K := by
            intro es' clock' hrel hrun
            refine OpOk.skip (w' := { w with heap := w.heap.setIfInBounds b (.map es'.toArray clock') }) (by rw [hex]; simp [hrun]) ⟨_, S, ρ, hk, ?_⟩
            obtain ⟨g1, g2⟩ := MapKept.heap_set (o' := .map es'.toArray clock') hh
            have hu := h.update (w' := { w with heap := w.heap.setIfInBounds b (.map es'.toArray clock') }) (blk' := .mp r.1 e (mset kvs k' v')) hlive hbn rfl rfl rfl (by simp) (fun q hq => g2 q hq) (fun hf => ⟨b, cap, hbn, es', clock', g1, hrel S _ hf⟩) (by rw [hl]; rfl)
            exact hu.putSlot o.dst (by simp [noVal, Rel])
          rcases mapFind hko kvs hmrel 0 with ⟨g1, g2, g3⟩ | ⟨j, y, x', g1, g2, g3, g4, g5, g6⟩
          · refine fin (es ++ [⟨keyV k', a.eval v, clock⟩]) (clock + 1) (fun S' w' hf => (g3 v' (a.eval v) clock hvv).fut hf) ?_
            rw [hmv, hkv]
            simp [Instr.mapUpdate, run_underlying hu, MapKept.run_getObj_map hh, MapKept.run_checkKey hd hik, MapKept.run_findKey hd g1, MapKept.run_setObj_map _ hh, Result.andThen]
          · refine fin (es.modify j fun z => { z with key := keyV k', val := a.eval v }) clock (fun S' w' hf => (g6 v' (a.eval v) hvv).fut hf) ?_
            rw [Nat.zero_add] at g1
            have hj : es.toArray[j]? = some y := by simpa using g2
            rw [hmv, hkv]
            simp [Instr.mapUpdate, run_underlying hu, MapKept.run_getObj_map hh, MapKept.run_checkKey hd hik, MapKept.run_findKey hd g1, g2, g3, MapKept.run_keyThatStays hik, MapKept.run_setObj_map _ hh, Result.andThen]
        · exact hk.elim
      · exact hk.elim
    · exact hk.elim

/-! #### a call that turns boxes -/

def boxDt (t : Ty) (tid : TypeId) : Nat → Blk → Option t.D
  | 0, .cells l t' => if t' = tid then toD no1 no2 [] t l else none
  | _, _ => none

def eCons (t : Ty) (ds : List EA) : Option t.D → Option (EArgs ds × List Nat) → Option (EArgs (.pl t :: ds) × List Nat)
  | some x, some r => some ((x, r.1), r.2)
  | _, _ => none
def eConsB (t : Ty) (tid : TypeId) (ds : List EA) (nm : Nat) : Option t.D → Option (EArgs ds × List Nat) → Option (EArgs (.bx t tid :: ds) × List Nat)
  | some x, some r => if r.2.contains nm = true then none else some ((x, r.1), nm :: r.2)
  | _, _ => none

/-- What a call is handed, and the boxes' names. -/
def eArgs (H : List Blk) : (ds : List EA) → List SV → Option (EArgs ds × List Nat)
  | [], [] => some ((), [])
  | .pl t :: ds, s :: l => eCons t ds (toDV no1 no2 [] t s) (eArgs H ds l)
  | .bx t tid :: ds, .ptr nm off :: l => eConsB t tid ds nm (boxDt t tid off (getB H nm)) (eArgs H ds l)
  | _, _ => none

/-- What the boxes hold behind a call. -/
def setBx (H : List Blk) : (ds : List EA) → List Nat → Args (bxs ds) → List Blk
  | .pl _ :: ds, nms, y => setBx H ds nms y
  | .bx t tid :: ds, nm :: nms, y => setBx (setB H nm (.cells (ofD t y.1) tid)) ds nms y.2
  | _, _, _ => H

def callEf (σ : St) (ef : EF) (d : Option Nat) (K : St → Prop) : Option (EArgs ef.doms × List Nat) → Prop
  | some r => ef.pre r.1 ∧ K { slots := setO σ.slots d (ofRes ef.cods (ef.fn r.1).1), H := setBx σ.H ef.doms r.2 (ef.fn r.1).2 }
  | none => False

/-- Behind a call the caller's slots are as its frame has them. -/
def frameK2 (n : Nat) (vs : List Value) (d : Option Nat) (K : St → Prop) (rv : SV) (H' : List Blk) : Blk → Prop
  | .frame l vs' => vs' = vs ∧ K { slots := setO l d rv, H := setB H' n .gone }
  | _ => False
def frameK (n : Nat) (vs : List Value) (d : Option Nat) (K : St → Prop) (rv : SV) (H' : List Blk) : Prop := frameK2 n vs d K rv H' (getB H' n)
def callE2 (σ : St) (args : List SV) (d : Option Nat) (K : St → Prop) (ef : EF) : Option WP → Prop
  | none => callEf σ ef d K (eArgs σ.H ef.doms args)
  | some W => ∀ vs : List Value, W args (σ.H ++ [.frame σ.slots vs]) (frameK σ.H.length vs d K)
def callEo (σ : St) (args : List SV) (d : Option Nat) (K : St → Prop) : Option EF → Prop
  | some ef => callE2 σ args d K ef ef.wp
  | none => False
def callEt (σ : St) (args : List SV) (d : Option Nat) (K : St → Prop) : Option TF → Prop
  | some tf => callEo σ args d K tf.eff
  | none => False
def callEx (tbl : List (FuncId × TF)) (σ : St) (args : List SV) (d : Option Nat) (K : St → Prop) : SV → Prop
  | .fn id caps => callEt σ (args ++ caps) d K (tlook tbl id)
  | .bd id l => callEt σ (l ++ args) d K (tlook tbl id)
  | _ => False
/-- The method of a dynamic type. -/
def mthOf (P : Program) (t : TypeId) (name : String) : Option FuncId :=
  match P.info? t with
  | some i => match i.methods.find? (·.name == name) with
    | some m => if m.path.isEmpty = true then match m.func with
        | some (f, ptr) => match P.underlying t, ptr with
          | some (.pointer _), true => some f
          | some (.pointer _), false => none
          | some _, false => some f
          | _, _ => none
        | none => none
      else none
    | none => none
  | none => none
def callIf (tbl : List (FuncId × TF)) (σ : St) (args : List SV) (d : Option Nat) (K : St → Prop) : Option FuncId → Prop
  | some f => callEt σ args d K (tlook tbl f)
  | none => False
def callIx (P : Program) (tbl : List (FuncId × TF)) (σ : St) (name : String) (args : List SV) (d : Option Nat) (K : St → Prop) : SV → Prop
  | .ifc t x => callIf tbl σ (x :: args) d K (mthOf P t name)
  | _ => False

section
variable {P : Program}

/-- The names of the boxes handed, and their blocks. -/
def NamesAt (ρ : Names) (H : List Blk) : List EA → List Nat → List Nat → Prop
  | [], nms, bs => nms = [] ∧ bs = []
  | .pl _ :: ds, nms, bs => NamesAt ρ H ds nms bs
  | .bx _ tid :: ds, nms, bs => ∃ nm nms' b bs', nms = nm :: nms' ∧ bs = b :: bs' ∧ (∃ cap l, ρ nm = some (some b, cap) ∧ getB H nm = .cells l tid) ∧ nm ∉ nms' ∧ NamesAt ρ H ds nms' bs'

theorem NamesAt.back {ρ : Names} {H : List Blk} : (ds : List EA) → {nms bs : List Nat} → NamesAt ρ H ds nms bs → ∀ b ∈ bs, ∃ nm ∈ nms, ∃ cap, ρ nm = some (some b, cap) ∧ (getB H nm).live = true ∧ (getB H nm).isOwn = false
  | [], nms, bs, h, b, hb => by obtain ⟨_, rfl⟩ := h; cases hb
  | .pl _ :: ds, nms, bs, h, b, hb => NamesAt.back ds h b hb
  | .bx t tid :: ds, nms, bs, h, b, hb => by
    obtain ⟨nm, nms', b', bs', rfl, rfl, ⟨cap, l, h1, h2⟩, h3, h4⟩ := h
    rcases List.mem_cons.1 hb with rfl | hb
    · exact ⟨nm, by simp, cap, h1, by rw [h2]; rfl, by rw [h2]; rfl⟩
    · obtain ⟨k, hk, r⟩ := NamesAt.back ds h4 b hb
      exact ⟨k, by simp [hk], r⟩

theorem NamesAt.setB {ρ : Names} {H : List Blk} {nm : Nat} {blk : Blk} : (ds : List EA) → {nms bs : List Nat} → nm ∉ nms → NamesAt ρ H ds nms bs → NamesAt ρ (Vx.setB H nm blk) ds nms bs
  | [], nms, bs, _, h => h
  | .pl _ :: ds, nms, bs, hn, h => NamesAt.setB ds hn h
  | .bx t tid :: ds, nms, bs, hn, h => by
    obtain ⟨k, nms', b', bs', rfl, rfl, ⟨cap, l, h1, h2⟩, h3, h4⟩ := h
    simp only [List.mem_cons, not_or] at hn
    exact ⟨k, nms', b', bs', rfl, rfl, ⟨cap, l, h1, by rw [getB_setB, if_neg (fun e => hn.1 e.1.symm)]; exact h2⟩, h3, NamesAt.setB ds hn.2 h4⟩

theorem setBx_rel {S' : Nat → Prop} {w' : World} {ρ : Names} : (ds : List EA) → {H : List Blk} → {nms bs : List Nat} → {y : Args (bxs ds)} → NamesAt ρ H ds nms bs → BoxesAt P S' w' ds bs y → (∀ nm, nm ∉ nms → BlkRel P S' w' ρ nm (getB H nm)) →
    (∀ nm, BlkRel P S' w' ρ nm (getB (setBx H ds nms y) nm)) ∧ (∀ nm, (getB (setBx H ds nms y) nm).live = (getB H nm).live) ∧ (∀ nm, (getB (setBx H ds nms y) nm).isOwn = (getB H nm).isOwn) ∧ (setBx H ds nms y).length = H.length
  | [], H, nms, bs, y, h, _, hr => by
    obtain ⟨rfl, _⟩ := h
    exact ⟨fun nm => hr nm (by simp), fun _ => rfl, fun _ => rfl, rfl⟩
  | .pl _ :: ds, H, nms, bs, y, h, hb, hr => setBx_rel ds (H := H) (y := y) h hb hr
  | .bx t tid :: ds, H, nms, bs, y, h, hb, hr => by
    obtain ⟨nm, nms', b, bs', rfl, rfl, ⟨cap, l, h1, h2⟩, h3, h4⟩ := h
    obtain ⟨b2, bs2, e, ⟨g1, g2, cs, g3, g4⟩, hb⟩ := hb
    obtain ⟨rfl, rfl⟩ : b = b2 ∧ bs' = bs2 := by simpa using e
    have hlt : nm < H.length := live_lt (by rw [h2]; rfl)
    obtain ⟨r1, r2, r3, r4⟩ := setBx_rel ds (H := setB H nm (.cells (ofD t y.1) tid)) (y := y.2) (NamesAt.setB ds h3 h4) hb fun k hk => by
      by_cases e : k = nm
      · subst e
        rw [getB_setB, if_pos ⟨rfl, hlt⟩]
        exact ⟨b, cap, h1, cs, g3, ofD_rel t g4⟩
      · rw [getB_setB, if_neg (fun h => e h.1)]
        exact hr k (by simp [e, hk])
    refine ⟨r1, fun k => ?_, fun k => ?_, ?_⟩
    · show (getB (setBx (setB H nm (.cells (ofD t y.1) tid)) ds nms' y.2) k).live = _
      rw [r2 k, getB_setB]
      split
      · rename_i e; rw [e.1, h2]; rfl
      · rfl
    · show (getB (setBx (setB H nm (.cells (ofD t y.1) tid)) ds nms' y.2) k).isOwn = _
      rw [r3 k, getB_setB]
      split
      · rename_i e; rw [e.1, h2]; rfl
      · rfl
    · show (setBx (setB H nm (.cells (ofD t y.1) tid)) ds nms' y.2).length = _
      rw [r4, setB_length]

theorem Holds.effect {cx : Cx} {σ : St} {a : Act} {w w' : World} {S S' : Nat → Prop} {ρ : Names} {ds : List EA} {nms bs : List Nat} {y : Args (bxs ds)} (h : Holds P cx σ a w S ρ) (hn : NamesAt ρ σ.H ds nms bs)
    (hb : BoxesAt P S' w' ds bs y) (he : ExtB bs S w S' w') : Holds P cx { σ with H := setBx σ.H ds nms y } a w' S' ρ := by
  have hback := NamesAt.back ds hn
  have hnS : ∀ b ∈ bs, ¬ S b ∧ b < w.heap.size := fun b hb => by
    obtain ⟨nm, _, cap, h1, h2, _⟩ := hback b hb
    exact h.good.apart nm b cap h2 h1
  have hfut : Fut S w S' w' := ⟨he.sub, fun k hk => he.old k (h.good.bounded.lt k hk) fun hm => (hnS k hm).1 hk⟩
  obtain ⟨r1, r2, r3, r4⟩ := setBx_rel (P := P) ds (H := σ.H) (y := y) hn hb fun nm hnm => by
    by_cases hl : (getB σ.H nm).live = true
    · refine (h.good.rel nm).keep hfut (Keep.refl ρ) fun b cap hr => he.old b (h.good.apart nm b cap hl hr).2 fun hm => ?_
      obtain ⟨k, hk, cap', h1, h2, _⟩ := hback b hm
      exact hnm (h.good.inj nm k b cap cap' hl h2 hr h1 ▸ hk)
    · cases hh : getB σ.H nm with
      | gone => simp [BlkRel]
      | frame l vs =>
        have hrel := h.good.rel nm
        rw [hh] at hrel
        exact RelL.fut hfut (Keep.refl ρ) l hrel
      | _ => simp [hh, Blk.live] at hl
  have hs := h.since
  refine ⟨⟨h.good.bounded.same he.bound hfut, r1, fun nm b cap hl hr => ?_, fun k k' b c1 c2 hk hk' h1 h2 => ?_⟩, h.slots.fut hfut (Keep.refl ρ),
    ⟨fun k hk => he.sub k (hs.sub k hk), Nat.le_trans hs.size he.size, he.os.trans hs.os, he.tape.trans hs.tape, he.output.trans hs.output, fun k hk ho => ?_, fun nm b cap hl hr => ?_, fun k hk => ?_, hs.names, fun nm hk hlt => ?_⟩,
    fun nm hk => h.fresh nm (by simpa [r4] using hk), by simp only [r4]; exact h.len, h.defers⟩
  · simp only [r2] at hl
    obtain ⟨h1, h2⟩ := h.good.apart nm b cap hl hr
    exact ⟨fun hk => (he.fresh b hk).elim h1 (fun h3 => by omega), Nat.lt_of_lt_of_le h2 he.size⟩
  · simp only [r2] at hk hk'
    exact h.good.inj k k' b c1 c2 hk hk' h1 h2
  · rw [he.old k (Nat.lt_of_lt_of_le hk hs.size) fun hm => ?_]
    · exact hs.old k hk ho
    · obtain ⟨nm, _, cap, h1, h2, _⟩ := hback k hm
      rcases hs.own nm k cap h2 h1 with h3 | h3
      · exact ho h3
      · omega
  · simp only [r2] at hl
    exact hs.own nm b cap hl hr
  · rcases he.fresh k hk with h1 | h1
    · exact hs.pers k h1
    · exact .inr (.inr (Nat.le_trans hs.size h1))
  · simp only [r3] at hk
    exact hs.ownH nm hk hlt

theorem eArgs_rep {S : Nat → Prop} {w : World} {ρ : Names} {H : List Blk} (hg : ∀ nm, BlkRel P S w ρ nm (getB H nm)) (hap : ∀ nm b cap, (getB H nm).live = true → ρ nm = some (some b, cap) → ¬ S b ∧ b < w.heap.size)
    (hinj : ∀ nm nm' b cap cap', (getB H nm).live = true → (getB H nm').live = true → ρ nm = some (some b, cap) → ρ nm' = some (some b, cap') → nm = nm') :
    (ds : List EA) → {args : List SV} → {vs : List Value} → {r : EArgs ds × List Nat} → eArgs H ds args = some r → RelL P S w ρ args vs → ∃ bs, EArgsRep P S w ds r.1 vs bs ∧ NamesAt ρ H ds r.2 bs
  | [], [], vs, r, h, hr => by
    simp only [eArgs, Option.some.injEq] at h
    subst h
    simp only [RelL] at hr
    exact ⟨[], ⟨hr, rfl⟩, rfl, rfl⟩
  | [], s :: l, vs, r, h, hr => by simp [eArgs] at h
  | .pl t :: ds, [], vs, r, h, hr => by simp [eArgs] at h
  | .bx t tid :: ds, [], vs, r, h, hr => by simp [eArgs] at h
  | .pl t :: ds, s :: l, vs, r, h, hr => by
    simp only [eArgs] at h
    simp only [RelL] at hr
    obtain ⟨v, vs', rfl, h1, h2⟩ := hr
    unfold eCons at h
    split at h
    · rename_i x r' hx hr'
      cases h
      obtain ⟨bs, h3, h4⟩ := eArgs_rep hg hap hinj ds hr' h2
      exact ⟨bs, ⟨v, vs', rfl, (toDV_repV (P := P) (S := S) (w := w) (ρ := ρ) noH (fun _ _ _ _ _ => no1_rep _ _ _ _ _) (fun _ _ _ _ _ _ => no2_rep _ _ _ _ _ _) hx h1).here, h3⟩, h4⟩
    · cases h
  | .bx t tid :: ds, s :: l, vs, r, h, hr => by
    simp only [RelL] at hr
    obtain ⟨v, vs', rfl, h1, h2⟩ := hr
    cases s with
    | ptr nm off =>
      simp only [eArgs] at h
      unfold eConsB at h
      split at h
      · rename_i x r' hx hr'
        split at h
        · cases h
        · rename_i hnm
          cases h
          obtain ⟨bs, h3, h4⟩ := eArgs_rep hg hap hinj ds hr' h2
          unfold boxDt at hx
          split at hx
          · rename_i l' t' hl
            split at hx
            · rename_i ht
              subst ht
              simp only [Rel] at h1
              obtain ⟨b, cap, hb, rfl⟩ := h1
              have hblk := hg nm
              rw [hl] at hblk
              obtain ⟨b', cap', hb', cs, g1, g2⟩ := hblk
              rw [hb] at hb'; cases hb'
              have hlive : (getB H nm).live = true := by rw [hl]; rfl
              obtain ⟨g3, g4⟩ := hap nm b cap hlive hb
              have hrep := (toD_rep (P := P) (ρ := ρ) (w := w) (S := S) noH (fun _ _ _ _ _ => no1_rep _ _ _ _ _) (fun _ _ _ _ _ _ => no2_rep _ _ _ _ _ _) t hx g2).here
              have hnm' : nm ∉ r'.2 := by simpa using hnm
              refine ⟨b :: bs, ⟨b, vs', bs, rfl, rfl, ⟨g3, g4, cs, g1, hrep⟩, fun hm => ?_, h3⟩, nm, r'.2, b, bs, rfl, rfl, ⟨cap, l', hb, hl⟩, hnm', h4⟩
              obtain ⟨k, hk, cap', e1, e2, _⟩ := NamesAt.back ds h4 b hm
              exact hnm' (hinj nm k b cap cap' hlive e2 hb e1 ▸ hk)
            · cases hx
          · cases hx
      · cases h
    | _ => simp [eArgs] at h

theorem SlotsR.relL {S : Nat → Prop} {w : World} {ρ : Names} {slots : List SV} {a : Act} (h : SlotsR P S w ρ slots a) : RelL P S w ρ slots a.tmps.toList := by
  refine RelL.of_get (by simpa using h.size) fun i s v hs hv => ?_
  have h1 := h.rel i
  have h2 : get slots i = s := by
    clear h h1 hv
    induction slots generalizing i with
    | nil => simp at hs
    | cons x l ih => cases i with
      | zero => simpa [get] using hs
      | succ i => simpa [get] using ih i (by simpa using hs)
  have h3 : a.tmps.getD i undef = v := by
    rw [Array.getD_eq_getD_getElem?, ← Array.getElem?_toList, hv]; rfl
  rwa [h2, h3] at h1

theorem SlotsR.of_relL {S : Nat → Prop} {w : World} {ρ : Names} {slots : List SV} {a : Act} (h : RelL P S w ρ slots a.tmps.toList) : SlotsR P S w ρ slots a := by
  refine ⟨by simpa using h.length, fun t => ?_⟩
  rcases Nat.lt_or_ge t slots.length with h1 | h1
  · obtain ⟨v, h2, h3⟩ := h.get' h1
    rw [Array.getD_eq_getD_getElem?, ← Array.getElem?_toList, h2]
    exact h3
  · rw [get_out _ _ h1]; simp only [Rel]

/-- The same since, by another list of deferred calls. -/
theorem Since.reD {cx : Cx} {S : Nat → Prop} {ρ : Names} {h : Nat → Blk} {w : World} (hs : Since cx S ρ h w) (D : List Deferred) : Since { cx with D := D } S ρ h w :=
  ⟨hs.sub, hs.size, hs.os, hs.tape, hs.output, hs.old, hs.own, hs.pers, hs.names, hs.ownH⟩

/-- A call begins: the caller's slots are set aside. -/
theorem Holds.aside {cx : Cx} {σ : St} {a : Act} {w : World} {S : Nat → Prop} {ρ : Names} (h : Holds P cx σ a w S ρ) : Holds P { cx with D := [] } ⟨[], σ.H ++ [.frame σ.slots a.tmps.toList]⟩ ⟨#[], []⟩ w S ρ := by
  have hfr := h.fresh σ.H.length (Nat.le_refl _)
  have hq : QPost P S w ρ σ.H.length (some (.frame σ.slots a.tmps.toList)) S w ρ := ⟨Ext.refl h.good.bounded, Keep.refl ρ, fun _ _ => rfl, fun _ => rfl, fun blk hb => by
    cases hb
    exact ⟨h.slots.relL, fun b cap e => by rw [hfr] at e; cases e⟩⟩
  have hp := h.put (q := ⟨True, .any, some (.frame σ.slots a.tmps.toList)⟩) (v := undef) none hq (by simp [Rel])
  exact ⟨hp.good, ⟨rfl, fun t => by simp [get, Rel]⟩, hp.since.reD [], hp.fresh, hp.len, rfl⟩

/-- A call is over: they are taken up again. -/
theorem Holds.again {cx : Cx} {H' : List Blk} {n : Nat} {l : List SV} {a : Act} {w : World} {S : Nat → Prop} {ρ : Names} (h : Holds P { cx with D := [] } ⟨[], H'⟩ ⟨#[], []⟩ w S ρ) (hd : a.defers = cx.D) (hn : getB H' n = .frame l a.tmps.toList) :
    Holds P cx ⟨l, setB H' n .gone⟩ a w S ρ := by
  have hrel := h.good.rel n
  rw [hn] at hrel
  have hg : ∀ k, getB (setB H' n .gone) k = if k = n then .gone else getB H' k := fun k => by
    rw [getB_setB]
    by_cases e : k = n
    · subst e
      by_cases hl : k < H'.length
      · simp [hl]
      · rw [if_neg (by omega), if_pos rfl, getB_out _ _ (by omega)]
    · rw [if_neg (fun h => e h.1), if_neg e]
  have hlive : ∀ k, (getB (setB H' n .gone) k).live = true → (getB H' k).live = true := fun k hk => by
    rw [hg] at hk
    split at hk
    · cases hk
    · exact hk
  refine ⟨⟨h.good.bounded, fun k => ?_, fun k b cap hk hr => h.good.apart k b cap (hlive k hk) hr, fun k k' b c c' hk hk' => h.good.inj k k' b c c' (hlive k hk) (hlive k' hk')⟩, .of_relL hrel,
    ⟨h.since.sub, h.since.size, h.since.os, h.since.tape, h.since.output, h.since.old, fun k b cap hk hr => h.since.own k b cap (hlive k hk) hr, h.since.pers, h.since.names, fun k hk hlt => ?_⟩, fun k hk => h.fresh k (by simpa [setB_length] using hk), by simp only [setB_length]; exact h.len, hd⟩
  · show BlkRel P S w ρ k (getB (setB H' n .gone) k)
    rw [hg]
    split
    · simp [BlkRel]
    · exact h.good.rel k
  · have hk : (getB (setB H' n .gone) k).isOwn = true := hk
    rw [hg] at hk
    split at hk
    · cases hk
    · exact h.since.ownH k hk hlt

theorem callEt_ok {cx : Cx} {tbl : List (FuncId × TF)} {o : Oper} {σ : St} {a : Act} {w : World} {S : Nat → Prop} {ρ : Names} {K : St → Prop} {f : FuncId} {args : List SV} {vs : List Value} (htbl : TblOk P tbl) (h : Holds P cx σ a w S ρ) (har : RelL P S w ρ args vs)
    (hen : Enters P f → (execOp a.eval o).run P w = .ok (.enter f vs.toArray) w) (hnat : ∀ r w', (callFunc f vs.toArray).run P w = .ok (.value r) w' → (execOp a.eval o).run P w = .ok (.value r) w')
    (hk : callEt σ args o.dst K (tlook tbl f)) : OpTo P cx o a w K := by
  cases htl : tlook tbl f with
  | none => rw [htl] at hk; exact hk.elim
  | some tf =>
    rw [htl] at hk
    simp only [callEt] at hk
    have htb := htbl f tf htl
    cases heff : tf.eff with
    | none => rw [heff] at hk; exact hk.elim
    | some ef =>
      rw [heff] at hk htb
      simp only [callEo] at hk htb
      cases hwp : ef.wp with
      | some W =>
        rw [hwp] at hk htb
        simp only [callE2] at hk htb
        have back : ∀ {S' : Nat → Prop} {w' : World} {ρ' : Names} {rv : SV} {r : Value} {H' : List Blk}, Rel P S' w' ρ' rv r → frameK σ.H.length a.tmps.toList o.dst K rv H' → Holds P { cx with D := [] } ⟨[], H'⟩ ⟨#[], []⟩ w' S' ρ' → ∃ σ' S' ρ', K σ' ∧ Holds P cx σ' (a.put o.dst r) w' S' ρ' := by
          intro S' w' ρ' rv r H' hr hK hH
          unfold frameK frameK2 at hK
          split at hK
          · rename_i l vs' hfrm
            obtain ⟨rfl, hK⟩ := hK
            exact ⟨_, S', ρ', hK, (hH.again h.defers hfrm).putSlot o.dst hr⟩
          · exact hK.elim
        rcases htb with ⟨hw, he⟩ | hw
        · have hcall := hw { cx with D := [] } w S ρ _ _ _ _ h.aside har (hk a.tmps.toList)
          exact OpOk.enter (f := f) (w1 := w) (hen he) (hcall.mono fun e w' ⟨r', rv, H', S', ρ', he, hr, hK, hH⟩ => ⟨r', he, back hr hK hH⟩)
        · obtain ⟨r, w', rv, H', S', ρ', hrun, hr, hK, hH⟩ := hw { cx with D := [] } w S ρ _ _ _ _ h.aside har (hk a.tmps.toList)
          exact OpOk.value (hnat _ _ hrun) (back hr hK hH)
      | none =>
      rw [hwp] at hk htb
      simp only [callE2] at hk htb
      unfold callEf at hk
      split at hk
      · rename_i r hr
        obtain ⟨hpre, hk⟩ := hk
        obtain ⟨bs, h1, h2⟩ := eArgs_rep h.good.rel h.good.apart h.good.inj ef.doms hr har
        have hcall := htb.1 S w h.good.bounded _ _ bs h1 hpre
        refine OpOk.enter (f := f) (w1 := w) (hen htb.2) (hcall.mono fun e w' ⟨S', r', he, hres, hbx, hext⟩ => ⟨r', he, _, S', ρ, hk, ?_⟩)
        exact (h.effect h2 hbx hext).putSlot o.dst (ofRes_rel hres)
      · exact hk.elim

theorem callEx_ok {cx : Cx} {tbl : List (FuncId × TF)} {o : Oper} {σ : St} {a : Act} {w : World} {S : Nat → Prop} {ρ : Names} {K : St → Prop} {c : Call} {f : Operand} (htbl : TblOk P tbl) (h : Holds P cx σ a w S ρ) (ho : o.op = .call c) (hc : c.callee = .value f)
    (hk : callEx tbl σ (c.args.toList.map (evS σ.slots)) o.dst K (evS σ.slots f)) : OpTo P cx o a w K := by
  unfold callEx at hk
  split at hk
  · rename_i id caps hfe
    have hfr := evS_rel h.good.bounded h.slots f
    rw [hfe] at hfr
    simp only [Rel] at hfr
    obtain ⟨cs, hv, hcs⟩ := hfr
    have har := evS_relL' (P := P) (S := S) (w := w) (ρ := ρ) (slots := σ.slots) (a := a) c.args.toList fun x hx => evS_rel h.good.bounded h.slots x
    have e : c.args.map a.eval ++ cs.toArray = (c.args.toList.map a.eval ++ cs).toArray := by rw [map_arr]; simp
    refine callEt_ok htbl h (har.append hcs) (fun hen => ?_) (fun r w' hrun => ?_) hk
    · simp [execOp, ho, resolve, hc, hv, Deferred.ofValue, run_invoke hen, e]
    · rw [← e] at hrun
      simp [execOp, ho, resolve, hc, hv, Deferred.ofValue, invoke, hrun]
  · rename_i id l hfe
    have hfr := evS_rel h.good.bounded h.slots f
    rw [hfe] at hfr
    simp only [Rel] at hfr
    obtain ⟨cs, hv, hcs⟩ := hfr
    have har := evS_relL' (P := P) (S := S) (w := w) (ρ := ρ) (slots := σ.slots) (a := a) c.args.toList fun x hx => evS_rel h.good.bounded h.slots x
    have e : cs.toArray ++ c.args.map a.eval = (cs ++ c.args.toList.map a.eval).toArray := by rw [map_arr]; simp
    refine callEt_ok htbl h (hcs.append har) (fun hen => ?_) (fun r w' hrun => ?_) hk
    · have := run_invoke (P := P) (w := w) (args := cs.toArray ++ c.args.map a.eval) (caps := #[]) hen
      rw [Array.append_empty, e] at this
      simp [execOp, ho, resolve, hc, hv, Deferred.ofValue, e, this]
    · simp [execOp, ho, resolve, hc, hv, Deferred.ofValue, invoke, e, hrun]
  · exact hk.elim

theorem ext1 {α : Type} (x : α) (l : Array α) : (#[x] ++ l).extract 1 (#[x] ++ l).size = l := by
  apply Array.ext
  · simp
  · intro i h1 h2
    simp
theorem ext2 (u : Value) (l : Array Operand) (f : Operand → Value) : #[u] ++ l.map f = (u :: l.toList.map f).toArray := by
  apply Array.ext'
  simp

theorem ext3 (x : Value) (l : Array Value) : (#[x] ++ l)[0]? = some x := by
  rw [Array.getElem?_append_left (by simp)]; rfl
theorem ext4 {α β : Type} (f : α → β) (l : Array α) : (l.map f).extract 0 l.size = l.map f := by
  apply Array.ext <;> simp
theorem ext5 (n : Nat) : ∃ k, n + Made.depth = k + 1 := by
  have : 0 < Made.depth := by decide
  exact ⟨n + Made.depth - 1, by omega⟩

theorem run_method {t : TypeId} {name : String} {f : FuncId} (h : mthOf P t name = some f) (n : Nat) (v : Value) (w : World) : (method (n + 1) t v name).run P w = .ok (f, v) w := by
  unfold mthOf at h
  split at h
  case h_2 => cases h
  rename_i i hi
  split at h
  case h_2 => cases h
  rename_i m hm
  split at h
  case isFalse => cases h
  rename_i hp
  split at h
  case h_2 => cases h
  rename_i f' ptr hf
  have hp' : m.path = #[] := by simpa using hp
  split at h
  · rename_i e hu
    cases h
    simp [method, typeInfo, run_program, hi, hm, hp', follow, hf, receiverAt, run_underlying hu, Place.get]
  · cases h
  · rename_i d hne hu
    cases h
    cases d with
    | pointer e => exact (hne e rfl).elim
    | _ => simp [method, typeInfo, run_program, hi, hm, hp', follow, hf, receiverAt, run_underlying hu, Place.get]
  · cases h

theorem callIx_ok {cx : Cx} {tbl : List (FuncId × TF)} {o : Oper} {σ : St} {a : Act} {w : World} {S : Nat → Prop} {ρ : Names} {K : St → Prop} {c : Call} {x : Operand} {name : String} (htbl : TblOk P tbl) (h : Holds P cx σ a w S ρ) (ho : o.op = .call c) (hc : c.callee = .invoke x name)
    (hk : callIx P tbl σ name (c.args.toList.map (evS σ.slots)) o.dst K (evS σ.slots x)) : OpTo P cx o a w K := by
  unfold callIx at hk
  split at hk
  · rename_i t y hxe
    have hxr := evS_rel h.good.bounded h.slots x
    rw [hxe] at hxr
    simp only [Rel] at hxr
    obtain ⟨u, hv, hu⟩ := hxr
    unfold callIf at hk
    split at hk
    · rename_i f hm
      have har := evS_relL' (P := P) (S := S) (w := w) (ρ := ρ) (slots := σ.slots) (a := a) c.args.toList fun x hx => evS_rel h.good.bounded h.slots x
      have e : #[u] ++ c.args.map a.eval = (u :: c.args.toList.map a.eval).toArray := ext2 u c.args a.eval
      have e2 := ext1 (Value.iface t u) (c.args.map a.eval)
      have e3 := ext3 (Value.iface t u) (c.args.map a.eval)
      have e4 := ext4 a.eval c.args
      obtain ⟨k, hk5⟩ := ext5 P.types.size
      have hrm := run_method hm k u w
      rw [← hk5] at hrm
      have har2 : RelL P S w ρ (y :: c.args.toList.map (evS σ.slots)) (u :: c.args.toList.map a.eval) := by
        simp only [RelL]
        exact ⟨u, _, rfl, hu, har⟩
      refine callEt_ok htbl h har2 (fun hen => ?_) (fun r w' hrun => ?_) hk
      · obtain ⟨fn, hf, hb, hn⟩ := hen
        have hb' : fn.body ≠ none := by intro e; simp [e] at hb
        have hn' : fn.name ≠ "runtime.NumGoroutine" := by simpa using hn
        rw [← e]
        simp only [execOp, ho, resolve, hc, hv]
        simp [invoke, e3, e4, callMethod, run_program, hrm, callFunc, hf, hn', hb', Result.andThen]
      · rw [← e] at hrun
        simp only [execOp, ho, resolve, hc, hv]
        simp [invoke, e3, e4, callMethod, run_program, hrm, hrun, Result.andThen]
    · exact hk.elim
  · exact hk.elim
end

/-- Elements written over an own list's. -/
def copyO (P : Program) (tx : TypeId) (nm sz n i : Nat) (x : SV) (d : Option Nat) (σ : St) (K : St → Prop) : Blk → Prop
  | .own e xs t' => match srcq P σ.H nm e tx x with
    | some ys => sz = e.size ∧ 0 < List.length ys ∧ i + List.length ys ≤ n ∧ n ≤ List.length xs ∧
        K { slots := setO σ.slots d (.int .i64 (List.length ys : Nat)), H := setB σ.H nm (.own e (xs.take i ++ (ys ++ xs.drop (i + List.length ys))) t') }
    | none => False
  | _ => False
def copyx (P : Program) (tx : TypeId) (s x : SV) (d : Option Nat) (σ : St) (K : St → Prop) : Option TK → Prop
  | some (.slice et) => match s with
    | .osub nm sz n i => sizeP P et = some sz ∧ copyO P tx nm sz n i x d σ K (getB σ.H nm)
    | _ => False
  | _ => False

theorem copyx_ok {cx : Cx} {o : Oper} {σ : St} {a : Act} {w : World} {S : Nat → Prop} {ρ : Names} {t tx : TypeId} {s x : Operand} {c : Call} {K : St → Prop} (h : Holds P cx σ a w S ρ) (ho : o.op = .call c) (hc : c.callee = .builtin .copy) (ha : c.args.toList = [s, x]) (hat : c.argTypes.toList = [t, tx])
    (hk : copyx P tx (evS σ.slots s) (evS σ.slots x) o.dst σ K (tkOf P t)) : OpTo P cx o a w K := by
  have hs := evS_rel h.good.bounded h.slots s
  have hx := evS_rel h.good.bounded h.slots x
  have ha' : c.args = #[s, x] := by apply Array.ext'; simpa using ha
  have hat' : c.argTypes = #[t, tx] := by apply Array.ext'; simpa using hat
  have hrun : ∀ v w', (Builtin.copy_ #[t, tx] o.type #[a.eval s, a.eval x]).run P w = .ok v w' → (execOp a.eval o).run P w = .ok (.value v) w' := by
    intro v w' hr
    simp [execOp, ho, resolve, hc, invoke, builtin, ha', hat', hr]
  unfold copyx at hk
  split at hk
  · rename_i et htk
    obtain ⟨_, _, d1, _, _, hd1, e1⟩ := tk_some htk
    have e1' : d1 = .slice et := by cases d1 <;> simp [kindOf] at e1 <;> simp_all
    subst e1'
    split at hk
    · rename_i nm sz n i hse
      rw [hse] at hs
      simp only [Rel] at hs
      obtain ⟨ob, cap, A, hρ, hsv, hin, hnc, hA⟩ := hs
      obtain ⟨hsz, hk⟩ := hk
      unfold copyO at hk
      split at hk
      · rename_i e xs t' hl
        split at hk
        · rename_i ys hys
          obtain ⟨rfl, hpos, hle2, hxl, hk⟩ := hk
          obtain ⟨b, rfl, rfl⟩ := hA (by omega)
          have hlive : (getB σ.H nm).live = true := by rw [hl]; rfl
          have hblk := h.good.rel nm
          rw [hl] at hblk
          obtain ⟨ob', cap', hb', hle, hblk⟩ := hblk
          rw [hρ] at hb'
          cases hb'
          obtain ⟨cs, fr, hh, hfr, hcl, hel⟩ := hblk
          obtain ⟨news, hsrc, hch⟩ := srcq_ok h.good.rel hys hx
          have hnl := hsrc.newsLen
          have hfit : i * e.size + news.length ≤ cs.length := by
            rw [hnl, hcl, ← Nat.add_mul]
            exact Nat.mul_le_mul_right _ (by omega)
          have hst := run_storeCells_cells (P := P) b (i * e.size) news 0 w (fun j hj => by rw [cell_of hh, List.getElem?_eq_getElem (by omega)]; rfl) (fun j hj => by
            simp only [World.frozen?, hh]
            obtain ⟨lo, hi⟩ := fr
            simp only at hfr ⊢
            rcases hfr with h | h
            · subst h; simp; try omega
            · simp; omega) hsrc.one
          obtain ⟨g1, g2, g3, g4, g5⟩ := setCells_rest (b := b) news (i * e.size) w
          have hrow' := setCells_cells news (i * e.size) w cs hh hfit
          obtain ⟨inf, hinf, hsz⟩ := sz_some hsz
          have hmin : Nat.min (List.length ys) (n - i) = List.length ys := Nat.min_eq_left (by omega)
          have hrun' : (Builtin.copy_ #[t, tx] o.type #[a.eval s, a.eval x]).run P w = .ok (.int .i64 (List.length ys : Nat)) (w.setCells b (i * e.size) news) := by
            simp only [Nat.add_zero] at hst
            have hc1 := hsrc.cells
            rw [hsv]
            simp [Builtin.copy_, run_underlying hd1, hsrc.len, run_sizeOf hinf, hsz, hc1, hst, hmin, goInt]
          refine OpOk.value (hrun _ _ hrun') ⟨_, S, ρ, hk, ?_⟩
          have hu := h.update (blk' := .own e (xs.take i ++ (ys ++ xs.drop (i + List.length ys))) t') hlive hρ g3 g4 g5 g2 g1 (fun hfut => ⟨some b, cap, hρ, by
              simp only [List.length_append, List.length_take, List.length_drop]; omega, _, fr, hrow', by
              rcases hfr with h | h
              · exact .inl h
              · refine .inr (Nat.le_trans (Nat.le_of_eq ?_) h)
                simp only [List.length_append, List.length_take, List.length_drop]; omega, by rw [← hcl]; simp only [List.length_append, List.length_take, List.length_drop]; omega, ?_⟩) (by rw [hl]; rfl)
          · exact hu.putSlot o.dst (x := .int .i64 (List.length ys : Nat)) (by simp [Rel])
          · have hch0 : Chunks (Rep P e S w) e.size xs cs := hel
            have h1 := hch0.take i
            have h2 := hch0.drop (i + List.length ys)
            have l1 : (cs.take (i * e.size)).length = i * e.size := by
              rw [List.length_take]; exact Nat.min_eq_left (by rw [hcl]; exact Nat.mul_le_mul_right _ (by omega))
            have l2 : List.length (xs.take i) = i := by rw [List.length_take]; exact Nat.min_eq_left (by omega)
            have h3 := (h1.append (by rw [l1, l2]) (hch.append hnl h2)).mono fun _ _ hr => Rep.fut hfut e hr
            have e3 : cs.take (i * e.size) ++ news ++ cs.drop (i * e.size + news.length) = cs.take (i * e.size) ++ (news ++ cs.drop ((i + List.length ys) * e.size)) := by
              rw [List.append_assoc, hnl, Nat.add_mul]
            rw [e3]
            exact h3
        · exact hk.elim
      · exact hk.elim
    · exact hk.elim
  · exact hk.elim

/-- Operations that do something to what is there. -/
def effx (P : Program) (tbl : List (FuncId × TF)) (o : Oper) (σ : St) (K : St → Prop) : Prop :=
  match o.op with
  | .store t x v => storex P t (evS σ.slots x) (evS σ.slots v) o.dst σ K
  | .next x true => nexts (evS σ.slots x) o.dst σ K
  | .mapUpdate t m k v => mapx (evS σ.slots m) (evS σ.slots k) (evS σ.slots v) o.dst σ K (mapOf P t)
  | .insert t m k v => mapx (evS σ.slots m) (evS σ.slots k) (evS σ.slots v) o.dst σ K (mapOf P t)
  | .call c => match c.callee, c.args.toList, c.argTypes.toList with
    | .builtin .append, [s, x], [t, tx] => appendx P tx (evS σ.slots s) (evS σ.slots x) o.dst σ K (tkOf P t)
    | .builtin .copy, [s, x], [t, tx] => copyx P tx (evS σ.slots s) (evS σ.slots x) o.dst σ K (tkOf P t)
    | .value f, args, _ => callEx tbl σ (args.map (evS σ.slots)) o.dst K (evS σ.slots f)
    | .invoke x name, args, _ => callIx P tbl σ name (args.map (evS σ.slots)) o.dst K (evS σ.slots x)
    | _, _, _ => False
  | _ => False

theorem effx_ok {cx : Cx} {tbl : List (FuncId × TF)} (htbl : TblOk P tbl) {o : Oper} {σ : St} {a : Act} {w : World} {S : Nat → Prop} {ρ : Names} {K : St → Prop} (h : Holds P cx σ a w S ρ) (hk : effx P tbl o σ K) : OpTo P cx o a w K := by
  unfold effx at hk
  split at hk
  · rename_i t x v ho
    exact storex_ok h ho hk
  · rename_i x ho
    exact nexts_ok h ho hk
  · rename_i t m k v ho
    exact mapx_ok h (.inl ho) hk
  · rename_i t m k v ho
    exact mapx_ok h (.inr ho) hk
  · rename_i c ho
    split at hk
    · rename_i s x t tx h1 h2 h3
      exact appendx_ok h ho h1 h2 h3 hk
    · rename_i s x t tx h1 h2 h3
      exact copyx_ok h ho h1 h2 h3 hk
    · rename_i f hc
      exact callEx_ok htbl h ho hc hk
    · rename_i x name hc
      exact callIx_ok htbl h ho hc hk
    · exact hk.elim
  · exact hk.elim

def opx (P : Program) (tbl : List (FuncId × TF)) (o : Oper) (σ : St) (K : St → Prop) : Prop :=
  match evA P tbl σ.H σ.H.length σ.slots o.op with
  | some q => q.ob ∧ K (σ.put o.dst q)
  | none => effx P tbl o σ K

theorem opx_ok {cx : Cx} {tbl : List (FuncId × TF)} {o : Oper} {σ : St} {a : Act} {w : World} {S : Nat → Prop} {ρ : Names} {K : St → Prop} (htbl : TblOk P tbl) (h : Holds P cx σ a w S ρ) (hk : opx P tbl o σ K) : OpTo P cx o a w K := by
  unfold opx at hk
  split at hk
  · rename_i q hq
    refine (evA_ok htbl h.good.bounded h.good.rel (fun nm b cap hl hr => (h.good.apart nm b cap hl hr).2) (fun x _ => evS_rel h.good.bounded h.slots x) (h.fresh _ (Nat.le_refl _)) hq hk.1).mono fun v w' ⟨S', ρ', hq', hv⟩ => ?_
    exact ⟨_, S', ρ', hk.2, h.put o.dst hq' hv⟩
  · exact effx_ok htbl h hk

def seqx (P : Program) (tbl : List (FuncId × TF)) (ops : Array Oper) : List Oper → St → (St → Prop) → Prop
  | [], σ, K => K σ
  | o :: rest, σ, K => guardx ops o σ (fun σ => opx P tbl o σ fun σ => seqx P tbl ops rest σ K) (fun σ => seqx P tbl ops rest { σ with slots := setO σ.slots o.dst noVal } K)

/-- What holds behind a piece of code that goes on. -/
def After (P : Program) (cx : Cx) (K : St → Prop) (a : Act) (w : World) : Prop := ∃ σ S ρ, K σ ∧ Holds P cx σ a w S ρ

theorem seqx_ok {cx : Cx} {tbl : List (FuncId × TF)} {ops : Array Oper} {Q : Exit → Act → World → Prop} {K : St → Prop} (htbl : TblOk P tbl) (hQ : ∀ a w, After P cx K a w → Q .normal a w) :
    (l : List Oper) → {σ : St} → {a : Act} → {w : World} → {S : Nat → Prop} → {ρ : Names} → Holds P cx σ a w S ρ → seqx P tbl ops l σ K → wpList P ops Q l a w
  | [], σ, a, w, S, ρ, h, hk => hQ a w ⟨σ, S, ρ, hk, h⟩
  | o :: rest, σ, a, w, S, ρ, h, hk => by
    unfold wpList
    rcases guardx_ok h hk with ⟨hw, σ', _, h', hr⟩ | ⟨hw, σ', _, h', hr⟩
    · rw [if_pos hw]
      refine .inl (opx_ok htbl h' hr _ Q fun v w' hv => ?_)
      obtain ⟨σ2, S2, ρ2, hk2, h2⟩ := hv
      exact seqx_ok htbl hQ rest h2 hk2
    · rw [hw]
      simp only [Bool.false_eq_true, if_false]
      exact seqx_ok htbl hQ rest (h'.putSlot o.dst (by simp [noVal, Rel])) hr

theorem region_seq {cx : Cx} {tbl : List (FuncId × TF)} {ops : Array Oper} {id : Nat} {Q : Exit → Act → World → Prop} {K : St → Prop} (htbl : TblOk P tbl) (hQ : ∀ a w, After P cx K a w → Q .normal a w)
    {σ : St} {a : Act} {w : World} {S : Nat → Prop} {ρ : Names} (h : Holds P cx σ a w S ρ) (hk : seqx P tbl ops ops.toList σ K) : (Code.region id ops false).wp P Q a w :=
  wp_region_list (seqx_ok htbl hQ _ h hk)
end
end Go.Vx
