/- A part of a small verifier for the model's programs, proved sound for any program; no condition. -/
import Derived.Test.YtnbicdeehppgpaaGreatDoorVxE
set_option linter.unusedSimpArgs false
set_option linter.unusedVariables false
namespace Go.Vx
open Go
set_option linter.unusedSectionVars false
set_option linter.unusedVariables false
section
variable {P : Program} {S : Nat → Prop} {w : World} {ρ : Names}

theorem unq_ok {op : UnOp} {s : SV} {v : Value} {q : QR} (h : unq op s = some q) (hx : Rel P S w ρ s v) : RunOk P S w ρ (Op.unary op v) q := by
  unfold unq at h
  split at h <;> cases h <;> simp only [Rel] at hx <;> subst hx
  · exact runBool (by simp [Op.unary])
  · exact runKb (by simp [Op.unary])
  · exact runKb (by simp [Op.unary])
  · exact runInt (by simp [Op.unary, Op.intArith])

theorem extractq_ok {s : SV} {i : Nat} {v : Value} {q : QR} (h : extractq s i = some q) (hx : Rel P S w ρ s v) : RunOk P S w ρ (Instr.extract v i) q := by
  unfold extractq at h
  split at h
  · split at h
    · rename_i l hi
      cases h
      simp only [Rel] at hx
      obtain ⟨cs, rfl, hr⟩ := hx
      obtain ⟨u, hu, hrel⟩ := hr.get' hi
      exact ⟨rfl, u, by simp [Instr.extract, hu], hrel⟩
    · cases h
  · cases h

theorem ifaceq_ok {t : TypeId} {s : SV} {v : Value} {q : QR} (h : ifaceq P t s = some q) (hx : Rel P S w ρ s v) : RunOk P S w ρ (Instr.makeInterface t v) q := by
  unfold ifaceq at h
  split at h
  · cases h
  · rename_i k hno h1
    cases h
    obtain ⟨_, _, d1, _, _, hd1, e1⟩ := tk_some h1
    refine ⟨rfl, .iface t v, ?_, by simp only [Rel]; exact ⟨v, rfl, hx⟩⟩
    cases d1 <;> first | (simp [Instr.makeInterface, run_underlying hd1]; done) | (exact absurd (e1 : k = .other) hno)
  · cases h

theorem indexq_ok {t : TypeId} {x i : SV} {vx vi : Value} {q : QR} (h : indexq P t x i = some q) (hob : q.ob) (hx : Rel P S w ρ x vx) (hi : Rel P S w ρ i vi) : RunOk P S w ρ (Instr.index t vx vi) q := by
  unfold indexq at h
  split at h
  · rename_i s k n h1
    cases h
    simp only at hob
    simp only [Rel] at hx hi
    subst hx; subst hi
    obtain ⟨_, _, d1, _, _, hd1, e1⟩ := tk_some h1
    have e1' : d1 = .string := by cases d1 <;> simp [kindOf] at e1 <;> simp_all
    subst e1'
    refine runInt ?_
    have hlt : n.toNat < s.length := by omega
    have hget : (⟨s.toArray⟩ : ByteArray)[n.toNat]? = some (s.getD n.toNat 0) := by
      rw [getElem?_pos _ _ (by simp [ByteArray.size]; exact hlt)]
      simp [List.getD, List.getElem?_eq_getElem hlt, ByteArray.getElem_eq_getElem_data]
    simp [Instr.index, run_underlying hd1, asIntOf, mkStr, hob.1, hget]
  · cases h

theorem indexAt_sl {e : Ty} {xs : List e.D} {n : Int} {k : IntKind} {t et : TypeId} {vx : Value} (hd1 : P.underlying t = some (.slice et)) (hsz : sizeP P et = some e.size) (hob : 0 ≤ n ∧ n < List.length xs) (hx : Rep P (.slice e) S w xs [vx]) :
    ∃ u, (Instr.indexAt t vx (.int k n)).run P w = .ok u w ∧ Rel P S w ρ (.pp e ((xs : List e.D).getD n.toNat e.dflt)) u := by
  simp only [Rep] at hx
  obtain ⟨A, cap, e0, hsl⟩ := hx
  simp at e0; subst e0
  obtain ⟨inf, hinf, hsz⟩ := sz_some hsz
  have hlt : n.toNat < List.length xs := by omega
  obtain ⟨ad, rfl, hsp, hS, hel⟩ := hsl.at_ (by intro h; simp [h] at hlt)
  have hget : (xs : List _)[n.toNat]? = some ((xs : List e.D).getD n.toNat e.dflt) := by simp [List.getD, List.getElem?_eq_getElem hlt]
  obtain ⟨c, hrep, hcl, hat⟩ := hel _ _ hget
  refine ⟨.pointer (some (ad.add (n.toNat * e.size))), ?_, ?_⟩
  · simp [Instr.indexAt, run_underlying hd1, asIntOf, hob.1, hob.2, run_sizeOf hinf, hsz]
  · simp only [Rel, Rep]
    refine ⟨_, c, rfl, ?_, ?_, hrep, ?_⟩
    · unfold Addr.add; split <;> simp [hsp]
    · unfold Addr.add; split <;> simpa using hS
    · intro j v hj
      have := hat j v hj
      rw [addr_eta hsp, add_off]
      simpa using this

theorem indexAddrq_ok {H : List Blk} {t : TypeId} {x i : SV} {vx vi : Value} {q : QR} (hg : ∀ nm, BlkRel P S w ρ nm (getB H nm)) (h : indexAddrq P H t x i = some q) (hob : q.ob) (hx : Rel P S w ρ x vx) (hi : Rel P S w ρ i vi) : RunOk P S w ρ (Instr.indexAt t vx vi) q := by
  unfold indexAddrq at h
  split at h
  · rename_i e xs k n et h1
    split at h
    · rename_i hsz
      cases h
      simp only [Rel] at hx hi
      subst hi
      obtain ⟨_, _, d1, _, _, hd1, e1⟩ := tk_some h1
      have e1' : d1 = .slice et := by cases d1 <;> simp [kindOf] at e1 <;> simp_all
      subst e1'
      obtain ⟨u, h1, h2⟩ := indexAt_sl (ρ := ρ) (k := k) hd1 hsz hob hx
      exact ⟨rfl, u, h1, h2⟩
    · cases h
  · rename_i e xs k n et h1
    split at h
    · rename_i hsz
      cases h
      simp only [Rel] at hx hi
      subst hi
      obtain ⟨_, _, d1, _, _, hd1, e1⟩ := tk_some h1
      have e1' : d1 = .slice et := by cases d1 <;> simp [kindOf] at e1 <;> simp_all
      subst e1'
      obtain ⟨u, h1, h2⟩ := indexAt_sl (ρ := ρ) (k := k) hd1 hsz hob hx.2
      exact ⟨rfl, u, h1, h2⟩
    · cases h
  · rename_i nm m k n et h1
    split at h
    · rename_i e xs t' hl
      split at h
      · rename_i hsz
        cases h
        simp only at hob
        simp only [Rel] at hx hi
        subst hi
        obtain ⟨b, cap, A, hb, hb0, rfl⟩ := hx
        obtain ⟨_, _, d1, _, _, hd1, e1⟩ := tk_some h1
        have e1' : d1 = .slice et := by cases d1 <;> simp [kindOf] at e1 <;> simp_all
        subst e1'
        obtain ⟨inf, hinf, hsz⟩ := sz_some hsz
        cases b with
        | none => have := hb0.1; omega
        | some b =>
          simp only [OslA] at hb0
          subst hb0
          refine ⟨rfl, .pointer (some ⟨b, n.toNat * e.size, none⟩), ?_, ?_⟩
          · simp [Instr.indexAt, run_underlying hd1, asIntOf, hob.1, hob.2, run_sizeOf hinf, hsz, add_off]
          · simp only [Rel]
            exact ⟨b, cap, hb, rfl⟩
      · cases h
    · cases h
  · rename_i nm off k n m et h1
    split at h
    · rename_i e xs t' hl
      split at h
      · rename_i hsz
        obtain ⟨rfl, hsz⟩ := hsz
        cases h
        simp only at hob
        simp only [Rel] at hx hi
        subst hi
        obtain ⟨b, cap, hb, rfl⟩ := hx
        obtain ⟨_, _, d1, _, _, hd1, e1⟩ := tk_some h1
        have e1' : d1 = .array m et := by cases d1 <;> simp [kindOf] at e1 <;> simp_all
        subst e1'
        obtain ⟨inf, hinf, hsz⟩ := sz_some hsz
        refine ⟨rfl, .pointer (some ⟨b, n.toNat * e.size, none⟩), ?_, ?_⟩
        · simp [Instr.indexAt, run_underlying hd1, asIntOf, hob.1, hob.2, run_sizeOf hinf, hsz, add_off, Instr.sureAddr]
        · simp only [Rel]
          exact ⟨b, cap, hb, rfl⟩
      · cases h
    · rename_i l t' hl
      split at h
      · rename_i hsz
        cases h
        simp only at hob
        simp only [Rel] at hx hi
        subst hi
        obtain ⟨b, cap, hb, rfl⟩ := hx
        obtain ⟨_, _, d1, _, _, hd1, e1⟩ := tk_some h1
        have e1' : d1 = .array m et := by cases d1 <;> simp [kindOf] at e1 <;> simp_all
        subst e1'
        obtain ⟨inf, hinf, hsz⟩ := sz_some hsz
        refine ⟨rfl, .pointer (some ⟨b, off + n.toNat, none⟩), ?_, ?_⟩
        · simp [Instr.indexAt, run_underlying hd1, asIntOf, hob.1, hob.2, run_sizeOf hinf, hsz, add_off, Instr.sureAddr]
        · simp only [Rel]
          exact ⟨b, cap, hb, rfl⟩
      · cases h
    · cases h
  · rename_i e k' xs k n m et h1
    split at h
    · rename_i hsz
      obtain ⟨rfl, hsz⟩ := hsz
      cases h
      simp only at hob
      simp only [Rel, Rep] at hx hi
      subst hi
      obtain ⟨ad, c, e0, hsp, hS, hrep, hat⟩ := hx
      simp at e0; subst e0
      obtain ⟨_, _, d1, _, _, hd1, e1⟩ := tk_some h1
      have e1' : d1 = .array k' et := by cases d1 <;> simp [kindOf] at e1 <;> simp_all
      subst e1'
      obtain ⟨inf, hinf, hsz⟩ := sz_some hsz
      obtain ⟨r1, r2, r3⟩ := hrep
      have hlt : n.toNat < List.length xs := by omega
      have hget : (xs : List _)[n.toNat]? = some ((xs : List e.D).getD n.toNat e.dflt) := by simp [List.getD, List.getElem?_eq_getElem hlt]
      obtain ⟨c', g1, g2, g3⟩ := r3 _ _ hget
      refine ⟨rfl, .pointer (some (ad.add (n.toNat * e.size))), ?_, ?_⟩
      · simp [Instr.indexAt, run_underlying hd1, asIntOf, hob.1, hob.2, run_sizeOf hinf, hsz, Instr.sureAddr]
      · simp only [Rel, Rep]
        refine ⟨_, c', rfl, ?_, ?_, g1, ?_⟩
        · unfold Addr.add; split <;> simp [hsp]
        · unfold Addr.add; split <;> simpa using hS
        · intro j v hj
          have := hat _ v (g3 j v hj)
          rw [addr_eta hsp, add_off]
          simpa [Nat.add_assoc] using this
    · cases h
  · cases h

theorem subP_ok : (t : Ty) → {x : t.D} → {off n : Nat} → {ty : Ty} → {d : ty.D} → {cs : List Value} → {ad : Addr} → subP t x off n = .pp ty d → ad.spot = none → Rep P t S w x cs → AtCells w ad 0 cs →
    ∃ c, Rep P ty S w d c ∧ ty.size = n ∧ AtCells w (ad.add off) 0 c
  | .pair a b, x, off, n, ty, d, cs, ad, h, hsp, hr, hat => by
    unfold subP at h
    split at h
    · rename_i he
      obtain ⟨rfl, rfl⟩ := he
      cases h
      refine ⟨cs, hr, rfl, ?_⟩
      simpa [Addr.add] using hat
    · obtain ⟨c1, c2, rfl, h1, h2⟩ := hr
      have hl1 := h1.length
      split at h
      · exact subP_ok a h hsp h1 fun j v hj => hat j v (by
          rw [List.getElem?_append_left (by have := (List.getElem?_eq_some_iff.1 hj).1; omega)]; exact hj)
      · rename_i hge
        obtain ⟨c, r1, r2, r3⟩ := subP_ok b (ad := ad.add a.size) h (by rw [addr_eta hsp, add_off]) h2 (fun j v hj => by
          have := hat (a.size + j) v (by rw [List.getElem?_append_right (by omega)]; rw [hl1]; simpa using hj)
          rw [addr_eta hsp, add_off]
          simpa [Nat.add_assoc] using this)
        refine ⟨c, r1, r2, ?_⟩
        rw [addr_eta hsp, add_off, add_off] at r3
        rw [addr_eta hsp, add_off]
        rwa [show ad.off + a.size + (off - a.size) = ad.off + off from by omega] at r3
  | .tree a, .node x ks, off, n, ty, d, cs, ad, h, hsp, hr, hat => by
    unfold subP at h
    split at h
    · rename_i he
      obtain ⟨rfl, rfl⟩ := he
      cases h
      refine ⟨cs, hr, rfl, ?_⟩
      simpa [Addr.add] using hat
    · simp only [Rep] at hr
      rw [treeRep_iff] at hr
      obtain ⟨c1, A, cap, rfl, h1, h2⟩ := hr
      have hl1 := h1.length
      split at h
      · exact subP_ok a h hsp h1 fun j v hj => hat j v (by
          rw [List.getElem?_append_left (by have := (List.getElem?_eq_some_iff.1 hj).1; omega)]; exact hj)
      · split at h
        · rename_i he
          obtain ⟨rfl, rfl⟩ := he
          cases h
          refine ⟨[.slice A (List.length ks) cap], ⟨A, cap, rfl, h2⟩, rfl, fun j v hj => ?_⟩
          have := hat (a.size + j) v (by rw [List.getElem?_append_right (by omega)]; rw [hl1]; simpa using hj)
          rw [addr_eta hsp, add_off]
          simpa [Nat.add_assoc] using this
        · cases h
  | .int k, x, off, n, ty, d, cs, ad, h, hsp, hr, hat => by
    unfold subP at h
    split at h
    · rename_i he; obtain ⟨rfl, rfl⟩ := he; cases h; exact ⟨cs, hr, rfl, by simpa [Addr.add] using hat⟩
    · cases h
  | .bool, x, off, n, ty, d, cs, ad, h, hsp, hr, hat => by
    unfold subP at h
    split at h
    · rename_i he; obtain ⟨rfl, rfl⟩ := he; cases h; exact ⟨cs, hr, rfl, by simpa [Addr.add] using hat⟩
    · cases h
  | .str, x, off, n, ty, d, cs, ad, h, hsp, hr, hat => by
    unfold subP at h
    split at h
    · rename_i he; obtain ⟨rfl, rfl⟩ := he; cases h; exact ⟨cs, hr, rfl, by simpa [Addr.add] using hat⟩
    · cases h
  | .opq, x, off, n, ty, d, cs, ad, h, hsp, hr, hat => by
    unfold subP at h
    split at h
    · rename_i he; obtain ⟨rfl, rfl⟩ := he; cases h; exact ⟨cs, hr, rfl, by simpa [Addr.add] using hat⟩
    · cases h
  | .nilS, x, off, n, ty, d, cs, ad, h, hsp, hr, hat => by
    unfold subP at h
    split at h
    · rename_i he; obtain ⟨rfl, rfl⟩ := he; cases h; exact ⟨cs, hr, rfl, by simpa [Addr.add] using hat⟩
    · cases h
  | .slice e, x, off, n, ty, d, cs, ad, h, hsp, hr, hat => by
    unfold subP at h
    split at h
    · rename_i he; obtain ⟨rfl, rfl⟩ := he; cases h; exact ⟨cs, hr, rfl, by simpa [Addr.add] using hat⟩
    · cases h
  | .ref e, x, off, n, ty, d, cs, ad, h, hsp, hr, hat => by
    unfold subP at h
    split at h
    · rename_i he; obtain ⟨rfl, rfl⟩ := he; cases h; exact ⟨cs, hr, rfl, by simpa [Addr.add] using hat⟩
    · cases h
  | .fn1 a c, x, off, n, ty, d, cs, ad, h, hsp, hr, hat => by
    unfold subP at h
    split at h
    · rename_i he; obtain ⟨rfl, rfl⟩ := he; cases h; exact ⟨cs, hr, rfl, by simpa [Addr.add] using hat⟩
    · cases h
  | .fn2 a b c, x, off, n, ty, d, cs, ad, h, hsp, hr, hat => by
    unfold subP at h
    split at h
    · rename_i he; obtain ⟨rfl, rfl⟩ := he; cases h; exact ⟨cs, hr, rfl, by simpa [Addr.add] using hat⟩
    · cases h
  | .arr e k, x, off, n, ty, d, cs, ad, h, hsp, hr, hat => by
    unfold subP at h
    split at h
    · rename_i he; obtain ⟨rfl, rfl⟩ := he; cases h; exact ⟨cs, hr, rfl, by simpa [Addr.add] using hat⟩
    · cases h

theorem add_spot {ad : Addr} (h : ad.spot = none) (n : Nat) : (ad.add n).spot = none ∧ (ad.add n).block = ad.block := by
  rw [addr_eta h, add_off]; exact ⟨rfl, rfl⟩

theorem fieldAddrq_ok {t : TypeId} {x : SV} {k : Nat} {vx : Value} {q : QR} (h : fieldAddrq P t x k = some q) (hx : Rel P S w ρ x vx) : RunOk P S w ρ (Instr.fieldAt t vx k) q := by
  unfold fieldAddrq at h
  split at h
  · rename_i fs h1
    obtain ⟨_, _, d1, _, _, hd1, e1⟩ := tk_some h1
    obtain ⟨fs', rfl, rfl⟩ : ∃ fs' : Array Field, d1 = .struct fs' ∧ fs = fs'.toList.map fun f => (f.offset, f.type) := by
      cases d1 <;> simp [kindOf] at e1
      exact ⟨_, rfl, e1⟩
    split at h
    · rename_i off ft hk
      rw [List.getElem?_map, Option.map_eq_some_iff] at hk
      obtain ⟨f, hf, hfe⟩ := hk
      cases hfe
      split at h
      · rename_i n hsz
        obtain ⟨inf, hinf, hsz⟩ := sz_some hsz
        split at h
        · cases h
        · rename_i hn
          have hrun : ∀ ad : Addr, (Instr.fieldAt t (.pointer (some ad)) k).run P w = .ok (.pointer (some (ad.add f.offset))) w := fun ad => by
            have hf' : fs'[k]? = some f := by simpa using hf
            simp [Instr.fieldAt, run_underlying hd1, hf', Instr.sureAddr, fieldPlace, run_sizeOf hinf, hsz, hn]
          split at h
          · cases h
            simp only [Rel] at hx
            obtain ⟨b, cap, hb, rfl⟩ := hx
            refine ⟨rfl, _, hrun _, ?_⟩
            simp only [Rel]
            exact ⟨b, cap, hb, by rw [add_off]⟩
          · rename_i ty d
            split at h
            · rename_i ty' d' hsub
              cases h
              simp only [Rel, Rep] at hx
              obtain ⟨ad, c, e0, hsp, hS, hrep, hat⟩ := hx
              simp at e0; subst e0
              obtain ⟨c', r1, r2, r3⟩ := subP_ok ty hsub hsp hrep hat
              refine ⟨rfl, _, hrun _, ?_⟩
              simp only [Rel, Rep]
              obtain ⟨g1, g2⟩ := add_spot hsp f.offset
              exact ⟨_, c', rfl, g1, by rw [g2]; exact hS, r1, r3⟩
            · cases h
          · cases h
      · cases h
    · cases h
  · cases h

theorem fieldq_ok {t : TypeId} {x : SV} {k : Nat} {vx : Value} {q : QR} (h : fieldq P t x k = some q) (hx : Rel P S w ρ x vx) : RunOk P S w ρ (Instr.field t vx k) q := by
  unfold fieldq at h
  split at h
  · rename_i fs h1
    obtain ⟨_, _, d1, _, _, hd1, e1⟩ := tk_some h1
    obtain ⟨fs', rfl, rfl⟩ : ∃ fs' : Array Field, d1 = .struct fs' ∧ fs = fs'.toList.map fun f => (f.offset, f.type) := by
      cases d1 <;> simp [kindOf] at e1
      exact ⟨_, rfl, e1⟩
    split at h
    · rename_i off ft hk
      rw [List.getElem?_map, Option.map_eq_some_iff] at hk
      obtain ⟨f, hf, hfe⟩ := hk
      cases hfe
      split at h
      · rename_i fi hfi
        obtain ⟨i, d, h3, h4, rfl⟩ := ti_some hfi
        have hf' : fs'[k]? = some f := by simpa using hf
        split at h
        · rename_i l
          simp only [Rel] at hx
          obtain ⟨cs, rfl, hr⟩ := hx
          split at h
          · rename_i ha
            cases h
            refine ⟨rfl, .agg (cs.toArray.extract f.offset (f.offset + i.size)), ?_, ?_⟩
            · simp [Instr.field, run_underlying hd1, hf', asAgg, part, run_isAgg h4, ha, run_sizeOf h3]
            · simp only [Rel]
              refine ⟨(cs.drop f.offset).take i.size, ?_, ((hr.take_drop f.offset).2.take_drop i.size).1⟩
              simp
          · rename_i ha
            split at h
            · rename_i hlt
              cases h
              obtain ⟨v, hv, hrel⟩ := hr.get' hlt
              refine ⟨rfl, v, ?_, hrel⟩
              simp [Instr.field, run_underlying hd1, hf', asAgg, part, run_isAgg h4, ha, hv]
            · cases h
        · cases h
      · cases h
    · cases h
  · cases h
end
end Go.Vx
