/- A part of a small verifier for the model's programs, proved sound for any program; no condition. -/
import Derived.Test.YtnbicdeehppgpaaGreatDoorVxIb
import Derived.Deep.Upon
import Derived.MapKept
set_option linter.unusedSimpArgs false
set_option linter.unusedVariables false
namespace Go.Vx
open Go
set_option linter.unusedSectionVars false
set_option linter.unusedVariables false

def elemSV (H : List Blk) : SV → Option Ty
  | .sl e _ => some e
  | .slf e _ => some e
  | .osl nm _ => match getB H nm with
    | .own e _ _ => some e
    | _ => none
  | .str _ => some (.int .u8)
  | _ => none

def bytesD : (e : Ty) → List UInt8 → Option (List e.D)
  | .int .u8, s => some (s.map fun b => (b.toNat : Int))
  | _, _ => none

/-- What is appended: the elements. -/
def srcq (P : Program) (H : List Blk) (nm : Nat) (e : Ty) (tx : TypeId) (x : SV) : Option (List e.D) :=
  match tkOf P tx, x with
  | some (.slice _), .osl n k => if n = nm then none else toSl H e (.osl n k)
  | some (.slice _), x => toSl H e x
  | some .str, .str s => bytesD e s
  | _, _ => none

section
variable {P : Program} {S : Nat → Prop} {w : World} {ρ : Names}

theorem src_sl {H : List Blk} (hg : ∀ nm, BlkRel P S w ρ nm (getB H nm)) {e : Ty} {tx e' : TypeId} (hk : P.underlying tx = some (.slice e')) {x : SV} {v : Value} {ys : List e.D} (h : toSl H e x = some ys) (hr : Rel P S w ρ x v) :
    ∃ news, Src P e.size tx v (List.length ys) news w ∧ Chunks (Rep P e S w) e.size ys news := by
  have pers : Rep P (.slice e) S w ys [v] → ∃ news, Src P e.size tx v (List.length ys) news w ∧ Chunks (Rep P e S w) e.size ys news := by
    intro hrep
    obtain ⟨A, cap, e1, hsl⟩ := hrep
    simp at e1; subst e1
    obtain ⟨cs, h1, h2, h3, h4⟩ := hsl.cells (fun _ _ hr => hr.length) (fun _ _ hr => Rep.one e hr)
    refine ⟨cs, ?_, h2⟩
    rcases h4 with ⟨h5, h6⟩ | ⟨ad, rfl, h5⟩
    · subst h5; subst h6
      cases A with
      | none => exact Src.ofNil w hk cap
      | some ad => exact Src.ofSlice w hk ad 0 cap [] (by simp) (by simp) (by simp)
    · exact Src.ofSlice w hk ad _ cap cs h1 h5 h3
  unfold toSl at h
  split at h
  · split at h
    · rename_i he
      subst he
      cases h
      simp only [Rel] at hr
      exact pers hr
    · cases h
  · split at h
    · rename_i he
      subst he
      cases h
      simp only [Rel] at hr
      exact pers hr.2
    · cases h
  · cases h
    simp only [Rel] at hr
    obtain ⟨A, rfl⟩ := hr
    cases A with
    | none => exact ⟨[], Src.ofNil w hk 0, Chunks.nil _⟩
    | some ad => exact ⟨[], Src.ofSlice w hk ad 0 0 [] (by simp) (by simp) (by simp), Chunks.nil _⟩
  · rename_i nm n
    unfold toSlB at h
    split at h
    · rename_i e2 xs t hh
      split at h
      · rename_i he
        subst he
        split at h
        · rename_i hn
          cases h
          show ∃ news, Src P e2.size tx v (List.length (List.take n xs)) news w ∧ Chunks (Rep P e2 S w) e2.size (List.take n xs) news
          simp only [Rel] at hr
          obtain ⟨b, cap, A, hb, h0, rfl⟩ := hr
          have hblk := hg nm
          rw [hh] at hblk
          obtain ⟨ob, cap', hb', hle, hblk⟩ := hblk
          rw [hb] at hb'
          obtain ⟨rfl, rfl⟩ : b = ob ∧ cap = cap' := by simpa using hb'
          have hl : List.length (List.take n xs) = n := by rw [List.length_take]; omega
          rw [hl]
          cases b with
          | none =>
            obtain ⟨rfl, rfl⟩ := h0
            refine ⟨[], ?_, by simpa using Chunks.nil _⟩
            cases A with
            | none => exact Src.ofNil w hk 0
            | some ad => exact Src.ofSlice w hk ad 0 0 [] (by simp) (by simp) (by simp)
          | some b =>
            simp only [OslA] at h0
            subst h0
            obtain ⟨cs, fr, h1, _, h2, h3⟩ := hblk
            have hch : Chunks (Rep P e2 S w) e2.size xs cs := h3
            have hlc := hch.le
            have hn' : n * e2.size ≤ xs.length * e2.size := Nat.mul_le_mul_right _ hn
            have hcl : (cs.take (n * e2.size)).length = n * e2.size := by simp; omega
            have htk : Chunks (Rep P e2 S w) e2.size (xs.take n) (cs.take (n * e2.size)) := hch.take n
            refine ⟨cs.take (n * e2.size), Src.ofSlice w hk ⟨b, 0, none⟩ n cap _ hcl (fun j u hj => ?_) (fun u hu => ?_), htk⟩
            · rw [add_off, cell_of h1]
              rw [List.getElem?_take] at hj
              split at hj
              · simpa using hj
              · cases hj
            · obtain ⟨j, hj, rfl⟩ := List.mem_iff_getElem.1 hu
              rw [hcl] at hj
              have hsz : 0 < e2.size := by
                rcases Nat.eq_zero_or_pos e2.size with h0 | h0
                · rw [h0] at hj; omega
                · exact h0
              have hi : j / e2.size < n := Nat.div_lt_of_lt_mul (by rwa [Nat.mul_comm])
              obtain ⟨x, hx⟩ : ∃ x, (xs.take n)[j / e2.size]? = some x := ⟨xs[j / e2.size]'(by omega), by rw [List.getElem?_take, if_pos hi]; simp⟩
              obtain ⟨c, r1, r2, r3⟩ := htk _ _ hx
              have hr : j % e2.size < c.length := by rw [r2]; exact Nat.mod_lt _ hsz
              have := r3 (j % e2.size) c[j % e2.size] (by simp [hr])
              rw [show j / e2.size * e2.size + j % e2.size = j from by rw [Nat.mul_comm]; exact Nat.div_add_mod j e2.size] at this
              rw [List.getElem?_eq_getElem (by omega)] at this
              rw [Option.some.inj this]
              exact Rep.one e2 r1 _ (List.getElem_mem _)
        · cases h
      · cases h
    · cases h
  · cases h

theorem chunks_map {α β : Type} {R : β → List Value → Prop} {sz : Nat} (f : α → β) (g : α → Value) (hs : sz = 1) (h : ∀ a, R (f a) [g a]) (l : List α) : Chunks R sz (l.map f) (l.map g) := fun i x hx => by
  subst hs
  rw [List.getElem?_map, Option.map_eq_some_iff] at hx
  obtain ⟨a, ha, rfl⟩ := hx
  refine ⟨[g a], h a, rfl, fun j v hj => ?_⟩
  have hj0 : j = 0 := by have := (List.getElem?_eq_some_iff.1 hj).1; simpa using this
  subst hj0
  simp at hj
  subst hj
  simp [ha]

theorem srcq_ok {H : List Blk} (hg : ∀ nm, BlkRel P S w ρ nm (getB H nm)) {nm : Nat} {e : Ty} {tx : TypeId} {x : SV} {v : Value} {ys : List e.D} (h : srcq P H nm e tx x = some ys) (hr : Rel P S w ρ x v) :
    ∃ news, Src P e.size tx v (List.length ys) news w ∧ Chunks (Rep P e S w) e.size ys news := by
  unfold srcq at h
  split at h
  · rename_i e' n k h1
    obtain ⟨_, _, d1, _, _, hd1, e1⟩ := tk_some h1
    have e1' : d1 = .slice e' := by cases d1 <;> simp [kindOf] at e1 <;> simp_all
    subst e1'
    split at h
    · cases h
    · exact src_sl hg hd1 h hr
  · rename_i e' h1 _
    obtain ⟨_, _, d1, _, _, hd1, e1⟩ := tk_some h1
    have e1' : d1 = .slice e' := by cases d1 <;> simp [kindOf] at e1 <;> simp_all
    subst e1'
    exact src_sl hg hd1 h hr
  · rename_i s h1
    obtain ⟨_, _, d1, _, _, hd1, e1⟩ := tk_some h1
    have e1' : d1 = .string := by cases d1 <;> simp [kindOf] at e1 <;> simp_all
    subst e1'
    unfold bytesD at h
    split at h
    · cases h
      simp only [Rel] at hr
      subst hr
      refine ⟨byteCells ⟨s.toArray⟩, ?_, ?_⟩
      · have := Src.ofString w hd1 ⟨s.toArray⟩ (P := P)
        rw [mkStr_size] at this
        simpa [Ty.size, mkStr] using this
      · unfold byteCells
        exact chunks_map (R := Rep P (.int .u8) S w) (fun b : UInt8 => (b.toNat : Int)) (fun b => Value.int .u8 b.toNat) rfl (fun a => by simp only [Rep]) s
    · cases h
  · cases h

theorem zcells_length (z : Value) : (flat (ofConst z)).length = z.cells.size := by
  unfold ofConst
  split
  · simp [flat, Value.cells]
  · rename_i hna
    have h1 : flat (ofCell z) = [ofCell z] := by unfold ofCell; split <;> rfl
    rw [h1]
    cases z <;> first | rfl | (exact absurd rfl (hna _))

theorem zeroCells_len (z : Array Value) (n : Nat) : (Builtin.zeroCells z n).size = n * z.size := by simp [Builtin.zeroCells]

/-- What an append leaves: the slice's row, old or new. -/
theorem run_append {et t tx ty : TypeId} {i : TypeInfo} {z : Value} {e : Ty} (ht : P.underlying t = some (.slice et)) (hi : P.info? et = some i) (hz : i.zero = some z) (hsz : i.size = e.size) (hzl : z.cells.size = e.size)
    {nm : Nat} {ob : Option Nat} {A : Option Addr} {cap n : Nat} {xs ys : List e.D} {x : Value} {news : List Value} (hle : xs.length ≤ cap) (hn : n ≤ xs.length)
    (hrow : match ob with
      | none => cap = 0
      | some b => ∃ (cs : List Value) (fr : Nat × Nat), w.heap[b]? = some (.cells cs.toArray et fr) ∧ (fr.1 = fr.2 ∨ cs.length ≤ fr.1) ∧ cs.length = cap * e.size ∧ Chunks (Rep P e S w) e.size xs cs)
    (hA : OslA ob A n cap) (hs : Src P e.size tx x (List.length ys) news w) (hc : Chunks (Rep P e S w) e.size ys news) (hb : (List.length (List.take n xs ++ ys)) * (i.bytes + 1) ≤ 140737488355328) (hbnd : Bounded S w) (hnS : ∀ b, ob = some b → ¬ S b ∧ b < w.heap.size) :
    ∃ ob' cap' A' w', (Builtin.append_ #[t, tx] ty #[.slice A n cap, x]).run P w = .ok (.slice A' (List.length (List.take n xs ++ ys)) cap') w' ∧ OslA ob' A' (List.length (List.take n xs ++ ys)) cap' ∧
      w'.os = w.os ∧ w'.tape = w.tape ∧ w'.output = w.output ∧ w.heap.size ≤ w'.heap.size ∧ (∀ k, k < w.heap.size → ob ≠ some k → w'.heap[k]? = w.heap[k]?) ∧ (∀ b, ob' = some b → ob = some b ∨ (w.heap.size ≤ b ∧ b < w'.heap.size)) ∧
      (ob' = none → w' = w) ∧
      ∀ ρ', ρ' nm = some (ob', cap') → BlkRel P S w' ρ' nm (.own e (List.take n xs ++ ys) et) := by
  have hl : List.length (List.take n xs) = n := by rw [List.length_take]; omega
  have hlen : List.length (List.take n xs ++ ys) = n + List.length ys := by rw [List.length_append, hl]
  rw [hlen] at hb ⊢
  have hb1 : (n + List.length ys) * i.bytes ≤ 140737488355328 := Nat.le_trans (Nat.mul_le_mul_left _ (Nat.le_succ _)) hb
  have hb2 : n + List.length ys ≤ 140737488355328 := Nat.le_trans (Nat.le_mul_of_pos_right _ (Nat.succ_pos _)) hb
  have hnl := hs.newsLen
  by_cases hroom : n + List.length ys ≤ cap
  · cases ob with
    | none =>
      simp only at hrow
      subst hrow
      have hn0 : n = 0 := by omega
      have hy0 : List.length ys = 0 := by omega
      have hy : ys = [] := List.length_eq_zero_iff.1 hy0
      subst hy
      subst hn0
      have hnews : news = [] := by simpa using hnl
      subst hnews
      rw [← hsz] at hs
      refine ⟨none, 0, A, w, run_append_nothing w t tx ty et i ht hi A 0 0 (Nat.le_refl _) x hs, ⟨rfl, rfl⟩, rfl, rfl, rfl, Nat.le_refl _, fun _ _ _ => rfl, fun b hb => (by cases hb), fun _ => rfl, fun ρ' hρ => ⟨none, 0, hρ, by simp, rfl⟩⟩
    | some b =>
      simp only [OslA] at hA
      subst hA
      obtain ⟨cs, fr, h1, h2, h3, h4⟩ := hrow
      have hfit : n * e.size + news.length ≤ cs.length := by rw [hnl, h3, ← Nat.add_mul]; exact Nat.mul_le_mul_right _ hroom
      obtain ⟨hSb, hbl⟩ := hnS b rfl
      have hrun := run_append_room_src w t tx ty et i ht hi b 0 n cap x (List.length ys) news (by rw [hsz]; exact hs) hroom (fun j hj => by
        rw [cell_of h1, hsz]
        rw [List.getElem?_eq_getElem (by omega)]; rfl) (fun j hj => by
        rw [hsz]
        simp only [World.frozen?, h1]
        obtain ⟨lo, hi⟩ := fr
        simp only at h2 ⊢
        rcases h2 with h | h
        · subst h; simp; try omega
        · simp; omega)
      rw [hsz, Nat.zero_add] at hrun
      obtain ⟨g1, g2, g3, g4, g5⟩ := setCells_rest (b := b) news (n * e.size) w
      have hrow' := setCells_cells news (n * e.size) w cs h1 hfit
      have hfut : Fut S w S (w.setCells b (n * e.size) news) := ⟨fun _ h => h, fun k hk => g1 k (fun e => hSb (e ▸ hk))⟩
      refine ⟨some b, cap, _, _, hrun, rfl, g3, g4, g5, Nat.le_of_eq g2.symm, fun k _ hk => g1 k (fun e => hk (by rw [e])), fun b' hb' => .inl hb', fun h => (by cases h), fun ρ' hρ => ⟨some b, cap, hρ, by rw [hlen]; exact hroom, _, fr, hrow', ?_, ?_, ?_⟩⟩
      · rcases h2 with h | h
        · exact .inl h
        · refine .inr (Nat.le_trans (Nat.le_of_eq ?_) h)
          simp only [List.length_append, List.length_take, List.length_drop]; omega
      · rw [← h3]; simp only [List.length_append, List.length_take, List.length_drop]; omega
      · have hch := ((h4.take n).append (by rw [List.length_take, hl]; omega) hc).more (cs.drop (n * e.size + news.length))
        exact hch.mono fun _ _ hr => Rep.fut hfut e hr
  · have hgt : cap < n + List.length ys := by omega
    obtain ⟨olds, ho1, ho2, ho3⟩ : ∃ olds : List Value, olds.length = n * e.size ∧ (Builtin.firstCells i.size n (.slice A n cap)).run P w.drew = .ok olds.toArray w.drew ∧ Chunks (Rep P e S w) e.size (List.take n xs) olds := by
      cases ob with
      | none =>
        simp only at hrow
        subst hrow
        have hn0 : n = 0 := by omega
        subst hn0
        refine ⟨[], by simp, ?_, by simpa using Chunks.nil _⟩
        cases A with
        | none => simp [Builtin.firstCells]
        | some ad => exact run_firstCells_some w.drew i.size 0 ad 0 0 [] (by simp) (by simp)
      | some b =>
        simp only [OslA] at hA
        subst hA
        obtain ⟨cs, fr, h1, h2, h3, h4⟩ := hrow
        have := h4.le
        have hn' : n * e.size ≤ xs.length * e.size := Nat.mul_le_mul_right _ hn
        have hcl : (cs.take (n * e.size)).length = n * e.size := by rw [List.length_take]; omega
        refine ⟨cs.take (n * e.size), hcl, ?_, h4.take n⟩
        rw [hsz]
        refine run_firstCells_some w.drew e.size n _ n cap _ hcl fun j v hj => ?_
        simp only [add_off]
        rw [show w.drew.cell? ⟨b, 0 + j, none⟩ = w.cell? ⟨b, 0 + j, none⟩ from rfl, cell_of h1, Nat.zero_add]
        rw [List.getElem?_take] at hj
        split at hj
        · exact hj
        · cases hj
    have hrun := run_append_grow_src w t tx ty et i z ht hi hz A n cap olds ho2 x (List.length ys) news (by rw [hsz]; exact hs) hgt (by omega) (growslice_fits hgt hb1)
    have hge := grownCap_ge w (n + List.length ys) cap et
    have hold : ∀ k, k < w.heap.size → (w.drew.alloc (.cells ((olds ++ news).toArray ++ Builtin.zeroCells z.cells (grownCap w (n + List.length ys) cap et - (n + List.length ys))) et)).heap[k]? = w.heap[k]? := fun k hk => by
      show (w.heap.push _)[k]? = _
      rw [Array.getElem?_push, if_neg (by omega)]
    refine ⟨some w.heap.size, _, _, _, hrun, rfl, rfl, rfl, rfl, by simp, fun k hk _ => hold k hk, fun b hb => .inr (by cases hb; simp), fun h => (by cases h), fun ρ' hρ => ⟨some w.heap.size, _, hρ, by rw [hlen]; exact hge, olds ++ news ++ (Builtin.zeroCells z.cells (grownCap w (n + List.length ys) cap et - (n + List.length ys))).toList, (0, 0), ?_, .inl rfl, ?_, ?_⟩⟩
    · show (w.heap.push _)[w.heap.size]? = _
      rw [Array.getElem?_push, if_pos rfl]
      congr 2
      apply Array.ext'
      simp
    · have hz := zeroCells_len z.cells (grownCap w (n + List.length ys) cap et - (n + List.length ys))
      rw [hzl] at hz
      simp only [List.length_append, Array.length_toList, hz, ho1, hnl, ← Nat.add_mul]
      congr 1
      omega
    · have hch := (ho3.append (by rw [ho1, hl]) hc).more (Builtin.zeroCells z.cells (grownCap w (n + List.length ys) cap et - (n + List.length ys))).toList
      exact hch.mono fun _ _ hr => Rep.fut ⟨fun _ h => h, fun k hk => hold k (hbnd.lt k hk)⟩ e hr
end

/-! #### onto nothing: a quiet operation -/

def appendQ1 (base : Nat) (et : TypeId) (sz by_ : Nat) (zl : Nat) (e : Ty) : Option (List e.D) → Option QR
  | some ys => some ⟨zl = sz ∧ sz = e.size ∧ List.length ys * (by_ + 1) ≤ 140737488355328, .osl base (List.length ys), some (.own e ys et)⟩
  | none => none
def appendQ2 (P : Program) (H : List Blk) (base : Nat) (et tx : TypeId) (x : SV) : Option TI → Option Ty → Option QR
  | some ⟨_, sz, by_, some z⟩, some e => appendQ1 base et sz by_ (flat (ofConst z)).length e (srcq P H base e tx x)
  | _, _ => none
def appendQ3 (P : Program) (H : List Blk) (base : Nat) (tx : TypeId) (x : SV) : Option TK → Option QR
  | some (.slice et) => appendQ2 P H base et tx x (tiOf P et) (elemSV H x)
  | _ => none
def appendq (P : Program) (H : List Blk) (base : Nat) (t tx : TypeId) (s x : SV) : Option QR :=
  match s with
  | .nils => appendQ3 P H base tx x (tkOf P t)
  | _ => none
/-! #### maps -/

def mlook {α : Type} : List (MK × α) → MK → Option α
  | [], _ => none
  | x :: m, k => if x.1 = k then some x.2 else mlook m k
def mset {α : Type} : List (MK × α) → MK → α → List (MK × α)
  | [], k, v => [(k, v)]
  | x :: m, k, v => if x.1 = k then (k, v) :: m else x :: mset m k v

/-- A map type's key and its elements' type. -/
def mapOf (P : Program) (t : TypeId) : Option (TypeDesc × TypeId) :=
  match P.underlying t with
  | some (.map k e) => (P.underlying k).map fun d => (d, e)
  | _ => none

def keySV : TypeDesc → SV → Option MK
  | .string, .str s => some (.s s)
  | .int k, .int k' n => if k = k' then some (.i k n) else none
  | _, _ => none

def sameD : TypeDesc → TypeDesc → Bool
  | .string, .string => true
  | .int k, .int k' => decide (k = k')
  | _, _ => false

def zeroDV (e : Ty) : Option TI → Option e.D
  | some ⟨_, _, _, some z⟩ => toDV no1 no2 [] e (ofConst z)
  | _ => none

def keyD : TypeDesc → Bool
  | .string => true
  | .int _ => true
  | _ => false

def mkMap1 (base : Nat) (d : TypeDesc) : Option Ty → Option QR
  | some e => if keyD d = true then some ⟨True, .mp base, some (.mp d e [])⟩ else none
  | none => none
def mkMapq (P : Program) (base : Nat) : Option (TypeDesc × TypeId) → Option QR
  | some r => mkMap1 base r.1 (tyOf P 12 r.2)
  | none => none

def lookV (ok : Bool) (e : Ty) (o : Option e.D) (z : e.D) : SV := match ok with
  | true => .tup [ofDV e (o.getD z), .bool o.isSome]
  | false => ofDV e (o.getD z)
def lookq2 (e : Ty) (m : List (MK × e.D)) (ok : Bool) : Option MK → Option e.D → Option QR
  | some k, some z => some ⟨True, lookV ok e (mlook m k) z, none⟩
  | _, _ => none
def lookq1 (P : Program) (d : TypeDesc) (et : TypeId) (key : SV) (ok : Bool) : Blk → Option QR
  | .mp d' e m => if sameD d' d = true then lookq2 e m ok (keySV d' key) (zeroDV e (tiOf P et)) else none
  | _ => none
def lookq (P : Program) (H : List Blk) (x key : SV) (ok : Bool) : Option (TypeDesc × TypeId) → Option QR
  | some r => match x with
    | .mp nm => lookq1 P r.1 r.2 key ok (getB H nm)
    | _ => none
  | none => none

theorem sameD_eq {d d' : TypeDesc} (h : sameD d d' = true) : d = d' := by
  unfold sameD at h
  split at h
  · rfl
  · rw [of_decide_eq_true h]
  · cases h

theorem mkOk_key {d : TypeDesc} {k : MK} (h : mkOk d k = true) : MapKept.IsKey d (keyV k) := by
  cases k with
  | s l => cases d <;> simp [mkOk] at h; simp [keyV, mkStr, MapKept.IsKey]
  | i k n => cases d <;> simp [mkOk] at h; simp [keyV, MapKept.IsKey, h]

theorem keyV_inj {k k' : MK} (h : keyV k = keyV k') : k = k' := by
  cases k with
  | s l => cases k' with
    | s l' => simpa [keyV, mkStr] using h
    | i k n => simp [keyV, mkStr] at h
  | i k n => cases k' with
    | s l' => simp [keyV, mkStr] at h
    | i k' n' => simpa [keyV] using h

section
variable {P : Program} {S : Nat → Prop} {w : World} {ρ : Names}

theorem keySV_ok {d : TypeDesc} {s : SV} {k : MK} {v : Value} (h : keySV d s = some k) (hr : Rel P S w ρ s v) : mkOk d k = true ∧ v = keyV k := by
  unfold keySV at h
  split at h
  · cases h
    simp only [Rel] at hr
    exact ⟨rfl, hr⟩
  · split at h
    · rename_i hk
      cases h
      simp only [Rel] at hr
      subst hk
      exact ⟨by simp [mkOk], hr⟩
    · cases h
  · cases h

theorem mapFind {d : TypeDesc} {e : Ty} {k : MK} (hk : mkOk d k = true) : (m : List (MK × e.D)) → {es : List MapEntry} → MapRel P S w d e m es → ∀ i,
    (Instr.findNow d (keyV k) es i = some none ∧ mlook m k = none ∧ ∀ v val born, RepV P e S w v val → MapRel P S w d e (mset m k v) (es ++ [⟨keyV k, val, born⟩])) ∨
    ∃ j y x, Instr.findNow d (keyV k) es i = some (some (i + j, y.val)) ∧ es[j]? = some y ∧ y.key = keyV k ∧ mlook m k = some x ∧ RepV P e S w x y.val ∧
      ∀ v val, RepV P e S w v val → MapRel P S w d e (mset m k v) (es.modify j fun z => { z with key := keyV k, val := val })
  | [], es, h, i => by
    simp only [MapRel] at h
    subst h
    exact .inl ⟨rfl, rfl, fun v val born hv => ⟨_, [], rfl, rfl, hk, hv, rfl⟩⟩
  | x :: m, es, h, i => by
    obtain ⟨y, es', rfl, h1, h2, h3, h4⟩ := h
    obtain ⟨r, hr, hiff⟩ := MapKept.sameNow_of_keys (b := y.key) (mkOk_key hk) (by rw [h1]; exact mkOk_key h2)
    cases r with
    | true =>
      have e1 : keyV k = y.key := hiff.1 rfl
      have e2 : x.1 = k := (keyV_inj (e1.trans h1)).symm
      refine .inr ⟨0, y, x.2, by simp [Instr.findNow, hr], rfl, e1.symm, by simp [mlook, e2], h3, fun v val hv => ?_⟩
      simp only [mset, if_pos e2]
      exact ⟨_, es', rfl, rfl, hk, hv, h4⟩
    | false =>
      have e2 : ¬ x.1 = k := fun q => by have := hiff.2 (by rw [h1, q]); cases this
      rcases mapFind hk m h4 (i + 1) with ⟨g1, g2, g3⟩ | ⟨j, y', x', g1, g2, g3, g4, g5, g6⟩
      · refine .inl ⟨by simp [Instr.findNow, hr, g1], by simp [mlook, e2, g2], fun v val born hv => ?_⟩
        simp only [mset, if_neg e2, List.cons_append]
        exact ⟨y, _, rfl, h1, h2, h3, g3 v val born hv⟩
      · refine .inr ⟨j + 1, y', x', by simp [Instr.findNow, hr, g1]; omega, by simpa using g2, g3, by simp [mlook, e2, g4], g5, fun v val hv => ?_⟩
        simp only [mset, if_neg e2]
        exact ⟨y, _, by simp, h1, h2, h3, g6 v val hv⟩

theorem mapOf_some {t : TypeId} {r : TypeDesc × TypeId} (h : mapOf P t = some r) : ∃ k, P.underlying t = some (.map k r.2) ∧ P.underlying k = some r.1 := by
  unfold mapOf at h
  split at h
  · rename_i k e hu
    simp only [Option.map_eq_some_iff] at h
    obtain ⟨d, h1, rfl⟩ := h
    exact ⟨k, hu, h1⟩
  · cases h

theorem lookq_ok {H : List Blk} {t : TypeId} {x key : SV} {vx vk : Value} {ok : Bool} {q : QR} (hg : ∀ nm, BlkRel P S w ρ nm (getB H nm)) (h : lookq P H x key ok (mapOf P t) = some q) (hx : Rel P S w ρ x vx) (hkr : Rel P S w ρ key vk) :
    q.new = none ∧ q.ob ∧ ∃ v, (Instr.lookup t vx vk ok).run P w = .ok v w ∧ Rel P S w ρ q.val v := by
  cases hm : mapOf P t with
  | none => rw [hm] at h; simp [lookq] at h
  | some r =>
    rw [hm] at h
    obtain ⟨kt, hu, hd⟩ := mapOf_some hm
    unfold lookq at h
    simp only at h
    split at h
    · rename_i nm
      unfold lookq1 at h
      split at h
      · rename_i d' e m hb
        split at h
        · rename_i hsd
          have hsd := sameD_eq hsd
          subst hsd
          unfold lookq2 at h
          split at h
          · rename_i k z hk hz
            cases h
            simp only [Rel] at hx
            obtain ⟨b, cap, hbn, rfl⟩ := hx
            have hblk := hg nm
            rw [hb] at hblk
            obtain ⟨b', cap', hb', es, clock, hh, hmr⟩ := hblk
            rw [hbn] at hb'; cases hb'
            obtain ⟨hko, rfl⟩ := keySV_ok hk hkr
            have hik := mkOk_key hko
            unfold zeroDV at hz
            split at hz
            · rename_i k1 s1 b1 zv hti
              obtain ⟨inf, d2, hinf, _, hti2⟩ := ti_some hti
              have hzv : inf.zero = some zv := by
                have := congrArg TI.zero hti2
                simpa using this.symm
              have hzr : RepV P e S w z zv := (toDV_repV (P := P) (S := S) (w := w) (ρ := ρ) noH (fun _ _ _ _ _ => no1_rep _ _ _ _ _) (fun _ _ _ _ _ _ => no2_rep _ _ _ _ _ _) hz (ofConst_rel zv)).here
              have hzrun : (zeroValue r.2).run P w = .ok zv w := by simp [zeroValue, typeInfo, hinf, hzv]
              refine ⟨rfl, trivial, ?_⟩
              rcases mapFind hko m hmr 0 with ⟨g1, g2, _⟩ | ⟨j, y, x', g1, g2, g3, g4, g5, _⟩
              · cases ok with
                | true =>
                  refine ⟨.tuple #[zv, .bool false], ?_, ?_⟩
                  · simp [Instr.lookup, run_underlying hu, MapKept.run_getObj_map hh, MapKept.run_checkKey hd hik, MapKept.run_findKey hd g1, hzrun, Result.andThen]
                  · rw [g2]
                    simp only [lookV, Rel]
                    exact ⟨[zv, .bool false], rfl, by simp only [RelL]; exact ⟨_, _, rfl, ofDV_rel hzr, _, _, rfl, by simp [Rel], rfl⟩⟩
                | false =>
                  refine ⟨zv, ?_, ?_⟩
                  · simp [Instr.lookup, run_underlying hu, MapKept.run_getObj_map hh, MapKept.run_checkKey hd hik, MapKept.run_findKey hd g1, hzrun, Result.andThen]
                  · rw [g2]; exact ofDV_rel hzr
              · cases ok with
                | true =>
                  refine ⟨.tuple #[y.val, .bool true], ?_, ?_⟩
                  · simp [Instr.lookup, run_underlying hu, MapKept.run_getObj_map hh, MapKept.run_checkKey hd hik, MapKept.run_findKey hd g1, Result.andThen]
                  · rw [g4]
                    simp only [lookV, Rel]
                    exact ⟨[y.val, .bool true], rfl, by simp only [RelL]; exact ⟨_, _, rfl, ofDV_rel g5, _, _, rfl, by simp [Rel], rfl⟩⟩
                | false =>
                  refine ⟨y.val, ?_, ?_⟩
                  · simp [Instr.lookup, run_underlying hu, MapKept.run_getObj_map hh, MapKept.run_checkKey hd hik, MapKept.run_findKey hd g1, Result.andThen]
                  · rw [g4]; exact ofDV_rel g5
            · cases hz
          · cases h
        · cases h
      · cases h
    · cases h
end

def appArgs : Op → Option (TypeId × TypeId × Operand × Operand)
  | .call c => match c.callee, c.args.toList, c.argTypes.toList with
    | .builtin .append, [s, x], [t, tx] => some (t, tx, s, x)
    | _, _, _ => none
  | _ => none
/-- A quiet operation: evq, and what is appended to nothing. -/
def evM (P : Program) (tbl : List (FuncId × TF)) (H : List Blk) (base : Nat) (slots : List SV) (op : Op) : Option QR :=
  match op with
  | .makeMap t none => mkMapq P base (mapOf P t)
  | .lookup t x k ok => lookq P H (evS slots x) (evS slots k) ok (mapOf P t)
  | op => evq P tbl H base slots op
/-- A slice held against nil. -/
def nilArgs : Op → Option (Bool × TypeId × Operand)
  | .binOp op t x (.const (.slice none 0 0)) _ => match op with
    | .eql => some (true, t, x)
    | .neq => some (false, t, x)
    | _ => none
  | _ => none
def nilcmp2 (yes : Bool) : SV → Option QR
  | .nil0 => some ⟨True, .kb yes, none⟩
  | .osl _ n => some ⟨0 < n, .kb (!yes), none⟩
  | _ => none
def nilcmp (P : Program) (yes : Bool) (t : TypeId) (x : SV) : Option QR :=
  match tkOf P t with
  | some (.slice _) => nilcmp2 yes x
  | _ => none

def evA (P : Program) (tbl : List (FuncId × TF)) (H : List Blk) (base : Nat) (slots : List SV) (op : Op) : Option QR :=
  match appArgs op with
  | some (t, tx, s, x) => appendq P H base t tx (evS slots s) (evS slots x)
  | none => match nilArgs op with
    | some (yes, t, x) => nilcmp P yes t (evS slots x)
    | none => evM P tbl H base slots op

section
variable {P : Program}
theorem ti_at {et : TypeId} {k : TK} {sz by_ : Nat} {zo : Option Value} (h : tiOf P et = some ⟨k, sz, by_, zo⟩) : ∃ i, P.info? et = some i ∧ i.size = sz ∧ i.bytes = by_ ∧ i.zero = zo := by
  obtain ⟨i, d, h1, h2, h3⟩ := ti_some h
  cases h3
  exact ⟨i, h1, rfl, rfl, rfl⟩

end

theorem appArgs_some {op : Op} {t tx : TypeId} {s x : Operand} (h : appArgs op = some (t, tx, s, x)) : ∃ c, op = .call c ∧ c.callee = .builtin .append ∧ c.args = #[s, x] ∧ c.argTypes = #[t, tx] := by
  unfold appArgs at h
  split at h
  · rename_i c
    split at h
    · rename_i s' x' t' tx' h1 h2 h3
      cases h
      exact ⟨c, rfl, h1, by apply Array.ext'; simpa using h2, by apply Array.ext'; simpa using h3⟩
    · cases h
  · cases h

theorem run_equalIn_nil {P : Program} (w : World) (d : Nat) {t e : TypeId} {a : Option Addr} {l c : Nat} (h : P.underlying t = some (.slice e)) : (Op.equalIn (d + 1) t (.slice a l c) (.slice none 0 0)).run P w = .ok a.isNone w := by
  unfold Op.equalIn
  cases a <;> simp [run_underlying h]
theorem run_equal_nil {P : Program} (w : World) {t e : TypeId} {a : Option Addr} {l c : Nat} (h : P.underlying t = some (.slice e)) : (Op.equal t (.slice a l c) (.slice none 0 0)).run P w = .ok a.isNone w := run_equalIn_nil w 9999 h
theorem nilArgs_some {op : Op} {yes : Bool} {t : TypeId} {x : Operand} (h : nilArgs op = some (yes, t, x)) : ∃ b ty, op = .binOp b t x (.const (.slice none 0 0)) ty ∧ ((b = .eql ∧ yes = true) ∨ (b = .neq ∧ yes = false)) := by
  unfold nilArgs at h
  split at h
  · rename_i b t' x' ty
    cases b <;> simp at h
    · obtain ⟨rfl, rfl, rfl⟩ := h; exact ⟨_, ty, rfl, by simp⟩
    · obtain ⟨rfl, rfl, rfl⟩ := h; exact ⟨_, ty, rfl, by simp⟩
  · cases h

section
variable {P : Program} {S : Nat → Prop} {w : World} {ρ : Names}
theorem evM_ok {tbl : List (FuncId × TF)} {H : List Blk} {o : Oper} {a : Act} {slots : List SV} {base : Nat} {q : QR} (htbl : TblOk P tbl) (hb : Bounded S w) (hg : ∀ nm, BlkRel P S w ρ nm (getB H nm)) (hap : ∀ nm b cap, (getB H nm).live = true → ρ nm = some (some b, cap) → b < w.heap.size) (hs : ∀ x ∈ o.op.operands, Rel P S w ρ (evS slots x) (a.eval x))
    (hbase : ρ base = none) (he : evM P tbl H base slots o.op = some q) (hob : q.ob) : OpOk P o a w (QOut P S w ρ base q) := by
  unfold evM at he
  split at he
  · rename_i t ho
    cases hm : mapOf P t with
    | none => rw [hm] at he; simp [mkMapq] at he
    | some r =>
      rw [hm] at he
      simp only [mkMapq] at he
      unfold mkMap1 at he
      split at he
      · split at he
        · rename_i e _ hkd
          cases he
          obtain ⟨g1, g2, g3, g4, g5, g6⟩ := alloc_facts (w := w) (.map #[] 0)
          have hn : setN ρ base (some w.heap.size, 0) base = some (some w.heap.size, 0) := by simp [setN]
          refine OpOk.value (v := .map (some w.heap.size)) (w' := w.alloc (.map #[] 0)) ?_ ⟨S, setN ρ base (some w.heap.size, 0), ⟨ext_alloc hb _, setN_keep hbase, fun k hk => by simp [setN, hk], fun h => (by cases h), fun blk h => ?_⟩, by simp only [Rel]; exact ⟨_, _, hn, rfl⟩⟩
          · simp [execOp, ho, Instr.makeMap]
          · cases h
            refine ⟨⟨w.heap.size, 0, hn, [], 0, g1, rfl⟩, fun b cap he => ?_⟩
            rw [hn] at he
            cases he
            exact ⟨Nat.le_refl _, g3, fun h => by have := hb.lt _ h; omega⟩
        · cases he
      · cases he
  · rename_i t x k ok ho
    obtain ⟨h1, h2, v, h3, h4⟩ := lookq_ok (t := t) hg he (hs x (by simp [ho, Op.operands])) (hs k (by simp [ho, Op.operands]))
    refine OpOk.value (v := v) (w' := w) (by simp [execOp, ho, h3]) ⟨S, ρ, ?_, h4⟩
    rw [h1]; exact QPost.same base hb
  · exact evq_ok htbl hb hg hap hs hbase he hob

theorem evA_ok {tbl : List (FuncId × TF)} {H : List Blk} {o : Oper} {a : Act} {slots : List SV} {base : Nat} {q : QR} (htbl : TblOk P tbl) (hb : Bounded S w) (hg : ∀ nm, BlkRel P S w ρ nm (getB H nm)) (hap : ∀ nm b cap, (getB H nm).live = true → ρ nm = some (some b, cap) → b < w.heap.size) (hs : ∀ x ∈ o.op.operands, Rel P S w ρ (evS slots x) (a.eval x))
    (hbase : ρ base = none) (he : evA P tbl H base slots o.op = some q) (hob : q.ob) : OpOk P o a w (QOut P S w ρ base q) := by
  unfold evA at he
  split at he
  · rename_i t tx s x ha
    obtain ⟨c, ho, hc, ha', hat'⟩ := appArgs_some ha
    have hsv := hs s (by simp [ho, Op.operands, Call.operands, ha'])
    have hxv := hs x (by simp [ho, Op.operands, Call.operands, ha'])
    unfold appendq at he
    split at he
    · rename_i hse
      rw [hse] at hsv
      simp only [Rel] at hsv
      obtain ⟨A, hsv⟩ := hsv
      unfold appendQ3 at he
      split at he
      · rename_i et htk
        obtain ⟨_, _, d1, _, _, hd1, e1⟩ := tk_some htk
        have e1' : d1 = .slice et := by cases d1 <;> simp [kindOf] at e1 <;> simp_all
        subst e1'
        unfold appendQ2 at he
        split at he
        · rename_i k sz by_ z e hti hel
          obtain ⟨i, hi, hi1, hi2, hi3⟩ := ti_at hti
          unfold appendQ1 at he
          split at he
          · rename_i ys hys
            cases he
            obtain ⟨hzl, hsz, hbd⟩ := hob
            rw [zcells_length] at hzl
            obtain ⟨news, hsrc, hch⟩ := srcq_ok hg hys hxv
            obtain ⟨ob2, cap2, A2, w', r1, r8, r2, r3, r4, r5, r6, r7, r9, r10⟩ := run_append (P := P) (S := S) (e := e) (xs := []) (ty := o.type) (t := t) (nm := base) (cap := 0) (n := 0) (ob := none) (A := A) hd1 hi hi3 (by rw [hi1]; exact hsz) (by rw [hzl]; exact hsz) (by simp) (by simp) rfl ⟨rfl, rfl⟩ hsrc hch (by rw [hi2]; simpa using hbd) hb (fun b hbb => by cases hbb)
            rw [← hsv] at r1
            have hext : Ext S w S w' := ⟨fun _ h => h, r5, fun k hk => r6 k hk (by simp), r2, r3, r4, fun _ h => .inl h, fun k hk => Nat.lt_of_lt_of_le (hb.lt k hk) r5⟩
            refine OpOk.value (v := .slice A2 (List.length ys) cap2) (w' := w') (by simp only [List.take_nil, List.nil_append] at r1; simp [execOp, ho, resolve, hc, invoke, builtin, ha', hat', r1]) ⟨S, setN ρ base (ob2, cap2), ⟨hext, setN_keep hbase, fun k hk => by simp [setN, hk], fun h => (by cases h), fun blk hbk => ?_⟩, ?_⟩
            · cases hbk
              refine ⟨by simpa using r10 (setN ρ base (ob2, cap2)) (by simp [setN]), fun b cap hb2 => ?_⟩
              have : ob2 = some b := by
                have : setN ρ base (ob2, cap2) base = some (ob2, cap2) := by simp [setN]
                rw [this] at hb2; cases hb2; rfl
              rcases r7 b this with h1 | h1
              · cases h1
              · exact ⟨h1.1, h1.2, fun h2 => by have := hb.lt b h2; omega⟩
            · simp only [Rel]
              exact ⟨ob2, cap2, A2, by simp [setN], by simpa using r8, by simp⟩
          · cases he
        · cases he
      · cases he
    · cases he
  · split at he
    · rename_i yes t x hna
      obtain ⟨op, ty, ho, hop⟩ := nilArgs_some hna
      have hxv := hs x (by simp [ho, Op.operands])
      unfold nilcmp at he
      split at he
      · rename_i et htk
        obtain ⟨_, _, d1, _, _, hd1, e1⟩ := tk_some htk
        have e1' : d1 = .slice et := by cases d1 <;> simp [kindOf] at e1 <;> simp_all
        subst e1'
        have key : ∀ A n c, a.eval x = .slice A n c → (execOp a.eval o).run P w = .ok (.value (.bool (if yes = true then A.isNone else !A.isNone))) w := by
          intro A n c hv
          have hcn : a.eval (.const (.slice none 0 0)) = .slice none 0 0 := rfl
          rcases hop with ⟨rfl, rfl⟩ | ⟨rfl, rfl⟩
          · have h1 : (eqGuard .eql t x (.const (.slice none 0 0)) (.slice A n c) (.slice none 0 0)).run P w = .ok () w := rfl
            simp [execOp, ho, hv, hcn, h1, binOp, run_equal_nil w hd1]
          · have h1 : (eqGuard .neq t x (.const (.slice none 0 0)) (.slice A n c) (.slice none 0 0)).run P w = .ok () w := rfl
            simp [execOp, ho, hv, hcn, h1, binOp, run_equal_nil w hd1]
        unfold nilcmp2 at he
        split at he
        · rename_i hxe
          cases he
          rw [hxe] at hxv
          simp only [Rel] at hxv
          refine OpOk.value (key _ _ _ hxv) ⟨S, ρ, QPost.same base hb, ?_⟩
          cases yes <;> simp [Rel]
        · rename_i nm n hxe
          cases he
          simp only at hob
          rw [hxe] at hxv
          simp only [Rel] at hxv
          obtain ⟨ob, cap, A, _, h0, hxv⟩ := hxv
          cases ob with
          | none => simp only [OslA] at h0; omega
          | some b =>
            simp only [OslA] at h0
            subst h0
            refine OpOk.value (key _ _ _ hxv) ⟨S, ρ, QPost.same base hb, ?_⟩
            cases yes <;> simp [Rel]
        · cases he
      · cases he
    · exact evM_ok htbl hb hg hap hs hbase he hob
end
end Go.Vx
