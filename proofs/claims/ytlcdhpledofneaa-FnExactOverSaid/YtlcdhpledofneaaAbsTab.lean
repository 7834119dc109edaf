/- THE TABLE OF TYPES, LOOKED AT ONCE; environments, contract by contract. -/
import Derived.Test.YtlcdhpledofneaaAbsCt
namespace Go.Abs
open Go.RowKit

def leafB : Leaf → Leaf → Bool
  | .int k n, .int k' n' => decide (k = k') && decide (n = n')
  | .bool b, .bool b' => b == b'
  | .nil, .nil => true
  | .undef, .undef => true
  | _, _ => false

def leafsB : List Leaf → List Leaf → Bool
  | [], [] => true
  | a :: l, b :: m => leafB a b && leafsB l m
  | _, _ => false

theorem leafB_eq {a b : Leaf} (h : leafB a b = true) : a = b := by
  cases a <;> cases b <;> simp_all [leafB]

theorem leafsB_eq : ∀ {l m : List Leaf}, leafsB l m = true → l = m
  | [], [], _ => rfl
  | [], _ :: _, h => by cases h
  | _ :: _, [], h => by cases h
  | a :: l, b :: m, h => by
    simp only [leafsB, Bool.and_eq_true] at h
    rw [leafB_eq h.1, leafsB_eq h.2]

def pairsB : List (Nat × Nat) → List (Nat × Nat) → Bool
  | [], [] => true
  | (a, b) :: l, (c, d) :: m => Nat.beq a c && Nat.beq b d && pairsB l m
  | _, _ => false

theorem pairsB_eq : ∀ {l m : List (Nat × Nat)}, pairsB l m = true → l = m
  | [], [], _ => rfl
  | [], _ :: _, h => by cases h
  | _ :: _, [], h => by cases h
  | (a, b) :: l, (c, d) :: m, h => by
    simp only [pairsB, Bool.and_eq_true] at h
    rw [Nat.eq_of_beq_eq_true h.1.1, Nat.eq_of_beq_eq_true h.1.2, pairsB_eq h.2]

def fieldsB (P : Program) : List Field → Bool
  | [] => true
  | f :: r => (match P.info? f.type with
    | some i => !Nat.beq i.size 0
    | none => false) && f.name != "_" && fieldsB P r

theorem fieldsB_spec {P : Program} : ∀ {l : List Field}, fieldsB P l = true → ∀ f ∈ l, (∃ i, P.info? f.type = some i ∧ i.size ≠ 0) ∧ f.name ≠ "_"
  | [], _, _, h => by cases h
  | f :: r, h, g, hg => by
    simp only [fieldsB, Bool.and_eq_true] at h
    obtain ⟨⟨h1, h2⟩, h3⟩ := h
    rcases List.mem_cons.1 hg with rfl | hg
    · refine ⟨?_, by simpa using h2⟩
      split at h1
      · rename_i i hi
        refine ⟨i, hi, fun e => ?_⟩
        rw [e] at h1; simp at h1
      · cases h1
    · exact fieldsB_spec h3 g hg

def kB (P : Program) (t : Nat) (ty : Ty) : TK → Bool
  | .int k => match P.underlying t with
    | some (.int k') => decide (k' = k)
    | _ => false
  | .bool => match P.underlying t with
    | some .bool => true
    | _ => false
  | .slice e => match P.underlying t, ty, P.info? e with
    | some (.slice e'), .slice t', some i => Nat.beq e' e && Nat.beq i.size t'.n && Nat.ble i.bytes (24 * t'.n) && Nat.blt 0 t'.n && (match i.zero with
      | some z => Nat.beq z.cells.size t'.n
      | none => false)
    | _, _, _ => false
  | .struct fs => match P.underlying t with
    | some (.struct F) => pairsB (F.toList.map fun f => (f.offset, f.type)) fs && fieldsB P F.toList && !P.stoodInHeld t && !P.eqGuardType P.depth t
    | _ => false
  | .other => match P.underlying t with
    | some d => notAgg d
    | none => false

theorem kB_ok {P : Program} {t : Nat} {ty : Ty} {k : TK} (h : kB P t ty k = true) : KOk P t ty k := by
  cases k with
  | int k =>
    simp only [kB] at h
    split at h
    · rename_i k' hu
      have h : k' = k := by simpa using h
      subst h; exact hu
    · cases h
  | bool =>
    simp only [kB] at h
    split at h
    · rename_i hu; exact hu
    · cases h
  | slice e =>
    simp only [kB] at h
    split at h
    · rename_i e' t' i hu hi
      simp only [Bool.and_eq_true] at h
      obtain ⟨⟨⟨⟨h1, h2⟩, h3⟩, h4⟩, h5⟩ := h
      have h1 := Nat.eq_of_beq_eq_true h1
      subst h1
      split at h5
      · rename_i z hz
        exact ⟨hu, t', i, z, rfl, hi, Nat.eq_of_beq_eq_true h2, Nat.le_of_ble_eq_true h3, Nat.le_of_ble_eq_true h4, hz, Nat.eq_of_beq_eq_true h5⟩
      · cases h5
    · cases h
  | struct fs =>
    simp only [kB] at h
    split at h
    · rename_i F hu
      simp only [Bool.and_eq_true, Bool.not_eq_true'] at h
      obtain ⟨⟨⟨h1, h2⟩, h3⟩, h4⟩ := h
      have h2 := fieldsB_spec h2
      exact ⟨F, hu, pairsB_eq h1, fun f hf => (h2 f hf).1, h3, h4, fun f hf => (h2 f hf).2⟩
    · cases h
  | other =>
    simp only [kB] at h
    split at h
    · rename_i d hu; exact ⟨d, hu, h⟩
    · cases h

def tiB (P : Program) (t : Nat) (ti : TI) : Bool :=
  (match P.info? t with
  | some i => match i.zero with
    | some z => Nat.beq i.size ti.n && leafsB (z.cells.toList.map constLeaf) ti.zero && oneCells z.cells.toList
    | none => false
  | none => false) && kB P t ti.ty ti.k

theorem tiB_ok {P : Program} {t : Nat} {ti : TI} (h : tiB P t ti = true) : TIok P t ti := by
  simp only [tiB, Bool.and_eq_true] at h
  obtain ⟨h1, h2⟩ := h
  refine ⟨?_, kB_ok h2⟩
  split at h1
  · rename_i i hi
    split at h1
    · rename_i z hz
      simp only [Bool.and_eq_true] at h1
      exact ⟨i, z, hi, Nat.eq_of_beq_eq_true h1.1.1, hz, leafsB_eq h1.1.2, h1.2⟩
    · cases h1
  · cases h1

def tabB (P : Program) : Tab → Bool
  | [] => true
  | (t, ti) :: r => tiB P t ti && tabB P r

theorem tabB_ok {P : Program} : ∀ {T : Tab}, tabB P T = true → TabOk P T
  | [], _, t, ti, h => by cases h
  | (t', ti') :: r, hT, t, ti, h => by
    simp only [tabB, Bool.and_eq_true] at hT
    unfold look at h
    split at h
    · rename_i hb
      have := Nat.eq_of_beq_eq_true hb
      subst this
      cases h
      exact tiB_ok hT.1
    · exact tabB_ok hT.2 t ti h

theorem EnvOk.nil {P : Program} {T : Tab} (h : TabOk P T) : EnvOk P ⟨T, []⟩ := ⟨h, fun f ct h => by cases h⟩

theorem EnvOk.cons {P : Program} {T : Tab} {G : List (Nat × Ct)} {f : Nat} {ct : Ct} (h : CtOk P f ct) (hE : EnvOk P ⟨T, G⟩) : EnvOk P ⟨T, (f, ct) :: G⟩ := by
  refine ⟨hE.1, fun f' ct' hl => ?_⟩
  unfold look at hl
  split at hl
  · rename_i hb
    have := Nat.eq_of_beq_eq_true hb
    subst this
    cases hl
    exact h
  · exact hE.2 f' ct' hl

def bodyOf (fn : Func) : Code := fn.body.getD .skip

/-- A function's contract, in the form that is printed. -/
theorem pure_ct {P : Program} {E : Env} (hE : EnvOk P E) (hm : P.follows .mixedOrders = true) {f : FuncId} {fn : Func} (one fr : Bool) (a r : Ty) (F : a.D → Option r.D) (hs : Hints) (hf : P.funcs[f]? = some fn)
    (hok : fnOk fn one (arity a) = true) (hev : ∀ x, ev E (bodyOf fn) hs (start (argAVs a x) fn.ntmps) (resK E.T one fr fn.results.toList r) = F x) : CtOk P f (.pure one fr a r F) := by
  have hb : fn.body = some (bodyOf fn) := by
    unfold bodyOf
    cases hx : fn.body with
    | none => unfold fnOk at hok; rw [hx] at hok; cases hok
    | some c => rfl
  exact ct_pure hE hm hs hf hb hok hev

theorem clo_ct {P : Program} {E : Env} (hE : EnvOk P E) (hm : P.follows .mixedOrders = true) {f : FuncId} {fn : Func} (a c r : Ty) (F : c.D → a.D → Option r.D) (hs : Hints) (hf : P.funcs[f]? = some fn)
    (hok : (fnOk fn true (arity a + arity c) && r.flat) = true) (hev : ∀ z x, ev E (bodyOf fn) hs (start (argAVs a x ++ capAVs c z) fn.ntmps) (resK E.T true false fn.results.toList r) = F z x) : CtOk P f (.clo a c r F) := by
  simp only [Bool.and_eq_true] at hok
  have hb : fn.body = some (bodyOf fn) := by
    unfold bodyOf
    cases hx : fn.body with
    | none => have := hok.1; unfold fnOk at this; rw [hx] at this; cases this
    | some c => rfl
  exact ct_clo hE hm hs hf hb hok.1 hok.2 hev

end Go.Abs
