/- REGIONS THAT DRAW THEIR ORDER: what the check says, and that every order does the same. -/
import Derived.Test.YtenadnbpibhmiaaGreatAbsReg2
set_option linter.unusedVariables false
set_option linter.unusedSimpArgs false
namespace Go.Abs
open Go.RowKit

/-! ### The trace, by numbers -/

theorem Tr.get {E : Env} {dsts : List (Option Nat)} {os : List Oper} {st st' : St} {ds : List Dl} {ss : List St} (h : Tr E dsts os st ds ss st') :
    ds.length = os.length ∧ (ss ++ [st'])[0]? = some st ∧ (ss ++ [st'])[os.length]? = some st' ∧ ∀ i o, os[i]? = some o → ∃ δ s s1, ds[i]? = some δ ∧ (ss ++ [st'])[i]? = some s ∧ (ss ++ [st'])[i + 1]? = some s1 ∧ Does1 E dsts o s δ ∧ appS o.dst δ s = some s1 := by
  induction h with
  | nil st => exact ⟨rfl, rfl, rfl, fun i o h => by simp at h⟩
  | @cons o r st st1 st' δ ds ss hD ha htr ih =>
    obtain ⟨h1, h2, h3, h4⟩ := ih
    refine ⟨by simp [h1], rfl, by simpa using h3, fun i o' ho => ?_⟩
    cases i with
    | zero =>
      simp only [List.getElem?_cons_zero, Option.some.injEq] at ho
      subst ho
      exact ⟨δ, st, st1, rfl, rfl, by simpa using h2, hD, ha⟩
    | succ i =>
      obtain ⟨δ', s, s1, k1, k2, k3, k4⟩ := h4 i o' (by simpa using ho)
      exact ⟨δ', s, s1, by simpa using k1, by simpa using k2, by simpa using k3, k4⟩

theorem tmps_mem {x : Nat} : ∀ {l : List Operand}, x ∈ tmpsOf l ↔ Operand.tmp x ∈ l
  | [] => by simp [tmpsOf]
  | .tmp i :: r => by simp [tmpsOf, tmps_mem (l := r)]
  | .const _ :: r => by simp [tmpsOf, tmps_mem (l := r)]
  | .global _ :: r => by simp [tmpsOf, tmps_mem (l := r)]
  | .func _ :: r => by simp [tmpsOf, tmps_mem (l := r)]

theorem val_same {st st' : St} {l : List Operand} (h : ∀ t ∈ tmpsOf l, getT st'.t t = getT st.t t) : ∀ x ∈ l, val st' x = val st x := fun x hx => by
  cases x with
  | tmp i => exact h i (tmps_mem.2 hx)
  | const _ => rfl
  | global _ => rfl
  | func _ => rfl

/-- What does here does there, where all that it sees is the same. -/
theorem Does1.seen {E : Env} {dsts : List (Option Nat)} {o : Oper} {s st : St} {δ : Dl} (h : Does1 E dsts o s δ) (ht : ∀ t ∈ usesOf dsts o, getT st.t t = getT s.t t) (ho : Same s.h st.h (δ.rd ++ keysOf δ.wr)) : Does1 E dsts o st δ := by
  obtain ⟨b, hW, hw, hD⟩ := h
  have hop : ∀ t ∈ tmpsOf (opnds o.op), t ∈ usesOf dsts o := by
    intro t h
    unfold usesOf
    split
    · split
      · exact List.mem_cons_of_mem _ h
      · exact h
    · exact h
  refine ⟨b, ?_, wrOk_congr (ho.mono fun q hq => by simp [hq]) hw, ?_⟩
  · unfold Wants at hW ⊢
    split at hW
    · exact hW
    · rename_i j want hg
      obtain ⟨t, h1, h2⟩ := hW
      refine ⟨t, h1, ?_⟩
      rw [ht t (by unfold usesOf; rw [hg]; simp only [h1]; simp)]
      exact h2
  · cases b with
    | true =>
      obtain ⟨h1, h2⟩ := hD
      have hs : Sees o s st := val_same fun t h => ht t (hop t h)
      have hr : Same s.h st.h δ.rd := ho.mono fun q hq => by simp [hq]
      refine ⟨h2 st hs hr _ _, fun st2 hs2 hr2 R' κ' => h2 st2 (fun x hx => (hs2 x hx).trans (hs x hx)) (fun q hq => (hr2 q hq).trans (hr q hq)) R' κ'⟩
    | false => exact hD

/-! ### The check -/

theorem allLt_spec {i : Nat} : ∀ {l : List Nat}, allLt i l = true → ∀ j ∈ l, j < i
  | [], _, _, h => by cases h
  | a :: r, h, j, hj => by
    simp only [allLt, Bool.and_eq_true] at h
    rcases List.mem_cons.1 hj with rfl | hj
    · exact Nat.le_of_ble_eq_true h.1
    · exact allLt_spec h.2 j hj

theorem predsDown_spec : ∀ {os : List Oper} {k : Nat}, predsDown k os = true → ∀ i o, os[i]? = some o → ∀ j ∈ predsOf o, j < k + i
  | [], _, _, i, o, h => by simp at h
  | x :: r, k, h, i, o, ho => by
    simp only [predsDown, Bool.and_eq_true] at h
    cases i with
    | zero =>
      simp only [List.getElem?_cons_zero, Option.some.injEq] at ho
      subst ho
      exact allLt_spec h.1
    | succ i =>
      intro j hj
      have := predsDown_spec h.2 i o (by simpa using ho) j hj
      omega

theorem predsE_spec {j : Nat} : ∀ {l : List Edge}, j ∈ predsE l ↔ ∃ e ∈ l, Region.binds .any e = true ∧ e.on = j
  | [] => by simp [predsE]
  | e :: r => by
    unfold predsE
    have ih := predsE_spec (j := j) (l := r)
    split
    · rename_i hg
      rw [ih]
      simp [Region.binds, hg]
    · rename_i hg
      rw [ih]
      simp [Region.binds, hg]
    · rename_i h1 h2
      rw [List.mem_cons, ih]
      have hb : Region.binds .any e = true := by
        unfold Region.binds
        split
        · rename_i x hx; exact absurd hx (h1 x)
        · rename_i x hx; exact absurd hx (h2 x)
        · rfl
      constructor
      · rintro (rfl | ⟨e', h1, h2⟩)
        · exact ⟨e, by simp, hb, rfl⟩
        · exact ⟨e', by simp [h1], h2⟩
      · rintro ⟨e', h1, h2, h3⟩
        rcases List.mem_cons.1 h1 with rfl | h1
        · exact .inl h3.symm
        · exact .inr ⟨e', h1, h2, h3⟩

theorem cloL_spec : ∀ (os : List Oper) (acc : List Nat), ∃ tl, cloL os acc = acc ++ tl ∧ tl.length = os.length ∧ ∀ i o, os[i]? = some o → (acc ++ tl)[acc.length + i]? = some (orAll (predsOf o) ((acc ++ tl).take (acc.length + i)))
  | [], acc => ⟨[], by simp [cloL], rfl, fun i o h => by simp at h⟩
  | o :: r, acc => by
    obtain ⟨tl, h1, h2, h3⟩ := cloL_spec r (acc ++ [orAll (predsOf o) acc])
    refine ⟨orAll (predsOf o) acc :: tl, by simp [cloL, h1], by simp [h2], fun i o' ho => ?_⟩
    cases i with
    | zero =>
      simp only [List.getElem?_cons_zero, Option.some.injEq] at ho
      subst ho
      simp
    | succ i =>
      have := h3 i o' (by simpa using ho)
      simp only [List.append_assoc, List.singleton_append, List.length_append, List.length_singleton] at this
      rw [show acc.length + (i + 1) = acc.length + 1 + i by omega]
      exact this

theorem orAll_bit {k : Nat} {acc : List Nat} : ∀ {js : List Nat}, Nat.testBit (orAll js acc) k = true → ∃ j ∈ js, j = k ∨ Nat.testBit (acc.getD j 0) k = true
  | [], h => by simp [orAll] at h
  | j :: js, h => by
    unfold orAll at h
    change ((1 <<< j ||| acc.getD j 0) ||| orAll js acc).testBit k = true at h
    rw [Nat.testBit_or, Nat.testBit_or] at h
    simp only [Bool.or_eq_true] at h
    rcases h with (h | h) | h
    · rw [Nat.one_shiftLeft, Nat.testBit_two_pow] at h
      exact ⟨j, by simp, .inl (by simpa using h)⟩
    · exact ⟨j, by simp, .inr h⟩
    · obtain ⟨j', h1, h2⟩ := orAll_bit h
      exact ⟨j', by simp [h1], h2⟩

/-- Whom an operation comes behind has come. -/
theorem clo_down {os : List Oper} {L : Nat → Bool} (hL : ∀ i o, os[i]? = some o → L i = true → ∀ j ∈ predsOf o, L j = true) :
    ∀ i o, os[i]? = some o → (∀ j ∈ predsOf o, L j = true) → ∀ k, Nat.testBit ((cloL os []).getD i 0) k = true → L k = true := by
  obtain ⟨tl, h1, h2, h3⟩ := cloL_spec os []
  simp only [List.nil_append, List.length_nil, Nat.zero_add] at h1 h3
  rw [h1]
  intro i
  induction i using Nat.strongRecOn with
  | ind i ih =>
    intro o ho hp k hk
    rw [List.getD_eq_getElem?_getD, h3 i o ho, Option.getD_some] at hk
    obtain ⟨j, hj, hk⟩ := orAll_bit hk
    rcases hk with rfl | hk
    · exact hp j hj
    · rw [List.getD_eq_getElem?_getD, List.getElem?_take] at hk
      split at hk
      · rename_i hlt
        have hin : i < os.length := (List.getElem?_eq_some_iff.1 ho).1
        have hjo := List.getElem?_eq_getElem (l := os) (i := j) (by omega)
        refine ih j hlt _ hjo (hL j _ hjo (hp j hj)) k ?_
        rw [List.getD_eq_getElem?_getD]
        exact hk
      · simp at hk

theorem memH_iff : ∀ {l : List Hd} {o : Hd}, memH l o = true ↔ o ∈ l
  | [], _ => by simp [memH]
  | (d, j) :: r, (o1, o2) => by
    unfold memH
    simp only [List.mem_cons, Prod.mk.injEq]
    split
    · rename_i h1 h2
      have h1 := Nat.eq_of_beq_eq_true h1
      have h2 := Nat.eq_of_beq_eq_true h2
      simp [h1, h2]
    · rename_i hne
      rw [memH_iff]
      constructor
      · exact .inr
      · rintro (⟨rfl, rfl⟩ | h)
        · exact (hne (by simp) (by simp)).elim
        · exact h

theorem memN_iff : ∀ {l : List Nat} {b : Nat}, memN l b = true ↔ b ∈ l
  | [], _ => by simp [memN]
  | a :: r, b => by
    simp only [memN, Bool.or_eq_true, memN_iff (l := r), List.mem_cons]
    constructor
    · rintro (h | h)
      · exact .inl (Nat.eq_of_beq_eq_true h).symm
      · exact .inr h
    · rintro (rfl | h)
      · exact .inl (by simp)
      · exact .inr h

theorem siteIn_iff : ∀ {l : List Hd} {b : Nat}, siteIn l b = true ↔ ∃ q ∈ l, q.1 = b
  | [], _ => by simp [siteIn]
  | (d, _) :: r, b => by simp [siteIn, siteIn_iff (l := r)]

theorem meets_iff : ∀ {l m : List Hd}, meets l m = true ↔ ∃ q ∈ l, q ∈ m
  | [], _ => by simp [meets]
  | a :: r, m => by simp [meets, meets_iff (l := r), memH_iff]

structure Half (x y : Opd) : Prop where
  u : ∀ d, x.dst = some d → d ∉ y.uses
  s : ∀ d, x.dst = some d → ∀ q ∈ y.foot.1, q.1 ≠ d
  d : ∀ d, x.dst = some d → y.dst ≠ some d
  w : ∀ q ∈ x.foot.2, q ∉ y.foot.1

theorem half_spec {x y : Opd} (h : half x y = true) : Half x y := by
  simp only [half, Bool.and_eq_true, Bool.not_eq_true'] at h
  obtain ⟨h1, h2⟩ := h
  have hw : ∀ q ∈ x.foot.2, q ∉ y.foot.1 := fun q hq hq2 => by
    rw [meets_iff.2 ⟨q, hq, hq2⟩] at h2
    cases h2
  cases hx : x.dst with
  | none => exact ⟨fun d e => (by rw [hx] at e; cases e), fun d e => (by rw [hx] at e; cases e), fun d e => (by rw [hx] at e; cases e), hw⟩
  | some d =>
    rw [hx] at h1
    simp only [Bool.and_eq_true, Bool.not_eq_true'] at h1
    obtain ⟨⟨k1, k2⟩, k3⟩ := h1
    refine ⟨fun d' e hm => ?_, fun d' e q hq hs => ?_, fun d' e hy => ?_, hw⟩
    · rw [hx] at e; cases e; rw [memN_iff.2 hm] at k1; cases k1
    · rw [hx] at e; cases e; rw [siteIn_iff.2 ⟨q, hq, hs⟩] at k2; cases k2
    · rw [hx] at e; cases e; rw [hy] at k3; simp at k3

theorem against_spec {x : Opd} {c : Nat} : ∀ {l : List Opd} {k : Nat}, against x c k l = true → ∀ j y, l[j]? = some y → Nat.testBit c (k + j) = true ∨ (half x y = true ∧ half y x = true)
  | [], _, _, j, y, h => by simp at h
  | z :: r, k, h, j, y, hy => by
    simp only [against, Bool.and_eq_true, Bool.or_eq_true] at h
    cases j with
    | zero =>
      simp only [List.getElem?_cons_zero, Option.some.injEq] at hy
      subst hy
      exact h.1
    | succ j =>
      have := against_spec h.2 j y (by simpa using hy)
      rw [show k + (j + 1) = k + 1 + j by omega]
      exact this

theorem indepL_spec : ∀ {cs : List Nat} {all xs : List Opd}, indepL cs all xs = true → ∀ i x, xs[i]? = some x → ∀ j y, (all ++ xs)[j]? = some y → j < all.length + i → Nat.testBit (cs.getD i 0) j = true ∨ (half x y = true ∧ half y x = true)
  | _, _, [], _, i, x, h, _, _, _, _ => by simp at h
  | [], _, _ :: _, h, _, _, _, _, _, _, _ => by simp [indepL] at h
  | c :: cs, all, x :: xs, h, i, x', hx, j, y, hy, hlt => by
    simp only [indepL, Bool.and_eq_true] at h
    cases i with
    | zero =>
      simp only [List.getElem?_cons_zero, Option.some.injEq] at hx
      subst hx
      have := against_spec h.1 j y (by rw [List.getElem?_append_left (by simpa using hlt)] at hy; exact hy)
      simpa using this
    | succ i =>
      have := indepL_spec h.2 i x' (by simpa using hx) j y (by simpa using hy) (by simp; omega)
      simpa using this

theorem opds_get {dsts : List (Option Nat)} : ∀ {os : List Oper} {fs : List Foot} {i : Nat} {o : Oper} {f : Foot}, os[i]? = some o → fs[i]? = some f → (opds dsts os fs)[i]? = some ⟨o.dst, usesOf dsts o, f⟩
  | [], _, _, _, _, h, _ => by simp at h
  | _ :: _, [], _, _, _, _, h => by simp at h
  | o :: os, f :: fs, i, o', f', ho, hf => by
    cases i with
    | zero =>
      simp only [List.getElem?_cons_zero, Option.some.injEq] at ho hf
      subst ho; subst hf
      simp [opds]
    | succ i => simpa [opds] using opds_get (by simpa using ho) (by simpa using hf)

end Go.Abs
