import Derived.Test.YtpcbcmnijmeoaaaGenAC
import Derived.Test.YtpcbcmnijmeoaaaAbsDraw
set_option linter.unusedVariables false
set_option linter.unusedSimpArgs false
namespace Go.Abs
/-! ### Numbers -/
theorem l1In_eq (a b c : Int) : spec_l1In a b c = some (decide (b ≤ a) && decide (a ≤ c)) := by
  unfold spec_l1In
  have : decide (a ≥ b) = decide (b ≤ a) := rfl
  simp only [this]
  cases decide (b ≤ a) <;> rfl
theorem from_eq (a b c : Int) : impl_from a b c = some (decide (b ≤ a) && decide (a ≤ c)) := by
  unfold impl_from
  have : decide (a ≥ b) = decide (b ≤ a) := rfl
  simp only [this]
  cases decide (b ≤ a) <;> rfl
def boundV (n : Int) : Int := if n > 2147483647 then 2147483647 else if n < -2147483647 then -2147483647 else n
theorem spec_Bound_eq (n : Int) : spec_Bound n = some (boundV n) := by
  unfold spec_Bound boundV
  simp only [cond_eq_ite, decide_eq_true_eq]
  split <;> (try split) <;> rfl
theorem impl_Bound_eq (n : Int) : impl_Bound n = some (boundV n) := by
  unfold impl_Bound boundV
  congr 1
  split <;> split <;> (try split) <;> (try split) <;> omega
def plusV (a b : Int) : Int := boundV (IntKind.wrap .i64 (boundV a + boundV b))
def lessV (a b : Int) : Int := boundV (IntKind.wrap .i64 (boundV a - boundV b))
theorem some_ite {c : Prop} [Decidable c] (a b : Bool) : (if c then some a else some b) = some (if c then a else b) := by split <;> rfl


def anyI {α : Type} (p : Nat → α → Bool) : Nat → List α → Bool
  | _, [] => false
  | i, x :: r => p i x || anyI p (i + 1) r
theorem anyI_false {α : Type} (p : Nat → α → Bool) : ∀ (xs : List α) (k : Nat), anyI p k xs = false → ∀ (i : Nat) x, xs[i]? = some x → p (k + i) x = false
  | [], _, _, i, x, hx => by simp at hx
  | y :: xs, k, h, 0, x, hx => by
    simp only [anyI, Bool.or_eq_false_iff] at h
    simp at hx
    subst hx
    exact h.1
  | y :: xs, k, h, i + 1, x, hx => by
    simp only [anyI, Bool.or_eq_false_iff] at h
    have := anyI_false p xs (k + 1) h.2 i x (by simpa using hx)
    rwa [show k + (i + 1) = k + 1 + i by omega]
theorem any_loop {α β : Type} (xs : List α) {body : Int → Option (Int ⊕ (Int ⊕ β))} (p : Nat → α → Bool) (v : β) (hlen : xs.length ≤ 9223372036854775806)
    (hb : ∀ (i : Nat) x, xs[i]? = some x → body i = bif p i x then some (.inr (.inr v)) else some (.inl (IntKind.wrap .i64 ((i : Int) + 1))))
    (he : body xs.length = some (.inr (.inl xs.length))) :
    while_ body 0 = some (bif anyI p 0 xs then .inr v else .inl xs.length) := by
  have main : ∀ (r : List α) (k : Nat), xs.drop k = r → k ≤ xs.length → while_ body k = some (bif anyI p k r then .inr v else .inl xs.length) := by
    intro r
    induction r with
    | nil =>
      intro k h hk
      have : k = xs.length := by
        have := congrArg List.length h
        simp at this
        omega
      subst this
      exact while_done he
    | cons x r ih =>
      intro k h hk
      have hlt : k < xs.length := by
        have := congrArg List.length h
        simp at this
        omega
      have hx : xs[k]? = some x := by
        have := congrArg (fun l => l[0]?) h
        simpa using this
      have hr : xs.drop (k + 1) = r := by
        have := congrArg List.tail h
        simpa using this
      unfold anyI
      cases hp : p k x with
      | true =>
        refine while_done ?_
        rw [hb k x hx, hp]
        rfl
      | false =>
        refine while_step (s' := ((k + 1 : Nat) : Int)) ?_ (ih (k + 1) hr hlt)
        rw [hb k x hx, hp]
        simp only [cond_false]
        rw [wrap_id (by omega) (by omega)]
        rfl
  have := main xs 0 rfl (by omega)
  simpa using this

theorem any_any {α : Type} (p : α → Bool) : ∀ (xs : List α) (k : Nat), anyI (fun _ x => p x) k xs = xs.any p
  | [], _ => rfl
  | x :: xs, k => by simp [anyI, any_any p xs]
theorem findL_any {α : Type} (p : α → Bool) (xs : List α) : decide ((match findL p xs with | some k => (k : Int) | none => -1) ≥ 0) = xs.any p := by
  obtain ⟨h1, h2⟩ := findL_spec p xs
  cases hf : findL p xs with
  | none =>
    have : xs.any p = false := by rw [List.any_eq_false]; exact fun x hx => by simp [h1 hf x hx]
    rw [this]; rfl
  | some k =>
    obtain ⟨x, g1, g2, _⟩ := h2 k hf
    have : xs.any p = true := by rw [List.any_eq_true]; exact ⟨x, List.mem_of_getElem? g1, g2⟩
    rw [this]
    simp

/-! ### Events that are right -/
def eventOkB (e : T_Event.D) : Bool :=
  let piece := decide (1 ≤ e.2.2.1) && decide (e.2.2.1 ≤ 99) && (e.2.2.2.1 == -1)
  let side := (e.2.2.1 == 0) && decide (0 ≤ e.2.2.2.1) && decide (e.2.2.2.1 ≤ 2)
  decide (0 ≤ e.2.2.2.2.1) && decide (e.2.2.2.2.1 ≤ 2147483647) && (
    if e.1 = 1 then decide (1 ≤ e.2.1) && decide (e.2.1 ≤ 99) && (piece || side) && (e.2.2.2.2.2.1 == 0) && !e.2.2.2.2.2.2.1
    else if e.1 = 2 then (e.2.1 == 0) && piece && decide (1 ≤ e.2.2.2.2.2.1) && decide (e.2.2.2.2.2.1 ≤ 4) && decide (e.2.2.2.2.1 ≤ 99) && ((e.2.2.2.2.2.1 == 2) || (e.2.2.2.2.1 == 0) && !e.2.2.2.2.2.2.1)
    else if e.1 = 3 ∨ e.1 = 4 then (e.2.1 == 0) && side && (e.2.2.2.2.2.1 == 0) && !e.2.2.2.2.2.2.1
    else if e.1 = 5 ∨ e.1 = 6 then (e.2.1 == 0) && piece && (e.2.2.2.2.2.1 == 0) && !e.2.2.2.2.2.2.1
    else false)

theorem spec_EventOk_eq (e : T_Event.D) : spec_EventOk e = some (eventOkB e) := by
  obtain ⟨k, s, p, d, n, z, bt, u⟩ := e
  unfold spec_EventOk eventOkB
  simp only [l1In_eq, Option.bind_some, cond_eq_ite, some_ite]
  congr 1
  rw [Bool.eq_iff_iff]
  by_cases h1 : k = 1
  · subst h1; simp; grind
  by_cases h2 : k = 2
  · subst h2; simp; grind
  by_cases h3 : k = 3
  · subst h3; simp; grind
  by_cases h4 : k = 4
  · subst h4; simp; grind
  by_cases h5 : k = 5
  · subst h5; simp; grind
  by_cases h6 : k = 6
  · subst h6; simp; grind
  simp [h1, h2, h3, h4, h5, h6]
theorem impl_EventOk_eq (e : T_Event.D) : impl_EventOk e = some (eventOkB e) := by
  obtain ⟨k, s, p, d, n, z, bt, u⟩ := e
  unfold impl_EventOk eventOkB impl_isAmount impl_onPiece impl_onPlayer impl_isId impl_isZone impl_isPlayer
  simp only [from_eq, Option.bind_some, cond_eq_ite, some_ite, bne]
  congr 1
  rw [Bool.eq_iff_iff]
  by_cases h1 : k = 1
  · subst h1; simp; grind
  by_cases h2 : k = 2
  · subst h2; simp; grind
  by_cases h3 : k = 3
  · subst h3; simp; grind
  by_cases h4 : k = 4
  · subst h4; simp; grind
  by_cases h5 : k = 5
  · subst h5; simp; grind
  by_cases h6 : k = 6
  · subst h6; simp; grind
  simp [h1, h2, h3, h4, h5, h6]

theorem eventOk_facts {k s p d n z : Int} {bt : Bool} {u : Unit} (h : eventOkB (k, s, p, d, n, z, bt, u) = true) :
    (k = 1 ∧ (1 ≤ p ∨ p = 0 ∧ 0 ≤ d)) ∨ (k = 2 ∧ 1 ≤ p) ∨ ((k = 3 ∨ k = 4) ∧ p = 0 ∧ 0 ≤ d) ∨ ((k = 5 ∨ k = 6) ∧ 1 ≤ p) := by
  unfold eventOkB at h
  by_cases h1 : k = 1
  · subst h1; simp at h; grind
  by_cases h2 : k = 2
  · subst h2; simp at h; grind
  by_cases h3 : k = 3
  · subst h3; simp at h; grind
  by_cases h4 : k = 4
  · subst h4; simp at h; grind
  by_cases h5 : k = 5
  · subst h5; simp at h; grind
  by_cases h6 : k = 6
  · subst h6; simp at h; grind
  simp [h1, h2, h3, h4, h5, h6] at h

theorem spec_Plus_eq (a b : Int) : spec_Plus a b = some (plusV a b) := by unfold spec_Plus; simp only [spec_Bound_eq, Option.bind_some]; rfl
theorem impl_Plus_eq (a b : Int) : impl_Plus a b = some (plusV a b) := by unfold impl_Plus; simp only [impl_Bound_eq, Option.bind_some]; rfl
theorem spec_Less_eq (a b : Int) : spec_Less a b = some (lessV a b) := by unfold spec_Less; simp only [spec_Bound_eq, Option.bind_some]; rfl
theorem impl_Less_eq (a b : Int) : impl_Less a b = some (lessV a b) := by unfold impl_Less; simp only [impl_Bound_eq, Option.bind_some]; rfl

theorem boundV_in (n : Int) : -2147483647 ≤ boundV n ∧ boundV n ≤ 2147483647 := by unfold boundV; split <;> (try split) <;> omega
theorem boundV_id {n : Int} (h1 : -2147483647 ≤ n) (h2 : n ≤ 2147483647) : boundV n = n := by unfold boundV; split <;> (try split) <;> omega
theorem plusV_in (a b : Int) : -2147483647 ≤ plusV a b ∧ plusV a b ≤ 2147483647 := boundV_in _
theorem lessV_in (a b : Int) : -2147483647 ≤ lessV a b ∧ lessV a b ≤ 2147483647 := boundV_in _
theorem plusV_nonneg {a b : Int} (ha : 0 ≤ a) (hb : 0 ≤ b) : 0 ≤ plusV a b := by
  unfold plusV
  have h1 := boundV_in a
  have h2 := boundV_in b
  have h3 : 0 ≤ boundV a := by unfold boundV; split <;> (try split) <;> omega
  have h4 : 0 ≤ boundV b := by unfold boundV; split <;> (try split) <;> omega
  rw [wrap_id (by omega) (by omega)]
  unfold boundV
  split <;> (try split) <;> omega

def up (a b : Int) : Int := if (if b < a then b else a) > 0 then (if b < a then b else a) else 0
theorem impl_Upto_eq (a b : Int) : impl_Upto a b = some (up a b) := rfl
theorem spec_Upto_eq (a b : Int) (hb : 0 ≤ b) : spec_Upto a b = some (up a b) := by
  unfold spec_Upto up
  simp only [cond_eq_ite, decide_eq_true_eq]
  split <;> simp only [Option.bind_some] <;> (try split) <;> (try split) <;> (try split) <;> first | rfl | (congr 1; omega) | omega

theorem up_in' (a : Int) : 0 ≤ up a 2147483647 ∧ up a 2147483647 ≤ 2147483647 := by unfold up; split <;> (try split) <;> omega
theorem up_self {a : Int} (h0 : 0 ≤ a) (h1 : a ≤ 2147483647) : up a 2147483647 = a := by unfold up; split <;> (try split) <;> omega
theorem eventOk_most' {v : T_Event.D} (h : eventOkB v = true) : 0 ≤ v.2.2.2.2.1 ∧ v.2.2.2.2.1 ≤ 2147483647 := by
  unfold eventOkB at h
  rw [Bool.and_eq_true, Bool.and_eq_true] at h
  exact ⟨of_decide_eq_true h.1.1, of_decide_eq_true h.1.2⟩
def totC (v : T_Event.D) : Int := if v.1 = 1 then up v.2.2.2.2.1 2147483647 else 0
theorem totC_in (v : T_Event.D) : 0 ≤ totC v ∧ totC v ≤ 2147483647 := by
  unfold totC
  split
  · exact up_in' _
  · omega
theorem sum_in : ∀ (l : List T_Event.D), 0 ≤ (l.map totC).sum ∧ (l.map totC).sum ≤ 2147483647 * (l.length : Int)
  | [] => by simp
  | a :: l => by
    have h1 := sum_in l
    have h2 := totC_in a
    simp only [List.map_cons, List.sum_cons, List.length_cons]
    omega
theorem sum_take_succ {α : Type} (f : α → Int) (l : List α) (i : Nat) (x : α) (h : l[i]? = some x) : ((l.take (i + 1)).map f).sum = ((l.take i).map f).sum + f x := by
  rw [List.take_add_one, h]
  simp [List.sum_append]
theorem impl_Total_eq (es : List T_Event.D) (h : es.length ≤ 1048576) : impl_Total es = some ((es.map totC).sum) := by
  unfold impl_Total
  obtain ⟨o, ho, hq⟩ : Tot (while_ (impl_Total_l1 es) (0, 0)) (fun o => o.1 = (es.map totC).sum) := by
    refine Tot.while (fun st => ∃ i : Nat, st.2 = (i : Int) ∧ i ≤ es.length ∧ st.1 = ((es.take i).map totC).sum) (fun st => es.length - st.2.toNat) ?_ ⟨0, rfl, by omega, by simp⟩
    rintro ⟨c, i'⟩ ⟨i, rfl, hi, hc⟩
    simp only at hc
    subst hc
    unfold impl_Total_l1
    simp only
    refine Tot.bif (fun hl => ?_) (fun hl => Tot.pure ?_)
    · have hl := of_decide_eq_true hl
      have hil : i < es.length := by omega
      have hx := List.getElem?_eq_getElem hil
      have hs := sum_take_succ totC es i _ hx
      have hb := sum_in (es.take i)
      have hlen : (es.take i).length = i := by rw [List.length_take]; omega
      have ht := totC_in es[i]
      rw [hlen] at hb
      rw [idx_at hx]
      refine Tot.bif (fun hk => ?_) (fun hk => ?_)
      · have hk : es[i].1 = 1 := by simpa using hk
        have e : totC es[i] = up es[i].2.2.2.2.1 2147483647 := by unfold totC; rw [if_pos hk]
        rw [impl_Upto_eq, Option.bind_some, ← e, wrap_id (n := ((es.take i).map totC).sum + totC es[i]) (by omega) (by omega), wrap_id (n := (i : Int) + 1) (by omega) (by omega)]
        exact Tot.pure ⟨⟨i + 1, by simp only; omega, by omega, by simp only; exact hs.symm⟩, by simp only; omega⟩
      · have hk : ¬ es[i].1 = 1 := by simpa using hk
        have e : totC es[i] = 0 := by unfold totC; rw [if_neg hk]
        rw [wrap_id (n := (i : Int) + 1) (by omega) (by omega)]
        exact Tot.pure ⟨⟨i + 1, by simp only; omega, by omega, by simp only; rw [hs, e]; omega⟩, by simp only; omega⟩
    · have hl := of_decide_eq_false hl
      have : i = es.length := by omega
      rw [this, List.take_length]
  rw [ho, Option.bind_some, hq]

theorem index_event (xs : List T_Event.D) (hl : xs.length ≤ 1048576) (p : T_Event.D → Bool) (q : (T_Event.D × Unit) → Option Bool) (hq : ∀ x, q (x, ()) = some (p x)) :
    slices_IndexFunc_impl_Event xs q = some (match findL p xs with | some k => (k : Int) | none => -1) := by
  unfold slices_IndexFunc_impl_Event
  rw [index_loop xs (body := slices_IndexFunc_impl_Event_l1 xs q) p (fun i => i) (by omega) (fun i x hx => ?_) ?_]
  · cases findL p xs <;> rfl
  · unfold slices_IndexFunc_impl_Event_l1
    simp
  · unfold slices_IndexFunc_impl_Event_l1
    have hlt := (List.getElem?_eq_some_iff.1 hx).1
    have : ((i : Int) < (xs.length : Int)) := by omega
    simp only [this, decide_true, cond_true, idx_at hx, hq, Option.bind_some]
theorem contains_event (xs : List T_Event.D) (hl : xs.length ≤ 1048576) (p : T_Event.D → Bool) (q : (T_Event.D × Unit) → Option Bool) (hq : ∀ x, q (x, ()) = some (p x)) :
    slices_ContainsFunc_impl_Event xs q = some (xs.any p) := by
  unfold slices_ContainsFunc_impl_Event
  rw [index_event xs hl p q hq, Option.bind_some]
  obtain ⟨h1, h2⟩ := findL_spec p xs
  cases hf : findL p xs with
  | none =>
    have : xs.any p = false := by rw [List.any_eq_false]; exact fun x hx => by simp [h1 hf x hx]
    rw [this]; rfl
  | some k =>
    obtain ⟨x, g1, g2, _⟩ := h2 k hf
    have : xs.any p = true := by rw [List.any_eq_true]; exact ⟨x, List.mem_of_getElem? g1, g2⟩
    rw [this]
    simp

/-! ### GameOk -/
theorem some_iteG {α : Type} {c : Prop} [Decidable c] (a b : α) : (if c then some a else some b) = some (if c then a else b) := by split <;> rfl
def partOkB (e : T_Event.D) : Bool := eventOkB e || ((e.1 != 2) && (e.2.2.2.2.1 == -1) && eventOkB (e.1, e.2.1, e.2.2.1, e.2.2.2.1, 0, e.2.2.2.2.2))
theorem impl_partOk_eq (e : T_Event.D) : impl_partOk e = some (partOkB e) := by
  unfold impl_partOk partOkB
  simp only [impl_EventOk_eq, Option.bind_some]
  cases eventOkB e <;> cases (e.1 != 2) <;> cases (e.2.2.2.2.1 == -1) <;> rfl
theorem spec_part_eq (e : T_Event.D) : spec_l9Part e = some (partOkB e) := by
  unfold spec_l9Part partOkB
  simp only [spec_EventOk_eq, Option.bind_some]
  cases h : (e.2.2.2.2.1 == -1)
  · simp
  · have : eventOkB e = false := by
      unfold eventOkB
      have h1 : e.2.2.2.2.1 = -1 := by simpa using h
      have : decide (0 ≤ e.2.2.2.2.1) = false := by rw [h1]; rfl
      rw [this]; rfl
    rw [this]
    cases hk : (e.1 != 2) <;> simp [this, spec_EventOk_eq]
theorem act_loop (a : T_Act.D) (hl : a.2.2.2.2.2.2.1.length ≤ 1048576) : while_ (spec_ActOk_l1 a) 0 = some (bif a.2.2.2.2.2.2.1.any (fun e => !partOkB e) then .inr false else .inl (a.2.2.2.2.2.2.1.length : Int)) := by
  rw [any_loop a.2.2.2.2.2.2.1 (body := spec_ActOk_l1 a) (fun _ e => !partOkB e) false (by omega) (fun i x hx => ?_) (by unfold spec_ActOk_l1; simp), any_any]
  have hlt := (List.getElem?_eq_some_iff.1 hx).1
  have hil : ((i : Int) < (a.2.2.2.2.2.2.1.length : Int)) := by omega
  unfold spec_ActOk_l1
  simp only [hil, decide_true, cond_true, idx_at hx, spec_part_eq, Option.bind_some]
theorem actOk_eq' (k n p s z : Int) (bt : Bool) (L : List T_Event.D) (u : Unit) (hl : L.length ≤ 1048576) : ∃ b, spec_ActOk (k, n, p, s, z, bt, L, u) = some b ∧ impl_ActOk (k, n, p, s, z, bt, L, u) = some b := by
  have hW := act_loop (k, n, p, s, z, bt, L, u) hl
  have hC : slices_ContainsFunc_impl_Event L (fun q => impl_ActOk_1 q.1) = some (L.any (fun e => !partOkB e)) := contains_event L hl (fun e => !partOkB e) _ (fun x => by simp only [impl_ActOk_1, impl_partOk_eq, Option.bind_some])
  simp only at hW
  unfold spec_ActOk impl_ActOk spec_l9Plain impl_isId impl_isPlayer impl_isZone
  simp only [hW, hC, l1In_eq, from_eq, Option.bind_some]
  have hz : ((L.length : Int) == 0) = !decide ((L.length : Int) > 0) := by
    by_cases h : (L.length : Int) > 0
    · rw [decide_eq_true h]; simp only [Bool.not_true]; rw [beq_eq_false_iff_ne]; omega
    · rw [decide_eq_false h]; simp only [Bool.not_false]; rw [beq_iff_eq]; omega
  simp only [hz, bne]
  clear hW hC hz
  generalize L.any (fun e => !partOkB e) = q
  generalize hM : (decide (1 ≤ (L.length : Int)) && decide ((L.length : Int) ≤ 3)) = m3
  generalize decide ((L.length : Int) > 0) = m0
  by_cases h1 : k = 1
  · subst h1
    simp only [Int.reduceBEq, beq_self_eq_true, cond_true, cond_false, Option.bind_some, Bool.not_true, Bool.not_false]
    cases (n == 0) <;> cases (p == 0) <;> cases (s == -1) <;> cases (z == 0) <;> cases bt <;> cases m0 <;> exact ⟨_, rfl, rfl⟩
  by_cases h2 : k = 2
  · subst h2
    simp only [Int.reduceBEq, beq_self_eq_true, cond_true, cond_false, Option.bind_some, Bool.not_true, Bool.not_false]
    cases (n == 0) <;> cases (p == 0) <;> cases (s == -1) <;> cases (z == 0) <;> cases bt <;> cases m0 <;> exact ⟨_, rfl, rfl⟩
  by_cases h3 : k = 3
  · subst h3
    simp only [Int.reduceBEq, beq_self_eq_true, cond_true, cond_false, Option.bind_some, Bool.not_true, Bool.not_false]
    cases (decide (1 ≤ n) && decide (n ≤ 2147483647)) <;> cases (p == 0) <;> cases (s == -1) <;> cases (z == 0) <;> cases bt <;> cases m0 <;> exact ⟨_, rfl, rfl⟩
  by_cases h4 : k = 4
  · subst h4
    simp only [Int.reduceBEq, beq_self_eq_true, cond_true, cond_false, Option.bind_some, Bool.not_true, Bool.not_false]
    cases (n == 0) <;> cases (p == 0) <;> cases (s == -1) <;> cases (z == 0) <;> cases bt <;> cases m0 <;> exact ⟨_, rfl, rfl⟩
  by_cases h5 : k = 5
  · subst h5
    simp only [Int.reduceBEq, beq_self_eq_true, cond_true, cond_false, Option.bind_some, Bool.not_true, Bool.not_false]
    cases (n == 0) <;> cases (p == 0) <;> cases (s == -1) <;> cases (z == 0) <;> cases bt <;> cases m0 <;> exact ⟨_, rfl, rfl⟩
  by_cases h6 : k = 6
  · subst h6
    simp only [Int.reduceBEq, beq_self_eq_true, cond_true, cond_false, Option.bind_some, Bool.not_true, Bool.not_false]
    cases (n == 0) <;> cases (p == 0) <;> cases (s == -1) <;> cases (z == 0) <;> cases bt <;> cases m0 <;> cases (decide (1 ≤ p) && decide (p ≤ 99)) <;> cases (decide (0 ≤ s) && decide (s ≤ 2)) <;> exact ⟨_, rfl, rfl⟩
  by_cases h7 : k = 7
  · subst h7
    simp only [Int.reduceBEq, beq_self_eq_true, cond_true, cond_false, Option.bind_some, Bool.not_true, Bool.not_false]
    cases (n == 0) <;> cases (p == 0) <;> cases (s == -1) <;> cases bt <;> cases m0 <;> cases (decide (1 ≤ z) && decide (z ≤ 4)) <;> exact ⟨_, rfl, rfl⟩
  by_cases h8 : k = 8
  · subst h8
    simp only [Int.reduceBEq, beq_self_eq_true, cond_true, cond_false, Option.bind_some, Bool.not_true, Bool.not_false]
    cases (decide (0 ≤ n) && decide (n ≤ 99)) <;> cases (p == 0) <;> cases (s == -1) <;> cases (z == 0) <;> cases m0 <;> exact ⟨_, rfl, rfl⟩
  by_cases h9 : k = 9
  · subst h9
    simp only [Int.reduceBEq, beq_self_eq_true, cond_true, cond_false, Option.bind_some, Bool.not_true, Bool.not_false]
    cases (n == 0) <;> cases (p == 0) <;> cases (s == -1) <;> cases (z == 0) <;> cases bt <;> cases m3 <;> cases q <;> exact ⟨_, rfl, rfl⟩
  have e1 : (k == 1) = false := by rw [beq_eq_false_iff_ne]; exact h1
  have e2 : (k == 2) = false := by rw [beq_eq_false_iff_ne]; exact h2
  have e3 : (k == 3) = false := by rw [beq_eq_false_iff_ne]; exact h3
  have e4 : (k == 4) = false := by rw [beq_eq_false_iff_ne]; exact h4
  have e5 : (k == 5) = false := by rw [beq_eq_false_iff_ne]; exact h5
  have e6 : (k == 6) = false := by rw [beq_eq_false_iff_ne]; exact h6
  have e7 : (k == 7) = false := by rw [beq_eq_false_iff_ne]; exact h7
  have e8 : (k == 8) = false := by rw [beq_eq_false_iff_ne]; exact h8
  have e9 : (k == 9) = false := by rw [beq_eq_false_iff_ne]; exact h9
  simp only [e1, e2, e3, e4, e5, e6, e7, e8, e9, cond_true, cond_false, Option.bind_some, Bool.not_true, Bool.not_false]
  cases (n == 0) <;> cases (p == 0) <;> cases (s == -1) <;> cases (z == 0) <;> cases bt <;> cases m0 <;> exact ⟨_, rfl, rfl⟩
theorem actOk_eq (a : T_Act.D) (hl : a.2.2.2.2.2.2.1.length ≤ 1048576) : ∃ b, spec_ActOk a = some b ∧ impl_ActOk a = some b :=
  actOk_eq' a.1 a.2.1 a.2.2.1 a.2.2.2.1 a.2.2.2.2.1 a.2.2.2.2.2.1 a.2.2.2.2.2.2.1 a.2.2.2.2.2.2.2 hl
theorem ne_beq {a b : Int} (h : ¬ a = b) : (a == b) = false := by rw [beq_eq_false_iff_ne]; exact h
theorem actFits_eq (a : T_Act.D) (k : Int) : ∃ b, spec_ActFits a k = some b ∧ impl_ActFits a k = some b := by
  unfold spec_ActFits impl_ActFits impl_isKind
  simp only [l1In_eq, from_eq, Option.bind_some]
  generalize (decide (1 ≤ k) && decide (k ≤ 6)) = m
  cases m
  · exact ⟨_, rfl, rfl⟩
  by_cases h1 : a.1 = 1
  · rw [h1]; exact ⟨_, rfl, rfl⟩
  by_cases h2 : a.1 = 2
  · rw [h2]; exact ⟨_, rfl, rfl⟩
  by_cases h3 : a.1 = 3
  · rw [h3]; exact ⟨_, rfl, rfl⟩
  by_cases h4 : a.1 = 4
  · rw [h4]; exact ⟨_, rfl, rfl⟩
  by_cases h5 : a.1 = 5
  · rw [h5]; exact ⟨_, rfl, rfl⟩
  by_cases h6 : a.1 = 6
  · rw [h6]; exact ⟨_, rfl, rfl⟩
  by_cases h7 : a.1 = 7
  · rw [h7]; exact ⟨_, rfl, rfl⟩
  by_cases h8 : a.1 = 8
  · rw [h8]; exact ⟨_, rfl, rfl⟩
  by_cases h9 : a.1 = 9
  · rw [h9]; exact ⟨_, rfl, rfl⟩
  refine ⟨false, ?_, ?_⟩ <;> simp only [ne_beq h1, ne_beq h2, ne_beq h3, ne_beq h4, ne_beq h5, ne_beq h6, ne_beq h7, ne_beq h8, ne_beq h9, cond_true, cond_false, Option.bind_some, Bool.not_true, Bool.not_false]
theorem patOk_eq' (k c so tr pc am z : Int) (u : Unit) : ∃ b, spec_PatOk (k, c, so, tr, pc, am, z, u) = some b ∧ impl_PatOk (k, c, so, tr, pc, am, z, u) = some b := by
  unfold spec_PatOk impl_PatOk impl_isKind impl_isTraits impl_isAmount
  simp only [l1In_eq, from_eq, Option.bind_some, cond_eq_ite, some_iteG]
  refine ⟨_, rfl, ?_⟩
  congr 1
  rw [Bool.eq_iff_iff]
  simp
  grind
theorem patOk_eq (p : T_Pat.D) : ∃ b, spec_PatOk p = some b ∧ impl_PatOk p = some b := patOk_eq' p.1 p.2.1 p.2.2.1 p.2.2.2.1 p.2.2.2.2.1 p.2.2.2.2.2.1 p.2.2.2.2.2.2.1 p.2.2.2.2.2.2.2
theorem guardOk_eq' (k n : Int) (u : Unit) : ∃ b, spec_GuardOk (k, n, u) = some b ∧ impl_GuardOk (k, n, u) = some b := by
  unfold spec_GuardOk impl_GuardOk
  simp only [l1In_eq, from_eq, impl_Bound_eq, Option.bind_some, cond_eq_ite, some_iteG]
  refine ⟨_, rfl, ?_⟩
  congr 1
  rw [Bool.eq_iff_iff]
  unfold boundV
  simp
  grind
theorem guardOk_eq (p : T_Guard.D) : ∃ b, spec_GuardOk p = some b ∧ impl_GuardOk p = some b := guardOk_eq' p.1 p.2.1 p.2.2
theorem effectOk_eq (x : T_Effect.D) (hl : x.2.2.2.2.2.2.1.2.2.2.2.2.2.1.length ≤ 1048576) : ∃ b, spec_EffectOk x = some b ∧ impl_EffectOk x = some b := by
  obtain ⟨b1, p1, q1⟩ := patOk_eq x.2.2.2.2.1
  obtain ⟨b2, p2, q2⟩ := guardOk_eq x.2.2.2.2.2.1
  obtain ⟨b3, p3, q3⟩ := actOk_eq x.2.2.2.2.2.2.1 hl
  obtain ⟨b4, p4, q4⟩ := actFits_eq x.2.2.2.2.2.2.1 x.2.2.2.2.1.1
  unfold spec_EffectOk impl_EffectOk impl_isId impl_isPlayer
  simp only [p1, p2, p3, p4, q1, q2, q3, q4, l1In_eq, from_eq, Option.bind_some]
  simp only [cond_eq_ite, some_iteG, Option.bind_some]
  refine ⟨_, rfl, ?_⟩
  congr 1
  rw [Bool.eq_iff_iff]
  generalize x.2.2.2.2.2.2.1.1 = ak
  generalize x.1 = i
  generalize x.2.1 = ow
  generalize x.2.2.1 = so
  generalize x.2.2.2.1 = du
  generalize x.2.2.2.2.2.2.2.1 = co
  generalize x.2.2.2.2.2.2.2.2.1 = on
  clear p1 p2 p3 p4 q1 q2 q3 q4 hl
  simp
  grind
noncomputable def effectOkB (x : T_Effect.D) : Bool := (impl_EffectOk x).getD false
theorem impl_EffectOk_eq (x : T_Effect.D) (hl : x.2.2.2.2.2.2.1.2.2.2.2.2.2.1.length ≤ 1048576) : impl_EffectOk x = some (effectOkB x) := by
  obtain ⟨b, _, h⟩ := effectOk_eq x hl
  unfold effectOkB; rw [h]; rfl
theorem spec_EffectOk_eq (x : T_Effect.D) (hl : x.2.2.2.2.2.2.1.2.2.2.2.2.2.1.length ≤ 1048576) : spec_EffectOk x = some (effectOkB x) := by
  obtain ⟨b, h1, h⟩ := effectOk_eq x hl
  unfold effectOkB; rw [h, h1]; rfl


theorem index_Event (xs : List T_Event.D) (hl : xs.length ≤ 1048576) (p : T_Event.D → Bool) (q : (T_Event.D × Unit) → Option Bool) (hq : ∀ x, q (x, ()) = some (p x)) :
    slices_IndexFunc_impl_Event xs q = some (match findL p xs with | some k => (k : Int) | none => -1) := by
  unfold slices_IndexFunc_impl_Event
  rw [index_loop xs (body := slices_IndexFunc_impl_Event_l1 xs q) p (fun i => i) (by omega) (fun i x hx => ?_) ?_]
  · cases findL p xs <;> rfl
  · unfold slices_IndexFunc_impl_Event_l1
    simp
  · unfold slices_IndexFunc_impl_Event_l1
    have hlt := (List.getElem?_eq_some_iff.1 hx).1
    have : ((i : Int) < (xs.length : Int)) := by omega
    simp only [this, decide_true, cond_true, idx_at hx, hq, Option.bind_some]
theorem deleteFunc_Event (xs : List T_Event.D) (hl : xs.length ≤ 1048576) (p : T_Event.D → Bool) (q : (T_Event.D × Unit) → Option Bool) (hq : ∀ x, q (x, ()) = some (p x)) :
    slices_DeleteFunc_impl_Event xs q = some (xs.filter (fun x => !p x), ()) := by
  unfold slices_DeleteFunc_impl_Event
  rw [index_Event xs hl p q hq, Option.bind_some]
  obtain ⟨h1, h2⟩ := findL_spec p xs
  cases hf : findL p xs with
  | none =>
    have : xs.filter (fun x => !p x) = xs := by rw [List.filter_eq_self]; intro x hx; simp [h1 hf x hx]
    rw [this]; rfl
  | some k =>
    obtain ⟨x, g1, g2, g3⟩ := h2 k hf
    have hk := (List.getElem?_eq_some_iff.1 g1).1
    have n1 : ((k : Int) == -1) = false := by simp
    simp only [n1, cond_false]
    rw [wrap_id (by omega) (by omega)]
    obtain ⟨ys, m, e1, e2, e3, e4⟩ : ∃ (ys : List T_Event.D) (m : Nat), while_ (slices_DeleteFunc_impl_Event_l1 q) (xs, (k : Int), (k : Int) + 1) = some (ys, (m : Int), (xs.length : Int)) ∧ ys.length = xs.length ∧ m ≤ xs.length ∧ ys.take m = xs.filter (fun x => !p x) := by
      refine delete_loop xs (body := slices_DeleteFunc_impl_Event_l1 q) p (fun s => s) (by omega) (fun ys i j x hx hij hl' => ?_) (fun ys i hl' => ?_) k x g1 g2 g3
      · have hlt := (List.getElem?_eq_some_iff.1 hx).1
        have hil : ((j : Int) < (ys.length : Int)) := by omega
        obtain ⟨y, hy⟩ : ∃ y, ys[i]? = some y := ⟨_, List.getElem?_eq_getElem (by omega)⟩
        unfold slices_DeleteFunc_impl_Event_l1
        simp (disch := omega) only [hil, decide_true, cond_true, Int.toNat_natCast, idx_at hx, hx, hq, Option.bind_some, idx_at hy, hy, wrap_id]
        cases p x <;> rfl
      · unfold slices_DeleteFunc_impl_Event_l1
        have : ¬ ((xs.length : Int) < (ys.length : Int)) := by omega
        simp only [this, decide_false, cond_false]
    rw [e1, Option.bind_some]
    have t1 : 0 ≤ (m : Int) := by omega
    have t2 : (m : Int) ≤ (ys.length : Int) := by omega
    simp only [t1, t2, if_true, Int.le_refl, Int.toNat_natCast]
    have z1 : m ≤ ys.length := by omega
    rw [if_pos (by simp only [List.length_append, List.length_take, List.length_replicate, List.length_drop]; omega)]
    have : ∀ (zs : List T_Event.D), (ys.take m ++ zs).take m = ys.take m := fun zs => by rw [List.take_append_of_le_length (by simp; omega), List.take_take, Nat.min_self]
    rw [List.append_assoc, this, e4]
    simp

/-! ### Draws: they end, and the cursor stays right -/
def curOk (c : T_l1Cur.D) : Prop := 0 ≤ c.2.1 ∧ c.1.length ≤ 1048576
theorem l1Byte_ok' (b : List Int) (i g : Int) (u : Unit) (h0 : 0 ≤ i) (h1 : b.length ≤ 1048576) : Tot (spec_l1Byte (b, i, g, u)) (fun y => curOk y.2.1 ∧ 0 ≤ y.1 ∧ y.1 ≤ 255) := by
  unfold spec_l1Byte
  simp only
  rw [if_pos (by decide), if_pos (by decide)]
  refine Tot.bif (fun hl => ?_) (fun _ => ?_)
  · have hl : i < (b.length : Int) := of_decide_eq_true hl
    refine Tot.idx h0 hl fun n x e hx => ?_
    obtain ⟨m, e1, e2⟩ := mask_byte (IntKind.wrap .i64 (IntKind.wrap .i64 (BitVec.ofInt (IntKind.bits .i64) (IntKind.wrap .i64 (BitVec.ofInt (IntKind.bits .i64) ((IntKind.wrap .i64 ((IntKind.wrap .i64 (g * 6364136223846793005)) + 1442695040888963407)).fdiv (2 ^ min (33 : Int).toNat (IntKind.bits .i64))) ^^^ BitVec.ofInt (IntKind.bits .i64) ((IntKind.wrap .i64 ((IntKind.wrap .i64 (g * 6364136223846793005)) + 1442695040888963407)).fdiv (2 ^ min (47 : Int).toNat (IntKind.bits .i64)))).toNat) &&& BitVec.ofInt (IntKind.bits .i64) 255).toNat + IntKind.wrap .i64 x))
    refine Tot.pure ⟨⟨?_, h1⟩, ?_, ?_⟩
    · show (0 : Int) ≤ IntKind.wrap .i64 (i + 1)
      rw [wrap_id (by omega) (by omega)]; omega
    · simp only; rw [e1]; omega
    · simp only; rw [e1]; omega
  · obtain ⟨m, e1, e2⟩ := mask_byte (IntKind.wrap .i64 (BitVec.ofInt (IntKind.bits .i64) ((IntKind.wrap .i64 ((IntKind.wrap .i64 (g * 6364136223846793005)) + 1442695040888963407)).fdiv (2 ^ min (33 : Int).toNat (IntKind.bits .i64))) ^^^ BitVec.ofInt (IntKind.bits .i64) ((IntKind.wrap .i64 ((IntKind.wrap .i64 (g * 6364136223846793005)) + 1442695040888963407)).fdiv (2 ^ min (47 : Int).toNat (IntKind.bits .i64)))).toNat)
    refine Tot.pure ⟨⟨h0, h1⟩, ?_, ?_⟩
    · simp only; rw [e1]; omega
    · simp only; rw [e1]; omega
theorem l1Byte_ok (c : T_l1Cur.D) (h : curOk c) : Tot (spec_l1Byte c) (fun y => curOk y.2.1 ∧ 0 ≤ y.1 ∧ y.1 ≤ 255) := l1Byte_ok' c.1 c.2.1 c.2.2.1 c.2.2.2 h.1 h.2
theorem l1Below_ok (c : T_l1Cur.D) (n : Int) (h : curOk c) : Tot (spec_l1Below c n) (fun y => curOk y.2.1 ∧ 0 ≤ y.1 ∧ (0 < n → y.1 < n)) := by
  unfold spec_l1Below
  refine Tot.bif (fun hn => ?_) (fun hn => ?_)
  · have hn : n ≤ 0 := of_decide_eq_true hn
    exact Tot.pure ⟨h, Int.le_refl _, fun h => by omega⟩
  · have hn : ¬ n ≤ 0 := of_decide_eq_false hn
    refine Tot.bif (fun _ => ?_) (fun _ => ?_)
    · refine Tot.bind (l1Byte_ok c h) ?_
      rintro y ⟨hc, h0, h1⟩
      rw [if_neg (by omega)]
      exact Tot.pure ⟨hc, Int.tmod_nonneg _ h0, fun hp => Int.tmod_lt_of_pos _ hp⟩
    · refine Tot.bind (l1Byte_ok c h) ?_
      rintro y2 ⟨hc2, h20, h21⟩
      refine Tot.bind (l1Byte_ok _ hc2) ?_
      rintro y3 ⟨hc3, h30, h31⟩
      refine Tot.bind (l1Byte_ok _ hc3) ?_
      rintro y4 ⟨hc4, h40, h41⟩
      show Tot (if n = 0 then none else some ((IntKind.wrap .i64 (IntKind.wrap .i64 (IntKind.wrap .i64 (y2.1 * 65536) + IntKind.wrap .i64 (y3.1 * 256)) + y4.1)).tmod n, y4.2)) _
      rw [wrap_id (n := y2.1 * 65536) (by omega) (by omega), wrap_id (n := y3.1 * 256) (by omega) (by omega), wrap_id (n := y2.1 * 65536 + y3.1 * 256) (by omega) (by omega), wrap_id (n := y2.1 * 65536 + y3.1 * 256 + y4.1) (by omega) (by omega), if_neg (by omega)]
      exact Tot.pure ⟨hc4, Int.tmod_nonneg _ (by omega), fun hp => Int.tmod_lt_of_pos _ hp⟩
theorem l1Int_ok (c : T_l1Cur.D) (l : List Int) (h : curOk c) (hl : 0 < l.length) : Tot (spec_l1Int c l) (fun y => curOk y.2.1 ∧ y.1 ∈ l) := by
  unfold spec_l1Int
  refine Tot.bind (l1Below_ok c _ h) ?_
  rintro y ⟨hc, h0, h1⟩
  refine Tot.idx h0 (h1 (by omega)) fun n x e hx => ?_
  exact Tot.pure ⟨hc, List.mem_of_getElem? hx⟩
theorem l1Once_ok (c : T_l1Cur.D) (n : Int) (h : curOk c) : Tot (spec_l1Once c n) (fun y => curOk y.2.1 ∧ True) := by
  unfold spec_l1Once
  refine Tot.bind (l1Below_ok c _ h) ?_
  rintro y ⟨hc, h0, h1⟩
  exact Tot.pure ⟨hc, trivial⟩
theorem l1Odd_ok (c : T_l1Cur.D) (h : curOk c) : Tot (spec_l1Odd c) (fun y => curOk y.2.1 ∧ True) := by
  unfold spec_l1Odd
  refine Tot.bind (l1Int_ok c _ h (by decide)) ?_
  rintro y ⟨hc, _⟩
  exact Tot.pure ⟨hc, trivial⟩
theorem l1Raw_ok (c : T_l1Cur.D) (h : curOk c) : Tot (spec_l1Raw c) (fun y => curOk y.2.1 ∧ True) := by
  unfold spec_l1Raw
  refine Tot.bind (l1Once_ok c _ h) ?_
  rintro y ⟨hc, _⟩
  refine Tot.bif (fun _ => ?_) (fun _ => ?_)
  · refine Tot.bind (l1Odd_ok _ hc) ?_
    rintro y ⟨hc, _⟩
    exact Tot.pure ⟨hc, trivial⟩
  · refine Tot.bind (l1Int_ok _ _ hc (by decide)) ?_
    rintro y ⟨hc, _⟩
    exact Tot.pure ⟨hc, trivial⟩
theorem l4Draw_ok (c : T_l1Cur.D) (id : Int) (h : curOk c) : Tot (spec_l4Draw c id) (fun y => curOk y.2.1 ∧ True) := by
  unfold spec_l4Draw
  refine Tot.bind (l1Below_ok c _ h) ?_
  rintro y1 ⟨_, _⟩
  refine Tot.bind (l1Int_ok _ _ (by assumption) (by decide)) ?_
  rintro y2 ⟨_, _⟩
  refine Tot.bind (l1Below_ok _ _ (by assumption)) ?_
  rintro y3 ⟨_, _⟩
  refine Tot.bind (l1Below_ok _ _ (by assumption)) ?_
  rintro y4 ⟨_, _⟩
  refine Tot.bind (l1Below_ok _ _ (by assumption)) ?_
  rintro y5 ⟨h5, _⟩
  refine Tot.bind (P := fun o => curOk o.2.1) (Tot.while (fun s => curOk s.2.1 ∧ 0 ≤ s.1 ∧ s.1 ≤ 6) (fun s => 6 - s.1.toNat) ?_ ⟨h5, by simp only; omega, by simp only; omega⟩) ?_
  · rintro ⟨i, cc, t⟩ ⟨g1, g2, g3⟩
    simp only at g1 g2 g3
    unfold spec_l4Draw_l1
    simp only
    refine Tot.bif (fun hl => ?_) (fun _ => ?_)
    · have hl : i < (6 : Int) := of_decide_eq_true hl
      refine Tot.idx g2 (by simpa using hl) fun n x e hx => ?_
      subst e
      rw [Int.toNat_natCast, hx, Option.bind_some]
      refine Tot.bind (l1Once_ok _ _ g1) ?_
      rintro y ⟨hc, _⟩
      refine Tot.bif (fun _ => ?_) (fun _ => ?_) <;> refine Tot.pure ⟨⟨hc, ?_, ?_⟩, ?_⟩ <;> simp only <;> rw [wrap_id (by omega) (by omega)] <;> omega
    · exact Tot.pure g1
  · rintro o ho
    refine Tot.bif (fun _ => Tot.pure ⟨ho, trivial⟩) (fun _ => ?_)
    refine Tot.bind (l1Once_ok _ _ ho) ?_
    rintro y12 ⟨h12, _⟩
    refine Tot.bind (P := fun _ => True) (Tot.bif (fun _ => Tot.pure trivial) (fun _ => Tot.pure trivial)) ?_
    rintro o13 _
    refine Tot.bind (l1Int_ok _ _ h12 (by decide)) ?_
    rintro y14 ⟨h14, _⟩
    refine Tot.bind (l1Int_ok _ _ h14 (by decide)) ?_
    rintro y15 ⟨h15, _⟩
    refine Tot.bind (l1Int_ok _ _ h15 (by decide)) ?_
    rintro y16 ⟨h16, _⟩
    refine Tot.bind (l1Once_ok _ _ h16) ?_
    rintro y17 ⟨h17, _⟩
    exact Tot.pure ⟨h17, trivial⟩
theorem l5Draw_ok (c : T_l1Cur.D) (h : curOk c) : Tot (spec_l5Draw c) (fun y => curOk y.2.1 ∧ 1 ≤ y.1.1.length ∧ y.1.1.length ≤ 6 ∧ y.1.2.1.length = 2) := by
  unfold spec_l5Draw
  refine Tot.bind (P := fun s => s.1.length = 0 ∧ s.2.1.length = 2) ⟨_, rfl, rfl, rfl⟩ ?_
  rintro y1 ⟨p1, p2⟩
  refine Tot.bind (l1Below_ok c _ h) ?_
  rintro y2 ⟨h2, _⟩
  refine Tot.bind (l1Below_ok _ _ h2) ?_
  rintro y3 ⟨h3, _⟩
  refine Tot.bind (P := fun o => curOk o.2.1 ∧ o.2.2.1.length = 0 ∧ o.2.2.2.1.length = 2) (Tot.while (fun s => curOk s.2.1 ∧ s.2.2.1.length = 0 ∧ s.2.2.2.1.length = 2 ∧ 0 ≤ s.1 ∧ s.1 ≤ 2) (fun s => 2 - s.1.toNat) ?_ ⟨h3, p1, p2, by simp only; omega, by simp only; omega⟩) ?_
  · rintro ⟨i, cc, ps, ss, t⟩ ⟨g1, g2, g3, g4, g5⟩
    simp only at g1 g2 g3 g4 g5
    unfold spec_l5Draw_l1
    simp only
    refine Tot.bif (fun hl => ?_) (fun _ => Tot.pure ⟨g1, g2, g3⟩)
    have hl : i < (2 : Int) := of_decide_eq_true hl
    refine Tot.bind (l1Int_ok _ _ g1 (by decide)) ?_
    rintro y7 ⟨h7, _⟩
    refine Tot.idx g4 (by omega) fun n x e hx => ?_
    subst e
    rw [Int.toNat_natCast, hx, Option.bind_some]
    refine Tot.bind (l1Int_ok _ _ h7 (by decide)) ?_
    rintro y10 ⟨h10, _⟩
    have hn : n < ss.length := by omega
    rw [idx_set hn, get_set hn, Option.bind_some]
    refine Tot.pure ⟨⟨h10, g2, by simp only [List.length_set]; exact g3, ?_, ?_⟩, ?_⟩ <;> simp only <;> rw [wrap_id (by omega) (by omega)] <;> omega
  · rintro o ⟨g1, g2, g3⟩
    refine Tot.bind (l1Below_ok _ _ g1) ?_
    rintro y14 ⟨h14, h14a, h14b⟩
    have hlt := h14b (by decide)
    rw [wrap_id (n := 1 + y14.1) (by omega) (by omega)]
    refine Tot.bind (P := fun o => curOk o.2.2.1 ∧ 1 ≤ o.2.2.2.1.length ∧ o.2.2.2.1.length ≤ 6 ∧ o.2.2.2.2.1.length = 2) (Tot.while (fun s => curOk s.2.2.1 ∧ 0 ≤ s.2.1 ∧ (s.2.2.2.1.length : Int) + s.2.1 = 1 + y14.1 ∧ s.2.2.2.2.1.length = 2) (fun s => s.2.1.toNat) ?_ ⟨h14, by simp only; omega, by simp only; omega, g3⟩) ?_
    · rintro ⟨id, i, cc, ps, ss, t⟩ ⟨k1, k2, k3, k4⟩
      simp only at k1 k2 k3 k4
      unfold spec_l5Draw_l2
      simp only
      refine Tot.bif (fun hl => ?_) (fun hl => Tot.pure ⟨k1, ?_, ?_, k4⟩)
      · have hl : i > 0 := of_decide_eq_true hl
        refine Tot.bind (l1Below_ok _ _ k1) ?_
        rintro y18 ⟨h18, _⟩
        refine Tot.bind (l4Draw_ok _ _ h18) ?_
        rintro y19 ⟨h19, _⟩
        rw [if_pos (by simp only [room, List.length_cons, List.length_nil]; omega)]
        refine Tot.pure ⟨⟨h19, ?_, ?_, k4⟩, ?_⟩ <;> simp only [List.length_append, List.length_cons, List.length_nil] <;> rw [wrap_id (n := i - 1) (by omega) (by omega)] <;> omega
      · have hl : ¬ i > 0 := of_decide_eq_false hl
        simp only; omega
      · have hl : ¬ i > 0 := of_decide_eq_false hl
        simp only; omega
    · rintro o ⟨k1, k2⟩
      exact Tot.pure ⟨k1, k2⟩
theorem l6Id_ok (c : T_l1Cur.D) (s : T_State.D) (h : curOk c) : Tot (spec_l6Id c s) (fun y => curOk y.2.1 ∧ True) := by
  unfold spec_l6Id
  refine Tot.bind (P := fun o => curOk o.2 ∧ (o.1 = false → 0 < s.1.length)) (Tot.bif (fun _ => Tot.pure ⟨h, by simp⟩) (fun he => ?_)) ?_
  · have he : 0 < s.1.length := by
      rw [beq_eq_false_iff_ne] at he
      omega
    refine Tot.bind (l1Once_ok _ _ h) ?_
    rintro y ⟨hy, _⟩
    exact Tot.pure ⟨hy, fun _ => he⟩
  · rintro o ⟨ho, hl⟩
    refine Tot.bif (fun _ => ?_) (fun hf => ?_)
    · refine Tot.bind (l1Below_ok _ _ ho) ?_
      rintro y ⟨hy, _⟩
      exact Tot.pure ⟨hy, trivial⟩
    · have := hl hf
      refine Tot.bind (l1Below_ok _ _ ho) ?_
      rintro y ⟨hy, h0, h1⟩
      refine Tot.idx h0 (h1 (by omega)) fun n x e hx => ?_
      exact Tot.pure ⟨hy, trivial⟩
theorem l6Draw_ok (c : T_l1Cur.D) (s : T_State.D) (h : curOk c) : Tot (spec_l6Draw c s) (fun y => curOk y.2.1 ∧ True) := by
  unfold spec_l6Draw
  refine Tot.bind (l1Int_ok _ _ h (by decide)) ?_
  rintro y1 ⟨h1, _⟩
  refine Tot.bind (l1Int_ok _ _ h1 (by decide)) ?_
  rintro y2 ⟨h2, _⟩
  refine Tot.bif (fun _ => ?_) (fun _ => ?_)
  · refine Tot.bind (l6Id_ok _ _ h2) ?_
    rintro y3 ⟨h3, _⟩
    refine Tot.bind (l1Once_ok _ _ h3) ?_
    rintro y4 ⟨h4, _⟩
    refine Tot.bif (fun _ => ?_) (fun _ => ?_)
    · refine Tot.bind (l1Below_ok _ _ h4) ?_
      rintro y ⟨hy, _⟩
      exact Tot.pure ⟨hy, trivial⟩
    · refine Tot.bind (l6Id_ok _ _ h4) ?_
      rintro y ⟨hy, _⟩
      exact Tot.pure ⟨hy, trivial⟩
  refine Tot.bif (fun _ => ?_) (fun _ => ?_)
  · refine Tot.bind (l6Id_ok _ _ h2) ?_
    rintro y3 ⟨h3, _⟩
    refine Tot.bind (l1Int_ok _ _ h3 (by decide)) ?_
    rintro y4 ⟨h4, _⟩
    refine Tot.bif (fun _ => ?_) (fun _ => Tot.pure ⟨h4, trivial⟩)
    refine Tot.bind (l1Int_ok _ _ h4 (by decide)) ?_
    rintro y5 ⟨h5, _⟩
    refine Tot.bind (l1Once_ok _ _ h5) ?_
    rintro y ⟨hy, _⟩
    exact Tot.pure ⟨hy, trivial⟩
  refine Tot.bind (P := fun _ => True) (Tot.bif (fun _ => Tot.pure trivial) (fun _ => Tot.pure trivial)) ?_
  rintro o11 _
  refine Tot.bif (fun _ => ?_) (fun _ => ?_)
  · refine Tot.bind (l1Below_ok _ _ h2) ?_
    rintro y ⟨hy, _⟩
    exact Tot.pure ⟨hy, trivial⟩
  · refine Tot.bind (l6Id_ok _ _ h2) ?_
    rintro y ⟨hy, _⟩
    exact Tot.pure ⟨hy, trivial⟩
theorem l6Any_ok (c : T_l1Cur.D) (s : T_State.D) (h : curOk c) : Tot (spec_l6Any c s) (fun y => curOk y.2.1 ∧ True) := by
  unfold spec_l6Any
  refine Tot.bind (l6Draw_ok _ _ h) ?_
  rintro y1 ⟨h1, _⟩
  refine Tot.bind (l1Below_ok _ _ h1) ?_
  rintro y3 ⟨h3, _⟩
  repeat' first
    | refine Tot.bif (fun _ => ?_) (fun _ => ?_)
    | (refine Tot.bind (l1Int_ok _ _ h3 (by decide)) ?_; rintro y ⟨hy, _⟩; exact Tot.pure ⟨hy, trivial⟩)
    | (refine Tot.bind (l1Raw_ok _ h3) ?_; rintro y ⟨hy, _⟩; exact Tot.pure ⟨hy, trivial⟩)
    | exact Tot.pure ⟨h3, trivial⟩
theorem l1New_ok (code : List Int) (hl : code.length ≤ 1048576) : Tot (spec_l1New code) (fun c => curOk c) := by
  unfold spec_l1New
  refine Tot.bind (P := fun _ => True) (Tot.while (fun s => 0 ≤ s.2 ∧ s.2 ≤ (code.length : Int)) (fun s => code.length - s.2.toNat) ?_ ⟨by simp only; omega, by simp only; omega⟩) ?_
  · rintro ⟨g, i⟩ ⟨k1, k2⟩
    simp only at k1 k2
    unfold spec_l1New_l1
    simp only
    refine Tot.bind (P := fun o => o = true → i < (code.length : Int)) (Tot.bif (fun hl => Tot.pure (fun _ => of_decide_eq_true hl)) (fun _ => Tot.pure (fun h => by cases h))) ?_
    rintro o ho
    refine Tot.bif (fun hb => ?_) (fun _ => Tot.pure trivial)
    have hlt := ho hb
    refine Tot.idx k1 hlt fun n x e hx => ?_
    refine Tot.pure ⟨⟨?_, ?_⟩, ?_⟩ <;> simp only <;> rw [wrap_id (n := i + 1) (by omega) (by omega)] <;> omega
  · rintro o _
    exact Tot.pure ⟨Int.le_refl _, hl⟩

/-! ### Draws of effects -/
theorem l7Draw_ok (c : T_l1Cur.D) (s : T_State.D) (h : curOk c) : Tot (spec_l7Draw c s) (fun y => curOk y.2.1 ∧ True) := by
  unfold spec_l7Draw
  refine Tot.bind (l1Int_ok _ _ h (by decide)) ?_
  rintro y1 ⟨h1, _⟩
  refine Tot.bind (l1Int_ok _ _ h1 (by decide)) ?_
  rintro y2 ⟨h2, _⟩
  refine Tot.bind (l1Once_ok _ _ h2) ?_
  rintro y3 ⟨h3, _⟩
  refine Tot.bind (P := fun o => curOk o.1) (Tot.bif (fun _ => ?_) (fun _ => Tot.pure h3)) ?_
  · (refine Tot.bind (l1Int_ok _ _ h3 (by decide)) ?_; rintro y ⟨hy, _⟩; exact Tot.pure hy)
  rintro o5 h5
  refine Tot.bind (P := fun o => curOk o.1) (Tot.bif (fun _ => ?_) (fun _ => ?_)) ?_
  · refine Tot.bind (l1Once_ok _ _ h5) ?_
    rintro y6 ⟨h6, _⟩
    refine Tot.bind (P := fun o => curOk o.1) (Tot.bif (fun _ => ?_) (fun _ => Tot.pure h6)) ?_
    · (refine Tot.bind (l6Id_ok _ _ h6) ?_; rintro y ⟨hy, _⟩; exact Tot.pure hy)
    rintro o8 h8
    refine Tot.bind (l1Once_ok _ _ h8) ?_
    rintro y9 ⟨h9, _⟩
    refine Tot.bind (P := fun o => curOk o.1) (Tot.bif (fun _ => ?_) (fun _ => Tot.pure h9)) ?_
    · (refine Tot.bind (l1Int_ok _ _ h9 (by decide)) ?_; rintro y ⟨hy, _⟩; exact Tot.pure hy)
    rintro o11 h11
    exact Tot.pure h11
  · refine Tot.bind (P := fun o => curOk o.1) (Tot.bif (fun _ => ?_) (fun _ => Tot.pure h5)) ?_
    · (refine Tot.bind (l1Int_ok _ _ h5 (by decide)) ?_; rintro y ⟨hy, _⟩; exact Tot.pure hy)
    rintro o13 h13
    exact Tot.pure h13
  rintro o14 h14
  refine Tot.bind (P := fun o => curOk o.2) (Tot.bif (fun _ => Tot.bif (fun _ => ?_) (fun _ => Tot.pure h14)) (fun _ => Tot.pure h14)) ?_
  · (refine Tot.bind (l1Once_ok _ _ h14) ?_; rintro y ⟨hy, _⟩; exact Tot.pure hy)
  rintro o16 h16
  refine Tot.bif (fun _ => ?_) (fun _ => Tot.pure ⟨h16, trivial⟩)
  (refine Tot.bind (l6Id_ok _ _ h16) ?_; rintro y ⟨hy, _⟩; exact Tot.pure ⟨hy, trivial⟩)
theorem l8Draw_ok (c : T_l1Cur.D) (h : curOk c) : Tot (spec_l8Draw c) (fun y => curOk y.2.1 ∧ True) := by
  unfold spec_l8Draw
  refine Tot.bind (l1Once_ok _ _ h) ?_
  rintro y1 ⟨h1, _⟩
  refine Tot.bif (fun _ => Tot.pure ⟨h1, trivial⟩) (fun _ => ?_)
  refine Tot.bind (l1Below_ok _ _ h1) ?_
  rintro y2 ⟨h2, _⟩
  refine Tot.bif (fun _ => ?_) (fun _ => ?_)
  · (refine Tot.bind (l1Int_ok _ _ h2 (by decide)) ?_; rintro y ⟨hy, _⟩; exact Tot.pure ⟨hy, trivial⟩)
  refine Tot.bind (P := fun _ => True) (Tot.bif (fun _ => Tot.pure trivial) (fun _ => Tot.pure trivial)) ?_
  rintro o4 _
  refine Tot.bif (fun _ => ?_) (fun _ => Tot.pure ⟨h2, trivial⟩)
  (refine Tot.bind (l1Int_ok _ _ h2 (by decide)) ?_; rintro y ⟨hy, _⟩; exact Tot.pure ⟨hy, trivial⟩)
theorem fits_tot (a : T_Act.D) (k : Int) : Tot (spec_ActFits a k) (fun _ => True) := by
  obtain ⟨b, h, _⟩ := actFits_eq a k
  exact ⟨b, h, trivial⟩
theorem l9Draw_ok (c : T_l1Cur.D) (s : T_State.D) (k : Int) (h : curOk c) : Tot (spec_l9Draw c s k) (fun y => curOk y.2.1 ∧ y.1.2.2.2.2.2.2.1.length ≤ 9) := by
  unfold spec_l9Draw
  refine Tot.bind (l1Int_ok _ _ h (by decide)) ?_
  rintro y1 ⟨h1, _⟩
  refine Tot.bind (P := fun o => curOk o.2.1 ∧ o.2.2.2.2.2.2.2.2.1 = []) (Tot.while (fun s => (curOk s.2.1 ∧ s.2.2.2.2.2.2.2.2.1 = []) ∧ 0 ≤ s.1 ∧ s.1 ≤ 6) (fun s => 6 - s.1.toNat) ?_ ⟨⟨h1, rfl⟩, by simp only; omega⟩) ?_
  · rintro ⟨i, cc, ak, an, ap, asd, az, ab, aL, u⟩ ⟨⟨g1, g2⟩, g3, g4⟩
    simp only at g1 g2 g3 g4
    unfold spec_l9Draw_l1
    simp only
    refine Tot.bind (P := fun o => o = true → i < (6 : Int)) (Tot.bif (fun hl => ?_) (fun _ => Tot.pure (fun h => by cases h))) ?_
    · have hl : i < (6 : Int) := of_decide_eq_true hl
      refine Tot.bind (fits_tot _ _) ?_
      rintro y5 _
      exact Tot.pure (fun _ => hl)
    rintro o6 h6
    refine Tot.bif (fun hb => ?_) (fun _ => Tot.pure ⟨g1, g2⟩)
    have hl := h6 hb
    refine Tot.bind (l1Below_ok _ _ g1) ?_
    rintro y7 ⟨h7, _⟩
    refine Tot.pure ⟨⟨⟨h7, g2⟩, ?_, ?_⟩, ?_⟩ <;> simp only <;> rw [wrap_id (by omega) (by omega)] <;> omega
  rintro o8 ⟨h8, e8⟩
  refine Tot.bind (fits_tot _ _) ?_
  rintro y9 _
  refine Tot.bind (P := fun o => o.2.2.2.2.2.2.1 = []) (Tot.bif (fun _ => Tot.pure e8) (fun _ => Tot.pure e8)) ?_
  rintro o10 h10
  have h10' : o10.2.2.2.2.2.2.1.length ≤ 9 := by rw [h10]; decide
  refine Tot.bif (fun _ => ?_) (fun _ => ?_)
  · refine Tot.bind (l1Int_ok _ _ h8 (by decide)) ?_
    rintro y ⟨hy, _⟩
    exact Tot.pure ⟨hy, h10'⟩
  refine Tot.bif (fun _ => ?_) (fun _ => ?_)
  · refine Tot.bind (l1Once_ok _ _ h8) ?_
    rintro y12 ⟨h12, _⟩
    refine Tot.bif (fun _ => ?_) (fun _ => ?_)
    · refine Tot.bind (l1Below_ok _ _ h12) ?_
      rintro y ⟨hy, _⟩
      exact Tot.pure ⟨hy, h10'⟩
    · refine Tot.bind (l6Id_ok _ _ h12) ?_
      rintro y ⟨hy, _⟩
      exact Tot.pure ⟨hy, h10'⟩
  refine Tot.bif (fun _ => ?_) (fun _ => ?_)
  · refine Tot.bind (l1Int_ok _ _ h8 (by decide)) ?_
    rintro y ⟨hy, _⟩
    exact Tot.pure ⟨hy, h10'⟩
  refine Tot.bif (fun _ => ?_) (fun _ => ?_)
  · refine Tot.bind (l1Below_ok _ _ h8) ?_
    rintro y16 ⟨h16, _⟩
    refine Tot.bind (l1Once_ok _ _ h16) ?_
    rintro y ⟨hy, _⟩
    exact Tot.pure ⟨hy, h10'⟩
  refine Tot.bif (fun _ => ?_) (fun _ => Tot.pure ⟨h8, h10'⟩)
  refine Tot.bind (l1Below_ok _ _ h8) ?_
  rintro y18 ⟨h18, a18, b18⟩
  have b18 := b18 (by decide)
  have hw : IntKind.wrap .i64 (1 + y18.1) = 1 + y18.1 := wrap_id (by omega) (by omega)
  refine Tot.bind (P := fun o => curOk o.2.1 ∧ o.2.2.2.2.2.2.2.2.1.length ≤ 9) (Tot.while (fun s => curOk s.2.1 ∧ 0 ≤ s.1 ∧ (s.2.2.2.2.2.2.2.2.1.length : Int) + s.1 = 1 + y18.1) (fun s => s.1.toNat) ?_ ⟨h18, by simp only; omega, by simp only; rw [h10, hw]; simp⟩) ?_
  · rintro ⟨i, cc, ak, an, ap, asd, az, ab, aL, u⟩ ⟨g1, g3, g4⟩
    simp only at g1 g3 g4
    unfold spec_l9Draw_l2
    simp only
    refine Tot.bif (fun hl => ?_) (fun hl => Tot.pure ⟨g1, by simp only; omega⟩)
    have hl : i > 0 := of_decide_eq_true hl
    refine Tot.bind (l6Draw_ok _ _ g1) ?_
    rintro y22 ⟨h22, _⟩
    refine Tot.bind (P := fun o => curOk o.2) (Tot.bif (fun _ => ?_) (fun _ => Tot.pure h22)) ?_
    · (refine Tot.bind (l1Once_ok _ _ h22) ?_; rintro y ⟨hy, _⟩; exact Tot.pure hy)
    rintro o24 h24
    refine Tot.bind (P := fun _ => True) (Tot.bif (fun _ => Tot.pure trivial) (fun _ => Tot.pure trivial)) ?_
    rintro o25 _
    rw [if_pos (by simp only [room, List.length_cons, List.length_nil]; omega)]
    refine Tot.pure ⟨⟨h24, ?_, ?_⟩, ?_⟩ <;> simp only [List.length_append, List.length_cons, List.length_nil] <;> rw [wrap_id (n := i - 1) (by omega) (by omega)] <;> omega
  rintro o26 ⟨h26, e26⟩
  exact Tot.pure ⟨h26, e26⟩
theorem l10Draw_ok (c : T_l1Cur.D) (s : T_State.D) (k : Int) (h : curOk c) : Tot (spec_l10Draw c s k) (fun y => curOk y.2.1 ∧ y.1.2.2.2.2.2.2.1.2.2.2.2.2.2.1.length ≤ 9) := by
  unfold spec_l10Draw
  refine Tot.bind (l1Below_ok _ _ h) ?_
  rintro y1 ⟨h1, _⟩
  refine Tot.bind (l1Int_ok _ _ h1 (by decide)) ?_
  rintro y2 ⟨h2, _⟩
  refine Tot.bind (P := fun o => curOk o.2) (Tot.bif (fun _ => Tot.pure h2) (fun _ => ?_)) ?_
  · (refine Tot.bind (l1Once_ok _ _ h2) ?_; rintro y ⟨hy, _⟩; exact Tot.pure hy)
  rintro o4 h4
  refine Tot.bind (P := fun o => curOk o.1) (Tot.bif (fun _ => ?_) (fun _ => Tot.pure h4)) ?_
  · (refine Tot.bind (l6Id_ok _ _ h4) ?_; rintro y ⟨hy, _⟩; exact Tot.pure hy)
  rintro o6 h6
  refine Tot.bind (l7Draw_ok _ _ h6) ?_
  rintro y7 ⟨h7, _⟩
  refine Tot.bind (l8Draw_ok _ h7) ?_
  rintro y8 ⟨h8, _⟩
  refine Tot.bind (l9Draw_ok _ _ _ h8) ?_
  rintro y9 ⟨h9, e9⟩
  refine Tot.bind (l1Once_ok _ _ h9) ?_
  rintro y10 ⟨h10, _⟩
  refine Tot.bind (P := fun o => curOk o.1 ∧ o.2.2.2.2.2.2.2.1.2.2.2.2.2.2.1.length ≤ 9) (Tot.bif (fun _ => ?_) (fun _ => Tot.pure ⟨h10, e9⟩)) ?_
  · refine Tot.bind (l1Below_ok _ _ h10) ?_
    rintro y ⟨hy, _⟩
    exact Tot.pure ⟨hy, e9⟩
  rintro o13 ⟨h13, e13⟩
  refine Tot.bif (fun _ => ?_) (fun _ => ?_)
  · refine Tot.bind (l1Int_ok _ _ h13 (by decide)) ?_
    rintro y ⟨hy, _⟩
    exact Tot.pure ⟨hy, e13⟩
  refine Tot.bind (l1Once_ok _ _ h13) ?_
  rintro y15 ⟨h15, _⟩
  refine Tot.bif (fun _ => ?_) (fun _ => Tot.pure ⟨h15, e13⟩)
  refine Tot.bind (l1Below_ok _ _ h15) ?_
  rintro y ⟨hy, _⟩
  exact Tot.pure ⟨hy, e13⟩
theorem l7Any_ok (c : T_l1Cur.D) (s : T_State.D) (h : curOk c) : Tot (spec_l7Any c s) (fun y => curOk y.2.1 ∧ True) := by
  unfold spec_l7Any
  refine Tot.bind (l7Draw_ok _ _ h) ?_
  rintro y1 ⟨h1, _⟩
  refine Tot.bind (l1Below_ok _ _ h1) ?_
  rintro y3 ⟨h3, _⟩
  repeat' first
    | refine Tot.bif (fun _ => ?_) (fun _ => ?_)
    | (refine Tot.bind (l1Int_ok _ _ h3 (by decide)) ?_; rintro y ⟨hy, _⟩; exact Tot.pure ⟨hy, trivial⟩)
    | (refine Tot.bind (l1Raw_ok _ h3) ?_; rintro y ⟨hy, _⟩; exact Tot.pure ⟨hy, trivial⟩)
    | exact Tot.pure ⟨h3, trivial⟩
theorem l8Any_ok (c : T_l1Cur.D) (h : curOk c) : Tot (spec_l8Any c) (fun y => curOk y.2.1 ∧ True) := by
  unfold spec_l8Any
  refine Tot.bind (l8Draw_ok _ h) ?_
  rintro y1 ⟨h1, _⟩
  refine Tot.bind (l1Below_ok _ _ h1) ?_
  rintro y3 ⟨h3, _⟩
  repeat' first
    | refine Tot.bif (fun _ => ?_) (fun _ => ?_)
    | (refine Tot.bind (l1Int_ok _ _ h3 (by decide)) ?_; rintro y ⟨hy, _⟩; exact Tot.pure ⟨hy, trivial⟩)
    | (refine Tot.bind (l1Raw_ok _ h3) ?_; rintro y ⟨hy, _⟩; exact Tot.pure ⟨hy, trivial⟩)
    | exact Tot.pure ⟨h3, trivial⟩
theorem l9Any_ok (c : T_l1Cur.D) (s : T_State.D) (h : curOk c) : Tot (spec_l9Any c s) (fun y => curOk y.2.1 ∧ y.1.2.2.2.2.2.2.1.length ≤ 12) := by
  unfold spec_l9Any
  refine Tot.bind (l1Below_ok _ _ h) ?_
  rintro y1 ⟨h1, _⟩
  refine Tot.bind (l9Draw_ok _ _ _ h1) ?_
  rintro y2 ⟨h2, e2⟩
  refine Tot.bind (l1Below_ok _ _ h2) ?_
  rintro y3 ⟨h3, _⟩
  have e2' : y2.1.2.2.2.2.2.2.1.length ≤ 12 := by omega
  repeat' first
    | refine Tot.bif (fun _ => ?_) (fun _ => ?_)
    | (refine Tot.bind (l1Int_ok _ _ h3 (by decide)) ?_; rintro y ⟨hy, _⟩; exact Tot.pure ⟨hy, e2'⟩)
    | (refine Tot.bind (l1Raw_ok _ h3) ?_; rintro y ⟨hy, _⟩; exact Tot.pure ⟨hy, e2'⟩)
    | exact Tot.pure ⟨h3, e2'⟩
    | (refine Tot.bind (l6Any_ok _ _ h3) ?_; rintro y ⟨hy, _⟩; rw [if_pos (by simp only [room, List.length_cons, List.length_nil]; omega)]; exact Tot.pure ⟨hy, by simp only [List.length_append, List.length_cons, List.length_nil]; omega⟩)
    | (refine Tot.bind (l6Draw_ok _ _ h3) ?_; rintro y ⟨hy, _⟩; refine Tot.bind (l6Draw_ok _ _ hy) ?_; rintro z ⟨hz, _⟩; refine Tot.bind (l6Draw_ok _ _ hz) ?_; rintro w ⟨hw, _⟩; rw [if_pos (by simp only [room, List.length_cons, List.length_nil]; omega)]; exact Tot.pure ⟨hw, by simp only [List.length_append, List.length_cons, List.length_nil]; omega⟩)
theorem l10Any_ok (c : T_l1Cur.D) (s : T_State.D) (h : curOk c) : Tot (spec_l10Any c s) (fun y => curOk y.2.1 ∧ y.1.2.2.2.2.2.2.1.2.2.2.2.2.2.1.length ≤ 12) := by
  unfold spec_l10Any
  refine Tot.bind (l1Below_ok _ _ h) ?_
  rintro y1 ⟨h1, _⟩
  refine Tot.bind (l10Draw_ok _ _ _ h1) ?_
  rintro y2 ⟨h2, e2⟩
  refine Tot.bind (l1Below_ok _ _ h2) ?_
  rintro y3 ⟨h3, _⟩
  have e2' : y2.1.2.2.2.2.2.2.1.2.2.2.2.2.2.1.length ≤ 12 := by omega
  repeat' first
    | refine Tot.bif (fun _ => ?_) (fun _ => ?_)
    | (refine Tot.bind (l1Int_ok _ _ h3 (by decide)) ?_; rintro y ⟨hy, _⟩; exact Tot.pure ⟨hy, e2'⟩)
    | (refine Tot.bind (l1Raw_ok _ h3) ?_; rintro y ⟨hy, _⟩; exact Tot.pure ⟨hy, e2'⟩)
    | exact Tot.pure ⟨h3, e2'⟩
    | (refine Tot.bind (l7Any_ok _ _ h3) ?_; rintro y ⟨hy, _⟩; exact Tot.pure ⟨hy, e2'⟩)
    | (refine Tot.bind (l8Any_ok _ h3) ?_; rintro y ⟨hy, _⟩; exact Tot.pure ⟨hy, e2'⟩)
    | (refine Tot.bind (l9Any_ok _ _ h3) ?_; rintro y ⟨hy, ey⟩; exact Tot.pure ⟨hy, ey⟩)

/-! ### FnActed -/
theorem collect_map {α β : Type} (f : α → β) : ∀ (xs : List α) (i : Nat), collect (fun _ x => [f x]) i xs = xs.map f
  | [], _ => rfl
  | x :: xs, i => by simp only [collect, List.map_cons, collect_map f xs (i + 1)]; rfl
def partV (n : Int) (x : T_Event.D) : T_Event.D := bif (x.2.2.2.2.1 == (-1)) then (x.1, x.2.1, x.2.2.1, x.2.2.2.1, up n 2147483647, x.2.2.2.2.2) else x
theorem impl_Parts_eq (a : T_Act.D) (e : T_Event.D) (hk : a.1 = 9) (hl : a.2.2.2.2.2.2.1.length ≤ 1048576) : impl_Parts a e = some (a.2.2.2.2.2.2.1.map (partV e.2.2.2.2.1)) := by
  unfold impl_Parts
  have : (a.1 != 9) = false := by rw [hk]; rfl
  rw [this, cond_false]
  rw [append_loop a.2.2.2.2.2.2.1 (fun _ x => [partV e.2.2.2.2.1 x]) (fun s => s) (fun _ _ => by simp) (by omega) (fun t i x hI hx => ?_) (fun t => ?_)]
  · rw [collect_map]; rfl
  · have hlt := (List.getElem?_eq_some_iff.1 hx).1
    have hil : ((i : Int) < (a.2.2.2.2.2.2.1.length : Int)) := by omega
    unfold impl_Parts_l1 partV
    simp only [hil, decide_true, cond_true, idx_at hx, impl_Upto_eq, Option.bind_some]
    cases (x.2.2.2.2.1 == -1)
    · simp only [cond_false, Option.bind_some]
      rw [if_pos (by simp only [room, List.length_cons, List.length_nil]; omega)]
    · simp only [cond_true, Option.bind_some]
      rw [if_pos (by simp only [room, List.length_cons, List.length_nil]; omega)]
  · unfold impl_Parts_l1; simp
theorem spec_Parts_eq (a : T_Act.D) (e : T_Event.D) (hk : a.1 = 9) (hl : a.2.2.2.2.2.2.1.length ≤ 1048576) : spec_Parts a e = some (a.2.2.2.2.2.2.1.map (partV e.2.2.2.2.1)) := by
  unfold spec_Parts
  rw [append_loop a.2.2.2.2.2.2.1 (fun _ x => [partV e.2.2.2.2.1 x]) (fun s => s) (fun _ _ => by simp) (by omega) (fun t i x hI hx => ?_) (fun t => ?_)]
  · rw [collect_map]; rfl
  · have hlt := (List.getElem?_eq_some_iff.1 hx).1
    have hil : ((i : Int) < (a.2.2.2.2.2.2.1.length : Int)) := by omega
    have h9 : (a.1 == 9) = true := by rw [hk]; rfl
    unfold spec_Parts_l1 partV
    simp only [hil, decide_true, cond_true, h9, idx_at hx, spec_Upto_eq _ 2147483647 (by decide), Option.bind_some]
    cases (x.2.2.2.2.1 == -1)
    · simp only [cond_false, Option.bind_some]
      rw [if_pos (by simp only [room, List.length_cons, List.length_nil]; omega)]
    · simp only [cond_true, Option.bind_some]
      rw [if_pos (by simp only [room, List.length_cons, List.length_nil]; omega)]
  · unfold spec_Parts_l1; simp
def goneB (e : T_Event.D) : Bool := (e.2.2.2.2.1 == 0) && (e.1 != 2)
theorem impl_Gone_eq (e : T_Event.D) : impl_Gone e = some (goneB e) := by unfold impl_Gone goneB; cases (e.2.2.2.2.1 == 0) <;> rfl
theorem spec_Gone_eq (e : T_Event.D) : spec_Gone e = some (goneB e) := by unfold spec_Gone goneB; cases (e.2.2.2.2.1 == 0) <;> rfl
def keptB (e : T_Event.D) : Bool := eventOkB e && !goneB e
theorem act_drop (L : List T_Event.D) (hl : L.length ≤ 1048576) : slices_DeleteFunc_impl_Event L (fun q => impl_DoAct_1 q.1) = some (L.filter keptB, ()) := by
  rw [deleteFunc_Event L hl (fun e => !keptB e) _ (fun x => by
    unfold impl_DoAct_1 keptB
    simp only [impl_EventOk_eq, impl_Gone_eq, Option.bind_some]
    cases eventOkB x <;> cases goneB x <;> rfl)]
  simp only [Bool.not_not]
theorem act_keep (o : (List T_Event.D) × Int) (hl : o.1.length ≤ 1048576) : while_ (spec_DoAct_l1 o) ([], 0) = some (o.1.filter keptB, (o.1.length : Int)) := by
  rw [append_loop o.1 (fun _ x => if keptB x then [x] else []) (fun s => s) (fun _ x => by split <;> simp) (by omega) (fun t i x hI hx => ?_) (fun t => ?_)]
  · rw [collect_filter]
  · have hlt := (List.getElem?_eq_some_iff.1 hx).1
    have hil : ((i : Int) < (o.1.length : Int)) := by omega
    unfold spec_DoAct_l1 keptB
    simp only [hil, decide_true, cond_true, idx_at hx, Int.toNat_natCast, hx, spec_EventOk_eq, spec_Gone_eq, Option.bind_some]
    cases eventOkB x <;> cases goneB x <;> simp only [cond_true, cond_false, Option.bind_some, Bool.not_true, Bool.not_false, Bool.and_true, Bool.and_false, Bool.false_and, Bool.true_and, if_true, if_false, List.append_nil, Bool.false_eq_true]
    rw [if_pos (by simp only [room, List.length_cons, List.length_nil]; omega)]
    rfl
  · unfold spec_DoAct_l1; simp
theorem impl_copyEffect_eq (x : T_Effect.D) (hl : x.2.2.2.2.2.2.1.2.2.2.2.2.2.1.length ≤ 1048576) : impl_copyEffect x = some x := by
  unfold impl_copyEffect slices_Clone_impl_Event
  rw [if_pos (by simp only [room, List.length_nil]; omega)]
  rfl
theorem spec_copyEffect_eq (x : T_Effect.D) (hl : x.2.2.2.2.2.2.1.2.2.2.2.2.2.1.length ≤ 1048576) : spec_l10Copy x = some x := by
  unfold spec_l10Copy spec_l9Copy
  rw [if_pos (by simp only [room, List.length_nil]; omega)]
  rfl
theorem impl_WithN_eq (e : T_Event.D) (n : Int) : impl_WithN e n = some (e.1, e.2.1, e.2.2.1, e.2.2.2.1, up n 2147483647, e.2.2.2.2.2) := rfl
theorem spec_WithN_eq (e : T_Event.D) (n : Int) : spec_WithN e n = some (e.1, e.2.1, e.2.2.1, e.2.2.2.1, up n 2147483647, e.2.2.2.2.2) := by
  unfold spec_WithN; rw [spec_Upto_eq _ _ (by decide)]; rfl
theorem amount_eq (a : T_Act.D) (n : Int) : ∃ m, spec_Amount a n = some m ∧ impl_Amount a n = some m := by
  unfold spec_Amount impl_Amount spec_Twice impl_Twice spec_Half impl_Half
  simp only [spec_Upto_eq _ 2147483647 (by decide), impl_Upto_eq, spec_Plus_eq, impl_Plus_eq, spec_Bound_eq, impl_Bound_eq, Option.bind_some]
  cases (a.1 == 1) <;> cases (a.1 == 3) <;> cases (a.1 == 4) <;> cases (a.1 == 5) <;> exact ⟨_, rfl, rfl⟩
def spentV (x : T_Effect.D) (n : Int) : T_Effect.D :=
  bif x.2.2.2.2.2.2.1.1 == 2 then (x.1, x.2.1, x.2.2.1, x.2.2.2.1, x.2.2.2.2.1, x.2.2.2.2.2.1, x.2.2.2.2.2.2.1, x.2.2.2.2.2.2.2.1, up (lessV x.2.2.2.2.2.2.2.2.1 n) 2147483647, ())
  else bif decide (x.2.2.2.2.2.2.2.2.1 > 0) then (x.1, x.2.1, x.2.2.1, x.2.2.2.1, x.2.2.2.2.1, x.2.2.2.2.2.1, x.2.2.2.2.2.2.1, x.2.2.2.2.2.2.2.1, IntKind.wrap .i64 (x.2.2.2.2.2.2.2.2.1 - 1), ())
  else x
theorem impl_Spent_eq (x : T_Effect.D) (n : Int) (hl : x.2.2.2.2.2.2.1.2.2.2.2.2.2.1.length ≤ 1048576) : impl_Spent x n = some (spentV x n) := by
  unfold impl_Spent spentV
  rw [impl_copyEffect_eq x hl]
  simp only [impl_Less_eq, impl_Upto_eq, Option.bind_some]
  cases (x.2.2.2.2.2.2.1.1 == 2) <;> cases decide (x.2.2.2.2.2.2.2.2.1 > 0) <;> rfl
theorem spec_Spent_eq (x : T_Effect.D) (n : Int) (hl : x.2.2.2.2.2.2.1.2.2.2.2.2.2.1.length ≤ 1048576) : spec_Spent x n = some (spentV x n) := by
  unfold spec_Spent spentV
  rw [spec_copyEffect_eq x hl]
  simp only [spec_Less_eq, spec_Upto_eq _ 2147483647 (by decide), Option.bind_some]
  cases (x.2.2.2.2.2.2.1.1 == 2) <;> cases decide (x.2.2.2.2.2.2.2.2.1 > 0) <;> rfl
theorem effect_facts (x : T_Effect.D) (hl : x.2.2.2.2.2.2.1.2.2.2.2.2.2.1.length ≤ 1048576) (h : effectOkB x = true) :
    impl_ActOk x.2.2.2.2.2.2.1 = some true ∧ (x.2.2.2.2.2.2.1.1 = 2 → 0 ≤ x.2.2.2.2.2.2.2.2.1) ∧ x.2.2.2.2.2.2.2.2.1 ≤ 2147483647 := by
  have h' := impl_EffectOk_eq x hl
  rw [h] at h'
  obtain ⟨b1, p1, q1⟩ := patOk_eq x.2.2.2.2.1
  obtain ⟨b2, p2, q2⟩ := guardOk_eq x.2.2.2.2.2.1
  obtain ⟨b3, p3, q3⟩ := actOk_eq x.2.2.2.2.2.2.1 hl
  obtain ⟨b4, p4, q4⟩ := actFits_eq x.2.2.2.2.2.2.1 x.2.2.2.2.1.1
  unfold impl_EffectOk impl_isId impl_isPlayer at h'
  simp only [q1, q2, q3, q4, from_eq, Option.bind_some] at h'
  simp only [cond_eq_ite, some_iteG, Option.bind_some] at h'
  have h' := Option.some.inj h'
  rw [q3]
  clear p1 p2 p3 p4 q1 q2 q3 q4 hl h
  generalize x.2.2.2.2.2.2.1.1 = ak at *
  generalize x.1 = i at *
  generalize x.2.1 = ow at *
  generalize x.2.2.1 = so at *
  generalize x.2.2.2.1 = du at *
  generalize x.2.2.2.2.2.2.2.1 = co at *
  generalize x.2.2.2.2.2.2.2.2.1 = on at *
  simp at h'
  grind
theorem act6 (n p s z : Int) (bt : Bool) (L : List T_Event.D) (u : Unit) (h : impl_ActOk (6, n, p, s, z, bt, L, u) = some true) : (1 ≤ p ∧ p ≤ 99 ∧ s = -1) ∨ (p = 0 ∧ 0 ≤ s ∧ s ≤ 2) := by
  unfold impl_ActOk impl_isId impl_isPlayer at h
  simp only [from_eq, Option.bind_some, bne] at h
  simp only [Int.reduceBEq, beq_self_eq_true, cond_true, cond_false, Option.bind_some, Bool.not_true, Bool.not_false] at h
  have key : ((decide (1 ≤ p) && decide (p ≤ 99)) && (s == -1) || (p == 0) && (decide (0 ≤ s) && decide (s ≤ 2))) = true := by
    revert h
    generalize (decide (1 ≤ p) && decide (p ≤ 99)) = c1
    generalize (s == -1) = c2
    generalize (p == 0) = c3
    generalize (decide (0 ≤ s) && decide (s ≤ 2)) = c4
    generalize (n == 0) = c5
    generalize (z == 0) = c6
    generalize decide ((L.length : Int) > 0) = c7
    cases c1 <;> cases c2 <;> cases c3 <;> cases c4 <;> cases c5 <;> cases c6 <;> cases c7 <;> cases bt <;> decide
  simp at key
  omega
theorem act9 (n p s z : Int) (bt : Bool) (L : List T_Event.D) (u : Unit) (hl : L.length ≤ 1048576) (h : impl_ActOk (9, n, p, s, z, bt, L, u) = some true) : L.length ≤ 3 := by
  have hC : slices_ContainsFunc_impl_Event L (fun q => impl_ActOk_1 q.1) = some (L.any (fun e => !partOkB e)) := contains_event L hl (fun e => !partOkB e) _ (fun x => by simp only [impl_ActOk_1, impl_partOk_eq, Option.bind_some])
  unfold impl_ActOk at h
  simp only [hC, from_eq, Option.bind_some, bne] at h
  simp only [Int.reduceBEq, beq_self_eq_true, cond_true, cond_false, Option.bind_some, Bool.not_true, Bool.not_false] at h
  have key : (decide (1 ≤ (L.length : Int)) && decide ((L.length : Int) ≤ 3)) = true := by
    revert h
    generalize (decide (1 ≤ (L.length : Int)) && decide ((L.length : Int) ≤ 3)) = c1
    generalize (s == -1) = c2
    generalize (p == 0) = c3
    generalize L.any (fun e => !partOkB e) = c4
    generalize (n == 0) = c5
    generalize (z == 0) = c6
    generalize decide ((L.length : Int) > 0) = c7
    cases c1 <;> cases c2 <;> cases c3 <;> cases c4 <;> cases c5 <;> cases c6 <;> cases c7 <;> cases bt <;> decide
  simp at key
  omega
theorem fits1 (a : T_Act.D) (k : Int) (hk : a.1 = 2 ∨ a.1 = 6) (h : impl_ActFits a k = some true) : k = 1 := by
  unfold impl_ActFits impl_isKind at h
  simp only [from_eq, Option.bind_some] at h
  rcases hk with hk | hk <;> rw [hk] at h <;> revert h <;> generalize (decide (1 ≤ k) && decide (k ≤ 6)) = m <;> cases m <;> simp
theorem tot_one (e : T_Event.D) (hk : e.1 = 1) (he : eventOkB e = true) : (([e].filter keptB).map totC).sum = e.2.2.2.2.1 := by
  have hn := eventOk_most' he
  have hk2 : (e.1 != 2) = true := by rw [hk]; rfl
  unfold keptB goneB
  by_cases h0 : e.2.2.2.2.1 = 0
  · simp [List.filter, he, h0, hk2]
  · have : (e.2.2.2.2.1 == 0) = false := by rw [beq_eq_false_iff_ne]; exact h0
    simp only [List.filter, he, this, Bool.false_and, Bool.not_false, Bool.and_self, List.map_cons, List.map_nil, List.sum_cons, List.sum_nil]
    unfold totC
    rw [if_pos hk, up_self hn.1 hn.2]
    omega
theorem up_min {a b : Int} (h0 : 0 ≤ a) (h1 : 0 ≤ b) : 0 ≤ up a b ∧ up a b ≤ a ∧ up a b ≤ b := by unfold up; split <;> (try split) <;> omega
noncomputable def specActed (x : T_Effect.D) (e : T_Event.D) : Option ((List T_Event.D) × Int) := ((bif (x.2.2.2.2.2.2.1.1 == 1) then (
((bif (e.1 == 1) then (
 some e.2.2.2.2.1)
 else (
 some 0)) : Option Int).bind fun o6 =>
 some ([], o6))
 else (
((bif (x.2.2.2.2.2.2.1.1 == 2) then (
(spec_Upto e.2.2.2.2.1 x.2.2.2.2.2.2.2.2.1).bind fun y7 =>
(spec_WithN e (IntKind.wrap .i64 (e.2.2.2.2.1 - y7))).bind fun y8 =>
 if (([] : List T_Event.D).length + [y8].length) * (24 * 7) ≤ room then (
 some (([] ++ [y8]), y7)) else none)
 else (
((bif (x.2.2.2.2.2.2.1.1 == 9) then (
(spec_Parts x.2.2.2.2.2.2.1 e).bind fun y9 =>
 some y9)
 else (
(spec_l13One x.2.2.2.2.2.2.1 e).bind fun y10 =>
 if (([] : List T_Event.D).length + [y10].length) * (24 * 7) ≤ room then (
 some ([] ++ [y10])) else none)) : Option (List T_Event.D)).bind fun o11 =>
 some (o11, 0))) : Option ((List T_Event.D) × Int)).bind fun o12 =>
 some o12)) : Option ((List T_Event.D) × Int))
/-- What an act does to an event. -/
theorem acted_eq' (i ow so du : Int) (pat : T_Pat.D) (gd : T_Guard.D) (k an ap asd az : Int) (ab : Bool) (aL : List T_Event.D) (u1 : Unit) (co lf : Int) (u2 : Unit) (ek es ep ed en ez : Int) (eb : Bool) (eu : Unit) (hl : aL.length ≤ 1048576) (hok : effectOkB (i, ow, so, du, pat, gd, (k, an, ap, asd, az, ab, aL, u1), co, lf, u2) = true) (hev : eventOkB (ek, es, ep, ed, en, ez, eb, eu) = true) (hft : impl_ActFits (k, an, ap, asd, az, ab, aL, u1) ek = some true) :
    ∃ L n, impl_acted (i, ow, so, du, pat, gd, (k, an, ap, asd, az, ab, aL, u1), co, lf, u2) (ek, es, ep, ed, en, ez, eb, eu) = some (L, n, ()) ∧ specActed (i, ow, so, du, pat, gd, (k, an, ap, asd, az, ab, aL, u1), co, lf, u2) (ek, es, ep, ed, en, ez, eb, eu) = some (L, n) ∧ L.length ≤ 3 ∧ 0 ≤ n ∧ n ≤ en ∧
      (k = 1 → L = []) ∧ (k = 2 → n ≤ lf ∧ ((L.filter keptB).map totC).sum = en - n) ∧ (k = 6 → ((L.filter keptB).map totC).sum = en) := by
  obtain ⟨f1, f2, f3⟩ := effect_facts (i, ow, so, du, pat, gd, (k, an, ap, asd, az, ab, aL, u1), co, lf, u2) hl hok
  have f2 : k = 2 → 0 ≤ lf := f2
  have f3 : lf ≤ 2147483647 := f3
  have hn : 0 ≤ en ∧ en ≤ 2147483647 := eventOk_most' hev
  have rm : (([] : List T_Event.D).length + 1) * (24 * 7) ≤ room := by simp only [room, List.length_nil]; omega
  unfold impl_acted specActed
  by_cases h1 : k = 1
  · subst h1
    by_cases he : ek = 1
    · subst he
      exact ⟨[], en, rfl, rfl, by simp, hn.1, Int.le_refl _, fun _ => rfl, fun h => absurd h (by decide), fun h => absurd h (by decide)⟩
    · have he' : (ek == 1) = false := by rw [beq_eq_false_iff_ne]; exact he
      refine ⟨[], 0, by simp only [he']; rfl, by simp only [he']; rfl, by simp, Int.le_refl _, hn.1, fun _ => rfl, fun h => absurd h (by decide), fun h => absurd h (by decide)⟩
  by_cases h2 : k = 2
  · subst h2
    have hk := fits1 _ ek (.inl rfl) hft
    subst hk
    have f2 := f2 rfl
    obtain ⟨v1, v2, v3⟩ := up_min hn.1 f2
    have hw : IntKind.wrap .i64 (en - up en lf) = en - up en lf := wrap_id (by omega) (by omega)
    have hup : up (en - up en lf) 2147483647 = en - up en lf := up_self (by omega) (by omega)
    refine ⟨[(1, es, ep, ed, en - up en lf, ez, eb, eu)], up en lf, ?_, ?_, by simp, v1, v2, fun h => absurd h (by decide), fun _ => ⟨v3, ?_⟩, fun h => absurd h (by decide)⟩
    · simp only [impl_Upto_eq, impl_WithN_eq, Option.bind_some, hw, hup]; rfl
    · simp only [spec_Upto_eq _ _ f2, spec_WithN_eq, Option.bind_some, hw, hup]
      rw [if_pos (by simp only [room, List.length_cons, List.length_nil]; omega)]
      rfl
    · rw [tot_one _ rfl]
      unfold eventOkB at hev ⊢
      simp at hev ⊢
      grind
  have hend : ∀ L n, (∃ y, L = [y] ∧ n = (0 : Int) ∧ (k = 6 → (([y].filter keptB).map totC).sum = en)) → L.length ≤ 3 ∧ 0 ≤ n ∧ n ≤ en ∧ (k = 1 → L = []) ∧ (k = 2 → n ≤ lf ∧ ((L.filter keptB).map totC).sum = en - n) ∧ (k = 6 → ((L.filter keptB).map totC).sum = en) := by
    rintro L n ⟨y, rfl, rfl, hy⟩
    exact ⟨by simp, Int.le_refl _, hn.1, fun h => absurd h h1, fun h => absurd h h2, hy⟩
  by_cases h9 : k = 9
  · subst h9
    have hL := act9 an ap asd az ab aL u1 hl f1
    refine ⟨aL.map (partV en), 0, ?_, ?_, by rw [List.length_map]; exact hL, Int.le_refl _, hn.1, fun h => absurd h (by decide), fun h => absurd h (by decide), fun h => absurd h (by decide)⟩
    · rw [impl_Parts_eq _ _ rfl hl]; rfl
    · rw [spec_Parts_eq _ _ rfl hl]; rfl
  unfold spec_l13One
  have e1 := ne_beq h1
  have e2 := ne_beq h2
  have e9 := ne_beq h9
  have rm1 : ∀ y : T_Event.D, (([] : List T_Event.D).length + [y].length) * (24 * 7) ≤ room := fun y => by simp only [room, List.length_cons, List.length_nil]; omega
  simp only [e1, e2, e9, cond_false, rm1, if_true]
  by_cases h345 : k = 3 ∨ k = 4 ∨ k = 5
  · obtain ⟨m, m1, m2⟩ := amount_eq (k, an, ap, asd, az, ab, aL, u1) en
    have hd := hend [(ek, es, ep, ed, up m 2147483647, ez, eb, eu)] 0 ⟨_, rfl, rfl, fun h => by omega⟩
    refine ⟨[(ek, es, ep, ed, up m 2147483647, ez, eb, eu)], 0, ?_, ?_, hd⟩
    · rcases h345 with rfl | rfl | rfl <;> (simp only [m2, impl_WithN_eq, Option.bind_some]; rfl)
    · rcases h345 with rfl | rfl | rfl <;> (simp only [m1, spec_WithN_eq, Option.bind_some]; rfl)
  have e3 := ne_beq (show ¬ k = 3 by omega)
  have e4 := ne_beq (show ¬ k = 4 by omega)
  have e5 := ne_beq (show ¬ k = 5 by omega)
  simp only [e3, e4, e5, cond_false, Option.bind_some]
  by_cases h6 : k = 6
  · subst h6
    have hk := fits1 _ ek (.inr rfl) hft
    subst hk
    have ha := act6 an ap asd az ab aL u1 f1
    have hd := hend [(1, es, ap, asd, en, ez, eb, eu)] 0 ⟨_, rfl, rfl, fun _ => by
      rw [tot_one _ rfl]
      unfold eventOkB at hev ⊢
      simp at hev ⊢
      grind⟩
    exact ⟨_, _, rfl, rfl, hd⟩
  have e6 := ne_beq h6
  simp only [e6, cond_false]
  have hd : ∀ y : T_Event.D, _ := fun y => hend [y] 0 ⟨y, rfl, rfl, fun h => absurd h h6⟩
  cases e7 : (k == 7) with
  | true =>
    cases e72 : (az != 2) with
    | true => exact ⟨_, _, rfl, rfl, hd _⟩
    | false => exact ⟨_, _, rfl, rfl, hd _⟩
  | false =>
    simp only [cond_false]
    cases e8 : (k == 8) with
    | true =>
      simp only [spec_Upto_eq _ 99 (by decide), impl_Upto_eq, Option.bind_some]
      cases (ez == 2) with
      | true =>
        cases eb with
        | true => exact ⟨_, _, rfl, rfl, hd _⟩
        | false => exact ⟨_, _, rfl, rfl, hd _⟩
      | false => exact ⟨_, _, rfl, rfl, hd _⟩
    | false => exact ⟨_, _, rfl, rfl, hd _⟩
theorem acted_eq (x : T_Effect.D) (e : T_Event.D) (hl : x.2.2.2.2.2.2.1.2.2.2.2.2.2.1.length ≤ 1048576) (hok : effectOkB x = true) (hev : eventOkB e = true) (hft : impl_ActFits x.2.2.2.2.2.2.1 e.1 = some true) :
    ∃ L n, impl_acted x e = some (L, n, ()) ∧ specActed x e = some (L, n) ∧ L.length ≤ 3 ∧ 0 ≤ n ∧ n ≤ (e.2.2.2.2.1 : Int) ∧
      ((x.2.2.2.2.2.2.1.1 : Int) = 1 → L = []) ∧ ((x.2.2.2.2.2.2.1.1 : Int) = 2 → n ≤ (x.2.2.2.2.2.2.2.2.1 : Int) ∧ ((L.filter keptB).map totC).sum = (e.2.2.2.2.1 : Int) - n) ∧ ((x.2.2.2.2.2.2.1.1 : Int) = 6 → ((L.filter keptB).map totC).sum = (e.2.2.2.2.1 : Int)) :=
  acted_eq' x.1 x.2.1 x.2.2.1 x.2.2.2.1 x.2.2.2.2.1 x.2.2.2.2.2.1 x.2.2.2.2.2.2.1.1 x.2.2.2.2.2.2.1.2.1 x.2.2.2.2.2.2.1.2.2.1 x.2.2.2.2.2.2.1.2.2.2.1 x.2.2.2.2.2.2.1.2.2.2.2.1 x.2.2.2.2.2.2.1.2.2.2.2.2.1 x.2.2.2.2.2.2.1.2.2.2.2.2.2.1 x.2.2.2.2.2.2.1.2.2.2.2.2.2.2 x.2.2.2.2.2.2.2.1 x.2.2.2.2.2.2.2.2.1 x.2.2.2.2.2.2.2.2.2 e.1 e.2.1 e.2.2.1 e.2.2.2.1 e.2.2.2.2.1 e.2.2.2.2.2.1 e.2.2.2.2.2.2.1 e.2.2.2.2.2.2.2 hl hok hev hft
theorem doAct_eq (x : T_Effect.D) (e : T_Event.D) (hl : x.2.2.2.2.2.2.1.2.2.2.2.2.2.1.length ≤ 1048576) :
    ∃ L n y, impl_DoAct x e = some (L, n, y, ()) ∧ spec_DoAct x e = some (L, n, y, ()) ∧ (y.2.2.2.2.2.2.1.2.2.2.2.2.2.1.length ≤ 1048576 ∧ L.length ≤ 3) ∧ ∃ b, impl_ActFits x.2.2.2.2.2.2.1 e.1 = some b ∧
      (((!effectOkB x || !eventOkB e) || !b) = true → L = [e] ∧ n = 0) ∧ (((!effectOkB x || !eventOkB e) || !b) = false →
        (∀ v ∈ L, keptB v = true) ∧ 0 ≤ n ∧ n ≤ e.2.2.2.2.1 ∧ (x.2.2.2.2.2.2.1.1 = 1 → L = []) ∧ (x.2.2.2.2.2.2.1.1 = 2 → y.2.2.2.2.2.2.2.2.1 = x.2.2.2.2.2.2.2.2.1 - n ∧ (-2147483647 ≤ x.2.2.2.2.2.2.2.2.1 - n ∧ x.2.2.2.2.2.2.2.2.1 - n ≤ 2147483647) ∧ (L.map totC).sum = e.2.2.2.2.1 - n) ∧ (x.2.2.2.2.2.2.1.1 = 6 → (L.map totC).sum = e.2.2.2.2.1) ∧ e.2.2.2.2.1 ≤ 2147483647) := by
  obtain ⟨b, p4, q4⟩ := actFits_eq x.2.2.2.2.2.2.1 e.1
  unfold impl_DoAct spec_DoAct
  simp only [impl_EffectOk_eq x hl, spec_EffectOk_eq x hl, impl_EventOk_eq, spec_EventOk_eq, p4, q4, Option.bind_some]
  by_cases hb : ((!effectOkB x || !eventOkB e) || !b) = true
  · refine ⟨[e], 0, x, ?_, ?_, ⟨hl, by simp⟩, b, rfl, fun _ => ⟨rfl, rfl⟩, fun h => ?_⟩
    · revert hb; cases effectOkB x <;> cases eventOkB e <;> cases b <;> intro hb <;> first | (simp at hb; done) | (simp only [impl_copyEffect_eq x hl, cond_true, cond_false, Option.bind_some, Bool.not_true, Bool.not_false])
    · revert hb; cases effectOkB x <;> cases eventOkB e <;> cases b <;> intro hb <;> first | (simp at hb; done) | (simp only [spec_copyEffect_eq x hl, cond_true, cond_false, Option.bind_some, Bool.not_true, Bool.not_false])
    · rw [hb] at h; cases h
  · have hb' : ((!effectOkB x || !eventOkB e) || !b) = false := by simpa using hb
    rw [Bool.or_eq_false_iff, Bool.or_eq_false_iff] at hb'
    obtain ⟨⟨g1, g2⟩, g3⟩ := hb'
    have g1 : effectOkB x = true := by simpa using g1
    have g2 : eventOkB e = true := by simpa using g2
    have g3 : b = true := by simpa using g3
    subst g3
    obtain ⟨f1, f2, f3⟩ := effect_facts x hl g1
    obtain ⟨L, n, a1, a2, a3, a4, a5, a6, a7, a8⟩ := acted_eq x e hl g1 g2 q4
    have hn := eventOk_most' g2
    have hL : L.length ≤ 1048576 := by omega
    refine ⟨L.filter keptB, n, spentV x n, ?_, ?_, ⟨?_, Nat.le_trans (List.length_filter_le _ _) a3⟩, true, rfl, fun h => absurd h hb, fun _ => ⟨fun v hv => (List.mem_filter.1 hv).2, a4, a5, fun h => by rw [a6 h]; rfl, fun h => ?_, a8, hn.2⟩⟩
    · simp only [g1, g2, a1, act_drop L hL, impl_Spent_eq x n hl, cond_true, cond_false, Option.bind_some, Bool.not_true]
    · simp only [g1, g2, cond_true, cond_false, Option.bind_some, Bool.not_true]
      have a2' := a2
      unfold specActed at a2'
      rw [a2', Option.bind_some, act_keep (L, n) hL, Option.bind_some, spec_Spent_eq x n hl]
      rfl
    · unfold spentV
      cases (x.2.2.2.2.2.2.1.1 == 2) <;> cases decide (x.2.2.2.2.2.2.2.2.1 > 0) <;> exact hl
    · obtain ⟨a7, a9⟩ := a7 h
      obtain ⟨lf, hlf⟩ : ∃ lf : Int, lf = x.2.2.2.2.2.2.2.2.1 := ⟨_, rfl⟩
      have f2 : 0 ≤ lf := by rw [hlf]; exact f2 h
      have f3 : lf ≤ 2147483647 := by rw [hlf]; exact f3
      have a7 : n ≤ lf := by rw [hlf]; exact a7
      rw [← hlf]
      have h2 : (x.2.2.2.2.2.2.1.1 == 2) = true := by rw [h]; rfl
      refine ⟨?_, ⟨(by show (-2147483647 : Int) ≤ lf - n; omega), (by show lf - n ≤ (2147483647 : Int); omega)⟩, a9⟩
      unfold spentV
      rw [h2]
      simp only [cond_true]
      have : lessV lf n = lf - n := by
        unfold lessV
        rw [boundV_id (n := n) (by omega) (by omega), boundV_id (n := lf) (by omega) (by omega), wrap_id (by omega) (by omega), boundV_id (by omega) (by omega)]
      rw [← hlf, this, up_self (by omega) (by omega)]

theorem drawDoAct_ok (code : List Int) (hl : code.length ≤ 1048576) : Tot (spec_DrawDoAct code) (fun y => y.1.2.2.2.2.2.2.1.2.2.2.2.2.2.1.length ≤ 12) := by
  unfold spec_DrawDoAct
  refine Tot.bind (l1New_ok code hl) ?_
  rintro c hc
  refine Tot.bind (l5Draw_ok _ hc) ?_
  rintro y2 ⟨h2, _⟩
  refine Tot.bind (l10Any_ok _ _ h2) ?_
  rintro y3 ⟨h3, e3⟩
  refine Tot.bind (l6Any_ok _ _ h3) ?_
  rintro y4 ⟨h4, _⟩
  refine Tot.bind (P := fun _ => True) (Tot.while (fun s => curOk s.2.1 ∧ 0 ≤ s.1 ∧ s.1 ≤ 5) (fun s => 5 - s.1.toNat) ?_ ⟨h4, by simp only; omega⟩) ?_
  · rintro ⟨i, cc, ev⟩ ⟨g1, g3, g4⟩
    simp only at g1 g3 g4
    unfold spec_DrawDoAct_l1
    simp only
    refine Tot.bind (P := fun o => o = true → i < (5 : Int)) (Tot.bif (fun hl => Tot.pure (fun _ => of_decide_eq_true hl)) (fun _ => Tot.pure (fun h => by cases h))) ?_
    rintro o8 h8
    refine Tot.bif (fun hb => ?_) (fun _ => Tot.pure trivial)
    have hl := h8 hb
    refine Tot.bind (l6Draw_ok _ _ g1) ?_
    rintro y9 ⟨h9, _⟩
    refine Tot.pure ⟨⟨h9, ?_, ?_⟩, ?_⟩ <;> simp only <;> rw [wrap_id (by omega) (by omega)] <;> omega
  rintro o10 _
  exact Tot.pure e3
theorem drawGone_ok (code : List Int) (hl : code.length ≤ 1048576) : Tot (spec_DrawGone code) (fun _ => True) := by
  unfold spec_DrawGone
  refine Tot.bind (l1New_ok code hl) ?_
  rintro c hc
  refine Tot.bind (l5Draw_ok _ hc) ?_
  rintro y2 ⟨h2, _⟩
  refine Tot.bind (l6Any_ok _ _ h2) ?_
  rintro y3 _
  exact Tot.pure trivial
theorem same_self {L : List T_Event.D} (hl : L.length ≤ 1048576) : laws_sameEvents L L = some true := by
  rw [show laws_sameEvents L L = some (eqD (.slice T_Event) L L) from eq_lists (t := T_Event) rfl L L (e := eqD T_Event) (fun _ _ => rfl) (by omega) (fun i => rfl), eqD_refl (t := .slice T_Event) rfl]
theorem effect_self (y : T_Effect.D) (hl : y.2.2.2.2.2.2.1.2.2.2.2.2.2.1.length ≤ 1048576) : impl_SameEffect y y = some true := by
  have h : slices_Equal_impl_Event y.2.2.2.2.2.2.1.2.2.2.2.2.2.1 y.2.2.2.2.2.2.1.2.2.2.2.2.2.1 = some true := by
    rw [show slices_Equal_impl_Event _ _ = some (eqD (.slice T_Event) _ _) from eq_lists (t := T_Event) rfl _ _ (e := eqD T_Event) (fun _ _ => rfl) (by omega) (fun i => rfl), eqD_refl (t := .slice T_Event) rfl]
  unfold impl_SameEffect impl_sameAct
  simp only [beq_self_eq_true, cond_true, Bool.and_self, h, Option.bind_some]
theorem law_FnActed (code : List Int) (w : code.length ≤ maxLen) : laws_FnActed code = some true := by
  unfold laws_FnActed laws_big
  by_cases hb : (code.length : Int) > 1048576
  · rw [decide_eq_true hb]; rfl
  · have hl : code.length ≤ 1048576 := by omega
    obtain ⟨p, hp, hx⟩ := drawDoAct_ok code hl
    obtain ⟨x, e, u⟩ := p
    simp only at hx
    obtain ⟨g, hg, _⟩ := drawGone_ok code hl
    have hxl : x.2.2.2.2.2.2.1.2.2.2.2.2.2.1.length ≤ 1048576 := by omega
    obtain ⟨L, n, y, a1, a2, ⟨a3, a4⟩, b, a5, a6, a7⟩ := doAct_eq x e hxl
    have hL : L.length ≤ 1048576 := by omega
    rw [decide_eq_false hb]
    simp only [hp, a1, a2, hg, same_self hL, effect_self y a3, impl_Gone_eq, spec_Gone_eq, Option.bind_some, bne_self_eq_false, Bool.not_true, cond_false, impl_EffectOk_eq x hxl, impl_EventOk_eq, a5]
    by_cases hbad : ((!effectOkB x || !eventOkB e) || !b) = true
    · obtain ⟨r1, r2⟩ := a6 hbad
      subst r1 r2
      have ho : ((bif !effectOkB x then some true else bif !eventOkB e then some true else some (!b)) : Option Bool) = some true := by
        revert hbad; cases effectOkB x <;> cases eventOkB e <;> cases b <;> simp
      rw [ho]
      have i0 : ∀ (κ : T_Event.D → Option Bool), idx [e] 0 κ = κ e := fun κ => idx_at (i := 0) rfl
      simp only [Option.bind_some, cond_true, i0]
      simp
    · have hbad : ((!effectOkB x || !eventOkB e) || !b) = false := by simpa using hbad
      obtain ⟨c1, c2, c3, c4, c5, c6, c7⟩ := a7 hbad
      have ho : ((bif !effectOkB x then some true else bif !eventOkB e then some true else some (!b)) : Option Bool) = some false := by
        revert hbad; cases effectOkB x <;> cases eventOkB e <;> cases b <;> simp
      rw [ho]
      have lp : while_ (laws_FnActed_l1 (L, n, y, ())) 0 = some (.inl (L.length : Int)) := by
        rw [any_loop L (fun _ _ => false) false (by omega) (fun i v hv => ?_) ?_]
        · have : ∀ (xs : List T_Event.D) (i : Nat), anyI (fun _ _ => false) i xs = false := by
            intro xs
            induction xs with
            | nil => intro i; rfl
            | cons x xs ih => intro i; exact ih (i + 1)
          rw [this]; rfl
        · unfold laws_FnActed_l1
          simp only [Int.lt_irrefl, decide_false, cond_false]
        · have hlt := (List.getElem?_eq_some_iff.1 hv).1
          have hil : ((i : Int) < (L.length : Int)) := by omega
          have hk := c1 v (List.mem_of_getElem? hv)
          unfold keptB at hk
          rw [Bool.and_eq_true] at hk
          have hk2 : goneB v = false := by simpa using hk.2
          unfold laws_FnActed_l1
          simp only [hil, decide_true, cond_true, idx_at hv, Int.toNat_natCast, hv, Option.bind_some, impl_EventOk_eq, impl_Gone_eq, hk.1, hk2, Bool.not_true, cond_false]
      obtain ⟨m, hm⟩ : ∃ m : Int, m = e.2.2.2.2.1 := ⟨_, rfl⟩
      rw [← hm] at c3 c5 c6 c7
      have d1 : decide ((L.length : Int) ≤ 3) = true := decide_eq_true (by omega)
      have d2 : decide (n ≥ 0) = true := decide_eq_true c2
      have d3 : decide (n ≤ m) = true := decide_eq_true c3
      have c7 : m ≤ 2147483647 := c7
      have hw : IntKind.wrap .i64 (m - n) = m - n := wrap_id (by omega) (by omega)
      simp only [Option.bind_some, cond_false, lp, impl_Total_eq L hL, d1, d2, d3, cond_true, ← hm, hw]
      by_cases h2 : x.2.2.2.2.2.2.1.1 = 2
      · obtain ⟨q1, q2, q3⟩ := c5 h2
        have hw2 : IntKind.wrap .i64 (x.2.2.2.2.2.2.2.2.1 - n) = x.2.2.2.2.2.2.2.2.1 - n := wrap_id (Int.le_trans (by decide) q2.1) (Int.le_trans q2.2 (by decide))
        have e2 : (x.2.2.2.2.2.2.1.1 == 2) = true := by rw [h2]; rfl
        have e6 : (x.2.2.2.2.2.2.1.1 != 6) = true := by rw [h2]; rfl
        have e1 : (x.2.2.2.2.2.2.1.1 != 1) = true := by rw [h2]; rfl
        simp only [e2, e6, e1, cond_true, q1, hw2, bne_self_eq_false, cond_false, q3, Option.bind_some]
      · have e2 : (x.2.2.2.2.2.2.1.1 == 2) = false := ne_beq h2
        simp only [e2, cond_false, Option.bind_some]
        by_cases h6 : x.2.2.2.2.2.2.1.1 = 6
        · have e6 : (x.2.2.2.2.2.2.1.1 != 6) = false := by rw [h6]; rfl
          have e1 : (x.2.2.2.2.2.2.1.1 != 1) = true := by rw [h6]; rfl
          simp only [e6, e1, cond_false, cond_true, c6 h6, beq_self_eq_true]
        · have e6 : (x.2.2.2.2.2.2.1.1 != 6) = true := by unfold bne; rw [ne_beq h6]; rfl
          simp only [e6, cond_true]
          by_cases h1 : x.2.2.2.2.2.2.1.1 = 1
          · rw [c4 h1]
            have e1 : (x.2.2.2.2.2.2.1.1 != 1) = false := by rw [h1]; rfl
            simp only [e1, cond_false]
            rfl
          · have e1 : (x.2.2.2.2.2.2.1.1 != 1) = true := by unfold bne; rw [ne_beq h1]; rfl
            simp only [e1, cond_true]

end Go.Abs
