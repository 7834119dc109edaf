import Derived.Test.YtgccfenlidjfkaaGenI
import Derived.Test.YtgccfenlidjfkaaAbsDraw
set_option linter.unusedVariables false
set_option linter.unusedSimpArgs false
namespace Go.Abs
/-! ### Pieces found -/
def pieceAt (s : T_State.D) (a : Int) : Int := match findL (fun (x : T_Piece.D) => x.1 == a) s.1 with | some k => (k : Int) | none => -1
theorem pieceAt_cases (s : T_State.D) (a : Int) : pieceAt s a = -1 ∨ ∃ (k : Nat) (x : T_Piece.D), pieceAt s a = k ∧ s.1[k]? = some x ∧ x.1 = a := by
  unfold pieceAt
  obtain ⟨h1, h2⟩ := findL_spec (fun (x : T_Piece.D) => x.1 == a) s.1
  cases hf : findL (fun (x : T_Piece.D) => x.1 == a) s.1 with
  | none => exact .inl rfl
  | some k =>
    obtain ⟨x, g1, g2, _⟩ := h2 k hf
    exact .inr ⟨k, x, rfl, g1, by simpa using g2⟩
theorem spec_PieceAt_eq (s : T_State.D) (a : Int) (h : s.1.length ≤ 1048576) : spec_PieceAt s a = some (pieceAt s a) := by
  unfold spec_PieceAt pieceAt
  rw [index_loop s.1 (body := spec_PieceAt_l1 s a) (fun (x : T_Piece.D) => x.1 == a) (fun i => i) (by omega) (fun i x hx => ?_) ?_]
  · cases findL (fun (x : T_Piece.D) => x.1 == a) s.1 <;> rfl
  · unfold spec_PieceAt_l1
    simp
  · unfold spec_PieceAt_l1
    have hlt := (List.getElem?_eq_some_iff.1 hx).1
    have : ((i : Int) < (s.1.length : Int)) := by omega
    simp only [this, decide_true, cond_true, idx_at hx]
theorem index_piece (xs : List T_Piece.D) (hl : xs.length ≤ 1048576) (p : T_Piece.D → Bool) (q : (T_Piece.D × Unit) → Option Bool) (hq : ∀ x, q (x, ()) = some (p x)) :
    slices_IndexFunc_impl_Piece xs q = some (match findL p xs with | some k => (k : Int) | none => -1) := by
  unfold slices_IndexFunc_impl_Piece
  rw [index_loop xs (body := slices_IndexFunc_impl_Piece_l1 xs q) p (fun i => i) (by omega) (fun i x hx => ?_) ?_]
  · cases findL p xs <;> rfl
  · unfold slices_IndexFunc_impl_Piece_l1
    simp
  · unfold slices_IndexFunc_impl_Piece_l1
    have hlt := (List.getElem?_eq_some_iff.1 hx).1
    have : ((i : Int) < (xs.length : Int)) := by omega
    simp only [this, decide_true, cond_true, idx_at hx, hq, Option.bind_some]
theorem impl_PieceAt_eq (s : T_State.D) (a : Int) (h : s.1.length ≤ 1048576) : impl_PieceAt s a = some (pieceAt s a) := by
  unfold impl_PieceAt pieceAt
  rw [index_piece s.1 h (fun (x : T_Piece.D) => x.1 == a) _ (fun x => rfl)]
  rfl


/-! ### Numbers -/
theorem l1In_eq (a b c : Int) : spec_l1In a b c = some (decide (b ≤ a) && decide (a ≤ c)) := by
  unfold spec_l1In
  have : decide (a ≥ b) = decide (b ≤ a) := rfl
  simp only [this]
  cases decide (b ≤ a) <;> rfl
theorem from_eq (a b c : Int) : impl_from a b c = some (decide (b ≤ a) && decide (a ≤ c)) := by
  unfold impl_from
  have : decide (a ≥ b) = decide (b ≤ a) := rfl
  simp only [this]
  cases decide (b ≤ a) <;> rfl
def boundV (n : Int) : Int := if n > 2147483647 then 2147483647 else if n < -2147483647 then -2147483647 else n
theorem spec_Bound_eq (n : Int) : spec_Bound n = some (boundV n) := by
  unfold spec_Bound boundV
  simp only [cond_eq_ite, decide_eq_true_eq]
  split <;> (try split) <;> rfl
theorem impl_Bound_eq (n : Int) : impl_Bound n = some (boundV n) := by
  unfold impl_Bound boundV
  congr 1
  split <;> split <;> (try split) <;> (try split) <;> omega
def plusV (a b : Int) : Int := boundV (IntKind.wrap .i64 (boundV a + boundV b))
def lessV (a b : Int) : Int := boundV (IntKind.wrap .i64 (boundV a - boundV b))
theorem some_ite {c : Prop} [Decidable c] (a b : Bool) : (if c then some a else some b) = some (if c then a else b) := by split <;> rfl


/-! ### Pieces and states that are right -/
def pieceOkB (p : T_Piece.D) : Bool :=
  decide (1 ≤ p.1) && decide (p.1 ≤ 99) && decide (0 ≤ p.2.1) && decide (p.2.1 ≤ 2) && decide (0 ≤ p.2.2.1) && decide (p.2.2.1 ≤ 2) && decide (1 ≤ p.2.2.2.1) && decide (p.2.2.2.1 ≤ 4) && decide (0 ≤ p.2.2.2.2.1) && decide (p.2.2.2.2.1 ≤ 9999) &&
  decide (0 ≤ p.2.2.2.2.2.1) && decide (p.2.2.2.2.2.1 ≤ 999) && decide (0 ≤ p.2.2.2.2.2.2.1) && decide (p.2.2.2.2.2.2.1 ≤ 999) && decide (0 ≤ p.2.2.2.2.2.2.2.1) && decide (p.2.2.2.2.2.2.2.1 ≤ 63) && (
    if p.2.2.2.1 = 2 then decide (0 ≤ p.2.2.2.2.2.2.2.2.1) && decide (p.2.2.2.2.2.2.2.2.1 ≤ 2147483647) && decide (0 ≤ p.2.2.2.2.2.2.2.2.2.1) && decide (p.2.2.2.2.2.2.2.2.2.1 ≤ 2147483647) && decide (0 ≤ p.2.2.2.2.2.2.2.2.2.2.1) && decide (p.2.2.2.2.2.2.2.2.2.2.1 ≤ 2147483647)
    else (p.2.2.1 == p.2.1) && (p.2.2.2.2.2.2.2.2.1 == 0) && (p.2.2.2.2.2.2.2.2.2.1 == 0) && (p.2.2.2.2.2.2.2.2.2.2.1 == 0) && !p.2.2.2.2.2.2.2.2.2.2.2.1 && !p.2.2.2.2.2.2.2.2.2.2.2.2.1)
theorem spec_PieceOk_eq (p : T_Piece.D) : spec_PieceOk p = some (pieceOkB p) := by
  obtain ⟨i, o, sd, z, t, pw, tg, tr, pl, mi, mk, dl, bt, u⟩ := p
  unfold spec_PieceOk pieceOkB
  simp only [l1In_eq, Option.bind_some, cond_eq_ite, some_ite]
  congr 1
  rw [Bool.eq_iff_iff]
  by_cases h1 : z = 2
  · subst h1; simp; grind
  · simp [h1]; grind
theorem impl_PieceOk_eq (p : T_Piece.D) : impl_PieceOk p = some (pieceOkB p) := by
  obtain ⟨i, o, sd, z, t, pw, tg, tr, pl, mi, mk, dl, bt, u⟩ := p
  unfold impl_PieceOk pieceOkB impl_isId impl_isPlayer impl_isZone impl_isTime impl_isTraits impl_isAmount
  simp only [from_eq, Option.bind_some, cond_eq_ite, some_ite, bne]
  congr 1
  rw [Bool.eq_iff_iff]
  by_cases h1 : z = 2
  · subst h1; simp; grind
  · simp [h1]; grind
def sideOkB (x : T_Side.D) : Bool := decide (-2147483647 ≤ x.1) && decide (x.1 ≤ 2147483647) && (decide (0 ≤ x.2.1) && decide (x.2.1 ≤ 2147483647))
theorem spec_l5Side_eq (x : T_Side.D) : spec_l5Side x = some (sideOkB x) := by
  unfold spec_l5Side sideOkB
  simp only [l1In_eq, Option.bind_some]
  cases (decide (-2147483647 ≤ x.1) && decide (x.1 ≤ 2147483647)) <;> rfl
theorem impl_StateOk_1_eq (x : T_Side.D) : impl_StateOk_1 x = some (!sideOkB x) := by
  unfold impl_StateOk_1 sideOkB impl_isAmount
  simp only [impl_Bound_eq, from_eq, Option.bind_some]
  have : (boundV x.1 != x.1) = !(decide (-2147483647 ≤ x.1) && decide (x.1 ≤ 2147483647)) := by
    rw [Bool.eq_iff_iff]; unfold boundV; simp; grind
  rw [this]
  cases (decide (-2147483647 ≤ x.1) && decide (x.1 ≤ 2147483647)) <;> rfl

def anyI {α : Type} (p : Nat → α → Bool) : Nat → List α → Bool
  | _, [] => false
  | i, x :: r => p i x || anyI p (i + 1) r
theorem anyI_false {α : Type} (p : Nat → α → Bool) : ∀ (xs : List α) (k : Nat), anyI p k xs = false → ∀ (i : Nat) x, xs[i]? = some x → p (k + i) x = false
  | [], _, _, i, x, hx => by simp at hx
  | y :: xs, k, h, 0, x, hx => by
    simp only [anyI, Bool.or_eq_false_iff] at h
    simp at hx
    subst hx
    exact h.1
  | y :: xs, k, h, i + 1, x, hx => by
    simp only [anyI, Bool.or_eq_false_iff] at h
    have := anyI_false p xs (k + 1) h.2 i x (by simpa using hx)
    rwa [show k + (i + 1) = k + 1 + i by omega]
theorem any_loop {α β : Type} (xs : List α) {body : Int → Option (Int ⊕ (Int ⊕ β))} (p : Nat → α → Bool) (v : β) (hlen : xs.length ≤ 9223372036854775806)
    (hb : ∀ (i : Nat) x, xs[i]? = some x → body i = bif p i x then some (.inr (.inr v)) else some (.inl (IntKind.wrap .i64 ((i : Int) + 1))))
    (he : body xs.length = some (.inr (.inl xs.length))) :
    while_ body 0 = some (bif anyI p 0 xs then .inr v else .inl xs.length) := by
  have main : ∀ (r : List α) (k : Nat), xs.drop k = r → k ≤ xs.length → while_ body k = some (bif anyI p k r then .inr v else .inl xs.length) := by
    intro r
    induction r with
    | nil =>
      intro k h hk
      have : k = xs.length := by
        have := congrArg List.length h
        simp at this
        omega
      subst this
      exact while_done he
    | cons x r ih =>
      intro k h hk
      have hlt : k < xs.length := by
        have := congrArg List.length h
        simp at this
        omega
      have hx : xs[k]? = some x := by
        have := congrArg (fun l => l[0]?) h
        simpa using this
      have hr : xs.drop (k + 1) = r := by
        have := congrArg List.tail h
        simpa using this
      unfold anyI
      cases hp : p k x with
      | true =>
        refine while_done ?_
        rw [hb k x hx, hp]
        rfl
      | false =>
        refine while_step (s' := ((k + 1 : Nat) : Int)) ?_ (ih (k + 1) hr hlt)
        rw [hb k x hx, hp]
        simp only [cond_false]
        rw [wrap_id (by omega) (by omega)]
        rfl
  have := main xs 0 rfl (by omega)
  simpa using this

def badPiece (s : T_State.D) (i : Nat) (x : T_Piece.D) : Bool :=
  !pieceOkB x || decide (x.2.1 ≥ (s.2.1.length : Int)) || decide (x.2.2.1 ≥ (s.2.1.length : Int)) || decide (x.2.2.2.2.1 > s.2.2.2.1) || (decide (0 < i) && (s.1[i - 1]?).any (fun y => decide (y.1 ≥ x.1)))
def stateOkB (s : T_State.D) : Bool :=
  decide ((s.1.length : Int) ≤ 8) && (decide (2 ≤ (s.2.1.length : Int)) && decide ((s.2.1.length : Int) ≤ 3)) && (decide (0 ≤ s.2.2.1) && decide (s.2.2.1 ≤ (s.2.1.length : Int) - 1)) && (decide (0 ≤ s.2.2.2.1) && decide (s.2.2.2.1 ≤ 9999)) && !anyI (badPiece s) 0 s.1 && !s.2.1.any (fun x => !sideOkB x)
theorem prev_piece {s : T_State.D} {i : Nat} {x : T_Piece.D} (hx : s.1[i]? = some x) (hl : s.1.length ≤ 1048576) {R : Type} (κ : T_Piece.D → Option R) (h : 0 < i) : ∃ y, s.1[i - 1]? = some y ∧ idx s.1 (IntKind.wrap .i64 ((i : Int) - 1)) κ = κ y := by
  have hlt := (List.getElem?_eq_some_iff.1 hx).1
  have hy : s.1[i - 1]? = some (s.1[i - 1]'(by omega)) := List.getElem?_eq_getElem (by omega)
  refine ⟨_, hy, ?_⟩
  rw [wrap_id (by omega) (by omega), show ((i : Int) - 1) = ((i - 1 : Nat) : Int) by omega]
  exact idx_at hy
theorem any_any {α : Type} (p : α → Bool) : ∀ (xs : List α) (k : Nat), anyI (fun _ x => p x) k xs = xs.any p
  | [], _ => rfl
  | x :: xs, k => by simp [anyI, any_any p xs]
theorem pieceOk_sides {x : T_Piece.D} (h : pieceOkB x = true) : 0 ≤ x.2.1 ∧ 0 ≤ x.2.2.1 := by
  unfold pieceOkB at h
  simp only [Bool.and_eq_true, decide_eq_true_eq] at h
  exact ⟨h.1.1.1.1.1.1.1.1.1.1.1.1.1.1.2, h.1.1.1.1.1.1.1.1.1.1.1.1.2⟩
theorem in_side {a n : Int} (h : 0 ≤ a) : (decide (0 ≤ a) && decide (a ≤ n - 1)) = !decide (a ≥ n) := by
  by_cases hh : a ≥ n
  · rw [decide_eq_true hh, decide_eq_false (p := a ≤ n - 1) (by omega), Bool.and_false]; rfl
  · rw [decide_eq_false hh, decide_eq_true (p := a ≤ n - 1) (by omega), decide_eq_true h]; rfl
theorem index_side (xs : List T_Side.D) (hl : xs.length ≤ 1048576) (p : T_Side.D → Bool) (q : (T_Side.D × Unit) → Option Bool) (hq : ∀ x, q (x, ()) = some (p x)) :
    slices_IndexFunc_impl_Side xs q = some (match findL p xs with | some k => (k : Int) | none => -1) := by
  unfold slices_IndexFunc_impl_Side
  rw [index_loop xs (body := slices_IndexFunc_impl_Side_l1 xs q) p (fun i => i) (by omega) (fun i x hx => ?_) ?_]
  · cases findL p xs <;> rfl
  · unfold slices_IndexFunc_impl_Side_l1
    simp
  · unfold slices_IndexFunc_impl_Side_l1
    have hlt := (List.getElem?_eq_some_iff.1 hx).1
    have : ((i : Int) < (xs.length : Int)) := by omega
    simp only [this, decide_true, cond_true, idx_at hx, hq, Option.bind_some]
theorem findL_any {α : Type} (p : α → Bool) (xs : List α) : decide ((match findL p xs with | some k => (k : Int) | none => -1) ≥ 0) = xs.any p := by
  obtain ⟨h1, h2⟩ := findL_spec p xs
  cases hf : findL p xs with
  | none =>
    have : xs.any p = false := by rw [List.any_eq_false]; exact fun x hx => by simp [h1 hf x hx]
    rw [this]; rfl
  | some k =>
    obtain ⟨x, g1, g2, _⟩ := h2 k hf
    have : xs.any p = true := by rw [List.any_eq_true]; exact ⟨x, List.mem_of_getElem? g1, g2⟩
    rw [this]
    simp
theorem spec_StateOk_eq (s : T_State.D) (hp : s.1.length ≤ 1048576) (hs : s.2.1.length ≤ 1048576) : spec_StateOk s = some (stateOkB s) := by
  unfold spec_StateOk stateOkB
  simp only [l1In_eq, Option.bind_some]
  rw [wrap_id (by omega) (by omega)]
  have hd : decide ((s.1.length : Int) > 8) = !decide ((s.1.length : Int) ≤ 8) := by rw [Bool.eq_iff_iff]; simp
  rw [hd]
  cases decide ((s.1.length : Int) ≤ 8)
  · rfl
  cases (decide (2 ≤ (s.2.1.length : Int)) && decide ((s.2.1.length : Int) ≤ 3))
  · rfl
  cases (decide (0 ≤ s.2.2.1) && decide (s.2.2.1 ≤ (s.2.1.length : Int) - 1))
  · rfl
  cases (decide (0 ≤ s.2.2.2.1) && decide (s.2.2.2.1 ≤ 9999))
  · rfl
  simp only [Bool.not_true, cond_false, Option.bind_some, Bool.true_and]
  rw [any_loop s.1 (body := spec_StateOk_l1 s) (badPiece s) false (by omega) (fun i x hx => ?_) (by unfold spec_StateOk_l1; simp)]
  · rw [any_loop s.2.1 (body := spec_StateOk_l2 s) (fun _ x => !sideOkB x) false (by omega) (fun i x hx => ?_) (by unfold spec_StateOk_l2; simp), any_any]
    · cases anyI (badPiece s) 0 s.1 <;> cases s.2.1.any (fun x => !sideOkB x) <;> rfl
    · have hlt := (List.getElem?_eq_some_iff.1 hx).1
      have hil : ((i : Int) < (s.2.1.length : Int)) := by omega
      unfold spec_StateOk_l2
      simp only [hil, decide_true, cond_true, idx_at hx, spec_l5Side_eq, Option.bind_some]
  · have hlt := (List.getElem?_eq_some_iff.1 hx).1
    have hil : ((i : Int) < (s.1.length : Int)) := by omega
    unfold spec_StateOk_l1 badPiece
    simp only [hil, decide_true, cond_true, idx_at hx, spec_PieceOk_eq, Option.bind_some]
    by_cases hi : 0 < i
    · obtain ⟨y, hy, hk⟩ := prev_piece hx hp (fun x8 => bif decide (x8.1 ≥ x.1) then some true else bif decide (x.2.1 ≥ (s.2.1.length : Int)) then some true else bif decide (x.2.2.1 ≥ (s.2.1.length : Int)) then some true else some (decide (x.2.2.2.2.1 > s.2.2.2.1))) hi
      have h1 : decide ((i : Int) > 0) = true := by simp; omega
      have h2 : decide (0 < i) = true := by simpa using hi
      rw [h1, h2, hy]
      simp only [cond_true, hk, Option.any_some]
      cases pieceOkB x <;> cases decide (y.1 ≥ x.1) <;> cases decide (x.2.1 ≥ (s.2.1.length : Int)) <;> cases decide (x.2.2.1 ≥ (s.2.1.length : Int)) <;> cases decide (x.2.2.2.2.1 > s.2.2.2.1) <;> rfl
    · have h1 : decide ((i : Int) > 0) = false := by simp; omega
      have h2 : decide (0 < i) = false := by simpa using hi
      rw [h1, h2]
      simp only [cond_false]
      cases pieceOkB x <;> cases decide (x.2.1 ≥ (s.2.1.length : Int)) <;> cases decide (x.2.2.1 ≥ (s.2.1.length : Int)) <;> cases decide (x.2.2.2.2.1 > s.2.2.2.1) <;> rfl
theorem impl_StateOk_eq (s : T_State.D) (hp : s.1.length ≤ 1048576) (hs : s.2.1.length ≤ 1048576) : impl_StateOk s = some (stateOkB s) := by
  unfold impl_StateOk stateOkB impl_isSide impl_isTime
  simp only [from_eq, Option.bind_some]
  rw [wrap_id (by omega) (by omega)]
  have hd : decide ((s.1.length : Int) > 8) = !decide ((s.1.length : Int) ≤ 8) := by rw [Bool.eq_iff_iff]; simp
  rw [hd]
  cases decide ((s.1.length : Int) ≤ 8)
  · rfl
  cases (decide (2 ≤ (s.2.1.length : Int)) && decide ((s.2.1.length : Int) ≤ 3))
  · rfl
  cases (decide (0 ≤ s.2.2.1) && decide (s.2.2.1 ≤ (s.2.1.length : Int) - 1))
  · rfl
  cases (decide (0 ≤ s.2.2.2.1) && decide (s.2.2.2.1 ≤ 9999))
  · rfl
  simp only [Bool.not_true, cond_false, Option.bind_some, Bool.true_and]
  have hc : slices_ContainsFunc_impl_Side s.2.1 (fun q => impl_StateOk_1 q.1) = some (s.2.1.any (fun x => !sideOkB x)) := by
    unfold slices_ContainsFunc_impl_Side
    rw [index_side s.2.1 hs (fun x => !sideOkB x) _ (fun x => impl_StateOk_1_eq x), Option.bind_some, findL_any]
  rw [any_loop s.1 (body := impl_StateOk_l1 s) (badPiece s) false (by omega) (fun i x hx => ?_) (by unfold impl_StateOk_l1; simp)]
  · rw [hc]
    cases anyI (badPiece s) 0 s.1 <;> cases s.2.1.any (fun x => !sideOkB x) <;> rfl
  · have hlt := (List.getElem?_eq_some_iff.1 hx).1
    have hil : ((i : Int) < (s.1.length : Int)) := by omega
    unfold impl_StateOk_l1 badPiece impl_isSide
    simp only [hil, decide_true, cond_true, idx_at hx, impl_PieceOk_eq, from_eq, Option.bind_some]
    rw [wrap_id (n := (s.2.1.length : Int) - 1) (by omega) (by omega)]
    cases hok : pieceOkB x
    · rfl
    obtain ⟨g1, g2⟩ := pieceOk_sides hok
    have e1 : (decide (0 ≤ x.2.1) && decide (x.2.1 ≤ (s.2.1.length : Int) - 1)) = !decide (x.2.1 ≥ (s.2.1.length : Int)) := in_side g1
    have e2 : (decide (0 ≤ x.2.2.1) && decide (x.2.2.1 ≤ (s.2.1.length : Int) - 1)) = !decide (x.2.2.1 ≥ (s.2.1.length : Int)) := in_side g2
    rw [e1, e2]
    by_cases hi : 0 < i
    · obtain ⟨y, hy, hk⟩ := prev_piece hx hp (fun x10 => some (decide (x10.1 ≥ x.1))) hi
      have h1 : decide ((i : Int) > 0) = true := by simp; omega
      have h2 : decide (0 < i) = true := by simpa using hi
      rw [h1, h2, hy]
      simp only [cond_true, hk, Option.any_some]
      cases decide (y.1 ≥ x.1) <;> cases decide (x.2.1 ≥ (s.2.1.length : Int)) <;> cases decide (x.2.2.1 ≥ (s.2.1.length : Int)) <;> cases decide (x.2.2.2.2.1 > s.2.2.2.1) <;> rfl
    · have h1 : decide ((i : Int) > 0) = false := by simp; omega
      have h2 : decide (0 < i) = false := by simpa using hi
      rw [h1, h2]
      simp only [cond_false]
      cases decide (x.2.1 ≥ (s.2.1.length : Int)) <;> cases decide (x.2.2.1 ≥ (s.2.1.length : Int)) <;> cases decide (x.2.2.2.2.1 > s.2.2.2.1) <;> rfl

/-! ### Events that are right -/
def eventOkB (e : T_Event.D) : Bool :=
  let piece := decide (1 ≤ e.2.2.1) && decide (e.2.2.1 ≤ 99) && (e.2.2.2.1 == -1)
  let side := (e.2.2.1 == 0) && decide (0 ≤ e.2.2.2.1) && decide (e.2.2.2.1 ≤ 2)
  decide (0 ≤ e.2.2.2.2.1) && decide (e.2.2.2.2.1 ≤ 2147483647) && (
    if e.1 = 1 then decide (1 ≤ e.2.1) && decide (e.2.1 ≤ 99) && (piece || side) && (e.2.2.2.2.2.1 == 0) && !e.2.2.2.2.2.2.1
    else if e.1 = 2 then (e.2.1 == 0) && piece && decide (1 ≤ e.2.2.2.2.2.1) && decide (e.2.2.2.2.2.1 ≤ 4) && decide (e.2.2.2.2.1 ≤ 99) && ((e.2.2.2.2.2.1 == 2) || (e.2.2.2.2.1 == 0) && !e.2.2.2.2.2.2.1)
    else if e.1 = 3 ∨ e.1 = 4 then (e.2.1 == 0) && side && (e.2.2.2.2.2.1 == 0) && !e.2.2.2.2.2.2.1
    else if e.1 = 5 ∨ e.1 = 6 then (e.2.1 == 0) && piece && (e.2.2.2.2.2.1 == 0) && !e.2.2.2.2.2.2.1
    else false)

theorem spec_EventOk_eq (e : T_Event.D) : spec_EventOk e = some (eventOkB e) := by
  obtain ⟨k, s, p, d, n, z, bt, u⟩ := e
  unfold spec_EventOk eventOkB
  simp only [l1In_eq, Option.bind_some, cond_eq_ite, some_ite]
  congr 1
  rw [Bool.eq_iff_iff]
  by_cases h1 : k = 1
  · subst h1; simp; grind
  by_cases h2 : k = 2
  · subst h2; simp; grind
  by_cases h3 : k = 3
  · subst h3; simp; grind
  by_cases h4 : k = 4
  · subst h4; simp; grind
  by_cases h5 : k = 5
  · subst h5; simp; grind
  by_cases h6 : k = 6
  · subst h6; simp; grind
  simp [h1, h2, h3, h4, h5, h6]
theorem impl_EventOk_eq (e : T_Event.D) : impl_EventOk e = some (eventOkB e) := by
  obtain ⟨k, s, p, d, n, z, bt, u⟩ := e
  unfold impl_EventOk eventOkB impl_isAmount impl_onPiece impl_onPlayer impl_isId impl_isZone impl_isPlayer
  simp only [from_eq, Option.bind_some, cond_eq_ite, some_ite, bne]
  congr 1
  rw [Bool.eq_iff_iff]
  by_cases h1 : k = 1
  · subst h1; simp; grind
  by_cases h2 : k = 2
  · subst h2; simp; grind
  by_cases h3 : k = 3
  · subst h3; simp; grind
  by_cases h4 : k = 4
  · subst h4; simp; grind
  by_cases h5 : k = 5
  · subst h5; simp; grind
  by_cases h6 : k = 6
  · subst h6; simp; grind
  simp [h1, h2, h3, h4, h5, h6]

theorem eventOk_facts {k s p d n z : Int} {bt : Bool} {u : Unit} (h : eventOkB (k, s, p, d, n, z, bt, u) = true) :
    (k = 1 ∧ (1 ≤ p ∨ p = 0 ∧ 0 ≤ d)) ∨ (k = 2 ∧ 1 ≤ p) ∨ ((k = 3 ∨ k = 4) ∧ p = 0 ∧ 0 ≤ d) ∨ ((k = 5 ∨ k = 6) ∧ 1 ≤ p) := by
  unfold eventOkB at h
  by_cases h1 : k = 1
  · subst h1; simp at h; grind
  by_cases h2 : k = 2
  · subst h2; simp at h; grind
  by_cases h3 : k = 3
  · subst h3; simp at h; grind
  by_cases h4 : k = 4
  · subst h4; simp at h; grind
  by_cases h5 : k = 5
  · subst h5; simp at h; grind
  by_cases h6 : k = 6
  · subst h6; simp at h; grind
  simp [h1, h2, h3, h4, h5, h6] at h

/-! ### Copies -/
theorem clonePiece_eq (xs : List T_Piece.D) (h : xs.length ≤ 1048576) : slices_Clone_impl_Piece xs = some xs := by
  unfold slices_Clone_impl_Piece
  rw [if_pos (by simp only [room, List.length_nil]; omega)]
  rfl
theorem cloneSide_eq (xs : List T_Side.D) (h : xs.length ≤ 1048576) : slices_Clone_impl_Side xs = some xs := by
  unfold slices_Clone_impl_Side
  rw [if_pos (by simp only [room, List.length_nil]; omega)]
  rfl
theorem impl_copy_eq (s : T_State.D) (hp : s.1.length ≤ 1048576) (hs : s.2.1.length ≤ 1048576) : impl_copyState s = some s := by
  unfold impl_copyState
  simp only [clonePiece_eq _ hp, cloneSide_eq _ hs, Option.bind_some]
theorem spec_copy_eq (s : T_State.D) (hp : s.1.length ≤ 1048576) (hs : s.2.1.length ≤ 1048576) : spec_l5Copy s = some s := by
  unfold spec_l5Copy
  rw [if_pos (by simp only [room, List.length_nil]; omega), if_pos (by simp only [room, List.length_nil]; omega)]
  rfl
/-- An element read to be written. -/
theorem ref_at {α R : Type} {xs : List α} {i : Nat} {x : α} {κ : α → Option R} (h : xs[i]? = some x) : (idx xs (i : Int) fun _ => (xs[((i : Int)).toNat]?).bind κ) = κ x := by
  rw [idx_at h, Int.toNat_natCast, h, Option.bind_some]
/-- Two states of the same size. -/
def sameSize (a b : T_State.D) : Prop := a.1.length = b.1.length ∧ a.2.1.length = b.2.1.length


theorem spec_Plus_eq (a b : Int) : spec_Plus a b = some (plusV a b) := by unfold spec_Plus; simp only [spec_Bound_eq, Option.bind_some]; rfl
theorem impl_Plus_eq (a b : Int) : impl_Plus a b = some (plusV a b) := by unfold impl_Plus; simp only [impl_Bound_eq, Option.bind_some]; rfl
theorem spec_Less_eq (a b : Int) : spec_Less a b = some (lessV a b) := by unfold spec_Less; simp only [spec_Bound_eq, Option.bind_some]; rfl
theorem impl_Less_eq (a b : Int) : impl_Less a b = some (lessV a b) := by unfold impl_Less; simp only [impl_Bound_eq, Option.bind_some]; rfl


theorem side_in {s : T_State.D} {d : Int} (h0 : 0 ≤ d) (h : d < (s.2.1.length : Int)) : ∃ (j : Nat) (x : T_Side.D), d = j ∧ s.2.1[j]? = some x := by
  obtain ⟨j, rfl⟩ := Int.eq_ofNat_of_zero_le h0
  exact ⟨j, s.2.1[j]'(by omega), rfl, List.getElem?_eq_getElem (by omega)⟩

def BearR (s : T_State.D) (k p d n : Int) (ev : Bool) (r : T_State.D × (Bool × Unit)) : Prop :=
  (r.2.1 = false ∧ r.1 = s) ∨ (r.2.1 = true ∧ stateOkB s = true ∧ ev = true ∧
    ((∃ (j : Nat) (x : T_Side.D), (p = 0 ∧ d = j ∧ s.2.1[j]? = some x) ∧ ((k = 3 ∧ r.1 = (s.1, s.2.1.set j (plusV x.1 n, x.2), s.2.2)) ∨ (k = 4 ∧ r.1 = (s.1, s.2.1.set j (lessV x.1 n, x.2), s.2.2)))) ∨
     (∃ (i : Nat) (x : T_Piece.D), (pieceAt s p = i ∧ s.1[i]? = some x ∧ (x.2.2.2.1 == 2) = true) ∧
      ((k = 5 ∧ r.1 = (s.1.set i (x.1, x.2.1, x.2.2.1, x.2.2.2.1, x.2.2.2.2.1, x.2.2.2.2.2.1, x.2.2.2.2.2.2.1, x.2.2.2.2.2.2.2.1, plusV x.2.2.2.2.2.2.2.2.1 n, x.2.2.2.2.2.2.2.2.2), s.2)) ∨
       (k = 6 ∧ r.1 = (s.1.set i (x.1, x.2.1, x.2.2.1, x.2.2.2.1, x.2.2.2.2.1, x.2.2.2.2.2.1, x.2.2.2.2.2.2.1, x.2.2.2.2.2.2.2.1, x.2.2.2.2.2.2.2.2.1, plusV x.2.2.2.2.2.2.2.2.2.1 n, x.2.2.2.2.2.2.2.2.2.2), s.2))))))
theorem bear_val' (s : T_State.D) (k sr p d n z : Int) (bt : Bool) (u : Unit) (hp : s.1.length ≤ 1048576) (hs : s.2.1.length ≤ 1048576) : ∃ r, spec_Bear s (k, sr, p, d, n, z, bt, u) = some r ∧ impl_Bear s (k, sr, p, d, n, z, bt, u) = some r ∧ BearR s k p d n (eventOkB (k, sr, p, d, n, z, bt, u)) r := by
  unfold spec_Bear impl_Bear
  simp only [spec_copy_eq s hp hs, impl_copy_eq s hp hs, spec_StateOk_eq s hp hs, impl_StateOk_eq s hp hs, spec_EventOk_eq, impl_EventOk_eq, Option.bind_some]
  cases hs0 : stateOkB s
  · exact ⟨_, rfl, rfl, .inl ⟨rfl, rfl⟩⟩
  cases hv : eventOkB (k, sr, p, d, n, z, bt, u)
  · exact ⟨_, rfl, rfl, .inl ⟨rfl, rfl⟩⟩
  unfold impl_reaches impl_isSide impl_fieldAt
  simp only [from_eq, spec_PieceAt_eq s _ hp, impl_PieceAt_eq s _ hp, spec_Plus_eq, impl_Plus_eq, spec_Less_eq, impl_Less_eq, Option.bind_some, Bool.not_true, cond_false]
  rw [wrap_id (n := (s.2.1.length : Int) - 1) (by omega) (by omega)]
  rcases eventOk_facts hv with ⟨rfl, _⟩ | ⟨rfl, _⟩ | ⟨hk, rfl, hd⟩ | ⟨hk, h1⟩
  · exact ⟨_, rfl, rfl, .inl ⟨rfl, rfl⟩⟩
  · exact ⟨_, rfl, rfl, .inl ⟨rfl, rfl⟩⟩
  · by_cases hlt : d < (s.2.1.length : Int)
    · obtain ⟨j, x, rfl, hx⟩ := side_in hd hlt
      have c1 : decide ((j : Int) ≥ (s.2.1.length : Int)) = false := decide_eq_false (by omega)
      have c2 : (decide (0 ≤ (j : Int)) && decide ((j : Int) ≤ (s.2.1.length : Int) - 1)) = true := by rw [decide_eq_true (by omega), decide_eq_true (by omega)]; rfl
      rcases hk with rfl | rfl <;> simp only [Int.reduceBEq, Int.reduceBNe, beq_self_eq_true, c1, c2, cond_true, cond_false, Option.bind_some, idx_at hx, Int.toNat_natCast, hx, Bool.not_true] <;> first | exact ⟨_, rfl, rfl, .inr ⟨rfl, hs0, rfl, .inl ⟨j, x, ⟨rfl, rfl, hx⟩, .inl ⟨rfl, rfl⟩⟩⟩⟩ | exact ⟨_, rfl, rfl, .inr ⟨rfl, hs0, rfl, .inl ⟨j, x, ⟨rfl, rfl, hx⟩, .inr ⟨rfl, rfl⟩⟩⟩⟩
    · have c1 : decide (d ≥ (s.2.1.length : Int)) = true := decide_eq_true (by omega)
      have c2 : (decide (0 ≤ d) && decide (d ≤ (s.2.1.length : Int) - 1)) = false := by rw [decide_eq_false (p := d ≤ (s.2.1.length : Int) - 1) (by omega), Bool.and_false]
      rcases hk with rfl | rfl <;> simp only [Int.reduceBEq, Int.reduceBNe, beq_self_eq_true, c1, c2, cond_true, cond_false, Option.bind_some, Bool.not_false] <;> exact ⟨_, rfl, rfl, .inl ⟨rfl, rfl⟩⟩
  · have p0 : (p == 0) = false := by rw [beq_eq_false_iff_ne]; omega
    rcases pieceAt_cases s p with h | ⟨i, x, e1, hx, _⟩
    · rcases hk with rfl | rfl <;> simp only [h, Int.reduceBEq, Int.reduceBNe, p0, cond_true, cond_false, Option.bind_some] <;> exact ⟨_, rfl, rfl, .inl ⟨rfl, rfl⟩⟩
    · have c1 : decide ((i : Int) ≥ 0) = true := by simp
      have c2 : decide ((i : Int) < 0) = false := dec_neg (by omega)
      have hzz : (x.2.2.2.1 != 2) = false → (x.2.2.2.1 == 2) = true := fun h => by unfold bne at h; cases hq : (x.2.2.2.1 == 2) <;> rw [hq] at h <;> first | rfl | cases h
      rcases hk with rfl | rfl <;> simp only [e1, c1, c2, Int.reduceBEq, Int.reduceBNe, p0, cond_true, cond_false, Option.bind_some, idx_at hx, Int.toNat_natCast, hx] <;> cases hq : (x.2.2.2.1 != 2) <;> simp only [c1, cond_true, cond_false, Option.bind_some, idx_at hx, Int.toNat_natCast, hx, Bool.not_true] <;> first | exact ⟨_, rfl, rfl, .inl ⟨rfl, rfl⟩⟩ | exact ⟨_, rfl, rfl, .inr ⟨rfl, hs0, rfl, .inr ⟨i, x, ⟨e1, hx, hzz hq⟩, .inl ⟨rfl, rfl⟩⟩⟩⟩ | exact ⟨_, rfl, rfl, .inr ⟨rfl, hs0, rfl, .inr ⟨i, x, ⟨e1, hx, hzz hq⟩, .inr ⟨rfl, rfl⟩⟩⟩⟩

/-! ### States that are right, as statements -/
theorem anyI_iff {α : Type} (p : Nat → α → Bool) : ∀ (xs : List α) (k : Nat), anyI p k xs = false ↔ ∀ (i : Nat) x, xs[i]? = some x → p (k + i) x = false
  | [], _ => by simp [anyI]
  | y :: xs, k => by
    simp only [anyI, Bool.or_eq_false_iff, anyI_iff p xs (k + 1)]
    constructor
    · rintro ⟨h1, h2⟩ i x hx
      cases i with
      | zero => simp at hx; subst hx; exact h1
      | succ i => rw [show k + (i + 1) = k + 1 + i by omega]; exact h2 i x (by simpa using hx)
    · intro h
      refine ⟨h 0 y (by simp), fun i x hx => ?_⟩
      rw [show k + 1 + i = k + (i + 1) by omega]
      exact h (i + 1) x (by simpa using hx)
def PcOk (s : T_State.D) (x : T_Piece.D) : Prop := pieceOkB x = true ∧ x.2.1 < (s.2.1.length : Int) ∧ x.2.2.1 < (s.2.1.length : Int) ∧ x.2.2.2.2.1 ≤ s.2.2.2.1
def StOk (s : T_State.D) : Prop :=
  (s.1.length ≤ 8 ∧ 2 ≤ s.2.1.length ∧ s.2.1.length ≤ 3) ∧ ((0 ≤ s.2.2.1 ∧ s.2.2.1 ≤ (s.2.1.length : Int) - 1) ∧ (0 ≤ s.2.2.2.1 ∧ s.2.2.2.1 ≤ 9999)) ∧
  (∀ (i : Nat) x, s.1[i]? = some x → PcOk s x) ∧ (∀ (i : Nat) x y, s.1[i]? = some x → s.1[i + 1]? = some y → x.1 < y.1) ∧ ∀ x ∈ s.2.1, sideOkB x = true
theorem stateOk_iff (s : T_State.D) : stateOkB s = true ↔ StOk s := by
  unfold stateOkB StOk
  simp only [Bool.and_eq_true, decide_eq_true_eq, Bool.not_eq_true', anyI_iff, Nat.zero_add, List.any_eq_false]
  constructor
  · rintro ⟨⟨⟨⟨⟨h1, h2⟩, h3⟩, h4⟩, h5⟩, h6⟩
    refine ⟨⟨by omega, by omega, by omega⟩, ⟨h3, h4⟩, fun i x hx => ?_, fun i x y hx hy => ?_, fun x hx => by simpa using h6 x hx⟩
    · have := h5 i x hx
      unfold badPiece at this
      simp only [Bool.or_eq_false_iff, Bool.not_eq_false', decide_eq_false_iff_not] at this
      obtain ⟨⟨⟨⟨g1, g2⟩, g3⟩, g4⟩, _⟩ := this
      exact ⟨g1, Int.not_le.1 g2, Int.not_le.1 g3, Int.not_lt.1 g4⟩
    · have := h5 (i + 1) y hy
      unfold badPiece at this
      simp only [Bool.or_eq_false_iff, Bool.and_eq_false_iff, Nat.add_sub_cancel, hx, Option.any_some, decide_eq_false_iff_not] at this
      rcases this.2 with h | h
      · omega
      · exact Int.not_le.1 h
  · rintro ⟨⟨h1, h2, h2'⟩, ⟨h3, h4⟩, h5, h6, h7⟩
    refine ⟨⟨⟨⟨⟨by omega, by omega, by omega⟩, h3⟩, h4⟩, fun i x hx => ?_⟩, fun x hx => by simpa using h7 x hx⟩
    obtain ⟨g1, g2, g3, g4⟩ := h5 i x hx
    unfold badPiece
    simp only [Bool.or_eq_false_iff, Bool.not_eq_false', decide_eq_false_iff_not, Bool.and_eq_false_iff]
    refine ⟨⟨⟨⟨g1, Int.not_le.2 g2⟩, Int.not_le.2 g3⟩, Int.not_lt.2 g4⟩, ?_⟩
    cases i with
    | zero => left; simp
    | succ i =>
      right
      simp only [Nat.add_sub_cancel]
      have hlt := (List.getElem?_eq_some_iff.1 hx).1
      have hp : s.1[i]? = some (s.1[i]'(by omega)) := List.getElem?_eq_getElem (by omega)
      rw [hp, Option.any_some, decide_eq_false_iff_not]
      exact Int.not_le.2 (h6 i _ x hp hx)
theorem keep_pieces {s : T_State.D} (h : StOk s) (ps : List T_Piece.D) (hl : ps.length = s.1.length) (hk : ∀ (i : Nat) x y, s.1[i]? = some x → ps[i]? = some y → y.1 = x.1 ∧ PcOk s y) : StOk (ps, s.2) := by
  obtain ⟨⟨h1, h2, h2'⟩, h3, h5, h6, h7⟩ := h
  have hget : ∀ (i : Nat) y, ps[i]? = some y → ∃ x, s.1[i]? = some x := fun i y hy => ⟨_, List.getElem?_eq_getElem (by have := (List.getElem?_eq_some_iff.1 hy).1; omega)⟩
  refine ⟨⟨by simp only; omega, h2, h2'⟩, h3, fun i y hy => ?_, fun i x y hx hy => ?_, h7⟩
  · obtain ⟨x, hx⟩ := hget i y hy
    exact (hk i x y hx hy).2
  · obtain ⟨x', hx'⟩ := hget i x hx
    obtain ⟨y', hy'⟩ := hget (i + 1) y hy
    have e1 := (hk i x' x hx' hx).1
    have e2 := (hk (i + 1) y' y hy' hy).1
    have := h6 i x' y' hx' hy'
    rw [e1, e2]
    exact this
theorem keep_set {s : T_State.D} (h : StOk s) {i : Nat} {x : T_Piece.D} (hx : s.1[i]? = some x) (y : T_Piece.D) (he : y.1 = x.1) (hy : PcOk s y) : StOk (s.1.set i y, s.2) := by
  refine keep_pieces h _ (by simp) fun j a b ha hb => ?_
  by_cases hj : i = j
  · subst hj
    have hlt := (List.getElem?_eq_some_iff.1 hx).1
    rw [get_set hlt] at hb
    cases hb
    rw [hx] at ha
    cases ha
    exact ⟨he, hy⟩
  · rw [List.getElem?_set_ne hj] at hb
    rw [ha] at hb
    cases hb
    exact ⟨rfl, h.2.2.1 j _ ha⟩
theorem keep_sides {s : T_State.D} (h : StOk s) (ss : List T_Side.D) (hl : ss.length = s.2.1.length) (hk : ∀ x ∈ ss, sideOkB x = true) : StOk (s.1, ss, s.2.2) := by
  obtain ⟨⟨h1, h2, h2'⟩, ⟨h3, h4⟩, h5, h6, h7⟩ := h
  refine ⟨⟨h1, by simp only; omega, by simp only; omega⟩, ⟨by simp only; rw [hl]; exact h3, h4⟩, fun i x hx => ?_, h6, hk⟩
  obtain ⟨g1, g2, g3, g4⟩ := h5 i x hx
  exact ⟨g1, by simp only; rw [hl]; exact g2, by simp only; rw [hl]; exact g3, g4⟩
theorem keep_side {s : T_State.D} (h : StOk s) {j : Nat} (y : T_Side.D) (hy : sideOkB y = true) : StOk (s.1, s.2.1.set j y, s.2.2) := by
  refine keep_sides h _ (by simp) fun x hx => ?_
  rcases List.mem_or_eq_of_mem_set hx with hm | rfl
  · exact h.2.2.2.2 x hm
  · exact hy
theorem boundV_in (n : Int) : -2147483647 ≤ boundV n ∧ boundV n ≤ 2147483647 := by unfold boundV; split <;> (try split) <;> omega
theorem boundV_id {n : Int} (h1 : -2147483647 ≤ n) (h2 : n ≤ 2147483647) : boundV n = n := by unfold boundV; split <;> (try split) <;> omega
theorem plusV_in (a b : Int) : -2147483647 ≤ plusV a b ∧ plusV a b ≤ 2147483647 := boundV_in _
theorem lessV_in (a b : Int) : -2147483647 ≤ lessV a b ∧ lessV a b ≤ 2147483647 := boundV_in _
theorem plusV_nonneg {a b : Int} (ha : 0 ≤ a) (hb : 0 ≤ b) : 0 ≤ plusV a b := by
  unfold plusV
  have h1 := boundV_in a
  have h2 := boundV_in b
  have h3 : 0 ≤ boundV a := by unfold boundV; split <;> (try split) <;> omega
  have h4 : 0 ≤ boundV b := by unfold boundV; split <;> (try split) <;> omega
  rw [wrap_id (by omega) (by omega)]
  unfold boundV
  split <;> (try split) <;> omega


theorem pieceOk_iff (i o sd z t pw tg tr pl mi mk : Int) (dl bt : Bool) (u : Unit) : pieceOkB (i, o, sd, z, t, pw, tg, tr, pl, mi, mk, dl, bt, u) = true ↔
    ((1 ≤ i ∧ i ≤ 99) ∧ (0 ≤ o ∧ o ≤ 2) ∧ (0 ≤ sd ∧ sd ≤ 2) ∧ (1 ≤ z ∧ z ≤ 4) ∧ (0 ≤ t ∧ t ≤ 9999) ∧ (0 ≤ pw ∧ pw ≤ 999) ∧ (0 ≤ tg ∧ tg ≤ 999) ∧ (0 ≤ tr ∧ tr ≤ 63)) ∧
    ((z = 2 ∧ (0 ≤ pl ∧ pl ≤ 2147483647) ∧ (0 ≤ mi ∧ mi ≤ 2147483647) ∧ (0 ≤ mk ∧ mk ≤ 2147483647)) ∨ (z ≠ 2 ∧ sd = o ∧ pl = 0 ∧ mi = 0 ∧ mk = 0 ∧ dl = false ∧ bt = false)) := by
  unfold pieceOkB
  by_cases h : z = 2
  · subst h; simp; grind
  · simp [h]; grind
theorem moved_ok (s : T_State.D) (h : StOk s) (z : Int) (hz : 1 ≤ z ∧ z ≤ 4) (x : T_Piece.D) (hx : PcOk s x) : PcOk s (x.1, x.2.1, x.2.1, z, s.2.2.2.1, x.2.2.2.2.2.1, x.2.2.2.2.2.2.1, x.2.2.2.2.2.2.2.1, 0, 0, 0, false, false, ()) := by
  obtain ⟨h1, h2, h3, h4⟩ := hx
  obtain ⟨⟨k1, k2, k3, k4, k5, k6, k7, k8⟩, _⟩ := (pieceOk_iff x.1 x.2.1 x.2.2.1 x.2.2.2.1 x.2.2.2.2.1 x.2.2.2.2.2.1 x.2.2.2.2.2.2.1 x.2.2.2.2.2.2.2.1 x.2.2.2.2.2.2.2.2.1 x.2.2.2.2.2.2.2.2.2.1 x.2.2.2.2.2.2.2.2.2.2.1 x.2.2.2.2.2.2.2.2.2.2.2.1 x.2.2.2.2.2.2.2.2.2.2.2.2.1 x.2.2.2.2.2.2.2.2.2.2.2.2.2).1 h1
  refine ⟨(pieceOk_iff _ _ _ _ _ _ _ _ _ _ _ _ _ _).2 ⟨⟨k1, k2, k2, hz, h.2.1.2, k6, k7, k8⟩, ?_⟩, h2, h2, Int.le_refl _⟩
  by_cases h' : z = 2
  · exact .inl ⟨h', ⟨by decide, by decide⟩, ⟨by decide, by decide⟩, ⟨by decide, by decide⟩⟩
  · exact .inr ⟨h', rfl, rfl, rfl, rfl, rfl, rfl⟩

theorem side_bound (x : T_Side.D) (a : Int) (h : sideOkB x = true) (h1 : -2147483647 ≤ a) (h2 : a ≤ 2147483647) : sideOkB (a, x.2) = true := by
  unfold sideOkB at h ⊢
  rw [Bool.and_eq_true] at h ⊢
  exact ⟨by rw [decide_eq_true h1, decide_eq_true h2]; rfl, h.2⟩
theorem eventOk_n {k sr p d n z : Int} {bt : Bool} {u : Unit} (h : eventOkB (k, sr, p, d, n, z, bt, u) = true) : 0 ≤ n := by
  unfold eventOkB at h
  rw [Bool.and_eq_true, Bool.and_eq_true] at h
  exact of_decide_eq_true h.1.1

theorem set_self {α : Type} : ∀ {ys : List α} {i : Nat} {x : α}, ys[i]? = some x → ys.set i x = ys
  | [], _, _, _ => by simp
  | y :: ys, 0, x, h => by simp at h; simp [h]
  | y :: ys, i + 1, x, h => by simp only [List.set_cons_succ]; rw [set_self (by simpa using h)]

theorem findL_map {α β : Type} (f : α → β) (p : β → Bool) : ∀ (xs : List α), findL (fun x => p (f x)) xs = findL p (xs.map f)
  | [] => rfl
  | x :: xs => by simp only [findL, List.map_cons, findL_map f p xs]
theorem pieceAt_ids (s t : T_State.D) (a : Int) (h : s.1.map (fun (x : T_Piece.D) => x.1) = t.1.map (fun (x : T_Piece.D) => x.1)) : pieceAt s a = pieceAt t a := by
  have e : ∀ (r : T_State.D), findL (fun (x : T_Piece.D) => x.1 == a) r.1 = findL (fun i => i == a) (r.1.map (fun (x : T_Piece.D) => x.1)) := fun r => findL_map (fun (x : T_Piece.D) => x.1) (fun i => i == a) r.1
  unfold pieceAt
  rw [e s, e t, h]
theorem pieceAt_set {s : T_State.D} {k : Nat} {x y : T_Piece.D} (hx : s.1[k]? = some x) (he : y.1 = x.1) (u : (List T_Side.D) × (Int × (Int × Unit))) (a : Int) : pieceAt (s.1.set k y, u) a = pieceAt s a := by
  refine pieceAt_ids _ _ a ?_
  simp only [List.map_set, he]
  exact set_self (by rw [List.getElem?_map, hx]; rfl)

theorem bif_and (b c : Bool) : (bif b then some c else some false) = some (b && c) := by cases b <;> rfl
theorem impl_SameState_eq (a b : T_State.D) (hp : a.1.length ≤ 1048576) (hs : a.2.1.length ≤ 1048576) : impl_SameState a b = some (eqD T_State a b) := by
  have hE : eqD T_State a b = (eqD (.slice T_Piece) a.1 b.1 && (eqD (.slice T_Side) a.2.1 b.2.1 && ((a.2.2.1 == b.2.2.1) && ((a.2.2.2.1 == b.2.2.2.1) && true)))) := rfl
  unfold impl_SameState
  rw [hE, show slices_Equal_impl_Piece a.1 b.1 = some (eqD (.slice T_Piece) a.1 b.1) from eq_lists (t := T_Piece) rfl a.1 b.1 (e := eqD T_Piece) (fun _ _ => rfl) (by omega) (fun i => rfl),
    show slices_Equal_impl_Side a.2.1 b.2.1 = some (eqD (.slice T_Side) a.2.1 b.2.1) from eq_lists (t := T_Side) rfl a.2.1 b.2.1 (e := eqD T_Side) (fun _ _ => rfl) (by omega) (fun i => rfl)]
  simp only [Option.bind_some, bif_and]
  cases eqD (.slice T_Piece) a.1 b.1 <;> cases eqD (.slice T_Side) a.2.1 b.2.1 <;> cases (a.2.2.1 == b.2.2.1) <;> cases (a.2.2.2.1 == b.2.2.2.1) <;> rfl

/-! ### Draws: they end, and the cursor stays right -/
def curOk (c : T_l1Cur.D) : Prop := 0 ≤ c.2.1 ∧ c.1.length ≤ 1048576
theorem l1Byte_ok' (b : List Int) (i g : Int) (u : Unit) (h0 : 0 ≤ i) (h1 : b.length ≤ 1048576) : Tot (spec_l1Byte (b, i, g, u)) (fun y => curOk y.2.1 ∧ 0 ≤ y.1 ∧ y.1 ≤ 255) := by
  unfold spec_l1Byte
  simp only
  rw [if_pos (by decide), if_pos (by decide)]
  refine Tot.bif (fun hl => ?_) (fun _ => ?_)
  · have hl : i < (b.length : Int) := of_decide_eq_true hl
    refine Tot.idx h0 hl fun n x e hx => ?_
    obtain ⟨m, e1, e2⟩ := mask_byte (IntKind.wrap .i64 (IntKind.wrap .i64 (BitVec.ofInt (IntKind.bits .i64) (IntKind.wrap .i64 (BitVec.ofInt (IntKind.bits .i64) ((IntKind.wrap .i64 ((IntKind.wrap .i64 (g * 6364136223846793005)) + 1442695040888963407)).fdiv (2 ^ min (33 : Int).toNat (IntKind.bits .i64))) ^^^ BitVec.ofInt (IntKind.bits .i64) ((IntKind.wrap .i64 ((IntKind.wrap .i64 (g * 6364136223846793005)) + 1442695040888963407)).fdiv (2 ^ min (47 : Int).toNat (IntKind.bits .i64)))).toNat) &&& BitVec.ofInt (IntKind.bits .i64) 255).toNat + IntKind.wrap .i64 x))
    refine Tot.pure ⟨⟨?_, h1⟩, ?_, ?_⟩
    · show (0 : Int) ≤ IntKind.wrap .i64 (i + 1)
      rw [wrap_id (by omega) (by omega)]; omega
    · simp only; rw [e1]; omega
    · simp only; rw [e1]; omega
  · obtain ⟨m, e1, e2⟩ := mask_byte (IntKind.wrap .i64 (BitVec.ofInt (IntKind.bits .i64) ((IntKind.wrap .i64 ((IntKind.wrap .i64 (g * 6364136223846793005)) + 1442695040888963407)).fdiv (2 ^ min (33 : Int).toNat (IntKind.bits .i64))) ^^^ BitVec.ofInt (IntKind.bits .i64) ((IntKind.wrap .i64 ((IntKind.wrap .i64 (g * 6364136223846793005)) + 1442695040888963407)).fdiv (2 ^ min (47 : Int).toNat (IntKind.bits .i64)))).toNat)
    refine Tot.pure ⟨⟨h0, h1⟩, ?_, ?_⟩
    · simp only; rw [e1]; omega
    · simp only; rw [e1]; omega
theorem l1Byte_ok (c : T_l1Cur.D) (h : curOk c) : Tot (spec_l1Byte c) (fun y => curOk y.2.1 ∧ 0 ≤ y.1 ∧ y.1 ≤ 255) := l1Byte_ok' c.1 c.2.1 c.2.2.1 c.2.2.2 h.1 h.2
theorem l1Below_ok (c : T_l1Cur.D) (n : Int) (h : curOk c) : Tot (spec_l1Below c n) (fun y => curOk y.2.1 ∧ 0 ≤ y.1 ∧ (0 < n → y.1 < n)) := by
  unfold spec_l1Below
  refine Tot.bif (fun hn => ?_) (fun hn => ?_)
  · have hn : n ≤ 0 := of_decide_eq_true hn
    exact Tot.pure ⟨h, Int.le_refl _, fun h => by omega⟩
  · have hn : ¬ n ≤ 0 := of_decide_eq_false hn
    refine Tot.bif (fun _ => ?_) (fun _ => ?_)
    · refine Tot.bind (l1Byte_ok c h) ?_
      rintro y ⟨hc, h0, h1⟩
      rw [if_neg (by omega)]
      exact Tot.pure ⟨hc, Int.tmod_nonneg _ h0, fun hp => Int.tmod_lt_of_pos _ hp⟩
    · refine Tot.bind (l1Byte_ok c h) ?_
      rintro y2 ⟨hc2, h20, h21⟩
      refine Tot.bind (l1Byte_ok _ hc2) ?_
      rintro y3 ⟨hc3, h30, h31⟩
      refine Tot.bind (l1Byte_ok _ hc3) ?_
      rintro y4 ⟨hc4, h40, h41⟩
      show Tot (if n = 0 then none else some ((IntKind.wrap .i64 (IntKind.wrap .i64 (IntKind.wrap .i64 (y2.1 * 65536) + IntKind.wrap .i64 (y3.1 * 256)) + y4.1)).tmod n, y4.2)) _
      rw [wrap_id (n := y2.1 * 65536) (by omega) (by omega), wrap_id (n := y3.1 * 256) (by omega) (by omega), wrap_id (n := y2.1 * 65536 + y3.1 * 256) (by omega) (by omega), wrap_id (n := y2.1 * 65536 + y3.1 * 256 + y4.1) (by omega) (by omega), if_neg (by omega)]
      exact Tot.pure ⟨hc4, Int.tmod_nonneg _ (by omega), fun hp => Int.tmod_lt_of_pos _ hp⟩
theorem l1Int_ok (c : T_l1Cur.D) (l : List Int) (h : curOk c) (hl : 0 < l.length) : Tot (spec_l1Int c l) (fun y => curOk y.2.1 ∧ y.1 ∈ l) := by
  unfold spec_l1Int
  refine Tot.bind (l1Below_ok c _ h) ?_
  rintro y ⟨hc, h0, h1⟩
  refine Tot.idx h0 (h1 (by omega)) fun n x e hx => ?_
  exact Tot.pure ⟨hc, List.mem_of_getElem? hx⟩
theorem l1Once_ok (c : T_l1Cur.D) (n : Int) (h : curOk c) : Tot (spec_l1Once c n) (fun y => curOk y.2.1 ∧ True) := by
  unfold spec_l1Once
  refine Tot.bind (l1Below_ok c _ h) ?_
  rintro y ⟨hc, h0, h1⟩
  exact Tot.pure ⟨hc, trivial⟩
theorem l1Odd_ok (c : T_l1Cur.D) (h : curOk c) : Tot (spec_l1Odd c) (fun y => curOk y.2.1 ∧ True) := by
  unfold spec_l1Odd
  refine Tot.bind (l1Int_ok c _ h (by decide)) ?_
  rintro y ⟨hc, _⟩
  exact Tot.pure ⟨hc, trivial⟩
theorem l1Raw_ok (c : T_l1Cur.D) (h : curOk c) : Tot (spec_l1Raw c) (fun y => curOk y.2.1 ∧ True) := by
  unfold spec_l1Raw
  refine Tot.bind (l1Once_ok c _ h) ?_
  rintro y ⟨hc, _⟩
  refine Tot.bif (fun _ => ?_) (fun _ => ?_)
  · refine Tot.bind (l1Odd_ok _ hc) ?_
    rintro y ⟨hc, _⟩
    exact Tot.pure ⟨hc, trivial⟩
  · refine Tot.bind (l1Int_ok _ _ hc (by decide)) ?_
    rintro y ⟨hc, _⟩
    exact Tot.pure ⟨hc, trivial⟩
theorem l4Draw_ok (c : T_l1Cur.D) (id : Int) (h : curOk c) : Tot (spec_l4Draw c id) (fun y => curOk y.2.1 ∧ True) := by
  unfold spec_l4Draw
  refine Tot.bind (l1Below_ok c _ h) ?_
  rintro y1 ⟨_, _⟩
  refine Tot.bind (l1Int_ok _ _ (by assumption) (by decide)) ?_
  rintro y2 ⟨_, _⟩
  refine Tot.bind (l1Below_ok _ _ (by assumption)) ?_
  rintro y3 ⟨_, _⟩
  refine Tot.bind (l1Below_ok _ _ (by assumption)) ?_
  rintro y4 ⟨_, _⟩
  refine Tot.bind (l1Below_ok _ _ (by assumption)) ?_
  rintro y5 ⟨h5, _⟩
  refine Tot.bind (P := fun o => curOk o.2.1) (Tot.while (fun s => curOk s.2.1 ∧ 0 ≤ s.1 ∧ s.1 ≤ 6) (fun s => 6 - s.1.toNat) ?_ ⟨h5, by simp only; omega, by simp only; omega⟩) ?_
  · rintro ⟨i, cc, t⟩ ⟨g1, g2, g3⟩
    simp only at g1 g2 g3
    unfold spec_l4Draw_l1
    simp only
    refine Tot.bif (fun hl => ?_) (fun _ => ?_)
    · have hl : i < (6 : Int) := of_decide_eq_true hl
      refine Tot.idx g2 (by simpa using hl) fun n x e hx => ?_
      subst e
      rw [Int.toNat_natCast, hx, Option.bind_some]
      refine Tot.bind (l1Once_ok _ _ g1) ?_
      rintro y ⟨hc, _⟩
      refine Tot.bif (fun _ => ?_) (fun _ => ?_) <;> refine Tot.pure ⟨⟨hc, ?_, ?_⟩, ?_⟩ <;> simp only <;> rw [wrap_id (by omega) (by omega)] <;> omega
    · exact Tot.pure g1
  · rintro o ho
    refine Tot.bif (fun _ => Tot.pure ⟨ho, trivial⟩) (fun _ => ?_)
    refine Tot.bind (l1Once_ok _ _ ho) ?_
    rintro y12 ⟨h12, _⟩
    refine Tot.bind (P := fun _ => True) (Tot.bif (fun _ => Tot.pure trivial) (fun _ => Tot.pure trivial)) ?_
    rintro o13 _
    refine Tot.bind (l1Int_ok _ _ h12 (by decide)) ?_
    rintro y14 ⟨h14, _⟩
    refine Tot.bind (l1Int_ok _ _ h14 (by decide)) ?_
    rintro y15 ⟨h15, _⟩
    refine Tot.bind (l1Int_ok _ _ h15 (by decide)) ?_
    rintro y16 ⟨h16, _⟩
    refine Tot.bind (l1Once_ok _ _ h16) ?_
    rintro y17 ⟨h17, _⟩
    exact Tot.pure ⟨h17, trivial⟩
theorem l4Any_ok (c : T_l1Cur.D) (h : curOk c) : Tot (spec_l4Any c) (fun y => curOk y.2.1 ∧ True) := by
  unfold spec_l4Any
  refine Tot.bind (l1Below_ok c _ h) ?_
  rintro y1 ⟨h1, _⟩
  refine Tot.bind (l4Draw_ok _ _ h1) ?_
  rintro y2 ⟨h2, _⟩
  refine Tot.bind (l1Below_ok _ _ h2) ?_
  rintro y3 ⟨h3, _⟩
  repeat' first
    | refine Tot.bif (fun _ => ?_) (fun _ => ?_)
    | (refine Tot.bind (l1Int_ok _ _ h3 (by decide)) ?_; rintro y ⟨hy, _⟩; exact Tot.pure ⟨hy, trivial⟩)
    | (refine Tot.bind (l1Raw_ok _ h3) ?_; rintro y ⟨hy, _⟩; exact Tot.pure ⟨hy, trivial⟩)
    | exact Tot.pure ⟨h3, trivial⟩
theorem l5Draw_ok (c : T_l1Cur.D) (h : curOk c) : Tot (spec_l5Draw c) (fun y => curOk y.2.1 ∧ 1 ≤ y.1.1.length ∧ y.1.1.length ≤ 6 ∧ y.1.2.1.length = 2) := by
  unfold spec_l5Draw
  refine Tot.bind (P := fun s => s.1.length = 0 ∧ s.2.1.length = 2) ⟨_, rfl, rfl, rfl⟩ ?_
  rintro y1 ⟨p1, p2⟩
  refine Tot.bind (l1Below_ok c _ h) ?_
  rintro y2 ⟨h2, _⟩
  refine Tot.bind (l1Below_ok _ _ h2) ?_
  rintro y3 ⟨h3, _⟩
  refine Tot.bind (P := fun o => curOk o.2.1 ∧ o.2.2.1.length = 0 ∧ o.2.2.2.1.length = 2) (Tot.while (fun s => curOk s.2.1 ∧ s.2.2.1.length = 0 ∧ s.2.2.2.1.length = 2 ∧ 0 ≤ s.1 ∧ s.1 ≤ 2) (fun s => 2 - s.1.toNat) ?_ ⟨h3, p1, p2, by simp only; omega, by simp only; omega⟩) ?_
  · rintro ⟨i, cc, ps, ss, t⟩ ⟨g1, g2, g3, g4, g5⟩
    simp only at g1 g2 g3 g4 g5
    unfold spec_l5Draw_l1
    simp only
    refine Tot.bif (fun hl => ?_) (fun _ => Tot.pure ⟨g1, g2, g3⟩)
    have hl : i < (2 : Int) := of_decide_eq_true hl
    refine Tot.bind (l1Int_ok _ _ g1 (by decide)) ?_
    rintro y7 ⟨h7, _⟩
    refine Tot.idx g4 (by omega) fun n x e hx => ?_
    subst e
    rw [Int.toNat_natCast, hx, Option.bind_some]
    refine Tot.bind (l1Int_ok _ _ h7 (by decide)) ?_
    rintro y10 ⟨h10, _⟩
    have hn : n < ss.length := by omega
    rw [idx_set hn, get_set hn, Option.bind_some]
    refine Tot.pure ⟨⟨h10, g2, by simp only [List.length_set]; exact g3, ?_, ?_⟩, ?_⟩ <;> simp only <;> rw [wrap_id (by omega) (by omega)] <;> omega
  · rintro o ⟨g1, g2, g3⟩
    refine Tot.bind (l1Below_ok _ _ g1) ?_
    rintro y14 ⟨h14, h14a, h14b⟩
    have hlt := h14b (by decide)
    rw [wrap_id (n := 1 + y14.1) (by omega) (by omega)]
    refine Tot.bind (P := fun o => curOk o.2.2.1 ∧ 1 ≤ o.2.2.2.1.length ∧ o.2.2.2.1.length ≤ 6 ∧ o.2.2.2.2.1.length = 2) (Tot.while (fun s => curOk s.2.2.1 ∧ 0 ≤ s.2.1 ∧ (s.2.2.2.1.length : Int) + s.2.1 = 1 + y14.1 ∧ s.2.2.2.2.1.length = 2) (fun s => s.2.1.toNat) ?_ ⟨h14, by simp only; omega, by simp only; omega, g3⟩) ?_
    · rintro ⟨id, i, cc, ps, ss, t⟩ ⟨k1, k2, k3, k4⟩
      simp only at k1 k2 k3 k4
      unfold spec_l5Draw_l2
      simp only
      refine Tot.bif (fun hl => ?_) (fun hl => Tot.pure ⟨k1, ?_, ?_, k4⟩)
      · have hl : i > 0 := of_decide_eq_true hl
        refine Tot.bind (l1Below_ok _ _ k1) ?_
        rintro y18 ⟨h18, _⟩
        refine Tot.bind (l4Draw_ok _ _ h18) ?_
        rintro y19 ⟨h19, _⟩
        rw [if_pos (by simp only [room, List.length_cons, List.length_nil]; omega)]
        refine Tot.pure ⟨⟨h19, ?_, ?_, k4⟩, ?_⟩ <;> simp only [List.length_append, List.length_cons, List.length_nil] <;> rw [wrap_id (n := i - 1) (by omega) (by omega)] <;> omega
      · have hl : ¬ i > 0 := of_decide_eq_false hl
        simp only; omega
      · have hl : ¬ i > 0 := of_decide_eq_false hl
        simp only; omega
    · rintro o ⟨k1, k2⟩
      exact Tot.pure ⟨k1, k2⟩
theorem l5Any_ok (c : T_l1Cur.D) (h : curOk c) : Tot (spec_l5Any c) (fun y => curOk y.2.1 ∧ y.1.1.length ≤ 20 ∧ y.1.2.1.length ≤ 3) := by
  unfold spec_l5Any
  refine Tot.bind (l5Draw_ok c h) ?_
  rintro ⟨⟨ps, ss, t⟩, c1⟩ ⟨h1, g1, g2, g3⟩
  simp only at h1 g1 g2 g3
  refine Tot.bind (l1Below_ok _ _ h1) ?_
  rintro y2 ⟨h2, _⟩
  refine Tot.bif (fun _ => ?_) (fun _ => ?_)
  · refine Tot.bind (l1Int_ok _ _ h2 (by decide)) ?_
    rintro y ⟨hy, _⟩
    exact Tot.pure ⟨hy, by simp only; omega, by simp only; omega⟩
  refine Tot.bif (fun _ => ?_) (fun _ => ?_)
  · refine Tot.bind (l1Int_ok _ _ h2 (by decide)) ?_
    rintro y ⟨hy, _⟩
    exact Tot.pure ⟨hy, by simp only; omega, by simp only; omega⟩
  refine Tot.bif (fun _ => ?_) (fun _ => ?_)
  · refine Tot.bind (l1Raw_ok _ h2) ?_
    rintro y ⟨hy, _⟩
    rw [if_pos (by simp only [room, List.length_cons, List.length_nil]; omega)]
    exact Tot.pure ⟨hy, by simp only; omega, by simp only [List.length_append, List.length_cons, List.length_nil]; omega⟩
  refine Tot.bif (fun _ => ?_) (fun _ => ?_)
  · refine Tot.bind (l1Raw_ok _ h2) ?_
    rintro y ⟨hy, _⟩
    refine Tot.idx (by decide) (by simp only; omega) fun n x e hx => ?_
    have : n = 0 := by omega
    subst this
    rw [show ((0 : Int)).toNat = 0 from rfl, hx, Option.bind_some]
    exact Tot.pure ⟨hy, by simp only; omega, by simp only [List.length_set]; omega⟩
  refine Tot.bif (fun _ => ?_) (fun _ => ?_)
  · refine Tot.bind (l4Any_ok _ h2) ?_
    rintro y ⟨hy, _⟩
    rw [if_pos (by simp only [room, List.length_cons, List.length_nil]; omega)]
    exact Tot.pure ⟨hy, by simp only [List.length_append, List.length_cons, List.length_nil]; omega, by simp only; omega⟩
  refine Tot.bif (fun _ => ?_) (fun _ => ?_)
  · rw [if_pos (by decide), if_pos (by decide), if_pos (by simp only; omega)]
    exact Tot.pure ⟨h2, by simp only; omega, by simp only [List.length_drop, List.length_take]; omega⟩
  refine Tot.bif (fun _ => ?_) (fun _ => ?_)
  · refine Tot.bind (l4Any_ok _ h2) ?_
    rintro y ⟨hy, _⟩
    refine Tot.idx (by decide) (by simp only; omega) fun n x e hx => ?_
    have : n = 0 := by omega
    subst this
    rw [show ((0 : Int)).toNat = 0 from rfl, hx, Option.bind_some]
    exact Tot.pure ⟨hy, by simp only [List.length_set]; omega, by simp only; omega⟩
  refine Tot.bif (fun _ => ?_) (fun _ => ?_)
  · refine Tot.bind (P := fun o => curOk o.2.1 ∧ o.2.2.1.length ≤ 20 ∧ o.2.2.2.1.length ≤ 3) (Tot.while (fun s => curOk s.2.1 ∧ 40 ≤ s.1 ∧ s.1 ≤ 46 ∧ (s.2.2.1.length : Int) ≤ s.1 - 34 ∧ s.2.2.2.1.length ≤ 3) (fun s => 46 - s.1.toNat) ?_ ⟨h2, by simp only; omega, by simp only; omega, by simp only; omega, by simp only; omega⟩) ?_
    · rintro ⟨i, cc, ps, ss, t⟩ ⟨k1, k2, k3, k4, k5⟩
      simp only at k1 k2 k3 k4 k5
      unfold spec_l5Any_l1
      simp only
      refine Tot.bif (fun hl => ?_) (fun hl => Tot.pure ⟨k1, by simp only; omega, k5⟩)
      have hl : i < 46 := of_decide_eq_true hl
      refine Tot.bind (l4Draw_ok _ _ k1) ?_
      rintro y ⟨hy, _⟩
      rw [if_pos (by simp only [room, List.length_cons, List.length_nil]; omega)]
      refine Tot.pure ⟨⟨hy, ?_, ?_, ?_, k5⟩, ?_⟩ <;> simp only [List.length_append, List.length_cons, List.length_nil] <;> rw [wrap_id (n := i + 1) (by omega) (by omega)] <;> omega
    · rintro o ⟨k1, k2, k3⟩
      exact Tot.pure ⟨k1, k2, k3⟩
  exact Tot.pure ⟨h2, by simp only; omega, by simp only; omega⟩
theorem l6Id_ok (c : T_l1Cur.D) (s : T_State.D) (h : curOk c) : Tot (spec_l6Id c s) (fun y => curOk y.2.1 ∧ True) := by
  unfold spec_l6Id
  refine Tot.bind (P := fun o => curOk o.2 ∧ (o.1 = false → 0 < s.1.length)) (Tot.bif (fun _ => Tot.pure ⟨h, by simp⟩) (fun he => ?_)) ?_
  · have he : 0 < s.1.length := by
      rw [beq_eq_false_iff_ne] at he
      omega
    refine Tot.bind (l1Once_ok _ _ h) ?_
    rintro y ⟨hy, _⟩
    exact Tot.pure ⟨hy, fun _ => he⟩
  · rintro o ⟨ho, hl⟩
    refine Tot.bif (fun _ => ?_) (fun hf => ?_)
    · refine Tot.bind (l1Below_ok _ _ ho) ?_
      rintro y ⟨hy, _⟩
      exact Tot.pure ⟨hy, trivial⟩
    · have := hl hf
      refine Tot.bind (l1Below_ok _ _ ho) ?_
      rintro y ⟨hy, h0, h1⟩
      refine Tot.idx h0 (h1 (by omega)) fun n x e hx => ?_
      exact Tot.pure ⟨hy, trivial⟩
theorem l6Draw_ok (c : T_l1Cur.D) (s : T_State.D) (h : curOk c) : Tot (spec_l6Draw c s) (fun y => curOk y.2.1 ∧ True) := by
  unfold spec_l6Draw
  refine Tot.bind (l1Int_ok _ _ h (by decide)) ?_
  rintro y1 ⟨h1, _⟩
  refine Tot.bind (l1Int_ok _ _ h1 (by decide)) ?_
  rintro y2 ⟨h2, _⟩
  refine Tot.bif (fun _ => ?_) (fun _ => ?_)
  · refine Tot.bind (l6Id_ok _ _ h2) ?_
    rintro y3 ⟨h3, _⟩
    refine Tot.bind (l1Once_ok _ _ h3) ?_
    rintro y4 ⟨h4, _⟩
    refine Tot.bif (fun _ => ?_) (fun _ => ?_)
    · refine Tot.bind (l1Below_ok _ _ h4) ?_
      rintro y ⟨hy, _⟩
      exact Tot.pure ⟨hy, trivial⟩
    · refine Tot.bind (l6Id_ok _ _ h4) ?_
      rintro y ⟨hy, _⟩
      exact Tot.pure ⟨hy, trivial⟩
  refine Tot.bif (fun _ => ?_) (fun _ => ?_)
  · refine Tot.bind (l6Id_ok _ _ h2) ?_
    rintro y3 ⟨h3, _⟩
    refine Tot.bind (l1Int_ok _ _ h3 (by decide)) ?_
    rintro y4 ⟨h4, _⟩
    refine Tot.bif (fun _ => ?_) (fun _ => Tot.pure ⟨h4, trivial⟩)
    refine Tot.bind (l1Int_ok _ _ h4 (by decide)) ?_
    rintro y5 ⟨h5, _⟩
    refine Tot.bind (l1Once_ok _ _ h5) ?_
    rintro y ⟨hy, _⟩
    exact Tot.pure ⟨hy, trivial⟩
  refine Tot.bind (P := fun _ => True) (Tot.bif (fun _ => Tot.pure trivial) (fun _ => Tot.pure trivial)) ?_
  rintro o11 _
  refine Tot.bif (fun _ => ?_) (fun _ => ?_)
  · refine Tot.bind (l1Below_ok _ _ h2) ?_
    rintro y ⟨hy, _⟩
    exact Tot.pure ⟨hy, trivial⟩
  · refine Tot.bind (l6Id_ok _ _ h2) ?_
    rintro y ⟨hy, _⟩
    exact Tot.pure ⟨hy, trivial⟩
theorem l6Any_ok (c : T_l1Cur.D) (s : T_State.D) (h : curOk c) : Tot (spec_l6Any c s) (fun y => curOk y.2.1 ∧ True) := by
  unfold spec_l6Any
  refine Tot.bind (l6Draw_ok _ _ h) ?_
  rintro y1 ⟨h1, _⟩
  refine Tot.bind (l1Below_ok _ _ h1) ?_
  rintro y3 ⟨h3, _⟩
  repeat' first
    | refine Tot.bif (fun _ => ?_) (fun _ => ?_)
    | (refine Tot.bind (l1Int_ok _ _ h3 (by decide)) ?_; rintro y ⟨hy, _⟩; exact Tot.pure ⟨hy, trivial⟩)
    | (refine Tot.bind (l1Raw_ok _ h3) ?_; rintro y ⟨hy, _⟩; exact Tot.pure ⟨hy, trivial⟩)
    | exact Tot.pure ⟨h3, trivial⟩
theorem l1New_ok (code : List Int) (hl : code.length ≤ 1048576) : Tot (spec_l1New code) (fun c => curOk c) := by
  unfold spec_l1New
  refine Tot.bind (P := fun _ => True) (Tot.while (fun s => 0 ≤ s.2 ∧ s.2 ≤ (code.length : Int)) (fun s => code.length - s.2.toNat) ?_ ⟨by simp only; omega, by simp only; omega⟩) ?_
  · rintro ⟨g, i⟩ ⟨k1, k2⟩
    simp only at k1 k2
    unfold spec_l1New_l1
    simp only
    refine Tot.bind (P := fun o => o = true → i < (code.length : Int)) (Tot.bif (fun hl => Tot.pure (fun _ => of_decide_eq_true hl)) (fun _ => Tot.pure (fun h => by cases h))) ?_
    rintro o ho
    refine Tot.bif (fun hb => ?_) (fun _ => Tot.pure trivial)
    have hlt := ho hb
    refine Tot.idx k1 hlt fun n x e hx => ?_
    refine Tot.pure ⟨⟨?_, ?_⟩, ?_⟩ <;> simp only <;> rw [wrap_id (n := i + 1) (by omega) (by omega)] <;> omega
  · rintro o _
    exact Tot.pure ⟨Int.le_refl _, hl⟩

/-! ### Draws of the moves -/
theorem spec_Has_eq (l : List Int) (a : Int) (h : l.length ≤ 1048576) : spec_Has l a = some (l.any (fun x => x == a)) := by
  unfold spec_Has
  rw [index_loop l (body := spec_Has_l1 l a) (fun x => x == a) (fun _ => true) (by omega) (fun i x hx => ?_) ?_]
  · obtain ⟨h1, h2⟩ := findL_spec (fun x => x == a) l
    cases hf : findL (fun x => x == a) l with
    | none =>
      have : l.any (fun x => x == a) = false := by rw [List.any_eq_false]; exact fun x hx => by simpa using h1 hf x hx
      rw [this]; rfl
    | some k =>
      obtain ⟨x, g1, g2, _⟩ := h2 k hf
      have : l.any (fun x => x == a) = true := by rw [List.any_eq_true]; exact ⟨x, List.mem_of_getElem? g1, g2⟩
      rw [this]; rfl
  · unfold spec_Has_l1
    simp
  · unfold spec_Has_l1
    have hlt := (List.getElem?_eq_some_iff.1 hx).1
    have : ((i : Int) < (l.length : Int)) := by omega
    simp only [this, decide_true, cond_true, idx_at hx]
theorem l17State_ok (c : T_l1Cur.D) (h : curOk c) : Tot (spec_l17State c) (fun y => curOk y.2.1 ∧ y.1.1.length ≤ 20 ∧ y.1.2.1.length ≤ 3) := by
  unfold spec_l17State
  refine Tot.bind (l5Draw_ok c h) ?_
  rintro y1 ⟨h1, g1, g2, g3⟩
  refine Tot.bind (l1Once_ok _ _ h1) ?_
  rintro y2 ⟨h2, _⟩
  refine Tot.bif (fun _ => ?_) (fun _ => Tot.pure ⟨h2, by simp only; omega, by simp only; omega⟩)
  refine Tot.bind (l5Any_ok _ h2) ?_
  rintro y3 ⟨h3, k1, k2⟩
  exact Tot.pure ⟨h3, k1, k2⟩

theorem l17Event_ok (c : T_l1Cur.D) (s : T_State.D) (ks : List Int) (h : curOk c) (hk : ks.length ≤ 1048576) : Tot (spec_l17Event c s ks) (fun y => curOk y.2.1 ∧ True) := by
  unfold spec_l17Event
  refine Tot.bind (l6Draw_ok _ _ h) ?_
  rintro y1 ⟨h1, _⟩
  refine Tot.bind (P := fun o => curOk o.2.1) (Tot.while (fun s => curOk s.2.1 ∧ 0 ≤ s.1 ∧ s.1 ≤ 6) (fun s => 6 - s.1.toNat) ?_ ⟨h1, by simp only; omega, by simp only; omega⟩) ?_
  · rintro ⟨i, cc, e⟩ ⟨k1, k2, k3⟩
    simp only at k1 k2 k3
    unfold spec_l17Event_l1
    simp only [spec_Has_eq ks _ hk, Option.bind_some]
    refine Tot.bind (P := fun o => o = true → i < 6) (Tot.bif (fun hl => Tot.pure (fun _ => of_decide_eq_true hl)) (fun _ => Tot.pure (fun h => by cases h))) ?_
    rintro o ho
    refine Tot.bif (fun hb => ?_) (fun _ => Tot.pure k1)
    have hlt := ho hb
    refine Tot.bind (l6Draw_ok _ _ k1) ?_
    rintro y7 ⟨h7, _⟩
    refine Tot.pure ⟨⟨h7, ?_, ?_⟩, ?_⟩ <;> simp only <;> rw [wrap_id (n := i + 1) (by omega) (by omega)] <;> omega
  · rintro o ho
    refine Tot.bind (l1Once_ok _ _ ho) ?_
    rintro y9 ⟨h9, _⟩
    refine Tot.bif (fun _ => ?_) (fun _ => Tot.pure ⟨h9, trivial⟩)
    refine Tot.bind (l6Any_ok _ _ h9) ?_
    rintro y10 ⟨h10, _⟩
    exact Tot.pure ⟨h10, trivial⟩

/-! ### FnBears -/
theorem drawBear_ok (code : List Int) (hl : code.length ≤ 1048576) : Tot (spec_DrawBear code) (fun y => y.1.1.length ≤ 20 ∧ y.1.2.1.length ≤ 3) := by
  unfold spec_DrawBear
  refine Tot.bind (l1New_ok code hl) ?_
  rintro c hc
  refine Tot.bind (l17State_ok c hc) ?_
  rintro y2 ⟨h2, g1, g2⟩
  refine Tot.bind (l17Event_ok _ _ _ h2 (by decide)) ?_
  rintro y3 ⟨h3, _⟩
  exact Tot.pure ⟨g1, g2⟩
theorem plus_back {l n : Int} (h1 : -2147483647 ≤ l) (h2 : l ≤ 2147483647) (hn : 0 ≤ n) (hm : n ≤ 2147483647) (h : plusV l n ≠ 2147483647) : lessV (plusV l n) n = l := by
  unfold plusV at *
  rw [boundV_id h1 h2, boundV_id (n := n) (by omega) hm, wrap_id (by omega) (by omega)] at *
  have : boundV (l + n) = l + n := by unfold boundV at h ⊢; split at h <;> (try split) <;> omega
  rw [this]
  have hb : l + n ≤ 2147483647 := by have := (boundV_in (l + n)).2; omega
  unfold lessV
  rw [boundV_id (by omega) hb, boundV_id (n := n) (by omega) hm, wrap_id (by omega) (by omega), show l + n - n = l by omega, boundV_id h1 h2]
theorem less_back {l n : Int} (h1 : -2147483647 ≤ l) (h2 : l ≤ 2147483647) (hn : 0 ≤ n) (hm : n ≤ 2147483647) (h : lessV l n ≠ -2147483647) : plusV (lessV l n) n = l := by
  unfold lessV at *
  rw [boundV_id h1 h2, boundV_id (n := n) (by omega) hm, wrap_id (by omega) (by omega)] at *
  have : boundV (l - n) = l - n := by unfold boundV at h ⊢; split <;> (try split) <;> (try split at h) <;> (try split at h) <;> omega
  rw [this]
  have hb : -2147483647 ≤ l - n := by have := (boundV_in (l - n)).1; omega
  unfold plusV
  rw [boundV_id hb (by omega), boundV_id (n := n) (by omega) hm, wrap_id (by omega) (by omega), show l - n + n = l by omega, boundV_id h1 h2]
theorem eventOk_most {k sr p d n z : Int} {bt : Bool} {u : Unit} (h : eventOkB (k, sr, p, d, n, z, bt, u) = true) : n ≤ 2147483647 := by
  unfold eventOkB at h
  rw [Bool.and_eq_true, Bool.and_eq_true] at h
  exact of_decide_eq_true h.1.2
theorem eventOk_swap {sr p d n z : Int} {bt : Bool} {u : Unit} : eventOkB (3, sr, p, d, n, z, bt, u) = eventOkB (4, sr, p, d, n, z, bt, u) := by
  unfold eventOkB; rfl
theorem bear_run3 (t : T_State.D) (sr p d n z : Int) (bt : Bool) (u : Unit) (hp : t.1.length ≤ 1048576) (hs : t.2.1.length ≤ 1048576) (h : stateOkB t = true) (he : eventOkB (3, sr, p, d, n, z, bt, u) = true) (h0 : p = 0) (j : Nat) (y : T_Side.D) (hd : d = j) (hy : t.2.1[j]? = some y) :
    impl_Bear t (3, sr, p, d, n, z, bt, u) = some ((t.1, t.2.1.set j (plusV y.1 n, y.2), t.2.2), true, ()) := by
  subst h0 hd
  have hlt := (List.getElem?_eq_some_iff.1 hy).1
  have c2 : (decide (0 ≤ (j : Int)) && decide ((j : Int) ≤ (t.2.1.length : Int) - 1)) = true := by rw [decide_eq_true (by omega), decide_eq_true (by omega)]; rfl
  unfold impl_Bear impl_reaches impl_isSide
  simp only [impl_copy_eq t hp hs, impl_StateOk_eq t hp hs, impl_EventOk_eq, h, he, from_eq, impl_Plus_eq, impl_Less_eq, Option.bind_some, Bool.not_true, cond_false]
  rw [wrap_id (n := (t.2.1.length : Int) - 1) (by omega) (by omega)]
  simp only [Int.reduceBEq, beq_self_eq_true, c2, cond_true, cond_false, Option.bind_some, idx_at hy, Int.toNat_natCast, hy, Bool.not_true]
theorem bear_run4 (t : T_State.D) (sr p d n z : Int) (bt : Bool) (u : Unit) (hp : t.1.length ≤ 1048576) (hs : t.2.1.length ≤ 1048576) (h : stateOkB t = true) (he : eventOkB (4, sr, p, d, n, z, bt, u) = true) (h0 : p = 0) (j : Nat) (y : T_Side.D) (hd : d = j) (hy : t.2.1[j]? = some y) :
    impl_Bear t (4, sr, p, d, n, z, bt, u) = some ((t.1, t.2.1.set j (lessV y.1 n, y.2), t.2.2), true, ()) := by
  subst h0 hd
  have hlt := (List.getElem?_eq_some_iff.1 hy).1
  have c2 : (decide (0 ≤ (j : Int)) && decide ((j : Int) ≤ (t.2.1.length : Int) - 1)) = true := by rw [decide_eq_true (by omega), decide_eq_true (by omega)]; rfl
  unfold impl_Bear impl_reaches impl_isSide
  simp only [impl_copy_eq t hp hs, impl_StateOk_eq t hp hs, impl_EventOk_eq, h, he, from_eq, impl_Plus_eq, impl_Less_eq, Option.bind_some, Bool.not_true, cond_false]
  rw [wrap_id (n := (t.2.1.length : Int) - 1) (by omega) (by omega)]
  simp only [Int.reduceBEq, beq_self_eq_true, c2, cond_true, cond_false, Option.bind_some, idx_at hy, Int.toNat_natCast, hy, Bool.not_true]
theorem beq_of {a b : Int} (h : ¬ a = b) : (a == b) = false := by rw [beq_eq_false_iff_ne]; exact h
theorem setPiece_eq (t : T_State.D) (x : T_Piece.D) (hp : t.1.length ≤ 1048576) (hs : t.2.1.length ≤ 1048576) {i : Nat} {y : T_Piece.D} (h : pieceAt t x.1 = i) (hy : t.1[i]? = some y) : impl_SetPiece t x = some (t.1.set i x, t.2) := by
  unfold impl_SetPiece
  simp only [impl_copy_eq t hp hs, impl_PieceAt_eq t _ hp, Option.bind_some, h]
  rw [decide_eq_true (p := (i : Int) ≥ 0) (by omega)]
  simp only [cond_true, idx_at hy, Int.toNat_natCast, hy, Option.bind_some]
theorem law_FnBears (code : List Int) (w : code.length ≤ maxLen) : laws_FnBears code = some true := by
  unfold laws_FnBears laws_big
  by_cases hb : (code.length : Int) > 1048576
  · rw [decide_eq_true hb]; rfl
  · have hl : code.length ≤ 1048576 := by omega
    obtain ⟨⟨s, v, u1⟩, hp, s1, s2⟩ := drawBear_ok code hl
    simp only at s1 s2
    rw [decide_eq_false hb]
    have hs1 : s.1.length ≤ 1048576 := by omega
    have hs2 : s.2.1.length ≤ 1048576 := by omega
    obtain ⟨r, e1, e2, hr⟩ := bear_val' s v.1 v.2.1 v.2.2.1 v.2.2.2.1 v.2.2.2.2.1 v.2.2.2.2.2.1 v.2.2.2.2.2.2.1 v.2.2.2.2.2.2.2 hs1 hs2
    have e1 : spec_Bear s v = some r := e1
    have e2 : impl_Bear s v = some r := e2
    have hz : sameSize r.1 s := by
      rcases hr with ⟨_, h⟩ | ⟨_, _, _, ⟨j, x, _, ⟨_, h⟩ | ⟨_, h⟩⟩ | ⟨i, x, _, ⟨_, h⟩ | ⟨_, h⟩⟩⟩ <;> rw [h] <;> exact ⟨by simp, by simp⟩
    have hx1 : r.1.1.length ≤ 1048576 := by rw [hz.1]; exact hs1
    have hx2 : r.1.2.1.length ≤ 1048576 := by rw [hz.2]; exact hs2
    simp only [hp, e1, e2, impl_SameState_eq _ _ hx1 hx2, eqD_refl (t := T_State) rfl, impl_StateOk_eq r.1 hx1 hx2, impl_PieceAt_eq s _ hs1, Option.bind_some, bne_self_eq_false, Bool.not_true, cond_false]
    rcases hr with ⟨h1, h2⟩ | ⟨h1, h2, h3, h4⟩
    · rw [h1, h2]
      simp only [Bool.not_false, cond_true, eqD_refl (t := T_State) rfl]
    · rw [h1]
      simp only [Bool.not_true, cond_false]
      have hso := (stateOk_iff s).1 h2
      have hn0 := eventOk_n h3
      have hnm := eventOk_most h3
      rcases h4 with ⟨j, x, ⟨g1, g2, g3⟩, h5⟩ | ⟨i, x, ⟨g1, g2, g3⟩, h5⟩
      · have hlt := (List.getElem?_eq_some_iff.1 g3).1
        have hxo := hso.2.2.2.2 x (List.mem_of_getElem? g3)
        have hlife : -2147483647 ≤ x.1 ∧ x.1 ≤ 2147483647 := by
          unfold sideOkB at hxo
          rw [Bool.and_eq_true, Bool.and_eq_true] at hxo
          exact ⟨of_decide_eq_true hxo.1.1, of_decide_eq_true hxo.1.2⟩
        rcases h5 with ⟨k3, h5⟩ | ⟨k4, h5⟩
        · have hkeep : stateOkB r.1 = true := (stateOk_iff _).2 (by rw [h5]; exact keep_side hso _ (side_bound x _ hxo (plusV_in _ _).1 (plusV_in _ _).2))
          have hev : eventOkB (4, v.2.1, v.2.2.1, v.2.2.2.1, v.2.2.2.2.1, v.2.2.2.2.2.1, v.2.2.2.2.2.2.1, v.2.2.2.2.2.2.2) = true := by rw [← eventOk_swap, ← k3]; exact h3
          have hget : r.1.2.1[j]? = some (plusV x.1 v.2.2.2.2.1, x.2) := by rw [h5]; exact get_set hlt
          have f2 : impl_Bear r.1 (4, v.2) = some ((r.1.1, r.1.2.1.set j (lessV (plusV x.1 v.2.2.2.2.1) v.2.2.2.2.1, x.2), r.1.2.2), true, ()) :=
            bear_run4 r.1 v.2.1 v.2.2.1 v.2.2.2.1 v.2.2.2.2.1 v.2.2.2.2.2.1 v.2.2.2.2.2.2.1 v.2.2.2.2.2.2.2 hx1 hx2 hkeep hev g1 j (plusV x.1 v.2.2.2.2.1, x.2) g2 hget
          have k0 : (v.1 == 3) = true := by rw [k3]; rfl
          have hz2 : (r.1.2.1.set j (lessV (plusV x.1 v.2.2.2.2.1) v.2.2.2.2.1, x.2)).length ≤ 1048576 := by rw [List.length_set]; exact hx2
          simp only [k0, cond_true, Option.bind_some, f2, g2, idx_at hget, Int.toNat_natCast, hget, hkeep, impl_SameState_eq (r.1.1, r.1.2.1.set j (lessV (plusV x.1 v.2.2.2.2.1) v.2.2.2.2.1, x.2), r.1.2.2) s hx1 hz2]
          by_cases q1 : plusV x.1 v.2.2.2.2.1 = 2147483647
          · rw [q1]; simp only [beq_self_eq_true, cond_true]
          · have hback := plus_back hlife.1 hlife.2 hn0 hnm q1
            have hst : ((r.1.1, r.1.2.1.set j (lessV (plusV x.1 v.2.2.2.2.1) v.2.2.2.2.1, x.2), r.1.2.2) : T_State.D) = s := by
              rw [hback, h5]
              simp only [List.set_set]
              rw [show s.2.1.set j (x.1, x.2) = s.2.1 from set_self g3]
            rw [hst, eqD_refl (t := T_State) rfl, beq_of q1]
            cases (plusV x.1 v.2.2.2.2.1 == -2147483647) <;> rfl
        · have hkeep : stateOkB r.1 = true := (stateOk_iff _).2 (by rw [h5]; exact keep_side hso _ (side_bound x _ hxo (lessV_in _ _).1 (lessV_in _ _).2))
          have hev : eventOkB (3, v.2.1, v.2.2.1, v.2.2.2.1, v.2.2.2.2.1, v.2.2.2.2.2.1, v.2.2.2.2.2.2.1, v.2.2.2.2.2.2.2) = true := by rw [eventOk_swap, ← k4]; exact h3
          have hget : r.1.2.1[j]? = some (lessV x.1 v.2.2.2.2.1, x.2) := by rw [h5]; exact get_set hlt
          have f2 : impl_Bear r.1 (3, v.2) = some ((r.1.1, r.1.2.1.set j (plusV (lessV x.1 v.2.2.2.2.1) v.2.2.2.2.1, x.2), r.1.2.2), true, ()) :=
            bear_run3 r.1 v.2.1 v.2.2.1 v.2.2.2.1 v.2.2.2.2.1 v.2.2.2.2.2.1 v.2.2.2.2.2.2.1 v.2.2.2.2.2.2.2 hx1 hx2 hkeep hev g1 j (lessV x.1 v.2.2.2.2.1, x.2) g2 hget
          have k0 : (v.1 == 3) = false := by rw [k4]; rfl
          have k1 : (v.1 == 4) = true := by rw [k4]; rfl
          have hz2 : (r.1.2.1.set j (plusV (lessV x.1 v.2.2.2.2.1) v.2.2.2.2.1, x.2)).length ≤ 1048576 := by rw [List.length_set]; exact hx2
          simp only [k0, k1, cond_true, cond_false, Option.bind_some, f2, g2, idx_at hget, Int.toNat_natCast, hget, hkeep, impl_SameState_eq (r.1.1, r.1.2.1.set j (plusV (lessV x.1 v.2.2.2.2.1) v.2.2.2.2.1, x.2), r.1.2.2) s hx1 hz2]
          by_cases q1 : lessV x.1 v.2.2.2.2.1 = -2147483647
          · rw [q1]
            simp only [beq_self_eq_true, cond_true]
            cases ((-2147483647 : Int) == 2147483647) <;> simp only [cond_true, cond_false]
          · have hback := less_back hlife.1 hlife.2 hn0 hnm q1
            have hst : ((r.1.1, r.1.2.1.set j (plusV (lessV x.1 v.2.2.2.2.1) v.2.2.2.2.1, x.2), r.1.2.2) : T_State.D) = s := by
              rw [hback, h5]
              simp only [List.set_set]
              rw [show s.2.1.set j (x.1, x.2) = s.2.1 from set_self g3]
            rw [hst, eqD_refl (t := T_State) rfl, beq_of q1]
            cases (lessV x.1 v.2.2.2.2.1 == 2147483647) <;> rfl
      · have hid : x.1 = v.2.2.1 := by
          rcases pieceAt_cases s v.2.2.1 with h | ⟨k', x', a1, a2, a3⟩
          · rw [h] at g1; omega
          · rw [a1] at g1
            have : k' = i := by omega
            subst this
            rw [a2] at g2
            cases g2
            exact a3
        obtain ⟨y, h5', hy⟩ : ∃ y : T_Piece.D, r.1 = (s.1.set i y, s.2) ∧ (y.1 = x.1 ∧ PcOk s y) := by
          obtain ⟨p1, p2, p3, p4⟩ := hso.2.2.1 i x g2
          obtain ⟨k0, k9⟩ := (pieceOk_iff x.1 x.2.1 x.2.2.1 x.2.2.2.1 x.2.2.2.2.1 x.2.2.2.2.2.1 x.2.2.2.2.2.2.1 x.2.2.2.2.2.2.2.1 x.2.2.2.2.2.2.2.2.1 x.2.2.2.2.2.2.2.2.2.1 x.2.2.2.2.2.2.2.2.2.2.1 x.2.2.2.2.2.2.2.2.2.2.2.1 x.2.2.2.2.2.2.2.2.2.2.2.2.1 x.2.2.2.2.2.2.2.2.2.2.2.2.2).1 p1
          have hz' : x.2.2.2.1 = 2 := by simpa using g3
          rcases k9 with ⟨_, q1, q2, q3⟩ | ⟨g, _⟩
          · rcases h5 with ⟨_, h5⟩ | ⟨_, h5⟩
            · exact ⟨_, h5, ⟨rfl, (pieceOk_iff _ _ _ _ _ _ _ _ _ _ _ _ _ _).2 ⟨k0, .inl ⟨hz', ⟨plusV_nonneg q1.1 hn0, (plusV_in _ _).2⟩, q2, q3⟩⟩, p2, p3, p4⟩⟩
            · exact ⟨_, h5, ⟨rfl, (pieceOk_iff _ _ _ _ _ _ _ _ _ _ _ _ _ _).2 ⟨k0, .inl ⟨hz', q1, ⟨plusV_nonneg q2.1 hn0, (plusV_in _ _).2⟩, q3⟩⟩, p2, p3, p4⟩⟩
          · exact absurd hz' g
        have hk0 : (v.1 == 3) = false ∧ (v.1 == 4) = false := by rcases h5 with ⟨h, _⟩ | ⟨h, _⟩ <;> rw [h] <;> exact ⟨rfl, rfl⟩
        have hkeep : stateOkB r.1 = true := (stateOk_iff _).2 (by rw [h5']; exact keep_set hso g2 y hy.1 hy.2)
        have hpa : pieceAt r.1 x.1 = i := by rw [h5', pieceAt_set g2 hy.1, hid]; exact g1
        have hyi : r.1.1[i]? = some y := by rw [h5']; exact get_set (List.getElem?_eq_some_iff.1 g2).1
        have hset : impl_SetPiece r.1 x = some s := by
          rw [setPiece_eq r.1 x hx1 hx2 hpa hyi, h5']
          simp only [List.set_set]
          rw [set_self g2]
        simp only [hk0.1, hk0.2, cond_false, hkeep, cond_true, g1, idx_at g2, hset, impl_SameState_eq s s hs1 hs2, eqD_refl (t := T_State) rfl, Option.bind_some]

end Go.Abs
