import Derived.Test.YtgccfenlidjfkaaGenG
import Derived.Test.YtgccfenlidjfkaaAbsDraw
set_option linter.unusedVariables false
set_option linter.unusedSimpArgs false
namespace Go.Abs
/-! ### Pieces found -/
def pieceAt (s : T_State.D) (a : Int) : Int := match findL (fun (x : T_Piece.D) => x.1 == a) s.1 with | some k => (k : Int) | none => -1
theorem pieceAt_cases (s : T_State.D) (a : Int) : pieceAt s a = -1 ∨ ∃ (k : Nat) (x : T_Piece.D), pieceAt s a = k ∧ s.1[k]? = some x ∧ x.1 = a := by
  unfold pieceAt
  obtain ⟨h1, h2⟩ := findL_spec (fun (x : T_Piece.D) => x.1 == a) s.1
  cases hf : findL (fun (x : T_Piece.D) => x.1 == a) s.1 with
  | none => exact .inl rfl
  | some k =>
    obtain ⟨x, g1, g2, _⟩ := h2 k hf
    exact .inr ⟨k, x, rfl, g1, by simpa using g2⟩
theorem spec_PieceAt_eq (s : T_State.D) (a : Int) (h : s.1.length ≤ 1048576) : spec_PieceAt s a = some (pieceAt s a) := by
  unfold spec_PieceAt pieceAt
  rw [index_loop s.1 (body := spec_PieceAt_l1 s a) (fun (x : T_Piece.D) => x.1 == a) (fun i => i) (by omega) (fun i x hx => ?_) ?_]
  · cases findL (fun (x : T_Piece.D) => x.1 == a) s.1 <;> rfl
  · unfold spec_PieceAt_l1
    simp
  · unfold spec_PieceAt_l1
    have hlt := (List.getElem?_eq_some_iff.1 hx).1
    have : ((i : Int) < (s.1.length : Int)) := by omega
    simp only [this, decide_true, cond_true, idx_at hx]
theorem index_piece (xs : List T_Piece.D) (hl : xs.length ≤ 1048576) (p : T_Piece.D → Bool) (q : (T_Piece.D × Unit) → Option Bool) (hq : ∀ x, q (x, ()) = some (p x)) :
    slices_IndexFunc_impl_Piece xs q = some (match findL p xs with | some k => (k : Int) | none => -1) := by
  unfold slices_IndexFunc_impl_Piece
  rw [index_loop xs (body := slices_IndexFunc_impl_Piece_l1 xs q) p (fun i => i) (by omega) (fun i x hx => ?_) ?_]
  · cases findL p xs <;> rfl
  · unfold slices_IndexFunc_impl_Piece_l1
    simp
  · unfold slices_IndexFunc_impl_Piece_l1
    have hlt := (List.getElem?_eq_some_iff.1 hx).1
    have : ((i : Int) < (xs.length : Int)) := by omega
    simp only [this, decide_true, cond_true, idx_at hx, hq, Option.bind_some]
theorem impl_PieceAt_eq (s : T_State.D) (a : Int) (h : s.1.length ≤ 1048576) : impl_PieceAt s a = some (pieceAt s a) := by
  unfold impl_PieceAt pieceAt
  rw [index_piece s.1 h (fun (x : T_Piece.D) => x.1 == a) _ (fun x => rfl)]
  rfl


/-! ### Numbers -/
theorem l1In_eq (a b c : Int) : spec_l1In a b c = some (decide (b ≤ a) && decide (a ≤ c)) := by
  unfold spec_l1In
  have : decide (a ≥ b) = decide (b ≤ a) := rfl
  simp only [this]
  cases decide (b ≤ a) <;> rfl
theorem from_eq (a b c : Int) : impl_from a b c = some (decide (b ≤ a) && decide (a ≤ c)) := by
  unfold impl_from
  have : decide (a ≥ b) = decide (b ≤ a) := rfl
  simp only [this]
  cases decide (b ≤ a) <;> rfl
def boundV (n : Int) : Int := if n > 2147483647 then 2147483647 else if n < -2147483647 then -2147483647 else n
theorem impl_Bound_eq (n : Int) : impl_Bound n = some (boundV n) := by
  unfold impl_Bound boundV
  congr 1
  split <;> split <;> (try split) <;> (try split) <;> omega
def plusV (a b : Int) : Int := boundV (IntKind.wrap .i64 (boundV a + boundV b))
def lessV (a b : Int) : Int := boundV (IntKind.wrap .i64 (boundV a - boundV b))
theorem some_ite {c : Prop} [Decidable c] (a b : Bool) : (if c then some a else some b) = some (if c then a else b) := by split <;> rfl


/-! ### Pieces and states that are right -/
def pieceOkB (p : T_Piece.D) : Bool :=
  decide (1 ≤ p.1) && decide (p.1 ≤ 99) && decide (0 ≤ p.2.1) && decide (p.2.1 ≤ 2) && decide (0 ≤ p.2.2.1) && decide (p.2.2.1 ≤ 2) && decide (1 ≤ p.2.2.2.1) && decide (p.2.2.2.1 ≤ 4) && decide (0 ≤ p.2.2.2.2.1) && decide (p.2.2.2.2.1 ≤ 9999) &&
  decide (0 ≤ p.2.2.2.2.2.1) && decide (p.2.2.2.2.2.1 ≤ 999) && decide (0 ≤ p.2.2.2.2.2.2.1) && decide (p.2.2.2.2.2.2.1 ≤ 999) && decide (0 ≤ p.2.2.2.2.2.2.2.1) && decide (p.2.2.2.2.2.2.2.1 ≤ 63) && (
    if p.2.2.2.1 = 2 then decide (0 ≤ p.2.2.2.2.2.2.2.2.1) && decide (p.2.2.2.2.2.2.2.2.1 ≤ 2147483647) && decide (0 ≤ p.2.2.2.2.2.2.2.2.2.1) && decide (p.2.2.2.2.2.2.2.2.2.1 ≤ 2147483647) && decide (0 ≤ p.2.2.2.2.2.2.2.2.2.2.1) && decide (p.2.2.2.2.2.2.2.2.2.2.1 ≤ 2147483647)
    else (p.2.2.1 == p.2.1) && (p.2.2.2.2.2.2.2.2.1 == 0) && (p.2.2.2.2.2.2.2.2.2.1 == 0) && (p.2.2.2.2.2.2.2.2.2.2.1 == 0) && !p.2.2.2.2.2.2.2.2.2.2.2.1 && !p.2.2.2.2.2.2.2.2.2.2.2.2.1)
theorem spec_PieceOk_eq (p : T_Piece.D) : spec_PieceOk p = some (pieceOkB p) := by
  obtain ⟨i, o, sd, z, t, pw, tg, tr, pl, mi, mk, dl, bt, u⟩ := p
  unfold spec_PieceOk pieceOkB
  simp only [l1In_eq, Option.bind_some, cond_eq_ite, some_ite]
  congr 1
  rw [Bool.eq_iff_iff]
  by_cases h1 : z = 2
  · subst h1; simp; grind
  · simp [h1]; grind
theorem impl_PieceOk_eq (p : T_Piece.D) : impl_PieceOk p = some (pieceOkB p) := by
  obtain ⟨i, o, sd, z, t, pw, tg, tr, pl, mi, mk, dl, bt, u⟩ := p
  unfold impl_PieceOk pieceOkB impl_isId impl_isPlayer impl_isZone impl_isTime impl_isTraits impl_isAmount
  simp only [from_eq, Option.bind_some, cond_eq_ite, some_ite, bne]
  congr 1
  rw [Bool.eq_iff_iff]
  by_cases h1 : z = 2
  · subst h1; simp; grind
  · simp [h1]; grind
def sideOkB (x : T_Side.D) : Bool := decide (-2147483647 ≤ x.1) && decide (x.1 ≤ 2147483647) && (decide (0 ≤ x.2.1) && decide (x.2.1 ≤ 2147483647))
theorem spec_l5Side_eq (x : T_Side.D) : spec_l5Side x = some (sideOkB x) := by
  unfold spec_l5Side sideOkB
  simp only [l1In_eq, Option.bind_some]
  cases (decide (-2147483647 ≤ x.1) && decide (x.1 ≤ 2147483647)) <;> rfl
theorem impl_StateOk_1_eq (x : T_Side.D) : impl_StateOk_1 x = some (!sideOkB x) := by
  unfold impl_StateOk_1 sideOkB impl_isAmount
  simp only [impl_Bound_eq, from_eq, Option.bind_some]
  have : (boundV x.1 != x.1) = !(decide (-2147483647 ≤ x.1) && decide (x.1 ≤ 2147483647)) := by
    rw [Bool.eq_iff_iff]; unfold boundV; simp; grind
  rw [this]
  cases (decide (-2147483647 ≤ x.1) && decide (x.1 ≤ 2147483647)) <;> rfl

def anyI {α : Type} (p : Nat → α → Bool) : Nat → List α → Bool
  | _, [] => false
  | i, x :: r => p i x || anyI p (i + 1) r
theorem anyI_false {α : Type} (p : Nat → α → Bool) : ∀ (xs : List α) (k : Nat), anyI p k xs = false → ∀ (i : Nat) x, xs[i]? = some x → p (k + i) x = false
  | [], _, _, i, x, hx => by simp at hx
  | y :: xs, k, h, 0, x, hx => by
    simp only [anyI, Bool.or_eq_false_iff] at h
    simp at hx
    subst hx
    exact h.1
  | y :: xs, k, h, i + 1, x, hx => by
    simp only [anyI, Bool.or_eq_false_iff] at h
    have := anyI_false p xs (k + 1) h.2 i x (by simpa using hx)
    rwa [show k + (i + 1) = k + 1 + i by omega]
theorem any_loop {α β : Type} (xs : List α) {body : Int → Option (Int ⊕ (Int ⊕ β))} (p : Nat → α → Bool) (v : β) (hlen : xs.length ≤ 9223372036854775806)
    (hb : ∀ (i : Nat) x, xs[i]? = some x → body i = bif p i x then some (.inr (.inr v)) else some (.inl (IntKind.wrap .i64 ((i : Int) + 1))))
    (he : body xs.length = some (.inr (.inl xs.length))) :
    while_ body 0 = some (bif anyI p 0 xs then .inr v else .inl xs.length) := by
  have main : ∀ (r : List α) (k : Nat), xs.drop k = r → k ≤ xs.length → while_ body k = some (bif anyI p k r then .inr v else .inl xs.length) := by
    intro r
    induction r with
    | nil =>
      intro k h hk
      have : k = xs.length := by
        have := congrArg List.length h
        simp at this
        omega
      subst this
      exact while_done he
    | cons x r ih =>
      intro k h hk
      have hlt : k < xs.length := by
        have := congrArg List.length h
        simp at this
        omega
      have hx : xs[k]? = some x := by
        have := congrArg (fun l => l[0]?) h
        simpa using this
      have hr : xs.drop (k + 1) = r := by
        have := congrArg List.tail h
        simpa using this
      unfold anyI
      cases hp : p k x with
      | true =>
        refine while_done ?_
        rw [hb k x hx, hp]
        rfl
      | false =>
        refine while_step (s' := ((k + 1 : Nat) : Int)) ?_ (ih (k + 1) hr hlt)
        rw [hb k x hx, hp]
        simp only [cond_false]
        rw [wrap_id (by omega) (by omega)]
        rfl
  have := main xs 0 rfl (by omega)
  simpa using this

def badPiece (s : T_State.D) (i : Nat) (x : T_Piece.D) : Bool :=
  !pieceOkB x || decide (x.2.1 ≥ (s.2.1.length : Int)) || decide (x.2.2.1 ≥ (s.2.1.length : Int)) || decide (x.2.2.2.2.1 > s.2.2.2.1) || (decide (0 < i) && (s.1[i - 1]?).any (fun y => decide (y.1 ≥ x.1)))
def stateOkB (s : T_State.D) : Bool :=
  decide ((s.1.length : Int) ≤ 8) && (decide (2 ≤ (s.2.1.length : Int)) && decide ((s.2.1.length : Int) ≤ 3)) && (decide (0 ≤ s.2.2.1) && decide (s.2.2.1 ≤ (s.2.1.length : Int) - 1)) && (decide (0 ≤ s.2.2.2.1) && decide (s.2.2.2.1 ≤ 9999)) && !anyI (badPiece s) 0 s.1 && !s.2.1.any (fun x => !sideOkB x)
theorem prev_piece {s : T_State.D} {i : Nat} {x : T_Piece.D} (hx : s.1[i]? = some x) (hl : s.1.length ≤ 1048576) {R : Type} (κ : T_Piece.D → Option R) (h : 0 < i) : ∃ y, s.1[i - 1]? = some y ∧ idx s.1 (IntKind.wrap .i64 ((i : Int) - 1)) κ = κ y := by
  have hlt := (List.getElem?_eq_some_iff.1 hx).1
  have hy : s.1[i - 1]? = some (s.1[i - 1]'(by omega)) := List.getElem?_eq_getElem (by omega)
  refine ⟨_, hy, ?_⟩
  rw [wrap_id (by omega) (by omega), show ((i : Int) - 1) = ((i - 1 : Nat) : Int) by omega]
  exact idx_at hy
theorem any_any {α : Type} (p : α → Bool) : ∀ (xs : List α) (k : Nat), anyI (fun _ x => p x) k xs = xs.any p
  | [], _ => rfl
  | x :: xs, k => by simp [anyI, any_any p xs]
theorem pieceOk_sides {x : T_Piece.D} (h : pieceOkB x = true) : 0 ≤ x.2.1 ∧ 0 ≤ x.2.2.1 := by
  unfold pieceOkB at h
  simp only [Bool.and_eq_true, decide_eq_true_eq] at h
  exact ⟨h.1.1.1.1.1.1.1.1.1.1.1.1.1.1.2, h.1.1.1.1.1.1.1.1.1.1.1.1.2⟩
theorem in_side {a n : Int} (h : 0 ≤ a) : (decide (0 ≤ a) && decide (a ≤ n - 1)) = !decide (a ≥ n) := by
  by_cases hh : a ≥ n
  · rw [decide_eq_true hh, decide_eq_false (p := a ≤ n - 1) (by omega), Bool.and_false]; rfl
  · rw [decide_eq_false hh, decide_eq_true (p := a ≤ n - 1) (by omega), decide_eq_true h]; rfl
theorem index_side (xs : List T_Side.D) (hl : xs.length ≤ 1048576) (p : T_Side.D → Bool) (q : (T_Side.D × Unit) → Option Bool) (hq : ∀ x, q (x, ()) = some (p x)) :
    slices_IndexFunc_impl_Side xs q = some (match findL p xs with | some k => (k : Int) | none => -1) := by
  unfold slices_IndexFunc_impl_Side
  rw [index_loop xs (body := slices_IndexFunc_impl_Side_l1 xs q) p (fun i => i) (by omega) (fun i x hx => ?_) ?_]
  · cases findL p xs <;> rfl
  · unfold slices_IndexFunc_impl_Side_l1
    simp
  · unfold slices_IndexFunc_impl_Side_l1
    have hlt := (List.getElem?_eq_some_iff.1 hx).1
    have : ((i : Int) < (xs.length : Int)) := by omega
    simp only [this, decide_true, cond_true, idx_at hx, hq, Option.bind_some]
theorem findL_any {α : Type} (p : α → Bool) (xs : List α) : decide ((match findL p xs with | some k => (k : Int) | none => -1) ≥ 0) = xs.any p := by
  obtain ⟨h1, h2⟩ := findL_spec p xs
  cases hf : findL p xs with
  | none =>
    have : xs.any p = false := by rw [List.any_eq_false]; exact fun x hx => by simp [h1 hf x hx]
    rw [this]; rfl
  | some k =>
    obtain ⟨x, g1, g2, _⟩ := h2 k hf
    have : xs.any p = true := by rw [List.any_eq_true]; exact ⟨x, List.mem_of_getElem? g1, g2⟩
    rw [this]
    simp
theorem spec_StateOk_eq (s : T_State.D) (hp : s.1.length ≤ 1048576) (hs : s.2.1.length ≤ 1048576) : spec_StateOk s = some (stateOkB s) := by
  unfold spec_StateOk stateOkB
  simp only [l1In_eq, Option.bind_some]
  rw [wrap_id (by omega) (by omega)]
  have hd : decide ((s.1.length : Int) > 8) = !decide ((s.1.length : Int) ≤ 8) := by rw [Bool.eq_iff_iff]; simp
  rw [hd]
  cases decide ((s.1.length : Int) ≤ 8)
  · rfl
  cases (decide (2 ≤ (s.2.1.length : Int)) && decide ((s.2.1.length : Int) ≤ 3))
  · rfl
  cases (decide (0 ≤ s.2.2.1) && decide (s.2.2.1 ≤ (s.2.1.length : Int) - 1))
  · rfl
  cases (decide (0 ≤ s.2.2.2.1) && decide (s.2.2.2.1 ≤ 9999))
  · rfl
  simp only [Bool.not_true, cond_false, Option.bind_some, Bool.true_and]
  rw [any_loop s.1 (body := spec_StateOk_l1 s) (badPiece s) false (by omega) (fun i x hx => ?_) (by unfold spec_StateOk_l1; simp)]
  · rw [any_loop s.2.1 (body := spec_StateOk_l2 s) (fun _ x => !sideOkB x) false (by omega) (fun i x hx => ?_) (by unfold spec_StateOk_l2; simp), any_any]
    · cases anyI (badPiece s) 0 s.1 <;> cases s.2.1.any (fun x => !sideOkB x) <;> rfl
    · have hlt := (List.getElem?_eq_some_iff.1 hx).1
      have hil : ((i : Int) < (s.2.1.length : Int)) := by omega
      unfold spec_StateOk_l2
      simp only [hil, decide_true, cond_true, idx_at hx, spec_l5Side_eq, Option.bind_some]
  · have hlt := (List.getElem?_eq_some_iff.1 hx).1
    have hil : ((i : Int) < (s.1.length : Int)) := by omega
    unfold spec_StateOk_l1 badPiece
    simp only [hil, decide_true, cond_true, idx_at hx, spec_PieceOk_eq, Option.bind_some]
    by_cases hi : 0 < i
    · obtain ⟨y, hy, hk⟩ := prev_piece hx hp (fun x8 => bif decide (x8.1 ≥ x.1) then some true else bif decide (x.2.1 ≥ (s.2.1.length : Int)) then some true else bif decide (x.2.2.1 ≥ (s.2.1.length : Int)) then some true else some (decide (x.2.2.2.2.1 > s.2.2.2.1))) hi
      have h1 : decide ((i : Int) > 0) = true := by simp; omega
      have h2 : decide (0 < i) = true := by simpa using hi
      rw [h1, h2, hy]
      simp only [cond_true, hk, Option.any_some]
      cases pieceOkB x <;> cases decide (y.1 ≥ x.1) <;> cases decide (x.2.1 ≥ (s.2.1.length : Int)) <;> cases decide (x.2.2.1 ≥ (s.2.1.length : Int)) <;> cases decide (x.2.2.2.2.1 > s.2.2.2.1) <;> rfl
    · have h1 : decide ((i : Int) > 0) = false := by simp; omega
      have h2 : decide (0 < i) = false := by simpa using hi
      rw [h1, h2]
      simp only [cond_false]
      cases pieceOkB x <;> cases decide (x.2.1 ≥ (s.2.1.length : Int)) <;> cases decide (x.2.2.1 ≥ (s.2.1.length : Int)) <;> cases decide (x.2.2.2.2.1 > s.2.2.2.1) <;> rfl
theorem impl_StateOk_eq (s : T_State.D) (hp : s.1.length ≤ 1048576) (hs : s.2.1.length ≤ 1048576) : impl_StateOk s = some (stateOkB s) := by
  unfold impl_StateOk stateOkB impl_isSide impl_isTime
  simp only [from_eq, Option.bind_some]
  rw [wrap_id (by omega) (by omega)]
  have hd : decide ((s.1.length : Int) > 8) = !decide ((s.1.length : Int) ≤ 8) := by rw [Bool.eq_iff_iff]; simp
  rw [hd]
  cases decide ((s.1.length : Int) ≤ 8)
  · rfl
  cases (decide (2 ≤ (s.2.1.length : Int)) && decide ((s.2.1.length : Int) ≤ 3))
  · rfl
  cases (decide (0 ≤ s.2.2.1) && decide (s.2.2.1 ≤ (s.2.1.length : Int) - 1))
  · rfl
  cases (decide (0 ≤ s.2.2.2.1) && decide (s.2.2.2.1 ≤ 9999))
  · rfl
  simp only [Bool.not_true, cond_false, Option.bind_some, Bool.true_and]
  have hc : slices_ContainsFunc_impl_Side s.2.1 (fun q => impl_StateOk_1 q.1) = some (s.2.1.any (fun x => !sideOkB x)) := by
    unfold slices_ContainsFunc_impl_Side
    rw [index_side s.2.1 hs (fun x => !sideOkB x) _ (fun x => impl_StateOk_1_eq x), Option.bind_some, findL_any]
  rw [any_loop s.1 (body := impl_StateOk_l1 s) (badPiece s) false (by omega) (fun i x hx => ?_) (by unfold impl_StateOk_l1; simp)]
  · rw [hc]
    cases anyI (badPiece s) 0 s.1 <;> cases s.2.1.any (fun x => !sideOkB x) <;> rfl
  · have hlt := (List.getElem?_eq_some_iff.1 hx).1
    have hil : ((i : Int) < (s.1.length : Int)) := by omega
    unfold impl_StateOk_l1 badPiece impl_isSide
    simp only [hil, decide_true, cond_true, idx_at hx, impl_PieceOk_eq, from_eq, Option.bind_some]
    rw [wrap_id (n := (s.2.1.length : Int) - 1) (by omega) (by omega)]
    cases hok : pieceOkB x
    · rfl
    obtain ⟨g1, g2⟩ := pieceOk_sides hok
    have e1 : (decide (0 ≤ x.2.1) && decide (x.2.1 ≤ (s.2.1.length : Int) - 1)) = !decide (x.2.1 ≥ (s.2.1.length : Int)) := in_side g1
    have e2 : (decide (0 ≤ x.2.2.1) && decide (x.2.2.1 ≤ (s.2.1.length : Int) - 1)) = !decide (x.2.2.1 ≥ (s.2.1.length : Int)) := in_side g2
    rw [e1, e2]
    by_cases hi : 0 < i
    · obtain ⟨y, hy, hk⟩ := prev_piece hx hp (fun x10 => some (decide (x10.1 ≥ x.1))) hi
      have h1 : decide ((i : Int) > 0) = true := by simp; omega
      have h2 : decide (0 < i) = true := by simpa using hi
      rw [h1, h2, hy]
      simp only [cond_true, hk, Option.any_some]
      cases decide (y.1 ≥ x.1) <;> cases decide (x.2.1 ≥ (s.2.1.length : Int)) <;> cases decide (x.2.2.1 ≥ (s.2.1.length : Int)) <;> cases decide (x.2.2.2.2.1 > s.2.2.2.1) <;> rfl
    · have h1 : decide ((i : Int) > 0) = false := by simp; omega
      have h2 : decide (0 < i) = false := by simpa using hi
      rw [h1, h2]
      simp only [cond_false]
      cases decide (x.2.1 ≥ (s.2.1.length : Int)) <;> cases decide (x.2.2.1 ≥ (s.2.1.length : Int)) <;> cases decide (x.2.2.2.2.1 > s.2.2.2.1) <;> rfl

/-! ### Events that are right -/
def eventOkB (e : T_Event.D) : Bool :=
  let piece := decide (1 ≤ e.2.2.1) && decide (e.2.2.1 ≤ 99) && (e.2.2.2.1 == -1)
  let side := (e.2.2.1 == 0) && decide (0 ≤ e.2.2.2.1) && decide (e.2.2.2.1 ≤ 2)
  decide (0 ≤ e.2.2.2.2.1) && decide (e.2.2.2.2.1 ≤ 2147483647) && (
    if e.1 = 1 then decide (1 ≤ e.2.1) && decide (e.2.1 ≤ 99) && (piece || side) && (e.2.2.2.2.2.1 == 0) && !e.2.2.2.2.2.2.1
    else if e.1 = 2 then (e.2.1 == 0) && piece && decide (1 ≤ e.2.2.2.2.2.1) && decide (e.2.2.2.2.2.1 ≤ 4) && decide (e.2.2.2.2.1 ≤ 99) && ((e.2.2.2.2.2.1 == 2) || (e.2.2.2.2.1 == 0) && !e.2.2.2.2.2.2.1)
    else if e.1 = 3 ∨ e.1 = 4 then (e.2.1 == 0) && side && (e.2.2.2.2.2.1 == 0) && !e.2.2.2.2.2.2.1
    else if e.1 = 5 ∨ e.1 = 6 then (e.2.1 == 0) && piece && (e.2.2.2.2.2.1 == 0) && !e.2.2.2.2.2.2.1
    else false)

theorem spec_EventOk_eq (e : T_Event.D) : spec_EventOk e = some (eventOkB e) := by
  obtain ⟨k, s, p, d, n, z, bt, u⟩ := e
  unfold spec_EventOk eventOkB
  simp only [l1In_eq, Option.bind_some, cond_eq_ite, some_ite]
  congr 1
  rw [Bool.eq_iff_iff]
  by_cases h1 : k = 1
  · subst h1; simp; grind
  by_cases h2 : k = 2
  · subst h2; simp; grind
  by_cases h3 : k = 3
  · subst h3; simp; grind
  by_cases h4 : k = 4
  · subst h4; simp; grind
  by_cases h5 : k = 5
  · subst h5; simp; grind
  by_cases h6 : k = 6
  · subst h6; simp; grind
  simp [h1, h2, h3, h4, h5, h6]
theorem impl_EventOk_eq (e : T_Event.D) : impl_EventOk e = some (eventOkB e) := by
  obtain ⟨k, s, p, d, n, z, bt, u⟩ := e
  unfold impl_EventOk eventOkB impl_isAmount impl_onPiece impl_onPlayer impl_isId impl_isZone impl_isPlayer
  simp only [from_eq, Option.bind_some, cond_eq_ite, some_ite, bne]
  congr 1
  rw [Bool.eq_iff_iff]
  by_cases h1 : k = 1
  · subst h1; simp; grind
  by_cases h2 : k = 2
  · subst h2; simp; grind
  by_cases h3 : k = 3
  · subst h3; simp; grind
  by_cases h4 : k = 4
  · subst h4; simp; grind
  by_cases h5 : k = 5
  · subst h5; simp; grind
  by_cases h6 : k = 6
  · subst h6; simp; grind
  simp [h1, h2, h3, h4, h5, h6]

theorem eventOk_facts {k s p d n z : Int} {bt : Bool} {u : Unit} (h : eventOkB (k, s, p, d, n, z, bt, u) = true) :
    (k = 1 ∧ (1 ≤ p ∨ p = 0 ∧ 0 ≤ d)) ∨ (k = 2 ∧ 1 ≤ p) ∨ ((k = 3 ∨ k = 4) ∧ p = 0 ∧ 0 ≤ d) ∨ ((k = 5 ∨ k = 6) ∧ 1 ≤ p) := by
  unfold eventOkB at h
  by_cases h1 : k = 1
  · subst h1; simp at h; grind
  by_cases h2 : k = 2
  · subst h2; simp at h; grind
  by_cases h3 : k = 3
  · subst h3; simp at h; grind
  by_cases h4 : k = 4
  · subst h4; simp at h; grind
  by_cases h5 : k = 5
  · subst h5; simp at h; grind
  by_cases h6 : k = 6
  · subst h6; simp at h; grind
  simp [h1, h2, h3, h4, h5, h6] at h

/-! ### Copies -/
theorem clonePiece_eq (xs : List T_Piece.D) (h : xs.length ≤ 1048576) : slices_Clone_impl_Piece xs = some xs := by
  unfold slices_Clone_impl_Piece
  rw [if_pos (by simp only [room, List.length_nil]; omega)]
  rfl
theorem cloneSide_eq (xs : List T_Side.D) (h : xs.length ≤ 1048576) : slices_Clone_impl_Side xs = some xs := by
  unfold slices_Clone_impl_Side
  rw [if_pos (by simp only [room, List.length_nil]; omega)]
  rfl
theorem impl_copy_eq (s : T_State.D) (hp : s.1.length ≤ 1048576) (hs : s.2.1.length ≤ 1048576) : impl_copyState s = some s := by
  unfold impl_copyState
  simp only [clonePiece_eq _ hp, cloneSide_eq _ hs, Option.bind_some]
theorem spec_copy_eq (s : T_State.D) (hp : s.1.length ≤ 1048576) (hs : s.2.1.length ≤ 1048576) : spec_l5Copy s = some s := by
  unfold spec_l5Copy
  rw [if_pos (by simp only [room, List.length_nil]; omega), if_pos (by simp only [room, List.length_nil]; omega)]
  rfl
/-- An element read to be written. -/
theorem ref_at {α R : Type} {xs : List α} {i : Nat} {x : α} {κ : α → Option R} (h : xs[i]? = some x) : (idx xs (i : Int) fun _ => (xs[((i : Int)).toNat]?).bind κ) = κ x := by
  rw [idx_at h, Int.toNat_natCast, h, Option.bind_some]
/-- Two states of the same size. -/
def sameSize (a b : T_State.D) : Prop := a.1.length = b.1.length ∧ a.2.1.length = b.2.1.length


/-! ### Carry -/
def movedV (x : T_Piece.D) (v : T_Event.D) (c : Int) : T_Piece.D :=
  bif v.2.2.2.2.2.1 == 2 then (x.1, x.2.1, x.2.1, v.2.2.2.2.2.1, c, x.2.2.2.2.2.1, x.2.2.2.2.2.2.1, x.2.2.2.2.2.2.2.1, v.2.2.2.2.1, 0, 0, false, v.2.2.2.2.2.2)
  else (x.1, x.2.1, x.2.1, v.2.2.2.2.2.1, c, x.2.2.2.2.2.1, x.2.2.2.2.2.2.1, x.2.2.2.2.2.2.2.1, 0, 0, 0, false, false, ())
def CarryR (s : T_State.D) (v : T_Event.D) (r : T_State.D × (Bool × Unit)) : Prop :=
  (r.2.1 = false ∧ r.1 = s) ∨ (r.2.1 = true ∧ stateOkB s = true ∧ eventOkB v = true ∧ v.1 = 2 ∧ ∃ (k : Nat) (x : T_Piece.D), pieceAt s v.2.2.1 = k ∧ s.1[k]? = some x ∧ x.1 = v.2.2.1 ∧ (x.2.2.2.1 == v.2.2.2.2.2.1) = false ∧ r.1 = (s.1.set k (movedV x v s.2.2.2.1), s.2))
theorem carry_val (s : T_State.D) (v : T_Event.D) (hp : s.1.length ≤ 1048576) (hs : s.2.1.length ≤ 1048576) : ∃ r, spec_Carry s v = some r ∧ impl_Carry s v = some r ∧ CarryR s v r := by
  unfold spec_Carry impl_Carry
  simp only [spec_copy_eq s hp hs, impl_copy_eq s hp hs, spec_PieceAt_eq s _ hp, impl_PieceAt_eq s _ hp, spec_StateOk_eq s hp hs, impl_StateOk_eq s hp hs, spec_EventOk_eq, impl_EventOk_eq, Option.bind_some]
  cases h1 : stateOkB s
  · exact ⟨_, rfl, rfl, .inl ⟨rfl, rfl⟩⟩
  cases h2 : eventOkB v
  · exact ⟨_, rfl, rfl, .inl ⟨rfl, rfl⟩⟩
  cases h3 : (v.1 != 2)
  case true => exact ⟨_, rfl, rfl, .inl ⟨rfl, rfl⟩⟩
  have h3 : v.1 = 2 := by simpa using h3
  rcases pieceAt_cases s v.2.2.1 with h | ⟨k, x, g1, g2, g3⟩
  · rw [h]; exact ⟨_, rfl, rfl, .inl ⟨rfl, rfl⟩⟩
  · rw [g1, dec_neg (by omega)]
    simp only [cond_false, Bool.not_true, Option.bind_some, idx_at g2, Int.toNat_natCast, g2]
    cases h4 : (x.2.2.2.1 == v.2.2.2.2.2.1)
    · simp only [cond_false]
      have e1 : ∀ a b, spec_Moved x a b = some (x.1, x.2.1, x.2.1, a, b, x.2.2.2.2.2.1, x.2.2.2.2.2.2.1, x.2.2.2.2.2.2.2.1, 0, 0, 0, false, false, ()) := fun a b => rfl
      have e2 : ∀ a b, impl_Moved x a b = some (x.1, x.2.1, x.2.1, a, b, x.2.2.2.2.2.1, x.2.2.2.2.2.2.1, x.2.2.2.2.2.2.2.1, 0, 0, 0, false, false, ()) := fun a b => rfl
      simp only [e1, e2, Option.bind_some]
      refine ⟨((s.1.set k (movedV x v s.2.2.2.1), s.2), true, ()), ?_, ?_, .inr ⟨rfl, h1, h2, h3, k, x, g1, g2, g3, h4, rfl⟩⟩ <;> unfold movedV <;> cases (v.2.2.2.2.2.1 == 2) <;> rfl
    · exact ⟨_, rfl, rfl, .inl ⟨rfl, rfl⟩⟩
theorem carry_eq (s : T_State.D) (v : T_Event.D) (hp : s.1.length ≤ 1048576) (hs : s.2.1.length ≤ 1048576) : ∃ r, spec_Carry s v = some r ∧ impl_Carry s v = some r ∧ sameSize r.1 s := by
  obtain ⟨r, h1, h2, h3⟩ := carry_val s v hp hs
  refine ⟨r, h1, h2, ?_⟩
  rcases h3 with ⟨_, h⟩ | ⟨_, _, _, _, k, x, _, _, _, _, h⟩
  · rw [h]; exact ⟨rfl, rfl⟩
  · rw [h]; exact ⟨by simp, rfl⟩



/-! ### States that are right, as statements -/
theorem anyI_iff {α : Type} (p : Nat → α → Bool) : ∀ (xs : List α) (k : Nat), anyI p k xs = false ↔ ∀ (i : Nat) x, xs[i]? = some x → p (k + i) x = false
  | [], _ => by simp [anyI]
  | y :: xs, k => by
    simp only [anyI, Bool.or_eq_false_iff, anyI_iff p xs (k + 1)]
    constructor
    · rintro ⟨h1, h2⟩ i x hx
      cases i with
      | zero => simp at hx; subst hx; exact h1
      | succ i => rw [show k + (i + 1) = k + 1 + i by omega]; exact h2 i x (by simpa using hx)
    · intro h
      refine ⟨h 0 y (by simp), fun i x hx => ?_⟩
      rw [show k + 1 + i = k + (i + 1) by omega]
      exact h (i + 1) x (by simpa using hx)
def PcOk (s : T_State.D) (x : T_Piece.D) : Prop := pieceOkB x = true ∧ x.2.1 < (s.2.1.length : Int) ∧ x.2.2.1 < (s.2.1.length : Int) ∧ x.2.2.2.2.1 ≤ s.2.2.2.1
def StOk (s : T_State.D) : Prop :=
  (s.1.length ≤ 8 ∧ 2 ≤ s.2.1.length ∧ s.2.1.length ≤ 3) ∧ ((0 ≤ s.2.2.1 ∧ s.2.2.1 ≤ (s.2.1.length : Int) - 1) ∧ (0 ≤ s.2.2.2.1 ∧ s.2.2.2.1 ≤ 9999)) ∧
  (∀ (i : Nat) x, s.1[i]? = some x → PcOk s x) ∧ (∀ (i : Nat) x y, s.1[i]? = some x → s.1[i + 1]? = some y → x.1 < y.1) ∧ ∀ x ∈ s.2.1, sideOkB x = true
theorem stateOk_iff (s : T_State.D) : stateOkB s = true ↔ StOk s := by
  unfold stateOkB StOk
  simp only [Bool.and_eq_true, decide_eq_true_eq, Bool.not_eq_true', anyI_iff, Nat.zero_add, List.any_eq_false]
  constructor
  · rintro ⟨⟨⟨⟨⟨h1, h2⟩, h3⟩, h4⟩, h5⟩, h6⟩
    refine ⟨⟨by omega, by omega, by omega⟩, ⟨h3, h4⟩, fun i x hx => ?_, fun i x y hx hy => ?_, fun x hx => by simpa using h6 x hx⟩
    · have := h5 i x hx
      unfold badPiece at this
      simp only [Bool.or_eq_false_iff, Bool.not_eq_false', decide_eq_false_iff_not] at this
      obtain ⟨⟨⟨⟨g1, g2⟩, g3⟩, g4⟩, _⟩ := this
      exact ⟨g1, Int.not_le.1 g2, Int.not_le.1 g3, Int.not_lt.1 g4⟩
    · have := h5 (i + 1) y hy
      unfold badPiece at this
      simp only [Bool.or_eq_false_iff, Bool.and_eq_false_iff, Nat.add_sub_cancel, hx, Option.any_some, decide_eq_false_iff_not] at this
      rcases this.2 with h | h
      · omega
      · exact Int.not_le.1 h
  · rintro ⟨⟨h1, h2, h2'⟩, ⟨h3, h4⟩, h5, h6, h7⟩
    refine ⟨⟨⟨⟨⟨by omega, by omega, by omega⟩, h3⟩, h4⟩, fun i x hx => ?_⟩, fun x hx => by simpa using h7 x hx⟩
    obtain ⟨g1, g2, g3, g4⟩ := h5 i x hx
    unfold badPiece
    simp only [Bool.or_eq_false_iff, Bool.not_eq_false', decide_eq_false_iff_not, Bool.and_eq_false_iff]
    refine ⟨⟨⟨⟨g1, Int.not_le.2 g2⟩, Int.not_le.2 g3⟩, Int.not_lt.2 g4⟩, ?_⟩
    cases i with
    | zero => left; simp
    | succ i =>
      right
      simp only [Nat.add_sub_cancel]
      have hlt := (List.getElem?_eq_some_iff.1 hx).1
      have hp : s.1[i]? = some (s.1[i]'(by omega)) := List.getElem?_eq_getElem (by omega)
      rw [hp, Option.any_some, decide_eq_false_iff_not]
      exact Int.not_le.2 (h6 i _ x hp hx)
theorem keep_pieces {s : T_State.D} (h : StOk s) (ps : List T_Piece.D) (hl : ps.length = s.1.length) (hk : ∀ (i : Nat) x y, s.1[i]? = some x → ps[i]? = some y → y.1 = x.1 ∧ PcOk s y) : StOk (ps, s.2) := by
  obtain ⟨⟨h1, h2, h2'⟩, h3, h5, h6, h7⟩ := h
  have hget : ∀ (i : Nat) y, ps[i]? = some y → ∃ x, s.1[i]? = some x := fun i y hy => ⟨_, List.getElem?_eq_getElem (by have := (List.getElem?_eq_some_iff.1 hy).1; omega)⟩
  refine ⟨⟨by simp only; omega, h2, h2'⟩, h3, fun i y hy => ?_, fun i x y hx hy => ?_, h7⟩
  · obtain ⟨x, hx⟩ := hget i y hy
    exact (hk i x y hx hy).2
  · obtain ⟨x', hx'⟩ := hget i x hx
    obtain ⟨y', hy'⟩ := hget (i + 1) y hy
    have e1 := (hk i x' x hx' hx).1
    have e2 := (hk (i + 1) y' y hy' hy).1
    have := h6 i x' y' hx' hy'
    rw [e1, e2]
    exact this
theorem keep_set {s : T_State.D} (h : StOk s) {i : Nat} {x : T_Piece.D} (hx : s.1[i]? = some x) (y : T_Piece.D) (he : y.1 = x.1) (hy : PcOk s y) : StOk (s.1.set i y, s.2) := by
  refine keep_pieces h _ (by simp) fun j a b ha hb => ?_
  by_cases hj : i = j
  · subst hj
    have hlt := (List.getElem?_eq_some_iff.1 hx).1
    rw [get_set hlt] at hb
    cases hb
    rw [hx] at ha
    cases ha
    exact ⟨he, hy⟩
  · rw [List.getElem?_set_ne hj] at hb
    rw [ha] at hb
    cases hb
    exact ⟨rfl, h.2.2.1 j _ ha⟩
theorem keep_sides {s : T_State.D} (h : StOk s) (ss : List T_Side.D) (hl : ss.length = s.2.1.length) (hk : ∀ x ∈ ss, sideOkB x = true) : StOk (s.1, ss, s.2.2) := by
  obtain ⟨⟨h1, h2, h2'⟩, ⟨h3, h4⟩, h5, h6, h7⟩ := h
  refine ⟨⟨h1, by simp only; omega, by simp only; omega⟩, ⟨by simp only; rw [hl]; exact h3, h4⟩, fun i x hx => ?_, h6, hk⟩
  obtain ⟨g1, g2, g3, g4⟩ := h5 i x hx
  exact ⟨g1, by simp only; rw [hl]; exact g2, by simp only; rw [hl]; exact g3, g4⟩
theorem keep_side {s : T_State.D} (h : StOk s) {j : Nat} (y : T_Side.D) (hy : sideOkB y = true) : StOk (s.1, s.2.1.set j y, s.2.2) := by
  refine keep_sides h _ (by simp) fun x hx => ?_
  rcases List.mem_or_eq_of_mem_set hx with hm | rfl
  · exact h.2.2.2.2 x hm
  · exact hy
theorem boundV_in (n : Int) : -2147483647 ≤ boundV n ∧ boundV n ≤ 2147483647 := by unfold boundV; split <;> (try split) <;> omega
theorem boundV_id {n : Int} (h1 : -2147483647 ≤ n) (h2 : n ≤ 2147483647) : boundV n = n := by unfold boundV; split <;> (try split) <;> omega
theorem plusV_in (a b : Int) : -2147483647 ≤ plusV a b ∧ plusV a b ≤ 2147483647 := boundV_in _
theorem lessV_in (a b : Int) : -2147483647 ≤ lessV a b ∧ lessV a b ≤ 2147483647 := boundV_in _
theorem plusV_nonneg {a b : Int} (ha : 0 ≤ a) (hb : 0 ≤ b) : 0 ≤ plusV a b := by
  unfold plusV
  have h1 := boundV_in a
  have h2 := boundV_in b
  have h3 : 0 ≤ boundV a := by unfold boundV; split <;> (try split) <;> omega
  have h4 : 0 ≤ boundV b := by unfold boundV; split <;> (try split) <;> omega
  rw [wrap_id (by omega) (by omega)]
  unfold boundV
  split <;> (try split) <;> omega


theorem pieceOk_iff (i o sd z t pw tg tr pl mi mk : Int) (dl bt : Bool) (u : Unit) : pieceOkB (i, o, sd, z, t, pw, tg, tr, pl, mi, mk, dl, bt, u) = true ↔
    ((1 ≤ i ∧ i ≤ 99) ∧ (0 ≤ o ∧ o ≤ 2) ∧ (0 ≤ sd ∧ sd ≤ 2) ∧ (1 ≤ z ∧ z ≤ 4) ∧ (0 ≤ t ∧ t ≤ 9999) ∧ (0 ≤ pw ∧ pw ≤ 999) ∧ (0 ≤ tg ∧ tg ≤ 999) ∧ (0 ≤ tr ∧ tr ≤ 63)) ∧
    ((z = 2 ∧ (0 ≤ pl ∧ pl ≤ 2147483647) ∧ (0 ≤ mi ∧ mi ≤ 2147483647) ∧ (0 ≤ mk ∧ mk ≤ 2147483647)) ∨ (z ≠ 2 ∧ sd = o ∧ pl = 0 ∧ mi = 0 ∧ mk = 0 ∧ dl = false ∧ bt = false)) := by
  unfold pieceOkB
  by_cases h : z = 2
  · subst h; simp; grind
  · simp [h]; grind
theorem moved_ok (s : T_State.D) (h : StOk s) (z : Int) (hz : 1 ≤ z ∧ z ≤ 4) (x : T_Piece.D) (hx : PcOk s x) : PcOk s (x.1, x.2.1, x.2.1, z, s.2.2.2.1, x.2.2.2.2.2.1, x.2.2.2.2.2.2.1, x.2.2.2.2.2.2.2.1, 0, 0, 0, false, false, ()) := by
  obtain ⟨h1, h2, h3, h4⟩ := hx
  obtain ⟨⟨k1, k2, k3, k4, k5, k6, k7, k8⟩, _⟩ := (pieceOk_iff x.1 x.2.1 x.2.2.1 x.2.2.2.1 x.2.2.2.2.1 x.2.2.2.2.2.1 x.2.2.2.2.2.2.1 x.2.2.2.2.2.2.2.1 x.2.2.2.2.2.2.2.2.1 x.2.2.2.2.2.2.2.2.2.1 x.2.2.2.2.2.2.2.2.2.2.1 x.2.2.2.2.2.2.2.2.2.2.2.1 x.2.2.2.2.2.2.2.2.2.2.2.2.1 x.2.2.2.2.2.2.2.2.2.2.2.2.2).1 h1
  refine ⟨(pieceOk_iff _ _ _ _ _ _ _ _ _ _ _ _ _ _).2 ⟨⟨k1, k2, k2, hz, h.2.1.2, k6, k7, k8⟩, ?_⟩, h2, h2, Int.le_refl _⟩
  by_cases h' : z = 2
  · exact .inl ⟨h', ⟨by decide, by decide⟩, ⟨by decide, by decide⟩, ⟨by decide, by decide⟩⟩
  · exact .inr ⟨h', rfl, rfl, rfl, rfl, rfl, rfl⟩

theorem set_self {α : Type} : ∀ {ys : List α} {i : Nat} {x : α}, ys[i]? = some x → ys.set i x = ys
  | [], _, _, _ => by simp
  | y :: ys, 0, x, h => by simp at h; simp [h]
  | y :: ys, i + 1, x, h => by simp only [List.set_cons_succ]; rw [set_self (by simpa using h)]

/-! ### What Carry keeps -/
theorem findL_map {α β : Type} (f : α → β) (p : β → Bool) : ∀ (xs : List α), findL (fun x => p (f x)) xs = findL p (xs.map f)
  | [] => rfl
  | x :: xs => by simp only [findL, List.map_cons, findL_map f p xs]
theorem pieceAt_ids (s t : T_State.D) (a : Int) (h : s.1.map (fun (x : T_Piece.D) => x.1) = t.1.map (fun (x : T_Piece.D) => x.1)) : pieceAt s a = pieceAt t a := by
  have e : ∀ (r : T_State.D), findL (fun (x : T_Piece.D) => x.1 == a) r.1 = findL (fun i => i == a) (r.1.map (fun (x : T_Piece.D) => x.1)) := fun r => findL_map (fun (x : T_Piece.D) => x.1) (fun i => i == a) r.1
  unfold pieceAt
  rw [e s, e t, h]
theorem pieceAt_set {s : T_State.D} {k : Nat} {x y : T_Piece.D} (hx : s.1[k]? = some x) (he : y.1 = x.1) (u : (List T_Side.D) × (Int × (Int × Unit))) (a : Int) : pieceAt (s.1.set k y, u) a = pieceAt s a := by
  refine pieceAt_ids _ _ a ?_
  simp only [List.map_set, he]
  exact set_self (by rw [List.getElem?_map, hx]; rfl)
theorem movedV_facts (s : T_State.D) (h : StOk s) (x : T_Piece.D) (hx : PcOk s x) (k sr p d n z : Int) (bt : Bool) (u : Unit) (he : eventOkB (k, sr, p, d, n, z, bt, u) = true) (hk : k = 2) :
    (movedV x (k, sr, p, d, n, z, bt, u) s.2.2.2.1).1 = x.1 ∧ PcOk s (movedV x (k, sr, p, d, n, z, bt, u) s.2.2.2.1) ∧ (movedV x (k, sr, p, d, n, z, bt, u) s.2.2.2.1).2.2.2.1 = z ∧ (movedV x (k, sr, p, d, n, z, bt, u) s.2.2.2.1).2.2.2.2.1 = s.2.2.2.1 ∧
      (movedV x (k, sr, p, d, n, z, bt, u) s.2.2.2.1).2.2.2.2.2.2.2.2.2.2.1 = 0 ∧ (movedV x (k, sr, p, d, n, z, bt, u) s.2.2.2.1).2.2.1 = (movedV x (k, sr, p, d, n, z, bt, u) s.2.2.2.1).2.1 ∧ (movedV x (k, sr, p, d, n, z, bt, u) s.2.2.2.1).2.2.2.2.2.2.2.2.1 = n := by
  subst hk
  have hf : (1 ≤ z ∧ z ≤ 4) ∧ (0 ≤ n ∧ n ≤ 99) ∧ (z = 2 ∨ n = 0) := by
    unfold eventOkB at he
    simp at he
    grind
  obtain ⟨hz, hn, hzn⟩ := hf
  by_cases hz2 : z = 2
  · subst hz2
    obtain ⟨g1, g2, g3, g4⟩ := moved_ok s h 2 (by decide) x hx
    obtain ⟨k0, _⟩ := (pieceOk_iff _ _ _ _ _ _ _ _ _ _ _ _ _ _).1 g1
    exact ⟨rfl, ⟨(pieceOk_iff _ _ _ _ _ _ _ _ _ _ _ _ _ _).2 ⟨k0, .inl ⟨rfl, ⟨hn.1, show n ≤ 2147483647 by omega⟩, ⟨by decide, by decide⟩, ⟨by decide, by decide⟩⟩⟩, g2, g3, g4⟩, rfl, rfl, rfl, rfl, rfl⟩
  · have hn0 : n = 0 := by omega
    subst hn0
    have hb : (z == 2) = false := by rw [beq_eq_false_iff_ne]; exact hz2
    have e : movedV x (2, sr, p, d, 0, z, bt, u) s.2.2.2.1 = (x.1, x.2.1, x.2.1, z, s.2.2.2.1, x.2.2.2.2.2.1, x.2.2.2.2.2.2.1, x.2.2.2.2.2.2.2.1, 0, 0, 0, false, false, ()) := by
      unfold movedV
      simp only [hb, cond_false]
    rw [e]
    exact ⟨rfl, moved_ok s h z hz x hx, rfl, rfl, rfl, rfl, rfl⟩
theorem carry_keeps (s : T_State.D) (v : T_Event.D) (k : Nat) (x : T_Piece.D) (h1 : stateOkB s = true) (h2 : eventOkB v = true) (h3 : v.1 = 2) (h4 : pieceAt s v.2.2.1 = k) (h5 : s.1[k]? = some x) :
    let t : T_State.D := (s.1.set k (movedV x v s.2.2.2.1), s.2)
    stateOkB t = true ∧ pieceAt t v.2.2.1 = k ∧ t.1[k]? = some (movedV x v s.2.2.2.1) ∧ (movedV x v s.2.2.2.1).1 = x.1 ∧ (movedV x v s.2.2.2.1).2.2.2.1 = v.2.2.2.2.2.1 ∧ (movedV x v s.2.2.2.1).2.2.2.2.1 = s.2.2.2.1 ∧ (movedV x v s.2.2.2.1).2.2.2.2.2.2.2.2.2.2.1 = 0 ∧ (movedV x v s.2.2.2.1).2.2.1 = (movedV x v s.2.2.2.1).2.1 ∧ (movedV x v s.2.2.2.1).2.2.2.2.2.2.2.2.1 = v.2.2.2.2.1 := by
  have hs := (stateOk_iff s).1 h1
  obtain ⟨g1, g2, g3, g4, g5, g6, g7⟩ := movedV_facts s hs x (hs.2.2.1 k x h5) v.1 v.2.1 v.2.2.1 v.2.2.2.1 v.2.2.2.2.1 v.2.2.2.2.2.1 v.2.2.2.2.2.2.1 v.2.2.2.2.2.2.2 h2 h3
  have hlt := (List.getElem?_eq_some_iff.1 h5).1
  exact ⟨(stateOk_iff _).2 (keep_set hs h5 _ g1 g2), by rw [pieceAt_set h5 g1]; exact h4, get_set hlt, g1, g3, g4, g5, g6, g7⟩
theorem mem_collect {α β : Type} {g : Nat → α → List β} {y : β} : ∀ {xs : List α} {i k : Nat} {x : α}, xs[i]? = some x → y ∈ g (k + i) x → y ∈ collect g k xs
  | [], _, _, _, h, _ => by simp at h
  | z :: xs, 0, k, x, h, hy => by simp at h; subst h; exact List.mem_append_left _ hy
  | z :: xs, i + 1, k, x, h, hy => List.mem_append_right _ (mem_collect (i := i) (k := k + 1) (x := x) (by simpa using h) (by rw [show k + 1 + i = k + (i + 1) by omega]; exact hy))

/-! ### Zoned -/
def zonedG (a : Int) (_ : Nat) (x : T_Piece.D) : List Int := bif (x.2.2.2.1 == a) then [x.1] else []
theorem zonedG_len (a : Int) (i : Nat) (x : T_Piece.D) : (zonedG a i x).length ≤ 1 := by unfold zonedG; cases (x.2.2.2.1 == a) <;> simp
theorem spec_Zoned_eq (s : T_State.D) (a : Int) (h : s.1.length ≤ 1048576) : spec_Zoned s a = some (collect (zonedG a) 0 s.1) := by
  unfold spec_Zoned
  rw [append_loop s.1 (zonedG a) (fun s => s) (zonedG_len a) (by omega) (fun t i x hI hx => ?_) (fun t => ?_)]
  · rfl
  · have hlt := (List.getElem?_eq_some_iff.1 hx).1
    have hil : ((i : Int) < (s.1.length : Int)) := by omega
    unfold spec_Zoned_l1 zonedG
    simp only [hil, decide_true, cond_true, idx_at hx]
    rw [if_pos (by simp only [room, List.length_cons, List.length_nil]; omega)]
    cases (x.2.2.2.1 == a) <;> simp
  · unfold spec_Zoned_l1; simp
theorem impl_Zoned_eq (s : T_State.D) (a : Int) (h : s.1.length ≤ 1048576) : impl_Zoned s a = some (collect (zonedG a) 0 s.1) := by
  unfold impl_Zoned
  rw [append_loop s.1 (zonedG a) (fun s => s) (zonedG_len a) (by omega) (fun t i x hI hx => ?_) (fun t => ?_)]
  · rfl
  · have hlt := (List.getElem?_eq_some_iff.1 hx).1
    have hil : ((i : Int) < (s.1.length : Int)) := by omega
    unfold impl_Zoned_l1 zonedG
    simp only [hil, decide_true, cond_true, idx_at hx]
    rw [if_pos (by simp only [room, List.length_cons, List.length_nil]; omega)]
    cases (x.2.2.2.1 == a) <;> simp
  · unfold impl_Zoned_l1; simp

/-! ### Snaps -/
def snapG (s : T_State.D) (_ : Nat) (a : Int) : List T_Piece.D := match findL (fun (x : T_Piece.D) => x.1 == a) s.1 with | some k => (s.1[k]?).toList | none => []
theorem snapG_len (s : T_State.D) (i : Nat) (a : Int) : (snapG s i a).length ≤ 1 := by
  unfold snapG
  cases findL (fun (x : T_Piece.D) => x.1 == a) s.1 with
  | none => simp
  | some k => cases hk : s.1[k]? <;> simp [hk]
theorem snapG_cases (s : T_State.D) (i : Nat) (a : Int) : (pieceAt s a = -1 ∧ snapG s i a = []) ∨ ∃ (k : Nat) (x : T_Piece.D), pieceAt s a = k ∧ s.1[k]? = some x ∧ snapG s i a = [x] := by
  unfold pieceAt snapG
  obtain ⟨h1, h2⟩ := findL_spec (fun (x : T_Piece.D) => x.1 == a) s.1
  cases hf : findL (fun (x : T_Piece.D) => x.1 == a) s.1 with
  | none => exact .inl ⟨rfl, rfl⟩
  | some k =>
    obtain ⟨x, g1, g2, _⟩ := h2 k hf
    exact .inr ⟨k, x, rfl, g1, by simp [g1]⟩
theorem spec_Snaps_eq (s : T_State.D) (xs : List Int) (hs : s.1.length ≤ 1048576) (h : xs.length ≤ 1048576) : spec_Snaps s xs = some (collect (snapG s) 0 xs) := by
  unfold spec_Snaps
  rw [append_loop xs (snapG s) (fun s => s) (snapG_len s) (by omega) (fun t i x hI hx => ?_) (fun t => ?_)]
  · rfl
  · have hlt := (List.getElem?_eq_some_iff.1 hx).1
    have hil : ((i : Int) < (xs.length : Int)) := by omega
    unfold spec_Snaps_l1
    simp only [hil, decide_true, cond_true, idx_at hx, spec_PieceAt_eq s _ hs, Option.bind_some]
    rcases snapG_cases s i x with ⟨h1, h2⟩ | ⟨k, y, h1, h2, h3⟩
    · rw [h1, h2]; simp
    · have : decide ((k : Int) ≥ 0) = true := by simp
      rw [h1, h3, this]
      simp only [cond_true, idx_at h2]
      rw [if_pos (by simp only [room, List.length_cons, List.length_nil]; omega)]
      rfl
  · unfold spec_Snaps_l1; simp
theorem impl_Snaps_eq (s : T_State.D) (xs : List Int) (hs : s.1.length ≤ 1048576) (h : xs.length ≤ 1048576) : impl_Snaps s xs = some (collect (snapG s) 0 xs) := by
  unfold impl_Snaps
  rw [append_loop xs (snapG s) (fun s => s) (snapG_len s) (by omega) (fun t i x hI hx => ?_) (fun t => ?_)]
  · rfl
  · have hlt := (List.getElem?_eq_some_iff.1 hx).1
    have hil : ((i : Int) < (xs.length : Int)) := by omega
    unfold impl_Snaps_l1
    simp only [hil, decide_true, cond_true, idx_at hx, impl_PieceAt_eq s _ hs, Option.bind_some]
    rcases snapG_cases s i x with ⟨h1, h2⟩ | ⟨k, y, h1, h2, h3⟩
    · rw [h1, h2]; simp
    · have : decide ((k : Int) ≥ 0) = true := by simp
      rw [h1, h3, this]
      simp only [cond_true, idx_at h2]
      rw [if_pos (by simp only [room, List.length_cons, List.length_nil]; omega)]
  · unfold impl_Snaps_l1; simp

/-! ### Leaves -/
theorem leaves_eq (s : T_State.D) (e : T_Event.D) (h : s.1.length ≤ 1048576) : ∃ m, spec_Leaves s e = some m ∧ impl_Leaves s e = some m := by
  unfold spec_Leaves impl_Leaves impl_fieldAt
  simp only [spec_PieceAt_eq s _ h, impl_PieceAt_eq s _ h, Option.bind_some]
  rcases pieceAt_cases s e.2.2.1 with h | ⟨k, x, h1, h2, _⟩
  · rw [h]
    cases (e.1 == 2) <;> cases (e.2.2.2.2.2.1 != 2) <;> exact ⟨_, rfl, rfl⟩
  · have : decide ((k : Int) ≥ 0) = true := by simp
    rw [h1, dec_neg (by omega), this]
    simp only [cond_false, cond_true, idx_at h2, Option.bind_some]
    unfold bne
    cases (e.1 == 2) <;> cases (e.2.2.2.2.2.1 == 2) <;> cases (x.2.2.2.1 == 2) <;> simp [this]

theorem bif_and (b c : Bool) : (bif b then some c else some false) = some (b && c) := by cases b <;> rfl
theorem impl_SameState_eq (a b : T_State.D) (hp : a.1.length ≤ 1048576) (hs : a.2.1.length ≤ 1048576) : impl_SameState a b = some (eqD T_State a b) := by
  have hE : eqD T_State a b = (eqD (.slice T_Piece) a.1 b.1 && (eqD (.slice T_Side) a.2.1 b.2.1 && ((a.2.2.1 == b.2.2.1) && ((a.2.2.2.1 == b.2.2.2.1) && true)))) := rfl
  unfold impl_SameState
  rw [hE, show slices_Equal_impl_Piece a.1 b.1 = some (eqD (.slice T_Piece) a.1 b.1) from eq_lists (t := T_Piece) rfl a.1 b.1 (e := eqD T_Piece) (fun _ _ => rfl) (by omega) (fun i => rfl),
    show slices_Equal_impl_Side a.2.1 b.2.1 = some (eqD (.slice T_Side) a.2.1 b.2.1) from eq_lists (t := T_Side) rfl a.2.1 b.2.1 (e := eqD T_Side) (fun _ _ => rfl) (by omega) (fun i => rfl)]
  simp only [Option.bind_some, bif_and]
  cases eqD (.slice T_Piece) a.1 b.1 <;> cases eqD (.slice T_Side) a.2.1 b.2.1 <;> cases (a.2.2.1 == b.2.2.1) <;> cases (a.2.2.2.1 == b.2.2.2.1) <;> rfl

theorem laws_sameInts_eq (a b : List Int) (h : a.length ≤ 1048576) : laws_sameInts a b = some (eqD (.slice (.int .i64)) a b) := by
  unfold laws_sameInts
  exact eq_lists (t := .int .i64) rfl a b (e := fun (x y : Int) => x == y) (fun _ _ => rfl) (by omega) (fun i => rfl)

/-! ### Draws: they end, and the cursor stays right -/
def curOk (c : T_l1Cur.D) : Prop := 0 ≤ c.2.1 ∧ c.1.length ≤ 1048576
theorem l1Byte_ok' (b : List Int) (i g : Int) (u : Unit) (h0 : 0 ≤ i) (h1 : b.length ≤ 1048576) : Tot (spec_l1Byte (b, i, g, u)) (fun y => curOk y.2.1 ∧ 0 ≤ y.1 ∧ y.1 ≤ 255) := by
  unfold spec_l1Byte
  simp only
  rw [if_pos (by decide), if_pos (by decide)]
  refine Tot.bif (fun hl => ?_) (fun _ => ?_)
  · have hl : i < (b.length : Int) := of_decide_eq_true hl
    refine Tot.idx h0 hl fun n x e hx => ?_
    obtain ⟨m, e1, e2⟩ := mask_byte (IntKind.wrap .i64 (IntKind.wrap .i64 (BitVec.ofInt (IntKind.bits .i64) (IntKind.wrap .i64 (BitVec.ofInt (IntKind.bits .i64) ((IntKind.wrap .i64 ((IntKind.wrap .i64 (g * 6364136223846793005)) + 1442695040888963407)).fdiv (2 ^ min (33 : Int).toNat (IntKind.bits .i64))) ^^^ BitVec.ofInt (IntKind.bits .i64) ((IntKind.wrap .i64 ((IntKind.wrap .i64 (g * 6364136223846793005)) + 1442695040888963407)).fdiv (2 ^ min (47 : Int).toNat (IntKind.bits .i64)))).toNat) &&& BitVec.ofInt (IntKind.bits .i64) 255).toNat + IntKind.wrap .i64 x))
    refine Tot.pure ⟨⟨?_, h1⟩, ?_, ?_⟩
    · show (0 : Int) ≤ IntKind.wrap .i64 (i + 1)
      rw [wrap_id (by omega) (by omega)]; omega
    · simp only; rw [e1]; omega
    · simp only; rw [e1]; omega
  · obtain ⟨m, e1, e2⟩ := mask_byte (IntKind.wrap .i64 (BitVec.ofInt (IntKind.bits .i64) ((IntKind.wrap .i64 ((IntKind.wrap .i64 (g * 6364136223846793005)) + 1442695040888963407)).fdiv (2 ^ min (33 : Int).toNat (IntKind.bits .i64))) ^^^ BitVec.ofInt (IntKind.bits .i64) ((IntKind.wrap .i64 ((IntKind.wrap .i64 (g * 6364136223846793005)) + 1442695040888963407)).fdiv (2 ^ min (47 : Int).toNat (IntKind.bits .i64)))).toNat)
    refine Tot.pure ⟨⟨h0, h1⟩, ?_, ?_⟩
    · simp only; rw [e1]; omega
    · simp only; rw [e1]; omega
theorem l1Byte_ok (c : T_l1Cur.D) (h : curOk c) : Tot (spec_l1Byte c) (fun y => curOk y.2.1 ∧ 0 ≤ y.1 ∧ y.1 ≤ 255) := l1Byte_ok' c.1 c.2.1 c.2.2.1 c.2.2.2 h.1 h.2
theorem l1Below_ok (c : T_l1Cur.D) (n : Int) (h : curOk c) : Tot (spec_l1Below c n) (fun y => curOk y.2.1 ∧ 0 ≤ y.1 ∧ (0 < n → y.1 < n)) := by
  unfold spec_l1Below
  refine Tot.bif (fun hn => ?_) (fun hn => ?_)
  · have hn : n ≤ 0 := of_decide_eq_true hn
    exact Tot.pure ⟨h, Int.le_refl _, fun h => by omega⟩
  · have hn : ¬ n ≤ 0 := of_decide_eq_false hn
    refine Tot.bif (fun _ => ?_) (fun _ => ?_)
    · refine Tot.bind (l1Byte_ok c h) ?_
      rintro y ⟨hc, h0, h1⟩
      rw [if_neg (by omega)]
      exact Tot.pure ⟨hc, Int.tmod_nonneg _ h0, fun hp => Int.tmod_lt_of_pos _ hp⟩
    · refine Tot.bind (l1Byte_ok c h) ?_
      rintro y2 ⟨hc2, h20, h21⟩
      refine Tot.bind (l1Byte_ok _ hc2) ?_
      rintro y3 ⟨hc3, h30, h31⟩
      refine Tot.bind (l1Byte_ok _ hc3) ?_
      rintro y4 ⟨hc4, h40, h41⟩
      show Tot (if n = 0 then none else some ((IntKind.wrap .i64 (IntKind.wrap .i64 (IntKind.wrap .i64 (y2.1 * 65536) + IntKind.wrap .i64 (y3.1 * 256)) + y4.1)).tmod n, y4.2)) _
      rw [wrap_id (n := y2.1 * 65536) (by omega) (by omega), wrap_id (n := y3.1 * 256) (by omega) (by omega), wrap_id (n := y2.1 * 65536 + y3.1 * 256) (by omega) (by omega), wrap_id (n := y2.1 * 65536 + y3.1 * 256 + y4.1) (by omega) (by omega), if_neg (by omega)]
      exact Tot.pure ⟨hc4, Int.tmod_nonneg _ (by omega), fun hp => Int.tmod_lt_of_pos _ hp⟩
theorem l1Int_ok (c : T_l1Cur.D) (l : List Int) (h : curOk c) (hl : 0 < l.length) : Tot (spec_l1Int c l) (fun y => curOk y.2.1 ∧ y.1 ∈ l) := by
  unfold spec_l1Int
  refine Tot.bind (l1Below_ok c _ h) ?_
  rintro y ⟨hc, h0, h1⟩
  refine Tot.idx h0 (h1 (by omega)) fun n x e hx => ?_
  exact Tot.pure ⟨hc, List.mem_of_getElem? hx⟩
theorem l1Once_ok (c : T_l1Cur.D) (n : Int) (h : curOk c) : Tot (spec_l1Once c n) (fun y => curOk y.2.1 ∧ True) := by
  unfold spec_l1Once
  refine Tot.bind (l1Below_ok c _ h) ?_
  rintro y ⟨hc, h0, h1⟩
  exact Tot.pure ⟨hc, trivial⟩
theorem l1Odd_ok (c : T_l1Cur.D) (h : curOk c) : Tot (spec_l1Odd c) (fun y => curOk y.2.1 ∧ True) := by
  unfold spec_l1Odd
  refine Tot.bind (l1Int_ok c _ h (by decide)) ?_
  rintro y ⟨hc, _⟩
  exact Tot.pure ⟨hc, trivial⟩
theorem l1Raw_ok (c : T_l1Cur.D) (h : curOk c) : Tot (spec_l1Raw c) (fun y => curOk y.2.1 ∧ True) := by
  unfold spec_l1Raw
  refine Tot.bind (l1Once_ok c _ h) ?_
  rintro y ⟨hc, _⟩
  refine Tot.bif (fun _ => ?_) (fun _ => ?_)
  · refine Tot.bind (l1Odd_ok _ hc) ?_
    rintro y ⟨hc, _⟩
    exact Tot.pure ⟨hc, trivial⟩
  · refine Tot.bind (l1Int_ok _ _ hc (by decide)) ?_
    rintro y ⟨hc, _⟩
    exact Tot.pure ⟨hc, trivial⟩
theorem l4Draw_ok (c : T_l1Cur.D) (id : Int) (h : curOk c) : Tot (spec_l4Draw c id) (fun y => curOk y.2.1 ∧ True) := by
  unfold spec_l4Draw
  refine Tot.bind (l1Below_ok c _ h) ?_
  rintro y1 ⟨_, _⟩
  refine Tot.bind (l1Int_ok _ _ (by assumption) (by decide)) ?_
  rintro y2 ⟨_, _⟩
  refine Tot.bind (l1Below_ok _ _ (by assumption)) ?_
  rintro y3 ⟨_, _⟩
  refine Tot.bind (l1Below_ok _ _ (by assumption)) ?_
  rintro y4 ⟨_, _⟩
  refine Tot.bind (l1Below_ok _ _ (by assumption)) ?_
  rintro y5 ⟨h5, _⟩
  refine Tot.bind (P := fun o => curOk o.2.1) (Tot.while (fun s => curOk s.2.1 ∧ 0 ≤ s.1 ∧ s.1 ≤ 6) (fun s => 6 - s.1.toNat) ?_ ⟨h5, by simp only; omega, by simp only; omega⟩) ?_
  · rintro ⟨i, cc, t⟩ ⟨g1, g2, g3⟩
    simp only at g1 g2 g3
    unfold spec_l4Draw_l1
    simp only
    refine Tot.bif (fun hl => ?_) (fun _ => ?_)
    · have hl : i < (6 : Int) := of_decide_eq_true hl
      refine Tot.idx g2 (by simpa using hl) fun n x e hx => ?_
      subst e
      rw [Int.toNat_natCast, hx, Option.bind_some]
      refine Tot.bind (l1Once_ok _ _ g1) ?_
      rintro y ⟨hc, _⟩
      refine Tot.bif (fun _ => ?_) (fun _ => ?_) <;> refine Tot.pure ⟨⟨hc, ?_, ?_⟩, ?_⟩ <;> simp only <;> rw [wrap_id (by omega) (by omega)] <;> omega
    · exact Tot.pure g1
  · rintro o ho
    refine Tot.bif (fun _ => Tot.pure ⟨ho, trivial⟩) (fun _ => ?_)
    refine Tot.bind (l1Once_ok _ _ ho) ?_
    rintro y12 ⟨h12, _⟩
    refine Tot.bind (P := fun _ => True) (Tot.bif (fun _ => Tot.pure trivial) (fun _ => Tot.pure trivial)) ?_
    rintro o13 _
    refine Tot.bind (l1Int_ok _ _ h12 (by decide)) ?_
    rintro y14 ⟨h14, _⟩
    refine Tot.bind (l1Int_ok _ _ h14 (by decide)) ?_
    rintro y15 ⟨h15, _⟩
    refine Tot.bind (l1Int_ok _ _ h15 (by decide)) ?_
    rintro y16 ⟨h16, _⟩
    refine Tot.bind (l1Once_ok _ _ h16) ?_
    rintro y17 ⟨h17, _⟩
    exact Tot.pure ⟨h17, trivial⟩
theorem l4Any_ok (c : T_l1Cur.D) (h : curOk c) : Tot (spec_l4Any c) (fun y => curOk y.2.1 ∧ True) := by
  unfold spec_l4Any
  refine Tot.bind (l1Below_ok c _ h) ?_
  rintro y1 ⟨h1, _⟩
  refine Tot.bind (l4Draw_ok _ _ h1) ?_
  rintro y2 ⟨h2, _⟩
  refine Tot.bind (l1Below_ok _ _ h2) ?_
  rintro y3 ⟨h3, _⟩
  repeat' first
    | refine Tot.bif (fun _ => ?_) (fun _ => ?_)
    | (refine Tot.bind (l1Int_ok _ _ h3 (by decide)) ?_; rintro y ⟨hy, _⟩; exact Tot.pure ⟨hy, trivial⟩)
    | (refine Tot.bind (l1Raw_ok _ h3) ?_; rintro y ⟨hy, _⟩; exact Tot.pure ⟨hy, trivial⟩)
    | exact Tot.pure ⟨h3, trivial⟩
theorem l5Draw_ok (c : T_l1Cur.D) (h : curOk c) : Tot (spec_l5Draw c) (fun y => curOk y.2.1 ∧ 1 ≤ y.1.1.length ∧ y.1.1.length ≤ 6 ∧ y.1.2.1.length = 2) := by
  unfold spec_l5Draw
  refine Tot.bind (P := fun s => s.1.length = 0 ∧ s.2.1.length = 2) ⟨_, rfl, rfl, rfl⟩ ?_
  rintro y1 ⟨p1, p2⟩
  refine Tot.bind (l1Below_ok c _ h) ?_
  rintro y2 ⟨h2, _⟩
  refine Tot.bind (l1Below_ok _ _ h2) ?_
  rintro y3 ⟨h3, _⟩
  refine Tot.bind (P := fun o => curOk o.2.1 ∧ o.2.2.1.length = 0 ∧ o.2.2.2.1.length = 2) (Tot.while (fun s => curOk s.2.1 ∧ s.2.2.1.length = 0 ∧ s.2.2.2.1.length = 2 ∧ 0 ≤ s.1 ∧ s.1 ≤ 2) (fun s => 2 - s.1.toNat) ?_ ⟨h3, p1, p2, by simp only; omega, by simp only; omega⟩) ?_
  · rintro ⟨i, cc, ps, ss, t⟩ ⟨g1, g2, g3, g4, g5⟩
    simp only at g1 g2 g3 g4 g5
    unfold spec_l5Draw_l1
    simp only
    refine Tot.bif (fun hl => ?_) (fun _ => Tot.pure ⟨g1, g2, g3⟩)
    have hl : i < (2 : Int) := of_decide_eq_true hl
    refine Tot.bind (l1Int_ok _ _ g1 (by decide)) ?_
    rintro y7 ⟨h7, _⟩
    refine Tot.idx g4 (by omega) fun n x e hx => ?_
    subst e
    rw [Int.toNat_natCast, hx, Option.bind_some]
    refine Tot.bind (l1Int_ok _ _ h7 (by decide)) ?_
    rintro y10 ⟨h10, _⟩
    have hn : n < ss.length := by omega
    rw [idx_set hn, get_set hn, Option.bind_some]
    refine Tot.pure ⟨⟨h10, g2, by simp only [List.length_set]; exact g3, ?_, ?_⟩, ?_⟩ <;> simp only <;> rw [wrap_id (by omega) (by omega)] <;> omega
  · rintro o ⟨g1, g2, g3⟩
    refine Tot.bind (l1Below_ok _ _ g1) ?_
    rintro y14 ⟨h14, h14a, h14b⟩
    have hlt := h14b (by decide)
    rw [wrap_id (n := 1 + y14.1) (by omega) (by omega)]
    refine Tot.bind (P := fun o => curOk o.2.2.1 ∧ 1 ≤ o.2.2.2.1.length ∧ o.2.2.2.1.length ≤ 6 ∧ o.2.2.2.2.1.length = 2) (Tot.while (fun s => curOk s.2.2.1 ∧ 0 ≤ s.2.1 ∧ (s.2.2.2.1.length : Int) + s.2.1 = 1 + y14.1 ∧ s.2.2.2.2.1.length = 2) (fun s => s.2.1.toNat) ?_ ⟨h14, by simp only; omega, by simp only; omega, g3⟩) ?_
    · rintro ⟨id, i, cc, ps, ss, t⟩ ⟨k1, k2, k3, k4⟩
      simp only at k1 k2 k3 k4
      unfold spec_l5Draw_l2
      simp only
      refine Tot.bif (fun hl => ?_) (fun hl => Tot.pure ⟨k1, ?_, ?_, k4⟩)
      · have hl : i > 0 := of_decide_eq_true hl
        refine Tot.bind (l1Below_ok _ _ k1) ?_
        rintro y18 ⟨h18, _⟩
        refine Tot.bind (l4Draw_ok _ _ h18) ?_
        rintro y19 ⟨h19, _⟩
        rw [if_pos (by simp only [room, List.length_cons, List.length_nil]; omega)]
        refine Tot.pure ⟨⟨h19, ?_, ?_, k4⟩, ?_⟩ <;> simp only [List.length_append, List.length_cons, List.length_nil] <;> rw [wrap_id (n := i - 1) (by omega) (by omega)] <;> omega
      · have hl : ¬ i > 0 := of_decide_eq_false hl
        simp only; omega
      · have hl : ¬ i > 0 := of_decide_eq_false hl
        simp only; omega
    · rintro o ⟨k1, k2⟩
      exact Tot.pure ⟨k1, k2⟩
theorem l5Any_ok (c : T_l1Cur.D) (h : curOk c) : Tot (spec_l5Any c) (fun y => curOk y.2.1 ∧ y.1.1.length ≤ 20 ∧ y.1.2.1.length ≤ 3) := by
  unfold spec_l5Any
  refine Tot.bind (l5Draw_ok c h) ?_
  rintro ⟨⟨ps, ss, t⟩, c1⟩ ⟨h1, g1, g2, g3⟩
  simp only at h1 g1 g2 g3
  refine Tot.bind (l1Below_ok _ _ h1) ?_
  rintro y2 ⟨h2, _⟩
  refine Tot.bif (fun _ => ?_) (fun _ => ?_)
  · refine Tot.bind (l1Int_ok _ _ h2 (by decide)) ?_
    rintro y ⟨hy, _⟩
    exact Tot.pure ⟨hy, by simp only; omega, by simp only; omega⟩
  refine Tot.bif (fun _ => ?_) (fun _ => ?_)
  · refine Tot.bind (l1Int_ok _ _ h2 (by decide)) ?_
    rintro y ⟨hy, _⟩
    exact Tot.pure ⟨hy, by simp only; omega, by simp only; omega⟩
  refine Tot.bif (fun _ => ?_) (fun _ => ?_)
  · refine Tot.bind (l1Raw_ok _ h2) ?_
    rintro y ⟨hy, _⟩
    rw [if_pos (by simp only [room, List.length_cons, List.length_nil]; omega)]
    exact Tot.pure ⟨hy, by simp only; omega, by simp only [List.length_append, List.length_cons, List.length_nil]; omega⟩
  refine Tot.bif (fun _ => ?_) (fun _ => ?_)
  · refine Tot.bind (l1Raw_ok _ h2) ?_
    rintro y ⟨hy, _⟩
    refine Tot.idx (by decide) (by simp only; omega) fun n x e hx => ?_
    have : n = 0 := by omega
    subst this
    rw [show ((0 : Int)).toNat = 0 from rfl, hx, Option.bind_some]
    exact Tot.pure ⟨hy, by simp only; omega, by simp only [List.length_set]; omega⟩
  refine Tot.bif (fun _ => ?_) (fun _ => ?_)
  · refine Tot.bind (l4Any_ok _ h2) ?_
    rintro y ⟨hy, _⟩
    rw [if_pos (by simp only [room, List.length_cons, List.length_nil]; omega)]
    exact Tot.pure ⟨hy, by simp only [List.length_append, List.length_cons, List.length_nil]; omega, by simp only; omega⟩
  refine Tot.bif (fun _ => ?_) (fun _ => ?_)
  · rw [if_pos (by decide), if_pos (by decide), if_pos (by simp only; omega)]
    exact Tot.pure ⟨h2, by simp only; omega, by simp only [List.length_drop, List.length_take]; omega⟩
  refine Tot.bif (fun _ => ?_) (fun _ => ?_)
  · refine Tot.bind (l4Any_ok _ h2) ?_
    rintro y ⟨hy, _⟩
    refine Tot.idx (by decide) (by simp only; omega) fun n x e hx => ?_
    have : n = 0 := by omega
    subst this
    rw [show ((0 : Int)).toNat = 0 from rfl, hx, Option.bind_some]
    exact Tot.pure ⟨hy, by simp only [List.length_set]; omega, by simp only; omega⟩
  refine Tot.bif (fun _ => ?_) (fun _ => ?_)
  · refine Tot.bind (P := fun o => curOk o.2.1 ∧ o.2.2.1.length ≤ 20 ∧ o.2.2.2.1.length ≤ 3) (Tot.while (fun s => curOk s.2.1 ∧ 40 ≤ s.1 ∧ s.1 ≤ 46 ∧ (s.2.2.1.length : Int) ≤ s.1 - 34 ∧ s.2.2.2.1.length ≤ 3) (fun s => 46 - s.1.toNat) ?_ ⟨h2, by simp only; omega, by simp only; omega, by simp only; omega, by simp only; omega⟩) ?_
    · rintro ⟨i, cc, ps, ss, t⟩ ⟨k1, k2, k3, k4, k5⟩
      simp only at k1 k2 k3 k4 k5
      unfold spec_l5Any_l1
      simp only
      refine Tot.bif (fun hl => ?_) (fun hl => Tot.pure ⟨k1, by simp only; omega, k5⟩)
      have hl : i < 46 := of_decide_eq_true hl
      refine Tot.bind (l4Draw_ok _ _ k1) ?_
      rintro y ⟨hy, _⟩
      rw [if_pos (by simp only [room, List.length_cons, List.length_nil]; omega)]
      refine Tot.pure ⟨⟨hy, ?_, ?_, ?_, k5⟩, ?_⟩ <;> simp only [List.length_append, List.length_cons, List.length_nil] <;> rw [wrap_id (n := i + 1) (by omega) (by omega)] <;> omega
    · rintro o ⟨k1, k2, k3⟩
      exact Tot.pure ⟨k1, k2, k3⟩
  exact Tot.pure ⟨h2, by simp only; omega, by simp only; omega⟩
theorem l6Id_ok (c : T_l1Cur.D) (s : T_State.D) (h : curOk c) : Tot (spec_l6Id c s) (fun y => curOk y.2.1 ∧ True) := by
  unfold spec_l6Id
  refine Tot.bind (P := fun o => curOk o.2 ∧ (o.1 = false → 0 < s.1.length)) (Tot.bif (fun _ => Tot.pure ⟨h, by simp⟩) (fun he => ?_)) ?_
  · have he : 0 < s.1.length := by
      rw [beq_eq_false_iff_ne] at he
      omega
    refine Tot.bind (l1Once_ok _ _ h) ?_
    rintro y ⟨hy, _⟩
    exact Tot.pure ⟨hy, fun _ => he⟩
  · rintro o ⟨ho, hl⟩
    refine Tot.bif (fun _ => ?_) (fun hf => ?_)
    · refine Tot.bind (l1Below_ok _ _ ho) ?_
      rintro y ⟨hy, _⟩
      exact Tot.pure ⟨hy, trivial⟩
    · have := hl hf
      refine Tot.bind (l1Below_ok _ _ ho) ?_
      rintro y ⟨hy, h0, h1⟩
      refine Tot.idx h0 (h1 (by omega)) fun n x e hx => ?_
      exact Tot.pure ⟨hy, trivial⟩
theorem l6Draw_ok (c : T_l1Cur.D) (s : T_State.D) (h : curOk c) : Tot (spec_l6Draw c s) (fun y => curOk y.2.1 ∧ True) := by
  unfold spec_l6Draw
  refine Tot.bind (l1Int_ok _ _ h (by decide)) ?_
  rintro y1 ⟨h1, _⟩
  refine Tot.bind (l1Int_ok _ _ h1 (by decide)) ?_
  rintro y2 ⟨h2, _⟩
  refine Tot.bif (fun _ => ?_) (fun _ => ?_)
  · refine Tot.bind (l6Id_ok _ _ h2) ?_
    rintro y3 ⟨h3, _⟩
    refine Tot.bind (l1Once_ok _ _ h3) ?_
    rintro y4 ⟨h4, _⟩
    refine Tot.bif (fun _ => ?_) (fun _ => ?_)
    · refine Tot.bind (l1Below_ok _ _ h4) ?_
      rintro y ⟨hy, _⟩
      exact Tot.pure ⟨hy, trivial⟩
    · refine Tot.bind (l6Id_ok _ _ h4) ?_
      rintro y ⟨hy, _⟩
      exact Tot.pure ⟨hy, trivial⟩
  refine Tot.bif (fun _ => ?_) (fun _ => ?_)
  · refine Tot.bind (l6Id_ok _ _ h2) ?_
    rintro y3 ⟨h3, _⟩
    refine Tot.bind (l1Int_ok _ _ h3 (by decide)) ?_
    rintro y4 ⟨h4, _⟩
    refine Tot.bif (fun _ => ?_) (fun _ => Tot.pure ⟨h4, trivial⟩)
    refine Tot.bind (l1Int_ok _ _ h4 (by decide)) ?_
    rintro y5 ⟨h5, _⟩
    refine Tot.bind (l1Once_ok _ _ h5) ?_
    rintro y ⟨hy, _⟩
    exact Tot.pure ⟨hy, trivial⟩
  refine Tot.bind (P := fun _ => True) (Tot.bif (fun _ => Tot.pure trivial) (fun _ => Tot.pure trivial)) ?_
  rintro o11 _
  refine Tot.bif (fun _ => ?_) (fun _ => ?_)
  · refine Tot.bind (l1Below_ok _ _ h2) ?_
    rintro y ⟨hy, _⟩
    exact Tot.pure ⟨hy, trivial⟩
  · refine Tot.bind (l6Id_ok _ _ h2) ?_
    rintro y ⟨hy, _⟩
    exact Tot.pure ⟨hy, trivial⟩
theorem l6Any_ok (c : T_l1Cur.D) (s : T_State.D) (h : curOk c) : Tot (spec_l6Any c s) (fun y => curOk y.2.1 ∧ True) := by
  unfold spec_l6Any
  refine Tot.bind (l6Draw_ok _ _ h) ?_
  rintro y1 ⟨h1, _⟩
  refine Tot.bind (l1Below_ok _ _ h1) ?_
  rintro y3 ⟨h3, _⟩
  repeat' first
    | refine Tot.bif (fun _ => ?_) (fun _ => ?_)
    | (refine Tot.bind (l1Int_ok _ _ h3 (by decide)) ?_; rintro y ⟨hy, _⟩; exact Tot.pure ⟨hy, trivial⟩)
    | (refine Tot.bind (l1Raw_ok _ h3) ?_; rintro y ⟨hy, _⟩; exact Tot.pure ⟨hy, trivial⟩)
    | exact Tot.pure ⟨h3, trivial⟩
theorem l1New_ok (code : List Int) (hl : code.length ≤ 1048576) : Tot (spec_l1New code) (fun c => curOk c) := by
  unfold spec_l1New
  refine Tot.bind (P := fun _ => True) (Tot.while (fun s => 0 ≤ s.2 ∧ s.2 ≤ (code.length : Int)) (fun s => code.length - s.2.toNat) ?_ ⟨by simp only; omega, by simp only; omega⟩) ?_
  · rintro ⟨g, i⟩ ⟨k1, k2⟩
    simp only at k1 k2
    unfold spec_l1New_l1
    simp only
    refine Tot.bind (P := fun o => o = true → i < (code.length : Int)) (Tot.bif (fun hl => Tot.pure (fun _ => of_decide_eq_true hl)) (fun _ => Tot.pure (fun h => by cases h))) ?_
    rintro o ho
    refine Tot.bif (fun hb => ?_) (fun _ => Tot.pure trivial)
    have hlt := ho hb
    refine Tot.idx k1 hlt fun n x e hx => ?_
    refine Tot.pure ⟨⟨?_, ?_⟩, ?_⟩ <;> simp only <;> rw [wrap_id (n := i + 1) (by omega) (by omega)] <;> omega
  · rintro o _
    exact Tot.pure ⟨Int.le_refl _, hl⟩

/-! ### Draws of the moves -/
theorem spec_Has_eq (l : List Int) (a : Int) (h : l.length ≤ 1048576) : spec_Has l a = some (l.any (fun x => x == a)) := by
  unfold spec_Has
  rw [index_loop l (body := spec_Has_l1 l a) (fun x => x == a) (fun _ => true) (by omega) (fun i x hx => ?_) ?_]
  · obtain ⟨h1, h2⟩ := findL_spec (fun x => x == a) l
    cases hf : findL (fun x => x == a) l with
    | none =>
      have : l.any (fun x => x == a) = false := by rw [List.any_eq_false]; exact fun x hx => by simpa using h1 hf x hx
      rw [this]; rfl
    | some k =>
      obtain ⟨x, g1, g2, _⟩ := h2 k hf
      have : l.any (fun x => x == a) = true := by rw [List.any_eq_true]; exact ⟨x, List.mem_of_getElem? g1, g2⟩
      rw [this]; rfl
  · unfold spec_Has_l1
    simp
  · unfold spec_Has_l1
    have hlt := (List.getElem?_eq_some_iff.1 hx).1
    have : ((i : Int) < (l.length : Int)) := by omega
    simp only [this, decide_true, cond_true, idx_at hx]
theorem l17State_ok (c : T_l1Cur.D) (h : curOk c) : Tot (spec_l17State c) (fun y => curOk y.2.1 ∧ y.1.1.length ≤ 20 ∧ y.1.2.1.length ≤ 3) := by
  unfold spec_l17State
  refine Tot.bind (l5Draw_ok c h) ?_
  rintro y1 ⟨h1, g1, g2, g3⟩
  refine Tot.bind (l1Once_ok _ _ h1) ?_
  rintro y2 ⟨h2, _⟩
  refine Tot.bif (fun _ => ?_) (fun _ => Tot.pure ⟨h2, by simp only; omega, by simp only; omega⟩)
  refine Tot.bind (l5Any_ok _ h2) ?_
  rintro y3 ⟨h3, k1, k2⟩
  exact Tot.pure ⟨h3, k1, k2⟩

/-! ### FnCarries -/
theorem l17Event_ok (c : T_l1Cur.D) (s : T_State.D) (ks : List Int) (h : curOk c) (hk : ks.length ≤ 1048576) : Tot (spec_l17Event c s ks) (fun y => curOk y.2.1 ∧ True) := by
  unfold spec_l17Event
  refine Tot.bind (l6Draw_ok _ _ h) ?_
  rintro y1 ⟨h1, _⟩
  refine Tot.bind (P := fun o => curOk o.2.1) (Tot.while (fun s => curOk s.2.1 ∧ 0 ≤ s.1 ∧ s.1 ≤ 6) (fun s => 6 - s.1.toNat) ?_ ⟨h1, by simp only; omega, by simp only; omega⟩) ?_
  · rintro ⟨i, cc, e⟩ ⟨k1, k2, k3⟩
    simp only at k1 k2 k3
    unfold spec_l17Event_l1
    simp only [spec_Has_eq ks _ hk, Option.bind_some]
    refine Tot.bind (P := fun o => o = true → i < 6) (Tot.bif (fun hl => Tot.pure (fun _ => of_decide_eq_true hl)) (fun _ => Tot.pure (fun h => by cases h))) ?_
    rintro o ho
    refine Tot.bif (fun hb => ?_) (fun _ => Tot.pure k1)
    have hlt := ho hb
    refine Tot.bind (l6Draw_ok _ _ k1) ?_
    rintro y7 ⟨h7, _⟩
    refine Tot.pure ⟨⟨h7, ?_, ?_⟩, ?_⟩ <;> simp only <;> rw [wrap_id (n := i + 1) (by omega) (by omega)] <;> omega
  · rintro o ho
    refine Tot.bind (l1Once_ok _ _ ho) ?_
    rintro y9 ⟨h9, _⟩
    refine Tot.bif (fun _ => ?_) (fun _ => Tot.pure ⟨h9, trivial⟩)
    refine Tot.bind (l6Any_ok _ _ h9) ?_
    rintro y10 ⟨h10, _⟩
    exact Tot.pure ⟨h10, trivial⟩
theorem drawCarry_ok (code : List Int) (hl : code.length ≤ 1048576) : Tot (spec_DrawCarry code) (fun y => y.1.1.length ≤ 20 ∧ y.1.2.1.length ≤ 3) := by
  unfold spec_DrawCarry
  refine Tot.bind (l1New_ok code hl) ?_
  rintro c hc
  refine Tot.bind (l17State_ok c hc) ?_
  rintro y2 ⟨h2, g1, g2⟩
  refine Tot.bind (l17Event_ok _ _ _ h2 (by decide)) ?_
  rintro y3 ⟨h3, _⟩
  exact Tot.pure ⟨g1, g2⟩
theorem drawLeaves_ok (code : List Int) (hl : code.length ≤ 1048576) : Tot (spec_DrawLeaves code) (fun y => y.1.1.length ≤ 20 ∧ y.1.2.1.length ≤ 3) := by
  unfold spec_DrawLeaves
  refine Tot.bind (l1New_ok code hl) ?_
  rintro c hc
  refine Tot.bind (l17State_ok c hc) ?_
  rintro y2 ⟨h2, g1, g2⟩
  refine Tot.bind (l17Event_ok _ _ _ h2 (by decide)) ?_
  rintro y3 ⟨h3, _⟩
  exact Tot.pure ⟨g1, g2⟩
theorem drawZoned_ok (code : List Int) (hl : code.length ≤ 1048576) : Tot (spec_DrawZoned code) (fun y => y.1.1.length ≤ 20 ∧ y.1.2.1.length ≤ 3) := by
  unfold spec_DrawZoned
  refine Tot.bind (l1New_ok code hl) ?_
  rintro c hc
  refine Tot.bind (l17State_ok c hc) ?_
  rintro y2 ⟨h2, g1, g2⟩
  refine Tot.bind (l1Below_ok _ _ h2) ?_
  rintro y3 ⟨h3, _⟩
  exact Tot.pure ⟨g1, g2⟩
theorem drawSnaps_ok (code : List Int) (hl : code.length ≤ 1048576) : Tot (spec_DrawSnaps code) (fun y => (y.1.1.length ≤ 20 ∧ y.1.2.1.length ≤ 3) ∧ y.2.1.length ≤ 20) := by
  unfold spec_DrawSnaps
  refine Tot.bind (l1New_ok code hl) ?_
  rintro c hc
  refine Tot.bind (l17State_ok c hc) ?_
  rintro y2 ⟨h2, g1, g2⟩
  refine Tot.bind (l1Below_ok _ _ h2) ?_
  rintro y3 ⟨h3, a1, a2⟩
  have a2 := a2 (by decide)
  refine Tot.bind (P := fun o => o.1.length ≤ 20) (Tot.while (fun s => curOk s.2.2 ∧ 0 ≤ s.2.1 ∧ (s.1.length : Int) + s.2.1 ≤ 4) (fun s => s.2.1.toNat) ?_ ⟨h3, a1, by simp only [List.length_nil]; omega⟩) ?_
  · rintro ⟨l, i, cc⟩ ⟨k1, k2, k3⟩
    simp only at k1 k2 k3
    unfold spec_DrawSnaps_l1
    simp only
    refine Tot.bif (fun hl => ?_) (fun _ => Tot.pure (by simp only; omega))
    have hl : i > 0 := of_decide_eq_true hl
    refine Tot.bind (l6Id_ok _ _ k1) ?_
    rintro y ⟨hy, _⟩
    rw [if_pos (by simp only [room, List.length_cons, List.length_nil]; omega)]
    refine Tot.pure ⟨⟨hy, ?_, ?_⟩, ?_⟩ <;> simp only [List.length_append, List.length_cons, List.length_nil] <;> rw [wrap_id (n := i - 1) (by omega) (by omega)] <;> omega
  · rintro o ho
    exact Tot.pure ⟨⟨g1, g2⟩, ho⟩
theorem impl_Has_eq (l : List Int) (a : Int) (h : l.length ≤ 1048576) : impl_Has l a = some (l.any (fun x => a == x)) := by
  unfold impl_Has slices_Contains_int slices_Index_int
  rw [index_loop l (body := slices_Index_int_l1 l a) (fun x => a == x) (fun i => i) (by omega) (fun i x hx => ?_) ?_]
  · rw [← findL_any]
    cases findL (fun x => a == x) l <;> rfl
  · unfold slices_Index_int_l1
    simp
  · unfold slices_Index_int_l1
    have hlt := (List.getElem?_eq_some_iff.1 hx).1
    have : ((i : Int) < (l.length : Int)) := by omega
    simp only [this, decide_true, cond_true, idx_at hx]
theorem laws_samePieces_eq (a b : List T_Piece.D) (h : a.length ≤ 1048576) : laws_samePieces a b = some (eqD (.slice T_Piece) a b) := by
  unfold laws_samePieces
  exact eq_lists (t := T_Piece) rfl a b (e := eqD T_Piece) (fun _ _ => rfl) (by omega) (fun i => rfl)
theorem law_FnCarries (code : List Int) (w : code.length ≤ maxLen) : laws_FnCarries code = some true := by
  unfold laws_FnCarries laws_big
  by_cases hb : (code.length : Int) > 1048576
  · rw [decide_eq_true hb]; rfl
  · have hl : code.length ≤ 1048576 := by omega
    obtain ⟨⟨s, v, u1⟩, hp1, s1, s2⟩ := drawCarry_ok code hl
    obtain ⟨⟨t, e, u2⟩, hp2, t1, t2⟩ := drawLeaves_ok code hl
    obtain ⟨⟨p, l, u3⟩, hp3, ⟨p1, p2⟩, p3⟩ := drawSnaps_ok code hl
    obtain ⟨⟨z, zn, u4⟩, hp4, z1, z2⟩ := drawZoned_ok code hl
    simp only at s1 s2 t1 t2 p1 p2 p3 z1 z2
    rw [decide_eq_false hb]
    obtain ⟨r, e1, e2, hr⟩ := carry_val s v (by omega) (by omega)
    obtain ⟨m, f1, f2⟩ := leaves_eq t e (by omega)
    have c1 := collect_len (snapG p) (snapG_len p) l 0
    have c2 := collect_len (zonedG zn) (zonedG_len zn) z.1 0
    have hz : sameSize r.1 s := by
      rcases hr with ⟨_, h⟩ | ⟨_, _, _, _, k, x, _, _, _, _, h⟩
      · rw [h]; exact ⟨rfl, rfl⟩
      · rw [h]; exact ⟨by simp, rfl⟩
    have hx1 : r.1.1.length ≤ 1048576 := by rw [hz.1]; omega
    have hx2 : r.1.2.1.length ≤ 1048576 := by rw [hz.2]; omega
    simp only [hp1, hp2, hp3, hp4, e1, e2, f1, f2, impl_SameState_eq _ _ hx1 hx2, spec_Snaps_eq p l (by omega) (by omega), impl_Snaps_eq p l (by omega) (by omega), spec_Zoned_eq z zn (by omega), impl_Zoned_eq z zn (by omega),
      laws_samePieces_eq _ _ (show (collect (snapG p) 0 l).length ≤ 1048576 by omega), laws_sameInts_eq _ _ (show (collect (zonedG zn) 0 z.1).length ≤ 1048576 by omega),
      eqD_refl (t := T_State) rfl, eqD_refl (t := .slice T_Piece) rfl, eqD_refl (t := .slice (.int .i64)) rfl, Option.bind_some, bne_self_eq_false, Bool.not_true, cond_false]
    rcases hr with ⟨h1, h2⟩ | ⟨h1, h2, h3, h4, k, x, h5, h6, h7, h8, h9⟩
    · rw [h1, h2]
      simp only [Bool.not_false, cond_true, eqD_refl (t := T_State) rfl]
    · obtain ⟨q1, q2, q3, q4, q5, q6, q7, q8, q9⟩ := carry_keeps s v k x h2 h3 h4 h5 h6
      obtain ⟨r2, d1, d2, hr2⟩ := carry_val r.1 v hx1 hx2
      have hn : r2.2.1 = false := by
        rcases hr2 with ⟨h, _⟩ | ⟨_, _, _, _, k', x', a1, a2, _, a4, _⟩
        · exact h
        · rw [h9] at a1 a2
          rw [q2] at a1
          have : k' = k := by omega
          subst this
          rw [q3] at a2
          cases a2
          rw [q5] at a4
          simp at a4
      have hmem : (collect (zonedG v.2.2.2.2.2.1) 0 r.1.1).any (fun x => v.2.2.1 == x) = true := by
        rw [List.any_eq_true]
        refine ⟨v.2.2.1, ?_, by simp⟩
        rw [h9]
        refine mem_collect (i := k) q3 ?_
        unfold zonedG
        rw [q5, q4, h7]
        simp
      have c3 := collect_len (zonedG v.2.2.2.2.2.1) (zonedG_len v.2.2.2.2.2.1) r.1.1 0
      rw [h1]
      simp only [Bool.not_true, cond_false, d2, hn, impl_Zoned_eq r.1 _ hx1, impl_Has_eq _ _ (show (collect (zonedG v.2.2.2.2.2.1) 0 r.1.1).length ≤ 1048576 by omega), hmem, impl_PieceAt_eq r.1 _ hx1, impl_StateOk_eq r.1 hx1 hx2, Option.bind_some]
      rw [h9, q2, q1]
      simp only [idx_at q3, Int.toNat_natCast, q3, Option.bind_some, cond_true, q5, q6, q7, q8, q9, beq_self_eq_true, Bool.not_false]

end Go.Abs
