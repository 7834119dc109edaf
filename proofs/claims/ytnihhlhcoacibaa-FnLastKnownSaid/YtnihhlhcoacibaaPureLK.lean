import Derived.Test.YtnihhlhcoacibaaGenLK
import Derived.Test.YtnihhlhcoacibaaAbsDraw
set_option linter.unusedVariables false
set_option linter.unusedSimpArgs false
namespace Go.Abs
/-! ### Pieces found -/
def pieceAt (s : T_State.D) (a : Int) : Int := match findL (fun (x : T_Piece.D) => x.1 == a) s.1 with | some k => (k : Int) | none => -1
theorem pieceAt_cases (s : T_State.D) (a : Int) : pieceAt s a = -1 ∨ ∃ (k : Nat) (x : T_Piece.D), pieceAt s a = k ∧ s.1[k]? = some x ∧ x.1 = a := by
  unfold pieceAt
  obtain ⟨h1, h2⟩ := findL_spec (fun (x : T_Piece.D) => x.1 == a) s.1
  cases hf : findL (fun (x : T_Piece.D) => x.1 == a) s.1 with
  | none => exact .inl rfl
  | some k =>
    obtain ⟨x, g1, g2, _⟩ := h2 k hf
    exact .inr ⟨k, x, rfl, g1, by simpa using g2⟩
theorem spec_PieceAt_eq (s : T_State.D) (a : Int) (h : s.1.length ≤ 1048576) : spec_PieceAt s a = some (pieceAt s a) := by
  unfold spec_PieceAt pieceAt
  rw [index_loop s.1 (body := spec_PieceAt_l1 s a) (fun (x : T_Piece.D) => x.1 == a) (fun i => i) (by omega) (fun i x hx => ?_) ?_]
  · cases findL (fun (x : T_Piece.D) => x.1 == a) s.1 <;> rfl
  · unfold spec_PieceAt_l1
    simp
  · unfold spec_PieceAt_l1
    have hlt := (List.getElem?_eq_some_iff.1 hx).1
    have : ((i : Int) < (s.1.length : Int)) := by omega
    simp only [this, decide_true, cond_true, idx_at hx]
theorem index_piece (xs : List T_Piece.D) (hl : xs.length ≤ 1048576) (p : T_Piece.D → Bool) (q : (T_Piece.D × Unit) → Option Bool) (hq : ∀ x, q (x, ()) = some (p x)) :
    slices_IndexFunc_impl_Piece xs q = some (match findL p xs with | some k => (k : Int) | none => -1) := by
  unfold slices_IndexFunc_impl_Piece
  rw [index_loop xs (body := slices_IndexFunc_impl_Piece_l1 xs q) p (fun i => i) (by omega) (fun i x hx => ?_) ?_]
  · cases findL p xs <;> rfl
  · unfold slices_IndexFunc_impl_Piece_l1
    simp
  · unfold slices_IndexFunc_impl_Piece_l1
    have hlt := (List.getElem?_eq_some_iff.1 hx).1
    have : ((i : Int) < (xs.length : Int)) := by omega
    simp only [this, decide_true, cond_true, idx_at hx, hq, Option.bind_some]
theorem impl_PieceAt_eq (s : T_State.D) (a : Int) (h : s.1.length ≤ 1048576) : impl_PieceAt s a = some (pieceAt s a) := by
  unfold impl_PieceAt pieceAt
  rw [index_piece s.1 h (fun (x : T_Piece.D) => x.1 == a) _ (fun x => rfl)]
  rfl


/-! ### Numbers -/
theorem l1In_eq (a b c : Int) : spec_l1In a b c = some (decide (b ≤ a) && decide (a ≤ c)) := by
  unfold spec_l1In
  have : decide (a ≥ b) = decide (b ≤ a) := rfl
  simp only [this]
  cases decide (b ≤ a) <;> rfl
theorem from_eq (a b c : Int) : impl_from a b c = some (decide (b ≤ a) && decide (a ≤ c)) := by
  unfold impl_from
  have : decide (a ≥ b) = decide (b ≤ a) := rfl
  simp only [this]
  cases decide (b ≤ a) <;> rfl
def boundV (n : Int) : Int := if n > 2147483647 then 2147483647 else if n < -2147483647 then -2147483647 else n
theorem spec_Bound_eq (n : Int) : spec_Bound n = some (boundV n) := by
  unfold spec_Bound boundV
  simp only [cond_eq_ite, decide_eq_true_eq]
  split <;> (try split) <;> rfl
theorem impl_Bound_eq (n : Int) : impl_Bound n = some (boundV n) := by
  unfold impl_Bound boundV
  congr 1
  split <;> split <;> (try split) <;> (try split) <;> omega
def plusV (a b : Int) : Int := boundV (IntKind.wrap .i64 (boundV a + boundV b))
def lessV (a b : Int) : Int := boundV (IntKind.wrap .i64 (boundV a - boundV b))
theorem some_ite {c : Prop} [Decidable c] (a b : Bool) : (if c then some a else some b) = some (if c then a else b) := by split <;> rfl


/-! ### Pieces and states that are right -/
def pieceOkB (p : T_Piece.D) : Bool :=
  decide (1 ≤ p.1) && decide (p.1 ≤ 99) && decide (0 ≤ p.2.1) && decide (p.2.1 ≤ 2) && decide (0 ≤ p.2.2.1) && decide (p.2.2.1 ≤ 2) && decide (1 ≤ p.2.2.2.1) && decide (p.2.2.2.1 ≤ 4) && decide (0 ≤ p.2.2.2.2.1) && decide (p.2.2.2.2.1 ≤ 9999) &&
  decide (0 ≤ p.2.2.2.2.2.1) && decide (p.2.2.2.2.2.1 ≤ 999) && decide (0 ≤ p.2.2.2.2.2.2.1) && decide (p.2.2.2.2.2.2.1 ≤ 999) && decide (0 ≤ p.2.2.2.2.2.2.2.1) && decide (p.2.2.2.2.2.2.2.1 ≤ 63) && (
    if p.2.2.2.1 = 2 then decide (0 ≤ p.2.2.2.2.2.2.2.2.1) && decide (p.2.2.2.2.2.2.2.2.1 ≤ 2147483647) && decide (0 ≤ p.2.2.2.2.2.2.2.2.2.1) && decide (p.2.2.2.2.2.2.2.2.2.1 ≤ 2147483647) && decide (0 ≤ p.2.2.2.2.2.2.2.2.2.2.1) && decide (p.2.2.2.2.2.2.2.2.2.2.1 ≤ 2147483647)
    else (p.2.2.1 == p.2.1) && (p.2.2.2.2.2.2.2.2.1 == 0) && (p.2.2.2.2.2.2.2.2.2.1 == 0) && (p.2.2.2.2.2.2.2.2.2.2.1 == 0) && !p.2.2.2.2.2.2.2.2.2.2.2.1 && !p.2.2.2.2.2.2.2.2.2.2.2.2.1)
theorem spec_PieceOk_eq (p : T_Piece.D) : spec_PieceOk p = some (pieceOkB p) := by
  obtain ⟨i, o, sd, z, t, pw, tg, tr, pl, mi, mk, dl, bt, u⟩ := p
  unfold spec_PieceOk pieceOkB
  simp only [l1In_eq, Option.bind_some, cond_eq_ite, some_ite]
  congr 1
  rw [Bool.eq_iff_iff]
  by_cases h1 : z = 2
  · subst h1; simp; grind
  · simp [h1]; grind
theorem impl_PieceOk_eq (p : T_Piece.D) : impl_PieceOk p = some (pieceOkB p) := by
  obtain ⟨i, o, sd, z, t, pw, tg, tr, pl, mi, mk, dl, bt, u⟩ := p
  unfold impl_PieceOk pieceOkB impl_isId impl_isPlayer impl_isZone impl_isTime impl_isTraits impl_isAmount
  simp only [from_eq, Option.bind_some, cond_eq_ite, some_ite, bne]
  congr 1
  rw [Bool.eq_iff_iff]
  by_cases h1 : z = 2
  · subst h1; simp; grind
  · simp [h1]; grind
def sideOkB (x : T_Side.D) : Bool := decide (-2147483647 ≤ x.1) && decide (x.1 ≤ 2147483647) && (decide (0 ≤ x.2.1) && decide (x.2.1 ≤ 2147483647))
theorem spec_l5Side_eq (x : T_Side.D) : spec_l5Side x = some (sideOkB x) := by
  unfold spec_l5Side sideOkB
  simp only [l1In_eq, Option.bind_some]
  cases (decide (-2147483647 ≤ x.1) && decide (x.1 ≤ 2147483647)) <;> rfl
theorem impl_StateOk_1_eq (x : T_Side.D) : impl_StateOk_1 x = some (!sideOkB x) := by
  unfold impl_StateOk_1 sideOkB impl_isAmount
  simp only [impl_Bound_eq, from_eq, Option.bind_some]
  have : (boundV x.1 != x.1) = !(decide (-2147483647 ≤ x.1) && decide (x.1 ≤ 2147483647)) := by
    rw [Bool.eq_iff_iff]; unfold boundV; simp; grind
  rw [this]
  cases (decide (-2147483647 ≤ x.1) && decide (x.1 ≤ 2147483647)) <;> rfl

def anyI {α : Type} (p : Nat → α → Bool) : Nat → List α → Bool
  | _, [] => false
  | i, x :: r => p i x || anyI p (i + 1) r
theorem anyI_false {α : Type} (p : Nat → α → Bool) : ∀ (xs : List α) (k : Nat), anyI p k xs = false → ∀ (i : Nat) x, xs[i]? = some x → p (k + i) x = false
  | [], _, _, i, x, hx => by simp at hx
  | y :: xs, k, h, 0, x, hx => by
    simp only [anyI, Bool.or_eq_false_iff] at h
    simp at hx
    subst hx
    exact h.1
  | y :: xs, k, h, i + 1, x, hx => by
    simp only [anyI, Bool.or_eq_false_iff] at h
    have := anyI_false p xs (k + 1) h.2 i x (by simpa using hx)
    rwa [show k + (i + 1) = k + 1 + i by omega]
theorem any_loop {α β : Type} (xs : List α) {body : Int → Option (Int ⊕ (Int ⊕ β))} (p : Nat → α → Bool) (v : β) (hlen : xs.length ≤ 9223372036854775806)
    (hb : ∀ (i : Nat) x, xs[i]? = some x → body i = bif p i x then some (.inr (.inr v)) else some (.inl (IntKind.wrap .i64 ((i : Int) + 1))))
    (he : body xs.length = some (.inr (.inl xs.length))) :
    while_ body 0 = some (bif anyI p 0 xs then .inr v else .inl xs.length) := by
  have main : ∀ (r : List α) (k : Nat), xs.drop k = r → k ≤ xs.length → while_ body k = some (bif anyI p k r then .inr v else .inl xs.length) := by
    intro r
    induction r with
    | nil =>
      intro k h hk
      have : k = xs.length := by
        have := congrArg List.length h
        simp at this
        omega
      subst this
      exact while_done he
    | cons x r ih =>
      intro k h hk
      have hlt : k < xs.length := by
        have := congrArg List.length h
        simp at this
        omega
      have hx : xs[k]? = some x := by
        have := congrArg (fun l => l[0]?) h
        simpa using this
      have hr : xs.drop (k + 1) = r := by
        have := congrArg List.tail h
        simpa using this
      unfold anyI
      cases hp : p k x with
      | true =>
        refine while_done ?_
        rw [hb k x hx, hp]
        rfl
      | false =>
        refine while_step (s' := ((k + 1 : Nat) : Int)) ?_ (ih (k + 1) hr hlt)
        rw [hb k x hx, hp]
        simp only [cond_false]
        rw [wrap_id (by omega) (by omega)]
        rfl
  have := main xs 0 rfl (by omega)
  simpa using this

theorem any_any {α : Type} (p : α → Bool) : ∀ (xs : List α) (k : Nat), anyI (fun _ x => p x) k xs = xs.any p
  | [], _ => rfl
  | x :: xs, k => by simp [anyI, any_any p xs]
theorem findL_any {α : Type} (p : α → Bool) (xs : List α) : decide ((match findL p xs with | some k => (k : Int) | none => -1) ≥ 0) = xs.any p := by
  obtain ⟨h1, h2⟩ := findL_spec p xs
  cases hf : findL p xs with
  | none =>
    have : xs.any p = false := by rw [List.any_eq_false]; exact fun x hx => by simp [h1 hf x hx]
    rw [this]; rfl
  | some k =>
    obtain ⟨x, g1, g2, _⟩ := h2 k hf
    have : xs.any p = true := by rw [List.any_eq_true]; exact ⟨x, List.mem_of_getElem? g1, g2⟩
    rw [this]
    simp

def badPiece (s : T_State.D) (i : Nat) (x : T_Piece.D) : Bool :=
  !pieceOkB x || decide (x.2.1 ≥ (s.2.1.length : Int)) || decide (x.2.2.1 ≥ (s.2.1.length : Int)) || decide (x.2.2.2.2.1 > s.2.2.2.1) || (decide (0 < i) && (s.1[i - 1]?).any (fun y => decide (y.1 ≥ x.1)))
def stateOkB (s : T_State.D) : Bool :=
  decide ((s.1.length : Int) ≤ 8) && (decide (2 ≤ (s.2.1.length : Int)) && decide ((s.2.1.length : Int) ≤ 3)) && (decide (0 ≤ s.2.2.1) && decide (s.2.2.1 ≤ (s.2.1.length : Int) - 1)) && (decide (0 ≤ s.2.2.2.1) && decide (s.2.2.2.1 ≤ 9999)) && !anyI (badPiece s) 0 s.1 && !s.2.1.any (fun x => !sideOkB x)
theorem prev_piece {s : T_State.D} {i : Nat} {x : T_Piece.D} (hx : s.1[i]? = some x) (hl : s.1.length ≤ 1048576) {R : Type} (κ : T_Piece.D → Option R) (h : 0 < i) : ∃ y, s.1[i - 1]? = some y ∧ idx s.1 (IntKind.wrap .i64 ((i : Int) - 1)) κ = κ y := by
  have hlt := (List.getElem?_eq_some_iff.1 hx).1
  have hy : s.1[i - 1]? = some (s.1[i - 1]'(by omega)) := List.getElem?_eq_getElem (by omega)
  refine ⟨_, hy, ?_⟩
  rw [wrap_id (by omega) (by omega), show ((i : Int) - 1) = ((i - 1 : Nat) : Int) by omega]
  exact idx_at hy
theorem pieceOk_sides {x : T_Piece.D} (h : pieceOkB x = true) : 0 ≤ x.2.1 ∧ 0 ≤ x.2.2.1 := by
  unfold pieceOkB at h
  simp only [Bool.and_eq_true, decide_eq_true_eq] at h
  exact ⟨h.1.1.1.1.1.1.1.1.1.1.1.1.1.1.2, h.1.1.1.1.1.1.1.1.1.1.1.1.2⟩
theorem in_side {a n : Int} (h : 0 ≤ a) : (decide (0 ≤ a) && decide (a ≤ n - 1)) = !decide (a ≥ n) := by
  by_cases hh : a ≥ n
  · rw [decide_eq_true hh, decide_eq_false (p := a ≤ n - 1) (by omega), Bool.and_false]; rfl
  · rw [decide_eq_false hh, decide_eq_true (p := a ≤ n - 1) (by omega), decide_eq_true h]; rfl
theorem index_side (xs : List T_Side.D) (hl : xs.length ≤ 1048576) (p : T_Side.D → Bool) (q : (T_Side.D × Unit) → Option Bool) (hq : ∀ x, q (x, ()) = some (p x)) :
    slices_IndexFunc_impl_Side xs q = some (match findL p xs with | some k => (k : Int) | none => -1) := by
  unfold slices_IndexFunc_impl_Side
  rw [index_loop xs (body := slices_IndexFunc_impl_Side_l1 xs q) p (fun i => i) (by omega) (fun i x hx => ?_) ?_]
  · cases findL p xs <;> rfl
  · unfold slices_IndexFunc_impl_Side_l1
    simp
  · unfold slices_IndexFunc_impl_Side_l1
    have hlt := (List.getElem?_eq_some_iff.1 hx).1
    have : ((i : Int) < (xs.length : Int)) := by omega
    simp only [this, decide_true, cond_true, idx_at hx, hq, Option.bind_some]
theorem spec_StateOk_eq (s : T_State.D) (hp : s.1.length ≤ 1048576) (hs : s.2.1.length ≤ 1048576) : spec_StateOk s = some (stateOkB s) := by
  unfold spec_StateOk stateOkB
  simp only [l1In_eq, Option.bind_some]
  rw [wrap_id (by omega) (by omega)]
  have hd : decide ((s.1.length : Int) > 8) = !decide ((s.1.length : Int) ≤ 8) := by rw [Bool.eq_iff_iff]; simp
  rw [hd]
  cases decide ((s.1.length : Int) ≤ 8)
  · rfl
  cases (decide (2 ≤ (s.2.1.length : Int)) && decide ((s.2.1.length : Int) ≤ 3))
  · rfl
  cases (decide (0 ≤ s.2.2.1) && decide (s.2.2.1 ≤ (s.2.1.length : Int) - 1))
  · rfl
  cases (decide (0 ≤ s.2.2.2.1) && decide (s.2.2.2.1 ≤ 9999))
  · rfl
  simp only [Bool.not_true, cond_false, Option.bind_some, Bool.true_and]
  rw [any_loop s.1 (body := spec_StateOk_l1 s) (badPiece s) false (by omega) (fun i x hx => ?_) (by unfold spec_StateOk_l1; simp)]
  · rw [any_loop s.2.1 (body := spec_StateOk_l2 s) (fun _ x => !sideOkB x) false (by omega) (fun i x hx => ?_) (by unfold spec_StateOk_l2; simp), any_any]
    · cases anyI (badPiece s) 0 s.1 <;> cases s.2.1.any (fun x => !sideOkB x) <;> rfl
    · have hlt := (List.getElem?_eq_some_iff.1 hx).1
      have hil : ((i : Int) < (s.2.1.length : Int)) := by omega
      unfold spec_StateOk_l2
      simp only [hil, decide_true, cond_true, idx_at hx, spec_l5Side_eq, Option.bind_some]
  · have hlt := (List.getElem?_eq_some_iff.1 hx).1
    have hil : ((i : Int) < (s.1.length : Int)) := by omega
    unfold spec_StateOk_l1 badPiece
    simp only [hil, decide_true, cond_true, idx_at hx, spec_PieceOk_eq, Option.bind_some]
    by_cases hi : 0 < i
    · obtain ⟨y, hy, hk⟩ := prev_piece hx hp (fun x8 => bif decide (x8.1 ≥ x.1) then some true else bif decide (x.2.1 ≥ (s.2.1.length : Int)) then some true else bif decide (x.2.2.1 ≥ (s.2.1.length : Int)) then some true else some (decide (x.2.2.2.2.1 > s.2.2.2.1))) hi
      have h1 : decide ((i : Int) > 0) = true := by simp; omega
      have h2 : decide (0 < i) = true := by simpa using hi
      rw [h1, h2, hy]
      simp only [cond_true, hk, Option.any_some]
      cases pieceOkB x <;> cases decide (y.1 ≥ x.1) <;> cases decide (x.2.1 ≥ (s.2.1.length : Int)) <;> cases decide (x.2.2.1 ≥ (s.2.1.length : Int)) <;> cases decide (x.2.2.2.2.1 > s.2.2.2.1) <;> rfl
    · have h1 : decide ((i : Int) > 0) = false := by simp; omega
      have h2 : decide (0 < i) = false := by simpa using hi
      rw [h1, h2]
      simp only [cond_false]
      cases pieceOkB x <;> cases decide (x.2.1 ≥ (s.2.1.length : Int)) <;> cases decide (x.2.2.1 ≥ (s.2.1.length : Int)) <;> cases decide (x.2.2.2.2.1 > s.2.2.2.1) <;> rfl
theorem impl_StateOk_eq (s : T_State.D) (hp : s.1.length ≤ 1048576) (hs : s.2.1.length ≤ 1048576) : impl_StateOk s = some (stateOkB s) := by
  unfold impl_StateOk stateOkB impl_isSide impl_isTime
  simp only [from_eq, Option.bind_some]
  rw [wrap_id (by omega) (by omega)]
  have hd : decide ((s.1.length : Int) > 8) = !decide ((s.1.length : Int) ≤ 8) := by rw [Bool.eq_iff_iff]; simp
  rw [hd]
  cases decide ((s.1.length : Int) ≤ 8)
  · rfl
  cases (decide (2 ≤ (s.2.1.length : Int)) && decide ((s.2.1.length : Int) ≤ 3))
  · rfl
  cases (decide (0 ≤ s.2.2.1) && decide (s.2.2.1 ≤ (s.2.1.length : Int) - 1))
  · rfl
  cases (decide (0 ≤ s.2.2.2.1) && decide (s.2.2.2.1 ≤ 9999))
  · rfl
  simp only [Bool.not_true, cond_false, Option.bind_some, Bool.true_and]
  have hc : slices_ContainsFunc_impl_Side s.2.1 (fun q => impl_StateOk_1 q.1) = some (s.2.1.any (fun x => !sideOkB x)) := by
    unfold slices_ContainsFunc_impl_Side
    rw [index_side s.2.1 hs (fun x => !sideOkB x) _ (fun x => impl_StateOk_1_eq x), Option.bind_some, findL_any]
  rw [any_loop s.1 (body := impl_StateOk_l1 s) (badPiece s) false (by omega) (fun i x hx => ?_) (by unfold impl_StateOk_l1; simp)]
  · rw [hc]
    cases anyI (badPiece s) 0 s.1 <;> cases s.2.1.any (fun x => !sideOkB x) <;> rfl
  · have hlt := (List.getElem?_eq_some_iff.1 hx).1
    have hil : ((i : Int) < (s.1.length : Int)) := by omega
    unfold impl_StateOk_l1 badPiece impl_isSide
    simp only [hil, decide_true, cond_true, idx_at hx, impl_PieceOk_eq, from_eq, Option.bind_some]
    rw [wrap_id (n := (s.2.1.length : Int) - 1) (by omega) (by omega)]
    cases hok : pieceOkB x
    · rfl
    obtain ⟨g1, g2⟩ := pieceOk_sides hok
    have e1 : (decide (0 ≤ x.2.1) && decide (x.2.1 ≤ (s.2.1.length : Int) - 1)) = !decide (x.2.1 ≥ (s.2.1.length : Int)) := in_side g1
    have e2 : (decide (0 ≤ x.2.2.1) && decide (x.2.2.1 ≤ (s.2.1.length : Int) - 1)) = !decide (x.2.2.1 ≥ (s.2.1.length : Int)) := in_side g2
    rw [e1, e2]
    by_cases hi : 0 < i
    · obtain ⟨y, hy, hk⟩ := prev_piece hx hp (fun x10 => some (decide (x10.1 ≥ x.1))) hi
      have h1 : decide ((i : Int) > 0) = true := by simp; omega
      have h2 : decide (0 < i) = true := by simpa using hi
      rw [h1, h2, hy]
      simp only [cond_true, hk, Option.any_some]
      cases decide (y.1 ≥ x.1) <;> cases decide (x.2.1 ≥ (s.2.1.length : Int)) <;> cases decide (x.2.2.1 ≥ (s.2.1.length : Int)) <;> cases decide (x.2.2.2.2.1 > s.2.2.2.1) <;> rfl
    · have h1 : decide ((i : Int) > 0) = false := by simp; omega
      have h2 : decide (0 < i) = false := by simpa using hi
      rw [h1, h2]
      simp only [cond_false]
      cases decide (x.2.1 ≥ (s.2.1.length : Int)) <;> cases decide (x.2.2.1 ≥ (s.2.1.length : Int)) <;> cases decide (x.2.2.2.2.1 > s.2.2.2.1) <;> rfl

/-! ### Events that are right -/
def eventOkB (e : T_Event.D) : Bool :=
  let piece := decide (1 ≤ e.2.2.1) && decide (e.2.2.1 ≤ 99) && (e.2.2.2.1 == -1)
  let side := (e.2.2.1 == 0) && decide (0 ≤ e.2.2.2.1) && decide (e.2.2.2.1 ≤ 2)
  decide (0 ≤ e.2.2.2.2.1) && decide (e.2.2.2.2.1 ≤ 2147483647) && (
    if e.1 = 1 then decide (1 ≤ e.2.1) && decide (e.2.1 ≤ 99) && (piece || side) && (e.2.2.2.2.2.1 == 0) && !e.2.2.2.2.2.2.1
    else if e.1 = 2 then (e.2.1 == 0) && piece && decide (1 ≤ e.2.2.2.2.2.1) && decide (e.2.2.2.2.2.1 ≤ 4) && decide (e.2.2.2.2.1 ≤ 99) && ((e.2.2.2.2.2.1 == 2) || (e.2.2.2.2.1 == 0) && !e.2.2.2.2.2.2.1)
    else if e.1 = 3 ∨ e.1 = 4 then (e.2.1 == 0) && side && (e.2.2.2.2.2.1 == 0) && !e.2.2.2.2.2.2.1
    else if e.1 = 5 ∨ e.1 = 6 then (e.2.1 == 0) && piece && (e.2.2.2.2.2.1 == 0) && !e.2.2.2.2.2.2.1
    else false)

theorem spec_EventOk_eq (e : T_Event.D) : spec_EventOk e = some (eventOkB e) := by
  obtain ⟨k, s, p, d, n, z, bt, u⟩ := e
  unfold spec_EventOk eventOkB
  simp only [l1In_eq, Option.bind_some, cond_eq_ite, some_ite]
  congr 1
  rw [Bool.eq_iff_iff]
  by_cases h1 : k = 1
  · subst h1; simp; grind
  by_cases h2 : k = 2
  · subst h2; simp; grind
  by_cases h3 : k = 3
  · subst h3; simp; grind
  by_cases h4 : k = 4
  · subst h4; simp; grind
  by_cases h5 : k = 5
  · subst h5; simp; grind
  by_cases h6 : k = 6
  · subst h6; simp; grind
  simp [h1, h2, h3, h4, h5, h6]
theorem impl_EventOk_eq (e : T_Event.D) : impl_EventOk e = some (eventOkB e) := by
  obtain ⟨k, s, p, d, n, z, bt, u⟩ := e
  unfold impl_EventOk eventOkB impl_isAmount impl_onPiece impl_onPlayer impl_isId impl_isZone impl_isPlayer
  simp only [from_eq, Option.bind_some, cond_eq_ite, some_ite, bne]
  congr 1
  rw [Bool.eq_iff_iff]
  by_cases h1 : k = 1
  · subst h1; simp; grind
  by_cases h2 : k = 2
  · subst h2; simp; grind
  by_cases h3 : k = 3
  · subst h3; simp; grind
  by_cases h4 : k = 4
  · subst h4; simp; grind
  by_cases h5 : k = 5
  · subst h5; simp; grind
  by_cases h6 : k = 6
  · subst h6; simp; grind
  simp [h1, h2, h3, h4, h5, h6]

theorem eventOk_facts {k s p d n z : Int} {bt : Bool} {u : Unit} (h : eventOkB (k, s, p, d, n, z, bt, u) = true) :
    (k = 1 ∧ (1 ≤ p ∨ p = 0 ∧ 0 ≤ d)) ∨ (k = 2 ∧ 1 ≤ p) ∨ ((k = 3 ∨ k = 4) ∧ p = 0 ∧ 0 ≤ d) ∨ ((k = 5 ∨ k = 6) ∧ 1 ≤ p) := by
  unfold eventOkB at h
  by_cases h1 : k = 1
  · subst h1; simp at h; grind
  by_cases h2 : k = 2
  · subst h2; simp at h; grind
  by_cases h3 : k = 3
  · subst h3; simp at h; grind
  by_cases h4 : k = 4
  · subst h4; simp at h; grind
  by_cases h5 : k = 5
  · subst h5; simp at h; grind
  by_cases h6 : k = 6
  · subst h6; simp at h; grind
  simp [h1, h2, h3, h4, h5, h6] at h

theorem hasTrait_eq (p : T_Piece.D) (t : Int) : spec_HasTrait p t = impl_HasTrait p t := by
  unfold spec_HasTrait impl_HasTrait
  cases h1 : t == 1 <;> cases h2 : t == 2 <;> cases h4 : t == 4 <;> cases h8 : t == 8 <;> cases h16 : t == 16 <;> cases h32 : t == 32 <;> simp only [cond_true, cond_false, Option.bind_some]
theorem hasTrait_some (p : T_Piece.D) (t : Int) : ∃ b, spec_HasTrait p t = some b := by
  unfold spec_HasTrait
  simp only [cond_eq_ite]
  repeat' split
  all_goals exact ⟨_, rfl⟩

theorem spec_Plus_eq (a b : Int) : spec_Plus a b = some (plusV a b) := by unfold spec_Plus; simp only [spec_Bound_eq, Option.bind_some]; rfl
theorem impl_Plus_eq (a b : Int) : impl_Plus a b = some (plusV a b) := by unfold impl_Plus; simp only [impl_Bound_eq, Option.bind_some]; rfl
theorem spec_Less_eq (a b : Int) : spec_Less a b = some (lessV a b) := by unfold spec_Less; simp only [spec_Bound_eq, Option.bind_some]; rfl
theorem impl_Less_eq (a b : Int) : impl_Less a b = some (lessV a b) := by unfold impl_Less; simp only [impl_Bound_eq, Option.bind_some]; rfl

/-! ### Copies -/
theorem clonePiece_eq (xs : List T_Piece.D) (h : xs.length ≤ 1048576) : slices_Clone_impl_Piece xs = some xs := by
  unfold slices_Clone_impl_Piece
  rw [if_pos (by simp only [room, List.length_nil]; omega)]
  rfl
theorem cloneSide_eq (xs : List T_Side.D) (h : xs.length ≤ 1048576) : slices_Clone_impl_Side xs = some xs := by
  unfold slices_Clone_impl_Side
  rw [if_pos (by simp only [room, List.length_nil]; omega)]
  rfl
theorem impl_copy_eq (s : T_State.D) (hp : s.1.length ≤ 1048576) (hs : s.2.1.length ≤ 1048576) : impl_copyState s = some s := by
  unfold impl_copyState
  simp only [clonePiece_eq _ hp, cloneSide_eq _ hs, Option.bind_some]
theorem spec_copy_eq (s : T_State.D) (hp : s.1.length ≤ 1048576) (hs : s.2.1.length ≤ 1048576) : spec_l5Copy s = some s := by
  unfold spec_l5Copy
  rw [if_pos (by simp only [room, List.length_nil]; omega), if_pos (by simp only [room, List.length_nil]; omega)]
  rfl
/-- An element read to be written. -/
theorem ref_at {α R : Type} {xs : List α} {i : Nat} {x : α} {κ : α → Option R} (h : xs[i]? = some x) : (idx xs (i : Int) fun _ => (xs[((i : Int)).toNat]?).bind κ) = κ x := by
  rw [idx_at h, Int.toNat_natCast, h, Option.bind_some]
/-- Two states of the same size. -/
def sameSize (a b : T_State.D) : Prop := a.1.length = b.1.length ∧ a.2.1.length = b.2.1.length


/-! ### Carry -/
def movedV (x : T_Piece.D) (v : T_Event.D) (c : Int) : T_Piece.D :=
  bif v.2.2.2.2.2.1 == 2 then (x.1, x.2.1, x.2.1, v.2.2.2.2.2.1, c, x.2.2.2.2.2.1, x.2.2.2.2.2.2.1, x.2.2.2.2.2.2.2.1, v.2.2.2.2.1, 0, 0, false, v.2.2.2.2.2.2)
  else (x.1, x.2.1, x.2.1, v.2.2.2.2.2.1, c, x.2.2.2.2.2.1, x.2.2.2.2.2.2.1, x.2.2.2.2.2.2.2.1, 0, 0, 0, false, false, ())
def CarryR (s : T_State.D) (v : T_Event.D) (r : T_State.D × (Bool × Unit)) : Prop :=
  (r.2.1 = false ∧ r.1 = s) ∨ (r.2.1 = true ∧ stateOkB s = true ∧ eventOkB v = true ∧ v.1 = 2 ∧ ∃ (k : Nat) (x : T_Piece.D), pieceAt s v.2.2.1 = k ∧ s.1[k]? = some x ∧ x.1 = v.2.2.1 ∧ (x.2.2.2.1 == v.2.2.2.2.2.1) = false ∧ r.1 = (s.1.set k (movedV x v s.2.2.2.1), s.2))
theorem carry_val (s : T_State.D) (v : T_Event.D) (hp : s.1.length ≤ 1048576) (hs : s.2.1.length ≤ 1048576) : ∃ r, spec_Carry s v = some r ∧ impl_Carry s v = some r ∧ CarryR s v r := by
  unfold spec_Carry impl_Carry
  simp only [spec_copy_eq s hp hs, impl_copy_eq s hp hs, spec_PieceAt_eq s _ hp, impl_PieceAt_eq s _ hp, spec_StateOk_eq s hp hs, impl_StateOk_eq s hp hs, spec_EventOk_eq, impl_EventOk_eq, Option.bind_some]
  cases h1 : stateOkB s
  · exact ⟨_, rfl, rfl, .inl ⟨rfl, rfl⟩⟩
  cases h2 : eventOkB v
  · exact ⟨_, rfl, rfl, .inl ⟨rfl, rfl⟩⟩
  cases h3 : (v.1 != 2)
  case true => exact ⟨_, rfl, rfl, .inl ⟨rfl, rfl⟩⟩
  have h3 : v.1 = 2 := by simpa using h3
  rcases pieceAt_cases s v.2.2.1 with h | ⟨k, x, g1, g2, g3⟩
  · rw [h]; exact ⟨_, rfl, rfl, .inl ⟨rfl, rfl⟩⟩
  · rw [g1, dec_neg (by omega)]
    simp only [cond_false, Bool.not_true, Option.bind_some, idx_at g2, Int.toNat_natCast, g2]
    cases h4 : (x.2.2.2.1 == v.2.2.2.2.2.1)
    · simp only [cond_false]
      have e1 : ∀ a b, spec_Moved x a b = some (x.1, x.2.1, x.2.1, a, b, x.2.2.2.2.2.1, x.2.2.2.2.2.2.1, x.2.2.2.2.2.2.2.1, 0, 0, 0, false, false, ()) := fun a b => rfl
      have e2 : ∀ a b, impl_Moved x a b = some (x.1, x.2.1, x.2.1, a, b, x.2.2.2.2.2.1, x.2.2.2.2.2.2.1, x.2.2.2.2.2.2.2.1, 0, 0, 0, false, false, ()) := fun a b => rfl
      simp only [e1, e2, Option.bind_some]
      refine ⟨((s.1.set k (movedV x v s.2.2.2.1), s.2), true, ()), ?_, ?_, .inr ⟨rfl, h1, h2, h3, k, x, g1, g2, g3, h4, rfl⟩⟩ <;> unfold movedV <;> cases (v.2.2.2.2.2.1 == 2) <;> rfl
    · exact ⟨_, rfl, rfl, .inl ⟨rfl, rfl⟩⟩
theorem carry_eq (s : T_State.D) (v : T_Event.D) (hp : s.1.length ≤ 1048576) (hs : s.2.1.length ≤ 1048576) : ∃ r, spec_Carry s v = some r ∧ impl_Carry s v = some r ∧ sameSize r.1 s := by
  obtain ⟨r, h1, h2, h3⟩ := carry_val s v hp hs
  refine ⟨r, h1, h2, ?_⟩
  rcases h3 with ⟨_, h⟩ | ⟨_, _, _, _, k, x, _, _, _, _, h⟩
  · rw [h]; exact ⟨rfl, rfl⟩
  · rw [h]; exact ⟨by simp, rfl⟩



theorem side_in {s : T_State.D} {d : Int} (h0 : 0 ≤ d) (h : d < (s.2.1.length : Int)) : ∃ (j : Nat) (x : T_Side.D), d = j ∧ s.2.1[j]? = some x := by
  obtain ⟨j, rfl⟩ := Int.eq_ofNat_of_zero_le h0
  exact ⟨j, s.2.1[j]'(by omega), rfl, List.getElem?_eq_getElem (by omega)⟩

def BearR (s : T_State.D) (k p d n : Int) (ev : Bool) (r : T_State.D × (Bool × Unit)) : Prop :=
  (r.2.1 = false ∧ r.1 = s) ∨ (r.2.1 = true ∧ stateOkB s = true ∧ ev = true ∧
    ((∃ (j : Nat) (x : T_Side.D), (p = 0 ∧ d = j ∧ s.2.1[j]? = some x) ∧ ((k = 3 ∧ r.1 = (s.1, s.2.1.set j (plusV x.1 n, x.2), s.2.2)) ∨ (k = 4 ∧ r.1 = (s.1, s.2.1.set j (lessV x.1 n, x.2), s.2.2)))) ∨
     (∃ (i : Nat) (x : T_Piece.D), (pieceAt s p = i ∧ s.1[i]? = some x ∧ (x.2.2.2.1 == 2) = true) ∧
      ((k = 5 ∧ r.1 = (s.1.set i (x.1, x.2.1, x.2.2.1, x.2.2.2.1, x.2.2.2.2.1, x.2.2.2.2.2.1, x.2.2.2.2.2.2.1, x.2.2.2.2.2.2.2.1, plusV x.2.2.2.2.2.2.2.2.1 n, x.2.2.2.2.2.2.2.2.2), s.2)) ∨
       (k = 6 ∧ r.1 = (s.1.set i (x.1, x.2.1, x.2.2.1, x.2.2.2.1, x.2.2.2.2.1, x.2.2.2.2.2.1, x.2.2.2.2.2.2.1, x.2.2.2.2.2.2.2.1, x.2.2.2.2.2.2.2.2.1, plusV x.2.2.2.2.2.2.2.2.2.1 n, x.2.2.2.2.2.2.2.2.2.2), s.2))))))
theorem bear_val' (s : T_State.D) (k sr p d n z : Int) (bt : Bool) (u : Unit) (hp : s.1.length ≤ 1048576) (hs : s.2.1.length ≤ 1048576) : ∃ r, spec_Bear s (k, sr, p, d, n, z, bt, u) = some r ∧ impl_Bear s (k, sr, p, d, n, z, bt, u) = some r ∧ BearR s k p d n (eventOkB (k, sr, p, d, n, z, bt, u)) r := by
  unfold spec_Bear impl_Bear
  simp only [spec_copy_eq s hp hs, impl_copy_eq s hp hs, spec_StateOk_eq s hp hs, impl_StateOk_eq s hp hs, spec_EventOk_eq, impl_EventOk_eq, Option.bind_some]
  cases hs0 : stateOkB s
  · exact ⟨_, rfl, rfl, .inl ⟨rfl, rfl⟩⟩
  cases hv : eventOkB (k, sr, p, d, n, z, bt, u)
  · exact ⟨_, rfl, rfl, .inl ⟨rfl, rfl⟩⟩
  unfold impl_reaches impl_isSide impl_fieldAt
  simp only [from_eq, spec_PieceAt_eq s _ hp, impl_PieceAt_eq s _ hp, spec_Plus_eq, impl_Plus_eq, spec_Less_eq, impl_Less_eq, Option.bind_some, Bool.not_true, cond_false]
  rw [wrap_id (n := (s.2.1.length : Int) - 1) (by omega) (by omega)]
  rcases eventOk_facts hv with ⟨rfl, _⟩ | ⟨rfl, _⟩ | ⟨hk, rfl, hd⟩ | ⟨hk, h1⟩
  · exact ⟨_, rfl, rfl, .inl ⟨rfl, rfl⟩⟩
  · exact ⟨_, rfl, rfl, .inl ⟨rfl, rfl⟩⟩
  · by_cases hlt : d < (s.2.1.length : Int)
    · obtain ⟨j, x, rfl, hx⟩ := side_in hd hlt
      have c1 : decide ((j : Int) ≥ (s.2.1.length : Int)) = false := decide_eq_false (by omega)
      have c2 : (decide (0 ≤ (j : Int)) && decide ((j : Int) ≤ (s.2.1.length : Int) - 1)) = true := by rw [decide_eq_true (by omega), decide_eq_true (by omega)]; rfl
      rcases hk with rfl | rfl <;> simp only [Int.reduceBEq, Int.reduceBNe, beq_self_eq_true, c1, c2, cond_true, cond_false, Option.bind_some, idx_at hx, Int.toNat_natCast, hx, Bool.not_true] <;> first | exact ⟨_, rfl, rfl, .inr ⟨rfl, hs0, rfl, .inl ⟨j, x, ⟨rfl, rfl, hx⟩, .inl ⟨rfl, rfl⟩⟩⟩⟩ | exact ⟨_, rfl, rfl, .inr ⟨rfl, hs0, rfl, .inl ⟨j, x, ⟨rfl, rfl, hx⟩, .inr ⟨rfl, rfl⟩⟩⟩⟩
    · have c1 : decide (d ≥ (s.2.1.length : Int)) = true := decide_eq_true (by omega)
      have c2 : (decide (0 ≤ d) && decide (d ≤ (s.2.1.length : Int) - 1)) = false := by rw [decide_eq_false (p := d ≤ (s.2.1.length : Int) - 1) (by omega), Bool.and_false]
      rcases hk with rfl | rfl <;> simp only [Int.reduceBEq, Int.reduceBNe, beq_self_eq_true, c1, c2, cond_true, cond_false, Option.bind_some, Bool.not_false] <;> exact ⟨_, rfl, rfl, .inl ⟨rfl, rfl⟩⟩
  · have p0 : (p == 0) = false := by rw [beq_eq_false_iff_ne]; omega
    rcases pieceAt_cases s p with h | ⟨i, x, e1, hx, _⟩
    · rcases hk with rfl | rfl <;> simp only [h, Int.reduceBEq, Int.reduceBNe, p0, cond_true, cond_false, Option.bind_some] <;> exact ⟨_, rfl, rfl, .inl ⟨rfl, rfl⟩⟩
    · have c1 : decide ((i : Int) ≥ 0) = true := by simp
      have c2 : decide ((i : Int) < 0) = false := dec_neg (by omega)
      have hzz : (x.2.2.2.1 != 2) = false → (x.2.2.2.1 == 2) = true := fun h => by unfold bne at h; cases hq : (x.2.2.2.1 == 2) <;> rw [hq] at h <;> first | rfl | cases h
      rcases hk with rfl | rfl <;> simp only [e1, c1, c2, Int.reduceBEq, Int.reduceBNe, p0, cond_true, cond_false, Option.bind_some, idx_at hx, Int.toNat_natCast, hx] <;> cases hq : (x.2.2.2.1 != 2) <;> simp only [c1, cond_true, cond_false, Option.bind_some, idx_at hx, Int.toNat_natCast, hx, Bool.not_true] <;> first | exact ⟨_, rfl, rfl, .inl ⟨rfl, rfl⟩⟩ | exact ⟨_, rfl, rfl, .inr ⟨rfl, hs0, rfl, .inr ⟨i, x, ⟨e1, hx, hzz hq⟩, .inl ⟨rfl, rfl⟩⟩⟩⟩ | exact ⟨_, rfl, rfl, .inr ⟨rfl, hs0, rfl, .inr ⟨i, x, ⟨e1, hx, hzz hq⟩, .inr ⟨rfl, rfl⟩⟩⟩⟩

/-! ### States that are right, as statements -/
theorem anyI_iff {α : Type} (p : Nat → α → Bool) : ∀ (xs : List α) (k : Nat), anyI p k xs = false ↔ ∀ (i : Nat) x, xs[i]? = some x → p (k + i) x = false
  | [], _ => by simp [anyI]
  | y :: xs, k => by
    simp only [anyI, Bool.or_eq_false_iff, anyI_iff p xs (k + 1)]
    constructor
    · rintro ⟨h1, h2⟩ i x hx
      cases i with
      | zero => simp at hx; subst hx; exact h1
      | succ i => rw [show k + (i + 1) = k + 1 + i by omega]; exact h2 i x (by simpa using hx)
    · intro h
      refine ⟨h 0 y (by simp), fun i x hx => ?_⟩
      rw [show k + 1 + i = k + (i + 1) by omega]
      exact h (i + 1) x (by simpa using hx)
def PcOk (s : T_State.D) (x : T_Piece.D) : Prop := pieceOkB x = true ∧ x.2.1 < (s.2.1.length : Int) ∧ x.2.2.1 < (s.2.1.length : Int) ∧ x.2.2.2.2.1 ≤ s.2.2.2.1
def StOk (s : T_State.D) : Prop :=
  (s.1.length ≤ 8 ∧ 2 ≤ s.2.1.length ∧ s.2.1.length ≤ 3) ∧ ((0 ≤ s.2.2.1 ∧ s.2.2.1 ≤ (s.2.1.length : Int) - 1) ∧ (0 ≤ s.2.2.2.1 ∧ s.2.2.2.1 ≤ 9999)) ∧
  (∀ (i : Nat) x, s.1[i]? = some x → PcOk s x) ∧ (∀ (i : Nat) x y, s.1[i]? = some x → s.1[i + 1]? = some y → x.1 < y.1) ∧ ∀ x ∈ s.2.1, sideOkB x = true
theorem stateOk_iff (s : T_State.D) : stateOkB s = true ↔ StOk s := by
  unfold stateOkB StOk
  simp only [Bool.and_eq_true, decide_eq_true_eq, Bool.not_eq_true', anyI_iff, Nat.zero_add, List.any_eq_false]
  constructor
  · rintro ⟨⟨⟨⟨⟨h1, h2⟩, h3⟩, h4⟩, h5⟩, h6⟩
    refine ⟨⟨by omega, by omega, by omega⟩, ⟨h3, h4⟩, fun i x hx => ?_, fun i x y hx hy => ?_, fun x hx => by simpa using h6 x hx⟩
    · have := h5 i x hx
      unfold badPiece at this
      simp only [Bool.or_eq_false_iff, Bool.not_eq_false', decide_eq_false_iff_not] at this
      obtain ⟨⟨⟨⟨g1, g2⟩, g3⟩, g4⟩, _⟩ := this
      exact ⟨g1, Int.not_le.1 g2, Int.not_le.1 g3, Int.not_lt.1 g4⟩
    · have := h5 (i + 1) y hy
      unfold badPiece at this
      simp only [Bool.or_eq_false_iff, Bool.and_eq_false_iff, Nat.add_sub_cancel, hx, Option.any_some, decide_eq_false_iff_not] at this
      rcases this.2 with h | h
      · omega
      · exact Int.not_le.1 h
  · rintro ⟨⟨h1, h2, h2'⟩, ⟨h3, h4⟩, h5, h6, h7⟩
    refine ⟨⟨⟨⟨⟨by omega, by omega, by omega⟩, h3⟩, h4⟩, fun i x hx => ?_⟩, fun x hx => by simpa using h7 x hx⟩
    obtain ⟨g1, g2, g3, g4⟩ := h5 i x hx
    unfold badPiece
    simp only [Bool.or_eq_false_iff, Bool.not_eq_false', decide_eq_false_iff_not, Bool.and_eq_false_iff]
    refine ⟨⟨⟨⟨g1, Int.not_le.2 g2⟩, Int.not_le.2 g3⟩, Int.not_lt.2 g4⟩, ?_⟩
    cases i with
    | zero => left; simp
    | succ i =>
      right
      simp only [Nat.add_sub_cancel]
      have hlt := (List.getElem?_eq_some_iff.1 hx).1
      have hp : s.1[i]? = some (s.1[i]'(by omega)) := List.getElem?_eq_getElem (by omega)
      rw [hp, Option.any_some, decide_eq_false_iff_not]
      exact Int.not_le.2 (h6 i _ x hp hx)
theorem keep_pieces {s : T_State.D} (h : StOk s) (ps : List T_Piece.D) (hl : ps.length = s.1.length) (hk : ∀ (i : Nat) x y, s.1[i]? = some x → ps[i]? = some y → y.1 = x.1 ∧ PcOk s y) : StOk (ps, s.2) := by
  obtain ⟨⟨h1, h2, h2'⟩, h3, h5, h6, h7⟩ := h
  have hget : ∀ (i : Nat) y, ps[i]? = some y → ∃ x, s.1[i]? = some x := fun i y hy => ⟨_, List.getElem?_eq_getElem (by have := (List.getElem?_eq_some_iff.1 hy).1; omega)⟩
  refine ⟨⟨by simp only; omega, h2, h2'⟩, h3, fun i y hy => ?_, fun i x y hx hy => ?_, h7⟩
  · obtain ⟨x, hx⟩ := hget i y hy
    exact (hk i x y hx hy).2
  · obtain ⟨x', hx'⟩ := hget i x hx
    obtain ⟨y', hy'⟩ := hget (i + 1) y hy
    have e1 := (hk i x' x hx' hx).1
    have e2 := (hk (i + 1) y' y hy' hy).1
    have := h6 i x' y' hx' hy'
    rw [e1, e2]
    exact this
theorem keep_set {s : T_State.D} (h : StOk s) {i : Nat} {x : T_Piece.D} (hx : s.1[i]? = some x) (y : T_Piece.D) (he : y.1 = x.1) (hy : PcOk s y) : StOk (s.1.set i y, s.2) := by
  refine keep_pieces h _ (by simp) fun j a b ha hb => ?_
  by_cases hj : i = j
  · subst hj
    have hlt := (List.getElem?_eq_some_iff.1 hx).1
    rw [get_set hlt] at hb
    cases hb
    rw [hx] at ha
    cases ha
    exact ⟨he, hy⟩
  · rw [List.getElem?_set_ne hj] at hb
    rw [ha] at hb
    cases hb
    exact ⟨rfl, h.2.2.1 j _ ha⟩
theorem keep_sides {s : T_State.D} (h : StOk s) (ss : List T_Side.D) (hl : ss.length = s.2.1.length) (hk : ∀ x ∈ ss, sideOkB x = true) : StOk (s.1, ss, s.2.2) := by
  obtain ⟨⟨h1, h2, h2'⟩, ⟨h3, h4⟩, h5, h6, h7⟩ := h
  refine ⟨⟨h1, by simp only; omega, by simp only; omega⟩, ⟨by simp only; rw [hl]; exact h3, h4⟩, fun i x hx => ?_, h6, hk⟩
  obtain ⟨g1, g2, g3, g4⟩ := h5 i x hx
  exact ⟨g1, by simp only; rw [hl]; exact g2, by simp only; rw [hl]; exact g3, g4⟩
theorem keep_side {s : T_State.D} (h : StOk s) {j : Nat} (y : T_Side.D) (hy : sideOkB y = true) : StOk (s.1, s.2.1.set j y, s.2.2) := by
  refine keep_sides h _ (by simp) fun x hx => ?_
  rcases List.mem_or_eq_of_mem_set hx with hm | rfl
  · exact h.2.2.2.2 x hm
  · exact hy
theorem boundV_in (n : Int) : -2147483647 ≤ boundV n ∧ boundV n ≤ 2147483647 := by unfold boundV; split <;> (try split) <;> omega
theorem boundV_id {n : Int} (h1 : -2147483647 ≤ n) (h2 : n ≤ 2147483647) : boundV n = n := by unfold boundV; split <;> (try split) <;> omega
theorem plusV_in (a b : Int) : -2147483647 ≤ plusV a b ∧ plusV a b ≤ 2147483647 := boundV_in _
theorem lessV_in (a b : Int) : -2147483647 ≤ lessV a b ∧ lessV a b ≤ 2147483647 := boundV_in _
theorem plusV_nonneg {a b : Int} (ha : 0 ≤ a) (hb : 0 ≤ b) : 0 ≤ plusV a b := by
  unfold plusV
  have h1 := boundV_in a
  have h2 := boundV_in b
  have h3 : 0 ≤ boundV a := by unfold boundV; split <;> (try split) <;> omega
  have h4 : 0 ≤ boundV b := by unfold boundV; split <;> (try split) <;> omega
  rw [wrap_id (by omega) (by omega)]
  unfold boundV
  split <;> (try split) <;> omega


/-! ### Strike -/
theorem set_get {α : Type} {xs : List α} (j : Nat) (w : α) {i : Nat} {x : α} (h : xs[i]? = some x) : ∃ y, (xs.set j w)[i]? = some y :=
  ⟨_, List.getElem?_eq_getElem (by have := (List.getElem?_eq_some_iff.1 h).1; simpa using this)⟩
theorem side_cases (s : T_State.D) (d : Int) : (decide (0 ≤ d) && decide (d ≤ (s.2.1.length : Int) - 1)) = false ∨ ∃ (j : Nat) (y : T_Side.D), (decide (0 ≤ (j : Int)) && decide ((j : Int) ≤ (s.2.1.length : Int) - 1)) = true ∧ d = j ∧ s.2.1[j]? = some y := by
  by_cases h : 0 ≤ d ∧ d < (s.2.1.length : Int)
  · obtain ⟨j, y, e, hy⟩ := side_in (s := s) h.1 h.2
    have := (List.getElem?_eq_some_iff.1 hy).1
    exact .inr ⟨j, y, by rw [decide_eq_true (by omega), decide_eq_true (by omega)]; rfl, e, hy⟩
  · left
    by_cases h0 : 0 ≤ d
    · rw [decide_eq_false (p := d ≤ (s.2.1.length : Int) - 1) (by omega), Bool.and_false]
    · rw [decide_eq_false h0]; rfl

def LinkR (ss ss' : List T_Side.D) : Prop := ss' = ss ∨ ∃ (j : Nat) (z : T_Side.D) (a : Int), ss[j]? = some z ∧ ss' = ss.set j (a, z.2) ∧ -2147483647 ≤ a ∧ a ≤ 2147483647
def struckS (b2 : Bool) (n : Int) (x : T_Side.D) : T_Side.D := bif b2 then (x.1, plusV x.2.1 n, x.2.2) else (lessV x.1 n, x.2)
def struckP (b2 b4 c : Bool) (n : Int) (x : T_Piece.D) : T_Piece.D :=
  (x.1, x.2.1, x.2.2.1, x.2.2.2.1, x.2.2.2.2.1, x.2.2.2.2.2.1, x.2.2.2.2.2.2.1, x.2.2.2.2.2.2.2.1, x.2.2.2.2.2.2.2.2.1, (bif b2 then plusV x.2.2.2.2.2.2.2.2.2.1 n else x.2.2.2.2.2.2.2.2.2.1), (bif b2 then x.2.2.2.2.2.2.2.2.2.2.1 else plusV x.2.2.2.2.2.2.2.2.2.2.1 n), (x.2.2.2.2.2.2.2.2.2.2.2.1 || (b4 && c)), x.2.2.2.2.2.2.2.2.2.2.2.2)
def StrikeR (s : T_State.D) (k sr p d n z : Int) (bt : Bool) (u : Unit) (b2 b4 c : Bool) (r : T_State.D × (Int × Unit)) : Prop :=
  (r.2.1 = 0 ∧ r.1 = s ∧ (stateOkB s = false ∨ eventOkB (k, sr, p, d, n, z, bt, u) = false ∨ (k != 1) = true ∨ (p = 0 ∧ (decide (0 ≤ d) && decide (d ≤ (s.2.1.length : Int) - 1)) = false) ∨ ((p == 0) = false ∧ (pieceAt s p = -1 ∨ ∃ (i : Nat) (x : T_Piece.D), pieceAt s p = i ∧ s.1[i]? = some x ∧ (x.2.2.2.1 != 2) = true)))) ∨
  (r.2.1 = n ∧ r.1.2.2 = s.2.2 ∧ stateOkB s = true ∧ eventOkB (k, sr, p, d, n, z, bt, u) = true ∧
    ((p = 0 ∧ r.1.1 = s.1 ∧ ∃ (j : Nat) (x : T_Side.D), d = j ∧ s.2.1[j]? = some x ∧ LinkR (s.2.1.set j (struckS b2 n x)) r.1.2.1) ∨
     ((p == 0) = false ∧ ∃ (i : Nat) (x : T_Piece.D), pieceAt s p = i ∧ s.1[i]? = some x ∧ (x.2.2.2.1 == 2) = true ∧ r.1.1 = s.1.set i (struckP b2 b4 c n x) ∧ LinkR s.2.1 r.1.2.1)))
theorem strike_val' (s : T_State.D) (q : T_Piece.D) (k sr p d n z : Int) (bt : Bool) (u : Unit) (hp : s.1.length ≤ 1048576) (hs : s.2.1.length ≤ 1048576) :
    ∃ r, spec_Strike s q (k, sr, p, d, n, z, bt, u) = some r ∧ impl_Strike s q (k, sr, p, d, n, z, bt, u) = some r ∧ ∃ b2 b4, impl_HasTrait q 2 = some b2 ∧ impl_HasTrait q 4 = some b4 ∧ StrikeR s k sr p d n z bt u b2 b4 (decide (n ≥ 1)) r := by
  obtain ⟨b1, hb1⟩ := hasTrait_some q 1
  obtain ⟨b2, hb2⟩ := hasTrait_some q 2
  obtain ⟨b4, hb4⟩ := hasTrait_some q 4
  have hc1 : impl_HasTrait q 1 = some b1 := by rw [← hasTrait_eq]; exact hb1
  have hc2 : impl_HasTrait q 2 = some b2 := by rw [← hasTrait_eq]; exact hb2
  have hc4 : impl_HasTrait q 4 = some b4 := by rw [← hasTrait_eq]; exact hb4
  suffices h : ∃ r, spec_Strike s q (k, sr, p, d, n, z, bt, u) = some r ∧ impl_Strike s q (k, sr, p, d, n, z, bt, u) = some r ∧ StrikeR s k sr p d n z bt u b2 b4 (decide (n ≥ 1)) r by
    obtain ⟨r, g1, g2, g3⟩ := h
    exact ⟨r, g1, g2, b2, b4, hc2, hc4, g3⟩
  unfold spec_Strike impl_Strike
  simp only [spec_copy_eq s hp hs, impl_copy_eq s hp hs, spec_StateOk_eq s hp hs, impl_StateOk_eq s hp hs, spec_EventOk_eq, impl_EventOk_eq, Option.bind_some]
  cases hs0 : stateOkB s
  · exact ⟨_, rfl, rfl, .inl ⟨rfl, rfl, .inl hs0⟩⟩
  cases hv : eventOkB (k, sr, p, d, n, z, bt, u)
  · exact ⟨_, rfl, rfl, .inl ⟨rfl, rfl, .inr (.inl hv)⟩⟩
  by_cases k1 : k = 1
  case neg =>
    have : (k != 1) = true := by simp [k1]
    refine ⟨(s, 0, ()), ?_, ?_, .inl ⟨rfl, rfl, .inr (.inr (.inl this))⟩⟩ <;> simp only [this] <;> rfl
  subst k1
  have hw : IntKind.wrap .i64 ((s.2.1.length : Int) - 1) = (s.2.1.length : Int) - 1 := wrap_id (by omega) (by omega)
  unfold impl_reaches impl_isSide impl_fieldAt
  simp only [hb1, hb2, hb4, hc1, hc2, hc4, from_eq, l1In_eq, hw, spec_PieceAt_eq s _ hp, impl_PieceAt_eq s _ hp, spec_Plus_eq, impl_Plus_eq, spec_Less_eq, impl_Less_eq, Option.bind_some, Bool.not_true, cond_false, bne_self_eq_false, List.length_set]
  have hq := side_cases s q.2.2.1
  have hf : (1 ≤ p ∨ p = 0 ∧ 0 ≤ d) := by rcases eventOk_facts hv with ⟨_, h⟩ | ⟨h, _⟩ | ⟨h, _⟩ | ⟨h, _⟩ <;> first | exact h | omega
  rcases hf with h1 | ⟨rfl, hd⟩
  · have p0 : (p == 0) = false := by rw [beq_eq_false_iff_ne]; omega
    rcases pieceAt_cases s p with h | ⟨i, x, e1, hx, _⟩
    · refine ⟨(s, 0, ()), ?_, ?_, .inl ⟨rfl, rfl, .inr (.inr (.inr (.inr ⟨p0, .inl h⟩)))⟩⟩ <;> simp only [h, p0, cond_true, cond_false, Option.bind_some] <;> rfl
    · have c1 : decide ((i : Int) ≥ 0) = true := by simp
      have c2 : decide ((i : Int) < 0) = false := dec_neg (by omega)
      have hil := (List.getElem?_eq_some_iff.1 hx).1
      obtain ⟨xi, xo, xs, xz, xt, xp, xg, xr, xl, xm, xk, xd, xb, xu⟩ := x
      simp only [e1, c1, c2, p0, cond_true, cond_false, Option.bind_some, idx_at hx]
      cases hz : (xz != 2)
      case true => exact ⟨_, rfl, rfl, .inl ⟨rfl, rfl, .inr (.inr (.inr (.inr ⟨p0, .inr ⟨i, _, e1, hx, hz⟩⟩)))⟩⟩
      have hz2 : (xz == 2) = true := by unfold bne at hz; cases h : (xz == 2) <;> simp [h] at hz ⊢
      simp only [c1, cond_true, cond_false, Option.bind_some, idx_at hx, Int.toNat_natCast, hx, Bool.not_true, idx_set hil, get_set hil, List.set_set]
      rcases hq with hq | ⟨j, y, hq, hj, hy⟩
      · simp only [hq]
        cases b2 <;> cases b4 <;> cases xd <;> cases decide (n ≥ 1) <;> cases b1 <;> simp only [cond_true, cond_false, Option.bind_some, idx_set hil, get_set hil, List.set_set] <;> exact ⟨_, rfl, rfl, .inr ⟨rfl, rfl, hs0, hv, .inr ⟨p0, i, _, e1, hx, hz2, rfl, .inl rfl⟩⟩⟩
      · simp only [hj, hq]
        cases b2 <;> cases b4 <;> cases xd <;> cases decide (n ≥ 1) <;> cases b1 <;> simp only [cond_true, cond_false, Option.bind_some, idx_set hil, get_set hil, List.set_set, idx_at hy, Int.toNat_natCast, hy] <;> first | exact ⟨_, rfl, rfl, .inr ⟨rfl, rfl, hs0, hv, .inr ⟨p0, i, _, e1, hx, hz2, rfl, .inl rfl⟩⟩⟩ | exact ⟨_, rfl, rfl, .inr ⟨rfl, rfl, hs0, hv, .inr ⟨p0, i, _, e1, hx, hz2, rfl, .inr ⟨j, y, _, hy, rfl, (plusV_in _ _).1, (plusV_in _ _).2⟩⟩⟩⟩
  · have p0 : ((0 : Int) == 0) = true := rfl
    by_cases hlt : d < (s.2.1.length : Int)
    · obtain ⟨j, x, rfl, hx⟩ := side_in hd hlt
      have c1 : decide ((j : Int) ≥ (s.2.1.length : Int)) = false := decide_eq_false (by omega)
      have c2 : (decide (0 ≤ (j : Int)) && decide ((j : Int) ≤ (s.2.1.length : Int) - 1)) = true := by rw [decide_eq_true (by omega), decide_eq_true (by omega)]; rfl
      simp only [p0, c1, c2, cond_true, cond_false, Option.bind_some, idx_at hx, Int.toNat_natCast, hx, Bool.not_true]
      rcases hq with hq | ⟨i, y, hq, hj, hy⟩
      · simp only [hq]
        cases b2 <;> cases b1 <;> simp only [cond_true, cond_false, Option.bind_some, idx_at hx, Int.toNat_natCast, hx] <;> exact ⟨_, rfl, rfl, .inr ⟨rfl, rfl, hs0, hv, .inl ⟨rfl, rfl, j, x, rfl, hx, .inl rfl⟩⟩⟩
      · simp only [hj, hq]
        obtain ⟨y1, hy1⟩ := set_get j (x.1, plusV x.2.1 n, x.2.2) hy
        obtain ⟨y2, hy2⟩ := set_get j (lessV x.1 n, x.2) hy
        cases b2 <;> cases b1 <;> simp only [cond_true, cond_false, Option.bind_some, idx_at hx, Int.toNat_natCast, hx, idx_at hy1, hy1, idx_at hy2, hy2] <;> first | exact ⟨_, rfl, rfl, .inr ⟨rfl, rfl, hs0, hv, .inl ⟨rfl, rfl, j, x, rfl, hx, .inl rfl⟩⟩⟩ | exact ⟨_, rfl, rfl, .inr ⟨rfl, rfl, hs0, hv, .inl ⟨rfl, rfl, j, x, rfl, hx, .inr ⟨i, _, _, hy1, rfl, (plusV_in _ _).1, (plusV_in _ _).2⟩⟩⟩⟩ | exact ⟨_, rfl, rfl, .inr ⟨rfl, rfl, hs0, hv, .inl ⟨rfl, rfl, j, x, rfl, hx, .inr ⟨i, _, _, hy2, rfl, (plusV_in _ _).1, (plusV_in _ _).2⟩⟩⟩⟩
    · have c1 : decide (d ≥ (s.2.1.length : Int)) = true := decide_eq_true (by omega)
      have c2 : (decide (0 ≤ d) && decide (d ≤ (s.2.1.length : Int) - 1)) = false := by rw [decide_eq_false (p := d ≤ (s.2.1.length : Int) - 1) (by omega), Bool.and_false]
      refine ⟨(s, 0, ()), ?_, ?_, .inl ⟨rfl, rfl, .inr (.inr (.inr (.inl ⟨rfl, c2⟩)))⟩⟩ <;> simp only [p0, c1, c2, cond_true, cond_false, Option.bind_some, Bool.not_false]

theorem pieceOk_iff (i o sd z t pw tg tr pl mi mk : Int) (dl bt : Bool) (u : Unit) : pieceOkB (i, o, sd, z, t, pw, tg, tr, pl, mi, mk, dl, bt, u) = true ↔
    ((1 ≤ i ∧ i ≤ 99) ∧ (0 ≤ o ∧ o ≤ 2) ∧ (0 ≤ sd ∧ sd ≤ 2) ∧ (1 ≤ z ∧ z ≤ 4) ∧ (0 ≤ t ∧ t ≤ 9999) ∧ (0 ≤ pw ∧ pw ≤ 999) ∧ (0 ≤ tg ∧ tg ≤ 999) ∧ (0 ≤ tr ∧ tr ≤ 63)) ∧
    ((z = 2 ∧ (0 ≤ pl ∧ pl ≤ 2147483647) ∧ (0 ≤ mi ∧ mi ≤ 2147483647) ∧ (0 ≤ mk ∧ mk ≤ 2147483647)) ∨ (z ≠ 2 ∧ sd = o ∧ pl = 0 ∧ mi = 0 ∧ mk = 0 ∧ dl = false ∧ bt = false)) := by
  unfold pieceOkB
  by_cases h : z = 2
  · subst h; simp; grind
  · simp [h]; grind
theorem moved_ok (s : T_State.D) (h : StOk s) (z : Int) (hz : 1 ≤ z ∧ z ≤ 4) (x : T_Piece.D) (hx : PcOk s x) : PcOk s (x.1, x.2.1, x.2.1, z, s.2.2.2.1, x.2.2.2.2.2.1, x.2.2.2.2.2.2.1, x.2.2.2.2.2.2.2.1, 0, 0, 0, false, false, ()) := by
  obtain ⟨h1, h2, h3, h4⟩ := hx
  obtain ⟨⟨k1, k2, k3, k4, k5, k6, k7, k8⟩, _⟩ := (pieceOk_iff x.1 x.2.1 x.2.2.1 x.2.2.2.1 x.2.2.2.2.1 x.2.2.2.2.2.1 x.2.2.2.2.2.2.1 x.2.2.2.2.2.2.2.1 x.2.2.2.2.2.2.2.2.1 x.2.2.2.2.2.2.2.2.2.1 x.2.2.2.2.2.2.2.2.2.2.1 x.2.2.2.2.2.2.2.2.2.2.2.1 x.2.2.2.2.2.2.2.2.2.2.2.2.1 x.2.2.2.2.2.2.2.2.2.2.2.2.2).1 h1
  refine ⟨(pieceOk_iff _ _ _ _ _ _ _ _ _ _ _ _ _ _).2 ⟨⟨k1, k2, k2, hz, h.2.1.2, k6, k7, k8⟩, ?_⟩, h2, h2, Int.le_refl _⟩
  by_cases h' : z = 2
  · exact .inl ⟨h', ⟨by decide, by decide⟩, ⟨by decide, by decide⟩, ⟨by decide, by decide⟩⟩
  · exact .inr ⟨h', rfl, rfl, rfl, rfl, rfl, rfl⟩

theorem link_len {ss ss' : List T_Side.D} (h : LinkR ss ss') : ss'.length = ss.length := by
  rcases h with rfl | ⟨j, z, a, _, rfl, _⟩
  · rfl
  · simp
theorem link_get {ss ss' : List T_Side.D} (h : LinkR ss ss') {j : Nat} {x : T_Side.D} (hx : ss[j]? = some x) : ∃ y, ss'[j]? = some y ∧ y.2 = x.2 := by
  rcases h with rfl | ⟨i, z, a, hz, rfl, _⟩
  · exact ⟨x, hx, rfl⟩
  · have hlt := (List.getElem?_eq_some_iff.1 hx).1
    by_cases hij : i = j
    · subst hij
      rw [hz] at hx
      cases hx
      exact ⟨_, get_set hlt, rfl⟩
    · exact ⟨x, by rw [List.getElem?_set_ne hij]; exact hx, rfl⟩
theorem side_bound (x : T_Side.D) (a : Int) (h : sideOkB x = true) (h1 : -2147483647 ≤ a) (h2 : a ≤ 2147483647) : sideOkB (a, x.2) = true := by
  unfold sideOkB at h ⊢
  rw [Bool.and_eq_true] at h ⊢
  exact ⟨by rw [decide_eq_true h1, decide_eq_true h2]; rfl, h.2⟩
theorem eventOk_n {k sr p d n z : Int} {bt : Bool} {u : Unit} (h : eventOkB (k, sr, p, d, n, z, bt, u) = true) : 0 ≤ n := by
  unfold eventOkB at h
  rw [Bool.and_eq_true, Bool.and_eq_true] at h
  exact of_decide_eq_true h.1.1

theorem link_keeps {s : T_State.D} (h : StOk s) {ss' : List T_Side.D} (hl : LinkR s.2.1 ss') : StOk (s.1, ss', s.2.2) := by
  rcases hl with rfl | ⟨j, z, a, hz, rfl, h1, h2⟩
  · exact h
  · exact keep_side h _ (side_bound z a (h.2.2.2.2 z (List.mem_of_getElem? hz)) h1 h2)
theorem struckS_ok (b2 : Bool) (n : Int) (hn : 0 ≤ n) (x : T_Side.D) (h : sideOkB x = true) : sideOkB (struckS b2 n x) = true := by
  have h' := h
  unfold sideOkB at h'
  simp only [Bool.and_eq_true, decide_eq_true_eq] at h'
  unfold struckS
  cases b2
  · exact side_bound x _ h (lessV_in _ _).1 (lessV_in _ _).2
  · unfold sideOkB
    simp only [cond_true, Bool.and_eq_true, decide_eq_true_eq]
    exact ⟨h'.1, plusV_nonneg h'.2.1 hn, (plusV_in _ _).2⟩
theorem struckP_ok (s : T_State.D) (b2 b4 c : Bool) (n : Int) (hn : 0 ≤ n) (x : T_Piece.D) (hz : (x.2.2.2.1 == 2) = true) (hx : PcOk s x) : PcOk s (struckP b2 b4 c n x) := by
  obtain ⟨h1, h2, h3, h4⟩ := hx
  obtain ⟨k0, k9⟩ := (pieceOk_iff x.1 x.2.1 x.2.2.1 x.2.2.2.1 x.2.2.2.2.1 x.2.2.2.2.2.1 x.2.2.2.2.2.2.1 x.2.2.2.2.2.2.2.1 x.2.2.2.2.2.2.2.2.1 x.2.2.2.2.2.2.2.2.2.1 x.2.2.2.2.2.2.2.2.2.2.1 x.2.2.2.2.2.2.2.2.2.2.2.1 x.2.2.2.2.2.2.2.2.2.2.2.2.1 x.2.2.2.2.2.2.2.2.2.2.2.2.2).1 h1
  have hz' : x.2.2.2.1 = 2 := by simpa using hz
  rcases k9 with ⟨_, g1, g2, g3⟩ | ⟨g, _⟩
  · refine ⟨(pieceOk_iff _ _ _ _ _ _ _ _ _ _ _ _ _ _).2 ⟨k0, .inl ⟨hz', g1, ?_, ?_⟩⟩, h2, h3, h4⟩
    · cases b2
      · exact g2
      · exact ⟨plusV_nonneg g2.1 hn, (plusV_in _ _).2⟩
    · cases b2
      · exact ⟨plusV_nonneg g3.1 hn, (plusV_in _ _).2⟩
      · exact g3
  · exact absurd hz' g

theorem set_self {α : Type} : ∀ {ys : List α} {i : Nat} {x : α}, ys[i]? = some x → ys.set i x = ys
  | [], _, _, _ => by simp
  | y :: ys, 0, x, h => by simp at h; simp [h]
  | y :: ys, i + 1, x, h => by simp only [List.set_cons_succ]; rw [set_self (by simpa using h)]

/-! ### What Carry keeps -/
theorem findL_map {α β : Type} (f : α → β) (p : β → Bool) : ∀ (xs : List α), findL (fun x => p (f x)) xs = findL p (xs.map f)
  | [] => rfl
  | x :: xs => by simp only [findL, List.map_cons, findL_map f p xs]
theorem pieceAt_ids (s t : T_State.D) (a : Int) (h : s.1.map (fun (x : T_Piece.D) => x.1) = t.1.map (fun (x : T_Piece.D) => x.1)) : pieceAt s a = pieceAt t a := by
  have e : ∀ (r : T_State.D), findL (fun (x : T_Piece.D) => x.1 == a) r.1 = findL (fun i => i == a) (r.1.map (fun (x : T_Piece.D) => x.1)) := fun r => findL_map (fun (x : T_Piece.D) => x.1) (fun i => i == a) r.1
  unfold pieceAt
  rw [e s, e t, h]
theorem pieceAt_set {s : T_State.D} {k : Nat} {x y : T_Piece.D} (hx : s.1[k]? = some x) (he : y.1 = x.1) (u : (List T_Side.D) × (Int × (Int × Unit))) (a : Int) : pieceAt (s.1.set k y, u) a = pieceAt s a := by
  refine pieceAt_ids _ _ a ?_
  simp only [List.map_set, he]
  exact set_self (by rw [List.getElem?_map, hx]; rfl)

theorem movedV_facts (s : T_State.D) (h : StOk s) (x : T_Piece.D) (hx : PcOk s x) (k sr p d n z : Int) (bt : Bool) (u : Unit) (he : eventOkB (k, sr, p, d, n, z, bt, u) = true) (hk : k = 2) :
    (movedV x (k, sr, p, d, n, z, bt, u) s.2.2.2.1).1 = x.1 ∧ PcOk s (movedV x (k, sr, p, d, n, z, bt, u) s.2.2.2.1) ∧ (movedV x (k, sr, p, d, n, z, bt, u) s.2.2.2.1).2.2.2.1 = z ∧ (movedV x (k, sr, p, d, n, z, bt, u) s.2.2.2.1).2.2.2.2.1 = s.2.2.2.1 ∧
      (movedV x (k, sr, p, d, n, z, bt, u) s.2.2.2.1).2.2.2.2.2.2.2.2.2.2.1 = 0 ∧ (movedV x (k, sr, p, d, n, z, bt, u) s.2.2.2.1).2.2.1 = (movedV x (k, sr, p, d, n, z, bt, u) s.2.2.2.1).2.1 ∧ (movedV x (k, sr, p, d, n, z, bt, u) s.2.2.2.1).2.2.2.2.2.2.2.2.1 = n := by
  subst hk
  have hf : (1 ≤ z ∧ z ≤ 4) ∧ (0 ≤ n ∧ n ≤ 99) ∧ (z = 2 ∨ n = 0) := by
    unfold eventOkB at he
    simp at he
    grind
  obtain ⟨hz, hn, hzn⟩ := hf
  by_cases hz2 : z = 2
  · subst hz2
    obtain ⟨g1, g2, g3, g4⟩ := moved_ok s h 2 (by decide) x hx
    obtain ⟨k0, _⟩ := (pieceOk_iff _ _ _ _ _ _ _ _ _ _ _ _ _ _).1 g1
    exact ⟨rfl, ⟨(pieceOk_iff _ _ _ _ _ _ _ _ _ _ _ _ _ _).2 ⟨k0, .inl ⟨rfl, ⟨hn.1, show n ≤ 2147483647 by omega⟩, ⟨by decide, by decide⟩, ⟨by decide, by decide⟩⟩⟩, g2, g3, g4⟩, rfl, rfl, rfl, rfl, rfl⟩
  · have hn0 : n = 0 := by omega
    subst hn0
    have hb : (z == 2) = false := by rw [beq_eq_false_iff_ne]; exact hz2
    have e : movedV x (2, sr, p, d, 0, z, bt, u) s.2.2.2.1 = (x.1, x.2.1, x.2.1, z, s.2.2.2.1, x.2.2.2.2.2.1, x.2.2.2.2.2.2.1, x.2.2.2.2.2.2.2.1, 0, 0, 0, false, false, ()) := by
      unfold movedV
      simp only [hb, cond_false]
    rw [e]
    exact ⟨rfl, moved_ok s h z hz x hx, rfl, rfl, rfl, rfl, rfl⟩
theorem carry_keeps (s : T_State.D) (v : T_Event.D) (k : Nat) (x : T_Piece.D) (h1 : stateOkB s = true) (h2 : eventOkB v = true) (h3 : v.1 = 2) (h4 : pieceAt s v.2.2.1 = k) (h5 : s.1[k]? = some x) :
    let t : T_State.D := (s.1.set k (movedV x v s.2.2.2.1), s.2)
    stateOkB t = true ∧ pieceAt t v.2.2.1 = k ∧ t.1[k]? = some (movedV x v s.2.2.2.1) ∧ (movedV x v s.2.2.2.1).1 = x.1 ∧ (movedV x v s.2.2.2.1).2.2.2.1 = v.2.2.2.2.2.1 ∧ (movedV x v s.2.2.2.1).2.2.2.2.1 = s.2.2.2.1 ∧ (movedV x v s.2.2.2.1).2.2.2.2.2.2.2.2.2.2.1 = 0 ∧ (movedV x v s.2.2.2.1).2.2.1 = (movedV x v s.2.2.2.1).2.1 ∧ (movedV x v s.2.2.2.1).2.2.2.2.2.2.2.2.1 = v.2.2.2.2.1 := by
  have hs := (stateOk_iff s).1 h1
  obtain ⟨g1, g2, g3, g4, g5, g6, g7⟩ := movedV_facts s hs x (hs.2.2.1 k x h5) v.1 v.2.1 v.2.2.1 v.2.2.2.1 v.2.2.2.2.1 v.2.2.2.2.2.1 v.2.2.2.2.2.2.1 v.2.2.2.2.2.2.2 h2 h3
  have hlt := (List.getElem?_eq_some_iff.1 h5).1
  exact ⟨(stateOk_iff _).2 (keep_set hs h5 _ g1 g2), by rw [pieceAt_set h5 g1]; exact h4, get_set hlt, g1, g3, g4, g5, g6, g7⟩
theorem mem_collect {α β : Type} {g : Nat → α → List β} {y : β} : ∀ {xs : List α} {i k : Nat} {x : α}, xs[i]? = some x → y ∈ g (k + i) x → y ∈ collect g k xs
  | [], _, _, _, h, _ => by simp at h
  | z :: xs, 0, k, x, h, hy => by simp at h; subst h; exact List.mem_append_left _ hy
  | z :: xs, i + 1, k, x, h, hy => List.mem_append_right _ (mem_collect (i := i) (k := k + 1) (x := x) (by simpa using h) (by rw [show k + 1 + i = k + (i + 1) by omega]; exact hy))

theorem source_eq (s : T_State.D) (e : T_Event.D) (h : s.1.length ≤ 1048576) : ∃ p, spec_Source s e = some p ∧ impl_Source s e = some p := by
  unfold spec_Source impl_Source
  simp only [spec_PieceAt_eq s _ h, impl_PieceAt_eq s _ h, Option.bind_some]
  rcases pieceAt_cases s e.2.1 with h | ⟨k, x, h1, h2, _⟩
  · rw [h]
    cases (e.1 != 1) <;> exact ⟨_, rfl, rfl⟩
  · rw [h1, dec_neg (by omega)]
    cases (e.1 != 1)
    · simp only [cond_false, Option.bind_some, idx_at h2]; exact ⟨_, rfl, rfl⟩
    · exact ⟨_, rfl, rfl⟩
noncomputable def sourceV (s : T_State.D) (e : T_Event.D) : T_Piece.D := (impl_Source s e).getD (0, 0, 0, 0, 0, 0, 0, 0, 0, 0, 0, false, false, ())
theorem impl_Source_eq (s : T_State.D) (e : T_Event.D) (h : s.1.length ≤ 1048576) : impl_Source s e = some (sourceV s e) := by
  obtain ⟨p, _, h2⟩ := source_eq s e h
  unfold sourceV; rw [h2]; rfl
theorem spec_Source_eq (s : T_State.D) (e : T_Event.D) (h : s.1.length ≤ 1048576) : spec_Source s e = some (sourceV s e) := by
  obtain ⟨p, h1, h2⟩ := source_eq s e h
  unfold sourceV; rw [h2, h1]; rfl

theorem index_Event (xs : List T_Event.D) (hl : xs.length ≤ 1048576) (p : T_Event.D → Bool) (q : (T_Event.D × Unit) → Option Bool) (hq : ∀ x, q (x, ()) = some (p x)) :
    slices_IndexFunc_impl_Event xs q = some (match findL p xs with | some k => (k : Int) | none => -1) := by
  unfold slices_IndexFunc_impl_Event
  rw [index_loop xs (body := slices_IndexFunc_impl_Event_l1 xs q) p (fun i => i) (by omega) (fun i x hx => ?_) ?_]
  · cases findL p xs <;> rfl
  · unfold slices_IndexFunc_impl_Event_l1
    simp
  · unfold slices_IndexFunc_impl_Event_l1
    have hlt := (List.getElem?_eq_some_iff.1 hx).1
    have : ((i : Int) < (xs.length : Int)) := by omega
    simp only [this, decide_true, cond_true, idx_at hx, hq, Option.bind_some]
theorem deleteFunc_Event (xs : List T_Event.D) (hl : xs.length ≤ 1048576) (p : T_Event.D → Bool) (q : (T_Event.D × Unit) → Option Bool) (hq : ∀ x, q (x, ()) = some (p x)) :
    slices_DeleteFunc_impl_Event xs q = some (xs.filter (fun x => !p x), ()) := by
  unfold slices_DeleteFunc_impl_Event
  rw [index_Event xs hl p q hq, Option.bind_some]
  obtain ⟨h1, h2⟩ := findL_spec p xs
  cases hf : findL p xs with
  | none =>
    have : xs.filter (fun x => !p x) = xs := by rw [List.filter_eq_self]; intro x hx; simp [h1 hf x hx]
    rw [this]; rfl
  | some k =>
    obtain ⟨x, g1, g2, g3⟩ := h2 k hf
    have hk := (List.getElem?_eq_some_iff.1 g1).1
    have n1 : ((k : Int) == -1) = false := by simp
    simp only [n1, cond_false]
    rw [wrap_id (by omega) (by omega)]
    obtain ⟨ys, m, e1, e2, e3, e4⟩ : ∃ (ys : List T_Event.D) (m : Nat), while_ (slices_DeleteFunc_impl_Event_l1 q) (xs, (k : Int), (k : Int) + 1) = some (ys, (m : Int), (xs.length : Int)) ∧ ys.length = xs.length ∧ m ≤ xs.length ∧ ys.take m = xs.filter (fun x => !p x) := by
      refine delete_loop xs (body := slices_DeleteFunc_impl_Event_l1 q) p (fun s => s) (by omega) (fun ys i j x hx hij hl' => ?_) (fun ys i hl' => ?_) k x g1 g2 g3
      · have hlt := (List.getElem?_eq_some_iff.1 hx).1
        have hil : ((j : Int) < (ys.length : Int)) := by omega
        obtain ⟨y, hy⟩ : ∃ y, ys[i]? = some y := ⟨_, List.getElem?_eq_getElem (by omega)⟩
        unfold slices_DeleteFunc_impl_Event_l1
        simp (disch := omega) only [hil, decide_true, cond_true, Int.toNat_natCast, idx_at hx, hx, hq, Option.bind_some, idx_at hy, hy, wrap_id]
        cases p x <;> rfl
      · unfold slices_DeleteFunc_impl_Event_l1
        have : ¬ ((xs.length : Int) < (ys.length : Int)) := by omega
        simp only [this, decide_false, cond_false]
    rw [e1, Option.bind_some]
    have t1 : 0 ≤ (m : Int) := by omega
    have t2 : (m : Int) ≤ (ys.length : Int) := by omega
    simp only [t1, t2, if_true, Int.le_refl, Int.toNat_natCast]
    have z1 : m ≤ ys.length := by omega
    rw [if_pos (by simp only [List.length_append, List.length_take, List.length_replicate, List.length_drop]; omega)]
    have : ∀ (zs : List T_Event.D), (ys.take m ++ zs).take m = ys.take m := fun zs => by rw [List.take_append_of_le_length (by simp; omega), List.take_take, Nat.min_self]
    rw [List.append_assoc, this, e4]
    simp

theorem filter_parts {α : Type} (p : α → Bool) : ∀ (l : List α), (l.filter p).length + (l.filter fun x => !p x).length = l.length
  | [] => rfl
  | a :: l => by
    have := filter_parts p l
    cases h : p a <;> simp [h] <;> omega

/-! ### Commit -/
theorem fold_loopM {α σ S R : Type} (xs : List α) {body : S → Option (S ⊕ R)} (mk : σ → Int → S) (step : σ → Nat → α → σ) (I : Nat → σ → Prop) (r : S → R) (s0 : σ) (h0 : I 0 s0) (hlen : xs.length ≤ 9223372036854775806)
    (hb : ∀ s (i : Nat) x, I i s → xs[i]? = some x → body (mk s (i : Int)) = some (.inl (mk (step s i x) (IntKind.wrap .i64 ((i : Int) + 1)))) ∧ I (i + 1) (step s i x))
    (he : ∀ s, I xs.length s → body (mk s (xs.length : Int)) = some (.inr (r (mk s (xs.length : Int))))) :
    while_ body (mk s0 0) = some (r (mk (foldIx step 0 xs s0) (xs.length : Int))) ∧ I xs.length (foldIx step 0 xs s0) := by
  have main : ∀ (l : List α) (k : Nat) (s : σ), xs.drop k = l → k ≤ xs.length → I k s → while_ body (mk s (k : Int)) = some (r (mk (foldIx step k l s) (xs.length : Int))) ∧ I xs.length (foldIx step k l s) := by
    intro l
    induction l with
    | nil =>
      intro k s h hk hI
      have : k = xs.length := by
        have := congrArg List.length h
        simp at this
        omega
      subst this
      exact ⟨while_done (he s hI), hI⟩
    | cons x l ih =>
      intro k s h hk hI
      have hlt : k < xs.length := by
        have := congrArg List.length h
        simp at this
        omega
      have hx : xs[k]? = some x := by
        have := congrArg (fun l => l[0]?) h
        simpa using this
      have hr : xs.drop (k + 1) = l := by
        have := congrArg List.tail h
        simpa using this
      obtain ⟨h1, h2⟩ := hb s k x hI hx
      rw [wrap_id (by omega) (by omega)] at h1
      obtain ⟨h3, h4⟩ := ih (k + 1) (step s k x) hr hlt h2
      exact ⟨while_step h1 h3, h4⟩
  have := main xs 0 s0 rfl (by omega) h0
  simpa using this
theorem foldIx_const {α σ : Type} (f : σ → α → σ) : ∀ (xs : List α) (i : Nat) (s : σ), foldIx (fun s _ x => f s x) i xs s = xs.foldl f s
  | [], _, _ => rfl
  | x :: xs, i, s => foldIx_const f xs (i + 1) (f s x)
def ids (t : T_State.D) : List Int := t.1.map (fun (x : T_Piece.D) => x.1)
def zeroP : T_Piece.D := (0, 0, 0, 0, 0, 0, 0, 0, 0, 0, 0, false, false, ())
def PerfR (s t : T_State.D) (v : T_Event.D) (y : T_State.D × (T_Note.D × Unit)) : Prop :=
  (v.1 = 1 ∧ ∃ b2 b4 r, StrikeR t v.1 v.2.1 v.2.2.1 v.2.2.2.1 v.2.2.2.2.1 v.2.2.2.2.2.1 v.2.2.2.2.2.2.1 v.2.2.2.2.2.2.2 b2 b4 (decide (v.2.2.2.2.1 ≥ 1)) r ∧ y = (r.1, (if r.2.1 ≥ 1 then (1, v, r.2.1, 0, zeroP, ()) else (4, v, 0, 0, zeroP, ())), ())) ∨
  (v.1 = 2 ∧ ∃ r, CarryR t v r ∧ ((r.2.1 = false ∧ y = (t, (4, v, 0, 0, zeroP, ()), ())) ∨ (r.2.1 = true ∧ ∃ (k : Nat) (x : T_Piece.D), pieceAt s v.2.2.1 = k ∧ s.1[k]? = some x ∧ y = (r.1, (3, v, 0, 0, x, ()), ())))) ∨
  (v.1 ≠ 1 ∧ v.1 ≠ 2 ∧ ∃ r, BearR t v.1 v.2.2.1 v.2.2.2.1 v.2.2.2.2.1 (eventOkB v) r ∧ y = (r.1, (if r.2.1 = true then (2, v, 0, 0, zeroP, ()) else (4, v, 0, 0, zeroP, ())), ()))
theorem perform_ok (s t : T_State.D) (v : T_Event.D) (hs : s.1.length ≤ 1048576) (ht : t.1.length ≤ 1048576) (ht2 : t.2.1.length ≤ 1048576) (hid : ids t = ids s) :
    ∃ y, impl_performed t s v = some (y, ()) ∧ (v.1 ≠ 2 → spec_l18Do s t v = some y) ∧ (v.1 = 2 → ∃ r, spec_Carry t v = some r ∧ ((r.2.1 = false ∧ y = (t, (4, v, 0, 0, zeroP, ()), ())) ∨ (r.2.1 = true ∧ ∃ (k : Nat) (x : T_Piece.D), pieceAt s v.2.2.1 = k ∧ s.1[k]? = some x ∧ y = (r.1, (3, v, 0, 0, x, ()), ())))) ∧ PerfR s t v y := by
  by_cases h1 : v.1 = 1
  · have e1 : (v.1 == 1) = true := by rw [h1]; rfl
    obtain ⟨r, g1, g2, b2, b4, t2, t4, hr⟩ := strike_val' t (sourceV s v) v.1 v.2.1 v.2.2.1 v.2.2.2.1 v.2.2.2.2.1 v.2.2.2.2.2.1 v.2.2.2.2.2.2.1 v.2.2.2.2.2.2.2 ht ht2
    have g1 : spec_Strike t (sourceV s v) v = some r := g1
    have g2 : impl_Strike t (sourceV s v) v = some r := g2
    refine ⟨_, ?_, fun _ => ?_, fun h => by rw [h1] at h; exact absurd h (by decide), .inl ⟨h1, b2, b4, r, hr, rfl⟩⟩
    · unfold impl_performed
      simp only [e1, cond_true, impl_Source_eq s v hs, Option.bind_some, g2]
      by_cases hn : r.2.1 ≥ 1
      · rw [decide_eq_true hn, if_pos hn]; rfl
      · rw [decide_eq_false hn, if_neg hn]; rfl
    · unfold spec_l18Do
      simp only [e1, cond_true, spec_Source_eq s v hs, Option.bind_some, g1]
      by_cases hn : r.2.1 ≥ 1
      · rw [decide_eq_true hn, if_pos hn]; rfl
      · rw [decide_eq_false hn, if_neg hn]; rfl
  · have e1 : (v.1 == 1) = false := by rw [beq_eq_false_iff_ne]; exact h1
    by_cases h2 : v.1 = 2
    · have e2 : (v.1 == 2) = true := by rw [h2]; rfl
      obtain ⟨r, g1, g2, hr⟩ := carry_val t v ht ht2
      rcases hr0 : hr with ⟨q1, q2⟩ | ⟨q1, q2, q3, q4, k, x, q5, q6, q7, q8, q9⟩
      · refine ⟨(t, (4, v, 0, 0, zeroP, ()), ()), ?_, fun h => absurd h2 h, fun _ => ⟨r, g1, .inl ⟨q1, rfl⟩⟩, .inr (.inl ⟨h2, r, hr, .inl ⟨q1, rfl⟩⟩)⟩
        unfold impl_performed
        simp only [e1, e2, cond_false, cond_true, Option.bind_some, g2, q1]
        rfl
      · have hk : pieceAt s v.2.2.1 = k := by rw [← pieceAt_ids t s v.2.2.1 hid]; exact q5
        obtain ⟨x', hx'⟩ : ∃ x', s.1[k]? = some x' := by
          have h3 := congrArg List.length hid
          simp only [ids, List.length_map] at h3
          exact ⟨_, List.getElem?_eq_getElem (by rw [← h3]; exact (List.getElem?_eq_some_iff.1 q6).1)⟩
        refine ⟨(r.1, (3, v, 0, 0, x', ()), ()), ?_, fun h => absurd h2 h, fun _ => ⟨r, g1, .inr ⟨q1, k, x', hk, hx', rfl⟩⟩, .inr (.inl ⟨h2, r, hr, .inr ⟨q1, k, x', hk, hx', rfl⟩⟩)⟩
        unfold impl_performed
        simp only [e1, e2, cond_false, cond_true, Option.bind_some, g2, q1, impl_PieceAt_eq s _ hs, hk, idx_at hx']
    · have e2 : (v.1 == 2) = false := by rw [beq_eq_false_iff_ne]; exact h2
      obtain ⟨r, g1, g2, hr⟩ := bear_val' t v.1 v.2.1 v.2.2.1 v.2.2.2.1 v.2.2.2.2.1 v.2.2.2.2.2.1 v.2.2.2.2.2.2.1 v.2.2.2.2.2.2.2 ht ht2
      have g1 : spec_Bear t v = some r := g1
      have g2 : impl_Bear t v = some r := g2
      refine ⟨_, ?_, fun _ => ?_, fun h => absurd h h2, .inr (.inr ⟨h1, h2, r, hr, rfl⟩)⟩
      · unfold impl_performed
        simp only [e1, e2, cond_false, Option.bind_some, g2]
        rcases hr with ⟨q1, q2⟩ | ⟨q1, _⟩
        · rw [q1, q2]; rfl
        · rw [q1]; rfl
      · unfold spec_l18Do
        simp only [e1, cond_false, Option.bind_some, g1]
        rcases hr with ⟨q1, q2⟩ | ⟨q1, _⟩
        · rw [q1]; rfl
        · rw [q1]; rfl
theorem ids_set {ps : List T_Piece.D} {k : Nat} {x y : T_Piece.D} (hx : ps[k]? = some x) (he : y.1 = x.1) : (ps.set k y).map (fun (x : T_Piece.D) => x.1) = ps.map (fun (x : T_Piece.D) => x.1) := by
  simp only [List.map_set, he]
  exact set_self (by rw [List.getElem?_map, hx]; rfl)
theorem movedV_id (x : T_Piece.D) (v : T_Event.D) (c : Int) : (movedV x v c).1 = x.1 := by
  unfold movedV
  cases (v.2.2.2.2.2.1 == 2) <;> rfl
theorem perf_size {s t : T_State.D} {v : T_Event.D} {y : T_State.D × (T_Note.D × Unit)} (h : PerfR s t v y) : ids y.1 = ids t ∧ sameSize y.1 t ∧ y.1.2.2 = t.2.2 := by
  rcases h with ⟨_, b2, b4, r, hr, rfl⟩ | ⟨_, r, hr, hy⟩ | ⟨_, _, r, hr, rfl⟩
  · rcases hr with ⟨_, h, _⟩ | ⟨_, h0, _, _, ⟨_, h1, j, x, _, _, h2⟩ | ⟨_, i, x, _, hx, _, h1, h2⟩⟩
    · simp only [h]; exact ⟨by trivial, ⟨by trivial, by trivial⟩, by trivial⟩
    · exact ⟨by unfold ids; simp only [h1], ⟨by simp only [h1], by have := link_len h2; simp only [this]; simp⟩, h0⟩
    · exact ⟨by unfold ids; simp only [h1]; exact ids_set hx rfl, ⟨by simp only [h1]; simp, link_len h2⟩, h0⟩
  · rcases hy with ⟨_, rfl⟩ | ⟨hb, k, x, _, _, rfl⟩
    · exact ⟨by trivial, ⟨by trivial, by trivial⟩, by trivial⟩
    · rcases hr with ⟨q1, _⟩ | ⟨_, _, _, _, k, x, _, q6, _, _, q9⟩
      · rw [q1] at hb; cases hb
      · simp only [q9]
        exact ⟨ids_set q6 (movedV_id _ _ _), ⟨by simp, by trivial⟩, by trivial⟩
  · rcases hr with ⟨_, h⟩ | ⟨_, _, _, ⟨j, x, ⟨_, _, _⟩, ⟨_, h⟩ | ⟨_, h⟩⟩ | ⟨i, x, ⟨_, hx, _⟩, ⟨_, h⟩ | ⟨_, h⟩⟩⟩
    · simp only [h]; exact ⟨by trivial, ⟨by trivial, by trivial⟩, by trivial⟩
    · simp only [h]; exact ⟨by trivial, ⟨by trivial, by simp⟩, by trivial⟩
    · simp only [h]; exact ⟨by trivial, ⟨by trivial, by simp⟩, by trivial⟩
    · simp only [h]; exact ⟨ids_set hx rfl, ⟨by simp, by trivial⟩, by trivial⟩
    · simp only [h]; exact ⟨ids_set hx rfl, ⟨by simp, by trivial⟩, by trivial⟩
noncomputable def perfV (s t : T_State.D) (v : T_Event.D) : T_State.D × (T_Note.D × Unit) := ((impl_performed t s v).map (fun y => y.1)).getD (t, (0, (0, 0, 0, 0, 0, 0, false, ()), 0, 0, zeroP, ()), ())
theorem perfV_ok (s t : T_State.D) (v : T_Event.D) (hs : s.1.length ≤ 1048576) (ht : t.1.length ≤ 1048576) (ht2 : t.2.1.length ≤ 1048576) (hid : ids t = ids s) :
    impl_performed t s v = some (perfV s t v, ()) ∧ (v.1 ≠ 2 → spec_l18Do s t v = some (perfV s t v)) ∧ (v.1 = 2 → ∃ r, spec_Carry t v = some r ∧ ((r.2.1 = false ∧ perfV s t v = (t, (4, v, 0, 0, zeroP, ()), ())) ∨ (r.2.1 = true ∧ ∃ (k : Nat) (x : T_Piece.D), pieceAt s v.2.2.1 = k ∧ s.1[k]? = some x ∧ perfV s t v = (r.1, (3, v, 0, 0, x, ()), ())))) ∧ PerfR s t v (perfV s t v) := by
  obtain ⟨y, h1, h2, h3, h4⟩ := perform_ok s t v hs ht ht2 hid
  have e : perfV s t v = y := by unfold perfV; rw [h1]; rfl
  rw [e]
  exact ⟨h1, h2, h3, h4⟩
noncomputable def stepC (s : T_State.D) (q : List T_Note.D × T_State.D) (v : T_Event.D) : List T_Note.D × T_State.D := (q.1 ++ [(perfV s q.2 v).2.1], (perfV s q.2 v).1)
def othersL (es : List T_Event.D) : List T_Event.D := es.filter (fun v => v.1 != 2)
def movesL (es : List T_Event.D) : List T_Event.D := es.filter (fun v => v.1 == 2)
noncomputable def commitV (s : T_State.D) (es : List T_Event.D) : List T_Note.D × T_State.D := (othersL es ++ movesL es).foldl (stepC s) ([], s)
def CI (s : T_State.D) (q : List T_Note.D × T_State.D) : Prop := ids q.2 = ids s ∧ sameSize q.2 s ∧ q.2.2.2 = s.2.2
theorem CI.step {s : T_State.D} {q : List T_Note.D × T_State.D} (h : CI s q) (v : T_Event.D) (hs : s.1.length ≤ 1048576) (hs2 : s.2.1.length ≤ 1048576) : CI s (stepC s q v) := by
  obtain ⟨h1, h2, h3⟩ := h
  obtain ⟨k1, k2, k3⟩ := perf_size (perfV_ok s q.2 v hs (by rw [h2.1]; exact hs) (by rw [h2.2]; exact hs2) h1).2.2.2
  exact ⟨k1.trans h1, ⟨k2.1.trans h2.1, k2.2.trans h2.2⟩, k3.trans h3⟩
theorem others_moves_len (es : List T_Event.D) : (othersL es).length + (movesL es).length = es.length := by
  have := filter_parts (fun v : T_Event.D => v.1 == 2) es
  unfold othersL movesL bne
  omega
theorem impl_Commit_eq (s : T_State.D) (es : List T_Event.D) (hp : s.1.length ≤ 1048576) (hs : s.2.1.length ≤ 1048576) (he : es.length ≤ 1048576) :
    impl_Commit s es = some (if stateOkB s then ((commitV s es).2, (commitV s es).1, ()) else (s, [], ())) ∧ ((commitV s es).1.length = es.length ∧ CI s (commitV s es)) := by
  have hom := others_moves_len es
  have hlm : (othersL es ++ movesL es).length = es.length := by rw [List.length_append]; exact hom
  have key := fold_loopM (othersL es ++ movesL es) (body := impl_Commit_l1 s (othersL es, ()) (movesL es, ())) (fun (q : List T_Note.D × T_State.D) i => (q.1, i, q.2)) (fun q _ v => stepC s q v) (fun i q => q.1.length = i ∧ CI s q) (fun x => x) ([], s) ⟨rfl, rfl, ⟨rfl, rfl⟩, rfl⟩ (by omega) (fun q i v hI hx => ?_) (fun q hI => ?_)
  · obtain ⟨k1, k2, k3⟩ := key
    rw [foldIx_const (stepC s)] at k1 k2 k3
    refine ⟨?_, by rw [← hlm]; exact k2, k3⟩
    unfold impl_Commit
    rw [impl_copy_eq s hp hs, Option.bind_some, impl_StateOk_eq s hp hs, Option.bind_some]
    cases hso : stateOkB s
    · rfl
    · simp only [Bool.not_true, cond_false, if_true]
      unfold slices_Clone_impl_Event
      rw [if_pos (by simp only [room, List.length_nil]; omega)]
      simp only [Option.bind_some, List.nil_append]
      rw [deleteFunc_Event es he (fun v => v.1 == 2) _ (fun x => rfl), Option.bind_some, deleteFunc_Event es he (fun v => v.1 != 2) _ (fun x => rfl), Option.bind_some]
      have e1 : (es.filter fun v => !(v.1 == 2)) = othersL es := rfl
      have e2 : (es.filter fun v => !(v.1 != 2)) = movesL es := by
        unfold movesL bne
        simp only [Bool.not_not]
      rw [e1, e2, if_pos (by simp only [room]; omega)]
      rw [show (([], 0, s) : List T_Note.D × (Int × T_State.D)) = ((([], s) : List T_Note.D × T_State.D).1, 0, (([], s) : List T_Note.D × T_State.D).2) from rfl, k1]
      rfl
  · obtain ⟨h1, h2⟩ := hI
    have hlt := (List.getElem?_eq_some_iff.1 hx).1
    refine ⟨?_, by unfold stepC; simp only [List.length_append, List.length_cons, List.length_nil]; omega, h2.step v hp hs⟩
    obtain ⟨g1, g2, g3⟩ := h2
    have := (perfV_ok s q.2 v hp (by rw [g2.1]; exact hp) (by rw [g2.2]; exact hs) g1).1
    have hil : ((i : Int) < ((othersL es ++ movesL es).length : Int)) := by omega
    unfold impl_Commit_l1
    simp only [hil, decide_true, cond_true, idx_at hx, Int.toNat_natCast, hx, Option.bind_some, this]
    rw [if_pos (by simp only [room, List.length_cons, List.length_nil]; omega)]
    rfl
  · unfold impl_Commit_l1
    simp
theorem spec_Commit_eq (s : T_State.D) (es : List T_Event.D) (hp : s.1.length ≤ 1048576) (hs : s.2.1.length ≤ 1048576) (he : es.length ≤ 1048576) :
    spec_Commit s es = some (if stateOkB s then ((commitV s es).2, (commitV s es).1, ()) else (s, [], ())) := by
  have k1 := fold_loopM es (body := spec_Commit_l1 s es) (fun (q : List T_Note.D × T_State.D) i => (q.1, i, q.2)) (fun q _ v => if (v.1 != 2) = true then stepC s q v else q) (fun i q => q.1.length ≤ i ∧ CI s q) (fun x => x) ([], s) ⟨Nat.le_refl _, rfl, ⟨rfl, rfl⟩, rfl⟩ (by omega) (fun q i v hI hx => ?_) (fun q hI => ?_)
  · obtain ⟨k1, k2, k3⟩ := k1
    rw [foldIx_const (fun q v => if (v.1 != 2) = true then stepC s q v else q), ← List.foldl_filter] at k1 k2 k3
    have k4 := fold_loopM es (body := spec_Commit_l2 s es) (fun (q : List T_Note.D × T_State.D) i => (q.1, i, q.2)) (fun q _ v => if (v.1 == 2) = true then stepC s q v else q) (fun i q => q.1.length ≤ es.length + i ∧ CI s q) (fun x => x) _ ⟨k2, k3⟩ (by omega) (fun q i v hI hx => ?_) (fun q hI => ?_)
    · obtain ⟨k4, _⟩ := k4
      rw [foldIx_const (fun q v => if (v.1 == 2) = true then stepC s q v else q), ← List.foldl_filter, ← List.foldl_append] at k4
      unfold spec_Commit
      rw [spec_copy_eq s hp hs, Option.bind_some, spec_StateOk_eq s hp hs, Option.bind_some]
      cases hso : stateOkB s
      · rfl
      · simp only [Bool.not_true, cond_false, if_true]
        rw [show (([], 0, s) : List T_Note.D × (Int × T_State.D)) = ((([], s) : List T_Note.D × T_State.D).1, 0, (([], s) : List T_Note.D × T_State.D).2) from rfl, k1, Option.bind_some]
        simp only
        rw [k4]
        rfl
    · obtain ⟨h1, h2⟩ := hI
      have hlt := (List.getElem?_eq_some_iff.1 hx).1
      have hil : ((i : Int) < (es.length : Int)) := by omega
      have hst := h2.step v hp hs
      obtain ⟨g1, g2, g3⟩ := h2
      have hpf := (perfV_ok s q.2 v hp (by rw [g2.1]; exact hp) (by rw [g2.2]; exact hs) g1).2.2.1
      unfold spec_Commit_l2
      simp only [hil, decide_true, cond_true, idx_at hx]
      by_cases h2' : v.1 = 2
      · have e2 : (v.1 == 2) = true := by rw [h2']; rfl
        have e3 : (v.1 != 2) = false := by unfold bne; rw [e2]; rfl
        simp only [e2, e3, cond_false, if_true]
        refine ⟨?_, by unfold stepC; simp only [List.length_append, List.length_cons, List.length_nil]; omega, hst⟩
        obtain ⟨r, p1, ⟨p2, p3⟩ | ⟨p2, k, x, p3, p4, p5⟩⟩ := hpf h2'
        · simp only [p1, Option.bind_some, p2, Bool.not_false, cond_true]
          rw [if_pos (by simp only [room, List.length_cons, List.length_nil]; omega)]
          unfold stepC
          rw [p3]
          rfl
        · simp only [p1, Option.bind_some, p2, Bool.not_true, cond_false, spec_PieceAt_eq s _ hp, p3, idx_at p4]
          rw [if_pos (by simp only [room, List.length_cons, List.length_nil]; omega)]
          unfold stepC
          rw [p5]
          rfl
      · have e2 : (v.1 == 2) = false := by rw [beq_eq_false_iff_ne]; exact h2'
        have e3 : (v.1 != 2) = true := by unfold bne; rw [e2]; rfl
        simp only [e2, e3, cond_true, Option.bind_some]
        exact ⟨rfl, by simp only [Bool.false_eq_true, if_false]; omega, by simp only [Bool.false_eq_true, if_false]; exact ⟨g1, g2, g3⟩⟩
    · unfold spec_Commit_l2
      simp
  · obtain ⟨h1, h2⟩ := hI
    have hlt := (List.getElem?_eq_some_iff.1 hx).1
    have hil : ((i : Int) < (es.length : Int)) := by omega
    have hst := h2.step v hp hs
    obtain ⟨g1, g2, g3⟩ := h2
    have hpf := (perfV_ok s q.2 v hp (by rw [g2.1]; exact hp) (by rw [g2.2]; exact hs) g1).2.1
    unfold spec_Commit_l1
    simp only [hil, decide_true, cond_true, idx_at hx]
    by_cases h2' : v.1 = 2
    · have e2 : (v.1 == 2) = true := by rw [h2']; rfl
      have e3 : (v.1 != 2) = false := by unfold bne; rw [e2]; rfl
      simp only [e3, cond_false, Option.bind_some]
      exact ⟨rfl, by simp only [Bool.false_eq_true, if_false]; omega, by simp only [Bool.false_eq_true, if_false]; exact ⟨g1, g2, g3⟩⟩
    · have e2 : (v.1 == 2) = false := by rw [beq_eq_false_iff_ne]; exact h2'
      have e3 : (v.1 != 2) = true := by unfold bne; rw [e2]; rfl
      simp only [e3, cond_true, if_true, hpf h2', Option.bind_some]
      refine ⟨?_, by unfold stepC; simp only [List.length_append, List.length_cons, List.length_nil]; omega, hst⟩
      rw [if_pos (by simp only [room, List.length_cons, List.length_nil]; omega)]
      rfl
  · unfold spec_Commit_l1
    simp

def up (a b : Int) : Int := if (if b < a then b else a) > 0 then (if b < a then b else a) else 0

/-! ### What Commit keeps -/
theorem bearP_ok (t : T_State.D) (x : T_Piece.D) (hz : (x.2.2.2.1 == 2) = true) (hx : PcOk t x) (pl mi : Int) (h1 : 0 ≤ pl ∧ pl ≤ 2147483647) (h2 : 0 ≤ mi ∧ mi ≤ 2147483647) : PcOk t (x.1, x.2.1, x.2.2.1, x.2.2.2.1, x.2.2.2.2.1, x.2.2.2.2.2.1, x.2.2.2.2.2.2.1, x.2.2.2.2.2.2.2.1, pl, mi, x.2.2.2.2.2.2.2.2.2.2) := by
  obtain ⟨g1, g2, g3, g4⟩ := hx
  obtain ⟨k0, k9⟩ := (pieceOk_iff x.1 x.2.1 x.2.2.1 x.2.2.2.1 x.2.2.2.2.1 x.2.2.2.2.2.1 x.2.2.2.2.2.2.1 x.2.2.2.2.2.2.2.1 x.2.2.2.2.2.2.2.2.1 x.2.2.2.2.2.2.2.2.2.1 x.2.2.2.2.2.2.2.2.2.2.1 x.2.2.2.2.2.2.2.2.2.2.2.1 x.2.2.2.2.2.2.2.2.2.2.2.2.1 x.2.2.2.2.2.2.2.2.2.2.2.2.2).1 g1
  have hz' : x.2.2.2.1 = 2 := by simpa using hz
  rcases k9 with ⟨_, a1, a2, a3⟩ | ⟨g, _⟩
  · exact ⟨(pieceOk_iff _ _ _ _ _ _ _ _ _ _ _ _ _ _).2 ⟨k0, .inl ⟨hz', h1, h2, a3⟩⟩, g2, g3, g4⟩
  · exact absurd hz' g
theorem pc_range {t : T_State.D} {x : T_Piece.D} (hz : (x.2.2.2.1 == 2) = true) (hx : PcOk t x) : (0 ≤ x.2.2.2.2.2.2.2.2.1 ∧ x.2.2.2.2.2.2.2.2.1 ≤ 2147483647) ∧ (0 ≤ x.2.2.2.2.2.2.2.2.2.1 ∧ x.2.2.2.2.2.2.2.2.2.1 ≤ 2147483647) := by
  obtain ⟨k0, k9⟩ := (pieceOk_iff x.1 x.2.1 x.2.2.1 x.2.2.2.1 x.2.2.2.2.1 x.2.2.2.2.2.1 x.2.2.2.2.2.2.1 x.2.2.2.2.2.2.2.1 x.2.2.2.2.2.2.2.2.1 x.2.2.2.2.2.2.2.2.2.1 x.2.2.2.2.2.2.2.2.2.2.1 x.2.2.2.2.2.2.2.2.2.2.2.1 x.2.2.2.2.2.2.2.2.2.2.2.2.1 x.2.2.2.2.2.2.2.2.2.2.2.2.2).1 hx.1
  have hz' : x.2.2.2.1 = 2 := by simpa using hz
  rcases k9 with ⟨_, a1, a2, a3⟩ | ⟨g, _⟩
  · exact ⟨a1, a2⟩
  · exact absurd hz' g
theorem perf_keeps {s t : T_State.D} {v : T_Event.D} {y : T_State.D × (T_Note.D × Unit)} (h : PerfR s t v y) (ht : StOk t) : StOk y.1 := by
  rcases h with ⟨_, b2, b4, r, hr, rfl⟩ | ⟨_, r, hr, hy⟩ | ⟨_, _, r, hr, rfl⟩
  · obtain ⟨⟨ps, ss, tl⟩, n', u'⟩ := r
    rcases hr with ⟨_, h, _⟩ | ⟨_, h0, _, he, ⟨_, h1, j, x, _, hx, h2⟩ | ⟨_, i, x, _, hx, hz, h1, h2⟩⟩
    · have h : ((ps, ss, tl) : T_State.D) = t := h
      show StOk (ps, ss, tl)
      rw [h]; exact ht
    · have h1 : ps = t.1 := h1
      have h0 : tl = t.2.2 := h0
      subst h1 h0
      have hn := eventOk_n he
      have := keep_side ht (j := j) (struckS b2 v.2.2.2.2.1 x) (struckS_ok b2 _ hn x (ht.2.2.2.2 x (List.mem_of_getElem? hx)))
      exact link_keeps this h2
    · have h1 : ps = t.1.set i (struckP b2 b4 (decide (v.2.2.2.2.1 ≥ 1)) v.2.2.2.2.1 x) := h1
      have h0 : tl = t.2.2 := h0
      subst h1 h0
      have hn := eventOk_n he
      have := keep_set ht hx (struckP b2 b4 (decide (v.2.2.2.2.1 ≥ 1)) v.2.2.2.2.1 x) rfl (struckP_ok t b2 b4 _ _ hn x hz (ht.2.2.1 i x hx))
      exact link_keeps this h2
  · rcases hy with ⟨_, rfl⟩ | ⟨hb, k, x, _, _, rfl⟩
    · exact ht
    · rcases hr with ⟨q1, _⟩ | ⟨_, q2, q3, q4, k, x, q5, q6, _, _, q9⟩
      · rw [q1] at hb; cases hb
      · simp only [q9]
        exact (stateOk_iff _).1 (carry_keeps t v k x q2 q3 q4 q5 q6).1
  · rcases hr with ⟨_, h⟩ | ⟨_, _, he, ⟨j, x, ⟨_, _, hx⟩, ⟨_, h⟩ | ⟨_, h⟩⟩ | ⟨i, x, ⟨_, hx, hz⟩, ⟨_, h⟩ | ⟨_, h⟩⟩⟩
    · simp only [h]; exact ht
    · simp only [h]
      exact keep_side ht _ (side_bound x _ (ht.2.2.2.2 x (List.mem_of_getElem? hx)) (plusV_in _ _).1 (plusV_in _ _).2)
    · simp only [h]
      exact keep_side ht _ (side_bound x _ (ht.2.2.2.2 x (List.mem_of_getElem? hx)) (lessV_in _ _).1 (lessV_in _ _).2)
    · simp only [h]
      have hn := eventOk_n (k := v.1) (sr := v.2.1) (p := v.2.2.1) (d := v.2.2.2.1) (n := v.2.2.2.2.1) (z := v.2.2.2.2.2.1) (bt := v.2.2.2.2.2.2.1) (u := v.2.2.2.2.2.2.2) he
      have hr := pc_range hz (ht.2.2.1 i x hx)
      exact keep_set ht hx _ rfl (bearP_ok t x hz (ht.2.2.1 i x hx) _ _ ⟨plusV_nonneg hr.1.1 hn, (plusV_in _ _).2⟩ hr.2)
    · simp only [h]
      have hn := eventOk_n (k := v.1) (sr := v.2.1) (p := v.2.2.1) (d := v.2.2.2.1) (n := v.2.2.2.2.1) (z := v.2.2.2.2.2.1) (bt := v.2.2.2.2.2.2.1) (u := v.2.2.2.2.2.2.2) he
      have hr := pc_range hz (ht.2.2.1 i x hx)
      exact keep_set ht hx _ rfl (bearP_ok t x hz (ht.2.2.1 i x hx) _ _ hr.1 ⟨plusV_nonneg hr.2.1 hn, (plusV_in _ _).2⟩)
theorem up_in' (a : Int) : 0 ≤ up a 2147483647 ∧ up a 2147483647 ≤ 2147483647 := by unfold up; split <;> (try split) <;> omega
theorem up_self {a : Int} (h0 : 0 ≤ a) (h1 : a ≤ 2147483647) : up a 2147483647 = a := by unfold up; split <;> (try split) <;> omega
theorem eventOk_most' {v : T_Event.D} (h : eventOkB v = true) : 0 ≤ v.2.2.2.2.1 ∧ v.2.2.2.2.1 ≤ 2147483647 := by
  unfold eventOkB at h
  rw [Bool.and_eq_true, Bool.and_eq_true] at h
  exact ⟨of_decide_eq_true h.1.1, of_decide_eq_true h.1.2⟩
def totC (v : T_Event.D) : Int := if v.1 = 1 then up v.2.2.2.2.1 2147483647 else 0
theorem totC_in (v : T_Event.D) : 0 ≤ totC v ∧ totC v ≤ 2147483647 := by
  unfold totC
  split
  · exact up_in' _
  · omega
theorem sum_in : ∀ (l : List T_Event.D), 0 ≤ (l.map totC).sum ∧ (l.map totC).sum ≤ 2147483647 * (l.length : Int)
  | [] => by simp
  | a :: l => by
    have h1 := sum_in l
    have h2 := totC_in a
    simp only [List.map_cons, List.sum_cons, List.length_cons]
    omega
theorem sum_take_succ {α : Type} (f : α → Int) (l : List α) (i : Nat) (x : α) (h : l[i]? = some x) : ((l.take (i + 1)).map f).sum = ((l.take i).map f).sum + f x := by
  rw [List.take_add_one, h]
  simp [List.sum_append]

def noteC (n : T_Note.D) : Int := (if n.1 = 4 then totC n.2.1 else 0) + (if n.1 = 1 then n.2.2.1 else 0)
theorem perf_note {s t : T_State.D} {v : T_Event.D} {y : T_State.D × (T_Note.D × Unit)} (h : PerfR s t v y) : noteC y.2.1 = totC v ∧ (y.2.1.1 = 1 → 0 ≤ y.2.1.2.2.1 ∧ y.2.1.2.2.1 ≤ 2147483647) := by
  rcases h with ⟨hk, b2, b4, r, hr, rfl⟩ | ⟨hk, r, hr, hy⟩ | ⟨hk, _, r, hr, rfl⟩
  · simp only
    rcases hr with ⟨h0, _, _⟩ | ⟨h0, _, _, he, _⟩
    · rw [if_neg (by omega)]
      exact ⟨by unfold noteC totC; simp, fun h => by simp at h⟩
    · have he' : eventOkB v = true := he
      obtain ⟨m1, m2⟩ := eventOk_most' he'
      by_cases hn : r.2.1 ≥ 1
      · rw [if_pos hn]
        refine ⟨?_, fun _ => ?_⟩
        · unfold noteC totC
          rw [if_pos hk, up_self m1 m2, h0]
          simp
        · simp only [h0]; exact ⟨m1, m2⟩
      · rw [if_neg hn]
        exact ⟨by unfold noteC totC; simp, fun h => by simp at h⟩
  · have hk1 : ¬ v.1 = 1 := by rw [hk]; decide
    rcases hy with ⟨_, rfl⟩ | ⟨_, k, x, _, _, rfl⟩
    · exact ⟨by unfold noteC totC; simp, fun h => by simp at h⟩
    · exact ⟨by unfold noteC totC; simp [hk1], fun h => by simp at h⟩
  · simp only
    split
    · exact ⟨by unfold noteC totC; simp [hk], fun h => by simp at h⟩
    · exact ⟨by unfold noteC totC; simp, fun h => by simp at h⟩
theorem commit_fold (s : T_State.D) (hs : s.1.length ≤ 1048576) (hs2 : s.2.1.length ≤ 1048576) : ∀ (vs : List T_Event.D) (q : List T_Note.D × T_State.D), CI s q → (∀ n ∈ q.1, n.1 = 1 → 0 ≤ n.2.2.1 ∧ n.2.2.1 ≤ 2147483647) →
    CI s (vs.foldl (stepC s) q) ∧ (StOk q.2 → StOk (vs.foldl (stepC s) q).2) ∧ ((vs.foldl (stepC s) q).1.map noteC).sum = (q.1.map noteC).sum + (vs.map totC).sum ∧ (∀ n ∈ (vs.foldl (stepC s) q).1, n.1 = 1 → 0 ≤ n.2.2.1 ∧ n.2.2.1 ≤ 2147483647)
  | [], q, h, hn => ⟨h, id, by simp, hn⟩
  | v :: vs, q, h, hn => by
    have hp := (perfV_ok s q.2 v hs (by rw [h.2.1.1]; exact hs) (by rw [h.2.1.2]; exact hs2) h.1).2.2.2
    obtain ⟨n1, n2⟩ := perf_note hp
    obtain ⟨k1, k2, k3, k4⟩ := commit_fold s hs hs2 vs (stepC s q v) (h.step v hs hs2) (fun n hm => by
      unfold stepC at hm
      rcases List.mem_append.1 hm with hm | hm
      · exact hn n hm
      · rw [List.mem_singleton.1 hm]; exact n2)
    refine ⟨k1, fun ho => k2 (perf_keeps hp ho), ?_, k4⟩
    simp only [List.foldl_cons]
    rw [k3]
    unfold stepC
    simp only [List.map_append, List.map_cons, List.map_nil, List.sum_append, List.sum_cons, List.sum_nil, n1]
    omega
theorem sum_parts (f : T_Event.D → Int) (p : T_Event.D → Bool) : ∀ (l : List T_Event.D), ((l.filter p).map f).sum + ((l.filter fun x => !p x).map f).sum = (l.map f).sum
  | [] => rfl
  | a :: l => by
    have := sum_parts f p l
    cases h : p a <;> simp [h] <;> omega
theorem commit_all (s : T_State.D) (es : List T_Event.D) (hs : s.1.length ≤ 1048576) (hs2 : s.2.1.length ≤ 1048576) :
    CI s (commitV s es) ∧ (StOk s → StOk (commitV s es).2) ∧ ((commitV s es).1.map noteC).sum = (es.map totC).sum ∧ (∀ n ∈ (commitV s es).1, n.1 = 1 → 0 ≤ n.2.2.1 ∧ n.2.2.1 ≤ 2147483647) := by
  obtain ⟨k1, k2, k3, k4⟩ := commit_fold s hs hs2 (othersL es ++ movesL es) ([], s) ⟨rfl, ⟨rfl, rfl⟩, rfl⟩ (by simp)
  refine ⟨k1, k2, ?_, k4⟩
  have := sum_parts totC (fun v => v.1 == 2) es
  rw [show (commitV s es).1 = ((othersL es ++ movesL es).foldl (stepC s) ([], s)).1 from rfl, k3]
  simp only [List.map_nil, List.sum_nil, List.map_append, List.sum_append]
  unfold othersL movesL bne
  omega

theorem commitV_len (s : T_State.D) (es : List T_Event.D) (hp : s.1.length ≤ 1048576) (hs : s.2.1.length ≤ 1048576) (he : es.length ≤ 1048576) : (commitV s es).1.length = es.length := (impl_Commit_eq s es hp hs he).2.1
theorem commit_spec_eq (s : T_State.D) (es : List T_Event.D) (hp : s.1.length ≤ 1048576) (hs : s.2.1.length ≤ 1048576) (he : es.length ≤ 1048576) : spec_Commit s es = some (if stateOkB s then ((commitV s es).2, (commitV s es).1, ()) else (s, [], ())) := spec_Commit_eq s es hp hs he

def leftB (x : T_Note.D) : Bool := (x.1 == 6) || ((x.1 == 3) && ((x.2.2.2.2.1.2.2.2.1 == 2) && (x.2.1.2.2.2.2.2.1 != 2)))
theorem impl_left_eq (x : T_Note.D) : impl_left x = some (leftB x) := by
  unfold impl_left leftB
  cases (x.1 == 6) <;> cases (x.1 == 3) <;> cases (x.2.2.2.2.1.2.2.2.1 == 2) <;> rfl
theorem spec_left_eq (x : T_Note.D) : spec_l18Left x = some (leftB x) := by
  unfold spec_l18Left leftB
  cases (x.1 == 6) <;> cases (x.1 == 3) <;> cases (x.2.2.2.2.1.2.2.2.1 == 2) <;> rfl

def knownG (_ : Nat) (x : T_Note.D) : List T_Piece.D := bif leftB x then [x.2.2.2.2.1] else []
theorem knownG_len (i : Nat) (x : T_Note.D) : (knownG i x).length ≤ 1 := by unfold knownG; cases leftB x <;> simp
theorem spec_LastKnown_eq (xs : List T_Note.D) (h : xs.length ≤ 1048576) : spec_LastKnown xs = some (collect knownG 0 xs) := by
  unfold spec_LastKnown
  rw [append_loop xs knownG (fun s => s) knownG_len (by omega) (fun t i x hI hx => ?_) (fun t => ?_)]
  · rfl
  · have hlt := (List.getElem?_eq_some_iff.1 hx).1
    have hil : ((i : Int) < (xs.length : Int)) := by omega
    unfold spec_LastKnown_l1 knownG
    simp only [hil, decide_true, cond_true, idx_at hx, spec_left_eq, Option.bind_some]
    rw [if_pos (by simp only [room, List.length_cons, List.length_nil]; omega)]
    cases leftB x <;> simp
  · unfold spec_LastKnown_l1; simp
theorem impl_LastKnown_eq (xs : List T_Note.D) (h : xs.length ≤ 1048576) : impl_LastKnown xs = some (collect knownG 0 xs) := by
  unfold impl_LastKnown
  rw [append_loop xs knownG (fun s => s) knownG_len (by omega) (fun t i x hI hx => ?_) (fun t => ?_)]
  · rfl
  · have hlt := (List.getElem?_eq_some_iff.1 hx).1
    have hil : ((i : Int) < (xs.length : Int)) := by omega
    unfold impl_LastKnown_l1 knownG
    simp only [hil, decide_true, cond_true, idx_at hx, impl_left_eq, Option.bind_some]
    rw [if_pos (by simp only [room, List.length_cons, List.length_nil]; omega)]
    cases leftB x <;> simp
  · unfold impl_LastKnown_l1; simp

theorem impl_Has_eq (l : List Int) (a : Int) (h : l.length ≤ 1048576) : impl_Has l a = some (l.any (fun x => a == x)) := by
  unfold impl_Has slices_Contains_int slices_Index_int
  rw [index_loop l (body := slices_Index_int_l1 l a) (fun x => a == x) (fun i => i) (by omega) (fun i x hx => ?_) ?_]
  · rw [← findL_any]
    cases findL (fun x => a == x) l <;> rfl
  · unfold slices_Index_int_l1
    simp
  · unfold slices_Index_int_l1
    have hlt := (List.getElem?_eq_some_iff.1 hx).1
    have : ((i : Int) < (l.length : Int)) := by omega
    simp only [this, decide_true, cond_true, idx_at hx]

/-! ### Draws: they end, and the cursor stays right -/
def curOk (c : T_l1Cur.D) : Prop := 0 ≤ c.2.1 ∧ c.1.length ≤ 1048576
theorem l1Byte_ok' (b : List Int) (i g : Int) (u : Unit) (h0 : 0 ≤ i) (h1 : b.length ≤ 1048576) : Tot (spec_l1Byte (b, i, g, u)) (fun y => curOk y.2.1 ∧ 0 ≤ y.1 ∧ y.1 ≤ 255) := by
  unfold spec_l1Byte
  simp only
  rw [if_pos (by decide), if_pos (by decide)]
  refine Tot.bif (fun hl => ?_) (fun _ => ?_)
  · have hl : i < (b.length : Int) := of_decide_eq_true hl
    refine Tot.idx h0 hl fun n x e hx => ?_
    obtain ⟨m, e1, e2⟩ := mask_byte (IntKind.wrap .i64 (IntKind.wrap .i64 (BitVec.ofInt (IntKind.bits .i64) (IntKind.wrap .i64 (BitVec.ofInt (IntKind.bits .i64) ((IntKind.wrap .i64 ((IntKind.wrap .i64 (g * 6364136223846793005)) + 1442695040888963407)).fdiv (2 ^ min (33 : Int).toNat (IntKind.bits .i64))) ^^^ BitVec.ofInt (IntKind.bits .i64) ((IntKind.wrap .i64 ((IntKind.wrap .i64 (g * 6364136223846793005)) + 1442695040888963407)).fdiv (2 ^ min (47 : Int).toNat (IntKind.bits .i64)))).toNat) &&& BitVec.ofInt (IntKind.bits .i64) 255).toNat + IntKind.wrap .i64 x))
    refine Tot.pure ⟨⟨?_, h1⟩, ?_, ?_⟩
    · show (0 : Int) ≤ IntKind.wrap .i64 (i + 1)
      rw [wrap_id (by omega) (by omega)]; omega
    · simp only; rw [e1]; omega
    · simp only; rw [e1]; omega
  · obtain ⟨m, e1, e2⟩ := mask_byte (IntKind.wrap .i64 (BitVec.ofInt (IntKind.bits .i64) ((IntKind.wrap .i64 ((IntKind.wrap .i64 (g * 6364136223846793005)) + 1442695040888963407)).fdiv (2 ^ min (33 : Int).toNat (IntKind.bits .i64))) ^^^ BitVec.ofInt (IntKind.bits .i64) ((IntKind.wrap .i64 ((IntKind.wrap .i64 (g * 6364136223846793005)) + 1442695040888963407)).fdiv (2 ^ min (47 : Int).toNat (IntKind.bits .i64)))).toNat)
    refine Tot.pure ⟨⟨h0, h1⟩, ?_, ?_⟩
    · simp only; rw [e1]; omega
    · simp only; rw [e1]; omega
theorem l1Byte_ok (c : T_l1Cur.D) (h : curOk c) : Tot (spec_l1Byte c) (fun y => curOk y.2.1 ∧ 0 ≤ y.1 ∧ y.1 ≤ 255) := l1Byte_ok' c.1 c.2.1 c.2.2.1 c.2.2.2 h.1 h.2
theorem l1Below_ok (c : T_l1Cur.D) (n : Int) (h : curOk c) : Tot (spec_l1Below c n) (fun y => curOk y.2.1 ∧ 0 ≤ y.1 ∧ (0 < n → y.1 < n)) := by
  unfold spec_l1Below
  refine Tot.bif (fun hn => ?_) (fun hn => ?_)
  · have hn : n ≤ 0 := of_decide_eq_true hn
    exact Tot.pure ⟨h, Int.le_refl _, fun h => by omega⟩
  · have hn : ¬ n ≤ 0 := of_decide_eq_false hn
    refine Tot.bif (fun _ => ?_) (fun _ => ?_)
    · refine Tot.bind (l1Byte_ok c h) ?_
      rintro y ⟨hc, h0, h1⟩
      rw [if_neg (by omega)]
      exact Tot.pure ⟨hc, Int.tmod_nonneg _ h0, fun hp => Int.tmod_lt_of_pos _ hp⟩
    · refine Tot.bind (l1Byte_ok c h) ?_
      rintro y2 ⟨hc2, h20, h21⟩
      refine Tot.bind (l1Byte_ok _ hc2) ?_
      rintro y3 ⟨hc3, h30, h31⟩
      refine Tot.bind (l1Byte_ok _ hc3) ?_
      rintro y4 ⟨hc4, h40, h41⟩
      show Tot (if n = 0 then none else some ((IntKind.wrap .i64 (IntKind.wrap .i64 (IntKind.wrap .i64 (y2.1 * 65536) + IntKind.wrap .i64 (y3.1 * 256)) + y4.1)).tmod n, y4.2)) _
      rw [wrap_id (n := y2.1 * 65536) (by omega) (by omega), wrap_id (n := y3.1 * 256) (by omega) (by omega), wrap_id (n := y2.1 * 65536 + y3.1 * 256) (by omega) (by omega), wrap_id (n := y2.1 * 65536 + y3.1 * 256 + y4.1) (by omega) (by omega), if_neg (by omega)]
      exact Tot.pure ⟨hc4, Int.tmod_nonneg _ (by omega), fun hp => Int.tmod_lt_of_pos _ hp⟩
theorem l1Int_ok (c : T_l1Cur.D) (l : List Int) (h : curOk c) (hl : 0 < l.length) : Tot (spec_l1Int c l) (fun y => curOk y.2.1 ∧ y.1 ∈ l) := by
  unfold spec_l1Int
  refine Tot.bind (l1Below_ok c _ h) ?_
  rintro y ⟨hc, h0, h1⟩
  refine Tot.idx h0 (h1 (by omega)) fun n x e hx => ?_
  exact Tot.pure ⟨hc, List.mem_of_getElem? hx⟩
theorem l1Once_ok (c : T_l1Cur.D) (n : Int) (h : curOk c) : Tot (spec_l1Once c n) (fun y => curOk y.2.1 ∧ True) := by
  unfold spec_l1Once
  refine Tot.bind (l1Below_ok c _ h) ?_
  rintro y ⟨hc, h0, h1⟩
  exact Tot.pure ⟨hc, trivial⟩
theorem l1Odd_ok (c : T_l1Cur.D) (h : curOk c) : Tot (spec_l1Odd c) (fun y => curOk y.2.1 ∧ True) := by
  unfold spec_l1Odd
  refine Tot.bind (l1Int_ok c _ h (by decide)) ?_
  rintro y ⟨hc, _⟩
  exact Tot.pure ⟨hc, trivial⟩
theorem l1Raw_ok (c : T_l1Cur.D) (h : curOk c) : Tot (spec_l1Raw c) (fun y => curOk y.2.1 ∧ True) := by
  unfold spec_l1Raw
  refine Tot.bind (l1Once_ok c _ h) ?_
  rintro y ⟨hc, _⟩
  refine Tot.bif (fun _ => ?_) (fun _ => ?_)
  · refine Tot.bind (l1Odd_ok _ hc) ?_
    rintro y ⟨hc, _⟩
    exact Tot.pure ⟨hc, trivial⟩
  · refine Tot.bind (l1Int_ok _ _ hc (by decide)) ?_
    rintro y ⟨hc, _⟩
    exact Tot.pure ⟨hc, trivial⟩
theorem l4Draw_ok (c : T_l1Cur.D) (id : Int) (h : curOk c) : Tot (spec_l4Draw c id) (fun y => curOk y.2.1 ∧ True) := by
  unfold spec_l4Draw
  refine Tot.bind (l1Below_ok c _ h) ?_
  rintro y1 ⟨_, _⟩
  refine Tot.bind (l1Int_ok _ _ (by assumption) (by decide)) ?_
  rintro y2 ⟨_, _⟩
  refine Tot.bind (l1Below_ok _ _ (by assumption)) ?_
  rintro y3 ⟨_, _⟩
  refine Tot.bind (l1Below_ok _ _ (by assumption)) ?_
  rintro y4 ⟨_, _⟩
  refine Tot.bind (l1Below_ok _ _ (by assumption)) ?_
  rintro y5 ⟨h5, _⟩
  refine Tot.bind (P := fun o => curOk o.2.1) (Tot.while (fun s => curOk s.2.1 ∧ 0 ≤ s.1 ∧ s.1 ≤ 6) (fun s => 6 - s.1.toNat) ?_ ⟨h5, by simp only; omega, by simp only; omega⟩) ?_
  · rintro ⟨i, cc, t⟩ ⟨g1, g2, g3⟩
    simp only at g1 g2 g3
    unfold spec_l4Draw_l1
    simp only
    refine Tot.bif (fun hl => ?_) (fun _ => ?_)
    · have hl : i < (6 : Int) := of_decide_eq_true hl
      refine Tot.idx g2 (by simpa using hl) fun n x e hx => ?_
      subst e
      rw [Int.toNat_natCast, hx, Option.bind_some]
      refine Tot.bind (l1Once_ok _ _ g1) ?_
      rintro y ⟨hc, _⟩
      refine Tot.bif (fun _ => ?_) (fun _ => ?_) <;> refine Tot.pure ⟨⟨hc, ?_, ?_⟩, ?_⟩ <;> simp only <;> rw [wrap_id (by omega) (by omega)] <;> omega
    · exact Tot.pure g1
  · rintro o ho
    refine Tot.bif (fun _ => Tot.pure ⟨ho, trivial⟩) (fun _ => ?_)
    refine Tot.bind (l1Once_ok _ _ ho) ?_
    rintro y12 ⟨h12, _⟩
    refine Tot.bind (P := fun _ => True) (Tot.bif (fun _ => Tot.pure trivial) (fun _ => Tot.pure trivial)) ?_
    rintro o13 _
    refine Tot.bind (l1Int_ok _ _ h12 (by decide)) ?_
    rintro y14 ⟨h14, _⟩
    refine Tot.bind (l1Int_ok _ _ h14 (by decide)) ?_
    rintro y15 ⟨h15, _⟩
    refine Tot.bind (l1Int_ok _ _ h15 (by decide)) ?_
    rintro y16 ⟨h16, _⟩
    refine Tot.bind (l1Once_ok _ _ h16) ?_
    rintro y17 ⟨h17, _⟩
    exact Tot.pure ⟨h17, trivial⟩
theorem l4Any_ok (c : T_l1Cur.D) (h : curOk c) : Tot (spec_l4Any c) (fun y => curOk y.2.1 ∧ True) := by
  unfold spec_l4Any
  refine Tot.bind (l1Below_ok c _ h) ?_
  rintro y1 ⟨h1, _⟩
  refine Tot.bind (l4Draw_ok _ _ h1) ?_
  rintro y2 ⟨h2, _⟩
  refine Tot.bind (l1Below_ok _ _ h2) ?_
  rintro y3 ⟨h3, _⟩
  repeat' first
    | refine Tot.bif (fun _ => ?_) (fun _ => ?_)
    | (refine Tot.bind (l1Int_ok _ _ h3 (by decide)) ?_; rintro y ⟨hy, _⟩; exact Tot.pure ⟨hy, trivial⟩)
    | (refine Tot.bind (l1Raw_ok _ h3) ?_; rintro y ⟨hy, _⟩; exact Tot.pure ⟨hy, trivial⟩)
    | exact Tot.pure ⟨h3, trivial⟩
theorem l5Draw_ok (c : T_l1Cur.D) (h : curOk c) : Tot (spec_l5Draw c) (fun y => curOk y.2.1 ∧ 1 ≤ y.1.1.length ∧ y.1.1.length ≤ 6 ∧ y.1.2.1.length = 2) := by
  unfold spec_l5Draw
  refine Tot.bind (P := fun s => s.1.length = 0 ∧ s.2.1.length = 2) ⟨_, rfl, rfl, rfl⟩ ?_
  rintro y1 ⟨p1, p2⟩
  refine Tot.bind (l1Below_ok c _ h) ?_
  rintro y2 ⟨h2, _⟩
  refine Tot.bind (l1Below_ok _ _ h2) ?_
  rintro y3 ⟨h3, _⟩
  refine Tot.bind (P := fun o => curOk o.2.1 ∧ o.2.2.1.length = 0 ∧ o.2.2.2.1.length = 2) (Tot.while (fun s => curOk s.2.1 ∧ s.2.2.1.length = 0 ∧ s.2.2.2.1.length = 2 ∧ 0 ≤ s.1 ∧ s.1 ≤ 2) (fun s => 2 - s.1.toNat) ?_ ⟨h3, p1, p2, by simp only; omega, by simp only; omega⟩) ?_
  · rintro ⟨i, cc, ps, ss, t⟩ ⟨g1, g2, g3, g4, g5⟩
    simp only at g1 g2 g3 g4 g5
    unfold spec_l5Draw_l1
    simp only
    refine Tot.bif (fun hl => ?_) (fun _ => Tot.pure ⟨g1, g2, g3⟩)
    have hl : i < (2 : Int) := of_decide_eq_true hl
    refine Tot.bind (l1Int_ok _ _ g1 (by decide)) ?_
    rintro y7 ⟨h7, _⟩
    refine Tot.idx g4 (by omega) fun n x e hx => ?_
    subst e
    rw [Int.toNat_natCast, hx, Option.bind_some]
    refine Tot.bind (l1Int_ok _ _ h7 (by decide)) ?_
    rintro y10 ⟨h10, _⟩
    have hn : n < ss.length := by omega
    rw [idx_set hn, get_set hn, Option.bind_some]
    refine Tot.pure ⟨⟨h10, g2, by simp only [List.length_set]; exact g3, ?_, ?_⟩, ?_⟩ <;> simp only <;> rw [wrap_id (by omega) (by omega)] <;> omega
  · rintro o ⟨g1, g2, g3⟩
    refine Tot.bind (l1Below_ok _ _ g1) ?_
    rintro y14 ⟨h14, h14a, h14b⟩
    have hlt := h14b (by decide)
    rw [wrap_id (n := 1 + y14.1) (by omega) (by omega)]
    refine Tot.bind (P := fun o => curOk o.2.2.1 ∧ 1 ≤ o.2.2.2.1.length ∧ o.2.2.2.1.length ≤ 6 ∧ o.2.2.2.2.1.length = 2) (Tot.while (fun s => curOk s.2.2.1 ∧ 0 ≤ s.2.1 ∧ (s.2.2.2.1.length : Int) + s.2.1 = 1 + y14.1 ∧ s.2.2.2.2.1.length = 2) (fun s => s.2.1.toNat) ?_ ⟨h14, by simp only; omega, by simp only; omega, g3⟩) ?_
    · rintro ⟨id, i, cc, ps, ss, t⟩ ⟨k1, k2, k3, k4⟩
      simp only at k1 k2 k3 k4
      unfold spec_l5Draw_l2
      simp only
      refine Tot.bif (fun hl => ?_) (fun hl => Tot.pure ⟨k1, ?_, ?_, k4⟩)
      · have hl : i > 0 := of_decide_eq_true hl
        refine Tot.bind (l1Below_ok _ _ k1) ?_
        rintro y18 ⟨h18, _⟩
        refine Tot.bind (l4Draw_ok _ _ h18) ?_
        rintro y19 ⟨h19, _⟩
        rw [if_pos (by simp only [room, List.length_cons, List.length_nil]; omega)]
        refine Tot.pure ⟨⟨h19, ?_, ?_, k4⟩, ?_⟩ <;> simp only [List.length_append, List.length_cons, List.length_nil] <;> rw [wrap_id (n := i - 1) (by omega) (by omega)] <;> omega
      · have hl : ¬ i > 0 := of_decide_eq_false hl
        simp only; omega
      · have hl : ¬ i > 0 := of_decide_eq_false hl
        simp only; omega
    · rintro o ⟨k1, k2⟩
      exact Tot.pure ⟨k1, k2⟩
theorem l6Id_ok (c : T_l1Cur.D) (s : T_State.D) (h : curOk c) : Tot (spec_l6Id c s) (fun y => curOk y.2.1 ∧ True) := by
  unfold spec_l6Id
  refine Tot.bind (P := fun o => curOk o.2 ∧ (o.1 = false → 0 < s.1.length)) (Tot.bif (fun _ => Tot.pure ⟨h, by simp⟩) (fun he => ?_)) ?_
  · have he : 0 < s.1.length := by
      rw [beq_eq_false_iff_ne] at he
      omega
    refine Tot.bind (l1Once_ok _ _ h) ?_
    rintro y ⟨hy, _⟩
    exact Tot.pure ⟨hy, fun _ => he⟩
  · rintro o ⟨ho, hl⟩
    refine Tot.bif (fun _ => ?_) (fun hf => ?_)
    · refine Tot.bind (l1Below_ok _ _ ho) ?_
      rintro y ⟨hy, _⟩
      exact Tot.pure ⟨hy, trivial⟩
    · have := hl hf
      refine Tot.bind (l1Below_ok _ _ ho) ?_
      rintro y ⟨hy, h0, h1⟩
      refine Tot.idx h0 (h1 (by omega)) fun n x e hx => ?_
      exact Tot.pure ⟨hy, trivial⟩
theorem l6Draw_ok (c : T_l1Cur.D) (s : T_State.D) (h : curOk c) : Tot (spec_l6Draw c s) (fun y => curOk y.2.1 ∧ True) := by
  unfold spec_l6Draw
  refine Tot.bind (l1Int_ok _ _ h (by decide)) ?_
  rintro y1 ⟨h1, _⟩
  refine Tot.bind (l1Int_ok _ _ h1 (by decide)) ?_
  rintro y2 ⟨h2, _⟩
  refine Tot.bif (fun _ => ?_) (fun _ => ?_)
  · refine Tot.bind (l6Id_ok _ _ h2) ?_
    rintro y3 ⟨h3, _⟩
    refine Tot.bind (l1Once_ok _ _ h3) ?_
    rintro y4 ⟨h4, _⟩
    refine Tot.bif (fun _ => ?_) (fun _ => ?_)
    · refine Tot.bind (l1Below_ok _ _ h4) ?_
      rintro y ⟨hy, _⟩
      exact Tot.pure ⟨hy, trivial⟩
    · refine Tot.bind (l6Id_ok _ _ h4) ?_
      rintro y ⟨hy, _⟩
      exact Tot.pure ⟨hy, trivial⟩
  refine Tot.bif (fun _ => ?_) (fun _ => ?_)
  · refine Tot.bind (l6Id_ok _ _ h2) ?_
    rintro y3 ⟨h3, _⟩
    refine Tot.bind (l1Int_ok _ _ h3 (by decide)) ?_
    rintro y4 ⟨h4, _⟩
    refine Tot.bif (fun _ => ?_) (fun _ => Tot.pure ⟨h4, trivial⟩)
    refine Tot.bind (l1Int_ok _ _ h4 (by decide)) ?_
    rintro y5 ⟨h5, _⟩
    refine Tot.bind (l1Once_ok _ _ h5) ?_
    rintro y ⟨hy, _⟩
    exact Tot.pure ⟨hy, trivial⟩
  refine Tot.bind (P := fun _ => True) (Tot.bif (fun _ => Tot.pure trivial) (fun _ => Tot.pure trivial)) ?_
  rintro o11 _
  refine Tot.bif (fun _ => ?_) (fun _ => ?_)
  · refine Tot.bind (l1Below_ok _ _ h2) ?_
    rintro y ⟨hy, _⟩
    exact Tot.pure ⟨hy, trivial⟩
  · refine Tot.bind (l6Id_ok _ _ h2) ?_
    rintro y ⟨hy, _⟩
    exact Tot.pure ⟨hy, trivial⟩
theorem l6Any_ok (c : T_l1Cur.D) (s : T_State.D) (h : curOk c) : Tot (spec_l6Any c s) (fun y => curOk y.2.1 ∧ True) := by
  unfold spec_l6Any
  refine Tot.bind (l6Draw_ok _ _ h) ?_
  rintro y1 ⟨h1, _⟩
  refine Tot.bind (l1Below_ok _ _ h1) ?_
  rintro y3 ⟨h3, _⟩
  repeat' first
    | refine Tot.bif (fun _ => ?_) (fun _ => ?_)
    | (refine Tot.bind (l1Int_ok _ _ h3 (by decide)) ?_; rintro y ⟨hy, _⟩; exact Tot.pure ⟨hy, trivial⟩)
    | (refine Tot.bind (l1Raw_ok _ h3) ?_; rintro y ⟨hy, _⟩; exact Tot.pure ⟨hy, trivial⟩)
    | exact Tot.pure ⟨h3, trivial⟩
theorem l1New_ok (code : List Int) (hl : code.length ≤ 1048576) : Tot (spec_l1New code) (fun c => curOk c) := by
  unfold spec_l1New
  refine Tot.bind (P := fun _ => True) (Tot.while (fun s => 0 ≤ s.2 ∧ s.2 ≤ (code.length : Int)) (fun s => code.length - s.2.toNat) ?_ ⟨by simp only; omega, by simp only; omega⟩) ?_
  · rintro ⟨g, i⟩ ⟨k1, k2⟩
    simp only at k1 k2
    unfold spec_l1New_l1
    simp only
    refine Tot.bind (P := fun o => o = true → i < (code.length : Int)) (Tot.bif (fun hl => Tot.pure (fun _ => of_decide_eq_true hl)) (fun _ => Tot.pure (fun h => by cases h))) ?_
    rintro o ho
    refine Tot.bif (fun hb => ?_) (fun _ => Tot.pure trivial)
    have hlt := ho hb
    refine Tot.idx k1 hlt fun n x e hx => ?_
    refine Tot.pure ⟨⟨?_, ?_⟩, ?_⟩ <;> simp only <;> rw [wrap_id (n := i + 1) (by omega) (by omega)] <;> omega
  · rintro o _
    exact Tot.pure ⟨Int.le_refl _, hl⟩

/-! ### Draws of events and notes -/
theorem l18Events_ok (c : T_l1Cur.D) (s : T_State.D) (h : curOk c) : Tot (spec_l18Events c s) (fun y => curOk y.2.1 ∧ y.1.length ≤ 7) := by
  unfold spec_l18Events
  refine Tot.bind (l1Below_ok c _ h) ?_
  rintro y1 ⟨h1, h1a, h1b⟩
  have h1c := h1b (by decide)
  refine Tot.bind (P := fun o => curOk o.2.2 ∧ o.1.length ≤ 6) (Tot.while (fun s => curOk s.2.2 ∧ 0 ≤ s.2.1 ∧ (s.1.length : Int) + s.2.1 ≤ 6) (fun s => s.2.1.toNat) ?_ ⟨h1, h1a, by simp only [List.length_nil]; omega⟩) ?_
  · rintro ⟨l, i, cc⟩ ⟨k1, k2, k3⟩
    simp only at k1 k2 k3
    unfold spec_l18Events_l1
    simp only
    refine Tot.bif (fun hl => ?_) (fun _ => Tot.pure ⟨k1, by simp only; omega⟩)
    have hl : i > 0 := of_decide_eq_true hl
    refine Tot.bind (l6Draw_ok _ _ k1) ?_
    rintro y4 ⟨h4, _⟩
    rw [if_pos (by simp only [room, List.length_cons, List.length_nil]; omega)]
    refine Tot.pure ⟨⟨h4, ?_, ?_⟩, ?_⟩ <;> simp only [List.length_append, List.length_cons, List.length_nil] <;> rw [wrap_id (n := i - 1) (by omega) (by omega)] <;> omega
  · rintro o ⟨k1, k2⟩
    refine Tot.bind (l1Once_ok _ _ k1) ?_
    rintro y6 ⟨h6, _⟩
    refine Tot.bif (fun _ => ?_) (fun _ => Tot.pure ⟨h6, by simp only; omega⟩)
    refine Tot.bind (l6Any_ok _ _ h6) ?_
    rintro y7 ⟨h7, _⟩
    rw [if_pos (by simp only [room, List.length_cons, List.length_nil]; omega)]
    exact Tot.pure ⟨h7, by simp only [List.length_append, List.length_cons, List.length_nil]; omega⟩
theorem l18Notes_ok (c : T_l1Cur.D) (h : curOk c) : Tot (spec_l18Notes c) (fun y => curOk y.2.1 ∧ y.1.length ≤ 7) := by
  unfold spec_l18Notes
  refine Tot.bind (l5Draw_ok c h) ?_
  rintro y1 ⟨h1, g1, g2, g3⟩
  refine Tot.bind (l18Events_ok _ _ h1) ?_
  rintro y2 ⟨h2, k2⟩
  refine Tot.bind (P := fun y => y.2.1.length ≤ 7) ⟨_, commit_spec_eq y1.1 y2.1 (by omega) (by omega) (by omega), ?_⟩ ?_
  · have := commitV_len y1.1 y2.1 (by omega) (by omega) (by omega)
    split
    · simp only [this]; exact k2
    · simp
  rintro y3 h3
  refine Tot.bind (P := fun o => curOk o.2 ∧ (o.1 = true → 0 < y3.2.1.length)) (Tot.bif (fun hl => ?_) (fun _ => Tot.pure ⟨h2, by simp⟩)) ?_
  · have hl := of_decide_eq_true hl
    refine Tot.bind (l1Once_ok _ _ h2) ?_
    rintro y4 ⟨h4, _⟩
    exact Tot.pure ⟨h4, fun _ => by omega⟩
  rintro o5 ⟨h5, h5b⟩
  refine Tot.bif (fun ho => ?_) (fun _ => Tot.pure ⟨h5, h3⟩)
  have hpos := h5b ho
  refine Tot.bind (l1Below_ok _ _ h5) ?_
  rintro y6 ⟨h6, h6a, h6b⟩
  have h6c := h6b (by omega)
  obtain ⟨k, hk⟩ := Int.eq_ofNat_of_zero_le h6a
  have hkl : k < y3.2.1.length := by omega
  have hx := List.getElem?_eq_getElem hkl
  refine Tot.bind (l1Below_ok _ _ h6) ?_
  rintro y7 ⟨h7, _⟩
  simp only [hk, idx_at hx, Int.toNat_natCast, hx, Option.bind_some]
  refine Tot.bif (fun _ => ?_) (fun _ => ?_)
  · refine Tot.bind (l1Below_ok _ _ h7) ?_
    rintro y8 ⟨h8, _⟩
    exact Tot.pure ⟨h8, by simp only [List.length_set]; exact h3⟩
  refine Tot.bif (fun _ => ?_) (fun _ => ?_)
  · refine Tot.bind (l1Raw_ok _ h7) ?_
    rintro y8 ⟨h8, _⟩
    exact Tot.pure ⟨h8, by simp only [List.length_set]; exact h3⟩
  refine Tot.bif (fun _ => ?_) (fun _ => ?_)
  · refine Tot.bind (l4Any_ok _ h7) ?_
    rintro y8 ⟨h8, _⟩
    exact Tot.pure ⟨h8, by simp only [List.length_set]; exact h3⟩
  refine Tot.bif (fun _ => ?_) (fun _ => Tot.pure ⟨h7, h3⟩)
  refine Tot.bind (l6Any_ok _ _ h7) ?_
  rintro y8 ⟨h8, _⟩
  exact Tot.pure ⟨h8, by simp only [List.length_set]; exact h3⟩

/-! ### A drawn state is right -/
theorem bits_at : ∀ (n : Nat) (x : Int), ([1, 2, 4, 8, 16, 32] : List Int)[n]? = some x → x = 2 ^ n ∧ 1 ≤ x ∧ x ≤ 32
  | 0, x, h => by simp at h; subst h; decide
  | 1, x, h => by simp at h; subst h; decide
  | 2, x, h => by simp at h; subst h; decide
  | 3, x, h => by simp at h; subst h; decide
  | 4, x, h => by simp at h; subst h; decide
  | 5, x, h => by simp at h; subst h; decide
  | n + 6, x, h => by simp at h
theorem l4Draw_st (c : T_l1Cur.D) (id : Int) (h : curOk c) (hi : 1 ≤ id ∧ id ≤ 99) : Tot (spec_l4Draw c id) (fun y => curOk y.2.1 ∧ y.1.1 = id ∧ pieceOkB y.1 = true ∧ y.1.2.1 < (2 : Int) ∧ y.1.2.2.1 < (2 : Int) ∧ y.1.2.2.2.2.1 ≤ (2 : Int)) := by
  unfold spec_l4Draw
  refine Tot.bind (l1Below_ok c _ h) ?_
  rintro ⟨o, c1, u1⟩ ⟨h1, a1, b1⟩
  have b1 := b1 (by decide)
  refine Tot.bind (l1Int_ok _ _ h1 (by decide)) ?_
  rintro ⟨z, c2, u2⟩ ⟨h2, m2⟩
  refine Tot.bind (l1Below_ok _ _ h2) ?_
  rintro ⟨st, c3, u3⟩ ⟨h3, a3, b3⟩
  have b3 := b3 (by decide)
  refine Tot.bind (l1Below_ok _ _ h3) ?_
  rintro ⟨pw, c4, u4⟩ ⟨h4, a4, b4⟩
  have b4 := b4 (by decide)
  refine Tot.bind (l1Below_ok _ _ h4) ?_
  rintro ⟨tg, c5, u5⟩ ⟨h5, a5, b5⟩
  have b5 := b5 (by decide)
  simp only at h1 a1 b1 h2 m2 h3 a3 b3 h4 a4 b4 h5 a5 b5 ⊢
  have hz : z = 2 ∨ z = 1 ∨ z = 3 := by simp at m2; omega
  rw [wrap_id (n := 1 + tg) (by omega) (by omega)]
  refine Tot.bind (P := fun w => curOk w.2.1 ∧ ∃ tr : Int, w.2.2 = (id, o, o, z, st, pw, 1 + tg, tr, 0, 0, 0, false, false, ()) ∧ 0 ≤ tr ∧ tr ≤ 63)
    (Tot.while (fun s => curOk s.2.1 ∧ 0 ≤ s.1 ∧ s.1 ≤ 6 ∧ ∃ tr : Int, s.2.2 = (id, o, o, z, st, pw, 1 + tg, tr, 0, 0, 0, false, false, ()) ∧ 0 ≤ tr ∧ tr < 2 ^ s.1.toNat) (fun s => 6 - s.1.toNat) ?_ ⟨h5, by simp only; omega, by simp only; omega, 0, rfl, by decide, (show (0 : Int) < 2 ^ (0 : Int).toNat by decide)⟩) ?_
  · rintro ⟨i, cc, t⟩ ⟨g1, g2, g3, tr, e, t1, t2⟩
    simp only at g1 g2 g3 e t2
    subst e
    unfold spec_l4Draw_l1
    simp only
    refine Tot.bif (fun hl => ?_) (fun hl => ?_)
    · have hl : i < (6 : Int) := of_decide_eq_true hl
      refine Tot.idx g2 (by simpa using hl) fun n x e hx => ?_
      subst e
      obtain ⟨x1, x2, x3⟩ := bits_at n x hx
      rw [Int.toNat_natCast, hx, Option.bind_some]
      refine Tot.bind (l1Once_ok _ _ g1) ?_
      rintro y ⟨hc, _⟩
      rw [Int.toNat_natCast, ← x1] at t2
      have hw : IntKind.wrap .i64 ((n : Int) + 1) = ((n + 1 : Nat) : Int) := by rw [wrap_id (by omega) (by omega)]; simp
      have hp : (2 : Int) ^ (n + 1) = x + x := by rw [Int.pow_succ, ← x1]; omega
      rw [hw]
      refine Tot.bif (fun _ => ?_) (fun _ => ?_)
      · refine Tot.pure ⟨⟨hc, by simp only; omega, by simp only; omega, tr + x, ?_, by omega, ?_⟩, by simp only; omega⟩
        · simp only; rw [wrap_id (n := tr + x) (by omega) (by omega)]
        · simp only [Int.toNat_natCast]; rw [hp]; omega
      · refine Tot.pure ⟨⟨hc, by simp only; omega, by simp only; omega, tr, rfl, t1, ?_⟩, by simp only; omega⟩
        simp only [Int.toNat_natCast]; rw [hp]; omega
    · have hl : ¬ i < (6 : Int) := of_decide_eq_false hl
      have : i = 6 := by omega
      subst this
      have t2 : tr < 64 := t2
      exact Tot.pure ⟨g1, tr, rfl, t1, by omega⟩
  · rintro ⟨i, cc, t⟩ ⟨g1, tr, e, t1, t2⟩
    simp only at g1 e
    subst e
    simp only
    have k0 : (1 ≤ id ∧ id ≤ 99) ∧ (0 ≤ o ∧ o ≤ 2) ∧ (0 ≤ o ∧ o ≤ 2) ∧ (1 ≤ z ∧ z ≤ 4) ∧ (0 ≤ st ∧ st ≤ 9999) ∧ (0 ≤ pw ∧ pw ≤ 999) ∧ (0 ≤ 1 + tg ∧ 1 + tg ≤ 999) ∧ (0 ≤ tr ∧ tr ≤ 63) := by omega
    by_cases hz2 : z = 2
    · subst hz2
      simp only [bne_self_eq_false, cond_false]
      refine Tot.bind (l1Once_ok _ _ g1) ?_
      rintro y12 ⟨h12, _⟩
      refine Tot.bind (P := fun p => ∃ sd : Int, p = (id, o, sd, 2, st, pw, 1 + tg, tr, 0, 0, 0, false, false, ()) ∧ 0 ≤ sd ∧ sd ≤ 1) (Tot.bif (fun _ => Tot.pure ⟨1 - o, by rw [wrap_id (by omega) (by omega)], by omega, by omega⟩) (fun _ => Tot.pure ⟨o, rfl, by omega, by omega⟩)) ?_
      rintro o13 ⟨sd, rfl, s1, s2⟩
      refine Tot.bind (l1Int_ok _ _ h12 (by decide)) ?_
      rintro ⟨pl, c14, u14⟩ ⟨h14, m14⟩
      refine Tot.bind (l1Int_ok _ _ h14 (by decide)) ?_
      rintro ⟨mi, c15, u15⟩ ⟨h15, m15⟩
      refine Tot.bind (l1Int_ok _ _ h15 (by decide)) ?_
      rintro ⟨mk, c16, u16⟩ ⟨h16, m16⟩
      refine Tot.bind (l1Once_ok _ _ h16) ?_
      rintro ⟨bt, c17⟩ ⟨h17, _⟩
      simp only at m14 m15 m16 h17 ⊢
      have q1 : pl = 0 ∨ pl = 1 ∨ pl = 2 := by simp at m14; omega
      have q2 : mi = 0 ∨ mi = 1 := by simp at m15; omega
      have q3 : mk = 0 ∨ mk = 1 := by simp at m16; omega
      refine Tot.pure ⟨h17, rfl, (pieceOk_iff id o sd 2 st pw (1 + tg) tr pl mi mk false bt ()).2 ⟨by omega, .inl ⟨rfl, by omega, by omega, by omega⟩⟩, b1, (show sd < (2 : Int) by omega), (show st ≤ (2 : Int) by omega)⟩
    · have hb : (z != 2) = true := by simpa using hz2
      simp only [hb, cond_true]
      refine Tot.pure ⟨g1, rfl, (pieceOk_iff id o o z st pw (1 + tg) tr 0 0 0 false false ()).2 ⟨by omega, .inr ⟨hz2, rfl, rfl, rfl, rfl, rfl, rfl⟩⟩, b1, b1, (show st ≤ (2 : Int) by omega)⟩
theorem l5Draw_st (c : T_l1Cur.D) (h : curOk c) : Tot (spec_l5Draw c) (fun y => curOk y.2.1 ∧ stateOkB y.1 = true ∧ 1 ≤ y.1.1.length) := by
  unfold spec_l5Draw
  refine Tot.bind (P := fun s => s = ([], ([(20, 0, false, ()), (20, 0, false, ())] : List T_Side.D), 0, 0, ())) ⟨_, rfl, rfl⟩ ?_
  rintro y1 rfl
  refine Tot.bind (l1Below_ok c _ h) ?_
  rintro ⟨ck, c2, u2⟩ ⟨h2, a2, b2⟩
  have b2 := b2 (by decide)
  refine Tot.bind (l1Below_ok _ _ h2) ?_
  rintro ⟨ac, c3, u3⟩ ⟨h3, a3, b3⟩
  have b3 := b3 (by decide)
  simp only at h2 a2 b2 h3 a3 b3 ⊢
  rw [wrap_id (n := 2 + ck) (by omega) (by omega)]
  refine Tot.bind (P := fun o => curOk o.2.1 ∧ ∃ ss : List T_Side.D, o.2.2 = ([], ss, ac, 2 + ck, ()) ∧ ss.length = 2 ∧ ∀ x ∈ ss, sideOkB x = true)
    (Tot.while (fun s => curOk s.2.1 ∧ 0 ≤ s.1 ∧ s.1 ≤ 2 ∧ ∃ ss : List T_Side.D, s.2.2 = ([], ss, ac, 2 + ck, ()) ∧ ss.length = 2 ∧ ∀ x ∈ ss, sideOkB x = true) (fun s => 2 - s.1.toNat) ?_ ⟨h3, by simp only; omega, by simp only; omega, _, rfl, rfl, by decide⟩) ?_
  · rintro ⟨i, cc, ps, ss', t⟩ ⟨g1, g4, g5, ss, e, g3, g6⟩
    simp only [Prod.mk.injEq] at g1 g4 g5 e
    obtain ⟨rfl, rfl, rfl⟩ := e
    unfold spec_l5Draw_l1
    simp only
    refine Tot.bif (fun hl => ?_) (fun _ => Tot.pure ⟨g1, _, rfl, g3, g6⟩)
    have hl : i < (2 : Int) := of_decide_eq_true hl
    refine Tot.bind (l1Int_ok _ _ g1 (by decide)) ?_
    rintro ⟨y7, c7, u7⟩ ⟨h7, m7⟩
    refine Tot.idx g4 (by omega) fun n x e hx => ?_
    subst e
    rw [Int.toNat_natCast, hx, Option.bind_some]
    refine Tot.bind (l1Int_ok _ _ h7 (by decide)) ?_
    rintro ⟨y10, c10, u10⟩ ⟨h10, m10⟩
    have hn : n < ss'.length := by omega
    rw [idx_set hn, get_set hn, Option.bind_some]
    simp only at m7 m10 h10 ⊢
    refine Tot.pure ⟨⟨h10, ?_, ?_, _, rfl, by simp only [List.length_set]; exact g3, ?_⟩, ?_⟩
    · simp only; rw [wrap_id (by omega) (by omega)]; omega
    · simp only; rw [wrap_id (by omega) (by omega)]; omega
    · intro x' hx'
      rcases List.mem_or_eq_of_mem_set hx' with hx' | rfl
      · rcases List.mem_or_eq_of_mem_set hx' with hx' | rfl
        · exact g6 _ hx'
        · have q1 : y7 = 20 ∨ y7 = 3 ∨ y7 = 1 ∨ y7 = 10 := by simp at m7; omega
          have := g6 x (List.mem_of_getElem? hx)
          unfold sideOkB at this ⊢
          simp only [Bool.and_eq_true, decide_eq_true_eq] at this ⊢
          exact ⟨⟨(show (-2147483647 : Int) ≤ y7 by omega), (show y7 ≤ (2147483647 : Int) by omega)⟩, this.2⟩
      · have q1 : y7 = 20 ∨ y7 = 3 ∨ y7 = 1 ∨ y7 = 10 := by simp at m7; omega
        have q2 : y10 = 0 ∨ y10 = 8 ∨ y10 = 1 := by simp at m10; omega
        unfold sideOkB
        simp only [Bool.and_eq_true, decide_eq_true_eq]
        exact ⟨⟨(show (-2147483647 : Int) ≤ y7 by omega), (show y7 ≤ (2147483647 : Int) by omega)⟩, (show (0 : Int) ≤ y10 by omega), (show y10 ≤ (2147483647 : Int) by omega)⟩
    · simp only; rw [wrap_id (by omega) (by omega)]; omega
  · rintro ⟨i', cc, t⟩ ⟨g1, ss, e, g3, g6⟩
    simp only at g1 e
    subst e
    refine Tot.bind (l1Below_ok _ _ g1) ?_
    rintro ⟨m, c14, u14⟩ ⟨h14, h14a, h14b⟩
    have hlt := h14b (by decide)
    simp only at h14 h14a hlt ⊢
    rw [wrap_id (n := 1 + m) (by omega) (by omega)]
    have stk : ∀ ps : List T_Piece.D, ps.length ≤ 8 → (∀ (i : Nat) x, ps[i]? = some x → pieceOkB x = true ∧ x.2.1 < (2 : Int) ∧ x.2.2.1 < (2 : Int) ∧ x.2.2.2.2.1 ≤ (2 : Int)) → (∀ (i : Nat) x y, ps[i]? = some x → ps[i + 1]? = some y → x.1 < y.1) → stateOkB (ps, ss, ac, 2 + ck, ()) = true := by
      intro ps p1 p2 p3
      refine (stateOk_iff _).2 ⟨⟨p1, by simp only; omega, by simp only; omega⟩, ⟨⟨a3, (show ac ≤ (ss.length : Int) - 1 by omega)⟩, (show (0 : Int) ≤ 2 + ck by omega), (show 2 + ck ≤ (9999 : Int) by omega)⟩, fun i x hx => ?_, p3, g6⟩
      obtain ⟨q1, q2, q3, q4⟩ := p2 i x hx
      exact ⟨q1, (by show x.2.1 < ((ss.length : Nat) : Int); rw [g3]; exact q2), (by show x.2.2.1 < ((ss.length : Nat) : Int); rw [g3]; exact q3), Int.le_trans q4 (show (2 : Int) ≤ 2 + ck by omega)⟩
    refine Tot.bind (P := fun o => curOk o.2.2.1 ∧ ∃ ps : List T_Piece.D, o.2.2.2 = (ps, ss, ac, 2 + ck, ()) ∧ ps.length ≤ 8 ∧ 1 ≤ ps.length ∧ (∀ (i : Nat) x, ps[i]? = some x → pieceOkB x = true ∧ x.2.1 < (2 : Int) ∧ x.2.2.1 < (2 : Int) ∧ x.2.2.2.2.1 ≤ (2 : Int)) ∧ (∀ (i : Nat) x y, ps[i]? = some x → ps[i + 1]? = some y → x.1 < y.1))
      (Tot.while (fun s => curOk s.2.2.1 ∧ 0 ≤ s.2.1 ∧ 0 ≤ s.1 ∧ ∃ ps : List T_Piece.D, s.2.2.2 = (ps, ss, ac, 2 + ck, ()) ∧ (ps.length : Int) + s.2.1 = 1 + m ∧ s.1 ≤ 2 * (ps.length : Int) ∧ (∀ x ∈ ps, x.1 ≤ s.1) ∧ (∀ (i : Nat) x, ps[i]? = some x → pieceOkB x = true ∧ x.2.1 < (2 : Int) ∧ x.2.2.1 < (2 : Int) ∧ x.2.2.2.2.1 ≤ (2 : Int)) ∧ (∀ (i : Nat) x y, ps[i]? = some x → ps[i + 1]? = some y → x.1 < y.1)) (fun s => s.2.1.toNat) ?_ ⟨h14, by simp only; omega, Int.le_refl _, [], rfl, by simp, by simp, (fun x hx => by cases hx), (fun i x hx => by simp at hx), (fun i x y hx => by simp at hx)⟩) ?_
    · rintro ⟨id, i, cc, t⟩ ⟨k1, k2, k5, ps, e, k3, k4, k6, k7, k8⟩
      simp only at k1 k2 k5 e k3 k4 k6
      subst e
      unfold spec_l5Draw_l2
      simp only
      refine Tot.bif (fun hl => ?_) (fun hl => ?_)
      · have hl : i > 0 := of_decide_eq_true hl
        refine Tot.bind (l1Below_ok _ _ k1) ?_
        rintro ⟨b, c18, u18⟩ ⟨h18, a18, b18⟩
        have b18 := b18 (by decide)
        simp only at h18 a18 b18 ⊢
        rw [wrap_id (n := id + 1) (by omega) (by omega), wrap_id (n := id + 1 + b) (by omega) (by omega), wrap_id (n := i - 1) (by omega) (by omega)]
        refine Tot.bind (l4Draw_st _ _ h18 (by omega)) ?_
        rintro ⟨p, c19, u19⟩ ⟨h19, e19, f1, f2, f3, f4⟩
        simp only at h19 e19 f1 f2 f3 f4 ⊢
        rw [if_pos (by simp only [room, List.length_cons, List.length_nil]; omega)]
        refine Tot.pure ⟨⟨h19, by simp only; omega, by simp only; omega, _, rfl, ?_, ?_, ?_, ?_, ?_⟩, by simp only; omega⟩
        · simp only [List.length_append, List.length_cons, List.length_nil]; omega
        · simp only [List.length_append, List.length_cons, List.length_nil]; omega
        · intro x hx
          rcases List.mem_append.1 hx with hx | hx
          · exact Int.le_trans (k6 x hx) (show id ≤ id + 1 + b by omega)
          · rw [List.mem_singleton.1 hx, e19]; exact Int.le_refl _
        · intro j x hx
          by_cases hj : j < ps.length
          · rw [List.getElem?_append_left hj] at hx; exact k7 j x hx
          · rw [List.getElem?_append_right (by omega)] at hx
            have hm := List.mem_of_getElem? hx
            rw [List.mem_singleton.1 hm]; exact ⟨f1, f2, f3, f4⟩
        · intro j x y hx hy
          have hjl := (List.getElem?_eq_some_iff.1 hy).1
          simp only [List.length_append, List.length_cons, List.length_nil] at hjl
          rw [List.getElem?_append_left (by omega)] at hx
          by_cases hj : j + 1 < ps.length
          · rw [List.getElem?_append_left hj] at hy; exact k8 j x y hx hy
          · rw [List.getElem?_append_right (by omega)] at hy
            have hm := List.mem_of_getElem? hy
            rw [List.mem_singleton.1 hm, e19]
            exact Int.lt_of_le_of_lt (k6 x (List.mem_of_getElem? hx)) (show id < id + 1 + b by omega)
      · have hl : ¬ i > 0 := of_decide_eq_false hl
        exact Tot.pure ⟨k1, ps, rfl, by omega, by omega, k7, k8⟩
    · rintro ⟨id, i, cc, t⟩ ⟨k1, ps, e, p1, p4, p2, p3⟩
      simp only at k1 e
      subst e
      exact Tot.pure ⟨k1, stk ps p1 p2 p3, p4⟩

/-! ### FnLastKnown -/
theorem collect_map {α β : Type} (f : α → β) : ∀ (xs : List α) (i : Nat), collect (fun _ x => [f x]) i xs = xs.map f
  | [], _ => rfl
  | x :: xs, i => by simp only [collect, List.map_cons, collect_map f xs (i + 1)]; rfl
theorem perf_zone {s t : T_State.D} {v : T_Event.D} {y : T_State.D × (T_Note.D × Unit)} (h : PerfR s t v y) (k : Nat) (hk : v.1 = 2 → pieceAt t v.2.2.1 ≠ k) (x : T_Piece.D) (hx : t.1[k]? = some x) :
    ∃ x', y.1.1[k]? = some x' ∧ x'.2.2.2.1 = x.2.2.2.1 := by
  have set_case : ∀ (i : Nat) (a b : T_Piece.D), t.1[i]? = some a → b.2.2.2.1 = a.2.2.2.1 → ∃ x', (t.1.set i b)[k]? = some x' ∧ x'.2.2.2.1 = x.2.2.2.1 := by
    intro i a b ha hb
    by_cases hik : i = k
    · subst hik
      have := hx.symm.trans ha
      cases this
      exact ⟨b, get_set (List.getElem?_eq_some_iff.1 ha).1, hb⟩
    · exact ⟨x, by rw [List.getElem?_set_ne hik]; exact hx, rfl⟩
  rcases h with ⟨_, b2, b4, r, hr, rfl⟩ | ⟨hv, r, hr, hy⟩ | ⟨_, _, r, hr, rfl⟩
  · rcases hr with ⟨_, h, _⟩ | ⟨_, h0, _, _, ⟨_, h1, _⟩ | ⟨_, i, a, _, ha, _, h1, h2⟩⟩
    · simp only [h]; exact ⟨x, hx, rfl⟩
    · simp only [h1]; exact ⟨x, hx, rfl⟩
    · simp only [h1]; exact set_case i a _ ha rfl
  · rcases hy with ⟨_, rfl⟩ | ⟨hb, k', x', _, _, rfl⟩
    · exact ⟨x, hx, rfl⟩
    · rcases hr with ⟨q1, _⟩ | ⟨_, _, _, _, k2, a, q5, q6, _, _, q9⟩
      · rw [q1] at hb; cases hb
      · simp only [q9]
        have : k2 ≠ k := fun e => hk hv (by rw [q5, e])
        exact ⟨x, by rw [List.getElem?_set_ne this]; exact hx, rfl⟩
  · rcases hr with ⟨_, h⟩ | ⟨_, _, _, ⟨j, a, ⟨_, _, _⟩, ⟨_, h⟩ | ⟨_, h⟩⟩ | ⟨i, a, ⟨_, ha, _⟩, ⟨_, h⟩ | ⟨_, h⟩⟩⟩
    · simp only [h]; exact ⟨x, hx, rfl⟩
    · simp only [h]; exact ⟨x, hx, rfl⟩
    · simp only [h]; exact ⟨x, hx, rfl⟩
    · simp only [h]; exact set_case i a _ ha rfl
    · simp only [h]; exact set_case i a _ ha rfl
theorem CI.perf {s : T_State.D} {q : List T_Note.D × T_State.D} (h : CI s q) (v : T_Event.D) (hs : s.1.length ≤ 1048576) (hs2 : s.2.1.length ≤ 1048576) :
    (v.1 = 2 → ∃ r, spec_Carry q.2 v = some r ∧ ((r.2.1 = false ∧ perfV s q.2 v = (q.2, (4, v, 0, 0, zeroP, ()), ())) ∨ (r.2.1 = true ∧ ∃ (k : Nat) (x : T_Piece.D), pieceAt s v.2.2.1 = k ∧ s.1[k]? = some x ∧ perfV s q.2 v = (r.1, (3, v, 0, 0, x, ()), ())))) ∧ PerfR s q.2 v (perfV s q.2 v) :=
  (perfV_ok s q.2 v hs (by rw [h.2.1.1]; exact hs) (by rw [h.2.1.2]; exact hs2) h.1).2.2
theorem fold_zone (s : T_State.D) (hs : s.1.length ≤ 1048576) (hs2 : s.2.1.length ≤ 1048576) (k : Nat) : ∀ (vs : List T_Event.D) (q : List T_Note.D × T_State.D), CI s q → (∀ v ∈ vs, v.1 = 2 → pieceAt s v.2.2.1 ≠ k) → ∀ x, q.2.1[k]? = some x →
    CI s (vs.foldl (stepC s) q) ∧ ∃ x', (vs.foldl (stepC s) q).2.1[k]? = some x' ∧ x'.2.2.2.1 = x.2.2.2.1
  | [], q, h, _, x, hx => ⟨h, x, hx, rfl⟩
  | v :: vs, q, h, hv, x, hx => by
    obtain ⟨x1, h1, h2⟩ := perf_zone (h.perf v hs hs2).2 k (fun e => by rw [pieceAt_ids q.2 s v.2.2.1 h.1]; exact hv v (List.mem_cons_self ..) e) x hx
    obtain ⟨h0, x2, h3, h4⟩ := fold_zone s hs hs2 k vs (stepC s q v) (h.step v hs hs2) (fun w hw => hv w (List.mem_cons_of_mem _ hw)) x1 h1
    exact ⟨h0, x2, h3, h4.trans h2⟩
theorem fold_st (s : T_State.D) (hs : s.1.length ≤ 1048576) (hs2 : s.2.1.length ≤ 1048576) : ∀ (vs : List T_Event.D) (q : List T_Note.D × T_State.D), CI s q → StOk q.2 → StOk (vs.foldl (stepC s) q).2
  | [], _, _, h => h
  | v :: vs, q, h, ho => fold_st s hs hs2 vs (stepC s q v) (h.step v hs hs2) (perf_keeps (h.perf v hs hs2).2 ho)
theorem fold_grow (s : T_State.D) : ∀ (vs : List T_Event.D) (q : List T_Note.D × T_State.D) (n : T_Note.D), n ∈ q.1 → n ∈ (vs.foldl (stepC s) q).1
  | [], _, _, h => h
  | v :: vs, q, n, h => fold_grow s vs (stepC s q v) n (List.mem_append_left _ h)
def NF (s : T_State.D) (n : T_Note.D) : Prop := n.1 ≠ 6 ∧ (n.1 = 3 → ∃ k : Nat, pieceAt s n.2.2.2.2.1.1 = k ∧ s.1[k]? = some n.2.2.2.2.1)
theorem at_id {s : T_State.D} {a : Int} {k : Nat} {x : T_Piece.D} (h : pieceAt s a = k) (hx : s.1[k]? = some x) : x.1 = a := by
  rcases pieceAt_cases s a with g | ⟨k', x', g1, g2, g3⟩
  · rw [g] at h; omega
  · have : k' = k := by rw [g1] at h; omega
    subst this
    have := hx.symm.trans g2
    cases this
    exact g3
theorem perf_nf {s t : T_State.D} {v : T_Event.D} {y : T_State.D × (T_Note.D × Unit)} (h : PerfR s t v y) : NF s y.2.1 := by
  rcases h with ⟨_, b2, b4, r, hr, rfl⟩ | ⟨hv, r, hr, hy⟩ | ⟨_, _, r, hr, rfl⟩
  · simp only
    split
    · exact ⟨(show (1 : Int) ≠ 6 by decide), fun h => absurd (show (1 : Int) = 3 from h) (by decide)⟩
    · exact ⟨(show (4 : Int) ≠ 6 by decide), fun h => absurd (show (4 : Int) = 3 from h) (by decide)⟩
  · rcases hy with ⟨_, rfl⟩ | ⟨hb, k, x, h1, h2, rfl⟩
    · exact ⟨(show (4 : Int) ≠ 6 by decide), fun h => absurd (show (4 : Int) = 3 from h) (by decide)⟩
    · exact ⟨(show (3 : Int) ≠ 6 by decide), fun _ => ⟨k, by simp only [at_id h1 h2]; exact h1, h2⟩⟩
  · simp only
    split
    · exact ⟨(show (2 : Int) ≠ 6 by decide), fun h => absurd (show (2 : Int) = 3 from h) (by decide)⟩
    · exact ⟨(show (4 : Int) ≠ 6 by decide), fun h => absurd (show (4 : Int) = 3 from h) (by decide)⟩
theorem fold_nf (s : T_State.D) (hs : s.1.length ≤ 1048576) (hs2 : s.2.1.length ≤ 1048576) : ∀ (vs : List T_Event.D) (q : List T_Note.D × T_State.D), CI s q → (∀ n ∈ q.1, NF s n) → ∀ n ∈ (vs.foldl (stepC s) q).1, NF s n
  | [], _, _, h => h
  | v :: vs, q, h, hn => fold_nf s hs hs2 vs (stepC s q v) (h.step v hs hs2) (fun n hm => by
    unfold stepC at hm
    rcases List.mem_append.1 hm with hm | hm
    · exact hn n hm
    · rw [List.mem_singleton.1 hm]; exact perf_nf (h.perf v hs hs2).2)
theorem carry_yes (t : T_State.D) (v : T_Event.D) (hp : t.1.length ≤ 1048576) (hs : t.2.1.length ≤ 1048576) (h1 : stateOkB t = true) (h2 : eventOkB v = true) (h3 : v.1 = 2) (k : Nat) (x : T_Piece.D) (g1 : pieceAt t v.2.2.1 = k) (g2 : t.1[k]? = some x) (h4 : ¬ x.2.2.2.1 = v.2.2.2.2.2.1) :
    ∃ r, spec_Carry t v = some r ∧ r.2.1 = true := by
  unfold spec_Carry
  have h3' : (v.1 != 2) = false := by rw [h3]; rfl
  have h4' : (x.2.2.2.1 == v.2.2.2.2.2.1) = false := by rw [beq_eq_false_iff_ne]; exact h4
  have e1 : ∀ a b, spec_Moved x a b = some (x.1, x.2.1, x.2.1, a, b, x.2.2.2.2.2.1, x.2.2.2.2.2.2.1, x.2.2.2.2.2.2.2.1, 0, 0, 0, false, false, ()) := fun a b => rfl
  simp only [spec_copy_eq t hp hs, spec_PieceAt_eq t _ hp, spec_StateOk_eq t hp hs, spec_EventOk_eq, Option.bind_some, h1, h2, h3', g1, dec_neg (show (0 : Int) ≤ k by omega), cond_false, Bool.not_true, idx_at g2, Int.toNat_natCast, g2, h4', e1]
  cases (v.2.2.2.2.2.1 == 2) <;> exact ⟨_, rfl, rfl⟩
theorem leaves_some (s : T_State.D) (e : T_Event.D) (hs : s.1.length ≤ 1048576) : ∃ m, impl_Leaves s e = some m := by
  unfold impl_Leaves impl_fieldAt
  simp only [impl_PieceAt_eq s _ hs, Option.bind_some]
  rcases pieceAt_cases s e.2.2.1 with h | ⟨k, x, h1, h2, _⟩
  · rw [h]
    cases (e.1 == 2) <;> cases (e.2.2.2.2.2.1 != 2) <;> exact ⟨_, rfl⟩
  · rw [h1, dec_neg (by omega)]
    simp only [cond_false, idx_at h2, Option.bind_some]
    unfold bne
    cases (e.1 == 2) <;> cases (e.2.2.2.2.2.1 == 2) <;> cases (x.2.2.2.1 == 2) <;> exact ⟨_, rfl⟩
theorem leaves_true (s : T_State.D) (e : T_Event.D) (hs : s.1.length ≤ 1048576) (h : impl_Leaves s e = some true) : e.1 = 2 ∧ ¬ e.2.2.2.2.2.1 = 2 ∧ ∃ (k : Nat) (x : T_Piece.D), pieceAt s e.2.2.1 = k ∧ s.1[k]? = some x ∧ x.2.2.2.1 = 2 := by
  unfold impl_Leaves impl_fieldAt at h
  simp only [impl_PieceAt_eq s _ hs, Option.bind_some] at h
  cases c1 : (e.1 == 2) with
  | false => rw [c1] at h; cases h
  | true =>
    cases c2 : (e.2.2.2.2.2.1 != 2) with
    | false => rw [c1, c2] at h; cases h
    | true =>
      refine ⟨by simpa using c1, by simpa using c2, ?_⟩
      rw [c1, c2] at h
      rcases pieceAt_cases s e.2.2.1 with g | ⟨k, x, g1, g2, g3⟩
      · rw [g] at h
        exact absurd (show some false = some true from h) (by decide)
      · refine ⟨k, x, g1, g2, ?_⟩
        rw [g1, dec_neg (by omega)] at h
        simp only [cond_false, cond_true, idx_at g2, Option.bind_some] at h
        cases c3 : (x.2.2.2.1 == 2) with
        | true => simpa using c3
        | false =>
          have c3' : (x.2.2.2.1 != 2) = true := by unfold bne; rw [c3]; rfl
          first
            | (rw [c3'] at h; exact absurd h (by decide))
            | (rw [c3] at h; exact absurd h (by decide))
            | (simp [c3, c3'] at h)
theorem split_at {α : Type} {l : List α} {i : Nat} {e : α} (h : l[i]? = some e) : l = l.take i ++ e :: l.drop (i + 1) := by
  have hlt := (List.getElem?_eq_some_iff.1 h).1
  have := (List.getElem?_eq_some_iff.1 h).2
  rw [← this]
  simp
theorem known_has (s : T_State.D) (es : List T_Event.D) (hs : s.1.length ≤ 1048576) (hs2 : s.2.1.length ≤ 1048576) (hok : stateOkB s = true) (i : Nat) (e : T_Event.D) (he : es[i]? = some e)
    (hlv : impl_Leaves s e = some true) (hev : eventOkB e = true) (hno : (es.take i).any (fun v => (v.1 == 2) && (v.2.2.1 == e.2.2.1)) = false) :
    e.2.2.1 ∈ (collect knownG 0 (commitV s es).1).map (fun (x : T_Piece.D) => x.1) := by
  obtain ⟨k2, kz, k, x, h1, h2, h3⟩ := leaves_true s e hs hlv
  have hm : movesL es = movesL (es.take i) ++ e :: movesL (es.drop (i + 1)) := by
    have hs := split_at he
    unfold movesL
    rw [hs, List.filter_append, List.filter_cons_of_pos (by rw [k2]; rfl)]
    congr 1
    · congr 1; rw [← hs]
    · congr 2; rw [← hs]
  have hall : ∀ v ∈ othersL es ++ movesL (es.take i), v.1 = 2 → pieceAt s v.2.2.1 ≠ k := by
    intro v hv hv2 hk
    rcases List.mem_append.1 hv with hv | hv
    · have := (List.mem_filter.1 hv).2
      rw [hv2] at this
      exact absurd this (by decide)
    · have hvt := (List.mem_filter.1 hv).1
      have hp : v.2.2.1 = e.2.2.1 := by rw [← at_id hk h2, ← at_id h1 h2]
      have := List.any_eq_false.1 hno v hvt
      apply this
      rw [hv2, hp]
      simp
  have c0 : CI s ([], s) := ⟨rfl, ⟨rfl, rfl⟩, rfl⟩
  obtain ⟨cq, x', z1, z2⟩ := fold_zone s hs hs2 k (othersL es ++ movesL (es.take i)) ([], s) c0 hall x h2
  have hst := fold_st s hs hs2 (othersL es ++ movesL (es.take i)) ([], s) c0 ((stateOk_iff s).1 hok)
  have hc : commitV s es = (movesL (es.drop (i + 1))).foldl (stepC s) (stepC s ((othersL es ++ movesL (es.take i)).foldl (stepC s) ([], s)) e) := by
    unfold commitV
    rw [hm, ← List.append_assoc, List.foldl_append, List.foldl_cons]
  generalize hq : (othersL es ++ movesL (es.take i)).foldl (stepC s) ([], s) = q at cq z1 hst hc
  obtain ⟨p3, _⟩ := cq.perf e hs hs2
  obtain ⟨r, r1, r2⟩ := p3 k2
  obtain ⟨r', r1', r2'⟩ := carry_yes q.2 e (by rw [cq.2.1.1]; exact hs) (by rw [cq.2.1.2]; exact hs2) ((stateOk_iff _).2 hst) hev k2 k x' (by rw [pieceAt_ids q.2 s _ cq.1]; exact h1) z1 (by rw [z2, h3]; exact fun h => kz h.symm)
  have : r = r' := by rw [r1] at r1'; exact Option.some.inj r1'
  subst this
  rcases r2 with ⟨b1, _⟩ | ⟨_, k', w, w1, w2, w3⟩
  · rw [b1] at r2'; cases r2'
  · have hk : k' = k := by rw [h1] at w1; omega
    subst hk
    have := h2.symm.trans w2
    cases this
    have hn : ((3, e, 0, 0, x, ()) : T_Note.D) ∈ (commitV s es).1 := by
      rw [hc]
      refine fold_grow s _ _ _ ?_
      unfold stepC
      rw [w3]
      exact List.mem_append_right _ (List.mem_singleton.2 rfl)
    refine List.mem_map.2 ⟨x, ?_, at_id h1 h2⟩
    obtain ⟨j, hj⟩ := List.getElem?_of_mem hn
    refine mem_collect (i := j) (k := 0) (x := (3, e, 0, 0, x, ())) hj ?_
    have hz : (e.2.2.2.2.2.1 != 2) = true := by simpa using kz
    unfold knownG leftB
    simp only [h3, hz]
    simp
theorem of_collect {α β : Type} {g : Nat → α → List β} {y : β} : ∀ {xs : List α} {k : Nat}, y ∈ collect g k xs → ∃ (i : Nat) (x : α), xs[i]? = some x ∧ y ∈ g (k + i) x
  | [], _, h => by cases h
  | z :: xs, k, h => by
    rcases List.mem_append.1 h with h | h
    · exact ⟨0, z, rfl, h⟩
    · obtain ⟨i, x, h1, h2⟩ := of_collect h
      exact ⟨i + 1, x, by simpa using h1, by rw [show k + (i + 1) = k + 1 + i by omega]; exact h2⟩
theorem known_piece (s : T_State.D) (es : List T_Event.D) (hs : s.1.length ≤ 1048576) (hs2 : s.2.1.length ≤ 1048576) (x : T_Piece.D) (hx : x ∈ collect knownG 0 (commitV s es).1) : ∃ k : Nat, pieceAt s x.1 = k ∧ s.1[k]? = some x ∧ x.2.2.2.1 = 2 := by
  obtain ⟨i, n, h1, h2⟩ := of_collect hx
  obtain ⟨n1, n2⟩ := fold_nf s hs hs2 (othersL es ++ movesL es) ([], s) ⟨rfl, ⟨rfl, rfl⟩, rfl⟩ (fun n hn => nomatch hn) n (List.mem_of_getElem? h1)
  unfold knownG at h2
  cases hl : leftB n with
  | false => rw [hl] at h2; cases h2
  | true =>
    rw [hl] at h2
    have hxn : x = n.2.2.2.2.1 := List.mem_singleton.1 h2
    unfold leftB at hl
    have h6 : (n.1 == 6) = false := by rw [beq_eq_false_iff_ne]; exact n1
    rw [h6, Bool.false_or, Bool.and_eq_true, Bool.and_eq_true] at hl
    obtain ⟨k, k1, k2⟩ := n2 (by simpa using hl.1)
    rw [hxn]
    exact ⟨k, k1, k2, by simpa using hl.2.1⟩
theorem known_loop (p : T_State.D × ((List T_Event.D) × Unit)) (ys : List T_Piece.D) (hs : p.1.1.length ≤ 1048576) (hl : ys.length ≤ 1048576) (h : ∀ x ∈ ys, ∃ k : Nat, pieceAt p.1 x.1 = k ∧ p.1.1[k]? = some x ∧ x.2.2.2.1 = 2) :
    while_ (laws_FnLastKnown_l1 p ys) ([], 0) = some (.inl (ys.map (fun (x : T_Piece.D) => x.1), (ys.length : Int))) := by
  rw [append_loop ys (fun _ x => [x.1]) (fun s => (Sum.inl s : ((List Int) × Int) ⊕ Bool)) (fun _ _ => by simp) (by omega) (fun t i x hI hx => ?_) (fun t => ?_)]
  · rw [collect_map]
  · have hlt := (List.getElem?_eq_some_iff.1 hx).1
    have hil : ((i : Int) < (ys.length : Int)) := by omega
    obtain ⟨k, h1, h2, h3⟩ := h x (List.mem_of_getElem? hx)
    unfold laws_FnLastKnown_l1
    simp only [hil, decide_true, cond_true, idx_at hx, Int.toNat_natCast, hx, Option.bind_some, impl_PieceAt_eq _ _ hs, h1, dec_neg (show (0 : Int) ≤ k by omega), cond_false, idx_at h2, beq_self_eq_true, Bool.and_self, Bool.not_true, h3, bne_self_eq_false]
    rw [if_pos (by simp only [room, List.length_cons, List.length_nil]; omega)]
  · unfold laws_FnLastKnown_l1; simp
theorem foldIx_any {α : Type} (p : α → Bool) : ∀ (xs : List α) (i : Nat) (b : Bool), foldIx (fun b _ v => b || p v) i xs b = (b || xs.any p)
  | [], _, b => by simp [foldIx]
  | x :: xs, i, b => by simp only [foldIx, foldIx_any p xs (i + 1), List.any_cons, Bool.or_assoc]
theorem earlier_loop (p : T_State.D × ((List T_Event.D) × Unit)) (i : Nat) (e : T_Event.D) (he : p.2.1[i]? = some e) (hl : p.2.1.length ≤ 1048576) :
    while_ (laws_FnLastKnown_l2 p i) (false, 0) = some ((p.2.1.take i).any (fun v => (v.1 == 2) && (v.2.2.1 == e.2.2.1)), (i : Int)) := by
  have hlt := (List.getElem?_eq_some_iff.1 he).1
  have hli : (p.2.1.take i).length = i := by rw [List.length_take]; omega
  rw [(fold_loop (p.2.1.take i) (body := laws_FnLastKnown_l2 p i) (fun b _ v => b || ((v.1 == 2) && (v.2.2.1 == e.2.2.1))) (fun _ _ => True) (fun s => s) false trivial (by omega) (fun b j x _ hx => ⟨?_, trivial⟩) (fun b _ => ?_)).1]
  · rw [foldIx_any, hli]; first | done | simp
  · have hj := (List.getElem?_eq_some_iff.1 hx).1
    have hji : ((j : Int) < (i : Int)) := by omega
    have hx' : p.2.1[j]? = some x := by rw [List.getElem?_take_of_lt (by omega)] at hx; exact hx
    unfold laws_FnLastKnown_l2
    simp only [hji, decide_true, cond_true, idx_at hx', idx_at he]
    cases b
    · cases (x.1 == 2) <;> rfl
    · rfl
  · rw [hli]
    unfold laws_FnLastKnown_l2
    simp only [Int.lt_irrefl, decide_false, cond_false]
theorem drawCommitted_ok (code : List Int) (hl : code.length ≤ 1048576) : Tot (spec_DrawCommitted code) (fun y => stateOkB y.1 = true ∧ y.2.1.length ≤ 6) := by
  unfold spec_DrawCommitted
  refine Tot.bind (l1New_ok code hl) ?_
  rintro c hc
  refine Tot.bind (l5Draw_st c hc) ?_
  rintro y2 ⟨h2, g1, _⟩
  refine Tot.bind (l1Below_ok _ _ h2) ?_
  rintro ⟨m, c3, u3⟩ ⟨h3, a3, b3⟩
  have b3 := b3 (by decide)
  simp only at h3 a3 b3 ⊢
  rw [wrap_id (n := 1 + m) (by omega) (by omega)]
  refine Tot.bind (P := fun o => o.1.length ≤ 6) (Tot.while (fun s => curOk s.2.2 ∧ 0 ≤ s.2.1 ∧ (s.1.length : Int) + s.2.1 = 1 + m) (fun s => s.2.1.toNat) ?_ ⟨h3, by simp only; omega, by simp⟩) ?_
  · rintro ⟨es, i, cc⟩ ⟨k1, k2, k3⟩
    simp only at k1 k2 k3
    unfold spec_DrawCommitted_l1
    simp only
    refine Tot.bif (fun hl => ?_) (fun hl => ?_)
    · have hl : i > 0 := of_decide_eq_true hl
      refine Tot.bind (l6Draw_ok _ _ k1) ?_
      rintro y6 ⟨h6, _⟩
      rw [if_pos (by simp only [room, List.length_cons, List.length_nil]; omega)]
      refine Tot.pure ⟨⟨h6, ?_, ?_⟩, ?_⟩ <;> simp only [List.length_append, List.length_cons, List.length_nil] <;> rw [wrap_id (n := i - 1) (by omega) (by omega)] <;> omega
    · exact Tot.pure (by simp only; omega)
  · rintro o ho
    exact Tot.pure ⟨g1, ho⟩
theorem drawLastKnown_ok (code : List Int) (hl : code.length ≤ 1048576) : Tot (spec_DrawLastKnown code) (fun y => y.length ≤ 7) := by
  unfold spec_DrawLastKnown
  refine Tot.bind (l1New_ok code hl) ?_
  rintro c hc
  refine Tot.bind (l18Notes_ok c hc) ?_
  rintro y2 ⟨h2, g2⟩
  exact Tot.pure g2
theorem pieces_self {L : List T_Piece.D} (hl : L.length ≤ 1048576) : laws_samePieces L L = some true := by
  rw [show laws_samePieces L L = some (eqD (.slice T_Piece) L L) from eq_lists (t := T_Piece) rfl L L (e := eqD T_Piece) (fun _ _ => rfl) (by omega) (fun i => rfl), eqD_refl (t := .slice T_Piece) rfl]
theorem law_FnLastKnown (code : List Int) (w : code.length ≤ maxLen) : laws_FnLastKnown code = some true := by
  unfold laws_FnLastKnown laws_big
  by_cases hb : (code.length : Int) > 1048576
  · rw [decide_eq_true hb]; rfl
  · have hl : code.length ≤ 1048576 := by omega
    obtain ⟨⟨s, es, u⟩, hp, hok, hes⟩ := drawCommitted_ok code hl
    obtain ⟨ns, hq, hns⟩ := drawLastKnown_ok code hl
    simp only at hok hes
    obtain ⟨l1, l2⟩ := (stateOk_iff s).1 hok
    have hs1 : s.1.length ≤ 1048576 := by omega
    have hs2 : s.2.1.length ≤ 1048576 := by omega
    have he : es.length ≤ 1048576 := by omega
    obtain ⟨c1, c2, c3⟩ := impl_Commit_eq s es hs1 hs2 he
    have hy := collect_len knownG knownG_len (commitV s es).1 0
    have hn := collect_len knownG knownG_len ns 0
    rw [decide_eq_false hb]
    simp only [hp, hq, c1, hok, if_true, Option.bind_some, cond_false, impl_LastKnown_eq (commitV s es).1 (by omega), impl_LastKnown_eq ns (by omega), spec_LastKnown_eq ns (by omega), pieces_self (show (collect knownG 0 ns).length ≤ 1048576 by omega), Bool.not_true, c2, bne_self_eq_false]
    rw [known_loop (s, es, u) _ hs1 (by omega) (fun x hx => known_piece s es hs1 hs2 x hx)]
    simp only [Option.bind_some]
    rw [any_loop es (body := laws_FnLastKnown_l3 (s, es, u) _) (fun _ _ => false) false (by omega) (fun i e hx => ?_) ?_]
    · have : ∀ (xs : List T_Event.D) (i : Nat), anyI (fun _ _ => false) i xs = false := by
        intro xs
        induction xs with
        | nil => intro i; rfl
        | cons x xs ih => intro i; exact ih (i + 1)
      rw [this]; rfl
    · unfold laws_FnLastKnown_l3
      simp only [Int.lt_irrefl, decide_false, cond_false]
    · have hlt := (List.getElem?_eq_some_iff.1 hx).1
      have hil : ((i : Int) < (es.length : Int)) := by omega
      obtain ⟨m, hm⟩ := leaves_some s e hs1
      unfold laws_FnLastKnown_l3
      simp only [hil, decide_true, cond_true, idx_at hx, hm, impl_EventOk_eq, Option.bind_some]
      cases m with
      | false => rfl
      | true =>
        cases hev : eventOkB e with
        | false => rfl
        | true =>
          simp only [cond_true, impl_Has_eq _ _ (show ((collect knownG 0 (commitV s es).1).map (fun (x : T_Piece.D) => x.1)).length ≤ 1048576 by rw [List.length_map]; omega), Option.bind_some, earlier_loop (s, es, u) i e hx he]
          cases hno : (es.take i).any (fun v => (v.1 == 2) && (v.2.2.1 == e.2.2.1)) with
          | true =>
            cases (((collect knownG 0 (commitV s es).1).map (fun (x : T_Piece.D) => x.1)).any fun x => e.2.2.1 == x) <;> rfl
          | false =>
            have hmem := known_has s es hs1 hs2 hok i e hx hm hev hno
            have : (((collect knownG 0 (commitV s es).1).map (fun (x : T_Piece.D) => x.1)).any fun x => e.2.2.1 == x) = true := List.any_eq_true.2 ⟨_, hmem, by simp⟩
            rw [this]
            rfl

end Go.Abs
