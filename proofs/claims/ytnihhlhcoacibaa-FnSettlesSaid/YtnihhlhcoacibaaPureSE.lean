import Derived.Test.YtnihhlhcoacibaaGenSE
import Derived.Test.YtnihhlhcoacibaaAbsDraw
set_option linter.unusedVariables false
set_option linter.unusedSimpArgs false
namespace Go.Abs
/-! ### Numbers -/
theorem l1In_eq (a b c : Int) : spec_l1In a b c = some (decide (b ≤ a) && decide (a ≤ c)) := by
  unfold spec_l1In
  have : decide (a ≥ b) = decide (b ≤ a) := rfl
  simp only [this]
  cases decide (b ≤ a) <;> rfl
theorem from_eq (a b c : Int) : impl_from a b c = some (decide (b ≤ a) && decide (a ≤ c)) := by
  unfold impl_from
  have : decide (a ≥ b) = decide (b ≤ a) := rfl
  simp only [this]
  cases decide (b ≤ a) <;> rfl
def boundV (n : Int) : Int := if n > 2147483647 then 2147483647 else if n < -2147483647 then -2147483647 else n
theorem spec_Bound_eq (n : Int) : spec_Bound n = some (boundV n) := by
  unfold spec_Bound boundV
  simp only [cond_eq_ite, decide_eq_true_eq]
  split <;> (try split) <;> rfl
theorem impl_Bound_eq (n : Int) : impl_Bound n = some (boundV n) := by
  unfold impl_Bound boundV
  congr 1
  split <;> split <;> (try split) <;> (try split) <;> omega
def plusV (a b : Int) : Int := boundV (IntKind.wrap .i64 (boundV a + boundV b))
def lessV (a b : Int) : Int := boundV (IntKind.wrap .i64 (boundV a - boundV b))
theorem some_ite {c : Prop} [Decidable c] (a b : Bool) : (if c then some a else some b) = some (if c then a else b) := by split <;> rfl


/-! ### Pieces and states that are right -/
def pieceOkB (p : T_Piece.D) : Bool :=
  decide (1 ≤ p.1) && decide (p.1 ≤ 99) && decide (0 ≤ p.2.1) && decide (p.2.1 ≤ 2) && decide (0 ≤ p.2.2.1) && decide (p.2.2.1 ≤ 2) && decide (1 ≤ p.2.2.2.1) && decide (p.2.2.2.1 ≤ 4) && decide (0 ≤ p.2.2.2.2.1) && decide (p.2.2.2.2.1 ≤ 9999) &&
  decide (0 ≤ p.2.2.2.2.2.1) && decide (p.2.2.2.2.2.1 ≤ 999) && decide (0 ≤ p.2.2.2.2.2.2.1) && decide (p.2.2.2.2.2.2.1 ≤ 999) && decide (0 ≤ p.2.2.2.2.2.2.2.1) && decide (p.2.2.2.2.2.2.2.1 ≤ 63) && (
    if p.2.2.2.1 = 2 then decide (0 ≤ p.2.2.2.2.2.2.2.2.1) && decide (p.2.2.2.2.2.2.2.2.1 ≤ 2147483647) && decide (0 ≤ p.2.2.2.2.2.2.2.2.2.1) && decide (p.2.2.2.2.2.2.2.2.2.1 ≤ 2147483647) && decide (0 ≤ p.2.2.2.2.2.2.2.2.2.2.1) && decide (p.2.2.2.2.2.2.2.2.2.2.1 ≤ 2147483647)
    else (p.2.2.1 == p.2.1) && (p.2.2.2.2.2.2.2.2.1 == 0) && (p.2.2.2.2.2.2.2.2.2.1 == 0) && (p.2.2.2.2.2.2.2.2.2.2.1 == 0) && !p.2.2.2.2.2.2.2.2.2.2.2.1 && !p.2.2.2.2.2.2.2.2.2.2.2.2.1)
theorem spec_PieceOk_eq (p : T_Piece.D) : spec_PieceOk p = some (pieceOkB p) := by
  obtain ⟨i, o, sd, z, t, pw, tg, tr, pl, mi, mk, dl, bt, u⟩ := p
  unfold spec_PieceOk pieceOkB
  simp only [l1In_eq, Option.bind_some, cond_eq_ite, some_ite]
  congr 1
  rw [Bool.eq_iff_iff]
  by_cases h1 : z = 2
  · subst h1; simp; grind
  · simp [h1]; grind
theorem impl_PieceOk_eq (p : T_Piece.D) : impl_PieceOk p = some (pieceOkB p) := by
  obtain ⟨i, o, sd, z, t, pw, tg, tr, pl, mi, mk, dl, bt, u⟩ := p
  unfold impl_PieceOk pieceOkB impl_isId impl_isPlayer impl_isZone impl_isTime impl_isTraits impl_isAmount
  simp only [from_eq, Option.bind_some, cond_eq_ite, some_ite, bne]
  congr 1
  rw [Bool.eq_iff_iff]
  by_cases h1 : z = 2
  · subst h1; simp; grind
  · simp [h1]; grind
def sideOkB (x : T_Side.D) : Bool := decide (-2147483647 ≤ x.1) && decide (x.1 ≤ 2147483647) && (decide (0 ≤ x.2.1) && decide (x.2.1 ≤ 2147483647))
theorem spec_l5Side_eq (x : T_Side.D) : spec_l5Side x = some (sideOkB x) := by
  unfold spec_l5Side sideOkB
  simp only [l1In_eq, Option.bind_some]
  cases (decide (-2147483647 ≤ x.1) && decide (x.1 ≤ 2147483647)) <;> rfl
theorem impl_StateOk_1_eq (x : T_Side.D) : impl_StateOk_1 x = some (!sideOkB x) := by
  unfold impl_StateOk_1 sideOkB impl_isAmount
  simp only [impl_Bound_eq, from_eq, Option.bind_some]
  have : (boundV x.1 != x.1) = !(decide (-2147483647 ≤ x.1) && decide (x.1 ≤ 2147483647)) := by
    rw [Bool.eq_iff_iff]; unfold boundV; simp; grind
  rw [this]
  cases (decide (-2147483647 ≤ x.1) && decide (x.1 ≤ 2147483647)) <;> rfl

def anyI {α : Type} (p : Nat → α → Bool) : Nat → List α → Bool
  | _, [] => false
  | i, x :: r => p i x || anyI p (i + 1) r
theorem anyI_false {α : Type} (p : Nat → α → Bool) : ∀ (xs : List α) (k : Nat), anyI p k xs = false → ∀ (i : Nat) x, xs[i]? = some x → p (k + i) x = false
  | [], _, _, i, x, hx => by simp at hx
  | y :: xs, k, h, 0, x, hx => by
    simp only [anyI, Bool.or_eq_false_iff] at h
    simp at hx
    subst hx
    exact h.1
  | y :: xs, k, h, i + 1, x, hx => by
    simp only [anyI, Bool.or_eq_false_iff] at h
    have := anyI_false p xs (k + 1) h.2 i x (by simpa using hx)
    rwa [show k + (i + 1) = k + 1 + i by omega]
theorem any_loop {α β : Type} (xs : List α) {body : Int → Option (Int ⊕ (Int ⊕ β))} (p : Nat → α → Bool) (v : β) (hlen : xs.length ≤ 9223372036854775806)
    (hb : ∀ (i : Nat) x, xs[i]? = some x → body i = bif p i x then some (.inr (.inr v)) else some (.inl (IntKind.wrap .i64 ((i : Int) + 1))))
    (he : body xs.length = some (.inr (.inl xs.length))) :
    while_ body 0 = some (bif anyI p 0 xs then .inr v else .inl xs.length) := by
  have main : ∀ (r : List α) (k : Nat), xs.drop k = r → k ≤ xs.length → while_ body k = some (bif anyI p k r then .inr v else .inl xs.length) := by
    intro r
    induction r with
    | nil =>
      intro k h hk
      have : k = xs.length := by
        have := congrArg List.length h
        simp at this
        omega
      subst this
      exact while_done he
    | cons x r ih =>
      intro k h hk
      have hlt : k < xs.length := by
        have := congrArg List.length h
        simp at this
        omega
      have hx : xs[k]? = some x := by
        have := congrArg (fun l => l[0]?) h
        simpa using this
      have hr : xs.drop (k + 1) = r := by
        have := congrArg List.tail h
        simpa using this
      unfold anyI
      cases hp : p k x with
      | true =>
        refine while_done ?_
        rw [hb k x hx, hp]
        rfl
      | false =>
        refine while_step (s' := ((k + 1 : Nat) : Int)) ?_ (ih (k + 1) hr hlt)
        rw [hb k x hx, hp]
        simp only [cond_false]
        rw [wrap_id (by omega) (by omega)]
        rfl
  have := main xs 0 rfl (by omega)
  simpa using this

def badPiece (s : T_State.D) (i : Nat) (x : T_Piece.D) : Bool :=
  !pieceOkB x || decide (x.2.1 ≥ (s.2.1.length : Int)) || decide (x.2.2.1 ≥ (s.2.1.length : Int)) || decide (x.2.2.2.2.1 > s.2.2.2.1) || (decide (0 < i) && (s.1[i - 1]?).any (fun y => decide (y.1 ≥ x.1)))
def stateOkB (s : T_State.D) : Bool :=
  decide ((s.1.length : Int) ≤ 8) && (decide (2 ≤ (s.2.1.length : Int)) && decide ((s.2.1.length : Int) ≤ 3)) && (decide (0 ≤ s.2.2.1) && decide (s.2.2.1 ≤ (s.2.1.length : Int) - 1)) && (decide (0 ≤ s.2.2.2.1) && decide (s.2.2.2.1 ≤ 9999)) && !anyI (badPiece s) 0 s.1 && !s.2.1.any (fun x => !sideOkB x)
theorem prev_piece {s : T_State.D} {i : Nat} {x : T_Piece.D} (hx : s.1[i]? = some x) (hl : s.1.length ≤ 1048576) {R : Type} (κ : T_Piece.D → Option R) (h : 0 < i) : ∃ y, s.1[i - 1]? = some y ∧ idx s.1 (IntKind.wrap .i64 ((i : Int) - 1)) κ = κ y := by
  have hlt := (List.getElem?_eq_some_iff.1 hx).1
  have hy : s.1[i - 1]? = some (s.1[i - 1]'(by omega)) := List.getElem?_eq_getElem (by omega)
  refine ⟨_, hy, ?_⟩
  rw [wrap_id (by omega) (by omega), show ((i : Int) - 1) = ((i - 1 : Nat) : Int) by omega]
  exact idx_at hy
theorem any_any {α : Type} (p : α → Bool) : ∀ (xs : List α) (k : Nat), anyI (fun _ x => p x) k xs = xs.any p
  | [], _ => rfl
  | x :: xs, k => by simp [anyI, any_any p xs]
theorem pieceOk_sides {x : T_Piece.D} (h : pieceOkB x = true) : 0 ≤ x.2.1 ∧ 0 ≤ x.2.2.1 := by
  unfold pieceOkB at h
  simp only [Bool.and_eq_true, decide_eq_true_eq] at h
  exact ⟨h.1.1.1.1.1.1.1.1.1.1.1.1.1.1.2, h.1.1.1.1.1.1.1.1.1.1.1.1.2⟩
theorem in_side {a n : Int} (h : 0 ≤ a) : (decide (0 ≤ a) && decide (a ≤ n - 1)) = !decide (a ≥ n) := by
  by_cases hh : a ≥ n
  · rw [decide_eq_true hh, decide_eq_false (p := a ≤ n - 1) (by omega), Bool.and_false]; rfl
  · rw [decide_eq_false hh, decide_eq_true (p := a ≤ n - 1) (by omega), decide_eq_true h]; rfl
theorem index_side (xs : List T_Side.D) (hl : xs.length ≤ 1048576) (p : T_Side.D → Bool) (q : (T_Side.D × Unit) → Option Bool) (hq : ∀ x, q (x, ()) = some (p x)) :
    slices_IndexFunc_impl_Side xs q = some (match findL p xs with | some k => (k : Int) | none => -1) := by
  unfold slices_IndexFunc_impl_Side
  rw [index_loop xs (body := slices_IndexFunc_impl_Side_l1 xs q) p (fun i => i) (by omega) (fun i x hx => ?_) ?_]
  · cases findL p xs <;> rfl
  · unfold slices_IndexFunc_impl_Side_l1
    simp
  · unfold slices_IndexFunc_impl_Side_l1
    have hlt := (List.getElem?_eq_some_iff.1 hx).1
    have : ((i : Int) < (xs.length : Int)) := by omega
    simp only [this, decide_true, cond_true, idx_at hx, hq, Option.bind_some]
theorem findL_any {α : Type} (p : α → Bool) (xs : List α) : decide ((match findL p xs with | some k => (k : Int) | none => -1) ≥ 0) = xs.any p := by
  obtain ⟨h1, h2⟩ := findL_spec p xs
  cases hf : findL p xs with
  | none =>
    have : xs.any p = false := by rw [List.any_eq_false]; exact fun x hx => by simp [h1 hf x hx]
    rw [this]; rfl
  | some k =>
    obtain ⟨x, g1, g2, _⟩ := h2 k hf
    have : xs.any p = true := by rw [List.any_eq_true]; exact ⟨x, List.mem_of_getElem? g1, g2⟩
    rw [this]
    simp
theorem spec_StateOk_eq (s : T_State.D) (hp : s.1.length ≤ 1048576) (hs : s.2.1.length ≤ 1048576) : spec_StateOk s = some (stateOkB s) := by
  unfold spec_StateOk stateOkB
  simp only [l1In_eq, Option.bind_some]
  rw [wrap_id (by omega) (by omega)]
  have hd : decide ((s.1.length : Int) > 8) = !decide ((s.1.length : Int) ≤ 8) := by rw [Bool.eq_iff_iff]; simp
  rw [hd]
  cases decide ((s.1.length : Int) ≤ 8)
  · rfl
  cases (decide (2 ≤ (s.2.1.length : Int)) && decide ((s.2.1.length : Int) ≤ 3))
  · rfl
  cases (decide (0 ≤ s.2.2.1) && decide (s.2.2.1 ≤ (s.2.1.length : Int) - 1))
  · rfl
  cases (decide (0 ≤ s.2.2.2.1) && decide (s.2.2.2.1 ≤ 9999))
  · rfl
  simp only [Bool.not_true, cond_false, Option.bind_some, Bool.true_and]
  rw [any_loop s.1 (body := spec_StateOk_l1 s) (badPiece s) false (by omega) (fun i x hx => ?_) (by unfold spec_StateOk_l1; simp)]
  · rw [any_loop s.2.1 (body := spec_StateOk_l2 s) (fun _ x => !sideOkB x) false (by omega) (fun i x hx => ?_) (by unfold spec_StateOk_l2; simp), any_any]
    · cases anyI (badPiece s) 0 s.1 <;> cases s.2.1.any (fun x => !sideOkB x) <;> rfl
    · have hlt := (List.getElem?_eq_some_iff.1 hx).1
      have hil : ((i : Int) < (s.2.1.length : Int)) := by omega
      unfold spec_StateOk_l2
      simp only [hil, decide_true, cond_true, idx_at hx, spec_l5Side_eq, Option.bind_some]
  · have hlt := (List.getElem?_eq_some_iff.1 hx).1
    have hil : ((i : Int) < (s.1.length : Int)) := by omega
    unfold spec_StateOk_l1 badPiece
    simp only [hil, decide_true, cond_true, idx_at hx, spec_PieceOk_eq, Option.bind_some]
    by_cases hi : 0 < i
    · obtain ⟨y, hy, hk⟩ := prev_piece hx hp (fun x8 => bif decide (x8.1 ≥ x.1) then some true else bif decide (x.2.1 ≥ (s.2.1.length : Int)) then some true else bif decide (x.2.2.1 ≥ (s.2.1.length : Int)) then some true else some (decide (x.2.2.2.2.1 > s.2.2.2.1))) hi
      have h1 : decide ((i : Int) > 0) = true := by simp; omega
      have h2 : decide (0 < i) = true := by simpa using hi
      rw [h1, h2, hy]
      simp only [cond_true, hk, Option.any_some]
      cases pieceOkB x <;> cases decide (y.1 ≥ x.1) <;> cases decide (x.2.1 ≥ (s.2.1.length : Int)) <;> cases decide (x.2.2.1 ≥ (s.2.1.length : Int)) <;> cases decide (x.2.2.2.2.1 > s.2.2.2.1) <;> rfl
    · have h1 : decide ((i : Int) > 0) = false := by simp; omega
      have h2 : decide (0 < i) = false := by simpa using hi
      rw [h1, h2]
      simp only [cond_false]
      cases pieceOkB x <;> cases decide (x.2.1 ≥ (s.2.1.length : Int)) <;> cases decide (x.2.2.1 ≥ (s.2.1.length : Int)) <;> cases decide (x.2.2.2.2.1 > s.2.2.2.1) <;> rfl
theorem impl_StateOk_eq (s : T_State.D) (hp : s.1.length ≤ 1048576) (hs : s.2.1.length ≤ 1048576) : impl_StateOk s = some (stateOkB s) := by
  unfold impl_StateOk stateOkB impl_isSide impl_isTime
  simp only [from_eq, Option.bind_some]
  rw [wrap_id (by omega) (by omega)]
  have hd : decide ((s.1.length : Int) > 8) = !decide ((s.1.length : Int) ≤ 8) := by rw [Bool.eq_iff_iff]; simp
  rw [hd]
  cases decide ((s.1.length : Int) ≤ 8)
  · rfl
  cases (decide (2 ≤ (s.2.1.length : Int)) && decide ((s.2.1.length : Int) ≤ 3))
  · rfl
  cases (decide (0 ≤ s.2.2.1) && decide (s.2.2.1 ≤ (s.2.1.length : Int) - 1))
  · rfl
  cases (decide (0 ≤ s.2.2.2.1) && decide (s.2.2.2.1 ≤ 9999))
  · rfl
  simp only [Bool.not_true, cond_false, Option.bind_some, Bool.true_and]
  have hc : slices_ContainsFunc_impl_Side s.2.1 (fun q => impl_StateOk_1 q.1) = some (s.2.1.any (fun x => !sideOkB x)) := by
    unfold slices_ContainsFunc_impl_Side
    rw [index_side s.2.1 hs (fun x => !sideOkB x) _ (fun x => impl_StateOk_1_eq x), Option.bind_some, findL_any]
  rw [any_loop s.1 (body := impl_StateOk_l1 s) (badPiece s) false (by omega) (fun i x hx => ?_) (by unfold impl_StateOk_l1; simp)]
  · rw [hc]
    cases anyI (badPiece s) 0 s.1 <;> cases s.2.1.any (fun x => !sideOkB x) <;> rfl
  · have hlt := (List.getElem?_eq_some_iff.1 hx).1
    have hil : ((i : Int) < (s.1.length : Int)) := by omega
    unfold impl_StateOk_l1 badPiece impl_isSide
    simp only [hil, decide_true, cond_true, idx_at hx, impl_PieceOk_eq, from_eq, Option.bind_some]
    rw [wrap_id (n := (s.2.1.length : Int) - 1) (by omega) (by omega)]
    cases hok : pieceOkB x
    · rfl
    obtain ⟨g1, g2⟩ := pieceOk_sides hok
    have e1 : (decide (0 ≤ x.2.1) && decide (x.2.1 ≤ (s.2.1.length : Int) - 1)) = !decide (x.2.1 ≥ (s.2.1.length : Int)) := in_side g1
    have e2 : (decide (0 ≤ x.2.2.1) && decide (x.2.2.1 ≤ (s.2.1.length : Int) - 1)) = !decide (x.2.2.1 ≥ (s.2.1.length : Int)) := in_side g2
    rw [e1, e2]
    by_cases hi : 0 < i
    · obtain ⟨y, hy, hk⟩ := prev_piece hx hp (fun x10 => some (decide (x10.1 ≥ x.1))) hi
      have h1 : decide ((i : Int) > 0) = true := by simp; omega
      have h2 : decide (0 < i) = true := by simpa using hi
      rw [h1, h2, hy]
      simp only [cond_true, hk, Option.any_some]
      cases decide (y.1 ≥ x.1) <;> cases decide (x.2.1 ≥ (s.2.1.length : Int)) <;> cases decide (x.2.2.1 ≥ (s.2.1.length : Int)) <;> cases decide (x.2.2.2.2.1 > s.2.2.2.1) <;> rfl
    · have h1 : decide ((i : Int) > 0) = false := by simp; omega
      have h2 : decide (0 < i) = false := by simpa using hi
      rw [h1, h2]
      simp only [cond_false]
      cases decide (x.2.1 ≥ (s.2.1.length : Int)) <;> cases decide (x.2.2.1 ≥ (s.2.1.length : Int)) <;> cases decide (x.2.2.2.2.1 > s.2.2.2.1) <;> rfl


theorem hasTrait_eq (p : T_Piece.D) (t : Int) : spec_HasTrait p t = impl_HasTrait p t := by
  unfold spec_HasTrait impl_HasTrait
  cases h1 : t == 1 <;> cases h2 : t == 2 <;> cases h4 : t == 4 <;> cases h8 : t == 8 <;> cases h16 : t == 16 <;> cases h32 : t == 32 <;> simp only [cond_true, cond_false, Option.bind_some]
theorem hasTrait_some (p : T_Piece.D) (t : Int) : ∃ b, spec_HasTrait p t = some b := by
  unfold spec_HasTrait
  simp only [cond_eq_ite]
  repeat' split
  all_goals exact ⟨_, rfl⟩

/-! ### Copies -/
theorem clonePiece_eq (xs : List T_Piece.D) (h : xs.length ≤ 1048576) : slices_Clone_impl_Piece xs = some xs := by
  unfold slices_Clone_impl_Piece
  rw [if_pos (by simp only [room, List.length_nil]; omega)]
  rfl
theorem cloneSide_eq (xs : List T_Side.D) (h : xs.length ≤ 1048576) : slices_Clone_impl_Side xs = some xs := by
  unfold slices_Clone_impl_Side
  rw [if_pos (by simp only [room, List.length_nil]; omega)]
  rfl
theorem impl_copy_eq (s : T_State.D) (hp : s.1.length ≤ 1048576) (hs : s.2.1.length ≤ 1048576) : impl_copyState s = some s := by
  unfold impl_copyState
  simp only [clonePiece_eq _ hp, cloneSide_eq _ hs, Option.bind_some]
theorem spec_copy_eq (s : T_State.D) (hp : s.1.length ≤ 1048576) (hs : s.2.1.length ≤ 1048576) : spec_l5Copy s = some s := by
  unfold spec_l5Copy
  rw [if_pos (by simp only [room, List.length_nil]; omega), if_pos (by simp only [room, List.length_nil]; omega)]
  rfl
/-- An element read to be written. -/
theorem ref_at {α R : Type} {xs : List α} {i : Nat} {x : α} {κ : α → Option R} (h : xs[i]? = some x) : (idx xs (i : Int) fun _ => (xs[((i : Int)).toNat]?).bind κ) = κ x := by
  rw [idx_at h, Int.toNat_natCast, h, Option.bind_some]
/-- Two states of the same size. -/
def sameSize (a b : T_State.D) : Prop := a.1.length = b.1.length ∧ a.2.1.length = b.2.1.length


theorem spec_Plus_eq (a b : Int) : spec_Plus a b = some (plusV a b) := by unfold spec_Plus; simp only [spec_Bound_eq, Option.bind_some]; rfl
theorem impl_Plus_eq (a b : Int) : impl_Plus a b = some (plusV a b) := by unfold impl_Plus; simp only [impl_Bound_eq, Option.bind_some]; rfl
theorem spec_Less_eq (a b : Int) : spec_Less a b = some (lessV a b) := by unfold spec_Less; simp only [spec_Bound_eq, Option.bind_some]; rfl
theorem impl_Less_eq (a b : Int) : impl_Less a b = some (lessV a b) := by unfold impl_Less; simp only [impl_Bound_eq, Option.bind_some]; rfl


def hasTraitB (p : T_Piece.D) (t : Int) : Bool := (impl_HasTrait p t).getD false
theorem impl_HasTrait_eq (p : T_Piece.D) (t : Int) : impl_HasTrait p t = some (hasTraitB p t) := by
  obtain ⟨b, h⟩ := hasTrait_some p t
  rw [hasTrait_eq] at h
  unfold hasTraitB
  rw [h]; rfl
theorem spec_HasTrait_eq (p : T_Piece.D) (t : Int) : spec_HasTrait p t = some (hasTraitB p t) := by rw [hasTrait_eq, impl_HasTrait_eq]

/-! ### Doomed -/
theorem bound_eq (n : Int) : spec_Bound n = impl_Bound n := by
  unfold spec_Bound impl_Bound
  simp only [cond_eq_ite, decide_eq_true_eq]
  split <;> split <;> (try split) <;> (try split) <;> first | rfl | (congr 1; omega) | omega
theorem plus_eq (a b : Int) : spec_Plus a b = impl_Plus a b := by unfold spec_Plus impl_Plus; simp only [bound_eq]
theorem less_eq (a b : Int) : spec_Less a b = impl_Less a b := by unfold spec_Less impl_Less; simp only [bound_eq]
theorem tough_eq (p : T_Piece.D) : spec_ToughOf p = impl_ToughOf p := by unfold spec_ToughOf impl_ToughOf; simp only [plus_eq, less_eq]
theorem tough_some (p : T_Piece.D) : ∃ m, impl_ToughOf p = some m := by simp [impl_ToughOf, impl_Plus, impl_Less, impl_Bound]
theorem doomed_eq (p : T_Piece.D) : ∃ b, spec_Doomed p = some b ∧ impl_Doomed p = some b ∧ (b = true → (p.2.2.2.1 == 2) = true) := by
  unfold spec_Doomed impl_Doomed
  obtain ⟨m, hm⟩ := tough_some p
  obtain ⟨b, hb⟩ := hasTrait_some p 8
  simp only [tough_eq, hm, ← hasTrait_eq, hb, Option.bind_some]
  unfold bne
  cases h : p.2.2.2.1 == 2 <;> simp only [Bool.not_true, Bool.not_false, cond_true, cond_false]
  · exact ⟨_, rfl, rfl, by simp⟩
  · cases decide (m ≤ 0) <;> cases b <;> cases p.2.2.2.2.2.2.2.2.2.2.2.1 <;> exact ⟨_, rfl, rfl, by simp⟩
def doomedB (p : T_Piece.D) : Bool := (impl_Doomed p).getD false
theorem impl_Doomed_eq (p : T_Piece.D) : impl_Doomed p = some (doomedB p) := by
  obtain ⟨b, _, h, _⟩ := doomed_eq p
  unfold doomedB
  rw [h]; rfl
theorem spec_Doomed_eq (p : T_Piece.D) : spec_Doomed p = some (doomedB p) := by
  obtain ⟨b, h1, h, _⟩ := doomed_eq p
  unfold doomedB
  rw [h, h1]; rfl
theorem doomed_zone (p : T_Piece.D) (h : doomedB p = true) : (p.2.2.2.1 == 2) = true := by
  obtain ⟨b, _, h2, h3⟩ := doomed_eq p
  unfold doomedB at h
  rw [h2] at h
  exact h3 h

/-! ### Round, Quiet, Settle -/
theorem set_self {α : Type} : ∀ {ys : List α} {i : Nat} {x : α}, ys[i]? = some x → ys.set i x = ys
  | [], _, _, _ => by simp
  | y :: ys, 0, x, h => by simp at h; simp [h]
  | y :: ys, i + 1, x, h => by simp only [List.set_cons_succ]; rw [set_self (by simpa using h)]

/-- A loop that lays a new element for each, and appends notes. -/
theorem map_loop {α β T R : Type} (xs : List α) (f : α → α) (g : Nat → α → List β) (mk : List β → List α → Int → T) (r : T → R) {body : T → Option (T ⊕ R)} (n0 : List β) (hg : ∀ i x, (g i x).length ≤ 1) (hlen : xs.length ≤ 1048576)
    (hb : ∀ (ns : List β) (ys : List α) (i : Nat) x, ns.length ≤ n0.length + i → i < 1048576 → ys.length = xs.length → xs[i]? = some x → ys[i]? = some x → body (mk ns ys (i : Int)) = some (.inl (mk (ns ++ g i x) (ys.set i (f x)) (IntKind.wrap .i64 ((i : Int) + 1)))))
    (he : ∀ (ns : List β) (ys : List α), body (mk ns ys (xs.length : Int)) = some (.inr (r (mk ns ys (xs.length : Int))))) :
    while_ body (mk n0 xs 0) = some (r (mk (n0 ++ collect g 0 xs) (xs.map f) (xs.length : Int))) := by
  have main : ∀ (l p q : List α) (ns : List β), xs = p ++ l → q.length = p.length → ns.length ≤ n0.length + p.length → while_ body (mk ns (q ++ l) (p.length : Int)) = some (r (mk (ns ++ collect g p.length l) (q ++ l.map f) (xs.length : Int))) := by
    intro l
    induction l with
    | nil =>
      intro p q ns e hq hn
      refine while_done ?_
      have : p.length = xs.length := by rw [e]; simp
      rw [this, he]
      simp [collect]
    | cons x l ih =>
      intro p q ns e hq hn
      have hlt : p.length < xs.length := by rw [e]; simp
      have hx : xs[p.length]? = some x := by rw [e]; simp
      have hy : (q ++ x :: l)[p.length]? = some x := by rw [← hq]; simp
      have h1 := hb ns (q ++ x :: l) p.length x hn (by omega) (by rw [e]; simp [hq]) hx hy
      rw [wrap_id (by omega) (by omega)] at h1
      have h2 := ih (p ++ [x]) (q ++ [f x]) (ns ++ g p.length x) (by rw [e]; simp) (by simp [hq]) (by have := hg p.length x; simp only [List.length_append, List.length_cons, List.length_nil]; omega)
      refine while_step h1 ?_
      have e1 : (q ++ x :: l).set p.length (f x) = q ++ [f x] ++ l := by rw [← hq]; simp
      rw [e1]
      have e2 : ((p ++ [x]).length : Int) = (p.length : Int) + 1 := by simp
      rw [e2] at h2
      rw [h2]
      simp [collect, List.append_assoc]
  have := main xs [] [] n0 rfl rfl (by simp)
  simpa using this
def losesB (x : T_Side.D) : Bool := !x.2.2.1 && (decide (x.1 ≤ 0) || decide (x.2.1 ≥ 10))
def sideR (x : T_Side.D) : T_Side.D := bif losesB x then (x.1, x.2.1, true, ()) else x
def noteS (i : Nat) (x : T_Side.D) : List T_Note.D := bif losesB x then [(5, (0, 0, 0, 0, 0, 0, false, ()), 0, (i : Int), (0, 0, 0, 0, 0, 0, 0, 0, 0, 0, 0, false, false, ()), ())] else []
def pairN (p : T_Piece.D) : Int := if p.2.2.2.2.2.2.2.2.2.1 < p.2.2.2.2.2.2.2.2.1 then p.2.2.2.2.2.2.2.2.2.1 else p.2.2.2.2.2.2.2.2.1
def pairUpB (p : T_Piece.D) : Bool := (p.2.2.2.1 == 2) && decide (pairN p > 0)
def pieceR (c : Int) (p : T_Piece.D) : T_Piece.D :=
  bif doomedB p then (p.1, p.2.1, p.2.1, 3, c, p.2.2.2.2.2.1, p.2.2.2.2.2.2.1, p.2.2.2.2.2.2.2.1, 0, 0, 0, false, false, ())
  else bif pairUpB p then (p.1, p.2.1, p.2.2.1, p.2.2.2.1, p.2.2.2.2.1, p.2.2.2.2.2.1, p.2.2.2.2.2.2.1, p.2.2.2.2.2.2.2.1, IntKind.wrap .i64 (p.2.2.2.2.2.2.2.2.1 - pairN p), IntKind.wrap .i64 (p.2.2.2.2.2.2.2.2.2.1 - pairN p), p.2.2.2.2.2.2.2.2.2.2)
  else p
def noteP (_ : Nat) (p : T_Piece.D) : List T_Note.D :=
  bif doomedB p then [(6, (0, 0, 0, 0, 0, 0, false, ()), 0, 0, p, ())] else bif pairUpB p then [(7, (0, 0, 0, 0, 0, 0, false, ()), pairN p, 0, p, ())] else []
theorem noteS_len (i : Nat) (x : T_Side.D) : (noteS i x).length ≤ 1 := by unfold noteS; cases losesB x <;> simp
theorem noteP_len (i : Nat) (x : T_Piece.D) : (noteP i x).length ≤ 1 := by unfold noteP; cases doomedB x <;> cases pairUpB x <;> simp
abbrev RS := (List T_Note.D) × (Int × ((List T_Piece.D) × ((List T_Side.D) × (Int × (Int × Unit)))))
def upV (a b : Int) : Int := if (if b < a then b else a) > 0 then (if b < a then b else a) else 0
theorem spec_Upto_eq' (a b : Int) : ∃ m, spec_Upto a b = some m ∧ (if (if b < a then b else a) > 0 then m = (if b < a then b else a) else ¬ m > 0) := by
  unfold spec_Upto
  simp only [cond_eq_ite, decide_eq_true_eq]
  split <;> simp only [Option.bind_some] <;> split <;> refine ⟨_, rfl, ?_⟩ <;> split <;> omega
theorem side_loop (s : T_State.D) (hs : s.2.1.length ≤ 1048576) : while_ (impl_Round_l1 s) ([], 0, s) = some (collect noteS 0 s.2.1, (s.2.1.length : Int), (s.1, s.2.1.map sideR, s.2.2)) := by
  have := map_loop s.2.1 sideR noteS (fun ns ys i => (ns, i, (s.1, ys, s.2.2))) (fun t => t) (body := impl_Round_l1 s) [] noteS_len hs (fun ns ys i x hn hi hl hx hy => ?_) (fun ns ys => ?_)
  · simpa using this
  · have hlt := (List.getElem?_eq_some_iff.1 hx).1
    have hil : ((i : Int) < (s.2.1.length : Int)) := by omega
    unfold impl_Round_l1 sideR noteS losesB
    simp only [hil, decide_true, cond_true, idx_at hx, Int.toNat_natCast, idx_at hy, hy, Option.bind_some]
    rw [if_pos (by simp only [room, List.length_cons, List.length_nil] at *; omega)]
    have := set_self hy
    cases x.2.2.1 <;> cases decide (x.1 ≤ 0) <;> cases decide (x.2.1 ≥ 10) <;> simp [this]
  · unfold impl_Round_l1; simp
theorem side_loop' (s : T_State.D) (hs : s.2.1.length ≤ 1048576) : while_ (spec_Round_l1 s) ([], 0, s) = some (collect noteS 0 s.2.1, (s.2.1.length : Int), (s.1, s.2.1.map sideR, s.2.2)) := by
  have := map_loop s.2.1 sideR noteS (fun ns ys i => (ns, i, (s.1, ys, s.2.2))) (fun t => t) (body := spec_Round_l1 s) [] noteS_len hs (fun ns ys i x hn hi hl hx hy => ?_) (fun ns ys => ?_)
  · simpa using this
  · have hlt := (List.getElem?_eq_some_iff.1 hx).1
    have hil : ((i : Int) < (s.2.1.length : Int)) := by omega
    unfold spec_Round_l1 sideR noteS losesB
    simp only [hil, decide_true, cond_true, idx_at hx, Int.toNat_natCast, idx_at hy, hy, Option.bind_some]
    rw [if_pos (by simp only [room, List.length_cons, List.length_nil] at *; omega)]
    have := set_self hy
    cases x.2.2.1 <;> cases decide (x.1 ≤ 0) <;> cases decide (x.2.1 ≥ 10) <;> simp [this]
  · unfold spec_Round_l1; simp
theorem piece_loop (s : T_State.D) (n0 : List T_Note.D) (t : (List T_Side.D) × (Int × (Int × Unit))) (hn0 : n0.length ≤ 1048576) (hp : s.1.length ≤ 1048576) :
    while_ (impl_Round_l2 s) (n0, 0, (s.1, t)) = some (n0 ++ collect noteP 0 s.1, (s.1.length : Int), (s.1.map (pieceR s.2.2.2.1), t)) := by
  refine map_loop s.1 (pieceR s.2.2.2.1) noteP (fun ns ys i => (ns, i, (ys, t))) (fun t => t) (body := impl_Round_l2 s) n0 noteP_len hp (fun ns ys i x hn hi hl hx hy => ?_) (fun ns ys => ?_)
  · have hlt := (List.getElem?_eq_some_iff.1 hx).1
    have hil : ((i : Int) < (s.1.length : Int)) := by omega
    have hly : i < ys.length := by omega
    have hm : ∀ a b, impl_Moved x a b = some (x.1, x.2.1, x.2.1, a, b, x.2.2.2.2.2.1, x.2.2.2.2.2.2.1, x.2.2.2.2.2.2.2.1, 0, 0, 0, false, false, ()) := fun a b => rfl
    have hself := set_self hy
    unfold impl_Round_l2 pieceR noteP
    simp only [hil, decide_true, cond_true, idx_at hx, impl_Doomed_eq, Option.bind_some, Int.toNat_natCast, idx_at hy, hy, hm, idx_set hly, get_set hly, List.set_set]
    cases doomedB x
    · simp only [cond_false]
      change ((bif x.2.2.2.1 == 2 then some (decide (pairN x > 0)) else some false).bind fun o17 => _) = _
      unfold pairUpB
      cases (x.2.2.2.1 == 2) <;> cases decide (pairN x > 0) <;> simp only [cond_true, cond_false, Option.bind_some, Bool.and_true, Bool.and_false, Bool.true_and, Bool.false_and, hself, List.append_nil]
      rw [if_pos (by simp only [room, List.length_cons, List.length_nil] at *; omega)]
      rfl
    · simp only [cond_true]
      rw [if_pos (by simp only [room, List.length_cons, List.length_nil] at *; omega)]
  · unfold impl_Round_l2; simp
theorem piece_loop' (s : T_State.D) (n0 : List T_Note.D) (t : (List T_Side.D) × (Int × (Int × Unit))) (hn0 : n0.length ≤ 1048576) (hp : s.1.length ≤ 1048576) :
    while_ (spec_Round_l2 s) (n0, 0, (s.1, t)) = some (n0 ++ collect noteP 0 s.1, (s.1.length : Int), (s.1.map (pieceR s.2.2.2.1), t)) := by
  refine map_loop s.1 (pieceR s.2.2.2.1) noteP (fun ns ys i => (ns, i, (ys, t))) (fun t => t) (body := spec_Round_l2 s) n0 noteP_len hp (fun ns ys i x hn hi hl hx hy => ?_) (fun ns ys => ?_)
  · have hlt := (List.getElem?_eq_some_iff.1 hx).1
    have hil : ((i : Int) < (s.1.length : Int)) := by omega
    have hly : i < ys.length := by omega
    have hm : ∀ a b, spec_Moved x a b = some (x.1, x.2.1, x.2.1, a, b, x.2.2.2.2.2.1, x.2.2.2.2.2.2.1, x.2.2.2.2.2.2.2.1, 0, 0, 0, false, false, ()) := fun a b => rfl
    have hself := set_self hy
    obtain ⟨m, hm1, hm2⟩ := spec_Upto_eq' x.2.2.2.2.2.2.2.2.1 x.2.2.2.2.2.2.2.2.2.1
    change (if pairN x > 0 then m = pairN x else ¬ m > 0) at hm2
    unfold spec_Round_l2 pieceR noteP
    simp only [hil, decide_true, cond_true, idx_at hx, spec_Doomed_eq, Option.bind_some, Int.toNat_natCast, idx_at hy, hy, hm, hm1, idx_set hly, get_set hly, List.set_set]
    cases doomedB x
    · simp only [cond_false]
      unfold pairUpB
      by_cases hpos : pairN x > 0
      · rw [if_pos hpos] at hm2
        subst hm2
        rw [decide_eq_true hpos]
        cases (x.2.2.2.1 == 2) <;> simp only [cond_true, cond_false, Option.bind_some, Bool.and_true, Bool.and_false, Bool.true_and, Bool.false_and, hself, List.append_nil]
        rw [if_pos (by simp only [room, List.length_cons, List.length_nil] at *; omega)]
        rfl
      · rw [if_neg hpos] at hm2
        rw [decide_eq_false hpos, decide_eq_false hm2]
        cases (x.2.2.2.1 == 2) <;> simp only [cond_true, cond_false, Option.bind_some, Bool.and_true, Bool.and_false, Bool.true_and, Bool.false_and, hself, List.append_nil]
    · simp only [cond_true]
      rw [if_pos (by simp only [room, List.length_cons, List.length_nil] at *; omega)]
      rfl
  · unfold spec_Round_l2; simp
def roundV (s : T_State.D) : T_State.D × ((List T_Note.D) × Unit) :=
  if stateOkB s then ((s.1.map (pieceR s.2.2.2.1), s.2.1.map sideR, s.2.2), collect noteS 0 s.2.1 ++ collect noteP 0 s.1, ()) else (s, [], ())
theorem impl_Round_eq (s : T_State.D) (hp : s.1.length ≤ 1048576) (hs : s.2.1.length ≤ 1048576) : impl_Round s = some (roundV s) := by
  unfold impl_Round roundV
  simp only [impl_copy_eq s hp hs, impl_StateOk_eq s hp hs, Option.bind_some]
  cases stateOkB s
  · rfl
  · simp only [Bool.not_true, cond_false, if_true, side_loop s hs, Option.bind_some]
    rw [piece_loop s _ _ (by have := collect_len noteS noteS_len s.2.1 0; omega) hp]
    rfl
theorem spec_Round_eq (s : T_State.D) (hp : s.1.length ≤ 1048576) (hs : s.2.1.length ≤ 1048576) : spec_Round s = some (roundV s) := by
  unfold spec_Round roundV
  simp only [spec_copy_eq s hp hs, spec_StateOk_eq s hp hs, Option.bind_some]
  cases stateOkB s
  · rfl
  · simp only [Bool.not_true, cond_false, if_true, side_loop' s hs, Option.bind_some]
    rw [piece_loop' s _ _ (by have := collect_len noteS noteS_len s.2.1 0; omega) hp]
    rfl
theorem round_size (s : T_State.D) : sameSize (roundV s).1 s := by
  unfold roundV sameSize
  split <;> simp
theorem round_notes (s : T_State.D) : (roundV s).2.1.length ≤ s.1.length + s.2.1.length := by
  unfold roundV
  split
  · have h1 := collect_len noteS noteS_len s.2.1 0
    have h2 := collect_len noteP noteP_len s.1 0
    simp only [List.length_append]
    omega
  · simp
theorem round_eq (s : T_State.D) (hp : s.1.length ≤ 1048576) (hs : s.2.1.length ≤ 1048576) : ∃ r, spec_Round s = some r ∧ impl_Round s = some r ∧ sameSize r.1 s ∧ r.2.1.length ≤ s.1.length + s.2.1.length :=
  ⟨_, spec_Round_eq s hp hs, impl_Round_eq s hp hs, round_size s, round_notes s⟩

/-! ### Settle: each round with a note lowers a weight -/
def wS (x : T_Side.D) : Nat := bif x.2.2.1 then 0 else 1
def wP (p : T_Piece.D) : Nat := bif p.2.2.2.1 == 2 then (if pairN p > 0 then 2 else 1) else 0
def weight (s : T_State.D) : Nat := (s.2.1.map wS).sum + (s.1.map wP).sum
theorem wS_step (i : Nat) (x : T_Side.D) : (noteS i x).length + wS (sideR x) ≤ wS x := by
  unfold noteS sideR
  cases h : losesB x
  · simp
  · have : x.2.2.1 = false := by unfold losesB at h; cases hx : x.2.2.1 <;> simp [hx] at h ⊢
    simp [wS, this]
theorem pair_zero (a b : Int) : (if IntKind.wrap .i64 (b - (if b < a then b else a)) < IntKind.wrap .i64 (a - (if b < a then b else a)) then IntKind.wrap .i64 (b - (if b < a then b else a)) else IntKind.wrap .i64 (a - (if b < a then b else a))) ≤ 0 := by
  have h0 : IntKind.wrap .i64 0 = 0 := by decide
  by_cases h : b < a
  · rw [if_pos h, Int.sub_self, h0]; split <;> omega
  · rw [if_neg h, Int.sub_self, h0]; split <;> omega
theorem wP_step (c : Int) (i : Nat) (p : T_Piece.D) : (noteP i p).length + wP (pieceR c p) ≤ wP p := by
  unfold noteP pieceR
  cases h : doomedB p
  · cases h2 : pairUpB p
    · simp
    · unfold pairUpB at h2
      rw [Bool.and_eq_true, decide_eq_true_eq] at h2
      have e1 : wP p = 2 := by unfold wP; rw [h2.1]; simp only [cond_true]; rw [if_pos h2.2]
      rw [e1]
      simp only [cond_true, cond_false, List.length_cons, List.length_nil]
      have := pair_zero p.2.2.2.2.2.2.2.2.1 p.2.2.2.2.2.2.2.2.2.1
      unfold wP
      simp only [h2.1, cond_true]
      rw [if_neg]
      · omega
      · unfold pairN; simp only; unfold pairN at *; omega
  · have hz := doomed_zone p h
    simp only [cond_true, List.length_cons, List.length_nil]
    unfold wP
    rw [hz]
    simp only [cond_true]
    have : ((3 : Int) == 2) = false := rfl
    simp only [this, cond_false]
    split <;> omega
theorem collect_weight {α β : Type} (g : Nat → α → List β) (f : α → α) (w : α → Nat) (h : ∀ i x, (g i x).length + w (f x) ≤ w x) : ∀ (xs : List α) (i : Nat), (collect g i xs).length + ((xs.map f).map w).sum ≤ (xs.map w).sum
  | [], _ => by simp [collect]
  | x :: xs, i => by
    have h1 := collect_weight g f w h xs (i + 1)
    have h2 := h i x
    simp only [collect, List.length_append, List.map_cons, List.sum_cons]
    omega
theorem round_weight (s : T_State.D) : (roundV s).2.1.length + weight (roundV s).1 ≤ weight s := by
  unfold roundV
  split
  · have h1 := collect_weight noteS sideR wS wS_step s.2.1 0
    have h2 := collect_weight noteP (pieceR s.2.2.2.1) wP (wP_step _) s.1 0
    simp only [weight, List.length_append]
    omega
  · simp
theorem sum_le {α : Type} (w : α → Nat) (k : Nat) (h : ∀ x, w x ≤ k) : ∀ (xs : List α), (xs.map w).sum ≤ k * xs.length
  | [] => by simp
  | x :: xs => by have h1 := sum_le w k h xs; have h2 := h x; simp only [List.map_cons, List.sum_cons, List.length_cons, Nat.mul_add]; omega
theorem weight_le (s : T_State.D) : weight s ≤ s.2.1.length + 2 * s.1.length := by
  have h1 := sum_le wS 1 (fun x => by unfold wS; cases x.2.2.1 <;> simp) s.2.1
  have h2 := sum_le wP 2 (fun p => by unfold wP; cases p.2.2.2.1 == 2 <;> simp only [cond_true, cond_false] <;> (try split) <;> omega) s.1
  unfold weight
  omega
theorem stateOk_small {s : T_State.D} (h : stateOkB s = true) : s.1.length ≤ 8 ∧ s.2.1.length ≤ 3 := by
  unfold stateOkB at h
  simp only [Bool.and_eq_true] at h
  have h1 := of_decide_eq_true h.1.1.1.1.1
  have h2 := of_decide_eq_true h.1.1.1.1.2.2
  exact ⟨by omega, by omega⟩

theorem settle_loop (s : T_State.D) (hp : s.1.length ≤ 1048576) (hs : s.2.1.length ≤ 1048576) (u : T_State.D) :
    ∃ r, while_ impl_Settle_l1 ([], 0, u, s) = some r ∧ sameSize r.2.2 s ∧ r.1.length ≤ 1048576 := by
  cases hok : stateOkB s with
  | false =>
    refine ⟨([], 0, s), while_done ?_, ⟨rfl, rfl⟩, by simp⟩
    unfold impl_Settle_l1
    simp only [impl_Round_eq s hp hs, Option.bind_some]
    have : (roundV s).2.1 = [] := by unfold roundV; rw [hok]; rfl
    rw [this]; rfl
  | true =>
    obtain ⟨l1, l2⟩ := stateOk_small hok
    have hw := weight_le s
    obtain ⟨r, h1, h2⟩ := while_inv (body := impl_Settle_l1) (fun t => weight t.2.2.2) (fun t => sameSize t.2.2.2 s ∧ t.1.length + weight t.2.2.2 ≤ weight s) (fun r => sameSize r.2.2 s ∧ r.1.length ≤ 1048576) (by
      rintro ⟨all, n, u, t⟩ ⟨⟨z1, z2⟩, z3⟩
      simp only at z1 z2 z3
      have hr := round_weight t
      have hz := round_size t
      unfold impl_Settle_l1
      simp only [impl_Round_eq t (by omega) (by omega), Option.bind_some]
      by_cases hn : (roundV t).2.1.length = 0
      · right
        have : (((roundV t).2.1.length : Int) == 0) = true := by rw [hn]; rfl
        rw [this]
        exact ⟨_, rfl, ⟨z1, z2⟩, by simp only; omega⟩
      · left
        have : (((roundV t).2.1.length : Int) == 0) = false := by rw [beq_eq_false_iff_ne]; omega
        rw [this]
        simp only [cond_false]
        rw [if_pos (by simp only [room]; omega)]
        refine ⟨_, rfl, ⟨⟨hz.1.trans z1, hz.2.trans z2⟩, ?_⟩, ?_⟩
        · simp only [List.length_append]; omega
        · simp only; omega) ([], 0, u, s) ⟨⟨rfl, rfl⟩, by simp⟩
    exact ⟨r, h1, h2⟩
theorem settle_body (t : _) (hp : t.2.2.2.1.length ≤ 1048576) (hs : t.2.2.2.2.1.length ≤ 1048576) : spec_Settle_l1 t = impl_Settle_l1 t := by
  unfold spec_Settle_l1 impl_Settle_l1
  rw [spec_Round_eq _ hp hs, impl_Round_eq _ hp hs]
theorem while_same {S R : Type} {b1 b2 : S → Option (S ⊕ R)} (I : S → Prop) (h : ∀ s, I s → b1 s = b2 s) (hk : ∀ s s', I s → b2 s = some (.inl s') → I s') {s : S} {r : R} (hI : I s) (hr : while_ b2 s = some r) : while_ b1 s = some r := by
  obtain ⟨n, hn⟩ := while_iter hr
  refine while_of_iter (n := n) ?_
  clear hr
  induction n generalizing s with
  | zero => simp [while_.iter] at hn
  | succ n ih =>
    simp only [while_.iter] at hn ⊢
    rw [h s hI]
    cases hb : b2 s with
    | none => rw [hb] at hn; cases hn
    | some x =>
      rw [hb, Option.bind_some] at hn
      rw [Option.bind_some]
      cases x with
      | inl s' => exact ih (hk s s' hI hb) hn
      | inr q => exact hn
theorem settle_eq (s : T_State.D) (hp : s.1.length ≤ 1048576) (hs : s.2.1.length ≤ 1048576) : ∃ r, spec_Settle s = some r ∧ impl_Settle s = some r ∧ sameSize r.1 s ∧ r.2.1.length ≤ 1048576 := by
  obtain ⟨r, h1, h2, h3⟩ := settle_loop s hp hs ([], [], 0, 0, ())
  have h4 : while_ spec_Settle_l1 ([], 0, ([], [], 0, 0, ()), s) = some r := by
    refine while_same (b2 := impl_Settle_l1) (fun t => t.2.2.2.1.length ≤ 1048576 ∧ t.2.2.2.2.1.length ≤ 1048576) (fun t h => settle_body t h.1 h.2) ?_ ⟨hp, hs⟩ h1
    rintro ⟨all, n, u, t⟩ t' ⟨g1, g2⟩ hb
    simp only at g1 g2
    have hz := round_size t
    unfold impl_Settle_l1 at hb
    simp only [impl_Round_eq t g1 g2, Option.bind_some] at hb
    cases hc : (((roundV t).2.1.length : Int) == 0) with
    | true => rw [hc] at hb; simp at hb
    | false =>
      rw [hc] at hb
      simp only [cond_false] at hb
      split at hb
      · simp only [Option.some.injEq, Sum.inl.injEq] at hb
        subst hb
        exact ⟨by simp only; rw [hz.1]; exact g1, by simp only; rw [hz.2]; exact g2⟩
      · cases hb
  refine ⟨(r.2.2, r.1, r.2.1, ()), ?_, ?_, h2, h3⟩
  · unfold spec_Settle
    simp only [spec_copy_eq s hp hs, Option.bind_some, h4]
  · unfold impl_Settle
    simp only [impl_copy_eq s hp hs, Option.bind_some, h1]

/-! ### States that are right, as statements -/
theorem anyI_iff {α : Type} (p : Nat → α → Bool) : ∀ (xs : List α) (k : Nat), anyI p k xs = false ↔ ∀ (i : Nat) x, xs[i]? = some x → p (k + i) x = false
  | [], _ => by simp [anyI]
  | y :: xs, k => by
    simp only [anyI, Bool.or_eq_false_iff, anyI_iff p xs (k + 1)]
    constructor
    · rintro ⟨h1, h2⟩ i x hx
      cases i with
      | zero => simp at hx; subst hx; exact h1
      | succ i => rw [show k + (i + 1) = k + 1 + i by omega]; exact h2 i x (by simpa using hx)
    · intro h
      refine ⟨h 0 y (by simp), fun i x hx => ?_⟩
      rw [show k + 1 + i = k + (i + 1) by omega]
      exact h (i + 1) x (by simpa using hx)
def PcOk (s : T_State.D) (x : T_Piece.D) : Prop := pieceOkB x = true ∧ x.2.1 < (s.2.1.length : Int) ∧ x.2.2.1 < (s.2.1.length : Int) ∧ x.2.2.2.2.1 ≤ s.2.2.2.1
def StOk (s : T_State.D) : Prop :=
  (s.1.length ≤ 8 ∧ 2 ≤ s.2.1.length ∧ s.2.1.length ≤ 3) ∧ ((0 ≤ s.2.2.1 ∧ s.2.2.1 ≤ (s.2.1.length : Int) - 1) ∧ (0 ≤ s.2.2.2.1 ∧ s.2.2.2.1 ≤ 9999)) ∧
  (∀ (i : Nat) x, s.1[i]? = some x → PcOk s x) ∧ (∀ (i : Nat) x y, s.1[i]? = some x → s.1[i + 1]? = some y → x.1 < y.1) ∧ ∀ x ∈ s.2.1, sideOkB x = true
theorem stateOk_iff (s : T_State.D) : stateOkB s = true ↔ StOk s := by
  unfold stateOkB StOk
  simp only [Bool.and_eq_true, decide_eq_true_eq, Bool.not_eq_true', anyI_iff, Nat.zero_add, List.any_eq_false]
  constructor
  · rintro ⟨⟨⟨⟨⟨h1, h2⟩, h3⟩, h4⟩, h5⟩, h6⟩
    refine ⟨⟨by omega, by omega, by omega⟩, ⟨h3, h4⟩, fun i x hx => ?_, fun i x y hx hy => ?_, fun x hx => by simpa using h6 x hx⟩
    · have := h5 i x hx
      unfold badPiece at this
      simp only [Bool.or_eq_false_iff, Bool.not_eq_false', decide_eq_false_iff_not] at this
      obtain ⟨⟨⟨⟨g1, g2⟩, g3⟩, g4⟩, _⟩ := this
      exact ⟨g1, Int.not_le.1 g2, Int.not_le.1 g3, Int.not_lt.1 g4⟩
    · have := h5 (i + 1) y hy
      unfold badPiece at this
      simp only [Bool.or_eq_false_iff, Bool.and_eq_false_iff, Nat.add_sub_cancel, hx, Option.any_some, decide_eq_false_iff_not] at this
      rcases this.2 with h | h
      · omega
      · exact Int.not_le.1 h
  · rintro ⟨⟨h1, h2, h2'⟩, ⟨h3, h4⟩, h5, h6, h7⟩
    refine ⟨⟨⟨⟨⟨by omega, by omega, by omega⟩, h3⟩, h4⟩, fun i x hx => ?_⟩, fun x hx => by simpa using h7 x hx⟩
    obtain ⟨g1, g2, g3, g4⟩ := h5 i x hx
    unfold badPiece
    simp only [Bool.or_eq_false_iff, Bool.not_eq_false', decide_eq_false_iff_not, Bool.and_eq_false_iff]
    refine ⟨⟨⟨⟨g1, Int.not_le.2 g2⟩, Int.not_le.2 g3⟩, Int.not_lt.2 g4⟩, ?_⟩
    cases i with
    | zero => left; simp
    | succ i =>
      right
      simp only [Nat.add_sub_cancel]
      have hlt := (List.getElem?_eq_some_iff.1 hx).1
      have hp : s.1[i]? = some (s.1[i]'(by omega)) := List.getElem?_eq_getElem (by omega)
      rw [hp, Option.any_some, decide_eq_false_iff_not]
      exact Int.not_le.2 (h6 i _ x hp hx)
theorem keep_pieces {s : T_State.D} (h : StOk s) (ps : List T_Piece.D) (hl : ps.length = s.1.length) (hk : ∀ (i : Nat) x y, s.1[i]? = some x → ps[i]? = some y → y.1 = x.1 ∧ PcOk s y) : StOk (ps, s.2) := by
  obtain ⟨⟨h1, h2, h2'⟩, h3, h5, h6, h7⟩ := h
  have hget : ∀ (i : Nat) y, ps[i]? = some y → ∃ x, s.1[i]? = some x := fun i y hy => ⟨_, List.getElem?_eq_getElem (by have := (List.getElem?_eq_some_iff.1 hy).1; omega)⟩
  refine ⟨⟨by simp only; omega, h2, h2'⟩, h3, fun i y hy => ?_, fun i x y hx hy => ?_, h7⟩
  · obtain ⟨x, hx⟩ := hget i y hy
    exact (hk i x y hx hy).2
  · obtain ⟨x', hx'⟩ := hget i x hx
    obtain ⟨y', hy'⟩ := hget (i + 1) y hy
    have e1 := (hk i x' x hx' hx).1
    have e2 := (hk (i + 1) y' y hy' hy).1
    have := h6 i x' y' hx' hy'
    rw [e1, e2]
    exact this
theorem keep_set {s : T_State.D} (h : StOk s) {i : Nat} {x : T_Piece.D} (hx : s.1[i]? = some x) (y : T_Piece.D) (he : y.1 = x.1) (hy : PcOk s y) : StOk (s.1.set i y, s.2) := by
  refine keep_pieces h _ (by simp) fun j a b ha hb => ?_
  by_cases hj : i = j
  · subst hj
    have hlt := (List.getElem?_eq_some_iff.1 hx).1
    rw [get_set hlt] at hb
    cases hb
    rw [hx] at ha
    cases ha
    exact ⟨he, hy⟩
  · rw [List.getElem?_set_ne hj] at hb
    rw [ha] at hb
    cases hb
    exact ⟨rfl, h.2.2.1 j _ ha⟩
theorem keep_sides {s : T_State.D} (h : StOk s) (ss : List T_Side.D) (hl : ss.length = s.2.1.length) (hk : ∀ x ∈ ss, sideOkB x = true) : StOk (s.1, ss, s.2.2) := by
  obtain ⟨⟨h1, h2, h2'⟩, ⟨h3, h4⟩, h5, h6, h7⟩ := h
  refine ⟨⟨h1, by simp only; omega, by simp only; omega⟩, ⟨by simp only; rw [hl]; exact h3, h4⟩, fun i x hx => ?_, h6, hk⟩
  obtain ⟨g1, g2, g3, g4⟩ := h5 i x hx
  exact ⟨g1, by simp only; rw [hl]; exact g2, by simp only; rw [hl]; exact g3, g4⟩
theorem keep_side {s : T_State.D} (h : StOk s) {j : Nat} (y : T_Side.D) (hy : sideOkB y = true) : StOk (s.1, s.2.1.set j y, s.2.2) := by
  refine keep_sides h _ (by simp) fun x hx => ?_
  rcases List.mem_or_eq_of_mem_set hx with hm | rfl
  · exact h.2.2.2.2 x hm
  · exact hy
theorem boundV_in (n : Int) : -2147483647 ≤ boundV n ∧ boundV n ≤ 2147483647 := by unfold boundV; split <;> (try split) <;> omega
theorem boundV_id {n : Int} (h1 : -2147483647 ≤ n) (h2 : n ≤ 2147483647) : boundV n = n := by unfold boundV; split <;> (try split) <;> omega
theorem plusV_in (a b : Int) : -2147483647 ≤ plusV a b ∧ plusV a b ≤ 2147483647 := boundV_in _
theorem lessV_in (a b : Int) : -2147483647 ≤ lessV a b ∧ lessV a b ≤ 2147483647 := boundV_in _
theorem plusV_nonneg {a b : Int} (ha : 0 ≤ a) (hb : 0 ≤ b) : 0 ≤ plusV a b := by
  unfold plusV
  have h1 := boundV_in a
  have h2 := boundV_in b
  have h3 : 0 ≤ boundV a := by unfold boundV; split <;> (try split) <;> omega
  have h4 : 0 ≤ boundV b := by unfold boundV; split <;> (try split) <;> omega
  rw [wrap_id (by omega) (by omega)]
  unfold boundV
  split <;> (try split) <;> omega


/-! ### Round keeps a right state, and counts -/
theorem pieceOk_iff (i o sd z t pw tg tr pl mi mk : Int) (dl bt : Bool) (u : Unit) : pieceOkB (i, o, sd, z, t, pw, tg, tr, pl, mi, mk, dl, bt, u) = true ↔
    ((1 ≤ i ∧ i ≤ 99) ∧ (0 ≤ o ∧ o ≤ 2) ∧ (0 ≤ sd ∧ sd ≤ 2) ∧ (1 ≤ z ∧ z ≤ 4) ∧ (0 ≤ t ∧ t ≤ 9999) ∧ (0 ≤ pw ∧ pw ≤ 999) ∧ (0 ≤ tg ∧ tg ≤ 999) ∧ (0 ≤ tr ∧ tr ≤ 63)) ∧
    ((z = 2 ∧ (0 ≤ pl ∧ pl ≤ 2147483647) ∧ (0 ≤ mi ∧ mi ≤ 2147483647) ∧ (0 ≤ mk ∧ mk ≤ 2147483647)) ∨ (z ≠ 2 ∧ sd = o ∧ pl = 0 ∧ mi = 0 ∧ mk = 0 ∧ dl = false ∧ bt = false)) := by
  unfold pieceOkB
  by_cases h : z = 2
  · subst h; simp; grind
  · simp [h]; grind
theorem moved_ok (s : T_State.D) (h : StOk s) (z : Int) (hz : 1 ≤ z ∧ z ≤ 4) (x : T_Piece.D) (hx : PcOk s x) : PcOk s (x.1, x.2.1, x.2.1, z, s.2.2.2.1, x.2.2.2.2.2.1, x.2.2.2.2.2.2.1, x.2.2.2.2.2.2.2.1, 0, 0, 0, false, false, ()) := by
  obtain ⟨h1, h2, h3, h4⟩ := hx
  obtain ⟨⟨k1, k2, k3, k4, k5, k6, k7, k8⟩, _⟩ := (pieceOk_iff x.1 x.2.1 x.2.2.1 x.2.2.2.1 x.2.2.2.2.1 x.2.2.2.2.2.1 x.2.2.2.2.2.2.1 x.2.2.2.2.2.2.2.1 x.2.2.2.2.2.2.2.2.1 x.2.2.2.2.2.2.2.2.2.1 x.2.2.2.2.2.2.2.2.2.2.1 x.2.2.2.2.2.2.2.2.2.2.2.1 x.2.2.2.2.2.2.2.2.2.2.2.2.1 x.2.2.2.2.2.2.2.2.2.2.2.2.2).1 h1
  refine ⟨(pieceOk_iff _ _ _ _ _ _ _ _ _ _ _ _ _ _).2 ⟨⟨k1, k2, k2, hz, h.2.1.2, k6, k7, k8⟩, ?_⟩, h2, h2, Int.le_refl _⟩
  by_cases h' : z = 2
  · exact .inl ⟨h', ⟨by decide, by decide⟩, ⟨by decide, by decide⟩, ⟨by decide, by decide⟩⟩
  · exact .inr ⟨h', rfl, rfl, rfl, rfl, rfl, rfl⟩

theorem pair_ok (pl mi : Int) (h1 : 0 ≤ pl ∧ pl ≤ 2147483647) (h2 : 0 ≤ mi ∧ mi ≤ 2147483647) : (0 ≤ IntKind.wrap .i64 (pl - (if mi < pl then mi else pl)) ∧ IntKind.wrap .i64 (pl - (if mi < pl then mi else pl)) ≤ 2147483647) ∧ (0 ≤ IntKind.wrap .i64 (mi - (if mi < pl then mi else pl)) ∧ IntKind.wrap .i64 (mi - (if mi < pl then mi else pl)) ≤ 2147483647) := by
  split
  · rw [wrap_id (by omega) (by omega), wrap_id (by omega) (by omega)]; omega
  · rw [wrap_id (by omega) (by omega), wrap_id (by omega) (by omega)]; omega
theorem pieceR_ok (s : T_State.D) (h : StOk s) (x : T_Piece.D) (hx : PcOk s x) : (pieceR s.2.2.2.1 x).1 = x.1 ∧ PcOk s (pieceR s.2.2.2.1 x) := by
  unfold pieceR
  cases hd : doomedB x
  · cases hp : pairUpB x
    · exact ⟨rfl, hx⟩
    · refine ⟨rfl, ?_⟩
      obtain ⟨h1, h2, h3, h4⟩ := hx
      obtain ⟨k0, k9⟩ := (pieceOk_iff x.1 x.2.1 x.2.2.1 x.2.2.2.1 x.2.2.2.2.1 x.2.2.2.2.2.1 x.2.2.2.2.2.2.1 x.2.2.2.2.2.2.2.1 x.2.2.2.2.2.2.2.2.1 x.2.2.2.2.2.2.2.2.2.1 x.2.2.2.2.2.2.2.2.2.2.1 x.2.2.2.2.2.2.2.2.2.2.2.1 x.2.2.2.2.2.2.2.2.2.2.2.2.1 x.2.2.2.2.2.2.2.2.2.2.2.2.2).1 h1
      have hz : x.2.2.2.1 = 2 := by unfold pairUpB at hp; rw [Bool.and_eq_true] at hp; simpa using hp.1
      rcases k9 with ⟨_, g1, g2, g3⟩ | ⟨g, _⟩
      · have := pair_ok _ _ g1 g2
        exact ⟨(pieceOk_iff _ _ _ _ _ _ _ _ _ _ _ _ _ _).2 ⟨k0, .inl ⟨hz, this.1, this.2, g3⟩⟩, h2, h3, h4⟩
      · exact absurd hz g
  · exact ⟨rfl, moved_ok s h 3 (by decide) x hx⟩
theorem sideR_ok (x : T_Side.D) (h : sideOkB x = true) : sideOkB (sideR x) = true := by
  unfold sideR
  cases losesB x
  · exact h
  · exact h
theorem round_keeps (s : T_State.D) (h : stateOkB s = true) : stateOkB (roundV s).1 = true := by
  have hs := (stateOk_iff s).1 h
  unfold roundV
  rw [if_pos h]
  refine (stateOk_iff _).2 ?_
  have h1 := keep_pieces hs (s.1.map (pieceR s.2.2.2.1)) (by simp) fun i x y hx hy => by
    rw [List.getElem?_map, hx] at hy
    cases hy
    exact pieceR_ok s hs x (hs.2.2.1 i x hx)
  exact keep_sides h1 (s.2.1.map sideR) (by simp) fun x hx => by
    obtain ⟨y, hy, rfl⟩ := List.mem_map.1 hx
    exact sideR_ok y (hs.2.2.2.2 y hy)
theorem round_still (s : T_State.D) (h : (roundV s).2.1.length = 0) : (roundV s).1 = s := by
  unfold roundV at h ⊢
  split
  · rename_i hok
    rw [if_pos hok] at h
    simp only [List.length_append] at h
    have key : ∀ {α β : Type} (g : Nat → α → List β) (f : α → α) (hg : ∀ i x, (g i x).length = 0 → f x = x) (xs : List α) (i : Nat), (collect g i xs).length = 0 → xs.map f = xs := by
      intro α β g f hg xs
      induction xs with
      | nil => intro i _; rfl
      | cons x xs ih =>
        intro i h
        simp only [collect, List.length_append] at h
        rw [List.map_cons, hg i x (by omega), ih (i + 1) (by omega)]
    have e1 := key noteS sideR (fun i x hx => by unfold noteS at hx; unfold sideR; cases hl : losesB x <;> rw [hl] at hx <;> simp at hx ⊢) s.2.1 0 (by omega)
    have e2 := key noteP (pieceR s.2.2.2.1) (fun i x hx => by unfold noteP at hx; unfold pieceR; cases hl : doomedB x <;> cases hl2 : pairUpB x <;> rw [hl] at hx <;> (try rw [hl2] at hx) <;> simp at hx ⊢) s.1 0 (by omega)
    simp only [e1, e2]
  · rfl
theorem collect_count {α β γ δ : Type} (g1 : Nat → α → List β) (g2 : Nat → α → List γ) (g3 : Nat → α → List δ) (p : δ → Bool) (f1 f2 : α → α) (h : ∀ i x, (g1 i (f1 x)).length = (g2 i (f2 x)).length + ((g3 i x).filter p).length) : ∀ (xs : List α) (i : Nat), (collect g1 i (xs.map f1)).length = (collect g2 i (xs.map f2)).length + ((collect g3 i xs).filter p).length
  | [], _ => by simp [collect]
  | x :: xs, i => by
    have h1 := collect_count g1 g2 g3 p f1 f2 h xs (i + 1)
    have h2 := h i x
    simp only [collect, List.map_cons, List.length_append, List.filter_append]
    omega

/-! ### LostOf -/
def lostG (i : Nat) (x : T_Side.D) : List Int := bif x.2.2.1 then [(i : Int)] else []
theorem lostG_len (i : Nat) (x : T_Side.D) : (lostG i x).length ≤ 1 := by unfold lostG; cases x.2.2.1 <;> simp
theorem impl_LostOf_eq (s : T_State.D) (h : s.2.1.length ≤ 1048576) : impl_LostOf s = some (collect lostG 0 s.2.1) := by
  unfold impl_LostOf
  rw [append_loop s.2.1 lostG (fun s => s) lostG_len (by omega) (fun t i x hI hx => ?_) (fun t => ?_)]
  · rfl
  · have hlt := (List.getElem?_eq_some_iff.1 hx).1
    have hil : ((i : Int) < (s.2.1.length : Int)) := by omega
    unfold impl_LostOf_l1 lostG
    simp only [hil, decide_true, cond_true, idx_at hx]
    rw [if_pos (by simp only [room, List.length_cons, List.length_nil]; omega)]
    cases x.2.2.1 <;> simp
  · unfold impl_LostOf_l1; simp

/-! ### OnField -/
def fieldG (a : Int) (_ : Nat) (x : T_Piece.D) : List Int := bif (x.2.2.2.1 == 2) && ((a == -1) || (x.2.2.1 == a)) then [x.1] else []
theorem fieldG_len (a : Int) (i : Nat) (x : T_Piece.D) : (fieldG a i x).length ≤ 1 := by unfold fieldG; cases ((x.2.2.2.1 == 2) && ((a == -1) || (x.2.2.1 == a))) <;> simp
theorem impl_OnField_eq (s : T_State.D) (a : Int) (h : s.1.length ≤ 1048576) : impl_OnField s a = some (collect (fieldG a) 0 s.1) := by
  unfold impl_OnField
  rw [append_loop s.1 (fieldG a) (fun s => s) (fieldG_len a) (by omega) (fun t i x hI hx => ?_) (fun t => ?_)]
  · rfl
  · have hlt := (List.getElem?_eq_some_iff.1 hx).1
    have hil : ((i : Int) < (s.1.length : Int)) := by omega
    unfold impl_OnField_l1 fieldG
    simp only [hil, decide_true, cond_true, idx_at hx]
    rw [if_pos (by simp only [room, List.length_cons, List.length_nil]; omega)]
    cases (x.2.2.2.1 == 2) <;> cases (a == -1) <;> cases (x.2.2.1 == a) <;> simp
  · unfold impl_OnField_l1; simp

theorem impl_SameNotes_eq (a b : List T_Note.D) (h : a.length ≤ 1048576) : impl_SameNotes a b = some (eqD (.slice T_Note) a b) := by
  unfold impl_SameNotes
  rw [show slices_Equal_impl_Note a b = some (eqD (.slice T_Note) a b) from eq_lists (t := T_Note) rfl a b (e := eqD T_Note) (fun _ _ => rfl) (by omega) (fun i => rfl)]
  rfl

theorem bif_and (b c : Bool) : (bif b then some c else some false) = some (b && c) := by cases b <;> rfl
theorem impl_SameState_eq (a b : T_State.D) (hp : a.1.length ≤ 1048576) (hs : a.2.1.length ≤ 1048576) : impl_SameState a b = some (eqD T_State a b) := by
  have hE : eqD T_State a b = (eqD (.slice T_Piece) a.1 b.1 && (eqD (.slice T_Side) a.2.1 b.2.1 && ((a.2.2.1 == b.2.2.1) && ((a.2.2.2.1 == b.2.2.2.1) && true)))) := rfl
  unfold impl_SameState
  rw [hE, show slices_Equal_impl_Piece a.1 b.1 = some (eqD (.slice T_Piece) a.1 b.1) from eq_lists (t := T_Piece) rfl a.1 b.1 (e := eqD T_Piece) (fun _ _ => rfl) (by omega) (fun i => rfl),
    show slices_Equal_impl_Side a.2.1 b.2.1 = some (eqD (.slice T_Side) a.2.1 b.2.1) from eq_lists (t := T_Side) rfl a.2.1 b.2.1 (e := eqD T_Side) (fun _ _ => rfl) (by omega) (fun i => rfl)]
  simp only [Option.bind_some, bif_and]
  cases eqD (.slice T_Piece) a.1 b.1 <;> cases eqD (.slice T_Side) a.2.1 b.2.1 <;> cases (a.2.2.1 == b.2.2.1) <;> cases (a.2.2.2.1 == b.2.2.2.1) <;> rfl

theorem impl_Has_eq (l : List Int) (a : Int) (h : l.length ≤ 1048576) : impl_Has l a = some (l.any (fun x => a == x)) := by
  unfold impl_Has slices_Contains_int slices_Index_int
  rw [index_loop l (body := slices_Index_int_l1 l a) (fun x => a == x) (fun i => i) (by omega) (fun i x hx => ?_) ?_]
  · rw [← findL_any]
    cases findL (fun x => a == x) l <;> rfl
  · unfold slices_Index_int_l1
    simp
  · unfold slices_Index_int_l1
    have hlt := (List.getElem?_eq_some_iff.1 hx).1
    have : ((i : Int) < (l.length : Int)) := by omega
    simp only [this, decide_true, cond_true, idx_at hx]

/-! ### Draws: they end, and the cursor stays right -/
def curOk (c : T_l1Cur.D) : Prop := 0 ≤ c.2.1 ∧ c.1.length ≤ 1048576
theorem l1Byte_ok' (b : List Int) (i g : Int) (u : Unit) (h0 : 0 ≤ i) (h1 : b.length ≤ 1048576) : Tot (spec_l1Byte (b, i, g, u)) (fun y => curOk y.2.1 ∧ 0 ≤ y.1 ∧ y.1 ≤ 255) := by
  unfold spec_l1Byte
  simp only
  rw [if_pos (by decide), if_pos (by decide)]
  refine Tot.bif (fun hl => ?_) (fun _ => ?_)
  · have hl : i < (b.length : Int) := of_decide_eq_true hl
    refine Tot.idx h0 hl fun n x e hx => ?_
    obtain ⟨m, e1, e2⟩ := mask_byte (IntKind.wrap .i64 (IntKind.wrap .i64 (BitVec.ofInt (IntKind.bits .i64) (IntKind.wrap .i64 (BitVec.ofInt (IntKind.bits .i64) ((IntKind.wrap .i64 ((IntKind.wrap .i64 (g * 6364136223846793005)) + 1442695040888963407)).fdiv (2 ^ min (33 : Int).toNat (IntKind.bits .i64))) ^^^ BitVec.ofInt (IntKind.bits .i64) ((IntKind.wrap .i64 ((IntKind.wrap .i64 (g * 6364136223846793005)) + 1442695040888963407)).fdiv (2 ^ min (47 : Int).toNat (IntKind.bits .i64)))).toNat) &&& BitVec.ofInt (IntKind.bits .i64) 255).toNat + IntKind.wrap .i64 x))
    refine Tot.pure ⟨⟨?_, h1⟩, ?_, ?_⟩
    · show (0 : Int) ≤ IntKind.wrap .i64 (i + 1)
      rw [wrap_id (by omega) (by omega)]; omega
    · simp only; rw [e1]; omega
    · simp only; rw [e1]; omega
  · obtain ⟨m, e1, e2⟩ := mask_byte (IntKind.wrap .i64 (BitVec.ofInt (IntKind.bits .i64) ((IntKind.wrap .i64 ((IntKind.wrap .i64 (g * 6364136223846793005)) + 1442695040888963407)).fdiv (2 ^ min (33 : Int).toNat (IntKind.bits .i64))) ^^^ BitVec.ofInt (IntKind.bits .i64) ((IntKind.wrap .i64 ((IntKind.wrap .i64 (g * 6364136223846793005)) + 1442695040888963407)).fdiv (2 ^ min (47 : Int).toNat (IntKind.bits .i64)))).toNat)
    refine Tot.pure ⟨⟨h0, h1⟩, ?_, ?_⟩
    · simp only; rw [e1]; omega
    · simp only; rw [e1]; omega
theorem l1Byte_ok (c : T_l1Cur.D) (h : curOk c) : Tot (spec_l1Byte c) (fun y => curOk y.2.1 ∧ 0 ≤ y.1 ∧ y.1 ≤ 255) := l1Byte_ok' c.1 c.2.1 c.2.2.1 c.2.2.2 h.1 h.2
theorem l1Below_ok (c : T_l1Cur.D) (n : Int) (h : curOk c) : Tot (spec_l1Below c n) (fun y => curOk y.2.1 ∧ 0 ≤ y.1 ∧ (0 < n → y.1 < n)) := by
  unfold spec_l1Below
  refine Tot.bif (fun hn => ?_) (fun hn => ?_)
  · have hn : n ≤ 0 := of_decide_eq_true hn
    exact Tot.pure ⟨h, Int.le_refl _, fun h => by omega⟩
  · have hn : ¬ n ≤ 0 := of_decide_eq_false hn
    refine Tot.bif (fun _ => ?_) (fun _ => ?_)
    · refine Tot.bind (l1Byte_ok c h) ?_
      rintro y ⟨hc, h0, h1⟩
      rw [if_neg (by omega)]
      exact Tot.pure ⟨hc, Int.tmod_nonneg _ h0, fun hp => Int.tmod_lt_of_pos _ hp⟩
    · refine Tot.bind (l1Byte_ok c h) ?_
      rintro y2 ⟨hc2, h20, h21⟩
      refine Tot.bind (l1Byte_ok _ hc2) ?_
      rintro y3 ⟨hc3, h30, h31⟩
      refine Tot.bind (l1Byte_ok _ hc3) ?_
      rintro y4 ⟨hc4, h40, h41⟩
      show Tot (if n = 0 then none else some ((IntKind.wrap .i64 (IntKind.wrap .i64 (IntKind.wrap .i64 (y2.1 * 65536) + IntKind.wrap .i64 (y3.1 * 256)) + y4.1)).tmod n, y4.2)) _
      rw [wrap_id (n := y2.1 * 65536) (by omega) (by omega), wrap_id (n := y3.1 * 256) (by omega) (by omega), wrap_id (n := y2.1 * 65536 + y3.1 * 256) (by omega) (by omega), wrap_id (n := y2.1 * 65536 + y3.1 * 256 + y4.1) (by omega) (by omega), if_neg (by omega)]
      exact Tot.pure ⟨hc4, Int.tmod_nonneg _ (by omega), fun hp => Int.tmod_lt_of_pos _ hp⟩
theorem l1Int_ok (c : T_l1Cur.D) (l : List Int) (h : curOk c) (hl : 0 < l.length) : Tot (spec_l1Int c l) (fun y => curOk y.2.1 ∧ y.1 ∈ l) := by
  unfold spec_l1Int
  refine Tot.bind (l1Below_ok c _ h) ?_
  rintro y ⟨hc, h0, h1⟩
  refine Tot.idx h0 (h1 (by omega)) fun n x e hx => ?_
  exact Tot.pure ⟨hc, List.mem_of_getElem? hx⟩
theorem l1Once_ok (c : T_l1Cur.D) (n : Int) (h : curOk c) : Tot (spec_l1Once c n) (fun y => curOk y.2.1 ∧ True) := by
  unfold spec_l1Once
  refine Tot.bind (l1Below_ok c _ h) ?_
  rintro y ⟨hc, h0, h1⟩
  exact Tot.pure ⟨hc, trivial⟩
theorem l1Odd_ok (c : T_l1Cur.D) (h : curOk c) : Tot (spec_l1Odd c) (fun y => curOk y.2.1 ∧ True) := by
  unfold spec_l1Odd
  refine Tot.bind (l1Int_ok c _ h (by decide)) ?_
  rintro y ⟨hc, _⟩
  exact Tot.pure ⟨hc, trivial⟩
theorem l1Raw_ok (c : T_l1Cur.D) (h : curOk c) : Tot (spec_l1Raw c) (fun y => curOk y.2.1 ∧ True) := by
  unfold spec_l1Raw
  refine Tot.bind (l1Once_ok c _ h) ?_
  rintro y ⟨hc, _⟩
  refine Tot.bif (fun _ => ?_) (fun _ => ?_)
  · refine Tot.bind (l1Odd_ok _ hc) ?_
    rintro y ⟨hc, _⟩
    exact Tot.pure ⟨hc, trivial⟩
  · refine Tot.bind (l1Int_ok _ _ hc (by decide)) ?_
    rintro y ⟨hc, _⟩
    exact Tot.pure ⟨hc, trivial⟩
theorem l4Draw_ok (c : T_l1Cur.D) (id : Int) (h : curOk c) : Tot (spec_l4Draw c id) (fun y => curOk y.2.1 ∧ True) := by
  unfold spec_l4Draw
  refine Tot.bind (l1Below_ok c _ h) ?_
  rintro y1 ⟨_, _⟩
  refine Tot.bind (l1Int_ok _ _ (by assumption) (by decide)) ?_
  rintro y2 ⟨_, _⟩
  refine Tot.bind (l1Below_ok _ _ (by assumption)) ?_
  rintro y3 ⟨_, _⟩
  refine Tot.bind (l1Below_ok _ _ (by assumption)) ?_
  rintro y4 ⟨_, _⟩
  refine Tot.bind (l1Below_ok _ _ (by assumption)) ?_
  rintro y5 ⟨h5, _⟩
  refine Tot.bind (P := fun o => curOk o.2.1) (Tot.while (fun s => curOk s.2.1 ∧ 0 ≤ s.1 ∧ s.1 ≤ 6) (fun s => 6 - s.1.toNat) ?_ ⟨h5, by simp only; omega, by simp only; omega⟩) ?_
  · rintro ⟨i, cc, t⟩ ⟨g1, g2, g3⟩
    simp only at g1 g2 g3
    unfold spec_l4Draw_l1
    simp only
    refine Tot.bif (fun hl => ?_) (fun _ => ?_)
    · have hl : i < (6 : Int) := of_decide_eq_true hl
      refine Tot.idx g2 (by simpa using hl) fun n x e hx => ?_
      subst e
      rw [Int.toNat_natCast, hx, Option.bind_some]
      refine Tot.bind (l1Once_ok _ _ g1) ?_
      rintro y ⟨hc, _⟩
      refine Tot.bif (fun _ => ?_) (fun _ => ?_) <;> refine Tot.pure ⟨⟨hc, ?_, ?_⟩, ?_⟩ <;> simp only <;> rw [wrap_id (by omega) (by omega)] <;> omega
    · exact Tot.pure g1
  · rintro o ho
    refine Tot.bif (fun _ => Tot.pure ⟨ho, trivial⟩) (fun _ => ?_)
    refine Tot.bind (l1Once_ok _ _ ho) ?_
    rintro y12 ⟨h12, _⟩
    refine Tot.bind (P := fun _ => True) (Tot.bif (fun _ => Tot.pure trivial) (fun _ => Tot.pure trivial)) ?_
    rintro o13 _
    refine Tot.bind (l1Int_ok _ _ h12 (by decide)) ?_
    rintro y14 ⟨h14, _⟩
    refine Tot.bind (l1Int_ok _ _ h14 (by decide)) ?_
    rintro y15 ⟨h15, _⟩
    refine Tot.bind (l1Int_ok _ _ h15 (by decide)) ?_
    rintro y16 ⟨h16, _⟩
    refine Tot.bind (l1Once_ok _ _ h16) ?_
    rintro y17 ⟨h17, _⟩
    exact Tot.pure ⟨h17, trivial⟩
theorem l4Any_ok (c : T_l1Cur.D) (h : curOk c) : Tot (spec_l4Any c) (fun y => curOk y.2.1 ∧ True) := by
  unfold spec_l4Any
  refine Tot.bind (l1Below_ok c _ h) ?_
  rintro y1 ⟨h1, _⟩
  refine Tot.bind (l4Draw_ok _ _ h1) ?_
  rintro y2 ⟨h2, _⟩
  refine Tot.bind (l1Below_ok _ _ h2) ?_
  rintro y3 ⟨h3, _⟩
  repeat' first
    | refine Tot.bif (fun _ => ?_) (fun _ => ?_)
    | (refine Tot.bind (l1Int_ok _ _ h3 (by decide)) ?_; rintro y ⟨hy, _⟩; exact Tot.pure ⟨hy, trivial⟩)
    | (refine Tot.bind (l1Raw_ok _ h3) ?_; rintro y ⟨hy, _⟩; exact Tot.pure ⟨hy, trivial⟩)
    | exact Tot.pure ⟨h3, trivial⟩
theorem l5Draw_ok (c : T_l1Cur.D) (h : curOk c) : Tot (spec_l5Draw c) (fun y => curOk y.2.1 ∧ 1 ≤ y.1.1.length ∧ y.1.1.length ≤ 6 ∧ y.1.2.1.length = 2) := by
  unfold spec_l5Draw
  refine Tot.bind (P := fun s => s.1.length = 0 ∧ s.2.1.length = 2) ⟨_, rfl, rfl, rfl⟩ ?_
  rintro y1 ⟨p1, p2⟩
  refine Tot.bind (l1Below_ok c _ h) ?_
  rintro y2 ⟨h2, _⟩
  refine Tot.bind (l1Below_ok _ _ h2) ?_
  rintro y3 ⟨h3, _⟩
  refine Tot.bind (P := fun o => curOk o.2.1 ∧ o.2.2.1.length = 0 ∧ o.2.2.2.1.length = 2) (Tot.while (fun s => curOk s.2.1 ∧ s.2.2.1.length = 0 ∧ s.2.2.2.1.length = 2 ∧ 0 ≤ s.1 ∧ s.1 ≤ 2) (fun s => 2 - s.1.toNat) ?_ ⟨h3, p1, p2, by simp only; omega, by simp only; omega⟩) ?_
  · rintro ⟨i, cc, ps, ss, t⟩ ⟨g1, g2, g3, g4, g5⟩
    simp only at g1 g2 g3 g4 g5
    unfold spec_l5Draw_l1
    simp only
    refine Tot.bif (fun hl => ?_) (fun _ => Tot.pure ⟨g1, g2, g3⟩)
    have hl : i < (2 : Int) := of_decide_eq_true hl
    refine Tot.bind (l1Int_ok _ _ g1 (by decide)) ?_
    rintro y7 ⟨h7, _⟩
    refine Tot.idx g4 (by omega) fun n x e hx => ?_
    subst e
    rw [Int.toNat_natCast, hx, Option.bind_some]
    refine Tot.bind (l1Int_ok _ _ h7 (by decide)) ?_
    rintro y10 ⟨h10, _⟩
    have hn : n < ss.length := by omega
    rw [idx_set hn, get_set hn, Option.bind_some]
    refine Tot.pure ⟨⟨h10, g2, by simp only [List.length_set]; exact g3, ?_, ?_⟩, ?_⟩ <;> simp only <;> rw [wrap_id (by omega) (by omega)] <;> omega
  · rintro o ⟨g1, g2, g3⟩
    refine Tot.bind (l1Below_ok _ _ g1) ?_
    rintro y14 ⟨h14, h14a, h14b⟩
    have hlt := h14b (by decide)
    rw [wrap_id (n := 1 + y14.1) (by omega) (by omega)]
    refine Tot.bind (P := fun o => curOk o.2.2.1 ∧ 1 ≤ o.2.2.2.1.length ∧ o.2.2.2.1.length ≤ 6 ∧ o.2.2.2.2.1.length = 2) (Tot.while (fun s => curOk s.2.2.1 ∧ 0 ≤ s.2.1 ∧ (s.2.2.2.1.length : Int) + s.2.1 = 1 + y14.1 ∧ s.2.2.2.2.1.length = 2) (fun s => s.2.1.toNat) ?_ ⟨h14, by simp only; omega, by simp only; omega, g3⟩) ?_
    · rintro ⟨id, i, cc, ps, ss, t⟩ ⟨k1, k2, k3, k4⟩
      simp only at k1 k2 k3 k4
      unfold spec_l5Draw_l2
      simp only
      refine Tot.bif (fun hl => ?_) (fun hl => Tot.pure ⟨k1, ?_, ?_, k4⟩)
      · have hl : i > 0 := of_decide_eq_true hl
        refine Tot.bind (l1Below_ok _ _ k1) ?_
        rintro y18 ⟨h18, _⟩
        refine Tot.bind (l4Draw_ok _ _ h18) ?_
        rintro y19 ⟨h19, _⟩
        rw [if_pos (by simp only [room, List.length_cons, List.length_nil]; omega)]
        refine Tot.pure ⟨⟨h19, ?_, ?_, k4⟩, ?_⟩ <;> simp only [List.length_append, List.length_cons, List.length_nil] <;> rw [wrap_id (n := i - 1) (by omega) (by omega)] <;> omega
      · have hl : ¬ i > 0 := of_decide_eq_false hl
        simp only; omega
      · have hl : ¬ i > 0 := of_decide_eq_false hl
        simp only; omega
    · rintro o ⟨k1, k2⟩
      exact Tot.pure ⟨k1, k2⟩
theorem l5Any_ok (c : T_l1Cur.D) (h : curOk c) : Tot (spec_l5Any c) (fun y => curOk y.2.1 ∧ y.1.1.length ≤ 20 ∧ y.1.2.1.length ≤ 3) := by
  unfold spec_l5Any
  refine Tot.bind (l5Draw_ok c h) ?_
  rintro ⟨⟨ps, ss, t⟩, c1⟩ ⟨h1, g1, g2, g3⟩
  simp only at h1 g1 g2 g3
  refine Tot.bind (l1Below_ok _ _ h1) ?_
  rintro y2 ⟨h2, _⟩
  refine Tot.bif (fun _ => ?_) (fun _ => ?_)
  · refine Tot.bind (l1Int_ok _ _ h2 (by decide)) ?_
    rintro y ⟨hy, _⟩
    exact Tot.pure ⟨hy, by simp only; omega, by simp only; omega⟩
  refine Tot.bif (fun _ => ?_) (fun _ => ?_)
  · refine Tot.bind (l1Int_ok _ _ h2 (by decide)) ?_
    rintro y ⟨hy, _⟩
    exact Tot.pure ⟨hy, by simp only; omega, by simp only; omega⟩
  refine Tot.bif (fun _ => ?_) (fun _ => ?_)
  · refine Tot.bind (l1Raw_ok _ h2) ?_
    rintro y ⟨hy, _⟩
    rw [if_pos (by simp only [room, List.length_cons, List.length_nil]; omega)]
    exact Tot.pure ⟨hy, by simp only; omega, by simp only [List.length_append, List.length_cons, List.length_nil]; omega⟩
  refine Tot.bif (fun _ => ?_) (fun _ => ?_)
  · refine Tot.bind (l1Raw_ok _ h2) ?_
    rintro y ⟨hy, _⟩
    refine Tot.idx (by decide) (by simp only; omega) fun n x e hx => ?_
    have : n = 0 := by omega
    subst this
    rw [show ((0 : Int)).toNat = 0 from rfl, hx, Option.bind_some]
    exact Tot.pure ⟨hy, by simp only; omega, by simp only [List.length_set]; omega⟩
  refine Tot.bif (fun _ => ?_) (fun _ => ?_)
  · refine Tot.bind (l4Any_ok _ h2) ?_
    rintro y ⟨hy, _⟩
    rw [if_pos (by simp only [room, List.length_cons, List.length_nil]; omega)]
    exact Tot.pure ⟨hy, by simp only [List.length_append, List.length_cons, List.length_nil]; omega, by simp only; omega⟩
  refine Tot.bif (fun _ => ?_) (fun _ => ?_)
  · rw [if_pos (by decide), if_pos (by decide), if_pos (by simp only; omega)]
    exact Tot.pure ⟨h2, by simp only; omega, by simp only [List.length_drop, List.length_take]; omega⟩
  refine Tot.bif (fun _ => ?_) (fun _ => ?_)
  · refine Tot.bind (l4Any_ok _ h2) ?_
    rintro y ⟨hy, _⟩
    refine Tot.idx (by decide) (by simp only; omega) fun n x e hx => ?_
    have : n = 0 := by omega
    subst this
    rw [show ((0 : Int)).toNat = 0 from rfl, hx, Option.bind_some]
    exact Tot.pure ⟨hy, by simp only [List.length_set]; omega, by simp only; omega⟩
  refine Tot.bif (fun _ => ?_) (fun _ => ?_)
  · refine Tot.bind (P := fun o => curOk o.2.1 ∧ o.2.2.1.length ≤ 20 ∧ o.2.2.2.1.length ≤ 3) (Tot.while (fun s => curOk s.2.1 ∧ 40 ≤ s.1 ∧ s.1 ≤ 46 ∧ (s.2.2.1.length : Int) ≤ s.1 - 34 ∧ s.2.2.2.1.length ≤ 3) (fun s => 46 - s.1.toNat) ?_ ⟨h2, by simp only; omega, by simp only; omega, by simp only; omega, by simp only; omega⟩) ?_
    · rintro ⟨i, cc, ps, ss, t⟩ ⟨k1, k2, k3, k4, k5⟩
      simp only at k1 k2 k3 k4 k5
      unfold spec_l5Any_l1
      simp only
      refine Tot.bif (fun hl => ?_) (fun hl => Tot.pure ⟨k1, by simp only; omega, k5⟩)
      have hl : i < 46 := of_decide_eq_true hl
      refine Tot.bind (l4Draw_ok _ _ k1) ?_
      rintro y ⟨hy, _⟩
      rw [if_pos (by simp only [room, List.length_cons, List.length_nil]; omega)]
      refine Tot.pure ⟨⟨hy, ?_, ?_, ?_, k5⟩, ?_⟩ <;> simp only [List.length_append, List.length_cons, List.length_nil] <;> rw [wrap_id (n := i + 1) (by omega) (by omega)] <;> omega
    · rintro o ⟨k1, k2, k3⟩
      exact Tot.pure ⟨k1, k2, k3⟩
  exact Tot.pure ⟨h2, by simp only; omega, by simp only; omega⟩
theorem l1New_ok (code : List Int) (hl : code.length ≤ 1048576) : Tot (spec_l1New code) (fun c => curOk c) := by
  unfold spec_l1New
  refine Tot.bind (P := fun _ => True) (Tot.while (fun s => 0 ≤ s.2 ∧ s.2 ≤ (code.length : Int)) (fun s => code.length - s.2.toNat) ?_ ⟨by simp only; omega, by simp only; omega⟩) ?_
  · rintro ⟨g, i⟩ ⟨k1, k2⟩
    simp only at k1 k2
    unfold spec_l1New_l1
    simp only
    refine Tot.bind (P := fun o => o = true → i < (code.length : Int)) (Tot.bif (fun hl => Tot.pure (fun _ => of_decide_eq_true hl)) (fun _ => Tot.pure (fun h => by cases h))) ?_
    rintro o ho
    refine Tot.bif (fun hb => ?_) (fun _ => Tot.pure trivial)
    have hlt := ho hb
    refine Tot.idx k1 hlt fun n x e hx => ?_
    refine Tot.pure ⟨⟨?_, ?_⟩, ?_⟩ <;> simp only <;> rw [wrap_id (n := i + 1) (by omega) (by omega)] <;> omega
  · rintro o _
    exact Tot.pure ⟨Int.le_refl _, hl⟩

/-! ### FnRounds -/
theorem l19State_ok (c : T_l1Cur.D) (h : curOk c) : Tot (spec_l19State c) (fun y => curOk y.2.1 ∧ y.1.1.length ≤ 20 ∧ y.1.2.1.length ≤ 3) := by
  unfold spec_l19State
  refine Tot.bind (l5Draw_ok c h) ?_
  rintro y1 ⟨h1, g1, g2, g3⟩
  refine Tot.bind (P := fun o => curOk o.2.1 ∧ o.2.2.1.length ≤ 6 ∧ o.2.2.2.1.length = 2) (Tot.while (fun s => curOk s.2.1 ∧ s.2.2.1.length ≤ 6 ∧ s.2.2.2.1.length = 2 ∧ 0 ≤ s.1 ∧ s.1 ≤ (s.2.2.1.length : Int)) (fun s => s.2.2.1.length - s.1.toNat) ?_ ⟨h1, g2, g3, by simp only; omega, by simp only; omega⟩) ?_
  · rintro ⟨i, cc, ps, ss, t⟩ ⟨k1, k2, k3, k4, k5⟩
    simp only at k1 k2 k3 k4 k5
    unfold spec_l19State_l1
    simp only
    refine Tot.bif (fun hl => ?_) (fun _ => Tot.pure ⟨k1, k2, k3⟩)
    have hl : i < (ps.length : Int) := of_decide_eq_true hl
    refine Tot.bind (P := fun o => curOk o.1 ∧ o.2.1.length = ps.length ∧ o.2.2.1.length = 2) ?_ ?_
    · refine Tot.idx k4 hl fun n x e hx => ?_
      subst e
      rw [Int.toNat_natCast, hx, Option.bind_some]
      refine Tot.bif (fun _ => Tot.pure ⟨k1, rfl, k3⟩) (fun _ => ?_)
      refine Tot.bind (l1Below_ok _ _ k1) ?_
      rintro y6 ⟨h6, _⟩
      refine Tot.bind (P := fun o => curOk o.1 ∧ o.2.1.length = ps.length ∧ o.2.2.1.length = 2) ?_ (fun o ho => Tot.pure ho)
      refine Tot.bif (fun _ => ?_) (fun _ => ?_)
      · refine Tot.bind (l1Below_ok _ _ h6) ?_
        rintro y7 ⟨h7, _⟩
        rw [idx_at hx, Option.bind_some]
        exact Tot.pure ⟨h7, by simp only [List.length_set], k3⟩
      refine Tot.bind (P := fun o => curOk o.1 ∧ o.2.1.length = ps.length ∧ o.2.2.1.length = 2) ?_ (fun o ho => Tot.pure ho)
      refine Tot.bif (fun _ => ?_) (fun _ => ?_)
      · refine Tot.bind (l1Below_ok _ _ h6) ?_
        rintro y7 ⟨h7, _⟩
        rw [idx_at hx, Option.bind_some]
        exact Tot.pure ⟨h7, by simp only [List.length_set], k3⟩
      refine Tot.bind (P := fun o => o.1.length = ps.length ∧ o.2.1.length = 2) ?_ (fun o ho => Tot.pure ⟨h6, ho.1, ho.2⟩)
      refine Tot.bif (fun _ => ?_) (fun _ => Tot.pure ⟨rfl, k3⟩)
      rw [idx_at hx, Option.bind_some]
      exact Tot.pure ⟨by simp only [List.length_set], k3⟩
    · rintro o ⟨q1, q2, q3⟩
      refine Tot.pure ⟨⟨q1, by simp only; omega, q3, ?_, ?_⟩, ?_⟩ <;> simp only <;> rw [wrap_id (n := i + 1) (by omega) (by omega)] <;> omega
  · rintro ⟨i, cc, ps, ss, t⟩ ⟨k1, k2, k3⟩
    simp only at k1 k2 k3
    refine Tot.bind (l1Below_ok _ _ k1) ?_
    rintro y20 ⟨h20, _⟩
    obtain ⟨x0, hx0⟩ : ∃ x, ss[0]? = some x := ⟨_, List.getElem?_eq_getElem (by omega)⟩
    obtain ⟨x1, hx1⟩ : ∃ x, ss[1]? = some x := ⟨_, List.getElem?_eq_getElem (by omega)⟩
    have i0 : ∀ {R : Type} (κ : T_Side.D → Option R), idx ss 0 κ = κ x0 := fun κ => idx_at (i := 0) hx0
    have i1 : ∀ {R : Type} (κ : T_Side.D → Option R), idx ss 1 κ = κ x1 := fun κ => idx_at (i := 1) hx1
    have n0 : (0 : Int).toNat = 0 := rfl
    have n1 : (1 : Int).toNat = 1 := rfl
    refine Tot.bind (P := fun o => curOk o.1 ∧ o.2.1.length ≤ 6 ∧ o.2.2.1.length = 2) ?_ ?_
    · refine Tot.bif (fun _ => ?_) (fun _ => ?_)
      · refine Tot.bind (l1Int_ok _ _ h20 (by decide)) ?_
        rintro y ⟨hy, _⟩
        simp only [i0, n0, hx0, Option.bind_some]
        exact Tot.pure ⟨hy, k2, by simp only [List.length_set]; exact k3⟩
      refine Tot.bind (P := fun o => curOk o.1 ∧ o.2.1.length ≤ 6 ∧ o.2.2.1.length = 2) ?_ (fun o ho => Tot.pure ho)
      refine Tot.bif (fun _ => ?_) (fun _ => ?_)
      · refine Tot.bind (l1Int_ok _ _ h20 (by decide)) ?_
        rintro y ⟨hy, _⟩
        simp only [i1, n1, hx1, Option.bind_some]
        exact Tot.pure ⟨hy, k2, by simp only [List.length_set]; exact k3⟩
      refine Tot.bind (P := fun o => o.1.length ≤ 6 ∧ o.2.1.length = 2) ?_ (fun o ho => Tot.pure ⟨h20, ho.1, ho.2⟩)
      refine Tot.bif (fun _ => ?_) (fun _ => Tot.pure ⟨k2, k3⟩)
      simp only [i0, n0, hx0, Option.bind_some]
      exact Tot.pure ⟨k2, by simp only [List.length_set]; exact k3⟩
    · rintro o ⟨q1, q2, q3⟩
      refine Tot.bind (l1Once_ok _ _ q1) ?_
      rintro y32 ⟨h32, _⟩
      refine Tot.bif (fun _ => ?_) (fun _ => Tot.pure ⟨h32, by simp only; omega, by simp only; omega⟩)
      refine Tot.bind (l5Any_ok _ h32) ?_
      rintro y33 ⟨h33, w1, w2⟩
      exact Tot.pure ⟨h33, w1, w2⟩

/-! ### FnSettles -/
theorem collect_sub {α β : Type} (g : Nat → α → List β) (f : α → α) (h : ∀ i x, ∀ b ∈ g i (f x), b ∈ g i x) : ∀ (xs : List α) (i : Nat), ∀ b ∈ collect g i (xs.map f), b ∈ collect g i xs
  | [], _, b, hb => hb
  | x :: xs, i, b, hb => by
    rw [List.map_cons] at hb
    rcases List.mem_append.1 hb with hb | hb
    · exact List.mem_append_left _ (h i x b hb)
    · exact List.mem_append_right _ (collect_sub g f h xs (i + 1) b hb)
theorem collect_sup {α β : Type} (g : Nat → α → List β) (f : α → α) (h : ∀ i x, ∀ b ∈ g i x, b ∈ g i (f x)) : ∀ (xs : List α) (i : Nat), ∀ b ∈ collect g i xs, b ∈ collect g i (xs.map f)
  | [], _, b, hb => hb
  | x :: xs, i, b, hb => by
    rw [List.map_cons]
    rcases List.mem_append.1 hb with hb | hb
    · exact List.mem_append_left _ (h i x b hb)
    · exact List.mem_append_right _ (collect_sup g f h xs (i + 1) b hb)
def toward (t s : T_State.D) : Prop := (∀ a ∈ collect (fieldG (-1)) 0 t.1, a ∈ collect (fieldG (-1)) 0 s.1) ∧ ∀ a ∈ collect lostG 0 s.2.1, a ∈ collect lostG 0 t.2.1
theorem round_toward (s : T_State.D) : toward (roundV s).1 s := by
  unfold roundV toward
  split
  · refine ⟨collect_sub _ _ (fun i x b hb => ?_) s.1 0, collect_sup _ _ (fun i x b hb => ?_) s.2.1 0⟩
    · unfold fieldG pieceR at hb
      cases hd : doomedB x with
      | true => rw [hd] at hb; simp at hb
      | false =>
        rw [hd] at hb
        cases hp : pairUpB x with
        | true => rw [hp] at hb; exact hb
        | false => rw [hp] at hb; exact hb
    · unfold lostG sideR at *
      cases hl : losesB x with
      | false => exact hb
      | true =>
        have : x.2.2.1 = false := by unfold losesB at hl; cases hx : x.2.2.1 <;> simp [hx] at hl ⊢
        rw [this] at hb
        cases hb
  · exact ⟨fun _ h => h, fun _ h => h⟩
theorem toward_trans {a b c : T_State.D} (h1 : toward a b) (h2 : toward b c) : toward a c := ⟨fun x h => h2.1 x (h1.1 x h), fun x h => h1.2 x (h2.2 x h)⟩
theorem settle_bad (s u : T_State.D) (hp : s.1.length ≤ 1048576) (hs : s.2.1.length ≤ 1048576) (hok : stateOkB s = false) : while_ impl_Settle_l1 ([], 0, u, s) = some ([], 0, s) := by
  refine while_done ?_
  unfold impl_Settle_l1
  simp only [impl_Round_eq s hp hs, Option.bind_some]
  have : (roundV s).2.1 = [] := by unfold roundV; rw [hok]; rfl
  rw [this]; rfl
theorem settle_fine (s u : T_State.D) (hok : stateOkB s = true) :
    ∃ r, while_ impl_Settle_l1 ([], 0, u, s) = some r ∧ sameSize r.2.2 s ∧ (roundV r.2.2).2.1.length = 0 ∧ stateOkB r.2.2 = true ∧ toward r.2.2 s ∧ 0 ≤ r.2.1 ∧ r.2.1 ≤ (weight s : Int) := by
  obtain ⟨l1, l2⟩ := stateOk_small hok
  have hw := weight_le s
  obtain ⟨r, h1, h2⟩ := while_inv (body := impl_Settle_l1) (fun t => weight t.2.2.2)
    (fun t => sameSize t.2.2.2 s ∧ t.1.length + weight t.2.2.2 ≤ weight s ∧ stateOkB t.2.2.2 = true ∧ toward t.2.2.2 s ∧ 0 ≤ t.2.1 ∧ t.2.1 + (weight t.2.2.2 : Int) ≤ (weight s : Int))
    (fun r => sameSize r.2.2 s ∧ (roundV r.2.2).2.1.length = 0 ∧ stateOkB r.2.2 = true ∧ toward r.2.2 s ∧ 0 ≤ r.2.1 ∧ r.2.1 ≤ (weight s : Int)) (by
    rintro ⟨all, n, u, t⟩ ⟨⟨z1, z2⟩, z3, z4, z5, z6, z7⟩
    simp only at z1 z2 z3 z4 z5 z6 z7
    have hr := round_weight t
    have hz := round_size t
    unfold impl_Settle_l1
    simp only [impl_Round_eq t (by omega) (by omega), Option.bind_some]
    by_cases hn : (roundV t).2.1.length = 0
    · right
      have : (((roundV t).2.1.length : Int) == 0) = true := by rw [hn]; rfl
      rw [this]
      exact ⟨_, rfl, ⟨z1, z2⟩, hn, z4, z5, z6, by simp only; omega⟩
    · left
      have : (((roundV t).2.1.length : Int) == 0) = false := by rw [beq_eq_false_iff_ne]; omega
      rw [this]
      simp only [cond_false]
      rw [if_pos (by simp only [room]; omega)]
      refine ⟨_, rfl, ⟨⟨hz.1.trans z1, hz.2.trans z2⟩, ?_, round_keeps t z4, toward_trans (round_toward t) z5, ?_, ?_⟩, ?_⟩
      · simp only [List.length_append]; omega
      · simp only; rw [wrap_id (by omega) (by omega)]; omega
      · simp only; rw [wrap_id (by omega) (by omega)]; omega
      · simp only; omega) ([], 0, u, s) ⟨⟨rfl, rfl⟩, by simp, hok, ⟨fun _ h => h, fun _ h => h⟩, by simp, by simp⟩
  exact ⟨r, h1, h2⟩
theorem setOf_nil : impl_SetOf [] = some [] := by
  have h0 : IntKind.wrap .i64 (0 - 0) = 0 := by decide
  have e1 : slices_insertionSortOrdered_int [] 0 0 = some () := by
    unfold slices_insertionSortOrdered_int
    rw [while_done (r := (IntKind.wrap .i64 (0 + 1))) (by unfold slices_insertionSortOrdered_int_l2; rfl)]
    rfl
  have e2 : slices_pdqsortOrdered_int [] 0 0 0 = some () := by
    unfold slices_pdqsortOrdered_int
    rw [while_done (r := ()) (by
      unfold slices_pdqsortOrdered_int_l1
      simp only [h0]
      have : decide ((0 : Int) ≤ 12) = true := by decide
      rw [this, cond_true, e1]; rfl)]
    rfl
  have e3 : slices_Sort_int [] = some () := by
    unfold slices_Sort_int
    show (math_bits_Len 0).bind _ = _
    rw [show math_bits_Len 0 = some 0 from rfl]
    exact (by rw [Option.bind_some]; show (slices_pdqsortOrdered_int [] 0 0 0).bind _ = _; rw [e2]; rfl)
  unfold impl_SetOf slices_Clone_int
  rw [if_pos (by simp only [room, List.length_nil]; omega)]
  simp only [Option.bind_some, List.nil_append, e3]
  rfl
theorem chosen_none (a b : List Int) (h : ∀ x ∈ a, x ∈ b) (hb : b.length ≤ 1048576) (ha : a.length ≤ 1048576) : impl_chosen a b false = some [] := by
  unfold impl_chosen
  rw [append_loop a (fun _ _ => ([] : List Int)) (fun s => s) (fun _ _ => by simp) (by omega) (fun t i x hI hx => ?_) (fun t => ?_)]
  · have : ∀ (xs : List Int) (i : Nat), collect (fun _ _ => ([] : List Int)) i xs = [] := by
      intro xs
      induction xs with
      | nil => intro i; rfl
      | cons x xs ih => intro i; exact ih (i + 1)
    rw [this, Option.bind_some, setOf_nil]; rfl
  · have hlt := (List.getElem?_eq_some_iff.1 hx).1
    have hil : ((i : Int) < (a.length : Int)) := by omega
    have hm : b.any (fun y => x == y) = true := List.any_eq_true.2 ⟨x, h x (List.mem_of_getElem? hx), by simp⟩
    unfold impl_chosen_l1
    simp only [hil, decide_true, cond_true, idx_at hx, impl_Has_eq b x hb, hm, Option.bind_some]
    simp
  · unfold impl_chosen_l1; simp
theorem impl_Within_true (a b : List Int) (h : ∀ x ∈ a, x ∈ b) (hb : b.length ≤ 1048576) (ha : a.length ≤ 1048576) : impl_Within a b = some true := by
  unfold impl_Within impl_Rest
  rw [chosen_none a b h hb ha]
  rfl
theorem drawSettle_ok (code : List Int) (hl : code.length ≤ 1048576) : Tot (spec_DrawSettle code) (fun s => s.1.length ≤ 20 ∧ s.2.1.length ≤ 3) := by
  unfold spec_DrawSettle
  refine Tot.bind (l1New_ok code hl) ?_
  rintro c hc
  refine Tot.bind (l19State_ok c hc) ?_
  rintro y ⟨_, h1, h2⟩
  exact Tot.pure ⟨h1, h2⟩
theorem collect_none {α β : Type} (g : Nat → α → List β) : ∀ (xs : List α) (i : Nat), (collect g i xs).length = 0 → ∀ x ∈ xs, ∃ j, (g j x).length = 0
  | [], _, _, x, hx => nomatch hx
  | y :: xs, i, h, x, hx => by
    simp only [collect, List.length_append] at h
    rcases List.mem_cons.1 hx with rfl | hx
    · exact ⟨i, by omega⟩
    · exact collect_none g xs (i + 1) (by omega) x hx
theorem law_FnSettles (code : List Int) (w : code.length ≤ maxLen) : laws_FnSettles code = some true := by
  unfold laws_FnSettles laws_big
  by_cases hb : (code.length : Int) > 1048576
  · rw [decide_eq_true hb]; rfl
  · have hl : code.length ≤ 1048576 := by omega
    obtain ⟨s, hp, s1, s2⟩ := drawSettle_ok code hl
    rw [decide_eq_false hb]
    have hs1 : s.1.length ≤ 1048576 := by omega
    have hs2 : s.2.1.length ≤ 1048576 := by omega
    obtain ⟨r, e1, e2, ez, en⟩ := settle_eq s hs1 hs2
    have hr1 : r.1.1.length ≤ 1048576 := by rw [ez.1]; exact hs1
    have hr2 : r.1.2.1.length ≤ 1048576 := by rw [ez.2]; exact hs2
    obtain ⟨m, hm, hmw⟩ : ∃ m, impl_RoundsMost s = some m ∧ m = (s.2.1.length : Int) + 2 * (s.1.length : Int) := ⟨_, rfl, by
      rw [wrap_id (n := 2 * (s.1.length : Int)) (by omega) (by omega), wrap_id (by omega) (by omega)]⟩
    have hw := weight_le s
    have eloop : ∃ q, while_ impl_Settle_l1 ([], 0, ([], [], 0, 0, ()), s) = some q ∧ r = (q.2.2, q.1, q.2.1, ()) := by
      have h2 := e2
      unfold impl_Settle at h2
      rw [impl_copy_eq s hs1 hs2, Option.bind_some] at h2
      cases hq : while_ impl_Settle_l1 ([], 0, ([], [], 0, 0, ()), s) with
      | none => rw [hq] at h2; cases h2
      | some q => rw [hq] at h2; exact ⟨q, rfl, (Option.some.inj h2).symm⟩
    obtain ⟨q, hq, hrq⟩ := eloop
    simp only [hp, e1, e2, hm, Option.bind_some, impl_SameState_eq _ _ hr1 hr2, impl_SameNotes_eq _ _ en, eqD_refl (t := T_State) rfl, eqD_refl (t := .slice T_Note) rfl, bne_self_eq_false, Bool.not_true, cond_false, impl_StateOk_eq s hs1 hs2]
    cases hok : stateOkB s with
    | false =>
      have h3 := settle_bad s ([], [], 0, 0, ()) hs1 hs2 hok
      rw [h3] at hq
      cases hq
      subst hrq
      have hq1 : impl_Quiet s = some true := by
        unfold impl_Quiet
        simp only [impl_Round_eq s hs1 hs2, Option.bind_some]
        have : (roundV s).2.1 = [] := by unfold roundV; rw [hok]; rfl
        rw [this]; rfl
      have d0 : decide ((0 : Int) > m) = false := decide_eq_false (by omega)
      simp only [d0, hq1, cond_false, cond_true, Option.bind_some, Bool.not_true, Bool.not_false, impl_SameState_eq _ _ hs1 hs2, eqD_refl (t := T_State) rfl]
      rfl
    | true =>
      obtain ⟨q', h3, h4, h5, h6, h7, h8, h9⟩ := settle_fine s ([], [], 0, 0, ()) hok
      rw [h3] at hq
      cases hq
      have r1 : r.1 = q.2.2 := by rw [hrq]
      have r2 : r.2.2.1 = q.2.1 := by rw [hrq]
      rw [← r1] at h5 h6 h7
      rw [← r2] at h8 h9
      have hq1 : impl_Quiet r.1 = some true := by
        unfold impl_Quiet
        simp only [impl_Round_eq r.1 hr1 hr2, Option.bind_some, h5]
        rfl
      have d0 : decide (r.2.2.1 > m) = false := decide_eq_false (by omega)
      have hquiet := h5
      unfold roundV at hquiet
      rw [if_pos h6] at hquiet
      simp only [List.length_append] at hquiet
      have nS := collect_none noteS r.1.2.1 0 (by omega)
      have nP := collect_none noteP r.1.1 0 (by omega)
      have hP := (stateOk_iff r.1).1 h6
      have lp1 : while_ (laws_FnSettles_l1 r) 0 = some (.inl (r.1.1.length : Int)) := by
        rw [any_loop r.1.1 (fun _ _ => false) false (by omega) (fun i x hx => ?_) ?_]
        · have : ∀ (xs : List T_Piece.D) (i : Nat), anyI (fun _ _ => false) i xs = false := by
            intro xs
            induction xs with
            | nil => intro i; rfl
            | cons x xs ih => intro i; exact ih (i + 1)
          rw [this]; rfl
        · unfold laws_FnSettles_l1
          simp only [Int.lt_irrefl, decide_false, cond_false]
        · have hlt := (List.getElem?_eq_some_iff.1 hx).1
          have hil : ((i : Int) < (r.1.1.length : Int)) := by omega
          obtain ⟨j, hj⟩ := nP x (List.mem_of_getElem? hx)
          unfold noteP at hj
          have n1 : doomedB x = false := by cases hd : doomedB x; · rfl
                                            · rw [hd] at hj; simp at hj
          rw [n1] at hj
          have n2 : pairUpB x = false := by cases hd : pairUpB x; · rfl
                                            · rw [hd] at hj; simp at hj
          unfold laws_FnSettles_l1
          simp only [hil, decide_true, cond_true, idx_at hx, Int.toNat_natCast, hx, Option.bind_some, impl_Doomed_eq, n1, cond_false]
          have n3 : ¬ (x.2.2.2.2.2.2.2.2.1 > 0 ∧ x.2.2.2.2.2.2.2.2.2.1 > 0) := by
            rintro ⟨g1, g2⟩
            have hpc := hP.2.2.1 i x hx
            obtain ⟨k0, k9⟩ := (pieceOk_iff x.1 x.2.1 x.2.2.1 x.2.2.2.1 x.2.2.2.2.1 x.2.2.2.2.2.1 x.2.2.2.2.2.2.1 x.2.2.2.2.2.2.2.1 x.2.2.2.2.2.2.2.2.1 x.2.2.2.2.2.2.2.2.2.1 x.2.2.2.2.2.2.2.2.2.2.1 x.2.2.2.2.2.2.2.2.2.2.2.1 x.2.2.2.2.2.2.2.2.2.2.2.2.1 x.2.2.2.2.2.2.2.2.2.2.2.2.2).1 hpc.1
            have hz : x.2.2.2.1 = 2 := by
              rcases k9 with ⟨g, _⟩ | ⟨_, _, g, _⟩
              · exact g
              · exact absurd (show (0 : Int) < 0 from g ▸ g1) (by decide)
            unfold pairUpB pairN at n2
            rw [hz] at n2
            simp only [beq_self_eq_true, Bool.true_and, decide_eq_false_iff_not] at n2
            exact n2 (by split <;> assumption)
          by_cases g1 : x.2.2.2.2.2.2.2.2.1 > 0
          · have g2 : ¬ x.2.2.2.2.2.2.2.2.2.1 > 0 := fun g2 => n3 ⟨g1, g2⟩
            rw [decide_eq_true g1, decide_eq_false g2]; rfl
          · rw [decide_eq_false g1]; rfl
      have lp2 : while_ (laws_FnSettles_l2 r) 0 = some (.inl (r.1.2.1.length : Int)) := by
        rw [any_loop r.1.2.1 (fun _ _ => false) false (by omega) (fun i x hx => ?_) ?_]
        · have : ∀ (xs : List T_Side.D) (i : Nat), anyI (fun _ _ => false) i xs = false := by
            intro xs
            induction xs with
            | nil => intro i; rfl
            | cons x xs ih => intro i; exact ih (i + 1)
          rw [this]; rfl
        · unfold laws_FnSettles_l2
          simp only [Int.lt_irrefl, decide_false, cond_false]
        · have hlt := (List.getElem?_eq_some_iff.1 hx).1
          have hil : ((i : Int) < (r.1.2.1.length : Int)) := by omega
          obtain ⟨j, hj⟩ := nS x (List.mem_of_getElem? hx)
          unfold noteS at hj
          have n1 : losesB x = false := by cases hd : losesB x; · rfl
                                           · rw [hd] at hj; simp at hj
          unfold losesB at n1
          unfold laws_FnSettles_l2
          simp only [hil, decide_true, cond_true, idx_at hx, Int.toNat_natCast, hx, Option.bind_some]
          cases hx2 : x.2.2.1 with
          | true => rfl
          | false =>
            rw [hx2] at n1
            simp only [Bool.not_false, Bool.true_and, Bool.or_eq_false_iff] at n1
            have c2 := n1.2
            simp only [Bool.not_false, cond_true, n1.1, cond_false, c2, Option.bind_some]
      have w1 := impl_Within_true (collect (fieldG (-1)) 0 r.1.1) (collect (fieldG (-1)) 0 s.1) h7.1 (by have := collect_len (fieldG (-1)) (fieldG_len (-1)) s.1 0; omega) (by have := collect_len (fieldG (-1)) (fieldG_len (-1)) r.1.1 0; omega)
      have w2 := impl_Within_true (collect lostG 0 s.2.1) (collect lostG 0 r.1.2.1) h7.2 (by have := collect_len lostG lostG_len r.1.2.1 0; omega) (by have := collect_len lostG lostG_len s.2.1 0; omega)
      simp only [d0, hq1, cond_false, cond_true, Option.bind_some, Bool.not_true, lp1, lp2, impl_StateOk_eq _ hr1 hr2, h6, impl_OnField_eq _ _ hr1, impl_OnField_eq _ _ hs1, impl_LostOf_eq _ hr2, impl_LostOf_eq _ hs2, w1, w2]

end Go.Abs
