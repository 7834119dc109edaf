import Derived.Test.YtgccfenlidjfkaaGenE
import Derived.Test.YtgccfenlidjfkaaAbsDraw
set_option linter.unusedVariables false
set_option linter.unusedSimpArgs false
namespace Go.Abs
/-! ### Pieces found -/
def pieceAt (s : T_State.D) (a : Int) : Int := match findL (fun (x : T_Piece.D) => x.1 == a) s.1 with | some k => (k : Int) | none => -1
theorem pieceAt_cases (s : T_State.D) (a : Int) : pieceAt s a = -1 ∨ ∃ (k : Nat) (x : T_Piece.D), pieceAt s a = k ∧ s.1[k]? = some x ∧ x.1 = a := by
  unfold pieceAt
  obtain ⟨h1, h2⟩ := findL_spec (fun (x : T_Piece.D) => x.1 == a) s.1
  cases hf : findL (fun (x : T_Piece.D) => x.1 == a) s.1 with
  | none => exact .inl rfl
  | some k =>
    obtain ⟨x, g1, g2, _⟩ := h2 k hf
    exact .inr ⟨k, x, rfl, g1, by simpa using g2⟩
theorem spec_PieceAt_eq (s : T_State.D) (a : Int) (h : s.1.length ≤ 1048576) : spec_PieceAt s a = some (pieceAt s a) := by
  unfold spec_PieceAt pieceAt
  rw [index_loop s.1 (body := spec_PieceAt_l1 s a) (fun (x : T_Piece.D) => x.1 == a) (fun i => i) (by omega) (fun i x hx => ?_) ?_]
  · cases findL (fun (x : T_Piece.D) => x.1 == a) s.1 <;> rfl
  · unfold spec_PieceAt_l1
    simp
  · unfold spec_PieceAt_l1
    have hlt := (List.getElem?_eq_some_iff.1 hx).1
    have : ((i : Int) < (s.1.length : Int)) := by omega
    simp only [this, decide_true, cond_true, idx_at hx]
theorem index_piece (xs : List T_Piece.D) (hl : xs.length ≤ 1048576) (p : T_Piece.D → Bool) (q : (T_Piece.D × Unit) → Option Bool) (hq : ∀ x, q (x, ()) = some (p x)) :
    slices_IndexFunc_impl_Piece xs q = some (match findL p xs with | some k => (k : Int) | none => -1) := by
  unfold slices_IndexFunc_impl_Piece
  rw [index_loop xs (body := slices_IndexFunc_impl_Piece_l1 xs q) p (fun i => i) (by omega) (fun i x hx => ?_) ?_]
  · cases findL p xs <;> rfl
  · unfold slices_IndexFunc_impl_Piece_l1
    simp
  · unfold slices_IndexFunc_impl_Piece_l1
    have hlt := (List.getElem?_eq_some_iff.1 hx).1
    have : ((i : Int) < (xs.length : Int)) := by omega
    simp only [this, decide_true, cond_true, idx_at hx, hq, Option.bind_some]
theorem impl_PieceAt_eq (s : T_State.D) (a : Int) (h : s.1.length ≤ 1048576) : impl_PieceAt s a = some (pieceAt s a) := by
  unfold impl_PieceAt pieceAt
  rw [index_piece s.1 h (fun (x : T_Piece.D) => x.1 == a) _ (fun x => rfl)]
  rfl


/-! ### Numbers -/
def boundV (n : Int) : Int := if n > 2147483647 then 2147483647 else if n < -2147483647 then -2147483647 else n
theorem spec_Bound_eq (n : Int) : spec_Bound n = some (boundV n) := by
  unfold spec_Bound boundV
  simp only [cond_eq_ite, decide_eq_true_eq]
  split <;> (try split) <;> rfl
theorem impl_Bound_eq (n : Int) : impl_Bound n = some (boundV n) := by
  unfold impl_Bound boundV
  congr 1
  split <;> split <;> (try split) <;> (try split) <;> omega
def plusV (a b : Int) : Int := boundV (IntKind.wrap .i64 (boundV a + boundV b))
def lessV (a b : Int) : Int := boundV (IntKind.wrap .i64 (boundV a - boundV b))
theorem some_ite {c : Prop} [Decidable c] (a b : Bool) : (if c then some a else some b) = some (if c then a else b) := by split <;> rfl


theorem spec_Plus_eq (a b : Int) : spec_Plus a b = some (plusV a b) := by unfold spec_Plus; simp only [spec_Bound_eq, Option.bind_some]; rfl
theorem impl_Plus_eq (a b : Int) : impl_Plus a b = some (plusV a b) := by unfold impl_Plus; simp only [impl_Bound_eq, Option.bind_some]; rfl
theorem spec_Less_eq (a b : Int) : spec_Less a b = some (lessV a b) := by unfold spec_Less; simp only [spec_Bound_eq, Option.bind_some]; rfl
theorem impl_Less_eq (a b : Int) : impl_Less a b = some (lessV a b) := by unfold impl_Less; simp only [impl_Bound_eq, Option.bind_some]; rfl

theorem boundV_in (n : Int) : -2147483647 ≤ boundV n ∧ boundV n ≤ 2147483647 := by unfold boundV; split <;> (try split) <;> omega
theorem boundV_id {n : Int} (h1 : -2147483647 ≤ n) (h2 : n ≤ 2147483647) : boundV n = n := by unfold boundV; split <;> (try split) <;> omega
theorem plusV_in (a b : Int) : -2147483647 ≤ plusV a b ∧ plusV a b ≤ 2147483647 := boundV_in _
theorem lessV_in (a b : Int) : -2147483647 ≤ lessV a b ∧ lessV a b ≤ 2147483647 := boundV_in _
theorem plusV_nonneg {a b : Int} (ha : 0 ≤ a) (hb : 0 ≤ b) : 0 ≤ plusV a b := by
  unfold plusV
  have h1 := boundV_in a
  have h2 := boundV_in b
  have h3 : 0 ≤ boundV a := by unfold boundV; split <;> (try split) <;> omega
  have h4 : 0 ≤ boundV b := by unfold boundV; split <;> (try split) <;> omega
  rw [wrap_id (by omega) (by omega)]
  unfold boundV
  split <;> (try split) <;> omega

def up (a b : Int) : Int := if (if b < a then b else a) > 0 then (if b < a then b else a) else 0
theorem impl_Upto_eq (a b : Int) : impl_Upto a b = some (up a b) := rfl
theorem spec_Upto_eq (a b : Int) (hb : 0 ≤ b) : spec_Upto a b = some (up a b) := by
  unfold spec_Upto up
  simp only [cond_eq_ite, decide_eq_true_eq]
  split <;> simp only [Option.bind_some] <;> (try split) <;> (try split) <;> (try split) <;> first | rfl | (congr 1; omega) | omega

theorem hasTrait_eq (p : T_Piece.D) (t : Int) : spec_HasTrait p t = impl_HasTrait p t := by
  unfold spec_HasTrait impl_HasTrait
  cases h1 : t == 1 <;> cases h2 : t == 2 <;> cases h4 : t == 4 <;> cases h8 : t == 8 <;> cases h16 : t == 16 <;> cases h32 : t == 32 <;> simp only [cond_true, cond_false, Option.bind_some]
theorem hasTrait_some (p : T_Piece.D) (t : Int) : ∃ b, spec_HasTrait p t = some b := by
  unfold spec_HasTrait
  simp only [cond_eq_ite]
  repeat' split
  all_goals exact ⟨_, rfl⟩

def hasTraitB (p : T_Piece.D) (t : Int) : Bool := (impl_HasTrait p t).getD false
theorem impl_HasTrait_eq (p : T_Piece.D) (t : Int) : impl_HasTrait p t = some (hasTraitB p t) := by
  obtain ⟨b, h⟩ := hasTrait_some p t
  rw [hasTrait_eq] at h
  unfold hasTraitB
  rw [h]; rfl
theorem spec_HasTrait_eq (p : T_Piece.D) (t : Int) : spec_HasTrait p t = some (hasTraitB p t) := by rw [hasTrait_eq, impl_HasTrait_eq]

/-! ### Doomed -/
theorem bound_eq (n : Int) : spec_Bound n = impl_Bound n := by
  unfold spec_Bound impl_Bound
  simp only [cond_eq_ite, decide_eq_true_eq]
  split <;> split <;> (try split) <;> (try split) <;> first | rfl | (congr 1; omega) | omega
theorem plus_eq (a b : Int) : spec_Plus a b = impl_Plus a b := by unfold spec_Plus impl_Plus; simp only [bound_eq]
theorem less_eq (a b : Int) : spec_Less a b = impl_Less a b := by unfold spec_Less impl_Less; simp only [bound_eq]
theorem tough_eq (p : T_Piece.D) : spec_ToughOf p = impl_ToughOf p := by unfold spec_ToughOf impl_ToughOf; simp only [plus_eq, less_eq]
theorem tough_some (p : T_Piece.D) : ∃ m, impl_ToughOf p = some m := by simp [impl_ToughOf, impl_Plus, impl_Less, impl_Bound]
theorem doomed_eq (p : T_Piece.D) : ∃ b, spec_Doomed p = some b ∧ impl_Doomed p = some b ∧ (b = true → (p.2.2.2.1 == 2) = true) := by
  unfold spec_Doomed impl_Doomed
  obtain ⟨m, hm⟩ := tough_some p
  obtain ⟨b, hb⟩ := hasTrait_some p 8
  simp only [tough_eq, hm, ← hasTrait_eq, hb, Option.bind_some]
  unfold bne
  cases h : p.2.2.2.1 == 2 <;> simp only [Bool.not_true, Bool.not_false, cond_true, cond_false]
  · exact ⟨_, rfl, rfl, by simp⟩
  · cases decide (m ≤ 0) <;> cases b <;> cases p.2.2.2.2.2.2.2.2.2.2.2.1 <;> exact ⟨_, rfl, rfl, by simp⟩
def doomedB (p : T_Piece.D) : Bool := (impl_Doomed p).getD false
theorem impl_Doomed_eq (p : T_Piece.D) : impl_Doomed p = some (doomedB p) := by
  obtain ⟨b, _, h, _⟩ := doomed_eq p
  unfold doomedB
  rw [h]; rfl
theorem spec_Doomed_eq (p : T_Piece.D) : spec_Doomed p = some (doomedB p) := by
  obtain ⟨b, h1, h, _⟩ := doomed_eq p
  unfold doomedB
  rw [h, h1]; rfl
theorem doomed_zone (p : T_Piece.D) (h : doomedB p = true) : (p.2.2.2.1 == 2) = true := by
  obtain ⟨b, _, h2, h3⟩ := doomed_eq p
  unfold doomedB at h
  rw [h2] at h
  exact h3 h

/-! ### Doomed, in its parts -/
def toughV (p : T_Piece.D) : Int := (impl_ToughOf p).getD 0
theorem impl_ToughOf_eq (p : T_Piece.D) : impl_ToughOf p = some (toughV p) := by
  obtain ⟨m, h⟩ := tough_some p
  unfold toughV
  rw [h]; rfl
theorem doomed_val (p : T_Piece.D) : doomedB p = ((p.2.2.2.1 == 2) && (decide (toughV p ≤ 0) || (!hasTraitB p 8 && (p.2.2.2.2.2.2.2.2.2.2.2.1 || decide (p.2.2.2.2.2.2.2.2.2.2.1 ≥ toughV p))))) := by
  have h := impl_Doomed_eq p
  unfold impl_Doomed at h
  simp only [impl_ToughOf_eq, impl_HasTrait_eq, Option.bind_some] at h
  cases h1 : (p.2.2.2.1 == 2) <;> cases h2 : decide (toughV p ≤ 0) <;> cases h3 : hasTraitB p 8 <;> cases h4 : p.2.2.2.2.2.2.2.2.2.2.2.1 <;> cases h5 : decide (p.2.2.2.2.2.2.2.2.2.2.1 ≥ toughV p) <;> simp [h1, h2, h3, h4, h5] at h ⊢ <;> simp_all
theorem up_in (a : Int) : 0 ≤ up a 2147483647 ∧ up a 2147483647 ≤ 2147483647 := by unfold up; split <;> split <;> omega
theorem up_le {a n : Int} (h : a ≤ n) (h0 : 0 ≤ n) : up a 2147483647 ≤ n := by unfold up; split <;> split <;> omega
theorem lessV_le {n x : Int} (h : 0 ≤ n) (hx : 0 ≤ x) : lessV n x ≤ n := by
  unfold lessV
  have h1 := boundV_in n
  have h2 := boundV_in x
  have h3 : boundV n ≤ n := by unfold boundV; split <;> (try split) <;> omega
  have h4 : 0 ≤ boundV x := by unfold boundV; split <;> (try split) <;> omega
  rw [wrap_id (by omega) (by omega)]
  unfold boundV at *
  split <;> (try split) <;> omega

theorem hurt_eq (s : T_State.D) (a : Int) (h : s.1.length ≤ 1048576) : ∃ m, spec_HurtOf s a = some m ∧ impl_HurtOf s a = some m := by
  unfold spec_HurtOf impl_HurtOf
  simp only [spec_PieceAt_eq s a h, impl_PieceAt_eq s a h, Option.bind_some]
  rcases pieceAt_cases s a with h | ⟨k, x, h1, h2, _⟩
  · rw [h]; exact ⟨0, rfl, rfl⟩
  · rw [h1, dec_neg (by omega)]
    simp only [cond_false, idx_at h2]
    exact ⟨_, rfl, rfl⟩

/-! ### Draws: they end, and the cursor stays right -/
def curOk (c : T_l1Cur.D) : Prop := 0 ≤ c.2.1 ∧ c.1.length ≤ 1048576
theorem l1Byte_ok' (b : List Int) (i g : Int) (u : Unit) (h0 : 0 ≤ i) (h1 : b.length ≤ 1048576) : Tot (spec_l1Byte (b, i, g, u)) (fun y => curOk y.2.1 ∧ 0 ≤ y.1 ∧ y.1 ≤ 255) := by
  unfold spec_l1Byte
  simp only
  rw [if_pos (by decide), if_pos (by decide)]
  refine Tot.bif (fun hl => ?_) (fun _ => ?_)
  · have hl : i < (b.length : Int) := of_decide_eq_true hl
    refine Tot.idx h0 hl fun n x e hx => ?_
    obtain ⟨m, e1, e2⟩ := mask_byte (IntKind.wrap .i64 (IntKind.wrap .i64 (BitVec.ofInt (IntKind.bits .i64) (IntKind.wrap .i64 (BitVec.ofInt (IntKind.bits .i64) ((IntKind.wrap .i64 ((IntKind.wrap .i64 (g * 6364136223846793005)) + 1442695040888963407)).fdiv (2 ^ min (33 : Int).toNat (IntKind.bits .i64))) ^^^ BitVec.ofInt (IntKind.bits .i64) ((IntKind.wrap .i64 ((IntKind.wrap .i64 (g * 6364136223846793005)) + 1442695040888963407)).fdiv (2 ^ min (47 : Int).toNat (IntKind.bits .i64)))).toNat) &&& BitVec.ofInt (IntKind.bits .i64) 255).toNat + IntKind.wrap .i64 x))
    refine Tot.pure ⟨⟨?_, h1⟩, ?_, ?_⟩
    · show (0 : Int) ≤ IntKind.wrap .i64 (i + 1)
      rw [wrap_id (by omega) (by omega)]; omega
    · simp only; rw [e1]; omega
    · simp only; rw [e1]; omega
  · obtain ⟨m, e1, e2⟩ := mask_byte (IntKind.wrap .i64 (BitVec.ofInt (IntKind.bits .i64) ((IntKind.wrap .i64 ((IntKind.wrap .i64 (g * 6364136223846793005)) + 1442695040888963407)).fdiv (2 ^ min (33 : Int).toNat (IntKind.bits .i64))) ^^^ BitVec.ofInt (IntKind.bits .i64) ((IntKind.wrap .i64 ((IntKind.wrap .i64 (g * 6364136223846793005)) + 1442695040888963407)).fdiv (2 ^ min (47 : Int).toNat (IntKind.bits .i64)))).toNat)
    refine Tot.pure ⟨⟨h0, h1⟩, ?_, ?_⟩
    · simp only; rw [e1]; omega
    · simp only; rw [e1]; omega
theorem l1Byte_ok (c : T_l1Cur.D) (h : curOk c) : Tot (spec_l1Byte c) (fun y => curOk y.2.1 ∧ 0 ≤ y.1 ∧ y.1 ≤ 255) := l1Byte_ok' c.1 c.2.1 c.2.2.1 c.2.2.2 h.1 h.2
theorem l1Below_ok (c : T_l1Cur.D) (n : Int) (h : curOk c) : Tot (spec_l1Below c n) (fun y => curOk y.2.1 ∧ 0 ≤ y.1 ∧ (0 < n → y.1 < n)) := by
  unfold spec_l1Below
  refine Tot.bif (fun hn => ?_) (fun hn => ?_)
  · have hn : n ≤ 0 := of_decide_eq_true hn
    exact Tot.pure ⟨h, Int.le_refl _, fun h => by omega⟩
  · have hn : ¬ n ≤ 0 := of_decide_eq_false hn
    refine Tot.bif (fun _ => ?_) (fun _ => ?_)
    · refine Tot.bind (l1Byte_ok c h) ?_
      rintro y ⟨hc, h0, h1⟩
      rw [if_neg (by omega)]
      exact Tot.pure ⟨hc, Int.tmod_nonneg _ h0, fun hp => Int.tmod_lt_of_pos _ hp⟩
    · refine Tot.bind (l1Byte_ok c h) ?_
      rintro y2 ⟨hc2, h20, h21⟩
      refine Tot.bind (l1Byte_ok _ hc2) ?_
      rintro y3 ⟨hc3, h30, h31⟩
      refine Tot.bind (l1Byte_ok _ hc3) ?_
      rintro y4 ⟨hc4, h40, h41⟩
      show Tot (if n = 0 then none else some ((IntKind.wrap .i64 (IntKind.wrap .i64 (IntKind.wrap .i64 (y2.1 * 65536) + IntKind.wrap .i64 (y3.1 * 256)) + y4.1)).tmod n, y4.2)) _
      rw [wrap_id (n := y2.1 * 65536) (by omega) (by omega), wrap_id (n := y3.1 * 256) (by omega) (by omega), wrap_id (n := y2.1 * 65536 + y3.1 * 256) (by omega) (by omega), wrap_id (n := y2.1 * 65536 + y3.1 * 256 + y4.1) (by omega) (by omega), if_neg (by omega)]
      exact Tot.pure ⟨hc4, Int.tmod_nonneg _ (by omega), fun hp => Int.tmod_lt_of_pos _ hp⟩
theorem l1Int_ok (c : T_l1Cur.D) (l : List Int) (h : curOk c) (hl : 0 < l.length) : Tot (spec_l1Int c l) (fun y => curOk y.2.1 ∧ y.1 ∈ l) := by
  unfold spec_l1Int
  refine Tot.bind (l1Below_ok c _ h) ?_
  rintro y ⟨hc, h0, h1⟩
  refine Tot.idx h0 (h1 (by omega)) fun n x e hx => ?_
  exact Tot.pure ⟨hc, List.mem_of_getElem? hx⟩
theorem l1Once_ok (c : T_l1Cur.D) (n : Int) (h : curOk c) : Tot (spec_l1Once c n) (fun y => curOk y.2.1 ∧ True) := by
  unfold spec_l1Once
  refine Tot.bind (l1Below_ok c _ h) ?_
  rintro y ⟨hc, h0, h1⟩
  exact Tot.pure ⟨hc, trivial⟩
theorem l1Odd_ok (c : T_l1Cur.D) (h : curOk c) : Tot (spec_l1Odd c) (fun y => curOk y.2.1 ∧ True) := by
  unfold spec_l1Odd
  refine Tot.bind (l1Int_ok c _ h (by decide)) ?_
  rintro y ⟨hc, _⟩
  exact Tot.pure ⟨hc, trivial⟩
theorem l1Raw_ok (c : T_l1Cur.D) (h : curOk c) : Tot (spec_l1Raw c) (fun y => curOk y.2.1 ∧ True) := by
  unfold spec_l1Raw
  refine Tot.bind (l1Once_ok c _ h) ?_
  rintro y ⟨hc, _⟩
  refine Tot.bif (fun _ => ?_) (fun _ => ?_)
  · refine Tot.bind (l1Odd_ok _ hc) ?_
    rintro y ⟨hc, _⟩
    exact Tot.pure ⟨hc, trivial⟩
  · refine Tot.bind (l1Int_ok _ _ hc (by decide)) ?_
    rintro y ⟨hc, _⟩
    exact Tot.pure ⟨hc, trivial⟩
theorem l4Draw_ok (c : T_l1Cur.D) (id : Int) (h : curOk c) : Tot (spec_l4Draw c id) (fun y => curOk y.2.1 ∧ True) := by
  unfold spec_l4Draw
  refine Tot.bind (l1Below_ok c _ h) ?_
  rintro y1 ⟨_, _⟩
  refine Tot.bind (l1Int_ok _ _ (by assumption) (by decide)) ?_
  rintro y2 ⟨_, _⟩
  refine Tot.bind (l1Below_ok _ _ (by assumption)) ?_
  rintro y3 ⟨_, _⟩
  refine Tot.bind (l1Below_ok _ _ (by assumption)) ?_
  rintro y4 ⟨_, _⟩
  refine Tot.bind (l1Below_ok _ _ (by assumption)) ?_
  rintro y5 ⟨h5, _⟩
  refine Tot.bind (P := fun o => curOk o.2.1) (Tot.while (fun s => curOk s.2.1 ∧ 0 ≤ s.1 ∧ s.1 ≤ 6) (fun s => 6 - s.1.toNat) ?_ ⟨h5, by simp only; omega, by simp only; omega⟩) ?_
  · rintro ⟨i, cc, t⟩ ⟨g1, g2, g3⟩
    simp only at g1 g2 g3
    unfold spec_l4Draw_l1
    simp only
    refine Tot.bif (fun hl => ?_) (fun _ => ?_)
    · have hl : i < (6 : Int) := of_decide_eq_true hl
      refine Tot.idx g2 (by simpa using hl) fun n x e hx => ?_
      subst e
      rw [Int.toNat_natCast, hx, Option.bind_some]
      refine Tot.bind (l1Once_ok _ _ g1) ?_
      rintro y ⟨hc, _⟩
      refine Tot.bif (fun _ => ?_) (fun _ => ?_) <;> refine Tot.pure ⟨⟨hc, ?_, ?_⟩, ?_⟩ <;> simp only <;> rw [wrap_id (by omega) (by omega)] <;> omega
    · exact Tot.pure g1
  · rintro o ho
    refine Tot.bif (fun _ => Tot.pure ⟨ho, trivial⟩) (fun _ => ?_)
    refine Tot.bind (l1Once_ok _ _ ho) ?_
    rintro y12 ⟨h12, _⟩
    refine Tot.bind (P := fun _ => True) (Tot.bif (fun _ => Tot.pure trivial) (fun _ => Tot.pure trivial)) ?_
    rintro o13 _
    refine Tot.bind (l1Int_ok _ _ h12 (by decide)) ?_
    rintro y14 ⟨h14, _⟩
    refine Tot.bind (l1Int_ok _ _ h14 (by decide)) ?_
    rintro y15 ⟨h15, _⟩
    refine Tot.bind (l1Int_ok _ _ h15 (by decide)) ?_
    rintro y16 ⟨h16, _⟩
    refine Tot.bind (l1Once_ok _ _ h16) ?_
    rintro y17 ⟨h17, _⟩
    exact Tot.pure ⟨h17, trivial⟩
theorem l4Any_ok (c : T_l1Cur.D) (h : curOk c) : Tot (spec_l4Any c) (fun y => curOk y.2.1 ∧ True) := by
  unfold spec_l4Any
  refine Tot.bind (l1Below_ok c _ h) ?_
  rintro y1 ⟨h1, _⟩
  refine Tot.bind (l4Draw_ok _ _ h1) ?_
  rintro y2 ⟨h2, _⟩
  refine Tot.bind (l1Below_ok _ _ h2) ?_
  rintro y3 ⟨h3, _⟩
  repeat' first
    | refine Tot.bif (fun _ => ?_) (fun _ => ?_)
    | (refine Tot.bind (l1Int_ok _ _ h3 (by decide)) ?_; rintro y ⟨hy, _⟩; exact Tot.pure ⟨hy, trivial⟩)
    | (refine Tot.bind (l1Raw_ok _ h3) ?_; rintro y ⟨hy, _⟩; exact Tot.pure ⟨hy, trivial⟩)
    | exact Tot.pure ⟨h3, trivial⟩
theorem l5Draw_ok (c : T_l1Cur.D) (h : curOk c) : Tot (spec_l5Draw c) (fun y => curOk y.2.1 ∧ 1 ≤ y.1.1.length ∧ y.1.1.length ≤ 6 ∧ y.1.2.1.length = 2) := by
  unfold spec_l5Draw
  refine Tot.bind (P := fun s => s.1.length = 0 ∧ s.2.1.length = 2) ⟨_, rfl, rfl, rfl⟩ ?_
  rintro y1 ⟨p1, p2⟩
  refine Tot.bind (l1Below_ok c _ h) ?_
  rintro y2 ⟨h2, _⟩
  refine Tot.bind (l1Below_ok _ _ h2) ?_
  rintro y3 ⟨h3, _⟩
  refine Tot.bind (P := fun o => curOk o.2.1 ∧ o.2.2.1.length = 0 ∧ o.2.2.2.1.length = 2) (Tot.while (fun s => curOk s.2.1 ∧ s.2.2.1.length = 0 ∧ s.2.2.2.1.length = 2 ∧ 0 ≤ s.1 ∧ s.1 ≤ 2) (fun s => 2 - s.1.toNat) ?_ ⟨h3, p1, p2, by simp only; omega, by simp only; omega⟩) ?_
  · rintro ⟨i, cc, ps, ss, t⟩ ⟨g1, g2, g3, g4, g5⟩
    simp only at g1 g2 g3 g4 g5
    unfold spec_l5Draw_l1
    simp only
    refine Tot.bif (fun hl => ?_) (fun _ => Tot.pure ⟨g1, g2, g3⟩)
    have hl : i < (2 : Int) := of_decide_eq_true hl
    refine Tot.bind (l1Int_ok _ _ g1 (by decide)) ?_
    rintro y7 ⟨h7, _⟩
    refine Tot.idx g4 (by omega) fun n x e hx => ?_
    subst e
    rw [Int.toNat_natCast, hx, Option.bind_some]
    refine Tot.bind (l1Int_ok _ _ h7 (by decide)) ?_
    rintro y10 ⟨h10, _⟩
    have hn : n < ss.length := by omega
    rw [idx_set hn, get_set hn, Option.bind_some]
    refine Tot.pure ⟨⟨h10, g2, by simp only [List.length_set]; exact g3, ?_, ?_⟩, ?_⟩ <;> simp only <;> rw [wrap_id (by omega) (by omega)] <;> omega
  · rintro o ⟨g1, g2, g3⟩
    refine Tot.bind (l1Below_ok _ _ g1) ?_
    rintro y14 ⟨h14, h14a, h14b⟩
    have hlt := h14b (by decide)
    rw [wrap_id (n := 1 + y14.1) (by omega) (by omega)]
    refine Tot.bind (P := fun o => curOk o.2.2.1 ∧ 1 ≤ o.2.2.2.1.length ∧ o.2.2.2.1.length ≤ 6 ∧ o.2.2.2.2.1.length = 2) (Tot.while (fun s => curOk s.2.2.1 ∧ 0 ≤ s.2.1 ∧ (s.2.2.2.1.length : Int) + s.2.1 = 1 + y14.1 ∧ s.2.2.2.2.1.length = 2) (fun s => s.2.1.toNat) ?_ ⟨h14, by simp only; omega, by simp only; omega, g3⟩) ?_
    · rintro ⟨id, i, cc, ps, ss, t⟩ ⟨k1, k2, k3, k4⟩
      simp only at k1 k2 k3 k4
      unfold spec_l5Draw_l2
      simp only
      refine Tot.bif (fun hl => ?_) (fun hl => Tot.pure ⟨k1, ?_, ?_, k4⟩)
      · have hl : i > 0 := of_decide_eq_true hl
        refine Tot.bind (l1Below_ok _ _ k1) ?_
        rintro y18 ⟨h18, _⟩
        refine Tot.bind (l4Draw_ok _ _ h18) ?_
        rintro y19 ⟨h19, _⟩
        rw [if_pos (by simp only [room, List.length_cons, List.length_nil]; omega)]
        refine Tot.pure ⟨⟨h19, ?_, ?_, k4⟩, ?_⟩ <;> simp only [List.length_append, List.length_cons, List.length_nil] <;> rw [wrap_id (n := i - 1) (by omega) (by omega)] <;> omega
      · have hl : ¬ i > 0 := of_decide_eq_false hl
        simp only; omega
      · have hl : ¬ i > 0 := of_decide_eq_false hl
        simp only; omega
    · rintro o ⟨k1, k2⟩
      exact Tot.pure ⟨k1, k2⟩
theorem l5Any_ok (c : T_l1Cur.D) (h : curOk c) : Tot (spec_l5Any c) (fun y => curOk y.2.1 ∧ y.1.1.length ≤ 20 ∧ y.1.2.1.length ≤ 3) := by
  unfold spec_l5Any
  refine Tot.bind (l5Draw_ok c h) ?_
  rintro ⟨⟨ps, ss, t⟩, c1⟩ ⟨h1, g1, g2, g3⟩
  simp only at h1 g1 g2 g3
  refine Tot.bind (l1Below_ok _ _ h1) ?_
  rintro y2 ⟨h2, _⟩
  refine Tot.bif (fun _ => ?_) (fun _ => ?_)
  · refine Tot.bind (l1Int_ok _ _ h2 (by decide)) ?_
    rintro y ⟨hy, _⟩
    exact Tot.pure ⟨hy, by simp only; omega, by simp only; omega⟩
  refine Tot.bif (fun _ => ?_) (fun _ => ?_)
  · refine Tot.bind (l1Int_ok _ _ h2 (by decide)) ?_
    rintro y ⟨hy, _⟩
    exact Tot.pure ⟨hy, by simp only; omega, by simp only; omega⟩
  refine Tot.bif (fun _ => ?_) (fun _ => ?_)
  · refine Tot.bind (l1Raw_ok _ h2) ?_
    rintro y ⟨hy, _⟩
    rw [if_pos (by simp only [room, List.length_cons, List.length_nil]; omega)]
    exact Tot.pure ⟨hy, by simp only; omega, by simp only [List.length_append, List.length_cons, List.length_nil]; omega⟩
  refine Tot.bif (fun _ => ?_) (fun _ => ?_)
  · refine Tot.bind (l1Raw_ok _ h2) ?_
    rintro y ⟨hy, _⟩
    refine Tot.idx (by decide) (by simp only; omega) fun n x e hx => ?_
    have : n = 0 := by omega
    subst this
    rw [show ((0 : Int)).toNat = 0 from rfl, hx, Option.bind_some]
    exact Tot.pure ⟨hy, by simp only; omega, by simp only [List.length_set]; omega⟩
  refine Tot.bif (fun _ => ?_) (fun _ => ?_)
  · refine Tot.bind (l4Any_ok _ h2) ?_
    rintro y ⟨hy, _⟩
    rw [if_pos (by simp only [room, List.length_cons, List.length_nil]; omega)]
    exact Tot.pure ⟨hy, by simp only [List.length_append, List.length_cons, List.length_nil]; omega, by simp only; omega⟩
  refine Tot.bif (fun _ => ?_) (fun _ => ?_)
  · rw [if_pos (by decide), if_pos (by decide), if_pos (by simp only; omega)]
    exact Tot.pure ⟨h2, by simp only; omega, by simp only [List.length_drop, List.length_take]; omega⟩
  refine Tot.bif (fun _ => ?_) (fun _ => ?_)
  · refine Tot.bind (l4Any_ok _ h2) ?_
    rintro y ⟨hy, _⟩
    refine Tot.idx (by decide) (by simp only; omega) fun n x e hx => ?_
    have : n = 0 := by omega
    subst this
    rw [show ((0 : Int)).toNat = 0 from rfl, hx, Option.bind_some]
    exact Tot.pure ⟨hy, by simp only [List.length_set]; omega, by simp only; omega⟩
  refine Tot.bif (fun _ => ?_) (fun _ => ?_)
  · refine Tot.bind (P := fun o => curOk o.2.1 ∧ o.2.2.1.length ≤ 20 ∧ o.2.2.2.1.length ≤ 3) (Tot.while (fun s => curOk s.2.1 ∧ 40 ≤ s.1 ∧ s.1 ≤ 46 ∧ (s.2.2.1.length : Int) ≤ s.1 - 34 ∧ s.2.2.2.1.length ≤ 3) (fun s => 46 - s.1.toNat) ?_ ⟨h2, by simp only; omega, by simp only; omega, by simp only; omega, by simp only; omega⟩) ?_
    · rintro ⟨i, cc, ps, ss, t⟩ ⟨k1, k2, k3, k4, k5⟩
      simp only at k1 k2 k3 k4 k5
      unfold spec_l5Any_l1
      simp only
      refine Tot.bif (fun hl => ?_) (fun hl => Tot.pure ⟨k1, by simp only; omega, k5⟩)
      have hl : i < 46 := of_decide_eq_true hl
      refine Tot.bind (l4Draw_ok _ _ k1) ?_
      rintro y ⟨hy, _⟩
      rw [if_pos (by simp only [room, List.length_cons, List.length_nil]; omega)]
      refine Tot.pure ⟨⟨hy, ?_, ?_, ?_, k5⟩, ?_⟩ <;> simp only [List.length_append, List.length_cons, List.length_nil] <;> rw [wrap_id (n := i + 1) (by omega) (by omega)] <;> omega
    · rintro o ⟨k1, k2, k3⟩
      exact Tot.pure ⟨k1, k2, k3⟩
  exact Tot.pure ⟨h2, by simp only; omega, by simp only; omega⟩
theorem l6Id_ok (c : T_l1Cur.D) (s : T_State.D) (h : curOk c) : Tot (spec_l6Id c s) (fun y => curOk y.2.1 ∧ True) := by
  unfold spec_l6Id
  refine Tot.bind (P := fun o => curOk o.2 ∧ (o.1 = false → 0 < s.1.length)) (Tot.bif (fun _ => Tot.pure ⟨h, by simp⟩) (fun he => ?_)) ?_
  · have he : 0 < s.1.length := by
      rw [beq_eq_false_iff_ne] at he
      omega
    refine Tot.bind (l1Once_ok _ _ h) ?_
    rintro y ⟨hy, _⟩
    exact Tot.pure ⟨hy, fun _ => he⟩
  · rintro o ⟨ho, hl⟩
    refine Tot.bif (fun _ => ?_) (fun hf => ?_)
    · refine Tot.bind (l1Below_ok _ _ ho) ?_
      rintro y ⟨hy, _⟩
      exact Tot.pure ⟨hy, trivial⟩
    · have := hl hf
      refine Tot.bind (l1Below_ok _ _ ho) ?_
      rintro y ⟨hy, h0, h1⟩
      refine Tot.idx h0 (h1 (by omega)) fun n x e hx => ?_
      exact Tot.pure ⟨hy, trivial⟩
theorem l1New_ok (code : List Int) (hl : code.length ≤ 1048576) : Tot (spec_l1New code) (fun c => curOk c) := by
  unfold spec_l1New
  refine Tot.bind (P := fun _ => True) (Tot.while (fun s => 0 ≤ s.2 ∧ s.2 ≤ (code.length : Int)) (fun s => code.length - s.2.toNat) ?_ ⟨by simp only; omega, by simp only; omega⟩) ?_
  · rintro ⟨g, i⟩ ⟨k1, k2⟩
    simp only at k1 k2
    unfold spec_l1New_l1
    simp only
    refine Tot.bind (P := fun o => o = true → i < (code.length : Int)) (Tot.bif (fun hl => Tot.pure (fun _ => of_decide_eq_true hl)) (fun _ => Tot.pure (fun h => by cases h))) ?_
    rintro o ho
    refine Tot.bif (fun hb => ?_) (fun _ => Tot.pure trivial)
    have hlt := ho hb
    refine Tot.idx k1 hlt fun n x e hx => ?_
    refine Tot.pure ⟨⟨?_, ?_⟩, ?_⟩ <;> simp only <;> rw [wrap_id (n := i + 1) (by omega) (by omega)] <;> omega
  · rintro o _
    exact Tot.pure ⟨Int.le_refl _, hl⟩

/-! ### FnDooms -/
theorem drawDoomed_ok (code : List Int) (hl : code.length ≤ 1048576) : Tot (spec_DrawDoomed code) (fun _ => True) := by
  unfold spec_DrawDoomed
  refine Tot.bind (l1New_ok code hl) ?_
  rintro c hc
  refine Tot.bind (l4Any_ok c hc) ?_
  rintro y2 ⟨h2, _⟩
  refine Tot.bind (l1Below_ok _ _ h2) ?_
  rintro y3 ⟨h3, _⟩
  have ht : Tot (spec_ToughOf y2.1) (fun _ => True) := by
    obtain ⟨m, hm⟩ := tough_some y2.1
    exact ⟨m, by rw [tough_eq]; exact hm, trivial⟩
  repeat' first
    | refine Tot.bif (fun _ => ?_) (fun _ => ?_)
    | exact Tot.pure trivial
    | (refine Tot.bind ht ?_; rintro t _)
    | (rw [spec_Plus_eq, Option.bind_some])
theorem drawOver_ok (code : List Int) (hl : code.length ≤ 1048576) : Tot (spec_DrawOver code) (fun _ => True) := by
  unfold spec_DrawOver
  refine Tot.bind (l1New_ok code hl) ?_
  rintro c hc
  refine Tot.bind (l4Any_ok c hc) ?_
  rintro y2 ⟨h2, _⟩
  refine Tot.bind (l1Once_ok _ _ h2) ?_
  rintro y3 ⟨h3, _⟩
  refine Tot.bif (fun _ => ?_) (fun _ => ?_)
  · refine Tot.bind (l1Raw_ok _ h3) ?_
    rintro y ⟨hy, _⟩
    exact Tot.pure trivial
  · refine Tot.bind (P := fun _ => True) ?_ (fun y _ => Tot.pure trivial)
    unfold spec_l1Amount
    refine Tot.bind (l1Int_ok _ _ h3 (by decide)) ?_
    rintro y ⟨hy, _⟩
    exact Tot.pure trivial
theorem drawHurtOf_ok (code : List Int) (hl : code.length ≤ 1048576) : Tot (spec_DrawHurtOf code) (fun y => y.1.1.length ≤ 20 ∧ y.1.2.1.length ≤ 3) := by
  unfold spec_DrawHurtOf
  refine Tot.bind (l1New_ok code hl) ?_
  rintro c hc
  refine Tot.bind (l5Any_ok c hc) ?_
  rintro y2 ⟨h2, g1, g2⟩
  refine Tot.bind (l6Id_ok _ _ h2) ?_
  rintro y3 ⟨h3, _⟩
  exact Tot.pure ⟨g1, g2⟩
theorem impl_Over_eq (p : T_Piece.D) (n : Int) : impl_Over p n = some (up (lessV n (up (lessV (toughV p) p.2.2.2.2.2.2.2.2.2.2.1) 2147483647)) 2147483647) := by
  unfold impl_Over
  simp only [impl_ToughOf_eq, impl_Less_eq, impl_Upto_eq, Option.bind_some]
theorem spec_Over_eq (p : T_Piece.D) (n : Int) : spec_Over p n = impl_Over p n := by
  unfold spec_Over impl_Over
  simp only [tough_eq, less_eq, spec_Upto_eq _ 2147483647 (by decide), impl_Upto_eq]
theorem law_FnDooms (code : List Int) (w : code.length ≤ maxLen) : laws_FnDooms code = some true := by
  unfold laws_FnDooms laws_big
  by_cases hb : (code.length : Int) > 1048576
  · rw [decide_eq_true hb]; rfl
  · have hl : code.length ≤ 1048576 := by omega
    obtain ⟨p, hp, _⟩ := drawDoomed_ok code hl
    obtain ⟨⟨q, n, u⟩, hq, _⟩ := drawOver_ok code hl
    obtain ⟨⟨s, id, u'⟩, hs, h1, h2⟩ := drawHurtOf_ok code hl
    simp only at h1 h2
    obtain ⟨m, e1, e2⟩ := hurt_eq s id (by omega)
    rw [decide_eq_false hb]
    have ho := up_in (lessV n (up (lessV (toughV q) q.2.2.2.2.2.2.2.2.2.2.1) 2147483647))
    have hn : 0 ≤ n → up (lessV n (up (lessV (toughV q) q.2.2.2.2.2.2.2.2.2.2.1) 2147483647)) 2147483647 ≤ n := fun h => up_le (lessV_le h (up_in _).1) h
    simp only [hp, hq, hs, e1, e2, impl_Doomed_eq, spec_Doomed_eq, spec_Over_eq, impl_Over_eq, impl_ToughOf_eq, impl_HasTrait_eq, Option.bind_some, bne_self_eq_false, cond_false]
    generalize up (lessV n (up (lessV (toughV q) q.2.2.2.2.2.2.2.2.2.2.1) 2147483647)) 2147483647 = o at ho hn
    rw [decide_eq_true (p := o ≥ 0) ho.1]
    have hno : decide (n < 0) = false → decide (o ≤ n) = true := fun h => decide_eq_true (hn (by have := of_decide_eq_false h; omega))
    have hv := doomed_val p
    have t1 : decide (toughV p > 0) = !decide (toughV p ≤ 0) := by
      by_cases h : toughV p ≤ 0
      · rw [decide_eq_true h, decide_eq_false (by omega)]; rfl
      · rw [decide_eq_false h, decide_eq_true (by omega)]; rfl
    have t2 : decide (p.2.2.2.2.2.2.2.2.2.2.1 < toughV p) = !decide (p.2.2.2.2.2.2.2.2.2.2.1 ≥ toughV p) := by
      by_cases h : p.2.2.2.2.2.2.2.2.2.2.1 ≥ toughV p
      · rw [decide_eq_true h, decide_eq_false (Int.not_lt.2 h)]; rfl
      · rw [decide_eq_false h, decide_eq_true (Int.not_le.1 h)]; rfl
    rw [t1, t2, hv]
    clear t1 t2 hv hn ho e1 e2 hp hq hs
    unfold bne
    cases hn0 : decide (n < 0)
    · rw [hno hn0]
      cases (p.2.2.2.1 == 2) <;> cases decide (toughV p ≤ 0) <;> cases hasTraitB p 8 <;> cases p.2.2.2.2.2.2.2.2.2.2.2.1 <;> cases decide (p.2.2.2.2.2.2.2.2.2.2.1 ≥ toughV p) <;> rfl
    · cases (p.2.2.2.1 == 2) <;> cases decide (toughV p ≤ 0) <;> cases hasTraitB p 8 <;> cases p.2.2.2.2.2.2.2.2.2.2.2.1 <;> cases decide (p.2.2.2.2.2.2.2.2.2.2.1 ≥ toughV p) <;> rfl

end Go.Abs
