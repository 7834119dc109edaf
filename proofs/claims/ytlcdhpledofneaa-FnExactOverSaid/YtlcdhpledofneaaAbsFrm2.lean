/- WHAT THE EVALUATOR LOOKS AT, operation by operation. -/
import Derived.Test.YtlcdhpledofneaaAbsFrm
namespace Go.Abs
open Go.RowKit

def Sees (o : Oper) (st st' : St) : Prop := ∀ x ∈ opnds o.op, val st' x = val st x

theorem cellsK_fr {R : Type} {r : R} {v : AV} {κ : List Leaf → Option R} (h : cellsK v κ = some r) : ∃ ls, κ ls = some r ∧ ∀ (R' : Type) (κ' : List Leaf → Option R'), cellsK v κ' = κ' ls := by
  unfold cellsK at h
  split at h
  · exact ⟨_, h, fun R' κ' => rfl⟩
  · exact ⟨_, h, fun R' κ' => rfl⟩
  · cases h

theorem takeK_fr {R : Type} {r : R} {n : Nat} {l : List Leaf} {κ : List Leaf → Option R} (h : takeK n l κ = some r) : ∃ x, κ x = some r ∧ ∀ (R' : Type) (κ' : List Leaf → Option R'), takeK n l κ' = κ' x := by
  induction n generalizing l κ with
  | zero => exact ⟨_, by simpa [takeK] using h, fun R' κ' => by simp only [takeK]⟩
  | succ n ih => cases l with
    | nil => simp [takeK] at h
    | cons a l =>
      simp only [takeK] at h
      obtain ⟨x, h1, h2⟩ := ih h
      exact ⟨a :: x, h1, fun R' κ' => by simp only [takeK]; exact h2 R' fun r' => κ' (a :: r')⟩

theorem overK_fr {R : Type} {r : R} : ∀ {n : Nat} {cs l : List Leaf} {κ : List Leaf → Option R}, overK n cs l κ = some r → ∃ x, κ x = some r ∧ ∀ (R' : Type) (κ' : List Leaf → Option R'), overK n cs l κ' = κ' x
  | 0, [], l, κ, h => ⟨l, by simpa [overK] using h, fun R' κ' => by simp only [overK]⟩
  | 0, _ :: _, [], κ, h => by simp [overK] at h
  | 0, c :: cs, _ :: l, κ, h => by
    simp only [overK] at h
    obtain ⟨x, h1, h2⟩ := overK_fr h
    exact ⟨c :: x, h1, fun R' κ' => by simp only [overK]; exact h2 R' fun r' => κ' (c :: r')⟩
  | n + 1, cs, [], κ, h => by simp [overK] at h
  | n + 1, cs, a :: l, κ, h => by
    simp only [overK] at h
    obtain ⟨x, h1, h2⟩ := overK_fr h
    exact ⟨a :: x, h1, fun R' κ' => by simp only [overK]; exact h2 R' fun r' => κ' (a :: r')⟩

theorem wrapAV_fr {R : Type} {r : R} {k : TK} {cs : List Leaf} {κ : AV → Option R} (h : wrapAV k cs κ = some r) : ∃ x, κ x = some r ∧ ∀ (R' : Type) (κ' : AV → Option R'), wrapAV k cs κ' = κ' x := by
  unfold wrapAV at h
  split at h
  · exact ⟨_, h, fun R' κ' => rfl⟩
  · split at h
    · rename_i hk _ l
      exact ⟨_, h, fun R' κ' => by unfold wrapAV; cases k <;> first | rfl | exact absurd rfl (hk _)⟩
    · cases h

theorem idx_fr {α R : Type} {r : R} {xs : List α} {i : Int} {κ : α → Option R} (h : idx xs i κ = some r) : ∃ x, κ x = some r ∧ ∀ (R' : Type) (κ' : α → Option R'), idx xs i κ' = κ' x := by
  unfold idx at h
  split at h
  · rename_i h0
    cases hx : xs[i.toNat]? with
    | none => rw [hx] at h; cases h
    | some x => rw [hx] at h; exact ⟨x, h, fun R' κ' => by unfold idx; rw [if_pos h0, hx]; rfl⟩
  · cases h

theorem updK_fr {R : Type} {r : R} : ∀ {t : Ty} {x : t.D} {n : Nat} {l : Leaf} {κ : t.D → Option R}, updK t x n l κ = some r → ∃ y, κ y = some r ∧ ∀ (R' : Type) (κ' : t.D → Option R'), updK t x n l κ' = κ' y
  | .int k, x, n, l, κ, h => by
    cases n with
    | zero =>
      cases l <;> simp only [updK, reduceCtorEq] at h
      split at h
      · rename_i e; exact ⟨_, h, fun R' κ' => by simp only [updK]; rw [if_pos e]⟩
      · cases h
    | succ n => simp [updK] at h
  | .bool, x, n, l, κ, h => by
    cases n with
    | zero =>
      cases l <;> simp only [updK, reduceCtorEq] at h
      exact ⟨_, h, fun R' κ' => by simp only [updK]⟩
    | succ n => simp [updK] at h
  | .slice _, x, n, l, κ, h => by simp [updK] at h
  | .unit, x, n, l, κ, h => by simp [updK] at h
  | .fn _ _, x, n, l, κ, h => by simp [updK] at h
  | .pair a b, x, n, l, κ, h => by
    simp only [updK] at h
    split at h
    · rename_i hb
      obtain ⟨y, h1, h2⟩ := updK_fr (t := b) h
      exact ⟨(x.1, y), h1, fun R' κ' => by simp only [updK, hb]; exact h2 R' fun y => κ' (x.1, y)⟩
    · rename_i hb
      obtain ⟨y, h1, h2⟩ := updK_fr (t := a) h
      exact ⟨(y, x.2), h1, fun R' κ' => by simp only [updK, hb]; exact h2 R' fun y => κ' (y, x.2)⟩

theorem fillK_fr {R : Type} {r : R} {T : Tab} {fs : List (Nat × Nat)} {st : St} : ∀ {parts : List (Nat × Operand)} {cs : List Leaf} {κ : List Leaf → Option R}, fillK T fs st parts cs κ = some r →
    ∃ x, κ x = some r ∧ ∀ st', (∀ x ∈ parts.map (·.2), val st' x = val st x) → ∀ (R' : Type) (κ' : List Leaf → Option R'), fillK T fs st' parts cs κ' = κ' x
  | [], cs, κ, h => ⟨cs, h, fun st' _ R' κ' => rfl⟩
  | (i, x) :: parts, cs, κ, h => by
    unfold fillK at h
    split at h
    · rename_i off t hf
      split at h
      · rename_i te hte
        obtain ⟨ls, h1, h2⟩ := cellsK_fr h
        split at h1
        · rename_i hn
          obtain ⟨y, h3, h4⟩ := overK_fr h1
          obtain ⟨z, h5, h6⟩ := fillK_fr h3
          refine ⟨z, h5, fun st' hs R' κ' => ?_⟩
          unfold fillK
          simp only [hf, hte, hs x (by simp)]
          rw [h2]
          simp only [hn]
          rw [h4]
          exact h6 st' (fun x hx => hs x (by simp at hx ⊢; right; exact hx)) R' κ'
        · cases h1
      · cases h
    · cases h

theorem elemsK_fr {R : Type} {r : R} {t : Ty} {st : St} : ∀ {parts : List (Nat × Operand)} {i n : Nat} {ws : List (Hd × Obj')} {κ : List t.D → List (Hd × Obj') → Option R}, elemsK t st parts i n ws κ = some r →
    ∃ x us, κ x us = some r ∧ (∀ q ∈ keysOf ws, q ∈ keysOf us) ∧ ∀ st', (∀ x ∈ parts.map (·.2), val st' x = val st x) → Same st.h st'.h (keysOf us) → ∀ (R' : Type) (κ' : List t.D → List (Hd × Obj') → Option R'), elemsK t st' parts i n ws κ' = κ' x us
  | [], i, n, ws, κ, h => by
    unfold elemsK at h
    split at h
    · rename_i hb; exact ⟨[], ws, h, fun _ h => h, fun st' _ _ R' κ' => by unfold elemsK; rw [hb]⟩
    · cases h
  | (j, x) :: parts, i, n, ws, κ, h => by
    unfold elemsK at h
    split at h
    · rename_i hb
      obtain ⟨ls, h1, h2⟩ := cellsK_fr h
      obtain ⟨y, rest, us, h3, h4, h5⟩ := packT_fr h1
      split at h3
      · obtain ⟨z, us2, k1, k2, k3⟩ := elemsK_fr h3
        refine ⟨y :: z, us2, k1, fun q hq => k2 q (h4 q hq), fun st' hs hsm R' κ' => ?_⟩
        unfold elemsK
        simp only [hb, hs x (by simp)]
        rw [h2, h5 st'.h (hsm.mono k2)]
        exact k3 st' (fun x hx => hs x (by simp at hx ⊢; right; exact hx)) hsm R' fun xs ws => κ' (y :: xs) ws
      · cases h3
    · cases h

theorem capsK_fr {R : Type} {r : R} {st : St} : ∀ {xs : List Operand} {κ : List Hd → Option R}, evOp.capsK st xs κ = some r → ∃ x, κ x = some r ∧ ∀ st', (∀ x ∈ xs, val st' x = val st x) → ∀ (R' : Type) (κ' : List Hd → Option R'), evOp.capsK st' xs κ' = κ' x
  | [], κ, h => ⟨[], h, fun st' _ R' κ' => rfl⟩
  | x :: xs, κ, h => by
    unfold evOp.capsK at h
    split at h
    · rename_i o hx
      obtain ⟨y, h1, h2⟩ := capsK_fr h
      exact ⟨o :: y, h1, fun st' hs R' κ' => by
        unfold evOp.capsK
        rw [hs x (by simp), hx]
        exact h2 st' (fun x hx => hs x (by simp [hx])) R' fun cs => κ' (o :: cs)⟩
    · cases h

/-- What is asked: the doings are the same wherever all that was looked at is. -/
def Frm (E : Env) (o : Oper) (st : St) (δ : Dl) : Prop := ∀ st', Sees o st st' → Same st.h st'.h δ.rd → ∀ (R' : Type) (κ' : Dl → Option R'), evOp E o st' κ' = κ' δ

theorem loadK_fr {R : Type} {r : R} {st : St} {ti : TI} {p : AV} {κ : Dl → Option R} (h : loadK st ti p κ = some r) :
    ∃ δ, κ δ = some r ∧ ∀ st', Same st.h st'.h δ.rd → ∀ (R' : Type) (κ' : Dl → Option R'), loadK st' ti p κ' = κ' δ := by
  unfold loadK at h
  split at h
  · rename_i o off
    split at h
    · rename_i ro cs ho
      obtain ⟨x, h1, h2⟩ := takeK_fr h
      obtain ⟨v, h3, h4⟩ := wrapAV_fr h1
      exact ⟨_, h3, fun st' hs R' κ' => by unfold loadK; simp only [hs o (by simp), ho]; rw [h2, h4]⟩
    · cases h
  · rename_i t x off
    rw [expandK_nil] at h
    obtain ⟨y, h1, h2⟩ := takeK_fr h
    obtain ⟨v, h3, h4⟩ := wrapAV_fr h1
    exact ⟨_, h3, fun st' hs R' κ' => by unfold loadK; simp only; rw [expandK_nil, h2, h4]⟩
  · rename_i o n i off
    split at h
    · rename_i ro t xs ho
      cases hx : xs[i]? with
      | none => rw [hx] at h; cases h
      | some x =>
        rw [hx, Option.bind_some, expandK_nil] at h
        obtain ⟨y, h1, h2⟩ := takeK_fr h
        split at h1
        · rename_i hf hn
          obtain ⟨v, h3, h4⟩ := wrapAV_fr h1
          exact ⟨_, h3, fun st' hs R' κ' => by unfold loadK; simp only [hs o (by simp), ho, hx, Option.bind_some]; rw [expandK_nil, h2]; simp only [hf, hn]; rw [h4]⟩
        · cases h1
    · cases h
  · cases h

theorem storeK_fr {R : Type} {r : R} {st : St} {p : AV} {v : List Leaf} {κ : Dl → Option R} (h : storeK st p v κ = some r) :
    ∃ δ, κ δ = some r ∧ ∀ st', Same st.h st'.h δ.rd → ∀ (R' : Type) (κ' : Dl → Option R'), storeK st' p v κ' = κ' δ := by
  unfold storeK at h
  split at h
  · rename_i o off
    split at h
    · rename_i cs ho
      obtain ⟨x, h1, h2⟩ := overK_fr h
      exact ⟨_, h1, fun st' hs R' κ' => by unfold storeK; simp only [hs o (by simp), ho]; rw [h2]⟩
    · cases h
  · rename_i o n i off
    split at h
    · rename_i t xs ho hn
      have hn : Nat.beq n t.n = true := by rw [ho] at hn; exact hn
      cases hx : xs[i]? with
      | none => rw [hx] at h; cases h
      | some x =>
        rw [hx, Option.bind_some] at h
        split at h
        · rename_i hl
          obtain ⟨y, rest, us, h1, h2, h3⟩ := packT_fr h
          split at h1
          · rename_i hh
            exact ⟨_, h1, fun st' hs R' κ' => by
              unfold storeK
              simp only [hs o (by simp), ho, hn, hx, Option.bind_some, hl]
              rw [h3 st'.h (hs.mono (by simp +contextual))]
              simp only [hh]⟩
          · cases h1
        · rename_i l hnz hl
          obtain ⟨y, h1, h2⟩ := updK_fr h
          exact ⟨_, h1, fun st' hs R' κ' => by
            unfold storeK
            simp only [hs o (by simp), ho, hn, hx, Option.bind_some, hl]
            rw [h2]⟩
        · cases h
    · cases h
  · cases h

theorem growK_fr {R : Type} {r : R} {st : St} {d : Nat} {t : Ty} {x : Leaf} {xs : List t.D} {ws : List (Hd × Obj')} {κ : Dl → Option R} (h : growK st d t x xs ws κ = some r) :
    ∃ δ, κ δ = some r ∧ (∀ q ∈ keysOf ws, q ∈ δ.rd) ∧ ∀ st', Same st.h st'.h δ.rd → ∀ (R' : Type) (κ' : Dl → Option R'), growK st' d t x xs ws κ' = κ' δ := by
  unfold growK at h
  split at h
  · rename_i hf
    obtain ⟨ys, us, h1, h2⟩ := sliceK_fr h
    split at h1
    · rename_i hr
      exact ⟨_, h1, fun q hq => by simp [hq], fun st' hs R' κ' => by
        unfold growK; simp only [hf]; rw [h2 st'.h (hs.mono (by simp +contextual)), if_pos hr]⟩
    · cases h1
  · rename_i hf
    obtain ⟨ys, us, h1, h0, h2⟩ := takeSK_fr h
    split at h1
    · rename_i hr
      exact ⟨_, h1, h0, fun st' hs R' κ' => by
        unfold growK; simp only [hf]; rw [h2 st'.h hs, if_pos hr]⟩
    · cases h1

theorem appendK_fr {R : Type} {r : R} {E : Env} {st : St} {d : Option Nat} {T : Nat} {s x : Leaf} {κ : Dl → Option R} (h : appendK E st d T s x κ = some r) :
    ∃ δ, κ δ = some r ∧ ∀ st', Same st.h st'.h δ.rd → ∀ (R' : Type) (κ' : Dl → Option R'), appendK E st' d T s x κ' = κ' δ := by
  unfold appendK at h
  split at h
  · rename_i t d hel
    split at h
    · obtain ⟨δ, h1, _, h2⟩ := growK_fr h
      exact ⟨δ, h1, fun st' hs R' κ' => by unfold appendK; simp only [hel]; rw [h2 st' hs]⟩
    · rename_i o
      split at h
      · rename_i t' xs ho
        obtain ⟨y, h1, h2⟩ := castK_fr (t' := .slice t) h
        obtain ⟨δ, h3, h4, h5⟩ := growK_fr h1
        exact ⟨δ, h3, fun st' hs R' κ' => by unfold appendK; simp only [hel, hs o (h4 o (by simp [keysOf])), ho]; rw [h2 R' fun xs => growK st' d t x xs [(o, .dead)] κ', h5 st' hs]⟩
      · cases h
    · cases h
  · cases h

theorem callK_fr {R : Type} {r : R} {E : Env} {st : St} {d : Option Nat} {f : Nat} {args : List AV} {κ : Dl → Option R} (h : callK E st d f args κ = some r) :
    ∃ δ, κ δ = some r ∧ ∀ st', Same st.h st'.h δ.rd → ∀ (R' : Type) (κ' : Dl → Option R'), callK E st' d f args κ' = κ' δ := by
  unfold callK at h
  split at h
  · rename_i one fr a u F hg
    obtain ⟨x, os, h1, _, h2⟩ := packArgs_fr h
    cases hF : F x with
    | none => rw [hF] at h1; cases h1
    | some y =>
      rw [hF, Option.bind_some] at h1
      split at h1
      · split at h1
        · rename_i hfl
          rw [expandK_nil] at h1
          exact ⟨_, h1, fun st' hs R' κ' => by unfold callK; simp only [hg]; rw [h2 st'.h hs, hF, Option.bind_some]; simp only [hfl]; rw [expandK_nil]⟩
        · cases h1
      · split at h1
        · rename_i hfl
          rw [tupV_eq] at h1
          exact ⟨_, h1, fun st' hs R' κ' => by unfold callK; simp only [hg]; rw [h2 st'.h hs, hF, Option.bind_some]; simp only [hfl]; rw [tupV_eq]⟩
        · cases h1
      · rename_i d'
        obtain ⟨cs, objs, e1, _⟩ := freshK_spec (P := default) d' u y []
        rw [e1] at h1
        split at h1
        · cases h1
        · rename_i n0 ns hn
          exact ⟨_, h1, fun st' hs R' κ' => by unfold callK; simp only [hg]; rw [h2 st'.h hs, hF, Option.bind_some]; simp only [e1]; rw [hn]⟩
      · rename_i d'
        obtain ⟨cs, objs, e1, _⟩ := tupF_spec (P := default) d' u y []
        rw [e1] at h1
        split at h1
        · cases h1
        · rename_i n0 ns hn
          exact ⟨_, h1, fun st' hs R' κ' => by unfold callK; simp only [hg]; rw [h2 st'.h hs, hF, Option.bind_some]; simp only [e1]; rw [hn]⟩
      · cases h1
  · cases h

theorem builtinK_fr {R : Type} {r : R} {E : Env} {st : St} {d : Option Nat} {b : Builtin} {args : List AV} {tys : List Nat} {κ : Dl → Option R} (h : builtinK E st d b args tys κ = some r) :
    ∃ δ, κ δ = some r ∧ ∀ st', Same st.h st'.h δ.rd → ∀ (R' : Type) (κ' : Dl → Option R'), builtinK E st' d b args tys κ' = κ' δ := by
  unfold builtinK at h
  split at h
  · rename_i l
    split at h
    · rename_i T tys
      split at h
      · rename_i t hel
        split at h
        · exact ⟨_, h, fun st' hs R' κ' => by unfold builtinK; simp only [hel]⟩
        · exact ⟨_, h, fun st' hs R' κ' => by unfold builtinK; simp only [hel]⟩
        · rename_i o
          split at h
          · rename_i ro t' xs ho
            exact ⟨_, h, fun st' hs R' κ' => by unfold builtinK; simp only [hel, hs o (by simp), ho]⟩
          · cases h
        · cases h
      · cases h
    · cases h
  · split at h
    · rename_i T T'
      split at h
      · rename_i hT
        obtain ⟨δ, h1, h2⟩ := appendK_fr h
        exact ⟨δ, h1, fun st' hs R' κ' => by unfold builtinK; simp only [hT]; rw [h2 st' hs]⟩
      · cases h
    · cases h
  · exact ⟨_, h, fun st' hs R' κ' => by unfold builtinK; rfl⟩
  · exact ⟨_, h, fun st' hs R' κ' => by unfold builtinK; rfl⟩
  · cases h

end Go.Abs
