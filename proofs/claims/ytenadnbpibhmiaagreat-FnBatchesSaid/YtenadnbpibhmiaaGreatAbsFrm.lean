/- WHAT THE EVALUATOR LOOKS AT: an operation's doings depend on its operands and on the objects that it names alone. -/
import Derived.Test.YtenadnbpibhmiaaGreatAbsOps14
set_option linter.unusedVariables false
set_option linter.unusedSimpArgs false
namespace Go.Abs
open Go.RowKit

abbrev Heap' := List (List Obj')

def Same (h h' : Heap') (us : List Hd) : Prop := ∀ q ∈ us, getO h' q = getO h q

theorem Same.mono {h h' : Heap'} {us vs : List Hd} (s : Same h h' vs) (k : ∀ q ∈ us, q ∈ vs) : Same h h' us := fun q hq => s q (k q hq)

theorem castK_fr {R : Type} {r : R} {t t' : Ty} {x : t.D} {κ : t'.D → Option R} (h : castK t t' x κ = some r) : ∃ y, κ y = some r ∧ ∀ (R' : Type) (κ' : t'.D → Option R'), castK t t' x κ' = κ' y := by
  obtain ⟨e, h⟩ := castK_some h
  subst e
  exact ⟨x, h, fun R' κ' => by unfold castK; rw [dif_pos rfl]⟩

theorem castS_fr {R : Type} {r : R} {t t' : Ty} {x : List t.D} {κ : List t'.D → Option R} (h : castS t t' x κ = some r) : ∃ y, κ y = some r ∧ ∀ (R' : Type) (κ' : List t'.D → Option R'), castS t t' x κ' = κ' y := by
  unfold castS at h
  split at h
  · rename_i e
    exact ⟨_, h, fun R' κ' => by unfold castS; rw [dif_pos e]⟩
  · rename_i e
    split at h
    · rename_i e2
      exact ⟨_, h, fun R' κ' => by unfold castS; rw [dif_neg e, dif_pos e2]⟩
    · cases h

theorem viewSK_fr {R : Type} {r : R} {t : Ty} {l : Leaf} {κ : List t.D → Option R} (h : viewSK t l κ = some r) : ∃ y, κ y = some r ∧ ∀ (R' : Type) (κ' : List t.D → Option R'), viewSK t l κ' = κ' y := by
  unfold viewSK at h
  split at h
  · exact ⟨_, h, fun R' κ' => rfl⟩
  · obtain ⟨y, h1, h2⟩ := castS_fr h
    exact ⟨y, h1, fun R' κ' => by unfold viewSK; exact h2 R' κ'⟩
  · obtain ⟨y, h1, h2⟩ := castS_fr h
    exact ⟨y, h1, fun R' κ' => by unfold viewSK; exact h2 R' κ'⟩
  · cases h

theorem sliceK_fr {R : Type} {r : R} {h : Heap'} {t : Ty} {l : Leaf} {κ : List t.D → List Hd → Option R} (hk : sliceK h t l κ = some r) :
    ∃ xs us, κ xs us = some r ∧ ∀ h', Same h h' us → ∀ (R' : Type) (κ' : List t.D → List Hd → Option R'), sliceK h' t l κ' = κ' xs us := by
  unfold sliceK at hk
  split at hk
  · exact ⟨_, _, hk, fun h' _ R' κ' => rfl⟩
  · obtain ⟨y, h1, h2⟩ := castS_fr hk
    exact ⟨y, _, h1, fun h' _ R' κ' => by unfold sliceK; exact h2 R' fun x => κ' x []⟩
  · obtain ⟨y, h1, h2⟩ := castS_fr hk
    exact ⟨y, _, h1, fun h' _ R' κ' => by unfold sliceK; exact h2 R' fun x => κ' x []⟩
  · rename_i o
    split at hk
    · rename_i ro t' xs ho
      obtain ⟨y, h1, h2⟩ := castS_fr hk
      exact ⟨y, _, h1, fun h' hs R' κ' => by unfold sliceK; simp only [hs o (by simp), ho]; exact h2 R' fun x => κ' x [o]⟩
    · cases hk
  · rename_i o n lo hi
    split at hk
    · rename_i ro t' xs ho hn
      obtain ⟨y, h1, h2⟩ := castS_fr hk
      exact ⟨y, _, h1, fun h' hs R' κ' => by unfold sliceK; simp only [hs o (by simp), ho, hn]; exact h2 R' fun x => κ' x [o]⟩
    · cases hk
  · cases hk

theorem packK_fr {R : Type} {r : R} {h : Heap'} : ∀ {t : Ty} {ls : List Leaf} {os : List Hd} {κ : t.D → List Leaf → List Hd → Option R}, packK h t ls os κ = some r →
    ∃ x rest us, κ x rest us = some r ∧ (∀ q ∈ os, q ∈ us) ∧ ∀ h', Same h h' us → ∀ (R' : Type) (κ' : t.D → List Leaf → List Hd → Option R'), packK h' t ls os κ' = κ' x rest us
  | .int k, ls, os, κ, hk => by
    cases ls with
    | nil => simp [packK] at hk
    | cons l ls =>
      cases l <;> simp only [packK, reduceCtorEq] at hk
      split at hk
      · rename_i e
        exact ⟨_, _, _, hk, fun _ h => h, fun h' _ R' κ' => by simp only [packK]; rw [if_pos e]⟩
      · cases hk
  | .bool, ls, os, κ, hk => by
    cases ls with
    | nil => simp [packK] at hk
    | cons l ls =>
      cases l <;> simp only [packK, reduceCtorEq] at hk
      exact ⟨_, _, _, hk, fun _ h => h, fun h' _ R' κ' => by simp only [packK]⟩
  | .slice t, ls, os, κ, hk => by
    cases ls with
    | nil => simp [packK] at hk
    | cons l ls =>
      simp only [packK] at hk
      obtain ⟨xs, us, h1, h2⟩ := sliceK_fr hk
      exact ⟨xs, ls, us ++ os, h1, fun q hq => by simp [hq], fun h' hs R' κ' => by simp only [packK]; exact h2 h' (hs.mono (by simp +contextual)) R' fun xs us => κ' xs ls (us ++ os)⟩
  | .unit, ls, os, κ, hk => by
    simp only [packK] at hk
    exact ⟨(), ls, os, hk, fun _ h => h, fun h' _ R' κ' => by simp only [packK]⟩
  | .pair a b, ls, os, κ, hk => by
    simp only [packK] at hk
    obtain ⟨x, r1, us, h1, h2, h3⟩ := packK_fr (t := a) hk
    obtain ⟨y, r2, us2, k1, k2, k3⟩ := packK_fr (t := b) h1
    exact ⟨(x, y), r2, us2, k1, fun q hq => k2 q (h2 q hq), fun h' hs R' κ' => by
      simp only [packK]
      rw [h3 h' (hs.mono k2) R' _, k3 h' hs R' _]⟩
  | .fn a b, ls, os, κ, hk => by
    cases ls with
    | nil => simp [packK] at hk
    | cons l ls =>
      cases l <;> simp only [packK, reduceCtorEq] at hk
      obtain ⟨y, h1, h2⟩ := castK_fr (t' := .fn a b) hk
      exact ⟨y, _, _, h1, fun _ h => h, fun h' _ R' κ' => by simp only [packK]; exact h2 R' fun x => κ' x ls os⟩
  | .vw t, ls, os, κ, hk => by
    cases ls with
    | nil => simp [packK] at hk
    | cons l ls =>
      simp only [packK] at hk
      obtain ⟨xs, us, h1, h2⟩ := sliceK_fr hk
      exact ⟨xs, ls, us ++ os, h1, fun q hq => by simp [hq], fun h' hs R' κ' => by simp only [packK]; exact h2 h' (hs.mono (by simp +contextual)) R' fun xs us => κ' xs ls (us ++ os)⟩

theorem takeSK_fr {R : Type} {r : R} {h : Heap'} {t : Ty} {l : Leaf} {ws : List (Hd × Obj')} {κ : List t.D → List (Hd × Obj') → Option R} (hk : takeSK h t l ws κ = some r) :
    ∃ xs us, κ xs us = some r ∧ (∀ q ∈ keysOf ws, q ∈ keysOf us) ∧ ∀ h', Same h h' (keysOf us) → ∀ (R' : Type) (κ' : List t.D → List (Hd × Obj') → Option R'), takeSK h' t l ws κ' = κ' xs us := by
  unfold takeSK at hk
  split at hk
  · exact ⟨_, _, hk, fun _ h => h, fun h' _ R' κ' => rfl⟩
  · rename_i o
    split at hk
    · rename_i t' xs ho hh
      obtain ⟨y, h1, h2⟩ := castK_fr (t' := .slice t) hk
      exact ⟨y, _, h1, fun q hq => by simp [keysOf, hq], fun h' hs R' κ' => by unfold takeSK; simp only [hs o (by simp [keysOf]), ho, hh]; exact h2 R' fun x => κ' x ((o, .dead) :: ws)⟩
    · cases hk
  · rename_i o n hi
    split at hk
    · rename_i t' xs ho hh
      obtain ⟨y, h1, h2⟩ := castK_fr (t' := .slice t) hk
      exact ⟨y, _, h1, fun q hq => by simp [keysOf, hq], fun h' hs R' κ' => by unfold takeSK; simp only [hs o (by simp [keysOf]), ho, hh]; exact h2 R' fun x => κ' x ((o, .dead) :: ws)⟩
    · cases hk
  · cases hk

theorem packT_fr {R : Type} {r : R} {h : Heap'} : ∀ {t : Ty} {ls : List Leaf} {ws : List (Hd × Obj')} {κ : t.D → List Leaf → List (Hd × Obj') → Option R}, packT h t ls ws κ = some r →
    ∃ x rest us, κ x rest us = some r ∧ (∀ q ∈ keysOf ws, q ∈ keysOf us) ∧ ∀ h', Same h h' (keysOf us) → ∀ (R' : Type) (κ' : t.D → List Leaf → List (Hd × Obj') → Option R'), packT h' t ls ws κ' = κ' x rest us
  | .int k, ls, os, κ, hk => by
    cases ls with
    | nil => simp [packT] at hk
    | cons l ls =>
      cases l <;> simp only [packT, reduceCtorEq] at hk
      split at hk
      · rename_i e
        exact ⟨_, _, _, hk, fun _ h => h, fun h' _ R' κ' => by simp only [packT]; rw [if_pos e]⟩
      · cases hk
  | .bool, ls, os, κ, hk => by
    cases ls with
    | nil => simp [packT] at hk
    | cons l ls =>
      cases l <;> simp only [packT, reduceCtorEq] at hk
      exact ⟨_, _, _, hk, fun _ h => h, fun h' _ R' κ' => by simp only [packT]⟩
  | .slice t, ls, os, κ, hk => by
    cases ls with
    | nil => simp [packT] at hk
    | cons l ls =>
      simp only [packT] at hk
      obtain ⟨xs, us, h1, h0, h2⟩ := takeSK_fr hk
      exact ⟨xs, ls, us, h1, h0, fun h' hs R' κ' => by simp only [packT]; exact h2 h' hs R' fun xs us => κ' xs ls us⟩
  | .unit, ls, os, κ, hk => by
    simp only [packT] at hk
    exact ⟨(), ls, os, hk, fun _ h => h, fun h' _ R' κ' => by simp only [packT]⟩
  | .pair a b, ls, os, κ, hk => by
    simp only [packT] at hk
    obtain ⟨x, r1, us, h1, h2, h3⟩ := packT_fr (t := a) hk
    obtain ⟨y, r2, us2, k1, k2, k3⟩ := packT_fr (t := b) h1
    exact ⟨(x, y), r2, us2, k1, fun q hq => k2 q (h2 q hq), fun h' hs R' κ' => by
      simp only [packT]
      rw [h3 h' (hs.mono k2) R' _, k3 h' hs R' _]⟩
  | .fn a b, ls, os, κ, hk => by
    simp [packT] at hk
  | .vw t, ls, os, κ, hk => by
    cases ls with
    | nil => simp [packT] at hk
    | cons l ls =>
      simp only [packT] at hk
      obtain ⟨xs, h1, h2⟩ := viewSK_fr hk
      exact ⟨xs, ls, os, h1, fun _ h => h, fun h' hs R' κ' => by simp only [packT]; exact h2 R' fun xs => κ' xs ls os⟩

theorem packF_fr {R : Type} {r : R} {E : Env} {h : Heap'} {t : Ty} {ls : List Leaf} {os : List Hd} {κ : t.D → List Leaf → List Hd → Option R} (hk : packF E h t ls os κ = some r) :
    ∃ x rest us, κ x rest us = some r ∧ (∀ q ∈ os, q ∈ us) ∧ ∀ h', Same h h' us → ∀ (R' : Type) (κ' : t.D → List Leaf → List Hd → Option R'), packF E h' t ls os κ' = κ' x rest us := by
  unfold packF at hk
  split at hk
  · rename_i p q f κ
    split at hk
    · rename_i fr a' r' F hg
      split at hk
      · rename_i hfl
        obtain ⟨y, h1, h2⟩ := castK_fr (t' := .fn p q) hk
        exact ⟨y, [], os, h1, fun _ h => h, fun h' hs R' κ' => by simp only [packF, hg, hfl]; exact h2 R' fun p => κ' p [] os⟩
      · cases hk
    · cases hk
  · rename_i hne
    obtain ⟨x, rest, us, h1, h2, h3⟩ := packK_fr hk
    refine ⟨x, rest, us, h1, h2, fun h' hs R' κ' => ?_⟩
    rw [← h3 h' hs R' κ']
    unfold packF
    split
    · exact (hne _ _ _ _ rfl rfl HEq.rfl).elim
    · rfl

theorem packCaps_fr {R : Type} {r : R} {E : Env} {h : Heap'} : ∀ {c : Ty} {cs os : List Hd} {κ : c.D → List Hd → Option R}, packCaps E h c cs os κ = some r →
    ∃ x us, κ x us = some r ∧ (∀ q ∈ os, q ∈ us) ∧ ∀ h', Same h h' us → ∀ (R' : Type) (κ' : c.D → List Hd → Option R'), packCaps E h' c cs os κ' = κ' x us
  | .unit, cs, os, κ, hk => by
    cases cs with
    | nil => exact ⟨(), os, by simpa [packCaps] using hk, fun _ h => h, fun h' _ R' κ' => by simp only [packCaps]⟩
    | cons _ _ => simp [packCaps] at hk
  | .pair a b, cs, os, κ, hk => by
    cases cs with
    | nil => simp [packCaps] at hk
    | cons o cs =>
      simp only [packCaps] at hk
      split at hk
      · rename_i ro ls ho
        obtain ⟨x, r1, us, h1, h2, h3⟩ := packF_fr hk
        split at h1
        · obtain ⟨y, us2, k1, k2, k3⟩ := packCaps_fr h1
          exact ⟨(x, y), us2, k1, fun q hq => k2 q (h2 q (by simp [hq])), fun h' hs R' κ' => by
            simp only [packCaps, hs o (k2 o (h2 o (by simp))), ho]
            rw [h3 h' (hs.mono k2) R' _]
            exact k3 h' hs R' fun q os => κ' (x, q) os⟩
        · cases h1
      · cases hk
  | .int _, cs, os, κ, h => by simp [packCaps] at h
  | .bool, cs, os, κ, h => by simp [packCaps] at h
  | .slice _, cs, os, κ, h => by simp [packCaps] at h
  | .vw _, cs, os, κ, h => by simp [packCaps] at h
  | .fn _ _, cs, os, κ, h => by simp [packCaps] at h

theorem argK_fr {R : Type} {r : R} {t : Ty} {v : AV} {κ : List Leaf → Option R} (h : argK t v κ = some r) : ∃ ls, κ ls = some r ∧ ∀ (R' : Type) (κ' : List Leaf → Option R'), argK t v κ' = κ' ls := by
  unfold argK at h
  split at h
  · rename_i cs hs; exact ⟨_, h, fun R' κ' => by unfold argK; rw [hs]⟩
  · rename_i l hs; exact ⟨_, h, fun R' κ' => by unfold argK; rw [hs]⟩
  · cases h

theorem packArgs_fr {R : Type} {r : R} {E : Env} {h : Heap'} : ∀ {c : Ty} {vs : List AV} {os : List Hd} {κ : c.D → List Hd → Option R}, packArgs E h c vs os κ = some r →
    ∃ x us, κ x us = some r ∧ (∀ q ∈ os, q ∈ us) ∧ ∀ h', Same h h' us → ∀ (R' : Type) (κ' : c.D → List Hd → Option R'), packArgs E h' c vs os κ' = κ' x us
  | .unit, vs, os, κ, hk => by
    cases vs with
    | nil => exact ⟨(), os, by simpa [packArgs] using hk, fun _ h => h, fun h' _ R' κ' => by simp only [packArgs]⟩
    | cons _ _ => simp [packArgs] at hk
  | .pair t u, vs, os, κ, hk => by
    cases vs with
    | nil => simp [packArgs] at hk
    | cons v vs =>
      have plain : ((argK t v fun cs => packK h t cs os fun x r os => endK r (packArgs E h u vs os fun q os => κ (x, q) os)) = some r) →
          (∀ h' (R' : Type) (κ' : (Ty.pair t u).D → List Hd → Option R'), packArgs E h' (.pair t u) (v :: vs) os κ' = argK t v fun cs => packK h' t cs os fun x r os => endK r (packArgs E h' u vs os fun q os => κ' (x, q) os)) →
          ∃ x us, κ x us = some r ∧ (∀ q ∈ os, q ∈ us) ∧ ∀ h', Same h h' us → ∀ (R' : Type) (κ' : (Ty.pair t u).D → List Hd → Option R'), packArgs E h' (.pair t u) (v :: vs) os κ' = κ' x us := by
        intro hk he
        obtain ⟨ls, h1, h2⟩ := argK_fr hk
        obtain ⟨x, r1, us, h3, h4, h5⟩ := packK_fr h1
        unfold endK at h3
        split at h3
        · obtain ⟨y, us2, k1, k2, k3⟩ := packArgs_fr h3
          exact ⟨(x, y), us2, k1, fun q hq => k2 q (h4 q hq), fun h' hs R' κ' => by
            rw [he, h2, h5 h' (hs.mono k2) R' _]
            unfold endK
            exact k3 h' hs R' fun q os => κ' (x, q) os⟩
        · cases h3
      cases t with
      | fn p q => cases v with
        | leaf l => cases l with
          | fn f caps =>
            simp only [packArgs] at hk
            split at hk
            · rename_i a' c r' F hg
              obtain ⟨x, us, h1, h2, h3⟩ := packCaps_fr hk
              obtain ⟨y, h4, h5⟩ := castK_fr (t' := .fn p q) h1
              obtain ⟨z, us2, k1, k2, k3⟩ := packArgs_fr h4
              exact ⟨(y, z), us2, k1, fun q hq => k2 q (h2 q hq), fun h' hs R' κ' => by
                simp only [packArgs, hg]
                rw [h3 h' (hs.mono k2) R' _, h5 R' _]
                exact k3 h' hs R' fun q os => κ' (y, q) os⟩
            · rename_i fr a' r' F hg
              split at hk
              · rename_i hfl
                obtain ⟨y, h4, h5⟩ := castK_fr (t' := .fn p q) hk
                obtain ⟨z, us2, k1, k2, k3⟩ := packArgs_fr h4
                exact ⟨(y, z), us2, k1, k2, fun h' hs R' κ' => by
                  simp only [packArgs, hg, hfl]
                  rw [h5 R' _]
                  exact k3 h' hs R' fun q os => κ' (y, q) os⟩
              · cases hk
            · cases hk
          | _ => exact plain (by simpa only [packArgs] using hk) (fun h' R' κ' => by simp only [packArgs])
        | _ => exact plain (by simpa only [packArgs] using hk) (fun h' R' κ' => by simp only [packArgs])
      | _ => exact plain (by simpa only [packArgs] using hk) (fun h' R' κ' => by simp only [packArgs])
  | .int _, vs, os, κ, h => by cases vs <;> simp [packArgs] at h
  | .bool, vs, os, κ, h => by cases vs <;> simp [packArgs] at h
  | .slice _, vs, os, κ, h => by cases vs <;> simp [packArgs] at h
  | .vw _, vs, os, κ, h => by cases vs <;> simp [packArgs] at h
  | .fn _ _, vs, os, κ, h => by cases vs <;> simp [packArgs] at h

end Go.Abs
