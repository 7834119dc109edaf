/- A SLICE IN AN ELEMENT, LENT: an object's element holds a slice of its own; a call turns what that slice holds. -/
import Derived.Test.YtenadnbpibhmiaaGreatAbsReg4
set_option linter.unusedVariables false
set_option linter.unusedSimpArgs false
namespace Go.Abs
open Go.RowKit

theorem getS_some {R : Type} {r : R} : ∀ {t : Ty} {x : t.D} {off : Nat} {u : Ty} {κ : List u.D → Option R}, getS t x off u κ = some r →
    ∃ ys, κ ys = some r ∧ off < t.n ∧ ∀ {P : Program} {Imm : Nat → Prop} {w : World} {cs : List Value} {fp : List Nat}, Own P Imm t w cs x fp → ∃ v fa fm fb, cs[off]? = some v ∧ fp = fa ++ fm ++ fb ∧ Own P Imm (.slice u) w [v] ys fm ∧
      ∀ {w' : World} {z : List u.D} {x' : t.D} {fm' : List Nat}, updS t x off u z some = some x' → (∀ b ∈ fa ++ fb, w'.heap[b]? = w.heap[b]?) → Still Imm Imm w w' → Own P Imm (.slice u) w' [v] z fm' → Own P Imm t w' cs x' (fa ++ fm' ++ fb)
  | .slice t, xs, off, u, κ, h => by
    cases off with
    | succ off => simp [getS] at h
    | zero =>
      simp only [getS] at h
      obtain ⟨e, hk⟩ := castS_some h
      subst e
      refine ⟨xs, hk, by simp [Ty.n], fun {P Imm w cs fp} ho => ?_⟩
      obtain ⟨v, rfl⟩ : ∃ v, cs = [v] := by
        have := ho.length
        match cs, this with
        | [v], _ => exact ⟨v, rfl⟩
      refine ⟨v, [], fp, [], rfl, by simp, ho, fun {w' z x' fm'} hu _ _ ho' => ?_⟩
      simp only [updS, castK] at hu
      simp only [dite_true, Option.some.injEq] at hu
      subst hu
      simpa using ho'
  | .pair a b, x, off, u, κ, h => by
    simp only [getS] at h
    split at h
    · rename_i hb
      have hb' := Nat.le_of_ble_eq_true hb
      obtain ⟨ys, h1, h2, h3⟩ := getS_some (t := b) h
      refine ⟨ys, h1, by simp [Ty.n]; omega, fun {P Imm w cs fp} ho => ?_⟩
      obtain ⟨v1, v2, f1, f2, rfl, e2, rfl, o1, o2⟩ := ho
      obtain ⟨v, fa, fm, fb, k1, rfl, k3, k4⟩ := h3 o2
      refine ⟨v, f1 ++ fa, fm, fb, by rw [List.getElem?_append_right (by omega), e2]; exact k1, by simp, k3, fun {w' z x' fm'} hu hk hst ho' => ?_⟩
      simp only [updS, hb] at hu
      obtain ⟨y, hy, rfl⟩ : ∃ y, updS b x.2 (off - a.n) u z some = some y ∧ x' = (x.1, y) := by
        have := updS_fr hu
        obtain ⟨y, e1, e2⟩ := this
        cases e1
        exact ⟨y, e2 _ some, rfl⟩
      exact ⟨v1, v2, f1, fa ++ fm' ++ fb, rfl, e2, by simp, o1.keep (fun c hc => hk c (by simp [hc])) hst, k4 hy (fun c hc => hk c (by
        rcases List.mem_append.1 hc with hc | hc <;> simp [hc])) hst ho'⟩
    · rename_i hb
      have hb' : ¬ a.n ≤ off := fun hle => by rw [Nat.ble_eq_true_of_le hle] at hb; cases hb
      obtain ⟨ys, h1, h2, h3⟩ := getS_some (t := a) h
      refine ⟨ys, h1, by simp [Ty.n]; omega, fun {P Imm w cs fp} ho => ?_⟩
      obtain ⟨v1, v2, f1, f2, rfl, e2, rfl, o1, o2⟩ := ho
      obtain ⟨v, fa, fm, fb, k1, rfl, k3, k4⟩ := h3 o1
      refine ⟨v, fa, fm, fb ++ f2, by rw [List.getElem?_append_left (by omega)]; exact k1, by simp, k3, fun {w' z x' fm'} hu hk hst ho' => ?_⟩
      simp only [updS, hb] at hu
      obtain ⟨y, hy, rfl⟩ : ∃ y, updS a x.1 off u z some = some y ∧ x' = (y, x.2) := by
        have := updS_fr hu
        obtain ⟨y, e1, e2⟩ := this
        cases e1
        exact ⟨y, e2 _ some, rfl⟩
      exact ⟨v1, v2, fa ++ fm' ++ fb, f2, rfl, e2, by simp, k4 hy (fun c hc => hk c (by
        rcases List.mem_append.1 hc with hc | hc <;> simp [hc])) hst ho', o2.keep (fun c hc => hk c (by simp [hc])) hst⟩
  | .int _, x, off, u, κ, h => by simp [getS] at h
  | .bool, x, off, u, κ, h => by simp [getS] at h
  | .unit, x, off, u, κ, h => by simp [getS] at h
  | .fn _ _, x, off, u, κ, h => by simp [getS] at h
  | .vw _, x, off, u, κ, h => by simp [getS] at h
 where
  updS_fr {R : Type} {r : R} : ∀ {t : Ty} {x : t.D} {off : Nat} {u : Ty} {z : List u.D} {κ : t.D → Option R}, updS t x off u z κ = some r → ∃ y, κ y = some r ∧ ∀ (R' : Type) (κ' : t.D → Option R'), updS t x off u z κ' = κ' y
  | .slice t, xs, off, u, z, κ, h => by
    cases off with
    | succ off => simp [updS] at h
    | zero =>
      simp only [updS] at h
      obtain ⟨e, hk⟩ := castS_some h
      subst e
      exact ⟨z, hk, fun R' κ' => by simp [updS, castK]⟩
  | .pair a b, x, off, u, z, κ, h => by
    simp only [updS] at h
    split at h
    · rename_i hb
      obtain ⟨y, h1, h2⟩ := updS_fr (t := b) h
      exact ⟨_, h1, fun R' κ' => by simp only [updS, hb]; exact h2 R' _⟩
    · rename_i hb
      obtain ⟨y, h1, h2⟩ := updS_fr (t := a) h
      exact ⟨_, h1, fun R' κ' => by simp only [updS, hb]; exact h2 R' _⟩
  | .int _, x, off, u, z, κ, h => by simp [updS] at h
  | .bool, x, off, u, z, κ, h => by simp [updS] at h
  | .unit, x, off, u, z, κ, h => by simp [updS] at h
  | .fn _ _, x, off, u, z, κ, h => by simp [updS] at h
  | .vw _, x, off, u, z, κ, h => by simp [updS] at h

theorem getS_fr {R : Type} {r : R} : ∀ {t : Ty} {x : t.D} {off : Nat} {u : Ty} {κ : List u.D → Option R}, getS t x off u κ = some r → ∃ y, κ y = some r ∧ ∀ (R' : Type) (κ' : List u.D → Option R'), getS t x off u κ' = κ' y
  | .slice t, xs, off, u, κ, h => by
    cases off with
    | succ off => simp [getS] at h
    | zero =>
      simp only [getS] at h
      obtain ⟨e, hk⟩ := castS_some h
      subst e
      exact ⟨xs, hk, fun R' κ' => by simp [getS, castK]⟩
  | .pair a b, x, off, u, κ, h => by
    simp only [getS] at h
    split at h
    · rename_i hb
      obtain ⟨y, h1, h2⟩ := getS_fr (t := b) h
      exact ⟨_, h1, fun R' κ' => by simp only [getS, hb]; exact h2 R' _⟩
    · rename_i hb
      obtain ⟨y, h1, h2⟩ := getS_fr (t := a) h
      exact ⟨_, h1, fun R' κ' => by simp only [getS, hb]; exact h2 R' _⟩
  | .int _, x, off, u, κ, h => by simp [getS] at h
  | .bool, x, off, u, κ, h => by simp [getS] at h
  | .unit, x, off, u, κ, h => by simp [getS] at h
  | .fn _ _, x, off, u, κ, h => by simp [getS] at h
  | .vw _, x, off, u, κ, h => by simp [getS] at h

theorem nodup_set_own : ∀ {l : List (List Nat)} {i : Nat} {f f0 : List Nat}, l.flatten.Nodup → l[i]? = some f0 → f.Nodup → (∀ b ∈ f, b ∈ f0 ∨ b ∉ l.flatten) → (l.set i f).flatten.Nodup
  | [], _, _, _, _, hi, _, _ => by simp at hi
  | a :: r, 0, f, f0, h, hi, hf, hs => by
    simp only [List.getElem?_cons_zero, Option.some.injEq] at hi
    subst hi
    simp only [List.flatten_cons, List.nodup_append, List.set_cons_zero] at h ⊢
    refine ⟨hf, h.2.1, fun b hb c hc e => ?_⟩
    subst e
    rcases hs b hb with h1 | h1
    · exact h.2.2 b h1 b hc rfl
    · exact h1 (by simp [List.mem_flatten.1 hc])
  | a :: r, i + 1, f, f0, h, hi, hf, hs => by
    simp only [List.getElem?_cons_succ] at hi
    simp only [List.flatten_cons, List.nodup_append, List.set_cons_succ] at h ⊢
    have hsub : ∀ b ∈ f0, b ∈ r.flatten := fun b hb => List.mem_flatten.2 ⟨f0, List.mem_of_getElem? hi, hb⟩
    refine ⟨h.1, nodup_set_own h.2.1 hi hf fun b hb => (hs b hb).imp id fun h1 h2 => h1 (by simp [List.mem_flatten.1 h2]), fun b hb c hc e => ?_⟩
    subst e
    rcases flatten_set hc with h1 | h1
    · exact h.2.2 b hb b h1 rfl
    · rcases hs b h1 with h2 | h2
      · exact h.2.2 b hb b (hsub b h2) rfl
      · exact h2 (by simp [hb])

/-- The slice that a cell of an element is, taken out and laid back. -/
theorem Own.subAt {P : Program} {Imm : Nat → Prop} {t u : Ty} {w : World} {V : Value} {xs : List t.D} {fp : List Nat} {i off : Nat} {x : t.D} {ys : List u.D} (h : Own P Imm (.slice t) w [V] xs fp) (hx : xs[i]? = some x) (hg : getS t x off u some = some ys) (hnd : fp.Nodup) :
    ∃ g v fm, (∃ n c, V = .slice (some ⟨g, 0, none⟩) n c) ∧ w.cell? ⟨g, i * t.n + off, none⟩ = some v ∧ Own P Imm (.slice u) w [v] ys fm ∧ (∀ b ∈ fm, b ∈ fp) ∧ fm.Nodup ∧
      ∀ (w' : World) (z : List u.D) (z' : t.D) (fm' : List Nat), updS t x off u z some = some z' → (∀ b, b < w.heap.size → b ∉ fm → w'.heap[b]? = w.heap[b]?) → Still Imm Imm w w' → Own P Imm (.slice u) w' [v] z fm' → fm'.Nodup → (∀ b ∈ fm', b ∈ fm ∨ w.heap.size ≤ b) →
        ∃ fp', Own P Imm (.slice t) w' [V] (xs.set i z') fp' ∧ fp'.Nodup ∧ ∀ b ∈ fp', b ∈ fp ∨ w.heap.size ≤ b := by
  have hlt := h.lt
  rcases h with ⟨_, e, _⟩ | ⟨g, cap, cur, ty, fps, e1, e2, e3, e4, e5, e6, e7, e8⟩
  · subst e; simp at hx
  · simp only [List.cons.injEq, and_true] at e1
    have hi : i < xs.length := (List.getElem?_eq_some_iff.1 hx).1
    have hfi : fps[i]? = some fps[i] := List.getElem?_eq_getElem (by rw [e6]; exact hi)
    obtain ⟨cs, c1, c2, c3⟩ := e8 i x _ hx hfi
    obtain ⟨ys', hy, hoff, hsub⟩ := getS_some hg
    cases hy
    obtain ⟨v, fa, fm, fb, k1, k2, k3, k4⟩ := hsub c3
    subst e7
    rw [List.nodup_cons] at hnd
    have hin : ∀ b ∈ fps[i], b ∈ fps.flatten := fun b hb => List.mem_flatten.2 ⟨_, List.mem_of_getElem? hfi, hb⟩
    have hfn : (fps[i]).Nodup := getElem?_flatten_nodup hnd.2 hfi
    have hfmi : ∀ b ∈ fm, b ∈ fps[i] := fun b hb => by rw [k2]; simp [hb]
    rw [k2] at hfn
    have hfn2 := hfn
    rw [List.nodup_append, List.nodup_append] at hfn2
    obtain ⟨⟨na, nm, nam⟩, nb, namb⟩ := hfn2
    refine ⟨g, v, fm, ⟨_, _, e1⟩, by rw [← (cellsAt_get cs _).1 c2 off v k1], k3, fun b hb => List.mem_cons_of_mem _ (hin b (hfmi b hb)), nm, fun w' z z' fm' hu hk hst ho hn' hs => ?_⟩
    have hgm : g ∉ fm := fun hm => hnd.1 (hin g (hfmi g hm))
    have hgk : w'.heap[g]? = w.heap[g]? := hk g (hlt g (by simp)) hgm
    have hab : ∀ b ∈ fa ++ fb, b ∉ fm := by
      intro b hb hm
      rcases List.mem_append.1 hb with hb | hb
      · exact nam b hb b hm rfl
      · exact namb b (by simp [hm]) b hb rfl
    have hnew := k4 hu (fun b hb => hk b (hlt b (List.mem_cons_of_mem _ (hin b (by rw [k2]; rcases List.mem_append.1 hb with hb | hb <;> simp [hb])))) (hab b hb)) hst ho
    have hfl : ∀ b ∈ fa ++ fm' ++ fb, b ∈ fps[i] ∨ b ∉ fps.flatten := by
      intro b hb
      rw [k2]
      simp only [List.mem_append] at hb ⊢
      rcases hb with (hb | hb) | hb
      · exact .inl (.inl (.inl hb))
      · rcases hs b hb with h | h
        · exact .inl (.inl (.inr h))
        · exact .inr fun hm => by have := hlt b (List.mem_cons_of_mem _ hm); omega
      · exact .inl (.inr hb)
    have hnn : (fa ++ fm' ++ fb).Nodup := by
      rw [List.nodup_append, List.nodup_append]
      have hle : ∀ b ∈ fa ++ fb, b < w.heap.size := fun b hb => hlt b (List.mem_cons_of_mem _ (hin b (by rw [k2]; rcases List.mem_append.1 hb with hb | hb <;> simp [hb])))
      refine ⟨⟨na, hn', fun b hb c hc e => ?_⟩, nb, fun b hb c hc e => ?_⟩
      · subst e
        rcases hs b hc with h | h
        · exact hab b (by simp [hb]) h
        · have := hle b (by simp [hb]); omega
      · subst e
        rcases List.mem_append.1 hb with hb | hb
        · exact namb b (by simp [hb]) b hc rfl
        · rcases hs b hb with h | h
          · exact hab b (by simp [hc]) h
          · have := hle b (by simp [hc]); omega
    refine ⟨g :: (fps.set i (fa ++ fm' ++ fb)).flatten, .inr ⟨g, cap, cur, ty, fps.set i (fa ++ fm' ++ fb), by simp [e1], hgk.trans e2, by simpa using e3, e4, e5, by simpa using e6, rfl, fun j y f hj hf => ?_⟩, ?_, fun b hb => ?_⟩
    · by_cases hij : i = j
      · subst hij
        rw [List.getElem?_set_self (by rw [e6]; exact hi)] at hf
        rw [List.getElem?_set_self hi] at hj
        cases hf
        cases hj
        exact ⟨cs, c1, cellsAt_congr hgk _ _ c2, hnew⟩
      · rw [List.getElem?_set_ne hij] at hj hf
        obtain ⟨cs', d1, d2, d3⟩ := e8 j y f hj hf
        refine ⟨cs', d1, cellsAt_congr hgk _ _ d2, d3.keep (fun b hb => hk b (hlt b (List.mem_cons_of_mem _ (List.mem_flatten.2 ⟨f, List.mem_of_getElem? hf, hb⟩))) fun hm => ?_) hst⟩
        have hpw := (List.pairwise_flatten.1 hnd.2).2
        rw [List.pairwise_iff_getElem] at hpw
        have hjl : j < fps.length := (List.getElem?_eq_some_iff.1 hf).1
        have hil : i < fps.length := by rw [e6]; exact hi
        have hfj : fps[j] = f := by rw [List.getElem?_eq_getElem hjl] at hf; exact Option.some.inj hf
        rcases Nat.lt_or_ge i j with hlt' | hge
        · exact hpw i j hil hjl hlt' b (hfmi b hm) b (by rw [hfj]; exact hb) rfl
        · exact hpw j i hjl hil (by omega) b (by rw [hfj]; exact hb) b (hfmi b hm) rfl
    · rw [List.nodup_cons]
      refine ⟨fun hm => ?_, nodup_set_own hnd.2 hfi hnn hfl⟩
      rcases flatten_set hm with h | h
      · exact hnd.1 h
      · simp only [List.mem_append] at h
        rcases h with (h | h) | h
        · exact hnd.1 (hin g (by rw [k2]; simp [h]))
        · rcases hs g h with h | h
          · exact hgm h
          · have := hlt g (by simp); omega
        · exact hnd.1 (hin g (by rw [k2]; simp [h]))
    · rcases List.mem_cons.1 hb with rfl | hb
      · exact .inl (by simp)
      · rcases flatten_set hb with h | h
        · exact .inl (by simp [List.mem_flatten.1 h])
        · simp only [List.mem_append] at h
          rcases h with (h | h) | h
          · exact .inl (List.mem_cons_of_mem _ (hin b (by rw [k2]; simp [h])))
          · rcases hs b h with h | h
            · exact .inl (List.mem_cons_of_mem _ (hin b (hfmi b h)))
            · exact .inr h
          · exact .inl (List.mem_cons_of_mem _ (hin b (by rw [k2]; simp [h])))

section
variable {P : Program} {M : Nat → Prop} {w0 : World} {E : Env}

/-- The first operations of a region in its own order. -/
theorem ops_pre {ops : Array Oper} {Q : Exit → Act → World → Prop} {tail : List Nat} (hE : EnvOk P E) : ∀ {os : List Oper} {k : Nat} {st st' : St} {ds : List Dl} {ss : List St} {σ : Hd → Phys} {Imm : Nat → Prop} {a : Act} {w : World},
    Tr E (ops.toList.map (·.dst)) os st ds ss st' → (∀ j o, os[j]? = some o → ops[k + j]? = some o) → Rel P M w0 σ Imm st a w → (∀ o ∈ os, ∀ i, o.dst = some i → i < st.t.length) →
    (∀ σ' Imm' a' w', Rel P M w0 σ' Imm' st' a' w' → Evo st st' σ σ' Imm Imm' w w' → (∀ t, (∀ o ∈ os, o.dst ≠ some t) → a'.tmps.getD t undef = a.tmps.getD t undef) → wpOps P ops Q tail a' w') →
    wpOps P ops Q (List.range' k os.length ++ tail) a w
  | [], k, st, st', ds, ss, σ, Imm, a, w, htr, _, R, _, hq => by
    cases htr
    exact hq σ Imm a w R R.evo (fun _ _ => rfl)
  | o :: os, k, st, st', ds, ss, σ, Imm, a, w, htr, hops, R, hd, hq => by
    cases htr with
    | @cons _ _ _ st1 _ δ ds ss hD ha htr =>
      rw [List.length_cons, List.range'_succ, List.cons_append, wpOps_cons]
      refine wpOp_ok hE R (hd o (by simp)) (by simpa using hops 0 o rfl) hD ha fun v σ' Imm' w' R' ev => ?_
      have hlen : st1.t.length = st.t.length := by
        rw [R'.len, R.len]
        cases o.dst <;> simp [Act.put]
      refine ops_pre hE htr (fun j o' hj => by rw [Nat.add_right_comm, Nat.add_assoc]; exact hops (j + 1) o' (by simpa using hj)) R' (fun o' ho' i hi => by rw [hlen]; exact hd o' (by simp [ho']) i hi) fun σ2 I2 a2 w2 R2 ev2 hun => ?_
      refine hq σ2 I2 a2 w2 R2 (ev.trans ev2) fun t ht => ?_
      rw [hun t (fun o' ho' => ht o' (by simp [ho']))]
      have hne := ht o (by simp)
      cases hdst : o.dst with
      | none => simp [Act.put]
      | some d =>
        rw [hdst] at hne
        have hne : d ≠ t := fun e => hne (by rw [e])
        simp [Act.put, Array.getD_eq_getD_getElem?, Array.getElem?_setIfInBounds, hne]

theorem put_get {a : Act} {d t : Nat} {v : Value} (h : d < a.tmps.size) : (a.put (some d) v).tmps.getD t undef = if d = t then v else a.tmps.getD t undef := by
  simp only [Act.put, Array.getD_eq_getD_getElem?, Array.getElem?_setIfInBounds]
  by_cases e : d = t
  · subst e; simp [h]
  · simp [e]

/-- An operation without a guard. -/
theorem wpOp_bare {ops : Array Oper} {Q : Exit → Act → World → Prop} {i : Nat} {o : Oper} {a : Act} {w : World} {K : Act → World → Prop} (ho : ops[i]? = some o) (hg : o.guard = none) (h : o.wp P a w K Q) : wpOp P ops Q i K a w := by
  unfold wpOp
  simp only [ho]
  have : Region.wanted o (yielded ops a.tmps) = true := by unfold Region.wanted; rw [hg]
  rw [this]
  exact .inl h

/-- The three operations. -/
theorem mark3_ok {R' : Type} {r : R'} {ops : Array Oper} {Q : Exit → Act → World → Prop} {ld mv cl : Oper} {k : Nat} {tail : List Nat} {κ : St → Option R'} (hE : EnvOk P E) {st : St} {σ : Hd → Phys} {Imm : Nat → Prop} {a : Act} {w : World}
    (R : Rel P M w0 σ Imm st a w) (h0 : ops[k]? = some ld) (h1 : ops[k + 1]? = some mv) (h2 : ops[k + 2]? = some cl) (hd : ∀ o, o = ld ∨ o = mv ∨ o = cl → ∀ i, o.dst = some i → i < st.t.length) (h : markK E ld mv cl st κ = some r)
    (hq : ∀ st' σ' Imm' a' w', κ st' = some r → st'.t.length = st.t.length → Rel P M w0 σ' Imm' st' a' w' → Evo st st' σ σ' Imm Imm' w w' → (∀ t, (∀ o, o = ld ∨ o = mv ∨ o = cl → o.dst ≠ some t) → a'.tmps.getD t undef = a.tmps.getD t undef) → wpOps P ops Q tail a' w') :
    wpOps P ops Q (k :: (k + 1) :: (k + 2) :: tail) a w := by
  unfold markK at h
  split at h
  rotate_left
  · cases h
  rename_i T adr x c ho0 ho1 ho2
  split at h
  rotate_left
  · cases h
  rename_i d1 d2 d3 g0 g1 g2 e1 e2 e3
  split at h
  rotate_left
  · cases h
  rename_i ti o n i off f b1 b2 hti hadr hcal hargs
  rw [setK_eq] at h
  split at h
  rotate_left
  · cases h
  rename_i e0 kk m t xs fr u k' k2 F hk hx hob hg
  split at h
  rotate_left
  · cases h
  rename_i hchk
  simp only [Bool.and_eq_true, Bool.not_eq_true'] at hchk
  obtain ⟨⟨⟨⟨⟨hn, hn1⟩, hb1⟩, hb2⟩, h12⟩, hnv⟩ := hchk
  have hn := Nat.eq_of_beq_eq_true hn
  have hn1 := Nat.eq_of_beq_eq_true hn1
  have hb1 := Nat.eq_of_beq_eq_true hb1
  have hb2 := Nat.eq_of_beq_eq_true hb2
  have h12 := Nat.ne_of_beq_eq_false h12
  subst hn hb1 hb2
  split at h
  rotate_left
  · cases h
  rename_i hkk
  subst hkk
  rw [setK_eq] at h
  cases hxs : xs[i]? with
  | none => rw [hxs] at h; cases h
  | some x0 =>
    rw [hxs, Option.bind_some] at h
    obtain ⟨ys, hys, hgf⟩ := getS_fr h
    have hgs : getS t x0 off u some = some ys := hgf _ some
    cases hF : F (ys, m, ()) with
    | none => rw [hF] at hys; cases hys
    | some y =>
      rw [hF, Option.bind_some] at hys
      obtain ⟨z, hz, hzf⟩ := getS_some.updS_fr hys
      have hus : updS t x0 off u y.2.1 some = some z := hzf _ some
      rw [putO_eq, setK_eq] at hz
      obtain ⟨hb, hct⟩ := hE.2 f _ hg
      have hl1 : d1 < st.t.length := hd ld (.inl rfl) d1 e1
      have hl2 : d2 < st.t.length := hd mv (.inr (.inl rfl)) d2 e2
      have hl3 : d3 < st.t.length := hd cl (.inr (.inr rfl)) d3 e3
      have hpo := R.ob o
      rw [hob] at hpo
      have hlv : (getO st.h o).live = true := by rw [hob]; rfl
      have hro : (getO st.h o).ro = false := by rw [hob]; rfl
      obtain ⟨hown, hbv⟩ := hpo
      have hnd := (R.nd o hlv).1
      obtain ⟨g, v, fm, ⟨nn, cc, hV⟩, hcell, hsub, hfm, hfn, hback⟩ := Own.subAt hown hxs hgs hnd
      have hg1 := hbv _ _ _ hV
      simp only [Addr.mk.injEq, and_true] at hg1
      have hadr' : a.eval adr = .pointer (some ⟨g, i * t.n + off, none⟩) := by
        have := R.av adr
        rw [hadr] at this
        rw [show a.eval adr = _ from this, hg1]
      -- the load
      have hld : (execOp a.eval ld).run P w = .ok (.value v) w := by
        have hrun := run_loadVar_cells (w := w) (hE.1 _ _ hti) (b := g) (o := i * t.n + off) (cs := [v]) (by simp [hn1]) ⟨hcell, trivial⟩
        rw [hk] at hrun
        have hv2 : (load ⟨g, i * t.n + off, none⟩).run P w = .ok v w := by rw [run_load, hcell]
        simp [execOp, ho0, Instr.loadAt, hadr', Instr.sureAddr, hrun, hv2]
      rw [wpOps_cons]
      refine wpOp_bare h0 g0 ?_
      unfold Oper.wp
      rw [hld]
      show wpOps P ops Q _ (a.put ld.dst v) w
      have s1 : appS ld.dst { v := .any } st = some ⟨st.t.set d1 .any, st.h⟩ := by rw [e1]; rfl
      obtain ⟨R1, ev1⟩ := R.plain (o := ld) (hd ld (.inl rfl)) s1 (v := v) (Keep.refl _ w) (fun _ h => h) R.imm (fun _ _ h => h) trivial closed_nil
      -- the move
      have hxv : (a.put ld.dst v).eval x = .int kk m := R1.avI hx
      rw [wpOps_cons]
      refine wpOp_bare h1 g1 ?_
      unfold Oper.wp
      rw [show (execOp (a.put ld.dst v).eval mv).run P w = .ok (.value (.int kk m)) w by simp [execOp, ho1, hxv]]
      show wpOps P ops Q _ ((a.put ld.dst v).put mv.dst (.int kk m)) w
      have s2 : appS mv.dst { v := .leaf (.int kk m) } ⟨st.t.set d1 .any, st.h⟩ = some ⟨(st.t.set d1 .any).set d2 (.leaf (.int kk m)), st.h⟩ := by rw [e2]; rfl
      obtain ⟨R2, ev2⟩ := R1.plain (o := mv) (fun i hi => by simpa using hd mv (.inr (.inl rfl)) i hi) s2 (v := .int kk m) (Keep.refl _ w) (fun _ h => h) R1.imm (fun _ _ h => h) rfl (fun _ h => by cases h)
      -- the call
      rw [wpOps_cons]
      refine wpOp_bare h2 g2 ?_
      have hfv : ((a.put ld.dst v).put mv.dst (.int kk m)).eval (.func f) = .func (.func f) #[] #[] := rfl
      have hsz : d1 < a.tmps.size := by rw [← R.len]; exact hl1
      have hsz2 : d2 < (a.put ld.dst v).tmps.size := by rw [← R1.len]; simpa using hl2
      have hav : c.args.toList.map ((a.put ld.dst v).put mv.dst (.int kk m)).eval = [v, .int kk m] := by
        rw [hargs]
        simp only [List.map_cons, List.map_nil, Act.eval]
        rw [e2, put_get hsz2, put_get hsz2, if_neg (fun e => h12 e.symm), if_pos rfl, e1, put_get hsz, if_pos rfl]
      have hcall := hct Imm w [v, .int kk m] (ys, m, ()) fm y (fun b hb => ((R.nd o hlv).2 b (hfm b hb)).1) R.imm hfn
        ⟨[v], [.int kk m], fm, [], rfl, by simp, hsub, [.int kk m], [], rfl, rfl, rfl, rfl⟩ hF
      rw [show ([v, .int kk m] : List Value).toArray = ([v, .int kk m] : List Value).toArray ++ #[] by simp] at hcall
      refine call_wp ho2 hcal hfv hav hb hcall fun e w' hp => ?_
      obtain ⟨hK, cs', fpr, fpo, rfl, hres, hout, hnd2, hsb⟩ := hp
      obtain ⟨cs1, r1, f1, f2, q1, q2, q3, v3, r3, q4, q5, q6⟩ := hout
      refine ⟨_, rfl, ?_⟩
      have hcs1 : cs1 = [v] := by
        have := q3.length
        match cs1, this with
        | [u1], _ => simp only [List.cons.injEq] at q1; rw [q1.1]; rfl
      subst hcs1
      subst q6
      simp only [List.append_nil] at q2
      subst q2
      have hres' : cs' = [.int k2 y.1] ∧ fpr = [] := by
        cases fr with
        | false => exact ⟨hres.1, hres.2⟩
        | true => exact ⟨hres.1, hres.2⟩
      obtain ⟨rfl, rfl⟩ := hres'
      simp only [List.nil_append] at hnd2 hsb
      obtain ⟨fp', b1, b2, b3⟩ := hback w' y.2.1 z _ hus (fun b hb hm => hK.block b hb hm) (hK.still fun b hb hm => ((R.nd o hlv).2 b (hfm b hm)).1 hb) (Own.noVw (t := .slice _) hnv q3) hnd2 hsb
      have s3 : appS cl.dst { v := .leaf (.int k2 y.1), wr := [(o, .arr false t (xs.set i z))] } ⟨(st.t.set d1 .any).set d2 (.leaf (.int kk m)), st.h⟩ = some ⟨((st.t.set d1 .any).set d2 (.leaf (.int kk m))).set d3 (.leaf (.int k2 y.1)), setO st.h o (.arr false t (xs.set i z))⟩ := by rw [e3]; rfl
      rw [e3] at s3
      obtain ⟨σ', R3, ev3⟩ := R2.mutc (d := some d3) (fun i hi => by cases hi; simpa using hl3) s3 (fun q hq => by simp [keysOf] at hq; subst hq; exact ⟨hlv, hro⟩) (by simp [keysOf])
        (v := .int k2 y.1) (w' := w') (Imm' := Imm) (φs := []) (fs := [fp']) (hK.mono fun b _ hb => ⟨o, by simp [keysOf], hfm b hb⟩) (fun _ h => h) (fun b hb => Nat.lt_of_lt_of_le (R.imm b hb) hK.size) (fun _ _ h => h)
        ⟨fp', [], rfl, ⟨b1, hbv⟩, rfl⟩ rfl (by simpa using b2) (fun b hb => by
          simp only [List.map_nil, List.flatten_nil, List.nil_append, List.flatten_cons, List.append_nil] at hb
          rcases b3 b hb with h | h
          · exact ⟨((R.nd o hlv).2 b h).1, .inr ⟨o, by simp [keysOf], h⟩⟩
          · exact ⟨fun hi => by have := R.imm b hi; omega, .inl h⟩) (fun σ' _ => rfl) (fun q hq => by cases hq)
      rw [← e3] at R3
      refine hq _ σ' Imm _ w' hz (by simp) R3 ((ev1.trans ev2).trans ev3) fun t' ht' => ?_
      have n1 := ht' ld (.inl rfl)
      have n2 := ht' mv (.inr (.inl rfl))
      have n3 := ht' cl (.inr (.inr rfl))
      rw [e1] at n1
      rw [e2] at n2
      rw [e3] at n3
      have n1 : d1 ≠ t' := fun e => n1 (by rw [e])
      have n2 : d2 ≠ t' := fun e => n2 (by rw [e])
      have n3 : d3 ≠ t' := fun e => n3 (by rw [e])
      have hsz3 : d3 < ((a.put ld.dst v).put mv.dst (.int kk m)).tmps.size := by rw [← R2.len]; simpa using hl3
      rw [e1, e2] at hsz3
      rw [e1, e2, e3, put_get hsz3, if_neg n3, put_get (by rw [← e1]; exact hsz2), if_neg n2, put_get hsz, if_neg n1]

/-- A REGION in its own order, with such a load. -/
theorem mark_ok {R' : Type} {r : R'} {id : Nat} {ops : Array Oper} {k : Nat} {Q : Exit → Act → World → Prop} {κ : St → Option R'} (hE : EnvOk P E) {st : St} {σ : Hd → Phys} {Imm : Nat → Prop} {a : Act} {w : World}
    (R : Rel P M w0 σ Imm st a w) (hd : ∀ o ∈ ops.toList, ∀ i, o.dst = some i → i < st.t.length) (h : evMark E ops.toList k st κ = some r)
    (hq : ∀ st' σ' Imm' a' w', κ st' = some r → st'.t.length = st.t.length → Rel P M w0 σ' Imm' st' a' w' → Evo st st' σ σ' Imm Imm' w w' → (∀ t, (∀ o ∈ ops.toList, o.dst ≠ some t) → a'.tmps.getD t undef = a.tmps.getD t undef) → Q .normal a' w') : (Code.region id ops false).wp P Q a w := by
  unfold evMark at h
  obtain ⟨ds, ss, st1, htr, hk⟩ := evOps_tr h
  split at hk
  rotate_left
  · cases hk
  rename_i ld mv cl post hdrop
  have hall : ops.toList = ops.toList.take k ++ ld :: mv :: cl :: post := by rw [← hdrop, List.take_append_drop]
  have hkl : (ops.toList.take k).length = k := by
    have h1 : (ops.toList.drop k).length = ops.toList.length - k := List.length_drop
    rw [hdrop] at h1
    rw [List.length_take]
    simp only [List.length_cons] at h1
    omega
  have hsz : ops.size = k + 3 + post.length := by
    have := congrArg List.length hall
    simp only [Array.length_toList, List.length_append, List.length_cons, hkl] at this
    omega
  have hget : ∀ j o, (ld :: mv :: cl :: post)[j]? = some o → ops[k + j]? = some o := by
    intro j o hj
    rw [← Array.getElem?_toList, hall, List.getElem?_append_right (by omega), hkl, Nat.add_sub_cancel_left]
    exact hj
  have hmem : ∀ o, o = ld ∨ o = mv ∨ o = cl → o ∈ ops.toList := by
    intro o ho
    rw [hall]
    rcases ho with rfl | rfl | rfl <;> simp
  refine wp_region ?_
  have hrange : List.range ops.size = List.range' 0 (ops.toList.take k).length ++ (k :: (k + 1) :: (k + 2) :: List.range' (k + 3) post.length) := by
    rw [List.range_eq_range', hsz, hkl, show k + 3 + post.length = k + (3 + post.length) by omega, ← List.range'_append_1, Nat.zero_add, ← List.range'_append_1]
    rfl
  rw [hrange]
  refine ops_pre hE htr (fun j o hj => ?_) R (fun o ho => hd o (List.mem_of_mem_take ho)) fun σ1 I1 a1 w1 R1 ev1 hun1 => ?_
  · rw [Nat.zero_add, ← Array.getElem?_toList, hall]
    rw [List.getElem?_append_left (List.getElem?_eq_some_iff.1 hj).1]
    exact hj
  have hl1 : st1.t.length = st.t.length := htr.len
  refine mark3_ok hE R1 (hget 0 ld rfl) (hget 1 mv rfl) (hget 2 cl rfl) (fun o ho i hi => by rw [hl1]; exact hd o (hmem o ho) i hi) hk fun st2 σ2 I2 a2 w2 hk2 hl2 R2 ev2 hun2 => ?_
  obtain ⟨ds2, ss2, st3, htr2, hk3⟩ := evOps_tr hk2
  refine ops_seq hE (k := k + 3) htr2 (fun j o hj => by rw [Nat.add_assoc, Nat.add_comm 3 j]; exact hget (j + 3) o (by simpa using hj)) R2 (fun o ho i hi => by rw [hl2, hl1]; exact hd o (by rw [hall]; simp [ho]) i hi) fun σ3 I3 a3 w3 R3 ev3 hun3 => ?_
  refine hq st3 σ3 I3 a3 w3 hk3 (by rw [htr2.len, hl2, hl1]) R3 ((ev1.trans ev2).trans ev3) fun t ht => ?_
  rw [hun3 t fun o ho => ht o (by rw [hall]; simp [ho]), hun2 t fun o ho => ht o (hmem o ho), hun1 t fun o ho => ht o (List.mem_of_mem_take ho)]

end
end Go.Abs
