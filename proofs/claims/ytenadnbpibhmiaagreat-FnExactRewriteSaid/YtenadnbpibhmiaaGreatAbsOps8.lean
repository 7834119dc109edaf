/- OPERATIONS: append, literals of slices, stores. -/
import Derived.Test.YtenadnbpibhmiaaGreatAbsOps7
set_option linter.unusedVariables false
set_option linter.unusedSimpArgs false
namespace Go.Abs
open Go.RowKit

/-- The blocks that views and objects lie in. -/
def ImmU (σ : Hd → Phys) (Imm : Nat → Prop) (us : List Hd) : Nat → Prop := fun b => Imm b ∨ ∃ q ∈ us, b ∈ (σ q).fp

section
variable {P : Program} {M : Nat → Prop} {w0 : World} {σ : Hd → Phys} {Imm : Nat → Prop} {st : St} {a : Act} {w : World}

theorem Rd.imm {t : Ty} {I J : Nat → Prop} {vs : List Value} {x : t.D} (h : Rd P t I w vs x) (hij : ∀ b, I b → J b) : Rd P t J w vs x := h.keep fun b hb hl => ⟨hij b hb, hl, rfl⟩

/-- A slice looked at. -/
theorem sliceK_some {R : Type} {r : R} (R0 : Rel P M w0 σ Imm st a w) {t : Ty} {l : Leaf} {v : Value} {κ : List t.D → List Hd → Option R} (hv : LR P σ Imm w l v) (hc : Closed st.h l.hds)
    (h : sliceK st.h t l κ = some r) : ∃ xs us, κ xs us = some r ∧ Rd P (.slice t) (ImmU σ Imm us) w [v] xs ∧ Closed st.h us ∧ ∀ q ∈ us, (getO st.h q).live = true := by
  unfold sliceK at h
  split at h
  · exact ⟨[], [], h, ⟨none, 0, by rw [show v = _ from hv]; rfl, Nat.le_refl _, fun _ => rfl, fun i x hx => by simp at hx⟩, closed_nil, fun _ h => (by cases h)⟩
  · obtain ⟨ys, hk, _, k3⟩ := castS_read (P := P) (I := ImmU σ Imm []) (w := w) h
    exact ⟨_, [], hk, k3 _ (Rd.imm (t := .slice _) hv fun b hb => .inl hb), closed_nil, fun _ h => (by cases h)⟩
  · obtain ⟨ys, hk, _, k3⟩ := castS_read (P := P) (I := ImmU σ Imm []) (w := w) h
    exact ⟨_, [], hk, k3 _ (Rd.imm (t := .slice _) hv.1 fun b hb => .inl hb), closed_nil, fun _ h => (by cases h)⟩
  · rename_i o
    split at h
    · rename_i ro t' xs ho
      obtain ⟨ys, hk, _, k3⟩ := castS_read (P := P) (I := ImmU σ Imm [o]) (w := w) h
      have hob := R0.ob o
      rw [ho] at hob
      refine ⟨_, [o], hk, k3 _ ?_, hc, fun q hq => by simp at hq; subst hq; rw [ho]; rfl⟩
      rw [hv.1]
      exact hob.1.rd (fun b hb => .inr ⟨o, by simp, hb⟩) fun b hb => .inl hb
    · cases h
  · rename_i o n lo hi
    split at h
    · rename_i ro t' xs ho hn
      have hn := Nat.eq_of_beq_eq_true hn
      obtain ⟨ys, hk, hnn, k3⟩ := castS_read (P := P) (I := ImmU σ Imm [o]) (w := w) h
      have hn : n = t'.n := hn.trans hnn.symm
      subst hn
      have hob := R0.ob o
      rw [ho] at hob
      refine ⟨_, [o], hk, k3 _ ?_, hc, fun q hq => by simp at hq; subst hq; rw [ho]; rfl⟩
      obtain ⟨a', len, cap', e0, hlo, hlen, ev⟩ := hv
      have hrd := hob.1.rd (J := ImmU σ Imm [o]) (fun b hb => .inr ⟨o, by simp, hb⟩) fun b hb => .inl hb
      obtain ⟨ad, cap, e1, h1, h2, h3⟩ := hrd
      simp only [List.cons.injEq, and_true] at e1
      rw [e1] at e0
      simp only [Value.slice.injEq] at e0
      obtain ⟨rfl, rfl, rfl⟩ := e0
      have hl2 : ((xs.take hi).drop lo).length = hi - lo := by simp; omega
      refine ⟨if cap = lo then ad else ad.map (·.add (lo * t'.n)), cap - lo, by rw [ev, hl2], by rw [hl2]; omega, fun hnone => ?_, fun i x hx => ?_⟩
      · split at hnone
        · omega
        · have : ad = none := by cases ad <;> simp_all
          have := h2 this
          omega
      · rw [List.getElem?_drop, List.getElem?_take] at hx
        split at hx
        · rename_i hlt
          obtain ⟨b, off, cs, e, hb, hl, hlc, hcs, hr⟩ := h3 (lo + i) x hx
          subst e
          have hne : ¬ cap = lo := by omega
          refine ⟨b, off + lo * t'.n, cs, ?_, hb, hl, hlc, ?_, hr⟩
          · rw [if_neg hne]
            simp [addr_add]
          · rwa [Nat.add_assoc, ← Nat.add_mul]
        · cases hx
    · cases h
  · cases h

end

section
variable {P : Program} {M : Nat → Prop} {w0 : World} {σ : Hd → Phys} {Imm : Nat → Prop} {st : St} {a : Act} {w : World} {o : Oper} {E : Env}

theorem Own.phys {t : Ty} {w : World} {v : Value} {xs : List t.D} {fp : List Nat} (h : Own P Imm (.slice t) w [v] xs fp) : v.oneCell' = true ∧ ∀ a n c, v = .slice (some a) n c → a = ⟨(v.ownBlock).getD 0, 0, none⟩ := by
  rcases h.els with ⟨rfl, _⟩ | ⟨g, cap, cur, ty', fps', rfl, _⟩
  · exact ⟨rfl, fun a n c e => by simp at e⟩
  · exact ⟨rfl, fun a n c e => by simp only [Value.slice.injEq, Option.some.injEq] at e; rw [← e.1]; rfl⟩

/-- A new array. -/
theorem OpOk.arr1 (R : Rel P M w0 σ Imm st a w) (hd : ∀ i, o.dst = some i → i < st.t.length) {d : Nat} (hdst : o.dst = some d) {rd : List Hd} {ws : List (Hd × Obj')}
    (hw : WsOk st ws) (hrd : Closed st.h rd) {v : Value} {w' : World} {t : Ty} {zs : List t.D} {fp : List Nat} (hrun : (execOp a.eval o).run P w = .ok (.value v) w')
    (hK : Keep (fun b => ∃ q ∈ keysOf ws, b ∈ (σ q).fp) w w') (hown : Own P Imm (.slice t) w' [v] zs fp) (hn : fp.Nodup) (hn2 : ∀ b ∈ fp, w.heap.size ≤ b ∨ ∃ q ∈ keysOf ws, b ∈ (σ q).fp) :
    OpOk P M w0 o st a w σ Imm { v := .leaf (.own (d, 0)), rd, wr := ws, new := [.arr false t zs] } := by
  obtain ⟨h1, h2⟩ := hown.phys
  refine OpOk.make1 R hd hdst hw hrd ⟨v, v.ownBlock.getD 0, fp⟩ hrun hK (fun σ' h => ⟨by rw [h], h1⟩) (fun q hq => by simpa [Leaf.hds] using hq) rfl
    (fun σ' _ h _ => ⟨by rw [h]; exact hown, fun a n c e => by rw [h] at e ⊢; exact h2 a n c e⟩) (fun ro ls e => by cases e) hn hn2

theorem flatten_nils {α : Type} (l : List α) : (l.map fun _ => ([] : List Nat)).flatten = [] := by
  induction l with
  | nil => rfl
  | cons a l ih => simp

/-- The elements of a literal. -/
theorem elemsK_some {R : Type} {r : R} (R0 : Rel P M w0 σ Imm st a w) {t : Ty} {n : Nat} : ∀ {parts : List (Nat × Operand)} {i : Nat} {ws : List (Hd × Obj')} {κ : List t.D → List (Hd × Obj') → Option R}, WsOk st ws →
    elemsK t st parts i n ws κ = some r → ∃ xs ws' all fps, κ xs ws' = some r ∧ i + xs.length = n ∧ Els P Imm t w all xs fps ∧ Taken σ st ws ws' fps.flatten ∧
      ∀ (done rest : List Value), done.length = i * t.n → rest.length = xs.length * t.n → Instr.fill (fun j => some (j * t.n, t.n)) (done ++ rest).toArray (parts.map fun p => (p.1, a.eval p.2)) = some (done ++ all).toArray
  | [], i, ws, κ, hw, h => by
    unfold elemsK at h
    split at h
    · rename_i e
      exact ⟨[], ws, [], [], h, by simpa using Nat.eq_of_beq_eq_true e, Els.nil t w, Taken.refl hw, fun done rest _ hr => by
        have : rest = [] := List.eq_nil_of_length_eq_zero (by simpa using hr)
        subst this
        rfl⟩
    · cases h
  | (j, x) :: parts, i, ws, κ, hw, h => by
    unfold elemsK at h
    split at h
    · rename_i e
      have e := Nat.eq_of_beq_eq_true e
      subst e
      obtain ⟨ls, us, h1, h2, h3, h4⟩ := cellsK_some (R0.av x) h
      obtain ⟨y, rest, ws1, f1, v1, v2, k1, k2, k3, k4, k5⟩ := packT_some R0 h3 hw h1
      split at k1
      · cases k3
        simp only [List.append_nil] at k2
        subst k2
        obtain ⟨xs, ws', all, fps, m1, m2, m3, m4, m5⟩ := elemsK_some R0 k5.ok k1
        have hlen := k4.length
        refine ⟨y :: xs, ws', us ++ all, f1 :: fps, m1, by simp; omega, ?_, by rw [List.flatten_cons]; exact k5.trans R0 m4, fun done rest hd hr => ?_⟩
        · have : Els P Imm t w us [y] [f1] := ⟨rfl, by simp [hlen], fun k x f hx hf => by
            cases k with
            | zero => simp at hx hf; subst hx hf; exact ⟨us, hlen, fun k v hk => by simpa using hk, k4⟩
            | succ k => simp at hx⟩
          exact this.append m3
        · have hr' : rest.length = t.n + xs.length * t.n := by rw [hr]; simp [Nat.add_mul, Nat.add_comm]
          have hsz : (a.eval x).cells.size = t.n := by rw [h2]; simpa using hlen
          have hle : ¬ (i * t.n + t.n > (done ++ rest).length) := by rw [List.length_append, hd, hr']; omega
          have hfold : (a.eval x).cells.zipIdx.foldl (fun (cs : Array Value) (x : Value × Nat) => cs.setIfInBounds (i * t.n + x.2) x.1) (done ++ rest).toArray = ((done ++ us) ++ rest.drop t.n).toArray := by
            rw [h2, ← Array.foldl_toList]
            have := fold_seg us (i * t.n) 0 (done ++ rest).toArray
            simp only [Nat.add_zero] at this
            have e2 : segSet (done ++ rest) (i * t.n) us = (done ++ us) ++ rest.drop t.n := seg_mid us done rest (by rw [hd]) (by rw [hlen]; omega) |>.trans (by rw [hlen])
            have h3 : ((us.toArray.zipIdx.toList).foldl (fun (cs : Array Value) (x : Value × Nat) => cs.setIfInBounds (i * t.n + x.2) x.1) (done ++ rest).toArray) = (segSet (done ++ rest) (i * t.n) us).toArray := by simpa using this
            rw [h3, e2]
          simp only [List.map_cons, Instr.fill, hsz]
          simp only [ne_eq, not_true_eq_false, decide_false, List.size_toArray, Bool.false_or, decide_eq_true_eq, hle, if_false]
          have m6 := m5 (done ++ us) (rest.drop t.n) (by simp [hd, hlen, Nat.add_mul]) (by simp [hr'])
          rw [List.append_assoc done us all] at m6
          exact hfold ▸ m6
      · cases k1
    · cases h
 where
  seg_mid : ∀ (us done rest : List Value), ∀ {o : Nat}, done.length = o → us.length ≤ rest.length → segSet (done ++ rest) o us = (done ++ us) ++ rest.drop us.length := by
    intro us
    induction us with
    | nil => intro done rest o h _; simp [segSet]
    | cons u us ih =>
      intro done rest o h hl
      cases rest with
      | nil => simp at hl
      | cons r rest =>
        rw [segSet, List.set_append_right _ _ (by omega), show o - done.length = 0 by omega, List.set_cons_zero]
        have := ih (done ++ [u]) rest (o := o + 1) (by simp [h]) (by simpa using hl)
        simpa using this

theorem ok_buildSlice {R : Type} {r : R} {T len d : Nat} {parts : Array (Nat × Operand)} {t : Ty} {κ : Dl → Option R} (R0 : Rel P M w0 σ Imm st a w) (hd : ∀ i, o.dst = some i → i < st.t.length) (hT : TabOk P E.T)
    (ho : o.op = .buildSlice T len parts) (hel : elemT E.T T = some t) (hdst : o.dst = some d) (hlen : len * t.n ≤ 10000000)
    (h : (elemsK t st parts.toList 0 len [] fun xs ws => κ { v := .leaf (.own (d, 0)), rd := keysOf ws, wr := ws, new := [.arr false t xs] }) = some r) : ∃ δ, κ δ = some r ∧ OpOk P M w0 o st a w σ Imm δ := by
  obtain ⟨e, i, z, hu, hi, hs, hb, hn, hz, hzs⟩ := elemT_some hT hel
  obtain ⟨xs, ws, all, fps, h1, h2, h3, h4, h5⟩ := elemsK_some R0 (WsOk.nil st) h
  simp only [Nat.zero_add] at h2
  subst h2
  have hfill := h5 [] ((Array.range (xs.length * t.n)).map (z.cells[· % z.cells.size]!)).toList (by simp) (by simp)
  have hlt : ∀ b ∈ fps.flatten, b < w.heap.size := by
    intro b hb
    obtain ⟨f, hf, hb⟩ := List.mem_flatten.1 hb
    obtain ⟨k, hk⟩ := List.mem_iff_getElem?.1 hf
    have hk2 : k < xs.length := by rw [← h3.1]; exact (List.getElem?_eq_some_iff.1 hk).1
    obtain ⟨cs, _, _, c3⟩ := h3.2.2 k _ f (List.getElem?_eq_getElem hk2) hk
    exact c3.lt b hb
  have hw' : Keep NoBlock w (w.alloc (.cells all.toArray e)) := Keep.alloc w _
  have hels : Els P Imm t (w.alloc (.cells all.toArray e)) all xs fps := h3.keep (fun b hb => hw'.block b (hlt b hb) id) hw'.still0
  have hg : (w.alloc (.cells all.toArray e)).heap[w.heap.size]? = some (.cells all.toArray e (0, 0)) := heap_alloc_new w _
  have hmax : xs.length ≤ maxLen := by
    have := Nat.le_mul_of_pos_right xs.length hn
    simp only [maxLen]
    omega
  have hown := hels.own (cap := xs.length) hg (Nat.le_refl _) hmax (by simpa using h3.2.1) (by rw [← h3.2.1]; simp)
  obtain ⟨ks, e1, e2⟩ := h4.ks
  refine ⟨_, h1, OpOk.arr1 R0 hd hdst h4.ok (Taken.wr h4.ok).2 (v := .slice (some ⟨w.heap.size, 0, none⟩) xs.length xs.length) ?_ (hw'.mono fun _ _ h => h.elim) hown ?_ ?_⟩
  · have h24 : ¬ (16777216 < xs.length * t.n) := by omega
    have hf2 : Instr.fill (fun i => some (i * t.n, t.n)) ((Array.range (xs.length * t.n)).map (z.cells[· % z.cells.size]!)) ((parts.map fun (i, x) => (i, a.eval x)).toList) = some all.toArray := by
      rw [List.nil_append, List.nil_append, Array.toArray_toList] at hfill
      rw [Array.toList_map]
      exact hfill
    by_cases h0 : xs.length * t.n = 0
    · have hx0 : xs.length = 0 := by rcases Nat.mul_eq_zero.1 h0 with h | h <;> omega
      have : (Array.range (xs.length * t.n)).map (z.cells[· % z.cells.size]!) = (Array.range (xs.length * t.n)).map ((#[] : Array Value)[· % (#[] : Array Value).size]!) := by
        rw [h0]; simp
      rw [this] at hf2
      simp [execOp, ho, Instr.buildSlice, run_underlying hu, sizeOf, typeInfo, hi, hs, h24, h0, newRow]
      rw [h0] at hf2
      simp at hf2
      rw [hf2]
      simp [newRow]
    · simp only [execOp, ho, Instr.buildSlice, Sem.run_bind, run_underlying hu, sizeOf, typeInfo, Result.andThen_ok]
      simp [hi, hs, h24, h0, zeroValue, typeInfo, hz]
      simp at hf2
      rw [hf2]
      simp [newRow]
  · rw [List.nodup_cons]
    exact ⟨fun h => by have := hlt _ h; omega, h4.nd⟩
  · intro b hb
    rcases List.mem_cons.1 hb with rfl | hb
    · exact .inl (Nat.le_refl _)
    · obtain ⟨q, hq, hbq⟩ := e2 b hb
      exact .inr ⟨q, by rw [e1]; simp [hq], hbq⟩

end
end Go.Abs
