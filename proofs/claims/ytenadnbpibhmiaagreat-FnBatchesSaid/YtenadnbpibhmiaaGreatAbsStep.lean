/- WHAT AN OPERATION's DOINGS LEAVE OF THE RELATION. -/
import Derived.Test.YtenadnbpibhmiaaGreatAbsRel
set_option linter.unusedVariables false
set_option linter.unusedSimpArgs false
namespace Go.Abs
open Go.RowKit

theorem getT_eq (l : List AV) (i : Nat) : getT l i = l.getD i .any := by
  induction l generalizing i with
  | nil => simp [getT]
  | cons a l ih => cases i with
    | zero => simp [getT]
    | succ i => simpa [getT] using ih i

theorem getJ_eq (l : List Obj') (i : Nat) : getJ l i = l.getD i .none := by
  induction l generalizing i with
  | nil => simp [getJ]
  | cons a l ih => cases i with
    | zero => simp [getJ]
    | succ i => simpa [getJ] using ih i

theorem getL_eq (l : List (List Obj')) (i : Nat) : getL l i = l.getD i [] := by
  induction l generalizing i with
  | nil => simp [getL]
  | cons a l ih => cases i with
    | zero => simp [getL]
    | succ i => simpa [getL] using ih i

theorem setK_eq {α R : Type} (l : List α) (n : Nat) (v : α) (κ : List α → Option R) : setK l n v κ = κ (l.set n v) := by
  induction l generalizing n κ with
  | nil => simp [setK]
  | cons a l ih => cases n with
    | zero => simp [setK]
    | succ n => simp [setK, ih]

theorem getT_set (l : List AV) (d i : Nat) (v : AV) (h : d < l.length) : getT (l.set d v) i = if d = i then v else getT l i := by
  simp only [getT_eq, List.getD_eq_getElem?_getD, List.getElem?_set]
  split
  · simp [h]
  · rfl

def setO (h : List (List Obj')) (o : Hd) (x : Obj') : List (List Obj') := h.set o.1 ((getL h o.1).set o.2 x)

theorem putO_eq {R : Type} (h : List (List Obj')) (o : Hd) (x : Obj') (κ : List (List Obj') → Option R) : putO h o x κ = κ (setO h o x) := by
  simp [putO, setK_eq, setO]

def setOs : List (Hd × Obj') → List (List Obj') → List (List Obj')
  | [], h => h
  | (o, x) :: r, h => setOs r (setO h o x)

theorem putOs_eq {R : Type} (ws : List (Hd × Obj')) (h : List (List Obj')) (κ : List (List Obj') → Option R) : putOs ws h κ = κ (setOs ws h) := by
  induction ws generalizing h with
  | nil => rfl
  | cons x r ih => obtain ⟨o, x⟩ := x; simp [putOs, putO_eq, setOs, ih]

theorem getL_set (h : List (List Obj')) (d i : Nat) (v : List Obj') : getL (h.set d v) i = if d = i ∧ d < h.length then v else getL h i := by
  simp only [getL_eq, List.getD_eq_getElem?_getD, List.getElem?_set]
  by_cases hd : d = i
  · subst hd
    by_cases hl : d < h.length
    · simp [hl]
    · simp [hl]
  · simp [hd]

theorem getJ_set (l : List Obj') (d i : Nat) (v : Obj') : getJ (l.set d v) i = if d = i ∧ d < l.length then v else getJ l i := by
  simp only [getJ_eq, List.getD_eq_getElem?_getD, List.getElem?_set]
  by_cases hd : d = i
  · subst hd
    by_cases hl : d < l.length
    · simp [hl]
    · simp [hl]
  · simp [hd]

theorem there_bounds {h : List (List Obj')} {o : Hd} (ht : (getO h o).there = true) : o.1 < h.length ∧ o.2 < (getL h o.1).length := by
  unfold getO at ht
  constructor
  · rcases Nat.lt_or_ge o.1 h.length with h1 | h1
    · exact h1
    · simp [getL_eq, List.getD_eq_getElem?_getD, List.getElem?_eq_none h1, getJ, Obj'.there] at ht
  · rcases Nat.lt_or_ge o.2 (getL h o.1).length with h1 | h1
    · exact h1
    · simp [getJ_eq, List.getD_eq_getElem?_getD, List.getElem?_eq_none h1, Obj'.there] at ht

theorem getO_setO {h : List (List Obj')} {o : Hd} (x : Obj') (ht : (getO h o).there = true) (o' : Hd) : getO (setO h o x) o' = if o = o' then x else getO h o' := by
  obtain ⟨h1, h2⟩ := there_bounds ht
  unfold setO getO
  rw [getL_set]
  by_cases e1 : o.1 = o'.1
  · simp only [e1, true_and]
    rw [if_pos (by omega), getJ_set]
    by_cases e2 : o.2 = o'.2
    · rw [if_pos ⟨e2, by rw [← e1]; exact h2⟩, if_pos (Prod.ext e1 e2)]
    · rw [if_neg (fun h => e2 h.1), if_neg (fun h => e2 (by rw [h]))]
  · rw [if_neg (fun h => e1 h.1), if_neg (fun h => e1 (by rw [h]))]

theorem length_setO (h : List (List Obj')) (o : Hd) (x : Obj') : (setO h o x).length = h.length := by simp [setO]
theorem length_setOs (ws : List (Hd × Obj')) (h : List (List Obj')) : (setOs ws h).length = h.length := by
  induction ws generalizing h with
  | nil => rfl
  | cons x r ih => obtain ⟨o, x⟩ := x; simp [setOs, ih, length_setO]

theorem keysOf_eq (ws : List (Hd × Obj')) : keysOf ws = ws.map (·.1) := by
  induction ws with
  | nil => rfl
  | cons x r ih => obtain ⟨o, x⟩ := x; simp [keysOf, ih]

/-- Writes to objects that are there, each once. -/
theorem getO_setOs (ws : List (Hd × Obj')) : ∀ (h : List (List Obj')), (keysOf ws).Nodup → (∀ o x, (o, x) ∈ ws → (getO h o).there = true ∧ x.there = true) → ∀ o',
    (∀ x, (o', x) ∈ ws → getO (setOs ws h) o' = x) ∧ (o' ∉ keysOf ws → getO (setOs ws h) o' = getO h o') := by
  induction ws with
  | nil => intro h _ _ o'; exact ⟨fun x hx => (by cases hx), fun _ => rfl⟩
  | cons y r ih =>
    obtain ⟨o, y⟩ := y
    intro h hn ht o'
    simp only [keysOf, List.nodup_cons] at hn
    have hy := ht o y (by simp)
    have hg := getO_setO y hy.1
    have ih' := ih (setO h o y) hn.2 (fun o2 x2 h2 => by
      have := ht o2 x2 (by simp [h2])
      refine ⟨?_, this.2⟩
      rw [hg]
      split
      · exact hy.2
      · exact this.1) o'
    constructor
    · intro x hx
      rcases List.mem_cons.1 hx with e | hx
      · cases e
        show getO (setOs r (setO h o y)) o = y
        rw [ih'.2 hn.1, hg, if_pos rfl]
      · exact ih'.1 x hx
    · intro hno
      simp only [keysOf, List.mem_cons, not_or] at hno
      show getO (setOs r (setO h o y)) o' = getO h o'
      rw [ih'.2 hno.2, hg, if_neg (fun e => hno.1 e.symm)]

def setD (t : List AV) (d : Option Nat) (x : AV) : List AV :=
  match d with
  | some d => t.set d x
  | none => t

def appS (d : Option Nat) (δ : Dl) (st : St) : Option St :=
  match d with
  | none => match δ.new with
    | [] => some { st with h := setOs δ.wr st.h }
    | _ => none
  | some d => match δ.new with
    | [] => some ⟨st.t.set d δ.v, setOs δ.wr st.h⟩
    | new => match getL (setOs δ.wr st.h) d with
      | [] => some ⟨st.t.set d δ.v, (setOs δ.wr st.h).set d new⟩
      | _ => none

theorem app_eq {R : Type} (d : Option Nat) (δ : Dl) (st : St) (κ : St → Option R) : app d δ st κ = (appS d δ st).bind κ := by
  unfold app appS
  rw [putOs_eq]
  cases d with
  | none => cases δ.new <;> simp
  | some d =>
    cases hn : δ.new with
    | nil => simp [setK_eq]
    | cons x r =>
      simp only []
      cases getL (setOs δ.wr st.h) d <;> simp [setK_eq]

section
variable {P : Program} {σ σ' : Hd → Phys} {Imm Imm' : Nat → Prop} {w w' : World} {h : List (List Obj')}

/-- How what is told of cells goes on being true. -/
structure Goes (h : List (List Obj')) (σ σ' : Hd → Phys) (Imm Imm' : Nat → Prop) (w w' : World) : Prop where
  sg : ∀ o, (getO h o).there = true → (σ' o).v = (σ o).v ∧ (σ' o).b = (σ o).b
  im : ∀ b, Imm b → b < w.heap.size → Imm' b ∧ b < w'.heap.size ∧ w'.heap[b]? = w.heap[b]?

theorem Goes.refl : Goes h σ σ Imm Imm w w := ⟨fun _ _ => ⟨rfl, rfl⟩, fun _ hb hl => ⟨hb, hl, rfl⟩⟩

theorem LR.goes (g : Goes h σ σ' Imm Imm' w w') : ∀ {l : Leaf} {v : Value}, Closed h l.hds → LR P σ Imm w l v → LR P σ' Imm' w' l v
  | .undef, _, _, h => h
  | .int _ _, _, _, h => h
  | .bool _, _, _, h => h
  | .nil, _, _, h => h
  | .view _ _, _, _, h => Rd.keep (t := .slice _) h g.im
  | .viewN _ _, _, _, h => ⟨Rd.keep (t := .slice _) h.1 g.im, h.2⟩
  | .own o, _, hc, h => by show _ = _ ∧ _; rw [(g.sg o (hc o (by simp [Leaf.hds]))).1]; exact h
  | .part o _ _ _, _, hc, ⟨a, len, cap, e, h⟩ => ⟨a, len, cap, by rw [(g.sg o (hc o (by simp [Leaf.hds]))).1]; exact e, h⟩
  | .box o _, _, hc, h => by show _ = _; rw [(g.sg o (hc o (by simp [Leaf.hds]))).2]; exact h
  | .elem o _ _ _, _, hc, h => by show _ = _; rw [(g.sg o (hc o (by simp [Leaf.hds]))).2]; exact h
  | .vis t x off, _, _, ⟨b, o, cs, e, hb, hl, hlen, hcs, hr⟩ => by
    obtain ⟨k1, k2, k3⟩ := g.im b hb hl
    exact ⟨b, o, cs, e, k1, k2, hlen, cellsAt_congr k3 _ _ hcs, hr.keep g.im⟩
  | .fn f caps, _, hc, h => by
    show _ = _
    have e : caps.map (fun o => Value.pointer (some ⟨(σ' o).b, 0, none⟩)) = caps.map (fun o => Value.pointer (some ⟨(σ o).b, 0, none⟩)) :=
      List.map_congr_left fun o ho => by rw [(g.sg o (hc o (by simpa [Leaf.hds] using ho))).2]
    rw [e]; exact h
  | .fnd _ _ _, _, _, h => Rd.keep (t := .fn _ _) h g.im

theorem LRs.goes (g : Goes h σ σ' Imm Imm' w w') : ∀ {ls : List Leaf} {vs : List Value}, Closed h (lsHds ls) → LRs P σ Imm w ls vs → LRs P σ' Imm' w' ls vs
  | [], _, _, h => h
  | _ :: _, _, hc, ⟨v, r, e, h1, h2⟩ => ⟨v, r, e, h1.goes g (fun o ho => hc o (by simp [lsHds, ho])), h2.goes g (fun o ho => hc o (by simp [lsHds, ho]))⟩

theorem TupR.goes (g : Goes h σ σ' Imm Imm' w w') : ∀ {ts : List (Bool × List Leaf)} {vs : List Value}, Closed h (ts.flatMap fun x => lsHds x.2) → TupR P σ Imm w ts vs → TupR P σ' Imm' w' ts vs
  | [], _, _, h => h
  | (_, _) :: _, _, hc, ⟨v, r, cs, e, h1, h2, h3⟩ => ⟨v, r, cs, e, h1.goes g (fun o ho => hc o (by simp [ho])), h2, h3.goes g (fun o ho => hc o (by simp only [List.flatMap_cons, List.mem_append]; exact .inr ho))⟩

theorem AVR.goes (g : Goes h σ σ' Imm Imm' w w') : ∀ {v : AV} {u : Value}, Closed h v.hds → AVR P σ Imm w v u → AVR P σ' Imm' w' v u
  | .any, _, _, _ => trivial
  | .skip, _, _, h => h
  | .leaf _, _, hc, h => LR.goes g hc h
  | .agg _, _, hc, ⟨cs, e, h⟩ => ⟨cs, e, h.goes g hc⟩
  | .tup _, _, hc, ⟨vs, e, h⟩ => ⟨vs, e, h.goes g hc⟩

/-- An object that is not touched. -/
theorem ObR.goes (g : Goes h σ σ' Imm Imm' w w') {o : Hd} {x : Obj'} (hx : x.live = true → σ' o = σ o) (hc : ∀ ro ls, x = .box ro ls → Closed h (lsHds ls))
    (hb : x.live = true → ∀ b ∈ (σ o).fp, w'.heap[b]? = w.heap[b]?) (hr : ObR P σ Imm w o x) : ObR P σ' Imm' w' o x := by
  cases x with
  | none => trivial
  | dead => trivial
  | box ro ls =>
    obtain ⟨c, ty, h1, h2, h3⟩ := hr
    have e := hx rfl
    refine ⟨c, ty, ?_, h2.goes g (hc ro ls rfl), by rw [e]; exact h3⟩
    rw [e, hb rfl _ (by rw [h3]; simp)]
    exact h1
  | arr ro t xs =>
    obtain ⟨h1, h2⟩ := hr
    have e := hx rfl
    refine ⟨?_, by rw [e]; exact h2⟩
    rw [e]
    exact h1.keep (hb rfl) g.im

end

theorem Closed.mono {h h' : List (List Obj')} {l : List Hd} (hc : Closed h l) (hm : ∀ o, (getO h o).there = true → (getO h' o).there = true) : Closed h' l := fun o ho => hm o (hc o ho)

/-- THE STEP: what was not touched stays; what was touched, and what is new, is told anew. -/
theorem Rel.step {P : Program} {M : Nat → Prop} {w0 : World} {σ σ' : Hd → Phys} {Imm Imm' : Nat → Prop} {st st' : St} {a : Act} {w w' : World} (R : Rel P M w0 σ Imm st a w)
    (d : Option Nat) (x : AV) (v : Value) (T : List Hd)
    (ht : st'.t = setD st.t d x)
    (hd : ∀ i, d = some i → i < st.t.length)
    (hl : st'.h.length = st.h.length)
    (g : Goes st.h σ σ' Imm Imm' w w')
    (hsg : ∀ o, o ∉ T → (getO st.h o).there = true → σ' o = σ o)
    (hI : ∀ b, Imm' b → b < w'.heap.size)
    (hK : Keep M w0 w')
    (hm : ∀ o, (getO st.h o).there = true → (getO st'.h o).there = true)
    (hu : ∀ o, o ∉ T → getO st'.h o = getO st.h o)
    (hb : ∀ o, o ∉ T → (getO st.h o).live = true → ∀ b ∈ (σ o).fp, w'.heap[b]? = w.heap[b]? ∧ ¬ Imm' b)
    (hv : AVR P σ' Imm' w' x v) (hvc : Closed st'.h x.hds)
    (ho : ∀ o, o ∈ T → ObR P σ' Imm' w' o (getO st'.h o))
    (hoc : ∀ o, o ∈ T → ∀ ro ls, getO st'.h o = .box ro ls → Closed st'.h (lsHds ls))
    (hn : ∀ o, o ∈ T → (getO st'.h o).live = true → (σ' o).fp.Nodup ∧ ∀ b ∈ (σ' o).fp, ¬ Imm' b ∧ (w0.heap.size ≤ b ∨ M b))
    (hj : ∀ o o', o ∈ T → o ≠ o' → (getO st'.h o).live = true → (getO st'.h o').live = true → ∀ b ∈ (σ' o).fp, b ∉ (σ' o').fp) :
    Rel P M w0 σ' Imm' st' (a.put d v) w' := by
  have hput : ∀ i, (a.put d v).tmps.getD i undef = if d = some i then v else a.tmps.getD i undef := by
    intro i
    cases d with
    | none => simp [Act.put]
    | some j =>
      have hj := hd j rfl
      rw [R.len] at hj
      simp only [Act.put, Array.getD_eq_getD_getElem?, Array.getElem?_setIfInBounds, Option.some.injEq]
      by_cases e : j = i
      · subst e; simp [hj]
      · simp [e]
  have hget : ∀ i, getT st'.t i = if d = some i then x else getT st.t i := by
    intro i
    cases d with
    | none => simp [ht, setD]
    | some j => simp only [ht, Option.some.injEq]; exact getT_set _ _ _ _ (hd j rfl)
  have hsl : ∀ o, (getO st.h o).live = true → (getO st.h o).there = true := by intro o; cases getO st.h o <;> simp [Obj'.live, Obj'.there]
  refine ⟨?_, ?_, ?_, ?_, ?_, ?_, ?_, ?_, ?_, hI, hK⟩
  · have e1 : st'.t.length = st.t.length := by rw [ht]; cases d <;> simp [setD]
    have e2 : (a.put d v).tmps.size = a.tmps.size := by cases d <;> simp [Act.put]
    rw [e1, e2]; exact R.len
  · have e1 : st'.t.length = st.t.length := by rw [ht]; cases d <;> simp [setD]
    rw [hl, e1]; exact R.hlen
  · cases d <;> exact R.defers
  · intro i
    rw [hput, hget]
    split
    · exact hv
    · exact (R.tm i).goes g (R.ct i)
  · intro o
    by_cases hT : o ∈ T
    · exact ho o hT
    · rw [hu o hT]
      exact (R.ob o).goes g (fun hx => hsg o hT (hsl o hx)) (fun ro ls e => R.cb o ro ls e) (fun hx b hbm => (hb o hT hx b hbm).1)
  · intro i
    rw [hget]
    split
    · exact hvc
    · exact (R.ct i).mono hm
  · intro o ro ls e
    by_cases hT : o ∈ T
    · exact hoc o hT ro ls e
    · rw [hu o hT] at e
      exact (R.cb o ro ls e).mono hm
  · intro o hlv
    by_cases hT : o ∈ T
    · exact hn o hT hlv
    · rw [hu o hT] at hlv
      rw [hsg o hT (hsl o hlv)]
      exact ⟨(R.nd o hlv).1, fun b hbm => ⟨(hb o hT hlv b hbm).2, ((R.nd o hlv).2 b hbm).2⟩⟩
  · intro o o' hne h1 h2
    by_cases hT : o ∈ T
    · exact hj o o' hT hne h1 h2
    · by_cases hT' : o' ∈ T
      · intro b hb1 hb2
        exact hj o' o hT' (fun e => hne e.symm) h2 h1 b hb2 hb1
      · rw [hu o hT] at h1
        rw [hu o' hT'] at h2
        rw [hsg o hT (hsl o h1), hsg o' hT' (hsl o' h2)]
        exact R.dj o o' hne h1 h2

end Go.Abs
