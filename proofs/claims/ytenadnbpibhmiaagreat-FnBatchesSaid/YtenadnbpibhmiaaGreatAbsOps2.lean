/- OPERATIONS THAT MAKE AND WRITE NOTHING, the second part: loads, addresses, comparisons of structs. -/
import Derived.Test.YtenadnbpibhmiaaGreatAbsOps
set_option linter.unusedVariables false
set_option linter.unusedSimpArgs false
namespace Go.Abs
open Go.RowKit

theorem dropL_eq (n : Nat) (l : List Leaf) : dropL n l = l.drop n := by
  induction n generalizing l with
  | zero => simp [dropL]
  | succ n ih => cases l <;> simp [dropL, ih]

theorem takeL_eq (n : Nat) (l : List Leaf) : takeL n l = l.take n := by
  induction n generalizing l with
  | zero => simp [takeL]
  | succ n ih => cases l <;> simp [takeL, ih]

theorem takeK_some {R : Type} {r : R} : ∀ {n : Nat} {l : List Leaf} {κ : List Leaf → Option R}, takeK n l κ = some r → n ≤ l.length ∧ κ (l.take n) = some r
  | 0, l, κ, h => ⟨Nat.zero_le _, by simpa [takeK] using h⟩
  | n + 1, [], κ, h => by simp [takeK] at h
  | n + 1, a :: l, κ, h => by
    obtain ⟨h1, h2⟩ := takeK_some (n := n) (l := l) (by simpa [takeK] using h)
    exact ⟨by simpa using h1, by simpa using h2⟩

theorem expandK_eq {R : Type} : ∀ (t : Ty) (x : t.D) (r : List Leaf) (κ : List Leaf → R), expandK t x r κ = κ (expandK t x [] id ++ r)
  | .int _, _, _, _ => rfl
  | .bool, _, _, _ => rfl
  | .slice _, _, _, _ => rfl
  | .unit, _, _, _ => rfl
  | .pair a b, x, r, κ => by
    simp only [expandK]
    rw [expandK_eq b x.2 r, expandK_eq a x.1 _ κ, expandK_eq b x.2 [] (fun r' => expandK a x.1 r' id), expandK_eq a x.1 (_ ++ []) id]
    simp
  | .fn _ _, _, _, _ => rfl
  | .vw _, _, _, _ => rfl

/-- A datum's cells. -/
def expand (t : Ty) (x : t.D) : List Leaf := expandK t x [] id

theorem expandK_nil {R : Type} (t : Ty) (x : t.D) (κ : List Leaf → R) : expandK t x [] κ = κ (expand t x) := by rw [expandK_eq]; simp [expand]

theorem expand_pair (a b : Ty) (x : (Ty.pair a b).D) : expand (.pair a b) x = expand a x.1 ++ expand b x.2 := by
  show expandK (.pair a b) x [] id = _
  simp only [expandK]
  rw [expandK_eq b, expandK_eq a]
  simp [expand]

theorem expand_hds : ∀ (t : Ty) (x : t.D), lsHds (expand t x) = []
  | .int _, _ => rfl
  | .bool, _ => rfl
  | .slice _, _ => rfl
  | .unit, _ => rfl
  | .pair a b, x => by
    rw [expand_pair]
    have h : ∀ (l m : List Leaf), lsHds l = [] → lsHds m = [] → lsHds (l ++ m) = [] := by
      intro l m
      induction l with
      | nil => simp
      | cons a l ih => simp only [lsHds, List.cons_append, List.append_eq_nil_iff]; rintro ⟨h1, h2⟩ h3; exact ⟨h1, ih h2 h3⟩
    exact h _ _ (expand_hds a x.1) (expand_hds b x.2)
  | .fn _ _, _ => rfl
  | .vw _, _ => rfl

theorem lsHds_mem {l : List Leaf} {o : Hd} : o ∈ lsHds l ↔ ∃ x ∈ l, o ∈ x.hds := by
  induction l with
  | nil => simp [lsHds]
  | cons a l ih => simp [lsHds, ih]

section
variable {P : Program} {σ : Hd → Phys} {Imm : Nat → Prop} {w : World}

theorem LRs.length : ∀ {ls : List Leaf} {vs : List Value}, LRs P σ Imm w ls vs → ls.length = vs.length
  | [], _, h => by cases h; rfl
  | _ :: ls, _, ⟨v, r, e, _, h⟩ => by cases e; simp [h.length]

theorem LRs.append : ∀ {ls ms : List Leaf} {vs us : List Value}, LRs P σ Imm w ls vs → LRs P σ Imm w ms us → LRs P σ Imm w (ls ++ ms) (vs ++ us)
  | [], _, _, _, h, k => by cases h; exact k
  | _ :: _, _, _, _, ⟨v, r, e, h1, h⟩, k => by cases e; exact ⟨v, _, rfl, h1, h.append k⟩

theorem LRs.drop : ∀ (n : Nat) {ls : List Leaf} {vs : List Value}, LRs P σ Imm w ls vs → LRs P σ Imm w (ls.drop n) (vs.drop n)
  | 0, _, _, h => by simpa using h
  | n + 1, [], _, h => by cases h; rfl
  | n + 1, _ :: ls, _, ⟨v, r, e, _, h⟩ => by cases e; simpa using h.drop n

theorem LRs.take : ∀ (n : Nat) {ls : List Leaf} {vs : List Value}, LRs P σ Imm w ls vs → LRs P σ Imm w (ls.take n) (vs.take n)
  | 0, _, _, h => by simp [LRs]
  | n + 1, [], _, h => by cases h; rfl
  | n + 1, _ :: ls, _, ⟨v, r, e, h1, h⟩ => by cases e; exact ⟨v, r.take n, by simp, h1, h.take n⟩

theorem LRs.flat {I : Nat → Prop} {σ' : Hd → Phys} {w' : World} : ∀ {ls : List Leaf} {vs : List Value}, flatLs ls = true → LRs P σ I w ls vs → LRs P σ' Imm w' ls vs
  | [], _, _, h => h
  | .int _ _ :: _, _, hf, ⟨v, r, e, h1, h⟩ => ⟨v, r, e, h1, h.flat hf⟩
  | .bool _ :: _, _, hf, ⟨v, r, e, h1, h⟩ => ⟨v, r, e, h1, h.flat hf⟩

theorem flatLs_hds : ∀ {ls : List Leaf}, flatLs ls = true → lsHds ls = []
  | [], _ => rfl
  | .int _ _ :: _, h => by simp only [lsHds, Leaf.hds, List.nil_append]; exact flatLs_hds h
  | .bool _ :: _, h => by simp only [lsHds, Leaf.hds, List.nil_append]; exact flatLs_hds h

/-- What reads, cell by cell. -/
theorem Rd.cells : ∀ {t : Ty} {vs : List Value} {x : t.D}, Rd P t Imm w vs x → LRs P σ Imm w (expand t x) vs
  | .int _, _, _, h => ⟨_, [], h, rfl, rfl⟩
  | .bool, _, _, h => ⟨_, [], h, rfl, rfl⟩
  | .slice t, vs, xs, h => by
    obtain ⟨a, cap, e, h1, h2, h3⟩ := h
    exact ⟨_, [], e, ⟨a, cap, rfl, h1, h2, h3⟩, rfl⟩
  | .unit, _, _, h => h
  | .pair a b, _, x, ⟨v1, v2, e, _, h1, h2⟩ => by rw [expand_pair, e]; exact h1.cells.append h2.cells
  | .fn a r, _, p, ⟨f, caps, e, h1, h2⟩ => ⟨_, [], e, ⟨f, caps, rfl, h1, h2⟩, rfl⟩
  | .vw t, vs, xs, h => by
    obtain ⟨a, cap, e, h1, h2, h3⟩ := h
    exact ⟨_, [], e, ⟨a, cap, rfl, h1, h2, h3⟩, rfl⟩

def isAggK : TK → Bool
  | .struct _ => true
  | _ => false

/-- What a load yields. -/
theorem wrapAV_some {R : Type} {r : R} {k : TK} {ls : List Leaf} {κ : AV → Option R} (h : wrapAV k ls κ = some r) :
    ∃ x, κ x = some r ∧ ((∃ fs, k = .struct fs ∧ x = .agg ls) ∨ ((∀ fs, k ≠ .struct fs) ∧ ∃ l, ls = [l] ∧ x = .leaf l)) := by
  cases k with
  | struct fs => exact ⟨.agg ls, by simpa [wrapAV] using h, .inl ⟨fs, rfl, rfl⟩⟩
  | _ =>
    simp only [wrapAV] at h
    split at h
    · rename_i l; exact ⟨.leaf l, h, .inr ⟨by simp, l, rfl, rfl⟩⟩
    · cases h

theorem run_isAgg {t : Nat} {d : TypeDesc} (h : P.underlying t = some d) : (isAgg t).run P w = .ok (!notAgg d) w := by
  unfold isAgg
  rw [Sem.run_bind, run_underlying h w]
  cases d <;> rfl

theorem KOk.agg {t : Nat} {ty : Ty} {k : TK} (h : KOk P t ty k) : ∃ d, P.underlying t = some d ∧ notAgg d = !isAggK k := by
  cases k with
  | int k => exact ⟨_, h, rfl⟩
  | bool => exact ⟨_, h, rfl⟩
  | slice e => exact ⟨_, h.1, rfl⟩
  | struct fs => obtain ⟨F, h1, _⟩ := h; exact ⟨_, h1, rfl⟩
  | other => obtain ⟨d, h1, h2⟩ := h; exact ⟨d, h1, h2⟩

theorem addr_add (b o j : Nat) : (⟨b, o, none⟩ : Addr).add j = ⟨b, o + j, none⟩ := by unfold Addr.add; split <;> simp_all

/-- A load of so many cells. -/
theorem run_loadVar_cells {t : Nat} {ti : TI} (ht : TIok P t ti) {b o : Nat} {cs : List Value} (hl : cs.length = ti.n) (hc : cellsAt w b o cs) :
    (loadVar t ⟨b, o, none⟩).run P w = match ti.k with
      | .struct _ => .ok (.agg cs.toArray) w
      | _ => (load ⟨b, o, none⟩).run P w := by
  obtain ⟨i, z, hi, hn, _⟩ := ht.info
  obtain ⟨d, hd, hg⟩ := ht.k.agg
  have hag := run_isAgg (P := P) (w := w) hd
  have hld : (loadCells ⟨b, o, none⟩ ti.n).run P w = .ok cs.toArray w := by
    rw [← hl]
    exact run_loadCells_list (P := P) w ⟨b, o, none⟩ cs fun j v hj => by rw [addr_add]; exact (cellsAt_get cs o).1 hc j v hj
  unfold loadVar
  rw [Sem.run_bind, hag]
  cases hk : ti.k with
  | struct fs => rw [hk] at hg; simp [hg, isAggK, sizeOf, typeInfo, hi, hn, hld]
  | _ => rw [hk] at hg; simp [hg, isAggK]

/-- A load, as its cells tell it. -/
theorem load_rel {R : Type} {r : R} {t : Nat} {ti : TI} (ht : TIok P t ti) {b o : Nat} {cs : List Value} {ls : List Leaf} {κ : AV → Option R} (hl : cs.length = ti.n) (hc : cellsAt w b o cs)
    (hr : LRs P σ Imm w ls cs) (h : wrapAV ti.k ls κ = some r) :
    ∃ x v, κ x = some r ∧ (loadVar t ⟨b, o, none⟩).run P w = .ok v w ∧ AVR P σ Imm w x v ∧ x.hds = lsHds ls := by
  obtain ⟨x, hx, hh⟩ := wrapAV_some h
  have hrun := run_loadVar_cells ht hl hc
  rcases hh with ⟨fs, hk, rfl⟩ | ⟨hk, l, rfl, rfl⟩
  · rw [hk] at hrun
    exact ⟨_, _, hx, hrun, ⟨cs, rfl, hr⟩, rfl⟩
  · obtain ⟨v, q, rfl, hv, hq⟩ := hr
    cases hq
    refine ⟨_, v, hx, ?_, hv, by simp [AV.hds, lsHds]⟩
    rw [hrun]
    have : (load ⟨b, o, none⟩).run P w = .ok v w := by rw [run_load, hc.1]
    split
    · rename_i fs e; exact absurd e (hk fs)
    · exact this

end

theorem takeL_sub {l : List Leaf} {n : Nat} {o : Hd} (h : o ∈ lsHds (l.take n)) : o ∈ lsHds l := by
  obtain ⟨x, hx, ho⟩ := lsHds_mem.1 h
  exact lsHds_mem.2 ⟨x, List.mem_of_mem_take hx, ho⟩
theorem dropL_sub {l : List Leaf} {n : Nat} {o : Hd} (h : o ∈ lsHds (l.drop n)) : o ∈ lsHds l := by
  obtain ⟨x, hx, ho⟩ := lsHds_mem.1 h
  exact lsHds_mem.2 ⟨x, List.mem_of_mem_drop hx, ho⟩

theorem cellsAt_sub {w : World} {b o : Nat} {cs : List Value} (h : cellsAt w b o cs) (k n : Nat) : cellsAt w b (o + k) ((cs.drop k).take n) := by
  rw [cellsAt_get] at h ⊢
  intro j v hj
  rw [List.getElem?_take] at hj
  split at hj
  · rw [List.getElem?_drop] at hj
    have := h (k + j) v hj
    rwa [← Nat.add_assoc] at this
  · cases hj

theorem cellsAt_row {w : World} {b : Nat} {c : Array Value} {ty : TypeId} {fr : Nat × Nat} (h : w.heap[b]? = some (.cells c ty fr)) : cellsAt w b 0 c.toList := by
  rw [cellsAt_get]
  intro j v hj
  rw [Nat.zero_add, cell_of_row w b j c ty fr h]
  simpa using hj

section
variable {P : Program} {M : Nat → Prop} {w0 : World} {σ : Hd → Phys} {Imm : Nat → Prop} {st : St} {a : Act} {w : World} {o : Oper} {E : Env}

/-- What one must know of the program. -/
theorem ok_load {R : Type} {r : R} {t : Nat} {x : Operand} {ti : TI} {κ : Dl → Option R} (R0 : Rel P M w0 σ Imm st a w) (hd : ∀ i, o.dst = some i → i < st.t.length) (ht : TIok P t ti)
    (ho : o.op = .load t x) (h : loadK st ti (val st x) κ = some r) : ∃ δ, κ δ = some r ∧ OpOk P M w0 o st a w σ Imm δ := by
  have hx := R0.av x
  have hxc := R0.vc x
  have key : ∀ {rd : List Hd} {b off : Nat} {cs : List Value} {ls : List Leaf}, a.eval x = .pointer (some ⟨b, off, none⟩) → cs.length = ti.n → cellsAt w b off cs → LRs P σ Imm w ls cs →
      Closed st.h (lsHds ls) → Closed st.h rd → wrapAV ti.k ls (fun v => κ { v, rd }) = some r → ∃ δ, κ δ = some r ∧ OpOk P M w0 o st a w σ Imm δ := by
    intro rd b off cs ls he hl hc hr hcl hrd hw
    obtain ⟨y, v, hy, hrun, hv, hh⟩ := load_rel ht hl hc hr hw
    refine ⟨_, hy, OpOk.value R0 hd (v := v) ?_ hv (by rw [hh]; exact hcl) hrd⟩
    simp [execOp, ho, Instr.loadAt, he, Instr.sureAddr, hrun]
  generalize val st x = vx at *
  unfold loadK at h
  split at h
  · -- a box
    rename_i q off
    split at h
    · rename_i ro ls hq
      obtain ⟨h1, h2⟩ := takeK_some h
      rw [dropL_eq] at h1 h2
      have hob := R0.ob q
      rw [hq] at hob
      obtain ⟨c, ty, hb, hr, _⟩ := hob
      have hlen := hr.length
      refine key (ls := (ls.drop off).take ti.n) (cs := (c.toList.drop off).take ti.n) hx (by simp at h1 hlen ⊢; omega) ?_ ((hr.drop off).take ti.n) ?_ (fun q' hq' => hxc q' (by simpa [AV.hds, Leaf.hds] using hq')) h2
      · have := cellsAt_sub (cellsAt_row hb) off ti.n
        rwa [Nat.zero_add] at this
      · intro q' hq'
        exact R0.cb q ro ls hq q' (dropL_sub (takeL_sub hq'))
    · cases h
  · -- what nobody writes
    rename_i ty y off
    rw [expandK_nil] at h
    obtain ⟨h1, h2⟩ := takeK_some h
    rw [dropL_eq] at h1 h2
    obtain ⟨b, p, cs, he, hb, hl, hlen, hcs, hr⟩ := hx
    have hrc := hr.cells (σ := σ)
    have hlen2 := hrc.length
    refine key (ls := ((expand ty y).drop off).take ti.n) (cs := (cs.drop off).take ti.n) he (by simp at h1 hlen2 ⊢; omega) (cellsAt_sub hcs off ti.n) ((hrc.drop off).take ti.n) ?_ closed_nil h2
    intro q' hq'
    have := dropL_sub (takeL_sub hq')
    rw [expand_hds] at this
    cases this
  · -- an element of an array of one's own
    rename_i q n i off
    split at h
    · rename_i ro ty xs hq
      cases hxs : xs[i]? with
      | none => rw [hxs] at h; simp at h
      | some y =>
        rw [hxs] at h
        simp only [Option.bind_some] at h
        rw [expandK_nil] at h
        obtain ⟨h1, h2⟩ := takeK_some h
        rw [dropL_eq] at h1 h2
        split at h2
        · rename_i hfl hnb
          have hob := R0.ob q
          rw [hq] at hob
          obtain ⟨hown, hbv⟩ := hob
          rcases hown with ⟨_, e, _⟩ | ⟨g, cap, cur, ty', fps, e1, e2, e3, e4, e5, e6, e7, e8⟩
          · subst e; simp at hxs
          · have hlt : i < fps.length := by rw [e6]; exact (List.getElem?_eq_some_iff.1 hxs).1
            obtain ⟨cs, hlen, hcs, hown⟩ := e8 i y fps[i] hxs (List.getElem?_eq_getElem hlt)
            simp only [List.cons.injEq, and_true] at e1
            have hg := hbv _ _ _ e1
            simp only [Addr.mk.injEq, and_true] at hg
            have hn : n = ty.n := Nat.eq_of_beq_eq_true hnb
            rcases (show flatLs _ = true ∨ ty.cop = true by simpa only [Bool.or_eq_true] using hfl) with hfl | hcop
            · have hrc := (hown.rd (J := fun b => b ∈ fps[i] ∨ Imm b) (fun _ hb => .inl hb) fun _ hb => .inr hb).cells (σ := σ)
              have hlen2 := hrc.length
              refine key (ls := ((expand ty y).drop off).take ti.n) (cs := (cs.drop off).take ti.n) hx (by simp at h1 hlen2 ⊢; omega) ?_ (LRs.flat hfl ((hrc.drop off).take ti.n)) (by rw [flatLs_hds hfl]; exact closed_nil) (fun q' hq' => hxc q' (by simpa [AV.hds, Leaf.hds] using hq')) h2
              have := cellsAt_sub hcs off ti.n
              rw [hn, ← hg]
              exact this
            · have hnil := Own.cop hcop hown
              have hrc := (hown.rd (J := Imm) (fun b hb => by rw [hnil] at hb; cases hb) fun _ hb => hb).cells (σ := σ)
              have hlen2 := hrc.length
              refine key (ls := ((expand ty y).drop off).take ti.n) (cs := (cs.drop off).take ti.n) hx (by simp at h1 hlen2 ⊢; omega) ?_ ((hrc.drop off).take ti.n) (fun q' hq' => ?_) (fun q' hq' => hxc q' (by simpa [AV.hds, Leaf.hds] using hq')) h2
              · have := cellsAt_sub hcs off ti.n
                rw [hn, ← hg]
                exact this
              · have := dropL_sub (takeL_sub hq')
                rw [expand_hds] at this
                cases this
        · cases h2
    · cases h
  · cases h

end
end Go.Abs
