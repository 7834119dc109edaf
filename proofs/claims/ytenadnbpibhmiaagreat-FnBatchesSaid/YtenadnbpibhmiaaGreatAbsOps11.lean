/- CALLS. -/
import Derived.Test.YtenadnbpibhmiaaGreatAbsOps10
set_option linter.unusedVariables false
set_option linter.unusedSimpArgs false
namespace Go.Abs
open Go.RowKit

/-- A function that has a body. -/
def HasBody (P : Program) (f : FuncId) : Prop := (P.funcs[f]?).any (fun fn => fn.body.isSome && fn.name != "runtime.NumGoroutine") = true

/-- The results' value. -/
def resV (one : Bool) (r : Ty) (cs : List Value) : Value :=
  match one with
  | true => valOf r cs
  | false => .tuple (argsOf r cs).toArray

/-- Boxes that are captured. -/
def CapsRd (P : Program) : (c : Ty) → (Nat → Prop) → World → List Nat → c.D → Prop
  | .unit, _, _, bs, _ => bs = []
  | .pair a r, Imm, w, bs, z => ∃ b bs' cv ty fr, bs = b :: bs' ∧ Imm b ∧ b < w.heap.size ∧ w.heap[b]? = some (.cells cv ty fr) ∧ Rd P a Imm w cv.toList z.1 ∧ CapsRd P r Imm w bs' z.2
  | _, _, _, _, _ => False

/-- The arguments of a call that writes. -/
def ArgsR (P : Program) (Imm : Nat → Prop) : (ms : List Md) → (a : Ty) → World → List Value → a.D → List Nat → Prop
  | [], .unit, _, vs, _, fp => vs = [] ∧ fp = []
  | .rd :: ms, .pair t a, w, vs, x, fp => ∃ cs r, vs = valOf t cs :: r ∧ Rd P t Imm w cs x.1 ∧ ArgsR P Imm ms a w r x.2 fp
  | .nil :: ms, .pair .unit a, w, vs, x, fp => ∃ r, vs = .slice none 0 0 :: r ∧ ArgsR P Imm ms a w r x.2 fp
  | .lent :: ms, .pair t a, w, vs, x, fp => ∃ cs r f1 f2, vs = valOf t cs :: r ∧ fp = f1 ++ f2 ∧ Own P Imm t w cs x.1 f1 ∧ ArgsR P Imm ms a w r x.2 f2
  | .tk :: ms, .pair t a, w, vs, x, fp => ∃ cs r f1 f2, vs = valOf t cs :: r ∧ fp = f1 ++ f2 ∧ Own P Imm t w cs x.1 f1 ∧ ArgsR P Imm ms a w r x.2 f2
  | .ptr :: ms, .pair t a, w, vs, x, fp => ∃ b c ty r f2, vs = .pointer (some ⟨b, 0, none⟩) :: r ∧ fp = b :: f2 ∧ w.heap[b]? = some (.cells c ty (0, 0)) ∧ Rd P t Imm w c.toList x.1 ∧ ArgsR P Imm ms a w r x.2 f2
  | _, _, _, _, _, _ => False

/-- What comes back of them. -/
def OutR (P : Program) (Imm : Nat → Prop) : (ms : List Md) → (a : Ty) → World → List Value → (outTy ms a).D → List Nat → Prop
  | .lent :: ms, .pair t a, w, vs, z, fp => ∃ cs r f1 f2, vs = valOf t cs :: r ∧ fp = f1 ++ f2 ∧ Own P Imm t w cs z.1 f1 ∧ OutR P Imm ms a w r z.2 f2
  | .ptr :: ms, .pair t a, w, vs, z, fp => ∃ b c ty r f2, vs = .pointer (some ⟨b, 0, none⟩) :: r ∧ fp = b :: f2 ∧ w.heap[b]? = some (.cells c ty (0, 0)) ∧ Rd P t Imm w c.toList z.1 ∧ OutR P Imm ms a w r z.2 f2
  | .rd :: ms, .pair _ a, w, vs, z, fp => ∃ v r, vs = v :: r ∧ OutR P Imm ms a w r z fp
  | .nil :: ms, .pair _ a, w, vs, z, fp => ∃ v r, vs = v :: r ∧ OutR P Imm ms a w r z fp
  | .tk :: ms, .pair _ a, w, vs, z, fp => ∃ v r, vs = v :: r ∧ OutR P Imm ms a w r z fp
  | [], .unit, _, vs, _, fp => vs = [] ∧ fp = []
  | _, _, _, _, _, _ => False

/-- What is read afterwards: as before, and what is new and nobody's. -/
def ImmM (Imm : Nat → Prop) (w w' : World) (fp : List Nat) : Nat → Prop := fun b => Imm b ∨ (w.heap.size ≤ b ∧ b < w'.heap.size ∧ b ∉ fp)

def ResM (P : Program) (fr : Bool) (r : Ty) (I : Nat → Prop) (w : World) (cs : List Value) (y : r.D) (fpr : List Nat) : Prop :=
  match fr with
  | false => Rd P r I w cs y ∧ fpr = []
  | true => Own P I r w cs y fpr

/-- The functions behind a box's datum. -/
def fvOf (sb : Nat) : List (FuncId × Bool) → List Value
  | [] => []
  | (f, true) :: r => .func (.func f) #[] #[.pointer (some ⟨sb, 0, none⟩)] :: fvOf sb r
  | (f, false) :: r => .func (.func f) #[] #[] :: fvOf sb r

/-- A box of data that own their slices, with functions behind; the variable that they captured. -/
def RunR (P : Program) (I : Nat → Prop) (t : Ty) (fs : List (FuncId × Bool)) (sf : Bool) (w : World) (b sb : Nat) (x : t.D) (fp : List Nat) : Prop :=
  ∃ (c : Array Value) (ty : TypeId) (f : List Nat) (us : List Value), w.heap[b]? = some (.cells c ty (0, 0)) ∧ c.toList = us ++ fvOf sb fs ∧ Own P I t w us x f ∧ fp = b :: f ∧
    (sf = true → ∃ (c' : Array Value) (ty' : TypeId), w.heap[sb]? = some (.cells c' ty' (0, 0)) ∧ c'.toList = [.pointer (some ⟨b, 0, none⟩)])

/-- What is read afterwards: as before, and what is nobody's now. -/
def ImmF (Imm : Nat → Prop) (w w' : World) (fp fp' : List Nat) : Nat → Prop := fun k => Imm k ∨ (k < w'.heap.size ∧ (k ∈ fp ∨ w.heap.size ≤ k) ∧ k ∉ fp')

/-- A function's contract. -/
def CtOk (P : Program) (f : Nat) : Ct → Prop
  | .pure one fr a r F => HasBody P f ∧ ∀ Imm w cs x y, Rd P a Imm w cs x → F x = some y →
      Calls P f (argsOf a cs).toArray w fun e w' => Keep NoBlock w w' ∧ ∃ cs', e = .returned (resV one r cs') ∧
        (match fr with
         | false => Rd P r (fun b => Imm b ∨ (w.heap.size ≤ b ∧ b < w'.heap.size)) w' cs' y
         | true => ∃ fp, Own P NoBlock r w' cs' y fp ∧ fp.Nodup ∧ ∀ b ∈ fp, w.heap.size ≤ b)
  | .clo a c r F => HasBody P f ∧ r.flat = true ∧ ∀ Imm w cs x y Ic bs z, CapsRd P c Ic w bs z → Rd P a Imm w cs x → F z x = some y →
      Calls P f ((argsOf a cs) ++ bs.map fun b => Value.pointer (some ⟨b, 0, none⟩)).toArray w fun e w' => Keep NoBlock w w' ∧ ∃ cs', e = .returned (valOf r cs') ∧ Rd P r NoBlock w' cs' y
  | .box a t F => HasBody P f ∧ ∀ Imm w cs x y, Rd P a Imm w cs x → (∀ b, Imm b → b < w.heap.size) → F x = some y →
      Calls P f (argsOf a cs).toArray w fun e w' => Keep NoBlock w w' ∧ ∃ b c ty, e = .returned (.pointer (some ⟨b, 0, none⟩)) ∧ w.heap.size ≤ b ∧ w'.heap[b]? = some (.cells c ty (0, 0)) ∧
        Rd P t (fun k => Imm k ∨ (w.heap.size ≤ k ∧ k < w'.heap.size ∧ k ≠ b)) w' c.toList y
  | .mut ms one fr a r F => HasBody P f ∧ ∀ Imm w vs x fp y, (∀ b ∈ fp, ¬ Imm b) → (∀ b, Imm b → b < w.heap.size) → fp.Nodup → ArgsR P Imm ms a w vs x fp → F x = some y →
      Calls P f vs.toArray w fun e w' => Keep (fun b => b ∈ fp) w w' ∧ ∃ cs' fpr fpo, e = .returned (resV one r cs') ∧
        ResM P fr r (ImmM Imm w w' (fpr ++ fpo)) w' cs' y.1 fpr ∧
        OutR P (ImmM Imm w w' (fpr ++ fpo)) ms a w' vs y.2 fpo ∧ (fpr ++ fpo).Nodup ∧ ∀ b ∈ fpr ++ fpo, b ∈ fp ∨ w.heap.size ≤ b
  | .run t fs sf via one a r F => HasBody P f ∧ ∀ Imm w cs y b sb x fp z, RunR P Imm t fs sf w b sb x fp → fp.Nodup → (∀ k ∈ fp, ¬ Imm k) → (sf = true → sb ∉ fp ∧ ¬ Imm sb) → (∀ k, Imm k → k < w.heap.size) → Rd P a Imm w cs y → F x y = some z →
      Calls P f (match via with | false => Value.pointer (some ⟨b, 0, none⟩) :: argsOf a cs | true => argsOf a cs ++ [Value.pointer (some ⟨sb, 0, none⟩)]).toArray w fun e w' => Keep (fun k => k ∈ fp) w w' ∧
        ∃ cs' fp', e = .returned (resV one r cs') ∧ Rd P r NoBlock w' cs' z.1 ∧ RunR P (ImmF Imm w w' fp fp') t fs sf w' b sb z.2 fp' ∧ fp'.Nodup ∧ ∀ k ∈ fp', k ∈ fp ∨ w.heap.size ≤ k

def EnvOk (P : Program) (E : Env) : Prop := TabOk P E.T ∧ ∀ f ct, look E.G f = some ct → CtOk P f ct

theorem Rd.flatI {P : Program} : ∀ {t : Ty} {I J : Nat → Prop} {w w' : World} {vs : List Value} {x : t.D}, t.flat = true → Rd P t I w vs x → Rd P t J w' vs x
  | .int _, _, _, _, _, _, _, _, h => h
  | .bool, _, _, _, _, _, _, _, h => h
  | .unit, _, _, _, _, _, _, _, h => h
  | .pair a b, _, _, _, _, _, _, hf, ⟨v1, v2, h, h1, h2, h3⟩ => by
    simp only [Ty.flat, Bool.and_eq_true] at hf
    exact ⟨v1, v2, h, h1, h2.flatI hf.1, h3.flatI hf.2⟩

theorem CapsRd.keep {P : Program} : ∀ {c : Ty} {I : Nat → Prop} {w w' : World} {bs : List Nat} {z : c.D}, CapsRd P c I w bs z → (∀ b, I b → b < w.heap.size → b < w'.heap.size ∧ w'.heap[b]? = w.heap[b]?) → CapsRd P c I w' bs z
  | .unit, _, _, _, _, _, h, _ => h
  | .pair a r, _, _, _, _, _, ⟨b, bs', cv, ty, fr, e, hb, hl, hc, hr, h⟩, hk =>
    ⟨b, bs', cv, ty, fr, e, hb, (hk b hb hl).1, by rw [(hk b hb hl).2]; exact hc, hr.keep (fun b hb hl => ⟨hb, (hk b hb hl).1, (hk b hb hl).2⟩), h.keep hk⟩
  | .int _, _, _, _, _, _, h, _ => h.elim
  | .bool, _, _, _, _, _, h, _ => h.elim
  | .slice _, _, _, _, _, _, h, _ => h.elim
  | .fn _ _, _, _, _, _, _, h, _ => h.elim
  | .vw _, _, _, _, _, _, h, _ => h.elim

section
variable {P : Program} {M : Nat → Prop} {w0 : World} {σ : Hd → Phys} {Imm : Nat → Prop} {st : St} {a : Act} {w : World} {E : Env}

theorem ImmU.mono {us us' : List Hd} (h : ∀ q ∈ us, q ∈ us') (b : Nat) (hb : ImmU σ Imm us b) : ImmU σ Imm us' b := by
  rcases hb with hb | ⟨q, hq, hb⟩
  · exact .inl hb
  · exact .inr ⟨q, h q hq, hb⟩

/-- Objects looked at: there, and live. -/
def Seen (st : St) (os us : List Hd) : Prop := (∀ q ∈ os, q ∈ us) ∧ ∀ q ∈ us, q ∈ os ∨ (getO st.h q).live = true

theorem Seen.refl (os : List Hd) : Seen st os os := ⟨fun _ h => h, fun _ h => .inl h⟩
theorem Seen.trans {a b c : List Hd} (h : Seen st a b) (k : Seen st b c) : Seen st a c :=
  ⟨fun q hq => k.1 q (h.1 q hq), fun q hq => by
    rcases k.2 q hq with h1 | h1
    · exact h.2 q h1
    · exact .inr h1⟩

/-- A datum looked at. -/
theorem packK_some {R : Type} {r : R} (R0 : Rel P M w0 σ Imm st a w) : ∀ {t : Ty} {ls : List Leaf} {vs : List Value} {os : List Hd} {κ : t.D → List Leaf → List Hd → Option R}, LRs P σ Imm w ls vs → Closed st.h (lsHds ls) →
    packK st.h t ls os κ = some r → ∃ x rest us v1 v2, κ x rest us = some r ∧ vs = v1 ++ v2 ∧ LRs P σ Imm w rest v2 ∧ Closed st.h (lsHds rest) ∧ Rd P t (ImmU σ Imm us) w v1 x ∧ Seen st os us
  | .int k, ls, vs, os, κ, hr, hc, h => by
    cases ls with
    | nil => simp [packK] at h
    | cons l ls =>
      cases l <;> simp only [packK, reduceCtorEq] at h
      split at h
      · rename_i k' n e
        subst e
        obtain ⟨v, q, e, hv, hq⟩ := hr
        subst e
        have hv : v = _ := hv
        subst hv
        exact ⟨_, ls, os, [_], q, h, rfl, hq, fun p hp => hc p (by simp [lsHds, hp]), rfl, Seen.refl os⟩
      · cases h
  | .bool, ls, vs, os, κ, hr, hc, h => by
    cases ls with
    | nil => simp [packK] at h
    | cons l ls =>
      cases l <;> simp only [packK, reduceCtorEq] at h
      obtain ⟨v, q, e, hv, hq⟩ := hr
      subst e
      have hv : v = _ := hv
      subst hv
      exact ⟨_, ls, os, [_], q, h, rfl, hq, fun p hp => hc p (by simp [lsHds, hp]), rfl, Seen.refl os⟩
  | .slice t, ls, vs, os, κ, hr, hc, h => by
    cases ls with
    | nil => simp [packK] at h
    | cons l ls =>
      simp only [packK] at h
      obtain ⟨v, q, e, hv, hq⟩ := hr
      subst e
      obtain ⟨xs, us, h1, h2, h3, h4⟩ := sliceK_some R0 hv (fun p hp => hc p (by simp [lsHds, hp])) h
      refine ⟨xs, ls, us ++ os, [v], q, h1, rfl, hq, fun p hp => hc p (by simp [lsHds, hp]), Rd.imm h2 (ImmU.mono (by simp +contextual)), fun p hp => by simp [hp], fun p hp => ?_⟩
      rcases List.mem_append.1 hp with hp | hp
      · exact .inr (h4 p hp)
      · exact .inl hp
  | .unit, ls, vs, os, κ, hr, hc, h => by
    simp only [packK] at h
    exact ⟨(), ls, os, [], vs, h, rfl, hr, hc, rfl, Seen.refl os⟩
  | .pair t u, ls, vs, os, κ, hr, hc, h => by
    simp only [packK] at h
    obtain ⟨x, rest, us, v1, v2, h1, e1, r1, c1, d1, s1⟩ := packK_some (t := t) R0 hr hc h
    obtain ⟨y, rest2, us2, v3, v4, h2, e2, r2, c2, d2, s2⟩ := packK_some (t := u) R0 r1 c1 h1
    exact ⟨(x, y), rest2, us2, v1 ++ v3, v4, h2, by rw [e1, e2, List.append_assoc], r2, c2, ⟨v1, v3, rfl, d1.length, Rd.imm d1 (ImmU.mono s2.1), d2⟩, s1.trans s2⟩
  | .fn p q, ls, vs, os, κ, hr, hc, h => by
    cases ls with
    | nil => simp [packK] at h
    | cons l ls =>
      cases l <;> simp only [packK, reduceCtorEq] at h
      obtain ⟨e, hk⟩ := castK_some h
      cases e
      obtain ⟨v, q', e, hv, hq⟩ := hr
      subst e
      exact ⟨_, ls, os, [v], q', hk, rfl, hq, fun p hp => hc p (by simp [lsHds, hp]), Rd.imm hv fun b hb => .inl hb, Seen.refl os⟩
  | .vw t, ls, vs, os, κ, hr, hc, h => by
    cases ls with
    | nil => simp [packK] at h
    | cons l ls =>
      simp only [packK] at h
      obtain ⟨v, q, e, hv, hq⟩ := hr
      subst e
      obtain ⟨xs, us, h1, h2, h3, h4⟩ := sliceK_some R0 hv (fun p hp => hc p (by simp [lsHds, hp])) h
      refine ⟨xs, ls, us ++ os, [v], q, h1, rfl, hq, fun p hp => hc p (by simp [lsHds, hp]), Rd.imm (t := .slice t) h2 (ImmU.mono (by simp +contextual)), fun p hp => by simp [hp], fun p hp => ?_⟩
      rcases List.mem_append.1 hp with hp | hp
      · exact .inr (h4 p hp)
      · exact .inl hp

/-- A datum looked at, or a function that is known. -/
theorem packF_some {R : Type} {r : R} (hE : EnvOk P E) (R0 : Rel P M w0 σ Imm st a w) {t : Ty} {ls : List Leaf} {vs : List Value} {os : List Hd} {κ : t.D → List Leaf → List Hd → Option R} (hr : LRs P σ Imm w ls vs) (hc : Closed st.h (lsHds ls))
    (h : packF E st.h t ls os κ = some r) : ∃ x rest us v1 v2, κ x rest us = some r ∧ vs = v1 ++ v2 ∧ LRs P σ Imm w rest v2 ∧ Closed st.h (lsHds rest) ∧ Rd P t (ImmU σ Imm us) w v1 x ∧ Seen st os us := by
  unfold packF at h
  split at h
  · rename_i p q f κ'
    split at h
    · rename_i fr a' r' F hg
      obtain ⟨hb, hct⟩ := hE.2 f _ hg
      split at h
      · rename_i hfl
        obtain ⟨e, hk⟩ := castK_some h
        cases e
        obtain ⟨v, vs', e, hv, hq⟩ := hr
        cases hq
        subst e
        have hv : v = .func (.func f) #[] #[] := by
          have hv : v = .func (.func f) #[] (List.map (fun o => Value.pointer (some ⟨(σ o).b, 0, none⟩)) []).toArray := hv
          simpa using hv
        refine ⟨_, [], os, [v], [], hk, rfl, rfl, closed_nil, ⟨f, #[], by rw [hv], hb, fun Imm' w' cs x y hkeep hr hF => ?_⟩, Seen.refl _⟩
        have := hct Imm' w' cs x y hr hF
        refine Calls.mono (by simpa using this) fun e w'' hq => ?_
        obtain ⟨hk, cs', he, hq⟩ := hq
        refine ⟨hk, cs', he, ?_⟩
        cases fr with
        | false => exact hq.flatI hfl
        | true =>
          obtain ⟨fp, hq⟩ := hq
          exact hq.1.rd (fun b hb => by rw [(Own.flat (J := NoBlock) (w' := w'') hfl hq.1).1] at hb; cases hb) fun _ h => h
      · cases h
    · cases h
  · exact packK_some R0 hr hc h

theorem packCaps_some {R : Type} {r : R} (hE : EnvOk P E) (R0 : Rel P M w0 σ Imm st a w) : ∀ {c : Ty} {caps : List Hd} {os : List Hd} {κ : c.D → List Hd → Option R},
    packCaps E st.h c caps os κ = some r → ∃ z us, κ z us = some r ∧ CapsRd P c (ImmU σ Imm us) w (caps.map fun o => (σ o).b) z ∧ Seen st os us
  | .unit, caps, os, κ, h => by
    cases caps with
    | nil => exact ⟨(), os, by simpa [packCaps] using h, rfl, Seen.refl os⟩
    | cons _ _ => simp [packCaps] at h
  | .pair t u, caps, os, κ, h => by
    cases caps with
    | nil => simp [packCaps] at h
    | cons o caps =>
      simp only [packCaps] at h
      split at h
      · rename_i ro ls ho
        have hob := R0.ob o
        rw [ho] at hob
        obtain ⟨cv, ty, h1, h2, h3⟩ := hob
        obtain ⟨x, rest, us, v1, v2, k1, k2, k3, k4, k5, k6⟩ := packF_some hE R0 h2 (R0.cb o ro ls ho) h
        split at k1
        · cases k3
          simp only [List.append_nil] at k2
          obtain ⟨z, us2, m1, m2, m3⟩ := packCaps_some hE R0 k1
          have hl : (getO st.h o).live = true := by rw [ho]; rfl
          have hin : o ∈ us := k6.1 o (by simp)
          refine ⟨(x, z), us2, m1, ⟨(σ o).b, _, cv, ty, (0, 0), rfl, .inr ⟨o, m3.1 o hin, by rw [h3]; simp⟩, (Array.getElem?_eq_some_iff.1 h1).1, h1, ?_, m2⟩, ?_⟩
          · rw [k2]; exact Rd.imm k5 (ImmU.mono m3.1)
          · refine Seen.trans ⟨fun q hq => k6.1 q (by simp [hq]), fun q hq => ?_⟩ m3
            rcases k6.2 q hq with h | h
            · rcases List.mem_cons.1 h with rfl | h
              · exact .inr hl
              · exact .inl h
            · exact .inr h
        · cases k1
      · cases h
  | .int _, caps, os, κ, h => by simp [packCaps] at h
  | .bool, caps, os, κ, h => by simp [packCaps] at h
  | .slice _, caps, os, κ, h => by simp [packCaps] at h
  | .vw _, caps, os, κ, h => by simp [packCaps] at h
  | .fn _ _, caps, os, κ, h => by simp [packCaps] at h

/-- Values, one behind the other. -/
def AVRs (P : Program) (σ : Hd → Phys) (Imm : Nat → Prop) (w : World) : List AV → List Value → Prop
  | [], us => us = []
  | v :: vs, us => ∃ u r, us = u :: r ∧ AVR P σ Imm w v u ∧ AVRs P σ Imm w vs r

theorem argK_some {R : Type} {r : R} {t : Ty} {v : AV} {κ : List Leaf → Option R} {u : Value} (hv : AVR P σ Imm w v u) (h : argK t v κ = some r) :
    ∃ ls us, κ ls = some r ∧ LRs P σ Imm w ls us ∧ lsHds ls = v.hds ∧ u = valOf t us := by
  unfold argK at h
  split at h
  · rename_i cs hs
    obtain ⟨us, e, hr⟩ := hv
    exact ⟨_, us, h, hr, rfl, by rw [valOf, hs]; exact e⟩
  · rename_i l hs
    exact ⟨[l], [u], h, ⟨u, [], rfl, hv, rfl⟩, by simp [lsHds, AV.hds], by rw [valOf, hs]; rfl⟩
  · cases h

theorem closed_app {h : List (List Obj')} {l m : List Hd} (h1 : Closed h l) (h2 : Closed h m) : Closed h (l ++ m) := fun o ho => by
  rcases List.mem_append.1 ho with ho | ho
  · exact h1 o ho
  · exact h2 o ho

theorem argsOf_pair {t u : Ty} {c1 c2 : List Value} (h : c1.length = t.n) : argsOf (.pair t u) (c1 ++ c2) = valOf t c1 :: argsOf u c2 := by
  simp only [argsOf]
  rw [← h, List.take_left, List.drop_left]

/-- The arguments of a call. -/
theorem packArgs_some {R : Type} {r : R} (hE : EnvOk P E) (R0 : Rel P M w0 σ Imm st a w) : ∀ {c : Ty} {vs : List AV} {us : List Value} {os : List Hd} {κ : c.D → List Hd → Option R}, AVRs P σ Imm w vs us → (∀ v ∈ vs, Closed st.h v.hds) →
    packArgs E st.h c vs os κ = some r → ∃ x ps cs, κ x ps = some r ∧ Rd P c (ImmU σ Imm ps) w cs x ∧ us = argsOf c cs ∧ Seen st os ps
  | .unit, vs, us, os, κ, hv, hc, h => by
    cases vs with
    | nil => cases hv; exact ⟨(), os, [], by simpa [packArgs] using h, rfl, rfl, Seen.refl os⟩
    | cons _ _ => simp [packArgs] at h
  | .pair t u, vs, us, os, κ, hv, hc, h => by
    cases vs with
    | nil => simp [packArgs] at h
    | cons v vs =>
      obtain ⟨v1, us', e, hv1, hvs⟩ := hv
      subst e
      have hc' : ∀ v ∈ vs, Closed st.h v.hds := fun x hx => hc x (by simp [hx])
      have plain : (argK t v fun cs => packK st.h t cs os fun x r os => endK r (packArgs E st.h u vs os fun q os => κ (x, q) os)) = some r → ∃ x ps cs, κ x ps = some r ∧ Rd P (.pair t u) (ImmU σ Imm ps) w cs x ∧ v1 :: us' = argsOf (.pair t u) cs ∧ Seen st os ps := by
        intro h
        obtain ⟨ls, ws, h1, h2, h3, h4⟩ := argK_some hv1 h
        obtain ⟨x, rest, ps, w1, w2, k1, k2, k3, k4, k5, k6⟩ := packK_some R0 h2 (by rw [h3]; exact hc v (by simp)) h1
        unfold endK at k1
        split at k1
        · cases k3
          simp only [List.append_nil] at k2
          subst k2
          obtain ⟨y, ps2, cs, m1, m2, m3, m4⟩ := packArgs_some hE R0 hvs hc' k1
          exact ⟨(x, y), ps2, ws ++ cs, m1, ⟨ws, cs, rfl, k5.length, Rd.imm k5 (ImmU.mono m4.1), m2⟩, by rw [argsOf_pair k5.length, ← h4, ← m3], k6.trans m4⟩
        · cases k1
      have clo : ∀ {p q : Ty} {f : FuncId} {caps : List Hd} {F : p.D → Option q.D} {ps : List Hd} {κ' : u.D → List Hd → Option R}, HasBody P f → v = .leaf (.fn f caps) →
          (∀ Imm' w' cs x y, (∀ b, ImmU σ Imm ps b → b < w.heap.size → w'.heap[b]? = w.heap[b]?) → Rd P p Imm' w' cs x → F x = some y →
            Calls P f ((argsOf p cs).toArray ++ (caps.map fun o => Value.pointer (some ⟨(σ o).b, 0, none⟩)).toArray) w' fun e w'' => Keep NoBlock w' w'' ∧ ∃ cs', e = .returned (valOf q cs') ∧ Rd P q NoBlock w'' cs' y) →
          packArgs E st.h u vs ps κ' = some r → (∀ y ps2, κ' y ps2 = some r → ∃ e : Ty.fn p q = t, κ (e ▸ F, y) ps2 = some r) → Seen st os ps →
          ∃ x ps cs, κ x ps = some r ∧ Rd P (.pair t u) (ImmU σ Imm ps) w cs x ∧ v1 :: us' = argsOf (.pair t u) cs ∧ Seen st os ps := by
        intro p q f caps F ps κ' hb hv' hcall hk hκ hs
        subst hv'
        obtain ⟨y, ps2, cs, m1, m2, m3, m4⟩ := packArgs_some hE R0 hvs hc' hk
        obtain ⟨e, hk2⟩ := hκ y ps2 m1
        subst e
        have hv1' : v1 = .func (.func f) #[] (caps.map fun o => Value.pointer (some ⟨(σ o).b, 0, none⟩)).toArray := hv1
        have hrd : Rd P (.fn p q) (ImmU σ Imm ps2) w [v1] F := ⟨f, _, by rw [hv1'], hb, fun Imm' w' cs x y hkeep hr hF => hcall Imm' w' cs x y (fun b hbI hl => hkeep b (ImmU.mono m4.1 b hbI) hl) hr hF⟩
        refine ⟨(F, y), ps2, v1 :: cs, hk2, ⟨[v1], cs, rfl, rfl, hrd, m2⟩, ?_, hs.trans m4⟩
        have := argsOf_pair (t := .fn p q) (u := u) (c1 := [v1]) (c2 := cs) rfl
        simp only [List.singleton_append] at this
        rw [this, ← m3]
        rfl
      cases t with
      | fn p q => cases v with
        | leaf l => cases l with
          | fn f caps =>
            simp only [packArgs] at h
            split at h
            · rename_i a' c r' F hg
              obtain ⟨hb, hfl, hct⟩ := hE.2 f _ hg
              obtain ⟨z, ps, k1, k2, k3⟩ := packCaps_some hE R0 h
              obtain ⟨e, k4⟩ := castK_some k1
              cases e
              refine clo (ps := ps) hb rfl (fun Imm' w' cs x y hkeep hr hF => ?_) k4 (fun y ps2 hk => ⟨rfl, hk⟩) k3
              have hcaps := k2.keep (w' := w') fun b hb hl => ⟨?_, hkeep b hb hl⟩
              · have := hct Imm' w' cs x y _ _ z hcaps hr hF
                simpa [List.map_map, Function.comp_def] using this
              · have h1 := hkeep b hb hl
                rcases Nat.lt_or_ge b w'.heap.size with h2 | h2
                · exact h2
                · rw [Array.getElem?_eq_none h2, Array.getElem?_eq_getElem hl] at h1; cases h1
            · rename_i fr a' r' F hg
              obtain ⟨hb, hct⟩ := hE.2 f _ hg
              split at h
              · rename_i hfl
                simp only [Bool.and_eq_true] at hfl
                obtain ⟨hfl, hcp⟩ := hfl
                have hcp : caps = [] := by cases caps with | nil => rfl | cons _ _ => simp [noHd] at hcp
                subst hcp
                obtain ⟨e, k4⟩ := castK_some h
                cases e
                refine clo (ps := os) hb rfl (fun Imm' w' cs x y hkeep hr hF => ?_) k4 (fun y ps2 hk => ⟨rfl, hk⟩) (Seen.refl os)
                have := hct Imm' w' cs x y hr hF
                refine Calls.mono (by simpa using this) fun e w'' hq => ?_
                obtain ⟨hk, cs', he, hq⟩ := hq
                refine ⟨hk, cs', he, ?_⟩
                cases fr with
                | false => exact hq.flatI hfl
                | true =>
                  obtain ⟨fp, hq⟩ := hq
                  exact hq.1.rd (fun b hb => by rw [(Own.flat (J := NoBlock) (w' := w'') hfl hq.1).1] at hb; cases hb) fun _ h => h
              · cases h
            · cases h
          | _ => exact plain (by simpa [packArgs] using h)
        | _ => exact plain (by simpa [packArgs] using h)
      | _ => exact plain (by simpa [packArgs] using h)
  | .int _, vs, us, os, κ, hv, hc, h => by cases vs <;> simp [packArgs] at h
  | .bool, vs, us, os, κ, hv, hc, h => by cases vs <;> simp [packArgs] at h
  | .slice _, vs, us, os, κ, hv, hc, h => by cases vs <;> simp [packArgs] at h
  | .fn _ _, vs, us, os, κ, hv, hc, h => by cases vs <;> simp [packArgs] at h
  | .vw _, vs, us, os, κ, hv, hc, h => by cases vs <;> simp [packArgs] at h

end
end Go.Abs
