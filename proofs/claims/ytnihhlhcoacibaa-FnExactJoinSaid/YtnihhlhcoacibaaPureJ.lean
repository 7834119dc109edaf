import Derived.Test.YtnihhlhcoacibaaGenJ
import Derived.Test.YtnihhlhcoacibaaAbsDeep
set_option linter.unusedVariables false
set_option linter.unusedSimpArgs false
namespace Go.Abs
theorem laws_toPat_eq (a : T_Pat.D) : laws_toPat a = some a := by
  first | rfl | (unfold laws_toPat; simp only [laws_toEvent_eq, Option.bind_some]; rfl)
theorem laws_eqPat_eq (a b : T_Pat.D) : laws_eqPat a b = some (eqD T_Pat a b) := by
  unfold laws_eqPat
  first | (simp only [bneIf]; rfl) | (simp only [laws_eqEvent_eq, Option.bind_some, bneIf, notIf]; rfl)
theorem laws_toGuard_eq (a : T_Guard.D) : laws_toGuard a = some a := by
  first | rfl | (unfold laws_toGuard; simp only [laws_toEvent_eq, Option.bind_some]; rfl)
theorem laws_eqGuard_eq (a b : T_Guard.D) : laws_eqGuard a b = some (eqD T_Guard a b) := by
  unfold laws_eqGuard
  first | (simp only [bneIf]; rfl) | (simp only [laws_eqEvent_eq, Option.bind_some, bneIf, notIf]; rfl)

theorem laws_szEventS_eq (a : List T_Event.D) (l : Int) (h0 : 0 ≤ l) (h1 : l ≤ 1048576) (hn : a.length ≤ maxLen) : laws_szEventS a l = some (if (a.length : Int) ≤ l then l - a.length else -1) := by
  unfold laws_szEventS; exact sz_list h0 h1 (by simpa [maxLen] using hn)
theorem laws_toEvent_eq (a : T_Event.D) : laws_toEvent a = some a := by
  first | rfl | (unfold laws_toEvent; simp only [laws_toEvent_eq, Option.bind_some]; rfl)
theorem laws_toEventS_eq (a : List T_Event.D) (h : a.length ≤ 1048576) : laws_toEventS a = some a := by
  unfold laws_toEventS
  rw [if_pos (by omega), if_pos (by simp only [room]; omega), Int.toNat_natCast, copy_loop a _ (body := laws_toEventS_l1 a) laws_toEvent (fun x _ => laws_toEvent_eq x) (by omega) (fun _ => rfl)]
  rfl
theorem laws_eqEvent_eq (a b : T_Event.D) : laws_eqEvent a b = some (eqD T_Event a b) := by
  unfold laws_eqEvent
  first | (simp only [bneIf]; rfl) | (simp only [laws_eqEvent_eq, Option.bind_some, bneIf, notIf]; rfl)
theorem laws_eqEventS_eq (a b : List T_Event.D) (h : a.length ≤ 1048576) : laws_eqEventS a b = some (eqD (.slice T_Event) a b) := by
  unfold laws_eqEventS
  exact eq_lists (t := T_Event) rfl a b (e := eqD T_Event) (fun _ _ => rfl) (by omega) (fun i => by unfold laws_eqEventS_l1; simp only [laws_eqEvent_eq, Option.bind_some])

theorem laws_toIntS_eq (a : List Int) (h : a.length ≤ 1048576) : laws_toIntS a = some a := by
  unfold laws_toIntS
  rw [if_pos (by omega), if_pos (by simp only [room]; omega), Int.toNat_natCast, copy_loop a _ (body := laws_toIntS_l1 a) some (fun x _ => rfl) (by omega) (fun _ => rfl)]
  rfl
theorem laws_eqIntS_eq (a b : List Int) (h : a.length ≤ 1048576) : laws_eqIntS a b = some (eqD (.slice (.int .i64)) a b) := by
  unfold laws_eqIntS
  exact eq_lists (t := .int .i64) rfl a b (e := fun (x y : Int) => x == y) (fun _ _ => rfl) (by omega) (fun i => rfl)
theorem laws_szEventS_ok (a : List T_Event.D) (l : Int) (h0 : 0 ≤ l) (h1 : l ≤ 1048576) (w : (Ty.slice T_Event).wf a) : SzR (laws_szEventS a l) l (okD (.slice T_Event) a) :=
  sz_flat (t := T_Event) rfl (laws_szEventS_eq a l h0 h1 w.1) h1

theorem laws_szIntS_eq (a : List Int) (l : Int) (h0 : 0 ≤ l) (h1 : l ≤ 1048576) (hn : a.length ≤ maxLen) : laws_szIntS a l = some (if (a.length : Int) ≤ l then l - a.length else -1) := by
  unfold laws_szIntS; exact sz_list h0 h1 (by simpa [maxLen] using hn)
theorem laws_szIntS_ok (a : List Int) (l : Int) (h0 : 0 ≤ l) (h1 : l ≤ 1048576) (w : (Ty.slice (.int .i64)).wf a) : SzR (laws_szIntS a l) l (okD (.slice (.int .i64)) a) :=
  sz_flat (t := (.int .i64)) rfl (laws_szIntS_eq a l h0 h1 w.1) h1

theorem laws_szAct_ok (a : T_Act.D) (l : Int) (h0 : 0 ≤ l) (h1 : l ≤ 1048576) (w : T_Act.wf a) : SzR (laws_szAct a l) l (okD T_Act a) := by
  unfold laws_szAct
  exact SzR.imp (SzR.bind (laws_szEventS_ok a.2.2.2.2.2.2.1 l h0 h1 w.2.2.2.2.2.2.1) fun m1 k1 j1 => SzR.done k1) (fun h => ⟨trivial, trivial, trivial, trivial, trivial, trivial, h.1, trivial⟩)
theorem laws_toAct_ok (a : T_Act.D) (h : okD T_Act a) : laws_toAct a = some a := by
  unfold laws_toAct
  simp only [laws_toEventS_eq a.2.2.2.2.2.2.1 h.2.2.2.2.2.2.1.1, Option.bind_some]
theorem laws_eqAct_ok (a b : T_Act.D) (h : okD T_Act a) : laws_eqAct a b = some (eqD T_Act a b) := by
  unfold laws_eqAct
  simp only [laws_eqEventS_eq a.2.2.2.2.2.2.1 b.2.2.2.2.2.2.1 h.2.2.2.2.2.2.1.1, Option.bind_some, bneIf, notIf]
  rfl

theorem laws_szEffect_ok (a : T_Effect.D) (l : Int) (h0 : 0 ≤ l) (h1 : l ≤ 1048576) (w : T_Effect.wf a) : SzR (laws_szEffect a l) l (okD T_Effect a) := by
  unfold laws_szEffect
  exact SzR.imp (SzR.bind (laws_szAct_ok a.2.2.2.2.2.2.1 l h0 h1 w.2.2.2.2.2.2.1) fun m1 k1 j1 => SzR.done k1) (fun h => ⟨trivial, trivial, trivial, trivial, okFlat T_Pat rfl _, okFlat T_Guard rfl _, h.1, trivial, trivial, trivial⟩)
theorem laws_toEffect_ok (a : T_Effect.D) (h : okD T_Effect a) : laws_toEffect a = some a := by
  unfold laws_toEffect
  simp only [laws_toPat_eq, laws_toGuard_eq, laws_toAct_ok a.2.2.2.2.2.2.1 h.2.2.2.2.2.2.1, Option.bind_some]
theorem laws_eqEffect_ok (a b : T_Effect.D) (h : okD T_Effect a) : laws_eqEffect a b = some (eqD T_Effect a b) := by
  unfold laws_eqEffect
  simp only [laws_eqPat_eq, laws_eqGuard_eq, laws_eqAct_ok a.2.2.2.2.2.2.1 b.2.2.2.2.2.2.1 h.2.2.2.2.2.2.1, Option.bind_some, bneIf, notIf]
  rfl
theorem laws_szEffectS_ok (a : List T_Effect.D) (l : Int) (h0 : 0 ≤ l) (h1 : l ≤ 1048576) (w : (Ty.slice T_Effect).wf a) : SzR (laws_szEffectS a l) l (okD (.slice T_Effect) a) := by
  unfold laws_szEffectS
  exact sz_loop (t := T_Effect) a laws_szEffect (body := laws_szEffectS_l1 a) w.1 (fun x hx l h0 h1 => laws_szEffect_ok x l h0 h1 (w.2 x hx)) (fun _ => rfl) h0 h1
theorem laws_toEffectS_ok (a : List T_Effect.D) (h : okD (.slice T_Effect) a) : laws_toEffectS a = some a := by
  have hl : a.length ≤ 1048576 := h.1
  unfold laws_toEffectS
  rw [if_pos (by omega), if_pos (by simp only [room]; omega), Int.toNat_natCast, copy_loop a _ (body := laws_toEffectS_l1 a) laws_toEffect (fun x hx => laws_toEffect_ok x (h.2 x hx)) (by omega) (fun _ => rfl)]
  rfl
theorem laws_eqEffectS_ok (a b : List T_Effect.D) (h : okD (.slice T_Effect) a) : laws_eqEffectS a b = some (eqD (.slice T_Effect) a b) := by
  have hl : a.length ≤ 1048576 := h.1
  unfold laws_eqEffectS
  exact eq_lists2 (t := T_Effect) rfl a b (e := laws_eqEffect) (fun x hx y => laws_eqEffect_ok x y (h.2 x hx)) (by omega) (fun _ => rfl)

theorem laws_szTurn_ok (a : T_Turn.D) (l : Int) (h0 : 0 ≤ l) (h1 : l ≤ 1048576) (w : T_Turn.wf a) : SzR (laws_szTurn a l) l (okD T_Turn a) := by
  unfold laws_szTurn
  exact SzR.imp (SzR.bind (laws_szEventS_ok a.2.2.2.2.2.1 l h0 h1 w.2.2.2.2.2.1) fun m1 k1 j1 => SzR.done k1) (fun h => ⟨trivial, trivial, trivial, trivial, okFlat T_Event rfl _, h.1, trivial, trivial, trivial⟩)
theorem laws_toTurn_ok (a : T_Turn.D) (h : okD T_Turn a) : laws_toTurn a = some a := by
  unfold laws_toTurn
  simp only [laws_toEvent_eq, laws_toEventS_eq a.2.2.2.2.2.1 h.2.2.2.2.2.1.1, Option.bind_some]
theorem laws_eqTurn_ok (a b : T_Turn.D) (h : okD T_Turn a) : laws_eqTurn a b = some (eqD T_Turn a b) := by
  unfold laws_eqTurn
  simp only [laws_eqEvent_eq, laws_eqEventS_eq a.2.2.2.2.2.1 b.2.2.2.2.2.1 h.2.2.2.2.2.1.1, Option.bind_some, bneIf, notIf]
  rfl
theorem laws_szTurnS_ok (a : List T_Turn.D) (l : Int) (h0 : 0 ≤ l) (h1 : l ≤ 1048576) (w : (Ty.slice T_Turn).wf a) : SzR (laws_szTurnS a l) l (okD (.slice T_Turn) a) := by
  unfold laws_szTurnS
  exact sz_loop (t := T_Turn) a laws_szTurn (body := laws_szTurnS_l1 a) w.1 (fun x hx l h0 h1 => laws_szTurn_ok x l h0 h1 (w.2 x hx)) (fun _ => rfl) h0 h1
theorem laws_toTurnS_ok (a : List T_Turn.D) (h : okD (.slice T_Turn) a) : laws_toTurnS a = some a := by
  have hl : a.length ≤ 1048576 := h.1
  unfold laws_toTurnS
  rw [if_pos (by omega), if_pos (by simp only [room]; omega), Int.toNat_natCast, copy_loop a _ (body := laws_toTurnS_l1 a) laws_toTurn (fun x hx => laws_toTurn_ok x (h.2 x hx)) (by omega) (fun _ => rfl)]
  rfl
theorem laws_eqTurnS_ok (a b : List T_Turn.D) (h : okD (.slice T_Turn) a) : laws_eqTurnS a b = some (eqD (.slice T_Turn) a b) := by
  have hl : a.length ≤ 1048576 := h.1
  unfold laws_eqTurnS
  exact eq_lists2 (t := T_Turn) rfl a b (e := laws_eqTurn) (fun x hx y => laws_eqTurn_ok x y (h.2 x hx)) (by omega) (fun _ => rfl)

theorem laws_szFate_ok (a : T_Fate.D) (l : Int) (h0 : 0 ≤ l) (h1 : l ≤ 1048576) (w : T_Fate.wf a) : SzR (laws_szFate a l) l (okD T_Fate a) := by
  unfold laws_szFate
  exact SzR.imp (SzR.bind (laws_szEventS_ok a.1 l h0 h1 w.1) fun m1 k1 j1 => SzR.bind (laws_szEffectS_ok a.2.1 m1 k1 (by omega) w.2.1) fun m2 k2 j2 => SzR.bind (laws_szIntS_ok a.2.2.1 m2 k2 (by omega) w.2.2.1) fun m3 k3 j3 => SzR.bind (laws_szTurnS_ok a.2.2.2.1 m3 k3 (by omega) w.2.2.2.1) fun m4 k4 j4 => SzR.done k4) (fun h => ⟨h.1, h.2.1, h.2.2.1, h.2.2.2.1, trivial⟩)
theorem laws_toFate_ok (a : T_Fate.D) (h : okD T_Fate a) : laws_toFate a = some a := by
  unfold laws_toFate
  simp only [laws_toEventS_eq a.1 h.1.1, laws_toEffectS_ok a.2.1 h.2.1, laws_toIntS_eq a.2.2.1 h.2.2.1.1, laws_toTurnS_ok a.2.2.2.1 h.2.2.2.1, Option.bind_some]
theorem laws_eqFate_ok (a b : T_Fate.D) (h : okD T_Fate a) : laws_eqFate a b = some (eqD T_Fate a b) := by
  unfold laws_eqFate
  simp only [laws_eqEventS_eq a.1 b.1 h.1.1, laws_eqEffectS_ok a.2.1 b.2.1 h.2.1, laws_eqIntS_eq a.2.2.1 b.2.2.1 h.2.2.1.1, laws_eqTurnS_ok a.2.2.2.1 b.2.2.2.1 h.2.2.2.1, Option.bind_some, bneIf, notIf]
  rfl

def fillEvent (k : Int) : T_Event.D := (k, k + 1, k + 1 + 1, k + 1 + 1 + 1, k + 1 + 1 + 1 + 1, k + 1 + 1 + 1 + 1 + 1, ((k + 1 + 1 + 1 + 1 + 1 + 1).tmod 3 == 0), ())
theorem laws_markEventS_step (ys : List T_Event.D) (k : Int) (i : Nat) (hlt : i < ys.length) (h0 : 0 ≤ k) (hk : k ≤ 4611686018427387904) (hi : (i : Int) ≤ 4611686018427387904) : laws_markEventS_l1 (ys, k, (i : Int)) = some (.inl (ys.set i (fillEvent k), k + (7 : Nat), (i : Int) + 1)) := by
  obtain ⟨x, hx⟩ : ∃ x, ys[i]? = some x := ⟨_, List.getElem?_eq_getElem hlt⟩
  have hil : ((i : Int) < (ys.length : Int)) := by omega
  have hc : k + ((7 : Nat) : Int) = k + 1 + 1 + 1 + 1 + 1 + 1 + 1 := by omega
  unfold laws_markEventS_l1 fillEvent
  simp (disch := omega) only [hil, decide_true, cond_true, Int.toNat_natCast, idx_at hx, hx, Option.bind_some, idx_set hlt, get_set hlt, List.set_set, wrap_id, hc]
  first | done | rfl
theorem laws_markEventS_eq (xs : List T_Event.D) (k : Int) (h0 : 0 ≤ k) (hk : k + (7 : Nat) * (xs.length : Int) ≤ 4611686018427387904) (hlen : (xs.length : Int) ≤ 4611686018427387904) : laws_markEventS xs k = some (k + (7 : Nat) * (xs.length : Int), (fillL fillEvent (7 : Nat) k xs.length, ())) := by
  unfold laws_markEventS
  rw [mark_loop fillEvent 7 laws_markEventS_step (fun ys k => by unfold laws_markEventS_l1; simp) xs k h0 hk hlen]
  rfl

def fillInt (k : Int) : Int := k
theorem laws_markIntS_step (ys : List Int) (k : Int) (i : Nat) (hlt : i < ys.length) (h0 : 0 ≤ k) (hk : k ≤ 4611686018427387904) (hi : (i : Int) ≤ 4611686018427387904) : laws_markIntS_l1 (ys, k, (i : Int)) = some (.inl (ys.set i (fillInt k), k + (1 : Nat), (i : Int) + 1)) := by
  obtain ⟨x, hx⟩ : ∃ x, ys[i]? = some x := ⟨_, List.getElem?_eq_getElem hlt⟩
  have hil : ((i : Int) < (ys.length : Int)) := by omega
  have hc : k + ((1 : Nat) : Int) = k + 1 := by omega
  unfold laws_markIntS_l1 fillInt
  simp (disch := omega) only [hil, decide_true, cond_true, Int.toNat_natCast, idx_at hx, hx, Option.bind_some, idx_set hlt, get_set hlt, List.set_set, wrap_id, hc]
  first | done | rfl
theorem laws_markIntS_eq (xs : List Int) (k : Int) (h0 : 0 ≤ k) (hk : k + (1 : Nat) * (xs.length : Int) ≤ 4611686018427387904) (hlen : (xs.length : Int) ≤ 4611686018427387904) : laws_markIntS xs k = some (k + (1 : Nat) * (xs.length : Int), (fillL fillInt (1 : Nat) k xs.length, ())) := by
  unfold laws_markIntS
  rw [mark_loop fillInt 1 laws_markIntS_step (fun ys k => by unfold laws_markIntS_l1; simp) xs k h0 hk hlen]
  rfl

theorem laws_heldEventS_eq (k0 : Int) (n : Nat) (h0 : 0 ≤ k0) (hk : k0 + (7 : Nat) * (n : Int) ≤ 4611686018427387904) (hlen : (n : Int) ≤ 4611686018427387904) : laws_heldEventS (fillL fillEvent (7 : Nat) k0 n) k0 = some (k0 + (7 : Nat) * (n : Int)) := by
  unfold laws_heldEventS
  rw [held_loop fillEvent 7 (fillL fillEvent (7 : Nat) k0 n) k0 n rfl (body := laws_heldEventS_l1 (fillL fillEvent (7 : Nat) k0 n)) ?_ ?_ h0 hk hlen]
  · rfl
  · intro k i hx h0 hk hi
    have hlt := (List.getElem?_eq_some_iff.1 hx).1
    have hil : ((i : Int) < ((fillL fillEvent (7 : Nat) k0 n).length : Int)) := by omega
    have hc : k + ((7 : Nat) : Int) = k + 1 + 1 + 1 + 1 + 1 + 1 + 1 := by omega
    unfold laws_heldEventS_l1
    simp (disch := omega) only [hil, decide_true, cond_true, idx_at hx, fillEvent, wrap_id, bne_self_eq_false, cond_false, hc]
    first | done | rfl
  · intro k
    unfold laws_heldEventS_l1
    simp

theorem laws_heldIntS_eq (k0 : Int) (n : Nat) (h0 : 0 ≤ k0) (hk : k0 + (1 : Nat) * (n : Int) ≤ 4611686018427387904) (hlen : (n : Int) ≤ 4611686018427387904) : laws_heldIntS (fillL fillInt (1 : Nat) k0 n) k0 = some (k0 + (1 : Nat) * (n : Int)) := by
  unfold laws_heldIntS
  rw [held_loop fillInt 1 (fillL fillInt (1 : Nat) k0 n) k0 n rfl (body := laws_heldIntS_l1 (fillL fillInt (1 : Nat) k0 n)) ?_ ?_ h0 hk hlen]
  · rfl
  · intro k i hx h0 hk hi
    have hlt := (List.getElem?_eq_some_iff.1 hx).1
    have hil : ((i : Int) < ((fillL fillInt (1 : Nat) k0 n).length : Int)) := by omega
    have hc : k + ((1 : Nat) : Int) = k + 1 := by omega
    unfold laws_heldIntS_l1
    simp (disch := omega) only [hil, decide_true, cond_true, idx_at hx, fillInt, wrap_id, bne_self_eq_false, cond_false, hc]
    first | done | rfl
  · intro k
    unfold laws_heldIntS_l1
    simp


/-! ### Marks in lists with lists inside -/
def fillX {α : Type} (fill : Int → Nat → α) (c : Nat) : Int → List Nat → List α
  | _, [] => []
  | k, n :: ns => fill k n :: fillX fill c (k + ((c + 7 * n : Nat) : Int)) ns
def cntX (c : Nat) : List Nat → Int
  | [] => 0
  | n :: ns => ((c + 7 * n : Nat) : Int) + cntX c ns
theorem cntX_nonneg (c : Nat) : ∀ ns : List Nat, 0 ≤ cntX c ns
  | [] => Int.le_refl _
  | n :: ns => by have := cntX_nonneg c ns; simp only [cntX]; omega
theorem cntX_le (c : Nat) (hc : c ≤ 30) : ∀ ns : List Nat, (∀ n ∈ ns, n ≤ 1048576) → cntX c ns ≤ 7340062 * (ns.length : Int)
  | [], _ => by simp [cntX]
  | n :: ns, h => by
    have h1 := cntX_le c hc ns (fun m hm => h m (List.mem_cons_of_mem _ hm))
    have h2 := h n (List.mem_cons_self ..)
    simp only [cntX, List.length_cons]
    omega
theorem fillX_len {α : Type} (fill : Int → Nat → α) (c : Nat) : ∀ (ns : List Nat) (k : Int), (fillX fill c k ns).length = ns.length
  | [], _ => rfl
  | n :: ns, k => by simp only [fillX, List.length_cons, fillX_len fill c ns]
theorem markX_loop {α : Type} (fill : Int → Nat → α) (c : Nat) (len : α → Nat) {body : (List α × (Int × Int)) → Option ((List α × (Int × Int)) ⊕ (List α × (Int × Int)))}
    (hb : ∀ (ys : List α) (k : Int) (i : Nat) (x : α), ys[i]? = some x → len x ≤ 1048576 → 0 ≤ k → k ≤ 2305843009213693952 → (i : Int) ≤ 2305843009213693952 → body (ys, k, (i : Int)) = some (.inl (ys.set i (fill k (len x)), k + ((c + 7 * len x : Nat) : Int), (i : Int) + 1)))
    (he : ∀ (ys : List α) (k : Int), body (ys, k, (ys.length : Int)) = some (.inr (ys, k, (ys.length : Int)))) (xs : List α) (k : Int) (h : ∀ x ∈ xs, len x ≤ 1048576) (h0 : 0 ≤ k) (hk : k + cntX c (xs.map len) ≤ 2305843009213693952) (hlen : (xs.length : Int) ≤ 2305843009213693952) :
    while_ body (xs, k, 0) = some (fillX fill c k (xs.map len), k + cntX c (xs.map len), (xs.length : Int)) := by
  have main : ∀ (r p : List α) (k : Int), (∀ x ∈ r, len x ≤ 1048576) → 0 ≤ k → k + cntX c (r.map len) ≤ 2305843009213693952 → ((p.length + r.length : Nat) : Int) ≤ 2305843009213693952 →
      while_ body (p ++ r, k, (p.length : Int)) = some (p ++ fillX fill c k (r.map len), k + cntX c (r.map len), ((p.length + r.length : Nat) : Int)) := by
    intro r
    induction r with
    | nil =>
      intro p k _ h0 hk hl
      refine while_done ?_
      have := he p k
      simpa [fillX, cntX] using this
    | cons x r ih =>
      intro p k hx h0 hk hl
      have hn := cntX_nonneg c (r.map len)
      simp only [List.map_cons, cntX] at hk
      simp only [List.length_cons] at hl
      refine while_step (hb (p ++ x :: r) k p.length x (by simp) (hx x (List.mem_cons_self ..)) h0 (by omega) (by omega)) ?_
      have := ih (p ++ [fill k (len x)]) (k + ((c + 7 * len x : Nat) : Int)) (fun y hy => hx y (List.mem_cons_of_mem _ hy)) (by omega) (by omega) (by simp; omega)
      have e1 : (p ++ x :: r).set p.length (fill k (len x)) = p ++ [fill k (len x)] ++ r := by simp
      rw [e1]
      have e2 : ((p ++ [fill k (len x)]).length : Int) = (p.length : Int) + 1 := by simp
      rw [e2] at this
      rw [this]
      simp only [fillX, cntX, List.map_cons, List.length_cons, List.append_assoc, List.singleton_append, Option.some.injEq, Prod.mk.injEq, true_and]
      refine ⟨by omega, ?_⟩
      simp; omega
  have := main xs [] k h h0 hk (by simpa using hlen)
  simpa using this
theorem heldX_loop {α : Type} (fill : Int → Nat → α) (c : Nat) (ys : List α) {β : Type} {body : (Int × Int) → Option ((Int × Int) ⊕ ((Int × Int) ⊕ β))} (k : Int) (ns : List Nat) (hy : ys = fillX fill c k ns)
    (hb : ∀ (k : Int) (n i : Nat), ys[i]? = some (fill k n) → n ≤ 1048576 → 0 ≤ k → k ≤ 2305843009213693952 → (i : Int) ≤ 2305843009213693952 → body (k, (i : Int)) = some (.inl (k + ((c + 7 * n : Nat) : Int), (i : Int) + 1)))
    (he : ∀ (k : Int), body (k, (ys.length : Int)) = some (.inr (.inl (k, (ys.length : Int))))) (h : ∀ n ∈ ns, n ≤ 1048576) (h0 : 0 ≤ k) (hk : k + cntX c ns ≤ 2305843009213693952) (hlen : (ns.length : Int) ≤ 2305843009213693952) :
    while_ body (k, 0) = some (.inl (k + cntX c ns, (ns.length : Int))) := by
  have hyl : ys.length = ns.length := by rw [hy, fillX_len]
  have main : ∀ (r : List Nat) (p : List α) (k : Int), ys = p ++ fillX fill c k r → p.length + r.length = ns.length → (∀ n ∈ r, n ≤ 1048576) → 0 ≤ k → k + cntX c r ≤ 2305843009213693952 → while_ body (k, (p.length : Int)) = some (.inl (k + cntX c r, (ns.length : Int))) := by
    intro r
    induction r with
    | nil =>
      intro p k e hl _ h0 hk
      refine while_done ?_
      have := he k
      rw [hyl] at this
      simp only [List.length_nil, Nat.add_zero] at hl
      rw [hl]
      simpa [cntX] using this
    | cons n r ih =>
      intro p k e hl hn h0 hk
      have hnn := cntX_nonneg c r
      simp only [cntX] at hk
      simp only [List.length_cons] at hl
      refine while_step (hb k n p.length (by rw [e]; simp [fillX]) (hn n (List.mem_cons_self ..)) h0 (by omega) (by omega)) ?_
      have := ih (p ++ [fill k n]) (k + ((c + 7 * n : Nat) : Int)) (by rw [e]; simp [fillX]) (by simp; omega) (fun m hm => hn m (List.mem_cons_of_mem _ hm)) (by omega) (by omega)
      rw [show ((p ++ [fill k n]).length : Int) = (p.length : Int) + 1 by simp] at this
      rw [this]
      simp only [cntX]
      congr 2
      rw [Int.add_assoc]
  have := main ns [] k hy (by simp) h h0 hk
  simpa using this
def fillEffect (k : Int) (n : Nat) : T_Effect.D := (k, k + 1, k + 1 + 1, k + 1 + 1 + 1, (k + 1 + 1 + 1 + 1, k + 1 + 1 + 1 + 1 + 1, k + 1 + 1 + 1 + 1 + 1 + 1, k + 1 + 1 + 1 + 1 + 1 + 1 + 1, k + 1 + 1 + 1 + 1 + 1 + 1 + 1 + 1, k + 1 + 1 + 1 + 1 + 1 + 1 + 1 + 1 + 1, k + 1 + 1 + 1 + 1 + 1 + 1 + 1 + 1 + 1 + 1, ()), (k + 1 + 1 + 1 + 1 + 1 + 1 + 1 + 1 + 1 + 1 + 1, k + 1 + 1 + 1 + 1 + 1 + 1 + 1 + 1 + 1 + 1 + 1 + 1, ()), (k + 1 + 1 + 1 + 1 + 1 + 1 + 1 + 1 + 1 + 1 + 1 + 1 + 1, k + 1 + 1 + 1 + 1 + 1 + 1 + 1 + 1 + 1 + 1 + 1 + 1 + 1 + 1, k + 1 + 1 + 1 + 1 + 1 + 1 + 1 + 1 + 1 + 1 + 1 + 1 + 1 + 1 + 1, k + 1 + 1 + 1 + 1 + 1 + 1 + 1 + 1 + 1 + 1 + 1 + 1 + 1 + 1 + 1 + 1, k + 1 + 1 + 1 + 1 + 1 + 1 + 1 + 1 + 1 + 1 + 1 + 1 + 1 + 1 + 1 + 1 + 1, ((k + 1 + 1 + 1 + 1 + 1 + 1 + 1 + 1 + 1 + 1 + 1 + 1 + 1 + 1 + 1 + 1 + 1 + 1).tmod 3 == 0), fillL fillEvent (7 : Nat) (k + 1 + 1 + 1 + 1 + 1 + 1 + 1 + 1 + 1 + 1 + 1 + 1 + 1 + 1 + 1 + 1 + 1 + 1 + 1) n, ()), k + 1 + 1 + 1 + 1 + 1 + 1 + 1 + 1 + 1 + 1 + 1 + 1 + 1 + 1 + 1 + 1 + 1 + 1 + 1 + (7 : Nat) * (n : Int), k + 1 + 1 + 1 + 1 + 1 + 1 + 1 + 1 + 1 + 1 + 1 + 1 + 1 + 1 + 1 + 1 + 1 + 1 + 1 + (7 : Nat) * (n : Int) + 1, ())
def lenEffect (x : T_Effect.D) : Nat := x.2.2.2.2.2.2.1.2.2.2.2.2.2.1.length
theorem laws_markEffectS_step (ys : List T_Effect.D) (k : Int) (i : Nat) (x : T_Effect.D) (hx : ys[i]? = some x) (hn : lenEffect x ≤ 1048576) (h0 : 0 ≤ k) (hk : k ≤ 2305843009213693952) (hi : (i : Int) ≤ 2305843009213693952) : laws_markEffectS_l1 (ys, k, (i : Int)) = some (.inl (ys.set i (fillEffect k (lenEffect x)), k + ((21 + 7 * lenEffect x : Nat) : Int), (i : Int) + 1)) := by
  have hlt := (List.getElem?_eq_some_iff.1 hx).1
  have hil : ((i : Int) < (ys.length : Int)) := by omega
  unfold lenEffect at hn ⊢
  generalize hL : x.2.2.2.2.2.2.1.2.2.2.2.2.2.1 = L at hn ⊢
  have hc : k + ((21 + 7 * L.length : Nat) : Int) = k + 1 + 1 + 1 + 1 + 1 + 1 + 1 + 1 + 1 + 1 + 1 + 1 + 1 + 1 + 1 + 1 + 1 + 1 + 1 + (7 : Nat) * (L.length : Int) + 1 + 1 := by omega
  have hm : ∀ q : Int, q = k + 1 + 1 + 1 + 1 + 1 + 1 + 1 + 1 + 1 + 1 + 1 + 1 + 1 + 1 + 1 + 1 + 1 + 1 + 1 → laws_markEventS L q = some (q + (7 : Nat) * (L.length : Int), (fillL fillEvent (7 : Nat) q L.length, ())) := fun q hq => laws_markEventS_eq L q (by omega) (by omega) (by omega)
  have h3 : ¬ ((3 : Int) = 0) := by decide
  unfold laws_markEffectS_l1 fillEffect
  simp (disch := omega) only [hil, decide_true, cond_true, Int.toNat_natCast, idx_at hx, hx, Option.bind_some, idx_set hlt, get_set hlt, List.set_set, wrap_id, hc, hL, hm, h3, if_false]
  first | done | rfl
theorem laws_markEffectS_ok (xs : List T_Effect.D) (k : Int) (h : okD (.slice T_Effect) xs) (h0 : 0 ≤ k) (hk : k ≤ 1152921504606846976) : laws_markEffectS xs k = some (k + cntX 21 (xs.map lenEffect), (fillX fillEffect 21 k (xs.map lenEffect), ())) ∧ 0 ≤ cntX 21 (xs.map lenEffect) ∧ cntX 21 (xs.map lenEffect) ≤ 7696615317504 := by
  have hl : xs.length ≤ 1048576 := h.1
  have hx : ∀ x ∈ xs, lenEffect x ≤ 1048576 := fun x hx => (h.2 x hx).2.2.2.2.2.2.1.2.2.2.2.2.2.1.1
  have hb := cntX_le 21 (by decide) (xs.map lenEffect) (fun m hm => by obtain ⟨x, hx', rfl⟩ := List.mem_map.1 hm; exact hx x hx')
  rw [List.length_map] at hb
  refine ⟨?_, cntX_nonneg _ _, by omega⟩
  unfold laws_markEffectS
  rw [markX_loop fillEffect 21 lenEffect laws_markEffectS_step (fun ys k => by unfold laws_markEffectS_l1; simp) xs k hx h0 (by omega) (by omega)]
  rfl
theorem laws_heldEffectS_ok (ns : List Nat) (k : Int) (h : ∀ n ∈ ns, n ≤ 1048576) (hl : ns.length ≤ 1048576) (h0 : 0 ≤ k) (hk : k ≤ 1152921504606846976) : laws_heldEffectS (fillX fillEffect 21 k ns) k = some (k + cntX 21 ns) := by
  have hb := cntX_le 21 (by decide) ns h
  unfold laws_heldEffectS
  rw [heldX_loop fillEffect 21 (fillX fillEffect 21 k ns) k ns rfl (body := laws_heldEffectS_l1 (fillX fillEffect 21 k ns)) ?_ ?_ h h0 (by omega) (by omega)]
  · rfl
  · intro k n i hx hn h0 hk hi
    have hlt := (List.getElem?_eq_some_iff.1 hx).1
    have hil : ((i : Int) < ((fillX fillEffect 21 _ ns).length : Int)) := Int.ofNat_lt.2 hlt
    have hc : k + ((21 + 7 * n : Nat) : Int) = k + 1 + 1 + 1 + 1 + 1 + 1 + 1 + 1 + 1 + 1 + 1 + 1 + 1 + 1 + 1 + 1 + 1 + 1 + 1 + (7 : Nat) * (n : Int) + 1 + 1 := by omega
    have hm : laws_heldEventS (fillL fillEvent (7 : Nat) (k + 1 + 1 + 1 + 1 + 1 + 1 + 1 + 1 + 1 + 1 + 1 + 1 + 1 + 1 + 1 + 1 + 1 + 1 + 1) n) (k + 1 + 1 + 1 + 1 + 1 + 1 + 1 + 1 + 1 + 1 + 1 + 1 + 1 + 1 + 1 + 1 + 1 + 1 + 1) = some (k + 1 + 1 + 1 + 1 + 1 + 1 + 1 + 1 + 1 + 1 + 1 + 1 + 1 + 1 + 1 + 1 + 1 + 1 + 1 + (7 : Nat) * (n : Int)) := laws_heldEventS_eq _ n (by omega) (by omega) (by omega)
    have h3 : ¬ ((3 : Int) = 0) := by decide
    unfold laws_heldEffectS_l1
    simp (disch := omega) only [hil, decide_true, cond_true, idx_at hx, fillEffect, wrap_id, bne_self_eq_false, cond_false, hc, hm, Option.bind_some, dec_neg, h3, if_false]
    first | done | rfl
  · intro k
    unfold laws_heldEffectS_l1
    simp
def fillTurn (k : Int) (n : Nat) : T_Turn.D := (k, k + 1, k + 1 + 1, k + 1 + 1 + 1, (k + 1 + 1 + 1 + 1, k + 1 + 1 + 1 + 1 + 1, k + 1 + 1 + 1 + 1 + 1 + 1, k + 1 + 1 + 1 + 1 + 1 + 1 + 1, k + 1 + 1 + 1 + 1 + 1 + 1 + 1 + 1, k + 1 + 1 + 1 + 1 + 1 + 1 + 1 + 1 + 1, ((k + 1 + 1 + 1 + 1 + 1 + 1 + 1 + 1 + 1 + 1).tmod 3 == 0), ()), fillL fillEvent (7 : Nat) (k + 1 + 1 + 1 + 1 + 1 + 1 + 1 + 1 + 1 + 1 + 1) n, k + 1 + 1 + 1 + 1 + 1 + 1 + 1 + 1 + 1 + 1 + 1 + (7 : Nat) * (n : Int), k + 1 + 1 + 1 + 1 + 1 + 1 + 1 + 1 + 1 + 1 + 1 + (7 : Nat) * (n : Int) + 1, ())
def lenTurn (x : T_Turn.D) : Nat := x.2.2.2.2.2.1.length
theorem laws_markTurnS_step (ys : List T_Turn.D) (k : Int) (i : Nat) (x : T_Turn.D) (hx : ys[i]? = some x) (hn : lenTurn x ≤ 1048576) (h0 : 0 ≤ k) (hk : k ≤ 2305843009213693952) (hi : (i : Int) ≤ 2305843009213693952) : laws_markTurnS_l1 (ys, k, (i : Int)) = some (.inl (ys.set i (fillTurn k (lenTurn x)), k + ((13 + 7 * lenTurn x : Nat) : Int), (i : Int) + 1)) := by
  have hlt := (List.getElem?_eq_some_iff.1 hx).1
  have hil : ((i : Int) < (ys.length : Int)) := by omega
  unfold lenTurn at hn ⊢
  generalize hL : x.2.2.2.2.2.1 = L at hn ⊢
  have hc : k + ((13 + 7 * L.length : Nat) : Int) = k + 1 + 1 + 1 + 1 + 1 + 1 + 1 + 1 + 1 + 1 + 1 + (7 : Nat) * (L.length : Int) + 1 + 1 := by omega
  have hm : ∀ q : Int, q = k + 1 + 1 + 1 + 1 + 1 + 1 + 1 + 1 + 1 + 1 + 1 → laws_markEventS L q = some (q + (7 : Nat) * (L.length : Int), (fillL fillEvent (7 : Nat) q L.length, ())) := fun q hq => laws_markEventS_eq L q (by omega) (by omega) (by omega)
  have h3 : ¬ ((3 : Int) = 0) := by decide
  unfold laws_markTurnS_l1 fillTurn
  simp (disch := omega) only [hil, decide_true, cond_true, Int.toNat_natCast, idx_at hx, hx, Option.bind_some, idx_set hlt, get_set hlt, List.set_set, wrap_id, hc, hL, hm, h3, if_false]
  first | done | rfl
theorem laws_markTurnS_ok (xs : List T_Turn.D) (k : Int) (h : okD (.slice T_Turn) xs) (h0 : 0 ≤ k) (hk : k ≤ 1152921504606846976) : laws_markTurnS xs k = some (k + cntX 13 (xs.map lenTurn), (fillX fillTurn 13 k (xs.map lenTurn), ())) ∧ 0 ≤ cntX 13 (xs.map lenTurn) ∧ cntX 13 (xs.map lenTurn) ≤ 7696615317504 := by
  have hl : xs.length ≤ 1048576 := h.1
  have hx : ∀ x ∈ xs, lenTurn x ≤ 1048576 := fun x hx => (h.2 x hx).2.2.2.2.2.1.1
  have hb := cntX_le 13 (by decide) (xs.map lenTurn) (fun m hm => by obtain ⟨x, hx', rfl⟩ := List.mem_map.1 hm; exact hx x hx')
  rw [List.length_map] at hb
  refine ⟨?_, cntX_nonneg _ _, by omega⟩
  unfold laws_markTurnS
  rw [markX_loop fillTurn 13 lenTurn laws_markTurnS_step (fun ys k => by unfold laws_markTurnS_l1; simp) xs k hx h0 (by omega) (by omega)]
  rfl
theorem laws_heldTurnS_ok (ns : List Nat) (k : Int) (h : ∀ n ∈ ns, n ≤ 1048576) (hl : ns.length ≤ 1048576) (h0 : 0 ≤ k) (hk : k ≤ 1152921504606846976) : laws_heldTurnS (fillX fillTurn 13 k ns) k = some (k + cntX 13 ns) := by
  have hb := cntX_le 13 (by decide) ns h
  unfold laws_heldTurnS
  rw [heldX_loop fillTurn 13 (fillX fillTurn 13 k ns) k ns rfl (body := laws_heldTurnS_l1 (fillX fillTurn 13 k ns)) ?_ ?_ h h0 (by omega) (by omega)]
  · rfl
  · intro k n i hx hn h0 hk hi
    have hlt := (List.getElem?_eq_some_iff.1 hx).1
    have hil : ((i : Int) < ((fillX fillTurn 13 _ ns).length : Int)) := Int.ofNat_lt.2 hlt
    have hc : k + ((13 + 7 * n : Nat) : Int) = k + 1 + 1 + 1 + 1 + 1 + 1 + 1 + 1 + 1 + 1 + 1 + (7 : Nat) * (n : Int) + 1 + 1 := by omega
    have hm : laws_heldEventS (fillL fillEvent (7 : Nat) (k + 1 + 1 + 1 + 1 + 1 + 1 + 1 + 1 + 1 + 1 + 1) n) (k + 1 + 1 + 1 + 1 + 1 + 1 + 1 + 1 + 1 + 1 + 1) = some (k + 1 + 1 + 1 + 1 + 1 + 1 + 1 + 1 + 1 + 1 + 1 + (7 : Nat) * (n : Int)) := laws_heldEventS_eq _ n (by omega) (by omega) (by omega)
    have h3 : ¬ ((3 : Int) = 0) := by decide
    unfold laws_heldTurnS_l1
    simp (disch := omega) only [hil, decide_true, cond_true, idx_at hx, fillTurn, wrap_id, bne_self_eq_false, cond_false, hc, hm, Option.bind_some, dec_neg, h3, if_false]
    first | done | rfl
  · intro k
    unfold laws_heldTurnS_l1
    simp

/-! ### LeftOf, GameNew -/
theorem collect_map {α β : Type} (f : α → β) : ∀ (xs : List α) (i : Nat), collect (fun _ x => [f x]) i xs = xs.map f
  | [], _ => rfl
  | x :: xs, i => by simp only [collect, List.map_cons, collect_map f xs (i + 1)]; rfl
theorem markFate_some (f : T_Fate.D) (h : okD T_Fate f) : ∃ n g, laws_markFate f 1 = some (n, (g, ())) ∧ 0 ≤ n := by
  have l1 : f.1.length ≤ 1048576 := h.1.1
  have l3 : f.2.2.1.length ≤ 1048576 := h.2.2.1.1
  unfold laws_markFate
  rw [laws_markEventS_eq f.1 1 (by omega) (by omega) (by omega), Option.bind_some]
  obtain ⟨m2, b2, c2⟩ := laws_markEffectS_ok f.2.1 (1 + (7 : Nat) * (f.1.length : Int)) h.2.1 (by omega) (by omega)
  simp only
  rw [m2, Option.bind_some]
  simp only
  generalize cntX 21 (f.2.1.map lenEffect) = q2 at b2 c2
  rw [laws_markIntS_eq f.2.2.1 _ (by omega) (by omega) (by omega), Option.bind_some]
  obtain ⟨m4, b4, c4⟩ := laws_markTurnS_ok f.2.2.2.1 (1 + (7 : Nat) * (f.1.length : Int) + q2 + (1 : Nat) * (f.2.2.1.length : Int)) h.2.2.2.1 (by omega) (by omega)
  simp only
  rw [m4, Option.bind_some]
  exact ⟨_, _, rfl, by omega⟩
theorem spec_table_copy (xs : List T_Effect.D) (h : okD (.slice T_Effect) xs) : spec_l11Copy xs = some xs := by
  have hl : xs.length ≤ 1048576 := h.1
  unfold spec_l11Copy
  rw [append_loop xs (fun _ x => [x]) (fun s => s) (fun _ _ => by simp) (by omega) (fun t i x hI hx => ?_) (fun t => ?_)]
  · rw [Option.bind_some, collect_map]; simp
  · have hlt := (List.getElem?_eq_some_iff.1 hx).1
    have hil : ((i : Int) < (xs.length : Int)) := by omega
    have hle := (h.2 x (List.mem_of_getElem? hx)).2.2.2.2.2.2.1.2.2.2.2.2.2.1.1
    unfold spec_l11Copy_l1 spec_l10Copy spec_l9Copy
    simp only [hil, decide_true, cond_true, idx_at hx, List.nil_append]
    rw [if_pos (by simp only [room, List.length_nil]; omega)]
    simp only [Option.bind_some]
    rw [if_pos (by simp only [room, List.length_cons, List.length_nil]; omega)]
  · unfold spec_l11Copy_l1; simp
theorem impl_table_copy (xs : List T_Effect.D) (h : okD (.slice T_Effect) xs) : impl_copyTable xs = some xs := by
  have hl : xs.length ≤ 1048576 := h.1
  unfold impl_copyTable
  rw [append_loop xs (fun _ x => [x]) (fun s => s) (fun _ _ => by simp) (by omega) (fun t i x hI hx => ?_) (fun t => ?_)]
  · rw [Option.bind_some, collect_map]; simp
  · have hlt := (List.getElem?_eq_some_iff.1 hx).1
    have hil : ((i : Int) < (xs.length : Int)) := by omega
    have hle := (h.2 x (List.mem_of_getElem? hx)).2.2.2.2.2.2.1.2.2.2.2.2.2.1.1
    unfold impl_copyTable_l1 impl_copyEffect slices_Clone_impl_Event
    simp only [hil, decide_true, cond_true, idx_at hx, List.nil_append]
    rw [if_pos (by simp only [room, List.length_nil]; omega)]
    simp only [Option.bind_some]
    rw [if_pos (by simp only [room, List.length_cons, List.length_nil]; omega)]
  · unfold impl_copyTable_l1; simp

/-! ### Join -/
theorem laws_szTurnS_len (a : List T_Turn.D) (l : Int) (h0 : 0 ≤ l) (h1 : l ≤ 1048576) (w : (Ty.slice T_Turn).wf a) : ∃ m, laws_szTurnS a l = some m ∧ (m < 0 ∨ (0 ≤ m ∧ m + a.length ≤ l ∧ okD (.slice T_Turn) a)) := by
  unfold laws_szTurnS
  exact sz_loopL (t := T_Turn) a laws_szTurn (body := laws_szTurnS_l1 a) w.1 (fun x hx l h0 h1 => laws_szTurn_ok x l h0 h1 (w.2 x hx)) (fun _ => rfl) h0 h1
theorem szFate_len (f : T_Fate.D) (l m : Int) (h0 : 0 ≤ l) (h1 : l ≤ 1048576) (w : T_Fate.wf f) (e : laws_szFate f l = some m) (hm : 0 ≤ m) : (f.1.length : Int) + (f.2.2.2.1.length : Int) ≤ l - m := by
  unfold laws_szFate at e
  rw [laws_szEventS_eq _ _ h0 h1 w.1.1, Option.bind_some] at e
  by_cases g : (f.1.length : Int) ≤ l
  · rw [if_pos g, dec_neg (by omega)] at e
    simp only [cond_false] at e
    obtain ⟨m2, e2, h2⟩ := laws_szEffectS_ok f.2.1 (l - f.1.length) (by omega) (by omega) w.2.1
    rw [e2, Option.bind_some] at e
    rcases h2 with h2 | ⟨a2, b2, _⟩
    · rw [decide_eq_true h2] at e
      simp only [cond_true, Option.some.injEq] at e
      omega
    rw [dec_neg a2] at e
    simp only [cond_false] at e
    obtain ⟨m3, e3, h3⟩ := laws_szIntS_ok f.2.2.1 m2 (by omega) (by omega) w.2.2.1
    rw [e3, Option.bind_some] at e
    rcases h3 with h3 | ⟨a3, b3, _⟩
    · rw [decide_eq_true h3] at e
      simp only [cond_true, Option.some.injEq] at e
      omega
    rw [dec_neg a3] at e
    simp only [cond_false] at e
    obtain ⟨m4, e4, h4⟩ := laws_szTurnS_len f.2.2.2.1 m3 (by omega) (by omega) w.2.2.2.1
    rw [e4, Option.bind_some] at e
    rcases h4 with h4 | ⟨a4, b4, _⟩
    · rw [decide_eq_true h4] at e
      simp only [cond_true, Option.some.injEq] at e
      omega
    rw [dec_neg a4] at e
    simp only [cond_false, Option.some.injEq] at e
    omega
  · rw [if_neg g] at e
    simp at e
    omega
theorem grow_Event (n : Int) (h0 : 0 ≤ n) (h1 : n ≤ 1048576) : slices_Grow_impl_Event () n = some ([], ()) := by
  unfold slices_Grow_impl_Event
  rw [dec_neg h0]
  simp only [cond_false, Option.bind_some]
  have z : IntKind.wrap .i64 (0 - 0) = 0 := wrap_id (by omega) (by omega)
  rw [z, Int.sub_zero, wrap_id (by omega) (by omega)]
  by_cases hn : n > 0
  · rw [decide_eq_true hn]
    simp only [cond_true, Int.le_refl, if_true]
    rw [if_pos (by omega), if_pos hn, if_pos (by simp only [room]; omega), if_pos (by omega)]
    simp
  · rw [decide_eq_false hn]; rfl
theorem grow_Turn (n : Int) (h0 : 0 ≤ n) (h1 : n ≤ 1048576) : slices_Grow_impl_Turn () n = some ([], ()) := by
  unfold slices_Grow_impl_Turn
  rw [dec_neg h0]
  simp only [cond_false, Option.bind_some]
  have z : IntKind.wrap .i64 (0 - 0) = 0 := wrap_id (by omega) (by omega)
  rw [z, Int.sub_zero, wrap_id (by omega) (by omega)]
  by_cases hn : n > 0
  · rw [decide_eq_true hn]
    simp only [cond_true, Int.le_refl, if_true]
    rw [if_pos (by omega), if_pos hn, if_pos (by simp only [room]; omega), if_pos (by omega)]
    simp
  · rw [decide_eq_false hn]; rfl
theorem concat_Event (a b : List T_Event.D) (h : a.length + b.length ≤ 1048576) : slices_Concat_impl_Event [a, b] = some (a ++ b) := by
  have i0 : ([a, b] : List (List T_Event.D))[0]? = some a := rfl
  have i1 : ([a, b] : List (List T_Event.D))[1]? = some b := rfl
  have e1 : while_ (slices_Concat_impl_Event_l1 [a, b]) (0, 0) = some ((a.length : Int) + (b.length : Int), 2) := by
    refine while_step (s' := ((a.length : Int), 1)) ?_ (while_step (s' := ((a.length : Int) + (b.length : Int), 2)) ?_ (while_done ?_))
    · unfold slices_Concat_impl_Event_l1
      rw [decide_eq_true (by simp)]
      simp only [cond_true]
      rw [show ((0 : Int)) = ((0 : Nat) : Int) from rfl, idx_at i0]
      simp (disch := omega) only [wrap_id, dec_neg, cond_false]
      first | (simp; done) | (simp; rw [dec_neg (by omega)]; rfl)
    · unfold slices_Concat_impl_Event_l1
      rw [decide_eq_true (by simp)]
      simp only [cond_true]
      rw [show ((1 : Int)) = ((1 : Nat) : Int) from rfl, idx_at i1]
      simp (disch := omega) only [wrap_id, dec_neg, cond_false]
      first | (simp; done) | (simp; rw [dec_neg (by omega)]; rfl)
    · unfold slices_Concat_impl_Event_l1
      simp
  have e2 : while_ (slices_Concat_impl_Event_l2 [a, b]) ([], 0) = some (a ++ b, 2) := by
    refine while_step (s' := (a, 1)) ?_ (while_step (s' := (a ++ b, 2)) ?_ (while_done ?_))
    · unfold slices_Concat_impl_Event_l2
      rw [decide_eq_true (by simp)]
      simp only [cond_true]
      rw [show ((0 : Int)) = ((0 : Nat) : Int) from rfl, idx_at i0]
      rw [if_pos (by simp only [room, List.length_nil]; omega)]
      simp (disch := omega) only [wrap_id]
      simp
    · unfold slices_Concat_impl_Event_l2
      rw [decide_eq_true (by simp)]
      simp only [cond_true]
      rw [show ((1 : Int)) = ((1 : Nat) : Int) from rfl, idx_at i1]
      rw [if_pos (by simp only [room]; omega)]
      simp (disch := omega) only [wrap_id]
      simp
    · unfold slices_Concat_impl_Event_l2
      simp
  unfold slices_Concat_impl_Event
  rw [e1, Option.bind_some]
  simp only
  rw [grow_Event _ (by omega) (by omega), Option.bind_some]
  simp only
  rw [e2, Option.bind_some]
theorem concat_Turn (a b : List T_Turn.D) (h : a.length + b.length ≤ 1048576) : slices_Concat_impl_Turn [a, b] = some (a ++ b) := by
  have i0 : ([a, b] : List (List T_TurnV.D))[0]? = some a := rfl
  have i1 : ([a, b] : List (List T_TurnV.D))[1]? = some b := rfl
  have e1 : while_ (slices_Concat_impl_Turn_l1 [a, b]) (0, 0) = some ((a.length : Int) + (b.length : Int), 2) := by
    refine while_step (s' := ((a.length : Int), 1)) ?_ (while_step (s' := ((a.length : Int) + (b.length : Int), 2)) ?_ (while_done ?_))
    · unfold slices_Concat_impl_Turn_l1
      rw [decide_eq_true (by simp)]
      simp only [cond_true]
      rw [show ((0 : Int)) = ((0 : Nat) : Int) from rfl, idx_at i0]
      simp (disch := omega) only [wrap_id, dec_neg, cond_false]
      first | (simp; done) | (simp; rw [dec_neg (by omega)]; rfl)
    · unfold slices_Concat_impl_Turn_l1
      rw [decide_eq_true (by simp)]
      simp only [cond_true]
      rw [show ((1 : Int)) = ((1 : Nat) : Int) from rfl, idx_at i1]
      simp (disch := omega) only [wrap_id, dec_neg, cond_false]
      first | (simp; done) | (simp; rw [dec_neg (by omega)]; rfl)
    · unfold slices_Concat_impl_Turn_l1
      simp
  have e2 : while_ (slices_Concat_impl_Turn_l2 [a, b]) ([], 0) = some ((a ++ b : List T_Turn.D), 2) := by
    refine while_step (s' := (a, 1)) ?_ (while_step (s' := ((a ++ b : List T_Turn.D), 2)) ?_ (while_done ?_))
    · unfold slices_Concat_impl_Turn_l2
      rw [decide_eq_true (by simp)]
      simp only [cond_true]
      rw [show ((0 : Int)) = ((0 : Nat) : Int) from rfl, idx_at i0]
      rw [if_pos (by simp only [room, List.length_nil]; omega)]
      simp (disch := omega) only [wrap_id]
      simp
    · unfold slices_Concat_impl_Turn_l2
      rw [decide_eq_true (by simp)]
      simp only [cond_true]
      rw [show ((1 : Int)) = ((1 : Nat) : Int) from rfl, idx_at i1]
      rw [if_pos (by simp only [room]; omega)]
      simp (disch := omega) only [wrap_id]
      simp
    · unfold slices_Concat_impl_Turn_l2
      simp
  unfold slices_Concat_impl_Turn
  rw [e1, Option.bind_some]
  simp only
  rw [grow_Turn _ (by omega) (by omega), Option.bind_some]
  simp only
  rw [e2, Option.bind_some]
theorem impl_turns_copy (xs : List T_Turn.D) (h : okD (.slice T_Turn) xs) : impl_copyTurns xs = some xs := by
  have hl : xs.length ≤ 1048576 := h.1
  unfold impl_copyTurns
  rw [append_loop xs (fun _ x => [x]) (fun s => s) (fun _ _ => by simp) (by omega) (fun t i x hI hx => ?_) (fun t => ?_)]
  · rw [Option.bind_some, collect_map]; simp
  · have hlt := (List.getElem?_eq_some_iff.1 hx).1
    have hil : ((i : Int) < (xs.length : Int)) := by omega
    have hle := (h.2 x (List.mem_of_getElem? hx)).2.2.2.2.2.1.1
    unfold impl_copyTurns_l1 slices_Clone_impl_Event
    simp only [hil, decide_true, cond_true, idx_at hx, List.nil_append]
    rw [if_pos (by simp only [room, List.length_nil]; omega)]
    simp only [Option.bind_some]
    rw [if_pos (by simp only [room, List.length_cons, List.length_nil]; omega)]
  · unfold impl_copyTurns_l1; simp
theorem spec_turns_copy (xs : List T_Turn.D) (h : okD (.slice T_Turn) xs) : spec_l15Turns xs = some xs := by
  have hl : xs.length ≤ 1048576 := h.1
  unfold spec_l15Turns
  rw [append_loop xs (fun _ x => [x]) (fun s => s) (fun _ _ => by simp) (by omega) (fun t i x hI hx => ?_) (fun t => ?_)]
  · rw [Option.bind_some, collect_map]; simp
  · have hlt := (List.getElem?_eq_some_iff.1 hx).1
    have hil : ((i : Int) < (xs.length : Int)) := by omega
    have hle := (h.2 x (List.mem_of_getElem? hx)).2.2.2.2.2.1.1
    unfold spec_l15Turns_l1 spec_l13Copy
    simp only [hil, decide_true, cond_true, idx_at hx, List.nil_append]
    rw [if_pos (by simp only [room, List.length_nil]; omega)]
    simp only [Option.bind_some]
    rw [if_pos (by simp only [room, List.length_cons, List.length_nil]; omega)]
  · unfold spec_l15Turns_l1; simp
theorem spec_fate_copy (f : T_Fate.D) (h : okD T_Fate f) : spec_l15Copy f = some f := by
  have h1 : f.1.length ≤ 1048576 := h.1.1
  have h3 : f.2.2.1.length ≤ 1048576 := h.2.2.1.1
  unfold spec_l15Copy
  rw [if_pos (by simp only [room, List.length_nil]; omega), spec_table_copy _ h.2.1, Option.bind_some, if_pos (by simp only [room, List.length_nil]; omega), spec_turns_copy _ h.2.2.2.1]
  rfl
theorem markFate_held (g : T_Fate.D) (h : okD T_Fate g) (k : Int) (h0 : 0 ≤ k) (hk : k ≤ 1125899906842624) : ∃ n g', laws_markFate g k = some (n, (g', ())) ∧ 0 ≤ n ∧ n ≤ k + 17592186044416 ∧ laws_heldFate g' k = some n := by
  have l1 : g.1.length ≤ 1048576 := h.1.1
  have l3 : g.2.2.1.length ≤ 1048576 := h.2.2.1.1
  have n2 : ∀ n ∈ g.2.1.map lenEffect, n ≤ 1048576 := fun n hn => by obtain ⟨x, hx, rfl⟩ := List.mem_map.1 hn; exact (h.2.1.2 x hx).2.2.2.2.2.2.1.2.2.2.2.2.2.1.1
  have n6 : ∀ n ∈ g.2.2.2.1.map lenTurn, n ≤ 1048576 := fun n hn => by obtain ⟨x, hx, rfl⟩ := List.mem_map.1 hn; exact (h.2.2.2.1.2 x hx).2.2.2.2.2.1.1
  have s2 : (g.2.1.map lenEffect).length ≤ 1048576 := by rw [List.length_map]; exact h.2.1.1
  have s6 : (g.2.2.2.1.map lenTurn).length ≤ 1048576 := by rw [List.length_map]; exact h.2.2.2.1.1
  have a1 := laws_markEventS_eq g.1 k (by omega) (by omega) (by omega)
  have b1 := laws_heldEventS_eq k g.1.length (by omega) (by omega) (by omega)
  obtain ⟨K1, k1⟩ : ∃ K : Int, K = k + (7 : Nat) * (g.1.length : Int) := ⟨_, rfl⟩
  rw [← k1] at a1 b1
  obtain ⟨a2, q2, r2⟩ := laws_markEffectS_ok g.2.1 K1 h.2.1 (by omega) (by omega)
  have b2 := laws_heldEffectS_ok (g.2.1.map lenEffect) K1 n2 s2 (by omega) (by omega)
  obtain ⟨K2, k2⟩ : ∃ K : Int, K = K1 + cntX 21 (g.2.1.map lenEffect) := ⟨_, rfl⟩
  rw [← k2] at a2 b2
  have a3 := laws_markIntS_eq g.2.2.1 K2 (by omega) (by omega) (by omega)
  have b3 := laws_heldIntS_eq K2 g.2.2.1.length (by omega) (by omega) (by omega)
  obtain ⟨K3, k3⟩ : ∃ K : Int, K = K2 + (1 : Nat) * (g.2.2.1.length : Int) := ⟨_, rfl⟩
  rw [← k3] at a3 b3
  obtain ⟨a6, q6, r6⟩ := laws_markTurnS_ok g.2.2.2.1 K3 h.2.2.2.1 (by omega) (by omega)
  have b6 := laws_heldTurnS_ok (g.2.2.2.1.map lenTurn) K3 n6 s6 (by omega) (by omega)
  obtain ⟨K6, k6⟩ : ∃ K : Int, K = K3 + cntX 13 (g.2.2.2.1.map lenTurn) := ⟨_, rfl⟩
  rw [← k6] at a6 b6
  refine ⟨K6, (fillL fillEvent (7 : Nat) k g.1.length, fillX fillEffect 21 K1 (g.2.1.map lenEffect), fillL fillInt (1 : Nat) K2 g.2.2.1.length, fillX fillTurn 13 K3 (g.2.2.2.1.map lenTurn), ()), ?_, by omega, by omega, ?_⟩
  · unfold laws_markFate
    simp only [a1, a2, a3, a6, Option.bind_some]
  · unfold laws_heldFate
    simp (disch := omega) only [b1, b2, b3, b6, Option.bind_some, dec_neg, cond_false]
theorem law_Join (f0 f1 : T_Fate.D) (w0 : T_Fate.wf f0) (w1 : T_Fate.wf f1) : laws_FnExactJoin f0 f1 = some true := by
  unfold laws_FnExactJoin
  obtain ⟨m0, z0, hh⟩ := laws_szFate_ok f0 1048576 (by omega) (by omega) w0
  rw [z0, Option.bind_some]
  rcases hh with hh | ⟨g0, g1, ok0⟩
  · rw [decide_eq_true hh]; rfl
  rw [dec_neg g0]; simp only [cond_false]
  obtain ⟨m1, z1, hh⟩ := laws_szFate_ok f1 m0 (by omega) (by omega) w1
  rw [z1, Option.bind_some]
  rcases hh with hh | ⟨g2, g3, ok1⟩
  · rw [decide_eq_true hh]; rfl
  rw [dec_neg g2]; simp only [cond_false]
  have c0 := szFate_len f0 _ _ (by omega) (by omega) w0 z0 g0
  have c1 := szFate_len f1 _ _ (by omega) (by omega) w1 z1 g2
  have s1 : f0.1.length + f1.1.length ≤ 1048576 := by omega
  have s2 : f0.2.2.2.1.length + f1.2.2.2.1.length ≤ 1048576 := by omega
  obtain ⟨r, hr⟩ : ∃ r : T_Fate.D, r = (f0.1 ++ f1.1, f1.2.1, f1.2.2.1, f0.2.2.2.1 ++ f1.2.2.2.1, ()) := ⟨_, rfl⟩
  have okt : okD (.slice T_Turn) (f0.2.2.2.1 ++ f1.2.2.2.1) := ⟨by rw [List.length_append]; exact s2, fun x hx => by
    rcases List.mem_append.1 hx with h | h
    · exact ok0.2.2.2.1.2 x h
    · exact ok1.2.2.2.1.2 x h⟩
  have okr : okD T_Fate r := by
    rw [hr]
    refine ⟨⟨by rw [List.length_append]; exact s1, fun x hx => ?_⟩, ok1.2.1, ok1.2.2.1, okt, trivial⟩
    rcases List.mem_append.1 hx with h | h
    · exact ok0.1.2 x h
    · exact ok1.1.2 x h
  have e1 : spec_Join f0 f1 = some r := by
    unfold spec_Join
    rw [spec_fate_copy f0 ok0, Option.bind_some, spec_fate_copy f1 ok1, Option.bind_some, if_pos (by simp only [room]; omega), if_pos (by simp only [room]; omega), hr]
  have l3 : f1.2.2.1.length ≤ 1048576 := ok1.2.2.1.1
  have e2 : impl_Join f0 f1 = some r := by
    unfold impl_Join slices_Clone_int
    rw [concat_Event _ _ s1, Option.bind_some, impl_table_copy _ ok1.2.1, Option.bind_some, if_pos (by simp only [room, List.length_nil]; omega), Option.bind_some, concat_Turn _ _ s2, Option.bind_some, impl_turns_copy _ okt, Option.bind_some, hr]
    rfl
  obtain ⟨n0, q0, hm0, hn0, hb0, _⟩ := markFate_held f0 ok0 1 (by omega) (by omega)
  obtain ⟨n1, q1, hm1, hn1, hb1, _⟩ := markFate_held f1 ok1 n0 hn0 (by omega)
  obtain ⟨n2, q2, hm2, hn2, hb2, hh2⟩ := markFate_held r okr 1 (by omega) (by omega)
  simp only [laws_toFate_ok f0 ok0, laws_toFate_ok f1 ok1, e1, e2, laws_eqFate_ok f0 f0 ok0, laws_eqFate_ok f1 f1 ok1, laws_eqFate_ok r r okr, eqD_refl (t := T_Fate) rfl, hm0, hm1, hm2, hh2, Option.bind_some, dec_neg hn1, dec_neg hn2, bne_self_eq_false, Bool.not_true, cond_false, cond_true]

end Go.Abs
