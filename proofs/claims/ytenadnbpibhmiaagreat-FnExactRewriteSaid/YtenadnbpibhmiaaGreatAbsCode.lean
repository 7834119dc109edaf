/- THE EVALUATOR OF CODE: sequences, branches, blocks, loops, cuts. -/
import Derived.Test.YtenadnbpibhmiaaGreatAbsEv
set_option linter.unusedVariables false
set_option linter.unusedSimpArgs false
namespace Go.Abs

/-- A place that a piece of code may turn, and how it is told anew: a datum that leans on nothing ('tmp', 'box'), or one that owns its slices ('tmpO', 'boxO': they are told at a site, from a number on; behind such a box's datum may lie functions that stay). -/
inductive Place where
  | tmp (i : Nat) (t : Ty)
  | tmpO (i j : Nat) (t : Ty)
  | box (d j : Nat) (t : Ty)
  | boxO (d j k : Nat) (t : Ty) (fl : List Leaf := [])

@[reducible] def Place.ty : Place → Ty
  | .tmp _ t | .tmpO _ _ t | .box _ _ t | .boxO _ _ _ t _ => t

@[reducible] def PS : List Place → Ty
  | [] => .unit
  | [p] => p.ty
  | p :: q :: r => .pair p.ty (PS (q :: r))

/-- What a piece of code (a loop, a cut) may turn; where it may come out ('none': at its end); what a return inside it leaves; the objects that a cut may turn. -/
structure Hint where
  out : List Place
  outs : List (Option Nat)
  ret : Option (List Place) := none
  free : List Hd := []

inductive Hints where
  | none
  | node (cut lp : Option Hint) (a b : Hints)

def Hints.cut : Hints → Option Hint
  | .none => .none
  | .node c _ _ _ => c
def Hints.lp : Hints → Option Hint
  | .none => .none
  | .node _ l _ _ => l
def Hints.a : Hints → Hints
  | .none => .none
  | .node _ _ a _ => a
def Hints.b : Hints → Hints
  | .none => .none
  | .node _ _ _ b => b

/-- Set a place that is there. -/
def setX {α R : Type} : List α → Nat → α → (List α → Option R) → Option R
  | [], _, _, _ => none
  | _ :: r, 0, v, κ => κ (v :: r)
  | a :: r, n + 1, v, κ => setX r n v fun r' => κ (a :: r')

def padK {R : Type} : Nat → List Obj' → (List Obj' → Option R) → Option R
  | 0, [], κ => κ []
  | 0, _ :: _, _ => none
  | n + 1, [], κ => padK n [] fun r => κ (.dead :: r)
  | n + 1, a :: l, κ => padK n l fun r => κ (a :: r)

def noneK {α : Type} (r : List Leaf) (os : List Hd) (k : Option α) : Option α :=
  match r, os with
  | [], [] => k
  | _, _ => none

def eqHs : List Hd → List Hd → Bool
  | [], [] => true
  | (a, b) :: r, (c, d) :: s => match Nat.beq a c, Nat.beq b d with
    | true, true => eqHs r s
    | _, _ => false
  | _, _ => false

/-- These cells are those functions. -/
def fixK {R : Type} : List Leaf → List Leaf → Option R → Option R
  | [], [], k => k
  | .fn f cs :: r, .fn g ds :: s, k => match Nat.beq f g, eqHs cs ds with
    | true, true => fixK r s k
    | _, _ => none
  | _, _, _ => none

def onlyFn : List Leaf → Bool
  | [] => true
  | .fn _ _ :: r => onlyFn r
  | _ => false

def capsF : List Leaf → List Hd
  | [] => []
  | .fn _ cs :: r => cs ++ capsF r
  | _ :: r => capsF r

def Place.caps : Place → List Hd
  | .boxO _ _ _ _ fl => capsF fl
  | _ => []

def capsP : List Place → List Hd
  | [] => []
  | p :: r => p.caps ++ capsP r

def thereAll (h : List (List Obj')) : List Hd → Bool
  | [] => true
  | q :: r => match getO h q with
    | .none => false
    | _ => thereAll h r

/-- Read a place. -/
def readP {R : Type} (st : St) : (p : Place) → List (Hd × Obj') → (p.ty.D → List (Hd × Obj') → Option R) → Option R
  | .tmp i t, ws, κ => argK t (getT st.t i) fun cs => packK st.h t cs [] fun x r os => noneK r os (κ x ws)
  | .tmpO i _ t, ws, κ => argK t (getT st.t i) fun cs => packT st.h t cs ws fun x r ws => endK r (κ x ws)
  | .box d j t, ws, κ => match getO st.h (d, j), hasH ws (d, j) with
    | .box false cs, false => packK st.h t cs [] fun x r os => noneK r os (κ x (((d, j), .dead) :: ws))
    | _, _ => none
  | .boxO d j _ t fl, ws, κ => match getO st.h (d, j), hasH ws (d, j) with
    | .box false cs, false => packT st.h t cs (((d, j), .dead) :: ws) fun x r ws => fixK r fl (κ x ws)
    | _, _ => none

def writeP {R : Type} (st : St) : (p : Place) → p.ty.D → (St → Option R) → Option R
  | .tmp i t, x, κ => expandK t x [] fun cs => setX st.t i (cellsAV t cs) fun t => κ { st with t }
  | .tmpO i j t, x, κ => padK j (getL st.h i) fun os => freshK i t x os fun cs os' => setX st.h i os' fun h => setX st.t i (cellsAV t cs) fun t => κ ⟨t, h⟩
  | .box d j t, x, κ => match getO st.h (d, j) with
    | .dead => expandK t x [] fun cs => putO st.h (d, j) (.box false cs) fun h => κ { st with h }
    | _ => none
  | .boxO d j k t fl, x, κ => match getO st.h (d, j), onlyFn fl with
    | .dead, true => padK k (getL st.h d) fun os => freshK d t x os fun cs os' => catK cs fl fun cs => setX st.h d os' fun h => putO h (d, j) (.box false cs) fun h => κ { st with h }
    | _, _ => none

def readPs {R : Type} (st : St) : (l : List Place) → List (Hd × Obj') → ((PS l).D → List (Hd × Obj') → Option R) → Option R
  | [], ws, κ => κ () ws
  | [p], ws, κ => readP st p ws κ
  | p :: q :: r, ws, κ => readP st p ws fun x ws => readPs st (q :: r) ws fun y ws => κ (x, y) ws

def writePs1 {R : Type} (st : St) : (l : List Place) → (PS l).D → (St → Option R) → Option R
  | [], _, κ => κ st
  | [p], x, κ => writeP st p x κ
  | p :: q :: r, x, κ => writeP st p x.1 fun st => writePs1 st (q :: r) x.2 κ

def writePs {R : Type} (st : St) (l : List Place) (x : (PS l).D) (κ : St → Option R) : Option R :=
  match thereAll st.h (capsP l) with
  | true => writePs1 st l x κ
  | false => none

/-- The temporaries that a piece of code may turn. -/
def dstsO : List Oper → List Nat
  | [] => []
  | o :: r => match o.dst with
    | some d => d :: dstsO r
    | none => dstsO r

def dstsC : Code → List Nat
  | .region _ ops _ => dstsO ops.toList
  | .seq a b => dstsC a ++ dstsC b
  | .cond _ a b => dstsC a ++ dstsC b
  | .block _ a => dstsC a
  | .loop a => dstsC a
  | .scope a => dstsC a
  | _ => []

def maskO : List Oper → Nat → Nat
  | [], m => m
  | o :: r, m => match o.dst with
    | some d => maskO r (Nat.lor m (Nat.shiftLeft 1 d))
    | none => maskO r m

def maskC : Code → Nat → Nat
  | .region _ ops _, m => maskO ops.toList m
  | .seq a b, m => maskC b (maskC a m)
  | .cond _ a b, m => maskC b (maskC a m)
  | .block _ a, m => maskC a m
  | .loop a, m => maskC a m
  | .scope a, m => maskC a m
  | _, m => m

def killM {R : Type} (m : Nat) : Nat → List AV → (List AV → Option R) → Option R
  | _, [], κ => κ []
  | i, a :: r, κ => match Nat.testBit m i with
    | true => killM m (i + 1) r fun r' => κ (.any :: r')
    | false => killM m (i + 1) r fun r' => κ (a :: r')

def lockO : Obj' → Obj'
  | .box _ cs => .box true cs
  | .arr _ t xs => .arr true t xs
  | o => o

def lockJ {R : Type} (free : List Hd) (d : Nat) : Nat → List Obj' → (List Obj' → Option R) → Option R
  | _, [], κ => κ []
  | j, o :: r, κ => match memH free (d, j) with
    | true => lockJ free d (j + 1) r fun r' => κ (o :: r')
    | false => match o with
      | .box _ cs => lockJ free d (j + 1) r fun r' => κ (.box true cs :: r')
      | .arr _ t xs => lockJ free d (j + 1) r fun r' => κ (.arr true t xs :: r')
      | .none => lockJ free d (j + 1) r fun r' => κ (.none :: r')
      | .dead => lockJ free d (j + 1) r fun r' => κ (.dead :: r')

def lockK {R : Type} (free : List Hd) : Nat → List (List Obj') → (List (List Obj') → Option R) → Option R
  | _, [], κ => κ []
  | d, [] :: r, κ => lockK free (d + 1) r fun r' => κ ([] :: r')
  | d, l :: r, κ => lockJ free d 0 l fun l' => lockK free (d + 1) r fun r' => κ (l' :: r')

inductive Ex where
  | normal
  | exit (id : Nat)
  | ret

@[reducible] def OutD (S R : Type) (b : Bool) : List (Option Nat) → Type
  | [] => match b with
    | true => R
    | false => Empty
  | _ :: r => match r, b with
    | [], false => S
    | _, _ => S ⊕ OutD S R b r

def eqON : Option Nat → Option Nat → Bool
  | none, none => true
  | some a, some b => Nat.beq a b
  | _, _ => false

def inS {S R T : Type} (b : Bool) : (l : List (Option Nat)) → Option Nat → S → (OutD S R b l → Option T) → Option T
  | [], _, _, _ => none
  | [o], e, s, κ => match b, κ with
    | false, κ => match eqON o e with
      | true => κ s
      | false => none
    | true, κ => match eqON o e with
      | true => κ (.inl s)
      | false => none
  | o :: p :: r, e, s, κ => match eqON o e with
    | true => κ (.inl s)
    | false => inS b (p :: r) e s fun x => κ (.inr x)

def inR {S R T : Type} (b : Bool) : (l : List (Option Nat)) → R → (OutD S R b l → Option T) → Option T
  | [], r, κ => match b, κ with
    | true, κ => κ r
    | false, _ => none
  | [_], r, κ => match b, κ with
    | true, κ => κ (.inr r)
    | false, _ => none
  | _ :: p :: l, r, κ => inR b (p :: l) r fun x => κ (.inr x)

def outK {S R T : Type} (b : Bool) : (l : List (Option Nat)) → OutD S R b l → (Option Nat → S → Option T) → (R → Option T) → Option T
  | [], x, _, κr => match b, x with
    | true, x => κr x
    | false, _ => none
  | [o], x, κs, κr => match b, x with
    | false, x => κs o x
    | true, .inl s => κs o s
    | true, .inr r => κr r
  | o :: p :: l, x, κs, κr => match x with
    | .inl s => κs o s
    | .inr y => outK b (p :: l) y κs κr

@[reducible] def Hint.rp (H : Hint) : List Place := H.ret.getD []
@[reducible] def Hint.D (H : Hint) : Type := OutD (PS H.out).D (PS H.rp).D H.ret.isSome H.outs

def Ex.code : Option Nat → Ex
  | none => .normal
  | some id => .exit id

def outcome {T : Type} (H : Hint) (e : Ex) (st : St) (κ : H.D → Option T) : Option T :=
  match e with
  | .normal => readPs st H.out [] fun s _ => inS H.ret.isSome H.outs none s κ
  | .exit id => readPs st H.out [] fun s _ => inS H.ret.isSome H.outs (some id) s κ
  | .ret => readPs st H.rp [] fun r _ => inR H.ret.isSome H.outs r κ

def afterO {T : Type} (H : Hint) (st : St) (o : H.D) (κ : Ex → St → Option T) : Option T :=
  outK H.ret.isSome H.outs o (fun e s => writePs st H.out s fun st => κ (Ex.code e) st) fun r => writePs st H.rp r fun st => κ .ret st

noncomputable section
open Classical in
/-- The rounds of a loop, however many. -/
def while_ {S R : Type} (body : S → Option (S ⊕ R)) (s : S) : Option R :=
  if h : ∃ r n, iter body n s = some (.inr r) then some h.choose else none
 where iter (body : S → Option (S ⊕ R)) : Nat → S → Option (S ⊕ R)
  | 0, s => some (.inl s)
  | n + 1, s => (body s).bind fun
    | .inl s' => iter body n s'
    | .inr r => some (.inr r)

def deads : List Hd → List (Hd × Obj')
  | [] => []
  | q :: r => (q, .dead) :: deads r

/-- What is freed may be turned: it is live, not locked, each once. -/
def freeOk (h : List (List Obj')) : List Hd → Bool
  | [] => true
  | q :: r => (match getO h q with
    | .box false _ => true
    | .arr false _ _ => true
    | _ => false) && !memH r q && freeOk h r

def cutK {T : Type} (H : Hint) (mask : Nat) (run : {R : Type} → St → (Ex → St → Option R) → Option R) (st : St) (κ : Ex → St → Option T) : Option T :=
  match freeOk st.h H.free with
  | true => lockK H.free 0 st.h fun h => (run (R := H.D) ⟨st.t, h⟩ fun e st2 => outcome H e st2 some).bind fun o =>
    killM mask 0 st.t fun t => putOs (deads H.free) st.h fun h => afterO H ⟨t, h⟩ o κ
  | false => none

def wrapC {T : Type} (cut : Option Hint) (c : Code) (run : {R : Type} → St → (Ex → St → Option R) → Option R) (st : St) (κ : Ex → St → Option T) : Option T :=
  match cut with
  | none => run st κ
  | some H => cutK H (maskC c 0) run st κ

def roundK (H : Hint) (run : {R : Type} → St → (Ex → St → Option R) → Option R) (base : St) (s : (PS H.out).D) : Option ((PS H.out).D ⊕ H.D) :=
  writePs base H.out s fun st1 => run st1 fun e st2 => match e with
    | .normal => readPs st2 H.out [] fun s _ => some (.inl s)
    | .exit id => outcome H (.exit id) st2 fun o => some (.inr o)
    | .ret => outcome H .ret st2 fun o => some (.inr o)

def loopK {T : Type} (H : Hint) (mask : Nat) (run : {R : Type} → St → (Ex → St → Option R) → Option R) (st : St) (κ : Ex → St → Option T) : Option T :=
  readPs st H.out [] fun s0 ws => killM mask 0 st.t fun t => putOs ws st.h fun h1 => lockK [] 0 h1 fun h2 =>
    (while_ (roundK H run ⟨t, h2⟩) s0).bind fun o => afterO H ⟨t, h1⟩ o κ

/-- The hint of a region that lends a slice in an element: the place of the load. -/
def markAt : Option Hint → Bool → Option Nat
  | some ⟨_, _, _, (k, _) :: _⟩, false => some k
  | _, _ => none

/-- The hint of a region with a call that is handed such a box: the place of the call. -/
def runAt : Bool → Option Hint → Bool → Option Nat
  | true, some ⟨_, [some k], _, []⟩, false => some k
  | _, _, _ => none

theorem runAt_draw {z : Bool} {h : Option Hint} {draw : Bool} {k : Nat} (e : runAt z h draw = some k) : draw = false ∧ z = true := by
  unfold runAt at e
  split at e
  · exact ⟨rfl, rfl⟩
  · cases e

theorem markAt_draw {h : Option Hint} {draw : Bool} {k : Nat} (e : markAt h draw = some k) : draw = false := by
  unfold markAt at e
  split at e
  · rfl
  · cases e

/-! ### An object frozen: from now on its slice is read, by whomever -/

def frz1K {R : Type} (o : Hd) (x : Leaf) (l : Leaf) (κ : Leaf → Option R) : Option R :=
  match l with
  | .own p => match Nat.beq p.1 o.1, Nat.beq p.2 o.2 with
    | true, true => κ x
    | _, _ => κ (.own p)
  | l => κ l

def frzLK {R : Type} (o : Hd) (x : Leaf) : List Leaf → (List Leaf → Option R) → Option R
  | [], κ => κ []
  | l :: r, κ => frz1K o x l fun l' => frzLK o x r fun r' => κ (l' :: r')

def frzTK {R : Type} (o : Hd) (x : Leaf) : List AV → (List AV → Option R) → Option R
  | [], κ => κ []
  | .leaf l :: r, κ => frz1K o x l fun l' => frzTK o x r fun r' => κ (.leaf l' :: r')
  | .agg cs :: r, κ => frzLK o x cs fun cs' => frzTK o x r fun r' => κ (.agg cs' :: r')
  | v :: r, κ => frzTK o x r fun r' => κ (v :: r')

def frzJK {R : Type} (o : Hd) (x : Leaf) (d : Nat) : Nat → List Obj' → (List Obj' → Option R) → Option R
  | _, [], κ => κ []
  | j, .box false cs :: r, κ => frzLK o x cs fun cs' => frzJK o x d (j + 1) r fun r' => κ (.box false cs' :: r')
  | j, .arr ro t xs :: r, κ => match Nat.beq d o.1, Nat.beq j o.2 with
    | true, true => frzJK o x d (j + 1) r fun r' => κ (.dead :: r')
    | _, _ => frzJK o x d (j + 1) r fun r' => κ (.arr ro t xs :: r')
  | j, v :: r, κ => frzJK o x d (j + 1) r fun r' => κ (v :: r')

def frzHK {R : Type} (o : Hd) (x : Leaf) : Nat → List (List Obj') → (List (List Obj') → Option R) → Option R
  | _, [], κ => κ []
  | d, l :: r, κ => frzJK o x d 0 l fun l' => frzHK o x (d + 1) r fun r' => κ (l' :: r')

def frozeK {R : Type} : List Hd → St → (St → Option R) → Option R
  | [], st, κ => κ st
  | o :: r, st, κ => match getO st.h o with
    | .arr false t xs => frzTK o (.view t xs) st.t fun t' => frzHK o (.view t xs) 0 st.h fun h' => frozeK r ⟨t', h'⟩ κ
    | _ => none

/-- What a region's hint freezes before it. -/
def frzAt : Bool → Hints → List Hd
  | true, .node (some H) _ _ _ => H.free
  | _, _ => []

/-! ### A call that is handed a box of data that own their slices -/

def flOf (q : Hd) : List (FuncId × Bool) → List Leaf
  | [] => []
  | (f, true) :: r => .fn f [q] :: flOf q r
  | (f, false) :: r => .fn f [] :: flOf q r

/-- The variable that functions in a box captured. -/
def selfHd : List Leaf → Hd
  | [] => (1000000, 0)
  | .fn _ [q] :: _ => q
  | _ :: r => selfHd r

def eqH (p q : Hd) : Bool := Nat.beq p.1 q.1 && Nat.beq p.2 q.2

def pointsTo (h : List (List Obj')) (q o : Hd) : Bool :=
  match getO h q with
  | .box _ [.box p 0] => eqH p o
  | _ => false

def runArgs {R : Type} (st : St) (via : Bool) (caps : List Hd) (vs : List AV) (κ : Hd → Hd → List AV → Option R) : Option R :=
  match via, caps, vs with
  | false, [], .leaf (.box o 0) :: vs => match getO st.h o with
    | .box false cs => κ o (selfHd cs) vs
    | _ => none
  | true, [q], vs => match getO st.h q with
    | .box _ [.box o 0] => κ o q vs
    | _ => none
  | _, _, _ => none

def resD {R : Type} (one : Bool) (d : Option Nat) (r : Ty) (z : r.D) (t : List AV) (κ : List AV → Option R) : Option R :=
  match d, one with
  | none, _ => κ t
  | some d, true => expandK r z [] fun cs => setK t d (cellsAV r cs) κ
  | some d, false => tupV r z fun vs => setK t d (.tup vs) κ

def runK {R : Type} (E : Env) (cl : Oper) (st : St) (κ : St → Option R) : Option R :=
  match cl.op, cl.guard with
  | .call c, none => match c.callee with
    | .value v => match val st v with
      | .leaf (.fn f caps) => match look E.G f with
        | some (.run t fs sf via one a r F) => runArgs st via caps (c.args.toList.map (val st)) fun o q vs =>
          match !sf || pointsTo st.h q o, r.flat with
          | true, true => readP st (.boxO o.1 o.2 0 t (flOf q fs)) [] fun x ws => packArgs E st.h a vs [] fun y os => match noHd os, hasH ws q with
            | true, false => (F x y).bind fun z => putOs ws st.h fun h => resD one cl.dst r z.1 st.t fun t' => writePs ⟨t', h⟩ [.boxO o.1 o.2 (lenO (getL h o.1)) t (flOf q fs)] z.2 κ
            | _, _ => none
          | _, _ => none
        | _ => none
      | _ => none
    | _ => none
  | _, _ => none

/-- A region in its own order, of which operation k is such a call. -/
def evRun {R : Type} (E : Env) (os : List Oper) (k : Nat) (st : St) (κ : St → Option R) : Option R :=
  evOps E (os.map (·.dst)) (os.take k) st fun st _ => match os.drop k with
  | cl :: post => runK E cl st fun st => evOps E (os.map (·.dst)) post st fun st _ => κ st
  | _ => none

def ev (E : Env) : Code → Hints → {R : Type} → St → (Ex → St → Option R) → Option R
  | .skip, _, _, st, κ => κ .normal st
  | .ret, _, _, st, κ => κ .ret st
  | .exit id, _, _, st, κ => κ (.exit id) st
  | .region id ops draw, h, _, st, κ => frozeK (frzAt E.Z h.a) st fun st => match markAt h.lp draw with
    | some k => evMark E ops.toList k st fun st => κ .normal st
    | none => match runAt E.Z h.lp draw with
      | some k => evRun E ops.toList k st fun st => κ .normal st
      | none => wrapC h.cut (.region id ops draw) (fun st κ => evRegion E ops.toList draw st fun st => κ .normal st) st κ
  | .seq a b, h, _, st, κ => wrapC h.cut (.seq a b) (fun st κ => ev E a h.a st fun e st => match e with
    | .normal => ev E b h.b st κ
    | e => κ e st) st κ
  | .cond c a b, h, _, st, κ => wrapC h.cut (.cond c a b) (fun st κ => match val st c with
    | .leaf (.bool x) => cond x (ev E a h.a st κ) (ev E b h.b st κ)
    | _ => none) st κ
  | .block id a, h, _, st, κ => wrapC h.cut (.block id a) (fun st κ => ev E a h.a st fun e st => match e with
    | .exit id' => match Nat.beq id' id with
      | true => κ .normal st
      | false => κ (.exit id') st
    | e => κ e st) st κ
  | .loop a, h, _, st, κ => match h.lp with
    | none => none
    | some H => loopK H (maskC a 0) (fun st κ => ev E a h.a st κ) st κ
  | _, _, _, _, _ => none

end
end Go.Abs

namespace Go.Abs

/-! ### A function's start and its results -/

/-- The arguments, as the call finds them. -/
def argAVs : (a : Ty) → a.D → List AV
  | .pair t r, x => expandK t x.1 [] (fun cs => cellsAV t cs) :: argAVs r x.2
  | _, _ => []

/-- What was captured: addresses of what nobody writes. -/
def capAVs : (c : Ty) → c.D → List AV
  | .pair t r, z => .leaf (.vis t z.1 0) :: capAVs r z.2
  | _, _ => []

def start (avs : List AV) (n : Nat) : St := ⟨avs ++ List.replicate (n - avs.length) .any, List.replicate n []⟩

def resVs {R : Type} (T : Tab) (st : St) : List ResultVar → (List AV → Option R) → Option R
  | [], κ => κ []
  | .tmp i :: r, κ => resVs T st r fun vs => κ (getT st.t i :: vs)
  | .cell i t :: r, κ => match look T t, getT st.t i with
    | some ti, .leaf (.box o off) => match getO st.h o with
      | .box _ cs => takeK ti.n (dropL off cs) fun cs' => wrapAV ti.k cs' fun v => resVs T st r fun vs => κ (v :: vs)
      | _ => none
    | _, _ => none

def packR {R : Type} (h : List (List Obj')) : (r : Ty) → List AV → List Hd → (r.D → List Hd → Option R) → Option R
  | .unit, [], os, κ => κ () os
  | .pair a b, v :: vs, os, κ => argK a v fun cs => packK h a cs os fun x rest os => endK rest (packR h b vs os fun y os => κ (x, y) os)
  | _, _, _, _ => none

def packRT {R : Type} (h : List (List Obj')) : (r : Ty) → List AV → List (Hd × Obj') → (r.D → List (Hd × Obj') → Option R) → Option R
  | .unit, [], ws, κ => κ () ws
  | .pair a b, v :: vs, ws, κ => argK a v fun cs => packT h a cs ws fun x rest ws => endK rest (packRT h b vs ws fun y ws => κ (x, y) ws)
  | _, _, _, _ => none

/-- The results. -/
def nvK {R : Type} (b : Bool) (k : Option R) : Option R :=
  match b with
  | true => k
  | false => none

def resK (T : Tab) (one fresh : Bool) (rvs : List ResultVar) (r : Ty) (e : Ex) (st : St) : Option r.D :=
  match e with
  | .exit _ => none
  | _ => resVs T st rvs fun vs => match one, fresh with
    | true, false => match vs with
      | [v] => argK r v fun cs => packK st.h r cs [] fun x rest _ => endK rest (some x)
      | _ => none
    | true, true => match vs with
      | [v] => argK r v fun cs => packT st.h r cs [] fun x rest _ => endK rest (nvK r.noVw (some x))
      | _ => none
    | false, false => packR st.h r vs [] fun x _ => some x
    | false, true => packRT st.h r vs [] fun x _ => nvK r.noVw (some x)

end Go.Abs
