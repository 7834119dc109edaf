/- THE EVALUATOR: abstract values, abstract states, and an evaluator of Go.Code over them, in continuation style so that the kernel reckons it fast. Nothing here speaks of memory: AbsRel and what follows do. -/
import Derived.Calls
import Derived.Laws.Sem
import Derived.KernelRfl
set_option linter.unusedVariables false
set_option linter.unusedSimpArgs false
namespace Go.Abs

/-! ### Data -/

/-- The kinds of data. A struct is a chain of pairs that ends in 'unit'. -/
inductive Ty where
  | int (k : IntKind)
  | bool
  | slice (t : Ty)
  | unit
  | pair (a b : Ty)
  | fn (a r : Ty)
  | vw (t : Ty)             -- a slice that nobody writes, among data that own theirs
  deriving DecidableEq

@[reducible] def Ty.D : Ty → Type
  | .int _ => Int
  | .bool => Bool
  | .slice t => List t.D
  | .unit => Unit
  | .pair a b => a.D × b.D
  | .fn a r => a.D → Option r.D
  | .vw t => List t.D

/-- How many cells. -/
def Ty.n : Ty → Nat
  | .int _ | .bool | .slice _ | .fn _ _ | .vw _ => 1
  | .unit => 0
  | .pair a b => a.n + b.n

/-- No slice, no function in it. -/
def Ty.flat : Ty → Bool
  | .int _ | .bool | .unit => true
  | .slice _ | .fn _ _ | .vw _ => false
  | .pair a b => a.flat && b.flat

/-- No slice of its own, no function in it. -/
def Ty.cop : Ty → Bool
  | .int _ | .bool | .unit | .vw _ => true
  | .slice _ | .fn _ _ => false
  | .pair a b => a.cop && b.cop

/-- No such slice among owned data. -/
def Ty.noVw : Ty → Bool
  | .vw _ => false
  | .slice t => t.noVw
  | .pair a b => a.noVw && b.noVw
  | _ => true

/-- All slices alike. -/
def Ty.er : Ty → Ty
  | .slice t | .vw t => .slice t.er
  | .pair a b => .pair a.er b.er
  | t => t

theorem Ty.erD : ∀ t : Ty, t.er.D = t.D
  | .int _ | .bool | .unit | .fn _ _ => rfl
  | .slice t | .vw t => congrArg List (Ty.erD t)
  | .pair a b => by show (a.er.D × b.er.D) = (a.D × b.D); rw [Ty.erD a, Ty.erD b]

def Ty.isStruct : Ty → Bool
  | .unit | .pair _ _ => true
  | _ => false

/-- The name of an object of the call's own: the temporary that was its operation's result, and a number. -/
abbrev Hd := Nat × Nat

/-- One cell's value, told abstractly. -/
inductive Leaf where
  | undef                                         -- nothing is known
  | int (k : IntKind) (n : Int)
  | bool (b : Bool)
  | nil
  | view (t : Ty) (xs : List t.D)                 -- a slice that nobody writes
  | viewN (t : Ty) (xs : List t.D)                -- one that is not nil
  | own (o : Hd)                                  -- the slice that an object is
  | part (o : Hd) (n lo hi : Nat)                 -- a part of it; n: cells of an element
  | box (o : Hd) (off : Nat)                      -- the address of a box's cell
  | elem (o : Hd) (n : Nat) (i : Nat) (off : Nat) -- the address of a cell of an object's element
  | vis (t : Ty) (x : t.D) (off : Nat)            -- the address of a cell of a datum that nobody writes
  | fn (f : FuncId) (caps : List Hd)              -- a function and the boxes that it captured
  | fnd (a r : Ty) (p : a.D → Option r.D)         -- a function value that came in

inductive AV where
  | any                                           -- nothing is known
  | skip                                          -- what an operation leaves that was not carried out
  | leaf (l : Leaf)
  | agg (cs : List Leaf)
  | tup (vs : List (Bool × List Leaf))      -- each: is it an aggregate; its cells

/-- What a block of the call's own holds. 'ro': it is not written for now. The slices in an array's elements are its own. -/
inductive Obj' where
  | none
  | dead
  | box (ro : Bool) (cs : List Leaf)
  | arr (ro : Bool) (t : Ty) (xs : List t.D)

structure St where
  t : List AV
  h : List (List Obj')

/-- What an operation does: its result, what it looked at, what it wrote, what it made at its result's site. -/
structure Dl where
  v : AV
  rd : List Hd := []
  wr : List (Hd × Obj') := []
  new : List Obj' := []

/-! ### The tables -/

inductive TK where
  | int (k : IntKind)
  | bool
  | slice (e : Nat)
  | struct (fs : List (Nat × Nat))        -- offset, type
  | other

structure TI where
  k : TK
  n : Nat
  bytes : Nat
  ty : Ty
  zero : List Leaf

abbrev Tab := List (Nat × TI)

/-- How an argument is handed on: read; nil; lent, with what it owns; given away; a pointer to a box. -/
inductive Md where
  | rd
  | nil
  | lent
  | tk
  | ptr

/-- What comes back of the arguments. -/
@[reducible] def outTy : List Md → Ty → Ty
  | .lent :: ms, .pair t a => .pair t (outTy ms a)
  | .ptr :: ms, .pair t a => .pair t (outTy ms a)
  | .rd :: ms, .pair _ a => outTy ms a
  | .nil :: ms, .pair _ a => outTy ms a
  | .tk :: ms, .pair _ a => outTy ms a
  | _, _ => .unit

/-- What is known of a function. -/
inductive Ct where
  | pure (one : Bool) (fresh : Bool) (a r : Ty) (F : a.D → Option r.D)
  | clo (a c r : Ty) (F : c.D → a.D → Option r.D)
  | box (a t : Ty) (F : a.D → Option t.D)
  | mut (ms : List Md) (one fr : Bool) (a r : Ty) (F : a.D → Option (r.D × (outTy ms a).D))
  -- a pointer to a box of data that own their slices, behind which lie functions; 'sf': some capture a variable that holds this pointer; 'via': the pointer comes as that captured variable
  | run (t : Ty) (fs : List (FuncId × Bool)) (sf via one : Bool) (a r : Ty) (F : t.D → a.D → Option (r.D × t.D))

structure Env where
  T : Tab
  G : List (Nat × Ct)
  V : List Nat := []        -- the literals of slices that nobody writes
  Z : Bool := false         -- may objects be frozen

def look {α : Type} : List (Nat × α) → Nat → Option α
  | [], _ => .none
  | (k, a) :: r, i => match Nat.beq k i with
    | true => some a
    | false => look r i

/-! ### States -/

def getT : List AV → Nat → AV
  | [], _ => .any
  | a :: _, 0 => a
  | _ :: r, n + 1 => getT r n

/-- Set, and go on with the whole list laid out. -/
def setK {α R : Type} : List α → Nat → α → (List α → Option R) → Option R
  | [], _, _, κ => κ []
  | _ :: r, 0, v, κ => κ (v :: r)
  | a :: r, n + 1, v, κ => setK r n v fun r' => κ (a :: r')

def getJ : List Obj' → Nat → Obj'
  | [], _ => .none
  | o :: _, 0 => o
  | _ :: r, n + 1 => getJ r n

def getL : List (List Obj') → Nat → List Obj'
  | [], _ => []
  | l :: _, 0 => l
  | _ :: r, n + 1 => getL r n

def getO (h : List (List Obj')) (o : Hd) : Obj' := getJ (getL h o.1) o.2

def putO {R : Type} (h : List (List Obj')) (o : Hd) (x : Obj') (κ : List (List Obj') → Option R) : Option R :=
  setK (getL h o.1) o.2 x fun l => setK h o.1 l κ

def putOs {R : Type} : List (Hd × Obj') → List (List Obj') → (List (List Obj') → Option R) → Option R
  | [], h, κ => κ h
  | (o, x) :: r, h, κ => putO h o x fun h' => putOs r h' κ

/-- Lay an operation's doings over a state. -/
def app {R : Type} (d : Option Nat) (δ : Dl) (st : St) (κ : St → Option R) : Option R :=
  putOs δ.wr st.h fun h => match d with
  | none => match δ.new with
    | [] => κ { st with h }
    | _ => none
  | some d => match δ.new with
    | [] => setK st.t d δ.v fun t => κ ⟨t, h⟩
    | new => match getL h d with
      | [] => setK h d new fun h => setK st.t d δ.v fun t => κ ⟨t, h⟩
      | _ => none

/-! ### Cells -/

/-- A datum's cells. -/
def expandK {R : Type} : (t : Ty) → t.D → List Leaf → (List Leaf → R) → R
  | .int k, n, r, κ => κ (.int k n :: r)
  | .bool, b, r, κ => κ (.bool b :: r)
  | .slice t, xs, r, κ => κ (.view t xs :: r)
  | .unit, _, r, κ => κ r
  | .pair a b, x, r, κ => expandK b x.2 r fun r' => expandK a x.1 r' κ
  | .fn a b, p, r, κ => κ (.fnd a b p :: r)
  | .vw t, xs, r, κ => κ (.view t xs :: r)

def castK {R : Type} (t t' : Ty) (x : t.D) (κ : t'.D → Option R) : Option R :=
  if h : t = t' then κ (h ▸ x) else none

/-- A list read as one of another kind of slices. -/
def castS {R : Type} (t t' : Ty) (xs : List t.D) (κ : List t'.D → Option R) : Option R :=
  if h : t = t' then κ (h ▸ xs) else if h : t.er = t'.er then κ (cast (congrArg List ((Ty.erD t).symm.trans ((congrArg Ty.D h).trans (Ty.erD t')))) xs) else none

/-- The slice that a cell is, as a list; which object it leans on. -/
def sliceK {R : Type} (h : List (List Obj')) (t : Ty) (l : Leaf) (κ : List t.D → List Hd → Option R) : Option R :=
  match l with
  | .nil => κ [] []
  | .view t' xs => castS t' t xs fun x => κ x []
  | .viewN t' xs => castS t' t xs fun x => κ x []
  | .own o => match getO h o with
    | .arr _ t' xs => castS t' t xs fun x => κ x [o]
    | _ => none
  | .part o n lo hi => match getO h o, Nat.beq n t.n with
    | .arr _ t' xs, true => castS t' t ((xs.take hi).drop lo) fun x => κ x [o]
    | _, _ => none
  | _ => none

/-- A datum out of cells, looked at; what is left goes on. -/
def packK {R : Type} (h : List (List Obj')) : (t : Ty) → List Leaf → List Hd → (t.D → List Leaf → List Hd → Option R) → Option R
  | .int k, .int k' n :: r, os, κ => if k = k' then κ n r os else none
  | .bool, .bool b :: r, os, κ => κ b r os
  | .slice t, l :: r, os, κ => sliceK h t l fun xs us => κ xs r (us ++ os)
  | .unit, r, os, κ => κ () r os
  | .pair a b, cs, os, κ => packK h a cs os fun x r os => packK h b r os fun y r' os => κ (x, y) r' os
  | .fn a b, .fnd a' b' p :: r, os, κ => castK (.fn a' b') (.fn a b) p fun x => κ x r os
  | .vw t, l :: r, os, κ => sliceK h t l fun xs us => κ xs r (us ++ os)
  | _, _, _, _ => none

/-- Is an object among these. -/
def hasH : List (Hd × Obj') → Hd → Bool
  | [], _ => false
  | ((d, j), _) :: r, o => match Nat.beq d o.1, Nat.beq j o.2 with
    | true, true => true
    | _, _ => hasH r o

/-- The slice that a cell is, taken: the object that it was is dead behind it. -/
def takeSK {R : Type} (h : List (List Obj')) (t : Ty) (l : Leaf) (ws : List (Hd × Obj')) (κ : List t.D → List (Hd × Obj') → Option R) : Option R :=
  match l with
  | .nil => κ [] ws
  | .own o => match getO h o, hasH ws o with
    | .arr false t' xs, false => castK (.slice t') (.slice t) xs fun x => κ x ((o, .dead) :: ws)
    | _, _ => none
  | .part o _ 0 hi => match getO h o, hasH ws o with
    | .arr false t' xs, false => castK (.slice t') (.slice t) (xs.take hi) fun x => κ x ((o, .dead) :: ws)
    | _, _ => none
  | _ => none

/-- A slice that nobody writes. -/
def viewSK {R : Type} (t : Ty) (l : Leaf) (κ : List t.D → Option R) : Option R :=
  match l with
  | .nil => κ []
  | .view t' xs => castS t' t xs κ
  | .viewN t' xs => castS t' t xs κ
  | _ => none

/-- A datum out of cells, taken. -/
def packT {R : Type} (h : List (List Obj')) : (t : Ty) → List Leaf → List (Hd × Obj') → (t.D → List Leaf → List (Hd × Obj') → Option R) → Option R
  | .int k, .int k' n :: r, ws, κ => if k = k' then κ n r ws else none
  | .bool, .bool b :: r, ws, κ => κ b r ws
  | .slice t, l :: r, ws, κ => takeSK h t l ws fun xs ws => κ xs r ws
  | .unit, r, ws, κ => κ () r ws
  | .pair a b, cs, ws, κ => packT h a cs ws fun x r ws => packT h b r ws fun y r' ws => κ (x, y) r' ws
  | .vw t, l :: r, ws, κ => viewSK t l fun xs => κ xs r ws
  | _, _, _, _ => none

/-- The objects that such writes look at. -/
def keysOf : List (Hd × Obj') → List Hd
  | [] => []
  | (o, _) :: r => o :: keysOf r

/-- A value's cells, if it is one value. -/
def cellsK {R : Type} (v : AV) (κ : List Leaf → Option R) : Option R :=
  match v with
  | .leaf l => κ [l]
  | .agg cs => κ cs
  | _ => none

def constLeaf : Value → Leaf
  | .int k n => .int k n
  | .bool b => .bool b
  | .slice none 0 0 => .nil
  | _ => .undef

def oneCells : List Value → Bool
  | [] => true
  | v :: r => v.oneCell' && oneCells r

def constAV : Value → AV
  | .agg cs => match oneCells cs.toList with
    | true => .agg (cs.toList.map constLeaf)
    | false => .any
  | .tuple _ => .any
  | v => .leaf (constLeaf v)

def val (st : St) : Operand → AV
  | .tmp i => getT st.t i
  | .const v => constAV v
  | .global _ => .any
  | .func f => .leaf (.fn f [])

def takeK {R : Type} : Nat → List Leaf → (List Leaf → Option R) → Option R
  | 0, _, κ => κ []
  | n + 1, a :: r, κ => takeK n r fun r' => κ (a :: r')
  | _ + 1, [], _ => none

def dropL : Nat → List Leaf → List Leaf
  | 0, l => l
  | _ + 1, [] => []
  | n + 1, _ :: r => dropL n r

/-- Lay cells over those from a place on. -/
def overK {R : Type} : Nat → List Leaf → List Leaf → (List Leaf → Option R) → Option R
  | 0, [], r, κ => κ r
  | 0, _ :: _, [], _ => none
  | 0, c :: cs, _ :: r, κ => overK 0 cs r fun r' => κ (c :: r')
  | _ + 1, _, [], _ => none
  | n + 1, cs, a :: r, κ => overK n cs r fun r' => κ (a :: r')

def wrapAV {R : Type} (k : TK) (cs : List Leaf) (κ : AV → Option R) : Option R :=
  match k with
  | .struct _ => κ (.agg cs)
  | _ => match cs with
    | [l] => κ (.leaf l)
    | _ => none

def cellsAV (t : Ty) (cs : List Leaf) : AV :=
  match t.isStruct, cs with
  | false, [l] => .leaf l
  | _, cs => .agg cs

/-- Element i of a list, in Go's own numbers. -/
def idx {α R : Type} (xs : List α) (i : Int) (κ : α → Option R) : Option R :=
  if 0 ≤ i then xs[i.toNat]?.bind κ else none

/-- One number or bool of a datum turned. -/
def updK {R : Type} : (t : Ty) → t.D → Nat → Leaf → (t.D → Option R) → Option R
  | .int k, _, 0, .int k' n, κ => if k = k' then κ n else none
  | .bool, _, 0, .bool b, κ => κ b
  | .pair a b, x, off, l, κ => match Nat.ble a.n off with
    | true => updK b x.2 (off - a.n) l fun y => κ (x.1, y)
    | false => updK a x.1 off l fun y => κ (y, x.2)
  | _, _, _, _, _ => none

/-- Several cells that are numbers and bools turned. -/
def updsK {R : Type} (t : Ty) : t.D → Nat → List Leaf → (t.D → Option R) → Option R
  | x, _, [], κ => κ x
  | x, off, l :: r, κ => updK t x off l fun y => updsK t y (off + 1) r κ

/-- The slice that a cell of a datum is. -/
def getS {R : Type} : (t : Ty) → t.D → Nat → (u : Ty) → (List u.D → Option R) → Option R
  | .slice t, xs, 0, u, κ => castK (.slice t) (.slice u) xs κ
  | .pair a b, x, off, u, κ => match Nat.ble a.n off with
    | true => getS b x.2 (off - a.n) u κ
    | false => getS a x.1 off u κ
  | _, _, _, _, _ => none

/-- That slice, turned. -/
def updS {R : Type} : (t : Ty) → t.D → Nat → (u : Ty) → List u.D → (t.D → Option R) → Option R
  | .slice t, _, 0, u, ys, κ => castK (.slice u) (.slice t) ys κ
  | .pair a b, x, off, u, ys, κ => match Nat.ble a.n off with
    | true => updS b x.2 (off - a.n) u ys fun y => κ (x.1, y)
    | false => updS a x.1 off u ys fun y => κ (y, x.2)
  | _, _, _, _, _, _ => none

/-- Numbers and bools alone. -/
def flatLs : List Leaf → Bool
  | [] => true
  | .int _ _ :: r | .bool _ :: r => flatLs r
  | _ => false

def loadK {R : Type} (st : St) (ti : TI) (p : AV) (κ : Dl → Option R) : Option R :=
  match p with
  | .leaf (.box o off) => match getO st.h o with
    | .box _ cs => takeK ti.n (dropL off cs) fun cs' => wrapAV ti.k cs' fun v => κ { v, rd := [o] }
    | _ => none
  | .leaf (.vis t x off) => expandK t x [] fun cs => takeK ti.n (dropL off cs) fun cs' => wrapAV ti.k cs' fun v => κ { v }
  | .leaf (.elem o n i off) => match getO st.h o with
    | .arr _ t xs => xs[i]?.bind fun x => expandK t x [] fun cs => takeK ti.n (dropL off cs) fun cs' => match flatLs cs', Nat.beq n t.n with
      | true, true => wrapAV ti.k cs' fun v => κ { v, rd := [o] }
      | _, _ => none
    | _ => none
  | _ => none

def storeK {R : Type} (st : St) (p : AV) (v : List Leaf) (κ : Dl → Option R) : Option R :=
  match p with
  | .leaf (.box o off) => match getO st.h o with
    | .box false cs => overK off v cs fun cs' => κ { v := .any, rd := [o], wr := [(o, .box false cs')] }
    | _ => none
  | .leaf (.elem o n i off) => match getO st.h o, Nat.beq n (match getO st.h o with | .arr _ t _ => t.n | _ => 0) with
    | .arr false t xs, true => xs[i]?.bind fun x => match off, v, Nat.beq v.length t.n with
      | 0, v, true => packT st.h t v [] fun y r ws => match r, hasH ws o with
        | [], false => κ { v := .any, rd := o :: keysOf ws, wr := (o, .arr false t (xs.set i y)) :: ws }
        | _, _ => none
      | off, l :: v, false => updsK t x off (l :: v) fun y => κ { v := .any, rd := [o], wr := [(o, .arr false t (xs.set i y))] }
      | _, _, _ => none
    | _, _ => none
  | _ => none

def binInt (op : BinOp) (k : IntKind) (a b : Int) : Option Leaf :=
  match op with
  | .add => some (.int k (k.wrap (a + b)))
  | .sub => some (.int k (k.wrap (a - b)))
  | .mul => some (.int k (k.wrap (a * b)))
  | .and => some (.int k (k.wrap (BitVec.ofInt k.bits a &&& BitVec.ofInt k.bits b).toNat))
  | .or => some (.int k (k.wrap (BitVec.ofInt k.bits a ||| BitVec.ofInt k.bits b).toNat))
  | .xor => some (.int k (k.wrap (BitVec.ofInt k.bits a ^^^ BitVec.ofInt k.bits b).toNat))
  | .eql => some (.bool (a == b))
  | .neq => some (.bool (a != b))
  | .lss => some (.bool (decide (a < b)))
  | .leq => some (.bool (decide (a ≤ b)))
  | .gtr => some (.bool (decide (a > b)))
  | .geq => some (.bool (decide (a ≥ b)))
  | _ => none

def binBool (op : BinOp) (a b : Bool) : Option Leaf :=
  match op with
  | .eql => some (.bool (a == b))
  | .neq => some (.bool (a != b))
  | _ => none

def takeL : Nat → List Leaf → List Leaf
  | 0, _ => []
  | _ + 1, [] => []
  | n + 1, a :: r => a :: takeL n r

mutual
/-- Are two values of a type alike: numbers, bools, structs of these. -/
def eqTy (T : Tab) : Nat → Nat → List Leaf → List Leaf → Option Bool
  | 0, _, _, _ => none
  | f + 1, t, cs, ds => match look T t with
    | some ti => match ti.k, cs, ds with
      | .int _, [.int k a], [.int k' b] => if k = k' then some (a == b) else none
      | .bool, [.bool a], [.bool b] => some (a == b)
      | .struct fs, cs, ds => eqFs T f fs cs ds
      | _, _, _ => none
    | none => none
def eqFs (T : Tab) : Nat → List (Nat × Nat) → List Leaf → List Leaf → Option Bool
  | _, [], _, _ => some true
  | 0, _ :: _, _, _ => none
  | f + 1, (off, t) :: fs, cs, ds => match look T t with
    | some ti => match eqTy T f t (takeL ti.n (dropL off cs)) (takeL ti.n (dropL off ds)), eqFs T f fs cs ds with
      | some a, some b => some (a && b)
      | _, _ => none
    | none => none
end

/-- Results that are views. -/
def tupV {R : Type} : (t : Ty) → t.D → (List (Bool × List Leaf) → R) → R
  | .pair a b, x, κ => expandK a x.1 [] fun cs => tupV b x.2 fun r => κ ((a.isStruct, cs) :: r)
  | _, _, κ => κ []

def lenO : List Obj' → Nat
  | [] => 0
  | _ :: r => lenO r + 1

def snocO {R : Type} : List Obj' → Obj' → (List Obj' → R) → R
  | [], o, κ => κ [o]
  | a :: r, o, κ => snocO r o fun r' => κ (a :: r')

def catK {R : Type} : List Leaf → List Leaf → (List Leaf → R) → R
  | [], l, κ => κ l
  | a :: r, l, κ => catK r l fun r' => κ (a :: r')

/-- Cells of a datum that is new: its slices are objects at the site d. -/
def freshK {R : Type} (d : Nat) : (t : Ty) → t.D → List Obj' → (List Leaf → List Obj' → R) → R
  | .int k, n, os, κ => κ [.int k n] os
  | .bool, b, os, κ => κ [.bool b] os
  | .slice t, xs, os, κ => snocO os (.arr false t xs) fun os' => κ [.own (d, lenO os)] os'
  | .unit, _, os, κ => κ [] os
  | .pair a b, x, os, κ => freshK d a x.1 os fun ca os => freshK d b x.2 os fun cb os => catK ca cb fun cs => κ cs os
  | .fn a b, p, os, κ => κ [.fnd a b p] os
  | .vw t, xs, os, κ => κ [.view t xs] os

def tupF {R : Type} (d : Nat) : (t : Ty) → t.D → List Obj' → (List (Bool × List Leaf) → List Obj' → R) → R
  | .pair a b, x, os, κ => freshK d a x.1 os fun cs os => tupF d b x.2 os fun r os => κ ((a.isStruct, cs) :: r) os
  | _, _, os, κ => κ [] os

/-- An argument's cells: an aggregate where the parameter is a struct. -/
def argK {R : Type} (t : Ty) (v : AV) (κ : List Leaf → Option R) : Option R :=
  match t.isStruct, v with
  | true, .agg cs => κ cs
  | false, .leaf l => κ [l]
  | _, _ => none

/-- Is there no object. -/
def noHd : List Hd → Bool
  | [] => true
  | _ => false

/-- A function value that is no datum is turned into one by what is known of its function. -/
def packF {R : Type} (E : Env) (h : List (List Obj')) : (c : Ty) → List Leaf → List Hd → (c.D → List Leaf → List Hd → Option R) → Option R
  | .fn a r, [.fn f []], os, κ => match look E.G f with
    | some (.pure true _ a' r' F) => match r'.flat with
      | true => castK (.fn a' r') (.fn a r) F fun p => κ p [] os
      | false => none
    | _ => none
  | c, ls, os, κ => packK h c ls os κ

def packCaps {R : Type} (E : Env) (h : List (List Obj')) : (c : Ty) → List Hd → List Hd → (c.D → List Hd → Option R) → Option R
  | .unit, [], os, κ => κ () os
  | .pair a b, o :: cs, os, κ => match getO h o with
    | .box _ ls => packF E h a ls (o :: os) fun x r os => match r with
      | [] => packCaps E h b cs os fun q os => κ (x, q) os
      | _ => none
    | _ => none
  | _, _, _, _ => none

def endK {α R : Type} (r : List α) (k : Option R) : Option R :=
  match r with
  | [] => k
  | _ => none

/-- The arguments of a call, as data. -/
def packArgs {R : Type} (E : Env) (h : List (List Obj')) : (a : Ty) → List AV → List Hd → (a.D → List Hd → Option R) → Option R
  | .unit, [], os, κ => κ () os
  | .pair (.fn a r) b, .leaf (.fn f caps) :: vs, os, κ => match look E.G f with
    | some (.clo a' c r' F) => packCaps E h c caps os fun y os => castK (.fn a' r') (.fn a r) (F y) fun p => packArgs E h b vs os fun q os => κ (p, q) os
    | some (.pure true _ a' r' F) => match r'.flat && noHd caps with
      | true => castK (.fn a' r') (.fn a r) F fun p => packArgs E h b vs os fun q os => κ (p, q) os
      | false => none
    | _ => none
  | .pair a b, v :: vs, os, κ => argK a v fun cs => packK h a cs os fun x r os => endK r (packArgs E h b vs os fun q os => κ (x, q) os)
  | _, _, _, _ => none

/-- A datum that owns its slices, out of cells that name objects. -/
def ownK {R : Type} (h : List (List Obj')) : (t : Ty) → List Leaf → (t.D → List Leaf → Option R) → Option R
  | .int k, .int k' n :: r, κ => if k = k' then κ n r else none
  | .bool, .bool b :: r, κ => κ b r
  | .slice t, .nil :: r, κ => κ [] r
  | .slice t, .own o :: r, κ => match getO h o with
    | .arr false t' xs => castK (.slice t') (.slice t) xs fun x => κ x r
    | _ => none
  | .unit, r, κ => κ () r
  | .pair a b, cs, κ => ownK h a cs fun x r => ownK h b r fun y r' => κ (x, y) r'
  | .vw t, l :: r, κ => viewSK t l fun xs => κ xs r
  | _, _, _ => none

def lsHdsK : List Leaf → List Hd
  | [] => []
  | .own o :: r => o :: lsHdsK r
  | _ :: r => lsHdsK r

/-- The arguments of a call that writes: what is read leans on these objects; these are handed over. -/
def packM {R : Type} (E : Env) (h : List (List Obj')) : (ms : List Md) → (a : Ty) → List AV → List Hd → List Hd → (a.D → List Hd → List Hd → Option R) → Option R
  | [], .unit, [], os, ks, κ => κ () os ks
  | .rd :: ms, .pair t a, v :: vs, os, ks, κ => packArgs E h (.pair t .unit) [v] os fun x os => packM E h ms a vs os ks fun y os ks => κ (x.1, y) os ks
  | .nil :: ms, .pair .unit a, .leaf .nil :: vs, os, ks, κ => packM E h ms a vs os ks fun y os ks => κ ((), y) os ks
  | .lent :: ms, .pair t a, v :: vs, os, ks, κ => argK t v fun cs => ownK h t cs fun x r => endK r (packM E h ms a vs os (ks ++ lsHdsK cs) fun y os ks => κ (x, y) os ks)
  | .tk :: ms, .pair t a, v :: vs, os, ks, κ => argK t v fun cs => ownK h t cs fun x r => endK r (packM E h ms a vs os (ks ++ lsHdsK cs) fun y os ks => κ (x, y) os ks)
  | .ptr :: ms, .pair t a, .leaf (.box o 0) :: vs, os, ks, κ => match getO h o with
    | .box false cs => packK h t cs [] fun x r us => match r, us with
      | [], [] => packM E h ms a vs os (ks ++ [o]) fun y os ks => κ (x, y) os ks
      | _, _ => none
    | _ => none
  | _, _, _, _, _, _ => none

/-- What is laid back into the objects that a datum was made of. -/
def giveK {R : Type} : (t : Ty) → t.D → List Leaf → (List Leaf → List (Hd × Obj') → R) → R
  | .slice t, z, .own o :: r, κ => κ r [(o, .arr false t z)]
  | .slice _, _, _ :: r, κ => κ r []
  | .int _, _, _ :: r, κ => κ r []
  | .bool, _, _ :: r, κ => κ r []
  | .vw _, _, _ :: r, κ => κ r []
  | .pair a b, z, cs, κ => giveK a z.1 cs fun r w1 => giveK b z.2 r fun r w2 => κ r (w1 ++ w2)
  | _, _, r, κ => κ r []

def deadsK : List Hd → List (Hd × Obj')
  | [] => []
  | q :: r => (q, .dead) :: deadsK r

def backM {R : Type} : (ms : List Md) → (a : Ty) → List AV → (outTy ms a).D → (List (Hd × Obj') → Option R) → Option R
  | .lent :: ms, .pair t a, v :: vs, z, κ => argK t v fun cs => giveK t z.1 cs fun _ w1 => backM ms a vs z.2 fun w2 => κ (w1 ++ w2)
  | .tk :: ms, .pair t a, v :: vs, z, κ => argK t v fun cs => backM ms a vs z fun w2 => κ (deadsK (lsHdsK cs) ++ w2)
  | .ptr :: ms, .pair t a, .leaf (.box o _) :: vs, z, κ => expandK t z.1 [] fun cs => backM ms a vs z.2 fun w2 => κ ((o, .box false cs) :: w2)
  | .rd :: ms, .pair _ a, _ :: vs, z, κ => backM ms a vs z κ
  | .nil :: ms, .pair _ a, _ :: vs, z, κ => backM ms a vs z κ
  | [], .unit, [], _, κ => κ []
  | _, _, _, _, _ => none

def memH : List Hd → Hd → Bool
  | [], _ => false
  | (d, j) :: r, o => match Nat.beq d o.1, Nat.beq j o.2 with
    | true, true => true
    | _, _ => memH r o

def nodupH : List Hd → Bool
  | [] => true
  | q :: r => !memH r q && nodupH r

def disjH : List Hd → List Hd → Bool
  | [], _ => true
  | q :: r, l => !memH l q && disjH r l

def noPtr : List Md → Bool
  | [] => true
  | .ptr :: _ => false
  | _ :: r => noPtr r

/-- What is lent owns all its slices. -/
def noVwM : List Md → Ty → Bool
  | .lent :: ms, .pair t a => t.noVw && noVwM ms a
  | .rd :: ms, .pair _ a => noVwM ms a
  | .nil :: ms, .pair _ a => noVwM ms a
  | .tk :: ms, .pair _ a => noVwM ms a
  | .ptr :: ms, .pair _ a => noVwM ms a
  | _, _ => true

def noOwn : List Md → Bool
  | [] => true
  | .lent :: _ => false
  | .tk :: _ => false
  | _ :: r => noOwn r

def endM {R : Type} (d : Option Nat) (one fr : Bool) (r : Ty) (y : r.D) (rd : List Hd) (ws : List (Hd × Obj')) (κ : Dl → Option R) : Option R :=
  match fr, one with
  | false, true => expandK r y [] fun cs => κ { v := cellsAV r cs, rd, wr := ws }
  | false, false => tupV r y fun vs => κ { v := .tup vs, rd, wr := ws }
  | true, true => match d with
    | some d => freshK d r y [] fun cs new => κ { v := cellsAV r cs, rd, wr := ws, new }
    | none => none
  | true, false => match d with
    | some d => tupF d r y [] fun vs new => κ { v := .tup vs, rd, wr := ws, new }
    | none => match r with
      | .unit => κ { v := .any, rd, wr := ws }
      | _ => none

def callM {R : Type} (E : Env) (st : St) (d : Option Nat) (ms : List Md) (one fr : Bool) (a r : Ty) (F : a.D → Option (r.D × (outTy ms a).D)) (args : List AV) (κ : Dl → Option R) : Option R :=
  packM E st.h ms a args [] [] fun x os ks => match nodupH ks && disjH ks os && (noHd os || (noPtr ms && fr && noVwM ms a && r.noVw)) with
    | true => (F x).bind fun y => backM ms a args y.2 fun ws => endM d one fr r y.1 (os ++ ks) ws κ
    | false => none

def callK {R : Type} (E : Env) (st : St) (d : Option Nat) (f : Nat) (args : List AV) (κ : Dl → Option R) : Option R :=
  match look E.G f with
  | some (.mut ms one fr a r F) => callM E st d ms one fr a r F args κ
  | some (.box a t F) => packArgs E st.h a args [] fun x os => match noHd os, d with
    | true, some d => (F x).bind fun y => expandK t y [] fun cs => κ { v := .leaf (.box (d, 0) 0), new := [.box false cs] }
    | _, _ => none
  | some (.pure one fr a r F) => packArgs E st.h a args [] fun x os => (F x).bind fun y =>
    match fr, one, d with
    | false, true, _ => match r.flat || noHd os with
      | true => expandK r y [] fun cs => κ { v := cellsAV r cs, rd := os }
      | false => none
    | false, false, _ => match r.flat || noHd os with
      | true => tupV r y fun vs => κ { v := .tup vs, rd := os }
      | false => none
    | true, true, some d => freshK d r y [] fun cs new => match new with
      | [] => none
      | n0 :: ns => κ { v := cellsAV r cs, rd := os, new := n0 :: ns }
    | true, false, some d => tupF d r y [] fun vs new => match new with
      | [] => none
      | n0 :: ns => κ { v := .tup vs, rd := os, new := n0 :: ns }
    | _, _, _ => none
  | _ => none

def fillK {R : Type} (T : Tab) (fs : List (Nat × Nat)) (st : St) : List (Nat × Operand) → List Leaf → (List Leaf → Option R) → Option R
  | [], cs, κ => κ cs
  | (i, x) :: r, cs, κ => match fs[i]? with
    | some (off, t) => match look T t with
      | some te => cellsK (val st x) fun ls => match Nat.beq te.n ls.length with
        | true => overK off ls cs fun cs' => fillK T fs st r cs' κ
        | false => none
      | none => none
    | none => none

/-- Is a type a slice's, and of which elements. -/
def elemT (T : Tab) (t : Nat) : Option Ty :=
  match look T t with
  | some ti => match ti.k, ti.ty with
    | .slice _, .slice t' => some t'
    | _, _ => none
  | none => none

/-- Elements of a slice's literal, one behind the other. -/
def elemsK {R : Type} (t : Ty) (st : St) : List (Nat × Operand) → Nat → Nat → List (Hd × Obj') → (List t.D → List (Hd × Obj') → Option R) → Option R
  | [], i, n, ws, κ => match Nat.beq i n with
    | true => κ [] ws
    | false => none
  | (j, x) :: r, i, n, ws, κ => match Nat.beq i j with
    | true => cellsK (val st x) fun cs => packT st.h t cs ws fun y q ws => match q with
      | [] => elemsK t st r (i + 1) n ws fun xs ws => κ (y :: xs) ws
      | _ => none
    | false => none

/-- Elements of a slice's literal that nobody writes. -/
def viewsK {R : Type} (t : Ty) (st : St) : List (Nat × Operand) → Nat → Nat → (List t.D → Option R) → Option R
  | [], i, n, κ => match Nat.beq i n with
    | true => κ []
    | false => none
  | (j, x) :: r, i, n, κ => match Nat.beq i j with
    | true => cellsK (val st x) fun cs => packK st.h t cs [] fun y q us => match q, us with
      | [], [] => viewsK t st r (i + 1) n fun xs => κ (y :: xs)
      | _, _ => none
    | false => none

def memN : List Nat → Nat → Bool
  | [], _ => false
  | a :: r, b => Nat.beq a b || memN r b

/-- More than so many bytes are never made (the model's own bound lies far beyond). -/
def room : Nat := 2 ^ 40

/-- A part of the same object. -/
def sameP (o : Hd) (n : Nat) : Leaf → Option (Nat × Nat)
  | .part o' n' lo hi => match Nat.beq o.1 o'.1, Nat.beq o.2 o'.2, Nat.beq n n' with
    | true, true, true => some (lo, hi)
    | _, _, _ => none
  | _ => none

noncomputable section
open Classical in
/-- Whatever the unknown is. -/
def unk {α R : Type} (P : α → Prop) (f : α → Option R) : Option R :=
  if h : ∃ r, ∀ a, P a → f a = some r then some h.choose else none

def growK {R : Type} (st : St) (d : Nat) (t : Ty) (x : Leaf) (xs : List t.D) (ws : List (Hd × Obj')) (κ : Dl → Option R) : Option R :=
  match t.flat with
  | true => sliceK st.h t x fun ys us =>
    if (xs.length + ys.length) * (24 * t.n) ≤ room then κ { v := .leaf (.own (d, 0)), rd := us ++ keysOf ws, wr := ws, new := [.arr false t (xs ++ ys)] } else none
  | false => match t.cop with
    | true => viewSK t x fun ys =>
      if (xs.length + ys.length) * (24 * t.n) ≤ room then κ { v := .leaf (.own (d, 0)), rd := keysOf ws, wr := ws, new := [.arr false t (xs ++ ys)] } else none
    | false => takeSK st.h t x ws fun ys ws =>
      if (xs.length + ys.length) * (24 * t.n) ≤ room then κ { v := .leaf (.own (d, 0)), rd := keysOf ws, wr := ws, new := [.arr false t (xs ++ ys)] } else none

def appendK {R : Type} (E : Env) (st : St) (d : Option Nat) (T : Nat) (s x : Leaf) (κ : Dl → Option R) : Option R :=
  match elemT E.T T, d with
  | some t, some d => match s with
    | .nil => growK st d t x [] [] κ
    | .own o => match getO st.h o with
      | .arr false t' xs => castK (.slice t') (.slice t) xs fun xs => growK st d t x xs [(o, .dead)] κ
      | _ => none
    | .part o n 0 hi => match getO st.h o with
      | .arr false t' xs => castK (.slice t') (.slice t) xs fun xs => match sameP o n x, t.flat && Nat.beq n t.n with
        | some (l, u), true => if l ≤ u then (if hi + (u - l) ≤ xs.length then
            κ { v := .leaf (.part o t.n 0 (hi + (u - l))), rd := [o], wr := [(o, .arr false t (xs.take hi ++ (xs.take u).drop l ++ xs.drop (hi + (u - l))))] } else none) else none
        | some _, false => none
        | none, _ => growK st d t x (xs.take hi) [(o, .dead)] κ
      | _ => none
    | _ => none
  | _, _ => none

def tmpEq : Operand → Operand → Bool
  | .tmp i, .tmp j => Nat.beq i j
  | _, _ => false

/-- What is known of a slice type's elements. -/
def elemTI (T : Tab) (t : Nat) : Option TI :=
  match look T t with
  | some ti => match ti.k with
    | .slice e => look T e
    | _ => none
  | none => none

def makeK {R : Type} (E : Env) (st : St) (d : Option Nat) (T : Nat) (x y : Operand) (κ : Dl → Option R) : Option R :=
  match elemT E.T T, elemTI E.T T, d, tmpEq x y, val st x with
  | some t, some te, some d, true, .leaf (.int _ n) => packT st.h t te.zero [] fun z r ws => match r, ws with
    | [], [] => if 0 ≤ n then (if n.toNat * (24 * t.n) ≤ room then κ { v := .leaf (.own (d, 0)), new := [.arr false t (List.replicate n.toNat z)] } else none) else none
    | _, _ => none
  | _, _, _, _, _ => none

/-- Zeros laid behind nothing. -/
def zerosK {R : Type} (E : Env) (st : St) (d : Option Nat) (T T' : Nat) (s x : Leaf) (κ : Dl → Option R) : Option R :=
  match s, x, elemT E.T T, elemTI E.T T, look E.T T', d with
  | .nil, .int _ n, some t, some te, some ti, some d => match ti.k with
    | .int _ => packT st.h t te.zero [] fun z r ws => match r, ws with
      | [], [] => if 0 < n then (if n.toNat * (24 * t.n) ≤ room then κ { v := .leaf (.own (d, 0)), new := [.arr false t (List.replicate n.toNat z)] } else none) else none
      | _, _ => none
    | _ => none
  | _, _, _, _, _, _ => none

/-- A bound of a slice expression. -/
def bndK {R : Type} (v : Option AV) (d : Int) (κ : Int → Option R) : Option R :=
  match v with
  | none => κ d
  | some (.leaf (.int _ n)) => κ n
  | _ => none

def cutB {R : Type} (l h : Int) (len : Nat) (κ : Nat → Nat → Option R) : Option R :=
  if 0 ≤ l then (if l ≤ h then (if h ≤ len then κ l.toNat h.toNat else none) else none) else none

def sliceOpK {R : Type} (E : Env) (st : St) (T : Nat) (x : AV) (lo hi mx : Option AV) (κ : Dl → Option R) : Option R :=
  match elemT E.T T, x with
  | some _, .leaf .nil => match mx with
    | none => bndK lo 0 fun l => bndK hi 0 fun h => cutB l h 0 fun _ _ => κ { v := .leaf .nil }
    | some _ => none
  | some t, .leaf (.view t' xs) => match mx with
    | none => castK (.slice t') (.slice t) xs fun xs => bndK lo 0 fun l => bndK hi xs.length fun h => cutB l h xs.length fun l h => κ { v := .leaf (.view t ((xs.take h).drop l)) }
    | some _ => none
  | some t, .leaf (.own o) => match getO st.h o with
    | .arr _ t' xs => castK (.slice t') (.slice t) xs fun xs => bndK lo 0 fun l => bndK hi xs.length fun h => match mx with
      | none => cutB l h xs.length fun l h => κ { v := .leaf (.part o t.n l h), rd := [o] }
      | some m => match hi with
        | some _ => bndK (some m) 0 fun m => cutB l h xs.length fun _ _ => if h ≤ m then (if m ≤ xs.length then κ { v := .any, rd := [o] } else none) else none
        | none => none
    | _ => none
  | some t, .leaf (.part o n 0 _) => match getO st.h o with
    | .arr _ t' xs => castK (.slice t') (.slice t) xs fun xs => match lo, hi, mx, Nat.beq n t.n with
      | some _, some _, none, true => bndK lo 0 fun l => bndK hi 0 fun h => cutB l h xs.length fun l h => κ { v := .leaf (.part o t.n l h), rd := [o] }
      | _, _, _, _ => none
    | _ => none
  | _, _ => none

def builtinK {R : Type} (E : Env) (st : St) (d : Option Nat) (b : Builtin) (args : List AV) (tys : List Nat) (κ : Dl → Option R) : Option R :=
  match b, args with
  | .len, [.leaf l] => match tys with
    | T :: _ => match elemT E.T T with
      | some t => match l with
        | .nil => κ { v := .leaf (.int .i64 0) }
        | .view _ xs => κ { v := .leaf (.int .i64 xs.length) }
        | .viewN _ xs => κ { v := .leaf (.int .i64 xs.length) }
        | .own o => match getO st.h o with
          | .arr _ _ xs => κ { v := .leaf (.int .i64 xs.length), rd := [o] }
          | _ => none
        | .part _ _ lo hi => κ { v := .leaf (.int .i64 ((hi - lo : Nat) : Int)) }
        | _ => none
      | none => none
    | _ => none
  | .cap, [.leaf .nil] => match tys with
    | T :: _ => match elemT E.T T with
      | some _ => κ { v := .leaf (.int .i64 0) }
      | none => none
    | _ => none
  | .append, [.leaf s, .leaf x] => match tys with
    | [T, T'] => match Nat.beq T T' with
      | true => appendK E st d T s x κ
      | false => zerosK E st d T T' s x κ
    | _ => none
  | .clear, [.leaf (.part o n lo hi)] => match tys with
    | [T] => match elemT E.T T, elemTI E.T T, getO st.h o with
      | some t, some te, .arr false t' xs => castK (.slice t') (.slice t) xs fun xs => packT st.h t te.zero [] fun z r ws => match r, ws, t.flat, Nat.beq n t.n with
        | [], [], true, true => κ { v := .any, rd := [o], wr := [(o, .arr false t (xs.take lo ++ List.replicate (hi - lo) z ++ xs.drop hi))] }
        | _, _, _, _ => none
      | _, _, _ => none
    | _ => none
  | .max, [.leaf (.int k a), .leaf (.int _ b)] => κ { v := .leaf (.int k (if b > a then b else a)) }
  | .min, [.leaf (.int k a), .leaf (.int _ b)] => κ { v := .leaf (.int k (if b < a then b else a)) }
  | _, _ => none

/-- A slice compared with nil. -/
def nilEqK {R : Type} (E : Env) (op : BinOp) (t : Nat) (b : Bool) (κ : Dl → Option R) : Option R :=
  match elemT E.T t, op with
  | some _, .eql => κ { v := .leaf (.bool b) }
  | some _, .neq => κ { v := .leaf (.bool (!b)) }
  | _, _ => none

def evOp {R : Type} (E : Env) (o : Oper) (st : St) (κ : Dl → Option R) : Option R :=
  match o.op with
  | .move x | .assign x => κ { v := val st x }
  | .pick c a b => match val st c with
    | .leaf (.bool c) => cond c (κ { v := val st a }) (κ { v := val st b })
    | _ => none
  | .alloc e => match look E.T e, o.dst with
    | some ti, some d => κ { v := .leaf (.box (d, 0) 0), new := [.box false ti.zero] }
    | _, _ => none
  | .box _ x => match o.dst, val st x with
    | some d, .leaf l => κ { v := .leaf (.box (d, 0) 0), new := [.box false [l]] }
    | some d, .agg cs => κ { v := .leaf (.box (d, 0) 0), new := [.box false cs] }
    | _, _ => none
  | .build t parts => match look E.T t with
    | some ti => match ti.k with
      | .struct fs => fillK E.T fs st parts.toList ti.zero fun cs => κ { v := .agg cs }
      | _ => none
    | none => none
  | .buildSlice T len parts => match elemT E.T T, o.dst with
    | some t, some d => match Nat.ble (len * t.n) 10000000 with
      | true => match memN E.V d with
        | true => viewsK t st parts.toList 0 len fun xs => κ { v := .leaf (.view t xs) }
        | false => elemsK t st parts.toList 0 len [] fun xs ws => κ { v := .leaf (.own (d, 0)), rd := keysOf ws, wr := ws, new := [.arr false t xs] }
      | false => none
    | _, _ => none
  | .load t a => match look E.T t with
    | some ti => loadK st ti (val st a) κ
    | none => none
  | .store t a v => match look E.T t with
    | some ti => cellsK (val st v) fun cs => match Nat.beq cs.length ti.n with
      | true => storeK st (val st a) cs κ
      | false => none
    | none => none
  | .nilCheck x => match val st x with
    | .leaf (.box o off) => κ { v := .leaf (.box o off) }
    | .leaf (.elem o n i off) => κ { v := .leaf (.elem o n i off) }
    | .leaf (.vis t y off) => κ { v := .leaf (.vis t y off) }
    | _ => none
  | .binOp op t x y _ => match val st x, val st y with
    | .leaf (.int k a), .leaf (.int k' b) => match op with
      | .shr => if 0 ≤ b then κ { v := .leaf (.int k (a.fdiv (2 ^ min b.toNat k.bits))) } else none
      | .quo => if k = k' then (if b = 0 then none else κ { v := .leaf (.int k (k.wrap (a.tdiv b))) }) else none
      | .rem => if k = k' then (if b = 0 then none else κ { v := .leaf (.int k (a.tmod b)) }) else none
      | op => if k = k' then (match binInt op k a b with
        | some l => κ { v := .leaf l }
        | none => none) else none
    | .leaf (.bool a), .leaf (.bool b) => match look E.T t with
      | some ti => match ti.k, binBool op a b with
        | .bool, some l => κ { v := .leaf l }
        | _, _ => none
      | none => none
    | .leaf .nil, .leaf .nil => nilEqK E op t true κ
    | .leaf (.viewN _ _), .leaf .nil => nilEqK E op t false κ
    | .agg cs, .agg ds => match look E.T t with
      | some ti => match ti.k, eqTy E.T 100 t cs ds with
        | .struct _, some e => match op with
          | .eql => κ { v := .leaf (.bool e) }
          | .neq => κ { v := .leaf (.bool (!e)) }
          | _ => none
        | _, _ => none
      | none => none
    | _, _ => none
  | .unOp .not _ x => match val st x with
    | .leaf (.bool b) => κ { v := .leaf (.bool (!b)) }
    | _ => none
  | .convert s t x => match val st x, look E.T s, look E.T t with
    | .leaf (.int _ n), some _, some ti => match ti.k with
      | .int k => κ { v := .leaf (.int k (k.wrap n)) }
      | _ => none
    | _, _, _ => none
  | .field s x f => match look E.T s with
    | some ti => match ti.k with
      | .struct fs => match fs[f]? with
        | some (off, t) => match look E.T t, val st x with
          | some te, .agg cs => takeK te.n (dropL off cs) fun cs' => wrapAV te.k cs' fun v => κ { v }
          | _, _ => none
        | none => none
      | _ => none
    | none => none
  | .fieldAddr s x f => match look E.T s with
    | some ti => match ti.k with
      | .struct fs => match fs[f]? with
        | some (off, _) => match val st x with
          | .leaf (.box o o') => κ { v := .leaf (.box o (o' + off)) }
          | .leaf (.vis t y o') => κ { v := .leaf (.vis t y (o' + off)) }
          | .leaf (.elem o n i o') => κ { v := .leaf (.elem o n i (o' + off)) }
          | _ => none
        | none => none
      | _ => none
    | none => none
  | .indexAddr T x i => match elemT E.T T, val st x, val st i with
    | some t', .leaf (.view t xs), .leaf (.int _ i) => if t' = t then idx xs i fun y => κ { v := .leaf (.vis t y 0) } else none
    | some t', .leaf (.own o), .leaf (.int _ i) => match getO st.h o with
      | .arr _ t xs => if t' = t then idx xs i fun _ => κ { v := .leaf (.elem o t.n i.toNat 0), rd := [o] } else none
      | _ => none
    | _, _, _ => none
  | .makeSlice T x y => makeK E st o.dst T x y κ
  | .slice T x lo hi mx => sliceOpK E st T (val st x) (lo.map (val st)) (hi.map (val st)) (mx.map (val st)) κ
  | .makeFunc (.func f) first caps => match first.toList with
    | [] => capsK st caps.toList fun cs => κ { v := .leaf (.fn f cs) }
    | _ => none
  | .extract t i => match val st t with
    | .tup vs => match vs[i]? with
      | some (true, cs) => κ { v := .agg cs }
      | some (false, [l]) => κ { v := .leaf l }
      | _ => none
    | _ => none
  | .call c => match c.callee with
    | .builtin b => builtinK E st o.dst b (c.args.toList.map (val st)) c.argTypes.toList κ
    | .value f => match val st f with
      | .leaf (.fn f []) => callK E st o.dst f (c.args.toList.map (val st)) κ
      | .leaf (.fnd a r p) => packArgs E st.h a (c.args.toList.map (val st)) [] fun x os => (p x).bind fun y => match r.flat with
        | true => expandK r y [] fun cs => κ { v := cellsAV r cs, rd := os }
        | false => none
      | _ => none
    | _ => none
  | _ => none
 where capsK {R : Type} (st : St) : List Operand → (List Hd → Option R) → Option R
  | [], κ => κ []
  | x :: r, κ => match val st x with
    | .leaf (.box o 0) => capsK st r fun cs => κ (o :: cs)
    | _ => none

/-- The guard of an operation: its temporary is laid as true or false. -/
def guardK {R : Type} (dsts : List (Option Nat)) (o : Oper) (st : St) (κ : Bool → St → Option R) : Option R :=
  match o.guard with
  | none => κ true st
  | some (j, want) => match dsts[j]? with
    | some (some t) => match getT st.t t with
      | .leaf (.bool b) => cond b (setK st.t t (.leaf (.bool true)) fun t => κ (want == true) { st with t }) (setK st.t t (.leaf (.bool false)) fun t => κ (want == false) { st with t })
      | .skip => κ false st
      | _ => none
    | _ => none

/-- What an operation looked at and wrote; what it wrote. -/
abbrev Foot := List Hd × List Hd

/-- What is written is there, each once. -/
def wrOk (h : List (List Obj')) : List (Hd × Obj') → Bool
  | [] => true
  | (o, x) :: r => (match getO h o, x with
    | .none, _ => false
    | _, .none => false
    | _, _ => true) && !hasH r o && wrOk h r

def evOps {R : Type} (E : Env) (dsts : List (Option Nat)) : List Oper → St → (St → List Foot → Option R) → Option R
  | [], st, κ => κ st []
  | o :: r, st, κ => guardK dsts o st fun b st => match b with
    | true => evOp E o st fun δ => match wrOk st.h δ.wr with
      | true => app o.dst δ st fun st => evOps E dsts r st fun st fs => κ st ((δ.rd ++ keysOf δ.wr, keysOf δ.wr) :: fs)
      | false => none
    | false => app o.dst { v := .skip } st fun st => evOps E dsts r st fun st fs => κ st (([], []) :: fs)

/-! ### Operations in whatever order -/

def tmpsOf : List Operand → List Nat
  | [] => []
  | .tmp i :: r => i :: tmpsOf r
  | _ :: r => tmpsOf r

def opnds : Op → List Operand
  | .move x | .assign x | .box _ x | .load _ x | .nilCheck x | .unOp _ _ x | .convert _ _ x | .field _ x _ | .fieldAddr _ x _ | .extract x _ => [x]
  | .pick c a b => [c, a, b]
  | .build _ parts | .buildSlice _ _ parts => parts.toList.map (·.2)
  | .store _ a v => [a, v]
  | .binOp _ _ x y _ => [x, y]
  | .makeSlice _ x y => [x, y]
  | .slice _ x lo hi mx => x :: (lo.toList ++ (hi.toList ++ mx.toList))
  | .indexAddr _ x i => [x, i]
  | .makeFunc _ _ caps => caps.toList
  | .call c => (match c.callee with | .value f => [f] | _ => []) ++ c.args.toList
  | _ => []

/-- The temporaries that an operation looks at. -/
def usesOf (dsts : List (Option Nat)) (o : Oper) : List Nat :=
  match o.guard with
  | some (j, _) => match dsts[j]? with
    | some (some t) => t :: tmpsOf (opnds o.op)
    | _ => tmpsOf (opnds o.op)
  | none => tmpsOf (opnds o.op)

def predsE : List Edge → List Nat
  | [] => []
  | e :: r => match e.ground with
    | .textOnly _ | .gcOnly _ => predsE r
    | _ => e.on :: predsE r

def predsOf (o : Oper) : List Nat := predsE o.after.toList

def allLt (i : Nat) : List Nat → Bool
  | [] => true
  | j :: r => Nat.blt j i && allLt i r

def orAll : List Nat → List Nat → Nat
  | [], _ => 0
  | j :: js, acc => Nat.lor (Nat.lor (Nat.shiftLeft 1 j) (acc.getD j 0)) (orAll js acc)

/-- Whom each operation comes behind. -/
def cloL : List Oper → List Nat → List Nat
  | [], acc => acc
  | o :: r, acc => cloL r (acc ++ [orAll (predsOf o) acc])

def siteIn : List Hd → Nat → Bool
  | [], _ => false
  | (d, _) :: r, b => Nat.beq d b || siteIn r b

def meets : List Hd → List Hd → Bool
  | [], _ => false
  | a :: r, l => memH l a || meets r l

structure Opd where
  dst : Option Nat
  uses : List Nat
  foot : Foot

/-- Nothing that the one does is seen by the other. -/
def half (x y : Opd) : Bool :=
  (match x.dst with
  | none => true
  | some d => !memN y.uses d && !siteIn y.foot.1 d && (match y.dst with
    | some e => !Nat.beq d e
    | none => true)) && !meets x.foot.2 y.foot.1

def opds (dsts : List (Option Nat)) : List Oper → List Foot → List Opd
  | o :: os, f :: fs => ⟨o.dst, usesOf dsts o, f⟩ :: opds dsts os fs
  | _, _ => []

/-- Operation i against those before it. -/
def against (x : Opd) (c : Nat) : Nat → List Opd → Bool
  | _, [] => true
  | j, y :: r => (Nat.testBit c j || (half x y && half y x)) && against x c (j + 1) r

def indepL : List Nat → List Opd → List Opd → Bool
  | c :: cs, all, x :: xs => against x c 0 all && indepL cs (all ++ [x]) xs
  | _, _, [] => true
  | [], _, _ :: _ => false

def predsDown : Nat → List Oper → Bool
  | _, [] => true
  | i, o :: r => allLt i (predsOf o) && predsDown (i + 1) r

def indep (dsts : List (Option Nat)) (os : List Oper) (fs : List Foot) : Bool :=
  predsDown 0 os && indepL (cloL os []) [] (opds dsts os fs)

def evRegion {R : Type} (E : Env) (os : List Oper) (draw : Bool) (st : St) (κ : St → Option R) : Option R :=
  let dsts := os.map (·.dst)
  evOps E dsts os st fun st fs => match draw with
    | false => κ st
    | true => match indep dsts os fs with
      | true => κ st
      | false => none

/-- A slice in an element of an object, lent to a call that turns it: the load of its cell, a move, the call. -/
def markK {R : Type} (E : Env) (ld mv cl : Oper) (st : St) (κ : St → Option R) : Option R :=
  match ld.op, mv.op, cl.op with
  | .load T adr, .move x, .call c => match ld.guard, mv.guard, cl.guard, ld.dst, mv.dst, cl.dst with
    | none, none, none, some d1, some d2, some d3 => match look E.T T, val st adr, c.callee, c.args.toList with
      | some ti, .leaf (.elem o n i off), .value (.func f), [.tmp b1, .tmp b2] => setK st.t d1 .any fun t1 =>
        match ti.k, val ⟨t1, st.h⟩ x, getO st.h o, look E.G f with
        | .slice _, .leaf (.int k m), .arr false t xs, some (.mut [.lent, .rd] true _ (.pair (.slice u) (.pair (.int k') .unit)) (.int k2) F) =>
          match Nat.beq n t.n && Nat.beq ti.n 1 && Nat.beq d1 b1 && Nat.beq d2 b2 && !Nat.beq d1 d2 && u.noVw with
          | true => if k = k' then setK t1 d2 (.leaf (.int k m)) fun t2 => xs[i]?.bind fun x0 => getS t x0 off u fun ys => (F (ys, m, ())).bind fun y => updS t x0 off u y.2.1 fun z =>
              putO st.h o (.arr false t (xs.set i z)) fun h => setK t2 d3 (.leaf (.int k2 y.1)) fun t3 => κ ⟨t3, h⟩
            else none
          | false => none
        | _, _, _, _ => none
      | _, _, _, _ => none
    | _, _, _, _, _, _ => none
  | _, _, _ => none

/-- A region in its own order, of which operation k is such a load. -/
def evMark {R : Type} (E : Env) (os : List Oper) (k : Nat) (st : St) (κ : St → Option R) : Option R :=
  evOps E (os.map (·.dst)) (os.take k) st fun st _ => match os.drop k with
  | ld :: mv :: cl :: post => markK E ld mv cl st fun st => evOps E (os.map (·.dst)) post st fun st _ => κ st
  | _ => none

end
end Go.Abs
