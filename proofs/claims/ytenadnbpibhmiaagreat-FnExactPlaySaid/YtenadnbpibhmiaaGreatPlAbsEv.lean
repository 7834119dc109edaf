/- Part of a proof of FnExactPlay: see the row. -/
import Derived.Calls
import Derived.Laws.Sem
import Derived.KernelRfl
set_option linter.unusedVariables false
set_option linter.unusedSimpArgs false
namespace Go.Abs
inductive Ty where
 | int (k:IntKind)
 | bool
 | slice (t:Ty)
 | unit
 | pair (a b:Ty)
 | fn (a r:Ty)
 | vw (t:Ty)
 | hd
 deriving DecidableEq
abbrev Hdr:=Option Addr×(Nat×Nat)
def hv (h:Hdr):Value:=.slice h.1 h.2.1 h.2.2
@[reducible] def Ty.D:Ty→Type
 | .int _=>Int
 | .bool=>Bool
 | .slice t=>List t.D
 | .unit=>Unit
 | .pair a b=>a.D×b.D
 | .fn a r=>a.D→Option r.D
 | .vw t=>List t.D
 | .hd=>Hdr
def Ty.n:Ty→Nat
 | .int _ | .bool | .slice _ | .fn _ _ | .vw _ | .hd=>1
 | .unit=>0
 | .pair a b=>a.n + b.n
def Ty.flat:Ty→Bool
 | .int _ | .bool | .unit | .hd=>true
 | .slice _ | .fn _ _ | .vw _=>false
 | .pair a b=>a.flat && b.flat
def Ty.cop:Ty→Bool
 | .int _ | .bool | .unit | .vw _ | .hd=>true
 | .slice _ | .fn _ _=>false
 | .pair a b=>a.cop && b.cop
def Ty.noVw:Ty→Bool
 | .vw _=>false
 | .slice t=>t.noVw
 | .pair a b=>a.noVw && b.noVw
 | _=>true
def Ty.er:Ty→Ty
 | .slice t | .vw t=>.slice t.er
 | .pair a b=>.pair a.er b.er
 | t=>t
theorem Ty.erD:∀ t:Ty,t.er.D=t.D
 | .int _ | .bool | .unit | .fn _ _ | .hd=>rfl
 | .slice t | .vw t=>congrArg List (Ty.erD t)
 | .pair a b=>by show (a.er.D×b.er.D)=(a.D×b.D);rw [Ty.erD a,Ty.erD b]
def Ty.isStruct:Ty→Bool
 | .unit | .pair _ _=>true
 | _=>false
abbrev Hd:=Nat×Nat
inductive Leaf where
 | undef
 | int (k:IntKind) (n:Int)
 | bool (b:Bool)
 | nil
 | view (t:Ty) (xs:List t.D)
 | viewN (t:Ty) (xs:List t.D)
 | own (o:Hd)
 | part (o:Hd) (n lo hi:Nat)
 | box (o:Hd) (off:Nat)
 | elem (o:Hd) (n:Nat) (i:Nat) (off:Nat)
 | vis (t:Ty) (x:t.D) (off:Nat)
 | fn (f:FuncId) (caps:List Hd)
 | fnd (a r:Ty) (p:a.D→Option r.D)
 | hd (h:Hdr)
inductive AV where
 | any
 | skip
 | leaf (l:Leaf)
 | agg (cs:List Leaf)
 | tup (vs:List (Bool×List Leaf))
inductive aw where
 | none
 | dead
 | box (ro:Bool) (cs:List Leaf)
 | arr (ro:Bool) (t:Ty) (xs:List t.D)
structure St where
 t:List AV
 h:List (List aw)
structure Dl where
 v:AV
 rd:List Hd:=[]
 wr:List (Hd×aw):=[]
 new:List aw:=[]
inductive TK where
 | int (k:IntKind)
 | bool
 | slice (e:Nat)
 | struct (fs:List (Nat×Nat))
 | other
structure TI where
 k:TK
 n:Nat
 bytes:Nat
 ty:Ty
 zero:List Leaf
abbrev Tab:=List (Nat×TI)
inductive Md where
 | rd
 | nil
 | lent
 | tk
 | ptr
@[reducible] def fS:List Md→Ty→Ty
 | .lent :: ms,.pair t a=>.pair t (fS ms a)
 | .ptr :: ms,.pair t a=>.pair t (fS ms a)
 | .rd :: ms,.pair _ a=>fS ms a
 | .nil :: ms,.pair _ a=>fS ms a
 | .tk :: ms,.pair _ a=>fS ms a
 | _,_=>.unit
inductive Ct where
 | pure (one:Bool) (fresh:Bool) (a r:Ty) (F:a.D→Option r.D)
 | clo (a c r:Ty) (F:c.D→a.D→Option r.D)
 | box (a t:Ty) (F:a.D→Option t.D)
 | mut (ms:List Md) (one fr:Bool) (a r:Ty) (F:a.D→Option (r.D×(fS ms a).D))
 | run (t:Ty) (fs:List (FuncId×Bool)) (sf via one:Bool) (a r:Ty) (F:t.D→a.D→Option (r.D×t.D))
structure Env where
 T:Tab
 G:List (Nat×Ct)
 V:List Nat:=[]
 Z:Bool:=false
def iu {α:Type}:List (Nat×α)→Nat→Option α
 | [],_=>.none
 | (k,a) :: r,i=>match Nat.beq k i with
  | true=>some a
  | false=>iu r i
def cZ:List AV→Nat→AV
 | [],_=>.any
 | a :: _,0=>a
 | _ :: r,n + 1=>cZ r n
def xS {α R:Type}:List α→Nat→α→(List α→Option R)→Option R
 | [],_,_,κ=>κ []
 | _ :: r,0,v,κ=>κ (v :: r)
 | a :: r,n + 1,v,κ=>xS r n v fun r'=>κ (a :: r')
def gn:List aw→Nat→aw
 | [],_=>.none
 | o :: _,0=>o
 | _ :: r,n + 1=>gn r n
def bx:List (List aw)→Nat→List aw
 | [],_=>[]
 | l :: _,0=>l
 | _ :: r,n + 1=>bx r n
def aj (h:List (List aw)) (o:Hd):aw:=gn (bx h o.1) o.2
def QB {R:Type} (h:List (List aw)) (o:Hd) (x:aw) (κ:List (List aw)→Option R):Option R :=
 xS (bx h o.1) o.2 x fun l=>xS h o.1 l κ
def FZ {R:Type}:List (Hd×aw)→List (List aw)→(List (List aw)→Option R)→Option R
 | [],h,κ=>κ h
 | (o,x) :: r,h,κ=>QB h o x fun h'=>FZ r h' κ
def app {R:Type} (d:Option Nat) (δ:Dl) (st:St) (κ:St→Option R):Option R :=
 FZ δ.wr st.h fun h=>match d with
 | none=>match δ.new with
  | []=>κ { st with h }
  | _=>none
 | some d=>match δ.new with
  | []=>xS st.t d δ.v fun t=>κ ⟨t,h⟩
  | new=>match bx h d with
   | []=>xS h d new fun h=>xS st.t d δ.v fun t=>κ ⟨t,h⟩
   | _=>none
def cU {R:Type}:(t:Ty)→t.D→List Leaf→(List Leaf→R)→R
 | .int k,n,r,κ=>κ (.int k n :: r)
 | .bool,b,r,κ=>κ (.bool b :: r)
 | .hd,b,r,κ=>κ (.hd b :: r)
 | .slice t,xs,r,κ=>κ (.view t xs :: r)
 | .unit,_,r,κ=>κ r
 | .pair a b,x,r,κ=>cU b x.2 r fun r'=>cU a x.1 r' κ
 | .fn a b,p,r,κ=>κ (.fnd a b p :: r)
 | .vw t,xs,r,κ=>κ (.view t xs :: r)
def fT {R:Type} (t t':Ty) (x:t.D) (κ:t'.D→Option R):Option R :=
 if h:t=t' then κ (h ▸ x) else none
def qi {R:Type} (t t':Ty) (xs:List t.D) (κ:List t'.D→Option R):Option R :=
 if h:t=t' then κ (h ▸ xs) else if h:t.er=t'.er then κ (cast (congrArg List ((Ty.erD t).symm.trans ((congrArg Ty.D h).trans (Ty.erD t')))) xs) else none
def pP {R:Type} (h:List (List aw)) (t:Ty) (l:Leaf) (κ:List t.D→List Hd→Option R):Option R :=
 match l with
 | .nil=>κ [] []
 | .view t' xs=>qi t' t xs fun x=>κ x []
 | .viewN t' xs=>qi t' t xs fun x=>κ x []
 | .own o=>match aj h o with
  | .arr _ t' xs=>qi t' t xs fun x=>κ x [o]
  | _=>none
 | .part o n lo hi=>match aj h o,Nat.beq n t.n with
  | .arr _ t' xs,true=>qi t' t ((xs.take hi).drop lo) fun x=>κ x [o]
  | _,_=>none
 | _=>none
def bz {R:Type} (h:List (List aw)):(t:Ty)→List Leaf→List Hd→(t.D→List Leaf→List Hd→Option R)→Option R
 | .int k,.int k' n :: r,os,κ=>if k=k' then κ n r os else none
 | .bool,.bool b :: r,os,κ=>κ b r os
 | .hd,.hd b :: r,os,κ=>κ b r os
 | .hd,.nil :: r,os,κ=>κ (none,0,0) r os
 | .slice t,l :: r,os,κ=>pP h t l fun xs us=>κ xs r (us++os)
 | .unit,r,os,κ=>κ () r os
 | .pair a b,cs,os,κ=>bz h a cs os fun x r os=>bz h b r os fun y r' os=>κ (x,y) r' os
 | .fn a b,.fnd a' b' p :: r,os,κ=>fT (.fn a' b') (.fn a b) p fun x=>κ x r os
 | .vw t,l :: r,os,κ=>pP h t l fun xs us=>κ xs r (us++os)
 | _,_,_,_=>none
def Bi:List (Hd×aw)→Hd→Bool
 | [],_=>false
 | ((d,j),_) :: r,o=>match Nat.beq d o.1,Nat.beq j o.2 with
  | true,true=>true
  | _,_=>Bi r o
def rk {R:Type} (h:List (List aw)) (t:Ty) (l:Leaf) (ws:List (Hd×aw)) (κ:List t.D→List (Hd×aw)→Option R):Option R :=
 match l with
 | .nil=>κ [] ws
 | .own o=>match aj h o,Bi ws o with
  | .arr false t' xs,false=>fT (.slice t') (.slice t) xs fun x=>κ x ((o,.dead) :: ws)
  | _,_=>none
 | .part o _ 0 hi=>match aj h o,Bi ws o with
  | .arr false t' xs,false=>fT (.slice t') (.slice t) (xs.take hi) fun x=>κ x ((o,.dead) :: ws)
  | _,_=>none
 | _=>none
def pQ {R:Type} (t:Ty) (l:Leaf) (κ:List t.D→Option R):Option R :=
 match l with
 | .nil=>κ []
 | .view t' xs=>qi t' t xs κ
 | .viewN t' xs=>qi t' t xs κ
 | _=>none
def bN {R:Type} (h:List (List aw)):(t:Ty)→List Leaf→List (Hd×aw)→(t.D→List Leaf→List (Hd×aw)→Option R)→Option R
 | .int k,.int k' n :: r,ws,κ=>if k=k' then κ n r ws else none
 | .bool,.bool b :: r,ws,κ=>κ b r ws
 | .hd,.hd b :: r,ws,κ=>κ b r ws
 | .hd,.nil :: r,ws,κ=>κ (none,0,0) r ws
 | .slice t,l :: r,ws,κ=>rk h t l ws fun xs ws=>κ xs r ws
 | .unit,r,ws,κ=>κ () r ws
 | .pair a b,cs,ws,κ=>bN h a cs ws fun x r ws=>bN h b r ws fun y r' ws=>κ (x,y) r' ws
 | .vw t,l :: r,ws,κ=>pQ t l fun xs=>κ xs r ws
 | _,_,_,_=>none
def aq:List (Hd×aw)→List Hd
 | []=>[]
 | (o,_) :: r=>o :: aq r
def vq {R:Type} (v:AV) (κ:List Leaf→Option R):Option R :=
 match v with
 | .leaf l=>κ [l]
 | .agg cs=>κ cs
 | _=>none
def gU:Value→Leaf
 | .int k n=>.int k n
 | .bool b=>.bool b
 | .slice none 0 0=>.nil
 | _=>.undef
def uh:List Value→Bool
 | []=>true
 | v :: r=>v.oneCell' && uh r
def Cn:Value→AV
 | .agg cs=>match uh cs.toList with
  | true=>.agg (cs.toList.map gU)
  | false=>.any
 | .tuple _=>.any
 | v=>.leaf (gU v)
def val (st:St):Operand→AV
 | .tmp i=>cZ st.t i
 | .const v=>Cn v
 | .global _=>.any
 | .func f=>.leaf (.fn f [])
def nv {R:Type}:Nat→List Leaf→(List Leaf→Option R)→Option R
 | 0,_,κ=>κ []
 | n + 1,a :: r,κ=>nv n r fun r'=>κ (a :: r')
 | _ + 1,[],_=>none
def wC:Nat→List Leaf→List Leaf
 | 0,l=>l
 | _ + 1,[]=>[]
 | n + 1,_ :: r=>wC n r
def la {R:Type}:Nat→List Leaf→List Leaf→(List Leaf→Option R)→Option R
 | 0,[],r,κ=>κ r
 | 0,_ :: _,[],_=>none
 | 0,c :: cs,_ :: r,κ=>la 0 cs r fun r'=>κ (c :: r')
 | _ + 1,_,[],_=>none
 | n + 1,cs,a :: r,κ=>la n cs r fun r'=>κ (a :: r')
def kM {R:Type} (k:TK) (cs:List Leaf) (κ:AV→Option R):Option R :=
 match k with
 | .struct _=>κ (.agg cs)
 | _=>match cs with
  | [l]=>κ (.leaf l)
  | _=>none
def cV (t:Ty) (cs:List Leaf):AV :=
 match t.isStruct,cs with
 | false,[l]=>.leaf l
 | _,cs=>.agg cs
def idx {α R:Type} (xs:List α) (i:Int) (κ:α→Option R):Option R :=
 if 0≤i then xs[i.toNat]?.bind κ else none
def iv {R:Type}:(t:Ty)→t.D→Nat→Leaf→(t.D→Option R)→Option R
 | .int k,_,0,.int k' n,κ=>if k=k' then κ n else none
 | .bool,_,0,.bool b,κ=>κ b
 | .hd,_,0,.hd b,κ=>κ b
 | .pair a b,x,off,l,κ=>match Nat.ble a.n off with
  | true=>iv b x.2 (off - a.n) l fun y=>κ (x.1,y)
  | false=>iv a x.1 off l fun y=>κ (y,x.2)
 | _,_,_,_,_=>none
def F0 {R:Type} (t:Ty):t.D→Nat→List Leaf→(t.D→Option R)→Option R
 | x,_,[],κ=>κ x
 | x,off,l :: r,κ=>iv t x off l fun y=>F0 t y (off + 1) r κ
def lL {R:Type}:(t:Ty)→t.D→Nat→(u:Ty)→(List u.D→Option R)→Option R
 | .slice t,xs,0,u,κ=>fT (.slice t) (.slice u) xs κ
 | .pair a b,x,off,u,κ=>match Nat.ble a.n off with
  | true=>lL b x.2 (off - a.n) u κ
  | false=>lL a x.1 off u κ
 | _,_,_,_,_=>none
def pR {R:Type}:(t:Ty)→t.D→Nat→(u:Ty)→List u.D→(t.D→Option R)→Option R
 | .slice t,_,0,u,ys,κ=>fT (.slice u) (.slice t) ys κ
 | .pair a b,x,off,u,ys,κ=>match Nat.ble a.n off with
  | true=>pR b x.2 (off - a.n) u ys fun y=>κ (x.1,y)
  | false=>pR a x.1 off u ys fun y=>κ (y,x.2)
 | _,_,_,_,_,_=>none
def Ib:List Leaf→Bool
 | []=>true
 | .int _ _ :: r | .bool _ :: r | .hd _ :: r=>Ib r
 | _=>false
def Co {R:Type} (st:St) (ti:TI) (p:AV) (κ:Dl→Option R):Option R :=
 match p with
 | .leaf (.box o off)=>match aj st.h o with
  | .box _ cs=>nv ti.n (wC off cs) fun cs'=>kM ti.k cs' fun v=>κ { v,rd:=[o] }
  | _=>none
 | .leaf (.vis t x off)=>cU t x [] fun cs=>nv ti.n (wC off cs) fun cs'=>kM ti.k cs' fun v=>κ { v }
 | .leaf (.elem o n i off)=>match aj st.h o with
  | .arr _ t xs=>xs[i]?.bind fun x=>cU t x [] fun cs=>nv ti.n (wC off cs) fun cs'=>match Ib cs' || t.cop,Nat.beq n t.n with
   | true,true=>kM ti.k cs' fun v=>κ { v,rd:=[o] }
   | _,_=>none
  | _=>none
 | _=>none
def vr {R:Type} (st:St) (p:AV) (v:List Leaf) (κ:Dl→Option R):Option R :=
 match p with
 | .leaf (.box o off)=>match aj st.h o with
  | .box false cs=>la off v cs fun cs'=>κ { v:=.any,rd:=[o],wr:=[(o,.box false cs')] }
  | _=>none
 | .leaf (.elem o n i off)=>match aj st.h o,Nat.beq n (match aj st.h o with | .arr _ t _=>t.n | _=>0) with
  | .arr false t xs,true=>xs[i]?.bind fun x=>match off,v,Nat.beq v.length t.n with
   | 0,v,true=>bN st.h t v [] fun y r ws=>match r,Bi ws o with
    | [],false=>κ { v:=.any,rd:=o :: aq ws,wr:=(o,.arr false t (xs.set i y)) :: ws }
    | _,_=>none
   | off,l :: v,false=>F0 t x off (l :: v) fun y=>κ { v:=.any,rd:=[o],wr:=[(o,.arr false t (xs.set i y))] }
   | _,_,_=>none
  | _,_=>none
 | _=>none
def Id (op:BinOp) (k:IntKind) (a b:Int):Option Leaf :=
 match op with
 | .add=>some (.int k (k.wrap (a + b)))
 | .sub=>some (.int k (k.wrap (a - b)))
 | .mul=>some (.int k (k.wrap (a * b)))
 | .and=>some (.int k (k.wrap (BitVec.ofInt k.bits a &&& BitVec.ofInt k.bits b).toNat))
 | .or=>some (.int k (k.wrap (BitVec.ofInt k.bits a ||| BitVec.ofInt k.bits b).toNat))
 | .xor=>some (.int k (k.wrap (BitVec.ofInt k.bits a ^^^ BitVec.ofInt k.bits b).toNat))
 | .eql=>some (.bool (a == b))
 | .neq=>some (.bool (a != b))
 | .lss=>some (.bool (decide (a < b)))
 | .leq=>some (.bool (decide (a≤b)))
 | .gtr=>some (.bool (decide (a > b)))
 | .geq=>some (.bool (decide (a≥b)))
 | _=>none
def Nk (op:BinOp) (a b:Bool):Option Leaf :=
 match op with
 | .eql=>some (.bool (a == b))
 | .neq=>some (.bool (a != b))
 | _=>none
def ML:Nat→List Leaf→List Leaf
 | 0,_=>[]
 | _ + 1,[]=>[]
 | n + 1,a :: r=>a :: ML n r
mutual
def Nl (T:Tab):Nat→Nat→List Leaf→List Leaf→Option Bool
 | 0,_,_,_=>none
 | f + 1,t,cs,ds=>match iu T t with
  | some ti=>match ti.k,cs,ds with
   | .int _,[.int k a],[.int k' b]=>if k=k' then some (a == b) else none
   | .bool,[.bool a],[.bool b]=>some (a == b)
   | .struct fs,cs,ds=>QC T f fs cs ds
   | _,_,_=>none
  | none=>none
def QC (T:Tab):Nat→List (Nat×Nat)→List Leaf→List Leaf→Option Bool
 | _,[],_,_=>some true
 | 0,_ :: _,_,_=>none
 | f + 1,(off,t) :: fs,cs,ds=>match iu T t with
  | some ti=>match Nl T f t (ML ti.n (wC off cs)) (ML ti.n (wC off ds)),QC T f fs cs ds with
   | some a,some b=>some (a && b)
   | _,_=>none
  | none=>none
end
def Aa {R:Type}:(t:Ty)→t.D→(List (Bool×List Leaf)→R)→R
 | .pair a b,x,κ=>cU a x.1 [] fun cs=>Aa b x.2 fun r=>κ ((a.isStruct,cs) :: r)
 | _,_,κ=>κ []
def Nm:List aw→Nat
 | []=>0
 | _ :: r=>Nm r + 1
def RF {R:Type}:List aw→aw→(List aw→R)→R
 | [],o,κ=>κ [o]
 | a :: r,o,κ=>RF r o fun r'=>κ (a :: r')
def SR {R:Type}:List Leaf→List Leaf→(List Leaf→R)→R
 | [],l,κ=>κ l
 | a :: r,l,κ=>SR r l fun r'=>κ (a :: r')
def iw {R:Type} (d:Nat):(t:Ty)→t.D→List aw→(List Leaf→List aw→R)→R
 | .int k,n,os,κ=>κ [.int k n] os
 | .bool,b,os,κ=>κ [.bool b] os
 | .hd,b,os,κ=>κ [.hd b] os
 | .slice t,xs,os,κ=>RF os (.arr false t xs) fun os'=>κ [.own (d,Nm os)] os'
 | .unit,_,os,κ=>κ [] os
 | .pair a b,x,os,κ=>iw d a x.1 os fun ca os=>iw d b x.2 os fun cb os=>SR ca cb fun cs=>κ cs os
 | .fn a b,p,os,κ=>κ [.fnd a b p] os
 | .vw t,xs,os,κ=>κ [.view t xs] os
def Ev {R:Type} (d:Nat):(t:Ty)→t.D→List aw→(List (Bool×List Leaf)→List aw→R)→R
 | .pair a b,x,os,κ=>iw d a x.1 os fun cs os=>Ev d b x.2 os fun r os=>κ ((a.isStruct,cs) :: r) os
 | _,_,os,κ=>κ [] os
def gO {R:Type} (t:Ty) (v:AV) (κ:List Leaf→Option R):Option R :=
 match t.isStruct,v with
 | true,.agg cs=>κ cs
 | false,.leaf l=>κ [l]
 | _,_=>none
def Bj:List Hd→Bool
 | []=>true
 | _=>false
def F1 {R:Type} (E:Env) (h:List (List aw)):(c:Ty)→List Leaf→List Hd→(c.D→List Leaf→List Hd→Option R)→Option R
 | .fn a r,[.fn f []],os,κ=>match iu E.G f with
  | some (.pure true _ a' r' F)=>match r'.flat with
   | true=>fT (.fn a' r') (.fn a r) F fun p=>κ p [] os
   | false=>none
  | _=>none
 | c,ls,os,κ=>bz h c ls os κ
def bC {R:Type} (E:Env) (h:List (List aw)):(c:Ty)→List Hd→List Hd→(c.D→List Hd→Option R)→Option R
 | .unit,[],os,κ=>κ () os
 | .pair a b,o :: cs,os,κ=>match aj h o with
  | .box _ ls=>F1 E h a ls (o :: os) fun x r os=>match r with
   | []=>bC E h b cs os fun q os=>κ (x,q) os
   | _=>none
  | _=>none
 | _,_,_,_=>none
def jD {α R:Type} (r:List α) (k:Option R):Option R :=
 match r with
 | []=>k
 | _=>none
def aJ {R:Type} (E:Env) (h:List (List aw)):(a:Ty)→List AV→List Hd→(a.D→List Hd→Option R)→Option R
 | .unit,[],os,κ=>κ () os
 | .pair (.fn a r) b,.leaf (.fn f caps) :: vs,os,κ=>match iu E.G f with
  | some (.clo a' c r' F)=>bC E h c caps os fun y os=>fT (.fn a' r') (.fn a r) (F y) fun p=>aJ E h b vs os fun q os=>κ (p,q) os
  | some (.pure true _ a' r' F)=>match r'.flat && Bj caps with
   | true=>fT (.fn a' r') (.fn a r) F fun p=>aJ E h b vs os fun q os=>κ (p,q) os
   | false=>none
  | _=>none
 | .pair a b,v :: vs,os,κ=>gO a v fun cs=>bz h a cs os fun x r os=>jD r (aJ E h b vs os fun q os=>κ (x,q) os)
 | _,_,_,_=>none
def fe {R:Type} (h:List (List aw)):(t:Ty)→List Leaf→(t.D→List Leaf→Option R)→Option R
 | .int k,.int k' n :: r,κ=>if k=k' then κ n r else none
 | .bool,.bool b :: r,κ=>κ b r
 | .hd,.hd b :: r,κ=>κ b r
 | .slice t,.nil :: r,κ=>κ [] r
 | .slice t,.own o :: r,κ=>match aj h o with
  | .arr false t' xs=>fT (.slice t') (.slice t) xs fun x=>κ x r
  | _=>none
 | .unit,r,κ=>κ () r
 | .pair a b,cs,κ=>fe h a cs fun x r=>fe h b r fun y r'=>κ (x,y) r'
 | .vw t,l :: r,κ=>pQ t l fun xs=>κ xs r
 | _,_,_=>none
def dB:List Leaf→List Hd
 | []=>[]
 | .own o :: r=>o :: dB r
 | _ :: r=>dB r
def cY {R:Type} (E:Env) (h:List (List aw)):(ms:List Md)→(a:Ty)→List AV→List Hd→List Hd→(a.D→List Hd→List Hd→Option R)→Option R
 | [],.unit,[],os,ks,κ=>κ () os ks
 | .rd :: ms,.pair t a,v :: vs,os,ks,κ=>aJ E h (.pair t .unit) [v] os fun x os=>cY E h ms a vs os ks fun y os ks=>κ (x.1,y) os ks
 | .nil :: ms,.pair .unit a,.leaf .nil :: vs,os,ks,κ=>cY E h ms a vs os ks fun y os ks=>κ ((),y) os ks
 | .lent :: ms,.pair t a,v :: vs,os,ks,κ=>gO t v fun cs=>fe h t cs fun x r=>jD r (cY E h ms a vs os (ks++dB cs) fun y os ks=>κ (x,y) os ks)
 | .tk :: ms,.pair t a,v :: vs,os,ks,κ=>gO t v fun cs=>fe h t cs fun x r=>jD r (cY E h ms a vs os (ks++dB cs) fun y os ks=>κ (x,y) os ks)
 | .ptr :: ms,.pair t a,.leaf (.box o 0) :: vs,os,ks,κ=>match aj h o with
  | .box false cs=>bz h t cs [] fun x r us=>match r,us with
   | [],[]=>cY E h ms a vs os (ks++[o]) fun y os ks=>κ (x,y) os ks
   | _,_=>none
  | _=>none
 | _,_,_,_,_,_=>none
def rl {R:Type}:(t:Ty)→t.D→List Leaf→(List Leaf→List (Hd×aw)→R)→R
 | .slice t,z,.own o :: r,κ=>κ r [(o,.arr false t z)]
 | .slice _,_,_ :: r,κ=>κ r []
 | .int _,_,_ :: r,κ=>κ r []
 | .bool,_,_ :: r,κ=>κ r []
 | .hd,_,_ :: r,κ=>κ r []
 | .vw _,_,_ :: r,κ=>κ r []
 | .pair a b,z,cs,κ=>rl a z.1 cs fun r w1=>rl b z.2 r fun r w2=>κ r (w1++w2)
 | _,_,r,κ=>κ r []
def xT:List Hd→List (Hd×aw)
 | []=>[]
 | q :: r=>(q,.dead) :: xT r
def eH {R:Type}:(ms:List Md)→(a:Ty)→List AV→(fS ms a).D→(List (Hd×aw)→Option R)→Option R
 | .lent :: ms,.pair t a,v :: vs,z,κ=>gO t v fun cs=>rl t z.1 cs fun _ w1=>eH ms a vs z.2 fun w2=>κ (w1++w2)
 | .tk :: ms,.pair t a,v :: vs,z,κ=>gO t v fun cs=>eH ms a vs z fun w2=>κ (xT (dB cs)++w2)
 | .ptr :: ms,.pair t a,.leaf (.box o _) :: vs,z,κ=>cU t z.1 [] fun cs=>eH ms a vs z.2 fun w2=>κ ((o,.box false cs) :: w2)
 | .rd :: ms,.pair _ a,_ :: vs,z,κ=>eH ms a vs z κ
 | .nil :: ms,.pair _ a,_ :: vs,z,κ=>eH ms a vs z κ
 | [],.unit,[],_,κ=>κ []
 | _,_,_,_,_=>none
def vu:List Hd→Hd→Bool
 | [],_=>false
 | (d,j) :: r,o=>match Nat.beq d o.1,Nat.beq j o.2 with
  | true,true=>true
  | _,_=>vu r o
def Nn:List Hd→Bool
 | []=>true
 | q :: r=>!vu r q && Nn r
def Cp:List Hd→List Hd→Bool
 | [],_=>true
 | q :: r,l=>!vu l q && Cp r l
def noPtr:List Md→Bool
 | []=>true
 | .ptr :: _=>false
 | _ :: r=>noPtr r
def Cq:List Md→Ty→Bool
 | .lent :: ms,.pair t a=>t.noVw && Cq ms a
 | .rd :: ms,.pair _ a=>Cq ms a
 | .nil :: ms,.pair _ a=>Cq ms a
 | .tk :: ms,.pair _ a=>Cq ms a
 | .ptr :: ms,.pair _ a=>Cq ms a
 | _,_=>true
def xU:List Md→Bool
 | []=>true
 | .lent :: _=>false
 | .tk :: _=>false
 | _ :: r=>xU r
def Ie {R:Type} (d:Option Nat) (one fr:Bool) (r:Ty) (y:r.D) (rd:List Hd) (ws:List (Hd×aw)) (κ:Dl→Option R):Option R :=
 match fr,one with
 | false,true=>cU r y [] fun cs=>κ { v:=cV r cs,rd,wr:=ws }
 | false,false=>Aa r y fun vs=>κ { v:=.tup vs,rd,wr:=ws }
 | true,true=>match d with
  | some d=>iw d r y [] fun cs new=>κ { v:=cV r cs,rd,wr:=ws,new }
  | none=>none
 | true,false=>match d with
  | some d=>Ev d r y [] fun vs new=>κ { v:=.tup vs,rd,wr:=ws,new }
  | none=>match r with
   | .unit=>κ { v:=.any,rd,wr:=ws }
   | _=>none
def F2 {R:Type} (E:Env) (st:St) (d:Option Nat) (ms:List Md) (one fr:Bool) (a r:Ty) (F:a.D→Option (r.D×(fS ms a).D)) (args:List AV) (κ:Dl→Option R):Option R :=
 cY E st.h ms a args [] [] fun x os ks=>match Nn ks && Cp ks os && (Bj os || (noPtr ms && fr && Cq ms a && r.noVw)) with
  | true=>(F x).bind fun y=>eH ms a args y.2 fun ws=>Ie d one fr r y.1 (os++ks) ws κ
  | false=>none
def wD {R:Type} (E:Env) (st:St) (d:Option Nat) (f:Nat) (args:List AV) (κ:Dl→Option R):Option R :=
 match iu E.G f with
 | some (.mut ms one fr a r F)=>F2 E st d ms one fr a r F args κ
 | some (.box a t F)=>aJ E st.h a args [] fun x os=>match Bj os,d with
  | true,some d=>(F x).bind fun y=>cU t y [] fun cs=>κ { v:=.leaf (.box (d,0) 0),new:=[.box false cs] }
  | _,_=>none
 | some (.pure one fr a r F)=>aJ E st.h a args [] fun x os=>(F x).bind fun y =>
  match fr,one,d with
  | false,true,_=>match r.flat || Bj os with
   | true=>cU r y [] fun cs=>κ { v:=cV r cs,rd:=os }
   | false=>none
  | false,false,_=>match r.flat || Bj os with
   | true=>Aa r y fun vs=>κ { v:=.tup vs,rd:=os }
   | false=>none
  | true,true,some d=>iw d r y [] fun cs new=>match new with
   | []=>none
   | n0 :: ns=>κ { v:=cV r cs,rd:=os,new:=n0 :: ns }
  | true,false,some d=>Ev d r y [] fun vs new=>match new with
   | []=>none
   | n0 :: ns=>κ { v:=.tup vs,rd:=os,new:=n0 :: ns }
  | _,_,_=>none
 | _=>none
def Cr {R:Type} (T:Tab) (fs:List (Nat×Nat)) (st:St):List (Nat×Operand)→List Leaf→(List Leaf→Option R)→Option R
 | [],cs,κ=>κ cs
 | (i,x) :: r,cs,κ=>match fs[i]? with
  | some (off,t)=>match iu T t with
   | some te=>vq (val st x) fun ls=>match Nat.beq te.n ls.length with
    | true=>la off ls cs fun cs'=>Cr T fs st r cs' κ
    | false=>none
   | none=>none
  | none=>none
def nx (T:Tab) (t:Nat):Option Ty :=
 match iu T t with
 | some ti=>match ti.k,ti.ty with
  | .slice _,.slice t'=>some t'
  | _,_=>none
 | none=>none
def pS {R:Type} (t:Ty) (st:St):List (Nat×Operand)→Nat→Nat→List (Hd×aw)→(List t.D→List (Hd×aw)→Option R)→Option R
 | [],i,n,ws,κ=>match Nat.beq i n with
  | true=>κ [] ws
  | false=>none
 | (j,x) :: r,i,n,ws,κ=>match Nat.beq i j with
  | true=>vq (val st x) fun cs=>bN st.h t cs ws fun y q ws=>match q with
   | []=>pS t st r (i + 1) n ws fun xs ws=>κ (y :: xs) ws
   | _=>none
  | false=>none
def pT {R:Type} (t:Ty) (st:St):List (Nat×Operand)→Nat→Nat→(List t.D→Option R)→Option R
 | [],i,n,κ=>match Nat.beq i n with
  | true=>κ []
  | false=>none
 | (j,x) :: r,i,n,κ=>match Nat.beq i j with
  | true=>vq (val st x) fun cs=>bz st.h t cs [] fun y q us=>match q,us with
   | [],[]=>pT t st r (i + 1) n fun xs=>κ (y :: xs)
   | _,_=>none
  | false=>none
def R9:List Nat→Nat→Bool
 | [],_=>false
 | a :: r,b=>Nat.beq a b || R9 r b
def aC:Nat:=2 ^ 40
def SS (o:Hd) (n:Nat):Leaf→Option (Nat×Nat)
 | .part o' n' lo hi=>match Nat.beq o.1 o'.1,Nat.beq o.2 o'.2,Nat.beq n n' with
  | true,true,true=>some (lo,hi)
  | _,_,_=>none
 | _=>none
noncomputable section
open Classical in
def ui {R:Type} (st:St) (d:Nat) (t:Ty) (x:Leaf) (xs:List t.D) (ws:List (Hd×aw)) (κ:Dl→Option R):Option R :=
 match t.flat with
 | true=>pP st.h t x fun ys us =>
  if (xs.length + ys.length) * (24 * t.n)≤aC then κ { v:=.leaf (.own (d,0)),rd:=us++aq ws,wr:=ws,new:=[.arr false t (xs++ys)] } else none
 | false=>match t.cop with
  | true=>pQ t x fun ys =>
   if (xs.length + ys.length) * (24 * t.n)≤aC then κ { v:=.leaf (.own (d,0)),rd:=aq ws,wr:=ws,new:=[.arr false t (xs++ys)] } else none
  | false=>rk st.h t x ws fun ys ws =>
   if (xs.length + ys.length) * (24 * t.n)≤aC then κ { v:=.leaf (.own (d,0)),rd:=aq ws,wr:=ws,new:=[.arr false t (xs++ys)] } else none
def oB {R:Type} (E:Env) (st:St) (d:Option Nat) (T:Nat) (s x:Leaf) (κ:Dl→Option R):Option R :=
 match nx E.T T,d with
 | some t,some d=>match s with
  | .nil=>ui st d t x [] [] κ
  | .own o=>match aj st.h o with
   | .arr false t' xs=>fT (.slice t') (.slice t) xs fun xs=>ui st d t x xs [(o,.dead)] κ
   | _=>none
  | .part o n 0 hi=>match aj st.h o with
   | .arr false t' xs=>fT (.slice t') (.slice t) xs fun xs=>match SS o n x,t.flat && Nat.beq n t.n with
    | some (l,u),true=>if l≤u then (if hi + (u - l)≤xs.length then
      κ { v:=.leaf (.part o t.n 0 (hi + (u - l))),rd:=[o],wr:=[(o,.arr false t (xs.take hi++(xs.take u).drop l++xs.drop (hi + (u - l))))] } else none) else none
    | some _,false=>none
    | none,_=>ui st d t x (xs.take hi) [(o,.dead)] κ
   | _=>none
  | _=>none
 | _,_=>none
def ST:Operand→Operand→Bool
 | .tmp i,.tmp j=>Nat.beq i j
 | _,_=>false
def Ew (T:Tab) (t:Nat):Option TI :=
 match iu T t with
 | some ti=>match ti.k with
  | .slice e=>iu T e
  | _=>none
 | none=>none
def If {R:Type} (E:Env) (st:St) (d:Option Nat) (T:Nat) (x y:Operand) (κ:Dl→Option R):Option R :=
 match nx E.T T,Ew E.T T,d,ST x y,val st x with
 | some t,some te,some d,true,.leaf (.int _ n)=>bN st.h t te.zero [] fun z r ws=>match r,ws with
  | [],[]=>if 0≤n then (if n.toNat * (24 * t.n)≤aC then κ { v:=.leaf (.own (d,0)),new:=[.arr false t (List.replicate n.toNat z)] } else none) else none
  | _,_=>none
 | _,_,_,_,_=>none
def Bk {R:Type} (E:Env) (st:St) (d:Option Nat) (T T':Nat) (s x:Leaf) (κ:Dl→Option R):Option R :=
 match s,x,nx E.T T,Ew E.T T,iu E.T T',d with
 | .nil,.int _ n,some t,some te,some ti,some d=>match ti.k with
  | .int _=>bN st.h t te.zero [] fun z r ws=>match r,ws with
   | [],[]=>if 0 < n then (if n.toNat * (24 * t.n)≤aC then κ { v:=.leaf (.own (d,0)),new:=[.arr false t (List.replicate n.toNat z)] } else none) else none
   | _,_=>none
  | _=>none
 | _,_,_,_,_,_=>none
def sG {R:Type} (v:Option AV) (d:Int) (κ:Int→Option R):Option R :=
 match v with
 | none=>κ d
 | some (.leaf (.int _ n))=>κ n
 | _=>none
def Cs {R:Type} (l h:Int) (len:Nat) (κ:Nat→Nat→Option R):Option R :=
 if 0≤l then (if l≤h then (if h≤len then κ l.toNat h.toNat else none) else none) else none
def iy {R:Type} (E:Env) (st:St) (T:Nat) (x:AV) (lo hi mx:Option AV) (κ:Dl→Option R):Option R :=
 match nx E.T T,x with
 | some _,.leaf .nil=>match mx with
  | none=>sG lo 0 fun l=>sG hi 0 fun h=>Cs l h 0 fun _ _=>κ { v:=.leaf .nil }
  | some _=>none
 | some t,.leaf (.view t' xs)=>match mx with
  | none=>fT (.slice t') (.slice t) xs fun xs=>sG lo 0 fun l=>sG hi xs.length fun h=>Cs l h xs.length fun l h=>κ { v:=.leaf (.view t ((xs.take h).drop l)) }
  | some _=>none
 | some t,.leaf (.own o)=>match aj st.h o with
  | .arr _ t' xs=>fT (.slice t') (.slice t) xs fun xs=>sG lo 0 fun l=>sG hi xs.length fun h=>match mx with
   | none=>Cs l h xs.length fun l h=>κ { v:=.leaf (.part o t.n l h),rd:=[o] }
   | some m=>match hi with
    | some _=>sG (some m) 0 fun m=>Cs l h xs.length fun _ _=>if h≤m then (if m≤xs.length then κ { v:=.any,rd:=[o] } else none) else none
    | none=>none
  | _=>none
 | some t,.leaf (.part o n 0 _)=>match aj st.h o with
  | .arr _ t' xs=>fT (.slice t') (.slice t) xs fun xs=>match lo,hi,mx,Nat.beq n t.n with
   | some _,some _,none,true=>sG lo 0 fun l=>sG hi 0 fun h=>Cs l h xs.length fun l h=>κ { v:=.leaf (.part o t.n l h),rd:=[o] }
   | _,_,_,_=>none
  | _=>none
 | _,_=>none
def dR {R:Type} (E:Env) (st:St) (d:Option Nat) (b:Builtin) (args:List AV) (tys:List Nat) (κ:Dl→Option R):Option R :=
 match b,args with
 | .len,[.leaf l]=>match tys with
  | T :: _=>match nx E.T T with
   | some t=>match l with
    | .nil=>κ { v:=.leaf (.int .i64 0) }
    | .view _ xs=>κ { v:=.leaf (.int .i64 xs.length) }
    | .viewN _ xs=>κ { v:=.leaf (.int .i64 xs.length) }
    | .own o=>match aj st.h o with
     | .arr _ _ xs=>κ { v:=.leaf (.int .i64 xs.length),rd:=[o] }
     | _=>none
    | .part _ _ lo hi=>κ { v:=.leaf (.int .i64 ((hi - lo:Nat):Int)) }
    | _=>none
   | none=>none
  | _=>none
 | .cap,[.leaf .nil]=>match tys with
  | T :: _=>match nx E.T T with
   | some _=>κ { v:=.leaf (.int .i64 0) }
   | none=>none
  | _=>none
 | .append,[.leaf s,.leaf x]=>match tys with
  | [T,T']=>match Nat.beq T T' with
   | true=>oB E st d T s x κ
   | false=>Bk E st d T T' s x κ
  | _=>none
 | .clear,[.leaf (.part o n lo hi)]=>match tys with
  | [T]=>match nx E.T T,Ew E.T T,aj st.h o with
   | some t,some te,.arr false t' xs=>fT (.slice t') (.slice t) xs fun xs=>bN st.h t te.zero [] fun z r ws=>match r,ws,t.flat,Nat.beq n t.n with
    | [],[],true,true=>κ { v:=.any,rd:=[o],wr:=[(o,.arr false t (xs.take lo++List.replicate (hi - lo) z++xs.drop hi))] }
    | _,_,_,_=>none
   | _,_,_=>none
  | _=>none
 | .max,[.leaf (.int k a),.leaf (.int _ b)]=>κ { v:=.leaf (.int k (if b > a then b else a)) }
 | .min,[.leaf (.int k a),.leaf (.int _ b)]=>κ { v:=.leaf (.int k (if b < a then b else a)) }
 | _,_=>none
def vy {R:Type} (E:Env) (op:BinOp) (t:Nat) (b:Bool) (κ:Dl→Option R):Option R :=
 match nx E.T t,op with
 | some _,.eql=>κ { v:=.leaf (.bool b) }
 | some _,.neq=>κ { v:=.leaf (.bool (!b)) }
 | _,_=>none
def dC {R:Type} (E:Env) (o:Oper) (st:St) (κ:Dl→Option R):Option R :=
 match o.op with
 | .move x | .assign x=>κ { v:=val st x }
 | .pick c a b=>match val st c with
  | .leaf (.bool c)=>cond c (κ { v:=val st a }) (κ { v:=val st b })
  | _=>none
 | .alloc e=>match iu E.T e,o.dst with
  | some ti,some d=>κ { v:=.leaf (.box (d,0) 0),new:=[.box false ti.zero] }
  | _,_=>none
 | .box _ x=>match o.dst,val st x with
  | some d,.leaf l=>κ { v:=.leaf (.box (d,0) 0),new:=[.box false [l]] }
  | some d,.agg cs=>κ { v:=.leaf (.box (d,0) 0),new:=[.box false cs] }
  | _,_=>none
 | .build t parts=>match iu E.T t with
  | some ti=>match ti.k with
   | .struct fs=>Cr E.T fs st parts.toList ti.zero fun cs=>κ { v:=.agg cs }
   | _=>none
  | none=>none
 | .buildSlice T len parts=>match nx E.T T,o.dst with
  | some t,some d=>match Nat.ble (len * t.n) 10000000 with
   | true=>match R9 E.V d with
    | true=>pT t st parts.toList 0 len fun xs=>κ { v:=.leaf (.view t xs) }
    | false=>pS t st parts.toList 0 len [] fun xs ws=>κ { v:=.leaf (.own (d,0)),rd:=aq ws,wr:=ws,new:=[.arr false t xs] }
   | false=>none
  | _,_=>none
 | .load t a=>match iu E.T t with
  | some ti=>Co st ti (val st a) κ
  | none=>none
 | .store t a v=>match iu E.T t with
  | some ti=>vq (val st v) fun cs=>match Nat.beq cs.length ti.n with
   | true=>vr st (val st a) cs κ
   | false=>none
  | none=>none
 | .nilCheck x=>match val st x with
  | .leaf (.box o off)=>κ { v:=.leaf (.box o off) }
  | .leaf (.elem o n i off)=>κ { v:=.leaf (.elem o n i off) }
  | .leaf (.vis t y off)=>κ { v:=.leaf (.vis t y off) }
  | _=>none
 | .binOp op t x y _=>match val st x,val st y with
  | .leaf (.int k a),.leaf (.int k' b)=>match op with
   | .shr=>if 0≤b then κ { v:=.leaf (.int k (a.fdiv (2 ^ min b.toNat k.bits))) } else none
   | .quo=>if k=k' then (if b=0 then none else κ { v:=.leaf (.int k (k.wrap (a.tdiv b))) }) else none
   | .rem=>if k=k' then (if b=0 then none else κ { v:=.leaf (.int k (a.tmod b)) }) else none
   | op=>if k=k' then (match Id op k a b with
    | some l=>κ { v:=.leaf l }
    | none=>none) else none
  | .leaf (.bool a),.leaf (.bool b)=>match iu E.T t with
   | some ti=>match ti.k,Nk op a b with
    | .bool,some l=>κ { v:=.leaf l }
    | _,_=>none
   | none=>none
  | .leaf .nil,.leaf .nil=>vy E op t true κ
  | .leaf (.viewN _ _),.leaf .nil=>vy E op t false κ
  | .agg cs,.agg ds=>match iu E.T t with
   | some ti=>match ti.k,Nl E.T 100 t cs ds with
    | .struct _,some e=>match op with
     | .eql=>κ { v:=.leaf (.bool e) }
     | .neq=>κ { v:=.leaf (.bool (!e)) }
     | _=>none
    | _,_=>none
   | none=>none
  | _,_=>none
 | .unOp .not _ x=>match val st x with
  | .leaf (.bool b)=>κ { v:=.leaf (.bool (!b)) }
  | _=>none
 | .convert s t x=>match val st x,iu E.T s,iu E.T t with
  | .leaf (.int _ n),some _,some ti=>match ti.k with
   | .int k=>κ { v:=.leaf (.int k (k.wrap n)) }
   | _=>none
  | _,_,_=>none
 | .field s x f=>match iu E.T s with
  | some ti=>match ti.k with
   | .struct fs=>match fs[f]? with
    | some (off,t)=>match iu E.T t,val st x with
     | some te,.agg cs=>nv te.n (wC off cs) fun cs'=>kM te.k cs' fun v=>κ { v }
     | _,_=>none
    | none=>none
   | _=>none
  | none=>none
 | .fieldAddr s x f=>match iu E.T s with
  | some ti=>match ti.k with
   | .struct fs=>match fs[f]? with
    | some (off,_)=>match val st x with
     | .leaf (.box o o')=>κ { v:=.leaf (.box o (o' + off)) }
     | .leaf (.vis t y o')=>κ { v:=.leaf (.vis t y (o' + off)) }
     | .leaf (.elem o n i o')=>κ { v:=.leaf (.elem o n i (o' + off)) }
     | _=>none
    | none=>none
   | _=>none
  | none=>none
 | .indexAddr T x i=>match nx E.T T,val st x,val st i with
  | some t',.leaf (.view t xs),.leaf (.int _ i)=>if t'=t then idx xs i fun y=>κ { v:=.leaf (.vis t y 0) } else none
  | some t',.leaf (.own o),.leaf (.int _ i)=>match aj st.h o with
   | .arr _ t xs=>if t'=t then idx xs i fun _=>κ { v:=.leaf (.elem o t.n i.toNat 0),rd:=[o] } else none
   | _=>none
  | _,_,_=>none
 | .makeSlice T x y=>If E st o.dst T x y κ
 | .slice T x lo hi mx=>iy E st T (val st x) (lo.map (val st)) (hi.map (val st)) (mx.map (val st)) κ
 | .makeFunc (.func f) first caps=>match first.toList with
  | []=>capsK st caps.toList fun cs=>κ { v:=.leaf (.fn f cs) }
  | _=>none
 | .extract t i=>match val st t with
  | .tup vs=>match vs[i]? with
   | some (true,cs)=>κ { v:=.agg cs }
   | some (false,[l])=>κ { v:=.leaf l }
   | _=>none
  | _=>none
 | .call c=>match c.callee with
  | .builtin b=>dR E st o.dst b (c.args.toList.map (val st)) c.argTypes.toList κ
  | .value f=>match val st f with
   | .leaf (.fn f [])=>wD E st o.dst f (c.args.toList.map (val st)) κ
   | .leaf (.fnd a r p)=>aJ E st.h a (c.args.toList.map (val st)) [] fun x os=>(p x).bind fun y=>match r.flat with
    | true=>cU r y [] fun cs=>κ { v:=cV r cs,rd:=os }
    | false=>none
   | _=>none
  | _=>none
 | _=>none
 where capsK {R:Type} (st:St):List Operand→(List Hd→Option R)→Option R
 | [],κ=>κ []
 | x :: r,κ=>match val st x with
  | .leaf (.box o 0)=>capsK st r fun cs=>κ (o :: cs)
  | _=>none
def QD {R:Type} (dsts:List (Option Nat)) (o:Oper) (st:St) (κ:Bool→St→Option R):Option R :=
 match o.guard with
 | none=>κ true st
 | some (j,want)=>match dsts[j]? with
  | some (some t)=>match cZ st.t t with
   | .leaf (.bool b)=>cond b (xS st.t t (.leaf (.bool true)) fun t=>κ (want == true) { st with t }) (xS st.t t (.leaf (.bool false)) fun t=>κ (want == false) { st with t })
   | .skip=>κ false st
   | _=>none
  | _=>none
abbrev OT:=List Hd×List Hd
def Ig (h:List (List aw)):List (Hd×aw)→Bool
 | []=>true
 | (o,x) :: r=>(match aj h o,x with
  | .none,_=>false
  | _,.none=>false
  | _,_=>true) && !Bi r o && Ig h r
def Cu {R:Type} (E:Env) (dsts:List (Option Nat)):List Oper→St→(St→List OT→Option R)→Option R
 | [],st,κ=>κ st []
 | o :: r,st,κ=>QD dsts o st fun b st=>match b with
  | true=>dC E o st fun δ=>match Ig st.h δ.wr with
   | true=>app o.dst δ st fun st=>Cu E dsts r st fun st fs=>κ st ((δ.rd++aq δ.wr,aq δ.wr) :: fs)
   | false=>none
  | false=>app o.dst { v:=.skip } st fun st=>Cu E dsts r st fun st fs=>κ st (([],[]) :: fs)
def nC:List Operand→List Nat
 | []=>[]
 | .tmp i :: r=>i :: nC r
 | _ :: r=>nC r
def iz:Op→List Operand
 | .move x | .assign x | .box _ x | .load _ x | .nilCheck x | .unOp _ _ x | .convert _ _ x | .field _ x _ | .fieldAddr _ x _ | .extract x _=>[x]
 | .pick c a b=>[c,a,b]
 | .build _ parts | .buildSlice _ _ parts=>parts.toList.map (·.2)
 | .store _ a v=>[a,v]
 | .binOp _ _ x y _=>[x,y]
 | .makeSlice _ x y=>[x,y]
 | .slice _ x lo hi mx=>x :: (lo.toList++(hi.toList++mx.toList))
 | .indexAddr _ x i=>[x,i]
 | .makeFunc _ _ caps=>caps.toList
 | .call c=>(match c.callee with | .value f=>[f] | _=>[])++c.args.toList
 | _=>[]
def kN (dsts:List (Option Nat)) (o:Oper):List Nat :=
 match o.guard with
 | some (j,_)=>match dsts[j]? with
  | some (some t)=>t :: nC (iz o.op)
  | _=>nC (iz o.op)
 | none=>nC (iz o.op)
def Ey:List Edge→List Nat
 | []=>[]
 | e :: r=>match e.ground with
  | .textOnly _ | .gcOnly _=>Ey r
  | _=>e.on :: Ey r
def jY (o:Oper):List Nat:=Ey o.after.toList
def AP (i:Nat):List Nat→Bool
 | []=>true
 | j :: r=>Nat.blt j i && AP i r
def Cv:List Nat→List Nat→Nat
 | [],_=>0
 | j :: js,acc=>Nat.lor (Nat.lor (Nat.shiftLeft 1 j) (acc.getD j 0)) (Cv js acc)
def No:List Oper→List Nat→List Nat
 | [],acc=>acc
 | o :: r,acc=>No r (acc++[Cv (jY o) acc])
def Ih:List Hd→Nat→Bool
 | [],_=>false
 | (d,_) :: r,b=>Nat.beq d b || Ih r b
def OU:List Hd→List Hd→Bool
 | [],_=>false
 | a :: r,l=>vu l a || OU r l
structure Opd where
 dst:Option Nat
 uses:List Nat
 foot:OT
def OV (x y:Opd):Bool :=
 (match x.dst with
 | none=>true
 | some d=>!R9 y.uses d && !Ih y.foot.1 d && (match y.dst with
  | some e=>!Nat.beq d e
  | none=>true)) && !OU x.foot.2 y.foot.1
def SU (dsts:List (Option Nat)):List Oper→List OT→List Opd
 | o :: os,f :: fs=>⟨o.dst,kN dsts o,f⟩ :: SU dsts os fs
 | _,_=>[]
def H2 (x:Opd) (c:Nat):Nat→List Opd→Bool
 | _,[]=>true
 | j,y :: r=>(Nat.testBit c j || (OV x y && OV y x)) && H2 x c (j + 1) r
def Ii:List Nat→List Opd→List Opd→Bool
 | c :: cs,all,x :: xs=>H2 x c 0 all && Ii cs (all++[x]) xs
 | _,_,[]=>true
 | [],_,_ :: _=>false
def zK:Nat→List Oper→Bool
 | _,[]=>true
 | i,o :: r=>AP i (jY o) && zK (i + 1) r
def OW (dsts:List (Option Nat)) (os:List Oper) (fs:List OT):Bool :=
 zK 0 os && Ii (No os []) [] (SU dsts os fs)
def Cw {R:Type} (E:Env) (os:List Oper) (draw:Bool) (st:St) (κ:St→Option R):Option R :=
 let dsts:=os.map (·.dst)
 Cu E dsts os st fun st fs=>match draw with
  | false=>κ st
  | true=>match OW dsts os fs with
   | true=>κ st
   | false=>none
def SV {R:Type} (E:Env) (ld mv cl:Oper) (st:St) (κ:St→Option R):Option R :=
 match ld.op,mv.op,cl.op with
 | .load T adr,.move x,.call c=>match ld.guard,mv.guard,cl.guard,ld.dst,mv.dst,cl.dst with
  | none,none,none,some d1,some d2,some d3=>match iu E.T T,val st adr,c.callee,c.args.toList with
   | some ti,.leaf (.elem o n i off),.value (.func f),[.tmp b1,.tmp b2]=>xS st.t d1 .any fun t1 =>
    match ti.k,val ⟨t1,st.h⟩ x,aj st.h o,iu E.G f with
    | .slice _,.leaf (.int k m),.arr false t xs,some (.mut [.lent,.rd] true _ (.pair (.slice u) (.pair (.int k') .unit)) (.int k2) F) =>
     match Nat.beq n t.n && Nat.beq ti.n 1 && Nat.beq d1 b1 && Nat.beq d2 b2 && !Nat.beq d1 d2 && u.noVw with
     | true=>if k=k' then xS t1 d2 (.leaf (.int k m)) fun t2=>xs[i]?.bind fun x0=>lL t x0 off u fun ys=>(F (ys,m,())).bind fun y=>pR t x0 off u y.2.1 fun z =>
       QB st.h o (.arr false t (xs.set i z)) fun h=>xS t2 d3 (.leaf (.int k2 y.1)) fun t3=>κ ⟨t3,h⟩
      else none
     | false=>none
    | _,_,_,_=>none
   | _,_,_,_=>none
  | _,_,_,_,_,_=>none
 | _,_,_=>none
def QE {R:Type} (E:Env) (os:List Oper) (k:Nat) (st:St) (κ:St→Option R):Option R :=
 Cu E (os.map (·.dst)) (os.take k) st fun st _=>match os.drop k with
 | ld :: mv :: cl :: post=>SV E ld mv cl st fun st=>Cu E (os.map (·.dst)) post st fun st _=>κ st
 | _=>none
end
end Go.Abs
