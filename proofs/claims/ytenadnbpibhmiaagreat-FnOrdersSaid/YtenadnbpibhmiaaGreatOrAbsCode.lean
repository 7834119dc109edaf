/- Part of a proof of FnOrders: see the row. -/
import Derived.Test.YtenadnbpibhmiaaGreatOrAbsEv
set_option linter.unusedVariables false
set_option linter.unusedSimpArgs false
namespace Go.Abs
inductive Place where
 | tmp (i:Nat) (t:Ty)
 | tmpO (i j:Nat) (t:Ty)
 | box (d j:Nat) (t:Ty)
 | boxO (d j k:Nat) (t:Ty) (fl:List Leaf:=[])
@[reducible] def Place.ty:Place→Ty
 | .tmp _ t | .tmpO _ _ t | .box _ _ t | .boxO _ _ _ t _=>t
@[reducible] def PS:List Place→Ty
 | []=>.unit
 | [p]=>p.ty
 | p :: q :: r=>.pair p.ty (PS (q :: r))
structure Hint where
 out:List Place
 outs:List (Option Nat)
 ret:Option (List Place):=none
 free:List Hd:=[]
inductive Hints where
 | none
 | node (cut lp:Option Hint) (a b:Hints)
def Hints.cut:Hints→Option Hint
 | .none=>.none
 | .node c _ _ _=>c
def Hints.lp:Hints→Option Hint
 | .none=>.none
 | .node _ l _ _=>l
def Hints.a:Hints→Hints
 | .none=>.none
 | .node _ _ a _=>a
def Hints.b:Hints→Hints
 | .none=>.none
 | .node _ _ _ b=>b
def Mb {α R:Type}:List α→Nat→α→(List α→Option R)→Option R
 | [],_,_,_=>none
 | _ :: r,0,v,κ=>κ (v :: r)
 | a :: r,n + 1,v,κ=>Mb r n v fun r'=>κ (a :: r')
def PF {R:Type}:Nat→List aB→(List aB→Option R)→Option R
 | 0,[],κ=>κ []
 | 0,_ :: _,_=>none
 | n + 1,[],κ=>PF n [] fun r=>κ (.dead :: r)
 | n + 1,a :: l,κ=>PF n l fun r=>κ (a :: r)
def Lp {α:Type} (r:List Leaf) (os:List Hd) (k:Option α):Option α :=
 match r,os with
 | [],[]=>k
 | _,_=>none
def Tn:List Hd→List Hd→Bool
 | [],[]=>true
 | (a,b) :: r,(c,d) :: s=>match Nat.beq a c,Nat.beq b d with
  | true,true=>Tn r s
  | _,_=>false
 | _,_=>false
def To {R:Type}:List Leaf→List Leaf→Option R→Option R
 | [],[],k=>k
 | .fn f cs :: r,.fn g ds :: s,k=>match Nat.beq f g,Tn cs ds with
  | true,true=>To r s k
  | _,_=>none
 | _,_,_=>none
def EU:List Leaf→Bool
 | []=>true
 | .fn _ _ :: r=>EU r
 | _=>false
def qN:List Leaf→List Hd
 | []=>[]
 | .fn _ cs :: r=>cs++qN r
 | _ :: r=>qN r
def Place.caps:Place→List Hd
 | .boxO _ _ _ _ fl=>qN fl
 | _=>[]
def xx:List Place→List Hd
 | []=>[]
 | p :: r=>p.caps++xx r
def pC (h:List (List aB)):List Hd→Bool
 | []=>true
 | q :: r=>match al h q with
  | .none=>false
  | _=>pC h r
def qO {R:Type} (st:St):(p:Place)→List (Hd×aB)→(p.ty.D→List (Hd×aB)→Option R)→Option R
 | .tmp i t,ws,κ=>it t (dx st.t i) fun cs=>bK st.h t cs [] fun x r os=>Lp r os (κ x ws)
 | .tmpO i _ t,ws,κ=>it t (dx st.t i) fun cs=>b8 st.h t cs ws fun x r ws=>jW r (κ x ws)
 | .box d j t,ws,κ=>match al st.h (d,j),BJ ws (d,j) with
  | .box false cs,false=>bK st.h t cs [] fun x r os=>Lp r os (κ x (((d,j),.dead) :: ws))
  | _,_=>none
 | .boxO d j _ t fl,ws,κ=>match al st.h (d,j),BJ ws (d,j) with
  | .box false cs,false=>b8 st.h t cs (((d,j),.dead) :: ws) fun x r ws=>To r fl (κ x ws)
  | _,_=>none
def og {R:Type} (st:St):(p:Place)→p.ty.D→(St→Option R)→Option R
 | .tmp i t,x,κ=>dm t x [] fun cs=>Mb st.t i (dn t cs) fun t=>κ { st with t }
 | .tmpO i j t,x,κ=>PF j (bL st.h i) fun os=>iU i t x os fun cs os'=>Mb st.h i os' fun h=>Mb st.t i (dn t cs) fun t=>κ ⟨t,h⟩
 | .box d j t,x,κ=>match al st.h (d,j) with
  | .dead=>dm t x [] fun cs=>Pl st.h (d,j) (.box false cs) fun h=>κ { st with h }
  | _=>none
 | .boxO d j k t fl,x,κ=>match al st.h (d,j),EU fl with
  | .dead,true=>PF k (bL st.h d) fun os=>iU d t x os fun cs os'=>RJ cs fl fun cs=>Mb st.h d os' fun h=>Pl h (d,j) (.box false cs) fun h=>κ { st with h }
  | _,_=>none
def wk {R:Type} (st:St):(l:List Place)→List (Hd×aB)→((PS l).D→List (Hd×aB)→Option R)→Option R
 | [],ws,κ=>κ () ws
 | [p],ws,κ=>qO st p ws κ
 | p :: q :: r,ws,κ=>qO st p ws fun x ws=>wk st (q :: r) ws fun y ws=>κ (x,y) ws
def C9 {R:Type} (st:St):(l:List Place)→(PS l).D→(St→Option R)→Option R
 | [],_,κ=>κ st
 | [p],x,κ=>og st p x κ
 | p :: q :: r,x,κ=>og st p x.1 fun st=>C9 st (q :: r) x.2 κ
def tV {R:Type} (st:St) (l:List Place) (x:(PS l).D) (κ:St→Option R):Option R :=
 match pC st.h (xx l) with
 | true=>C9 st l x κ
 | false=>none
def Bg:List Oper→List Nat
 | []=>[]
 | o :: r=>match o.dst with
  | some d=>d :: Bg r
  | none=>Bg r
def cy:Code→List Nat
 | .region _ ops _=>Bg ops.toList
 | .seq a b=>cy a++cy b
 | .cond _ a b=>cy a++cy b
 | .block _ a=>cy a
 | .loop a=>cy a
 | .scope a=>cy a
 | _=>[]
def Lq:List Oper→Nat→Nat
 | [],m=>m
 | o :: r,m=>match o.dst with
  | some d=>Lq r (Nat.lor m (Nat.shiftLeft 1 d))
  | none=>Lq r m
def em:Code→Nat→Nat
 | .region _ ops _,m=>Lq ops.toList m
 | .seq a b,m=>em b (em a m)
 | .cond _ a b,m=>em b (em a m)
 | .block _ a,m=>em a m
 | .loop a,m=>em a m
 | .scope a,m=>em a m
 | _,m=>m
def HY {R:Type} (m:Nat):Nat→List AV→(List AV→Option R)→Option R
 | _,[],κ=>κ []
 | i,a :: r,κ=>match Nat.testBit m i with
  | true=>HY m (i + 1) r fun r'=>κ (.any :: r')
  | false=>HY m (i + 1) r fun r'=>κ (a :: r')
def fA:aB→aB
 | .box _ cs=>.box true cs
 | .arr _ t xs=>.arr true t xs
 | o=>o
def F6 {R:Type} (free:List Hd) (d:Nat):Nat→List aB→(List aB→Option R)→Option R
 | _,[],κ=>κ []
 | j,o :: r,κ=>match wc free (d,j) with
  | true=>F6 free d (j + 1) r fun r'=>κ (o :: r')
  | false=>match o with
   | .box _ cs=>F6 free d (j + 1) r fun r'=>κ (.box true cs :: r')
   | .arr _ t xs=>F6 free d (j + 1) r fun r'=>κ (.arr true t xs :: r')
   | .none=>F6 free d (j + 1) r fun r'=>κ (.none :: r')
   | .dead=>F6 free d (j + 1) r fun r'=>κ (.dead :: r')
def F7 {R:Type} (free:List Hd):Nat→List (List aB)→(List (List aB)→Option R)→Option R
 | _,[],κ=>κ []
 | d,[] :: r,κ=>F7 free (d + 1) r fun r'=>κ ([] :: r')
 | d,l :: r,κ=>F6 free d 0 l fun l'=>F7 free (d + 1) r fun r'=>κ (l' :: r')
inductive Ex where
 | normal
 | exit (id:Nat)
 | ret
@[reducible] def PG (S R:Type) (b:Bool):List (Option Nat)→Type
 | []=>match b with
  | true=>R
  | false=>Empty
 | _ :: r=>match r,b with
  | [],false=>S
  | _,_=>S⊕PG S R b r
def PH:Option Nat→Option Nat→Bool
 | none,none=>true
 | some a,some b=>Nat.beq a b
 | _,_=>false
def inS {S R T:Type} (b:Bool):(l:List (Option Nat))→Option Nat→S→(PG S R b l→Option T)→Option T
 | [],_,_,_=>none
 | [o],e,s,κ=>match b,κ with
  | false,κ=>match PH o e with
   | true=>κ s
   | false=>none
  | true,κ=>match PH o e with
   | true=>κ (.inl s)
   | false=>none
 | o :: p :: r,e,s,κ=>match PH o e with
  | true=>κ (.inl s)
  | false=>inS b (p :: r) e s fun x=>κ (.inr x)
def inR {S R T:Type} (b:Bool):(l:List (Option Nat))→R→(PG S R b l→Option T)→Option T
 | [],r,κ=>match b,κ with
  | true,κ=>κ r
  | false,_=>none
 | [_],r,κ=>match b,κ with
  | true,κ=>κ (.inr r)
  | false,_=>none
 | _ :: p :: l,r,κ=>inR b (p :: l) r fun x=>κ (.inr x)
def Tp {S R T:Type} (b:Bool):(l:List (Option Nat))→PG S R b l→(Option Nat→S→Option T)→(R→Option T)→Option T
 | [],x,_,κr=>match b,x with
  | true,x=>κr x
  | false,_=>none
 | [o],x,κs,κr=>match b,x with
  | false,x=>κs o x
  | true,.inl s=>κs o s
  | true,.inr r=>κr r
 | o :: p :: l,x,κs,κr=>match x with
  | .inl s=>κs o s
  | .inr y=>Tp b (p :: l) y κs κr
@[reducible] def Hint.rp (H:Hint):List Place:=H.ret.getD []
@[reducible] def Hint.D (H:Hint):Type:=PG (PS H.out).D (PS H.rp).D H.ret.isSome H.outs
def Ex.code:Option Nat→Ex
 | none=>.normal
 | some id=>.exit id
def tW {T:Type} (H:Hint) (e:Ex) (st:St) (κ:H.D→Option T):Option T :=
 match e with
 | .normal=>wk st H.out [] fun s _=>inS H.ret.isSome H.outs none s κ
 | .exit id=>wk st H.out [] fun s _=>inS H.ret.isSome H.outs (some id) s κ
 | .ret=>wk st H.rp [] fun r _=>inR H.ret.isSome H.outs r κ
def EV {T:Type} (H:Hint) (st:St) (o:H.D) (κ:Ex→St→Option T):Option T :=
 Tp H.ret.isSome H.outs o (fun e s=>tV st H.out s fun st=>κ (Ex.code e) st) fun r=>tV st H.rp r fun st=>κ .ret st
noncomputable section
open Classical in
def aw {S R:Type} (body:S→Option (S⊕R)) (s:S):Option R :=
 if h:∃ r n,iter body n s=some (.inr r) then some h.choose else none
 where iter (body:S→Option (S⊕R)):Nat→S→Option (S⊕R)
 | 0,s=>some (.inl s)
 | n + 1,s=>(body s).bind fun
  | .inl s'=>iter body n s'
  | .inr r=>some (.inr r)
def xy:List Hd→List (Hd×aB)
 | []=>[]
 | q :: r=>(q,.dead) :: xy r
def Mc (h:List (List aB)):List Hd→Bool
 | []=>true
 | q :: r=>(match al h q with
  | .box false _=>true
  | .arr false _ _=>true
  | _=>false) && !wc r q && Mc h r
def Ts {T:Type} (H:Hint) (mask:Nat) (run:{R:Type}→St→(Ex→St→Option R)→Option R) (st:St) (κ:Ex→St→Option T):Option T :=
 match Mc st.h H.free with
 | true=>F7 H.free 0 st.h fun h=>(run (R:=H.D) ⟨st.t,h⟩ fun e st2=>tW H e st2 some).bind fun o =>
  HY mask 0 st.t fun t=>FT (xy H.free) st.h fun h=>EV H ⟨t,h⟩ o κ
 | false=>none
def HZ {T:Type} (cut:Option Hint) (c:Code) (run:{R:Type}→St→(Ex→St→Option R)→Option R) (st:St) (κ:Ex→St→Option T):Option T :=
 match cut with
 | none=>run st κ
 | some H=>Ts H (em c 0) run st κ
def PI (H:Hint) (run:{R:Type}→St→(Ex→St→Option R)→Option R) (base:St) (s:(PS H.out).D):Option ((PS H.out).D⊕H.D) :=
 tV base H.out s fun st1=>run st1 fun e st2=>match e with
  | .normal=>wk st2 H.out [] fun s _=>some (.inl s)
  | .exit id=>tW H (.exit id) st2 fun o=>some (.inr o)
  | .ret=>tW H .ret st2 fun o=>some (.inr o)
def QA {T:Type} (H:Hint) (mask:Nat) (run:{R:Type}→St→(Ex→St→Option R)→Option R) (st:St) (κ:Ex→St→Option T):Option T :=
 wk st H.out [] fun s0 ws=>HY mask 0 st.t fun t=>FT ws st.h fun h1=>F7 [] 0 h1 fun h2 =>
  (aw (PI H run ⟨t,h2⟩) s0).bind fun o=>EV H ⟨t,h1⟩ o κ
def PJ:Option Hint→Bool→Option Nat
 | some ⟨_,_,_,(k,_) :: _⟩,false=>some k
 | _,_=>none
def Sx:Bool→Option Hint→Bool→Option Nat
 | true,some ⟨_,[some k],_,[]⟩,false=>some k
 | _,_,_=>none
theorem PK {z:Bool} {h:Option Hint} {draw:Bool} {k:Nat} (e:Sx z h draw=some k):draw=false∧z=true:=by
 unfold Sx at e
 split at e
 ·exact ⟨rfl,rfl⟩
 ·cases e
theorem NX {h:Option Hint} {draw:Bool} {k:Nat} (e:PJ h draw=some k):draw=false:=by
 unfold PJ at e
 split at e
 ·rfl
 ·cases e
def QB {R:Type} (o:Hd) (x:Leaf) (l:Leaf) (κ:Leaf→Option R):Option R :=
 match l with
 | .own p=>match Nat.beq p.1 o.1,Nat.beq p.2 o.2 with
  | true,true=>κ x
  | _,_=>κ (.own p)
 | l=>κ l
def NY {R:Type} (o:Hd) (x:Leaf):List Leaf→(List Leaf→Option R)→Option R
 | [],κ=>κ []
 | l :: r,κ=>QB o x l fun l'=>NY o x r fun r'=>κ (l' :: r')
def Lr {R:Type} (o:Hd) (x:Leaf):List AV→(List AV→Option R)→Option R
 | [],κ=>κ []
 | .leaf l :: r,κ=>QB o x l fun l'=>Lr o x r fun r'=>κ (.leaf l' :: r')
 | .agg cs :: r,κ=>NY o x cs fun cs'=>Lr o x r fun r'=>κ (.agg cs' :: r')
 | v :: r,κ=>Lr o x r fun r'=>κ (v :: r')
def Bh {R:Type} (o:Hd) (x:Leaf) (d:Nat):Nat→List aB→(List aB→Option R)→Option R
 | _,[],κ=>κ []
 | j,.box false cs :: r,κ=>NY o x cs fun cs'=>Bh o x d (j + 1) r fun r'=>κ (.box false cs' :: r')
 | j,.arr ro t xs :: r,κ=>match Nat.beq d o.1,Nat.beq j o.2 with
  | true,true=>Bh o x d (j + 1) r fun r'=>κ (.dead :: r')
  | _,_=>Bh o x d (j + 1) r fun r'=>κ (.arr ro t xs :: r')
 | j,v :: r,κ=>Bh o x d (j + 1) r fun r'=>κ (v :: r')
def QC {R:Type} (o:Hd) (x:Leaf):Nat→List (List aB)→(List (List aB)→Option R)→Option R
 | _,[],κ=>κ []
 | d,l :: r,κ=>Bh o x d 0 l fun l'=>QC o x (d + 1) r fun r'=>κ (l' :: r')
def Me {R:Type}:List Hd→St→(St→Option R)→Option R
 | [],st,κ=>κ st
 | o :: r,st,κ=>match al st.h o with
  | .arr false t xs=>Lr o (.view t xs) st.t fun t'=>QC o (.view t xs) 0 st.h fun h'=>Me r ⟨t',h'⟩ κ
  | _=>none
def T0:Bool→Hints→List Hd
 | true,.node (some H) _ _ _=>H.free
 | _,_=>[]
def Mf {R:Type}:List Place→St→(St→Option R)→Option R
 | [],st,κ=>κ st
 | .boxO d j _ t _ :: r,st,κ=>match al st.h (d,j),t.cop with
  | .arr false t' xs,true=>qM t' t xs fun ys=>Pl st.h (d,j) (.arr false t ys) fun h=>Mf r ⟨st.t,h⟩ κ
  | _,_=>none
 | _ :: _,_,_=>none
def QD:Bool→Hints→List Place
 | true,.node (some H) _ _ _=>H.out
 | _,_=>[]
def pD (q:Hd):List (FuncId×Bool)→List Leaf
 | []=>[]
 | (f,true) :: r=>.fn f [q] :: pD q r
 | (f,false) :: r=>.fn f [] :: pD q r
def Sy:List Leaf→Hd
 | []=>(1000000,0)
 | .fn _ [q] :: _=>q
 | _ :: r=>Sy r
def eqH (p q:Hd):Bool:=Nat.beq p.1 q.1 && Nat.beq p.2 q.2
def Da (h:List (List aB)) (q o:Hd):Bool :=
 match al h q with
 | .box _ [.box p 0]=>eqH p o
 | _=>false
def QE {R:Type} (st:St) (via:Bool) (caps:List Hd) (vs:List AV) (κ:Hd→Hd→List AV→Option R):Option R :=
 match via,caps,vs with
 | false,[],.leaf (.box o 0) :: vs=>match al st.h o with
  | .box false cs=>κ o (Sy cs) vs
  | _=>none
 | true,[q],vs=>match al st.h q with
  | .box _ [.box o 0]=>κ o q vs
  | _=>none
 | _,_,_=>none
def Tt {R:Type} (one:Bool) (d:Option Nat) (r:Ty) (z:r.D) (t:List AV) (κ:List AV→Option R):Option R :=
 match d,one with
 | none,_=>κ t
 | some d,true=>dm r z [] fun cs=>yj t d (dn r cs) κ
 | some d,false=>Ay r z fun vs=>yj t d (.tup vs) κ
def Ug {R:Type} (E:Env) (cl:Oper) (st:St) (κ:St→Option R):Option R :=
 match cl.op,cl.guard with
 | .call c,none=>match c.callee with
  | .value v=>match val st v with
   | .leaf (.fn f caps)=>match iS E.G f with
    | some (.run t fs sf via one a r F)=>QE st via caps (c.args.toList.map (val st)) fun o q vs =>
     match !sf || Da st.h q o,r.flat with
     | true,true=>qO st (.boxO o.1 o.2 0 t (pD q fs)) [] fun x ws=>aU E st.h a vs [] fun y os=>match BK os,BJ ws q with
      | true,false=>(F x y).bind fun z=>FT ws st.h fun h=>Tt one cl.dst r z.1 st.t fun t'=>tV ⟨t',h⟩ [.boxO o.1 o.2 (LU (bL h o.1)) t (pD q fs)] z.2 κ
      | _,_=>none
     | _,_=>none
    | _=>none
   | _=>none
  | _=>none
 | _,_=>none
def Sz {R:Type} (E:Env) (os:List Oper) (k:Nat) (st:St) (κ:St→Option R):Option R :=
 CQ E (os.map (·.dst)) (os.take k) st fun st _=>match os.drop k with
 | cl :: post=>Ug E cl st fun st=>CQ E (os.map (·.dst)) post st fun st _=>κ st
 | _=>none
def ev (E:Env):Code→Hints→{R:Type}→St→(Ex→St→Option R)→Option R
 | .skip,_,_,st,κ=>κ .normal st
 | .ret,_,_,st,κ=>κ .ret st
 | .exit id,_,_,st,κ=>κ (.exit id) st
 | .region id ops draw,h,_,st,κ=>Me (T0 E.Z h.a) st fun st=>Mf (QD E.Z h.a) st fun st=>match PJ h.lp draw with
  | some k=>Po E ops.toList k st fun st=>κ .normal st
  | none=>match Sx E.Z h.lp draw with
   | some k=>Sz E ops.toList k st fun st=>κ .normal st
   | none=>HZ h.cut (.region id ops draw) (fun st κ=>CS E ops.toList draw st fun st=>κ .normal st) st κ
 | .seq a b,h,_,st,κ=>HZ h.cut (.seq a b) (fun st κ=>ev E a h.a st fun e st=>match e with
  | .normal=>ev E b h.b st κ
  | e=>κ e st) st κ
 | .cond c a b,h,_,st,κ=>HZ h.cut (.cond c a b) (fun st κ=>match val st c with
  | .leaf (.bool x)=>cond x (ev E a h.a st κ) (ev E b h.b st κ)
  | _=>none) st κ
 | .block id a,h,_,st,κ=>HZ h.cut (.block id a) (fun st κ=>ev E a h.a st fun e st=>match e with
  | .exit id'=>match Nat.beq id' id with
   | true=>κ .normal st
   | false=>κ (.exit id') st
  | e=>κ e st) st κ
 | .loop a,h,_,st,κ=>match h.lp with
  | none=>none
  | some H=>QA H (em a 0) (fun st κ=>ev E a h.a st κ) st κ
 | _,_,_,_,_=>none
end
end Go.Abs
namespace Go.Abs
def iH:(a:Ty)→a.D→List AV
 | .pair t r,x=>dm t x.1 [] (fun cs=>dn t cs) :: iH r x.2
 | _,_=>[]
def wl:(c:Ty)→c.D→List AV
 | .pair t r,z=>.leaf (.vis t z.1 0) :: wl r z.2
 | _,_=>[]
def gW (avs:List AV) (n:Nat):St:=⟨avs++List.replicate (n - avs.length) .any,List.replicate n []⟩
def vr {R:Type} (T:Tab) (st:St):List ResultVar→(List AV→Option R)→Option R
 | [],κ=>κ []
 | .tmp i :: r,κ=>vr T st r fun vs=>κ (dx st.t i :: vs)
 | .cell i t :: r,κ=>match iS T t,dx st.t i with
  | some ti,.leaf (.box o off)=>match al st.h o with
   | .box _ cs=>nP ti.n (xn off cs) fun cs'=>lh ti.k cs' fun v=>vr T st r fun vs=>κ (v :: vs)
   | _=>none
  | _,_=>none
def nR {R:Type} (h:List (List aB)):(r:Ty)→List AV→List Hd→(r.D→List Hd→Option R)→Option R
 | .unit,[],os,κ=>κ () os
 | .pair a b,v :: vs,os,κ=>it a v fun cs=>bK h a cs os fun x rest os=>jW rest (nR h b vs os fun y os=>κ (x,y) os)
 | _,_,_,_=>none
def jO {R:Type} (h:List (List aB)):(r:Ty)→List AV→List (Hd×aB)→(r.D→List (Hd×aB)→Option R)→Option R
 | .unit,[],ws,κ=>κ () ws
 | .pair a b,v :: vs,ws,κ=>it a v fun cs=>b8 h a cs ws fun x rest ws=>jW rest (jO h b vs ws fun y ws=>κ (x,y) ws)
 | _,_,_,_=>none
def nvK {R:Type} (b:Bool) (k:Option R):Option R :=
 match b with
 | true=>k
 | false=>none
def Gx (T:Tab) (one fresh:Bool) (rvs:List ResultVar) (r:Ty) (e:Ex) (st:St):Option r.D :=
 match e with
 | .exit _=>none
 | _=>vr T st rvs fun vs=>match one,fresh with
  | true,false=>match vs with
   | [v]=>it r v fun cs=>bK st.h r cs [] fun x rest _=>jW rest (some x)
   | _=>none
  | true,true=>match vs with
   | [v]=>it r v fun cs=>b8 st.h r cs [] fun x rest _=>jW rest (nvK r.noVw (some x))
   | _=>none
  | false,false=>nR st.h r vs [] fun x _=>some x
  | false,true=>jO st.h r vs [] fun x _=>nvK r.noVw (some x)
end Go.Abs
