/- Part of a proof of FnExactPlay: see the row. -/
import Derived.Test.YtenadnbpibhmiaaGreatPlAbsEv
set_option linter.unusedVariables false
set_option linter.unusedSimpArgs false
namespace Go.Abs
inductive Place where
 | tmp (i:Nat) (t:Ty)
 | tmpO (i j:Nat) (t:Ty)
 | box (d j:Nat) (t:Ty)
 | boxO (d j k:Nat) (t:Ty) (fl:List Leaf:=[])
@[reducible] def Place.ty:Place→Ty
 | .tmp _ t | .tmpO _ _ t | .box _ _ t | .boxO _ _ _ t _=>t
@[reducible] def PS:List Place→Ty
 | []=>.unit
 | [p]=>p.ty
 | p :: q :: r=>.pair p.ty (PS (q :: r))
structure Hint where
 out:List Place
 outs:List (Option Nat)
 ret:Option (List Place):=none
 free:List Hd:=[]
inductive Hints where
 | none
 | node (cut lp:Option Hint) (a b:Hints)
def Hints.cut:Hints→Option Hint
 | .none=>.none
 | .node c _ _ _=>c
def Hints.lp:Hints→Option Hint
 | .none=>.none
 | .node _ l _ _=>l
def Hints.a:Hints→Hints
 | .none=>.none
 | .node _ _ a _=>a
def Hints.b:Hints→Hints
 | .none=>.none
 | .node _ _ _ b=>b
def ND {α R:Type}:List α→Nat→α→(List α→Option R)→Option R
 | [],_,_,_=>none
 | _ :: r,0,v,κ=>κ (v :: r)
 | a :: r,n + 1,v,κ=>ND r n v fun r'=>κ (a :: r')
def QV {R:Type}:Nat→List aw→(List aw→Option R)→Option R
 | 0,[],κ=>κ []
 | 0,_ :: _,_=>none
 | n + 1,[],κ=>QV n [] fun r=>κ (.dead :: r)
 | n + 1,a :: l,κ=>QV n l fun r=>κ (a :: r)
def RM {α:Type} (r:List Leaf) (os:List Hd) (k:Option α):Option α :=
 match r,os with
 | [],[]=>k
 | _,_=>none
def Us:List Hd→List Hd→Bool
 | [],[]=>true
 | (a,b) :: r,(c,d) :: s=>match Nat.beq a c,Nat.beq b d with
  | true,true=>Us r s
  | _,_=>false
 | _,_=>false
def Ut {R:Type}:List Leaf→List Leaf→Option R→Option R
 | [],[],k=>k
 | .fn f cs :: r,.fn g ds :: s,k=>match Nat.beq f g,Us cs ds with
  | true,true=>Ut r s k
  | _,_=>none
 | _,_,_=>none
def EL:List Leaf→Bool
 | []=>true
 | .fn _ _ :: r=>EL r
 | _=>false
def qj:List Leaf→List Hd
 | []=>[]
 | .fn _ cs :: r=>cs++qj r
 | _ :: r=>qj r
def Place.caps:Place→List Hd
 | .boxO _ _ _ _ fl=>qj fl
 | _=>[]
def wG:List Place→List Hd
 | []=>[]
 | p :: r=>p.caps++wG r
def oZ (h:List (List aw)):List Hd→Bool
 | []=>true
 | q :: r=>match aj h q with
  | .none=>false
  | _=>oZ h r
def qk {R:Type} (st:St):(p:Place)→List (Hd×aw)→(p.ty.D→List (Hd×aw)→Option R)→Option R
 | .tmp i t,ws,κ=>gO t (cZ st.t i) fun cs=>bz st.h t cs [] fun x r os=>RM r os (κ x ws)
 | .tmpO i _ t,ws,κ=>gO t (cZ st.t i) fun cs=>bN st.h t cs ws fun x r ws=>jD r (κ x ws)
 | .box d j t,ws,κ=>match aj st.h (d,j),Bi ws (d,j) with
  | .box false cs,false=>bz st.h t cs [] fun x r os=>RM r os (κ x (((d,j),.dead) :: ws))
  | _,_=>none
 | .boxO d j _ t fl,ws,κ=>match aj st.h (d,j),Bi ws (d,j) with
  | .box false cs,false=>bN st.h t cs (((d,j),.dead) :: ws) fun x r ws=>Ut r fl (κ x ws)
  | _,_=>none
def nJ {R:Type} (st:St):(p:Place)→p.ty.D→(St→Option R)→Option R
 | .tmp i t,x,κ=>cU t x [] fun cs=>ND st.t i (cV t cs) fun t=>κ { st with t }
 | .tmpO i j t,x,κ=>QV j (bx st.h i) fun os=>iw i t x os fun cs os'=>ND st.h i os' fun h=>ND st.t i (cV t cs) fun t=>κ ⟨t,h⟩
 | .box d j t,x,κ=>match aj st.h (d,j) with
  | .dead=>cU t x [] fun cs=>QB st.h (d,j) (.box false cs) fun h=>κ { st with h }
  | _=>none
 | .boxO d j k t fl,x,κ=>match aj st.h (d,j),EL fl with
  | .dead,true=>QV k (bx st.h d) fun os=>iw d t x os fun cs os'=>SR cs fl fun cs=>ND st.h d os' fun h=>QB h (d,j) (.box false cs) fun h=>κ { st with h }
  | _,_=>none
def vE {R:Type} (st:St):(l:List Place)→List (Hd×aw)→((PS l).D→List (Hd×aw)→Option R)→Option R
 | [],ws,κ=>κ () ws
 | [p],ws,κ=>qk st p ws κ
 | p :: q :: r,ws,κ=>qk st p ws fun x ws=>vE st (q :: r) ws fun y ws=>κ (x,y) ws
def CO {R:Type} (st:St):(l:List Place)→(PS l).D→(St→Option R)→Option R
 | [],_,κ=>κ st
 | [p],x,κ=>nJ st p x κ
 | p :: q :: r,x,κ=>nJ st p x.1 fun st=>CO st (q :: r) x.2 κ
def sQ {R:Type} (st:St) (l:List Place) (x:(PS l).D) (κ:St→Option R):Option R :=
 match oZ st.h (wG l) with
 | true=>CO st l x κ
 | false=>none
def AU:List Oper→List Nat
 | []=>[]
 | o :: r=>match o.dst with
  | some d=>d :: AU r
  | none=>AU r
def b9:Code→List Nat
 | .region _ ops _=>AU ops.toList
 | .seq a b=>b9 a++b9 b
 | .cond _ a b=>b9 a++b9 b
 | .block _ a=>b9 a
 | .loop a=>b9 a
 | .scope a=>b9 a
 | _=>[]
def MW:List Oper→Nat→Nat
 | [],m=>m
 | o :: r,m=>match o.dst with
  | some d=>MW r (Nat.lor m (Nat.shiftLeft 1 d))
  | none=>MW r m
def dL:Code→Nat→Nat
 | .region _ ops _,m=>MW ops.toList m
 | .seq a b,m=>dL b (dL a m)
 | .cond _ a b,m=>dL b (dL a m)
 | .block _ a,m=>dL a m
 | .loop a,m=>dL a m
 | .scope a,m=>dL a m
 | _,m=>m
def IC {R:Type} (m:Nat):Nat→List AV→(List AV→Option R)→Option R
 | _,[],κ=>κ []
 | i,a :: r,κ=>match Nat.testBit m i with
  | true=>IC m (i + 1) r fun r'=>κ (.any :: r')
  | false=>IC m (i + 1) r fun r'=>κ (a :: r')
def eN:aw→aw
 | .box _ cs=>.box true cs
 | .arr _ t xs=>.arr true t xs
 | o=>o
def Gc {R:Type} (free:List Hd) (d:Nat):Nat→List aw→(List aw→Option R)→Option R
 | _,[],κ=>κ []
 | j,o :: r,κ=>match vu free (d,j) with
  | true=>Gc free d (j + 1) r fun r'=>κ (o :: r')
  | false=>match o with
   | .box _ cs=>Gc free d (j + 1) r fun r'=>κ (.box true cs :: r')
   | .arr _ t xs=>Gc free d (j + 1) r fun r'=>κ (.arr true t xs :: r')
   | .none=>Gc free d (j + 1) r fun r'=>κ (.none :: r')
   | .dead=>Gc free d (j + 1) r fun r'=>κ (.dead :: r')
def Gd {R:Type} (free:List Hd):Nat→List (List aw)→(List (List aw)→Option R)→Option R
 | _,[],κ=>κ []
 | d,[] :: r,κ=>Gd free (d + 1) r fun r'=>κ ([] :: r')
 | d,l :: r,κ=>Gc free d 0 l fun l'=>Gd free (d + 1) r fun r'=>κ (l' :: r')
inductive Ex where
 | normal
 | exit (id:Nat)
 | ret
@[reducible] def QW (S R:Type) (b:Bool):List (Option Nat)→Type
 | []=>match b with
  | true=>R
  | false=>Empty
 | _ :: r=>match r,b with
  | [],false=>S
  | _,_=>S⊕QW S R b r
def QX:Option Nat→Option Nat→Bool
 | none,none=>true
 | some a,some b=>Nat.beq a b
 | _,_=>false
def inS {S R T:Type} (b:Bool):(l:List (Option Nat))→Option Nat→S→(QW S R b l→Option T)→Option T
 | [],_,_,_=>none
 | [o],e,s,κ=>match b,κ with
  | false,κ=>match QX o e with
   | true=>κ s
   | false=>none
  | true,κ=>match QX o e with
   | true=>κ (.inl s)
   | false=>none
 | o :: p :: r,e,s,κ=>match QX o e with
  | true=>κ (.inl s)
  | false=>inS b (p :: r) e s fun x=>κ (.inr x)
def inR {S R T:Type} (b:Bool):(l:List (Option Nat))→R→(QW S R b l→Option T)→Option T
 | [],r,κ=>match b,κ with
  | true,κ=>κ r
  | false,_=>none
 | [_],r,κ=>match b,κ with
  | true,κ=>κ (.inr r)
  | false,_=>none
 | _ :: p :: l,r,κ=>inR b (p :: l) r fun x=>κ (.inr x)
def Uu {S R T:Type} (b:Bool):(l:List (Option Nat))→QW S R b l→(Option Nat→S→Option T)→(R→Option T)→Option T
 | [],x,_,κr=>match b,x with
  | true,x=>κr x
  | false,_=>none
 | [o],x,κs,κr=>match b,x with
  | false,x=>κs o x
  | true,.inl s=>κs o s
  | true,.inr r=>κr r
 | o :: p :: l,x,κs,κr=>match x with
  | .inl s=>κs o s
  | .inr y=>Uu b (p :: l) y κs κr
@[reducible] def Hint.rp (H:Hint):List Place:=H.ret.getD []
@[reducible] def Hint.D (H:Hint):Type:=QW (PS H.out).D (PS H.rp).D H.ret.isSome H.outs
def Ex.code:Option Nat→Ex
 | none=>.normal
 | some id=>.exit id
def sR {T:Type} (H:Hint) (e:Ex) (st:St) (κ:H.D→Option T):Option T :=
 match e with
 | .normal=>vE st H.out [] fun s _=>inS H.ret.isSome H.outs none s κ
 | .exit id=>vE st H.out [] fun s _=>inS H.ret.isSome H.outs (some id) s κ
 | .ret=>vE st H.rp [] fun r _=>inR H.ret.isSome H.outs r κ
def EM {T:Type} (H:Hint) (st:St) (o:H.D) (κ:Ex→St→Option T):Option T :=
 Uu H.ret.isSome H.outs o (fun e s=>sQ st H.out s fun st=>κ (Ex.code e) st) fun r=>sQ st H.rp r fun st=>κ .ret st
noncomputable section
open Classical in
def al {S R:Type} (body:S→Option (S⊕R)) (s:S):Option R :=
 if h:∃ r n,iter body n s=some (.inr r) then some h.choose else none
 where iter (body:S→Option (S⊕R)):Nat→S→Option (S⊕R)
 | 0,s=>some (.inl s)
 | n + 1,s=>(body s).bind fun
  | .inl s'=>iter body n s'
  | .inr r=>some (.inr r)
def wH:List Hd→List (Hd×aw)
 | []=>[]
 | q :: r=>(q,.dead) :: wH r
def NE (h:List (List aw)):List Hd→Bool
 | []=>true
 | q :: r=>(match aj h q with
  | .box false _=>true
  | .arr false _ _=>true
  | _=>false) && !vu r q && NE h r
def Uv {T:Type} (H:Hint) (mask:Nat) (run:{R:Type}→St→(Ex→St→Option R)→Option R) (st:St) (κ:Ex→St→Option T):Option T :=
 match NE st.h H.free with
 | true=>Gd H.free 0 st.h fun h=>(run (R:=H.D) ⟨st.t,h⟩ fun e st2=>sR H e st2 some).bind fun o =>
  IC mask 0 st.t fun t=>FZ (wH H.free) st.h fun h=>EM H ⟨t,h⟩ o κ
 | false=>none
def ID {T:Type} (cut:Option Hint) (c:Code) (run:{R:Type}→St→(Ex→St→Option R)→Option R) (st:St) (κ:Ex→St→Option T):Option T :=
 match cut with
 | none=>run st κ
 | some H=>Uv H (dL c 0) run st κ
def QY (H:Hint) (run:{R:Type}→St→(Ex→St→Option R)→Option R) (base:St) (s:(PS H.out).D):Option ((PS H.out).D⊕H.D) :=
 sQ base H.out s fun st1=>run st1 fun e st2=>match e with
  | .normal=>vE st2 H.out [] fun s _=>some (.inl s)
  | .exit id=>sR H (.exit id) st2 fun o=>some (.inr o)
  | .ret=>sR H .ret st2 fun o=>some (.inr o)
def RN {T:Type} (H:Hint) (mask:Nat) (run:{R:Type}→St→(Ex→St→Option R)→Option R) (st:St) (κ:Ex→St→Option T):Option T :=
 vE st H.out [] fun s0 ws=>IC mask 0 st.t fun t=>FZ ws st.h fun h1=>Gd [] 0 h1 fun h2 =>
  (al (QY H run ⟨t,h2⟩) s0).bind fun o=>EM H ⟨t,h1⟩ o κ
def QZ:Option Hint→Bool→Option Nat
 | some ⟨_,_,_,(k,_) :: _⟩,false=>some k
 | _,_=>none
def TD:Bool→Option Hint→Bool→Option Nat
 | true,some ⟨_,[some k],_,[]⟩,false=>some k
 | _,_,_=>none
theorem Q1 {z:Bool} {h:Option Hint} {draw:Bool} {k:Nat} (e:TD z h draw=some k):draw=false∧z=true:=by
 unfold TD at e
 split at e
 ·exact ⟨rfl,rfl⟩
 ·cases e
theorem Pq {h:Option Hint} {draw:Bool} {k:Nat} (e:QZ h draw=some k):draw=false:=by
 unfold QZ at e
 split at e
 ·rfl
 ·cases e
def RO {R:Type} (o:Hd) (x:Leaf) (l:Leaf) (κ:Leaf→Option R):Option R :=
 match l with
 | .own p=>match Nat.beq p.1 o.1,Nat.beq p.2 o.2 with
  | true,true=>κ x
  | _,_=>κ (.own p)
 | l=>κ l
def Pr {R:Type} (o:Hd) (x:Leaf):List Leaf→(List Leaf→Option R)→Option R
 | [],κ=>κ []
 | l :: r,κ=>RO o x l fun l'=>Pr o x r fun r'=>κ (l' :: r')
def MX {R:Type} (o:Hd) (x:Leaf):List AV→(List AV→Option R)→Option R
 | [],κ=>κ []
 | .leaf l :: r,κ=>RO o x l fun l'=>MX o x r fun r'=>κ (.leaf l' :: r')
 | .agg cs :: r,κ=>Pr o x cs fun cs'=>MX o x r fun r'=>κ (.agg cs' :: r')
 | v :: r,κ=>MX o x r fun r'=>κ (v :: r')
def AW {R:Type} (o:Hd) (x:Leaf) (d:Nat):Nat→List aw→(List aw→Option R)→Option R
 | _,[],κ=>κ []
 | j,.box false cs :: r,κ=>Pr o x cs fun cs'=>AW o x d (j + 1) r fun r'=>κ (.box false cs' :: r')
 | j,.arr ro t xs :: r,κ=>match Nat.beq d o.1,Nat.beq j o.2 with
  | true,true=>AW o x d (j + 1) r fun r'=>κ (.dead :: r')
  | _,_=>AW o x d (j + 1) r fun r'=>κ (.arr ro t xs :: r')
 | j,v :: r,κ=>AW o x d (j + 1) r fun r'=>κ (v :: r')
def RP {R:Type} (o:Hd) (x:Leaf):Nat→List (List aw)→(List (List aw)→Option R)→Option R
 | _,[],κ=>κ []
 | d,l :: r,κ=>AW o x d 0 l fun l'=>RP o x (d + 1) r fun r'=>κ (l' :: r')
def NF {R:Type}:List Hd→St→(St→Option R)→Option R
 | [],st,κ=>κ st
 | o :: r,st,κ=>match aj st.h o with
  | .arr false t xs=>MX o (.view t xs) st.t fun t'=>RP o (.view t xs) 0 st.h fun h'=>NF r ⟨t',h'⟩ κ
  | _=>none
def UY:Bool→Hints→List Hd
 | true,.node (some H) _ _ _=>H.free
 | _,_=>[]
def NG {R:Type}:List Place→St→(St→Option R)→Option R
 | [],st,κ=>κ st
 | .boxO d j _ t _ :: r,st,κ=>match aj st.h (d,j),t.cop with
  | .arr false t' xs,true=>qi t' t xs fun ys=>QB st.h (d,j) (.arr false t ys) fun h=>NG r ⟨st.t,h⟩ κ
  | _,_=>none
 | _ :: _,_,_=>none
def RQ:Bool→Hints→List Place
 | true,.node (some H) _ _ _=>H.out
 | _,_=>[]
def o0 (q:Hd):List (FuncId×Bool)→List Leaf
 | []=>[]
 | (f,true) :: r=>.fn f [q] :: o0 q r
 | (f,false) :: r=>.fn f [] :: o0 q r
def TE:List Leaf→Hd
 | []=>(1000000,0)
 | .fn _ [q] :: _=>q
 | _ :: r=>TE r
def eqH (p q:Hd):Bool:=Nat.beq p.1 q.1 && Nat.beq p.2 q.2
def CP (h:List (List aw)) (q o:Hd):Bool :=
 match aj h q with
 | .box _ [.box p 0]=>eqH p o
 | _=>false
def RR {R:Type} (st:St) (via:Bool) (caps:List Hd) (vs:List AV) (κ:Hd→Hd→List AV→Option R):Option R :=
 match via,caps,vs with
 | false,[],.leaf (.box o 0) :: vs=>match aj st.h o with
  | .box false cs=>κ o (TE cs) vs
  | _=>none
 | true,[q],vs=>match aj st.h q with
  | .box _ [.box o 0]=>κ o q vs
  | _=>none
 | _,_,_=>none
def Uw {R:Type} (one:Bool) (d:Option Nat) (r:Ty) (z:r.D) (t:List AV) (κ:List AV→Option R):Option R :=
 match d,one with
 | none,_=>κ t
 | some d,true=>cU r z [] fun cs=>xS t d (cV r cs) κ
 | some d,false=>Aa r z fun vs=>xS t d (.tup vs) κ
def Vb {R:Type} (E:Env) (cl:Oper) (st:St) (κ:St→Option R):Option R :=
 match cl.op,cl.guard with
 | .call c,none=>match c.callee with
  | .value v=>match val st v with
   | .leaf (.fn f caps)=>match iu E.G f with
    | some (.run t fs sf via one a r F)=>RR st via caps (c.args.toList.map (val st)) fun o q vs =>
     match !sf || CP st.h q o,r.flat with
     | true,true=>qk st (.boxO o.1 o.2 0 t (o0 q fs)) [] fun x ws=>aJ E st.h a vs [] fun y os=>match Bj os,Bi ws q with
      | true,false=>(F x y).bind fun z=>FZ ws st.h fun h=>Uw one cl.dst r z.1 st.t fun t'=>sQ ⟨t',h⟩ [.boxO o.1 o.2 (Nm (bx h o.1)) t (o0 q fs)] z.2 κ
      | _,_=>none
     | _,_=>none
    | _=>none
   | _=>none
  | _=>none
 | _,_=>none
def TF {R:Type} (E:Env) (os:List Oper) (k:Nat) (st:St) (κ:St→Option R):Option R :=
 Cu E (os.map (·.dst)) (os.take k) st fun st _=>match os.drop k with
 | cl :: post=>Vb E cl st fun st=>Cu E (os.map (·.dst)) post st fun st _=>κ st
 | _=>none
def ev (E:Env):Code→Hints→{R:Type}→St→(Ex→St→Option R)→Option R
 | .skip,_,_,st,κ=>κ .normal st
 | .ret,_,_,st,κ=>κ .ret st
 | .exit id,_,_,st,κ=>κ (.exit id) st
 | .region id ops draw,h,_,st,κ=>NF (UY E.Z h.a) st fun st=>NG (RQ E.Z h.a) st fun st=>match QZ h.lp draw with
  | some k=>QE E ops.toList k st fun st=>κ .normal st
  | none=>match TD E.Z h.lp draw with
   | some k=>TF E ops.toList k st fun st=>κ .normal st
   | none=>ID h.cut (.region id ops draw) (fun st κ=>Cw E ops.toList draw st fun st=>κ .normal st) st κ
 | .seq a b,h,_,st,κ=>ID h.cut (.seq a b) (fun st κ=>ev E a h.a st fun e st=>match e with
  | .normal=>ev E b h.b st κ
  | e=>κ e st) st κ
 | .cond c a b,h,_,st,κ=>ID h.cut (.cond c a b) (fun st κ=>match val st c with
  | .leaf (.bool x)=>cond x (ev E a h.a st κ) (ev E b h.b st κ)
  | _=>none) st κ
 | .block id a,h,_,st,κ=>ID h.cut (.block id a) (fun st κ=>ev E a h.a st fun e st=>match e with
  | .exit id'=>match Nat.beq id' id with
   | true=>κ .normal st
   | false=>κ (.exit id') st
  | e=>κ e st) st κ
 | .loop a,h,_,st,κ=>match h.lp with
  | none=>none
  | some H=>RN H (dL a 0) (fun st κ=>ev E a h.a st κ) st κ
 | _,_,_,_,_=>none
end
end Go.Abs
namespace Go.Abs
def kP:(a:Ty)→a.D→List AV
 | .pair t r,x=>cU t x.1 [] (fun cs=>cV t cs) :: kP r x.2
 | _,_=>[]
def vF:(c:Ty)→c.D→List AV
 | .pair t r,z=>.leaf (.vis t z.1 0) :: vF r z.2
 | _,_=>[]
def iF (avs:List AV) (n:Nat):St:=⟨avs++List.replicate (n - avs.length) .any,List.replicate n []⟩
def yh {R:Type} (T:Tab) (st:St):List ResultVar→(List AV→Option R)→Option R
 | [],κ=>κ []
 | .tmp i :: r,κ=>yh T st r fun vs=>κ (cZ st.t i :: vs)
 | .cell i t :: r,κ=>match iu T t,cZ st.t i with
  | some ti,.leaf (.box o off)=>match aj st.h o with
   | .box _ cs=>nv ti.n (wC off cs) fun cs'=>kM ti.k cs' fun v=>yh T st r fun vs=>κ (v :: vs)
   | _=>none
  | _,_=>none
def ny {R:Type} (h:List (List aw)):(r:Ty)→List AV→List Hd→(r.D→List Hd→Option R)→Option R
 | .unit,[],os,κ=>κ () os
 | .pair a b,v :: vs,os,κ=>gO a v fun cs=>bz h a cs os fun x rest os=>jD rest (ny h b vs os fun y os=>κ (x,y) os)
 | _,_,_,_=>none
def jw {R:Type} (h:List (List aw)):(r:Ty)→List AV→List (Hd×aw)→(r.D→List (Hd×aw)→Option R)→Option R
 | .unit,[],ws,κ=>κ () ws
 | .pair a b,v :: vs,ws,κ=>gO a v fun cs=>bN h a cs ws fun x rest ws=>jD rest (jw h b vs ws fun y ws=>κ (x,y) ws)
 | _,_,_,_=>none
def nvK {R:Type} (b:Bool) (k:Option R):Option R :=
 match b with
 | true=>k
 | false=>none
def Gx (T:Tab) (one fresh:Bool) (rvs:List ResultVar) (r:Ty) (e:Ex) (st:St):Option r.D :=
 match e with
 | .exit _=>none
 | _=>yh T st rvs fun vs=>match one,fresh with
  | true,false=>match vs with
   | [v]=>gO r v fun cs=>bz st.h r cs [] fun x rest _=>jD rest (some x)
   | _=>none
  | true,true=>match vs with
   | [v]=>gO r v fun cs=>bN st.h r cs [] fun x rest _=>jD rest (nvK r.noVw (some x))
   | _=>none
  | false,false=>ny st.h r vs [] fun x _=>some x
  | false,true=>jw st.h r vs [] fun x _=>nvK r.noVw (some x)
end Go.Abs
