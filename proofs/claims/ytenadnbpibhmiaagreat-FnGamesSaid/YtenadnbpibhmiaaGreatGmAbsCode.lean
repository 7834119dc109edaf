/- Part of a proof of FnGames: see the row. -/
import Derived.Test.YtenadnbpibhmiaaGreatGmAbsEv
set_option linter.unusedVariables false
set_option linter.unusedSimpArgs false
namespace Go.Abs
inductive Place where
 | tmp (i:Nat) (t:Ty)
 | tmpO (i j:Nat) (t:Ty)
 | box (d j:Nat) (t:Ty)
 | boxO (d j k:Nat) (t:Ty) (fl:List Leaf:=[])
@[reducible] def Place.ty:Place→Ty
 | .tmp _ t | .tmpO _ _ t | .box _ _ t | .boxO _ _ _ t _=>t
@[reducible] def PS:List Place→Ty
 | []=>.unit
 | [p]=>p.ty
 | p :: q :: r=>.pair p.ty (PS (q :: r))
structure Hint where
 out:List Place
 outs:List (Option Nat)
 ret:Option (List Place):=none
 free:List Hd:=[]
inductive Hints where
 | none
 | node (cut lp:Option Hint) (a b:Hints)
def Hints.cut:Hints→Option Hint
 | .none=>.none
 | .node c _ _ _=>c
def Hints.lp:Hints→Option Hint
 | .none=>.none
 | .node _ l _ _=>l
def Hints.a:Hints→Hints
 | .none=>.none
 | .node _ _ a _=>a
def Hints.b:Hints→Hints
 | .none=>.none
 | .node _ _ _ b=>b
def LQ {α R:Type}:List α→Nat→α→(List α→Option R)→Option R
 | [],_,_,_=>none
 | _ :: r,0,v,κ=>κ (v :: r)
 | a :: r,n + 1,v,κ=>LQ r n v fun r'=>κ (a :: r')
def Po {R:Type}:Nat→List aC→(List aC→Option R)→Option R
 | 0,[],κ=>κ []
 | 0,_ :: _,_=>none
 | n + 1,[],κ=>Po n [] fun r=>κ (.dead :: r)
 | n + 1,a :: l,κ=>Po n l fun r=>κ (a :: r)
def K2 {α:Type} (r:List Leaf) (os:List Hd) (k:Option α):Option α :=
 match r,os with
 | [],[]=>k
 | _,_=>none
def Ts:List Hd→List Hd→Bool
 | [],[]=>true
 | (a,b) :: r,(c,d) :: s=>match Nat.beq a c,Nat.beq b d with
  | true,true=>Ts r s
  | _,_=>false
 | _,_=>false
def Tt {R:Type}:List Leaf→List Leaf→Option R→Option R
 | [],[],k=>k
 | .fn f cs :: r,.fn g ds :: s,k=>match Nat.beq f g,Ts cs ds with
  | true,true=>Tt r s k
  | _,_=>none
 | _,_,_=>none
def EH:List Leaf→Bool
 | []=>true
 | .fn _ _ :: r=>EH r
 | _=>false
def rc:List Leaf→List Hd
 | []=>[]
 | .fn _ cs :: r=>cs++rc r
 | _ :: r=>rc r
def Place.caps:Place→List Hd
 | .boxO _ _ _ _ fl=>rc fl
 | _=>[]
def xR:List Place→List Hd
 | []=>[]
 | p :: r=>p.caps++xR r
def pS (h:List (List aC)):List Hd→Bool
 | []=>true
 | q :: r=>match aq h q with
  | .none=>false
  | _=>pS h r
def re {R:Type} (st:St):(p:Place)→List (Hd×aC)→(p.ty.D→List (Hd×aC)→Option R)→Option R
 | .tmp i t,ws,κ=>iO t (dK st.t i) fun cs=>bP st.h t cs [] fun x r os=>K2 r os (κ x ws)
 | .tmpO i _ t,ws,κ=>iO t (dK st.t i) fun cs=>cr st.h t cs ws fun x r ws=>kw r (κ x ws)
 | .box d j t,ws,κ=>match aq st.h (d,j),BJ ws (d,j) with
  | .box false cs,false=>bP st.h t cs [] fun x r os=>K2 r os (κ x (((d,j),.dead) :: ws))
  | _,_=>none
 | .boxO d j _ t fl,ws,κ=>match aq st.h (d,j),BJ ws (d,j) with
  | .box false cs,false=>cr st.h t cs (((d,j),.dead) :: ws) fun x r ws=>Tt r fl (κ x ws)
  | _,_=>none
def oD {R:Type} (st:St):(p:Place)→p.ty.D→(St→Option R)→Option R
 | .tmp i t,x,κ=>dC t x [] fun cs=>LQ st.t i (dD t cs) fun t=>κ { st with t }
 | .tmpO i j t,x,κ=>Po j (bS st.h i) fun os=>jm i t x os fun cs os'=>LQ st.h i os' fun h=>LQ st.t i (dD t cs) fun t=>κ ⟨t,h⟩
 | .box d j t,x,κ=>match aq st.h (d,j) with
  | .dead=>dC t x [] fun cs=>O4 st.h (d,j) (.box false cs) fun h=>κ { st with h }
  | _=>none
 | .boxO d j k t fl,x,κ=>match aq st.h (d,j),EH fl with
  | .dead,true=>Po k (bS st.h d) fun os=>jm d t x os fun cs os'=>RI cs fl fun cs=>LQ st.h d os' fun h=>O4 h (d,j) (.box false cs) fun h=>κ { st with h }
  | _,_=>none
def wC {R:Type} (st:St):(l:List Place)→List (Hd×aC)→((PS l).D→List (Hd×aC)→Option R)→Option R
 | [],ws,κ=>κ () ws
 | [p],ws,κ=>re st p ws κ
 | p :: q :: r,ws,κ=>re st p ws fun x ws=>wC st (q :: r) ws fun y ws=>κ (x,y) ws
def C3 {R:Type} (st:St):(l:List Place)→(PS l).D→(St→Option R)→Option R
 | [],_,κ=>κ st
 | [p],x,κ=>oD st p x κ
 | p :: q :: r,x,κ=>oD st p x.1 fun st=>C3 st (q :: r) x.2 κ
def um {R:Type} (st:St) (l:List Place) (x:(PS l).D) (κ:St→Option R):Option R :=
 match pS st.h (xR l) with
 | true=>C3 st l x κ
 | false=>none
def Bg:List Oper→List Nat
 | []=>[]
 | o :: r=>match o.dst with
  | some d=>d :: Bg r
  | none=>Bg r
def cM:Code→List Nat
 | .region _ ops _=>Bg ops.toList
 | .seq a b=>cM a++cM b
 | .cond _ a b=>cM a++cM b
 | .block _ a=>cM a
 | .loop a=>cM a
 | .scope a=>cM a
 | _=>[]
def K3:List Oper→Nat→Nat
 | [],m=>m
 | o :: r,m=>match o.dst with
  | some d=>K3 r (Nat.lor m (Nat.shiftLeft 1 d))
  | none=>K3 r m
def eK:Code→Nat→Nat
 | .region _ ops _,m=>K3 ops.toList m
 | .seq a b,m=>eK b (eK a m)
 | .cond _ a b,m=>eK b (eK a m)
 | .block _ a,m=>eK a m
 | .loop a,m=>eK a m
 | .scope a,m=>eK a m
 | _,m=>m
def Ht {R:Type} (m:Nat):Nat→List AV→(List AV→Option R)→Option R
 | _,[],κ=>κ []
 | i,a :: r,κ=>match Nat.testBit m i with
  | true=>Ht m (i + 1) r fun r'=>κ (.any :: r')
  | false=>Ht m (i + 1) r fun r'=>κ (a :: r')
def fR:aC→aC
 | .box _ cs=>.box true cs
 | .arr _ t xs=>.arr true t xs
 | o=>o
def FF {R:Type} (free:List Hd) (d:Nat):Nat→List aC→(List aC→Option R)→Option R
 | _,[],κ=>κ []
 | j,o :: r,κ=>match wv free (d,j) with
  | true=>FF free d (j + 1) r fun r'=>κ (o :: r')
  | false=>match o with
   | .box _ cs=>FF free d (j + 1) r fun r'=>κ (.box true cs :: r')
   | .arr _ t xs=>FF free d (j + 1) r fun r'=>κ (.arr true t xs :: r')
   | .none=>FF free d (j + 1) r fun r'=>κ (.none :: r')
   | .dead=>FF free d (j + 1) r fun r'=>κ (.dead :: r')
def FG {R:Type} (free:List Hd):Nat→List (List aC)→(List (List aC)→Option R)→Option R
 | _,[],κ=>κ []
 | d,[] :: r,κ=>FG free (d + 1) r fun r'=>κ ([] :: r')
 | d,l :: r,κ=>FF free d 0 l fun l'=>FG free (d + 1) r fun r'=>κ (l' :: r')
inductive Ex where
 | normal
 | exit (id:Nat)
 | ret
@[reducible] def Pp (S R:Type) (b:Bool):List (Option Nat)→Type
 | []=>match b with
  | true=>R
  | false=>Empty
 | _ :: r=>match r,b with
  | [],false=>S
  | _,_=>S⊕Pp S R b r
def Pq:Option Nat→Option Nat→Bool
 | none,none=>true
 | some a,some b=>Nat.beq a b
 | _,_=>false
def inS {S R T:Type} (b:Bool):(l:List (Option Nat))→Option Nat→S→(Pp S R b l→Option T)→Option T
 | [],_,_,_=>none
 | [o],e,s,κ=>match b,κ with
  | false,κ=>match Pq o e with
   | true=>κ s
   | false=>none
  | true,κ=>match Pq o e with
   | true=>κ (.inl s)
   | false=>none
 | o :: p :: r,e,s,κ=>match Pq o e with
  | true=>κ (.inl s)
  | false=>inS b (p :: r) e s fun x=>κ (.inr x)
def inR {S R T:Type} (b:Bool):(l:List (Option Nat))→R→(Pp S R b l→Option T)→Option T
 | [],r,κ=>match b,κ with
  | true,κ=>κ r
  | false,_=>none
 | [_],r,κ=>match b,κ with
  | true,κ=>κ (.inr r)
  | false,_=>none
 | _ :: p :: l,r,κ=>inR b (p :: l) r fun x=>κ (.inr x)
def Tu {S R T:Type} (b:Bool):(l:List (Option Nat))→Pp S R b l→(Option Nat→S→Option T)→(R→Option T)→Option T
 | [],x,_,κr=>match b,x with
  | true,x=>κr x
  | false,_=>none
 | [o],x,κs,κr=>match b,x with
  | false,x=>κs o x
  | true,.inl s=>κs o s
  | true,.inr r=>κr r
 | o :: p :: l,x,κs,κr=>match x with
  | .inl s=>κs o s
  | .inr y=>Tu b (p :: l) y κs κr
@[reducible] def Hint.rp (H:Hint):List Place:=H.ret.getD []
@[reducible] def Hint.D (H:Hint):Type:=Pp (PS H.out).D (PS H.rp).D H.ret.isSome H.outs
def Ex.code:Option Nat→Ex
 | none=>.normal
 | some id=>.exit id
def uo {T:Type} (H:Hint) (e:Ex) (st:St) (κ:H.D→Option T):Option T :=
 match e with
 | .normal=>wC st H.out [] fun s _=>inS H.ret.isSome H.outs none s κ
 | .exit id=>wC st H.out [] fun s _=>inS H.ret.isSome H.outs (some id) s κ
 | .ret=>wC st H.rp [] fun r _=>inR H.ret.isSome H.outs r κ
def EI {T:Type} (H:Hint) (st:St) (o:H.D) (κ:Ex→St→Option T):Option T :=
 Tu H.ret.isSome H.outs o (fun e s=>um st H.out s fun st=>κ (Ex.code e) st) fun r=>um st H.rp r fun st=>κ .ret st
noncomputable section
open Classical in
def ay {S R:Type} (body:S→Option (S⊕R)) (s:S):Option R :=
 if h:∃ r n,iter body n s=some (.inr r) then some h.choose else none
 where iter (body:S→Option (S⊕R)):Nat→S→Option (S⊕R)
 | 0,s=>some (.inl s)
 | n + 1,s=>(body s).bind fun
  | .inl s'=>iter body n s'
  | .inr r=>some (.inr r)
def xS:List Hd→List (Hd×aC)
 | []=>[]
 | q :: r=>(q,.dead) :: xS r
def LS (h:List (List aC)):List Hd→Bool
 | []=>true
 | q :: r=>(match aq h q with
  | .box false _=>true
  | .arr false _ _=>true
  | _=>false) && !wv r q && LS h r
def Tv {T:Type} (H:Hint) (mask:Nat) (run:{R:Type}→St→(Ex→St→Option R)→Option R) (st:St) (κ:Ex→St→Option T):Option T :=
 match LS st.h H.free with
 | true=>FG H.free 0 st.h fun h=>(run (R:=H.D) ⟨st.t,h⟩ fun e st2=>uo H e st2 some).bind fun o =>
  Ht mask 0 st.t fun t=>Fr (xS H.free) st.h fun h=>EI H ⟨t,h⟩ o κ
 | false=>none
def Hu {T:Type} (cut:Option Hint) (c:Code) (run:{R:Type}→St→(Ex→St→Option R)→Option R) (st:St) (κ:Ex→St→Option T):Option T :=
 match cut with
 | none=>run st κ
 | some H=>Tv H (eK c 0) run st κ
def Pr (H:Hint) (run:{R:Type}→St→(Ex→St→Option R)→Option R) (base:St) (s:(PS H.out).D):Option ((PS H.out).D⊕H.D) :=
 um base H.out s fun st1=>run st1 fun e st2=>match e with
  | .normal=>wC st2 H.out [] fun s _=>some (.inl s)
  | .exit id=>uo H (.exit id) st2 fun o=>some (.inr o)
  | .ret=>uo H .ret st2 fun o=>some (.inr o)
def Qm {T:Type} (H:Hint) (mask:Nat) (run:{R:Type}→St→(Ex→St→Option R)→Option R) (st:St) (κ:Ex→St→Option T):Option T :=
 wC st H.out [] fun s0 ws=>Ht mask 0 st.t fun t=>Fr ws st.h fun h1=>FG [] 0 h1 fun h2 =>
  (ay (Pr H run ⟨t,h2⟩) s0).bind fun o=>EI H ⟨t,h1⟩ o κ
def Ps:Option Hint→Bool→Option Nat
 | some ⟨_,_,_,(k,_) :: _⟩,false=>some k
 | _,_=>none
def Sw:Bool→Option Hint→Bool→Option Nat
 | true,some ⟨_,[some k],_,[]⟩,false=>some k
 | _,_,_=>none
theorem Pt {z:Bool} {h:Option Hint} {draw:Bool} {k:Nat} (e:Sw z h draw=some k):draw=false∧z=true:=by
 unfold Sw at e
 split at e
 ·exact ⟨rfl,rfl⟩
 ·cases e
theorem NC {h:Option Hint} {draw:Bool} {k:Nat} (e:Ps h draw=some k):draw=false:=by
 unfold Ps at e
 split at e
 ·rfl
 ·cases e
def Qn {R:Type} (o:Hd) (x:Leaf) (l:Leaf) (κ:Leaf→Option R):Option R :=
 match l with
 | .own p=>match Nat.beq p.1 o.1,Nat.beq p.2 o.2 with
  | true,true=>κ x
  | _,_=>κ (.own p)
 | l=>κ l
def ND {R:Type} (o:Hd) (x:Leaf):List Leaf→(List Leaf→Option R)→Option R
 | [],κ=>κ []
 | l :: r,κ=>Qn o x l fun l'=>ND o x r fun r'=>κ (l' :: r')
def K4 {R:Type} (o:Hd) (x:Leaf):List AV→(List AV→Option R)→Option R
 | [],κ=>κ []
 | .leaf l :: r,κ=>Qn o x l fun l'=>K4 o x r fun r'=>κ (.leaf l' :: r')
 | .agg cs :: r,κ=>ND o x cs fun cs'=>K4 o x r fun r'=>κ (.agg cs' :: r')
 | v :: r,κ=>K4 o x r fun r'=>κ (v :: r')
def Bh {R:Type} (o:Hd) (x:Leaf) (d:Nat):Nat→List aC→(List aC→Option R)→Option R
 | _,[],κ=>κ []
 | j,.box false cs :: r,κ=>ND o x cs fun cs'=>Bh o x d (j + 1) r fun r'=>κ (.box false cs' :: r')
 | j,.arr ro t xs :: r,κ=>match Nat.beq d o.1,Nat.beq j o.2 with
  | true,true=>Bh o x d (j + 1) r fun r'=>κ (.dead :: r')
  | _,_=>Bh o x d (j + 1) r fun r'=>κ (.arr ro t xs :: r')
 | j,v :: r,κ=>Bh o x d (j + 1) r fun r'=>κ (v :: r')
def Qo {R:Type} (o:Hd) (x:Leaf):Nat→List (List aC)→(List (List aC)→Option R)→Option R
 | _,[],κ=>κ []
 | d,l :: r,κ=>Bh o x d 0 l fun l'=>Qo o x (d + 1) r fun r'=>κ (l' :: r')
def LT {R:Type}:List Hd→St→(St→Option R)→Option R
 | [],st,κ=>κ st
 | o :: r,st,κ=>match aq st.h o with
  | .arr false t xs=>K4 o (.view t xs) st.t fun t'=>Qo o (.view t xs) 0 st.h fun h'=>LT r ⟨t',h'⟩ κ
  | _=>none
def T8:Bool→Hints→List Hd
 | true,.node (some H) _ _ _=>H.free
 | _,_=>[]
def LU {R:Type}:List Place→St→(St→Option R)→Option R
 | [],st,κ=>κ st
 | .boxO d j _ t _ :: r,st,κ=>match aq st.h (d,j),t.cop with
  | .arr false t' xs,true=>rb t' t xs fun ys=>O4 st.h (d,j) (.arr false t ys) fun h=>LU r ⟨st.t,h⟩ κ
  | _,_=>none
 | _ :: _,_,_=>none
def Qp:Bool→Hints→List Place
 | true,.node (some H) _ _ _=>H.out
 | _,_=>[]
def pT (q:Hd):List (FuncId×Bool)→List Leaf
 | []=>[]
 | (f,true) :: r=>.fn f [q] :: pT q r
 | (f,false) :: r=>.fn f [] :: pT q r
def Sx:List Leaf→Hd
 | []=>(1000000,0)
 | .fn _ [q] :: _=>q
 | _ :: r=>Sx r
def eqH (p q:Hd):Bool:=Nat.beq p.1 q.1 && Nat.beq p.2 q.2
def C4 (h:List (List aC)) (q o:Hd):Bool :=
 match aq h q with
 | .box _ [.box p 0]=>eqH p o
 | _=>false
def Qq {R:Type} (st:St) (via:Bool) (caps:List Hd) (vs:List AV) (κ:Hd→Hd→List AV→Option R):Option R :=
 match via,caps,vs with
 | false,[],.leaf (.box o 0) :: vs=>match aq st.h o with
  | .box false cs=>κ o (Sx cs) vs
  | _=>none
 | true,[q],vs=>match aq st.h q with
  | .box _ [.box o 0]=>κ o q vs
  | _=>none
 | _,_,_=>none
def Tw {R:Type} (one:Bool) (d:Option Nat) (r:Ty) (z:r.D) (t:List AV) (κ:List AV→Option R):Option R :=
 match d,one with
 | none,_=>κ t
 | some d,true=>dC r z [] fun cs=>yC t d (dD r cs) κ
 | some d,false=>AF r z fun vs=>yC t d (.tup vs) κ
def Ul {R:Type} (E:Env) (cl:Oper) (st:St) (κ:St→Option R):Option R :=
 match cl.op,cl.guard with
 | .call c,none=>match c.callee with
  | .value v=>match val st v with
   | .leaf (.fn f caps)=>match jk E.G f with
    | some (.run t fs sf via one a r F)=>Qq st via caps (c.args.toList.map (val st)) fun o q vs =>
     match !sf || C4 st.h q o,r.flat with
     | true,true=>re st (.boxO o.1 o.2 0 t (pT q fs)) [] fun x ws=>aX E st.h a vs [] fun y os=>match BK os,BJ ws q with
      | true,false=>(F x y).bind fun z=>Fr ws st.h fun h=>Tw one cl.dst r z.1 st.t fun t'=>um ⟨t',h⟩ [.boxO o.1 o.2 (Lz (bS h o.1)) t (pT q fs)] z.2 κ
      | _,_=>none
     | _,_=>none
    | _=>none
   | _=>none
  | _=>none
 | _,_=>none
def Sy {R:Type} (E:Env) (os:List Oper) (k:Nat) (st:St) (κ:St→Option R):Option R :=
 CK E (os.map (·.dst)) (os.take k) st fun st _=>match os.drop k with
 | cl :: post=>Ul E cl st fun st=>CK E (os.map (·.dst)) post st fun st _=>κ st
 | _=>none
def ev (E:Env):Code→Hints→{R:Type}→St→(Ex→St→Option R)→Option R
 | .skip,_,_,st,κ=>κ .normal st
 | .ret,_,_,st,κ=>κ .ret st
 | .exit id,_,_,st,κ=>κ (.exit id) st
 | .region id ops draw,h,_,st,κ=>LT (T8 E.Z h.a) st fun st=>LU (Qp E.Z h.a) st fun st=>match Ps h.lp draw with
  | some k=>O7 E ops.toList k st fun st=>κ .normal st
  | none=>match Sw E.Z h.lp draw with
   | some k=>Sy E ops.toList k st fun st=>κ .normal st
   | none=>Hu h.cut (.region id ops draw) (fun st κ=>CM E ops.toList draw st fun st=>κ .normal st) st κ
 | .seq a b,h,_,st,κ=>Hu h.cut (.seq a b) (fun st κ=>ev E a h.a st fun e st=>match e with
  | .normal=>ev E b h.b st κ
  | e=>κ e st) st κ
 | .cond c a b,h,_,st,κ=>Hu h.cut (.cond c a b) (fun st κ=>match val st c with
  | .leaf (.bool x)=>cond x (ev E a h.a st κ) (ev E b h.b st κ)
  | _=>none) st κ
 | .block id a,h,_,st,κ=>Hu h.cut (.block id a) (fun st κ=>ev E a h.a st fun e st=>match e with
  | .exit id'=>match Nat.beq id' id with
   | true=>κ .normal st
   | false=>κ (.exit id') st
  | e=>κ e st) st κ
 | .loop a,h,_,st,κ=>match h.lp with
  | none=>none
  | some H=>Qm H (eK a 0) (fun st κ=>ev E a h.a st κ) st κ
 | _,_,_,_,_=>none
end
end Go.Abs
namespace Go.Abs
def jb:(a:Ty)→a.D→List AV
 | .pair t r,x=>dC t x.1 [] (fun cs=>dD t cs) :: jb r x.2
 | _,_=>[]
def wD:(c:Ty)→c.D→List AV
 | .pair t r,z=>.leaf (.vis t z.1 0) :: wD r z.2
 | _,_=>[]
def ik (avs:List AV) (n:Nat):St:=⟨avs++List.replicate (n - avs.length) .any,List.replicate n []⟩
def vN {R:Type} (T:Tab) (st:St):List ResultVar→(List AV→Option R)→Option R
 | [],κ=>κ []
 | .tmp i :: r,κ=>vN T st r fun vs=>κ (dK st.t i :: vs)
 | .cell i t :: r,κ=>match jk T t,dK st.t i with
  | some ti,.leaf (.box o off)=>match aq st.h o with
   | .box _ cs=>nY ti.n (xN off cs) fun cs'=>lF ti.k cs' fun v=>vN T st r fun vs=>κ (v :: vs)
   | _=>none
  | _,_=>none
def od {R:Type} (h:List (List aC)):(r:Ty)→List AV→List Hd→(r.D→List Hd→Option R)→Option R
 | .unit,[],os,κ=>κ () os
 | .pair a b,v :: vs,os,κ=>iO a v fun cs=>bP h a cs os fun x rest os=>kw rest (od h b vs os fun y os=>κ (x,y) os)
 | _,_,_,_=>none
def ki {R:Type} (h:List (List aC)):(r:Ty)→List AV→List (Hd×aC)→(r.D→List (Hd×aC)→Option R)→Option R
 | .unit,[],ws,κ=>κ () ws
 | .pair a b,v :: vs,ws,κ=>iO a v fun cs=>cr h a cs ws fun x rest ws=>kw rest (ki h b vs ws fun y ws=>κ (x,y) ws)
 | _,_,_,_=>none
def nvK {R:Type} (b:Bool) (k:Option R):Option R :=
 match b with
 | true=>k
 | false=>none
def F5 (T:Tab) (one fresh:Bool) (rvs:List ResultVar) (r:Ty) (e:Ex) (st:St):Option r.D :=
 match e with
 | .exit _=>none
 | _=>vN T st rvs fun vs=>match one,fresh with
  | true,false=>match vs with
   | [v]=>iO r v fun cs=>bP st.h r cs [] fun x rest _=>kw rest (some x)
   | _=>none
  | true,true=>match vs with
   | [v]=>iO r v fun cs=>cr st.h r cs [] fun x rest _=>kw rest (nvK r.noVw (some x))
   | _=>none
  | false,false=>od st.h r vs [] fun x _=>some x
  | false,true=>ki st.h r vs [] fun x _=>nvK r.noVw (some x)
end Go.Abs
