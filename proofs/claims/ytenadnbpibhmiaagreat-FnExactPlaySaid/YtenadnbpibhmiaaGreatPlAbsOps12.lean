/- Part of a proof of FnExactPlay: see the row. -/
import Derived.Test.YtenadnbpibhmiaaGreatPlAbsOps11
set_option linter.unusedVariables false
set_option linter.unusedSimpArgs false
namespace Go.Abs
open Go.RowKit
section
variable {P:Program} {M:Nat→Prop} {w0:World} {σ:Hd→aS} {Imm:Nat→Prop} {st:St} {a:Act} {w:World} {o:Oper} {E:Env}
theorem S7:∀ {t:Ty},t.isStruct=false→t.n=1
 | .int _,_=>rfl
 | .bool,_=>rfl
 | .hd,_=>rfl
 | .slice _,_=>rfl
 | .fn _ _,_=>rfl
 | .vw _,_=>rfl
theorem eI {t:Ty} {ls:List Leaf} {vs:List Value} (h:LRs P σ Imm w ls vs) (hn:vs.length=t.n):AVR P σ Imm w (cV t ls) (valOf t vs):=by
 have hl:=h.length
 cases hb:t.isStruct with
 | true =>
  have e:cV t ls=.agg ls:=by unfold cV;rw [hb]
  rw [e,valOf,hb]
  exact ⟨vs,rfl,h⟩
 | false =>
  have h1:=S7 hb
  match ls,hl,h with
  | [l],_,⟨v,r,e,h1,h2⟩ =>
   have h2:r=[]:=h2
   subst h2
   subst e
   have e:cV t [l]=.leaf l:=by unfold cV;rw [hb]
   rw [e,valOf,hb]
   exact h1
  | [],hl,_=>simp at hl;omega
  | _ :: _ :: _,hl,_=>simp at hl;omega
theorem eJ (t:Ty) (ls:List Leaf):(cV t ls).hds=aN ls:=by
 unfold cV
 split
 ·simp [AV.hds,aN]
 ·rfl
theorem lN {R:Type}:∀ (t:Ty) (x:t.D) (κ:List (Bool×List Leaf)→R),Aa t x κ=κ (Aa t x id)
 | .int _,_,_=>rfl
 | .bool,_,_=>rfl
 | .hd,_,_=>rfl
 | .slice _,_,_=>rfl
 | .unit,_,_=>rfl
 | .pair a b,x,κ=>by
  simp only [Aa]
  rw [aP,aP,lN b x.2]
  exact (congrArg κ (lN b x.2 fun r=>id ((a.isStruct,iA a x.1) :: r))).symm
 | .fn _ _,_,_=>rfl
 | .vw _,_,_=>rfl
theorem UX {t:Ty} {ls:List Leaf} {vs:List Value} (h:LRs P σ Imm w ls vs) (hn:vs.length=t.n):(match t.isStruct with | true=>valOf t vs=.agg vs.toArray | false=>vs=[valOf t vs]):=by
 cases hb:t.isStruct with
 | true=>simp [valOf,hb]
 | false =>
  have:=S7 hb
  match vs,hn with
  | [v],_=>simp [valOf,hb]
  | [],hn=>simp at hn;omega
  | _ :: _ :: _,hn=>simp at hn;omega
theorem CE:∀ {t:Ty} {x:t.D} {vs:List Value},Rd P t Imm w vs x→Lg P σ Imm w (Aa t x id) (argsOf t vs)
 | .int _,_,_,_=>rfl
 | .bool,_,_,_=>rfl
 | .hd,_,_,_=>rfl
 | .slice _,_,_,_=>rfl
 | .unit,_,_,_=>rfl
 | .pair a b,x,vs,⟨v1,v2,e,h1,h2,h3⟩=>by
  subst e
  simp only [Aa]
  rw [aP,lN b x.2,argsOf_pair h1]
  exact ⟨_,_,v1,rfl,h2.cells,UX (h2.cells (σ:=σ)) h1,CE h3⟩
 | .fn _ _,_,_,_=>rfl
 | .vw _,_,_,_=>rfl
theorem CF:∀ (t:Ty) (x:t.D),((Aa t x id).flatMap fun x=>aN x.2)=[]
 | .int _,_=>rfl
 | .bool,_=>rfl
 | .hd,_=>rfl
 | .slice _,_=>rfl
 | .unit,_=>rfl
 | .pair a b,x=>by
  simp only [Aa]
  rw [aP,lN b x.2]
  simp [cR,CF b x.2]
 | .fn _ _,_=>rfl
 | .vw _,_=>rfl
theorem O8 {R:Type}:∀ (os:List aw) (o:aw) (κ:List aw→R),RF os o κ=κ (os++[o])
 | [],_,_=>rfl
 | a :: r,o,κ=>by simp [RF,O8 r]
theorem RH:∀ os:List aw,Nm os=os.length
 | []=>rfl
 | _ :: r=>by simp [Nm,RH r]
theorem Nv {R:Type}:∀ (l m:List Leaf) (κ:List Leaf→R),SR l m κ=κ (l++m)
 | [],_,_=>rfl
 | a :: r,m,κ=>by simp [SR,Nv r]
def CG (P:Program) (Imm:Nat→Prop) (w:World) (x:aw) (φ:aS):Prop :=
 ∃ t xs,x=.arr false t xs∧Own P Imm (.slice t) w [φ.v] xs φ.fp∧(∀ a n c,φ.v=.slice (some a) n c→a=⟨φ.b,0,none⟩)
def gu (P:Program) (Imm:Nat→Prop) (w:World):List aw→List aS→Prop
 | [],φs=>φs=[]
 | x :: r,φs=>∃ φ φs',φs=φ :: φs'∧CG P Imm w x φ∧gu P Imm w r φs'
theorem gu.append {w:World}:∀ {xs ys:List aw} {φ ψ:List aS},gu P Imm w xs φ→gu P Imm w ys ψ→gu P Imm w (xs++ys) (φ++ψ)
 | [],_,_,_,h,k=>by cases h;exact k
 | _ :: _,_,_,_,⟨p,ps,e,h1,h⟩,k=>by cases e;exact ⟨p,_,rfl,h1,h.append k⟩
theorem gu.length {w:World}:∀ {xs:List aw} {φ:List aS},gu P Imm w xs φ→xs.length=φ.length
 | [],_,h=>by cases h;rfl
 | _ :: _,_,⟨p,ps,e,_,h⟩=>by cases e;simp [h.length]
theorem gu.get {w:World}:∀ {xs:List aw} {φ:List aS} {j:Nat} {x:aw},gu P Imm w xs φ→xs[j]?=some x→∃ p,φ[j]?=some p∧CG P Imm w x p
 | [],_,_,_,_,h=>by simp at h
 | _ :: _,_,0,_,⟨p,ps,e,h1,h⟩,hx=>by cases e;simp at hx;subst hx;exact ⟨p,by simp,h1⟩
 | _ :: _,_,j + 1,_,⟨p,ps,e,h1,h⟩,hx=>by cases e;simpa using h.get (by simpa using hx)
theorem CG.imm {I J:Nat→Prop} {w:World} {x:aw} {φ:aS} (h:CG P I w x φ) (hi:∀ b,I b→J b):CG P J w x φ:=by
 obtain ⟨t,xs,e,h1,h2⟩:=h
 exact ⟨t,xs,e,h1.imm hi,h2⟩
theorem gu.imm {I J:Nat→Prop} {w:World}:∀ {xs:List aw} {φs:List aS},gu P I w xs φs→(∀ b,I b→J b)→gu P J w xs φs
 | [],_,h,_=>h
 | _ :: _,_,⟨p,ps,e,h1,h⟩,hi=>⟨p,ps,e,h1.imm hi,h.imm hi⟩
structure Uk (P:Program) (d:Nat) (k:Nat) (cs:List Leaf) (objs:List aw) (t:Ty) (x:t.D):Prop where
 hds:∀ q∈aN cs,q.1=d∧k≤q.2∧q.2 < k + objs.length
 rel:∀ I w vs fp,Own P I t w vs x fp→∃ φs,gu P I w objs φs∧(φs.map (·.fp)).flatten=fp∧∀ Imm σ,(∀ b,I b→Imm b)→(∀ j p,φs[j]?=some p→σ (d,k + j)=p)→LRs P σ Imm w cs vs
theorem fg:∀ (d:Nat) (t:Ty) (x:t.D) (os:List aw),∃ cs objs,(∀ (R:Type) (κ:List Leaf→List aw→R),iw d t x os κ=κ cs (os++objs))∧Uk P d os.length cs objs t x
 | d,.int k,n,os=>⟨[.int k n],[],fun R κ=>by simp [iw],fun q hq=>by simp [aN,Leaf.hds] at hq,fun I w vs fp h=>⟨[],rfl,h.2.symm,fun Imm σ _ _=>⟨_,[],h.1,rfl,rfl⟩⟩⟩
 | d,.bool,b,os=>⟨[.bool b],[],fun R κ=>by simp [iw],fun q hq=>by simp [aN,Leaf.hds] at hq,fun I w vs fp h=>⟨[],rfl,h.2.symm,fun Imm σ _ _=>⟨_,[],h.1,rfl,rfl⟩⟩⟩
 | d,.hd,b,os=>⟨[.hd b],[],fun R κ=>by simp [iw],fun q hq=>by simp [aN,Leaf.hds] at hq,fun I w vs fp h=>⟨[],rfl,h.2.symm,fun Imm σ _ _=>⟨_,[],h.1,rfl,rfl⟩⟩⟩
 | d,.slice t,xs,os=>⟨[.own (d,os.length)],[.arr false t xs],fun R κ=>by simp [iw,O8,RH],fun q hq=>by
   simp only [aN,Leaf.hds,List.append_nil,List.mem_singleton] at hq
   subst hq
   simp,fun I w vs fp h=>by
   have hv:vs=[vs.headD undef]:=by
    have:=h.length
    match vs,this with
    | [v],_=>rfl
   rw [hv] at h
   obtain ⟨h1,h2⟩:=h.phys
   refine ⟨[⟨vs.headD undef,(vs.headD undef).ownBlock.getD 0,fp⟩],⟨_,[],rfl,⟨t,xs,rfl,h,h2⟩,rfl⟩,by simp,fun Imm σ hI hσ=>?_⟩
   have:=hσ 0 _ rfl
   simp only [Nat.add_zero] at this
   rw [hv]
   exact ⟨_,[],rfl,⟨by rw [this],h1⟩,rfl⟩⟩
 | d,.unit,_,os=>⟨[],[],fun R κ=>by simp [iw],fun q hq=>by simp [aN] at hq,fun I w vs fp h=>⟨[],rfl,h.2.symm,fun Imm σ _ _=>h.1⟩⟩
 | d,.pair a b,x,os=>by
  obtain ⟨ca,oa,ea,ha⟩:=fg d a x.1 os
  obtain ⟨cb,ob,eb,hb⟩:=fg d b x.2 (os++oa)
  refine ⟨ca++cb,oa++ob,fun R κ=>by simp [iw,ea,eb,Nv],fun q hq=>?_,fun I w vs fp h=>?_⟩
  ·have:q∈aN ca∨q∈aN cb:=by
    simp only [nG,List.mem_append] at hq ⊢
    obtain ⟨x,h1 | h1,h2⟩:=hq
    ·exact .inl ⟨x,h1,h2⟩
    ·exact .inr ⟨x,h1,h2⟩
   rcases this with h | h
   ·have:=ha.hds q h;simp;omega
   ·have:=hb.hds q h;simp at this ⊢;omega
  ·obtain ⟨v1,v2,f1,f2,e,h1,e2,h3,h4⟩:=h
   obtain ⟨φ1,n1,fl1,r1⟩:=ha.rel I w v1 f1 h3
   obtain ⟨φ2,n2,fl2,r2⟩:=hb.rel I w v2 f2 h4
   refine ⟨φ1++φ2,n1.append n2,by simp [fl1,fl2,e2],fun Imm σ hI hσ=>?_⟩
   rw [e]
   refine LRs.append (r1 Imm σ hI fun j p hj=>hσ j p ?_) (r2 Imm σ hI fun j p hj=>?_)
   ·rw [List.getElem?_append_left (List.getElem?_eq_some_iff.1 hj).1];exact hj
   ·have:=hσ (φ1.length + j) p (by rw [List.getElem?_append_right (by omega)];simpa using hj)
    rw [← this,List.length_append,n1.length,Nat.add_assoc]
 | d,.fn _ _,p,os=>⟨[.fnd _ _ p],[],fun R κ=>by simp [iw],fun q hq=>by simp [aN,Leaf.hds] at hq,fun I w vs fp h=>h.elim⟩
 | d,.vw t,xs,os=>⟨[.view t xs],[],fun R κ=>by simp [iw],fun q hq=>by simp [aN,Leaf.hds] at hq,fun I w vs fp h=>⟨[],rfl,h.2.symm,fun Imm σ hI _=>(h.1.imm hI).cells⟩⟩
structure Vq (P:Program) (d:Nat) (k:Nat) (ts:List (Bool×List Leaf)) (objs:List aw) (t:Ty) (x:t.D):Prop where
 hds:∀ q∈ts.flatMap (fun x=>aN x.2),q.1=d∧k≤q.2∧q.2 < k + objs.length
 rel:∀ I w vs fp,Own P I t w vs x fp→(∀ a b,t=.pair a b→True)→∃ φs,gu P I w objs φs∧(∀ b∈(φs.map (·.fp)).flatten,b∈fp)∧(fp.Nodup→(φs.map (·.fp)).flatten.Nodup)∧∀ Imm σ,(∀ b,I b→Imm b)→(∀ j p,φs[j]?=some p→σ (d,k + j)=p)→Lg P σ Imm w ts (argsOf t vs)
theorem um:∀ (d:Nat) (t:Ty) (x:t.D) (os:List aw),∃ ts objs,(∀ (R:Type) (κ:List (Bool×List Leaf)→List aw→R),Ev d t x os κ=κ ts (os++objs))∧Vq P d os.length ts objs t x
 | d,.pair a b,x,os=>by
  obtain ⟨ca,oa,ea,ha⟩:=fg (P:=P) d a x.1 os
  obtain ⟨cb,ob,eb,hb⟩:=um d b x.2 (os++oa)
  refine ⟨(a.isStruct,ca) :: cb,oa++ob,fun R κ=>by simp [Ev,ea,eb],fun q hq=>?_,fun I w vs fp h _=>?_⟩
  ·simp only [List.flatMap_cons,List.mem_append] at hq
   rcases hq with h | h
   ·have:=ha.hds q h;simp;omega
   ·have:=hb.hds q h;simp at this ⊢;omega
  ·obtain ⟨v1,v2,f1,f2,e,h1,e2,h3,h4⟩:=h
   obtain ⟨φ1,n1,fl1,r1⟩:=ha.rel I w v1 f1 h3
   obtain ⟨φ2,n2,fl2,fn2,r2⟩:=hb.rel I w v2 f2 h4 (fun _ _ _=>trivial)
   refine ⟨φ1++φ2,n1.append n2,fun b hb=>?_,fun hn=>?_,fun Imm σ hI hσ=>?_⟩
   ·simp only [List.map_append,List.flatten_append,List.mem_append,fl1] at hb
    rw [e2]
    rcases hb with hb | hb
    ·simp [hb]
    ·simp [fl2 b hb]
   ·rw [e2] at hn
    obtain ⟨k1,k2,k3⟩:=List.nodup_append.1 hn
    simp only [List.map_append,List.flatten_append,fl1]
    exact List.nodup_append.2 ⟨k1,fn2 k2,fun x hx y hy=>k3 x hx y (fl2 y hy)⟩
   ·rw [e,argsOf_pair h1]
    have hr1:=r1 Imm σ hI fun j p hj=>hσ j p (by rw [List.getElem?_append_left (List.getElem?_eq_some_iff.1 hj).1];exact hj)
    refine ⟨_,_,v1,rfl,hr1,UX hr1 h1,r2 Imm σ hI fun j p hj=>?_⟩
    have:=hσ (φ1.length + j) p (by rw [List.getElem?_append_right (by omega)];simpa using hj)
    rw [← this,List.length_append,n1.length,Nat.add_assoc]
 | d,.int _,x,os=>⟨[],[],fun R κ=>by simp [Ev],fun q hq=>by simp at hq,fun I w vs fp h _=>⟨[],rfl,by simp,by simp,fun Imm σ _ _=>rfl⟩⟩
 | d,.bool,x,os=>⟨[],[],fun R κ=>by simp [Ev],fun q hq=>by simp at hq,fun I w vs fp h _=>⟨[],rfl,by simp,by simp,fun Imm σ _ _=>rfl⟩⟩
 | d,.hd,x,os=>⟨[],[],fun R κ=>by simp [Ev],fun q hq=>by simp at hq,fun I w vs fp h _=>⟨[],rfl,by simp,by simp,fun Imm σ _ _=>rfl⟩⟩
 | d,.slice _,x,os=>⟨[],[],fun R κ=>by simp [Ev],fun q hq=>by simp at hq,fun I w vs fp h _=>⟨[],rfl,by simp,by simp,fun Imm σ _ _=>rfl⟩⟩
 | d,.unit,x,os=>⟨[],[],fun R κ=>by simp [Ev],fun q hq=>by simp at hq,fun I w vs fp h _=>⟨[],rfl,by simp,by simp,fun Imm σ _ _=>rfl⟩⟩
 | d,.fn _ _,x,os=>⟨[],[],fun R κ=>by simp [Ev],fun q hq=>by simp at hq,fun I w vs fp h _=>⟨[],rfl,by simp,by simp,fun Imm σ _ _=>rfl⟩⟩
 | d,.vw _,x,os=>⟨[],[],fun R κ=>by simp [Ev],fun q hq=>by simp at hq,fun I w vs fp h _=>⟨[],rfl,by simp,by simp,fun Imm σ _ _=>rfl⟩⟩
theorem O9 {f:FuncId} (h:ff P f) (args:Array Value):(callFunc f args).run P w=.ok (.enter f args) w:=by
 unfold ff at h
 cases hf:P.funcs[f]? with
 | none=>rw [hf] at h;simp at h
 | some fn =>
  rw [hf] at h
  simp only [Option.any_some,Bool.and_eq_true,bne_iff_ne,ne_eq] at h
  have h1:fn.body.isNone=false:=by cases hb:fn.body <;> simp_all
  have h2:¬ fn.body=none:=by intro e;rw [e] at h1;simp at h1
  simp [callFunc,hf,h2,h.2]
theorem zL {c:Call} {fo:Operand} {f:FuncId} {caps:Array Value} {us:List Value} {next:Act→World→Prop} {Q:Exit→Act→World→Prop} (ho:o.op=.call c) (hc:c.callee=.value fo) (hf:a.eval fo=.func (.func f) #[] caps)
  (ha:c.args.toList.map a.eval=us) (hb:ff P f) {Q0:Ending→World→Prop} (h:Calls P f (us.toArray++caps) w Q0) (hn:∀ e w',Q0 e w'→∃ v,e=.returned v∧next (a.put o.dst v) w'):o.wp P a w next Q:=by
 unfold Oper.wp
 have hargs:c.args.map a.eval=us.toArray:=by rw [← ha,← Array.toList_map]
 have hrun:(execOp a.eval o).run P w=.ok (.enter f (us.toArray++caps)) w:=by
  simp [execOp,ho,resolve,hc,hf,Deferred.ofValue,invoke,hargs,O9 hb]
 rw [hrun]
 rw [Oper.upon_enter]
 refine h.mono fun e w' hq=>?_
 obtain ⟨v,rfl,hv⟩:=hn e w' hq
 exact hv
end
end Go.Abs
