/- Part of a proof of FnExactPlay: see the row. -/
import Derived.Test.YtenadnbpibhmiaaGreatPlAbsOps10
set_option linter.unusedVariables false
set_option linter.unusedSimpArgs false
namespace Go.Abs
open Go.RowKit
def ff (P:Program) (f:FuncId):Prop:=(P.funcs[f]?).any (fun fn=>fn.body.isSome && fn.name != "runtime.NumGoroutine")=true
def jF (one:Bool) (r:Ty) (cs:List Value):Value :=
 match one with
 | true=>valOf r cs
 | false=>.tuple (argsOf r cs).toArray
def tS (P:Program):(c:Ty)→(Nat→Prop)→World→List Nat→c.D→Prop
 | .unit,_,_,bs,_=>bs=[]
 | .pair a r,Imm,w,bs,z=>∃ b bs' cv ty fr,bs=b :: bs'∧Imm b∧b < w.heap.size∧w.heap[b]?=some (.cells cv ty fr)∧Rd P a Imm w cv.toList z.1∧tS P r Imm w bs' z.2
 | _,_,_,_,_=>False
def oY (P:Program) (Imm:Nat→Prop):(ms:List Md)→(a:Ty)→World→List Value→a.D→List Nat→Prop
 | [],.unit,_,vs,_,fp=>vs=[]∧fp=[]
 | .rd :: ms,.pair t a,w,vs,x,fp=>∃ cs r,vs=valOf t cs :: r∧Rd P t Imm w cs x.1∧oY P Imm ms a w r x.2 fp
 | .nil :: ms,.pair .unit a,w,vs,x,fp=>∃ r,vs=.slice none 0 0 :: r∧oY P Imm ms a w r x.2 fp
 | .lent :: ms,.pair t a,w,vs,x,fp=>∃ cs r f1 f2,vs=valOf t cs :: r∧fp=f1++f2∧Own P Imm t w cs x.1 f1∧oY P Imm ms a w r x.2 f2
 | .tk :: ms,.pair t a,w,vs,x,fp=>∃ cs r f1 f2,vs=valOf t cs :: r∧fp=f1++f2∧Own P Imm t w cs x.1 f1∧oY P Imm ms a w r x.2 f2
 | .ptr :: ms,.pair t a,w,vs,x,fp=>∃ b c ty r f2,vs=.pointer (some ⟨b,0,none⟩) :: r∧fp=b :: f2∧w.heap[b]?=some (.cells c ty (0,0))∧Rd P t Imm w c.toList x.1∧oY P Imm ms a w r x.2 f2
 | _,_,_,_,_,_=>False
def sH (P:Program) (Imm:Nat→Prop):(ms:List Md)→(a:Ty)→World→List Value→(fS ms a).D→List Nat→Prop
 | .lent :: ms,.pair t a,w,vs,z,fp=>∃ cs r f1 f2,vs=valOf t cs :: r∧fp=f1++f2∧Own P Imm t w cs z.1 f1∧sH P Imm ms a w r z.2 f2
 | .ptr :: ms,.pair t a,w,vs,z,fp=>∃ b c ty r f2,vs=.pointer (some ⟨b,0,none⟩) :: r∧fp=b :: f2∧w.heap[b]?=some (.cells c ty (0,0))∧Rd P t Imm w c.toList z.1∧sH P Imm ms a w r z.2 f2
 | .rd :: ms,.pair _ a,w,vs,z,fp=>∃ v r,vs=v :: r∧sH P Imm ms a w r z fp
 | .nil :: ms,.pair _ a,w,vs,z,fp=>∃ v r,vs=v :: r∧sH P Imm ms a w r z fp
 | .tk :: ms,.pair _ a,w,vs,z,fp=>∃ v r,vs=v :: r∧sH P Imm ms a w r z fp
 | [],.unit,_,vs,_,fp=>vs=[]∧fp=[]
 | _,_,_,_,_,_=>False
def CD (Imm:Nat→Prop) (w w':World) (fp:List Nat):Nat→Prop:=fun b=>Imm b∨(w.heap.size≤b∧b < w'.heap.size∧b ∉ fp)
def QJ (P:Program) (fr:Bool) (r:Ty) (I:Nat→Prop) (w:World) (cs:List Value) (y:r.D) (fpr:List Nat):Prop :=
 match fr with
 | false=>Rd P r I w cs y∧fpr=[]
 | true=>Own P I r w cs y fpr
def Lj (sb:Nat):List (FuncId×Bool)→List Value
 | []=>[]
 | (f,true) :: r=>.func (.func f) #[] #[.pointer (some ⟨sb,0,none⟩)] :: Lj sb r
 | (f,false) :: r=>.func (.func f) #[] #[] :: Lj sb r
def S6 (P:Program) (I:Nat→Prop) (t:Ty) (fs:List (FuncId×Bool)) (sf:Bool) (w:World) (b sb:Nat) (x:t.D) (fp:List Nat):Prop :=
 ∃ (c:Array Value) (ty:TypeId) (f:List Nat) (us:List Value),w.heap[b]?=some (.cells c ty (0,0))∧c.toList=us++Lj sb fs∧Own P I t w us x f∧fp=b :: f ∧
  (sf=true→∃ (c':Array Value) (ty':TypeId),w.heap[sb]?=some (.cells c' ty' (0,0))∧c'.toList=[.pointer (some ⟨b,0,none⟩)])
def O7 (Imm:Nat→Prop) (w w':World) (fp fp':List Nat):Nat→Prop:=fun k=>Imm k∨(k < w'.heap.size∧(k∈fp∨w.heap.size≤k)∧k ∉ fp')
def fC (P:Program) (f:Nat):Ct→Prop
 | .pure one fr a r F=>ff P f∧∀ Imm w cs x y,Rd P a Imm w cs x→F x=some y →
   Calls P f (argsOf a cs).toArray w fun e w'=>bg aV w w'∧∃ cs',e=.returned (jF one r cs') ∧
    (match fr with
     | false=>Rd P r (fun b=>Imm b∨(w.heap.size≤b∧b < w'.heap.size)) w' cs' y
     | true=>∃ fp,Own P aV r w' cs' y fp∧fp.Nodup∧∀ b∈fp,w.heap.size≤b)
 | .clo a c r F=>ff P f∧r.flat=true∧∀ Imm w cs x y Ic bs z,tS P c Ic w bs z→Rd P a Imm w cs x→F z x=some y →
   Calls P f ((argsOf a cs)++bs.map fun b=>Value.pointer (some ⟨b,0,none⟩)).toArray w fun e w'=>bg aV w w'∧∃ cs',e=.returned (valOf r cs')∧Rd P r aV w' cs' y
 | .box a t F=>ff P f∧∀ Imm w cs x y,Rd P a Imm w cs x→(∀ b,Imm b→b < w.heap.size)→F x=some y →
   Calls P f (argsOf a cs).toArray w fun e w'=>bg aV w w'∧∃ b c ty,e=.returned (.pointer (some ⟨b,0,none⟩))∧w.heap.size≤b∧w'.heap[b]?=some (.cells c ty (0,0)) ∧
    Rd P t (fun k=>Imm k∨(w.heap.size≤k∧k < w'.heap.size∧k≠b)) w' c.toList y
 | .mut ms one fr a r F=>ff P f∧∀ Imm w vs x fp y,(∀ b∈fp,¬ Imm b)→(∀ b,Imm b→b < w.heap.size)→fp.Nodup→oY P Imm ms a w vs x fp→F x=some y →
   Calls P f vs.toArray w fun e w'=>bg (fun b=>b∈fp) w w'∧∃ cs' fpr fpo,e=.returned (jF one r cs') ∧
    QJ P fr r (CD Imm w w' (fpr++fpo)) w' cs' y.1 fpr ∧
    sH P (CD Imm w w' (fpr++fpo)) ms a w' vs y.2 fpo∧(fpr++fpo).Nodup∧∀ b∈fpr++fpo,b∈fp∨w.heap.size≤b
 | .run t fs sf via one a r F=>ff P f∧∀ Imm w cs y b sb x fp z,S6 P Imm t fs sf w b sb x fp→fp.Nodup→(∀ k∈fp,¬ Imm k)→(sf=true→sb ∉ fp∧¬ Imm sb)→(∀ k,Imm k→k < w.heap.size)→Rd P a Imm w cs y→F x y=some z →
   Calls P f (match via with | false=>Value.pointer (some ⟨b,0,none⟩) :: argsOf a cs | true=>argsOf a cs++[Value.pointer (some ⟨sb,0,none⟩)]).toArray w fun e w'=>bg (fun k=>k∈fp) w w' ∧
    ∃ cs' fp',e=.returned (jF one r cs')∧Rd P r aV w' cs' z.1∧S6 P (O7 Imm w w' fp fp') t fs sf w' b sb z.2 fp'∧fp'.Nodup∧∀ k∈fp',k∈fp∨w.heap.size≤k
def aE (P:Program) (E:Env):Prop:=fU P E.T∧∀ f ct,iu E.G f=some ct→fC P f ct
theorem Rd.flatI {P:Program}:∀ {t:Ty} {I J:Nat→Prop} {w w':World} {vs:List Value} {x:t.D},t.flat=true→Rd P t I w vs x→Rd P t J w' vs x
 | .int _,_,_,_,_,_,_,_,h=>h
 | .bool,_,_,_,_,_,_,_,h=>h
 | .hd,_,_,_,_,_,_,_,h=>h
 | .unit,_,_,_,_,_,_,_,h=>h
 | .pair a b,_,_,_,_,_,_,hf,⟨v1,v2,h,h1,h2,h3⟩=>by
  simp only [Ty.flat,Bool.and_eq_true] at hf
  exact ⟨v1,v2,h,h1,h2.flatI hf.1,h3.flatI hf.2⟩
theorem tS.keep {P:Program}:∀ {c:Ty} {I:Nat→Prop} {w w':World} {bs:List Nat} {z:c.D},tS P c I w bs z→(∀ b,I b→b < w.heap.size→b < w'.heap.size∧w'.heap[b]?=w.heap[b]?)→tS P c I w' bs z
 | .unit,_,_,_,_,_,h,_=>h
 | .pair a r,_,_,_,_,_,⟨b,bs',cv,ty,fr,e,hb,hl,hc,hr,h⟩,hk =>
  ⟨b,bs',cv,ty,fr,e,hb,(hk b hb hl).1,by rw [(hk b hb hl).2];exact hc,hr.keep (fun b hb hl=>⟨hb,(hk b hb hl).1,(hk b hb hl).2⟩),h.keep hk⟩
 | .int _,_,_,_,_,_,h,_=>h.elim
 | .bool,_,_,_,_,_,h,_=>h.elim
 | .hd,_,_,_,_,_,h,_=>h.elim
 | .slice _,_,_,_,_,_,h,_=>h.elim
 | .fn _ _,_,_,_,_,_,h,_=>h.elim
 | .vw _,_,_,_,_,_,h,_=>h.elim
section
variable {P:Program} {M:Nat→Prop} {w0:World} {σ:Hd→aS} {Imm:Nat→Prop} {st:St} {a:Act} {w:World} {E:Env}
theorem eT.mono {us us':List Hd} (h:∀ q∈us,q∈us') (b:Nat) (hb:eT σ Imm us b):eT σ Imm us' b:=by
 rcases hb with hb | ⟨q,hq,hb⟩
 ·exact .inl hb
 ·exact .inr ⟨q,h q hq,hb⟩
def lC (st:St) (os us:List Hd):Prop:=(∀ q∈os,q∈us)∧∀ q∈us,q∈os∨(aj st.h q).live=true
theorem lC.refl (os:List Hd):lC st os os:=⟨fun _ h=>h,fun _ h=>.inl h⟩
theorem lC.trans {a b c:List Hd} (h:lC st a b) (k:lC st b c):lC st a c :=
 ⟨fun q hq=>k.1 q (h.1 q hq),fun q hq=>by
  rcases k.2 q hq with h1 | h1
  ·exact h.2 q h1
  ·exact .inr h1⟩
theorem ee {R:Type} {r:R} (R0:Rel P M w0 σ Imm st a w):∀ {t:Ty} {ls:List Leaf} {vs:List Value} {os:List Hd} {κ:t.D→List Leaf→List Hd→Option R},LRs P σ Imm w ls vs→aK st.h (aN ls) →
  bz st.h t ls os κ=some r→∃ x rest us v1 v2,κ x rest us=some r∧vs=v1++v2∧LRs P σ Imm w rest v2∧aK st.h (aN rest)∧Rd P t (eT σ Imm us) w v1 x∧lC st os us
 | .int k,ls,vs,os,κ,hr,hc,h=>by
  cases ls with
  | nil=>simp [bz] at h
  | cons l ls =>
   cases l <;> simp only [bz,reduceCtorEq] at h
   split at h
   ·rename_i k' n e
    subst e
    obtain ⟨v,q,e,hv,hq⟩:=hr
    subst e
    have hv:v=_:=hv
    subst hv
    exact ⟨_,ls,os,[_],q,h,rfl,hq,fun p hp=>hc p (by simp [aN,hp]),rfl,lC.refl os⟩
   ·cases h
 | .bool,ls,vs,os,κ,hr,hc,h=>by
  cases ls with
  | nil=>simp [bz] at h
  | cons l ls =>
   cases l <;> simp only [bz,reduceCtorEq] at h
   obtain ⟨v,q,e,hv,hq⟩:=hr
   subst e
   have hv:v=_:=hv
   subst hv
   exact ⟨_,ls,os,[_],q,h,rfl,hq,fun p hp=>hc p (by simp [aN,hp]),rfl,lC.refl os⟩
 | .hd,ls,vs,os,κ,hr,hc,h=>by
  cases ls with
  | nil=>simp [bz] at h
  | cons l ls =>
   cases l <;> simp only [bz,reduceCtorEq] at h
   all_goals (
    obtain ⟨v,q,e,hv,hq⟩:=hr
    subst e
    have hv:v=_:=hv
    subst hv
    exact ⟨_,ls,os,[_],q,h,rfl,hq,fun p hp=>hc p (by simp [aN,hp]),rfl,lC.refl os⟩)
 | .slice t,ls,vs,os,κ,hr,hc,h=>by
  cases ls with
  | nil=>simp [bz] at h
  | cons l ls =>
   simp only [bz] at h
   obtain ⟨v,q,e,hv,hq⟩:=hr
   subst e
   obtain ⟨xs,us,h1,h2,h3,h4⟩:=ya R0 hv (fun p hp=>hc p (by simp [aN,hp])) h
   refine ⟨xs,ls,us++os,[v],q,h1,rfl,hq,fun p hp=>hc p (by simp [aN,hp]),Rd.imm h2 (eT.mono (by simp +contextual)),fun p hp=>by simp [hp],fun p hp=>?_⟩
   rcases List.mem_append.1 hp with hp | hp
   ·exact .inr (h4 p hp)
   ·exact .inl hp
 | .unit,ls,vs,os,κ,hr,hc,h=>by
  simp only [bz] at h
  exact ⟨(),ls,os,[],vs,h,rfl,hr,hc,rfl,lC.refl os⟩
 | .pair t u,ls,vs,os,κ,hr,hc,h=>by
  simp only [bz] at h
  obtain ⟨x,rest,us,v1,v2,h1,e1,r1,c1,d1,s1⟩:=ee (t:=t) R0 hr hc h
  obtain ⟨y,rest2,us2,v3,v4,h2,e2,r2,c2,d2,s2⟩:=ee (t:=u) R0 r1 c1 h1
  exact ⟨(x,y),rest2,us2,v1++v3,v4,h2,by rw [e1,e2,List.append_assoc],r2,c2,⟨v1,v3,rfl,d1.length,Rd.imm d1 (eT.mono s2.1),d2⟩,s1.trans s2⟩
 | .fn p q,ls,vs,os,κ,hr,hc,h=>by
  cases ls with
  | nil=>simp [bz] at h
  | cons l ls =>
   cases l <;> simp only [bz,reduceCtorEq] at h
   obtain ⟨e,hk⟩:=nH h
   cases e
   obtain ⟨v,q',e,hv,hq⟩:=hr
   subst e
   exact ⟨_,ls,os,[v],q',hk,rfl,hq,fun p hp=>hc p (by simp [aN,hp]),Rd.imm hv fun b hb=>.inl hb,lC.refl os⟩
 | .vw t,ls,vs,os,κ,hr,hc,h=>by
  cases ls with
  | nil=>simp [bz] at h
  | cons l ls =>
   simp only [bz] at h
   obtain ⟨v,q,e,hv,hq⟩:=hr
   subst e
   obtain ⟨xs,us,h1,h2,h3,h4⟩:=ya R0 hv (fun p hp=>hc p (by simp [aN,hp])) h
   refine ⟨xs,ls,us++os,[v],q,h1,rfl,hq,fun p hp=>hc p (by simp [aN,hp]),Rd.imm (t:=.slice t) h2 (eT.mono (by simp +contextual)),fun p hp=>by simp [hp],fun p hp=>?_⟩
   rcases List.mem_append.1 hp with hp | hp
   ·exact .inr (h4 p hp)
   ·exact .inl hp
theorem QK {R:Type} {r:R} (hE:aE P E) (R0:Rel P M w0 σ Imm st a w) {t:Ty} {ls:List Leaf} {vs:List Value} {os:List Hd} {κ:t.D→List Leaf→List Hd→Option R} (hr:LRs P σ Imm w ls vs) (hc:aK st.h (aN ls))
  (h:F1 E st.h t ls os κ=some r):∃ x rest us v1 v2,κ x rest us=some r∧vs=v1++v2∧LRs P σ Imm w rest v2∧aK st.h (aN rest)∧Rd P t (eT σ Imm us) w v1 x∧lC st os us:=by
 unfold F1 at h
 split at h
 ·rename_i p q f κ'
  split at h
  ·rename_i fr a' r' F hg
   obtain ⟨hb,hct⟩:=hE.2 f _ hg
   split at h
   ·rename_i hfl
    obtain ⟨e,hk⟩:=nH h
    cases e
    obtain ⟨v,vs',e,hv,hq⟩:=hr
    cases hq
    subst e
    have hv:v=.func (.func f) #[] #[]:=by
     have hv:v=.func (.func f) #[] (List.map (fun o=>Value.pointer (some ⟨(σ o).b,0,none⟩)) []).toArray:=hv
     simpa using hv
    refine ⟨_,[],os,[v],[],hk,rfl,rfl,aA,⟨f,#[],by rw [hv],hb,fun Imm' w' cs x y hkeep hr hF=>?_⟩,lC.refl _⟩
    have:=hct Imm' w' cs x y hr hF
    refine Calls.mono (by simpa using this) fun e w'' hq=>?_
    obtain ⟨hk,cs',he,hq⟩:=hq
    refine ⟨hk,cs',he,?_⟩
    cases fr with
    | false=>exact hq.flatI hfl
    | true =>
     obtain ⟨fp,hq⟩:=hq
     exact hq.1.rd (fun b hb=>by rw [(Own.flat (J:=aV) (w':=w'') hfl hq.1).1] at hb;cases hb) fun _ h=>h
   ·cases h
  ·cases h
 ·exact ee R0 hr hc h
theorem AS {R:Type} {r:R} (hE:aE P E) (R0:Rel P M w0 σ Imm st a w):∀ {c:Ty} {caps:List Hd} {os:List Hd} {κ:c.D→List Hd→Option R},
  bC E st.h c caps os κ=some r→∃ z us,κ z us=some r∧tS P c (eT σ Imm us) w (caps.map fun o=>(σ o).b) z∧lC st os us
 | .unit,caps,os,κ,h=>by
  cases caps with
  | nil=>exact ⟨(),os,by simpa [bC] using h,rfl,lC.refl os⟩
  | cons _ _=>simp [bC] at h
 | .pair t u,caps,os,κ,h=>by
  cases caps with
  | nil=>simp [bC] at h
  | cons o caps =>
   simp only [bC] at h
   split at h
   ·rename_i ro ls ho
    have hob:=R0.ob o
    rw [ho] at hob
    obtain ⟨cv,ty,h1,h2,h3⟩:=hob
    obtain ⟨x,rest,us,v1,v2,k1,k2,k3,k4,k5,k6⟩:=QK hE R0 h2 (R0.cb o ro ls ho) h
    split at k1
    ·cases k3
     simp only [List.append_nil] at k2
     obtain ⟨z,us2,m1,m2,m3⟩:=AS hE R0 k1
     have hl:(aj st.h o).live=true:=by rw [ho];rfl
     have hin:o∈us:=k6.1 o (by simp)
     refine ⟨(x,z),us2,m1,⟨(σ o).b,_,cv,ty,(0,0),rfl,.inr ⟨o,m3.1 o hin,by rw [h3];simp⟩,(Array.getElem?_eq_some_iff.1 h1).1,h1,?_,m2⟩,?_⟩
     ·rw [k2];exact Rd.imm k5 (eT.mono m3.1)
     ·refine lC.trans ⟨fun q hq=>k6.1 q (by simp [hq]),fun q hq=>?_⟩ m3
      rcases k6.2 q hq with h | h
      ·rcases List.mem_cons.1 h with rfl | h
       ·exact .inr hl
       ·exact .inl h
      ·exact .inr h
    ·cases k1
   ·cases h
 | .int _,caps,os,κ,h=>by simp [bC] at h
 | .bool,caps,os,κ,h=>by simp [bC] at h
 | .hd,caps,os,κ,h=>by simp [bC] at h
 | .slice _,caps,os,κ,h=>by simp [bC] at h
 | .vw _,caps,os,κ,h=>by simp [bC] at h
 | .fn _ _,caps,os,κ,h=>by simp [bC] at h
def rv (P:Program) (σ:Hd→aS) (Imm:Nat→Prop) (w:World):List AV→List Value→Prop
 | [],us=>us=[]
 | v :: vs,us=>∃ u r,us=u :: r∧AVR P σ Imm w v u∧rv P σ Imm w vs r
theorem gV {R:Type} {r:R} {t:Ty} {v:AV} {κ:List Leaf→Option R} {u:Value} (hv:AVR P σ Imm w v u) (h:gO t v κ=some r) :
  ∃ ls us,κ ls=some r∧LRs P σ Imm w ls us∧aN ls=v.hds∧u=valOf t us:=by
 unfold gO at h
 split at h
 ·rename_i cs hs
  obtain ⟨us,e,hr⟩:=hv
  exact ⟨_,us,h,hr,rfl,by rw [valOf,hs];exact e⟩
 ·rename_i l hs
  exact ⟨[l],[u],h,⟨u,[],rfl,hv,rfl⟩,by simp [aN,AV.hds],by rw [valOf,hs];rfl⟩
 ·cases h
theorem QL {h:List (List aw)} {l m:List Hd} (h1:aK h l) (h2:aK h m):aK h (l++m):=fun o ho=>by
 rcases List.mem_append.1 ho with ho | ho
 ·exact h1 o ho
 ·exact h2 o ho
theorem argsOf_pair {t u:Ty} {c1 c2:List Value} (h:c1.length=t.n):argsOf (.pair t u) (c1++c2)=valOf t c1 :: argsOf u c2:=by
 simp only [argsOf]
 rw [← h,List.take_left,List.drop_left]
theorem fD {R:Type} {r:R} (hE:aE P E) (R0:Rel P M w0 σ Imm st a w):∀ {c:Ty} {vs:List AV} {us:List Value} {os:List Hd} {κ:c.D→List Hd→Option R},rv P σ Imm w vs us→(∀ v∈vs,aK st.h v.hds) →
  aJ E st.h c vs os κ=some r→∃ x ps cs,κ x ps=some r∧Rd P c (eT σ Imm ps) w cs x∧us=argsOf c cs∧lC st os ps
 | .unit,vs,us,os,κ,hv,hc,h=>by
  cases vs with
  | nil=>cases hv;exact ⟨(),os,[],by simpa [aJ] using h,rfl,rfl,lC.refl os⟩
  | cons _ _=>simp [aJ] at h
 | .pair t u,vs,us,os,κ,hv,hc,h=>by
  cases vs with
  | nil=>simp [aJ] at h
  | cons v vs =>
   obtain ⟨v1,us',e,hv1,hvs⟩:=hv
   subst e
   have hc':∀ v∈vs,aK st.h v.hds:=fun x hx=>hc x (by simp [hx])
   have plain:(gO t v fun cs=>bz st.h t cs os fun x r os=>jD r (aJ E st.h u vs os fun q os=>κ (x,q) os))=some r→∃ x ps cs,κ x ps=some r∧Rd P (.pair t u) (eT σ Imm ps) w cs x∧v1 :: us'=argsOf (.pair t u) cs∧lC st os ps:=by
    intro h
    obtain ⟨ls,ws,h1,h2,h3,h4⟩:=gV hv1 h
    obtain ⟨x,rest,ps,w1,w2,k1,k2,k3,k4,k5,k6⟩:=ee R0 h2 (by rw [h3];exact hc v (by simp)) h1
    unfold jD at k1
    split at k1
    ·cases k3
     simp only [List.append_nil] at k2
     subst k2
     obtain ⟨y,ps2,cs,m1,m2,m3,m4⟩:=fD hE R0 hvs hc' k1
     exact ⟨(x,y),ps2,ws++cs,m1,⟨ws,cs,rfl,k5.length,Rd.imm k5 (eT.mono m4.1),m2⟩,by rw [argsOf_pair k5.length,← h4,← m3],k6.trans m4⟩
    ·cases k1
   have clo:∀ {p q:Ty} {f:FuncId} {caps:List Hd} {F:p.D→Option q.D} {ps:List Hd} {κ':u.D→List Hd→Option R},ff P f→v=.leaf (.fn f caps) →
     (∀ Imm' w' cs x y,(∀ b,eT σ Imm ps b→b < w.heap.size→w'.heap[b]?=w.heap[b]?)→Rd P p Imm' w' cs x→F x=some y →
      Calls P f ((argsOf p cs).toArray++(caps.map fun o=>Value.pointer (some ⟨(σ o).b,0,none⟩)).toArray) w' fun e w''=>bg aV w' w''∧∃ cs',e=.returned (valOf q cs')∧Rd P q aV w'' cs' y) →
     aJ E st.h u vs ps κ'=some r→(∀ y ps2,κ' y ps2=some r→∃ e:Ty.fn p q=t,κ (e ▸ F,y) ps2=some r)→lC st os ps →
     ∃ x ps cs,κ x ps=some r∧Rd P (.pair t u) (eT σ Imm ps) w cs x∧v1 :: us'=argsOf (.pair t u) cs∧lC st os ps:=by
    intro p q f caps F ps κ' hb hv' hcall hk hκ hs
    subst hv'
    obtain ⟨y,ps2,cs,m1,m2,m3,m4⟩:=fD hE R0 hvs hc' hk
    obtain ⟨e,hk2⟩:=hκ y ps2 m1
    subst e
    have hv1':v1=.func (.func f) #[] (caps.map fun o=>Value.pointer (some ⟨(σ o).b,0,none⟩)).toArray:=hv1
    have hrd:Rd P (.fn p q) (eT σ Imm ps2) w [v1] F:=⟨f,_,by rw [hv1'],hb,fun Imm' w' cs x y hkeep hr hF=>hcall Imm' w' cs x y (fun b hbI hl=>hkeep b (eT.mono m4.1 b hbI) hl) hr hF⟩
    refine ⟨(F,y),ps2,v1 :: cs,hk2,⟨[v1],cs,rfl,rfl,hrd,m2⟩,?_,hs.trans m4⟩
    have:=argsOf_pair (t:=.fn p q) (u:=u) (c1:=[v1]) (c2:=cs) rfl
    simp only [List.singleton_append] at this
    rw [this,← m3]
    rfl
   cases t with
   | fn p q=>cases v with
    | leaf l=>cases l with
     | fn f caps =>
      simp only [aJ] at h
      split at h
      ·rename_i a' c r' F hg
       obtain ⟨hb,hfl,hct⟩:=hE.2 f _ hg
       obtain ⟨z,ps,k1,k2,k3⟩:=AS hE R0 h
       obtain ⟨e,k4⟩:=nH k1
       cases e
       refine clo (ps:=ps) hb rfl (fun Imm' w' cs x y hkeep hr hF=>?_) k4 (fun y ps2 hk=>⟨rfl,hk⟩) k3
       have hcaps:=k2.keep (w':=w') fun b hb hl=>⟨?_,hkeep b hb hl⟩
       ·have:=hct Imm' w' cs x y _ _ z hcaps hr hF
        simpa [List.map_map,Function.comp_def] using this
       ·have h1:=hkeep b hb hl
        rcases Nat.lt_or_ge b w'.heap.size with h2 | h2
        ·exact h2
        ·rw [Array.getElem?_eq_none h2,Array.getElem?_eq_getElem hl] at h1;cases h1
      ·rename_i fr a' r' F hg
       obtain ⟨hb,hct⟩:=hE.2 f _ hg
       split at h
       ·rename_i hfl
        simp only [Bool.and_eq_true] at hfl
        obtain ⟨hfl,hcp⟩:=hfl
        have hcp:caps=[]:=by cases caps with | nil=>rfl | cons _ _=>simp [Bj] at hcp
        subst hcp
        obtain ⟨e,k4⟩:=nH h
        cases e
        refine clo (ps:=os) hb rfl (fun Imm' w' cs x y hkeep hr hF=>?_) k4 (fun y ps2 hk=>⟨rfl,hk⟩) (lC.refl os)
        have:=hct Imm' w' cs x y hr hF
        refine Calls.mono (by simpa using this) fun e w'' hq=>?_
        obtain ⟨hk,cs',he,hq⟩:=hq
        refine ⟨hk,cs',he,?_⟩
        cases fr with
        | false=>exact hq.flatI hfl
        | true =>
         obtain ⟨fp,hq⟩:=hq
         exact hq.1.rd (fun b hb=>by rw [(Own.flat (J:=aV) (w':=w'') hfl hq.1).1] at hb;cases hb) fun _ h=>h
       ·cases h
      ·cases h
     | _=>exact plain (by simpa [aJ] using h)
    | _=>exact plain (by simpa [aJ] using h)
   | _=>exact plain (by simpa [aJ] using h)
 | .int _,vs,us,os,κ,hv,hc,h=>by cases vs <;> simp [aJ] at h
 | .bool,vs,us,os,κ,hv,hc,h=>by cases vs <;> simp [aJ] at h
 | .hd,vs,us,os,κ,hv,hc,h=>by cases vs <;> simp [aJ] at h
 | .slice _,vs,us,os,κ,hv,hc,h=>by cases vs <;> simp [aJ] at h
 | .fn _ _,vs,us,os,κ,hv,hc,h=>by cases vs <;> simp [aJ] at h
 | .vw _,vs,us,os,κ,hv,hc,h=>by cases vs <;> simp [aJ] at h
end
end Go.Abs
