/- Part of a proof of FnGames: see the row. -/
import Derived.Test.YtenadnbpibhmiaaGreatGmAbsOps10
set_option linter.unusedVariables false
set_option linter.unusedSimpArgs false
namespace Go.Abs
open Go.RowKit
def gh (P:Program) (f:FuncId):Prop:=(P.funcs[f]?).any (fun fn=>fn.body.isSome && fn.name != "runtime.NumGoroutine")=true
def ky (one:Bool) (r:Ty) (cs:List Value):Value :=
 match one with
 | true=>valOf r cs
 | false=>.tuple (argsOf r cs).toArray
def vf (P:Program):(c:Ty)→(Nat→Prop)→World→List Nat→c.D→Prop
 | .unit,_,_,bs,_=>bs=[]
 | .pair a r,Imm,w,bs,z=>∃ b bs' cv ty fr,bs=b :: bs'∧Imm b∧b < w.heap.size∧w.heap[b]?=some (.cells cv ty fr)∧Rd P a Imm w cv.toList z.1∧vf P r Imm w bs' z.2
 | _,_,_,_,_=>False
def pR (P:Program) (Imm:Nat→Prop):(ms:List Md)→(a:Ty)→World→List Value→a.D→List Nat→Prop
 | [],.unit,_,vs,_,fp=>vs=[]∧fp=[]
 | .rd :: ms,.pair t a,w,vs,x,fp=>∃ cs r,vs=valOf t cs :: r∧Rd P t Imm w cs x.1∧pR P Imm ms a w r x.2 fp
 | .nil :: ms,.pair .unit a,w,vs,x,fp=>∃ r,vs=.slice none 0 0 :: r∧pR P Imm ms a w r x.2 fp
 | .lent :: ms,.pair t a,w,vs,x,fp=>∃ cs r f1 f2,vs=valOf t cs :: r∧fp=f1++f2∧Own P Imm t w cs x.1 f1∧pR P Imm ms a w r x.2 f2
 | .tk :: ms,.pair t a,w,vs,x,fp=>∃ cs r f1 f2,vs=valOf t cs :: r∧fp=f1++f2∧Own P Imm t w cs x.1 f1∧pR P Imm ms a w r x.2 f2
 | .ptr :: ms,.pair t a,w,vs,x,fp=>∃ b c ty r f2,vs=.pointer (some ⟨b,0,none⟩) :: r∧fp=b :: f2∧w.heap[b]?=some (.cells c ty (0,0))∧Rd P t Imm w c.toList x.1∧pR P Imm ms a w r x.2 f2
 | _,_,_,_,_,_=>False
def tW (P:Program) (Imm:Nat→Prop):(ms:List Md)→(a:Ty)→World→List Value→(gM ms a).D→List Nat→Prop
 | .lent :: ms,.pair t a,w,vs,z,fp=>∃ cs r f1 f2,vs=valOf t cs :: r∧fp=f1++f2∧Own P Imm t w cs z.1 f1∧tW P Imm ms a w r z.2 f2
 | .ptr :: ms,.pair t a,w,vs,z,fp=>∃ b c ty r f2,vs=.pointer (some ⟨b,0,none⟩) :: r∧fp=b :: f2∧w.heap[b]?=some (.cells c ty (0,0))∧Rd P t Imm w c.toList z.1∧tW P Imm ms a w r z.2 f2
 | .rd :: ms,.pair _ a,w,vs,z,fp=>∃ v r,vs=v :: r∧tW P Imm ms a w r z fp
 | .nil :: ms,.pair _ a,w,vs,z,fp=>∃ v r,vs=v :: r∧tW P Imm ms a w r z fp
 | .tk :: ms,.pair _ a,w,vs,z,fp=>∃ v r,vs=v :: r∧tW P Imm ms a w r z fp
 | [],.unit,_,vs,_,fp=>vs=[]∧fp=[]
 | _,_,_,_,_,_=>False
def CT (Imm:Nat→Prop) (w w':World) (fp:List Nat):Nat→Prop:=fun b=>Imm b∨(w.heap.size≤b∧b < w'.heap.size∧b ∉ fp)
def Pc (P:Program) (fr:Bool) (r:Ty) (I:Nat→Prop) (w:World) (cs:List Value) (y:r.D) (fpr:List Nat):Prop :=
 match fr with
 | false=>Rd P r I w cs y∧fpr=[]
 | true=>Own P I r w cs y fpr
def Jy (sb:Nat):List (FuncId×Bool)→List Value
 | []=>[]
 | (f,true) :: r=>.func (.func f) #[] #[.pointer (some ⟨sb,0,none⟩)] :: Jy sb r
 | (f,false) :: r=>.func (.func f) #[] #[] :: Jy sb r
def RX (P:Program) (I:Nat→Prop) (t:Ty) (fs:List (FuncId×Bool)) (sf:Bool) (w:World) (b sb:Nat) (x:t.D) (fp:List Nat):Prop :=
 ∃ (c:Array Value) (ty:TypeId) (f:List Nat) (us:List Value),w.heap[b]?=some (.cells c ty (0,0))∧c.toList=us++Jy sb fs∧Own P I t w us x f∧fp=b :: f ∧
  (sf=true→∃ (c':Array Value) (ty':TypeId),w.heap[sb]?=some (.cells c' ty' (0,0))∧c'.toList=[.pointer (some ⟨b,0,none⟩)])
def Nj (Imm:Nat→Prop) (w w':World) (fp fp':List Nat):Nat→Prop:=fun k=>Imm k∨(k < w'.heap.size∧(k∈fp∨w.heap.size≤k)∧k ∉ fp')
def cS (P:Program) (f:Nat):Ct→Prop
 | .pure one fr a r F=>gh P f∧∀ Imm w cs x y,Rd P a Imm w cs x→F x=some y →
   Calls P f (argsOf a cs).toArray w fun e w'=>bB bj w w'∧∃ cs',e=.returned (ky one r cs') ∧
    (match fr with
     | false=>Rd P r (fun b=>Imm b∨(w.heap.size≤b∧b < w'.heap.size)) w' cs' y
     | true=>∃ fp,Own P bj r w' cs' y fp∧fp.Nodup∧∀ b∈fp,w.heap.size≤b)
 | .clo a c r F=>gh P f∧r.flat=true∧∀ Imm w cs x y Ic bs z,vf P c Ic w bs z→Rd P a Imm w cs x→F z x=some y →
   Calls P f ((argsOf a cs)++bs.map fun b=>Value.pointer (some ⟨b,0,none⟩)).toArray w fun e w'=>bB bj w w'∧∃ cs',e=.returned (valOf r cs')∧Rd P r bj w' cs' y
 | .box a t F=>gh P f∧∀ Imm w cs x y,Rd P a Imm w cs x→(∀ b,Imm b→b < w.heap.size)→F x=some y →
   Calls P f (argsOf a cs).toArray w fun e w'=>bB bj w w'∧∃ b c ty,e=.returned (.pointer (some ⟨b,0,none⟩))∧w.heap.size≤b∧w'.heap[b]?=some (.cells c ty (0,0)) ∧
    Rd P t (fun k=>Imm k∨(w.heap.size≤k∧k < w'.heap.size∧k≠b)) w' c.toList y
 | .mut ms one fr a r F=>gh P f∧∀ Imm w vs x fp y,(∀ b∈fp,¬ Imm b)→(∀ b,Imm b→b < w.heap.size)→fp.Nodup→pR P Imm ms a w vs x fp→F x=some y →
   Calls P f vs.toArray w fun e w'=>bB (fun b=>b∈fp) w w'∧∃ cs' fpr fpo,e=.returned (ky one r cs') ∧
    Pc P fr r (CT Imm w w' (fpr++fpo)) w' cs' y.1 fpr ∧
    tW P (CT Imm w w' (fpr++fpo)) ms a w' vs y.2 fpo∧(fpr++fpo).Nodup∧∀ b∈fpr++fpo,b∈fp∨w.heap.size≤b
 | .run t fs sf via one a r F=>gh P f∧∀ Imm w cs y b sb x fp z,RX P Imm t fs sf w b sb x fp→fp.Nodup→(∀ k∈fp,¬ Imm k)→(sf=true→sb ∉ fp∧¬ Imm sb)→(∀ k,Imm k→k < w.heap.size)→Rd P a Imm w cs y→F x y=some z →
   Calls P f (match via with | false=>Value.pointer (some ⟨b,0,none⟩) :: argsOf a cs | true=>argsOf a cs++[Value.pointer (some ⟨sb,0,none⟩)]).toArray w fun e w'=>bB (fun k=>k∈fp) w w' ∧
    ∃ cs' fp',e=.returned (ky one r cs')∧Rd P r bj w' cs' z.1∧RX P (Nj Imm w w' fp fp') t fs sf w' b sb z.2 fp'∧fp'.Nodup∧∀ k∈fp',k∈fp∨w.heap.size≤k
def ar (P:Program) (E:Env):Prop:=gO P E.T∧∀ f ct,jk E.G f=some ct→cS P f ct
theorem Rd.flatI {P:Program}:∀ {t:Ty} {I J:Nat→Prop} {w w':World} {vs:List Value} {x:t.D},t.flat=true→Rd P t I w vs x→Rd P t J w' vs x
 | .int _,_,_,_,_,_,_,_,h=>h
 | .bool,_,_,_,_,_,_,_,h=>h
 | .hd,_,_,_,_,_,_,_,h=>h
 | .unit,_,_,_,_,_,_,_,h=>h
 | .pair a b,_,_,_,_,_,_,hf,⟨v1,v2,h,h1,h2,h3⟩=>by
  simp only [Ty.flat,Bool.and_eq_true] at hf
  exact ⟨v1,v2,h,h1,h2.flatI hf.1,h3.flatI hf.2⟩
theorem vf.keep {P:Program}:∀ {c:Ty} {I:Nat→Prop} {w w':World} {bs:List Nat} {z:c.D},vf P c I w bs z→(∀ b,I b→b < w.heap.size→b < w'.heap.size∧w'.heap[b]?=w.heap[b]?)→vf P c I w' bs z
 | .unit,_,_,_,_,_,h,_=>h
 | .pair a r,_,_,_,_,_,⟨b,bs',cv,ty,fr,e,hb,hl,hc,hr,h⟩,hk =>
  ⟨b,bs',cv,ty,fr,e,hb,(hk b hb hl).1,by rw [(hk b hb hl).2];exact hc,hr.keep (fun b hb hl=>⟨hb,(hk b hb hl).1,(hk b hb hl).2⟩),h.keep hk⟩
 | .int _,_,_,_,_,_,h,_=>h.elim
 | .bool,_,_,_,_,_,h,_=>h.elim
 | .hd,_,_,_,_,_,h,_=>h.elim
 | .slice _,_,_,_,_,_,h,_=>h.elim
 | .fn _ _,_,_,_,_,_,h,_=>h.elim
 | .vw _,_,_,_,_,_,h,_=>h.elim
section
variable {P:Program} {M:Nat→Prop} {w0:World} {σ:Hd→bd} {Imm:Nat→Prop} {st:St} {a:Act} {w:World} {E:Env}
theorem fQ.mono {us us':List Hd} (h:∀ q∈us,q∈us') (b:Nat) (hb:fQ σ Imm us b):fQ σ Imm us' b:=by
 rcases hb with hb | ⟨q,hq,hb⟩
 ·exact .inl hb
 ·exact .inr ⟨q,h q hq,hb⟩
def mh (st:St) (os us:List Hd):Prop:=(∀ q∈os,q∈us)∧∀ q∈us,q∈os∨(aq st.h q).live=true
theorem mh.refl (os:List Hd):mh st os os:=⟨fun _ h=>h,fun _ h=>.inl h⟩
theorem mh.trans {a b c:List Hd} (h:mh st a b) (k:mh st b c):mh st a c :=
 ⟨fun q hq=>k.1 q (h.1 q hq),fun q hq=>by
  rcases k.2 q hq with h1 | h1
  ·exact h.2 q h1
  ·exact .inr h1⟩
theorem eF {R:Type} {r:R} (R0:Rel P M w0 σ Imm st a w):∀ {t:Ty} {ls:List Leaf} {vs:List Value} {os:List Hd} {κ:t.D→List Leaf→List Hd→Option R},LRs P σ Imm w ls vs→aY st.h (aZ ls) →
  bP st.h t ls os κ=some r→∃ x rest us v1 v2,κ x rest us=some r∧vs=v1++v2∧LRs P σ Imm w rest v2∧aY st.h (aZ rest)∧Rd P t (fQ σ Imm us) w v1 x∧mh st os us
 | .int k,ls,vs,os,κ,hr,hc,h=>by
  cases ls with
  | nil=>simp [bP] at h
  | cons l ls =>
   cases l <;> simp only [bP,reduceCtorEq] at h
   split at h
   ·rename_i k' n e
    subst e
    obtain ⟨v,q,e,hv,hq⟩:=hr
    subst e
    have hv:v=_:=hv
    subst hv
    exact ⟨_,ls,os,[_],q,h,rfl,hq,fun p hp=>hc p (by simp [aZ,hp]),rfl,mh.refl os⟩
   ·cases h
 | .bool,ls,vs,os,κ,hr,hc,h=>by
  cases ls with
  | nil=>simp [bP] at h
  | cons l ls =>
   cases l <;> simp only [bP,reduceCtorEq] at h
   obtain ⟨v,q,e,hv,hq⟩:=hr
   subst e
   have hv:v=_:=hv
   subst hv
   exact ⟨_,ls,os,[_],q,h,rfl,hq,fun p hp=>hc p (by simp [aZ,hp]),rfl,mh.refl os⟩
 | .hd,ls,vs,os,κ,hr,hc,h=>by
  cases ls with
  | nil=>simp [bP] at h
  | cons l ls =>
   cases l <;> simp only [bP,reduceCtorEq] at h
   all_goals (
    obtain ⟨v,q,e,hv,hq⟩:=hr
    subst e
    have hv:v=_:=hv
    subst hv
    exact ⟨_,ls,os,[_],q,h,rfl,hq,fun p hp=>hc p (by simp [aZ,hp]),rfl,mh.refl os⟩)
 | .slice t,ls,vs,os,κ,hr,hc,h=>by
  cases ls with
  | nil=>simp [bP] at h
  | cons l ls =>
   simp only [bP] at h
   obtain ⟨v,q,e,hv,hq⟩:=hr
   subst e
   obtain ⟨xs,us,h1,h2,h3,h4⟩:=yL R0 hv (fun p hp=>hc p (by simp [aZ,hp])) h
   refine ⟨xs,ls,us++os,[v],q,h1,rfl,hq,fun p hp=>hc p (by simp [aZ,hp]),Rd.imm h2 (fQ.mono (by simp +contextual)),fun p hp=>by simp [hp],fun p hp=>?_⟩
   rcases List.mem_append.1 hp with hp | hp
   ·exact .inr (h4 p hp)
   ·exact .inl hp
 | .unit,ls,vs,os,κ,hr,hc,h=>by
  simp only [bP] at h
  exact ⟨(),ls,os,[],vs,h,rfl,hr,hc,rfl,mh.refl os⟩
 | .pair t u,ls,vs,os,κ,hr,hc,h=>by
  simp only [bP] at h
  obtain ⟨x,rest,us,v1,v2,h1,e1,r1,c1,d1,s1⟩:=eF (t:=t) R0 hr hc h
  obtain ⟨y,rest2,us2,v3,v4,h2,e2,r2,c2,d2,s2⟩:=eF (t:=u) R0 r1 c1 h1
  exact ⟨(x,y),rest2,us2,v1++v3,v4,h2,by rw [e1,e2,List.append_assoc],r2,c2,⟨v1,v3,rfl,d1.length,Rd.imm d1 (fQ.mono s2.1),d2⟩,s1.trans s2⟩
 | .fn p q,ls,vs,os,κ,hr,hc,h=>by
  cases ls with
  | nil=>simp [bP] at h
  | cons l ls =>
   cases l <;> simp only [bP,reduceCtorEq] at h
   obtain ⟨e,hk⟩:=oB h
   cases e
   obtain ⟨v,q',e,hv,hq⟩:=hr
   subst e
   exact ⟨_,ls,os,[v],q',hk,rfl,hq,fun p hp=>hc p (by simp [aZ,hp]),Rd.imm hv fun b hb=>.inl hb,mh.refl os⟩
 | .vw t,ls,vs,os,κ,hr,hc,h=>by
  cases ls with
  | nil=>simp [bP] at h
  | cons l ls =>
   simp only [bP] at h
   obtain ⟨v,q,e,hv,hq⟩:=hr
   subst e
   obtain ⟨xs,us,h1,h2,h3,h4⟩:=yL R0 hv (fun p hp=>hc p (by simp [aZ,hp])) h
   refine ⟨xs,ls,us++os,[v],q,h1,rfl,hq,fun p hp=>hc p (by simp [aZ,hp]),Rd.imm (t:=.slice t) h2 (fQ.mono (by simp +contextual)),fun p hp=>by simp [hp],fun p hp=>?_⟩
   rcases List.mem_append.1 hp with hp | hp
   ·exact .inr (h4 p hp)
   ·exact .inl hp
theorem Pd {R:Type} {r:R} (hE:ar P E) (R0:Rel P M w0 σ Imm st a w) {t:Ty} {ls:List Leaf} {vs:List Value} {os:List Hd} {κ:t.D→List Leaf→List Hd→Option R} (hr:LRs P σ Imm w ls vs) (hc:aY st.h (aZ ls))
  (h:Ft E st.h t ls os κ=some r):∃ x rest us v1 v2,κ x rest us=some r∧vs=v1++v2∧LRs P σ Imm w rest v2∧aY st.h (aZ rest)∧Rd P t (fQ σ Imm us) w v1 x∧mh st os us:=by
 unfold Ft at h
 split at h
 ·rename_i p q f κ'
  split at h
  ·rename_i fr a' r' F hg
   obtain ⟨hb,hct⟩:=hE.2 f _ hg
   split at h
   ·rename_i hfl
    obtain ⟨e,hk⟩:=oB h
    cases e
    obtain ⟨v,vs',e,hv,hq⟩:=hr
    cases hq
    subst e
    have hv:v=.func (.func f) #[] #[]:=by
     have hv:v=.func (.func f) #[] (List.map (fun o=>Value.pointer (some ⟨(σ o).b,0,none⟩)) []).toArray:=hv
     simpa using hv
    refine ⟨_,[],os,[v],[],hk,rfl,rfl,aE,⟨f,#[],by rw [hv],hb,fun Imm' w' cs x y hkeep hr hF=>?_⟩,mh.refl _⟩
    have:=hct Imm' w' cs x y hr hF
    refine Calls.mono (by simpa using this) fun e w'' hq=>?_
    obtain ⟨hk,cs',he,hq⟩:=hq
    refine ⟨hk,cs',he,?_⟩
    cases fr with
    | false=>exact hq.flatI hfl
    | true =>
     obtain ⟨fp,hq⟩:=hq
     exact hq.1.rd (fun b hb=>by rw [(Own.flat (J:=bj) (w':=w'') hfl hq.1).1] at hb;cases hb) fun _ h=>h
   ·cases h
  ·cases h
 ·exact eF R0 hr hc h
theorem Be {R:Type} {r:R} (hE:ar P E) (R0:Rel P M w0 σ Imm st a w):∀ {c:Ty} {caps:List Hd} {os:List Hd} {κ:c.D→List Hd→Option R},
  bY E st.h c caps os κ=some r→∃ z us,κ z us=some r∧vf P c (fQ σ Imm us) w (caps.map fun o=>(σ o).b) z∧mh st os us
 | .unit,caps,os,κ,h=>by
  cases caps with
  | nil=>exact ⟨(),os,by simpa [bY] using h,rfl,mh.refl os⟩
  | cons _ _=>simp [bY] at h
 | .pair t u,caps,os,κ,h=>by
  cases caps with
  | nil=>simp [bY] at h
  | cons o caps =>
   simp only [bY] at h
   split at h
   ·rename_i ro ls ho
    have hob:=R0.ob o
    rw [ho] at hob
    obtain ⟨cv,ty,h1,h2,h3⟩:=hob
    obtain ⟨x,rest,us,v1,v2,k1,k2,k3,k4,k5,k6⟩:=Pd hE R0 h2 (R0.cb o ro ls ho) h
    split at k1
    ·cases k3
     simp only [List.append_nil] at k2
     obtain ⟨z,us2,m1,m2,m3⟩:=Be hE R0 k1
     have hl:(aq st.h o).live=true:=by rw [ho];rfl
     have hin:o∈us:=k6.1 o (by simp)
     refine ⟨(x,z),us2,m1,⟨(σ o).b,_,cv,ty,(0,0),rfl,.inr ⟨o,m3.1 o hin,by rw [h3];simp⟩,(Array.getElem?_eq_some_iff.1 h1).1,h1,?_,m2⟩,?_⟩
     ·rw [k2];exact Rd.imm k5 (fQ.mono m3.1)
     ·refine mh.trans ⟨fun q hq=>k6.1 q (by simp [hq]),fun q hq=>?_⟩ m3
      rcases k6.2 q hq with h | h
      ·rcases List.mem_cons.1 h with rfl | h
       ·exact .inr hl
       ·exact .inl h
      ·exact .inr h
    ·cases k1
   ·cases h
 | .int _,caps,os,κ,h=>by simp [bY] at h
 | .bool,caps,os,κ,h=>by simp [bY] at h
 | .hd,caps,os,κ,h=>by simp [bY] at h
 | .slice _,caps,os,κ,h=>by simp [bY] at h
 | .vw _,caps,os,κ,h=>by simp [bY] at h
 | .fn _ _,caps,os,κ,h=>by simp [bY] at h
def su (P:Program) (σ:Hd→bd) (Imm:Nat→Prop) (w:World):List AV→List Value→Prop
 | [],us=>us=[]
 | v :: vs,us=>∃ u r,us=u :: r∧AVR P σ Imm w v u∧su P σ Imm w vs r
theorem iU {R:Type} {r:R} {t:Ty} {v:AV} {κ:List Leaf→Option R} {u:Value} (hv:AVR P σ Imm w v u) (h:iO t v κ=some r) :
  ∃ ls us,κ ls=some r∧LRs P σ Imm w ls us∧aZ ls=v.hds∧u=valOf t us:=by
 unfold iO at h
 split at h
 ·rename_i cs hs
  obtain ⟨us,e,hr⟩:=hv
  exact ⟨_,us,h,hr,rfl,by rw [valOf,hs];exact e⟩
 ·rename_i l hs
  exact ⟨[l],[u],h,⟨u,[],rfl,hv,rfl⟩,by simp [aZ,AV.hds],by rw [valOf,hs];rfl⟩
 ·cases h
theorem Pe {h:List (List aC)} {l m:List Hd} (h1:aY h l) (h2:aY h m):aY h (l++m):=fun o ho=>by
 rcases List.mem_append.1 ho with ho | ho
 ·exact h1 o ho
 ·exact h2 o ho
theorem argsOf_pair {t u:Ty} {c1 c2:List Value} (h:c1.length=t.n):argsOf (.pair t u) (c1++c2)=valOf t c1 :: argsOf u c2:=by
 simp only [argsOf]
 rw [← h,List.take_left,List.drop_left]
theorem gA {R:Type} {r:R} (hE:ar P E) (R0:Rel P M w0 σ Imm st a w):∀ {c:Ty} {vs:List AV} {us:List Value} {os:List Hd} {κ:c.D→List Hd→Option R},su P σ Imm w vs us→(∀ v∈vs,aY st.h v.hds) →
  aX E st.h c vs os κ=some r→∃ x ps cs,κ x ps=some r∧Rd P c (fQ σ Imm ps) w cs x∧us=argsOf c cs∧mh st os ps
 | .unit,vs,us,os,κ,hv,hc,h=>by
  cases vs with
  | nil=>cases hv;exact ⟨(),os,[],by simpa [aX] using h,rfl,rfl,mh.refl os⟩
  | cons _ _=>simp [aX] at h
 | .pair t u,vs,us,os,κ,hv,hc,h=>by
  cases vs with
  | nil=>simp [aX] at h
  | cons v vs =>
   obtain ⟨v1,us',e,hv1,hvs⟩:=hv
   subst e
   have hc':∀ v∈vs,aY st.h v.hds:=fun x hx=>hc x (by simp [hx])
   have plain:(iO t v fun cs=>bP st.h t cs os fun x r os=>kw r (aX E st.h u vs os fun q os=>κ (x,q) os))=some r→∃ x ps cs,κ x ps=some r∧Rd P (.pair t u) (fQ σ Imm ps) w cs x∧v1 :: us'=argsOf (.pair t u) cs∧mh st os ps:=by
    intro h
    obtain ⟨ls,ws,h1,h2,h3,h4⟩:=iU hv1 h
    obtain ⟨x,rest,ps,w1,w2,k1,k2,k3,k4,k5,k6⟩:=eF R0 h2 (by rw [h3];exact hc v (by simp)) h1
    unfold kw at k1
    split at k1
    ·cases k3
     simp only [List.append_nil] at k2
     subst k2
     obtain ⟨y,ps2,cs,m1,m2,m3,m4⟩:=gA hE R0 hvs hc' k1
     exact ⟨(x,y),ps2,ws++cs,m1,⟨ws,cs,rfl,k5.length,Rd.imm k5 (fQ.mono m4.1),m2⟩,by rw [argsOf_pair k5.length,← h4,← m3],k6.trans m4⟩
    ·cases k1
   have clo:∀ {p q:Ty} {f:FuncId} {caps:List Hd} {F:p.D→Option q.D} {ps:List Hd} {κ':u.D→List Hd→Option R},gh P f→v=.leaf (.fn f caps) →
     (∀ Imm' w' cs x y,(∀ b,fQ σ Imm ps b→b < w.heap.size→w'.heap[b]?=w.heap[b]?)→Rd P p Imm' w' cs x→F x=some y →
      Calls P f ((argsOf p cs).toArray++(caps.map fun o=>Value.pointer (some ⟨(σ o).b,0,none⟩)).toArray) w' fun e w''=>bB bj w' w''∧∃ cs',e=.returned (valOf q cs')∧Rd P q bj w'' cs' y) →
     aX E st.h u vs ps κ'=some r→(∀ y ps2,κ' y ps2=some r→∃ e:Ty.fn p q=t,κ (e ▸ F,y) ps2=some r)→mh st os ps →
     ∃ x ps cs,κ x ps=some r∧Rd P (.pair t u) (fQ σ Imm ps) w cs x∧v1 :: us'=argsOf (.pair t u) cs∧mh st os ps:=by
    intro p q f caps F ps κ' hb hv' hcall hk hκ hs
    subst hv'
    obtain ⟨y,ps2,cs,m1,m2,m3,m4⟩:=gA hE R0 hvs hc' hk
    obtain ⟨e,hk2⟩:=hκ y ps2 m1
    subst e
    have hv1':v1=.func (.func f) #[] (caps.map fun o=>Value.pointer (some ⟨(σ o).b,0,none⟩)).toArray:=hv1
    have hrd:Rd P (.fn p q) (fQ σ Imm ps2) w [v1] F:=⟨f,_,by rw [hv1'],hb,fun Imm' w' cs x y hkeep hr hF=>hcall Imm' w' cs x y (fun b hbI hl=>hkeep b (fQ.mono m4.1 b hbI) hl) hr hF⟩
    refine ⟨(F,y),ps2,v1 :: cs,hk2,⟨[v1],cs,rfl,rfl,hrd,m2⟩,?_,hs.trans m4⟩
    have:=argsOf_pair (t:=.fn p q) (u:=u) (c1:=[v1]) (c2:=cs) rfl
    simp only [List.singleton_append] at this
    rw [this,← m3]
    rfl
   cases t with
   | fn p q=>cases v with
    | leaf l=>cases l with
     | fn f caps =>
      simp only [aX] at h
      split at h
      ·rename_i a' c r' F hg
       obtain ⟨hb,hfl,hct⟩:=hE.2 f _ hg
       obtain ⟨z,ps,k1,k2,k3⟩:=Be hE R0 h
       obtain ⟨e,k4⟩:=oB k1
       cases e
       refine clo (ps:=ps) hb rfl (fun Imm' w' cs x y hkeep hr hF=>?_) k4 (fun y ps2 hk=>⟨rfl,hk⟩) k3
       have hcaps:=k2.keep (w':=w') fun b hb hl=>⟨?_,hkeep b hb hl⟩
       ·have:=hct Imm' w' cs x y _ _ z hcaps hr hF
        simpa [List.map_map,Function.comp_def] using this
       ·have h1:=hkeep b hb hl
        rcases Nat.lt_or_ge b w'.heap.size with h2 | h2
        ·exact h2
        ·rw [Array.getElem?_eq_none h2,Array.getElem?_eq_getElem hl] at h1;cases h1
      ·rename_i fr a' r' F hg
       obtain ⟨hb,hct⟩:=hE.2 f _ hg
       split at h
       ·rename_i hfl
        simp only [Bool.and_eq_true] at hfl
        obtain ⟨hfl,hcp⟩:=hfl
        have hcp:caps=[]:=by cases caps with | nil=>rfl | cons _ _=>simp [BK] at hcp
        subst hcp
        obtain ⟨e,k4⟩:=oB h
        cases e
        refine clo (ps:=os) hb rfl (fun Imm' w' cs x y hkeep hr hF=>?_) k4 (fun y ps2 hk=>⟨rfl,hk⟩) (mh.refl os)
        have:=hct Imm' w' cs x y hr hF
        refine Calls.mono (by simpa using this) fun e w'' hq=>?_
        obtain ⟨hk,cs',he,hq⟩:=hq
        refine ⟨hk,cs',he,?_⟩
        cases fr with
        | false=>exact hq.flatI hfl
        | true =>
         obtain ⟨fp,hq⟩:=hq
         exact hq.1.rd (fun b hb=>by rw [(Own.flat (J:=bj) (w':=w'') hfl hq.1).1] at hb;cases hb) fun _ h=>h
       ·cases h
      ·cases h
     | _=>exact plain (by simpa [aX] using h)
    | _=>exact plain (by simpa [aX] using h)
   | _=>exact plain (by simpa [aX] using h)
 | .int _,vs,us,os,κ,hv,hc,h=>by cases vs <;> simp [aX] at h
 | .bool,vs,us,os,κ,hv,hc,h=>by cases vs <;> simp [aX] at h
 | .hd,vs,us,os,κ,hv,hc,h=>by cases vs <;> simp [aX] at h
 | .slice _,vs,us,os,κ,hv,hc,h=>by cases vs <;> simp [aX] at h
 | .fn _ _,vs,us,os,κ,hv,hc,h=>by cases vs <;> simp [aX] at h
 | .vw _,vs,us,os,κ,hv,hc,h=>by cases vs <;> simp [aX] at h
end
end Go.Abs
