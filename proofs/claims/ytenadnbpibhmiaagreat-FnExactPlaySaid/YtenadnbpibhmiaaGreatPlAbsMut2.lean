/- Part of a proof of FnExactPlay: see the row. -/
import Derived.Test.YtenadnbpibhmiaaGreatPlAbsMut1
set_option linter.unusedVariables false
set_option linter.unusedSimpArgs false
namespace Go.Abs
open Go.RowKit
section
variable {P:Program} {M:Nat→Prop} {w0:World} {σ:Hd→aS} {Imm:Nat→Prop} {st:St} {a:Act} {w:World} {o:Oper} {E:Env}
def Tf (P:Program) (σ:Hd→aS) (t:Ty) (l:List Leaf) (v:List Value):Prop :=
 ∀ z:t.D,∃ ws,(∀ (R:Type) (rest:List Leaf) (κ:List Leaf→List (Hd×aw)→R),rl t z (l++rest) κ=κ rest ws)∧aq ws=dB l∧(∀ q y,(q,y)∈ws→y.there=true) ∧
  ∀ (I:Nat→Prop) (w':World) (f:List Nat),Own P I t w' v z f→∃ fs,WsR P σ I w' ws fs∧fs.flatten=f
theorem oD (l m:List Leaf):dB (l++m)=dB l++dB m:=by
 induction l with
 | nil=>rfl
 | cons a l ih=>cases a <;> simp [dB,ih]
theorem tV (l m:List (Hd×aw)):aq (l++m)=aq l++aq m:=by simp [dG]
theorem EF {R:Type} {r:R} (R0:Rel P M w0 σ Imm st a w):∀ {t:Ty} {ls:List Leaf} {vs:List Value} {κ:t.D→List Leaf→Option R},LRs P σ Imm w ls vs→fe st.h t ls κ=some r →
  ∃ x rest l1 v1 v2,κ x rest=some r∧ls=l1++rest∧vs=v1++v2∧LRs P σ Imm w rest v2∧Own P Imm t w v1 x ((dB l1).flatMap fun q=>(σ q).fp)∧(∀ q∈dB l1,(aj st.h q).live=true∧(aj st.h q).ro=false)∧Tf P σ t l1 v1
 | .int k,ls,vs,κ,hr,h=>by
  cases ls with
  | nil=>simp [fe] at h
  | cons l ls =>
   cases l <;> simp only [fe,reduceCtorEq] at h
   split at h
   ·rename_i k' n e
    subst e
    obtain ⟨v,q,e,hv,hq⟩:=hr
    subst e
    have hv:v=_:=hv
    subst hv
    refine ⟨_,ls,[.int _ n],[_],q,h,rfl,rfl,hq,⟨rfl,rfl⟩,fun q hq=>(by cases hq),fun z=>⟨[],fun R rest κ=>rfl,rfl,fun _ _ h=>(by cases h),fun I w' f ho=>⟨[],rfl,ho.2.symm⟩⟩⟩
   ·cases h
 | .bool,ls,vs,κ,hr,h=>by
  cases ls with
  | nil=>simp [fe] at h
  | cons l ls =>
   cases l <;> simp only [fe,reduceCtorEq] at h
   obtain ⟨v,q,e,hv,hq⟩:=hr
   subst e
   have hv:v=_:=hv
   subst hv
   exact ⟨_,ls,[.bool _],[_],q,h,rfl,rfl,hq,⟨rfl,rfl⟩,fun q hq=>(by cases hq),fun z=>⟨[],fun R rest κ=>rfl,rfl,fun _ _ h=>(by cases h),fun I w' f ho=>⟨[],rfl,ho.2.symm⟩⟩⟩
 | .hd,ls,vs,κ,hr,h=>by
  cases ls with
  | nil=>simp [fe] at h
  | cons l ls =>
   cases l <;> simp only [fe,reduceCtorEq] at h
   obtain ⟨v,q,e,hv,hq⟩:=hr
   subst e
   have hv:v=_:=hv
   subst hv
   exact ⟨_,ls,[.hd _],[_],q,h,rfl,rfl,hq,⟨rfl,rfl⟩,fun q hq=>(by cases hq),fun z=>⟨[],fun R rest κ=>rfl,rfl,fun _ _ h=>(by cases h),fun I w' f ho=>⟨[],rfl,ho.2.symm⟩⟩⟩
 | .slice t,ls,vs,κ,hr,h=>by
  cases ls with
  | nil=>simp [fe] at h
  | cons l ls =>
   obtain ⟨v,q,e,hv,hq⟩:=hr
   subst e
   cases l <;> simp only [fe,reduceCtorEq] at h
   ·have hv:v=.slice none 0 0:=hv
    subst hv
    refine ⟨[],ls,[.nil],[_],q,h,rfl,rfl,hq,.inl ⟨rfl,rfl,rfl⟩,fun q hq=>(by cases hq),fun z=>⟨[],fun R rest κ=>rfl,rfl,fun _ _ h=>(by cases h),fun I w' f ho=>⟨[],rfl,?_⟩⟩⟩
    rcases ho with ⟨_,_,e⟩ | ⟨g,cap,cur,ty,fps,e,_⟩
    ·rw [e];rfl
    ·simp at e
   ·rename_i p
    split at h
    ·rename_i t' xs ho
     obtain ⟨e,hk⟩:=d8 h
     subst e
     have hob:=R0.ob p
     rw [ho] at hob
     refine ⟨xs,ls,[.own p],[v],q,hk,rfl,rfl,hq,?_,fun q' hq'=>?_,fun z=>⟨[(p,.arr false t' z)],fun R rest κ=>rfl,rfl,fun q y h=>(by simp at h;rw [h.2];rfl),fun I w' f hown=>⟨[f],⟨f,[],rfl,⟨?_,hob.2⟩,rfl⟩,by simp⟩⟩⟩
     ·simp only [dB,List.flatMap_cons,List.flatMap_nil,List.append_nil]
      rw [hv.1];exact hob.1
     ·simp only [dB,List.mem_singleton] at hq'
      subst hq'
      rw [ho];exact ⟨rfl,rfl⟩
     ·rw [← hv.1];exact hown
    ·cases h
 | .unit,ls,vs,κ,hr,h=>by
  simp only [fe] at h
  exact ⟨(),ls,[],[],vs,h,rfl,rfl,hr,⟨rfl,rfl⟩,fun q hq=>(by cases hq),fun z=>⟨[],fun R rest κ=>rfl,rfl,fun _ _ h=>(by cases h),fun I w' f ho=>⟨[],rfl,ho.2.symm⟩⟩⟩
 | .pair t u,ls,vs,κ,hr,h=>by
  simp only [fe] at h
  obtain ⟨x,rest,l1,v1,v2,h1,e1,e2,r1,o1,k1,g1⟩:=EF (t:=t) R0 hr h
  obtain ⟨y,rest2,l2,v3,v4,h2,e3,e4,r2,o2,k2,g2⟩:=EF (t:=u) R0 r1 h1
  refine ⟨(x,y),rest2,l1++l2,v1++v3,v4,h2,by rw [e1,e3,List.append_assoc],by rw [e2,e4,List.append_assoc],r2,?_,fun q hq=>?_,fun z=>?_⟩
  ·rw [oD,List.flatMap_append]
   exact ⟨v1,v3,_,_,rfl,o1.length,rfl,o1,o2⟩
  ·rw [oD] at hq
   rcases List.mem_append.1 hq with hq | hq
   ·exact k1 q hq
   ·exact k2 q hq
  ·obtain ⟨w1,a1,a2,a3,a4⟩:=g1 z.1
   obtain ⟨w2,b1,b2,b3,b4⟩:=g2 z.2
   refine ⟨w1++w2,fun R rest κ=>?_,by rw [tV,oD,a2,b2],fun q y hq=>?_,fun I w' f ho=>?_⟩
   ·simp only [rl,List.append_assoc]
    rw [a1,b1]
   ·rcases List.mem_append.1 hq with hq | hq
    ·exact a3 q y hq
    ·exact b3 q y hq
   ·obtain ⟨u1,u2,f1,f2,ev,el,ef,p1,p2⟩:=ho
    have hl:u1.length=v1.length:=by rw [el,o1.length]
    obtain ⟨rfl,rfl⟩:=List.append_inj ev.symm hl
    obtain ⟨s1,c1,c2⟩:=a4 I w' f1 p1
    obtain ⟨s2,d1,d2⟩:=b4 I w' f2 p2
    exact ⟨s1++s2,c1.append d1,by rw [List.flatten_append,c2,d2,ef]⟩
 | .fn _ _,ls,vs,κ,hr,h=>by cases ls <;> simp [fe] at h
 | .vw t,ls,vs,κ,hr,h=>by
  cases ls with
  | nil=>simp [fe] at h
  | cons l ls =>
   simp only [fe] at h
   obtain ⟨v,q,e,hv,hq⟩:=hr
   subst e
   have hl:dB [l]=[]:=by
    unfold pQ at h
    split at h <;> first | rfl | (cases h)
   obtain ⟨xs,hk,hrd⟩:=xZ hv h
   exact ⟨xs,ls,[l],[v],q,hk,rfl,rfl,hq,by rw [hl];exact ⟨hrd,rfl⟩,fun q hq=>(by rw [hl] at hq;cases hq),fun z=>⟨[],fun R rest κ=>rfl,hl.symm,fun _ _ h=>(by cases h),fun I w' f ho=>⟨[],rfl,ho.2.symm⟩⟩⟩
theorem Lk (l:List Hd):aq (xT l)=l:=by
 induction l with
 | nil=>rfl
 | cons q l ih=>simp [xT,aq,ih]
theorem F8:∀ {l:List Hd} {q:Hd} {y:aw},(q,y)∈xT l→y=.dead
 | _ :: _,_,_,h=>by
  simp only [xT,List.mem_cons] at h
  rcases h with h | h
  ·cases h;rfl
  ·exact F8 h
theorem QP {I:Nat→Prop} (l:List Hd):WsR P σ I w (xT l) (l.map fun _=>[]):=by
 induction l with
 | nil=>rfl
 | cons q l ih=>exact ⟨[],_,rfl,.inl rfl,ih⟩
theorem Sf {t:Ty} {c c':List Value} (h1:c.length=t.n) (h2:c'.length=t.n) (h:valOf t c=valOf t c'):c=c':=by
 unfold valOf at h
 cases hs:t.isStruct with
 | true =>
  rw [hs] at h
  simp only [Value.agg.injEq] at h
  simpa using congrArg Array.toList h
 | false =>
  rw [hs] at h
  have:=S7 hs
  match c,c',h1,h2 with
  | [u],[v],_,_=>simpa using h
  | [],_,h1,_=>simp at h1;omega
  | _ :: _ :: _,_,h1,_=>simp at h1;omega
  | [_],[],_,h2=>simp at h2;omega
  | [_],_ :: _ :: _,_,h2=>simp at h2;omega
def Tg (P:Program) (σ:Hd→aS) (ms:List Md) (c:Ty) (vs:List AV) (us:List Value) (cks:List Hd):Prop :=
 ∀ z:(fS ms c).D,∃ ws,(∀ (R:Type) (κ:List (Hd×aw)→Option R),eH ms c vs z κ=κ ws)∧aq ws=cks∧(∀ q y,(q,y)∈ws→y.there=true) ∧
  ∀ (I:Nat→Prop) (w':World) (f:List Nat),sH P I ms c w' us z f→∃ fs,WsR P σ I w' ws fs∧fs.flatten=f
theorem Sg {R:Type} {r:R} {t:Ty} {v:AV} {κ:List Leaf→Option R} {u:Value} (hv:AVR P σ Imm w v u) (h:gO t v κ=some r) :
  ∃ ls us,κ ls=some r∧LRs P σ Imm w ls us∧aN ls=v.hds∧u=valOf t us∧∀ (R':Type) (κ':List Leaf→Option R'),gO t v κ'=κ' ls:=by
 unfold gO at h
 split at h
 ·rename_i cs hs
  obtain ⟨us,e,hr⟩:=hv
  exact ⟨_,us,h,hr,rfl,by rw [valOf,hs];exact e,fun R' κ'=>by unfold gO;simp only [hs]⟩
 ·rename_i l hs
  exact ⟨[l],[u],h,⟨u,[],rfl,hv,rfl⟩,by simp [aN,AV.hds],by rw [valOf,hs];rfl,fun R' κ'=>by unfold gO;simp only [hs]⟩
 ·cases h
theorem QQ {α β:Type} {r:α} {l:List β} {k:Option α} (h:jD l k=some r):l=[]∧k=some r:=by
 unfold jD at h
 split at h
 ·exact ⟨rfl,h⟩
 ·cases h
theorem QR {R:Type} {r:R} (hE:aE P E) (R0:Rel P M w0 σ Imm st a w):∀ (ms:List Md) (c:Ty) {vs:List AV} {us:List Value} {os ks:List Hd} {κ:c.D→List Hd→List Hd→Option R},rv P σ Imm w vs us→(∀ v∈vs,aK st.h v.hds) →
  cY E st.h ms c vs os ks κ=some r→∃ x ps cks,κ x ps (ks++cks)=some r∧lC st os ps∧(∀ q∈cks,(aj st.h q).live=true∧(aj st.h q).ro=false) ∧
   (∀ J,(∀ b,eT σ Imm ps b→J b)→oY P J ms c w us x (cks.flatMap fun q=>(σ q).fp))∧Tg P σ ms c vs us cks:=by
 intro ms
 induction ms with
 | nil =>
  intro c vs us os ks κ hv hc h
  cases c <;> cases vs <;> simp only [cY,reduceCtorEq] at h
  cases hv
  exact ⟨(),os,[],by simpa using h,lC.refl os,fun q hq=>(by cases hq),fun J _=>⟨rfl,rfl⟩,fun z=>⟨[],fun R κ=>rfl,rfl,fun _ _ h=>(by cases h),fun I w' f ho=>⟨[],rfl,ho.2.symm⟩⟩⟩
 | cons m ms ih =>
  intro c vs us os ks κ hv hc h
  cases c with
  | pair t u =>
   cases vs with
   | nil=>cases m <;> simp [cY] at h
   | cons v vs =>
    obtain ⟨v1,us',e,hv1,hvs⟩:=hv
    subst e
    have hcv:aK st.h v.hds:=hc v (by simp)
    have hcs:∀ y∈vs,aK st.h y.hds:=fun y hy=>hc y (by simp [hy])
    have own:(gO t v fun cs=>fe st.h t cs fun x r=>jD r (cY E st.h ms u vs os (ks++dB cs) fun y os ks=>κ (x,y) os ks))=some r →
      ∃ x y ps l1 cks cs,κ (x,y) ps (ks++(dB l1++cks))=some r∧lC st os ps∧(∀ q∈dB l1++cks,(aj st.h q).live=true∧(aj st.h q).ro=false) ∧
       v1=valOf t cs∧Own P Imm t w cs x ((dB l1).flatMap fun q=>(σ q).fp)∧Tf P σ t l1 cs∧(∀ (R':Type) (κ':List Leaf→Option R'),gO t v κ'=κ' l1) ∧
       (∀ J,(∀ b,eT σ Imm ps b→J b)→oY P J ms u w us' y (cks.flatMap fun q=>(σ q).fp))∧Tg P σ ms u vs us' cks:=by
     intro h
     obtain ⟨ls,ws,h1,h2,h3,h4,h5⟩:=Sg hv1 h
     obtain ⟨x,rest,l1,w1,w2,k1,e1,e2,k3,k4,k5,k6⟩:=EF R0 h2 h1
     obtain ⟨e3,k1⟩:=QQ k1
     subst e3
     cases k3
     simp only [List.append_nil] at e1 e2
     subst e1 e2
     obtain ⟨y,ps,cks,m1,m2,m3,m4,m5⟩:=ih u hvs hcs k1
     refine ⟨x,y,ps,ls,cks,ws,by rw [← List.append_assoc];exact m1,m2,fun q hq=>?_,h4,k4,k6,h5,m4,m5⟩
     rcases List.mem_append.1 hq with hq | hq
     ·exact k5 q hq
     ·exact m3 q hq
    cases m with
    | rd =>
     simp only [cY] at h
     obtain ⟨x,ps,cs,k1,k2,k3,k4⟩:=fD hE R0 (vs:=[v]) (us:=[v1]) ⟨v1,[],rfl,hv1,rfl⟩ (fun y hy=>by simp at hy;subst hy;exact hcv) h
     obtain ⟨c1,c2,e1,e2,e3,e4⟩:=k2
     have e4:c2=[]:=e4
     subst e4
     simp only [List.append_nil] at e1
     subst e1
     have e5:v1=valOf t cs:=by
      have:=argsOf_pair (t:=t) (u:=.unit) (c1:=cs) (c2:=[]) e2
      rw [List.append_nil] at this
      rw [this] at k3
      simpa [argsOf] using k3
     obtain ⟨y,ps2,cks,m1,m2,m3,m4,m5⟩:=ih u hvs hcs k1
     refine ⟨(x.1,y),ps2,cks,m1,k4.trans m2,m3,fun J hJ=>⟨cs,us',by rw [e5],e3.imm fun b hb=>hJ b (eT.mono m2.1 b hb),m4 J hJ⟩,fun z=>?_⟩
     obtain ⟨ws,b1,b2,b3,b4⟩:=m5 z
     refine ⟨ws,fun R κ=>by simp only [eH];exact b1 R κ,b2,b3,fun I w' f ho=>?_⟩
     obtain ⟨u0,r0,e0,ho⟩:=ho
     cases e0
     exact b4 I w' f ho
    | nil =>
     cases t <;> try (simp [cY] at h)
     cases v <;> try (simp [cY] at h)
     rename_i l
     cases l <;> simp only [cY,reduceCtorEq] at h
     have hv1:v1=.slice none 0 0:=hv1
     subst hv1
     obtain ⟨y,ps2,cks,m1,m2,m3,m4,m5⟩:=ih u hvs hcs h
     refine ⟨((),y),ps2,cks,m1,m2,m3,fun J hJ=>⟨us',rfl,m4 J hJ⟩,fun z=>?_⟩
     obtain ⟨ws,b1,b2,b3,b4⟩:=m5 z
     refine ⟨ws,fun R κ=>by simp only [eH];exact b1 R κ,b2,b3,fun I w' f ho=>?_⟩
     obtain ⟨u0,r0,e0,ho⟩:=ho
     cases e0
     exact b4 I w' f ho
    | lent =>
     simp only [cY] at h
     obtain ⟨x,y,ps,l1,cks,cs,k1,k2,k3,k4,k5,k6,k7,k8,k9⟩:=own h
     refine ⟨(x,y),ps,dB l1++cks,k1,k2,k3,fun J hJ=>⟨cs,us',_,_,by rw [k4],by rw [List.flatMap_append],k5.imm fun b hb=>hJ b (.inl hb),k8 J hJ⟩,fun z=>?_⟩
     obtain ⟨w1,a1,a2,a3,a4⟩:=k6 z.1
     obtain ⟨w2,b1,b2,b3,b4⟩:=k9 z.2
     refine ⟨w1++w2,fun R κ=>?_,by rw [tV,a2,b2],fun q y hq=>?_,fun I w' f ho=>?_⟩
     ·simp only [eH]
      rw [k7]
      have:=a1 (Option R) [] fun _ w1=>eH ms u vs z.2 fun w2=>κ (w1++w2)
      rw [List.append_nil] at this
      rw [this,b1]
     ·rcases List.mem_append.1 hq with hq | hq
      ·exact a3 q y hq
      ·exact b3 q y hq
     ·obtain ⟨cs',r',f1,f2,e1,e2,e3,e4⟩:=ho
      simp only [List.cons.injEq] at e1
      obtain ⟨e1,rfl⟩:=e1
      have:=Sf k5.length e3.length (k4.symm.trans e1)
      subst this
      obtain ⟨s1,c1,c2⟩:=a4 I w' f1 e3
      obtain ⟨s2,d1,d2⟩:=b4 I w' f2 e4
      exact ⟨s1++s2,c1.append d1,by rw [List.flatten_append,c2,d2,e2]⟩
    | tk =>
     simp only [cY] at h
     obtain ⟨x,y,ps,l1,cks,cs,k1,k2,k3,k4,k5,k6,k7,k8,k9⟩:=own h
     refine ⟨(x,y),ps,dB l1++cks,k1,k2,k3,fun J hJ=>⟨cs,us',_,_,by rw [k4],by rw [List.flatMap_append],k5.imm fun b hb=>hJ b (.inl hb),k8 J hJ⟩,fun z=>?_⟩
     obtain ⟨w2,b1,b2,b3,b4⟩:=k9 z
     refine ⟨xT (dB l1)++w2,fun R κ=>?_,by rw [tV,Lk,b2],fun q y hq=>?_,fun I w' f ho=>?_⟩
     ·simp only [eH]
      rw [k7,b1]
     ·rcases List.mem_append.1 hq with hq | hq
      ·rw [F8 hq];rfl
      ·exact b3 q y hq
     ·obtain ⟨u0,r',e1,e4⟩:=ho
      cases e1
      obtain ⟨s2,d1,d2⟩:=b4 I w' f e4
      exact ⟨((dB l1).map fun _=>[])++s2,(QP _).append d1,by rw [List.flatten_append,eq,d2];rfl⟩
    | ptr =>
     cases v <;> try (simp [cY] at h)
     rename_i l
     cases l <;> try (simp [cY] at h)
     rename_i q off
     cases off <;> simp only [cY,reduceCtorEq] at h
     split at h
     ·rename_i ls hq
      have hob:=R0.ob q
      rw [hq] at hob
      obtain ⟨cv,ty,h1,h2,h3⟩:=hob
      obtain ⟨x,rest,os',w1,w2,k1,k2,k3,k4,k5,k6⟩:=ee R0 h2 (R0.cb _ _ _ hq) h
      split at k1
      ·cases k3
       simp only [List.append_nil] at k2
       have hv1:v1=.pointer (some ⟨(σ q).b,0,none⟩):=hv1
       obtain ⟨y,ps,cks,m1,m2,m3,m4,m5⟩:=ih u hvs hcs k1
       have hrd:Rd P t Imm w cv.toList x:=by rw [k2];exact k5.imm fun b=>eT.nil
       refine ⟨(x,y),ps,q :: cks,by simpa using m1,m2,fun p hp=>?_,fun J hJ=>⟨(σ q).b,cv,ty,us',_,by rw [hv1],by rw [List.flatMap_cons,h3];rfl,h1,hrd.imm fun b hb=>hJ b (.inl hb),m4 J hJ⟩,fun z=>?_⟩
       ·rcases List.mem_cons.1 hp with rfl | hp
        ·rw [hq];exact ⟨rfl,rfl⟩
        ·exact m3 p hp
       ·obtain ⟨w2,b1,b2,b3,b4⟩:=m5 z.2
        refine ⟨(q,.box false (iA t z.1)) :: w2,fun R κ=>?_,by simp [aq,b2],fun p y hp=>?_,fun I w' f ho=>?_⟩
        ·simp only [eH]
         rw [aP,b1]
        ·rcases List.mem_cons.1 hp with e | hp
         ·cases e;rfl
         ·exact b3 p y hp
        ·obtain ⟨b,c',ty',r',f2,e1,e2,e3,e4,e5⟩:=ho
         simp only [List.cons.injEq] at e1
         obtain ⟨e1,rfl⟩:=e1
         rw [hv1] at e1
         simp only [Value.pointer.injEq,Option.some.injEq,Addr.mk.injEq,and_true,true_and] at e1
         subst e1
         obtain ⟨s2,d1,d2⟩:=b4 I w' f2 e5
         exact ⟨[(σ q).b] :: s2,⟨_,_,rfl,⟨t,z.1,rfl,c',ty',e3,e4,rfl⟩,d1⟩,by rw [List.flatten_cons,d2,e2];rfl⟩
      ·cases k1
     ·cases h
  | _=>cases m <;> cases vs <;> simp [cY] at h
theorem EG:∀ {l:List Hd} {q:Hd},vu l q=true↔q∈l
 | [],_=>by simp [vu]
 | (d,j) :: l,q=>by
  unfold vu
  split
  ·rename_i h1 h2
   have e1:=Nat.eq_of_beq_eq_true h1
   have e2:=Nat.eq_of_beq_eq_true h2
   simp only [List.mem_cons,true_iff]
   exact .inl (Prod.ext e1.symm e2.symm)
  ·rename_i hne
   rw [EG]
   simp only [List.mem_cons]
   refine ⟨fun h=>.inr h,fun h=>?_⟩
   rcases h with rfl | h
   ·exact absurd (by simp) (fun h=>hne h (by simp))
   ·exact h
theorem F9:∀ {l:List Hd},Nn l=true→l.Nodup
 | [],_=>List.nodup_nil
 | q :: l,h=>by
  simp only [Nn,Bool.and_eq_true,Bool.not_eq_true'] at h
  refine List.nodup_cons.2 ⟨fun hq=>?_,F9 h.2⟩
  rw [EG.2 hq] at h
  cases h.1
theorem Bl:∀ {l m:List Hd},Cp l m=true→∀ q∈l,q ∉ m
 | [],_,_,_,hq=>by cases hq
 | p :: l,m,h,q,hq=>by
  simp only [Cp,Bool.and_eq_true,Bool.not_eq_true'] at h
  rcases List.mem_cons.1 hq with rfl | hq
  ·intro hm;rw [EG.2 hm] at h;cases h.1
  ·exact Bl h.2 q hq
theorem sH.imm {I J:Nat→Prop} {w:World} (hij:∀ b,I b→J b):∀ (ms:List Md) (c:Ty) {us:List Value} {z:(fS ms c).D} {f:List Nat},sH P I ms c w us z f→sH P J ms c w us z f:=by
 intro ms
 induction ms with
 | nil=>intro c us z f h;cases c <;> first | exact h | exact h.elim
 | cons m ms ih =>
  intro c us z f h
  cases c with
  | pair t u =>
   cases m with
   | rd=>obtain ⟨v,r,e,h⟩:=h;exact ⟨v,r,e,ih u h⟩
   | nil=>obtain ⟨v,r,e,h⟩:=h;exact ⟨v,r,e,ih u h⟩
   | tk=>obtain ⟨v,r,e,h⟩:=h;exact ⟨v,r,e,ih u h⟩
   | lent=>obtain ⟨cs,r,f1,f2,e1,e2,h1,h⟩:=h;exact ⟨cs,r,f1,f2,e1,e2,h1.imm hij,ih u h⟩
   | ptr=>obtain ⟨b,c,ty,r,f2,e1,e2,h1,h2,h⟩:=h;exact ⟨b,c,ty,r,f2,e1,e2,h1,h2.imm hij,ih u h⟩
  | _=>cases m <;> exact h.elim
theorem sH.noPtr {I J:Nat→Prop} {w:World}:∀ (ms:List Md) (c:Ty) {us:List Value} {z:(fS ms c).D} {f:List Nat},noPtr ms=true→Cq ms c=true→sH P I ms c w us z f→sH P J ms c w us z f:=by
 intro ms
 induction ms with
 | nil=>intro c us z f _ _ h;cases c <;> first | exact h | exact h.elim
 | cons m ms ih =>
  intro c us z f hp hv h
  cases c with
  | pair t u =>
   cases m with
   | rd=>obtain ⟨v,r,e,h⟩:=h;exact ⟨v,r,e,ih u hp hv h⟩
   | nil=>obtain ⟨v,r,e,h⟩:=h;exact ⟨v,r,e,ih u hp hv h⟩
   | tk=>obtain ⟨v,r,e,h⟩:=h;exact ⟨v,r,e,ih u hp hv h⟩
   | lent =>
    simp only [Cq,Bool.and_eq_true] at hv
    obtain ⟨cs,r,f1,f2,e1,e2,h1,h⟩:=h;exact ⟨cs,r,f1,f2,e1,e2,h1.noVw hv.1,ih u hp hv.2 h⟩
   | ptr=>cases hp
  | _=>cases m <;> exact h.elim
theorem Th {R:Type} {r:R} {κ:Dl→Option R} (hE:aE P E) (R0:Rel P M w0 σ Imm st a w) (hd:∀ i,o.dst=some i→i < st.t.length) {c:Call} {fo:Operand} {f:FuncId}
  (ho:o.op=.call c) (hc:c.callee=.value fo) (hf:val st fo=.leaf (.fn f [])) {ms:List Md} {one fr:Bool} {t u:Ty} {F:t.D→Option (u.D×(fS ms t).D)} (hg:iu E.G f=some (.mut ms one fr t u F))
  (h:F2 E st o.dst ms one fr t u F (c.args.toList.map (val st)) κ=some r):∃ δ,κ δ=some r∧aU P M w0 o st a w σ Imm δ:=by
 have hfv:a.eval fo=.func (.func f) #[] #[]:=by
  have:=R0.av fo
  rw [hf] at this
  exact this
 have hvc:∀ v∈c.args.toList.map (val st),aK st.h v.hds:=by
  intro v hv
  obtain ⟨x,_,rfl⟩:=List.mem_map.1 hv
  exact R0.vc x
 obtain ⟨hb,hct⟩:=hE.2 f _ hg
 unfold F2 at h
 obtain ⟨x,ps,ks,k1,k2,k3,k4,k5⟩:=QR hE R0 ms t (R0.avs c.args.toList) hvc h
 rw [List.nil_append] at k1
 split at k1
 rotate_left
 ·cases k1
 rename_i hchk
 simp only [Bool.and_eq_true,Bool.or_eq_true] at hchk
 obtain ⟨⟨hn,hdj⟩,hos⟩:=hchk
 have hn:=F9 hn
 have hdj:=Bl hdj
 cases hF:F x with
 | none=>rw [hF] at k1;cases k1
 | some y =>
  rw [hF,Option.bind_some] at k1
  unfold Ie at k1
  have hfpn:(ks.flatMap fun q=>(σ q).fp).Nodup:=by
   rw [List.flatMap,List.nodup_iff_pairwise_ne,List.pairwise_flatten]
   refine ⟨fun l hl=>?_,?_⟩
   ·obtain ⟨q,hq,rfl⟩:=List.mem_map.1 hl
    exact (R0.nd q (k3 q hq).1).1
   ·rw [List.pairwise_map]
    refine List.Pairwise.imp_of_mem ?_ hn
    intro p q hp hq hne
    exact fun b hb c hc e=>R0.dj p q hne (k3 p hp).1 (k3 q hq).1 b hb (e ▸ hc)
  have hmem:∀ b,b∈(ks.flatMap fun q=>(σ q).fp)↔∃ q∈ks,b∈(σ q).fp:=fun b=>by simp [List.mem_flatMap]
  have hnI:∀ b∈(ks.flatMap fun q=>(σ q).fp),¬ eT σ Imm ps b:=by
   intro b hb hi
   obtain ⟨q,hq,hbq⟩:=(hmem b).1 hb
   rcases hi with hi | ⟨p,hp,hbp⟩
   ·exact ((R0.nd q (k3 q hq).1).2 b hbq).1 hi
   ·have hpl:(aj st.h p).live=true:=by
     rcases k2.2 p hp with h | h
     ·cases h
     ·exact h
    exact R0.dj q p (fun e=>hdj q hq (e ▸ hp)) (k3 q hq).1 hpl b hbq hbp
  have hIl:∀ b,eT σ Imm ps b→b < w.heap.size:=by
   rintro b (hb | ⟨p,hp,hbp⟩)
   ·exact R0.imm b hb
   ·have hpl:(aj st.h p).live=true:=by
     rcases k2.2 p hp with h | h
     ·cases h
     ·exact h
    exact R0.lt p hpl b hbp
  have hcall:=hct (eT σ Imm ps) w (c.args.toList.map a.eval) x _ y hnI hIl hfpn (k4 _ fun b hb=>hb) hF
  have hrdc:aK st.h (ps++ks):=QL k2.closed fun q hq=>cx (k3 q hq).1
  have fin:∀ {X:AV} {new:List aw},(∀ q∈X.hds,∃ i,o.dst=some i∧q.1=i∧q.2 < new.length) →
    (∀ w' cs' fpr J,QJ P fr u J w' cs' y.1 fpr→fpr.Nodup→∃ φs,gu P J w' new φs∧(∀ b∈(φs.map (·.fp)).flatten,b∈fpr)∧(φs.map (·.fp)).flatten.Nodup ∧
      ∀ σ',(∀ i,o.dst=some i→∀ j p,φs[j]?=some p→σ' (i,j)=p)→AVR P σ' J w' X (jF one u cs')) →
    (eH ms t (c.args.toList.map (val st)) y.2 fun ws=>κ { v:=X,rd:=ps++ks,wr:=ws,new })=some r →
    ∃ δ,κ δ=some r∧aU P M w0 o st a w σ Imm δ:=by
   intro X new hXh hX hk
   obtain ⟨ws,b1,b2,b3,b4⟩:=k5 y.2
   rw [b1] at hk
   refine ⟨_,hk,⟨hrdc,fun q z hq=>?_,by rw [b2];exact hn⟩,fun st' hap next Q hnx=>?_⟩
   ·have hqk:q∈ks:=by rw [← b2,dG];exact List.mem_map.2 ⟨(q,z),hq,rfl⟩
    exact ⟨cx (k3 q hqk).1,(k3 q hqk).2,b3 q z hq⟩
   ·have hcall':=hcall
    rw [show (c.args.toList.map a.eval).toArray=(c.args.toList.map a.eval).toArray++#[] by simp] at hcall'
    refine zL ho hc hfv rfl hb hcall' fun e w' hq=>?_
    obtain ⟨hK,cs',fpr,fpo,rfl,hres,hout,hnd2,hsub⟩:=hq
    refine ⟨_,rfl,?_⟩
    obtain ⟨d1,d2,d3⟩:=List.nodup_append.1 hnd2
    let Imm':Nat→Prop:=fun b=>Imm b∨(w.heap.size≤b∧b < w'.heap.size∧b ∉ fpr++fpo)
    have hsubI:((noPtr ms=true∧Cq ms t=true)∧fr=true∧u.noVw=true)∨∀ b,CD (eT σ Imm ps) w w' (fpr++fpo) b→Imm' b:=by
     rcases hos with hp | ⟨⟨h1,h2⟩,h3⟩
     ·right
      have:ps=[]:=by cases ps with | nil=>rfl | cons _ _=>simp [Bj] at hp
      subst this
      rintro b (h | h)
      ·exact .inl (eT.nil h)
      ·exact .inr h
     ·exact .inl ⟨⟨h1.1,h2⟩,h1.2,h3⟩
    have hresJ:QJ P fr u Imm' w' cs' y.1 fpr:=by
     rcases hsubI with ⟨_,h1,h2⟩ | h1
     ·subst h1;exact Own.noVw h2 hres
     ·cases fr with
      | false=>exact ⟨hres.1.imm h1,hres.2⟩
      | true=>exact Own.imm hres h1
    obtain ⟨φs,n1,n2,n3,n4⟩:=hX w' cs' fpr Imm' hresJ d1
    obtain ⟨fs,c1,c2⟩:=b4 Imm' w' fpo (by
     rcases hsubI with ⟨h1,_⟩ | h1
     ·exact hout.noPtr ms t h1.1 h1.2
     ·exact hout.imm h1 ms t)
    have hsb:∀ b∈fpr++fpo,¬ Imm' b∧(w.heap.size≤b∨∃ q∈aq ws,b∈(σ q).fp):=by
     intro b hb
     refine ⟨?_,?_⟩
     ·rintro (h | h)
      ·rcases hsub b hb with h1 | h1
       ·exact hnI b h1 (.inl h)
       ·have:=R0.imm b h;omega
      ·exact h.2.2 hb
     ·rw [b2]
      rcases hsub b hb with h1 | h1
      ·exact .inr ((hmem b).1 h1)
      ·exact .inl h1
    obtain ⟨σ',r1,ev1⟩:=R0.mutc (v:=jF one u cs') (Imm':=Imm') (φs:=φs) (fs:=fs) hd hap (fun q hq=>k3 q (by rw [← b2];exact hq)) (by rw [b2];exact hn)
     (hK.mono fun b _ hb=>by rw [b2];exact (hmem b).1 hb) (fun b h=>.inl h) (fun b h=>by
      rcases h with h | h
      ·exact Nat.lt_of_lt_of_le (R0.imm b h) hK.size
      ·exact h.2.1) (fun b hb h=>by
      rcases h with h | h
      ·exact h
      ·omega) c1 n1 (by
      rw [c2]
      exact List.nodup_append.2 ⟨n3,d2,fun b hb b' hb' e=>d3 b (n2 b hb) b' hb' e⟩) (fun b hb=>by
      rw [c2] at hb
      refine hsb b ?_
      rcases List.mem_append.1 hb with h | h
      ·exact List.mem_append.2 (.inl (n2 b h))
      ·exact List.mem_append.2 (.inr h)) (fun σ' hσ=>n4 σ' hσ) hXh
    exact hnx _ _ _ _ r1 ev1
  cases fr with
  | false =>
   cases one with
   | true =>
    refine fin (X:=cV u (iA u y.1)) (new:=[]) (fun q hq=>by rw [eJ,cR] at hq;cases hq) (fun w' cs' fpr J hres hn=>⟨[],rfl,by simp,by simp,fun σ' _=>?_⟩) ?_
    ·have:=hres.1
     exact eI this.cells this.length
    ·simpa only [aP] using k1
   | false =>
    refine fin (X:=.tup (Aa u y.1 id)) (new:=[]) (fun q hq=>by rw [show (AV.tup (Aa u y.1 id)).hds=[] from CF _ _] at hq;cases hq) (fun w' cs' fpr J hres hn=>⟨[],rfl,by simp,by simp,fun σ' _=>?_⟩) ?_
    ·have:=hres.1
     exact ⟨_,rfl,CE this⟩
    ·simp only at k1
     rwa [show (fun ws=>Aa u y.1 fun vs=>κ { v:=.tup vs,rd:=ps++ks,wr:=ws })=(fun ws=>κ { v:=.tup (Aa u y.1 id),rd:=ps++ks,wr:=ws }) from funext fun ws=>lN u y.1 _] at k1
  | true =>
   cases hdst:o.dst with
   | none =>
    rw [hdst] at k1
    cases one with
    | true =>
     obtain ⟨ws,b1,_⟩:=k5 y.2
     simp only at k1
     rw [b1] at k1
     cases k1
    | false =>
     obtain ⟨ws,b1,_⟩:=k5 y.2
     cases u with
     | unit =>
      exact fin (X:=.any) (new:=[]) (fun q hq=>by cases hq) (fun w' cs' fpr J hres hn=>⟨[],rfl,by simp,by simp,fun σ' _=>trivial⟩) (by simpa using k1)
     | _=>simp only at k1;rw [b1] at k1;cases k1
   | some d =>
    rw [hdst] at k1
    cases one with
    | true =>
     obtain ⟨ls,objs,e1,hfo⟩:=fg (P:=P) d u y.1 []
     refine fin (X:=cV u ls) (new:=objs) (fun q hq=>?_) (fun w' cs' fpr J hres hn=>?_) ?_
     ·rw [eJ] at hq
      have:=hfo.hds q hq
      exact ⟨d,hdst,this.1,by have:=this.2.2;simp at this ⊢;exact this⟩
     ·obtain ⟨φs,h1,h2,h3⟩:=hfo.rel J w' cs' fpr hres
      exact ⟨φs,h1,fun b hb=>by rw [h2] at hb;exact hb,by rw [h2];exact hn,fun σ' hσ=>eI (h3 J σ' (fun _ h=>h) fun j p hj=>by simpa using hσ d hdst j p hj) hres.length⟩
     ·simp only at k1
      rwa [show (fun ws=>iw d u y.1 [] fun cs new=>κ { v:=cV u cs,rd:=ps++ks,wr:=ws,new })=(fun ws=>κ { v:=cV u ls,rd:=ps++ks,wr:=ws,new:=objs }) from funext fun ws=>e1 _ _] at k1
    | false =>
     obtain ⟨ts,objs,e1,hfo⟩:=um (P:=P) d u y.1 []
     refine fin (X:=.tup ts) (new:=objs) (fun q hq=>?_) (fun w' cs' fpr J hres hn=>?_) ?_
     ·have:=hfo.hds q hq
      exact ⟨d,hdst,this.1,by have:=this.2.2;simp at this ⊢;exact this⟩
     ·obtain ⟨φs,h1,h2,h3,h4⟩:=hfo.rel J w' cs' fpr hres (fun _ _ _=>trivial)
      exact ⟨φs,h1,h2,h3 hn,fun σ' hσ=>⟨_,rfl,h4 J σ' (fun _ h=>h) fun j p hj=>by simpa using hσ d hdst j p hj⟩⟩
     ·simp only at k1
      rwa [show (fun ws=>Ev d u y.1 [] fun vs new=>κ { v:=.tup vs,rd:=ps++ks,wr:=ws,new })=(fun ws=>κ { v:=.tup ts,rd:=ps++ks,wr:=ws,new:=objs }) from funext fun ws=>e1 _ _] at k1
theorem Ti {R:Type} {r:R} {κ:Dl→Option R} (hE:aE P E) (R0:Rel P M w0 σ Imm st a w) (hd:∀ i,o.dst=some i→i < st.t.length) {c:Call} {fo:Operand} {f:FuncId}
  (ho:o.op=.call c) (hc:c.callee=.value fo) (hf:val st fo=.leaf (.fn f [])) (h:wD E st o.dst f (c.args.toList.map (val st)) κ=some r):∃ δ,κ δ=some r∧aU P M w0 o st a w σ Imm δ:=by
 have hfv:a.eval fo=.func (.func f) #[] #[]:=by
  have:=R0.av fo
  rw [hf] at this
  exact this
 have hvc:∀ v∈c.args.toList.map (val st),aK st.h v.hds:=by
  intro v hv
  obtain ⟨x,_,rfl⟩:=List.mem_map.1 hv
  exact R0.vc x
 unfold wD at h
 split at h
 ·rename_i ms one fr t u F hg
  exact Th hE R0 hd ho hc hf hg h
 ·rename_i t u F hg
  obtain ⟨hb,hct⟩:=hE.2 f _ hg
  obtain ⟨x,ps,cs,k1,k2,k3,k4⟩:=fD hE R0 (R0.avs c.args.toList) hvc h
  split at k1
  ·rename_i d hnh hdst
   have:ps=[]:=by cases ps with | nil=>rfl | cons _ _=>simp [Bj] at hnh
   subst this
   cases hF:F x with
   | none=>rw [hF] at k1;cases k1
   | some y =>
    rw [hF,Option.bind_some,aP] at k1
    have hcall:=hct _ _ _ _ _ (k2.imm fun b hb=>eT.nil hb) R0.imm hF
    refine ⟨_,k1,⟨aA,fun _ _ h=>(by cases h),List.nodup_nil⟩,fun st' hap next Q hnx=>?_⟩
    rw [← Array.append_empty (xs:=(argsOf t cs).toArray)] at hcall
    refine zL ho hc hfv k3 hb hcall fun e w' hq=>?_
    obtain ⟨hk,b,cv,ty,rfl,hge,hcell,hr⟩:=hq
    refine ⟨_,rfl,?_⟩
    rw [hdst] at hap hnx ⊢
    have hlt:b < w'.heap.size:=(Array.getElem?_eq_some_iff.1 hcell).1
    obtain ⟨r1,e1⟩:=R0.make (hd d hdst) hap (fun _ _ h=>(by cases h)) List.nodup_nil (v:=.pointer (some ⟨b,0,none⟩)) (Imm':=fun k=>Imm k∨(w.heap.size≤k∧k < w'.heap.size∧k≠b)) (w':=w') (fun j=>if j=0 then ⟨undef,b,[b]⟩ else ⟨undef,0,[]⟩) (fun q=>if d=q.1 then (if q.2=0 then ⟨undef,b,[b]⟩ else ⟨undef,0,[]⟩) else σ q) (fun q=>rfl)
     (R0.keep.trans (hk.mono fun _ _ h=>h.elim)) hk.size (fun _ h=>.inl h) (fun k hb=>by
      rcases hb with h | h
      ·exact Nat.lt_of_lt_of_le (R0.imm k h) hk.size
      ·exact h.2.1) (fun k hl hb=>by
      rcases hb with h | h
      ·exact h
      ·omega) (fun b hb _=>hk.block b hb id)
     (by show _=_;simp) (fun q hq=>.inr (by simp only [AV.hds,Leaf.hds,List.mem_singleton] at hq;subst hq;exact ⟨rfl,rfl⟩))
     (fun j=>by
      cases j with
      | zero=>exact ⟨cv,ty,by simpa using hcell,hr.cells,by simp⟩
      | succ j=>trivial)
     (fun j ro ls e=>by
      cases j with
      | zero=>simp only [gn,aw.box.injEq] at e;rw [← e.2,cR];exact aA
      | succ j=>simp [gn] at e)
     (fun j hl=>by
      cases j with
      | zero=>exact ⟨by simp,fun k hk2=>by
        simp only [if_true,List.mem_singleton] at hk2
        subst hk2
        exact ⟨fun h=>by
         rcases h with h | h
         ·have:=R0.imm _ h;omega
         ·exact h.2.2 rfl,.inl hge⟩⟩
      | succ j=>simp [gn,aw.live] at hl)
     (fun i j hij hi hj=>by
      cases i with
      | zero=>cases j with
       | zero=>exact absurd rfl hij
       | succ j=>simp [gn,aw.live] at hj
      | succ i=>simp [gn,aw.live] at hi)
    exact hnx _ _ _ _ r1 e1
  ·cases k1
 ·rename_i one fr t u F hg
  obtain ⟨hb,hct⟩:=hE.2 f _ hg
  obtain ⟨x,ps,cs,k1,k2,k3,k4⟩:=fD hE R0 (R0.avs c.args.toList) hvc h
  cases hF:F x with
  | none=>rw [hF] at k1;cases k1
  | some y =>
   rw [hF,Option.bind_some] at k1
   have hcall:=hct _ _ _ _ _ k2 hF
   have hcl:=k4.closed
   cases fr with
   | false =>
    have hcall:Calls P f ((argsOf t cs).toArray++#[]) w fun e w'=>bg aV w w'∧∃ cs',e=.returned (jF one u cs')∧Rd P u (fun b=>eT σ Imm ps b∨(w.heap.size≤b∧b < w'.heap.size)) w' cs' y:=by
     simpa using hcall
    cases one with
    | true =>
     simp only at k1
     split at k1
     ·rename_i hfl
      rw [aP] at k1
      exact ⟨_,k1,EE R0 hd true ho hc hfv k3 hb hcl hfl hcall _ (fun I w' cs' hr=>eI hr.cells hr.length) (by rw [eJ,cR])⟩
     ·cases k1
    | false =>
     simp only at k1
     split at k1
     ·rename_i hfl
      rw [lN] at k1
      exact ⟨_,k1,EE R0 hd false ho hc hfv k3 hb hcl hfl hcall _ (fun I w' cs' hr=>⟨_,rfl,CE hr⟩) (CF _ _)⟩
     ·cases k1
   | true =>
    have hcall:Calls P f ((argsOf t cs).toArray++#[]) w fun e w'=>bg aV w w'∧∃ cs',e=.returned (jF one u cs')∧∃ fp,Own P aV u w' cs' y fp∧fp.Nodup∧∀ b∈fp,w.heap.size≤b:=by
     simpa using hcall
    cases hdst:o.dst with
    | none=>rw [hdst] at k1;cases one <;> simp at k1
    | some d =>
     rw [hdst] at k1
     cases one with
     | true =>
      simp only at k1
      obtain ⟨ls,objs,e1,hfo⟩:=fg (P:=P) d u y []
      rw [e1] at k1
      simp only [List.nil_append] at k1
      split at k1
      ·cases k1
      ·rename_i n0 ns
       refine ⟨_,k1,Ir R0 hdst (hd d hdst) true ho hc hfv k3 hb hcl hcall _ n0 ns (fun q hq=>?_) (fun w' cs' fp hown hnd=>?_)⟩
       ·rw [eJ] at hq
        have:=hfo.hds q hq
        exact ⟨this.1,by have:=this.2.2;simp at this ⊢;exact this⟩
       ·obtain ⟨φs,h1,h2,h3⟩:=hfo.rel aV w' cs' fp hown
        exact ⟨φs,h1,fun b hb=>by rw [h2] at hb;exact hb,by rw [h2];exact hnd,fun σ' hσ=>eI (h3 _ _ (fun _ h=>h.elim) fun j p hj=>by simpa using hσ j p hj) hown.length⟩
     | false =>
      simp only at k1
      obtain ⟨ts,objs,e1,hfo⟩:=um (P:=P) d u y []
      rw [e1] at k1
      simp only [List.nil_append] at k1
      split at k1
      ·cases k1
      ·rename_i n0 ns
       refine ⟨_,k1,Ir R0 hdst (hd d hdst) false ho hc hfv k3 hb hcl hcall _ n0 ns (fun q hq=>?_) (fun w' cs' fp hown hnd=>?_)⟩
       ·have:=hfo.hds q hq
        exact ⟨this.1,by have:=this.2.2;simp at this ⊢;exact this⟩
       ·obtain ⟨φs,h1,h2,h3,h4⟩:=hfo.rel aV w' cs' fp hown (fun _ _ _=>trivial)
        exact ⟨φs,h1,h2,h3 hnd,fun σ' hσ=>⟨_,rfl,h4 _ _ (fun _ h=>h.elim) fun j p hj=>by simpa using hσ j p hj⟩⟩
 ·cases h
end
end Go.Abs
