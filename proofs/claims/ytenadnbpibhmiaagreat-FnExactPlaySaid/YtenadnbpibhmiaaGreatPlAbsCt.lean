/- Part of a proof of FnExactPlay: see the row. -/
import Derived.Test.YtenadnbpibhmiaaGreatPlAbsCode3
set_option linter.unusedVariables false
set_option linter.unusedSimpArgs false
namespace Go.Abs
open Go.RowKit
section
variable {P:Program} {E:Env}
theorem vI {σ:Hd→aS} {Imm:Nat→Prop} {w:World}:∀ {a:Ty} {cs:List Value} {x:a.D},Rd P a Imm w cs x→rv P σ Imm w (kP a x) (argsOf a cs)
 | .pair t r,cs,x,⟨v1,v2,e,h1,h2,h3⟩=>by
  subst e
  rw [argsOf_pair h1]
  simp only [kP]
  rw [aP]
  exact ⟨_,_,rfl,eI h2.cells h1,vI h3⟩
 | .int _,_,_,_=>rfl
 | .bool,_,_,_=>rfl
 | .hd,_,_,_=>rfl
 | .slice _,_,_,_=>rfl
 | .unit,_,_,_=>rfl
 | .fn _ _,_,_,_=>rfl
 | .vw _,_,_,_=>rfl
theorem vJ:∀ (a:Ty) (x:a.D),∀ v∈kP a x,v.hds=[]
 | .pair t r,x,v,hv=>by
  simp only [kP] at hv
  rw [aP] at hv
  rcases List.mem_cons.1 hv with rfl | hv
  ·rw [eJ,cR]
  ·exact vJ r x.2 v hv
 | .int _,_,v,hv=>by cases hv
 | .bool,_,v,hv=>by cases hv
 | .hd,_,v,hv=>by cases hv
 | .slice _,_,v,hv=>by cases hv
 | .unit,_,v,hv=>by cases hv
 | .fn _ _,_,v,hv=>by cases hv
 | .vw _,_,v,hv=>by cases hv
theorem IOq {σ:Hd→aS} {Imm:Nat→Prop} {w:World}:∀ {c:Ty} {bs:List Nat} {z:c.D},tS P c Imm w bs z→rv P σ Imm w (vF c z) (bs.map fun b=>Value.pointer (some ⟨b,0,none⟩))
 | .unit,bs,z,h=>by
  have h:bs=[]:=h
  subst h
  rfl
 | .pair t r,bs,z,⟨b,bs',cv,ty,fr,e,hb,hl,hc,hr,h⟩=>by
  subst e
  refine ⟨_,_,rfl,⟨b,0,cv.toList,rfl,hb,hl,hr.length,?_,hr⟩,IOq h⟩
  refine (b8 _ _).2 fun j v hj=>?_
  simp [World.cell?,hc]
  simpa using hj
 | .int _,_,_,h=>h.elim
 | .bool,_,_,h=>h.elim
 | .hd,_,_,h=>h.elim
 | .slice _,_,_,h=>h.elim
 | .fn _ _,_,_,h=>h.elim
 | .vw _,_,_,h=>h.elim
theorem IP:∀ (c:Ty) (z:c.D),∀ v∈vF c z,v.hds=[]
 | .pair t r,z,v,hv=>by
  simp only [vF] at hv
  rcases List.mem_cons.1 hv with rfl | hv
  ·rfl
  ·exact IP r z.2 v hv
 | .int _,_,v,hv=>by cases hv
 | .bool,_,v,hv=>by cases hv
 | .hd,_,v,hv=>by cases hv
 | .slice _,_,v,hv=>by cases hv
 | .unit,_,v,hv=>by cases hv
 | .fn _ _,_,v,hv=>by cases hv
 | .vw _,_,v,hv=>by cases hv
theorem rv.append {σ:Hd→aS} {Imm:Nat→Prop} {w:World}:∀ {vs ws:List AV} {us xs:List Value},rv P σ Imm w vs us→rv P σ Imm w ws xs→rv P σ Imm w (vs++ws) (us++xs)
 | [],_,_,_,h,k=>by cases h;exact k
 | _ :: _,_,_,_,⟨u,r,e,h1,h⟩,k=>by cases e;exact ⟨u,_,rfl,h1,h.append k⟩
theorem rv.length {σ:Hd→aS} {Imm:Nat→Prop} {w:World}:∀ {vs:List AV} {us:List Value},rv P σ Imm w vs us→vs.length=us.length
 | [],_,h=>by cases h;rfl
 | _ :: _,_,⟨u,r,e,_,h⟩=>by cases e;simp [h.length]
theorem rv.get {σ:Hd→aS} {Imm:Nat→Prop} {w:World}:∀ {vs:List AV} {us:List Value} {i:Nat} {v:AV},rv P σ Imm w vs us→vs[i]?=some v→∃ u,us[i]?=some u∧AVR P σ Imm w v u
 | [],_,_,_,_,h=>by simp at h
 | _ :: _,_,0,v,⟨u,r,e,h1,h⟩,hv=>by cases e;simp at hv;subst hv;exact ⟨u,rfl,h1⟩
 | _ :: _,_,i + 1,v,⟨u,r,e,h1,h⟩,hv=>by cases e;simpa using h.get (by simpa using hv)
theorem lQ (n:Nat) (q:Hd):aj (List.replicate n []) q=.none:=by
 unfold aj
 rw [iZ,List.getD_eq_getElem?_getD,List.getElem?_replicate]
 split <;> rfl
theorem Sr {σ:Hd→aS} {Imm:Nat→Prop} {w:World} {avs:List AV} {us:List Value} {n:Nat} (h:rv P σ Imm w avs us) (hh:∀ v∈avs,v.hds=[]) (hn:avs.length≤n) (hI:∀ b,Imm b→b < w.heap.size) :
  Rel P aV w σ Imm (iF avs n) { tmps:=us.toArray++Array.replicate (n - us.toArray.size) undef,defers:=[] } w:=by
 have hl:=h.length
 have hget:∀ i,(avs[i]?=some (cZ (iF avs n).t i)∧i < avs.length)∨(cZ (iF avs n).t i=.any):=by
  intro i
  simp only [iF,vz,List.getD_eq_getElem?_getD]
  rcases Nat.lt_or_ge i avs.length with h1 | h1
  ·left
   rw [List.getElem?_append_left h1,List.getElem?_eq_getElem h1]
   exact ⟨rfl,h1⟩
  ·right
   rw [List.getElem?_append_right h1,List.getElem?_replicate]
   split <;> rfl
 have hcl:∀ i,(cZ (iF avs n).t i).hds=[]:=fun i=>by
  rcases hget i with ⟨h1,h2⟩ | h1
  ·exact hh _ (List.mem_of_getElem? h1)
  ·rw [h1];rfl
 refine ⟨by simp [iF];omega,by simp [iF];omega,rfl,fun i=>?_,fun o=>?_,fun i=>by rw [hcl];exact aA,fun o ro ls e=>?_,fun o ho=>?_,fun o o' hne h1 h2=>?_,hI,bg.refl _ w⟩
 ·rcases hget i with ⟨h1,h2⟩ | h1
  ·obtain ⟨u,h3,h4⟩:=h.get h1
   have:({ tmps:=us.toArray++Array.replicate (n - us.toArray.size) undef,defers:=[] }:Act).tmps.getD i undef=u:=by
    simp only [Array.getD_eq_getD_getElem?]
    rw [Array.getElem?_append_left (by simp;omega)]
    simp [h3]
   rw [this];exact h4
  ·rw [h1];trivial
 ·simp only [iF,lQ];trivial
 ·simp only [iF,lQ] at e;cases e
 ·simp only [iF,lQ] at ho;cases ho
 ·simp only [iF,lQ] at h1;cases h1
section
variable {M:Nat→Prop} {w0:World} {σ:Hd→aS} {Imm:Nat→Prop} {st:St} {a:Act} {w:World}
def IQ (tmps:Array Value):ResultVar→Sem Value
 | .tmp t=>pure (tmps.getD t undef)
 | .cell a t=>do loadVar t (← asAddr (tmps.getD a undef))
theorem rE {R:Type} {r:R} (hT:fU P E.T) (R0:Rel P M w0 σ Imm st a w):∀ {rvs:List ResultVar} {κ:List AV→Option R},yh E.T st rvs κ=some r →
  ∃ vs us,κ vs=some r∧rv P σ Imm w vs us∧(∀ v∈vs,aK st.h v.hds)∧(rvs.mapM (IQ a.tmps)).run P w=.ok us w∧vs.length=rvs.length
 | [],κ,h=>⟨[],[],h,rfl,fun _ h=>(by cases h),by simp,rfl⟩
 | .tmp i :: rvs,κ,h=>by
  unfold yh at h
  obtain ⟨vs,us,h1,h2,h3,h4,h5⟩:=rE hT R0 h
  refine ⟨_,_,h1,⟨_,_,rfl,R0.tm i,h2⟩,fun v hv=>?_,?_,by simp [h5]⟩
  ·rcases List.mem_cons.1 hv with rfl | hv
   ·exact R0.ct i
   ·exact h3 v hv
  ·simp [List.mapM_cons,IQ,h4]
 | .cell i t :: rvs,κ,h=>by
  unfold yh at h
  split at h
  ·rename_i ti q off hti hi
   split at h
   ·rename_i ro ls hq
    obtain ⟨h1,h2⟩:=nF h
    rw [ru] at h1 h2
    have hob:=R0.ob q
    rw [hq] at hob
    obtain ⟨c,ty,hb,hr,_⟩:=hob
    have hlen:=hr.length
    have hx:=R0.tm i
    rw [hi] at hx
    have hx:a.tmps.getD i undef=.pointer (some ⟨(σ q).b,off,none⟩):=hx
    obtain ⟨x,v,hy,hrun,hv,hh⟩:=O1 (hT _ _ hti) (b:=(σ q).b) (o:=off) (cs:=(c.toList.drop off).take ti.n) (by simp at h1 hlen ⊢;omega) (by
     have:=oX (F5 hb) off ti.n
     rwa [Nat.zero_add] at this) ((hr.drop off).take ti.n) h2
    obtain ⟨vs,us,k1,k2,k3,k4,k5⟩:=rE hT R0 hy
    refine ⟨_,_,k1,⟨_,_,rfl,hv,k2⟩,fun v' hv'=>?_,?_,by simp [k5]⟩
    ·rcases List.mem_cons.1 hv' with rfl | hv'
     ·rw [hh]
      intro q' hq'
      exact R0.cb q ro ls hq q' (uk (uj hq'))
     ·exact k3 v' hv'
    ·simp [List.mapM_cons,IQ,hx,asAddr,hrun,k4]
   ·cases h
  ·cases h
theorem yk {fn:Func} {us:List Value} (h:(fn.results.toList.mapM (IQ a.tmps)).run P w=.ok us w):(results fn a.tmps).run P w=.ok (if h:us.toArray.size=1 then us.toArray[0] else .tuple us.toArray) w:=by
 have e:results fn a.tmps=(do
   let vs ← fn.results.mapM (IQ a.tmps)
   pure (if h:vs.size=1 then vs[0] else .tuple vs)):=by
  unfold results
  congr 1
 rw [e,Array.mapM_eq_mapM_toList]
 simp [h]
theorem vK {R:Type} {r:R} (R0:Rel P M w0 σ Imm st a w):∀ {t:Ty} {vs:List AV} {us:List Value} {os:List Hd} {κ:t.D→List Hd→Option R},rv P σ Imm w vs us→(∀ v∈vs,aK st.h v.hds)→ny st.h t vs os κ=some r →
  ∃ x ps cs,κ x ps=some r∧Rd P t (eT σ Imm ps) w cs x∧us=argsOf t cs∧lC st os ps
 | .unit,vs,us,os,κ,hv,hc,h=>by
  cases vs with
  | nil=>cases hv;exact ⟨(),os,[],by simpa [ny] using h,rfl,rfl,lC.refl os⟩
  | cons _ _=>simp [ny] at h
 | .pair t u,vs,us,os,κ,hv,hc,h=>by
  cases vs with
  | nil=>simp [ny] at h
  | cons v vs =>
   obtain ⟨v1,us',e,hv1,hvs⟩:=hv
   subst e
   simp only [ny] at h
   obtain ⟨ls,ws,h1,h2,h3,h4⟩:=gV hv1 h
   obtain ⟨x,rest,ps,w1,w2,k1,k2,k3,k4,k5,k6⟩:=ee R0 h2 (by rw [h3];exact hc v (by simp)) h1
   obtain ⟨e1,k1⟩:=le k1
   subst e1
   cases k3
   simp only [List.append_nil] at k2
   subst k2
   obtain ⟨y,ps2,cs,m1,m2,m3,m4⟩:=vK R0 hvs (fun v hv=>hc v (by simp [hv])) k1
   exact ⟨(x,y),ps2,ws++cs,m1,⟨ws,cs,rfl,k5.length,Rd.imm k5 (eT.mono m4.1),m2⟩,by rw [argsOf_pair k5.length,← h4,← m3],k6.trans m4⟩
 | .int _,vs,us,os,κ,hv,hc,h=>by cases vs <;> simp [ny] at h
 | .bool,vs,us,os,κ,hv,hc,h=>by cases vs <;> simp [ny] at h
 | .hd,vs,us,os,κ,hv,hc,h=>by cases vs <;> simp [ny] at h
 | .slice _,vs,us,os,κ,hv,hc,h=>by cases vs <;> simp [ny] at h
 | .fn _ _,vs,us,os,κ,hv,hc,h=>by cases vs <;> simp [ny] at h
 | .vw _,vs,us,os,κ,hv,hc,h=>by cases vs <;> simp [ny] at h
theorem yl {R:Type} {r:R} (R0:Rel P M w0 σ Imm st a w):∀ {t:Ty} {vs:List AV} {us:List Value} {ws:List (Hd×aw)} {κ:t.D→List (Hd×aw)→Option R},rv P σ Imm w vs us→dF st ws→jw st.h t vs ws κ=some r →
  ∃ x ws' cs fp,κ x ws'=some r∧Own P Imm t w cs x fp∧us=argsOf t cs∧cT σ st ws ws' fp
 | .unit,vs,us,ws,κ,hv,hw,h=>by
  cases vs with
  | nil=>cases hv;exact ⟨(),ws,[],[],by simpa [jw] using h,⟨rfl,rfl⟩,rfl,cT.refl hw⟩
  | cons _ _=>simp [jw] at h
 | .pair t u,vs,us,ws,κ,hv,hw,h=>by
  cases vs with
  | nil=>simp [jw] at h
  | cons v vs =>
   obtain ⟨v1,us',e,hv1,hvs⟩:=hv
   subst e
   simp only [jw] at h
   obtain ⟨ls,vv,h1,h2,h3,h4⟩:=gV hv1 h
   obtain ⟨x,rest,ws1,fp,w1,w2,k1,k2,k3,k4,k5⟩:=d9 R0 h2 hw h1
   obtain ⟨e1,k1⟩:=le k1
   subst e1
   cases k3
   simp only [List.append_nil] at k2
   subst k2
   obtain ⟨y,ws2,cs,fp2,m1,m2,m3,m4⟩:=yl R0 hvs k5.ok k1
   exact ⟨(x,y),ws2,vv++cs,fp++fp2,m1,⟨vv,cs,fp,fp2,rfl,k4.length,rfl,k4,m2⟩,by rw [argsOf_pair k4.length,← h4,← m3],k5.trans R0 m4⟩
 | .int _,vs,us,ws,κ,hv,hw,h=>by cases vs <;> simp [jw] at h
 | .bool,vs,us,ws,κ,hv,hw,h=>by cases vs <;> simp [jw] at h
 | .hd,vs,us,ws,κ,hv,hw,h=>by cases vs <;> simp [jw] at h
 | .slice _,vs,us,ws,κ,hv,hw,h=>by cases vs <;> simp [jw] at h
 | .fn _ _,vs,us,ws,κ,hv,hw,h=>by cases vs <;> simp [jw] at h
 | .vw _,vs,us,ws,κ,hv,hw,h=>by cases vs <;> simp [jw] at h
theorem IR {R:Type} {r:R} {b:Bool} {k:Option R} (h:nvK b k=some r):b=true∧k=some r:=by
 cases b
 ·cases h
 ·exact ⟨rfl,h⟩
def TP (P:Program) (σ:Hd→aS) (Imm:Nat→Prop) (st:St) (fr:Bool) (w:World) (r:Ty) (cs:List Value) (y:r.D):Prop :=
 match fr with
 | false=>∃ ps,Rd P r (eT σ Imm ps) w cs y∧∀ q∈ps,(aj st.h q).live=true
 | true=>∃ fp,Own P aV r w cs y fp∧fp.Nodup∧∀ b∈fp,∃ q,(aj st.h q).live=true∧b∈(σ q).fp
theorem Ss (hT:fU P E.T) (R0:Rel P M w0 σ Imm st a w) {fn:Func} {one fr:Bool} {r:Ty} {e:Ex} {y:r.D} (hone:one=decide (fn.results.size=1)) (h:Gx E.T one fr fn.results.toList r e st=some y) :
  (e=.normal∨e=.ret)∧∃ cs,(results fn a.tmps).run P w=.ok (jF one r cs) w∧TP P σ Imm st fr w r cs y:=by
 have main:(yh E.T st fn.results.toList fun vs=>match one,fr with
  | true,false=>match vs with
   | [v]=>gO r v fun cs=>bz st.h r cs [] fun x rest _=>jD rest (some x)
   | _=>none
  | true,true=>match vs with
   | [v]=>gO r v fun cs=>bN st.h r cs [] fun x rest _=>jD rest (nvK r.noVw (some x))
   | _=>none
  | false,false=>ny st.h r vs [] fun x _=>some x
  | false,true=>jw st.h r vs [] fun x _=>nvK r.noVw (some x))=some y→∃ cs,(results fn a.tmps).run P w=.ok (jF one r cs) w∧TP P σ Imm st fr w r cs y:=by
  intro h
  obtain ⟨vs,us,h1,h2,h3,h4,h5⟩:=rE hT R0 h
  have hrun:=yk (fn:=fn) h4
  have hus:us.length=fn.results.size:=by rw [← h2.length,h5];simp
  have hv1:∀ v,vs=[v]→∃ u,us=[u]∧AVR P σ Imm w v u:=by
   rintro v rfl
   obtain ⟨u,r',e,h6,h7⟩:=h2
   cases (h7:r'=[])
   exact ⟨u,e,h6⟩
  cases one with
  | true =>
   have hone:fn.results.size=1:=by simpa using hone
   cases fr with
   | false =>
    simp only at h1
    split at h1
    ·rename_i v
     obtain ⟨u,rfl,hu⟩:=hv1 v rfl
     obtain ⟨ls,ws,k1,k2,k3,k4⟩:=gV hu h1
     obtain ⟨x,rest,os,w1,w2,m1,m2,m3,m4,m5,m6⟩:=ee R0 k2 (by rw [k3];exact h3 v (by simp)) k1
     obtain ⟨e1,m1⟩:=le m1
     subst e1
     cases m3
     simp only [List.append_nil] at m2
     subst m2
     cases m1
     refine ⟨ws,by rw [hrun];simp [jF,k4],os,m5,fun q hq=>?_⟩
     rcases m6.2 q hq with h | h
     ·cases h
     ·exact h
    ·cases h1
   | true =>
    simp only at h1
    split at h1
    ·rename_i v
     obtain ⟨u,rfl,hu⟩:=hv1 v rfl
     obtain ⟨ls,ws,k1,k2,k3,k4⟩:=gV hu h1
     obtain ⟨x,rest,ws',fp,w1,w2,m1,m2,m3,m4,m5⟩:=d9 R0 k2 (dF.nil st) k1
     obtain ⟨e1,m1⟩:=le m1
     have hnv:r.noVw=true:=(IR (b:=r.noVw) (k:=some x) m1).1
     have q1:some x=some y:=(IR (b:=r.noVw) (k:=some x) m1).2
     subst e1
     cases m3
     simp only [List.append_nil] at m2
     subst m2
     obtain rfl:x=y:=Option.some.inj q1
     refine ⟨ws,by rw [hrun];simp [jF,k4],fp,m4.noVw hnv,m5.nd,fun b hb=>?_⟩
     obtain ⟨ks,e,hk⟩:=m5.ks
     simp only [aq,List.append_nil] at e
     obtain ⟨q,hq,hbq⟩:=hk b hb
     rw [← e] at hq
     exact ⟨q,(m5.ok.key hq).1,hbq⟩
    ·cases h1
  | false =>
   have hone:¬ fn.results.size=1:=by simpa using hone
   have hne:¬ us.toArray.size=1:=by simpa [hus] using hone
   rw [dif_neg hne] at hrun
   cases fr with
   | false =>
    simp only at h1
    obtain ⟨x,ps,cs,k1,k2,k3,k4⟩:=vK R0 h2 h3 h1
    cases k1
    refine ⟨cs,by rw [hrun,k3];rfl,ps,k2,fun q hq=>?_⟩
    rcases k4.2 q hq with h | h
    ·cases h
    ·exact h
   | true =>
    simp only at h1
    obtain ⟨x,ws',cs,fp,k1,k2,k3,k4⟩:=yl R0 h2 (dF.nil st) h1
    obtain ⟨hnv,k1⟩:=IR k1
    cases k1
    refine ⟨cs,by rw [hrun,k3];rfl,fp,k2.noVw hnv,k4.nd,fun b hb=>?_⟩
    obtain ⟨ks,e,hk⟩:=k4.ks
    simp only [aq,List.append_nil] at e
    obtain ⟨q,hq,hbq⟩:=hk b hb
    rw [← e] at hq
    exact ⟨q,(k4.ok.key hq).1,hbq⟩
 unfold Gx at h
 cases e with
 | exit _=>cases h
 | normal=>exact ⟨.inl rfl,main h⟩
 | ret=>exact ⟨.inr rfl,main h⟩
end
theorem Vf {c:Code} {n:Nat} (h:AP n (b9 c)=true):∀ d∈b9 c,d < n:=rC h
def TQ (P:Program) (fr:Bool) (r:Ty) (Imm:Nat→Prop) (w w':World) (cs:List Value) (y:r.D):Prop :=
 match fr with
 | false=>Rd P r (fun b=>Imm b∨(w.heap.size≤b∧b < w'.heap.size)) w' cs y
 | true=>∃ fp,Own P aV r w' cs y fp∧fp.Nodup∧∀ b∈fp,w.heap.size≤b
theorem NJ (hE:aE P E) (hm:P.follows .mixedOrders=true) {f:FuncId} {fn:Func} {body:Code} {hs:Hints} {one fr:Bool} {r:Ty} {y:r.D} {σ:Hd→aS} {Imm:Nat→Prop} {w:World} {avs:List AV} {us:List Value}
  (hf:P.funcs[f]?=some fn) (hb:fn.body=some body) (hd:AP fn.ntmps (b9 body)=true) (hone:one=decide (fn.results.size=1))
  (hav:rv P σ Imm w avs us) (hh:∀ v∈avs,v.hds=[]) (hn:avs.length≤fn.ntmps) (hI:∀ b,Imm b→b < w.heap.size)
  (hev:ev E body hs (iF avs fn.ntmps) (Gx E.T one fr fn.results.toList r)=some y) :
  Calls P f us.toArray w fun e w'=>bg aV w w'∧∃ cs',e=.returned (jF one r cs') ∧
   TQ P fr r Imm w w' cs' y:=by
 refine calls_of_wp hf hb ?_
 have R0:=Sr (n:=fn.ntmps) hav hh hn hI
 have hlen:(iF avs fn.ntmps).t.length=fn.ntmps:=by simp [iF];omega
 refine wp_mono ((CY (M:=aV) (Fz:=fun b=>w.heap.size≤b) (w0:=w) hE hm (fun _ b hb=>hb.elim id fun h=>h.elim) body hs).use R0 (fun d hdm=>by rw [hlen];exact Vf hd d hdm) hev) fun x a' w' hp=>?_
 obtain ⟨e,st',σ',Imm',rfl,h2,R',ev',hl,hun⟩:=hp
 obtain ⟨he,cs,h3,h4⟩:=Ss hE.1 R' hone h2
 have hI':∀ b,Imm' b→Imm b∨(w.heap.size≤b∧b < w'.heap.size):=fun b hb=>by
  rcases Nat.lt_or_ge b w.heap.size with h | h
  ·exact .inl ((ev'.nw b h hb).elim id fun h'=>absurd h' (Nat.not_le.2 h))
  ·exact .inr ⟨h,R'.imm b hb⟩
 have hown:∀ q,(aj st'.h q).live=true→∀ b∈(σ' q).fp,w.heap.size≤b:=fun q hq b hb=>by
  rcases ((R'.nd q hq).2 b hb).2 with h | h
  ·exact h
  ·exact h.elim
 have hlt:∀ q,(aj st'.h q).live=true→∀ b∈(σ' q).fp,b < w'.heap.size:=by
  intro q hq b hb
  have:=R'.ob q
  cases hx:aj st'.h q with
  | none=>rw [hx] at hq;cases hq
  | dead=>rw [hx] at hq;cases hq
  | box ro ls=>rw [hx] at this;obtain ⟨c,ty,h1,_,h3⟩:=this;rw [h3] at hb;simp at hb;subst hb;exact (Array.getElem?_eq_some_iff.1 h1).1
  | arr ro t xs=>rw [hx] at this;exact this.1.lt b hb
 have fin:a'.defers=[]∧∃ v,(results fn a'.tmps).run P w'=.ok v w'∧(bg aV w w'∧∃ cs',Ending.returned v=.returned (jF one r cs') ∧
   TQ P fr r Imm w w' cs' y):=by
  refine ⟨R'.defers,_,h3,R'.keep,cs,rfl,?_⟩
  unfold TP at h4
  cases fr with
  | false =>
   obtain ⟨ps,h5,h6⟩:=h4
   refine h5.imm fun b hb=>?_
   rcases hb with hb | ⟨q,hq,hb⟩
   ·exact hI' b hb
   ·exact .inr ⟨hown q (h6 q hq) b hb,hlt q (h6 q hq) b hb⟩
  | true =>
   obtain ⟨fp,h5,h6,h7⟩:=h4
   refine ⟨fp,h5,h6,fun b hb=>?_⟩
   obtain ⟨q,hq,hb⟩:=h7 b hb
   exact hown q hq b hb
 rcases he with rfl | rfl
 ·exact fin
 ·exact fin
def go:Ty→Nat
 | .pair _ r=>go r + 1
 | _=>0
theorem nL:∀ (a:Ty) (x:a.D),(kP a x).length=go a
 | .pair t r,x=>by simp [kP,go,nL r x.2]
 | .int _,_=>rfl
 | .bool,_=>rfl
 | .hd,_=>rfl
 | .slice _,_=>rfl
 | .unit,_=>rfl
 | .fn _ _,_=>rfl
 | .vw _,_=>rfl
theorem IS:∀ (a:Ty) (x:a.D),(vF a x).length=go a
 | .pair t r,x=>by simp [vF,go,IS r x.2]
 | .int _,_=>rfl
 | .bool,_=>rfl
 | .hd,_=>rfl
 | .slice _,_=>rfl
 | .unit,_=>rfl
 | .fn _ _,_=>rfl
 | .vw _,_=>rfl
def ym (fn:Func) (one:Bool) (k:Nat):Bool :=
 match fn.body with
 | some c=>AP fn.ntmps (b9 c) && Nat.ble k fn.ntmps && (one == Nat.beq fn.results.size 1) && fn.name != "runtime.NumGoroutine"
 | none=>false
theorem ur {f:FuncId} {fn:Func} {body:Code} {one:Bool} {k:Nat} (hf:P.funcs[f]?=some fn) (hb:fn.body=some body) (h:ym fn one k=true) :
  ff P f∧AP fn.ntmps (b9 body)=true∧k≤fn.ntmps∧one=decide (fn.results.size=1):=by
 unfold ym at h
 rw [hb] at h
 simp only [Bool.and_eq_true,beq_iff_eq] at h
 obtain ⟨⟨⟨h1,h2⟩,h3⟩,h4⟩:=h
 refine ⟨by unfold ff;rw [hf];simp only [Option.any_some,hb,Option.isSome_some,Bool.true_and];exact h4,h1,Nat.le_of_ble_eq_true h2,?_⟩
 rw [h3]
 by_cases e:fn.results.size=1
 ·simp [e]
 ·rw [decide_eq_false e]
  cases hb:Nat.beq fn.results.size 1 with
  | false=>rfl
  | true=>exact absurd (Nat.eq_of_beq_eq_true hb) e
theorem UA (hE:aE P E) (hm:P.follows .mixedOrders=true) {f:FuncId} {fn:Func} {body:Code} {one fr:Bool} {a r:Ty} {F:a.D→Option r.D} (hs:Hints)
  (hf:P.funcs[f]?=some fn) (hb:fn.body=some body) (hok:ym fn one (go a)=true)
  (hev:∀ x,ev E body hs (iF (kP a x) fn.ntmps) (Gx E.T one fr fn.results.toList r)=F x):fC P f (.pure one fr a r F):=by
 obtain ⟨h1,h2,h3,h4⟩:=ur hf hb hok
 refine ⟨h1,fun Imm w cs x y hx hy=>?_⟩
 have hx':Rd P a (fun b=>Imm b∧b < w.heap.size) w cs x:=hx.keep fun b hb hl=>⟨⟨hb,hl⟩,hl,rfl⟩
 have:=NJ (σ:=fun _=>⟨undef,0,[]⟩) hE hm hf hb h2 h4 (vI hx') (vJ a x) (by rw [nL];exact h3) (fun b hb=>hb.2) ((hev x).trans hy)
 refine this.mono fun e w' hq=>?_
 obtain ⟨k1,cs',k2,k3⟩:=hq
 refine ⟨k1,cs',k2,?_⟩
 cases fr with
 | false=>exact k3.imm fun b hb=>hb.imp (·.1) id
 | true=>exact k3
theorem Vg (hE:aE P E) (hm:P.follows .mixedOrders=true) {f:FuncId} {fn:Func} {body:Code} {a c r:Ty} {F:c.D→a.D→Option r.D} (hs:Hints)
  (hf:P.funcs[f]?=some fn) (hb:fn.body=some body) (hok:ym fn true (go a + go c)=true) (hfl:r.flat=true)
  (hev:∀ z x,ev E body hs (iF (kP a x++vF c z) fn.ntmps) (Gx E.T true false fn.results.toList r)=F z x):fC P f (.clo a c r F):=by
 obtain ⟨h1,h2,h3,h4⟩:=ur hf hb hok
 refine ⟨h1,hfl,fun Imm w cs x y Ic bs z hz hx hy=>?_⟩
 have hx':Rd P a (fun b=>(Imm b∨Ic b)∧b < w.heap.size) w cs x:=hx.keep fun b hb hl=>⟨⟨.inl hb,hl⟩,hl,rfl⟩
 have hz':tS P c (fun b=>(Imm b∨Ic b)∧b < w.heap.size) w bs z:=by
  have key:∀ {c:Ty} {bs:List Nat} {z:c.D},tS P c Ic w bs z→tS P c (fun b=>(Imm b∨Ic b)∧b < w.heap.size) w bs z:=by
   intro c
   induction c with
   | pair t r _ ih =>
    intro bs z h
    obtain ⟨b,bs',cv,ty,fr,e,hb,hl,hc,hr,h⟩:=h
    exact ⟨b,bs',cv,ty,fr,e,⟨.inr hb,hl⟩,hl,hc,hr.keep fun b hb hl=>⟨⟨.inr hb,hl⟩,hl,rfl⟩,ih h⟩
   | unit=>intro bs z h;exact h
   | int=>intro bs z h;exact h.elim
   | bool=>intro bs z h;exact h.elim
   | hd=>intro bs z h;exact h.elim
   | slice=>intro bs z h;exact h.elim
   | fn=>intro bs z h;exact h.elim
   | vw=>intro bs z h;exact h.elim
  exact key hz
 have:=NJ (σ:=fun _=>⟨undef,0,[]⟩) hE hm hf hb h2 h4 ((vI hx').append (IOq hz')) (fun v hv=>by
  rcases List.mem_append.1 hv with hv | hv
  ·exact vJ a x v hv
  ·exact IP c z v hv) (by rw [List.length_append,nL,IS];exact h3) (fun b hb=>hb.2) ((hev z x).trans hy)
 refine this.mono fun e w' hq=>?_
 obtain ⟨k1,cs',k2,k3⟩:=hq
 exact ⟨k1,cs',k2,k3.flatI hfl⟩
end
end Go.Abs
