/- Part of a proof of FnGames: see the row. -/
import Derived.Test.YtenadnbpibhmiaaGreatGmAbsCode2
import Derived.Test.YtenadnbpibhmiaaGreatGmAbsRun
import Derived.Test.YtenadnbpibhmiaaGreatGmAbsMark
import Derived.LoopN
set_option linter.unusedVariables false
set_option linter.unusedSimpArgs false
namespace Go.Abs
open Go.RowKit
def Ex.to:Ex→Exit
 | .normal=>.normal
 | .exit id=>.exit id
 | .ret=>.ret
section
variable {P:Program} {M Fz:Nat→Prop} {w0:World} {E:Env}
def NL (P:Program) (M Fz:Nat→Prop) (w0:World) {R:Type} (κ:Ex→St→Option R) (r:R) (ds:List Nat) (st:St) (σ:Hd→bd) (Imm:Nat→Prop) (a:Act) (w:World):Exit→Act→World→Prop:=fun x a' w' =>
 ∃ e st' σ' Imm',x=Ex.to e∧κ e st'=some r∧Rel P M w0 σ' Imm' st' a' w'∧oy Fz st st' σ σ' Imm Imm' w w'∧st'.t.length=st.t.length∧∀ t,t ∉ ds→a'.tmps.getD t undef=a.tmps.getD t undef
def Dc (P:Program) (M Fz:Nat→Prop) (w0:World) (c:Code) (run:{R:Type}→St→(Ex→St→Option R)→Option R):Prop :=
 ∀ (R:Type) (r:R) (st:St) (κ:Ex→St→Option R) (σ:Hd→bd) (Imm:Nat→Prop) (a:Act) (w:World),Rel P M w0 σ Imm st a w→(∀ d∈cM c,d < st.t.length)→run st κ=some r →
  c.wp P (NL P M Fz w0 κ r (cM c) st σ Imm a w) a w
theorem Dc.use {c:Code} {run:{R:Type}→St→(Ex→St→Option R)→Option R} (h:Dc P M Fz w0 c run) {R:Type} {r:R} {st:St} {κ:Ex→St→Option R} {σ:Hd→bd} {Imm:Nat→Prop} {a:Act} {w:World}
  (R0:Rel P M w0 σ Imm st a w) (hd:∀ d∈cM c,d < st.t.length) (hr:run st κ=some r):c.wp P (NL P M Fz w0 κ r (cM c) st σ Imm a w) a w:=h R r st κ σ Imm a w R0 hd hr
theorem Rel.weaken {σ:Hd→bd} {Imm:Nat→Prop} {st T:St} {a:Act} {w:World} (R:Rel P M w0 σ Imm st a w) (h1:T.t.length=st.t.length) (h2:T.h.length=st.h.length) (h3:∀ i,dK T.t i=.any∨dK T.t i=dK st.t i)
  (h4:∀ q,(aq T.h q).live=true→fR (aq st.h q)=fR (aq T.h q)) (h5:∀ q,(aq st.h q).there=true→(aq T.h q).there=true):Rel P M w0 σ Imm T a w:=by
 have hl:∀ q,(aq T.h q).live=true→(aq st.h q).live=true:=fun q hq=>by rw [← wE,h4 q hq,wE];exact hq
 refine ⟨h1.trans R.len,by rw [h2,h1];exact R.hlen,R.defers,fun i=>?_,fun q=>?_,fun i=>?_,fun q ro ls e=>?_,fun q hq=>R.nd q (hl q hq),fun q q' hne k1 k2=>R.dj q q' hne (hl q k1) (hl q' k2),R.imm,R.keep⟩
 ·rcases h3 i with h | h
  ·rw [h];trivial
  ·rw [h];exact R.tm i
 ·cases hx:(aq T.h q).live with
  | true=>rw [← ObR.lock,← h4 q hx,ObR.lock];exact R.ob q
  | false=>cases hy:aq T.h q <;> first | trivial | (rw [hy] at hx;cases hx)
 ·rcases h3 i with h | h
  ·rw [h];exact aE
  ·rw [h];exact (R.ct i).mono h5
 ·have:=h4 q (by rw [e];rfl)
  rw [e] at this
  cases hy:aq st.h q with
  | box ro' ls' =>
   rw [hy] at this
   simp only [fR,aC.box.injEq,true_and] at this
   subst this
   exact (R.cb q ro' _ hy).mono h5
  | none=>rw [hy] at this;cases this
  | dead=>rw [hy] at this;cases this
  | arr _ _ _=>rw [hy] at this;cases this
theorem Rel.again {σ0 σ2:Hd→bd} {Imm0 Imm2:Nat→Prop} {st st2 T:St} {a0 a:Act} {w1 w:World} (R0:Rel P M w0 σ0 Imm0 st a0 w1) (R2:Rel P M w0 σ2 Imm2 st2 a w) (g:qJ st.h σ0 σ2 Imm0 Imm2 w1 w)
  (hl2:st2.t.length=st.t.length) (h1:T.t.length=st.t.length) (h2:T.h.length=st.h.length) (h3:∀ i,dK T.t i=.any∨(dK T.t i=dK st.t i∧a.tmps.getD i undef=a0.tmps.getD i undef))
  (h4:∀ q,(aq T.h q).live=true→fR (aq st.h q)=fR (aq T.h q)) (h5:∀ q,(aq st.h q).there=true→(aq T.h q).there=true) (h6:∀ q,(aq T.h q).live=true→aq st2.h q=fR (aq T.h q)):Rel P M w0 σ2 Imm2 T a w:=by
 have hl:∀ q,(aq T.h q).live=true→(aq st2.h q).live=true:=fun q hq=>by rw [h6 q hq,wE];exact hq
 refine ⟨by rw [h1,← hl2];exact R2.len,by rw [h2,h1];exact R0.hlen,R2.defers,fun i=>?_,fun q=>?_,fun i=>?_,fun q ro ls e=>?_,fun q hq=>R2.nd q (hl q hq),fun q q' hne k1 k2=>R2.dj q q' hne (hl q k1) (hl q' k2),R2.imm,R2.keep⟩
 ·rcases h3 i with h | ⟨h,k⟩
  ·rw [h];trivial
  ·rw [h,k];exact (R0.tm i).goes g (R0.ct i)
 ·cases hx:(aq T.h q).live with
  | true=>rw [← ObR.lock,← h6 q hx];exact R2.ob q
  | false=>cases hy:aq T.h q <;> first | trivial | (rw [hy] at hx;cases hx)
 ·rcases h3 i with h | ⟨h,_⟩
  ·rw [h];exact aE
  ·rw [h];exact (R0.ct i).mono h5
 ·have:=h4 q (by rw [e];rfl)
  rw [e] at this
  cases hy:aq st.h q with
  | box ro' ls' =>
   rw [hy] at this
   simp only [fR,aC.box.injEq,true_and] at this
   subst this
   exact (R0.cb q ro' _ hy).mono h5
  | none=>rw [hy] at this;cases this
  | dead=>rw [hy] at this;cases this
  | arr _ _ _=>rw [hy] at this;cases this
theorem oy.base {σ0 σ2:Hd→bd} {Imm0 Imm2:Nat→Prop} {X st2 T:St} {w1 w:World} (h:oy Fz X st2 σ0 σ2 Imm0 Imm2 w1 w) (h1:∀ q,(aq X.h q).there=true→(aq T.h q).there=true) (h2:∀ q,(aq X.h q).ro=true→aq T.h q=aq X.h q):oy Fz X T σ0 σ2 Imm0 Imm2 w1 w :=
 ⟨h.goes,h1,fun q hq=>⟨h2 q hq,(h.ro q hq).2⟩,h.sz,h.nw⟩
def Qu (P:Program) (M:Nat→Prop) (w0:World) (T:St) (l:List Place) (x:(PS l).D) (σ:Hd→bd) (Imm:Nat→Prop) (a:Act) (w:World):Prop :=
 ∃ fp,LV P σ Imm a w l x fp∧fp.Nodup∧∀ b∈fp,Hv M w0 σ Imm T b
theorem mC {R:Type} {r:R} {σ:Hd→bd} {Imm:Nat→Prop} {st:St} {a:Act} {w:World} (R0:Rel P M w0 σ Imm st a w) {l:List Place} {κ:(PS l).D→List (Hd×aC)→Option R} (h:wC st l [] κ=some r) :
  ∃ x ws,κ x ws=some r∧eD st ws∧∀ T:St,(∀ q,(aq T.h q).live=true→(aq st.h q).live=true∧q ∉ aw ws)→Qu P M w0 T l x σ Imm a w:=by
 obtain ⟨x,ws,fp,h1,h2,h3⟩:=FJ R0 (eD.nil st) h
 refine ⟨x,ws,h1,h3.ok,fun T hT=>⟨fp,h2,h3.nd,fun b hb=>?_⟩⟩
 obtain ⟨ks,e,hk⟩:=h3.ks
 simp only [aw,List.append_nil] at e
 obtain ⟨q,hq,hbq⟩:=hk b hb
 rw [← e] at hq
 have hl:=(h3.ok.key hq).1
 have:=(R0.nd q hl).2 b hbq
 refine ⟨this.1,this.2,fun q' hq' hb'=>?_⟩
 obtain ⟨k1,k2⟩:=hT q' hq'
 exact R0.dj q q' (fun e=>k2 (e ▸ hq)) hl k1 b hbq hb'
theorem Qu.tell {R:Type} {r:R} {σ:Hd→bd} {Imm:Nat→Prop} {T:St} {a:Act} {w:World} {l:List Place} {x:(PS l).D} {κ:St→Option R} (hr:Qu P M w0 T l x σ Imm a w) (R0:Rel P M w0 σ Imm T a w) (h:um T l x κ=some r) :
  ∃ T' σ',κ T'=some r∧Rel P M w0 σ' Imm T' a w∧oy Fz T T' σ σ' Imm Imm w w∧T'.t.length=T.t.length:=by
 obtain ⟨fp,h1,h2,h3⟩:=hr
 unfold um at h
 have hth:pS T.h (xR l)=true:=by
  cases hx:pS T.h (xR l) with
  | true=>rfl
  | false=>rw [hx] at h;cases h
 rw [hth] at h
 obtain ⟨T',σ',k1,k2⟩:=C7 R0 (σb:=σ) (fun _ _=>rfl) h1 h2 h3 (fun q hq=>⟨px hth q hq,rfl⟩) h
 exact ⟨T',σ',k1,k2.rel,(k2.evo R0).f,k2.len⟩
theorem HC {S R T:Type} {t:T} (b:Bool):∀ {l:List (Option Nat)} {e:Option Nat} {s:S} {κ:Pp S R b l→Option T},inS b l e s κ=some t →
  ∃ o,κ o=some t∧∀ (T':Type) (κs:Option Nat→S→Option T') (κr:R→Option T'),Tu b l o κs κr=κs e s
 | [],e,s,κ,h=>by cases h
 | [o],e,s,κ,h=>by
  have he:∀ {e:Option Nat},Pq o e=true→e=o:=by
   intro e h
   cases o <;> cases e <;> simp_all [Pq]
  cases b with
  | false =>
   simp only [inS] at h
   split at h
   ·rename_i h1;cases he h1;exact ⟨s,h,fun T' κs κr=>rfl⟩
   ·cases h
  | true =>
   simp only [inS] at h
   split at h
   ·rename_i h1;cases he h1;exact ⟨.inl s,h,fun T' κs κr=>rfl⟩
   ·cases h
 | o :: p :: l,e,s,κ,h=>by
  have he:∀ {e:Option Nat},Pq o e=true→e=o:=by
   intro e h
   cases o <;> cases e <;> simp_all [Pq]
  simp only [inS] at h
  split at h
  ·rename_i h1;cases he h1;exact ⟨.inl s,h,fun T' κs κr=>rfl⟩
  ·obtain ⟨x,h1,h2⟩:=HC (R:=R) b (l:=p :: l) h
   exact ⟨.inr x,h1,fun T' κs κr=>h2 T' κs κr⟩
theorem NM {S R T:Type} {t:T} (b:Bool):∀ {l:List (Option Nat)} {s:R} {κ:Pp S R b l→Option T},inR b l s κ=some t →
  ∃ o,κ o=some t∧∀ (T':Type) (κs:Option Nat→S→Option T') (κr:R→Option T'),Tu b l o κs κr=κr s
 | [],s,κ,h=>by
  cases b with
  | true=>exact ⟨s,h,fun T' κs κr=>rfl⟩
  | false=>cases h
 | [o],s,κ,h=>by
  cases b with
  | true=>exact ⟨.inr s,h,fun T' κs κr=>rfl⟩
  | false=>cases h
 | o :: p :: l,s,κ,h=>by
  simp only [inR] at h
  obtain ⟨x,h1,h2⟩:=NM (S:=S) b (l:=p :: l) h
  exact ⟨.inr x,h1,fun T' κs κr=>h2 T' κs κr⟩
theorem SF {R T:Type} {r:R} {t:T} {H:Hint} {e:Ex} {st2 A:St} {σ:Hd→bd} {Imm:Nat→Prop} {a:Act} {w:World} (R2:Rel P M w0 σ Imm st2 a w) (RA:Rel P M w0 σ Imm A a w) (hA:∀ q,(aq A.h q).live=true→(aq st2.h q).ro=true)
  {κ1:H.D→Option T} {κ:Ex→St→Option R} (h1:uo H e st2 κ1=some t):∃ o,κ1 o=some t∧(EI H A o κ=some r →
   ∃ T' σ',κ e T'=some r∧Rel P M w0 σ' Imm T' a w∧oy Fz A T' σ σ' Imm Imm w w∧T'.t.length=A.t.length):=by
 have hq:∀ {ws:List (Hd×aC)},eD st2 ws→∀ q,(aq A.h q).live=true→(aq st2.h q).live=true∧q ∉ aw ws:=by
  intro ws hw q hl
  have:=hA q hl
  exact ⟨mB this,fun hk=>by rw [(hw.key hk).2] at this;cases this⟩
 cases e with
 | normal =>
  simp only [uo] at h1
  obtain ⟨x,ws,k1,k2,k3⟩:=mC R2 h1
  obtain ⟨o,k4,k5⟩:=HC (R:=(PS H.rp).D) H.ret.isSome k1
  refine ⟨o,k4,fun h2=>?_⟩
  unfold EI at h2
  rw [k5] at h2
  exact (k3 A (hq k2)).tell RA h2
 | exit id =>
  simp only [uo] at h1
  obtain ⟨x,ws,k1,k2,k3⟩:=mC R2 h1
  obtain ⟨o,k4,k5⟩:=HC (R:=(PS H.rp).D) H.ret.isSome k1
  refine ⟨o,k4,fun h2=>?_⟩
  unfold EI at h2
  rw [k5] at h2
  exact (k3 A (hq k2)).tell RA h2
 | ret =>
  simp only [uo] at h1
  obtain ⟨x,ws,k1,k2,k3⟩:=mC R2 h1
  obtain ⟨o,k4,k5⟩:=NM (S:=(PS H.out).D) H.ret.isSome k1
  refine ⟨o,k4,fun h2=>?_⟩
  unfold EI at h2
  rw [k5] at h2
  exact (k3 A (hq k2)).tell RA h2
theorem FL {st:St}:∀ {l:List Hd},LS st.h l=true→eD st (xS l)∧aw (xS l)=l
 | [],_=>⟨eD.nil st,rfl⟩
 | q :: r,h=>by
  simp only [LS,Bool.and_eq_true,Bool.not_eq_true'] at h
  obtain ⟨⟨h1,h2⟩,h3⟩:=h
  obtain ⟨k1,k2⟩:=FL h3
  have hl:(aq st.h q).live=true∧(aq st.h q).ro=false:=by
   split at h1
   ·rename_i e;rw [e];exact ⟨rfl,rfl⟩
   ·rename_i e;rw [e];exact ⟨rfl,rfl⟩
   ·cases h1
  refine ⟨k1.cons (fun hm=>?_) hl.1 hl.2,by simp [xS,aw,k2]⟩
  rw [k2] at hm
  rw [C1.2 hm] at h2
  cases h2
theorem wF (o:aC):fR (fR o)=fR o:=by cases o <;> rfl
theorem Uo {c:Code} {run:{R:Type}→St→(Ex→St→Option R)→Option R} (hs:Dc P M Fz w0 c run) (H:Hint):Dc P M Fz w0 c (Tv H (eK c 0) run):=by
 intro R r st κ σ Imm a w R0 hd h
 have h:Tv H (eK c 0) run st κ=some r:=h
 unfold Tv at h
 split at h
 ·rename_i hf
  obtain ⟨hw,hk⟩:=FL hf
  rw [C9] at h
  obtain ⟨o,ho,h⟩:=Option.bind_eq_some_iff.1 h
  rw [C8,CP] at h
  have RB:Rel P M w0 σ Imm ⟨st.t,fZ H.free st.h⟩ a w:=R0.weaken rfl (BP _ _) (fun _=>.inr rfl) (fun q _=>by simp only [oE];split <;> simp [wF]) (fun q hq=>by simp only [oE];split <;> simp [pV,hq])
  have eB:oy Fz st ⟨st.t,fZ H.free st.h⟩ σ σ Imm Imm w w:=R0.evoF.base (fun q hq=>by simp only [oE];split <;> simp [pV,hq]) (fun q hq=>by simp only [oE];split <;> simp [Hz _ hq])
  refine wp_mono (hs.use RB hd ho) fun x a' w' hp=>?_
  obtain ⟨e,st2,σ2,Imm2,rfl,h1,R2,ev,hlen,hun⟩:=hp
  have evs:=eB.trans ev
  have hget:=hw.get
  rw [hk] at hget
  have hA4:∀ q,(aq (bC (xS H.free) st.h) q).live=true→q ∉ H.free∧aq (bC (xS H.free) st.h) q=aq st.h q:=by
   intro q hq
   rw [hget] at hq ⊢
   split at hq
   ·cases hq
   ·rename_i hn;rw [if_neg hn];exact ⟨hn,rfl⟩
  have hA6:∀ q,(aq (bC (xS H.free) st.h) q).live=true→aq st2.h q=fR (aq (bC (xS H.free) st.h) q):=by
   intro q hq
   obtain ⟨k1,k2⟩:=hA4 q hq
   have hB:aq (fZ H.free st.h) q=fR (aq st.h q):=by rw [oE,if_neg k1]
   rw [k2] at hq ⊢
   rw [← hB]
   exact (ev.ro q (by show (aq (fZ H.free st.h) q).ro=true;rw [hB,yS];exact hq)).1
  have hA5:∀ q,(aq st.h q).there=true→(aq (bC (xS H.free) st.h) q).there=true:=fun q hq=>by
   rw [hget];split
   ·rfl
   ·exact hq
  have RA:Rel P M w0 σ2 Imm2 ⟨gB (eK c 0) st.t,bC (xS H.free) st.h⟩ a' w':=by
   refine R0.again R2 evs.goes hlen (lJ _ _) (cB _ _) (fun i=>?_) (fun q hq=>by rw [(hA4 q hq).2]) hA5 hA6
   simp only [BO]
   split
   ·exact .inl rfl
   ·rename_i hb
    exact .inr ⟨rfl,hun i fun hm=>hb (gS (.inl hm))⟩
  obtain ⟨o',ho',hout⟩:=SF (κ:=κ) R2 RA (fun q hq=>by rw [hA6 q hq,yS];exact hq) h1
  cases ho'
  obtain ⟨T',σ',k1,k2,k3,k4⟩:=hout h
  have eA:oy Fz st ⟨gB (eK c 0) st.t,bC (xS H.free) st.h⟩ σ σ2 Imm Imm2 w w':=evs.base hA5 fun q hq=>by
   simp only [hget]
   rw [if_neg]
   intro hm
   rw [← hk] at hm
   rw [(hw.key hm).2] at hq;cases hq
  exact ⟨e,T',σ',Imm2,rfl,k1,k2,eA.trans k3,k4.trans (lJ _ _),hun⟩
 ·cases h
theorem BR {S R:Type} {body:S→Option (S⊕R)} {s:S} {o:R} (h:ay body s=some o):∃ n,ay.iter body n s=some (.inr o):=by
 unfold ay at h
 split at h
 ·rename_i hx
  cases h
  exact hx.choose_spec
 ·cases h
theorem Tz {c:Code} {run:{R:Type}→St→(Ex→St→Option R)→Option R} (hs:Dc P M Fz w0 c run) (H:Hint):Dc P M Fz w0 (.loop c) (Qm H (eK c 0) run):=by
 intro R r st κ σ Imm a w R0 hd h
 have h:Qm H (eK c 0) run st κ=some r:=h
 unfold Qm at h
 obtain ⟨s0,ws,h,hw,hready⟩:=mC R0 h
 rw [C8,CP,C9] at h
 obtain ⟨o,ho,h⟩:=Option.bind_eq_some_iff.1 h
 obtain ⟨n,hn⟩:=BR ho
 have hget:=hw.get
 have hlock:∀ q,aq (fZ [] (bC ws st.h)) q=fR (aq (bC ws st.h) q):=fun q=>by rw [oE];simp
 have hA4:∀ q,(aq (bC ws st.h) q).live=true→q ∉ aw ws∧aq (bC ws st.h) q=aq st.h q:=by
  intro q hq
  rw [hget] at hq ⊢
  split at hq
  ·cases hq
  ·rename_i hn;rw [if_neg hn];exact ⟨hn,rfl⟩
 have hA5:∀ q,(aq st.h q).there=true→(aq (bC ws st.h) q).there=true:=fun q hq=>by
  rw [hget];split
  ·rfl
  ·exact hq
 have hroA:∀ q,(aq st.h q).ro=true→aq (bC ws st.h) q=aq st.h q:=fun q hq=>by
  rw [hget,if_neg]
  intro hm
  rw [(hw.key hm).2] at hq;cases hq
 have hBlive:∀ q,(aq (fZ [] (bC ws st.h)) q).live=true→(aq (bC ws st.h) q).live=true:=fun q hq=>by rw [hlock,wE] at hq;exact hq
 have RB:Rel P M w0 σ Imm ⟨gB (eK c 0) st.t,fZ [] (bC ws st.h)⟩ a w:=by
  refine R0.weaken (lJ _ _) (by simp [BP,cB]) (fun i=>?_) (fun q hq=>?_) (fun q hq=>?_)
  ·simp only [BO];split
   ·exact .inl rfl
   ·exact .inr rfl
  ·have:=hBlive q hq
   simp only [hlock,wF,(hA4 q this).2]
  ·simp only [hlock,pV];exact hA5 q hq
 have eB:oy Fz st ⟨gB (eK c 0) st.t,fZ [] (bC ws st.h)⟩ σ σ Imm Imm w w:=R0.evoF.base (fun q hq=>by simp only [hlock,pV];exact hA5 q hq) (fun q hq=>by simp only [hlock];rw [hroA q hq,Hz _ hq])
 have hready0:=hready ⟨gB (eK c 0) st.t,fZ [] (bC ws st.h)⟩ (fun q hq=>by
  obtain ⟨k1,k2⟩:=hA4 q (hBlive q hq)
  exact ⟨by rw [← k2];exact hBlive q hq,k1⟩)
 have key:∀ (n:Nat) (s:(PS H.out).D) (σ1:Hd→bd) (Imm1:Nat→Prop) (a1:Act) (w1:World),ay.iter (Pr H run ⟨gB (eK c 0) st.t,fZ [] (bC ws st.h)⟩) n s=some (.inr o) →
   Rel P M w0 σ1 Imm1 ⟨gB (eK c 0) st.t,fZ [] (bC ws st.h)⟩ a1 w1→oy Fz ⟨gB (eK c 0) st.t,fZ [] (bC ws st.h)⟩ ⟨gB (eK c 0) st.t,fZ [] (bC ws st.h)⟩ σ σ1 Imm Imm1 w w1 →
   (∀ t,t ∉ cM c→a1.tmps.getD t undef=a.tmps.getD t undef)→Qu P M w0 ⟨gB (eK c 0) st.t,fZ [] (bC ws st.h)⟩ H.out s σ1 Imm1 a1 w1→Code.rounds P c (NL P M Fz w0 κ r (cM c) st σ Imm a w) n a1 w1:=by
  intro n
  induction n with
  | zero=>intro s σ1 Imm1 a1 w1 hi;simp [ay.iter] at hi
  | succ n ih =>
   intro s σ1 Imm1 a1 w1 hi R1 ev1 hun1 hr1
   rw [rounds_succ]
   unfold ay.iter at hi
   obtain ⟨y,hy,hi⟩:=Option.bind_eq_some_iff.1 hi
   unfold Pr at hy
   obtain ⟨st1,σ1',h1,R1',ev1',hlen1⟩:=hr1.tell R1 hy
   have hlenB:st1.t.length=st.t.length:=hlen1.trans (lJ _ _)
   refine wp_mono (hs.use R1' (fun d hdm=>by rw [hlenB];exact hd d hdm) h1) fun x a' w' hp=>?_
   obtain ⟨e,st2,σ2,Imm2,rfl,h2,R2,ev2,hlen2,hun2⟩:=hp
   have evB:=(ev1.trans ev1').trans ev2
   have evs:=eB.trans evB
   have hun:∀ t,t ∉ cM c→a'.tmps.getD t undef=a.tmps.getD t undef:=fun t ht=>(hun2 t ht).trans (hun1 t ht)
   have hB6:∀ q,(aq (bC ws st.h) q).live=true→aq st2.h q=fR (aq (bC ws st.h) q):=by
    intro q hq
    rw [← hlock]
    exact (evB.ro q (by show (aq (fZ [] (bC ws st.h)) q).ro=true;rw [hlock,yS];exact hq)).1
   have h3:∀ i,dK (gB (eK c 0) st.t) i=.any∨(dK (gB (eK c 0) st.t) i=dK st.t i∧a'.tmps.getD i undef=a.tmps.getD i undef):=fun i=>by
    rw [BO]
    split
    ·exact .inl rfl
    ·rename_i hb
     exact .inr ⟨rfl,hun i fun hm=>hb (gS (.inl hm))⟩
   have RB2:Rel P M w0 σ2 Imm2 ⟨gB (eK c 0) st.t,fZ [] (bC ws st.h)⟩ a' w' :=
    R0.again R2 evs.goes (hlen2.trans hlenB) (lJ _ _) (by simp [BP,cB]) h3 (fun q hq=>by simp only [hlock,wF,(hA4 q (hBlive q hq)).2])
     (fun q hq=>by simp only [hlock,pV];exact hA5 q hq) (fun q hq=>by simp only [hlock,wF];exact hB6 q (hBlive q hq))
   have RA:Rel P M w0 σ2 Imm2 ⟨gB (eK c 0) st.t,bC ws st.h⟩ a' w' :=
    R0.again R2 evs.goes (hlen2.trans hlenB) (lJ _ _) (cB _ _) h3 (fun q hq=>by rw [(hA4 q hq).2]) hA5 hB6
   have eA:oy Fz st ⟨gB (eK c 0) st.t,bC ws st.h⟩ σ σ2 Imm Imm2 w w':=evs.base hA5 hroA
   have fin:∀ {e:Ex},uo H e st2 (fun o=>some (Sum.inr (α:=(PS H.out).D) o))=some y→NL P M Fz w0 κ r (cM c) st σ Imm a w e.to a' w':=by
    intro e he
    obtain ⟨o',ho',hout⟩:=SF (r:=r) (κ:=κ) R2 RA (fun q hq=>by rw [hB6 q hq,yS];exact hq) he
    cases ho'
    simp only [Option.some.injEq,Sum.inr.injEq] at hi
    subst hi
    obtain ⟨T',σ',k1,k2,k3,k4⟩:=hout h
    exact ⟨e,T',σ',Imm2,rfl,k1,k2,eA.trans k3,k4.trans (lJ _ _),hun⟩
   cases e with
   | normal =>
    simp only at h2
    obtain ⟨s',ws',h5,hw',hr'⟩:=mC R2 h2
    cases h5
    simp only at hi
    refine ih s' σ2 Imm2 a' w' hi RB2 (evB.base (fun q hq=>hq) (fun q hq=>rfl)) hun (hr' _ fun q hq=>?_)
    have h6:=hB6 q (hBlive q hq)
    have hro:(aq st2.h q).ro=true:=by rw [h6,yS];exact hBlive q hq
    exact ⟨mB hro,fun hk=>by rw [(hw'.key hk).2] at hro;cases hro⟩
   | exit id=>exact fin h2
   | ret=>exact fin h2
 exact wp_loop_rounds n (key n s0 σ Imm a w hn RB RB.evoF (fun _ _=>rfl) hready0)
theorem lX {t:Nat}:∀ {l:List Oper},t∈Bg l↔∃ o∈l,o.dst=some t
 | []=>by simp [Bg]
 | o :: r=>by
  unfold Bg
  split
  ·rename_i d hd;simp [lX (l:=r),hd,eq_comm]
  ·rename_i hd;simp [lX (l:=r),hd]
theorem GT {c:Code} {run:{R:Type}→St→(Ex→St→Option R)→Option R} (hs:Dc P M Fz w0 c run) (cut:Option Hint):Dc P M Fz w0 c (Hu cut c run):=by
 intro R r st κ σ Imm a w R0 hd h
 have h:Hu cut c run st κ=some r:=h
 unfold Hu at h
 split at h
 ·exact hs.use R0 hd h
 ·exact (Uo hs _).use R0 hd h
theorem NL.mono {R:Type} {κ:Ex→St→Option R} {r:R} {ds:List Nat} {st:St} {σ:Hd→bd} {Imm:Nat→Prop} {a:Act} {w:World} {ds':List Nat} (hds:∀ t∈ds,t∈ds') {st1:St} {σ1:Hd→bd} {Imm1:Nat→Prop} {a1:Act} {w1:World}
  (ev:oy Fz st st1 σ σ1 Imm Imm1 w w1) (hl:st1.t.length=st.t.length) (hun:∀ t,t ∉ ds'→a1.tmps.getD t undef=a.tmps.getD t undef) {x:Exit} {a':Act} {w':World} (h:NL P M Fz w0 κ r ds st1 σ1 Imm1 a1 w1 x a' w'):NL P M Fz w0 κ r ds' st σ Imm a w x a' w':=by
 obtain ⟨e,st',σ',Imm',h1,h2,h3,h4,h5,h6⟩:=h
 exact ⟨e,st',σ',Imm',h1,h2,h3,ev.trans h4,h5.trans hl,fun t ht=>(h6 t fun hm=>ht (hds t hm)).trans (hun t ht)⟩
theorem TA {z:Bool} {h:Hints} (e:T8 z h≠[]):z=true:=by
 cases z with
 | true=>rfl
 | false=>exact absurd rfl e
theorem Q1 {z:Bool} {h:Hints} (e:Qp z h≠[]):z=true:=by
 cases z with
 | true=>rfl
 | false=>exact absurd rfl e
theorem Bi (hE:ar P E) (hm:P.follows .mixedOrders=true) (hF:E.Z=true→∀ b,(w0.heap.size≤b∨M b)→Fz b):∀ (c:Code) (hs:Hints),Dc P M Fz w0 c (fun {R} st κ=>ev E c hs (R:=R) st κ)
 | .skip,hs=>by intro R r st κ σ Imm a w R0 hd h;exact wp_skip ⟨.normal,st,σ,Imm,rfl,h,R0,R0.evoF,rfl,fun _ _=>rfl⟩
 | .ret,hs=>by intro R r st κ σ Imm a w R0 hd h;exact wp_ret ⟨.ret,st,σ,Imm,rfl,h,R0,R0.evoF,rfl,fun _ _=>rfl⟩
 | .exit id,hs=>by intro R r st κ σ Imm a w R0 hd h;exact wp_exit ⟨.exit id,st,σ,Imm,rfl,h,R0,R0.evoF,rfl,fun _ _=>rfl⟩
 | .region id ops draw,hs=>by
  intro R r st κ σ Imm a w R0 hd h
  have h9:ev E (.region id ops draw) hs st κ=some r:=h
  clear h
  unfold ev at h9
  obtain ⟨st2,Imm2,h7,R2,ev2,hl2⟩:=NJ R0 (fun hne=>hF (TA hne)) h9
  obtain ⟨st1,σ1,Imm1,h8,R1,ev1,hl1⟩:=NK R2 (fun hne=>hF (Q1 hne)) h7
  clear h9 h7
  have ev1:=ev2.trans ev1
  have hl1:=hl1.trans hl2
  clear ev2 hl2 R2
  refine wp_mono (Q:=NL P M Fz w0 κ r (cM (.region id ops draw)) st1 σ1 Imm1 a w) ?_ fun x a' w' hp=>hp.mono (fun t ht=>ht) ev1 hl1 fun _ _=>rfl
  have hd:∀ d∈cM (.region id ops draw),d < st1.t.length:=fun d hdm=>by rw [hl1];exact hd d hdm
  clear R0
  split at h8
  ·rename_i k hmk
   have hdr:=NC hmk
   subst hdr
   refine Tp hE R1 (fun o ho i hi=>hd i (lX.2 ⟨o,ho,hi⟩)) h8 fun st' σ' Imm' a' w' hk hlen R' ev' hun=>?_
   exact ⟨.normal,st',σ',Imm',rfl,hk,R',ev'.f,hlen,fun t ht=>hun t fun o ho hdst=>ht (lX.2 ⟨o,ho,hdst⟩)⟩
  split at h8
  ·rename_i k hrk
   obtain ⟨hdr,hz⟩:=Pt hrk
   subst hdr
   refine Un hE (hF hz) R1 (fun o ho i hi=>hd i (lX.2 ⟨o,ho,hi⟩)) h8 fun st' σ' Imm' a' w' hk hlen R' ev' hun=>?_
   exact ⟨.normal,st',σ',Imm',rfl,hk,R',ev',hlen,fun t ht=>hun t fun o ho hdst=>ht (lX.2 ⟨o,ho,hdst⟩)⟩
  refine GT (c:=.region id ops draw) (run:=fun {R} st κ=>CM E ops.toList draw (R:=R) st fun st=>κ .normal st) (fun R r st κ σ Imm a w R0 hd h=>?_) hs.cut _ _ _ _ _ _ _ _ R1 hd h8
  refine QV hE hm R0 (fun o ho i hi=>hd i (lX.2 ⟨o,ho,hi⟩)) h fun st' σ' Imm' a' w' hk hlen R' ev' hun=>?_
  exact ⟨.normal,st',σ',Imm',rfl,hk,R',ev'.f,hlen,fun t ht=>hun t fun o ho hdst=>ht (lX.2 ⟨o,ho,hdst⟩)⟩
 | .seq x y,hs=>by
  intro R r st κ σ Imm a w R0 hd h
  refine GT (c:=.seq x y) (run:=fun {R} st κ=>ev E x hs.a (R:=R) st fun e st=>match e with
   | .normal=>ev E y hs.b st κ
   | e=>κ e st) (fun R r st κ σ Imm a w R0 hd h=>?_) hs.cut _ _ _ _ _ _ _ _ R0 hd h
  have hdx:∀ t∈cM x,t∈cM (.seq x y):=fun t ht=>by simp [cM,ht]
  have hdy:∀ t∈cM y,t∈cM (.seq x y):=fun t ht=>by simp [cM,ht]
  refine wp_seq (wp_mono ((Bi hE hm hF x hs.a).use R0 (fun d hdm=>hd d (hdx d hdm)) h) fun e a' w' hp=>?_)
  obtain ⟨e,st',σ',Imm',rfl,h2,R',ev',hl,hun⟩:=hp
  have hun':∀ t,t ∉ cM (.seq x y)→a'.tmps.getD t undef=a.tmps.getD t undef:=fun t ht=>hun t fun hm=>ht (hdx t hm)
  cases e with
  | normal=>exact wp_mono ((Bi hE hm hF y hs.b).use R' (fun d hdm=>by rw [hl];exact hd d (hdy d hdm)) h2) fun e a2 w2 hp=>hp.mono hdy ev' hl hun'
  | exit id=>exact ⟨.exit id,st',σ',Imm',rfl,h2,R',ev',hl,hun'⟩
  | ret=>exact ⟨.ret,st',σ',Imm',rfl,h2,R',ev',hl,hun'⟩
 | .cond c x y,hs=>by
  intro R r st κ σ Imm a w R0 hd h
  refine GT (c:=.cond c x y) (run:=fun {R} st κ=>match val st c with
   | .leaf (.bool b)=>cond b (ev E x hs.a (R:=R) st κ) (ev E y hs.b (R:=R) st κ)
   | _=>none) (fun R r st κ σ Imm a w R0 hd h=>?_) hs.cut _ _ _ _ _ _ _ _ R0 hd h
  simp only at h
  split at h
  ·rename_i b hb
   refine wp_cond (R0.avB hb) ?_
   cases b with
   | true=>exact wp_mono ((Bi hE hm hF x hs.a).use R0 (fun d hdm=>hd d (by simp [cM,hdm])) h) fun e a' w' hp=>hp.mono (fun t ht=>by simp [cM,ht]) R0.evoF rfl fun _ _=>rfl
   | false=>exact wp_mono ((Bi hE hm hF y hs.b).use R0 (fun d hdm=>hd d (by simp [cM,hdm])) h) fun e a' w' hp=>hp.mono (fun t ht=>by simp [cM,ht]) R0.evoF rfl fun _ _=>rfl
  ·cases h
 | .block id x,hs=>by
  intro R r st κ σ Imm a w R0 hd h
  refine GT (c:=.block id x) (run:=fun {R} st κ=>ev E x hs.a (R:=R) st fun e st=>match e with
   | .exit id'=>match Nat.beq id' id with
    | true=>κ .normal st
    | false=>κ (.exit id') st
   | e=>κ e st) (fun R r st κ σ Imm a w R0 hd h=>?_) hs.cut _ _ _ _ _ _ _ _ R0 hd h
  refine wp_block (wp_mono ((Bi hE hm hF x hs.a).use R0 hd h) fun e a' w' hp=>?_)
  obtain ⟨e,st',σ',Imm',rfl,h2,R',ev',hl,hun⟩:=hp
  cases e with
  | normal=>exact ⟨.normal,st',σ',Imm',rfl,h2,R',ev',hl,hun⟩
  | ret=>exact ⟨.ret,st',σ',Imm',rfl,h2,R',ev',hl,hun⟩
  | exit id' =>
   simp only at h2
   show Exit.inBlock id _ (.exit id') a' w'
   unfold Exit.inBlock
   simp only
   split at h2
   ·rename_i hb
    rw [if_pos (Nat.eq_of_beq_eq_true hb)]
    exact ⟨.normal,st',σ',Imm',rfl,h2,R',ev',hl,hun⟩
   ·rename_i hb
    rw [if_neg (Nat.ne_of_beq_eq_false hb)]
    exact ⟨.exit id',st',σ',Imm',rfl,h2,R',ev',hl,hun⟩
 | .loop x,hs=>by
  intro R r st κ σ Imm a w R0 hd h
  have h:ev E (.loop x) hs st κ=some r:=h
  unfold ev at h
  split at h
  ·cases h
  ·rename_i H hH
   exact (Tz (Bi hE hm hF x hs.a) H).use R0 hd h
 | .scope _,hs=>by intro R r st κ σ Imm a w R0 hd h;cases h
 | .label _,hs=>by intro R r st κ σ Imm a w R0 hd h;cases h
 | .goto _,hs=>by intro R r st κ σ Imm a w R0 hd h;cases h
 | .refuse _,hs=>by intro R r st κ σ Imm a w R0 hd h;cases h
 | .rangeFunc _ _ _ _,hs=>by intro R r st κ σ Imm a w R0 hd h;cases h
end
end Go.Abs
