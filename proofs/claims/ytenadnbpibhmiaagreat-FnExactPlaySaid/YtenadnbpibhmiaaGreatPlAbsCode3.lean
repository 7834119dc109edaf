/- Part of a proof of FnExactPlay: see the row. -/
import Derived.Test.YtenadnbpibhmiaaGreatPlAbsCode2
import Derived.Test.YtenadnbpibhmiaaGreatPlAbsRun
import Derived.Test.YtenadnbpibhmiaaGreatPlAbsMark
import Derived.LoopN
set_option linter.unusedVariables false
set_option linter.unusedSimpArgs false
namespace Go.Abs
open Go.RowKit
def Ex.to:Ex→Exit
 | .normal=>.normal
 | .exit id=>.exit id
 | .ret=>.ret
section
variable {P:Program} {M Fz:Nat→Prop} {w0:World} {E:Env}
def Pz (P:Program) (M Fz:Nat→Prop) (w0:World) {R:Type} (κ:Ex→St→Option R) (r:R) (ds:List Nat) (st:St) (σ:Hd→aS) (Imm:Nat→Prop) (a:Act) (w:World):Exit→Act→World→Prop:=fun x a' w' =>
 ∃ e st' σ' Imm',x=Ex.to e∧κ e st'=some r∧Rel P M w0 σ' Imm' st' a' w'∧nE Fz st st' σ σ' Imm Imm' w w'∧st'.t.length=st.t.length∧∀ t,t ∉ ds→a'.tmps.getD t undef=a.tmps.getD t undef
def CX (P:Program) (M Fz:Nat→Prop) (w0:World) (c:Code) (run:{R:Type}→St→(Ex→St→Option R)→Option R):Prop :=
 ∀ (R:Type) (r:R) (st:St) (κ:Ex→St→Option R) (σ:Hd→aS) (Imm:Nat→Prop) (a:Act) (w:World),Rel P M w0 σ Imm st a w→(∀ d∈b9 c,d < st.t.length)→run st κ=some r →
  c.wp P (Pz P M Fz w0 κ r (b9 c) st σ Imm a w) a w
theorem CX.use {c:Code} {run:{R:Type}→St→(Ex→St→Option R)→Option R} (h:CX P M Fz w0 c run) {R:Type} {r:R} {st:St} {κ:Ex→St→Option R} {σ:Hd→aS} {Imm:Nat→Prop} {a:Act} {w:World}
  (R0:Rel P M w0 σ Imm st a w) (hd:∀ d∈b9 c,d < st.t.length) (hr:run st κ=some r):c.wp P (Pz P M Fz w0 κ r (b9 c) st σ Imm a w) a w:=h R r st κ σ Imm a w R0 hd hr
theorem Rel.weaken {σ:Hd→aS} {Imm:Nat→Prop} {st T:St} {a:Act} {w:World} (R:Rel P M w0 σ Imm st a w) (h1:T.t.length=st.t.length) (h2:T.h.length=st.h.length) (h3:∀ i,cZ T.t i=.any∨cZ T.t i=cZ st.t i)
  (h4:∀ q,(aj T.h q).live=true→eN (aj st.h q)=eN (aj T.h q)) (h5:∀ q,(aj st.h q).there=true→(aj T.h q).there=true):Rel P M w0 σ Imm T a w:=by
 have hl:∀ q,(aj T.h q).live=true→(aj st.h q).live=true:=fun q hq=>by rw [← vG,h4 q hq,vG];exact hq
 refine ⟨h1.trans R.len,by rw [h2,h1];exact R.hlen,R.defers,fun i=>?_,fun q=>?_,fun i=>?_,fun q ro ls e=>?_,fun q hq=>R.nd q (hl q hq),fun q q' hne k1 k2=>R.dj q q' hne (hl q k1) (hl q' k2),R.imm,R.keep⟩
 ·rcases h3 i with h | h
  ·rw [h];trivial
  ·rw [h];exact R.tm i
 ·cases hx:(aj T.h q).live with
  | true=>rw [← ObR.lock,← h4 q hx,ObR.lock];exact R.ob q
  | false=>cases hy:aj T.h q <;> first | trivial | (rw [hy] at hx;cases hx)
 ·rcases h3 i with h | h
  ·rw [h];exact aA
  ·rw [h];exact (R.ct i).mono h5
 ·have:=h4 q (by rw [e];rfl)
  rw [e] at this
  cases hy:aj st.h q with
  | box ro' ls' =>
   rw [hy] at this
   simp only [eN,aw.box.injEq,true_and] at this
   subst this
   exact (R.cb q ro' _ hy).mono h5
  | none=>rw [hy] at this;cases this
  | dead=>rw [hy] at this;cases this
  | arr _ _ _=>rw [hy] at this;cases this
theorem Rel.again {σ0 σ2:Hd→aS} {Imm0 Imm2:Nat→Prop} {st st2 T:St} {a0 a:Act} {w1 w:World} (R0:Rel P M w0 σ0 Imm0 st a0 w1) (R2:Rel P M w0 σ2 Imm2 st2 a w) (g:pU st.h σ0 σ2 Imm0 Imm2 w1 w)
  (hl2:st2.t.length=st.t.length) (h1:T.t.length=st.t.length) (h2:T.h.length=st.h.length) (h3:∀ i,cZ T.t i=.any∨(cZ T.t i=cZ st.t i∧a.tmps.getD i undef=a0.tmps.getD i undef))
  (h4:∀ q,(aj T.h q).live=true→eN (aj st.h q)=eN (aj T.h q)) (h5:∀ q,(aj st.h q).there=true→(aj T.h q).there=true) (h6:∀ q,(aj T.h q).live=true→aj st2.h q=eN (aj T.h q)):Rel P M w0 σ2 Imm2 T a w:=by
 have hl:∀ q,(aj T.h q).live=true→(aj st2.h q).live=true:=fun q hq=>by rw [h6 q hq,vG];exact hq
 refine ⟨by rw [h1,← hl2];exact R2.len,by rw [h2,h1];exact R0.hlen,R2.defers,fun i=>?_,fun q=>?_,fun i=>?_,fun q ro ls e=>?_,fun q hq=>R2.nd q (hl q hq),fun q q' hne k1 k2=>R2.dj q q' hne (hl q k1) (hl q' k2),R2.imm,R2.keep⟩
 ·rcases h3 i with h | ⟨h,k⟩
  ·rw [h];trivial
  ·rw [h,k];exact (R0.tm i).goes g (R0.ct i)
 ·cases hx:(aj T.h q).live with
  | true=>rw [← ObR.lock,← h6 q hx];exact R2.ob q
  | false=>cases hy:aj T.h q <;> first | trivial | (rw [hy] at hx;cases hx)
 ·rcases h3 i with h | ⟨h,_⟩
  ·rw [h];exact aA
  ·rw [h];exact (R0.ct i).mono h5
 ·have:=h4 q (by rw [e];rfl)
  rw [e] at this
  cases hy:aj st.h q with
  | box ro' ls' =>
   rw [hy] at this
   simp only [eN,aw.box.injEq,true_and] at this
   subst this
   exact (R0.cb q ro' _ hy).mono h5
  | none=>rw [hy] at this;cases this
  | dead=>rw [hy] at this;cases this
  | arr _ _ _=>rw [hy] at this;cases this
theorem nE.base {σ0 σ2:Hd→aS} {Imm0 Imm2:Nat→Prop} {X st2 T:St} {w1 w:World} (h:nE Fz X st2 σ0 σ2 Imm0 Imm2 w1 w) (h1:∀ q,(aj X.h q).there=true→(aj T.h q).there=true) (h2:∀ q,(aj X.h q).ro=true→aj T.h q=aj X.h q):nE Fz X T σ0 σ2 Imm0 Imm2 w1 w :=
 ⟨h.goes,h1,fun q hq=>⟨h2 q hq,(h.ro q hq).2⟩,h.sz,h.nw⟩
def RV (P:Program) (M:Nat→Prop) (w0:World) (T:St) (l:List Place) (x:(PS l).D) (σ:Hd→aS) (Imm:Nat→Prop) (a:Act) (w:World):Prop :=
 ∃ fp,NH P σ Imm a w l x fp∧fp.Nodup∧∀ b∈fp,IF M w0 σ Imm T b
theorem lP {R:Type} {r:R} {σ:Hd→aS} {Imm:Nat→Prop} {st:St} {a:Act} {w:World} (R0:Rel P M w0 σ Imm st a w) {l:List Place} {κ:(PS l).D→List (Hd×aw)→Option R} (h:vE st l [] κ=some r) :
  ∃ x ws,κ x ws=some r∧dF st ws∧∀ T:St,(∀ q,(aj T.h q).live=true→(aj st.h q).live=true∧q ∉ aq ws)→RV P M w0 T l x σ Imm a w:=by
 obtain ⟨x,ws,fp,h1,h2,h3⟩:=Gf R0 (dF.nil st) h
 refine ⟨x,ws,h1,h3.ok,fun T hT=>⟨fp,h2,h3.nd,fun b hb=>?_⟩⟩
 obtain ⟨ks,e,hk⟩:=h3.ks
 simp only [aq,List.append_nil] at e
 obtain ⟨q,hq,hbq⟩:=hk b hb
 rw [← e] at hq
 have hl:=(h3.ok.key hq).1
 have:=(R0.nd q hl).2 b hbq
 refine ⟨this.1,this.2,fun q' hq' hb'=>?_⟩
 obtain ⟨k1,k2⟩:=hT q' hq'
 exact R0.dj q q' (fun e=>k2 (e ▸ hq)) hl k1 b hbq hb'
theorem RV.tell {R:Type} {r:R} {σ:Hd→aS} {Imm:Nat→Prop} {T:St} {a:Act} {w:World} {l:List Place} {x:(PS l).D} {κ:St→Option R} (hr:RV P M w0 T l x σ Imm a w) (R0:Rel P M w0 σ Imm T a w) (h:sQ T l x κ=some r) :
  ∃ T' σ',κ T'=some r∧Rel P M w0 σ' Imm T' a w∧nE Fz T T' σ σ' Imm Imm w w∧T'.t.length=T.t.length:=by
 obtain ⟨fp,h1,h2,h3⟩:=hr
 unfold sQ at h
 have hth:oZ T.h (wG l)=true:=by
  cases hx:oZ T.h (wG l) with
  | true=>rfl
  | false=>rw [hx] at h;cases h
 rw [hth] at h
 obtain ⟨T',σ',k1,k2⟩:=CS R0 (σb:=σ) (fun _ _=>rfl) h1 h2 h3 (fun q hq=>⟨oE hth q hq,rfl⟩) h
 exact ⟨T',σ',k1,k2.rel,(k2.evo R0).f,k2.len⟩
theorem IN {S R T:Type} {t:T} (b:Bool):∀ {l:List (Option Nat)} {e:Option Nat} {s:S} {κ:QW S R b l→Option T},inS b l e s κ=some t →
  ∃ o,κ o=some t∧∀ (T':Type) (κs:Option Nat→S→Option T') (κr:R→Option T'),Uu b l o κs κr=κs e s
 | [],e,s,κ,h=>by cases h
 | [o],e,s,κ,h=>by
  have he:∀ {e:Option Nat},QX o e=true→e=o:=by
   intro e h
   cases o <;> cases e <;> simp_all [QX]
  cases b with
  | false =>
   simp only [inS] at h
   split at h
   ·rename_i h1;cases he h1;exact ⟨s,h,fun T' κs κr=>rfl⟩
   ·cases h
  | true =>
   simp only [inS] at h
   split at h
   ·rename_i h1;cases he h1;exact ⟨.inl s,h,fun T' κs κr=>rfl⟩
   ·cases h
 | o :: p :: l,e,s,κ,h=>by
  have he:∀ {e:Option Nat},QX o e=true→e=o:=by
   intro e h
   cases o <;> cases e <;> simp_all [QX]
  simp only [inS] at h
  split at h
  ·rename_i h1;cases he h1;exact ⟨.inl s,h,fun T' κs κr=>rfl⟩
  ·obtain ⟨x,h1,h2⟩:=IN (R:=R) b (l:=p :: l) h
   exact ⟨.inr x,h1,fun T' κs κr=>h2 T' κs κr⟩
theorem PA {S R T:Type} {t:T} (b:Bool):∀ {l:List (Option Nat)} {s:R} {κ:QW S R b l→Option T},inR b l s κ=some t →
  ∃ o,κ o=some t∧∀ (T':Type) (κs:Option Nat→S→Option T') (κr:R→Option T'),Uu b l o κs κr=κr s
 | [],s,κ,h=>by
  cases b with
  | true=>exact ⟨s,h,fun T' κs κr=>rfl⟩
  | false=>cases h
 | [o],s,κ,h=>by
  cases b with
  | true=>exact ⟨.inr s,h,fun T' κs κr=>rfl⟩
  | false=>cases h
 | o :: p :: l,s,κ,h=>by
  simp only [inR] at h
  obtain ⟨x,h1,h2⟩:=PA (S:=S) b (l:=p :: l) h
  exact ⟨.inr x,h1,fun T' κs κr=>h2 T' κs κr⟩
theorem TO {R T:Type} {r:R} {t:T} {H:Hint} {e:Ex} {st2 A:St} {σ:Hd→aS} {Imm:Nat→Prop} {a:Act} {w:World} (R2:Rel P M w0 σ Imm st2 a w) (RA:Rel P M w0 σ Imm A a w) (hA:∀ q,(aj A.h q).live=true→(aj st2.h q).ro=true)
  {κ1:H.D→Option T} {κ:Ex→St→Option R} (h1:sR H e st2 κ1=some t):∃ o,κ1 o=some t∧(EM H A o κ=some r →
   ∃ T' σ',κ e T'=some r∧Rel P M w0 σ' Imm T' a w∧nE Fz A T' σ σ' Imm Imm w w∧T'.t.length=A.t.length):=by
 have hq:∀ {ws:List (Hd×aw)},dF st2 ws→∀ q,(aj A.h q).live=true→(aj st2.h q).live=true∧q ∉ aq ws:=by
  intro ws hw q hl
  have:=hA q hl
  exact ⟨lO this,fun hk=>by rw [(hw.key hk).2] at this;cases this⟩
 cases e with
 | normal =>
  simp only [sR] at h1
  obtain ⟨x,ws,k1,k2,k3⟩:=lP R2 h1
  obtain ⟨o,k4,k5⟩:=IN (R:=(PS H.rp).D) H.ret.isSome k1
  refine ⟨o,k4,fun h2=>?_⟩
  unfold EM at h2
  rw [k5] at h2
  exact (k3 A (hq k2)).tell RA h2
 | exit id =>
  simp only [sR] at h1
  obtain ⟨x,ws,k1,k2,k3⟩:=lP R2 h1
  obtain ⟨o,k4,k5⟩:=IN (R:=(PS H.rp).D) H.ret.isSome k1
  refine ⟨o,k4,fun h2=>?_⟩
  unfold EM at h2
  rw [k5] at h2
  exact (k3 A (hq k2)).tell RA h2
 | ret =>
  simp only [sR] at h1
  obtain ⟨x,ws,k1,k2,k3⟩:=lP R2 h1
  obtain ⟨o,k4,k5⟩:=PA (S:=(PS H.out).D) H.ret.isSome k1
  refine ⟨o,k4,fun h2=>?_⟩
  unfold EM at h2
  rw [k5] at h2
  exact (k3 A (hq k2)).tell RA h2
theorem Gh {st:St}:∀ {l:List Hd},NE st.h l=true→dF st (wH l)∧aq (wH l)=l
 | [],_=>⟨dF.nil st,rfl⟩
 | q :: r,h=>by
  simp only [NE,Bool.and_eq_true,Bool.not_eq_true'] at h
  obtain ⟨⟨h1,h2⟩,h3⟩:=h
  obtain ⟨k1,k2⟩:=Gh h3
  have hl:(aj st.h q).live=true∧(aj st.h q).ro=false:=by
   split at h1
   ·rename_i e;rw [e];exact ⟨rfl,rfl⟩
   ·rename_i e;rw [e];exact ⟨rfl,rfl⟩
   ·cases h1
  refine ⟨k1.cons (fun hm=>?_) hl.1 hl.2,by simp [wH,aq,k2]⟩
  rw [k2] at hm
  rw [CM.2 hm] at h2
  cases h2
theorem vH (o:aw):eN (eN o)=eN o:=by cases o <;> rfl
theorem Ve {c:Code} {run:{R:Type}→St→(Ex→St→Option R)→Option R} (hs:CX P M Fz w0 c run) (H:Hint):CX P M Fz w0 c (Uv H (dL c 0) run):=by
 intro R r st κ σ Imm a w R0 hd h
 have h:Uv H (dL c 0) run st κ=some r:=h
 unfold Uv at h
 split at h
 ·rename_i hf
  obtain ⟨hw,hk⟩:=Gh hf
  rw [CU] at h
  obtain ⟨o,ho,h⟩:=Option.bind_eq_some_iff.1 h
  rw [CT,Cz] at h
  have RB:Rel P M w0 σ Imm ⟨st.t,eV H.free st.h⟩ a w:=R0.weaken rfl (Bn _ _) (fun _=>.inr rfl) (fun q _=>by simp only [nK];split <;> simp [vH]) (fun q hq=>by simp only [nK];split <;> simp [pb,hq])
  have eB:nE Fz st ⟨st.t,eV H.free st.h⟩ σ σ Imm Imm w w:=R0.evoF.base (fun q hq=>by simp only [nK];split <;> simp [pb,hq]) (fun q hq=>by simp only [nK];split <;> simp [IK _ hq])
  refine wp_mono (hs.use RB hd ho) fun x a' w' hp=>?_
  obtain ⟨e,st2,σ2,Imm2,rfl,h1,R2,ev,hlen,hun⟩:=hp
  have evs:=eB.trans ev
  have hget:=hw.get
  rw [hk] at hget
  have hA4:∀ q,(aj (bf (wH H.free) st.h) q).live=true→q ∉ H.free∧aj (bf (wH H.free) st.h) q=aj st.h q:=by
   intro q hq
   rw [hget] at hq ⊢
   split at hq
   ·cases hq
   ·rename_i hn;rw [if_neg hn];exact ⟨hn,rfl⟩
  have hA6:∀ q,(aj (bf (wH H.free) st.h) q).live=true→aj st2.h q=eN (aj (bf (wH H.free) st.h) q):=by
   intro q hq
   obtain ⟨k1,k2⟩:=hA4 q hq
   have hB:aj (eV H.free st.h) q=eN (aj st.h q):=by rw [nK,if_neg k1]
   rw [k2] at hq ⊢
   rw [← hB]
   exact (ev.ro q (by show (aj (eV H.free st.h) q).ro=true;rw [hB,yi];exact hq)).1
  have hA5:∀ q,(aj st.h q).there=true→(aj (bf (wH H.free) st.h) q).there=true:=fun q hq=>by
   rw [hget];split
   ·rfl
   ·exact hq
  have RA:Rel P M w0 σ2 Imm2 ⟨fE (dL c 0) st.t,bf (wH H.free) st.h⟩ a' w':=by
   refine R0.again R2 evs.goes hlen (kR _ _) (bT _ _) (fun i=>?_) (fun q hq=>by rw [(hA4 q hq).2]) hA5 hA6
   simp only [Bm]
   split
   ·exact .inl rfl
   ·rename_i hb
    exact .inr ⟨rfl,hun i fun hm=>hb (fY (.inl hm))⟩
  obtain ⟨o',ho',hout⟩:=TO (κ:=κ) R2 RA (fun q hq=>by rw [hA6 q hq,yi];exact hq) h1
  cases ho'
  obtain ⟨T',σ',k1,k2,k3,k4⟩:=hout h
  have eA:nE Fz st ⟨fE (dL c 0) st.t,bf (wH H.free) st.h⟩ σ σ2 Imm Imm2 w w':=evs.base hA5 fun q hq=>by
   simp only [hget]
   rw [if_neg]
   intro hm
   rw [← hk] at hm
   rw [(hw.key hm).2] at hq;cases hq
  exact ⟨e,T',σ',Imm2,rfl,k1,k2,eA.trans k3,k4.trans (kR _ _),hun⟩
 ·cases h
theorem Bp {S R:Type} {body:S→Option (S⊕R)} {s:S} {o:R} (h:al body s=some o):∃ n,al.iter body n s=some (.inr o):=by
 unfold al at h
 split at h
 ·rename_i hx
  cases h
  exact hx.choose_spec
 ·cases h
theorem Uy {c:Code} {run:{R:Type}→St→(Ex→St→Option R)→Option R} (hs:CX P M Fz w0 c run) (H:Hint):CX P M Fz w0 (.loop c) (RN H (dL c 0) run):=by
 intro R r st κ σ Imm a w R0 hd h
 have h:RN H (dL c 0) run st κ=some r:=h
 unfold RN at h
 obtain ⟨s0,ws,h,hw,hready⟩:=lP R0 h
 rw [CT,Cz,CU] at h
 obtain ⟨o,ho,h⟩:=Option.bind_eq_some_iff.1 h
 obtain ⟨n,hn⟩:=Bp ho
 have hget:=hw.get
 have hlock:∀ q,aj (eV [] (bf ws st.h)) q=eN (aj (bf ws st.h) q):=fun q=>by rw [nK];simp
 have hA4:∀ q,(aj (bf ws st.h) q).live=true→q ∉ aq ws∧aj (bf ws st.h) q=aj st.h q:=by
  intro q hq
  rw [hget] at hq ⊢
  split at hq
  ·cases hq
  ·rename_i hn;rw [if_neg hn];exact ⟨hn,rfl⟩
 have hA5:∀ q,(aj st.h q).there=true→(aj (bf ws st.h) q).there=true:=fun q hq=>by
  rw [hget];split
  ·rfl
  ·exact hq
 have hroA:∀ q,(aj st.h q).ro=true→aj (bf ws st.h) q=aj st.h q:=fun q hq=>by
  rw [hget,if_neg]
  intro hm
  rw [(hw.key hm).2] at hq;cases hq
 have hBlive:∀ q,(aj (eV [] (bf ws st.h)) q).live=true→(aj (bf ws st.h) q).live=true:=fun q hq=>by rw [hlock,vG] at hq;exact hq
 have RB:Rel P M w0 σ Imm ⟨fE (dL c 0) st.t,eV [] (bf ws st.h)⟩ a w:=by
  refine R0.weaken (kR _ _) (by simp [Bn,bT]) (fun i=>?_) (fun q hq=>?_) (fun q hq=>?_)
  ·simp only [Bm];split
   ·exact .inl rfl
   ·exact .inr rfl
  ·have:=hBlive q hq
   simp only [hlock,vH,(hA4 q this).2]
  ·simp only [hlock,pb];exact hA5 q hq
 have eB:nE Fz st ⟨fE (dL c 0) st.t,eV [] (bf ws st.h)⟩ σ σ Imm Imm w w:=R0.evoF.base (fun q hq=>by simp only [hlock,pb];exact hA5 q hq) (fun q hq=>by simp only [hlock];rw [hroA q hq,IK _ hq])
 have hready0:=hready ⟨fE (dL c 0) st.t,eV [] (bf ws st.h)⟩ (fun q hq=>by
  obtain ⟨k1,k2⟩:=hA4 q (hBlive q hq)
  exact ⟨by rw [← k2];exact hBlive q hq,k1⟩)
 have key:∀ (n:Nat) (s:(PS H.out).D) (σ1:Hd→aS) (Imm1:Nat→Prop) (a1:Act) (w1:World),al.iter (QY H run ⟨fE (dL c 0) st.t,eV [] (bf ws st.h)⟩) n s=some (.inr o) →
   Rel P M w0 σ1 Imm1 ⟨fE (dL c 0) st.t,eV [] (bf ws st.h)⟩ a1 w1→nE Fz ⟨fE (dL c 0) st.t,eV [] (bf ws st.h)⟩ ⟨fE (dL c 0) st.t,eV [] (bf ws st.h)⟩ σ σ1 Imm Imm1 w w1 →
   (∀ t,t ∉ b9 c→a1.tmps.getD t undef=a.tmps.getD t undef)→RV P M w0 ⟨fE (dL c 0) st.t,eV [] (bf ws st.h)⟩ H.out s σ1 Imm1 a1 w1→Code.rounds P c (Pz P M Fz w0 κ r (b9 c) st σ Imm a w) n a1 w1:=by
  intro n
  induction n with
  | zero=>intro s σ1 Imm1 a1 w1 hi;simp [al.iter] at hi
  | succ n ih =>
   intro s σ1 Imm1 a1 w1 hi R1 ev1 hun1 hr1
   rw [rounds_succ]
   unfold al.iter at hi
   obtain ⟨y,hy,hi⟩:=Option.bind_eq_some_iff.1 hi
   unfold QY at hy
   obtain ⟨st1,σ1',h1,R1',ev1',hlen1⟩:=hr1.tell R1 hy
   have hlenB:st1.t.length=st.t.length:=hlen1.trans (kR _ _)
   refine wp_mono (hs.use R1' (fun d hdm=>by rw [hlenB];exact hd d hdm) h1) fun x a' w' hp=>?_
   obtain ⟨e,st2,σ2,Imm2,rfl,h2,R2,ev2,hlen2,hun2⟩:=hp
   have evB:=(ev1.trans ev1').trans ev2
   have evs:=eB.trans evB
   have hun:∀ t,t ∉ b9 c→a'.tmps.getD t undef=a.tmps.getD t undef:=fun t ht=>(hun2 t ht).trans (hun1 t ht)
   have hB6:∀ q,(aj (bf ws st.h) q).live=true→aj st2.h q=eN (aj (bf ws st.h) q):=by
    intro q hq
    rw [← hlock]
    exact (evB.ro q (by show (aj (eV [] (bf ws st.h)) q).ro=true;rw [hlock,yi];exact hq)).1
   have h3:∀ i,cZ (fE (dL c 0) st.t) i=.any∨(cZ (fE (dL c 0) st.t) i=cZ st.t i∧a'.tmps.getD i undef=a.tmps.getD i undef):=fun i=>by
    rw [Bm]
    split
    ·exact .inl rfl
    ·rename_i hb
     exact .inr ⟨rfl,hun i fun hm=>hb (fY (.inl hm))⟩
   have RB2:Rel P M w0 σ2 Imm2 ⟨fE (dL c 0) st.t,eV [] (bf ws st.h)⟩ a' w' :=
    R0.again R2 evs.goes (hlen2.trans hlenB) (kR _ _) (by simp [Bn,bT]) h3 (fun q hq=>by simp only [hlock,vH,(hA4 q (hBlive q hq)).2])
     (fun q hq=>by simp only [hlock,pb];exact hA5 q hq) (fun q hq=>by simp only [hlock,vH];exact hB6 q (hBlive q hq))
   have RA:Rel P M w0 σ2 Imm2 ⟨fE (dL c 0) st.t,bf ws st.h⟩ a' w' :=
    R0.again R2 evs.goes (hlen2.trans hlenB) (kR _ _) (bT _ _) h3 (fun q hq=>by rw [(hA4 q hq).2]) hA5 hB6
   have eA:nE Fz st ⟨fE (dL c 0) st.t,bf ws st.h⟩ σ σ2 Imm Imm2 w w':=evs.base hA5 hroA
   have fin:∀ {e:Ex},sR H e st2 (fun o=>some (Sum.inr (α:=(PS H.out).D) o))=some y→Pz P M Fz w0 κ r (b9 c) st σ Imm a w e.to a' w':=by
    intro e he
    obtain ⟨o',ho',hout⟩:=TO (r:=r) (κ:=κ) R2 RA (fun q hq=>by rw [hB6 q hq,yi];exact hq) he
    cases ho'
    simp only [Option.some.injEq,Sum.inr.injEq] at hi
    subst hi
    obtain ⟨T',σ',k1,k2,k3,k4⟩:=hout h
    exact ⟨e,T',σ',Imm2,rfl,k1,k2,eA.trans k3,k4.trans (kR _ _),hun⟩
   cases e with
   | normal =>
    simp only at h2
    obtain ⟨s',ws',h5,hw',hr'⟩:=lP R2 h2
    cases h5
    simp only at hi
    refine ih s' σ2 Imm2 a' w' hi RB2 (evB.base (fun q hq=>hq) (fun q hq=>rfl)) hun (hr' _ fun q hq=>?_)
    have h6:=hB6 q (hBlive q hq)
    have hro:(aj st2.h q).ro=true:=by rw [h6,yi];exact hBlive q hq
    exact ⟨lO hro,fun hk=>by rw [(hw'.key hk).2] at hro;cases hro⟩
   | exit id=>exact fin h2
   | ret=>exact fin h2
 exact wp_loop_rounds n (key n s0 σ Imm a w hn RB RB.evoF (fun _ _=>rfl) hready0)
theorem lg {t:Nat}:∀ {l:List Oper},t∈AU l↔∃ o∈l,o.dst=some t
 | []=>by simp [AU]
 | o :: r=>by
  unfold AU
  split
  ·rename_i d hd;simp [lg (l:=r),hd,eq_comm]
  ·rename_i hd;simp [lg (l:=r),hd]
theorem H5 {c:Code} {run:{R:Type}→St→(Ex→St→Option R)→Option R} (hs:CX P M Fz w0 c run) (cut:Option Hint):CX P M Fz w0 c (ID cut c run):=by
 intro R r st κ σ Imm a w R0 hd h
 have h:ID cut c run st κ=some r:=h
 unfold ID at h
 split at h
 ·exact hs.use R0 hd h
 ·exact (Ve hs _).use R0 hd h
theorem Pz.mono {R:Type} {κ:Ex→St→Option R} {r:R} {ds:List Nat} {st:St} {σ:Hd→aS} {Imm:Nat→Prop} {a:Act} {w:World} {ds':List Nat} (hds:∀ t∈ds,t∈ds') {st1:St} {σ1:Hd→aS} {Imm1:Nat→Prop} {a1:Act} {w1:World}
  (ev:nE Fz st st1 σ σ1 Imm Imm1 w w1) (hl:st1.t.length=st.t.length) (hun:∀ t,t ∉ ds'→a1.tmps.getD t undef=a.tmps.getD t undef) {x:Exit} {a':Act} {w':World} (h:Pz P M Fz w0 κ r ds st1 σ1 Imm1 a1 w1 x a' w'):Pz P M Fz w0 κ r ds' st σ Imm a w x a' w':=by
 obtain ⟨e,st',σ',Imm',h1,h2,h3,h4,h5,h6⟩:=h
 exact ⟨e,st',σ',Imm',h1,h2,h3,ev.trans h4,h5.trans hl,fun t ht=>(h6 t fun hm=>ht (hds t hm)).trans (hun t ht)⟩
theorem Uz {z:Bool} {h:Hints} (e:UY z h≠[]):z=true:=by
 cases z with
 | true=>rfl
 | false=>exact absurd rfl e
theorem Sq {z:Bool} {h:Hints} (e:RQ z h≠[]):z=true:=by
 cases z with
 | true=>rfl
 | false=>exact absurd rfl e
theorem CY (hE:aE P E) (hm:P.follows .mixedOrders=true) (hF:E.Z=true→∀ b,(w0.heap.size≤b∨M b)→Fz b):∀ (c:Code) (hs:Hints),CX P M Fz w0 c (fun {R} st κ=>ev E c hs (R:=R) st κ)
 | .skip,hs=>by intro R r st κ σ Imm a w R0 hd h;exact wp_skip ⟨.normal,st,σ,Imm,rfl,h,R0,R0.evoF,rfl,fun _ _=>rfl⟩
 | .ret,hs=>by intro R r st κ σ Imm a w R0 hd h;exact wp_ret ⟨.ret,st,σ,Imm,rfl,h,R0,R0.evoF,rfl,fun _ _=>rfl⟩
 | .exit id,hs=>by intro R r st κ σ Imm a w R0 hd h;exact wp_exit ⟨.exit id,st,σ,Imm,rfl,h,R0,R0.evoF,rfl,fun _ _=>rfl⟩
 | .region id ops draw,hs=>by
  intro R r st κ σ Imm a w R0 hd h
  have h9:ev E (.region id ops draw) hs st κ=some r:=h
  clear h
  unfold ev at h9
  obtain ⟨st2,Imm2,h7,R2,ev2,hl2⟩:=Px R0 (fun hne=>hF (Uz hne)) h9
  obtain ⟨st1,σ1,Imm1,h8,R1,ev1,hl1⟩:=Py R2 (fun hne=>hF (Sq hne)) h7
  clear h9 h7
  have ev1:=ev2.trans ev1
  have hl1:=hl1.trans hl2
  clear ev2 hl2 R2
  refine wp_mono (Q:=Pz P M Fz w0 κ r (b9 (.region id ops draw)) st1 σ1 Imm1 a w) ?_ fun x a' w' hp=>hp.mono (fun t ht=>ht) ev1 hl1 fun _ _=>rfl
  have hd:∀ d∈b9 (.region id ops draw),d < st1.t.length:=fun d hdm=>by rw [hl1];exact hd d hdm
  clear R0
  split at h8
  ·rename_i k hmk
   have hdr:=Pq hmk
   subst hdr
   refine Ur hE R1 (fun o ho i hi=>hd i (lg.2 ⟨o,ho,hi⟩)) h8 fun st' σ' Imm' a' w' hk hlen R' ev' hun=>?_
   exact ⟨.normal,st',σ',Imm',rfl,hk,R',ev'.f,hlen,fun t ht=>hun t fun o ho hdst=>ht (lg.2 ⟨o,ho,hdst⟩)⟩
  split at h8
  ·rename_i k hrk
   obtain ⟨hdr,hz⟩:=Q1 hrk
   subst hdr
   refine Vd hE (hF hz) R1 (fun o ho i hi=>hd i (lg.2 ⟨o,ho,hi⟩)) h8 fun st' σ' Imm' a' w' hk hlen R' ev' hun=>?_
   exact ⟨.normal,st',σ',Imm',rfl,hk,R',ev',hlen,fun t ht=>hun t fun o ho hdst=>ht (lg.2 ⟨o,ho,hdst⟩)⟩
  refine H5 (c:=.region id ops draw) (run:=fun {R} st κ=>Cw E ops.toList draw (R:=R) st fun st=>κ .normal st) (fun R r st κ σ Imm a w R0 hd h=>?_) hs.cut _ _ _ _ _ _ _ _ R1 hd h8
  refine Sl hE hm R0 (fun o ho i hi=>hd i (lg.2 ⟨o,ho,hi⟩)) h fun st' σ' Imm' a' w' hk hlen R' ev' hun=>?_
  exact ⟨.normal,st',σ',Imm',rfl,hk,R',ev'.f,hlen,fun t ht=>hun t fun o ho hdst=>ht (lg.2 ⟨o,ho,hdst⟩)⟩
 | .seq x y,hs=>by
  intro R r st κ σ Imm a w R0 hd h
  refine H5 (c:=.seq x y) (run:=fun {R} st κ=>ev E x hs.a (R:=R) st fun e st=>match e with
   | .normal=>ev E y hs.b st κ
   | e=>κ e st) (fun R r st κ σ Imm a w R0 hd h=>?_) hs.cut _ _ _ _ _ _ _ _ R0 hd h
  have hdx:∀ t∈b9 x,t∈b9 (.seq x y):=fun t ht=>by simp [b9,ht]
  have hdy:∀ t∈b9 y,t∈b9 (.seq x y):=fun t ht=>by simp [b9,ht]
  refine wp_seq (wp_mono ((CY hE hm hF x hs.a).use R0 (fun d hdm=>hd d (hdx d hdm)) h) fun e a' w' hp=>?_)
  obtain ⟨e,st',σ',Imm',rfl,h2,R',ev',hl,hun⟩:=hp
  have hun':∀ t,t ∉ b9 (.seq x y)→a'.tmps.getD t undef=a.tmps.getD t undef:=fun t ht=>hun t fun hm=>ht (hdx t hm)
  cases e with
  | normal=>exact wp_mono ((CY hE hm hF y hs.b).use R' (fun d hdm=>by rw [hl];exact hd d (hdy d hdm)) h2) fun e a2 w2 hp=>hp.mono hdy ev' hl hun'
  | exit id=>exact ⟨.exit id,st',σ',Imm',rfl,h2,R',ev',hl,hun'⟩
  | ret=>exact ⟨.ret,st',σ',Imm',rfl,h2,R',ev',hl,hun'⟩
 | .cond c x y,hs=>by
  intro R r st κ σ Imm a w R0 hd h
  refine H5 (c:=.cond c x y) (run:=fun {R} st κ=>match val st c with
   | .leaf (.bool b)=>cond b (ev E x hs.a (R:=R) st κ) (ev E y hs.b (R:=R) st κ)
   | _=>none) (fun R r st κ σ Imm a w R0 hd h=>?_) hs.cut _ _ _ _ _ _ _ _ R0 hd h
  simp only at h
  split at h
  ·rename_i b hb
   refine wp_cond (R0.avB hb) ?_
   cases b with
   | true=>exact wp_mono ((CY hE hm hF x hs.a).use R0 (fun d hdm=>hd d (by simp [b9,hdm])) h) fun e a' w' hp=>hp.mono (fun t ht=>by simp [b9,ht]) R0.evoF rfl fun _ _=>rfl
   | false=>exact wp_mono ((CY hE hm hF y hs.b).use R0 (fun d hdm=>hd d (by simp [b9,hdm])) h) fun e a' w' hp=>hp.mono (fun t ht=>by simp [b9,ht]) R0.evoF rfl fun _ _=>rfl
  ·cases h
 | .block id x,hs=>by
  intro R r st κ σ Imm a w R0 hd h
  refine H5 (c:=.block id x) (run:=fun {R} st κ=>ev E x hs.a (R:=R) st fun e st=>match e with
   | .exit id'=>match Nat.beq id' id with
    | true=>κ .normal st
    | false=>κ (.exit id') st
   | e=>κ e st) (fun R r st κ σ Imm a w R0 hd h=>?_) hs.cut _ _ _ _ _ _ _ _ R0 hd h
  refine wp_block (wp_mono ((CY hE hm hF x hs.a).use R0 hd h) fun e a' w' hp=>?_)
  obtain ⟨e,st',σ',Imm',rfl,h2,R',ev',hl,hun⟩:=hp
  cases e with
  | normal=>exact ⟨.normal,st',σ',Imm',rfl,h2,R',ev',hl,hun⟩
  | ret=>exact ⟨.ret,st',σ',Imm',rfl,h2,R',ev',hl,hun⟩
  | exit id' =>
   simp only at h2
   show Exit.inBlock id _ (.exit id') a' w'
   unfold Exit.inBlock
   simp only
   split at h2
   ·rename_i hb
    rw [if_pos (Nat.eq_of_beq_eq_true hb)]
    exact ⟨.normal,st',σ',Imm',rfl,h2,R',ev',hl,hun⟩
   ·rename_i hb
    rw [if_neg (Nat.ne_of_beq_eq_false hb)]
    exact ⟨.exit id',st',σ',Imm',rfl,h2,R',ev',hl,hun⟩
 | .loop x,hs=>by
  intro R r st κ σ Imm a w R0 hd h
  have h:ev E (.loop x) hs st κ=some r:=h
  unfold ev at h
  split at h
  ·cases h
  ·rename_i H hH
   exact (Uy (CY hE hm hF x hs.a) H).use R0 hd h
 | .scope _,hs=>by intro R r st κ σ Imm a w R0 hd h;cases h
 | .label _,hs=>by intro R r st κ σ Imm a w R0 hd h;cases h
 | .goto _,hs=>by intro R r st κ σ Imm a w R0 hd h;cases h
 | .refuse _,hs=>by intro R r st κ σ Imm a w R0 hd h;cases h
 | .rangeFunc _ _ _ _,hs=>by intro R r st κ σ Imm a w R0 hd h;cases h
end
end Go.Abs
