/- Part of a proof of FnExactPlay: see the row. -/
import Derived.Test.YtenadnbpibhmiaaGreatPlAbsCt
set_option linter.unusedVariables false
set_option linter.unusedSimpArgs false
namespace Go.Abs
open Go.RowKit
def sI:(ms:List Md)→(a:Ty)→a.D→Nat→List AV
 | .rd :: ms,.pair t a,x,i=>cU t x.1 [] (fun cs=>cV t cs) :: sI ms a x.2 (i + 1)
 | .nil :: ms,.pair _ a,x,i=>.leaf .nil :: sI ms a x.2 (i + 1)
 | .ptr :: ms,.pair _ a,x,i=>.leaf (.box (i,0) 0) :: sI ms a x.2 (i + 1)
 | .lent :: ms,.pair _ a,x,i=>.any :: sI ms a x.2 (i + 1)
 | .tk :: ms,.pair _ a,x,i=>.any :: sI ms a x.2 (i + 1)
 | _,_,_,_=>[]
def dS:List Md→List (List aw)
 | []=>[]
 | .ptr :: ms=>[.dead] :: dS ms
 | _ :: ms=>[] :: dS ms
def fF (ms:List Md) (a:Ty) (x:a.D) (n:Nat):St :=
 ⟨sI ms a x 0++List.replicate (n - (sI ms a x 0).length) .any,dS ms++List.replicate (n - (dS ms).length) []⟩
def jx {R:Type}:(ms:List Md)→(a:Ty)→a.D→Nat→St→(St→Option R)→Option R
 | .lent :: ms,.pair t a,x,i,st,κ=>nJ st (.tmpO i 0 t) x.1 fun st=>jx ms a x.2 (i + 1) st κ
 | .tk :: ms,.pair t a,x,i,st,κ=>nJ st (.tmpO i 0 t) x.1 fun st=>jx ms a x.2 (i + 1) st κ
 | .ptr :: ms,.pair t a,x,i,st,κ=>nJ st (.box i 0 t) x.1 fun st=>jx ms a x.2 (i + 1) st κ
 | .rd :: ms,.pair _ a,x,i,st,κ=>jx ms a x.2 (i + 1) st κ
 | .nil :: ms,.pair _ a,x,i,st,κ=>jx ms a x.2 (i + 1) st κ
 | _,_,_,_,st,κ=>κ st
def jt {R:Type} (st:St):(ms:List Md)→(a:Ty)→Nat→List (Hd×aw)→((fS ms a).D→List (Hd×aw)→Option R)→Option R
 | .lent :: ms,.pair t a,i,ws,κ=>qk st (.tmpO i 0 t) ws fun x ws=>jt st ms a (i + 1) ws fun z ws=>κ (x,z) ws
 | .ptr :: ms,.pair t a,i,ws,κ=>qk st (.box i 0 t) ws fun x ws=>jt st ms a (i + 1) ws fun z ws=>κ (x,z) ws
 | .rd :: ms,.pair _ a,i,ws,κ=>jt st ms a (i + 1) ws κ
 | .nil :: ms,.pair _ a,i,ws,κ=>jt st ms a (i + 1) ws κ
 | .tk :: ms,.pair _ a,i,ws,κ=>jt st ms a (i + 1) ws κ
 | [],.unit,_,ws,κ=>κ () ws
 | _,_,_,_,_=>none
def UB (T:Tab) (ms:List Md) (a:Ty) (one fresh:Bool) (rvs:List ResultVar) (r:Ty) (e:Ex) (st:St):Option (r.D×(fS ms a).D) :=
 match e with
 | .exit _=>none
 | _=>yh T st rvs fun vs=>match one,fresh with
  | true,false=>match vs with
   | [v]=>gO r v fun cs=>bz st.h r cs [] fun x rest os=>jD rest (jt st ms a 0 [] fun z ws=>match Cp (aq ws) os with
    | true=>some (x,z)
    | false=>none)
   | _=>none
  | true,true=>match vs with
   | [v]=>gO r v fun cs=>bN st.h r cs [] fun x rest ws=>jD rest (jt st ms a 0 ws fun z _=>some (x,z))
   | _=>none
  | false,false=>ny st.h r vs [] fun x os=>jt st ms a 0 [] fun z ws=>match Cp (aq ws) os with
   | true=>some (x,z)
   | false=>none
  | false,true=>jw st.h r vs [] fun x ws=>jt st ms a 0 ws fun z _=>some (x,z)
section
variable {P:Program} {E:Env}
def UZ (ms:List Md) (vs:List Value) (i:Nat):aS :=
 match ms[i]?,vs[i]? with
 | some .ptr,some (.pointer (some a))=>⟨undef,a.block,[a.block]⟩
 | _,_=>⟨undef,0,[]⟩
theorem PB {ms:List Md}:∀ {a:Ty} {w:World} {Imm:Nat→Prop} {vs:List Value} {x:a.D} {fp:List Nat} {i:Nat},oY P Imm ms a w vs x fp→(sI ms a x i).length=ms.length∧vs.length=ms.length:=by
 induction ms with
 | nil=>intro a w Imm vs x fp i h;cases a <;> first | exact h.elim | exact ⟨rfl,by rw [h.1];rfl⟩
 | cons m ms ih =>
  intro a w Imm vs x fp i h
  cases a with
  | pair t u =>
   cases m with
   | rd=>obtain ⟨cs,r,e,_,h⟩:=h;subst e;have:=ih (i:=i + 1) h;simp [sI,this.1,this.2]
   | nil=>cases t <;> first | exact h.elim | (obtain ⟨r,e,h⟩:=h;subst e;have:=ih (i:=i + 1) h;simp [sI,this.1,this.2])
   | lent=>obtain ⟨cs,r,f1,f2,e,_,_,h⟩:=h;subst e;have:=ih (i:=i + 1) h;simp [sI,this.1,this.2]
   | tk=>obtain ⟨cs,r,f1,f2,e,_,_,h⟩:=h;subst e;have:=ih (i:=i + 1) h;simp [sI,this.1,this.2]
   | ptr=>obtain ⟨b,c,ty,r,f2,e,_,_,_,h⟩:=h;subst e;have:=ih (i:=i + 1) h;simp [sI,this.1,this.2]
  | _=>cases m <;> exact h.elim
theorem Bq (ms:List Md):(dS ms).length=ms.length:=by
 induction ms with
 | nil=>rfl
 | cons m ms ih=>cases m <;> simp [dS,ih]
theorem Br (ms:List Md) (i:Nat):bx (dS ms) i=match ms[i]? with | some .ptr=>[.dead] | _=>[]:=by
 induction ms generalizing i with
 | nil=>simp [dS,bx]
 | cons m ms ih=>cases i with
  | zero=>cases m <;> simp [dS,bx]
  | succ i=>cases m <;> simp [dS,bx,ih]
theorem yn (ms:List Md) (a:Ty) (x:a.D) (n:Nat) (q:Hd):aj (fF ms a x n).h q=.none∨(aj (fF ms a x n).h q=.dead∧q.2=0∧ms[q.1]?=some .ptr):=by
 unfold aj fF
 simp only
 have:bx (dS ms++List.replicate (n - (dS ms).length) []) q.1=[]∨(bx (dS ms++List.replicate (n - (dS ms).length) []) q.1=[.dead]∧ms[q.1]?=some .ptr):=by
  rcases Nat.lt_or_ge q.1 (dS ms).length with h | h
  ·have e:bx (dS ms++List.replicate (n - (dS ms).length) []) q.1=bx (dS ms) q.1:=by
    rw [iZ,iZ,List.getD_eq_getElem?_getD,List.getD_eq_getElem?_getD,List.getElem?_append_left h]
   rw [e,Br]
   split
   ·exact .inr ⟨rfl,by assumption⟩
   ·exact .inl rfl
  ·left
   rw [iZ,List.getD_eq_getElem?_getD,List.getElem?_append_right h,List.getElem?_replicate]
   split <;> rfl
 rcases this with h | ⟨h,h2⟩
 ·left;rw [h];rfl
 ·rw [h]
  obtain ⟨q1,q2⟩:=q
  cases q2 with
  | zero=>right;exact ⟨rfl,rfl,h2⟩
  | succ q2=>left;simp [gn]
theorem TR {σ:Hd→aS} {w:World} {Imm:Nat→Prop}:∀ (ms:List Md) {a:Ty} {vs:List Value} {x:a.D} {fp:List Nat} {i:Nat},oY P Imm ms a w vs x fp →
  (∀ k b,ms[k]?=some .ptr→vs[k]?=some (.pointer (some ⟨b,0,none⟩))→(σ (i + k,0)).b=b)→rv P σ Imm w (sI ms a x i) vs:=by
 intro ms
 induction ms with
 | nil=>intro a vs x fp i h _;cases a <;> first | exact h.elim | exact h.1
 | cons m ms ih =>
  intro a vs x fp i h hσ
  have hσ':∀ (r:List Value) (v:Value),vs=v :: r→∀ k b,ms[k]?=some .ptr→r[k]?=some (.pointer (some ⟨b,0,none⟩))→(σ (i + 1 + k,0)).b=b:=by
   intro r v e k b h1 h2
   have:=hσ (k + 1) b (by simpa using h1) (by rw [e];simpa using h2)
   rwa [show i + (k + 1)=i + 1 + k by omega] at this
  cases a with
  | pair t u =>
   cases m with
   | rd =>
    obtain ⟨cs,r,e,h1,h⟩:=h
    refine ⟨_,r,e,?_,ih h (hσ' r _ e)⟩
    rw [aP]
    exact eI h1.cells h1.length
   | nil=>cases t <;> first | exact h.elim | (obtain ⟨r,e,h⟩:=h;exact ⟨_,r,e,rfl,ih h (hσ' r _ e)⟩)
   | lent=>obtain ⟨cs,r,f1,f2,e,_,_,h⟩:=h;exact ⟨_,r,e,trivial,ih h (hσ' r _ e)⟩
   | tk=>obtain ⟨cs,r,f1,f2,e,_,_,h⟩:=h;exact ⟨_,r,e,trivial,ih h (hσ' r _ e)⟩
   | ptr =>
    obtain ⟨b,c,ty,r,f2,e,_,_,_,h⟩:=h
    refine ⟨_,r,e,?_,ih h (hσ' r _ e)⟩
    have:=hσ 0 b rfl (by rw [e];rfl)
    rw [Nat.add_zero] at this
    show _=_
    rw [this]
  | _=>cases m <;> exact h.elim
theorem TS:∀ (ms:List Md) {a:Ty} {x:a.D} {i:Nat} (k:Nat) (v:AV),(sI ms a x i)[k]?=some v→∀ q∈v.hds,q=(i + k,0)∧ms[k]?=some .ptr:=by
 intro ms
 induction ms with
 | nil=>intro a x i k v h;cases a <;> simp [sI] at h
 | cons m ms ih =>
  intro a x i k v h q hq
  cases a with
  | pair t u =>
   cases k with
   | zero =>
    cases m <;> simp only [sI,List.getElem?_cons_zero,Option.some.injEq] at h <;> subst h
    ·rw [aP,eJ,cR] at hq;cases hq
    ·cases hq
    ·cases hq
    ·cases hq
    ·simp only [AV.hds,Leaf.hds,List.mem_singleton] at hq
     exact ⟨hq,rfl⟩
   | succ k =>
    have h':(sI ms u x.2 (i + 1))[k]?=some v:=by cases m <;> simpa [sI] using h
    have:=ih k v h' q hq
    exact ⟨by rw [this.1,show i + (k + 1)=i + 1 + k by omega],by simpa using this.2⟩
  | _=>cases m <;> simp [sI] at h
theorem Q6 {σ:Hd→aS} {Imm:Nat→Prop} {w:World} {ms:List Md} {a:Ty} {x:a.D} {us:List Value} {fp:List Nat} {n:Nat} (h:oY P Imm ms a w us x fp)
  (hσ:∀ k b,ms[k]?=some .ptr→us[k]?=some (.pointer (some ⟨b,0,none⟩))→(σ (k,0)).b=b) (hn:ms.length≤n) (hI:∀ b,Imm b→b < w.heap.size) (M:Nat→Prop) :
  Rel P M w σ Imm (fF ms a x n) { tmps:=us.toArray++Array.replicate (n - us.toArray.size) undef,defers:=[] } w:=by
 obtain ⟨hl1,hl2⟩:=PB (i:=0) h
 have hav:=TR (σ:=σ) (i:=0) ms h (fun k b h1 h2=>by rw [Nat.zero_add];exact hσ k b h1 h2)
 have hget:∀ i,(∃ v,(sI ms a x 0)[i]?=some v∧cZ (fF ms a x n).t i=v)∨cZ (fF ms a x n).t i=.any:=by
  intro i
  simp only [fF,vz,List.getD_eq_getElem?_getD]
  rcases Nat.lt_or_ge i (sI ms a x 0).length with h1 | h1
  ·left
   rw [List.getElem?_append_left h1,List.getElem?_eq_getElem h1]
   exact ⟨_,rfl,rfl⟩
  ·right
   rw [List.getElem?_append_right h1,List.getElem?_replicate]
   split <;> rfl
 have hnl:∀ q,(aj (fF ms a x n).h q).live=false:=fun q=>by
  rcases yn ms a x n q with h | ⟨h,_⟩ <;> rw [h] <;> rfl
 refine ⟨by simp [fF,hl1,hl2],by simp [fF,hl1,Bq],rfl,fun i=>?_,fun o=>?_,fun i=>?_,fun o ro ls e=>?_,fun o ho=>?_,fun o o' hne h1 h2=>?_,hI,bg.refl _ w⟩
 ·rcases hget i with ⟨v,h1,h2⟩ | h1
  ·obtain ⟨u,h3,h4⟩:=hav.get h1
   have:({ tmps:=us.toArray++Array.replicate (n - us.toArray.size) undef,defers:=[] }:Act).tmps.getD i undef=u:=by
    simp only [Array.getD_eq_getD_getElem?]
    rw [Array.getElem?_append_left (by have:=(List.getElem?_eq_some_iff.1 h3).1;simpa using this)]
    simp [h3]
   rw [this,h2];exact h4
  ·rw [h1];trivial
 ·rcases yn ms a x n o with h | ⟨h,_⟩ <;> rw [h] <;> trivial
 ·rcases hget i with ⟨v,h1,h2⟩ | h1
  ·rw [h2]
   intro q hq
   obtain ⟨e,hp⟩:=TS ms i v h1 q hq
   subst e
   rw [Nat.zero_add]
   have hs:bx (fF ms a x n).h i=[.dead]:=by
    unfold fF
    simp only
    have hi:i < (dS ms).length:=by rw [Bq];exact (List.getElem?_eq_some_iff.1 hp).1
    have e:bx (dS ms++List.replicate (n - (dS ms).length) []) i=bx (dS ms) i:=by
     rw [iZ,iZ,List.getD_eq_getElem?_getD,List.getD_eq_getElem?_getD,List.getElem?_append_left hi]
    rw [e,Br,hp]
   unfold aj
   simp only
   rw [hs]
   rfl
  ·rw [h1];exact aA
 ·have:=hnl o;rw [e] at this;cases this
 ·have:=hnl o;rw [ho] at this;cases this
 ·have:=hnl o;rw [h1] at this;cases this
theorem PC {R:Type} {r0:R} {M:Nat→Prop} {w0 w:World} {Imm:Nat→Prop} {act:Act} {σb:Hd→aS}:∀ (ms:List Md) {a:Ty} {σ:Hd→aS} {st:St} {vs:List Value} {x:a.D} {fp:List Nat} {i:Nat} {κ:St→Option R},
  Rel P M w0 σ Imm st act w→(∀ q,(aj st.h q).live=false→σ q=σb q)→oY P Imm ms a w vs x fp→(∀ k v,vs[k]?=some v→act.tmps.getD (i + k) undef=v) →
  (∀ k b,ms[k]?=some .ptr→vs[k]?=some (.pointer (some ⟨b,0,none⟩))→(σb (i + k,0))=⟨undef,b,[b]⟩)→fp.Nodup→(∀ b∈fp,IF M w0 σ Imm st b)→jx ms a x i st κ=some r0 →
  ∃ T' σ',κ T'=some r0∧CR P M w0 σ σ' Imm st T' act w fp:=by
 intro ms
 induction ms with
 | nil =>
  intro a σ st vs x fp i κ R0 hσ h ht hp hn hf hk
  cases a <;> first | exact h.elim | skip
  rw [h.2]
  exact ⟨st,σ,by simpa [jx] using hk,CR.refl R0⟩
 | cons m ms ih =>
  intro a σ st vs x fp i κ R0 hσ h ht hp hn hf hk
  have hp':∀ (r:List Value) (v:Value),vs=v :: r→∀ k b,ms[k]?=some .ptr→r[k]?=some (.pointer (some ⟨b,0,none⟩))→(σb (i + 1 + k,0))=⟨undef,b,[b]⟩:=by
   intro r v e k b h1 h2
   have:=hp (k + 1) b (by simpa using h1) (by rw [e];simpa using h2)
   rwa [show i + (k + 1)=i + 1 + k by omega] at this
  have ht':∀ (r:List Value) (v:Value),vs=v :: r→∀ k u,r[k]?=some u→act.tmps.getD (i + 1 + k) undef=u:=by
   intro r v e k u h1
   have:=ht (k + 1) u (by rw [e];simpa using h1)
   rwa [show i + (k + 1)=i + 1 + k by omega] at this
  cases a with
  | pair t u =>
   have two:∀ {p:Place} {y:p.ty.D} {f1 f2:List Nat} {r:List Value} {v:Value},p.caps=[]→vs=v :: r→fp=f1++f2→MY P σb Imm act w p y f1→oY P Imm ms u w r x.2 f2 →
     (nJ st p y fun st=>jx ms u x.2 (i + 1) st κ)=some r0→∃ T' σ',κ T'=some r0∧CR P M w0 σ σ' Imm st T' act w fp:=by
    intro p y f1 f2 r v hcap ev ef hpf hr hk
    subst ef
    obtain ⟨n1,n2,n3⟩:=List.nodup_append.1 hn
    obtain ⟨T1,σ1,h1,t1⟩:=pa R0 hσ hpf n1 (fun b hb=>hf b (by simp [hb])) (fun q hq=>by rw [hcap] at hq;cases hq) hk
    obtain ⟨T2,σ2,h2,t2⟩:=ih t1.rel (fun q hq=>(t1.sg q hq).trans (hσ q (t1.dead q hq))) hr (ht' r v ev) (hp' r v ev) n2 (fun b hb=>by
     have hfb:=hf b (by simp [hb])
     refine ⟨hfb.1,hfb.2.1,fun q hq=>?_⟩
     rcases t1.lv q hq with ⟨l1,l2⟩ | l
     ·rw [l2];exact hfb.2.2 q l1
     ·exact fun hb2=>n3 b (l b hb2) b hb rfl) h1
    exact ⟨T2,σ2,h2,t1.trans t2⟩
   cases m with
   | rd=>obtain ⟨cs,r,e,_,h⟩:=h;exact ih R0 hσ h (ht' r _ e) (hp' r _ e) hn hf (by simpa [jx] using hk)
   | nil=>cases t <;> first | exact h.elim | (obtain ⟨r,e,h⟩:=h;exact ih R0 hσ h (ht' r _ e) (hp' r _ e) hn hf (by simpa [jx] using hk))
   | lent =>
    obtain ⟨cs,r,f1,f2,e,ef,h1,h⟩:=h
    refine two (p:=.tmpO i 0 t) (y:=x.1) rfl e ef ⟨cs,h1,?_⟩ h (by simpa [jx] using hk)
    have:=ht 0 _ (by rw [e];rfl)
    rwa [Nat.add_zero] at this
   | tk =>
    obtain ⟨cs,r,f1,f2,e,ef,h1,h⟩:=h
    refine two (p:=.tmpO i 0 t) (y:=x.1) rfl e ef ⟨cs,h1,?_⟩ h (by simpa [jx] using hk)
    have:=ht 0 _ (by rw [e];rfl)
    rwa [Nat.add_zero] at this
   | ptr =>
    obtain ⟨b,c,ty,r,f2,e,ef,h1,h2,h⟩:=h
    have hb:=hp 0 b rfl (by rw [e];rfl)
    rw [Nat.add_zero] at hb
    exact two (p:=.box i 0 t) (y:=x.1) (f1:=[b]) rfl e ef ⟨c,ty,by rw [hb];exact h1,h2,by rw [hb],by rw [hb]⟩ h (by simpa [jx] using hk)
  | _=>cases m <;> exact h.elim
theorem Q7 {R:Type} {r:R} {M:Nat→Prop} {w0 w:World} {Imm:Nat→Prop} {σ:Hd→aS} {st:St} {act:Act} (R0:Rel P M w0 σ Imm st act w):∀ (ms:List Md) {a:Ty} {vs:List Value} {i:Nat} {ws:List (Hd×aw)} {κ:(fS ms a).D→List (Hd×aw)→Option R},
  dF st ws→vs.length=ms.length→(∀ k v,ms[k]?=some Md.lent→vs[k]?=some v→act.tmps.getD (i + k) undef=v) →
  (∀ k,ms[k]?=some .ptr→∃ b,vs[k]?=some (.pointer (some ⟨b,0,none⟩))∧(σ (i + k,0)).b=b)→jt st ms a i ws κ=some r →
  ∃ z ws' fp,κ z ws'=some r∧sH P Imm ms a w vs z fp∧cT σ st ws ws' fp:=by
 intro ms
 induction ms with
 | nil =>
  intro a vs i ws κ hw hl ht hp hk
  cases a <;> simp only [jt,reduceCtorEq] at hk
  exact ⟨(),ws,[],hk,⟨List.eq_nil_of_length_eq_zero hl,rfl⟩,cT.refl hw⟩
 | cons m ms ih =>
  intro a vs i ws κ hw hl ht hp hk
  obtain ⟨v,vs,rfl⟩:∃ v r,vs=v :: r:=by cases vs with | nil=>simp at hl | cons v r=>exact ⟨v,r,rfl⟩
  have hl':vs.length=ms.length:=by simpa using hl
  have ht':∀ k u,ms[k]?=some Md.lent→vs[k]?=some u→act.tmps.getD (i + 1 + k) undef=u:=fun k u h0 h1=>by
   have:=ht (k + 1) u (by simpa using h0) (by simpa using h1)
   rwa [show i + (k + 1)=i + 1 + k by omega] at this
  have hp':∀ k,ms[k]?=some .ptr→∃ b,vs[k]?=some (.pointer (some ⟨b,0,none⟩))∧(σ (i + 1 + k,0)).b=b:=fun k h1=>by
   obtain ⟨b,h2,h3⟩:=hp (k + 1) (by simpa using h1)
   exact ⟨b,by simpa using h2,by rwa [show i + (k + 1)=i + 1 + k by omega] at h3⟩
  cases a with
  | pair t u =>
   cases m with
   | rd=>obtain ⟨z,ws',fp,h1,h2,h3⟩:=ih hw hl' ht' hp' (by simpa [jt] using hk);exact ⟨z,ws',fp,h1,⟨v,vs,rfl,h2⟩,h3⟩
   | nil=>obtain ⟨z,ws',fp,h1,h2,h3⟩:=ih hw hl' ht' hp' (by simpa [jt] using hk);exact ⟨z,ws',fp,h1,⟨v,vs,rfl,h2⟩,h3⟩
   | tk=>obtain ⟨z,ws',fp,h1,h2,h3⟩:=ih hw hl' ht' hp' (by simpa [jt] using hk);exact ⟨z,ws',fp,h1,⟨v,vs,rfl,h2⟩,h3⟩
   | lent =>
    simp only [jt] at hk
    obtain ⟨x,ws1,f1,h1,h2,h3⟩:=kQ R0 (p:=.tmpO i 0 t) hw hk
    obtain ⟨z,ws2,f2,k1,k2,k3⟩:=ih h3.ok hl' ht' hp' h1
    obtain ⟨cs,h4,h5⟩:=h2
    have hv:act.tmps.getD i undef=v:=by have:=ht 0 v rfl rfl;rwa [Nat.add_zero] at this
    exact ⟨(x,z),ws2,f1++f2,k1,⟨cs,vs,f1,f2,by rw [← h5,hv],rfl,h4,k2⟩,h3.trans R0 k3⟩
   | ptr =>
    simp only [jt] at hk
    obtain ⟨x,ws1,f1,h1,h2,h3⟩:=kQ R0 (p:=.box i 0 t) hw hk
    obtain ⟨z,ws2,f2,k1,k2,k3⟩:=ih h3.ok hl' ht' hp' h1
    obtain ⟨c,ty,h4,h5,h6,h7⟩:=h2
    obtain ⟨b,hb1,hb2⟩:=hp 0 rfl
    rw [Nat.add_zero] at hb2
    simp only [List.getElem?_cons_zero,Option.some.injEq] at hb1
    rw [hb2] at h4 h6
    exact ⟨(x,z),ws2,f1++f2,k1,⟨b,c,ty,vs,f2,by rw [hb1],by rw [h6];rfl,h4,h5,k2⟩,h3.trans R0 k3⟩
  | _=>cases m <;> simp [jt] at hk
theorem cT.live {σ:Hd→aS} {st:St} {ws:List (Hd×aw)} {fp:List Nat} (h:cT σ st [] ws fp):∀ b∈fp,∃ q,(aj st.h q).live=true∧b∈(σ q).fp:=by
 intro b hb
 obtain ⟨ks,e,hk⟩:=h.ks
 simp only [aq,List.append_nil] at e
 obtain ⟨q,hq,hbq⟩:=hk b hb
 rw [← e] at hq
 exact ⟨q,(h.ok.key hq).1,hbq⟩
def TT:Md→Bool
 | .lent=>true
 | _=>false
def RW (k:Nat):List Nat→Bool
 | []=>true
 | d :: r=>!Nat.beq k d && RW k r
def ut:List Md→Nat→List Nat→Bool
 | [],_,_=>true
 | m :: ms,k,ds=>(!TT m || RW k ds) && ut ms (k + 1) ds
theorem IT {k:Nat}:∀ {l:List Nat},RW k l=true→k ∉ l
 | [],_,h=>by cases h
 | a :: l,h,hd=>by
  simp only [RW,Bool.and_eq_true,Bool.not_eq_true'] at h
  rcases List.mem_cons.1 hd with rfl | hd
  ·simp at h
  ·exact IT h.2 hd
theorem AX:∀ {ms:List Md} {i:Nat} {ds:List Nat},ut ms i ds=true→∀ k,ms[k]?=some Md.lent→i + k ∉ ds
 | [],_,_,_,k,hk=>by simp at hk
 | m :: ms,i,ds,h,0,hk=>by
  simp only [ut,Bool.and_eq_true] at h
  simp only [List.getElem?_cons_zero,Option.some.injEq] at hk
  subst hk
  exact IT (by simpa [TT] using h.1)
 | m :: ms,i,ds,h,k + 1,hk=>by
  simp only [ut,Bool.and_eq_true] at h
  have:=AX h.2 k (by simpa using hk)
  rwa [show i + 1 + k=i + (k + 1) by omega] at this
def M2 (fn:Func) (one:Bool) (ms:List Md):Bool :=
 match fn.body with
 | some c=>AP fn.ntmps (b9 c) && ut ms 0 (b9 c) && Nat.ble ms.length fn.ntmps && (one == Nat.beq fn.results.size 1) && fn.name != "runtime.NumGoroutine"
 | none=>false
theorem Q8 {f:FuncId} {fn:Func} {body:Code} {one:Bool} {ms:List Md} (hf:P.funcs[f]?=some fn) (hb:fn.body=some body) (h:M2 fn one ms=true) :
  ff P f∧AP fn.ntmps (b9 body)=true∧ut ms 0 (b9 body)=true∧ms.length≤fn.ntmps∧one=decide (fn.results.size=1):=by
 unfold M2 at h
 rw [hb] at h
 simp only [Bool.and_eq_true,beq_iff_eq] at h
 obtain ⟨⟨⟨⟨h1,h0⟩,h2⟩,h3⟩,h4⟩:=h
 refine ⟨by unfold ff;rw [hf];simp only [Option.any_some,hb,Option.isSome_some,Bool.true_and];exact h4,h1,h0,Nat.le_of_ble_eq_true h2,?_⟩
 rw [h3]
 by_cases e:fn.results.size=1
 ·simp [e]
 ·rw [decide_eq_false e]
  cases hb:Nat.beq fn.results.size 1 with
  | false=>rfl
  | true=>exact absurd (Nat.eq_of_beq_eq_true hb) e
theorem CZ {I J:Nat→Prop} {w w':World}:∀ (ms:List Md) {a:Ty} {vs:List Value} {x:a.D} {z:(fS ms a).D} {f g:List Nat},xU ms=true→oY P I ms a w vs x f→sH P J ms a w' vs z g→f=g:=by
 intro ms
 induction ms with
 | nil=>intro a vs x z f g _ h k;cases a <;> first | exact h.elim | (rw [h.2,k.2])
 | cons m ms ih =>
  intro a vs x z f g hn h k
  cases a with
  | pair t u =>
   cases m with
   | rd=>obtain ⟨cs,r,e,_,h⟩:=h;obtain ⟨v,r',e',k⟩:=k;rw [e] at e';cases e';exact ih hn h k
   | nil=>cases t <;> first | exact h.elim | (obtain ⟨r,e,h⟩:=h;obtain ⟨v,r',e',k⟩:=k;rw [e] at e';cases e';exact ih hn h k)
   | lent=>cases hn
   | tk=>cases hn
   | ptr =>
    obtain ⟨b,c,ty,r,f2,e,ef,_,_,h⟩:=h
    obtain ⟨b',c',ty',r',g2,e',eg,_,_,k⟩:=k
    rw [e] at e'
    simp only [List.cons.injEq,Value.pointer.injEq,Option.some.injEq,Addr.mk.injEq,and_true,true_and] at e'
    obtain ⟨rfl,rfl⟩:=e'
    rw [ef,eg,ih hn h k]
  | _=>cases m <;> exact h.elim
theorem UC:∀ (ms:List Md) {a:Ty} {I:Nat→Prop} {w:World} {vs:List Value} {x:a.D} {f:List Nat},oY P I ms a w vs x f→∀ k:Nat,ms[k]?=some Md.ptr→∃ b:Nat,vs[k]?=some (Value.pointer (some ⟨b,0,none⟩)):=by
 intro ms
 induction ms with
 | nil=>intro a I w vs x f _ k hk;simp at hk
 | cons m ms ih =>
  intro a I w vs x f h k hk
  cases a with
  | pair t u =>
   have next:∀ {v:Value} {r:List Value} {f2:List Nat},vs=v :: r→oY P I ms u w r x.2 f2→∀ k':Nat,k=k' + 1→∃ b:Nat,vs[k]?=some (Value.pointer (some ⟨b,0,none⟩)):=by
    intro v r f2 e h k' ek
    subst ek
    obtain ⟨b,hb⟩:=ih h k' (by simpa using hk)
    exact ⟨b,by rw [e];simpa using hb⟩
   cases m with
   | rd=>obtain ⟨cs,r,e,_,h⟩:=h;cases k with | zero=>simp at hk | succ k=>exact next e h k rfl
   | nil=>cases t <;> first | exact h.elim | (obtain ⟨r,e,h⟩:=h;cases k with | zero=>simp at hk | succ k=>exact next e h k rfl)
   | lent=>obtain ⟨cs,r,f1,f2,e,_,_,h⟩:=h;cases k with | zero=>simp at hk | succ k=>exact next e h k rfl
   | tk=>obtain ⟨cs,r,f1,f2,e,_,_,h⟩:=h;cases k with | zero=>simp at hk | succ k=>exact next e h k rfl
   | ptr =>
    obtain ⟨b,c,ty,r,f2,e,_,_,_,h⟩:=h
    cases k with
    | zero=>exact ⟨b,by rw [e];rfl⟩
    | succ k=>exact next e h k rfl
  | _=>cases m <;> exact h.elim
theorem UD (hE:aE P E) (hm:P.follows .mixedOrders=true) {f:FuncId} {fn:Func} {body:Code} {ms:List Md} (hz:(!E.Z || xU ms)=true) {one fr:Bool} {a r:Ty} {F:a.D→Option (r.D×(fS ms a).D)} (hs:Hints)
  (hf:P.funcs[f]?=some fn) (hb:fn.body=some body) (hok:M2 fn one ms=true) (hfr:(fr || xU ms)=true)
  (hev:∀ x,(jx ms a x 0 (fF ms a x fn.ntmps) fun st=>ev E body hs st (UB E.T ms a one fr fn.results.toList r))=F x):fC P f (.mut ms one fr a r F):=by
 obtain ⟨h1,h2,h3,h4,h5⟩:=Q8 hf hb hok
 refine ⟨h1,fun Imm w vs x fp y hnI hIl hnd hA hF=>?_⟩
 obtain ⟨hl1,hl2⟩:=PB (i:=0) hA
 have hptr:=UC ms hA
 let σ0:Hd→aS:=fun q=>UZ ms vs q.1
 have hσ0:∀ k b,ms[k]?=some .ptr→vs[k]?=some (.pointer (some ⟨b,0,none⟩))→σ0 (k,0)=⟨undef,b,[b]⟩:=fun k b g1 g2=>by
  simp only [σ0,UZ,g1,g2]
 let act:Act:={ tmps:=vs.toArray++Array.replicate (fn.ntmps - vs.toArray.size) undef,defers:=[] }
 have hact:∀ k v,vs[k]?=some v→act.tmps.getD k undef=v:=by
  intro k v hk
  have hlt:=(List.getElem?_eq_some_iff.1 hk).1
  simp only [act,Array.getD_eq_getD_getElem?]
  rw [Array.getElem?_append_left (by simpa using hlt)]
  simp [hk]
 let M:Nat→Prop:=fun b=>b∈fp
 have R0:Rel P M w σ0 Imm (fF ms a x fn.ntmps) act w:=Q6 hA (fun k b g1 g2=>by rw [hσ0 k b g1 g2]) h4 hIl M
 have hnl:∀ q,(aj (fF ms a x fn.ntmps).h q).live=false:=fun q=>by
  rcases yn ms a x fn.ntmps q with h | ⟨h,_⟩ <;> rw [h] <;> rfl
 have hrun:=(hev x).trans hF
 obtain ⟨T,σ1,k1,k2⟩:=PC ms R0 (fun q _=>rfl) hA (i:=0) (fun k v hk=>by rw [Nat.zero_add];exact hact k v hk) (fun k b g1 g2=>by rw [Nat.zero_add];exact hσ0 k b g1 g2) hnd
  (fun b hb=>⟨hnI b hb,.inr hb,fun q hq=>by rw [hnl q] at hq;cases hq⟩) hrun
 refine calls_of_wp hf hb ?_
 have hlen:T.t.length=fn.ntmps:=by rw [k2.len];simp [fF,hl1];omega
 refine wp_mono ((CY (M:=M) (Fz:=fun b=>xU ms=true∧(w.heap.size≤b∨b∈fp)) (w0:=w) hE hm (fun h b hb=>⟨by rw [h] at hz;simpa using hz,hb⟩) body hs).use k2.rel (fun d hdm=>by rw [hlen];exact rC h2 d hdm) k1) fun e' a' w' hp=>?_
 obtain ⟨e,st',σ',Imm',rfl,h6,R',ev',hl,hun⟩:=hp
 have hpar:∀ k v,ms[k]?=some Md.lent→vs[k]?=some v→a'.tmps.getD k undef=v:=by
  intro k v hl hk
  rw [hun k (by have:=AX h3 k hl;rwa [Nat.zero_add] at this)]
  exact hact k v hk
 have hpt:∀ k,ms[k]?=some .ptr→∃ b,vs[k]?=some (.pointer (some ⟨b,0,none⟩))∧(σ' (k,0)).b=b:=by
  intro k hk
  obtain ⟨b,hb⟩:=hptr k hk
  refine ⟨b,hb,?_⟩
  have ht:(aj (fF ms a x fn.ntmps).h (k,0)).there=true:=by
   have hs:bx (fF ms a x fn.ntmps).h k=[.dead]:=by
    unfold fF
    simp only
    have hi:k < (dS ms).length:=by rw [Bq];exact (List.getElem?_eq_some_iff.1 hk).1
    have e:bx (dS ms++List.replicate (fn.ntmps - (dS ms).length) []) k=bx (dS ms) k:=by
     rw [iZ,iZ,List.getD_eq_getElem?_getD,List.getD_eq_getElem?_getD,List.getElem?_append_left hi]
    rw [e,Br,hk]
   unfold aj
   simp only
   rw [hs]
   rfl
  rw [(ev'.goes.sg (k,0) (k2.there _ ht)).2,(k2.sgt _ ht).2,hσ0 k b hk hb]
 have hI':∀ b,Imm' b→(Imm b∨(w.heap.size≤b∧b < w'.heap.size))∨(xU ms=true∧b∈fp):=fun b hb=>by
  rcases Nat.lt_or_ge b w.heap.size with h | h
  ·rcases ev'.nw b h hb with h1 | ⟨h1,h2⟩
   ·exact .inl (.inl h1)
   ·exact .inr ⟨h1,h2.elim (fun h2=>absurd h (Nat.not_lt.2 h2)) id⟩
  ·exact .inl (.inr ⟨h,R'.imm b hb⟩)
 have hown:∀ q,(aj st'.h q).live=true→∀ b∈(σ' q).fp,(b∈fp∨w.heap.size≤b)∧¬ Imm' b∧b < w'.heap.size:=fun q hq b hb=>by
  have:=(R'.nd q hq).2 b hb
  exact ⟨this.2.symm,this.1,R'.lt q hq b hb⟩
 have back:∀ {ws:List (Hd×aw)} {X:Type} {rr:X} {κ:(fS ms a).D→List (Hd×aw)→Option X},dF st' ws→jt st' ms a 0 ws κ=some rr→∃ z ws' fpo,κ z ws'=some rr∧sH P Imm' ms a w' vs z fpo∧cT σ' st' ws ws' fpo:=by
  intro ws X rr κ hw hk
  exact Q7 R' ms (i:=0) hw hl2 (fun k v hl hk=>by rw [Nat.zero_add];exact hpar k v hl hk) (fun k hk=>by rw [Nat.zero_add];exact hpt k hk) hk
 have fin:∀ {cs:List Value} {fpr fpo:List Nat},(results fn a'.tmps).run P w'=.ok (jF one r cs) w'→sH P Imm' ms a w' vs y.2 fpo→(fpr++fpo).Nodup→(∀ b∈fpr++fpo,∃ q,(aj st'.h q).live=true∧b∈(σ' q).fp) →
   QJ P fr r (CD Imm w w' (fpr++fpo)) w' cs y.1 fpr →
   a'.defers=[]∧∃ v,(results fn a'.tmps).run P w'=.ok v w'∧(bg (fun b=>b∈fp) w w'∧∃ cs' fpr fpo,Ending.returned v=.returned (jF one r cs') ∧
    QJ P fr r (CD Imm w w' (fpr++fpo)) w' cs' y.1 fpr ∧
    sH P (CD Imm w w' (fpr++fpo)) ms a w' vs y.2 fpo∧(fpr++fpo).Nodup∧∀ b∈fpr++fpo,b∈fp∨w.heap.size≤b):=by
  intro cs fpr fpo hr ho hn hlv hres
  refine ⟨R'.defers,_,hr,R'.keep,cs,fpr,fpo,rfl,hres,ho.imm (fun b hb=>?_) ms a,hn,fun b hb=>?_⟩
  ·rcases hI' b hb with (h | h) | ⟨hno,h⟩
   ·exact .inl h
   ·refine .inr ⟨h.1,h.2,fun hm=>?_⟩
    obtain ⟨q,hq,hbq⟩:=hlv b hm
    exact (hown q hq b hbq).2.1 hb
   ·obtain ⟨q,hq,hbq⟩:=hlv b (List.mem_append_right _ (by rw [← CZ ms hno hA ho];exact h))
    exact absurd hb (hown q hq b hbq).2.1
  ·obtain ⟨q,hq,hbq⟩:=hlv b hb
   exact (hown q hq b hbq).1
 unfold UB at h6
 have hex:e=.normal∨e=.ret:=by cases e with | exit _=>cases h6 | normal=>exact .inl rfl | ret=>exact .inr rfl
 suffices hmain:a'.defers=[]∧∃ v,(results fn a'.tmps).run P w'=.ok v w'∧(bg (fun b=>b∈fp) w w'∧∃ cs' fpr fpo,Ending.returned v=.returned (jF one r cs') ∧
    QJ P fr r (CD Imm w w' (fpr++fpo)) w' cs' y.1 fpr ∧
    sH P (CD Imm w w' (fpr++fpo)) ms a w' vs y.2 fpo∧(fpr++fpo).Nodup∧∀ b∈fpr++fpo,b∈fp∨w.heap.size≤b) by (rcases hex with rfl | rfl <;> exact hmain)
 have h7:(yh E.T st' fn.results.toList fun vs=>match one,fr with
  | true,false=>match vs with
   | [v]=>gO r v fun cs=>bz st'.h r cs [] fun x rest os=>jD rest (jt st' ms a 0 [] fun z ws=>match Cp (aq ws) os with
    | true=>some (x,z)
    | false=>none)
   | _=>none
  | true,true=>match vs with
   | [v]=>gO r v fun cs=>bN st'.h r cs [] fun x rest ws=>jD rest (jt st' ms a 0 ws fun z _=>some (x,z))
   | _=>none
  | false,false=>ny st'.h r vs [] fun x os=>jt st' ms a 0 [] fun z ws=>match Cp (aq ws) os with
   | true=>some (x,z)
   | false=>none
  | false,true=>jw st'.h r vs [] fun x ws=>jt st' ms a 0 ws fun z _=>some (x,z))=some y:=by
  rcases hex with rfl | rfl <;> exact h6
 obtain ⟨rvs,us,g1,g2,g3,g4,g5⟩:=rE hE.1 R' h7
 have hru:=yk (fn:=fn) g4
 have hus:us.length=fn.results.size:=by rw [← g2.length,g5];simp
 have hv1:∀ v,rvs=[v]→∃ u,us=[u]∧AVR P σ' Imm' w' v u:=by
  rintro v rfl
  obtain ⟨u,r',e,h6,h7⟩:=g2
  cases (h7:r'=[])
  exact ⟨u,e,h6⟩
 have immOut:∀ {ws':List (Hd×aw)} {f:List Nat},cT σ' st' [] ws' f→(xU ms=true→∀ b∈fp,b∈f)→∀ b,Imm' b→CD Imm w w' f b:=by
  intro ws' f ht hfp b hb
  rcases hI' b hb with (h | h) | ⟨hno,h⟩
  ·exact .inl h
  ·refine .inr ⟨h.1,h.2,fun hm=>?_⟩
   obtain ⟨q,hq,hbq⟩:=ht.live b hm
   exact (hown q hq b hbq).2.1 hb
  ·obtain ⟨q,hq,hbq⟩:=ht.live b (hfp hno b h)
   exact absurd hb (hown q hq b hbq).2.1
 have views:∀ {z:(fS ms a).D} {ws':List (Hd×aw)} {fpo:List Nat} {ps:List Hd} {cs:List Value} {y1:r.D},fr=false→sH P Imm' ms a w' vs z fpo→cT σ' st' [] ws' fpo→Cp (aq ws') ps=true→(∀ q∈ps,(aj st'.h q).live=true) →
   Rd P r (eT σ' Imm' ps) w' cs y1→Rd P r (CD Imm w w' fpo) w' cs y1:=by
  intro z ws' fpo ps cs y1 hfalse ho ht hd hps hrd
  have hno:xU ms=true:=by rw [hfalse] at hfr;simpa using hfr
  have hsame:=CZ ms hno hA ho
  refine hrd.imm fun b hb=>?_
  have hfar:∀ q∈ps,b∈(σ' q).fp→b ∉ fpo:=by
   intro q hq hbq hbo
   obtain ⟨ks,e,hk⟩:=ht.ks
   simp only [aq,List.append_nil] at e
   obtain ⟨p,hp,hbp⟩:=hk b hbo
   rw [← e] at hp
   exact R'.dj p q (fun e=>Bl hd p hp (e ▸ hq)) (ht.ok.key hp).1 (hps q hq) b hbp hbq
  rcases hb with hb | ⟨q,hq,hb⟩
  ·rcases hI' b hb with (h | h) | ⟨hno,h⟩
   ·exact .inl h
   ·refine .inr ⟨h.1,h.2,fun hm=>?_⟩
    obtain ⟨q,hq,hbq⟩:=ht.live b hm
    exact (hown q hq b hbq).2.1 hb
   ·obtain ⟨q,hq,hbq⟩:=ht.live b (by rw [← hsame];exact h)
    exact absurd hb (hown q hq b hbq).2.1
  ·have h8:=hown q (hps q hq) b hb
   have h9:=hfar q hq hb
   rcases h8.1 with h | h
   ·rw [hsame] at h;exact absurd h h9
   ·exact .inr ⟨h,h8.2.2,h9⟩
 cases one with
 | true =>
  have hone:fn.results.size=1:=by simpa using h5
  cases fr with
  | false =>
   simp only at g1
   split at g1
   ·rename_i v
    obtain ⟨u,rfl,hu⟩:=hv1 v rfl
    obtain ⟨ls,ws,m1,m2,m3,m4⟩:=gV hu g1
    obtain ⟨x',rest,os,w1,w2,n1,n2,n3,n4,n5,n6⟩:=ee R' m2 (by rw [m3];exact g3 v (by simp)) m1
    obtain ⟨e1,n1⟩:=le n1
    subst e1
    cases n3
    simp only [List.append_nil] at n2
    subst n2
    obtain ⟨z,ws',fpo,o1,o2,o3⟩:=back (dF.nil st') n1
    split at o1
    ·rename_i hd
     cases o1
     have hps:∀ q∈os,(aj st'.h q).live=true:=fun q hq=>by
      rcases n6.2 q hq with h | h
      ·cases h
      ·exact h
     exact fin (cs:=ws) (fpr:=[]) (by rw [hru];simp [jF,m4]) o2 (by simpa using o3.nd) (by simpa using o3.live) ⟨views rfl o2 o3 hd hps n5,rfl⟩
    ·cases o1
   ·cases g1
  | true =>
   simp only at g1
   split at g1
   ·rename_i v
    obtain ⟨u,rfl,hu⟩:=hv1 v rfl
    obtain ⟨ls,ws,m1,m2,m3,m4⟩:=gV hu g1
    obtain ⟨x',rest,ws',fpr,w1,w2,n1,n2,n3,n4,n5⟩:=d9 R' m2 (dF.nil st') m1
    obtain ⟨e1,n1⟩:=le n1
    subst e1
    cases n3
    simp only [List.append_nil] at n2
    subst n2
    obtain ⟨z,ws2,fpo,o1,o2,o3⟩:=back n5.ok n1
    cases o1
    have ht:=n5.trans R' o3
    exact fin (cs:=ws) (by rw [hru];simp [jF,m4]) o2 ht.nd ht.live (n4.imm (immOut ht (fun hno b hb=>List.mem_append_right _ (by rw [← CZ ms hno hA o2];exact hb))))
   ·cases g1
 | false =>
  have hone:¬ fn.results.size=1:=by simpa using h5
  have hne:¬ us.toArray.size=1:=by simpa [hus] using hone
  rw [dif_neg hne] at hru
  cases fr with
  | false =>
   simp only at g1
   obtain ⟨x',ps,cs,m1,m2,m3,m4⟩:=vK R' g2 g3 g1
   obtain ⟨z,ws',fpo,o1,o2,o3⟩:=back (dF.nil st') m1
   split at o1
   ·rename_i hd
    cases o1
    have hps:∀ q∈ps,(aj st'.h q).live=true:=fun q hq=>by
     rcases m4.2 q hq with h | h
     ·cases h
     ·exact h
    exact fin (cs:=cs) (fpr:=[]) (by rw [hru,m3];rfl) o2 (by simpa using o3.nd) (by simpa using o3.live) ⟨views rfl o2 o3 hd hps m2,rfl⟩
   ·cases o1
  | true =>
   simp only at g1
   obtain ⟨x',ws',cs,fpr,m1,m2,m3,m4⟩:=yl R' g2 (dF.nil st') g1
   obtain ⟨z,ws2,fpo,o1,o2,o3⟩:=back m4.ok m1
   cases o1
   have ht:=m4.trans R' o3
   exact fin (cs:=cs) (by rw [hru,m3];rfl) o2 ht.nd ht.live (m2.imm (immOut ht (fun hno b hb=>List.mem_append_right _ (by rw [← CZ ms hno hA o2];exact hb))))
end
end Go.Abs
