/- Part of a proof of FnExactDoOrder: see the row. -/
import Derived.Test.YtenadnbpibhmiaaGreatDoAbsCt
set_option linter.unusedVariables false
set_option linter.unusedSimpArgs false
namespace Go.Abs
open Go.RowKit
def sB:(ms:List Md)→(a:Ty)→a.D→Nat→List AV
 | .rd :: ms,.pair t a,x,i=>cT t x.1 [] (fun cs=>cU t cs) :: sB ms a x.2 (i + 1)
 | .nil :: ms,.pair _ a,x,i=>.leaf .nil :: sB ms a x.2 (i + 1)
 | .ptr :: ms,.pair _ a,x,i=>.leaf (.box (i,0) 0) :: sB ms a x.2 (i + 1)
 | .lent :: ms,.pair _ a,x,i=>.any :: sB ms a x.2 (i + 1)
 | .tk :: ms,.pair _ a,x,i=>.any :: sB ms a x.2 (i + 1)
 | _,_,_,_=>[]
def dR:List Md→List (List aw)
 | []=>[]
 | .ptr :: ms=>[.dead] :: dR ms
 | _ :: ms=>[] :: dR ms
def fE (ms:List Md) (a:Ty) (x:a.D) (n:Nat):St :=
 ⟨sB ms a x 0++List.replicate (n - (sB ms a x 0).length) .any,dR ms++List.replicate (n - (dR ms).length) []⟩
def jw {R:Type}:(ms:List Md)→(a:Ty)→a.D→Nat→St→(St→Option R)→Option R
 | .lent :: ms,.pair t a,x,i,st,κ=>nC st (.tmpO i 0 t) x.1 fun st=>jw ms a x.2 (i + 1) st κ
 | .tk :: ms,.pair t a,x,i,st,κ=>nC st (.tmpO i 0 t) x.1 fun st=>jw ms a x.2 (i + 1) st κ
 | .ptr :: ms,.pair t a,x,i,st,κ=>nC st (.box i 0 t) x.1 fun st=>jw ms a x.2 (i + 1) st κ
 | .rd :: ms,.pair _ a,x,i,st,κ=>jw ms a x.2 (i + 1) st κ
 | .nil :: ms,.pair _ a,x,i,st,κ=>jw ms a x.2 (i + 1) st κ
 | _,_,_,_,st,κ=>κ st
def jr {R:Type} (st:St):(ms:List Md)→(a:Ty)→Nat→List (Hd×aw)→((fQ ms a).D→List (Hd×aw)→Option R)→Option R
 | .lent :: ms,.pair t a,i,ws,κ=>qa st (.tmpO i 0 t) ws fun x ws=>jr st ms a (i + 1) ws fun z ws=>κ (x,z) ws
 | .ptr :: ms,.pair t a,i,ws,κ=>qa st (.box i 0 t) ws fun x ws=>jr st ms a (i + 1) ws fun z ws=>κ (x,z) ws
 | .rd :: ms,.pair _ a,i,ws,κ=>jr st ms a (i + 1) ws κ
 | .nil :: ms,.pair _ a,i,ws,κ=>jr st ms a (i + 1) ws κ
 | .tk :: ms,.pair _ a,i,ws,κ=>jr st ms a (i + 1) ws κ
 | [],.unit,_,ws,κ=>κ () ws
 | _,_,_,_,_=>none
def Ub (T:Tab) (ms:List Md) (a:Ty) (one fresh:Bool) (rvs:List ResultVar) (r:Ty) (e:Ex) (st:St):Option (r.D×(fQ ms a).D) :=
 match e with
 | .exit _=>none
 | _=>ya T st rvs fun vs=>match one,fresh with
  | true,false=>match vs with
   | [v]=>gO r v fun cs=>bz st.h r cs [] fun x rest os=>jD rest (jr st ms a 0 [] fun z ws=>match Cc (aq ws) os with
    | true=>some (x,z)
    | false=>none)
   | _=>none
  | true,true=>match vs with
   | [v]=>gO r v fun cs=>bN st.h r cs [] fun x rest ws=>jD rest (jr st ms a 0 ws fun z _=>some (x,z))
   | _=>none
  | false,false=>np st.h r vs [] fun x os=>jr st ms a 0 [] fun z ws=>match Cc (aq ws) os with
   | true=>some (x,z)
   | false=>none
  | false,true=>jv st.h r vs [] fun x ws=>jr st ms a 0 ws fun z _=>some (x,z)
section
variable {P:Program} {E:Env}
def Uy (ms:List Md) (vs:List Value) (i:Nat):aS :=
 match ms[i]?,vs[i]? with
 | some .ptr,some (.pointer (some a))=>⟨undef,a.block,[a.block]⟩
 | _,_=>⟨undef,0,[]⟩
theorem Pd {ms:List Md}:∀ {a:Ty} {w:World} {Imm:Nat→Prop} {vs:List Value} {x:a.D} {fp:List Nat} {i:Nat},oP P Imm ms a w vs x fp→(sB ms a x i).length=ms.length∧vs.length=ms.length:=by
 induction ms with
 | nil=>intro a w Imm vs x fp i h;cases a <;> first | exact h.elim | exact ⟨rfl,by rw [h.1];rfl⟩
 | cons m ms ih =>
  intro a w Imm vs x fp i h
  cases a with
  | pair t u =>
   cases m with
   | rd=>obtain ⟨cs,r,e,_,h⟩:=h;subst e;have:=ih (i:=i + 1) h;simp [sB,this.1,this.2]
   | nil=>cases t <;> first | exact h.elim | (obtain ⟨r,e,h⟩:=h;subst e;have:=ih (i:=i + 1) h;simp [sB,this.1,this.2])
   | lent=>obtain ⟨cs,r,f1,f2,e,_,_,h⟩:=h;subst e;have:=ih (i:=i + 1) h;simp [sB,this.1,this.2]
   | tk=>obtain ⟨cs,r,f1,f2,e,_,_,h⟩:=h;subst e;have:=ih (i:=i + 1) h;simp [sB,this.1,this.2]
   | ptr=>obtain ⟨b,c,ty,r,f2,e,_,_,_,h⟩:=h;subst e;have:=ih (i:=i + 1) h;simp [sB,this.1,this.2]
  | _=>cases m <;> exact h.elim
theorem Bg (ms:List Md):(dR ms).length=ms.length:=by
 induction ms with
 | nil=>rfl
 | cons m ms ih=>cases m <;> simp [dR,ih]
theorem Bh (ms:List Md) (i:Nat):bx (dR ms) i=match ms[i]? with | some .ptr=>[.dead] | _=>[]:=by
 induction ms generalizing i with
 | nil=>simp [dR,bx]
 | cons m ms ih=>cases i with
  | zero=>cases m <;> simp [dR,bx]
  | succ i=>cases m <;> simp [dR,bx,ih]
theorem yg (ms:List Md) (a:Ty) (x:a.D) (n:Nat) (q:Hd):aj (fE ms a x n).h q=.none∨(aj (fE ms a x n).h q=.dead∧q.2=0∧ms[q.1]?=some .ptr):=by
 unfold aj fE
 simp only
 have:bx (dR ms++List.replicate (n - (dR ms).length) []) q.1=[]∨(bx (dR ms++List.replicate (n - (dR ms).length) []) q.1=[.dead]∧ms[q.1]?=some .ptr):=by
  rcases Nat.lt_or_ge q.1 (dR ms).length with h | h
  ·have e:bx (dR ms++List.replicate (n - (dR ms).length) []) q.1=bx (dR ms) q.1:=by
    rw [iX,iX,List.getD_eq_getElem?_getD,List.getD_eq_getElem?_getD,List.getElem?_append_left h]
   rw [e,Bh]
   split
   ·exact .inr ⟨rfl,by assumption⟩
   ·exact .inl rfl
  ·left
   rw [iX,List.getD_eq_getElem?_getD,List.getElem?_append_right h,List.getElem?_replicate]
   split <;> rfl
 rcases this with h | ⟨h,h2⟩
 ·left;rw [h];rfl
 ·rw [h]
  obtain ⟨q1,q2⟩:=q
  cases q2 with
  | zero=>right;exact ⟨rfl,rfl,h2⟩
  | succ q2=>left;simp [gk]
theorem Tm {σ:Hd→aS} {w:World} {Imm:Nat→Prop}:∀ (ms:List Md) {a:Ty} {vs:List Value} {x:a.D} {fp:List Nat} {i:Nat},oP P Imm ms a w vs x fp →
  (∀ k b,ms[k]?=some .ptr→vs[k]?=some (.pointer (some ⟨b,0,none⟩))→(σ (i + k,0)).b=b)→rj P σ Imm w (sB ms a x i) vs:=by
 intro ms
 induction ms with
 | nil=>intro a vs x fp i h _;cases a <;> first | exact h.elim | exact h.1
 | cons m ms ih =>
  intro a vs x fp i h hσ
  have hσ':∀ (r:List Value) (v:Value),vs=v :: r→∀ k b,ms[k]?=some .ptr→r[k]?=some (.pointer (some ⟨b,0,none⟩))→(σ (i + 1 + k,0)).b=b:=by
   intro r v e k b h1 h2
   have:=hσ (k + 1) b (by simpa using h1) (by rw [e];simpa using h2)
   rwa [show i + (k + 1)=i + 1 + k by omega] at this
  cases a with
  | pair t u =>
   cases m with
   | rd =>
    obtain ⟨cs,r,e,h1,h⟩:=h
    refine ⟨_,r,e,?_,ih h (hσ' r _ e)⟩
    rw [aO]
    exact eH h1.cells h1.length
   | nil=>cases t <;> first | exact h.elim | (obtain ⟨r,e,h⟩:=h;exact ⟨_,r,e,rfl,ih h (hσ' r _ e)⟩)
   | lent=>obtain ⟨cs,r,f1,f2,e,_,_,h⟩:=h;exact ⟨_,r,e,trivial,ih h (hσ' r _ e)⟩
   | tk=>obtain ⟨cs,r,f1,f2,e,_,_,h⟩:=h;exact ⟨_,r,e,trivial,ih h (hσ' r _ e)⟩
   | ptr =>
    obtain ⟨b,c,ty,r,f2,e,_,_,_,h⟩:=h
    refine ⟨_,r,e,?_,ih h (hσ' r _ e)⟩
    have:=hσ 0 b rfl (by rw [e];rfl)
    rw [Nat.add_zero] at this
    show _=_
    rw [this]
  | _=>cases m <;> exact h.elim
theorem Tn:∀ (ms:List Md) {a:Ty} {x:a.D} {i:Nat} (k:Nat) (v:AV),(sB ms a x i)[k]?=some v→∀ q∈v.hds,q=(i + k,0)∧ms[k]?=some .ptr:=by
 intro ms
 induction ms with
 | nil=>intro a x i k v h;cases a <;> simp [sB] at h
 | cons m ms ih =>
  intro a x i k v h q hq
  cases a with
  | pair t u =>
   cases k with
   | zero =>
    cases m <;> simp only [sB,List.getElem?_cons_zero,Option.some.injEq] at h <;> subst h
    ·rw [aO,eI,cQ] at hq;cases hq
    ·cases hq
    ·cases hq
    ·cases hq
    ·simp only [AV.hds,Leaf.hds,List.mem_singleton] at hq
     exact ⟨hq,rfl⟩
   | succ k =>
    have h':(sB ms u x.2 (i + 1))[k]?=some v:=by cases m <;> simpa [sB] using h
    have:=ih k v h' q hq
    exact ⟨by rw [this.1,show i + (k + 1)=i + 1 + k by omega],by simpa using this.2⟩
  | _=>cases m <;> simp [sB] at h
theorem QF {σ:Hd→aS} {Imm:Nat→Prop} {w:World} {ms:List Md} {a:Ty} {x:a.D} {us:List Value} {fp:List Nat} {n:Nat} (h:oP P Imm ms a w us x fp)
  (hσ:∀ k b,ms[k]?=some .ptr→us[k]?=some (.pointer (some ⟨b,0,none⟩))→(σ (k,0)).b=b) (hn:ms.length≤n) (hI:∀ b,Imm b→b < w.heap.size) (M:Nat→Prop) :
  Rel P M w σ Imm (fE ms a x n) { tmps:=us.toArray++Array.replicate (n - us.toArray.size) undef,defers:=[] } w:=by
 obtain ⟨hl1,hl2⟩:=Pd (i:=0) h
 have hav:=Tm (σ:=σ) (i:=0) ms h (fun k b h1 h2=>by rw [Nat.zero_add];exact hσ k b h1 h2)
 have hget:∀ i,(∃ v,(sB ms a x 0)[i]?=some v∧cY (fE ms a x n).t i=v)∨cY (fE ms a x n).t i=.any:=by
  intro i
  simp only [fE,vk,List.getD_eq_getElem?_getD]
  rcases Nat.lt_or_ge i (sB ms a x 0).length with h1 | h1
  ·left
   rw [List.getElem?_append_left h1,List.getElem?_eq_getElem h1]
   exact ⟨_,rfl,rfl⟩
  ·right
   rw [List.getElem?_append_right h1,List.getElem?_replicate]
   split <;> rfl
 have hnl:∀ q,(aj (fE ms a x n).h q).live=false:=fun q=>by
  rcases yg ms a x n q with h | ⟨h,_⟩ <;> rw [h] <;> rfl
 refine ⟨by simp [fE,hl1,hl2],by simp [fE,hl1,Bg],rfl,fun i=>?_,fun o=>?_,fun i=>?_,fun o ro ls e=>?_,fun o ho=>?_,fun o o' hne h1 h2=>?_,hI,bh.refl _ w⟩
 ·rcases hget i with ⟨v,h1,h2⟩ | h1
  ·obtain ⟨u,h3,h4⟩:=hav.get h1
   have:({ tmps:=us.toArray++Array.replicate (n - us.toArray.size) undef,defers:=[] }:Act).tmps.getD i undef=u:=by
    simp only [Array.getD_eq_getD_getElem?]
    rw [Array.getElem?_append_left (by have:=(List.getElem?_eq_some_iff.1 h3).1;simpa using this)]
    simp [h3]
   rw [this,h2];exact h4
  ·rw [h1];trivial
 ·rcases yg ms a x n o with h | ⟨h,_⟩ <;> rw [h] <;> trivial
 ·rcases hget i with ⟨v,h1,h2⟩ | h1
  ·rw [h2]
   intro q hq
   obtain ⟨e,hp⟩:=Tn ms i v h1 q hq
   subst e
   rw [Nat.zero_add]
   have hs:bx (fE ms a x n).h i=[.dead]:=by
    unfold fE
    simp only
    have hi:i < (dR ms).length:=by rw [Bg];exact (List.getElem?_eq_some_iff.1 hp).1
    have e:bx (dR ms++List.replicate (n - (dR ms).length) []) i=bx (dR ms) i:=by
     rw [iX,iX,List.getD_eq_getElem?_getD,List.getD_eq_getElem?_getD,List.getElem?_append_left hi]
    rw [e,Bh,hp]
   unfold aj
   simp only
   rw [hs]
   rfl
  ·rw [h1];exact aA
 ·have:=hnl o;rw [e] at this;cases this
 ·have:=hnl o;rw [ho] at this;cases this
 ·have:=hnl o;rw [h1] at this;cases this
theorem Pe {R:Type} {r0:R} {M:Nat→Prop} {w0 w:World} {Imm:Nat→Prop} {act:Act} {σb:Hd→aS}:∀ (ms:List Md) {a:Ty} {σ:Hd→aS} {st:St} {vs:List Value} {x:a.D} {fp:List Nat} {i:Nat} {κ:St→Option R},
  Rel P M w0 σ Imm st act w→(∀ q,(aj st.h q).live=false→σ q=σb q)→oP P Imm ms a w vs x fp→(∀ k v,vs[k]?=some v→act.tmps.getD (i + k) undef=v) →
  (∀ k b,ms[k]?=some .ptr→vs[k]?=some (.pointer (some ⟨b,0,none⟩))→(σb (i + k,0))=⟨undef,b,[b]⟩)→fp.Nodup→(∀ b∈fp,Ig M w0 σ Imm st b)→jw ms a x i st κ=some r0 →
  ∃ T' σ',κ T'=some r0∧CD P M w0 σ σ' Imm st T' act w fp:=by
 intro ms
 induction ms with
 | nil =>
  intro a σ st vs x fp i κ R0 hσ h ht hp hn hf hk
  cases a <;> first | exact h.elim | skip
  rw [h.2]
  exact ⟨st,σ,by simpa [jw] using hk,CD.refl R0⟩
 | cons m ms ih =>
  intro a σ st vs x fp i κ R0 hσ h ht hp hn hf hk
  have hp':∀ (r:List Value) (v:Value),vs=v :: r→∀ k b,ms[k]?=some .ptr→r[k]?=some (.pointer (some ⟨b,0,none⟩))→(σb (i + 1 + k,0))=⟨undef,b,[b]⟩:=by
   intro r v e k b h1 h2
   have:=hp (k + 1) b (by simpa using h1) (by rw [e];simpa using h2)
   rwa [show i + (k + 1)=i + 1 + k by omega] at this
  have ht':∀ (r:List Value) (v:Value),vs=v :: r→∀ k u,r[k]?=some u→act.tmps.getD (i + 1 + k) undef=u:=by
   intro r v e k u h1
   have:=ht (k + 1) u (by rw [e];simpa using h1)
   rwa [show i + (k + 1)=i + 1 + k by omega] at this
  cases a with
  | pair t u =>
   have two:∀ {p:Place} {y:p.ty.D} {f1 f2:List Nat} {r:List Value} {v:Value},p.caps=[]→vs=v :: r→fp=f1++f2→MA P σb Imm act w p y f1→oP P Imm ms u w r x.2 f2 →
     (nC st p y fun st=>jw ms u x.2 (i + 1) st κ)=some r0→∃ T' σ',κ T'=some r0∧CD P M w0 σ σ' Imm st T' act w fp:=by
    intro p y f1 f2 r v hcap ev ef hpf hr hk
    subst ef
    obtain ⟨n1,n2,n3⟩:=List.nodup_append.1 hn
    obtain ⟨T1,σ1,h1,t1⟩:=oS R0 hσ hpf n1 (fun b hb=>hf b (by simp [hb])) (fun q hq=>by rw [hcap] at hq;cases hq) hk
    obtain ⟨T2,σ2,h2,t2⟩:=ih t1.rel (fun q hq=>(t1.sg q hq).trans (hσ q (t1.dead q hq))) hr (ht' r v ev) (hp' r v ev) n2 (fun b hb=>by
     have hfb:=hf b (by simp [hb])
     refine ⟨hfb.1,hfb.2.1,fun q hq=>?_⟩
     rcases t1.lv q hq with ⟨l1,l2⟩ | l
     ·rw [l2];exact hfb.2.2 q l1
     ·exact fun hb2=>n3 b (l b hb2) b hb rfl) h1
    exact ⟨T2,σ2,h2,t1.trans t2⟩
   cases m with
   | rd=>obtain ⟨cs,r,e,_,h⟩:=h;exact ih R0 hσ h (ht' r _ e) (hp' r _ e) hn hf (by simpa [jw] using hk)
   | nil=>cases t <;> first | exact h.elim | (obtain ⟨r,e,h⟩:=h;exact ih R0 hσ h (ht' r _ e) (hp' r _ e) hn hf (by simpa [jw] using hk))
   | lent =>
    obtain ⟨cs,r,f1,f2,e,ef,h1,h⟩:=h
    refine two (p:=.tmpO i 0 t) (y:=x.1) rfl e ef ⟨cs,h1,?_⟩ h (by simpa [jw] using hk)
    have:=ht 0 _ (by rw [e];rfl)
    rwa [Nat.add_zero] at this
   | tk =>
    obtain ⟨cs,r,f1,f2,e,ef,h1,h⟩:=h
    refine two (p:=.tmpO i 0 t) (y:=x.1) rfl e ef ⟨cs,h1,?_⟩ h (by simpa [jw] using hk)
    have:=ht 0 _ (by rw [e];rfl)
    rwa [Nat.add_zero] at this
   | ptr =>
    obtain ⟨b,c,ty,r,f2,e,ef,h1,h2,h⟩:=h
    have hb:=hp 0 b rfl (by rw [e];rfl)
    rw [Nat.add_zero] at hb
    exact two (p:=.box i 0 t) (y:=x.1) (f1:=[b]) rfl e ef ⟨c,ty,by rw [hb];exact h1,h2,by rw [hb],by rw [hb]⟩ h (by simpa [jw] using hk)
  | _=>cases m <;> exact h.elim
theorem QG {R:Type} {r:R} {M:Nat→Prop} {w0 w:World} {Imm:Nat→Prop} {σ:Hd→aS} {st:St} {act:Act} (R0:Rel P M w0 σ Imm st act w):∀ (ms:List Md) {a:Ty} {vs:List Value} {i:Nat} {ws:List (Hd×aw)} {κ:(fQ ms a).D→List (Hd×aw)→Option R},
  dF st ws→vs.length=ms.length→(∀ k v,ms[k]?=some Md.lent→vs[k]?=some v→act.tmps.getD (i + k) undef=v) →
  (∀ k,ms[k]?=some .ptr→∃ b,vs[k]?=some (.pointer (some ⟨b,0,none⟩))∧(σ (i + k,0)).b=b)→jr st ms a i ws κ=some r →
  ∃ z ws' fp,κ z ws'=some r∧sA P Imm ms a w vs z fp∧cS σ st ws ws' fp:=by
 intro ms
 induction ms with
 | nil =>
  intro a vs i ws κ hw hl ht hp hk
  cases a <;> simp only [jr,reduceCtorEq] at hk
  exact ⟨(),ws,[],hk,⟨List.eq_nil_of_length_eq_zero hl,rfl⟩,cS.refl hw⟩
 | cons m ms ih =>
  intro a vs i ws κ hw hl ht hp hk
  obtain ⟨v,vs,rfl⟩:∃ v r,vs=v :: r:=by cases vs with | nil=>simp at hl | cons v r=>exact ⟨v,r,rfl⟩
  have hl':vs.length=ms.length:=by simpa using hl
  have ht':∀ k u,ms[k]?=some Md.lent→vs[k]?=some u→act.tmps.getD (i + 1 + k) undef=u:=fun k u h0 h1=>by
   have:=ht (k + 1) u (by simpa using h0) (by simpa using h1)
   rwa [show i + (k + 1)=i + 1 + k by omega] at this
  have hp':∀ k,ms[k]?=some .ptr→∃ b,vs[k]?=some (.pointer (some ⟨b,0,none⟩))∧(σ (i + 1 + k,0)).b=b:=fun k h1=>by
   obtain ⟨b,h2,h3⟩:=hp (k + 1) (by simpa using h1)
   exact ⟨b,by simpa using h2,by rwa [show i + (k + 1)=i + 1 + k by omega] at h3⟩
  cases a with
  | pair t u =>
   cases m with
   | rd=>obtain ⟨z,ws',fp,h1,h2,h3⟩:=ih hw hl' ht' hp' (by simpa [jr] using hk);exact ⟨z,ws',fp,h1,⟨v,vs,rfl,h2⟩,h3⟩
   | nil=>obtain ⟨z,ws',fp,h1,h2,h3⟩:=ih hw hl' ht' hp' (by simpa [jr] using hk);exact ⟨z,ws',fp,h1,⟨v,vs,rfl,h2⟩,h3⟩
   | tk=>obtain ⟨z,ws',fp,h1,h2,h3⟩:=ih hw hl' ht' hp' (by simpa [jr] using hk);exact ⟨z,ws',fp,h1,⟨v,vs,rfl,h2⟩,h3⟩
   | lent =>
    simp only [jr] at hk
    obtain ⟨x,ws1,f1,h1,h2,h3⟩:=kP R0 (p:=.tmpO i 0 t) hw hk
    obtain ⟨z,ws2,f2,k1,k2,k3⟩:=ih h3.ok hl' ht' hp' h1
    obtain ⟨cs,h4,h5⟩:=h2
    have hv:act.tmps.getD i undef=v:=by have:=ht 0 v rfl rfl;rwa [Nat.add_zero] at this
    exact ⟨(x,z),ws2,f1++f2,k1,⟨cs,vs,f1,f2,by rw [← h5,hv],rfl,h4,k2⟩,h3.trans R0 k3⟩
   | ptr =>
    simp only [jr] at hk
    obtain ⟨x,ws1,f1,h1,h2,h3⟩:=kP R0 (p:=.box i 0 t) hw hk
    obtain ⟨z,ws2,f2,k1,k2,k3⟩:=ih h3.ok hl' ht' hp' h1
    obtain ⟨c,ty,h4,h5,h6,h7⟩:=h2
    obtain ⟨b,hb1,hb2⟩:=hp 0 rfl
    rw [Nat.add_zero] at hb2
    simp only [List.getElem?_cons_zero,Option.some.injEq] at hb1
    rw [hb2] at h4 h6
    exact ⟨(x,z),ws2,f1++f2,k1,⟨b,c,ty,vs,f2,by rw [hb1],by rw [h6];rfl,h4,h5,k2⟩,h3.trans R0 k3⟩
  | _=>cases m <;> simp [jr] at hk
theorem cS.live {σ:Hd→aS} {st:St} {ws:List (Hd×aw)} {fp:List Nat} (h:cS σ st [] ws fp):∀ b∈fp,∃ q,(aj st.h q).live=true∧b∈(σ q).fp:=by
 intro b hb
 obtain ⟨ks,e,hk⟩:=h.ks
 simp only [aq,List.append_nil] at e
 obtain ⟨q,hq,hbq⟩:=hk b hb
 rw [← e] at hq
 exact ⟨q,(h.ok.key hq).1,hbq⟩
def To:Md→Bool
 | .lent=>true
 | _=>false
def Rt (k:Nat):List Nat→Bool
 | []=>true
 | d :: r=>!Nat.beq k d && Rt k r
def uj:List Md→Nat→List Nat→Bool
 | [],_,_=>true
 | m :: ms,k,ds=>(!To m || Rt k ds) && uj ms (k + 1) ds
theorem It {k:Nat}:∀ {l:List Nat},Rt k l=true→k ∉ l
 | [],_,h=>by cases h
 | a :: l,h,hd=>by
  simp only [Rt,Bool.and_eq_true,Bool.not_eq_true'] at h
  rcases List.mem_cons.1 hd with rfl | hd
  ·simp at h
  ·exact It h.2 hd
theorem AM:∀ {ms:List Md} {i:Nat} {ds:List Nat},uj ms i ds=true→∀ k,ms[k]?=some Md.lent→i + k ∉ ds
 | [],_,_,_,k,hk=>by simp at hk
 | m :: ms,i,ds,h,0,hk=>by
  simp only [uj,Bool.and_eq_true] at h
  simp only [List.getElem?_cons_zero,Option.some.injEq] at hk
  subst hk
  exact It (by simpa [To] using h.1)
 | m :: ms,i,ds,h,k + 1,hk=>by
  simp only [uj,Bool.and_eq_true] at h
  have:=AM h.2 k (by simpa using hk)
  rwa [show i + 1 + k=i + (k + 1) by omega] at this
def ME (fn:Func) (one:Bool) (ms:List Md):Bool :=
 match fn.body with
 | some c=>AF fn.ntmps (b8 c) && uj ms 0 (b8 c) && Nat.ble ms.length fn.ntmps && (one == Nat.beq fn.results.size 1) && fn.name != "runtime.NumGoroutine"
 | none=>false
theorem QH {f:FuncId} {fn:Func} {body:Code} {one:Bool} {ms:List Md} (hf:P.funcs[f]?=some fn) (hb:fn.body=some body) (h:ME fn one ms=true) :
  fe P f∧AF fn.ntmps (b8 body)=true∧uj ms 0 (b8 body)=true∧ms.length≤fn.ntmps∧one=decide (fn.results.size=1):=by
 unfold ME at h
 rw [hb] at h
 simp only [Bool.and_eq_true,beq_iff_eq] at h
 obtain ⟨⟨⟨⟨h1,h0⟩,h2⟩,h3⟩,h4⟩:=h
 refine ⟨by unfold fe;rw [hf];simp only [Option.any_some,hb,Option.isSome_some,Bool.true_and];exact h4,h1,h0,Nat.le_of_ble_eq_true h2,?_⟩
 rw [h3]
 by_cases e:fn.results.size=1
 ·simp [e]
 ·rw [decide_eq_false e]
  cases hb:Nat.beq fn.results.size 1 with
  | false=>rfl
  | true=>exact absurd (Nat.eq_of_beq_eq_true hb) e
theorem CM {I J:Nat→Prop} {w w':World}:∀ (ms:List Md) {a:Ty} {vs:List Value} {x:a.D} {z:(fQ ms a).D} {f g:List Nat},xN ms=true→oP P I ms a w vs x f→sA P J ms a w' vs z g→f=g:=by
 intro ms
 induction ms with
 | nil=>intro a vs x z f g _ h k;cases a <;> first | exact h.elim | (rw [h.2,k.2])
 | cons m ms ih =>
  intro a vs x z f g hn h k
  cases a with
  | pair t u =>
   cases m with
   | rd=>obtain ⟨cs,r,e,_,h⟩:=h;obtain ⟨v,r',e',k⟩:=k;rw [e] at e';cases e';exact ih hn h k
   | nil=>cases t <;> first | exact h.elim | (obtain ⟨r,e,h⟩:=h;obtain ⟨v,r',e',k⟩:=k;rw [e] at e';cases e';exact ih hn h k)
   | lent=>cases hn
   | tk=>cases hn
   | ptr =>
    obtain ⟨b,c,ty,r,f2,e,ef,_,_,h⟩:=h
    obtain ⟨b',c',ty',r',g2,e',eg,_,_,k⟩:=k
    rw [e] at e'
    simp only [List.cons.injEq,Value.pointer.injEq,Option.some.injEq,Addr.mk.injEq,and_true,true_and] at e'
    obtain ⟨rfl,rfl⟩:=e'
    rw [ef,eg,ih hn h k]
  | _=>cases m <;> exact h.elim
theorem Uc:∀ (ms:List Md) {a:Ty} {I:Nat→Prop} {w:World} {vs:List Value} {x:a.D} {f:List Nat},oP P I ms a w vs x f→∀ k:Nat,ms[k]?=some Md.ptr→∃ b:Nat,vs[k]?=some (Value.pointer (some ⟨b,0,none⟩)):=by
 intro ms
 induction ms with
 | nil=>intro a I w vs x f _ k hk;simp at hk
 | cons m ms ih =>
  intro a I w vs x f h k hk
  cases a with
  | pair t u =>
   have next:∀ {v:Value} {r:List Value} {f2:List Nat},vs=v :: r→oP P I ms u w r x.2 f2→∀ k':Nat,k=k' + 1→∃ b:Nat,vs[k]?=some (Value.pointer (some ⟨b,0,none⟩)):=by
    intro v r f2 e h k' ek
    subst ek
    obtain ⟨b,hb⟩:=ih h k' (by simpa using hk)
    exact ⟨b,by rw [e];simpa using hb⟩
   cases m with
   | rd=>obtain ⟨cs,r,e,_,h⟩:=h;cases k with | zero=>simp at hk | succ k=>exact next e h k rfl
   | nil=>cases t <;> first | exact h.elim | (obtain ⟨r,e,h⟩:=h;cases k with | zero=>simp at hk | succ k=>exact next e h k rfl)
   | lent=>obtain ⟨cs,r,f1,f2,e,_,_,h⟩:=h;cases k with | zero=>simp at hk | succ k=>exact next e h k rfl
   | tk=>obtain ⟨cs,r,f1,f2,e,_,_,h⟩:=h;cases k with | zero=>simp at hk | succ k=>exact next e h k rfl
   | ptr =>
    obtain ⟨b,c,ty,r,f2,e,_,_,_,h⟩:=h
    cases k with
    | zero=>exact ⟨b,by rw [e];rfl⟩
    | succ k=>exact next e h k rfl
  | _=>cases m <;> exact h.elim
theorem Ud (hE:aE P E) (hm:P.follows .mixedOrders=true) {f:FuncId} {fn:Func} {body:Code} {ms:List Md} (hz:(!E.Z || xN ms)=true) {one fr:Bool} {a r:Ty} {F:a.D→Option (r.D×(fQ ms a).D)} (hs:Hints)
  (hf:P.funcs[f]?=some fn) (hb:fn.body=some body) (hok:ME fn one ms=true) (hfr:(fr || xN ms)=true)
  (hev:∀ x,(jw ms a x 0 (fE ms a x fn.ntmps) fun st=>ev E body hs st (Ub E.T ms a one fr fn.results.toList r))=F x):fB P f (.mut ms one fr a r F):=by
 obtain ⟨h1,h2,h3,h4,h5⟩:=QH hf hb hok
 refine ⟨h1,fun Imm w vs x fp y hnI hIl hnd hA hF=>?_⟩
 obtain ⟨hl1,hl2⟩:=Pd (i:=0) hA
 have hptr:=Uc ms hA
 let σ0:Hd→aS:=fun q=>Uy ms vs q.1
 have hσ0:∀ k b,ms[k]?=some .ptr→vs[k]?=some (.pointer (some ⟨b,0,none⟩))→σ0 (k,0)=⟨undef,b,[b]⟩:=fun k b g1 g2=>by
  simp only [σ0,Uy,g1,g2]
 let act:Act:={ tmps:=vs.toArray++Array.replicate (fn.ntmps - vs.toArray.size) undef,defers:=[] }
 have hact:∀ k v,vs[k]?=some v→act.tmps.getD k undef=v:=by
  intro k v hk
  have hlt:=(List.getElem?_eq_some_iff.1 hk).1
  simp only [act,Array.getD_eq_getD_getElem?]
  rw [Array.getElem?_append_left (by simpa using hlt)]
  simp [hk]
 let M:Nat→Prop:=fun b=>b∈fp
 have R0:Rel P M w σ0 Imm (fE ms a x fn.ntmps) act w:=QF hA (fun k b g1 g2=>by rw [hσ0 k b g1 g2]) h4 hIl M
 have hnl:∀ q,(aj (fE ms a x fn.ntmps).h q).live=false:=fun q=>by
  rcases yg ms a x fn.ntmps q with h | ⟨h,_⟩ <;> rw [h] <;> rfl
 have hrun:=(hev x).trans hF
 obtain ⟨T,σ1,k1,k2⟩:=Pe ms R0 (fun q _=>rfl) hA (i:=0) (fun k v hk=>by rw [Nat.zero_add];exact hact k v hk) (fun k b g1 g2=>by rw [Nat.zero_add];exact hσ0 k b g1 g2) hnd
  (fun b hb=>⟨hnI b hb,.inr hb,fun q hq=>by rw [hnl q] at hq;cases hq⟩) hrun
 refine calls_of_wp hf hb ?_
 have hlen:T.t.length=fn.ntmps:=by rw [k2.len];simp [fE,hl1];omega
 refine wp_mono ((CL (M:=M) (Fz:=fun b=>xN ms=true∧(w.heap.size≤b∨b∈fp)) (w0:=w) hE hm (fun h b hb=>⟨by rw [h] at hz;simpa using hz,hb⟩) body hs).use k2.rel (fun d hdm=>by rw [hlen];exact rs h2 d hdm) k1) fun e' a' w' hp=>?_
 obtain ⟨e,st',σ',Imm',rfl,h6,R',ev',hl,hun⟩:=hp
 have hpar:∀ k v,ms[k]?=some Md.lent→vs[k]?=some v→a'.tmps.getD k undef=v:=by
  intro k v hl hk
  rw [hun k (by have:=AM h3 k hl;rwa [Nat.zero_add] at this)]
  exact hact k v hk
 have hpt:∀ k,ms[k]?=some .ptr→∃ b,vs[k]?=some (.pointer (some ⟨b,0,none⟩))∧(σ' (k,0)).b=b:=by
  intro k hk
  obtain ⟨b,hb⟩:=hptr k hk
  refine ⟨b,hb,?_⟩
  have ht:(aj (fE ms a x fn.ntmps).h (k,0)).there=true:=by
   have hs:bx (fE ms a x fn.ntmps).h k=[.dead]:=by
    unfold fE
    simp only
    have hi:k < (dR ms).length:=by rw [Bg];exact (List.getElem?_eq_some_iff.1 hk).1
    have e:bx (dR ms++List.replicate (fn.ntmps - (dR ms).length) []) k=bx (dR ms) k:=by
     rw [iX,iX,List.getD_eq_getElem?_getD,List.getD_eq_getElem?_getD,List.getElem?_append_left hi]
    rw [e,Bh,hk]
   unfold aj
   simp only
   rw [hs]
   rfl
  rw [(ev'.goes.sg (k,0) (k2.there _ ht)).2,(k2.sgt _ ht).2,hσ0 k b hk hb]
 have hI':∀ b,Imm' b→(Imm b∨(w.heap.size≤b∧b < w'.heap.size))∨(xN ms=true∧b∈fp):=fun b hb=>by
  rcases Nat.lt_or_ge b w.heap.size with h | h
  ·rcases ev'.nw b h hb with h1 | ⟨h1,h2⟩
   ·exact .inl (.inl h1)
   ·exact .inr ⟨h1,h2.elim (fun h2=>absurd h (Nat.not_lt.2 h2)) id⟩
  ·exact .inl (.inr ⟨h,R'.imm b hb⟩)
 have hown:∀ q,(aj st'.h q).live=true→∀ b∈(σ' q).fp,(b∈fp∨w.heap.size≤b)∧¬ Imm' b∧b < w'.heap.size:=fun q hq b hb=>by
  have:=(R'.nd q hq).2 b hb
  exact ⟨this.2.symm,this.1,R'.lt q hq b hb⟩
 have back:∀ {ws:List (Hd×aw)} {X:Type} {rr:X} {κ:(fQ ms a).D→List (Hd×aw)→Option X},dF st' ws→jr st' ms a 0 ws κ=some rr→∃ z ws' fpo,κ z ws'=some rr∧sA P Imm' ms a w' vs z fpo∧cS σ' st' ws ws' fpo:=by
  intro ws X rr κ hw hk
  exact QG R' ms (i:=0) hw hl2 (fun k v hl hk=>by rw [Nat.zero_add];exact hpar k v hl hk) (fun k hk=>by rw [Nat.zero_add];exact hpt k hk) hk
 have fin:∀ {cs:List Value} {fpr fpo:List Nat},(results fn a'.tmps).run P w'=.ok (jF one r cs) w'→sA P Imm' ms a w' vs y.2 fpo→(fpr++fpo).Nodup→(∀ b∈fpr++fpo,∃ q,(aj st'.h q).live=true∧b∈(σ' q).fp) →
   Qj P fr r (Cp Imm w w' (fpr++fpo)) w' cs y.1 fpr →
   a'.defers=[]∧∃ v,(results fn a'.tmps).run P w'=.ok v w'∧(bh (fun b=>b∈fp) w w'∧∃ cs' fpr fpo,Ending.returned v=.returned (jF one r cs') ∧
    Qj P fr r (Cp Imm w w' (fpr++fpo)) w' cs' y.1 fpr ∧
    sA P (Cp Imm w w' (fpr++fpo)) ms a w' vs y.2 fpo∧(fpr++fpo).Nodup∧∀ b∈fpr++fpo,b∈fp∨w.heap.size≤b):=by
  intro cs fpr fpo hr ho hn hlv hres
  refine ⟨R'.defers,_,hr,R'.keep,cs,fpr,fpo,rfl,hres,ho.imm (fun b hb=>?_) ms a,hn,fun b hb=>?_⟩
  ·rcases hI' b hb with (h | h) | ⟨hno,h⟩
   ·exact .inl h
   ·refine .inr ⟨h.1,h.2,fun hm=>?_⟩
    obtain ⟨q,hq,hbq⟩:=hlv b hm
    exact (hown q hq b hbq).2.1 hb
   ·obtain ⟨q,hq,hbq⟩:=hlv b (List.mem_append_right _ (by rw [← CM ms hno hA ho];exact h))
    exact absurd hb (hown q hq b hbq).2.1
  ·obtain ⟨q,hq,hbq⟩:=hlv b hb
   exact (hown q hq b hbq).1
 unfold Ub at h6
 have hex:e=.normal∨e=.ret:=by cases e with | exit _=>cases h6 | normal=>exact .inl rfl | ret=>exact .inr rfl
 suffices hmain:a'.defers=[]∧∃ v,(results fn a'.tmps).run P w'=.ok v w'∧(bh (fun b=>b∈fp) w w'∧∃ cs' fpr fpo,Ending.returned v=.returned (jF one r cs') ∧
    Qj P fr r (Cp Imm w w' (fpr++fpo)) w' cs' y.1 fpr ∧
    sA P (Cp Imm w w' (fpr++fpo)) ms a w' vs y.2 fpo∧(fpr++fpo).Nodup∧∀ b∈fpr++fpo,b∈fp∨w.heap.size≤b) by (rcases hex with rfl | rfl <;> exact hmain)
 have h7:(ya E.T st' fn.results.toList fun vs=>match one,fr with
  | true,false=>match vs with
   | [v]=>gO r v fun cs=>bz st'.h r cs [] fun x rest os=>jD rest (jr st' ms a 0 [] fun z ws=>match Cc (aq ws) os with
    | true=>some (x,z)
    | false=>none)
   | _=>none
  | true,true=>match vs with
   | [v]=>gO r v fun cs=>bN st'.h r cs [] fun x rest ws=>jD rest (jr st' ms a 0 ws fun z _=>some (x,z))
   | _=>none
  | false,false=>np st'.h r vs [] fun x os=>jr st' ms a 0 [] fun z ws=>match Cc (aq ws) os with
   | true=>some (x,z)
   | false=>none
  | false,true=>jv st'.h r vs [] fun x ws=>jr st' ms a 0 ws fun z _=>some (x,z))=some y:=by
  rcases hex with rfl | rfl <;> exact h6
 obtain ⟨rvs,us,g1,g2,g3,g4,g5⟩:=ru hE.1 R' h7
 have hru:=yd (fn:=fn) g4
 have hus:us.length=fn.results.size:=by rw [← g2.length,g5];simp
 have hv1:∀ v,rvs=[v]→∃ u,us=[u]∧AVR P σ' Imm' w' v u:=by
  rintro v rfl
  obtain ⟨u,r',e,h6,h7⟩:=g2
  cases (h7:r'=[])
  exact ⟨u,e,h6⟩
 have immOut:∀ {ws':List (Hd×aw)} {f:List Nat},cS σ' st' [] ws' f→(xN ms=true→∀ b∈fp,b∈f)→∀ b,Imm' b→Cp Imm w w' f b:=by
  intro ws' f ht hfp b hb
  rcases hI' b hb with (h | h) | ⟨hno,h⟩
  ·exact .inl h
  ·refine .inr ⟨h.1,h.2,fun hm=>?_⟩
   obtain ⟨q,hq,hbq⟩:=ht.live b hm
   exact (hown q hq b hbq).2.1 hb
  ·obtain ⟨q,hq,hbq⟩:=ht.live b (hfp hno b h)
   exact absurd hb (hown q hq b hbq).2.1
 have views:∀ {z:(fQ ms a).D} {ws':List (Hd×aw)} {fpo:List Nat} {ps:List Hd} {cs:List Value} {y1:r.D},fr=false→sA P Imm' ms a w' vs z fpo→cS σ' st' [] ws' fpo→Cc (aq ws') ps=true→(∀ q∈ps,(aj st'.h q).live=true) →
   Rd P r (eS σ' Imm' ps) w' cs y1→Rd P r (Cp Imm w w' fpo) w' cs y1:=by
  intro z ws' fpo ps cs y1 hfalse ho ht hd hps hrd
  have hno:xN ms=true:=by rw [hfalse] at hfr;simpa using hfr
  have hsame:=CM ms hno hA ho
  refine hrd.imm fun b hb=>?_
  have hfar:∀ q∈ps,b∈(σ' q).fp→b ∉ fpo:=by
   intro q hq hbq hbo
   obtain ⟨ks,e,hk⟩:=ht.ks
   simp only [aq,List.append_nil] at e
   obtain ⟨p,hp,hbp⟩:=hk b hbo
   rw [← e] at hp
   exact R'.dj p q (fun e=>Bb hd p hp (e ▸ hq)) (ht.ok.key hp).1 (hps q hq) b hbp hbq
  rcases hb with hb | ⟨q,hq,hb⟩
  ·rcases hI' b hb with (h | h) | ⟨hno,h⟩
   ·exact .inl h
   ·refine .inr ⟨h.1,h.2,fun hm=>?_⟩
    obtain ⟨q,hq,hbq⟩:=ht.live b hm
    exact (hown q hq b hbq).2.1 hb
   ·obtain ⟨q,hq,hbq⟩:=ht.live b (by rw [← hsame];exact h)
    exact absurd hb (hown q hq b hbq).2.1
  ·have h8:=hown q (hps q hq) b hb
   have h9:=hfar q hq hb
   rcases h8.1 with h | h
   ·rw [hsame] at h;exact absurd h h9
   ·exact .inr ⟨h,h8.2.2,h9⟩
 cases one with
 | true =>
  have hone:fn.results.size=1:=by simpa using h5
  cases fr with
  | false =>
   simp only at g1
   split at g1
   ·rename_i v
    obtain ⟨u,rfl,hu⟩:=hv1 v rfl
    obtain ⟨ls,ws,m1,m2,m3,m4⟩:=gV hu g1
    obtain ⟨x',rest,os,w1,w2,n1,n2,n3,n4,n5,n6⟩:=d9 R' m2 (by rw [m3];exact g3 v (by simp)) m1
    obtain ⟨e1,n1⟩:=la n1
    subst e1
    cases n3
    simp only [List.append_nil] at n2
    subst n2
    obtain ⟨z,ws',fpo,o1,o2,o3⟩:=back (dF.nil st') n1
    split at o1
    ·rename_i hd
     cases o1
     have hps:∀ q∈os,(aj st'.h q).live=true:=fun q hq=>by
      rcases n6.2 q hq with h | h
      ·cases h
      ·exact h
     exact fin (cs:=ws) (fpr:=[]) (by rw [hru];simp [jF,m4]) o2 (by simpa using o3.nd) (by simpa using o3.live) ⟨views rfl o2 o3 hd hps n5,rfl⟩
    ·cases o1
   ·cases g1
  | true =>
   simp only at g1
   split at g1
   ·rename_i v
    obtain ⟨u,rfl,hu⟩:=hv1 v rfl
    obtain ⟨ls,ws,m1,m2,m3,m4⟩:=gV hu g1
    obtain ⟨x',rest,ws',fpr,w1,w2,n1,n2,n3,n4,n5⟩:=d8 R' m2 (dF.nil st') m1
    obtain ⟨e1,n1⟩:=la n1
    subst e1
    cases n3
    simp only [List.append_nil] at n2
    subst n2
    obtain ⟨z,ws2,fpo,o1,o2,o3⟩:=back n5.ok n1
    cases o1
    have ht:=n5.trans R' o3
    exact fin (cs:=ws) (by rw [hru];simp [jF,m4]) o2 ht.nd ht.live (n4.imm (immOut ht (fun hno b hb=>List.mem_append_right _ (by rw [← CM ms hno hA o2];exact hb))))
   ·cases g1
 | false =>
  have hone:¬ fn.results.size=1:=by simpa using h5
  have hne:¬ us.toArray.size=1:=by simpa [hus] using hone
  rw [dif_neg hne] at hru
  cases fr with
  | false =>
   simp only at g1
   obtain ⟨x',ps,cs,m1,m2,m3,m4⟩:=vA R' g2 g3 g1
   obtain ⟨z,ws',fpo,o1,o2,o3⟩:=back (dF.nil st') m1
   split at o1
   ·rename_i hd
    cases o1
    have hps:∀ q∈ps,(aj st'.h q).live=true:=fun q hq=>by
     rcases m4.2 q hq with h | h
     ·cases h
     ·exact h
    exact fin (cs:=cs) (fpr:=[]) (by rw [hru,m3];rfl) o2 (by simpa using o3.nd) (by simpa using o3.live) ⟨views rfl o2 o3 hd hps m2,rfl⟩
   ·cases o1
  | true =>
   simp only at g1
   obtain ⟨x',ws',cs,fpr,m1,m2,m3,m4⟩:=ye R' g2 (dF.nil st') g1
   obtain ⟨z,ws2,fpo,o1,o2,o3⟩:=back m4.ok m1
   cases o1
   have ht:=m4.trans R' o3
   exact fin (cs:=cs) (by rw [hru,m3];rfl) o2 ht.nd ht.live (m2.imm (immOut ht (fun hno b hb=>List.mem_append_right _ (by rw [← CM ms hno hA o2];exact hb))))
end
end Go.Abs
