/- Part of a proof of FnExactPlay: see the row. -/
import Derived.Test.YtenadnbpibhmiaaGreatPlAbsReg2
set_option linter.unusedVariables false
set_option linter.unusedSimpArgs false
namespace Go.Abs
open Go.RowKit
theorem Tr.get {E:Env} {dsts:List (Option Nat)} {os:List Oper} {st st':St} {ds:List Dl} {ss:List St} (h:Tr E dsts os st ds ss st') :
  ds.length=os.length∧(ss++[st'])[0]?=some st∧(ss++[st'])[os.length]?=some st'∧∀ i o,os[i]?=some o→∃ δ s s1,ds[i]?=some δ∧(ss++[st'])[i]?=some s∧(ss++[st'])[i + 1]?=some s1∧It E dsts o s δ∧jv o.dst δ s=some s1:=by
 induction h with
 | nil st=>exact ⟨rfl,rfl,rfl,fun i o h=>by simp at h⟩
 | @cons o r st st1 st' δ ds ss hD ha htr ih =>
  obtain ⟨h1,h2,h3,h4⟩:=ih
  refine ⟨by simp [h1],rfl,by simpa using h3,fun i o' ho=>?_⟩
  cases i with
  | zero =>
   simp only [List.getElem?_cons_zero,Option.some.injEq] at ho
   subst ho
   exact ⟨δ,st,st1,rfl,rfl,by simpa using h2,hD,ha⟩
  | succ i =>
   obtain ⟨δ',s,s1,k1,k2,k3,k4⟩:=h4 i o' (by simpa using ho)
   exact ⟨δ',s,s1,by simpa using k1,by simpa using k2,by simpa using k3,k4⟩
theorem ye {x:Nat}:∀ {l:List Operand},x∈nC l↔Operand.tmp x∈l
 | []=>by simp [nC]
 | .tmp i :: r=>by simp [nC,ye (l:=r)]
 | .const _ :: r=>by simp [nC,ye (l:=r)]
 | .global _ :: r=>by simp [nC,ye (l:=r)]
 | .func _ :: r=>by simp [nC,ye (l:=r)]
theorem TA {st st':St} {l:List Operand} (h:∀ t∈nC l,cZ st'.t t=cZ st.t t):∀ x∈l,val st' x=val st x:=fun x hx=>by
 cases x with
 | tmp i=>exact h i (ye.2 hx)
 | const _=>rfl
 | global _=>rfl
 | func _=>rfl
theorem It.seen {E:Env} {dsts:List (Option Nat)} {o:Oper} {s st:St} {δ:Dl} (h:It E dsts o s δ) (ht:∀ t∈kN dsts o,cZ st.t t=cZ s.t t) (ho:lD s.h st.h (δ.rd++aq δ.wr)):It E dsts o st δ:=by
 obtain ⟨b,hW,hw,hD⟩:=h
 have hop:∀ t∈nC (iz o.op),t∈kN dsts o:=by
  intro t h
  unfold kN
  split
  ·split
   ·exact List.mem_cons_of_mem _ h
   ·exact h
  ·exact h
 refine ⟨b,?_,Iu (ho.mono fun q hq=>by simp [hq]) hw,?_⟩
 ·unfold Pi at hW ⊢
  split at hW
  ·exact hW
  ·rename_i j want hg
   obtain ⟨t,h1,h2⟩:=hW
   refine ⟨t,h1,?_⟩
   rw [ht t (by unfold kN;rw [hg];simp only [h1];simp)]
   exact h2
 ·cases b with
  | true =>
   obtain ⟨h1,h2⟩:=hD
   have hs:QT o s st:=TA fun t h=>ht t (hop t h)
   have hr:lD s.h st.h δ.rd:=ho.mono fun q hq=>by simp [hq]
   refine ⟨h2 st hs hr _ _,fun st2 hs2 hr2 R' κ'=>h2 st2 (fun x hx=>(hs2 x hx).trans (hs x hx)) (fun q hq=>(hr2 q hq).trans (hr q hq)) R' κ'⟩
  | false=>exact hD
theorem rC {i:Nat}:∀ {l:List Nat},AP i l=true→∀ j∈l,j < i
 | [],_,_,h=>by cases h
 | a :: r,h,j,hj=>by
  simp only [AP,Bool.and_eq_true] at h
  rcases List.mem_cons.1 hj with rfl | hj
  ·exact Nat.le_of_ble_eq_true h.1
  ·exact rC h.2 j hj
theorem yf:∀ {os:List Oper} {k:Nat},zK k os=true→∀ i o,os[i]?=some o→∀ j∈jY o,j < k + i
 | [],_,_,i,o,h=>by simp at h
 | x :: r,k,h,i,o,ho=>by
  simp only [zK,Bool.and_eq_true] at h
  cases i with
  | zero =>
   simp only [List.getElem?_cons_zero,Option.some.injEq] at ho
   subst ho
   exact rC h.1
  | succ i =>
   intro j hj
   have:=yf h.2 i o (by simpa using ho) j hj
   omega
theorem yg {j:Nat}:∀ {l:List Edge},j∈Ey l↔∃ e∈l,Region.binds .any e=true∧e.on=j
 | []=>by simp [Ey]
 | e :: r=>by
  unfold Ey
  have ih:=yg (j:=j) (l:=r)
  split
  ·rename_i hg
   rw [ih]
   simp [Region.binds,hg]
  ·rename_i hg
   rw [ih]
   simp [Region.binds,hg]
  ·rename_i h1 h2
   rw [List.mem_cons,ih]
   have hb:Region.binds .any e=true:=by
    unfold Region.binds
    split
    ·rename_i x hx;exact absurd hx (h1 x)
    ·rename_i x hx;exact absurd hx (h2 x)
    ·rfl
   constructor
   ·rintro (rfl | ⟨e',h1,h2⟩)
    ·exact ⟨e,by simp,hb,rfl⟩
    ·exact ⟨e',by simp [h1],h2⟩
   ·rintro ⟨e',h1,h2,h3⟩
    rcases List.mem_cons.1 h1 with rfl | h1
    ·exact .inl h3.symm
    ·exact .inr ⟨e',h1,h2,h3⟩
theorem MS:∀ (os:List Oper) (acc:List Nat),∃ tl,No os acc=acc++tl∧tl.length=os.length∧∀ i o,os[i]?=some o→(acc++tl)[acc.length + i]?=some (Cv (jY o) ((acc++tl).take (acc.length + i)))
 | [],acc=>⟨[],by simp [No],rfl,fun i o h=>by simp at h⟩
 | o :: r,acc=>by
  obtain ⟨tl,h1,h2,h3⟩:=MS r (acc++[Cv (jY o) acc])
  refine ⟨Cv (jY o) acc :: tl,by simp [No,h1],by simp [h2],fun i o' ho=>?_⟩
  cases i with
  | zero =>
   simp only [List.getElem?_cons_zero,Option.some.injEq] at ho
   subst ho
   simp
  | succ i =>
   have:=h3 i o' (by simpa using ho)
   simp only [List.append_assoc,List.singleton_append,List.length_append,List.length_singleton] at this
   rw [show acc.length + (i + 1)=acc.length + 1 + i by omega]
   exact this
theorem MT {k:Nat} {acc:List Nat}:∀ {js:List Nat},Nat.testBit (Cv js acc) k=true→∃ j∈js,j=k∨Nat.testBit (acc.getD j 0) k=true
 | [],h=>by simp [Cv] at h
 | j :: js,h=>by
  unfold Cv at h
  change ((1 <<< j ||| acc.getD j 0) ||| Cv js acc).testBit k=true at h
  rw [Nat.testBit_or,Nat.testBit_or] at h
  simp only [Bool.or_eq_true] at h
  rcases h with (h | h) | h
  ·rw [Nat.one_shiftLeft,Nat.testBit_two_pow] at h
   exact ⟨j,by simp,.inl (by simpa using h)⟩
  ·exact ⟨j,by simp,.inr h⟩
  ·obtain ⟨j',h1,h2⟩:=MT h
   exact ⟨j',by simp [h1],h2⟩
theorem Pm {os:List Oper} {L:Nat→Bool} (hL:∀ i o,os[i]?=some o→L i=true→∀ j∈jY o,L j=true) :
  ∀ i o,os[i]?=some o→(∀ j∈jY o,L j=true)→∀ k,Nat.testBit ((No os []).getD i 0) k=true→L k=true:=by
 obtain ⟨tl,h1,h2,h3⟩:=MS os []
 simp only [List.nil_append,List.length_nil,Nat.zero_add] at h1 h3
 rw [h1]
 intro i
 induction i using Nat.strongRecOn with
 | ind i ih =>
  intro o ho hp k hk
  rw [List.getD_eq_getElem?_getD,h3 i o ho,Option.getD_some] at hk
  obtain ⟨j,hj,hk⟩:=MT hk
  rcases hk with rfl | hk
  ·exact hp j hj
  ·rw [List.getD_eq_getElem?_getD,List.getElem?_take] at hk
   split at hk
   ·rename_i hlt
    have hin:i < os.length:=(List.getElem?_eq_some_iff.1 ho).1
    have hjo:=List.getElem?_eq_getElem (l:=os) (i:=j) (by omega)
    refine ih j hlt _ hjo (hL j _ hjo (hp j hj)) k ?_
    rw [List.getD_eq_getElem?_getD]
    exact hk
   ·simp at hk
theorem CM:∀ {l:List Hd} {o:Hd},vu l o=true↔o∈l
 | [],_=>by simp [vu]
 | (d,j) :: r,(o1,o2)=>by
  unfold vu
  simp only [List.mem_cons,Prod.mk.injEq]
  split
  ·rename_i h1 h2
   have h1:=Nat.eq_of_beq_eq_true h1
   have h2:=Nat.eq_of_beq_eq_true h2
   simp [h1,h2]
  ·rename_i hne
   rw [CM]
   constructor
   ·exact .inr
   ·rintro (⟨rfl,rfl⟩ | h)
    ·exact (hne (by simp) (by simp)).elim
    ·exact h
theorem Pn:∀ {l:List Nat} {b:Nat},R9 l b=true↔b∈l
 | [],_=>by simp [R9]
 | a :: r,b=>by
  simp only [R9,Bool.or_eq_true,Pn (l:=r),List.mem_cons]
  constructor
  ·rintro (h | h)
   ·exact .inl (Nat.eq_of_beq_eq_true h).symm
   ·exact .inr h
  ·rintro (rfl | h)
   ·exact .inl (by simp)
   ·exact .inr h
theorem Iy:∀ {l:List Hd} {b:Nat},Ih l b=true↔∃ q∈l,q.1=b
 | [],_=>by simp [Ih]
 | (d,_) :: r,b=>by simp [Ih,Iy (l:=r)]
theorem MU:∀ {l m:List Hd},OU l m=true↔∃ q∈l,q∈m
 | [],_=>by simp [OU]
 | a :: r,m=>by simp [OU,MU (l:=r),CM]
structure Ll (x y:Opd):Prop where
 u:∀ d,x.dst=some d→d ∉ y.uses
 s:∀ d,x.dst=some d→∀ q∈y.foot.1,q.1≠d
 d:∀ d,x.dst=some d→y.dst≠some d
 w:∀ q∈x.foot.2,q ∉ y.foot.1
theorem MV {x y:Opd} (h:OV x y=true):Ll x y:=by
 simp only [OV,Bool.and_eq_true,Bool.not_eq_true'] at h
 obtain ⟨h1,h2⟩:=h
 have hw:∀ q∈x.foot.2,q ∉ y.foot.1:=fun q hq hq2=>by
  rw [MU.2 ⟨q,hq,hq2⟩] at h2
  cases h2
 cases hx:x.dst with
 | none=>exact ⟨fun d e=>(by rw [hx] at e;cases e),fun d e=>(by rw [hx] at e;cases e),fun d e=>(by rw [hx] at e;cases e),hw⟩
 | some d =>
  rw [hx] at h1
  simp only [Bool.and_eq_true,Bool.not_eq_true'] at h1
  obtain ⟨⟨k1,k2⟩,k3⟩:=h1
  refine ⟨fun d' e hm=>?_,fun d' e q hq hs=>?_,fun d' e hy=>?_,hw⟩
  ·rw [hx] at e;cases e;rw [Pn.2 hm] at k1;cases k1
  ·rw [hx] at e;cases e;rw [Iy.2 ⟨q,hq,hs⟩] at k2;cases k2
  ·rw [hx] at e;cases e;rw [hy] at k3;simp at k3
theorem CN {x:Opd} {c:Nat}:∀ {l:List Opd} {k:Nat},H2 x c k l=true→∀ j y,l[j]?=some y→Nat.testBit c (k + j)=true∨(OV x y=true∧OV y x=true)
 | [],_,_,j,y,h=>by simp at h
 | z :: r,k,h,j,y,hy=>by
  simp only [H2,Bool.and_eq_true,Bool.or_eq_true] at h
  cases j with
  | zero =>
   simp only [List.getElem?_cons_zero,Option.some.injEq] at hy
   subst hy
   exact h.1
  | succ j =>
   have:=CN h.2 j y (by simpa using hy)
   rw [show k + (j + 1)=k + 1 + j by omega]
   exact this
theorem Gb:∀ {cs:List Nat} {all xs:List Opd},Ii cs all xs=true→∀ i x,xs[i]?=some x→∀ j y,(all++xs)[j]?=some y→j < all.length + i→Nat.testBit (cs.getD i 0) j=true∨(OV x y=true∧OV y x=true)
 | _,_,[],_,i,x,h,_,_,_,_=>by simp at h
 | [],_,_ :: _,h,_,_,_,_,_,_,_=>by simp [Ii] at h
 | c :: cs,all,x :: xs,h,i,x',hx,j,y,hy,hlt=>by
  simp only [Ii,Bool.and_eq_true] at h
  cases i with
  | zero =>
   simp only [List.getElem?_cons_zero,Option.some.injEq] at hx
   subst hx
   have:=CN h.1 j y (by rw [List.getElem?_append_left (by simpa using hlt)] at hy;exact hy)
   simpa using this
  | succ i =>
   have:=Gb h.2 i x' (by simpa using hx) j y (by simpa using hy) (by simp;omega)
   simpa using this
theorem Iz {dsts:List (Option Nat)}:∀ {os:List Oper} {fs:List OT} {i:Nat} {o:Oper} {f:OT},os[i]?=some o→fs[i]?=some f→(SU dsts os fs)[i]?=some ⟨o.dst,kN dsts o,f⟩
 | [],_,_,_,_,h,_=>by simp at h
 | _ :: _,[],_,_,_,_,h=>by simp at h
 | o :: os,f :: fs,i,o',f',ho,hf=>by
  cases i with
  | zero =>
   simp only [List.getElem?_cons_zero,Option.some.injEq] at ho hf
   subst ho;subst hf
   simp [SU]
  | succ i=>simpa [SU] using Iz (by simpa using ho) (by simpa using hf)
end Go.Abs
