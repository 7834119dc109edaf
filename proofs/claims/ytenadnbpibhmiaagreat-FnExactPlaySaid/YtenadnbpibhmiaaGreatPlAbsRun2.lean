/- Part of a proof of FnExactPlay: see the row. -/
import Derived.Test.YtenadnbpibhmiaaGreatPlAbsMut3
set_option linter.unusedVariables false
set_option linter.unusedSimpArgs false
namespace Go.Abs
open Go.RowKit
def eo (via:Bool) (a:Ty):Nat :=
 match via with
 | false=>0
 | true=>go a
def NK (sf:Bool) (i:Nat):aw :=
 match sf with
 | true=>.box true [.box (i,0) 0]
 | false=>.dead
def Lm (via:Bool) (a:Ty) (y:a.D):List AV :=
 match via with
 | false=>.leaf (.box (0,0) 0) :: kP a y
 | true=>kP a y++[.leaf (.box (go a,1) 0)]
def fZ (via sf:Bool) (a:Ty) (y:a.D) (n:Nat):St :=
 ⟨(Lm via a y)++List.replicate (n - (go a + 1)) .any,
  List.replicate (eo via a) []++([.dead,NK sf (eo via a)] :: List.replicate (n - eo via a - 1) [])⟩
def Vh (T:Tab) (i:Nat) (t:Ty) (fl:List Leaf) (one:Bool) (rvs:List ResultVar) (r:Ty) (e:Ex) (st:St):Option (r.D×t.D) :=
 match e with
 | .exit _=>none
 | _=>yh T st rvs fun vs=>match one with
  | true=>match vs with
   | [v]=>gO r v fun cs=>bz st.h r cs [] fun z rest _=>jD rest (qk st (.boxO i 0 2 t fl) [] fun x _=>some (z,x))
   | _=>none
  | false=>ny st.h r vs [] fun z _=>qk st (.boxO i 0 2 t fl) [] fun x _=>some (z,x)
section
variable {P:Program} {E:Env}
theorem vL (via sf:Bool) (a:Ty) (y:a.D) (n:Nat) (q:Hd):aj (fZ via sf a y n).h q=if q.1=eo via a then gn [.dead,NK sf (eo via a)] q.2 else .none:=by
 unfold aj fZ
 simp only
 rw [iZ,List.getD_eq_getElem?_getD]
 by_cases h:q.1=eo via a
 ·rw [if_pos h,List.getElem?_append_right (by simp [h])]
  simp [h]
 ·rw [if_neg h]
  rcases Nat.lt_or_ge q.1 (eo via a) with h1 | h1
  ·rw [List.getElem?_append_left (by simpa using h1),List.getElem?_replicate]
   split <;> rfl
  ·rw [List.getElem?_append_right (by simpa using h1),List.length_replicate]
   obtain ⟨m,hm⟩:∃ m,q.1 - eo via a=m + 1:=⟨q.1 - eo via a - 1,by omega⟩
   rw [hm,List.getElem?_cons_succ,List.getElem?_replicate]
   split <;> rfl
theorem lR (via sf:Bool) (a:Ty) (y:a.D) (n:Nat) (q:Hd):aj (fZ via sf a y n).h q=.none∨(q=(eo via a,0)∧aj (fZ via sf a y n).h q=.dead)∨(q=(eo via a,1)∧aj (fZ via sf a y n).h q=NK sf (eo via a)):=by
 rw [vL]
 obtain ⟨q1,q2⟩:=q
 by_cases h:q1=eo via a
 ·subst h
  rw [if_pos rfl]
  match q2 with
  | 0=>exact .inr (.inl ⟨rfl,rfl⟩)
  | 1=>exact .inr (.inr ⟨rfl,rfl⟩)
  | n + 2=>exact .inl rfl
 ·rw [if_neg h];exact .inl rfl
theorem vM (via sf:Bool) (a:Ty) (y:a.D) (n:Nat):(aj (fZ via sf a y n).h (eo via a,0)).there=true∧(aj (fZ via sf a y n).h (eo via a,1)).there=true:=by
 rw [vL,vL,if_pos rfl,if_pos rfl]
 exact ⟨rfl,by cases sf <;> rfl⟩
theorem Q9 {Imm:Nat→Prop} {w:World} {via sf:Bool} {a:Ty} {y:a.D} {n:Nat} {cs:List Value} {b sb:Nat} {M:Nat→Prop} (hrd:Rd P a Imm w cs y) (hn:go a + 1≤n) (hI:∀ k,Imm k→k < w.heap.size)
  (hs:sf=true→(∃ (c':Array Value) (ty':TypeId),w.heap[sb]?=some (.cells c' ty' (0,0))∧c'.toList=[.pointer (some ⟨b,0,none⟩)])∧¬ Imm sb∧M sb) {us:List Value} (hus:us=match via with | false=>Value.pointer (some ⟨b,0,none⟩) :: argsOf a cs | true=>argsOf a cs++[Value.pointer (some ⟨sb,0,none⟩)]) :
  Rel P M w (fun q=>if q.2=1 then ⟨undef,sb,[sb]⟩ else ⟨undef,b,[b]⟩) Imm (fZ via sf a y n) { tmps:=us.toArray++Array.replicate (n - us.toArray.size) undef,defers:=[] } w:=by
 have hav:=vI (σ:=fun q=>if q.2=1 then ⟨undef,sb,[sb]⟩ else ⟨undef,b,[b]⟩) hrd
 have hlen:=hav.length
 rw [nL] at hlen
 have hi:eo via a≤go a:=by cases via <;> simp [eo]
 have havs:rv P (fun q=>if q.2=1 then ⟨undef,sb,[sb]⟩ else ⟨undef,b,[b]⟩) Imm w (Lm via a y) us:=by
  subst hus
  cases via with
  | false=>exact ⟨_,_,rfl,rfl,hav⟩
  | true=>exact hav.append ⟨_,_,rfl,rfl,rfl⟩
 have hcl:∀ v∈(Lm via a y),aK (fZ via sf a y n).h v.hds:=by
  obtain ⟨t0,t1⟩:=vM via sf a y n
  intro v hv q hq
  have hh:=vJ a y
  cases via with
  | false =>
   rcases List.mem_cons.1 hv with rfl | hv
   ·have:q=(0,0):=by simpa [AV.hds,Leaf.hds] using hq
    rw [this];exact t0
   ·rw [hh v hv] at hq;cases hq
  | true =>
   rcases List.mem_append.1 hv with hv | hv
   ·rw [hh v hv] at hq;cases hq
   ·have hv:v=.leaf (.box (go a,1) 0):=by simpa using hv
    rw [hv] at hq
    have:q=(go a,1):=by simpa [AV.hds,Leaf.hds] using hq
    rw [this];exact t1
 have hl:=havs.length
 have hl0:(Lm via a y).length=go a + 1:=by cases via <;> simp [Lm,nL]
 have hgt:∀ i,(∃ v∈(Lm via a y),cZ (fZ via sf a y n).t i=v∧(Lm via a y)[i]?=some v)∨cZ (fZ via sf a y n).t i=.any:=by
  intro i
  simp only [fZ,vz,List.getD_eq_getElem?_getD]
  generalize Lm via a y=L
  rcases Nat.lt_or_ge i L.length with h1 | h1
  ·left
   rw [List.getElem?_append_left h1,List.getElem?_eq_getElem h1]
   exact ⟨_,List.getElem_mem h1,rfl,rfl⟩
  ·right
   rw [List.getElem?_append_right h1,List.getElem?_replicate]
   split <;> rfl
 refine ⟨?_,?_,rfl,fun i=>?_,fun o=>?_,fun i=>?_,fun o ro ls e=>?_,fun o ho=>?_,fun o o' hne h1 h2=>?_,hI,bg.refl M w⟩
 ·simp only [fZ,List.length_append,hl0,List.length_replicate,Array.size_append,Array.size_replicate]
  simp only [List.size_toArray]
  omega
 ·simp only [fZ,List.length_append,hl0,List.length_replicate,List.length_cons]
  omega
 ·rcases hgt i with ⟨v,_,h1,h2⟩ | h1
  ·obtain ⟨u,h3,h4⟩:=havs.get h2
   have:({ tmps:=us.toArray++Array.replicate (n - us.toArray.size) undef,defers:=[] }:Act).tmps.getD i undef=u:=by
    have hlt:=(List.getElem?_eq_some_iff.1 h3).1
    simp only [Array.getD_eq_getD_getElem?]
    rw [Array.getElem?_append_left (by simpa using hlt)]
    simp [h3]
   rw [this,h1];exact h4
  ·rw [h1];trivial
 ·rcases lR via sf a y n o with h | ⟨_,h⟩ | ⟨e,h⟩
  ·rw [h];trivial
  ·rw [h];trivial
  ·rw [h]
   cases sf with
   | false=>trivial
   | true =>
    obtain ⟨⟨c',ty',k1,k2⟩,_,_⟩:=hs rfl
    subst e
    exact ⟨c',ty',k1,by rw [k2];exact ⟨_,_,rfl,rfl,rfl⟩,rfl⟩
 ·rcases hgt i with ⟨v,h0,h1,_⟩ | h1
  ·rw [h1];exact hcl v h0
  ·rw [h1];exact aA
 ·rcases lR via sf a y n o with h | ⟨_,h⟩ | ⟨_,h⟩
  ·rw [h] at e;cases e
  ·rw [h] at e;cases e
  ·rw [h] at e
   cases sf with
   | false=>cases e
   | true =>
    cases e
    intro q hq
    have:q=(eo via a,0):=by simpa [aN,Leaf.hds] using hq
    rw [this];exact (vM via true a y n).1
 ·rcases lR via sf a y n o with h | ⟨_,h⟩ | ⟨e,h⟩
  ·rw [h] at ho;cases ho
  ·rw [h] at ho;cases ho
  ·rw [h] at ho
   cases sf with
   | false=>cases ho
   | true =>
    obtain ⟨_,k3,k4⟩:=hs rfl
    subst e
    exact ⟨by simp,fun x hx=>by
     have:x=sb:=by simpa using hx
     rw [this];exact ⟨k3,.inr k4⟩⟩
 ·have hone:∀ o,(aj (fZ via sf a y n).h o).live=true→o=(eo via a,1):=fun o ho=>by
   rcases lR via sf a y n o with h | ⟨_,h⟩ | ⟨e,h⟩
   ·rw [h] at ho;cases ho
   ·rw [h] at ho;cases ho
   ·exact e
  exact absurd ((hone o h1).trans (hone o' h2).symm) hne
theorem UE (hE:aE P E) (hm:P.follows .mixedOrders=true) {f:FuncId} {fn:Func} {body:Code} {t:Ty} {fs:List (FuncId×Bool)} {sf via one:Bool} {a r:Ty} {F:t.D→a.D→Option (r.D×t.D)} (hs:Hints)
  (hf:P.funcs[f]?=some fn) (hb:fn.body=some body) (hok:ym fn one (go a + 1)=true) (hfl:r.flat=true)
  (hev:∀ x y,(nJ (fZ via sf a y fn.ntmps) (.boxO (eo via a) 0 2 t (o0 (eo via a,1) fs)) x fun st=>ev E body hs st (Vh E.T (eo via a) t (o0 (eo via a,1) fs) one fn.results.toList r))=F x y):fC P f (.run t fs sf via one a r F):=by
 obtain ⟨h1,h2,h3,h5⟩:=ur hf hb hok
 refine ⟨h1,fun Imm w cs y b sb x fp z hR hnd hnI hsb hI hrd hF=>?_⟩
 obtain ⟨c,ty,f',us,r1,r2,r3,r4,r5⟩:=hR
 obtain ⟨t0,t1⟩:=vM via sf a y fn.ntmps
 have hself:(aj (fZ via sf a y fn.ntmps).h (eo via a,1))=NK sf (eo via a):=by rw [vL,if_pos rfl];rfl
 have R0:=Q9 (M:=fun k=>k∈fp∨(sf=true∧k=sb)) (n:=fn.ntmps) (sf:=sf) (via:=via) (b:=b) (sb:=sb) hrd h3 hI (fun hs=>⟨r5 hs,(hsb hs).2,.inr ⟨hs,rfl⟩⟩) rfl
 have hrun:=(hev x y).trans hF
 obtain ⟨T,σ1,k1,k2⟩:=pa R0 (σb:=fun q=>if q.2=1 then ⟨undef,sb,[sb]⟩ else ⟨undef,b,[b]⟩) (fun _ _=>rfl) (p:=.boxO (eo via a) 0 2 t (o0 (eo via a,1) fs)) (x:=x) (fp:=fp)
  ⟨c,ty,f',us,Lj sb fs,r1,r2,CW (q:=(eo via a,1)) fs,r3,r4,rfl⟩ hnd (fun k hk=>⟨hnI k hk,.inr (.inl hk),fun q hq hk2=>by
   rcases lR via sf a y fn.ntmps q with h | ⟨_,h⟩ | ⟨e,h⟩
   ·rw [h] at hq;cases hq
   ·rw [h] at hq;cases hq
   ·rw [h] at hq
    cases sf with
    | false=>cases hq
    | true =>
     subst e
     have:k=sb:=by simpa using hk2
     exact (hsb rfl).1 (this ▸ hk)⟩) (fun q hq=>by
   have:∀ (fs:List (FuncId×Bool)),q∈qj (o0 (eo via a,1) fs)→q=(eo via a,1):=by
    intro fs
    induction fs with
    | nil=>intro h;cases h
    | cons g fs ih =>
     obtain ⟨g,b⟩:=g
     cases b with
     | true =>
      intro h
      simp only [o0,qj,List.cons_append,List.nil_append,List.mem_cons] at h
      exact h.elim id ih
     | false=>intro h;simp only [o0,qj,List.nil_append] at h;exact ih h
   rw [this fs hq]
   exact ⟨t1,rfl⟩) hrun
 refine calls_of_wp hf hb ?_
 have hlen:T.t.length=fn.ntmps:=by
  rw [k2.len]
  have:(Lm via a y).length=go a + 1:=by cases via <;> simp [Lm,nL]
  simp only [fZ,List.length_append,this,List.length_replicate]
  omega
 refine wp_mono ((CY (M:=fun k=>k∈fp∨(sf=true∧k=sb)) (Fz:=fun k=>w.heap.size≤k∨(k∈fp∨(sf=true∧k=sb))) (w0:=w) hE hm (fun _ k h=>h) body hs).use k2.rel (fun d hdm=>by rw [hlen];exact rC h2 d hdm) k1) fun e' a' w' hp=>?_
 obtain ⟨e,st',σ',Imm',rfl,h6,R',ev',hl,hun⟩:=hp
 have hb0:(σ' (eo via a,0)).b=b:=by rw [(ev'.goes.sg _ (k2.there _ t0)).2,(k2.sgt _ t0).2];rfl
 have hb1:(σ' (eo via a,1)).b=sb:=by rw [(ev'.goes.sg _ (k2.there _ t1)).2,(k2.sgt _ t1).2];rfl
 have hro:sf=true→(aj st'.h (eo via a,1)).ro=true∧(σ' (eo via a,1)).fp=[sb]∧w'.heap[sb]?=w.heap[sb]?∧¬ Imm' sb:=by
  intro hs
  have q1:(aj (fZ via sf a y fn.ntmps).h (eo via a,1)).ro=true:=by rw [hself,hs];rfl
  obtain ⟨q2,q3⟩:=k2.ro _ q1
  have q4:(aj T.h (eo via a,1)).ro=true:=by rw [q2];exact q1
  obtain ⟨q5,q6,q7⟩:=ev'.ro _ q4
  have q8:(σ1 (eo via a,1)).fp=[sb]:=by rw [q3];rfl
  refine ⟨by rw [q5];exact q4,by rw [q6];exact q8,(q7 sb (by rw [q8];simp)).1,(q7 sb (by rw [q8];simp)).2⟩
 have fin:∀ {cs':List Value} {ws':List (Hd×aw)} {fp':List Nat},(results fn a'.tmps).run P w'=.ok (jF one r cs') w'→Rd P r aV w' cs' z.1→MY P σ' Imm' a' w' (.boxO (eo via a) 0 2 t (o0 (eo via a,1) fs)) z.2 fp'→cT σ' st' [] ws' fp' →
   a'.defers=[]∧∃ v,(results fn a'.tmps).run P w'=.ok v w'∧(bg (fun k=>k∈fp) w w' ∧
    ∃ cs' fp',Ending.returned v=.returned (jF one r cs')∧Rd P r aV w' cs' z.1∧S6 P (O7 Imm w w' fp fp') t fs sf w' b sb z.2 fp'∧fp'.Nodup∧∀ k∈fp',k∈fp∨w.heap.size≤k):=by
  intro cs' ws' fp' hr hres ho ht
  have hk:∀ k∈fp',∃ q,(aj st'.h q).live=true∧(aj st'.h q).ro=false∧k∈(σ' q).fp:=fun k hk=>by
   obtain ⟨ks,e,h⟩:=ht.ks
   simp only [aq,List.append_nil] at e
   obtain ⟨q,hq,h⟩:=h k hk
   rw [← e] at hq
   exact ⟨q,(ht.ok.key hq).1,(ht.ok.key hq).2,h⟩
  obtain ⟨c2,ty2,f2,us2,fv2,p1,p2,p3,p4,p5,p6⟩:=ho
  have p1:w'.heap[(σ' (eo via a,0)).b]?=_:=p1
  have p5:fp'=(σ' (eo via a,0)).b :: f2:=p5
  rw [hb0] at p1 p5
  have p3:=zT p3
  rw [hb1] at p3
  refine ⟨R'.defers,_,hr,⟨R'.keep.os,R'.keep.tape,R'.keep.output,R'.keep.size,fun k hk hn=>?_⟩,cs',fp',rfl,hres,⟨c2,ty2,f2,us2,p1,by rw [p2,p3],p4.imm fun k hk'=>?_,p5,fun hs=>?_⟩,ht.nd,fun k hk'=>?_⟩
  ·by_cases h:sf=true∧k=sb
   ·rw [h.2];exact (hro h.1).2.2.1
   ·exact R'.keep.block k hk fun hm=>hm.elim hn h
  ·have hnot:k ∉ fp':=fun hm=>by
    obtain ⟨q,q1,_,q3⟩:=hk k hm
    exact ((R'.nd q q1).2 k q3).1 hk'
   have hlt:=R'.imm k hk'
   rcases Nat.lt_or_ge k w.heap.size with h | h
   ·rcases ev'.nw k h hk' with h | h | h | h
    ·exact .inl h
    ·exact .inr ⟨hlt,.inr h,hnot⟩
    ·exact .inr ⟨hlt,.inl h,hnot⟩
    ·exact absurd (h.2 ▸ hk') (hro h.1).2.2.2
   ·exact .inr ⟨hlt,.inr h,hnot⟩
  ·obtain ⟨c',ty',q1,q2⟩:=r5 hs
   exact ⟨c',ty',(hro hs).2.2.1.trans q1,q2⟩
  ·obtain ⟨q,q1,q2,q3⟩:=hk k hk'
   rcases ((R'.nd q q1).2 k q3).2 with h | h | h
   ·exact .inr h
   ·exact .inl h
   ·obtain ⟨s1,s2,_,_⟩:=hro h.1
    refine absurd (by rw [s2,h.2];simp) (R'.dj q (eo via a,1) (fun e=>?_) q1 (lO s1) k q3)
    rw [e,s1] at q2;cases q2
 unfold Vh at h6
 have hex:e=.normal∨e=.ret:=by cases e with | exit _=>cases h6 | normal=>exact .inl rfl | ret=>exact .inr rfl
 have h7:(yh E.T st' fn.results.toList fun vs=>match one with
  | true=>match vs with
   | [v]=>gO r v fun cs=>bz st'.h r cs [] fun z rest _=>jD rest (qk st' (.boxO (eo via a) 0 2 t (o0 (eo via a,1) fs)) [] fun x _=>some (z,x))
   | _=>none
  | false=>ny st'.h r vs [] fun z _=>qk st' (.boxO (eo via a) 0 2 t (o0 (eo via a,1) fs)) [] fun x _=>some (z,x))=some z:=by
  rcases hex with rfl | rfl <;> exact h6
 have key:a'.defers=[]∧∃ v,(results fn a'.tmps).run P w'=.ok v w'∧(bg (fun k=>k∈fp) w w' ∧
    ∃ cs' fp',Ending.returned v=.returned (jF one r cs')∧Rd P r aV w' cs' z.1∧S6 P (O7 Imm w w' fp fp') t fs sf w' b sb z.2 fp'∧fp'.Nodup∧∀ k∈fp',k∈fp∨w.heap.size≤k):=by
  obtain ⟨rvs,us,g1,g2,g3,g4,g5⟩:=rE hE.1 R' h7
  have hru:=yk (fn:=fn) g4
  have hus:us.length=fn.results.size:=by rw [← g2.length,g5];simp
  cases one with
  | true =>
   simp only at g1
   split at g1
   ·rename_i v
    obtain ⟨u,r',e6,h8,h9⟩:=g2
    cases (h9:r'=[])
    subst e6
    obtain ⟨ls,ws,m1,m2,m3,m4⟩:=gV h8 g1
    obtain ⟨z1,rest,os,w1,w2,n1,n2,n3,n4,n5,n6⟩:=ee R' m2 (by rw [m3];exact g3 v (by simp)) m1
    obtain ⟨e1,n7⟩:=le n1
    subst e1
    cases n3
    simp only [List.append_nil] at n2
    subst n2
    obtain ⟨x',ws',fp',o1,o2,o3⟩:=kQ R' (dF.nil st') n7
    cases o1
    exact fin (cs':=ws) (by rw [hru];simp [jF,m4]) (n5.flatI hfl) o2 o3
   ·cases g1
  | false =>
   simp only at g1
   obtain ⟨z1,ps,cs',n1,n2,n3,n4⟩:=vK R' g2 g3 g1
   obtain ⟨x',ws',fp',o1,o2,o3⟩:=kQ R' (dF.nil st') n1
   cases o1
   have hne:us.toArray.size≠1:=by
    have:¬ fn.results.size=1:=by simpa using h5
    simpa [hus] using this
   exact fin (cs':=cs') (by rw [hru,dif_neg hne,n3];rfl) (n2.flatI hfl) o2 o3
 rcases hex with rfl | rfl <;> exact key
end
end Go.Abs
