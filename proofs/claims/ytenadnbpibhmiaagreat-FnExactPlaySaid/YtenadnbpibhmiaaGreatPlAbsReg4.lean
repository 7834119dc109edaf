/- Part of a proof of FnExactPlay: see the row. -/
import Derived.Test.YtenadnbpibhmiaaGreatPlAbsReg3
set_option linter.unusedVariables false
set_option linter.unusedSimpArgs false
namespace Go.Abs
open Go.RowKit
def IA (os:List Oper) (m:Nat):Option Nat:=(os[m]?).bind (·.dst)
def dlF (ds:List Dl) (m:Nat):Dl:=ds.getD m dl0
def lt (i:Nat):Nat→Bool:=fun m=>decide (m < i)
theorem RI {dst:Nat→Option Nat} {dl:Nat→Dl} {st0:St} {t:Nat}:∀ n,tv dst dl st0 (lt 0) n t=cZ st0.t t
 | 0=>rfl
 | n + 1=>by simp [tv,lt,RI n]
theorem RJ {dst:Nat→Option Nat} {dl:Nat→Dl} {st0:St} {q:Hd}:∀ n,ov dst dl st0 (lt 0) n q=aj st0.h q
 | 0=>rfl
 | n + 1=>by simp [ov,lt,RJ n]
theorem RK {dst:Nat→Option Nat} {dl:Nat→Dl} {st0:St} {d:Nat}:∀ n,oc dst dl st0 (lt 0) n d↔bx st0.h d≠[]
 | 0=>Iff.rfl
 | n + 1=>by simp [oc,lt,RK n]
theorem At.zero {dst:Nat→Option Nat} {dl:Nat→Dl} {st0:St} (n:Nat):At dst dl st0 (lt 0) n st0 :=
 ⟨rfl,rfl,fun t=>(RI n).symm,fun q=>(RJ n).symm,fun d=>(RK n).symm⟩
theorem Va (i:Nat):ins (lt i) i=lt (i + 1):=by
 funext m
 unfold ins lt
 by_cases h:m=i
 ·simp [h]
 ·by_cases h2:m < i
  ·simp [h2,show m < i + 1 by omega]
  ·simp [h,h2,show ¬ m < i + 1 by omega]
theorem At.congr {dst:Nat→Option Nat} {dl:Nat→Dl} {st0 st:St} {L L':Nat→Bool} {n:Nat} (h:At dst dl st0 L n st) (e:∀ m,m < n→L m=L' m):At dst dl st0 L' n st :=
 ⟨h.tl,h.hl,fun t=>(h.t t).trans (Iv fun m hm hne=>absurd (e m hm) hne),fun q=>(h.o q).trans (Iw fun m hm hne=>absurd (e m hm) hne),fun d=>(h.c d).trans (Ix fun m hm hne=>absurd (e m hm) hne)⟩
section
variable {E:Env} {os:List Oper} {st0 st':St} {ds:List Dl} {ss:List St}
theorem Tr.at (h:Tr E (os.map (·.dst)) os st0 ds ss st') (hd:∀ o∈os,∀ i,o.dst=some i→i < st0.t.length) (hl:st0.h.length=st0.t.length) :
  ∀ i s,(ss++[st'])[i]?=some s→i≤os.length→At (IA os) (dlF ds) st0 (lt i) os.length s:=by
 obtain ⟨h1,h2,h3,h4⟩:=h.get
 intro i
 induction i with
 | zero=>intro s hs _;rw [h2] at hs;cases hs;exact At.zero _
 | succ i ih =>
  intro s hs hi
  have ho:=List.getElem?_eq_getElem (l:=os) (i:=i) (by omega)
  obtain ⟨δ,s0,s1,k1,k2,k3,k4,k5⟩:=h4 i _ ho
  rw [hs] at k3
  cases k3
  have hA:=ih s0 k2 (by omega)
  have e1:IA os i=os[i].dst:=by simp [IA,ho]
  have e2:dlF ds i=δ:=by simp [dlF,List.getD_eq_getElem?_getD,k1]
  rw [← Va]
  obtain ⟨b,_,hw,_⟩:=k4
  refine hA.ins (by simp [lt]) (by omega) (by rw [e1,e2];exact k5) (by rw [e2];exact hw) (fun k hk=>?_) (by rw [hA.tl,hA.hl];exact hl) (fun m h1 h2 h3=>?_) (fun m h1 h2 h3=>?_)
  ·rw [e1] at hk;rw [hA.tl];exact hd _ (List.getElem_mem _) k hk
  ·simp [lt] at h3;omega
  ·simp [lt] at h3;omega
theorem IB (h:OW (os.map (·.dst)) os (ds.map eU)=true) (hlen:ds.length=os.length) {i j:Nat} {oi oj:Oper} {δi δj:Dl} (hi:os[i]?=some oi) (hj:os[j]?=some oj) (hdi:ds[i]?=some δi) (hdj:ds[j]?=some δj) (hlt:j < i)
  (hn:Nat.testBit ((No os []).getD i 0) j=false) :
  Ll ⟨oi.dst,kN (os.map (·.dst)) oi,eU δi⟩ ⟨oj.dst,kN (os.map (·.dst)) oj,eU δj⟩∧Ll ⟨oj.dst,kN (os.map (·.dst)) oj,eU δj⟩ ⟨oi.dst,kN (os.map (·.dst)) oi,eU δi⟩:=by
 simp only [OW,Bool.and_eq_true] at h
 have hx:=Iz (dsts:=os.map (·.dst)) hi (show (ds.map eU)[i]?=some (eU δi) by simp [hdi])
 have hy:=Iz (dsts:=os.map (·.dst)) hj (show (ds.map eU)[j]?=some (eU δj) by simp [hdj])
 rcases Gb h.2 i _ hx j _ (by simpa using hy) (by simpa using hlt) with k | ⟨k1,k2⟩
 ·rw [hn] at k;cases k
 ·exact ⟨MV k1,MV k2⟩
theorem Ll.eff {x y:Oper} {δ δ':Dl} {u v:List Nat} (h:Ll ⟨x.dst,u,eU δ⟩ ⟨y.dst,v,eU δ'⟩) {q:Hd} (hq:q∈δ'.rd++aq δ'.wr):vD x.dst δ q=none:=by
 unfold vD
 rw [yd.2 fun hk=>h.w q hk hq]
 simp only
 rw [if_neg]
 rintro ⟨h1,_⟩
 exact h.s _ h1 q hq rfl
theorem Po {d:Option Nat} {δ:Dl} {q:Hd} (h:vD d δ q≠none):q∈aq δ.wr∨d=some q.1:=by
 unfold vD at h
 split at h
 ·rename_i x hx
  left
  apply Classical.byContradiction
  intro hn
  rw [yd.2 hn] at hx
  cases hx
 ·split at h
  ·rename_i hh;exact .inr hh.1
  ·exact absurd rfl h
theorem Ll.eff2 {x y:Oper} {δ δ':Dl} {u v:List Nat} (h:Ll ⟨x.dst,u,eU δ⟩ ⟨y.dst,v,eU δ'⟩) (h':Ll ⟨y.dst,v,eU δ'⟩ ⟨x.dst,u,eU δ⟩) {q:Hd} (hq:vD x.dst δ q≠none):vD y.dst δ' q=none:=by
 rcases Po hq with hk | hk
 ·exact h'.eff (by simp [hk])
 ·apply Classical.byContradiction
  intro hn
  rcases Po hn with hk' | hk'
  ·exact h.s _ hk q (by simp [eU,hk']) rfl
  ·exact h.d _ hk hk'
end
def unl (L:Nat→Bool):Nat→Nat
 | 0=>0
 | n + 1=>unl L n + (if L n=true then 0 else 1)
theorem Pp {L:Nat→Bool}:∀ {n:Nat},unl L n=0→∀ m,m < n→L m=true
 | n + 1,h,m,hm=>by
  simp only [unl] at h
  split at h
  ·rename_i hL
   rcases Nat.lt_or_ge m n with h1 | h1
   ·exact Pp (n:=n) (by omega) m h1
   ·have:m=n:=by omega
    subst this;exact hL
  ·omega
theorem RL {L:Nat→Bool} {i:Nat} (hi:L i=false):∀ {n:Nat},unl (ins L i) n + (if i < n then 1 else 0)=unl L n
 | 0=>by simp [unl]
 | n + 1=>by
  have ih:=RL hi (n:=n)
  simp only [unl]
  by_cases e:n=i
  ·subst e
   have:ins L n n=true:=by simp [ins]
   rw [if_neg (by omega:¬ n < n)] at ih
   rw [if_pos this,hi,if_pos (by omega:n < n + 1)]
   simp
   omega
  ·have:ins L i n=L n:=by simp [ins,e]
   rw [this]
   by_cases hlt:i < n
   ·rw [if_pos hlt] at ih
    rw [if_pos (show i < n + 1 by omega)]
    omega
   ·rw [if_neg hlt] at ih
    rw [if_neg (show ¬ i < n + 1 by omega)]
    omega
section
variable {P:Program} {M:Nat→Prop} {w0:World} {E:Env}
theorem Rel.congr {σ:Hd→aS} {Imm:Nat→Prop} {st st':St} {a:Act} {w:World} (R:Rel P M w0 σ Imm st a w) (h1:st'.t.length=st.t.length) (h2:st'.h.length=st.h.length) (h3:∀ t,cZ st'.t t=cZ st.t t) (h4:∀ q,aj st'.h q=aj st.h q):Rel P M w0 σ Imm st' a w:=by
 have hc:∀ l,aK st.h l→aK st'.h l:=fun l hl o ho=>by rw [h4];exact hl o ho
 refine ⟨h1.trans R.len,by rw [h2,h1];exact R.hlen,R.defers,fun i=>by rw [h3];exact R.tm i,fun o=>by rw [h4];exact R.ob o,fun i=>by rw [h3];exact hc _ (R.ct i),fun o ro ls e=>hc _ (R.cb o ro ls (by rw [← h4];exact e)),fun o ho=>R.nd o (by rw [← h4];exact ho),fun o o' hne h5 h6=>R.dj o o' hne (by rw [← h4];exact h5) (by rw [← h4];exact h6),R.imm,R.keep⟩
theorem Evo.congr {σ σ':Hd→aS} {Imm Imm':Nat→Prop} {st st1 st2:St} {w w':World} (h:Evo st st1 σ σ' Imm Imm' w w') (h4:∀ q,aj st2.h q=aj st1.h q):Evo st st2 σ σ' Imm Imm' w w' :=
 ⟨h.goes,fun o ho=>by rw [h4];exact h.there o ho,fun o ho=>by rw [h4];exact h.ro o ho,h.sz,h.nw⟩
theorem Rel.evo {σ:Hd→aS} {Imm:Nat→Prop} {st:St} {a:Act} {w:World} (R:Rel P M w0 σ Imm st a w):Evo st st σ σ Imm Imm w w :=
 ⟨⟨fun _ _=>⟨rfl,rfl⟩,fun b hb hl=>⟨hb,hl,rfl⟩⟩,fun _ h=>h,fun o ho=>⟨rfl,rfl,fun b hb=>⟨rfl,((R.nd o (by cases hx:aj st.h o <;> simp_all [aw.ro,aw.live])).2 b hb).1⟩⟩,Nat.le_refl _,fun _ _ h=>h⟩
theorem Uq {ops:Array Oper} {Q:Exit→Act→World→Prop} (hE:aE P E) {st0 st':St} {ds:List Dl} {ss:List St} (htr:Tr E (ops.toList.map (·.dst)) ops.toList st0 ds ss st')
  (hin:OW (ops.toList.map (·.dst)) ops.toList (ds.map eU)=true) (hd:∀ o∈ops.toList,∀ i,o.dst=some i→i < st0.t.length) {σ0:Hd→aS} {Imm0:Nat→Prop} {a0:Act} {w1:World} (hl:st0.h.length=st0.t.length)
  (hq:∀ σ' Imm' a' w',Rel P M w0 σ' Imm' st' a' w'→Evo st0 st' σ0 σ' Imm0 Imm' w1 w'→(∀ t,(∀ o∈ops.toList,o.dst≠some t)→a'.tmps.getD t undef=a0.tmps.getD t undef)→Q .normal a' w') :
  ∀ (fuel:Nat) (listed:Array Bool) (st:St) (σ:Hd→aS) (Imm:Nat→Prop) (a:Act) (w:World),listed.size=ops.size→At (IA ops.toList) (dlF ds) st0 (fun m=>listed.getD m false) ops.toList.length st →
   (∀ i o,ops.toList[i]?=some o→listed.getD i false=true→∀ j∈jY o,listed.getD j false=true)→unl (fun m=>listed.getD m false) ops.toList.length≤fuel→Rel P M w0 σ Imm st a w→Evo st0 st σ0 σ Imm0 Imm w1 w →
   (∀ t,(∀ o∈ops.toList,o.dst≠some t)→a.tmps.getD t undef=a0.tmps.getD t undef)→wpAny P .any ops Q fuel listed a w:=by
 obtain ⟨g1,g2,g3,g4⟩:=htr.get
 have hpd:∀ i o,ops.toList[i]?=some o→∀ j∈jY o,j < i:=by
  simp only [OW,Bool.and_eq_true] at hin
  intro i o ho j hj
  have:=yf hin.1 i o ho j hj
  omega
 have hpred:∀ {o:Oper} {L:Nat→Bool},(∀ e∈o.after,Region.binds .any e=true→L e.on=true)↔∀ j∈jY o,L j=true:=by
  intro o L
  constructor
  ·intro h j hj
   obtain ⟨e,he,hb,rfl⟩:=yg.1 hj
   exact h e (by simpa using he) hb
  ·intro h e he hb
   exact h _ (yg.2 ⟨e,by simpa using he,hb,rfl⟩)
 have fin:∀ (listed:Array Bool) (st:St) (σ:Hd→aS) (Imm:Nat→Prop) (a:Act) (w:World),At (IA ops.toList) (dlF ds) st0 (fun m=>listed.getD m false) ops.toList.length st→Rel P M w0 σ Imm st a w→Evo st0 st σ0 σ Imm0 Imm w1 w →
   (∀ t,(∀ o∈ops.toList,o.dst≠some t)→a.tmps.getD t undef=a0.tmps.getD t undef)→(∀ m,m < ops.toList.length→listed.getD m false=true)→Q .normal a w:=by
  intro listed st σ Imm a w hA R ev hun hall
  have hB:=htr.at hd hl ops.toList.length st' g3 (Nat.le_refl _)
  have hC:=hA.congr (L':=lt ops.toList.length) fun m hm=>by rw [hall m hm];exact (decide_eq_true hm).symm
  have hT:∀ t,cZ st'.t t=cZ st.t t:=fun t=>by rw [hB.t,hC.t]
  have hO:∀ q,aj st'.h q=aj st.h q:=fun q=>by rw [hB.o,hC.o]
  exact hq σ Imm a w (R.congr (hB.tl.trans hC.tl.symm) (hB.hl.trans hC.hl.symm) hT hO) (ev.congr hO) hun
 have nor:∀ (listed:Array Bool),listed.size=ops.size→Region.ready .any ops listed=[]→∀ m,m < ops.toList.length→listed.getD m false=true:=by
  intro listed hsz hr m
  induction m using Nat.strongRecOn with
  | ind m ih =>
   intro hm
   apply Classical.byContradiction
   intro hn
   have hm':m < ops.size:=by simpa using hm
   have ho:=Array.getElem?_eq_getElem hm'
   have:m∈Region.ready .any ops listed:=by
    refine mem_ready.2 ⟨?_,_,ho,?_⟩
    ·rw [Array.getD_eq_getD_getElem?,Array.getElem?_eq_getElem (by omega),Option.getD_some] at hn ⊢
     simpa using hn
    ·refine (hpred (L:=fun j=>listed.getD j false)).2 fun j hj=>?_
     have:=hpd m _ (by rw [Array.getElem?_toList];exact ho) j hj
     exact ih j this (by omega)
   rw [hr] at this
   cases this
 intro fuel
 induction fuel with
 | zero =>
  intro listed st σ Imm a w hsz hA hcl hf R ev hun
  have hall:=Pp (Nat.le_zero.1 hf)
  refine ⟨?_,fin listed st σ Imm a w hA R ev hun hall⟩
  rw [List.eq_nil_iff_forall_not_mem]
  intro j hj
  obtain ⟨h1,o,h2,_⟩:=mem_ready.1 hj
  have hlt:j < ops.size:=(Array.getElem?_eq_some_iff.1 h2).1
  have h3:=hall j (by simpa using hlt)
  rw [Array.getD_eq_getD_getElem?,Array.getElem?_eq_getElem (by omega),Option.getD_some] at h1 h3
  rw [h1] at h3;cases h3
 | succ fuel ih =>
  intro listed st σ Imm a w hsz hA hcl hf R ev hun
  refine ⟨fun hr=>fin listed st σ Imm a w hA R ev hun (nor listed hsz hr),fun i hi=>?_⟩
  obtain ⟨h1,o,ho,hpre⟩:=mem_ready.1 hi
  have hlt:i < ops.size:=(Array.getElem?_eq_some_iff.1 ho).1
  have hltL:i < ops.toList.length:=by simpa using hlt
  have ho':ops.toList[i]?=some o:=by rw [Array.getElem?_toList];exact ho
  have hLi:listed.getD i false=false:=by
   rw [Array.getD_eq_getD_getElem?,Array.getElem?_eq_getElem (by omega),Option.getD_some] at h1 ⊢
   exact h1
  obtain ⟨δ,s,s1,k1,k2,k3,k4,k5⟩:=g4 i o ho'
  have hp:∀ j∈jY o,listed.getD j false=true:=(hpred (L:=fun j=>listed.getD j false)).1 hpre
  have hS:=htr.at hd hl i s k2 (by omega)
  have hfree:∀ m,m < ops.toList.length→m≠i→(listed.getD m false≠lt i m)→∀ om δm,ops.toList[m]?=some om→ds[m]?=some δm →
    Ll ⟨o.dst,kN (ops.toList.map (·.dst)) o,eU δ⟩ ⟨om.dst,kN (ops.toList.map (·.dst)) om,eU δm⟩∧Ll ⟨om.dst,kN (ops.toList.map (·.dst)) om,eU δm⟩ ⟨o.dst,kN (ops.toList.map (·.dst)) o,eU δ⟩:=by
   intro m hm hne hdiff om δm hom hδm
   rcases Nat.lt_or_gt_of_ne hne with hmi | hmi
   ·have hLm:listed.getD m false=false:=by simpa [lt,hmi] using hdiff
    refine IB hin g1 ho' hom k1 hδm hmi ?_
    cases hb:Nat.testBit ((No ops.toList []).getD i 0) m with
    | false=>rfl
    | true=>rw [Pm hcl i o ho' hp m hb] at hLm;cases hLm
   ·have hLm:listed.getD m false=true:=by simpa [lt,show ¬ m < i by omega] using hdiff
    refine (IB hin g1 hom ho' hδm k1 hmi ?_).symm
    cases hb:Nat.testBit ((No ops.toList []).getD m 0) i with
    | false=>rfl
    | true=>rw [Pm hcl m om hom (hcl m om hom hLm) i hb] at hLi;cases hLi
  have hget:∀ m,m < ops.toList.length→∃ om δm,ops.toList[m]?=some om∧ds[m]?=some δm∧IA ops.toList m=om.dst∧dlF ds m=δm:=by
   intro m hm
   have h1:=List.getElem?_eq_getElem hm
   have h2:=List.getElem?_eq_getElem (l:=ds) (i:=m) (by omega)
   exact ⟨_,_,h1,h2,by simp [IA,h1],by simp [dlF,List.getD_eq_getElem?_getD,h2]⟩
  have e1:IA ops.toList i=o.dst:=by simp [IA,ho']
  have e2:dlF ds i=δ:=by simp [dlF,List.getD_eq_getElem?_getD,k1]
  have hLi':∀ m,m=i→listed.getD m false=lt i m:=fun m e=>by rw [e,hLi];simp [lt]
  have hTs:∀ t∈kN (ops.toList.map (·.dst)) o,cZ st.t t=cZ s.t t:=by
   intro t ht
   rw [hA.t,hS.t]
   refine Iv fun m hm hne=>?_
   obtain ⟨om,δm,h1,h2,h3,h4⟩:=hget m hm
   have hmi:m≠i:=fun e=>hne (hLi' m e)
   rw [h3]
   intro hdst
   exact (hfree m hm hmi hne om δm h1 h2).2.u t hdst ht
  have hOs:lD s.h st.h (δ.rd++aq δ.wr):=by
   intro q hq
   rw [hA.o,hS.o]
   refine Iw fun m hm hne=>?_
   obtain ⟨om,δm,h1,h2,h3,h4⟩:=hget m hm
   have hmi:m≠i:=fun e=>hne (hLi' m e)
   rw [h3,h4]
   exact (hfree m hm hmi hne om δm h1 h2).2.eff hq
  have hD:It E (ops.toList.map (·.dst)) o st δ:=k4.seen hTs hOs
  have hdo:∀ k,o.dst=some k→k < st.t.length:=fun k hk=>by rw [hA.tl];exact hd o (List.mem_of_getElem? ho') k hk
  obtain ⟨st2,ha⟩:∃ st2,jv o.dst δ st=some st2:=by
   refine Tv k5 fun d hdst hnil=>?_
   apply Classical.byContradiction
   intro hne
   have:=(hA.c d).1 hne
   have h2:¬ oc (IA ops.toList) (dlF ds) st0 (lt i) ops.toList.length d:=fun h=>(hS.c d).2 h hnil
   refine h2 ((Ix fun m hm hne=>?_).1 this)
   obtain ⟨om,δm,h1,h2,h3,h4⟩:=hget m hm
   have hmi:m≠i:=fun e=>hne (hLi' m e)
   rw [h3]
   intro hdm
   exact (hfree m hm hmi hne om δm h1 h2).2.d d hdm hdst
  obtain ⟨b,_,hw,_⟩:=id hD
  have hA2:At (IA ops.toList) (dlF ds) st0 (ins (fun m=>listed.getD m false) i) ops.toList.length st2:=by
   refine hA.ins hLi hltL (by rw [e1,e2];exact ha) (by rw [e2];exact hw) (by rw [e1];exact hdo) (by rw [hA.hl,hA.tl];exact hl) (fun m h1 h2 h3 t ht=>?_) (fun m h1 h2 h3 q hq=>?_)
   ·obtain ⟨om,δm,j1,j2,j3,j4⟩:=hget m h2
    rw [j3] at ht
    rw [e1]
    exact (hfree m h2 (by omega) (by rw [h3];simp [lt];omega) om δm j1 j2).2.d t ht
   ·obtain ⟨om,δm,j1,j2,j3,j4⟩:=hget m h2
    rw [j3,j4] at hq
    rw [e1,e2]
    have hf:=hfree m h2 (by omega) (by rw [h3];simp [lt];omega) om δm j1 j2
    exact hf.2.eff2 hf.1 hq
  have hset:∀ m,(listed.setIfInBounds i true).getD m false=ins (fun m=>listed.getD m false) i m:=by
   intro m
   unfold ins
   rw [Array.getD_eq_getD_getElem?,Array.getElem?_setIfInBounds]
   by_cases e:i=m
   ·subst e
    rw [if_pos rfl,if_pos (by omega)]
    simp
   ·rw [if_neg e,← Array.getD_eq_getD_getElem?]
    have:(m == i)=false:=by simp;omega
    rw [this,Bool.false_or]
  have hset':(fun m=>(listed.setIfInBounds i true).getD m false)=ins (fun m=>listed.getD m false) i:=funext hset
  refine NA hE R hdo ho hD ha fun v σ' Imm' w' R' ev'=>?_
  refine ih (listed.setIfInBounds i true) st2 σ' Imm' _ w' (by simpa using hsz) (by rw [hset'];exact hA2) (fun k ok hok hk j hj=>?_) ?_ R' (ev.trans ev') (fun t ht=>?_)
  ·rw [hset] at hk ⊢
   simp only [ins,Bool.or_eq_true,beq_iff_eq] at hk ⊢
   rcases hk with rfl | hk
   ·rw [ho'] at hok;cases hok
    exact .inr (hp j hj)
   ·exact .inr (hcl k ok hok hk j hj)
  ·rw [hset']
   have:=RL (L:=fun m=>listed.getD m false) hLi (n:=ops.toList.length)
   rw [if_pos hltL] at this
   omega
  ·rw [← hun t ht]
   have hne:=ht o (List.mem_of_getElem? ho')
   cases hdst:o.dst with
   | none=>simp [Act.put]
   | some d =>
    rw [hdst] at hne
    have hne:d≠t:=fun e=>hne (by rw [e])
    simp [Act.put,Array.getD_eq_getD_getElem?,Array.getElem?_setIfInBounds,hne]
theorem TB {d:Option Nat} {δ:Dl} {st st':St} (h:jv d δ st=some st'):st'.t.length=st.t.length:=by
 unfold jv at h
 split at h
 ·split at h
  ·cases h;rfl
  ·cases h
 ·split at h
  ·cases h;simp
  ·split at h
   ·cases h;simp
   ·cases h
theorem Tr.len {dsts:List (Option Nat)} {os:List Oper} {st st':St} {ds:List Dl} {ss:List St} (h:Tr E dsts os st ds ss st'):st'.t.length=st.t.length:=by
 induction h with
 | nil=>rfl
 | cons _ ha _ ih=>exact ih.trans (TB ha)
theorem Sl {R':Type} {r:R'} {id:Nat} {ops:Array Oper} {draw:Bool} {Q:Exit→Act→World→Prop} {κ:St→Option R'} (hE:aE P E) (hm:P.follows .mixedOrders=true) {st:St} {σ:Hd→aS} {Imm:Nat→Prop} {a:Act} {w:World}
  (R:Rel P M w0 σ Imm st a w) (hd:∀ o∈ops.toList,∀ i,o.dst=some i→i < st.t.length) (h:Cw E ops.toList draw st κ=some r)
  (hq:∀ st' σ' Imm' a' w',κ st'=some r→st'.t.length=st.t.length→Rel P M w0 σ' Imm' st' a' w'→Evo st st' σ σ' Imm Imm' w w'→(∀ t,(∀ o∈ops.toList,o.dst≠some t)→a'.tmps.getD t undef=a.tmps.getD t undef)→Q .normal a' w'):(Code.region id ops draw).wp P Q a w:=by
 unfold Cw at h
 obtain ⟨ds,ss,st',htr,hk⟩:=rB h
 cases draw with
 | false =>
  refine wp_region ?_
  have:=H4 (Q:=Q) hE (k:=0) htr (fun j o ho=>by rw [Nat.zero_add,← Array.getElem?_toList];exact ho) R hd fun σ' I' a' w' R' ev hun=>hq st' σ' I' a' w' hk htr.len R' ev hun
  rw [← List.range_eq_range'] at this
  simpa using this
 | true =>
  simp only at hk
  split at hk
  ·rename_i hin
   refine wp_region_any hm ?_
   have hR:Rel P M w0 σ Imm st a w.drew:=by
    obtain ⟨h1,h2,h3,h4,h5,h6,h7,h8,h9,h10,h11⟩:=R
    have g:pU st.h σ σ Imm Imm w w.drew:=⟨fun _ _=>⟨rfl,rfl⟩,fun b hb hl=>⟨hb,hl,rfl⟩⟩
    exact ⟨h1,h2,h3,fun i=>(h4 i).goes g (h6 i),fun o=>(h5 o).goes g (fun _=>rfl) (fun ro ls e=>h7 o ro ls e) (fun _ _ _=>rfl),h6,h7,h8,h9,h10,h11.trans ((bg.drew w).mono fun _ _ h=>h.elim)⟩
   have hev:Evo st st σ σ Imm Imm w w.drew:=⟨⟨fun _ _=>⟨rfl,rfl⟩,fun b hb hl=>⟨hb,hl,rfl⟩⟩,fun _ h=>h,fun o ho=>⟨rfl,rfl,fun b hb=>⟨rfl,((R.nd o (by cases hx:aj st.h o <;> simp_all [aw.ro,aw.live])).2 b hb).1⟩⟩,Nat.le_refl _,fun _ _ h=>h⟩
   refine Uq (a0:=a) hE htr hin hd R.hlen (fun σ' I' a' w' R' ev hun=>hq st' σ' I' a' w' hk htr.len R' ev hun) ops.size (Array.replicate ops.size false) st σ Imm a _ (by simp) ?_ ?_ ?_ hR hev (fun _ _=>rfl)
   ·refine (At.zero _).congr fun m hm=>?_
    simp [lt,Array.getD_eq_getD_getElem?,Array.getElem?_replicate]
    split <;> rfl
   ·intro i o ho hL
    rw [Array.getD_eq_getD_getElem?,Array.getElem?_replicate] at hL
    split at hL <;> cases hL
   ·have:∀ n,unl (fun m=>(Array.replicate ops.size false).getD m false) n≤n:=by
     intro n
     induction n with
     | zero=>exact Nat.le_refl _
     | succ n ih=>simp only [unl];split <;> omega
    have:=this ops.toList.length
    simpa using this
  ·cases hk
end
end Go.Abs
