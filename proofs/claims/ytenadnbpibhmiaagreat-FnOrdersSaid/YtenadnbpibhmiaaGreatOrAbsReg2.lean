/- Part of a proof of FnOrders: see the row. -/
import Derived.Test.YtenadnbpibhmiaaGreatOrAbsReg
set_option linter.unusedVariables false
set_option linter.unusedSimpArgs false
namespace Go.Abs
open Go.RowKit
def dl0:Dl:={ v:=.any }
def fnd:List (Hd×aB)→Hd→Option aB
 | [],_=>none
 | (o,x) :: r,q=>if o=q then some x else fnd r q
def wj (d:Option Nat) (δ:Dl) (q:Hd):Option aB :=
 match fnd δ.wr q with
 | some x=>some x
 | none=>if d=some q.1∧δ.new≠[] then some (gV δ.new q.2) else none
section
variable (dst:Nat→Option Nat) (dl:Nat→Dl) (st0:St) (L:Nat→Bool)
def tv:Nat→Nat→AV
 | 0,t=>dx st0.t t
 | m + 1,t=>if L m=true∧dst m=some t then (dl m).v else tv m t
def ov:Nat→Hd→aB
 | 0,q=>al st0.h q
 | m + 1,q=>if L m=true then (wj (dst m) (dl m) q).getD (ov m q) else ov m q
def oc:Nat→Nat→Prop
 | 0,d=>bL st0.h d≠[]
 | m + 1,d=>(L m=true∧dst m=some d∧(dl m).new≠[])∨oc m d
structure At (n:Nat) (st:St):Prop where
 tl:st.t.length=st0.t.length
 hl:st.h.length=st0.h.length
 t:∀ t,dx st.t t=tv dst dl st0 L n t
 o:∀ q,al st.h q=ov dst dl st0 L n q
 c:∀ d,bL st.h d≠[]↔oc dst dl st0 L n d
end
theorem yv:∀ {ws:List (Hd×aB)} {q:Hd},fnd ws q=none↔q ∉ au ws
 | [],q=>by simp [fnd,au]
 | (o,x) :: r,q=>by
  simp only [fnd,au,List.mem_cons,not_or]
  by_cases h:o=q
  ·simp [h]
  ·rw [if_neg h,yv]
   exact ⟨fun k=>⟨fun e=>h e.symm,k⟩,fun k=>k.2⟩
theorem NS:∀ {ws:List (Hd×aB)} {o:Hd},BJ ws o=true↔o∈au ws
 | [],_=>by simp [au,BJ]
 | ((d,j),x) :: ws,(o1,o2)=>by
  unfold BJ
  simp only [au,List.mem_cons,Prod.mk.injEq]
  split
  ·rename_i h1 h2
   have h1:=Nat.eq_of_beq_eq_true h1
   have h2:=Nat.eq_of_beq_eq_true h2
   simp [h1,h2]
  ·rename_i hne
   rw [NS]
   constructor
   ·exact .inr
   ·rintro (⟨rfl,rfl⟩ | h)
    ·exact (hne (by simp) (by simp)).elim
    ·exact h
theorem ET {h:i4}:∀ {ws:List (Hd×aB)},HC h ws=true→(au ws).Nodup∧∀ o x,(o,x)∈ws→(al h o).there=true∧x.there=true
 | [],_=>⟨List.nodup_nil,fun _ _ h=>(by cases h)⟩
 | (o,x) :: r,hw=>by
  simp only [HC,Bool.and_eq_true,Bool.not_eq_true'] at hw
  obtain ⟨⟨h1,h2⟩,h3⟩:=hw
  obtain ⟨k1,k2⟩:=ET h3
  refine ⟨List.nodup_cons.2 ⟨fun hm=>(by rw [← NS,h2] at hm;cases hm),k1⟩,fun o' x' hm=>?_⟩
  rcases List.mem_cons.1 hm with e | hm
  ·cases e
   refine ⟨?_,?_⟩
   ·cases hg:(al h o) with
    | none=>rw [hg] at h1;simp at h1
    | _=>rfl
   ·cases x with
    | none=>cases hg:al h o <;> (rw [hg] at h1;simp at h1)
    | _=>rfl
  ·exact k2 o' x' hm
theorem HQ {h h':i4}:∀ {ws:List (Hd×aB)},lZ h h' (au ws)→HC h ws=true→HC h' ws=true
 | [],_,_=>rfl
 | (o,x) :: r,hs,hw=>by
  simp only [HC,Bool.and_eq_true,Bool.not_eq_true'] at hw ⊢
  obtain ⟨⟨h1,h2⟩,h3⟩:=hw
  refine ⟨⟨?_,h2⟩,HQ (hs.mono fun q hq=>by simp [au,hq]) h3⟩
  rw [hs o (by simp [au])]
  exact h1
theorem So {ws:List (Hd×aB)} (hn:(au ws).Nodup) {q:Hd} {x:aB} (h:(q,x)∈ws):fnd ws q=some x:=by
 induction ws with
 | nil=>cases h
 | cons y r ih =>
  obtain ⟨o,y⟩:=y
  simp only [au,List.nodup_cons] at hn
  rcases List.mem_cons.1 h with e | h
  ·cases e;simp [fnd]
  ·unfold fnd
   rw [if_neg,ih hn.2 h]
   rintro rfl
   exact hn.1 (by rw [dY];exact List.mem_map.2 ⟨_,h,rfl⟩)
theorem Q6 {h:i4} {ws:List (Hd×aB)} (hw:HC h ws=true) (q:Hd):al (bx ws h) q=(fnd ws q).getD (al h q):=by
 obtain ⟨h1,h2⟩:=ET hw
 obtain ⟨k1,k2⟩:=rS ws h h1 h2 q
 by_cases hq:q∈au ws
 ·have hq':=hq
  rw [dY] at hq'
  obtain ⟨⟨q',x⟩,hm,rfl⟩:=List.mem_map.1 hq'
  rw [k1 x hm,So h1 hm]
  rfl
 ·rw [k2 hq,yv.2 hq]
  rfl
theorem gE (ws:List (Hd×aB)) (h:i4) (d:Nat):bL (bx ws h) d=[]↔bL h d=[]:=by
 have:=tT ws h d
 constructor
 ·intro e;rw [e] at this;exact List.eq_nil_of_length_eq_zero this.symm
 ·intro e;rw [e] at this;exact List.eq_nil_of_length_eq_zero this
theorem Q7 {d:Option Nat} {δ:Dl} {st st':St} (h:jN d δ st=some st') (hw:HC st.h δ.wr=true) (hd:∀ i,d=some i→i < st.t.length) (hl:st.h.length=st.t.length) :
  st'.t.length=st.t.length∧st'.h.length=st.h.length∧(∀ t,dx st'.t t=if d=some t then δ.v else dx st.t t)∧(∀ q,al st'.h q=(wj d δ q).getD (al st.h q)) ∧
  ∀ s,bL st'.h s≠[]↔((d=some s∧δ.new≠[])∨bL st.h s≠[]):=by
 have hO:∀ q,al (bx δ.wr st.h) q=(fnd δ.wr q).getD (al st.h q):=Q6 hw
 unfold jN at h
 split at h
 ·split at h
  ·rename_i hn
   simp only [Option.some.injEq] at h
   subst h
   refine ⟨rfl,cg _ _,fun t=>by simp,fun q=>?_,fun s=>?_⟩
   ·simp only [hO,wj,hn];cases fnd δ.wr q <;> simp
   ·simp [gE,hn]
  ·cases h
 ·rename_i d'
  have hd':=hd d' rfl
  split at h
  ·rename_i hn
   simp only [Option.some.injEq] at h
   subst h
   refine ⟨by simp,cg _ _,fun t=>by simp only [Option.some.injEq];exact CT _ _ _ _ hd',fun q=>?_,fun s=>?_⟩
   ·simp only [hO,wj,hn];cases fnd δ.wr q <;> simp
   ·simp [gE,hn]
  ·rename_i hn
   split at h
   ·rename_i hg
    simp only [Option.some.injEq] at h
    subst h
    have hlen:d' < (bx δ.wr st.h).length:=by rw [cg,hl];exact hd'
    have hg':bL st.h d'=[]:=(gE _ _ _).1 hg
    refine ⟨by simp,by simp [cg],fun t=>by simp only [Option.some.injEq];exact CT _ _ _ _ hd',fun q=>?_,fun s=>?_⟩
    ·simp only
     rw [CX hlen q]
     by_cases e:d'=q.1
     ·rw [if_pos e]
      have hk:fnd δ.wr q=none:=by
       refine yv.2 fun hk=>?_
       rw [dY] at hk
       obtain ⟨⟨q',x⟩,hm,rfl⟩:=List.mem_map.1 hk
       have:=((ET hw).2 _ _ hm).1
       obtain ⟨q1,q2⟩:=q'
       simp only at e
       subst e
       rw [vn hg'] at this
       cases this
      unfold wj
      rw [hk]
      simp only
      rw [if_pos ⟨by rw [e],by intro e2;exact hn e2⟩]
      rfl
     ·rw [if_neg e,hO]
      unfold wj
      cases hf:fnd δ.wr q with
      | some x=>rfl
      | none =>
       simp only
       rw [if_neg (fun k=>e (by simpa using k.1))]
    ·simp only
     rw [CW]
     by_cases e:d'=s
     ·subst e
      rw [if_pos ⟨rfl,hlen⟩]
      exact ⟨fun _=>.inl ⟨rfl,fun e2=>hn e2⟩,fun _ e2=>hn e2⟩
     ·rw [if_neg (fun k=>e k.1)]
      have:=gE δ.wr st.h s
      constructor
      ·intro k;exact .inr fun e2=>k (this.2 e2)
      ·rintro (⟨k,_⟩ | k)
       ·simp only [Option.some.injEq] at k;exact absurd k e
       ·exact fun e2=>k (this.1 e2)
   ·cases h
theorem Sp {d:Option Nat} {δ:Dl} {st st1 st2:St} (h:jN d δ st=some st1) (hs:∀ s,d=some s→bL st.h s=[]→bL st2.h s=[]):∃ st3,jN d δ st2=some st3:=by
 unfold jN at h ⊢
 split at h
 ·split at h
  ·exact ⟨_,rfl⟩
  ·cases h
 ·rename_i d'
  split at h
  ·exact ⟨_,rfl⟩
  ·rename_i hn
   split at h
   ·rename_i hg
    have:=(gE δ.wr st2.h d').2 (hs d' rfl ((gE _ _ _).1 hg))
    simp only [this]
    exact ⟨_,rfl⟩
   ·cases h
section
variable {dst:Nat→Option Nat} {dl:Nat→Dl} {st0:St}
theorem HR {L L':Nat→Bool} {t:Nat}:∀ {n:Nat},(∀ m,m < n→L m≠L' m→dst m≠some t)→tv dst dl st0 L n t=tv dst dl st0 L' n t
 | 0,_=>rfl
 | n + 1,h=>by
  simp only [tv]
  rw [HR (n:=n) fun m hm=>h m (by omega)]
  by_cases e:L n=L' n
  ·rw [e]
  ·have:=h n (by omega) e
   simp [this]
theorem HS {L L':Nat→Bool} {q:Hd}:∀ {n:Nat},(∀ m,m < n→L m≠L' m→wj (dst m) (dl m) q=none)→ov dst dl st0 L n q=ov dst dl st0 L' n q
 | 0,_=>rfl
 | n + 1,h=>by
  simp only [ov]
  rw [HS (n:=n) fun m hm=>h m (by omega)]
  by_cases e:L n=L' n
  ·rw [e]
  ·have:=h n (by omega) e
   simp [this]
theorem HT {L L':Nat→Bool} {d:Nat}:∀ {n:Nat},(∀ m,m < n→L m≠L' m→dst m≠some d)→(oc dst dl st0 L n d↔oc dst dl st0 L' n d)
 | 0,_=>Iff.rfl
 | n + 1,h=>by
  simp only [oc]
  rw [HT (n:=n) fun m hm=>h m (by omega)]
  by_cases e:L n=L' n
  ·rw [e]
  ·have:=h n (by omega) e
   simp [this]
def ins (L:Nat→Bool) (i:Nat):Nat→Bool:=fun m=>m == i || L m
theorem Sq {L:Nat→Bool} {i t:Nat} (hi:L i=false):∀ {n:Nat},(∀ m,i < m→m < n→L m=true→dst m=some t→dst i≠some t) →
  tv dst dl st0 (ins L i) n t=if i < n∧dst i=some t then (dl i).v else tv dst dl st0 L n t
 | 0,_=>by simp [tv]
 | n + 1,h=>by
  simp only [tv]
  rw [Sq hi (n:=n) fun m h1 h2=>h m h1 (by omega)]
  by_cases e:n=i
  ·subst e
   have h1:ins L n n=true:=by simp [ins]
   simp [h1,hi]
  ·have h1:ins L i n=L n:=by simp [ins,e]
   rw [h1]
   by_cases hx:L n=true∧dst n=some t
   ·rw [if_pos hx,if_pos hx]
    by_cases hin:i < n + 1∧dst i=some t
    ·exact absurd hin.2 (h n (by omega) (by omega) hx.1 hx.2)
    ·rw [if_neg hin]
   ·rw [if_neg hx,if_neg hx]
    have:(i < n∧dst i=some t)↔(i < n + 1∧dst i=some t):=by constructor <;> rintro ⟨a,b⟩ <;> exact ⟨by omega,b⟩
    simp only [this]
theorem Sr {L:Nat→Bool} {i:Nat} {q:Hd} (hi:L i=false):∀ {n:Nat},(∀ m,i < m→m < n→L m=true→wj (dst m) (dl m) q≠none→wj (dst i) (dl i) q=none) →
  ov dst dl st0 (ins L i) n q=if i < n then (wj (dst i) (dl i) q).getD (ov dst dl st0 L n q) else ov dst dl st0 L n q
 | 0,_=>by simp [ov]
 | n + 1,h=>by
  simp only [ov]
  rw [Sr hi (n:=n) fun m h1 h2=>h m h1 (by omega)]
  by_cases e:n=i
  ·subst e
   have h1:ins L n n=true:=by simp [ins]
   simp [h1,hi]
  ·have h1:ins L i n=L n:=by simp [ins,e]
   rw [h1]
   by_cases hlt:i < n
   ·rw [if_pos hlt,if_pos (show i < n + 1 by omega)]
    by_cases hx:L n=true
    ·rw [if_pos hx,if_pos hx]
     cases hy:wj (dst n) (dl n) q with
     | none=>rfl
     | some y=>rw [h n hlt (by omega) hx (by rw [hy];simp)];rfl
    ·rw [if_neg hx,if_neg hx]
   ·rw [if_neg hlt,if_neg (show ¬ i < n + 1 by omega)]
theorem Ss {L:Nat→Bool} {i d:Nat} (hi:L i=false):∀ {n:Nat},oc dst dl st0 (ins L i) n d↔((i < n∧dst i=some d∧(dl i).new≠[])∨oc dst dl st0 L n d)
 | 0=>by simp [oc]
 | n + 1=>by
  simp only [oc]
  rw [Ss hi (n:=n)]
  by_cases e:n=i
  ·subst e
   have h1:ins L n n=true:=by simp [ins]
   simp [h1,hi]
  ·have h1:ins L i n=L n:=by simp [ins,e]
   rw [h1]
   have:(i < n∧dst i=some d∧(dl i).new≠[])↔(i < n + 1∧dst i=some d∧(dl i).new≠[]):=by constructor <;> rintro ⟨a,b⟩ <;> exact ⟨by omega,b⟩
   rw [this]
   exact or_left_comm
theorem At.ins {L:Nat→Bool} {i n:Nat} {st st':St} (hA:At dst dl st0 L n st) (hi:L i=false) (hin:i < n) (ha:jN (dst i) (dl i) st=some st') (hw:HC st.h (dl i).wr=true)
  (hd:∀ k,dst i=some k→k < st.t.length) (hl:st.h.length=st.t.length)
  (h1:∀ m,i < m→m < n→L m=true→∀ t,dst m=some t→dst i≠some t)
  (h2:∀ m,i < m→m < n→L m=true→∀ q,wj (dst m) (dl m) q≠none→wj (dst i) (dl i) q=none):At dst dl st0 (Abs.ins L i) n st':=by
 obtain ⟨a1,a2,a3,a4,a5⟩:=Q7 ha hw hd hl
 refine ⟨a1.trans hA.tl,a2.trans hA.hl,fun t=>?_,fun q=>?_,fun d=>?_⟩
 ·rw [a3,Sq hi fun m k1 k2 k3 k4=>h1 m k1 k2 k3 t k4,hA.t]
  simp [hin]
 ·rw [a4,Sr hi fun m k1 k2 k3 k4=>h2 m k1 k2 k3 q k4,if_pos hin,hA.o]
 ·rw [a5,Ss hi,hA.c]
  simp [hin]
end
end Go.Abs
