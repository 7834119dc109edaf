/- Part of a proof of FnExactDoOrder: see the row. -/
import Derived.Test.YtenadnbpibhmiaaGreatDoAbsReg
set_option linter.unusedVariables false
set_option linter.unusedSimpArgs false
namespace Go.Abs
open Go.RowKit
def dl0:Dl:={ v:=.any }
def fnd:List (Hd×aw)→Hd→Option aw
 | [],_=>none
 | (o,x) :: r,q=>if o=q then some x else fnd r q
def vo (d:Option Nat) (δ:Dl) (q:Hd):Option aw :=
 match fnd δ.wr q with
 | some x=>some x
 | none=>if d=some q.1∧δ.new≠[] then some (gk δ.new q.2) else none
section
variable (dst:Nat→Option Nat) (dl:Nat→Dl) (st0:St) (L:Nat→Bool)
def tv:Nat→Nat→AV
 | 0,t=>cY st0.t t
 | m + 1,t=>if L m=true∧dst m=some t then (dl m).v else tv m t
def ov:Nat→Hd→aw
 | 0,q=>aj st0.h q
 | m + 1,q=>if L m=true then (vo (dst m) (dl m) q).getD (ov m q) else ov m q
def oc:Nat→Nat→Prop
 | 0,d=>bx st0.h d≠[]
 | m + 1,d=>(L m=true∧dst m=some d∧(dl m).new≠[])∨oc m d
structure At (n:Nat) (st:St):Prop where
 tl:st.t.length=st0.t.length
 hl:st.h.length=st0.h.length
 t:∀ t,cY st.t t=tv dst dl st0 L n t
 o:∀ q,aj st.h q=ov dst dl st0 L n q
 c:∀ d,bx st.h d≠[]↔oc dst dl st0 L n d
end
theorem xW:∀ {ws:List (Hd×aw)} {q:Hd},fnd ws q=none↔q ∉ aq ws
 | [],q=>by simp [fnd,aq]
 | (o,x) :: r,q=>by
  simp only [fnd,aq,List.mem_cons,not_or]
  by_cases h:o=q
  ·simp [h]
  ·rw [if_neg h,xW]
   exact ⟨fun k=>⟨fun e=>h e.symm,k⟩,fun k=>k.2⟩
theorem OX:∀ {ws:List (Hd×aw)} {o:Hd},A8 ws o=true↔o∈aq ws
 | [],_=>by simp [aq,A8]
 | ((d,j),x) :: ws,(o1,o2)=>by
  unfold A8
  simp only [aq,List.mem_cons,Prod.mk.injEq]
  split
  ·rename_i h1 h2
   have h1:=Nat.eq_of_beq_eq_true h1
   have h2:=Nat.eq_of_beq_eq_true h2
   simp [h1,h2]
  ·rename_i hne
   rw [OX]
   constructor
   ·exact .inr
   ·rintro (⟨rfl,rfl⟩ | h)
    ·exact (hne (by simp) (by simp)).elim
    ·exact h
theorem Ev {h:iB}:∀ {ws:List (Hd×aw)},HQ h ws=true→(aq ws).Nodup∧∀ o x,(o,x)∈ws→(aj h o).there=true∧x.there=true
 | [],_=>⟨List.nodup_nil,fun _ _ h=>(by cases h)⟩
 | (o,x) :: r,hw=>by
  simp only [HQ,Bool.and_eq_true,Bool.not_eq_true'] at hw
  obtain ⟨⟨h1,h2⟩,h3⟩:=hw
  obtain ⟨k1,k2⟩:=Ev h3
  refine ⟨List.nodup_cons.2 ⟨fun hm=>(by rw [← OX,h2] at hm;cases hm),k1⟩,fun o' x' hm=>?_⟩
  rcases List.mem_cons.1 hm with e | hm
  ·cases e
   refine ⟨?_,?_⟩
   ·cases hg:(aj h o) with
    | none=>rw [hg] at h1;simp at h1
    | _=>rfl
   ·cases x with
    | none=>cases hg:aj h o <;> (rw [hg] at h1;simp at h1)
    | _=>rfl
  ·exact k2 o' x' hm
theorem H4 {h h':iB}:∀ {ws:List (Hd×aw)},lC h h' (aq ws)→HQ h ws=true→HQ h' ws=true
 | [],_,_=>rfl
 | (o,x) :: r,hs,hw=>by
  simp only [HQ,Bool.and_eq_true,Bool.not_eq_true'] at hw ⊢
  obtain ⟨⟨h1,h2⟩,h3⟩:=hw
  refine ⟨⟨?_,h2⟩,H4 (hs.mono fun q hq=>by simp [aq,hq]) h3⟩
  rw [hs o (by simp [aq])]
  exact h1
theorem S2 {ws:List (Hd×aw)} (hn:(aq ws).Nodup) {q:Hd} {x:aw} (h:(q,x)∈ws):fnd ws q=some x:=by
 induction ws with
 | nil=>cases h
 | cons y r ih =>
  obtain ⟨o,y⟩:=y
  simp only [aq,List.nodup_cons] at hn
  rcases List.mem_cons.1 h with e | h
  ·cases e;simp [fnd]
  ·unfold fnd
   rw [if_neg,ih hn.2 h]
   rintro rfl
   exact hn.1 (by rw [dG];exact List.mem_map.2 ⟨_,h,rfl⟩)
theorem RP {h:iB} {ws:List (Hd×aw)} (hw:HQ h ws=true) (q:Hd):aj (bf ws h) q=(fnd ws q).getD (aj h q):=by
 obtain ⟨h1,h2⟩:=Ev hw
 obtain ⟨k1,k2⟩:=rh ws h h1 h2 q
 by_cases hq:q∈aq ws
 ·have hq':=hq
  rw [dG] at hq'
  obtain ⟨⟨q',x⟩,hm,rfl⟩:=List.mem_map.1 hq'
  rw [k1 x hm,S2 h1 hm]
  rfl
 ·rw [k2 hq,xW.2 hq]
  rfl
theorem fV (ws:List (Hd×aw)) (h:iB) (d:Nat):bx (bf ws h) d=[]↔bx h d=[]:=by
 have:=sH ws h d
 constructor
 ·intro e;rw [e] at this;exact List.eq_nil_of_length_eq_zero this.symm
 ·intro e;rw [e] at this;exact List.eq_nil_of_length_eq_zero this
theorem RQ {d:Option Nat} {δ:Dl} {st st':St} (h:ju d δ st=some st') (hw:HQ st.h δ.wr=true) (hd:∀ i,d=some i→i < st.t.length) (hl:st.h.length=st.t.length) :
  st'.t.length=st.t.length∧st'.h.length=st.h.length∧(∀ t,cY st'.t t=if d=some t then δ.v else cY st.t t)∧(∀ q,aj st'.h q=(vo d δ q).getD (aj st.h q)) ∧
  ∀ s,bx st'.h s≠[]↔((d=some s∧δ.new≠[])∨bx st.h s≠[]):=by
 have hO:∀ q,aj (bf δ.wr st.h) q=(fnd δ.wr q).getD (aj st.h q):=RP hw
 unfold ju at h
 split at h
 ·split at h
  ·rename_i hn
   simp only [Option.some.injEq] at h
   subst h
   refine ⟨rfl,bS _ _,fun t=>by simp,fun q=>?_,fun s=>?_⟩
   ·simp only [hO,vo,hn];cases fnd δ.wr q <;> simp
   ·simp [fV,hn]
  ·cases h
 ·rename_i d'
  have hd':=hd d' rfl
  split at h
  ·rename_i hn
   simp only [Option.some.injEq] at h
   subst h
   refine ⟨by simp,bS _ _,fun t=>by simp only [Option.some.injEq];exact Cj _ _ _ _ hd',fun q=>?_,fun s=>?_⟩
   ·simp only [hO,vo,hn];cases fnd δ.wr q <;> simp
   ·simp [fV,hn]
  ·rename_i hn
   split at h
   ·rename_i hg
    simp only [Option.some.injEq] at h
    subst h
    have hlen:d' < (bf δ.wr st.h).length:=by rw [bS,hl];exact hd'
    have hg':bx st.h d'=[]:=(fV _ _ _).1 hg
    refine ⟨by simp,by simp [bS],fun t=>by simp only [Option.some.injEq];exact Cj _ _ _ _ hd',fun q=>?_,fun s=>?_⟩
    ·simp only
     rw [Cn hlen q]
     by_cases e:d'=q.1
     ·rw [if_pos e]
      have hk:fnd δ.wr q=none:=by
       refine xW.2 fun hk=>?_
       rw [dG] at hk
       obtain ⟨⟨q',x⟩,hm,rfl⟩:=List.mem_map.1 hk
       have:=((Ev hw).2 _ _ hm).1
       obtain ⟨q1,q2⟩:=q'
       simp only at e
       subst e
       rw [ue hg'] at this
       cases this
      unfold vo
      rw [hk]
      simp only
      rw [if_pos ⟨by rw [e],by intro e2;exact hn e2⟩]
      rfl
     ·rw [if_neg e,hO]
      unfold vo
      cases hf:fnd δ.wr q with
      | some x=>rfl
      | none =>
       simp only
       rw [if_neg (fun k=>e (by simpa using k.1))]
    ·simp only
     rw [Cm]
     by_cases e:d'=s
     ·subst e
      rw [if_pos ⟨rfl,hlen⟩]
      exact ⟨fun _=>.inl ⟨rfl,fun e2=>hn e2⟩,fun _ e2=>hn e2⟩
     ·rw [if_neg (fun k=>e k.1)]
      have:=fV δ.wr st.h s
      constructor
      ·intro k;exact .inr fun e2=>k (this.2 e2)
      ·rintro (⟨k,_⟩ | k)
       ·simp only [Option.some.injEq] at k;exact absurd k e
       ·exact fun e2=>k (this.1 e2)
   ·cases h
theorem S3 {d:Option Nat} {δ:Dl} {st st1 st2:St} (h:ju d δ st=some st1) (hs:∀ s,d=some s→bx st.h s=[]→bx st2.h s=[]):∃ st3,ju d δ st2=some st3:=by
 unfold ju at h ⊢
 split at h
 ·split at h
  ·exact ⟨_,rfl⟩
  ·cases h
 ·rename_i d'
  split at h
  ·exact ⟨_,rfl⟩
  ·rename_i hn
   split at h
   ·rename_i hg
    have:=(fV δ.wr st2.h d').2 (hs d' rfl ((fV _ _ _).1 hg))
    simp only [this]
    exact ⟨_,rfl⟩
   ·cases h
section
variable {dst:Nat→Option Nat} {dl:Nat→Dl} {st0:St}
theorem H5 {L L':Nat→Bool} {t:Nat}:∀ {n:Nat},(∀ m,m < n→L m≠L' m→dst m≠some t)→tv dst dl st0 L n t=tv dst dl st0 L' n t
 | 0,_=>rfl
 | n + 1,h=>by
  simp only [tv]
  rw [H5 (n:=n) fun m hm=>h m (by omega)]
  by_cases e:L n=L' n
  ·rw [e]
  ·have:=h n (by omega) e
   simp [this]
theorem H6 {L L':Nat→Bool} {q:Hd}:∀ {n:Nat},(∀ m,m < n→L m≠L' m→vo (dst m) (dl m) q=none)→ov dst dl st0 L n q=ov dst dl st0 L' n q
 | 0,_=>rfl
 | n + 1,h=>by
  simp only [ov]
  rw [H6 (n:=n) fun m hm=>h m (by omega)]
  by_cases e:L n=L' n
  ·rw [e]
  ·have:=h n (by omega) e
   simp [this]
theorem H7 {L L':Nat→Bool} {d:Nat}:∀ {n:Nat},(∀ m,m < n→L m≠L' m→dst m≠some d)→(oc dst dl st0 L n d↔oc dst dl st0 L' n d)
 | 0,_=>Iff.rfl
 | n + 1,h=>by
  simp only [oc]
  rw [H7 (n:=n) fun m hm=>h m (by omega)]
  by_cases e:L n=L' n
  ·rw [e]
  ·have:=h n (by omega) e
   simp [this]
def ins (L:Nat→Bool) (i:Nat):Nat→Bool:=fun m=>m == i || L m
theorem S4 {L:Nat→Bool} {i t:Nat} (hi:L i=false):∀ {n:Nat},(∀ m,i < m→m < n→L m=true→dst m=some t→dst i≠some t) →
  tv dst dl st0 (ins L i) n t=if i < n∧dst i=some t then (dl i).v else tv dst dl st0 L n t
 | 0,_=>by simp [tv]
 | n + 1,h=>by
  simp only [tv]
  rw [S4 hi (n:=n) fun m h1 h2=>h m h1 (by omega)]
  by_cases e:n=i
  ·subst e
   have h1:ins L n n=true:=by simp [ins]
   simp [h1,hi]
  ·have h1:ins L i n=L n:=by simp [ins,e]
   rw [h1]
   by_cases hx:L n=true∧dst n=some t
   ·rw [if_pos hx,if_pos hx]
    by_cases hin:i < n + 1∧dst i=some t
    ·exact absurd hin.2 (h n (by omega) (by omega) hx.1 hx.2)
    ·rw [if_neg hin]
   ·rw [if_neg hx,if_neg hx]
    have:(i < n∧dst i=some t)↔(i < n + 1∧dst i=some t):=by constructor <;> rintro ⟨a,b⟩ <;> exact ⟨by omega,b⟩
    simp only [this]
theorem S5 {L:Nat→Bool} {i:Nat} {q:Hd} (hi:L i=false):∀ {n:Nat},(∀ m,i < m→m < n→L m=true→vo (dst m) (dl m) q≠none→vo (dst i) (dl i) q=none) →
  ov dst dl st0 (ins L i) n q=if i < n then (vo (dst i) (dl i) q).getD (ov dst dl st0 L n q) else ov dst dl st0 L n q
 | 0,_=>by simp [ov]
 | n + 1,h=>by
  simp only [ov]
  rw [S5 hi (n:=n) fun m h1 h2=>h m h1 (by omega)]
  by_cases e:n=i
  ·subst e
   have h1:ins L n n=true:=by simp [ins]
   simp [h1,hi]
  ·have h1:ins L i n=L n:=by simp [ins,e]
   rw [h1]
   by_cases hlt:i < n
   ·rw [if_pos hlt,if_pos (show i < n + 1 by omega)]
    by_cases hx:L n=true
    ·rw [if_pos hx,if_pos hx]
     cases hy:vo (dst n) (dl n) q with
     | none=>rfl
     | some y=>rw [h n hlt (by omega) hx (by rw [hy];simp)];rfl
    ·rw [if_neg hx,if_neg hx]
   ·rw [if_neg hlt,if_neg (show ¬ i < n + 1 by omega)]
theorem S6 {L:Nat→Bool} {i d:Nat} (hi:L i=false):∀ {n:Nat},oc dst dl st0 (ins L i) n d↔((i < n∧dst i=some d∧(dl i).new≠[])∨oc dst dl st0 L n d)
 | 0=>by simp [oc]
 | n + 1=>by
  simp only [oc]
  rw [S6 hi (n:=n)]
  by_cases e:n=i
  ·subst e
   have h1:ins L n n=true:=by simp [ins]
   simp [h1,hi]
  ·have h1:ins L i n=L n:=by simp [ins,e]
   rw [h1]
   have:(i < n∧dst i=some d∧(dl i).new≠[])↔(i < n + 1∧dst i=some d∧(dl i).new≠[]):=by constructor <;> rintro ⟨a,b⟩ <;> exact ⟨by omega,b⟩
   rw [this]
   exact or_left_comm
theorem At.ins {L:Nat→Bool} {i n:Nat} {st st':St} (hA:At dst dl st0 L n st) (hi:L i=false) (hin:i < n) (ha:ju (dst i) (dl i) st=some st') (hw:HQ st.h (dl i).wr=true)
  (hd:∀ k,dst i=some k→k < st.t.length) (hl:st.h.length=st.t.length)
  (h1:∀ m,i < m→m < n→L m=true→∀ t,dst m=some t→dst i≠some t)
  (h2:∀ m,i < m→m < n→L m=true→∀ q,vo (dst m) (dl m) q≠none→vo (dst i) (dl i) q=none):At dst dl st0 (Abs.ins L i) n st':=by
 obtain ⟨a1,a2,a3,a4,a5⟩:=RQ ha hw hd hl
 refine ⟨a1.trans hA.tl,a2.trans hA.hl,fun t=>?_,fun q=>?_,fun d=>?_⟩
 ·rw [a3,S4 hi fun m k1 k2 k3 k4=>h1 m k1 k2 k3 t k4,hA.t]
  simp [hin]
 ·rw [a4,S5 hi fun m k1 k2 k3 k4=>h2 m k1 k2 k3 q k4,if_pos hin,hA.o]
 ·rw [a5,S6 hi,hA.c]
  simp [hin]
end
end Go.Abs
