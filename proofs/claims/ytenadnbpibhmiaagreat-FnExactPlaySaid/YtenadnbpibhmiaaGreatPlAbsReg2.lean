/- Part of a proof of FnExactPlay: see the row. -/
import Derived.Test.YtenadnbpibhmiaaGreatPlAbsReg
set_option linter.unusedVariables false
set_option linter.unusedSimpArgs false
namespace Go.Abs
open Go.RowKit
def dl0:Dl:={ v:=.any }
def fnd:List (Hd×aw)→Hd→Option aw
 | [],_=>none
 | (o,x) :: r,q=>if o=q then some x else fnd r q
def vD (d:Option Nat) (δ:Dl) (q:Hd):Option aw :=
 match fnd δ.wr q with
 | some x=>some x
 | none=>if d=some q.1∧δ.new≠[] then some (gn δ.new q.2) else none
section
variable (dst:Nat→Option Nat) (dl:Nat→Dl) (st0:St) (L:Nat→Bool)
def tv:Nat→Nat→AV
 | 0,t=>cZ st0.t t
 | m + 1,t=>if L m=true∧dst m=some t then (dl m).v else tv m t
def ov:Nat→Hd→aw
 | 0,q=>aj st0.h q
 | m + 1,q=>if L m=true then (vD (dst m) (dl m) q).getD (ov m q) else ov m q
def oc:Nat→Nat→Prop
 | 0,d=>bx st0.h d≠[]
 | m + 1,d=>(L m=true∧dst m=some d∧(dl m).new≠[])∨oc m d
structure At (n:Nat) (st:St):Prop where
 tl:st.t.length=st0.t.length
 hl:st.h.length=st0.h.length
 t:∀ t,cZ st.t t=tv dst dl st0 L n t
 o:∀ q,aj st.h q=ov dst dl st0 L n q
 c:∀ d,bx st.h d≠[]↔oc dst dl st0 L n d
end
theorem yd:∀ {ws:List (Hd×aw)} {q:Hd},fnd ws q=none↔q ∉ aq ws
 | [],q=>by simp [fnd,aq]
 | (o,x) :: r,q=>by
  simp only [fnd,aq,List.mem_cons,not_or]
  by_cases h:o=q
  ·simp [h]
  ·rw [if_neg h,yd]
   exact ⟨fun k=>⟨fun e=>h e.symm,k⟩,fun k=>k.2⟩
theorem Pl:∀ {ws:List (Hd×aw)} {o:Hd},Bi ws o=true↔o∈aq ws
 | [],_=>by simp [aq,Bi]
 | ((d,j),x) :: ws,(o1,o2)=>by
  unfold Bi
  simp only [aq,List.mem_cons,Prod.mk.injEq]
  split
  ·rename_i h1 h2
   have h1:=Nat.eq_of_beq_eq_true h1
   have h2:=Nat.eq_of_beq_eq_true h2
   simp [h1,h2]
  ·rename_i hne
   rw [Pl]
   constructor
   ·exact .inr
   ·rintro (⟨rfl,rfl⟩ | h)
    ·exact (hne (by simp) (by simp)).elim
    ·exact h
theorem EK {h:iD}:∀ {ws:List (Hd×aw)},Ig h ws=true→(aq ws).Nodup∧∀ o x,(o,x)∈ws→(aj h o).there=true∧x.there=true
 | [],_=>⟨List.nodup_nil,fun _ _ h=>(by cases h)⟩
 | (o,x) :: r,hw=>by
  simp only [Ig,Bool.and_eq_true,Bool.not_eq_true'] at hw
  obtain ⟨⟨h1,h2⟩,h3⟩:=hw
  obtain ⟨k1,k2⟩:=EK h3
  refine ⟨List.nodup_cons.2 ⟨fun hm=>(by rw [← Pl,h2] at hm;cases hm),k1⟩,fun o' x' hm=>?_⟩
  rcases List.mem_cons.1 hm with e | hm
  ·cases e
   refine ⟨?_,?_⟩
   ·cases hg:(aj h o) with
    | none=>rw [hg] at h1;simp at h1
    | _=>rfl
   ·cases x with
    | none=>cases hg:aj h o <;> (rw [hg] at h1;simp at h1)
    | _=>rfl
  ·exact k2 o' x' hm
theorem Iu {h h':iD}:∀ {ws:List (Hd×aw)},lD h h' (aq ws)→Ig h ws=true→Ig h' ws=true
 | [],_,_=>rfl
 | (o,x) :: r,hs,hw=>by
  simp only [Ig,Bool.and_eq_true,Bool.not_eq_true'] at hw ⊢
  obtain ⟨⟨h1,h2⟩,h3⟩:=hw
  refine ⟨⟨?_,h2⟩,Iu (hs.mono fun q hq=>by simp [aq,hq]) h3⟩
  rw [hs o (by simp [aq])]
  exact h1
theorem Tu {ws:List (Hd×aw)} (hn:(aq ws).Nodup) {q:Hd} {x:aw} (h:(q,x)∈ws):fnd ws q=some x:=by
 induction ws with
 | nil=>cases h
 | cons y r ih =>
  obtain ⟨o,y⟩:=y
  simp only [aq,List.nodup_cons] at hn
  rcases List.mem_cons.1 h with e | h
  ·cases e;simp [fnd]
  ·unfold fnd
   rw [if_neg,ih hn.2 h]
   rintro rfl
   exact hn.1 (by rw [dG];exact List.mem_map.2 ⟨_,h,rfl⟩)
theorem Sj {h:iD} {ws:List (Hd×aw)} (hw:Ig h ws=true) (q:Hd):aj (bf ws h) q=(fnd ws q).getD (aj h q):=by
 obtain ⟨h1,h2⟩:=EK hw
 obtain ⟨k1,k2⟩:=rt ws h h1 h2 q
 by_cases hq:q∈aq ws
 ·have hq':=hq
  rw [dG] at hq'
  obtain ⟨⟨q',x⟩,hm,rfl⟩:=List.mem_map.1 hq'
  rw [k1 x hm,Tu h1 hm]
  rfl
 ·rw [k2 hq,yd.2 hq]
  rfl
theorem fX (ws:List (Hd×aw)) (h:iD) (d:Nat):bx (bf ws h) d=[]↔bx h d=[]:=by
 have:=sO ws h d
 constructor
 ·intro e;rw [e] at this;exact List.eq_nil_of_length_eq_zero this.symm
 ·intro e;rw [e] at this;exact List.eq_nil_of_length_eq_zero this
theorem Sk {d:Option Nat} {δ:Dl} {st st':St} (h:jv d δ st=some st') (hw:Ig st.h δ.wr=true) (hd:∀ i,d=some i→i < st.t.length) (hl:st.h.length=st.t.length) :
  st'.t.length=st.t.length∧st'.h.length=st.h.length∧(∀ t,cZ st'.t t=if d=some t then δ.v else cZ st.t t)∧(∀ q,aj st'.h q=(vD d δ q).getD (aj st.h q)) ∧
  ∀ s,bx st'.h s≠[]↔((d=some s∧δ.new≠[])∨bx st.h s≠[]):=by
 have hO:∀ q,aj (bf δ.wr st.h) q=(fnd δ.wr q).getD (aj st.h q):=Sj hw
 unfold jv at h
 split at h
 ·split at h
  ·rename_i hn
   simp only [Option.some.injEq] at h
   subst h
   refine ⟨rfl,bT _ _,fun t=>by simp,fun q=>?_,fun s=>?_⟩
   ·simp only [hO,vD,hn];cases fnd δ.wr q <;> simp
   ·simp [fX,hn]
  ·cases h
 ·rename_i d'
  have hd':=hd d' rfl
  split at h
  ·rename_i hn
   simp only [Option.some.injEq] at h
   subst h
   refine ⟨by simp,bT _ _,fun t=>by simp only [Option.some.injEq];exact Cx _ _ _ _ hd',fun q=>?_,fun s=>?_⟩
   ·simp only [hO,vD,hn];cases fnd δ.wr q <;> simp
   ·simp [fX,hn]
  ·rename_i hn
   split at h
   ·rename_i hg
    simp only [Option.some.injEq] at h
    subst h
    have hlen:d' < (bf δ.wr st.h).length:=by rw [bT,hl];exact hd'
    have hg':bx st.h d'=[]:=(fX _ _ _).1 hg
    refine ⟨by simp,by simp [bT],fun t=>by simp only [Option.some.injEq];exact Cx _ _ _ _ hd',fun q=>?_,fun s=>?_⟩
    ·simp only
     rw [CB hlen q]
     by_cases e:d'=q.1
     ·rw [if_pos e]
      have hk:fnd δ.wr q=none:=by
       refine yd.2 fun hk=>?_
       rw [dG] at hk
       obtain ⟨⟨q',x⟩,hm,rfl⟩:=List.mem_map.1 hk
       have:=((EK hw).2 _ _ hm).1
       obtain ⟨q1,q2⟩:=q'
       simp only at e
       subst e
       rw [ul hg'] at this
       cases this
      unfold vD
      rw [hk]
      simp only
      rw [if_pos ⟨by rw [e],by intro e2;exact hn e2⟩]
      rfl
     ·rw [if_neg e,hO]
      unfold vD
      cases hf:fnd δ.wr q with
      | some x=>rfl
      | none =>
       simp only
       rw [if_neg (fun k=>e (by simpa using k.1))]
    ·simp only
     rw [CA]
     by_cases e:d'=s
     ·subst e
      rw [if_pos ⟨rfl,hlen⟩]
      exact ⟨fun _=>.inl ⟨rfl,fun e2=>hn e2⟩,fun _ e2=>hn e2⟩
     ·rw [if_neg (fun k=>e k.1)]
      have:=fX δ.wr st.h s
      constructor
      ·intro k;exact .inr fun e2=>k (this.2 e2)
      ·rintro (⟨k,_⟩ | k)
       ·simp only [Option.some.injEq] at k;exact absurd k e
       ·exact fun e2=>k (this.1 e2)
   ·cases h
theorem Tv {d:Option Nat} {δ:Dl} {st st1 st2:St} (h:jv d δ st=some st1) (hs:∀ s,d=some s→bx st.h s=[]→bx st2.h s=[]):∃ st3,jv d δ st2=some st3:=by
 unfold jv at h ⊢
 split at h
 ·split at h
  ·exact ⟨_,rfl⟩
  ·cases h
 ·rename_i d'
  split at h
  ·exact ⟨_,rfl⟩
  ·rename_i hn
   split at h
   ·rename_i hg
    have:=(fX δ.wr st2.h d').2 (hs d' rfl ((fX _ _ _).1 hg))
    simp only [this]
    exact ⟨_,rfl⟩
   ·cases h
section
variable {dst:Nat→Option Nat} {dl:Nat→Dl} {st0:St}
theorem Iv {L L':Nat→Bool} {t:Nat}:∀ {n:Nat},(∀ m,m < n→L m≠L' m→dst m≠some t)→tv dst dl st0 L n t=tv dst dl st0 L' n t
 | 0,_=>rfl
 | n + 1,h=>by
  simp only [tv]
  rw [Iv (n:=n) fun m hm=>h m (by omega)]
  by_cases e:L n=L' n
  ·rw [e]
  ·have:=h n (by omega) e
   simp [this]
theorem Iw {L L':Nat→Bool} {q:Hd}:∀ {n:Nat},(∀ m,m < n→L m≠L' m→vD (dst m) (dl m) q=none)→ov dst dl st0 L n q=ov dst dl st0 L' n q
 | 0,_=>rfl
 | n + 1,h=>by
  simp only [ov]
  rw [Iw (n:=n) fun m hm=>h m (by omega)]
  by_cases e:L n=L' n
  ·rw [e]
  ·have:=h n (by omega) e
   simp [this]
theorem Ix {L L':Nat→Bool} {d:Nat}:∀ {n:Nat},(∀ m,m < n→L m≠L' m→dst m≠some d)→(oc dst dl st0 L n d↔oc dst dl st0 L' n d)
 | 0,_=>Iff.rfl
 | n + 1,h=>by
  simp only [oc]
  rw [Ix (n:=n) fun m hm=>h m (by omega)]
  by_cases e:L n=L' n
  ·rw [e]
  ·have:=h n (by omega) e
   simp [this]
def ins (L:Nat→Bool) (i:Nat):Nat→Bool:=fun m=>m == i || L m
theorem Tw {L:Nat→Bool} {i t:Nat} (hi:L i=false):∀ {n:Nat},(∀ m,i < m→m < n→L m=true→dst m=some t→dst i≠some t) →
  tv dst dl st0 (ins L i) n t=if i < n∧dst i=some t then (dl i).v else tv dst dl st0 L n t
 | 0,_=>by simp [tv]
 | n + 1,h=>by
  simp only [tv]
  rw [Tw hi (n:=n) fun m h1 h2=>h m h1 (by omega)]
  by_cases e:n=i
  ·subst e
   have h1:ins L n n=true:=by simp [ins]
   simp [h1,hi]
  ·have h1:ins L i n=L n:=by simp [ins,e]
   rw [h1]
   by_cases hx:L n=true∧dst n=some t
   ·rw [if_pos hx,if_pos hx]
    by_cases hin:i < n + 1∧dst i=some t
    ·exact absurd hin.2 (h n (by omega) (by omega) hx.1 hx.2)
    ·rw [if_neg hin]
   ·rw [if_neg hx,if_neg hx]
    have:(i < n∧dst i=some t)↔(i < n + 1∧dst i=some t):=by constructor <;> rintro ⟨a,b⟩ <;> exact ⟨by omega,b⟩
    simp only [this]
theorem Tx {L:Nat→Bool} {i:Nat} {q:Hd} (hi:L i=false):∀ {n:Nat},(∀ m,i < m→m < n→L m=true→vD (dst m) (dl m) q≠none→vD (dst i) (dl i) q=none) →
  ov dst dl st0 (ins L i) n q=if i < n then (vD (dst i) (dl i) q).getD (ov dst dl st0 L n q) else ov dst dl st0 L n q
 | 0,_=>by simp [ov]
 | n + 1,h=>by
  simp only [ov]
  rw [Tx hi (n:=n) fun m h1 h2=>h m h1 (by omega)]
  by_cases e:n=i
  ·subst e
   have h1:ins L n n=true:=by simp [ins]
   simp [h1,hi]
  ·have h1:ins L i n=L n:=by simp [ins,e]
   rw [h1]
   by_cases hlt:i < n
   ·rw [if_pos hlt,if_pos (show i < n + 1 by omega)]
    by_cases hx:L n=true
    ·rw [if_pos hx,if_pos hx]
     cases hy:vD (dst n) (dl n) q with
     | none=>rfl
     | some y=>rw [h n hlt (by omega) hx (by rw [hy];simp)];rfl
    ·rw [if_neg hx,if_neg hx]
   ·rw [if_neg hlt,if_neg (show ¬ i < n + 1 by omega)]
theorem Tz {L:Nat→Bool} {i d:Nat} (hi:L i=false):∀ {n:Nat},oc dst dl st0 (ins L i) n d↔((i < n∧dst i=some d∧(dl i).new≠[])∨oc dst dl st0 L n d)
 | 0=>by simp [oc]
 | n + 1=>by
  simp only [oc]
  rw [Tz hi (n:=n)]
  by_cases e:n=i
  ·subst e
   have h1:ins L n n=true:=by simp [ins]
   simp [h1,hi]
  ·have h1:ins L i n=L n:=by simp [ins,e]
   rw [h1]
   have:(i < n∧dst i=some d∧(dl i).new≠[])↔(i < n + 1∧dst i=some d∧(dl i).new≠[]):=by constructor <;> rintro ⟨a,b⟩ <;> exact ⟨by omega,b⟩
   rw [this]
   exact or_left_comm
theorem At.ins {L:Nat→Bool} {i n:Nat} {st st':St} (hA:At dst dl st0 L n st) (hi:L i=false) (hin:i < n) (ha:jv (dst i) (dl i) st=some st') (hw:Ig st.h (dl i).wr=true)
  (hd:∀ k,dst i=some k→k < st.t.length) (hl:st.h.length=st.t.length)
  (h1:∀ m,i < m→m < n→L m=true→∀ t,dst m=some t→dst i≠some t)
  (h2:∀ m,i < m→m < n→L m=true→∀ q,vD (dst m) (dl m) q≠none→vD (dst i) (dl i) q=none):At dst dl st0 (Abs.ins L i) n st':=by
 obtain ⟨a1,a2,a3,a4,a5⟩:=Sk ha hw hd hl
 refine ⟨a1.trans hA.tl,a2.trans hA.hl,fun t=>?_,fun q=>?_,fun d=>?_⟩
 ·rw [a3,Tw hi fun m k1 k2 k3 k4=>h1 m k1 k2 k3 t k4,hA.t]
  simp [hin]
 ·rw [a4,Tx hi fun m k1 k2 k3 k4=>h2 m k1 k2 k3 q k4,if_pos hin,hA.o]
 ·rw [a5,Tz hi,hA.c]
  simp [hin]
end
end Go.Abs
