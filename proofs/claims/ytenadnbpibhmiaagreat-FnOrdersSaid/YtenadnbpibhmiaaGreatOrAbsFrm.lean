/- Part of a proof of FnOrders: see the row. -/
import Derived.Test.YtenadnbpibhmiaaGreatOrAbsOps14
set_option linter.unusedVariables false
set_option linter.unusedSimpArgs false
namespace Go.Abs
open Go.RowKit
abbrev i4:=List (List aB)
def lZ (h h':i4) (us:List Hd):Prop:=∀ q∈us,al h' q=al h q
theorem lZ.mono {h h':i4} {us vs:List Hd} (s:lZ h h' vs) (k:∀ q∈us,q∈vs):lZ h h' us:=fun q hq=>s q (k q hq)
theorem gD {R:Type} {r:R} {t t':Ty} {x:t.D} {κ:t'.D→Option R} (h:gA t t' x κ=some r):∃ y,κ y=some r∧∀ (R':Type) (κ':t'.D→Option R'),gA t t' x κ'=κ' y:=by
 obtain ⟨e,h⟩:=od h
 subst e
 exact ⟨x,h,fun R' κ'=>by unfold gA;rw [dif_pos rfl]⟩
theorem vp {R:Type} {r:R} {t t':Ty} {x:List t.D} {κ:List t'.D→Option R} (h:qM t t' x κ=some r):∃ y,κ y=some r∧∀ (R':Type) (κ':List t'.D→Option R'),qM t t' x κ'=κ' y:=by
 unfold qM at h
 split at h
 ·rename_i e
  exact ⟨_,h,fun R' κ'=>by unfold qM;rw [dif_pos e]⟩
 ·rename_i e
  split at h
  ·rename_i e2
   exact ⟨_,h,fun R' κ'=>by unfold qM;rw [dif_neg e,dif_pos e2]⟩
  ·cases h
theorem EQ {R:Type} {r:R} {t:Ty} {l:Leaf} {κ:List t.D→Option R} (h:qp t l κ=some r):∃ y,κ y=some r∧∀ (R':Type) (κ':List t.D→Option R'),qp t l κ'=κ' y:=by
 unfold qp at h
 split at h
 ·exact ⟨_,h,fun R' κ'=>rfl⟩
 ·obtain ⟨y,h1,h2⟩:=vp h
  exact ⟨y,h1,fun R' κ'=>by unfold qp;exact h2 R' κ'⟩
 ·obtain ⟨y,h1,h2⟩:=vp h
  exact ⟨y,h1,fun R' κ'=>by unfold qp;exact h2 R' κ'⟩
 ·cases h
theorem ER {R:Type} {r:R} {h:i4} {t:Ty} {l:Leaf} {κ:List t.D→List Hd→Option R} (hk:qo h t l κ=some r) :
  ∃ xs us,κ xs us=some r∧∀ h',lZ h h' us→∀ (R':Type) (κ':List t.D→List Hd→Option R'),qo h' t l κ'=κ' xs us:=by
 unfold qo at hk
 split at hk
 ·exact ⟨_,_,hk,fun h' _ R' κ'=>rfl⟩
 ·obtain ⟨y,h1,h2⟩:=vp hk
  exact ⟨y,_,h1,fun h' _ R' κ'=>by unfold qo;exact h2 R' fun x=>κ' x []⟩
 ·obtain ⟨y,h1,h2⟩:=vp hk
  exact ⟨y,_,h1,fun h' _ R' κ'=>by unfold qo;exact h2 R' fun x=>κ' x []⟩
 ·rename_i o
  split at hk
  ·rename_i ro t' xs ho
   obtain ⟨y,h1,h2⟩:=vp hk
   exact ⟨y,_,h1,fun h' hs R' κ'=>by unfold qo;simp only [hs o (by simp),ho];exact h2 R' fun x=>κ' x [o]⟩
  ·cases hk
 ·rename_i o n lo hi
  split at hk
  ·rename_i ro t' xs ho hn
   obtain ⟨y,h1,h2⟩:=vp hk
   exact ⟨y,_,h1,fun h' hs R' κ'=>by unfold qo;simp only [hs o (by simp),ho,hn];exact h2 R' fun x=>κ' x [o]⟩
  ·cases hk
 ·cases hk
theorem vq {R:Type} {r:R} {h:i4}:∀ {t:Ty} {ls:List Leaf} {os:List Hd} {κ:t.D→List Leaf→List Hd→Option R},bK h t ls os κ=some r →
  ∃ x rest us,κ x rest us=some r∧(∀ q∈os,q∈us)∧∀ h',lZ h h' us→∀ (R':Type) (κ':t.D→List Leaf→List Hd→Option R'),bK h' t ls os κ'=κ' x rest us
 | .int k,ls,os,κ,hk=>by
  cases ls with
  | nil=>simp [bK] at hk
  | cons l ls =>
   cases l <;> simp only [bK,reduceCtorEq] at hk
   split at hk
   ·rename_i e
    exact ⟨_,_,_,hk,fun _ h=>h,fun h' _ R' κ'=>by simp only [bK];rw [if_pos e]⟩
   ·cases hk
 | .bool,ls,os,κ,hk=>by
  cases ls with
  | nil=>simp [bK] at hk
  | cons l ls =>
   cases l <;> simp only [bK,reduceCtorEq] at hk
   exact ⟨_,_,_,hk,fun _ h=>h,fun h' _ R' κ'=>by simp only [bK]⟩
 | .hd,ls,os,κ,hk=>by
  cases ls with
  | nil=>simp [bK] at hk
  | cons l ls =>
   cases l <;> simp only [bK,reduceCtorEq] at hk
   all_goals (
    exact ⟨_,_,_,hk,fun _ h=>h,fun h' _ R' κ'=>by simp only [bK]⟩)
 | .slice t,ls,os,κ,hk=>by
  cases ls with
  | nil=>simp [bK] at hk
  | cons l ls =>
   simp only [bK] at hk
   obtain ⟨xs,us,h1,h2⟩:=ER hk
   exact ⟨xs,ls,us++os,h1,fun q hq=>by simp [hq],fun h' hs R' κ'=>by simp only [bK];exact h2 h' (hs.mono (by simp +contextual)) R' fun xs us=>κ' xs ls (us++os)⟩
 | .unit,ls,os,κ,hk=>by
  simp only [bK] at hk
  exact ⟨(),ls,os,hk,fun _ h=>h,fun h' _ R' κ'=>by simp only [bK]⟩
 | .pair a b,ls,os,κ,hk=>by
  simp only [bK] at hk
  obtain ⟨x,r1,us,h1,h2,h3⟩:=vq (t:=a) hk
  obtain ⟨y,r2,us2,k1,k2,k3⟩:=vq (t:=b) h1
  exact ⟨(x,y),r2,us2,k1,fun q hq=>k2 q (h2 q hq),fun h' hs R' κ'=>by
   simp only [bK]
   rw [h3 h' (hs.mono k2) R' _,k3 h' hs R' _]⟩
 | .fn a b,ls,os,κ,hk=>by
  cases ls with
  | nil=>simp [bK] at hk
  | cons l ls =>
   cases l <;> simp only [bK,reduceCtorEq] at hk
   obtain ⟨y,h1,h2⟩:=gD (t':=.fn a b) hk
   exact ⟨y,_,_,h1,fun _ h=>h,fun h' _ R' κ'=>by simp only [bK];exact h2 R' fun x=>κ' x ls os⟩
 | .vw t,ls,os,κ,hk=>by
  cases ls with
  | nil=>simp [bK] at hk
  | cons l ls =>
   simp only [bK] at hk
   obtain ⟨xs,us,h1,h2⟩:=ER hk
   exact ⟨xs,ls,us++os,h1,fun q hq=>by simp [hq],fun h' hs R' κ'=>by simp only [bK];exact h2 h' (hs.mono (by simp +contextual)) R' fun xs us=>κ' xs ls (us++os)⟩
theorem Lh {R:Type} {r:R} {h:i4} {t:Ty} {l:Leaf} {ws:List (Hd×aB)} {κ:List t.D→List (Hd×aB)→Option R} (hk:rO h t l ws κ=some r) :
  ∃ xs us,κ xs us=some r∧(∀ q∈au ws,q∈au us)∧∀ h',lZ h h' (au us)→∀ (R':Type) (κ':List t.D→List (Hd×aB)→Option R'),rO h' t l ws κ'=κ' xs us:=by
 unfold rO at hk
 split at hk
 ·exact ⟨_,_,hk,fun _ h=>h,fun h' _ R' κ'=>rfl⟩
 ·rename_i o
  split at hk
  ·rename_i t' xs ho hh
   obtain ⟨y,h1,h2⟩:=gD (t':=.slice t) hk
   exact ⟨y,_,h1,fun q hq=>by simp [au,hq],fun h' hs R' κ'=>by unfold rO;simp only [hs o (by simp [au]),ho,hh];exact h2 R' fun x=>κ' x ((o,.dead) :: ws)⟩
  ·cases hk
 ·rename_i o n hi
  split at hk
  ·rename_i t' xs ho hh
   obtain ⟨y,h1,h2⟩:=gD (t':=.slice t) hk
   exact ⟨y,_,h1,fun q hq=>by simp [au,hq],fun h' hs R' κ'=>by unfold rO;simp only [hs o (by simp [au]),ho,hh];exact h2 R' fun x=>κ' x ((o,.dead) :: ws)⟩
  ·cases hk
 ·cases hk
theorem rW {R:Type} {r:R} {h:i4}:∀ {t:Ty} {ls:List Leaf} {ws:List (Hd×aB)} {κ:t.D→List Leaf→List (Hd×aB)→Option R},b8 h t ls ws κ=some r →
  ∃ x rest us,κ x rest us=some r∧(∀ q∈au ws,q∈au us)∧∀ h',lZ h h' (au us)→∀ (R':Type) (κ':t.D→List Leaf→List (Hd×aB)→Option R'),b8 h' t ls ws κ'=κ' x rest us
 | .int k,ls,os,κ,hk=>by
  cases ls with
  | nil=>simp [b8] at hk
  | cons l ls =>
   cases l <;> simp only [b8,reduceCtorEq] at hk
   split at hk
   ·rename_i e
    exact ⟨_,_,_,hk,fun _ h=>h,fun h' _ R' κ'=>by simp only [b8];rw [if_pos e]⟩
   ·cases hk
 | .bool,ls,os,κ,hk=>by
  cases ls with
  | nil=>simp [b8] at hk
  | cons l ls =>
   cases l <;> simp only [b8,reduceCtorEq] at hk
   exact ⟨_,_,_,hk,fun _ h=>h,fun h' _ R' κ'=>by simp only [b8]⟩
 | .hd,ls,os,κ,hk=>by
  cases ls with
  | nil=>simp [b8] at hk
  | cons l ls =>
   cases l <;> simp only [b8,reduceCtorEq] at hk
   all_goals (
    exact ⟨_,_,_,hk,fun _ h=>h,fun h' _ R' κ'=>by simp only [b8]⟩)
 | .slice t,ls,os,κ,hk=>by
  cases ls with
  | nil=>simp [b8] at hk
  | cons l ls =>
   simp only [b8] at hk
   obtain ⟨xs,us,h1,h0,h2⟩:=Lh hk
   exact ⟨xs,ls,us,h1,h0,fun h' hs R' κ'=>by simp only [b8];exact h2 h' hs R' fun xs us=>κ' xs ls us⟩
 | .unit,ls,os,κ,hk=>by
  simp only [b8] at hk
  exact ⟨(),ls,os,hk,fun _ h=>h,fun h' _ R' κ'=>by simp only [b8]⟩
 | .pair a b,ls,os,κ,hk=>by
  simp only [b8] at hk
  obtain ⟨x,r1,us,h1,h2,h3⟩:=rW (t:=a) hk
  obtain ⟨y,r2,us2,k1,k2,k3⟩:=rW (t:=b) h1
  exact ⟨(x,y),r2,us2,k1,fun q hq=>k2 q (h2 q hq),fun h' hs R' κ'=>by
   simp only [b8]
   rw [h3 h' (hs.mono k2) R' _,k3 h' hs R' _]⟩
 | .fn a b,ls,os,κ,hk=>by
  simp [b8] at hk
 | .vw t,ls,os,κ,hk=>by
  cases ls with
  | nil=>simp [b8] at hk
  | cons l ls =>
   simp only [b8] at hk
   obtain ⟨xs,h1,h2⟩:=EQ hk
   exact ⟨xs,ls,os,h1,fun _ h=>h,fun h' hs R' κ'=>by simp only [b8];exact h2 R' fun xs=>κ' xs ls os⟩
theorem Sg {R:Type} {r:R} {E:Env} {h:i4} {t:Ty} {ls:List Leaf} {os:List Hd} {κ:t.D→List Leaf→List Hd→Option R} (hk:FV E h t ls os κ=some r) :
  ∃ x rest us,κ x rest us=some r∧(∀ q∈os,q∈us)∧∀ h',lZ h h' us→∀ (R':Type) (κ':t.D→List Leaf→List Hd→Option R'),FV E h' t ls os κ'=κ' x rest us:=by
 unfold FV at hk
 split at hk
 ·rename_i p q f κ
  split at hk
  ·rename_i fr a' r' F hg
   split at hk
   ·rename_i hfl
    obtain ⟨y,h1,h2⟩:=gD (t':=.fn p q) hk
    exact ⟨y,[],os,h1,fun _ h=>h,fun h' hs R' κ'=>by simp only [FV,hg,hfl];exact h2 R' fun p=>κ' p [] os⟩
   ·cases hk
  ·cases hk
 ·rename_i hne
  obtain ⟨x,rest,us,h1,h2,h3⟩:=vq hk
  refine ⟨x,rest,us,h1,h2,fun h' hs R' κ'=>?_⟩
  rw [← h3 h' hs R' κ']
  unfold FV
  split
  ·exact (hne _ _ _ _ rfl rfl HEq.rfl).elim
  ·rfl
theorem F4 {R:Type} {r:R} {E:Env} {h:i4}:∀ {c:Ty} {cs os:List Hd} {κ:c.D→List Hd→Option R},bR E h c cs os κ=some r →
  ∃ x us,κ x us=some r∧(∀ q∈os,q∈us)∧∀ h',lZ h h' us→∀ (R':Type) (κ':c.D→List Hd→Option R'),bR E h' c cs os κ'=κ' x us
 | .unit,cs,os,κ,hk=>by
  cases cs with
  | nil=>exact ⟨(),os,by simpa [bR] using hk,fun _ h=>h,fun h' _ R' κ'=>by simp only [bR]⟩
  | cons _ _=>simp [bR] at hk
 | .pair a b,cs,os,κ,hk=>by
  cases cs with
  | nil=>simp [bR] at hk
  | cons o cs =>
   simp only [bR] at hk
   split at hk
   ·rename_i ro ls ho
    obtain ⟨x,r1,us,h1,h2,h3⟩:=Sg hk
    split at h1
    ·obtain ⟨y,us2,k1,k2,k3⟩:=F4 h1
     exact ⟨(x,y),us2,k1,fun q hq=>k2 q (h2 q (by simp [hq])),fun h' hs R' κ'=>by
      simp only [bR,hs o (k2 o (h2 o (by simp))),ho]
      rw [h3 h' (hs.mono k2) R' _]
      exact k3 h' hs R' fun q os=>κ' (x,q) os⟩
    ·cases h1
   ·cases hk
 | .int _,cs,os,κ,h=>by simp [bR] at h
 | .bool,cs,os,κ,h=>by simp [bR] at h
 | .hd,cs,os,κ,h=>by simp [bR] at h
 | .slice _,cs,os,κ,h=>by simp [bR] at h
 | .vw _,cs,os,κ,h=>by simp [bR] at h
 | .fn _ _,cs,os,κ,h=>by simp [bR] at h
theorem Hp {R:Type} {r:R} {t:Ty} {v:AV} {κ:List Leaf→Option R} (h:it t v κ=some r):∃ ls,κ ls=some r∧∀ (R':Type) (κ':List Leaf→Option R'),it t v κ'=κ' ls:=by
 unfold it at h
 split at h
 ·rename_i cs hs;exact ⟨_,h,fun R' κ'=>by unfold it;rw [hs]⟩
 ·rename_i l hs;exact ⟨_,h,fun R' κ'=>by unfold it;rw [hs]⟩
 ·cases h
theorem i5 {R:Type} {r:R} {E:Env} {h:i4}:∀ {c:Ty} {vs:List AV} {os:List Hd} {κ:c.D→List Hd→Option R},aU E h c vs os κ=some r →
  ∃ x us,κ x us=some r∧(∀ q∈os,q∈us)∧∀ h',lZ h h' us→∀ (R':Type) (κ':c.D→List Hd→Option R'),aU E h' c vs os κ'=κ' x us
 | .unit,vs,os,κ,hk=>by
  cases vs with
  | nil=>exact ⟨(),os,by simpa [aU] using hk,fun _ h=>h,fun h' _ R' κ'=>by simp only [aU]⟩
  | cons _ _=>simp [aU] at hk
 | .pair t u,vs,os,κ,hk=>by
  cases vs with
  | nil=>simp [aU] at hk
  | cons v vs =>
   have plain:((it t v fun cs=>bK h t cs os fun x r os=>jW r (aU E h u vs os fun q os=>κ (x,q) os))=some r) →
     (∀ h' (R':Type) (κ':(Ty.pair t u).D→List Hd→Option R'),aU E h' (.pair t u) (v :: vs) os κ'=it t v fun cs=>bK h' t cs os fun x r os=>jW r (aU E h' u vs os fun q os=>κ' (x,q) os)) →
     ∃ x us,κ x us=some r∧(∀ q∈os,q∈us)∧∀ h',lZ h h' us→∀ (R':Type) (κ':(Ty.pair t u).D→List Hd→Option R'),aU E h' (.pair t u) (v :: vs) os κ'=κ' x us:=by
    intro hk he
    obtain ⟨ls,h1,h2⟩:=Hp hk
    obtain ⟨x,r1,us,h3,h4,h5⟩:=vq h1
    unfold jW at h3
    split at h3
    ·obtain ⟨y,us2,k1,k2,k3⟩:=i5 h3
     exact ⟨(x,y),us2,k1,fun q hq=>k2 q (h4 q hq),fun h' hs R' κ'=>by
      rw [he,h2,h5 h' (hs.mono k2) R' _]
      unfold jW
      exact k3 h' hs R' fun q os=>κ' (x,q) os⟩
    ·cases h3
   cases t with
   | fn p q=>cases v with
    | leaf l=>cases l with
     | fn f caps =>
      simp only [aU] at hk
      split at hk
      ·rename_i a' c r' F hg
       obtain ⟨x,us,h1,h2,h3⟩:=F4 hk
       obtain ⟨y,h4,h5⟩:=gD (t':=.fn p q) h1
       obtain ⟨z,us2,k1,k2,k3⟩:=i5 h4
       exact ⟨(y,z),us2,k1,fun q hq=>k2 q (h2 q hq),fun h' hs R' κ'=>by
        simp only [aU,hg]
        rw [h3 h' (hs.mono k2) R' _,h5 R' _]
        exact k3 h' hs R' fun q os=>κ' (y,q) os⟩
      ·rename_i fr a' r' F hg
       split at hk
       ·rename_i hfl
        obtain ⟨y,h4,h5⟩:=gD (t':=.fn p q) hk
        obtain ⟨z,us2,k1,k2,k3⟩:=i5 h4
        exact ⟨(y,z),us2,k1,k2,fun h' hs R' κ'=>by
         simp only [aU,hg,hfl]
         rw [h5 R' _]
         exact k3 h' hs R' fun q os=>κ' (y,q) os⟩
       ·cases hk
      ·cases hk
     | _=>exact plain (by simpa only [aU] using hk) (fun h' R' κ'=>by simp only [aU])
    | _=>exact plain (by simpa only [aU] using hk) (fun h' R' κ'=>by simp only [aU])
   | _=>exact plain (by simpa only [aU] using hk) (fun h' R' κ'=>by simp only [aU])
 | .int _,vs,os,κ,h=>by cases vs <;> simp [aU] at h
 | .bool,vs,os,κ,h=>by cases vs <;> simp [aU] at h
 | .hd,vs,os,κ,h=>by cases vs <;> simp [aU] at h
 | .slice _,vs,os,κ,h=>by cases vs <;> simp [aU] at h
 | .vw _,vs,os,κ,h=>by cases vs <;> simp [aU] at h
 | .fn _ _,vs,os,κ,h=>by cases vs <;> simp [aU] at h
end Go.Abs
