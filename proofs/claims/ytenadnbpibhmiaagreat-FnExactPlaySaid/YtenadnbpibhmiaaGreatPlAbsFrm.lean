/- Part of a proof of FnExactPlay: see the row. -/
import Derived.Test.YtenadnbpibhmiaaGreatPlAbsOps14
set_option linter.unusedVariables false
set_option linter.unusedSimpArgs false
namespace Go.Abs
open Go.RowKit
abbrev iD:=List (List aw)
def lD (h h':iD) (us:List Hd):Prop:=∀ q∈us,aj h' q=aj h q
theorem lD.mono {h h':iD} {us vs:List Hd} (s:lD h h' vs) (k:∀ q∈us,q∈vs):lD h h' us:=fun q hq=>s q (k q hq)
theorem fW {R:Type} {r:R} {t t':Ty} {x:t.D} {κ:t'.D→Option R} (h:fT t t' x κ=some r):∃ y,κ y=some r∧∀ (R':Type) (κ':t'.D→Option R'),fT t t' x κ'=κ' y:=by
 obtain ⟨e,h⟩:=nH h
 subst e
 exact ⟨x,h,fun R' κ'=>by unfold fT;rw [dif_pos rfl]⟩
theorem uo {R:Type} {r:R} {t t':Ty} {x:List t.D} {κ:List t'.D→Option R} (h:qi t t' x κ=some r):∃ y,κ y=some r∧∀ (R':Type) (κ':List t'.D→Option R'),qi t t' x κ'=κ' y:=by
 unfold qi at h
 split at h
 ·rename_i e
  exact ⟨_,h,fun R' κ'=>by unfold qi;rw [dif_pos e]⟩
 ·rename_i e
  split at h
  ·rename_i e2
   exact ⟨_,h,fun R' κ'=>by unfold qi;rw [dif_neg e,dif_pos e2]⟩
  ·cases h
theorem EH {R:Type} {r:R} {t:Ty} {l:Leaf} {κ:List t.D→Option R} (h:pQ t l κ=some r):∃ y,κ y=some r∧∀ (R':Type) (κ':List t.D→Option R'),pQ t l κ'=κ' y:=by
 unfold pQ at h
 split at h
 ·exact ⟨_,h,fun R' κ'=>rfl⟩
 ·obtain ⟨y,h1,h2⟩:=uo h
  exact ⟨y,h1,fun R' κ'=>by unfold pQ;exact h2 R' κ'⟩
 ·obtain ⟨y,h1,h2⟩:=uo h
  exact ⟨y,h1,fun R' κ'=>by unfold pQ;exact h2 R' κ'⟩
 ·cases h
theorem EI {R:Type} {r:R} {h:iD} {t:Ty} {l:Leaf} {κ:List t.D→List Hd→Option R} (hk:pP h t l κ=some r) :
  ∃ xs us,κ xs us=some r∧∀ h',lD h h' us→∀ (R':Type) (κ':List t.D→List Hd→Option R'),pP h' t l κ'=κ' xs us:=by
 unfold pP at hk
 split at hk
 ·exact ⟨_,_,hk,fun h' _ R' κ'=>rfl⟩
 ·obtain ⟨y,h1,h2⟩:=uo hk
  exact ⟨y,_,h1,fun h' _ R' κ'=>by unfold pP;exact h2 R' fun x=>κ' x []⟩
 ·obtain ⟨y,h1,h2⟩:=uo hk
  exact ⟨y,_,h1,fun h' _ R' κ'=>by unfold pP;exact h2 R' fun x=>κ' x []⟩
 ·rename_i o
  split at hk
  ·rename_i ro t' xs ho
   obtain ⟨y,h1,h2⟩:=uo hk
   exact ⟨y,_,h1,fun h' hs R' κ'=>by unfold pP;simp only [hs o (by simp),ho];exact h2 R' fun x=>κ' x [o]⟩
  ·cases hk
 ·rename_i o n lo hi
  split at hk
  ·rename_i ro t' xs ho hn
   obtain ⟨y,h1,h2⟩:=uo hk
   exact ⟨y,_,h1,fun h' hs R' κ'=>by unfold pP;simp only [hs o (by simp),ho,hn];exact h2 R' fun x=>κ' x [o]⟩
  ·cases hk
 ·cases hk
theorem uq {R:Type} {r:R} {h:iD}:∀ {t:Ty} {ls:List Leaf} {os:List Hd} {κ:t.D→List Leaf→List Hd→Option R},bz h t ls os κ=some r →
  ∃ x rest us,κ x rest us=some r∧(∀ q∈os,q∈us)∧∀ h',lD h h' us→∀ (R':Type) (κ':t.D→List Leaf→List Hd→Option R'),bz h' t ls os κ'=κ' x rest us
 | .int k,ls,os,κ,hk=>by
  cases ls with
  | nil=>simp [bz] at hk
  | cons l ls =>
   cases l <;> simp only [bz,reduceCtorEq] at hk
   split at hk
   ·rename_i e
    exact ⟨_,_,_,hk,fun _ h=>h,fun h' _ R' κ'=>by simp only [bz];rw [if_pos e]⟩
   ·cases hk
 | .bool,ls,os,κ,hk=>by
  cases ls with
  | nil=>simp [bz] at hk
  | cons l ls =>
   cases l <;> simp only [bz,reduceCtorEq] at hk
   exact ⟨_,_,_,hk,fun _ h=>h,fun h' _ R' κ'=>by simp only [bz]⟩
 | .hd,ls,os,κ,hk=>by
  cases ls with
  | nil=>simp [bz] at hk
  | cons l ls =>
   cases l <;> simp only [bz,reduceCtorEq] at hk
   all_goals (
    exact ⟨_,_,_,hk,fun _ h=>h,fun h' _ R' κ'=>by simp only [bz]⟩)
 | .slice t,ls,os,κ,hk=>by
  cases ls with
  | nil=>simp [bz] at hk
  | cons l ls =>
   simp only [bz] at hk
   obtain ⟨xs,us,h1,h2⟩:=EI hk
   exact ⟨xs,ls,us++os,h1,fun q hq=>by simp [hq],fun h' hs R' κ'=>by simp only [bz];exact h2 h' (hs.mono (by simp +contextual)) R' fun xs us=>κ' xs ls (us++os)⟩
 | .unit,ls,os,κ,hk=>by
  simp only [bz] at hk
  exact ⟨(),ls,os,hk,fun _ h=>h,fun h' _ R' κ'=>by simp only [bz]⟩
 | .pair a b,ls,os,κ,hk=>by
  simp only [bz] at hk
  obtain ⟨x,r1,us,h1,h2,h3⟩:=uq (t:=a) hk
  obtain ⟨y,r2,us2,k1,k2,k3⟩:=uq (t:=b) h1
  exact ⟨(x,y),r2,us2,k1,fun q hq=>k2 q (h2 q hq),fun h' hs R' κ'=>by
   simp only [bz]
   rw [h3 h' (hs.mono k2) R' _,k3 h' hs R' _]⟩
 | .fn a b,ls,os,κ,hk=>by
  cases ls with
  | nil=>simp [bz] at hk
  | cons l ls =>
   cases l <;> simp only [bz,reduceCtorEq] at hk
   obtain ⟨y,h1,h2⟩:=fW (t':=.fn a b) hk
   exact ⟨y,_,_,h1,fun _ h=>h,fun h' _ R' κ'=>by simp only [bz];exact h2 R' fun x=>κ' x ls os⟩
 | .vw t,ls,os,κ,hk=>by
  cases ls with
  | nil=>simp [bz] at hk
  | cons l ls =>
   simp only [bz] at hk
   obtain ⟨xs,us,h1,h2⟩:=EI hk
   exact ⟨xs,ls,us++os,h1,fun q hq=>by simp [hq],fun h' hs R' κ'=>by simp only [bz];exact h2 h' (hs.mono (by simp +contextual)) R' fun xs us=>κ' xs ls (us++os)⟩
theorem MO {R:Type} {r:R} {h:iD} {t:Ty} {l:Leaf} {ws:List (Hd×aw)} {κ:List t.D→List (Hd×aw)→Option R} (hk:rk h t l ws κ=some r) :
  ∃ xs us,κ xs us=some r∧(∀ q∈aq ws,q∈aq us)∧∀ h',lD h h' (aq us)→∀ (R':Type) (κ':List t.D→List (Hd×aw)→Option R'),rk h' t l ws κ'=κ' xs us:=by
 unfold rk at hk
 split at hk
 ·exact ⟨_,_,hk,fun _ h=>h,fun h' _ R' κ'=>rfl⟩
 ·rename_i o
  split at hk
  ·rename_i t' xs ho hh
   obtain ⟨y,h1,h2⟩:=fW (t':=.slice t) hk
   exact ⟨y,_,h1,fun q hq=>by simp [aq,hq],fun h' hs R' κ'=>by unfold rk;simp only [hs o (by simp [aq]),ho,hh];exact h2 R' fun x=>κ' x ((o,.dead) :: ws)⟩
  ·cases hk
 ·rename_i o n hi
  split at hk
  ·rename_i t' xs ho hh
   obtain ⟨y,h1,h2⟩:=fW (t':=.slice t) hk
   exact ⟨y,_,h1,fun q hq=>by simp [aq,hq],fun h' hs R' κ'=>by unfold rk;simp only [hs o (by simp [aq]),ho,hh];exact h2 R' fun x=>κ' x ((o,.dead) :: ws)⟩
  ·cases hk
 ·cases hk
theorem rA {R:Type} {r:R} {h:iD}:∀ {t:Ty} {ls:List Leaf} {ws:List (Hd×aw)} {κ:t.D→List Leaf→List (Hd×aw)→Option R},bN h t ls ws κ=some r →
  ∃ x rest us,κ x rest us=some r∧(∀ q∈aq ws,q∈aq us)∧∀ h',lD h h' (aq us)→∀ (R':Type) (κ':t.D→List Leaf→List (Hd×aw)→Option R'),bN h' t ls ws κ'=κ' x rest us
 | .int k,ls,os,κ,hk=>by
  cases ls with
  | nil=>simp [bN] at hk
  | cons l ls =>
   cases l <;> simp only [bN,reduceCtorEq] at hk
   split at hk
   ·rename_i e
    exact ⟨_,_,_,hk,fun _ h=>h,fun h' _ R' κ'=>by simp only [bN];rw [if_pos e]⟩
   ·cases hk
 | .bool,ls,os,κ,hk=>by
  cases ls with
  | nil=>simp [bN] at hk
  | cons l ls =>
   cases l <;> simp only [bN,reduceCtorEq] at hk
   exact ⟨_,_,_,hk,fun _ h=>h,fun h' _ R' κ'=>by simp only [bN]⟩
 | .hd,ls,os,κ,hk=>by
  cases ls with
  | nil=>simp [bN] at hk
  | cons l ls =>
   cases l <;> simp only [bN,reduceCtorEq] at hk
   all_goals (
    exact ⟨_,_,_,hk,fun _ h=>h,fun h' _ R' κ'=>by simp only [bN]⟩)
 | .slice t,ls,os,κ,hk=>by
  cases ls with
  | nil=>simp [bN] at hk
  | cons l ls =>
   simp only [bN] at hk
   obtain ⟨xs,us,h1,h0,h2⟩:=MO hk
   exact ⟨xs,ls,us,h1,h0,fun h' hs R' κ'=>by simp only [bN];exact h2 h' hs R' fun xs us=>κ' xs ls us⟩
 | .unit,ls,os,κ,hk=>by
  simp only [bN] at hk
  exact ⟨(),ls,os,hk,fun _ h=>h,fun h' _ R' κ'=>by simp only [bN]⟩
 | .pair a b,ls,os,κ,hk=>by
  simp only [bN] at hk
  obtain ⟨x,r1,us,h1,h2,h3⟩:=rA (t:=a) hk
  obtain ⟨y,r2,us2,k1,k2,k3⟩:=rA (t:=b) h1
  exact ⟨(x,y),r2,us2,k1,fun q hq=>k2 q (h2 q hq),fun h' hs R' κ'=>by
   simp only [bN]
   rw [h3 h' (hs.mono k2) R' _,k3 h' hs R' _]⟩
 | .fn a b,ls,os,κ,hk=>by
  simp [bN] at hk
 | .vw t,ls,os,κ,hk=>by
  cases ls with
  | nil=>simp [bN] at hk
  | cons l ls =>
   simp only [bN] at hk
   obtain ⟨xs,h1,h2⟩:=EH hk
   exact ⟨xs,ls,os,h1,fun _ h=>h,fun h' hs R' κ'=>by simp only [bN];exact h2 R' fun xs=>κ' xs ls os⟩
theorem Tk {R:Type} {r:R} {E:Env} {h:iD} {t:Ty} {ls:List Leaf} {os:List Hd} {κ:t.D→List Leaf→List Hd→Option R} (hk:F1 E h t ls os κ=some r) :
  ∃ x rest us,κ x rest us=some r∧(∀ q∈os,q∈us)∧∀ h',lD h h' us→∀ (R':Type) (κ':t.D→List Leaf→List Hd→Option R'),F1 E h' t ls os κ'=κ' x rest us:=by
 unfold F1 at hk
 split at hk
 ·rename_i p q f κ
  split at hk
  ·rename_i fr a' r' F hg
   split at hk
   ·rename_i hfl
    obtain ⟨y,h1,h2⟩:=fW (t':=.fn p q) hk
    exact ⟨y,[],os,h1,fun _ h=>h,fun h' hs R' κ'=>by simp only [F1,hg,hfl];exact h2 R' fun p=>κ' p [] os⟩
   ·cases hk
  ·cases hk
 ·rename_i hne
  obtain ⟨x,rest,us,h1,h2,h3⟩:=uq hk
  refine ⟨x,rest,us,h1,h2,fun h' hs R' κ'=>?_⟩
  rw [← h3 h' hs R' κ']
  unfold F1
  split
  ·exact (hne _ _ _ _ rfl rfl HEq.rfl).elim
  ·rfl
theorem Ga {R:Type} {r:R} {E:Env} {h:iD}:∀ {c:Ty} {cs os:List Hd} {κ:c.D→List Hd→Option R},bC E h c cs os κ=some r →
  ∃ x us,κ x us=some r∧(∀ q∈os,q∈us)∧∀ h',lD h h' us→∀ (R':Type) (κ':c.D→List Hd→Option R'),bC E h' c cs os κ'=κ' x us
 | .unit,cs,os,κ,hk=>by
  cases cs with
  | nil=>exact ⟨(),os,by simpa [bC] using hk,fun _ h=>h,fun h' _ R' κ'=>by simp only [bC]⟩
  | cons _ _=>simp [bC] at hk
 | .pair a b,cs,os,κ,hk=>by
  cases cs with
  | nil=>simp [bC] at hk
  | cons o cs =>
   simp only [bC] at hk
   split at hk
   ·rename_i ro ls ho
    obtain ⟨x,r1,us,h1,h2,h3⟩:=Tk hk
    split at h1
    ·obtain ⟨y,us2,k1,k2,k3⟩:=Ga h1
     exact ⟨(x,y),us2,k1,fun q hq=>k2 q (h2 q (by simp [hq])),fun h' hs R' κ'=>by
      simp only [bC,hs o (k2 o (h2 o (by simp))),ho]
      rw [h3 h' (hs.mono k2) R' _]
      exact k3 h' hs R' fun q os=>κ' (x,q) os⟩
    ·cases h1
   ·cases hk
 | .int _,cs,os,κ,h=>by simp [bC] at h
 | .bool,cs,os,κ,h=>by simp [bC] at h
 | .hd,cs,os,κ,h=>by simp [bC] at h
 | .slice _,cs,os,κ,h=>by simp [bC] at h
 | .vw _,cs,os,κ,h=>by simp [bC] at h
 | .fn _ _,cs,os,κ,h=>by simp [bC] at h
theorem H3 {R:Type} {r:R} {t:Ty} {v:AV} {κ:List Leaf→Option R} (h:gO t v κ=some r):∃ ls,κ ls=some r∧∀ (R':Type) (κ':List Leaf→Option R'),gO t v κ'=κ' ls:=by
 unfold gO at h
 split at h
 ·rename_i cs hs;exact ⟨_,h,fun R' κ'=>by unfold gO;rw [hs]⟩
 ·rename_i l hs;exact ⟨_,h,fun R' κ'=>by unfold gO;rw [hs]⟩
 ·cases h
theorem iE {R:Type} {r:R} {E:Env} {h:iD}:∀ {c:Ty} {vs:List AV} {os:List Hd} {κ:c.D→List Hd→Option R},aJ E h c vs os κ=some r →
  ∃ x us,κ x us=some r∧(∀ q∈os,q∈us)∧∀ h',lD h h' us→∀ (R':Type) (κ':c.D→List Hd→Option R'),aJ E h' c vs os κ'=κ' x us
 | .unit,vs,os,κ,hk=>by
  cases vs with
  | nil=>exact ⟨(),os,by simpa [aJ] using hk,fun _ h=>h,fun h' _ R' κ'=>by simp only [aJ]⟩
  | cons _ _=>simp [aJ] at hk
 | .pair t u,vs,os,κ,hk=>by
  cases vs with
  | nil=>simp [aJ] at hk
  | cons v vs =>
   have plain:((gO t v fun cs=>bz h t cs os fun x r os=>jD r (aJ E h u vs os fun q os=>κ (x,q) os))=some r) →
     (∀ h' (R':Type) (κ':(Ty.pair t u).D→List Hd→Option R'),aJ E h' (.pair t u) (v :: vs) os κ'=gO t v fun cs=>bz h' t cs os fun x r os=>jD r (aJ E h' u vs os fun q os=>κ' (x,q) os)) →
     ∃ x us,κ x us=some r∧(∀ q∈os,q∈us)∧∀ h',lD h h' us→∀ (R':Type) (κ':(Ty.pair t u).D→List Hd→Option R'),aJ E h' (.pair t u) (v :: vs) os κ'=κ' x us:=by
    intro hk he
    obtain ⟨ls,h1,h2⟩:=H3 hk
    obtain ⟨x,r1,us,h3,h4,h5⟩:=uq h1
    unfold jD at h3
    split at h3
    ·obtain ⟨y,us2,k1,k2,k3⟩:=iE h3
     exact ⟨(x,y),us2,k1,fun q hq=>k2 q (h4 q hq),fun h' hs R' κ'=>by
      rw [he,h2,h5 h' (hs.mono k2) R' _]
      unfold jD
      exact k3 h' hs R' fun q os=>κ' (x,q) os⟩
    ·cases h3
   cases t with
   | fn p q=>cases v with
    | leaf l=>cases l with
     | fn f caps =>
      simp only [aJ] at hk
      split at hk
      ·rename_i a' c r' F hg
       obtain ⟨x,us,h1,h2,h3⟩:=Ga hk
       obtain ⟨y,h4,h5⟩:=fW (t':=.fn p q) h1
       obtain ⟨z,us2,k1,k2,k3⟩:=iE h4
       exact ⟨(y,z),us2,k1,fun q hq=>k2 q (h2 q hq),fun h' hs R' κ'=>by
        simp only [aJ,hg]
        rw [h3 h' (hs.mono k2) R' _,h5 R' _]
        exact k3 h' hs R' fun q os=>κ' (y,q) os⟩
      ·rename_i fr a' r' F hg
       split at hk
       ·rename_i hfl
        obtain ⟨y,h4,h5⟩:=fW (t':=.fn p q) hk
        obtain ⟨z,us2,k1,k2,k3⟩:=iE h4
        exact ⟨(y,z),us2,k1,k2,fun h' hs R' κ'=>by
         simp only [aJ,hg,hfl]
         rw [h5 R' _]
         exact k3 h' hs R' fun q os=>κ' (y,q) os⟩
       ·cases hk
      ·cases hk
     | _=>exact plain (by simpa only [aJ] using hk) (fun h' R' κ'=>by simp only [aJ])
    | _=>exact plain (by simpa only [aJ] using hk) (fun h' R' κ'=>by simp only [aJ])
   | _=>exact plain (by simpa only [aJ] using hk) (fun h' R' κ'=>by simp only [aJ])
 | .int _,vs,os,κ,h=>by cases vs <;> simp [aJ] at h
 | .bool,vs,os,κ,h=>by cases vs <;> simp [aJ] at h
 | .hd,vs,os,κ,h=>by cases vs <;> simp [aJ] at h
 | .slice _,vs,os,κ,h=>by cases vs <;> simp [aJ] at h
 | .vw _,vs,os,κ,h=>by cases vs <;> simp [aJ] at h
 | .fn _ _,vs,os,κ,h=>by cases vs <;> simp [aJ] at h
end Go.Abs
