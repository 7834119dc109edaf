/- Part of a proof of FnGames: see the row. -/
import Derived.Test.YtenadnbpibhmiaaGreatGmAbsOps14
set_option linter.unusedVariables false
set_option linter.unusedSimpArgs false
namespace Go.Abs
open Go.RowKit
abbrev jt:=List (List aC)
def mj (h h':jt) (us:List Hd):Prop:=∀ q∈us,aq h' q=aq h q
theorem mj.mono {h h':jt} {us vs:List Hd} (s:mj h h' vs) (k:∀ q∈us,q∈vs):mj h h' us:=fun q hq=>s q (k q hq)
theorem gQ {R:Type} {r:R} {t t':Ty} {x:t.D} {κ:t'.D→Option R} (h:gN t t' x κ=some r):∃ y,κ y=some r∧∀ (R':Type) (κ':t'.D→Option R'),gN t t' x κ'=κ' y:=by
 obtain ⟨e,h⟩:=oB h
 subst e
 exact ⟨x,h,fun R' κ'=>by unfold gN;rw [dif_pos rfl]⟩
theorem vL {R:Type} {r:R} {t t':Ty} {x:List t.D} {κ:List t'.D→Option R} (h:rb t t' x κ=some r):∃ y,κ y=some r∧∀ (R':Type) (κ':List t'.D→Option R'),rb t t' x κ'=κ' y:=by
 unfold rb at h
 split at h
 ·rename_i e
  exact ⟨_,h,fun R' κ'=>by unfold rb;rw [dif_pos e]⟩
 ·rename_i e
  split at h
  ·rename_i e2
   exact ⟨_,h,fun R' κ'=>by unfold rb;rw [dif_neg e,dif_pos e2]⟩
  ·cases h
theorem ED {R:Type} {r:R} {t:Ty} {l:Leaf} {κ:List t.D→Option R} (h:qF t l κ=some r):∃ y,κ y=some r∧∀ (R':Type) (κ':List t.D→Option R'),qF t l κ'=κ' y:=by
 unfold qF at h
 split at h
 ·exact ⟨_,h,fun R' κ'=>rfl⟩
 ·obtain ⟨y,h1,h2⟩:=vL h
  exact ⟨y,h1,fun R' κ'=>by unfold qF;exact h2 R' κ'⟩
 ·obtain ⟨y,h1,h2⟩:=vL h
  exact ⟨y,h1,fun R' κ'=>by unfold qF;exact h2 R' κ'⟩
 ·cases h
theorem EE {R:Type} {r:R} {h:jt} {t:Ty} {l:Leaf} {κ:List t.D→List Hd→Option R} (hk:qE h t l κ=some r) :
  ∃ xs us,κ xs us=some r∧∀ h',mj h h' us→∀ (R':Type) (κ':List t.D→List Hd→Option R'),qE h' t l κ'=κ' xs us:=by
 unfold qE at hk
 split at hk
 ·exact ⟨_,_,hk,fun h' _ R' κ'=>rfl⟩
 ·obtain ⟨y,h1,h2⟩:=vL hk
  exact ⟨y,_,h1,fun h' _ R' κ'=>by unfold qE;exact h2 R' fun x=>κ' x []⟩
 ·obtain ⟨y,h1,h2⟩:=vL hk
  exact ⟨y,_,h1,fun h' _ R' κ'=>by unfold qE;exact h2 R' fun x=>κ' x []⟩
 ·rename_i o
  split at hk
  ·rename_i ro t' xs ho
   obtain ⟨y,h1,h2⟩:=vL hk
   exact ⟨y,_,h1,fun h' hs R' κ'=>by unfold qE;simp only [hs o (by simp),ho];exact h2 R' fun x=>κ' x [o]⟩
  ·cases hk
 ·rename_i o n lo hi
  split at hk
  ·rename_i ro t' xs ho hn
   obtain ⟨y,h1,h2⟩:=vL hk
   exact ⟨y,_,h1,fun h' hs R' κ'=>by unfold qE;simp only [hs o (by simp),ho,hn];exact h2 R' fun x=>κ' x [o]⟩
  ·cases hk
 ·cases hk
theorem vM {R:Type} {r:R} {h:jt}:∀ {t:Ty} {ls:List Leaf} {os:List Hd} {κ:t.D→List Leaf→List Hd→Option R},bP h t ls os κ=some r →
  ∃ x rest us,κ x rest us=some r∧(∀ q∈os,q∈us)∧∀ h',mj h h' us→∀ (R':Type) (κ':t.D→List Leaf→List Hd→Option R'),bP h' t ls os κ'=κ' x rest us
 | .int k,ls,os,κ,hk=>by
  cases ls with
  | nil=>simp [bP] at hk
  | cons l ls =>
   cases l <;> simp only [bP,reduceCtorEq] at hk
   split at hk
   ·rename_i e
    exact ⟨_,_,_,hk,fun _ h=>h,fun h' _ R' κ'=>by simp only [bP];rw [if_pos e]⟩
   ·cases hk
 | .bool,ls,os,κ,hk=>by
  cases ls with
  | nil=>simp [bP] at hk
  | cons l ls =>
   cases l <;> simp only [bP,reduceCtorEq] at hk
   exact ⟨_,_,_,hk,fun _ h=>h,fun h' _ R' κ'=>by simp only [bP]⟩
 | .hd,ls,os,κ,hk=>by
  cases ls with
  | nil=>simp [bP] at hk
  | cons l ls =>
   cases l <;> simp only [bP,reduceCtorEq] at hk
   all_goals (
    exact ⟨_,_,_,hk,fun _ h=>h,fun h' _ R' κ'=>by simp only [bP]⟩)
 | .slice t,ls,os,κ,hk=>by
  cases ls with
  | nil=>simp [bP] at hk
  | cons l ls =>
   simp only [bP] at hk
   obtain ⟨xs,us,h1,h2⟩:=EE hk
   exact ⟨xs,ls,us++os,h1,fun q hq=>by simp [hq],fun h' hs R' κ'=>by simp only [bP];exact h2 h' (hs.mono (by simp +contextual)) R' fun xs us=>κ' xs ls (us++os)⟩
 | .unit,ls,os,κ,hk=>by
  simp only [bP] at hk
  exact ⟨(),ls,os,hk,fun _ h=>h,fun h' _ R' κ'=>by simp only [bP]⟩
 | .pair a b,ls,os,κ,hk=>by
  simp only [bP] at hk
  obtain ⟨x,r1,us,h1,h2,h3⟩:=vM (t:=a) hk
  obtain ⟨y,r2,us2,k1,k2,k3⟩:=vM (t:=b) h1
  exact ⟨(x,y),r2,us2,k1,fun q hq=>k2 q (h2 q hq),fun h' hs R' κ'=>by
   simp only [bP]
   rw [h3 h' (hs.mono k2) R' _,k3 h' hs R' _]⟩
 | .fn a b,ls,os,κ,hk=>by
  cases ls with
  | nil=>simp [bP] at hk
  | cons l ls =>
   cases l <;> simp only [bP,reduceCtorEq] at hk
   obtain ⟨y,h1,h2⟩:=gQ (t':=.fn a b) hk
   exact ⟨y,_,_,h1,fun _ h=>h,fun h' _ R' κ'=>by simp only [bP];exact h2 R' fun x=>κ' x ls os⟩
 | .vw t,ls,os,κ,hk=>by
  cases ls with
  | nil=>simp [bP] at hk
  | cons l ls =>
   simp only [bP] at hk
   obtain ⟨xs,us,h1,h2⟩:=EE hk
   exact ⟨xs,ls,us++os,h1,fun q hq=>by simp [hq],fun h' hs R' κ'=>by simp only [bP];exact h2 h' (hs.mono (by simp +contextual)) R' fun xs us=>κ' xs ls (us++os)⟩
theorem KU {R:Type} {r:R} {h:jt} {t:Ty} {l:Leaf} {ws:List (Hd×aC)} {κ:List t.D→List (Hd×aC)→Option R} (hk:si h t l ws κ=some r) :
  ∃ xs us,κ xs us=some r∧(∀ q∈aw ws,q∈aw us)∧∀ h',mj h h' (aw us)→∀ (R':Type) (κ':List t.D→List (Hd×aC)→Option R'),si h' t l ws κ'=κ' xs us:=by
 unfold si at hk
 split at hk
 ·exact ⟨_,_,hk,fun _ h=>h,fun h' _ R' κ'=>rfl⟩
 ·rename_i o
  split at hk
  ·rename_i t' xs ho hh
   obtain ⟨y,h1,h2⟩:=gQ (t':=.slice t) hk
   exact ⟨y,_,h1,fun q hq=>by simp [aw,hq],fun h' hs R' κ'=>by unfold si;simp only [hs o (by simp [aw]),ho,hh];exact h2 R' fun x=>κ' x ((o,.dead) :: ws)⟩
  ·cases hk
 ·rename_i o n hi
  split at hk
  ·rename_i t' xs ho hh
   obtain ⟨y,h1,h2⟩:=gQ (t':=.slice t) hk
   exact ⟨y,_,h1,fun q hq=>by simp [aw,hq],fun h' hs R' κ'=>by unfold si;simp only [hs o (by simp [aw]),ho,hh];exact h2 R' fun x=>κ' x ((o,.dead) :: ws)⟩
  ·cases hk
 ·cases hk
theorem sw {R:Type} {r:R} {h:jt}:∀ {t:Ty} {ls:List Leaf} {ws:List (Hd×aC)} {κ:t.D→List Leaf→List (Hd×aC)→Option R},cr h t ls ws κ=some r →
  ∃ x rest us,κ x rest us=some r∧(∀ q∈aw ws,q∈aw us)∧∀ h',mj h h' (aw us)→∀ (R':Type) (κ':t.D→List Leaf→List (Hd×aC)→Option R'),cr h' t ls ws κ'=κ' x rest us
 | .int k,ls,os,κ,hk=>by
  cases ls with
  | nil=>simp [cr] at hk
  | cons l ls =>
   cases l <;> simp only [cr,reduceCtorEq] at hk
   split at hk
   ·rename_i e
    exact ⟨_,_,_,hk,fun _ h=>h,fun h' _ R' κ'=>by simp only [cr];rw [if_pos e]⟩
   ·cases hk
 | .bool,ls,os,κ,hk=>by
  cases ls with
  | nil=>simp [cr] at hk
  | cons l ls =>
   cases l <;> simp only [cr,reduceCtorEq] at hk
   exact ⟨_,_,_,hk,fun _ h=>h,fun h' _ R' κ'=>by simp only [cr]⟩
 | .hd,ls,os,κ,hk=>by
  cases ls with
  | nil=>simp [cr] at hk
  | cons l ls =>
   cases l <;> simp only [cr,reduceCtorEq] at hk
   all_goals (
    exact ⟨_,_,_,hk,fun _ h=>h,fun h' _ R' κ'=>by simp only [cr]⟩)
 | .slice t,ls,os,κ,hk=>by
  cases ls with
  | nil=>simp [cr] at hk
  | cons l ls =>
   simp only [cr] at hk
   obtain ⟨xs,us,h1,h0,h2⟩:=KU hk
   exact ⟨xs,ls,us,h1,h0,fun h' hs R' κ'=>by simp only [cr];exact h2 h' hs R' fun xs us=>κ' xs ls us⟩
 | .unit,ls,os,κ,hk=>by
  simp only [cr] at hk
  exact ⟨(),ls,os,hk,fun _ h=>h,fun h' _ R' κ'=>by simp only [cr]⟩
 | .pair a b,ls,os,κ,hk=>by
  simp only [cr] at hk
  obtain ⟨x,r1,us,h1,h2,h3⟩:=sw (t:=a) hk
  obtain ⟨y,r2,us2,k1,k2,k3⟩:=sw (t:=b) h1
  exact ⟨(x,y),r2,us2,k1,fun q hq=>k2 q (h2 q hq),fun h' hs R' κ'=>by
   simp only [cr]
   rw [h3 h' (hs.mono k2) R' _,k3 h' hs R' _]⟩
 | .fn a b,ls,os,κ,hk=>by
  simp [cr] at hk
 | .vw t,ls,os,κ,hk=>by
  cases ls with
  | nil=>simp [cr] at hk
  | cons l ls =>
   simp only [cr] at hk
   obtain ⟨xs,h1,h2⟩:=ED hk
   exact ⟨xs,ls,os,h1,fun _ h=>h,fun h' hs R' κ'=>by simp only [cr];exact h2 R' fun xs=>κ' xs ls os⟩
theorem Sf {R:Type} {r:R} {E:Env} {h:jt} {t:Ty} {ls:List Leaf} {os:List Hd} {κ:t.D→List Leaf→List Hd→Option R} (hk:Ft E h t ls os κ=some r) :
  ∃ x rest us,κ x rest us=some r∧(∀ q∈os,q∈us)∧∀ h',mj h h' us→∀ (R':Type) (κ':t.D→List Leaf→List Hd→Option R'),Ft E h' t ls os κ'=κ' x rest us:=by
 unfold Ft at hk
 split at hk
 ·rename_i p q f κ
  split at hk
  ·rename_i fr a' r' F hg
   split at hk
   ·rename_i hfl
    obtain ⟨y,h1,h2⟩:=gQ (t':=.fn p q) hk
    exact ⟨y,[],os,h1,fun _ h=>h,fun h' hs R' κ'=>by simp only [Ft,hg,hfl];exact h2 R' fun p=>κ' p [] os⟩
   ·cases hk
  ·cases hk
 ·rename_i hne
  obtain ⟨x,rest,us,h1,h2,h3⟩:=vM hk
  refine ⟨x,rest,us,h1,h2,fun h' hs R' κ'=>?_⟩
  rw [← h3 h' hs R' κ']
  unfold Ft
  split
  ·exact (hne _ _ _ _ rfl rfl HEq.rfl).elim
  ·rfl
theorem FD {R:Type} {r:R} {E:Env} {h:jt}:∀ {c:Ty} {cs os:List Hd} {κ:c.D→List Hd→Option R},bY E h c cs os κ=some r →
  ∃ x us,κ x us=some r∧(∀ q∈os,q∈us)∧∀ h',mj h h' us→∀ (R':Type) (κ':c.D→List Hd→Option R'),bY E h' c cs os κ'=κ' x us
 | .unit,cs,os,κ,hk=>by
  cases cs with
  | nil=>exact ⟨(),os,by simpa [bY] using hk,fun _ h=>h,fun h' _ R' κ'=>by simp only [bY]⟩
  | cons _ _=>simp [bY] at hk
 | .pair a b,cs,os,κ,hk=>by
  cases cs with
  | nil=>simp [bY] at hk
  | cons o cs =>
   simp only [bY] at hk
   split at hk
   ·rename_i ro ls ho
    obtain ⟨x,r1,us,h1,h2,h3⟩:=Sf hk
    split at h1
    ·obtain ⟨y,us2,k1,k2,k3⟩:=FD h1
     exact ⟨(x,y),us2,k1,fun q hq=>k2 q (h2 q (by simp [hq])),fun h' hs R' κ'=>by
      simp only [bY,hs o (k2 o (h2 o (by simp))),ho]
      rw [h3 h' (hs.mono k2) R' _]
      exact k3 h' hs R' fun q os=>κ' (x,q) os⟩
    ·cases h1
   ·cases hk
 | .int _,cs,os,κ,h=>by simp [bY] at h
 | .bool,cs,os,κ,h=>by simp [bY] at h
 | .hd,cs,os,κ,h=>by simp [bY] at h
 | .slice _,cs,os,κ,h=>by simp [bY] at h
 | .vw _,cs,os,κ,h=>by simp [bY] at h
 | .fn _ _,cs,os,κ,h=>by simp [bY] at h
theorem GR {R:Type} {r:R} {t:Ty} {v:AV} {κ:List Leaf→Option R} (h:iO t v κ=some r):∃ ls,κ ls=some r∧∀ (R':Type) (κ':List Leaf→Option R'),iO t v κ'=κ' ls:=by
 unfold iO at h
 split at h
 ·rename_i cs hs;exact ⟨_,h,fun R' κ'=>by unfold iO;rw [hs]⟩
 ·rename_i l hs;exact ⟨_,h,fun R' κ'=>by unfold iO;rw [hs]⟩
 ·cases h
theorem ju {R:Type} {r:R} {E:Env} {h:jt}:∀ {c:Ty} {vs:List AV} {os:List Hd} {κ:c.D→List Hd→Option R},aX E h c vs os κ=some r →
  ∃ x us,κ x us=some r∧(∀ q∈os,q∈us)∧∀ h',mj h h' us→∀ (R':Type) (κ':c.D→List Hd→Option R'),aX E h' c vs os κ'=κ' x us
 | .unit,vs,os,κ,hk=>by
  cases vs with
  | nil=>exact ⟨(),os,by simpa [aX] using hk,fun _ h=>h,fun h' _ R' κ'=>by simp only [aX]⟩
  | cons _ _=>simp [aX] at hk
 | .pair t u,vs,os,κ,hk=>by
  cases vs with
  | nil=>simp [aX] at hk
  | cons v vs =>
   have plain:((iO t v fun cs=>bP h t cs os fun x r os=>kw r (aX E h u vs os fun q os=>κ (x,q) os))=some r) →
     (∀ h' (R':Type) (κ':(Ty.pair t u).D→List Hd→Option R'),aX E h' (.pair t u) (v :: vs) os κ'=iO t v fun cs=>bP h' t cs os fun x r os=>kw r (aX E h' u vs os fun q os=>κ' (x,q) os)) →
     ∃ x us,κ x us=some r∧(∀ q∈os,q∈us)∧∀ h',mj h h' us→∀ (R':Type) (κ':(Ty.pair t u).D→List Hd→Option R'),aX E h' (.pair t u) (v :: vs) os κ'=κ' x us:=by
    intro hk he
    obtain ⟨ls,h1,h2⟩:=GR hk
    obtain ⟨x,r1,us,h3,h4,h5⟩:=vM h1
    unfold kw at h3
    split at h3
    ·obtain ⟨y,us2,k1,k2,k3⟩:=ju h3
     exact ⟨(x,y),us2,k1,fun q hq=>k2 q (h4 q hq),fun h' hs R' κ'=>by
      rw [he,h2,h5 h' (hs.mono k2) R' _]
      unfold kw
      exact k3 h' hs R' fun q os=>κ' (x,q) os⟩
    ·cases h3
   cases t with
   | fn p q=>cases v with
    | leaf l=>cases l with
     | fn f caps =>
      simp only [aX] at hk
      split at hk
      ·rename_i a' c r' F hg
       obtain ⟨x,us,h1,h2,h3⟩:=FD hk
       obtain ⟨y,h4,h5⟩:=gQ (t':=.fn p q) h1
       obtain ⟨z,us2,k1,k2,k3⟩:=ju h4
       exact ⟨(y,z),us2,k1,fun q hq=>k2 q (h2 q hq),fun h' hs R' κ'=>by
        simp only [aX,hg]
        rw [h3 h' (hs.mono k2) R' _,h5 R' _]
        exact k3 h' hs R' fun q os=>κ' (y,q) os⟩
      ·rename_i fr a' r' F hg
       split at hk
       ·rename_i hfl
        obtain ⟨y,h4,h5⟩:=gQ (t':=.fn p q) hk
        obtain ⟨z,us2,k1,k2,k3⟩:=ju h4
        exact ⟨(y,z),us2,k1,k2,fun h' hs R' κ'=>by
         simp only [aX,hg,hfl]
         rw [h5 R' _]
         exact k3 h' hs R' fun q os=>κ' (y,q) os⟩
       ·cases hk
      ·cases hk
     | _=>exact plain (by simpa only [aX] using hk) (fun h' R' κ'=>by simp only [aX])
    | _=>exact plain (by simpa only [aX] using hk) (fun h' R' κ'=>by simp only [aX])
   | _=>exact plain (by simpa only [aX] using hk) (fun h' R' κ'=>by simp only [aX])
 | .int _,vs,os,κ,h=>by cases vs <;> simp [aX] at h
 | .bool,vs,os,κ,h=>by cases vs <;> simp [aX] at h
 | .hd,vs,os,κ,h=>by cases vs <;> simp [aX] at h
 | .slice _,vs,os,κ,h=>by cases vs <;> simp [aX] at h
 | .vw _,vs,os,κ,h=>by cases vs <;> simp [aX] at h
 | .fn _ _,vs,os,κ,h=>by cases vs <;> simp [aX] at h
end Go.Abs
