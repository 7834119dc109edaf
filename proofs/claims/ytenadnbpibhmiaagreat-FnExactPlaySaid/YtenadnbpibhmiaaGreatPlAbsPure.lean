/- Part of a proof of FnExactPlay: see the row. -/
import Derived.Test.YtenadnbpibhmiaaGreatPlAbsTab
set_option linter.unusedVariables false
set_option linter.unusedSimpArgs false
namespace Go.Abs
theorem tW {S R:Type} {body:S→Option (S⊕R)} {s:S} {r:R} {n:Nat} (h:al.iter body n s=some (.inr r)):al body s=some r:=by
 have det:∀ (n m:Nat) (s:S) (a b:R),al.iter body n s=some (.inr a)→al.iter body m s=some (.inr b)→a=b:=by
  intro n
  induction n with
  | zero=>intro m s a b h;simp [al.iter] at h
  | succ n ih =>
   intro m s a b h k
   cases m with
   | zero=>simp [al.iter] at k
   | succ m =>
    simp only [al.iter] at h k
    cases hb:body s with
    | none=>rw [hb] at h;cases h
    | some x =>
     rw [hb,Option.bind_some] at h k
     cases x with
     | inl s'=>exact ih m s' a b h k
     | inr q=>simp only [Option.some.injEq,Sum.inr.injEq] at h k;rw [← h,← k]
 unfold al
 have hex:∃ r n,al.iter body n s=some (.inr r):=⟨r,n,h⟩
 rw [dif_pos hex]
 obtain ⟨m,hm⟩:=hex.choose_spec
 rw [det m n s _ _ hm h]
theorem aF {S R:Type} {body:S→Option (S⊕R)} {s s':S} {r:R} (h:body s=some (.inl s')) (k:al body s'=some r):al body s=some r:=by
 obtain ⟨n,hn⟩:=Bp k
 refine tW (n:=n + 1) ?_
 simp only [al.iter,h,Option.bind_some]
 exact hn
theorem aI {S R:Type} {body:S→Option (S⊕R)} {s:S} {r:R} (h:body s=some (.inr r)):al body s=some r :=
 tW (n:=1) (by simp [al.iter,h])
theorem re {S R:Type} {body:S→Option (S⊕R)} (m:S→Nat) (I:S→Prop) (Q:R→Prop)
  (hstep:∀ s,I s→(∃ s',body s=some (.inl s')∧I s'∧m s' < m s)∨(∃ r,body s=some (.inr r)∧Q r)):∀ s,I s→∃ r,al body s=some r∧Q r:=by
 intro s
 generalize hn:m s=n
 induction n using Nat.strongRecOn generalizing s with
 | ind n ih =>
  intro h
  rcases hstep s h with ⟨s',h1,h2,h3⟩ | ⟨r,h1,h2⟩
  ·obtain ⟨r,k1,k2⟩:=ih (m s') (by omega) s' rfl h2
   exact ⟨r,aF h1 k1,k2⟩
  ·exact ⟨r,aI h1,h2⟩
theorem aB {n:Int} (h1:-9223372036854775808≤n) (h2:n≤9223372036854775807):IntKind.wrap .i64 n=n:=by
 rw [IntKind.wrap_i64];omega
theorem ay {α R:Type} {xs:List α} {i:Nat} {x:α} {κ:α→Option R} (h:xs[i]?=some x):idx xs (i:Int) κ=κ x:=by
 unfold idx
 rw [if_pos (by omega),Int.toNat_natCast,h,Option.bind_some]
def eqL {α:Type} (e:α→α→Bool):List α→List α→Bool
 | [],[]=>true
 | x :: xs,y :: ys=>e x y && eqL e xs ys
 | _,_=>false
def eqD:(t:Ty)→t.D→t.D→Bool
 | .int _,a,b=>a == b
 | .bool,a,b=>a == b
 | .slice t,a,b=>eqL (eqD t) a b
 | .unit,_,_=>true
 | .pair a b,x,y=>eqD a x.1 y.1 && eqD b x.2 y.2
 | .fn _ _,_,_=>false
 | .vw _,_,_=>false
 | .hd,_,_=>false
def Ty.noFn:Ty→Bool
 | .fn _ _=>false
 | .vw _=>false
 | .hd=>false
 | .slice t=>t.noFn
 | .pair a b=>a.noFn && b.noFn
 | _=>true
theorem qq:∀ (t:Ty),t.noFn=true→∀ (x y:t.D),eqD t x y=true↔x=y
 | .int _,_,x,y=>by simp [eqD]
 | .bool,_,x,y=>by simp [eqD]
 | .unit,_,_,_=>by simp [eqD]
 | .pair a b,h,x,y=>by
  simp only [Ty.noFn,Bool.and_eq_true] at h
  simp only [eqD,Bool.and_eq_true,qq a h.1,qq b h.2]
  exact ⟨fun h=>Prod.ext h.1 h.2,fun h=>by rw [h];exact ⟨rfl,rfl⟩⟩
 | .slice t,h,x,y=>by
  simp only [Ty.noFn] at h
  show eqL (eqD t) x y=true↔x=y
  have hi:=qq t h
  induction x generalizing y with
  | nil=>cases y <;> simp [eqL]
  | cons a x ih=>cases y with
   | nil=>simp [eqL]
   | cons b y=>simp only [eqL,Bool.and_eq_true,hi,ih,List.cons.injEq]
 | .fn _ _,h,_,_=>by cases h
 | .vw _,h,_,_=>by cases h
 | .hd,h,_,_=>by cases h
theorem uu {t:Ty} (h:t.noFn=true) (x:t.D):eqD t x x=true:=(qq t h x x).2 rfl
theorem lh {α:Type} [BEq α] (x y:α) (t:Bool):(bif (x != y) then some false else some t)=some ((x == y) && t):=by
 unfold bne
 cases x == y <;> rfl
theorem uv (b t:Bool):(bif (!b) then some false else some t)=some (b && t):=by
 cases b <;> rfl
theorem i6 {α:Type} (xs:List α) (z:α) {body:(List α×Int)→Option ((List α×Int)⊕(List α×Int))} (f:α→Option α) (hf:∀ x∈xs,f x=some x) (hlen:xs.length≤9223372036854775806)
  (hb:∀ s,body s=bif decide (s.2 < (xs.length:Int)) then idx xs s.2 (fun x=>(f x).bind fun y=>idx s.1 s.2 fun _=>(s.1[(s.2).toNat]?).bind fun _=>some (.inl (s.1.set (s.2).toNat y,IntKind.wrap .i64 (s.2 + 1)))) else some (.inr s)) :
  al body (List.replicate xs.length z,0)=some (xs,(xs.length:Int)):=by
 have main:∀ (r p:List α),xs=p++r→al body (p++List.replicate r.length z,(p.length:Int))=some (xs,(xs.length:Int)):=by
  intro r
  induction r with
  | nil =>
   intro p e
   refine aI ?_
   rw [hb]
   have:¬ ((p.length:Int) < (xs.length:Int)):=by rw [e];simp
   simp only [this,decide_false,cond_false]
   simp [e]
  | cons x r ih =>
   intro p e
   have hl:p.length < xs.length:=by rw [e];simp
   refine aF (s':=(p++x :: List.replicate r.length z,((p++[x]).length:Int))) ?_ (by have:=ih (p++[x]) (by rw [e];simp);simpa using this)
   rw [hb]
   have hlt:((p.length:Int) < (xs.length:Int)):=by omega
   simp only [hlt,decide_true,cond_true]
   have hx:xs[p.length]?=some x:=by rw [e];simp
   rw [ay hx,hf x (by rw [e];simp),Option.bind_some]
   have h1:(p++List.replicate (x :: r).length z)[p.length]?=some z:=by simp
   rw [ay h1,Int.toNat_natCast,h1,Option.bind_some]
   rw [aB (by omega) (by omega)]
   congr 3
   ·rw [List.set_append_right _ _ (Nat.le_refl _)]
    simp [List.replicate_succ]
   ·simp
 have:=main xs [] rfl
 simpa using this
theorem UG {α:Type} (xs ys:List α) (hl:xs.length=ys.length) {body:Int→Option (Int⊕(Int⊕Bool))} (e:α→α→Bool) (hlen:xs.length≤9223372036854775806)
  (hb:∀ i,body i=bif decide (i < (xs.length:Int)) then idx xs i (fun x=>idx ys i fun y=>bif (!e x y) then some (.inr (.inr false)) else some (.inl (IntKind.wrap .i64 (i + 1)))) else some (.inr (.inl i))) :
  ∃ o,al body 0=some o∧((∃ i,o=.inl i)∧(∀ (i:Nat) x y,xs[i]?=some x→ys[i]?=some y→e x y=true)∨(o=.inr false∧∃ (i:Nat) (x y:α),xs[i]?=some x∧ys[i]?=some y∧e x y=false)):=by
 obtain ⟨r,h1,h2⟩:=re (body:=body) (fun i=>xs.length - i.toNat) (fun i=>0≤i∧i≤xs.length∧∀ (j:Nat) x y,(j:Int) < i→xs[j]?=some x→ys[j]?=some y→e x y=true)
  (fun o=>(∃ i,o=.inl i)∧(∀ (i:Nat) x y,xs[i]?=some x→ys[i]?=some y→e x y=true)∨(o=.inr false∧∃ (i:Nat) (x y:α),xs[i]?=some x∧ys[i]?=some y∧e x y=false)) (by
  rintro i ⟨h0,h1,h2⟩
  obtain ⟨k,rfl⟩:=Int.eq_ofNat_of_zero_le h0
  rw [hb]
  by_cases hlt:((k:Int) < (xs.length:Int))
  ·simp only [hlt,decide_true,cond_true]
   have hk:k < xs.length:=by omega
   have hx:xs[k]?=some xs[k]:=List.getElem?_eq_getElem hk
   have hy:ys[k]?=some (ys[k]'(by omega)):=List.getElem?_eq_getElem (by omega)
   rw [ay hx,ay hy]
   cases he:e xs[k] (ys[k]'(by omega)) with
   | true =>
    left
    simp only [Bool.not_true,cond_false]
    refine ⟨_,rfl,⟨?_,?_,?_⟩,?_⟩
    ·rw [aB (by omega) (by omega)];omega
    ·rw [aB (by omega) (by omega)];omega
    ·rw [aB (by omega) (by omega)]
     intro j x y hj hx' hy'
     rcases Int.lt_or_le (j:Int) (k:Int) with h | h
     ·exact h2 j x y h hx' hy'
     ·have:j=k:=by omega
      subst this
      rw [hx] at hx';rw [hy] at hy'
      cases hx';cases hy'
      exact he
    ·rw [aB (by omega) (by omega)];omega
   | false =>
    right
    simp only [Bool.not_false,cond_true]
    exact ⟨_,rfl,.inr ⟨rfl,k,_,_,hx,hy,he⟩⟩
  ·right
   simp only [hlt,decide_false,cond_false]
   refine ⟨_,rfl,.inl ⟨⟨_,rfl⟩,fun i x y hx hy=>h2 i x y ?_ hx hy⟩⟩
   have:=(List.getElem?_eq_some_iff.1 hx).1
   omega) 0 ⟨Int.le_refl _,by omega,fun j x y hj=>by omega⟩
 exact ⟨r,h1,h2⟩
theorem IW {α:Type} {xs ys:List α} (hl:xs.length=ys.length) (h:∀ (i:Nat) x y,xs[i]?=some x→ys[i]?=some y→x=y):xs=ys:=by
 refine List.ext_getElem hl fun i h1 h2=>?_
 exact h i _ _ (List.getElem?_eq_getElem h1) (List.getElem?_eq_getElem h2)
theorem uw {t:Ty} (ht:t.noFn=true) (xs ys:List t.D) {body:Int→Option (Int⊕(Int⊕Bool))} {e:t.D→t.D→Bool} (he:∀ x y,e x y=eqD t x y) (hlen:xs.length≤9223372036854775806)
  (hb:∀ i,body i=bif decide (i < (xs.length:Int)) then idx xs i (fun x=>idx ys i fun y=>bif (!e x y) then some (.inr (.inr false)) else some (.inl (IntKind.wrap .i64 (i + 1)))) else some (.inr (.inl i))) :
  (bif ((xs.length:Int) != (ys.length:Int)) then some false else ((al body 0).bind fun o=>match o with
   | .inl _=>some true
   | .inr q=>some q))=some (eqD (.slice t) xs ys):=by
 by_cases hl:xs.length=ys.length
 ·have:((xs.length:Int) != (ys.length:Int))=false:=by simp [hl]
  rw [this]
  simp only [cond_false]
  obtain ⟨o,h1,h2⟩:=UG xs ys hl e hlen hb
  rw [h1,Option.bind_some]
  rcases h2 with ⟨⟨i,rfl⟩,h⟩ | ⟨rfl,i,x,y,hx,hy,hne⟩
  ·have:xs=ys:=IW hl fun i x y hx hy=>(qq t ht x y).1 (by rw [← he];exact h i x y hx hy)
   subst this
   rw [uu (t:=.slice t) ht]
  ·have:eqD (.slice t) xs ys=false:=by
    cases hq:eqD (.slice t) xs ys with
    | false=>rfl
    | true =>
     have:=(qq (.slice t) ht xs ys).1 hq
     subst this
     rw [hx] at hy
     cases hy
     rw [he,uu ht] at hne
     cases hne
   rw [this]
 ·have:((xs.length:Int) != (ys.length:Int))=true:=by simp;omega
  rw [this]
  simp only [cond_true]
  have:eqD (.slice t) xs ys=false:=by
   cases hq:eqD (.slice t) xs ys with
   | false=>rfl
   | true=>exact absurd (congrArg List.length ((qq (.slice t) ht xs ys).1 hq)) hl
  rw [this]
theorem zU {n:Nat} {l:Int} (h0:0≤l) (h1:l≤33554432) (hn:n≤9223372036854775807):(bif decide (IntKind.wrap .i64 (l - (n:Int)) < 0) then some (-1) else some (IntKind.wrap .i64 (l - (n:Int))))=some (if (n:Int)≤l then l - n else -1):=by
 rw [aB (by omega) (by omega)]
 by_cases h:(n:Int)≤l
 ·rw [if_pos h]
  have:¬ (l - (n:Int) < 0):=by omega
  simp [this]
 ·rw [if_neg h]
  have:l - (n:Int) < 0:=by omega
  simp [this]
def bD {α:Type} (p:α→Bool):List α→Option Nat
 | []=>none
 | x :: r=>if p x then some 0 else (bD p r).map (· + 1)
theorem eh {α:Type} (p:α→Bool):∀ (xs:List α),(bD p xs=none→∀ x∈xs,p x=false)∧∀ k,bD p xs=some k→∃ x,xs[k]?=some x∧p x=true∧∀ j y,j < k→xs[j]?=some y→p y=false
 | []=>by simp [bD]
 | a :: xs=>by
  obtain ⟨h1,h2⟩:=eh p xs
  unfold bD
  by_cases hp:p a=true
  ·rw [if_pos hp]
   refine ⟨fun h=>(by cases h),fun k hk=>?_⟩
   cases hk
   exact ⟨a,by simp,hp,fun j y hj=>by omega⟩
  ·rw [if_neg hp]
   refine ⟨fun h x hx=>?_,fun k hk=>?_⟩
   ·rcases List.mem_cons.1 hx with rfl | hx
    ·simpa using hp
    ·exact h1 (by simpa using h) x hx
   ·cases hf:bD p xs with
    | none=>rw [hf] at hk;cases hk
    | some m =>
     rw [hf] at hk
     simp only [Option.map_some,Option.some.injEq] at hk
     subst hk
     obtain ⟨x,g1,g2,g3⟩:=h2 m hf
     refine ⟨x,by simpa using g1,g2,fun j y hj hy=>?_⟩
     cases j with
     | zero=>simp at hy;subst hy;simpa using hp
     | succ j=>exact g3 j y (by omega) (by simpa using hy)
theorem dH {α β:Type} (xs:List α) {body:Int→Option (Int⊕(Int⊕β))} (p:α→Bool) (q:Int→β) (hlen:xs.length≤9223372036854775806)
  (hb:∀ (i:Nat) x,xs[i]?=some x→body i=bif p x then some (.inr (.inr (q i))) else some (.inl (IntKind.wrap .i64 ((i:Int) + 1))))
  (he:body xs.length=some (.inr (.inl xs.length))) :
  al body 0=some (match bD p xs with
   | some k=>.inr (q k)
   | none=>.inl xs.length):=by
 have main:∀ (r:List α) (k:Nat),xs.drop k=r→k≤xs.length→al body k=some (match bD p r with
   | some j=>.inr (q ((k + j:Nat):Int))
   | none=>.inl xs.length):=by
  intro r
  induction r with
  | nil =>
   intro k h hk
   have:k=xs.length:=by
    have:=congrArg List.length h
    simp at this
    omega
   subst this
   exact aI he
  | cons x r ih =>
   intro k h hk
   have hlt:k < xs.length:=by
    have:=congrArg List.length h
    simp at this
    omega
   have hx:xs[k]?=some x:=by
    have:=congrArg (fun l=>l[0]?) h
    simpa using this
   have hr:xs.drop (k + 1)=r:=by
    have:=congrArg List.tail h
    simpa using this
   unfold bD
   by_cases hp:p x=true
   ·rw [if_pos hp]
    refine aI ?_
    rw [hb k x hx,hp]
    simp
   ·rw [if_neg hp]
    refine aF (s':=((k + 1:Nat):Int)) ?_ ?_
    ·rw [hb k x hx]
     have:p x=false:=by simpa using hp
     rw [this]
     simp only [cond_false]
     rw [aB (by omega) (by omega)]
     rfl
    ·rw [ih (k + 1) hr hlt]
     cases bD p r with
     | none=>rfl
     | some j=>simp only [Option.map_some];congr 3;omega
 have:=main xs 0 rfl (by omega)
 simpa using this
def bJ {α:Type} (fill:Int→α) (c:Int):Int→Nat→List α
 | _,0=>[]
 | k,n + 1=>fill k :: bJ fill c (k + c) n
theorem M7 {α:Type} (fill:Int→α) (c:Int):∀ (n:Nat) (k:Int),(bJ fill c k n).length=n
 | 0,_=>rfl
 | n + 1,k=>by simp [bJ,M7 fill c n]
theorem M8 {α:Type} (fill:Int→α) (c:Int):∀ (n:Nat) (k:Int) (i:Nat),i < n→(bJ fill c k n)[i]?=some (fill (k + c * i))
 | 0,_,_,h=>by omega
 | n + 1,k,0,_=>by simp [bJ]
 | n + 1,k,i + 1,h=>by
  simp only [bJ,List.getElem?_cons_succ]
  rw [M8 fill c n (k + c) i (by omega)]
  congr 2
  rw [Int.natCast_add,Int.mul_add]
  omega
theorem ib {α R:Type} {xs:List α} {i:Nat} {a:α} {κ:α→Option R} (h:i < xs.length):idx (xs.set i a) (i:Int) κ=κ a :=
 ay (by simp [h])
theorem ic {α:Type} {xs:List α} {i:Nat} {a:α} (h:i < xs.length):(xs.set i a)[i]?=some a:=by simp [h]
theorem rf {α:Type} (fill:Int→α) (c:Nat) {body:(List α×(Int×Int))→Option ((List α×(Int×Int))⊕(List α×(Int×Int)))}
  (hb:∀ (ys:List α) (k:Int) (i:Nat),i < ys.length→0≤k→k≤4611686018427387904→(i:Int)≤4611686018427387904→body (ys,k,(i:Int))=some (.inl (ys.set i (fill k),k + (c:Int),(i:Int) + 1)))
  (he:∀ (ys:List α) (k:Int),body (ys,k,(ys.length:Int))=some (.inr (ys,k,(ys.length:Int)))) (xs:List α) (k:Int) (h0:0≤k) (hk:k + (c:Int) * xs.length≤4611686018427387904) (hlen:(xs.length:Int)≤4611686018427387904) :
  al body (xs,k,0)=some (bJ fill c k xs.length,k + (c:Int) * xs.length,(xs.length:Int)):=by
 have main:∀ (r p:List α) (k:Int),0≤k→k + (c:Int) * r.length≤4611686018427387904→((p.length + r.length:Nat):Int)≤4611686018427387904 →
   al body (p++r,k,(p.length:Int))=some (p++bJ fill c k r.length,k + (c:Int) * r.length,((p.length + r.length:Nat):Int)):=by
  intro r
  induction r with
  | nil =>
   intro p k h0 hk hl
   refine aI ?_
   have:=he p k
   simpa [bJ] using this
  | cons x r ih =>
   intro p k h0 hk hl
   have hc:(c:Int) * ((x :: r).length:Int)=c * (r.length:Int) + c:=by simp [Int.mul_add]
   rw [hc] at hk
   have hcr:0≤(c:Int) * (r.length:Int):=Int.mul_nonneg (by omega) (by omega)
   simp only [List.length_cons] at hl
   refine aF (hb (p++x :: r) k p.length (by simp) h0 (by omega) (by omega)) ?_
   have:=ih (p++[fill k]) (k + c) (by omega) (by omega) (by simp;omega)
   have e1:(p++x :: r).set p.length (fill k)=p++[fill k]++r:=by simp
   rw [e1]
   have e2:((p++[fill k]).length:Int)=(p.length:Int) + 1:=by simp
   rw [e2] at this
   rw [this]
   simp only [bJ,List.length_cons,List.append_assoc,List.singleton_append,Option.some.injEq,Prod.mk.injEq,true_and]
   refine ⟨?_,?_⟩
   ·rw [show ((r.length + 1:Nat):Int)=(r.length:Int) + 1 by omega,Int.mul_add];omega
   ·simp;omega
 have:=main xs [] k h0 hk (by simpa using hlen)
 simpa using this
theorem rg {α:Type} (fill:Int→α) (c:Nat) (ys:List α) {β:Type} {body:(Int×Int)→Option ((Int×Int)⊕((Int×Int)⊕β))} (k:Int) (n:Nat) (hy:ys=bJ fill c k n)
  (hb:∀ (k:Int) (i:Nat),ys[i]?=some (fill k)→0≤k→k≤4611686018427387904→(i:Int)≤4611686018427387904→body (k,(i:Int))=some (.inl (k + (c:Int),(i:Int) + 1)))
  (he:∀ (k:Int),body (k,(ys.length:Int))=some (.inr (.inl (k,(ys.length:Int))))) (h0:0≤k) (hk:k + (c:Int) * n≤4611686018427387904) (hlen:(n:Int)≤4611686018427387904) :
  al body (k,0)=some (.inl (k + (c:Int) * n,(n:Int))):=by
 have hl:ys.length=n:=by rw [hy,M7]
 have main:∀ (m i:Nat),i + m=n→al body (k + (c:Int) * i,(i:Int))=some (.inl (k + (c:Int) * n,(n:Int))):=by
  intro m
  induction m with
  | zero =>
   intro i hi
   have:i=n:=by omega
   subst this
   refine aI ?_
   have:=he (k + (c:Int) * i)
   rwa [hl] at this
  | succ m ih =>
   intro i hi
   have h1:(c:Int) * (i:Int)≤(c:Int) * (n:Int):=Int.mul_le_mul_of_nonneg_left (by omega) (by omega)
   have h2:0≤(c:Int) * (i:Int):=Int.mul_nonneg (by omega) (by omega)
   refine aF (hb (k + (c:Int) * i) i (by rw [hy];exact M8 fill c n k i (by omega)) (by omega) (by omega) (by omega)) ?_
   have:=ih (i + 1) (by omega)
   rwa [show ((i + 1:Nat):Int)=(i:Int) + 1 by omega,Int.mul_add,Int.mul_one,← Int.add_assoc] at this
 have:=main n 0 (by omega)
 simpa using this
def dI {α σ:Type} (step:σ→Nat→α→σ):Nat→List α→σ→σ
 | _,[],s=>s
 | i,x :: r,s=>dI step (i + 1) r (step s i x)
theorem ER {α σ R:Type} (xs:List α) {body:(σ×Int)→Option ((σ×Int)⊕R)} (step:σ→Nat→α→σ) (I:Nat→σ→Prop) (r:(σ×Int)→R) (s0:σ) (h0:I 0 s0) (hlen:xs.length≤9223372036854775806)
  (hb:∀ s (i:Nat) x,I i s→xs[i]?=some x→body (s,(i:Int))=some (.inl (step s i x,IntKind.wrap .i64 ((i:Int) + 1)))∧I (i + 1) (step s i x))
  (he:∀ s,I xs.length s→body (s,(xs.length:Int))=some (.inr (r (s,(xs.length:Int))))) :
  al body (s0,0)=some (r (dI step 0 xs s0,(xs.length:Int)))∧I xs.length (dI step 0 xs s0):=by
 have main:∀ (l:List α) (k:Nat) (s:σ),xs.drop k=l→k≤xs.length→I k s→al body (s,(k:Int))=some (r (dI step k l s,(xs.length:Int)))∧I xs.length (dI step k l s):=by
  intro l
  induction l with
  | nil =>
   intro k s h hk hI
   have:k=xs.length:=by
    have:=congrArg List.length h
    simp at this
    omega
   subst this
   exact ⟨aI (he s hI),hI⟩
  | cons x l ih =>
   intro k s h hk hI
   have hlt:k < xs.length:=by
    have:=congrArg List.length h
    simp at this
    omega
   have hx:xs[k]?=some x:=by
    have:=congrArg (fun l=>l[0]?) h
    simpa using this
   have hr:xs.drop (k + 1)=l:=by
    have:=congrArg List.tail h
    simpa using this
   obtain ⟨h1,h2⟩:=hb s k x hI hx
   rw [aB (by omega) (by omega)] at h1
   obtain ⟨h3,h4⟩:=ih (k + 1) (step s k x) hr hlt h2
   exact ⟨aF h1 h3,h4⟩
 have:=main xs 0 s0 rfl (by omega) h0
 simpa using this
def bh {α β:Type} (g:Nat→α→List β):Nat→List α→List β
 | _,[]=>[]
 | i,x :: r=>g i x++bh g (i + 1) r
theorem rG {α β:Type} (g:Nat→α→List β):∀ (xs:List α) (i:Nat) (s:List β),dI (fun s i x=>s++g i x) i xs s=s++bh g i xs
 | [],_,s=>by simp [dI,bh]
 | x :: xs,i,s=>by simp [dI,bh,rG g xs,List.append_assoc]
theorem li {α β:Type} (g:Nat→α→List β) (hg:∀ i x,(g i x).length≤1):∀ (xs:List α) (i:Nat),(bh g i xs).length≤xs.length
 | [],_=>by simp [bh]
 | x :: xs,i=>by have h1:=li g hg xs (i + 1);have h2:=hg i x;simp only [bh,List.length_append,List.length_cons];omega
theorem cy {α β R:Type} (xs:List α) {body:(List β×Int)→Option ((List β×Int)⊕R)} (g:Nat→α→List β) (r:(List β×Int)→R) (hg:∀ i x,(g i x).length≤1) (hlen:xs.length≤9223372036854775806)
  (hb:∀ s (i:Nat) x,s.length≤i→xs[i]?=some x→body (s,(i:Int))=some (.inl (s++g i x,IntKind.wrap .i64 ((i:Int) + 1))))
  (he:∀ s,body (s,(xs.length:Int))=some (.inr (r (s,(xs.length:Int))))) :
  al body ([],0)=some (r (bh g 0 xs,(xs.length:Int))):=by
 have:=(ER xs (fun s i x=>s++g i x) (fun i s=>s.length≤i) r [] (by simp) hlen (fun s i x hI hx=>⟨hb s i x hI hx,by have:=hg i x;simp only [List.length_append];omega⟩) (fun s _=>he s)).1
 rw [this,rG]
 rfl
theorem iG {α:Type} (p:α→Bool):∀ (xs:List α) (i:Nat),bh (fun _ x=>if p x then [x] else []) i xs=xs.filter p
 | [],_=>rfl
 | x :: xs,i=>by
  unfold bh
  rw [iG p xs]
  cases h:p x <;> simp [h]
theorem C1 {α R:Type} (xs:List α) {body:(List α×(Int×Int))→Option ((List α×(Int×Int))⊕R)} (p:α→Bool) (r:(List α×(Int×Int))→R) (hlen:xs.length≤9223372036854775806)
  (hb:∀ (ys:List α) (i j:Nat) x,ys[j]?=some x→i < j→ys.length=xs.length→x∈xs→body (ys,(i:Int),(j:Int))=some (.inl (if p x then (ys,(i:Int),(j:Int) + 1) else (ys.set i x,(i:Int) + 1,(j:Int) + 1))))
  (he:∀ (ys:List α) (i:Int),ys.length=xs.length→body (ys,i,(xs.length:Int))=some (.inr (r (ys,i,(xs.length:Int))))) (k:Nat) (x:α) (hk:xs[k]?=some x) (hp:p x=true) (hf:∀ j y,j < k→xs[j]?=some y→p y=false) :
  ∃ (ys:List α) (m:Nat),al body (xs,(k:Int),(k:Int) + 1)=some (r (ys,(m:Int),(xs.length:Int)))∧ys.length=xs.length∧m≤xs.length∧ys.take m=xs.filter (fun x=>!p x):=by
 have main:∀ (l:List α) (ys:List α) (i j:Nat),xs.drop j=l→ys.drop j=l→j≤xs.length→i < j→ys.length=xs.length→ys.take i=(xs.take j).filter (fun x=>!p x) →
   ∃ (zs:List α) (m:Nat),al body (ys,(i:Int),(j:Int))=some (r (zs,(m:Int),(xs.length:Int)))∧zs.length=xs.length∧m≤xs.length∧zs.take m=xs.filter (fun x=>!p x):=by
  intro l
  induction l with
  | nil =>
   intro ys i j h1 h2 hj hij hl ht
   have:j=xs.length:=by
    have:=congrArg List.length h1
    simp at this
    omega
   subst this
   exact ⟨ys,i,aI (he ys i hl),hl,by omega,by rw [ht,List.take_length]⟩
  | cons x l ih =>
   intro ys i j h1 h2 hj hij hl ht
   have hlt:j < xs.length:=by
    have:=congrArg List.length h1
    simp at this
    omega
   have hx:xs[j]?=some x:=by
    have:=congrArg (fun l=>l[0]?) h1
    simpa using this
   have hy:ys[j]?=some x:=by
    have:=congrArg (fun l=>l[0]?) h2
    simpa using this
   have hr:xs.drop (j + 1)=l:=by
    have:=congrArg List.tail h1
    simpa using this
   have hr':ys.drop (j + 1)=l:=by
    have:=congrArg List.tail h2
    simpa using this
   have htk:xs.take (j + 1)=xs.take j++[x]:=by rw [List.take_add_one,hx];rfl
   have hb':=hb ys i j x hy hij hl (List.mem_of_getElem? hx)
   cases hpx:p x with
   | true =>
    rw [hpx] at hb'
    simp only [if_true] at hb'
    obtain ⟨zs,m,g1,g2⟩:=ih ys i (j + 1) hr hr' hlt (by omega) hl (by rw [htk,List.filter_append,ht];simp [hpx])
    exact ⟨zs,m,aF hb' g1,g2⟩
   | false =>
    rw [hpx] at hb'
    have hb'':body (ys,(i:Int),(j:Int))=some (.inl (ys.set i x,((i + 1:Nat):Int),((j + 1:Nat):Int))):=by simpa using hb'
    obtain ⟨zs,m,g1,g2⟩:=ih (ys.set i x) (i + 1) (j + 1) hr (by rw [List.drop_set_of_lt (by omega)];exact hr') hlt (by omega) (by simp [hl]) (by
     rw [htk,List.filter_append,← ht,List.take_add_one,List.take_set_of_le (Nat.le_refl i)]
     have:i < ys.length:=by omega
     simp [hpx,this])
    exact ⟨zs,m,aF hb'' g1,g2⟩
 have hlt:=(List.getElem?_eq_some_iff.1 hk).1
 obtain ⟨zs,m,g⟩:=main (xs.drop (k + 1)) xs k (k + 1) rfl rfl (by omega) (by omega) rfl (by
  have htk:xs.take (k + 1)=xs.take k++[x]:=by rw [List.take_add_one,hk];rfl
  rw [htk,List.filter_append]
  have h1:(xs.take k).filter (fun x=>!p x)=xs.take k:=by
   rw [List.filter_eq_self]
   intro a ha
   obtain ⟨j,hj,rfl⟩:=List.mem_take_iff_getElem.1 ha
   have:=hf j xs[j] (by omega) (List.getElem?_eq_getElem (by omega))
   simp [this]
  rw [h1]
  simp [hp])
 exact ⟨zs,m,g⟩
theorem Gn {α R:Type} (xs:List α) {body:(List α×(Int×Int))→Option ((List α×(Int×Int))⊕R)} (p:α→Bool) (r:(List α×(Int×Int))→R) (hlen:xs.length≤9223372036854775806)
  (hb:∀ (ys:List α) (i j:Nat) x,ys[j]?=some x→i < j→ys.length=xs.length→body (ys,(i:Int),(j:Int))=some (.inl (if p x then (ys,(i:Int),(j:Int) + 1) else (ys.set i x,(i:Int) + 1,(j:Int) + 1))))
  (he:∀ (ys:List α) (i:Int),ys.length=xs.length→body (ys,i,(xs.length:Int))=some (.inr (r (ys,i,(xs.length:Int))))) (k:Nat) (x:α) (hk:xs[k]?=some x) (hp:p x=true) (hf:∀ j y,j < k→xs[j]?=some y→p y=false) :
  ∃ (ys:List α) (m:Nat),al body (xs,(k:Int),(k:Int) + 1)=some (r (ys,(m:Int),(xs.length:Int)))∧ys.length=xs.length∧m≤xs.length∧ys.take m=xs.filter (fun x=>!p x) :=
 C1 xs p r hlen (fun ys i j x h1 h2 h3 _=>hb ys i j x h1 h2 h3) he k x hk hp hf
theorem bb {n:Int} (h:0≤n):decide (n < 0)=false:=by simp;omega
end Go.Abs
