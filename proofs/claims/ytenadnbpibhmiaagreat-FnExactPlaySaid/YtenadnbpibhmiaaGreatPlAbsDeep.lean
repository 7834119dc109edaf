/- Part of a proof of FnExactPlay: see the row. -/
import Derived.Test.YtenadnbpibhmiaaGreatPlAbsPure
import Derived.Test.YtenadnbpibhmiaaGreatPlAbsRow
set_option linter.unusedVariables false
set_option linter.unusedSimpArgs false
namespace Go.Abs
def okD:(t:Ty)→t.D→Prop
 | .slice t,xs=>xs.length≤33554432∧∀ x∈xs,okD t x
 | .pair a b,x=>okD a x.1∧okD b x.2
 | .int _,_=>True
 | .bool,_=>True
 | .unit,_=>True
 | .fn _ _,_=>True
 | .vw _,_=>True
 | .hd,_=>True
def Ty.noSl:Ty→Bool
 | .slice _=>false
 | .fn _ _=>false
 | .vw _=>false
 | .hd=>false
 | .pair a b=>a.noSl && b.noSl
 | _=>true
theorem fG:∀ (t:Ty),t.noSl=true→∀ (x:t.D),okD t x
 | .int _,_,_=>trivial
 | .bool,_,_=>trivial
 | .unit,_,_=>trivial
 | .pair a b,h,x=>by
  simp only [Ty.noSl,Bool.and_eq_true] at h
  exact ⟨fG a h.1 x.1,fG b h.2 x.2⟩
 | .slice _,h,_=>by cases h
 | .fn _ _,h,_=>by cases h
 | .vw _,h,_=>by cases h
 | .hd,h,_=>by cases h
def SzR (r:Option Int) (l:Int) (P:Prop):Prop:=∃ m,r=some m∧(m < 0∨(0≤m∧m≤l∧P))
theorem SzR.bind {r:Option Int} {l:Int} {P Q:Prop} {k:Int→Option Int} (h:SzR r l P) (hk:∀ m,0≤m→m≤l→SzR (k m) m Q):SzR (r.bind fun y=>bif decide (y < 0) then some (-1) else k y) l (P∧Q):=by
 obtain ⟨m,rfl,hm | ⟨h0,h1,hP⟩⟩:=h
 ·exact ⟨-1,by simp [hm],.inl (by omega)⟩
 ·obtain ⟨q,hq,hh⟩:=hk m h0 h1
  refine ⟨q,?_,?_⟩
  ·have:decide (m < 0)=false:=bb h0
   simp only [Option.bind_some,this,cond_false,hq]
  ·rcases hh with hh | ⟨g0,g1,hQ⟩
   ·exact .inl hh
   ·exact .inr ⟨g0,by omega,hP,hQ⟩
theorem SzR.done {m:Int} (h:0≤m):SzR (some m) m True:=⟨m,rfl,.inr ⟨h,Int.le_refl _,trivial⟩⟩
theorem SzR.imp {r:Option Int} {l:Int} {P Q:Prop} (h:SzR r l P) (hi:P→Q):SzR r l Q:=by
 obtain ⟨m,e,h⟩:=h
 exact ⟨m,e,h.imp id fun h=>⟨h.1,h.2.1,hi h.2.2⟩⟩
theorem zV {t:Ty} (ht:t.noSl=true) {xs:List t.D} {l:Int} {r:Option Int} (h:r=some (if (xs.length:Int)≤l then l - xs.length else -1)) (h1:l≤33554432):SzR r l (okD (.slice t) xs):=by
 by_cases hl:(xs.length:Int)≤l
 ·rw [if_pos hl] at h
  exact ⟨_,h,.inr ⟨by omega,by omega,by omega,fun x _=>fG t ht x⟩⟩
 ·rw [if_neg hl] at h
  exact ⟨_,h,.inl (by omega)⟩
theorem PH {t:Ty} (xs:List t.D) (sz:t.D→Int→Option Int) {body:(Int×Int)→Option ((Int×Int)⊕((Int×Int)⊕Int))} (hx:xs.length≤maxLen)
  (hsz:∀ x∈xs,∀ l,0≤l→l≤33554432→SzR (sz x l) l (okD t x))
  (hb:∀ s,body s=bif decide (s.2 < (xs.length:Int)) then idx xs s.2 (fun x=>(sz x s.1).bind fun m=>bif decide (m < 0) then some (.inr (.inr (-1))) else some (.inl (m,IntKind.wrap .i64 (s.2 + 1)))) else some (.inr (.inl s)))
  {l:Int} (h0:0≤l) (h1:l≤33554432) :
  ∃ m,(bif decide (IntKind.wrap .i64 (l - (xs.length:Int)) < 0) then some (-1) else ((al body (IntKind.wrap .i64 (l - (xs.length:Int)),0)).bind fun o=>match o with
   | .inl s=>some s.1
   | .inr q=>some q))=some m∧(m < 0∨(0≤m∧m + xs.length≤l∧okD (.slice t) xs)):=by
 have hm:(xs.length:Int)≤9223372036854775807:=by have:maxLen=9223372036854775807:=rfl;omega
 rw [aB (by omega) (by omega)]
 by_cases hl:(xs.length:Int)≤l
 ·rw [bb (by omega)]
  simp only [cond_false]
  obtain ⟨o,g1,g2⟩:=re (body:=body) (fun s=>xs.length - s.2.toNat) (fun s=>0≤s.2∧s.2≤xs.length∧0≤s.1∧s.1≤l - xs.length∧∀ (j:Nat) x,(j:Int) < s.2→xs[j]?=some x→okD t x)
   (fun o=>o=.inr (-1)∨∃ m,o=.inl (m,(xs.length:Int))∧0≤m∧m≤l - xs.length∧∀ x∈xs,okD t x) (by
    rintro ⟨c,i⟩ ⟨k0,k1,k2,k3,k4⟩
    simp only at k0 k1 k2 k3 k4
    obtain ⟨n,rfl⟩:=Int.eq_ofNat_of_zero_le k0
    rw [hb]
    by_cases hlt:((n:Int) < (xs.length:Int))
    ·simp only [hlt,decide_true,cond_true]
     have hn:xs[n]?=some xs[n]:=List.getElem?_eq_getElem (by omega)
     rw [ay hn]
     obtain ⟨m,e,hh⟩:=hsz xs[n] (List.getElem_mem _) c k2 (by omega)
     rw [e,Option.bind_some]
     rcases hh with hh | ⟨w0,w1,w2⟩
     ·right
      rw [decide_eq_true hh]
      exact ⟨_,rfl,.inl rfl⟩
     ·left
      rw [bb w0]
      simp only [cond_false]
      refine ⟨_,rfl,⟨?_,?_,w0,by omega,?_⟩,?_⟩
      ·simp only;rw [aB (by omega) (by omega)];omega
      ·simp only;rw [aB (by omega) (by omega)];omega
      ·simp only
       rw [aB (by omega) (by omega)]
       intro j x hj hx'
       rcases Int.lt_or_le (j:Int) (n:Int) with h | h
       ·exact k4 j x h hx'
       ·have:j=n:=by omega
        subst this
        rw [hn] at hx'
        cases hx'
        exact w2
      ·simp only;rw [aB (by omega) (by omega)];omega
    ·right
     simp only [hlt,decide_false,cond_false]
     have hnl:(n:Int)=(xs.length:Int):=by omega
     refine ⟨_,rfl,.inr ⟨c,by rw [hnl],k2,k3,fun x hx'=>?_⟩⟩
     obtain ⟨j,hj,rfl⟩:=List.mem_iff_getElem.1 hx'
     exact k4 j _ (by omega) (List.getElem?_eq_getElem hj)) (l - xs.length,0) ⟨Int.le_refl _,by simp only;omega,by simp only;omega,by simp only;omega,fun j x hj=>by simp only at hj;omega⟩
  rw [g1,Option.bind_some]
  rcases g2 with rfl | ⟨m,rfl,w0,w1,w2⟩
  ·exact ⟨-1,rfl,.inl (by omega)⟩
  ·exact ⟨m,rfl,.inr ⟨w0,by omega,by omega,w2⟩⟩
 ·rw [decide_eq_true (by omega)]
  exact ⟨-1,rfl,.inl (by omega)⟩
theorem NP {t:Ty} (xs:List t.D) (sz:t.D→Int→Option Int) {body:(Int×Int)→Option ((Int×Int)⊕((Int×Int)⊕Int))} (hx:xs.length≤maxLen)
  (hsz:∀ x∈xs,∀ l,0≤l→l≤33554432→SzR (sz x l) l (okD t x))
  (hb:∀ s,body s=bif decide (s.2 < (xs.length:Int)) then idx xs s.2 (fun x=>(sz x s.1).bind fun m=>bif decide (m < 0) then some (.inr (.inr (-1))) else some (.inl (m,IntKind.wrap .i64 (s.2 + 1)))) else some (.inr (.inl s)))
  {l:Int} (h0:0≤l) (h1:l≤33554432) :
  SzR (bif decide (IntKind.wrap .i64 (l - (xs.length:Int)) < 0) then some (-1) else ((al body (IntKind.wrap .i64 (l - (xs.length:Int)),0)).bind fun o=>match o with
   | .inl s=>some s.1
   | .inr q=>some q)) l (okD (.slice t) xs):=by
 obtain ⟨m,e,h⟩:=PH xs sz hx hsz hb h0 h1
 exact ⟨m,e,h.imp id fun h=>⟨h.1,by omega,h.2.2⟩⟩
theorem UH {t:Ty} {xs ys:List t.D} (h:xs.length≠ys.length):eqD (.slice t) xs ys=false:=by
 have:∀ (xs ys:List t.D),xs.length≠ys.length→eqL (eqD t) xs ys=false:=by
  intro xs
  induction xs with
  | nil=>intro ys h;cases ys with
   | nil=>simp at h
   | cons _ _=>rfl
  | cons x xs ih=>intro ys h;cases ys with
   | nil=>rfl
   | cons y ys=>simp only [eqL];rw [ih ys (by simpa using h),Bool.and_false]
 exact this xs ys h
theorem ES {t:Ty} (ht:t.noFn=true) (xs ys:List t.D) {body:Int→Option (Int⊕(Int⊕Bool))} {e:t.D→t.D→Option Bool} (he:∀ x∈xs,∀ y,e x y=some (eqD t x y)) (hlen:xs.length≤9223372036854775806)
  (hb:∀ i,body i=bif decide (i < (xs.length:Int)) then idx xs i (fun x=>idx ys i fun y=>(e x y).bind fun b=>bif (!b) then some (.inr (.inr false)) else some (.inl (IntKind.wrap .i64 (i + 1)))) else some (.inr (.inl i))) :
  (bif ((xs.length:Int) != (ys.length:Int)) then some false else ((al body 0).bind fun o=>match o with
   | .inl _=>some true
   | .inr q=>some q))=some (eqD (.slice t) xs ys):=by
 by_cases hl:xs.length=ys.length
 ·have hne:((xs.length:Int) != (ys.length:Int))=false:=by simp [hl]
  rw [hne]
  simp only [cond_false]
  have hz:(xs.zip ys).length=xs.length:=by simp [hl]
  have hget:∀ (i:Nat) p,(xs.zip ys)[i]?=some p→xs[i]?=some p.1∧ys[i]?=some p.2:=by
   intro i p h
   rw [List.getElem?_zip_eq_some] at h
   exact h
  have hw:=dH (xs.zip ys) (body:=body) (fun p=>!eqD t p.1 p.2) (fun _=>false) (by rw [hz];exact hlen) (by
   intro i p hp
   obtain ⟨h1,h2⟩:=hget i p hp
   have hlt:=(List.getElem?_eq_some_iff.1 h1).1
   have hil:((i:Int) < (xs.length:Int)):=by omega
   rw [hb]
   simp only [hil,decide_true,cond_true,ay h1,ay h2,he p.1 (List.mem_of_getElem? h1),Option.bind_some]) (by
   rw [hz,hb];simp)
  rw [hw,Option.bind_some]
  obtain ⟨f1,f2⟩:=eh (fun p:t.D×t.D=>!eqD t p.1 p.2) (xs.zip ys)
  cases hf:bD (fun p:t.D×t.D=>!eqD t p.1 p.2) (xs.zip ys) with
  | none =>
   have:xs=ys:=IW hl fun i x y hx hy=>by
    have hm:(x,y)∈xs.zip ys:=List.mem_of_getElem? (i:=i) (by rw [List.getElem?_zip_eq_some];exact ⟨hx,hy⟩)
    have:=f1 hf (x,y) hm
    exact (qq t ht x y).1 (by simpa using this)
   subst this
   rw [uu (t:=.slice t) ht]
  | some k =>
   obtain ⟨p,g1,g2,_⟩:=f2 k hf
   obtain ⟨h1,h2⟩:=hget k p g1
   have:eqD (.slice t) xs ys=false:=by
    cases hq:eqD (.slice t) xs ys with
    | false=>rfl
    | true =>
     have:=(qq (.slice t) ht xs ys).1 hq
     subst this
     rw [h1] at h2
     simp only [Option.some.injEq] at h2
     rw [h2,uu ht] at g2
     cases g2
   rw [this]
 ·have hne:((xs.length:Int) != (ys.length:Int))=true:=by simp;omega
  rw [hne,UH hl]
  rfl
end Go.Abs
