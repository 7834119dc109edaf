/- Part of a proof of FnGames: see the row. -/
import Derived.Test.YtenadnbpibhmiaaGreatGmAbsPure
import Derived.Test.YtenadnbpibhmiaaGreatGmAbsRow
set_option linter.unusedVariables false
set_option linter.unusedSimpArgs false
namespace Go.Abs
def okD:(t:Ty)→t.D→Prop
 | .slice t,xs=>xs.length≤33554432∧∀ x∈xs,okD t x
 | .pair a b,x=>okD a x.1∧okD b x.2
 | .int _,_=>True
 | .bool,_=>True
 | .unit,_=>True
 | .fn _ _,_=>True
 | .vw _,_=>True
 | .hd,_=>True
def Ty.noSl:Ty→Bool
 | .slice _=>false
 | .fn _ _=>false
 | .vw _=>false
 | .hd=>false
 | .pair a b=>a.noSl && b.noSl
 | _=>true
theorem f8:∀ (t:Ty),t.noSl=true→∀ (x:t.D),okD t x
 | .int _,_,_=>trivial
 | .bool,_,_=>trivial
 | .unit,_,_=>trivial
 | .pair a b,h,x=>by
  simp only [Ty.noSl,Bool.and_eq_true] at h
  exact ⟨f8 a h.1 x.1,f8 b h.2 x.2⟩
 | .slice _,h,_=>by cases h
 | .fn _ _,h,_=>by cases h
 | .vw _,h,_=>by cases h
 | .hd,h,_=>by cases h
def SzR (r:Option Int) (l:Int) (P:Prop):Prop:=∃ m,r=some m∧(m < 0∨(0≤m∧m≤l∧P))
theorem SzR.bind {r:Option Int} {l:Int} {P Q:Prop} {k:Int→Option Int} (h:SzR r l P) (hk:∀ m,0≤m→m≤l→SzR (k m) m Q):SzR (r.bind fun y=>bif decide (y < 0) then some (-1) else k y) l (P∧Q):=by
 obtain ⟨m,rfl,hm | ⟨h0,h1,hP⟩⟩:=h
 ·exact ⟨-1,by simp [hm],.inl (by omega)⟩
 ·obtain ⟨q,hq,hh⟩:=hk m h0 h1
  refine ⟨q,?_,?_⟩
  ·have:decide (m < 0)=false:=bW h0
   simp only [Option.bind_some,this,cond_false,hq]
  ·rcases hh with hh | ⟨g0,g1,hQ⟩
   ·exact .inl hh
   ·exact .inr ⟨g0,by omega,hP,hQ⟩
theorem SzR.imp {r:Option Int} {l:Int} {P Q:Prop} (h:SzR r l P) (hi:P→Q):SzR r l Q:=by
 obtain ⟨m,e,h⟩:=h
 exact ⟨m,e,h.imp id fun h=>⟨h.1,h.2.1,hi h.2.2⟩⟩
theorem TJ {t:Ty} {xs ys:List t.D} (h:xs.length≠ys.length):eqD (.slice t) xs ys=false:=by
 have:∀ (xs ys:List t.D),xs.length≠ys.length→eqL (eqD t) xs ys=false:=by
  intro xs
  induction xs with
  | nil=>intro ys h;cases ys with
   | nil=>simp at h
   | cons _ _=>rfl
  | cons x xs ih=>intro ys h;cases ys with
   | nil=>rfl
   | cons y ys=>simp only [eqL];rw [ih ys (by simpa using h),Bool.and_false]
 exact this xs ys h
theorem Lf {t:Ty} (ht:t.noFn=true) (xs ys:List t.D) {body:Int→Option (Int⊕(Int⊕Bool))} {e:t.D→t.D→Option Bool} (he:∀ x∈xs,∀ y,e x y=some (eqD t x y)) (hlen:xs.length≤9223372036854775806)
  (hb:∀ i,body i=bif decide (i < (xs.length:Int)) then idx xs i (fun x=>idx ys i fun y=>(e x y).bind fun b=>bif (!b) then some (.inr (.inr false)) else some (.inl (IntKind.wrap .i64 (i + 1)))) else some (.inr (.inl i))) :
  (bif ((xs.length:Int) != (ys.length:Int)) then some false else ((ay body 0).bind fun o=>match o with
   | .inl _=>some true
   | .inr q=>some q))=some (eqD (.slice t) xs ys):=by
 by_cases hl:xs.length=ys.length
 ·have hne:((xs.length:Int) != (ys.length:Int))=false:=by simp [hl]
  rw [hne]
  simp only [cond_false]
  have hz:(xs.zip ys).length=xs.length:=by simp [hl]
  have hget:∀ (i:Nat) p,(xs.zip ys)[i]?=some p→xs[i]?=some p.1∧ys[i]?=some p.2:=by
   intro i p h
   rw [List.getElem?_zip_eq_some] at h
   exact h
  have hw:=eG (xs.zip ys) (body:=body) (fun p=>!eqD t p.1 p.2) (fun _=>false) (by rw [hz];exact hlen) (by
   intro i p hp
   obtain ⟨h1,h2⟩:=hget i p hp
   have hlt:=(List.getElem?_eq_some_iff.1 h1).1
   have hil:((i:Int) < (xs.length:Int)):=by omega
   rw [hb]
   simp only [hil,decide_true,cond_true,aJ h1,aJ h2,he p.1 (List.mem_of_getElem? h1),Option.bind_some]) (by
   rw [hz,hb];simp)
  rw [hw,Option.bind_some]
  obtain ⟨f1,f2⟩:=fk (fun p:t.D×t.D=>!eqD t p.1 p.2) (xs.zip ys)
  cases hf:bZ (fun p:t.D×t.D=>!eqD t p.1 p.2) (xs.zip ys) with
  | none =>
   have:xs=ys:=HL hl fun i x y hx hy=>by
    have hm:(x,y)∈xs.zip ys:=List.mem_of_getElem? (i:=i) (by rw [List.getElem?_zip_eq_some];exact ⟨hx,hy⟩)
    have:=f1 hf (x,y) hm
    exact (rs t ht x y).1 (by simpa using this)
   subst this
   rw [yY (t:=.slice t) ht]
  | some k =>
   obtain ⟨p,g1,g2,_⟩:=f2 k hf
   obtain ⟨h1,h2⟩:=hget k p g1
   have:eqD (.slice t) xs ys=false:=by
    cases hq:eqD (.slice t) xs ys with
    | false=>rfl
    | true =>
     have:=(rs (.slice t) ht xs ys).1 hq
     subst this
     rw [h1] at h2
     simp only [Option.some.injEq] at h2
     rw [h2,yY ht] at g2
     cases g2
   rw [this]
 ·have hne:((xs.length:Int) != (ys.length:Int))=true:=by simp;omega
  rw [hne,TJ hl]
  rfl
end Go.Abs
