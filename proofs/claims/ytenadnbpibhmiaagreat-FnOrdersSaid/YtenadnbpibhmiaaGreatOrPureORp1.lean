/- Part of a proof of FnOrders: see the row. -/
import Derived.Test.YtenadnbpibhmiaaGreatOrGenOR2
import Derived.Test.YtenadnbpibhmiaaGreatOrAbsDeep
import Derived.Test.YtenadnbpibhmiaaGreatOrAbsDraw
set_option linter.unusedVariables false
set_option linter.unusedSimpArgs false
namespace Go.Abs
theorem gx (a b c:Int):aM a b c=some (decide (b≤a) && decide (a≤c)):=by
 unfold aM
 have:decide (a≥b)=decide (b≤a):=rfl
 simp only [this]
 cases decide (b≤a) <;> rfl
theorem dd (a b c:Int):bl a b c=some (decide (b≤a) && decide (a≤c)):=by
 unfold bl
 have:decide (a≥b)=decide (b≤a):=rfl
 simp only [this]
 cases decide (b≤a) <;> rfl
def fD (n:Int):Int:=if n > 2147483647 then 2147483647 else if n < -2147483647 then -2147483647 else n
theorem vi (n:Int):dB n=some (fD n):=by
 unfold dB fD
 simp only [cond_eq_ite,decide_eq_true_eq]
 split <;> (try split) <;> rfl
theorem kq (n:Int):cz n=some (fD n):=by
 unfold cz fD
 congr 1
 split <;> split <;> (try split) <;> (try split) <;> omega
def v5 (a b:Int):Int:=fD (IntKind.wrap .i64 (fD a + fD b))
def xN (a b:Int):Int:=fD (IntKind.wrap .i64 (fD a - fD b))
theorem D5 {c:Prop} [Decidable c] (a b:Bool):(if c then some a else some b)=some (if c then a else b):=by split <;> rfl
def gT (p:ai.D):Bool :=
 decide (1≤p.1) && decide (p.1≤99) && decide (0≤p.2.1) && decide (p.2.1≤2) && decide (0≤p.2.2.1) && decide (p.2.2.1≤2) && decide (1≤p.2.2.2.1) && decide (p.2.2.2.1≤4) && decide (0≤p.2.2.2.2.1) && decide (p.2.2.2.2.1≤9999) &&
 decide (0≤p.2.2.2.2.2.1) && decide (p.2.2.2.2.2.1≤999) && decide (0≤p.2.2.2.2.2.2.1) && decide (p.2.2.2.2.2.2.1≤999) && decide (0≤p.2.2.2.2.2.2.2.1) && decide (p.2.2.2.2.2.2.2.1≤63) && (
  if p.2.2.2.1=2 then decide (0≤p.2.2.2.2.2.2.2.2.1) && decide (p.2.2.2.2.2.2.2.2.1≤2147483647) && decide (0≤p.2.2.2.2.2.2.2.2.2.1) && decide (p.2.2.2.2.2.2.2.2.2.1≤2147483647) && decide (0≤p.2.2.2.2.2.2.2.2.2.2.1) && decide (p.2.2.2.2.2.2.2.2.2.2.1≤2147483647)
  else (p.2.2.1 == p.2.1) && (p.2.2.2.2.2.2.2.2.1 == 0) && (p.2.2.2.2.2.2.2.2.2.1 == 0) && (p.2.2.2.2.2.2.2.2.2.2.1 == 0) && !p.2.2.2.2.2.2.2.2.2.2.2.1 && !p.2.2.2.2.2.2.2.2.2.2.2.2.1)
theorem Hh (p:ai.D):re p=some (gT p):=by
 obtain ⟨i,o,sd,z,t,pw,tg,tr,pl,mi,mk,dl,bt,u⟩:=p
 unfold re gT
 simp only [gx,Option.bind_some,cond_eq_ite,D5]
 congr 1
 rw [Bool.eq_iff_iff]
 by_cases h1:z=2
 ·subst h1;simp;grind
 ·simp [h1];grind
theorem Hi (p:ai.D):rq p=some (gT p):=by
 obtain ⟨i,o,sd,z,t,pw,tg,tr,pl,mi,mk,dl,bt,u⟩:=p
 unfold rq gT cV bo jf pY kd bY
 simp only [dd,Option.bind_some,cond_eq_ite,D5,bne]
 congr 1
 rw [Bool.eq_iff_iff]
 by_cases h1:z=2
 ·subst h1;simp;grind
 ·simp [h1];grind
def dW (x:ay.D):Bool:=decide (-2147483647≤x.1) && decide (x.1≤2147483647) && (decide (0≤x.2.1) && decide (x.2.1≤2147483647))
theorem Jo (x:ay.D):ua x=some (dW x):=by
 unfold ua dW
 simp only [gx,Option.bind_some]
 cases (decide (-2147483647≤x.1) && decide (x.1≤2147483647)) <;> rfl
theorem D6 (x:ay.D):jg x=some (!dW x):=by
 unfold jg dW bY
 simp only [kq,dd,Option.bind_some]
 have:(fD x.1 != x.1)=!(decide (-2147483647≤x.1) && decide (x.1≤2147483647)):=by
  rw [Bool.eq_iff_iff];unfold fD;simp;grind
 rw [this]
 cases (decide (-2147483647≤x.1) && decide (x.1≤2147483647)) <;> rfl
def qJ {α:Type} (p:Nat→α→Bool):Nat→List α→Bool
 | _,[]=>false
 | i,x :: r=>p i x || qJ p (i + 1) r
theorem Jp {α:Type} (p:Nat→α→Bool):∀ (xs:List α) (k:Nat),qJ p k xs=false→∀ (i:Nat) x,xs[i]?=some x→p (k + i) x=false
 | [],_,_,i,x,hx=>by simp at hx
 | y :: xs,k,h,0,x,hx=>by
  simp only [qJ,Bool.or_eq_false_iff] at h
  simp at hx
  subst hx
  exact h.1
 | y :: xs,k,h,i + 1,x,hx=>by
  simp only [qJ,Bool.or_eq_false_iff] at h
  have:=Jp p xs (k + 1) h.2 i x (by simpa using hx)
  rwa [show k + (i + 1)=k + 1 + i by omega]
theorem np {α β:Type} (xs:List α) {body:Int→Option (Int⊕(Int⊕β))} (p:Nat→α→Bool) (v:β) (hlen:xs.length≤9223372036854775806)
  (hb:∀ (i:Nat) x,xs[i]?=some x→body i=bif p i x then some (.inr (.inr v)) else some (.inl (IntKind.wrap .i64 ((i:Int) + 1))))
  (he:body xs.length=some (.inr (.inl xs.length))) :
  aw body 0=some (bif qJ p 0 xs then .inr v else .inl xs.length):=by
 have main:∀ (r:List α) (k:Nat),xs.drop k=r→k≤xs.length→aw body k=some (bif qJ p k r then .inr v else .inl xs.length):=by
  intro r
  induction r with
  | nil =>
   intro k h hk
   have:k=xs.length:=by
    have:=congrArg List.length h
    simp at this
    omega
   subst this
   exact bb he
  | cons x r ih =>
   intro k h hk
   have hlt:k < xs.length:=by
    have:=congrArg List.length h
    simp at this
    omega
   have hx:xs[k]?=some x:=by
    have:=congrArg (fun l=>l[0]?) h
    simpa using this
   have hr:xs.drop (k + 1)=r:=by
    have:=congrArg List.tail h
    simpa using this
   unfold qJ
   cases hp:p k x with
   | true =>
    refine bb ?_
    rw [hb k x hx,hp]
    rfl
   | false =>
    refine aS (s':=((k + 1:Nat):Int)) ?_ (ih (k + 1) hr hlt)
    rw [hb k x hx,hp]
    simp only [cond_false]
    rw [aD (by omega) (by omega)]
    rfl
 have:=main xs 0 rfl (by omega)
 simpa using this
theorem Ap {α:Type} (p:α→Bool):∀ (xs:List α) (k:Nat),qJ (fun _ x=>p x) k xs=xs.any p
 | [],_=>rfl
 | x :: xs,k=>by simp [qJ,Ap p xs]
theorem FD {α:Type} (p:α→Bool) (xs:List α):decide ((match bS p xs with | some k=>(k:Int) | none=>-1)≥0)=xs.any p:=by
 obtain ⟨h1,h2⟩:=eT p xs
 cases hf:bS p xs with
 | none =>
  have:xs.any p=false:=by rw [List.any_eq_false];exact fun x hx=>by simp [h1 hf x hx]
  rw [this];rfl
 | some k =>
  obtain ⟨x,g1,g2,_⟩:=h2 k hf
  have:xs.any p=true:=by rw [List.any_eq_true];exact ⟨x,List.mem_of_getElem? g1,g2⟩
  rw [this]
  simp
def kr (s:ac.D) (i:Nat) (x:ai.D):Bool :=
 !gT x || decide (x.2.1≥(s.2.1.length:Int)) || decide (x.2.2.1≥(s.2.1.length:Int)) || decide (x.2.2.2.2.1 > s.2.2.2.1) || (decide (0 < i) && (s.1[i - 1]?).any (fun y=>decide (y.1≥x.1)))
def aT (s:ac.D):Bool :=
 decide ((s.1.length:Int)≤8) && (decide (2≤(s.2.1.length:Int)) && decide ((s.2.1.length:Int)≤3)) && (decide (0≤s.2.2.1) && decide (s.2.2.1≤(s.2.1.length:Int) - 1)) && (decide (0≤s.2.2.2.1) && decide (s.2.2.2.1≤9999)) && !qJ (kr s) 0 s.1 && !s.2.1.any (fun x=>!dW x)
theorem Jq {s:ac.D} {i:Nat} {x:ai.D} (hx:s.1[i]?=some x) (hl:s.1.length≤33554432) {R:Type} (κ:ai.D→Option R) (h:0 < i):∃ y,s.1[i - 1]?=some y∧idx s.1 (IntKind.wrap .i64 ((i:Int) - 1)) κ=κ y:=by
 have hlt:=(List.getElem?_eq_some_iff.1 hx).1
 have hy:s.1[i - 1]?=some (s.1[i - 1]'(by omega)):=List.getElem?_eq_getElem (by omega)
 refine ⟨_,hy,?_⟩
 rw [aD (by omega) (by omega),show ((i:Int) - 1)=((i - 1:Nat):Int) by omega]
 exact aJ hy
theorem By {x:ai.D} (h:gT x=true):0≤x.2.1∧0≤x.2.2.1:=by
 unfold gT at h
 simp only [Bool.and_eq_true,decide_eq_true_eq] at h
 exact ⟨h.1.1.1.1.1.1.1.1.1.1.1.1.1.1.2,h.1.1.1.1.1.1.1.1.1.1.1.1.2⟩
theorem QN {a n:Int} (h:0≤a):(decide (0≤a) && decide (a≤n - 1))=!decide (a≥n):=by
 by_cases hh:a≥n
 ·rw [decide_eq_true hh,decide_eq_false (p:=a≤n - 1) (by omega),Bool.and_false];rfl
 ·rw [decide_eq_false hh,decide_eq_true (p:=a≤n - 1) (by omega),decide_eq_true h];rfl
theorem P1 (xs:List ay.D) (hl:xs.length≤33554432) (p:ay.D→Bool) (q:(ay.D×Unit)→Option Bool) (hq:∀ x,q (x,())=some (p x)) :
  dD xs q=some (match bS p xs with | some k=>(k:Int) | none=>-1):=by
 unfold dD
 rw [d9 xs (body:=cO xs q) p (fun i=>i) (by omega) (fun i x hx=>?_) ?_]
 ·cases bS p xs <;> rfl
 ·unfold cO
  simp
 ·unfold cO
  have hlt:=(List.getElem?_eq_some_iff.1 hx).1
  have:((i:Int) < (xs.length:Int)):=by omega
  simp only [this,decide_true,cond_true,aJ hx,hq,Option.bind_some]
theorem dO (s:ac.D) (hp:s.1.length≤33554432) (hs:s.2.1.length≤33554432):dA s=some (aT s):=by
 unfold dA aT
 simp only [gx,Option.bind_some]
 rw [aD (by omega) (by omega)]
 have hd:decide ((s.1.length:Int) > 8)=!decide ((s.1.length:Int)≤8):=by rw [Bool.eq_iff_iff];simp
 rw [hd]
 cases decide ((s.1.length:Int)≤8)
 ·rfl
 cases (decide (2≤(s.2.1.length:Int)) && decide ((s.2.1.length:Int)≤3))
 ·rfl
 cases (decide (0≤s.2.2.1) && decide (s.2.2.1≤(s.2.1.length:Int) - 1))
 ·rfl
 cases (decide (0≤s.2.2.2.1) && decide (s.2.2.2.1≤9999))
 ·rfl
 simp only [Bool.not_true,cond_false,Option.bind_some,Bool.true_and]
 rw [np s.1 (body:=kD s) (kr s) false (by omega) (fun i x hx=>?_) (by unfold kD;simp)]
 ·rw [np s.2.1 (body:=kE s) (fun _ x=>!dW x) false (by omega) (fun i x hx=>?_) (by unfold kE;simp),Ap]
  ·cases qJ (kr s) 0 s.1 <;> cases s.2.1.any (fun x=>!dW x) <;> rfl
  ·have hlt:=(List.getElem?_eq_some_iff.1 hx).1
   have hil:((i:Int) < (s.2.1.length:Int)):=by omega
   unfold kE
   simp only [hil,decide_true,cond_true,aJ hx,Jo,Option.bind_some]
 ·have hlt:=(List.getElem?_eq_some_iff.1 hx).1
  have hil:((i:Int) < (s.1.length:Int)):=by omega
  unfold kD kr
  simp only [hil,decide_true,cond_true,aJ hx,Hh,Option.bind_some]
  by_cases hi:0 < i
  ·obtain ⟨y,hy,hk⟩:=Jq hx hp (fun x8=>bif decide (x8.1≥x.1) then some true else bif decide (x.2.1≥(s.2.1.length:Int)) then some true else bif decide (x.2.2.1≥(s.2.1.length:Int)) then some true else some (decide (x.2.2.2.2.1 > s.2.2.2.1))) hi
   have h1:decide ((i:Int) > 0)=true:=by simp;omega
   have h2:decide (0 < i)=true:=by simpa using hi
   rw [h1,h2,hy]
   simp only [cond_true,hk,Option.any_some]
   cases gT x <;> cases decide (y.1≥x.1) <;> cases decide (x.2.1≥(s.2.1.length:Int)) <;> cases decide (x.2.2.1≥(s.2.1.length:Int)) <;> cases decide (x.2.2.2.2.1 > s.2.2.2.1) <;> rfl
  ·have h1:decide ((i:Int) > 0)=false:=by simp;omega
   have h2:decide (0 < i)=false:=by simpa using hi
   rw [h1,h2]
   simp only [cond_false]
   cases gT x <;> cases decide (x.2.1≥(s.2.1.length:Int)) <;> cases decide (x.2.2.1≥(s.2.1.length:Int)) <;> cases decide (x.2.2.2.2.1 > s.2.2.2.1) <;> rfl
theorem dP (s:ac.D) (hp:s.1.length≤33554432) (hs:s.2.1.length≤33554432):dE s=some (aT s):=by
 unfold dE aT aZ pY
 simp only [dd,Option.bind_some]
 rw [aD (by omega) (by omega)]
 have hd:decide ((s.1.length:Int) > 8)=!decide ((s.1.length:Int)≤8):=by rw [Bool.eq_iff_iff];simp
 rw [hd]
 cases decide ((s.1.length:Int)≤8)
 ·rfl
 cases (decide (2≤(s.2.1.length:Int)) && decide ((s.2.1.length:Int)≤3))
 ·rfl
 cases (decide (0≤s.2.2.1) && decide (s.2.2.1≤(s.2.1.length:Int) - 1))
 ·rfl
 cases (decide (0≤s.2.2.2.1) && decide (s.2.2.2.1≤9999))
 ·rfl
 simp only [Bool.not_true,cond_false,Option.bind_some,Bool.true_and]
 have hc:cP s.2.1 (fun q=>jg q.1)=some (s.2.1.any (fun x=>!dW x)):=by
  unfold cP
  rw [P1 s.2.1 hs (fun x=>!dW x) _ (fun x=>D6 x),Option.bind_some,FD]
 rw [np s.1 (body:=kP s) (kr s) false (by omega) (fun i x hx=>?_) (by unfold kP;simp)]
 ·rw [hc]
  cases qJ (kr s) 0 s.1 <;> cases s.2.1.any (fun x=>!dW x) <;> rfl
 ·have hlt:=(List.getElem?_eq_some_iff.1 hx).1
  have hil:((i:Int) < (s.1.length:Int)):=by omega
  unfold kP kr aZ
  simp only [hil,decide_true,cond_true,aJ hx,Hi,dd,Option.bind_some]
  rw [aD (n:=(s.2.1.length:Int) - 1) (by omega) (by omega)]
  cases hok:gT x
  ·rfl
  obtain ⟨g1,g2⟩:=By hok
  have e1:(decide (0≤x.2.1) && decide (x.2.1≤(s.2.1.length:Int) - 1))=!decide (x.2.1≥(s.2.1.length:Int)):=QN g1
  have e2:(decide (0≤x.2.2.1) && decide (x.2.2.1≤(s.2.1.length:Int) - 1))=!decide (x.2.2.1≥(s.2.1.length:Int)):=QN g2
  rw [e1,e2]
  by_cases hi:0 < i
  ·obtain ⟨y,hy,hk⟩:=Jq hx hp (fun x10=>some (decide (x10.1≥x.1))) hi
   have h1:decide ((i:Int) > 0)=true:=by simp;omega
   have h2:decide (0 < i)=true:=by simpa using hi
   rw [h1,h2,hy]
   simp only [cond_true,hk,Option.any_some]
   cases decide (y.1≥x.1) <;> cases decide (x.2.1≥(s.2.1.length:Int)) <;> cases decide (x.2.2.1≥(s.2.1.length:Int)) <;> cases decide (x.2.2.2.2.1 > s.2.2.2.1) <;> rfl
  ·have h1:decide ((i:Int) > 0)=false:=by simp;omega
   have h2:decide (0 < i)=false:=by simpa using hi
   rw [h1,h2]
   simp only [cond_false]
   cases decide (x.2.1≥(s.2.1.length:Int)) <;> cases decide (x.2.2.1≥(s.2.1.length:Int)) <;> cases decide (x.2.2.2.2.1 > s.2.2.2.1) <;> rfl
def aK (e:ae.D):Bool :=
 let piece:=decide (1≤e.2.2.1) && decide (e.2.2.1≤99) && (e.2.2.2.1 == -1)
 let side:=(e.2.2.1 == 0) && decide (0≤e.2.2.2.1) && decide (e.2.2.2.1≤2)
 decide (0≤e.2.2.2.2.1) && decide (e.2.2.2.2.1≤2147483647) && (
  if e.1=1 then decide (1≤e.2.1) && decide (e.2.1≤99) && (piece || side) && (e.2.2.2.2.2.1 == 0) && !e.2.2.2.2.2.2.1
  else if e.1=2 then (e.2.1 == 0) && piece && decide (1≤e.2.2.2.2.2.1) && decide (e.2.2.2.2.2.1≤4) && decide (e.2.2.2.2.1≤99) && ((e.2.2.2.2.2.1 == 2) || (e.2.2.2.2.1 == 0) && !e.2.2.2.2.2.2.1)
  else if e.1=3∨e.1=4 then (e.2.1 == 0) && side && (e.2.2.2.2.2.1 == 0) && !e.2.2.2.2.2.2.1
  else if e.1=5∨e.1=6 then (e.2.1 == 0) && piece && (e.2.2.2.2.2.1 == 0) && !e.2.2.2.2.2.2.1
  else false)
theorem bQ (e:ae.D):cm e=some (aK e):=by
 obtain ⟨k,s,p,d,n,z,bt,u⟩:=e
 unfold cm aK
 simp only [gx,Option.bind_some,cond_eq_ite,D5]
 congr 1
 rw [Bool.eq_iff_iff]
 by_cases h1:k=1
 ·subst h1;simp;grind
 by_cases h2:k=2
 ·subst h2;simp;grind
 by_cases h3:k=3
 ·subst h3;simp;grind
 by_cases h4:k=4
 ·subst h4;simp;grind
 by_cases h5:k=5
 ·subst h5;simp;grind
 by_cases h6:k=6
 ·subst h6;simp;grind
 simp [h1,h2,h3,h4,h5,h6]
theorem bJ (e:ae.D):b7 e=some (aK e):=by
 obtain ⟨k,s,p,d,n,z,bt,u⟩:=e
 unfold b7 aK bY jA pp cV jf bo
 simp only [dd,Option.bind_some,cond_eq_ite,D5,bne]
 congr 1
 rw [Bool.eq_iff_iff]
 by_cases h1:k=1
 ·subst h1;simp;grind
 by_cases h2:k=2
 ·subst h2;simp;grind
 by_cases h3:k=3
 ·subst h3;simp;grind
 by_cases h4:k=4
 ·subst h4;simp;grind
 by_cases h5:k=5
 ·subst h5;simp;grind
 by_cases h6:k=6
 ·subst h6;simp;grind
 simp [h1,h2,h3,h4,h5,h6]
theorem Bz {k s p d n z:Int} {bt:Bool} {u:Unit} (h:aK (k,s,p,d,n,z,bt,u)=true) :
  (k=1∧(1≤p∨p=0∧0≤d))∨(k=2∧1≤p)∨((k=3∨k=4)∧p=0∧0≤d)∨((k=5∨k=6)∧1≤p):=by
 unfold aK at h
 by_cases h1:k=1
 ·subst h1;simp at h;grind
 by_cases h2:k=2
 ·subst h2;simp at h;grind
 by_cases h3:k=3
 ·subst h3;simp at h;grind
 by_cases h4:k=4
 ·subst h4;simp at h;grind
 by_cases h5:k=5
 ·subst h5;simp at h;grind
 by_cases h6:k=6
 ·subst h6;simp at h;grind
 simp [h1,h2,h3,h4,h5,h6] at h
theorem OK (xs:List ae.D) (hl:xs.length≤33554432) (p:ae.D→Bool) (q:(ae.D×Unit)→Option Bool) (hq:∀ x,q (x,())=some (p x)) :
  bz xs q=some (match bS p xs with | some k=>(k:Int) | none=>-1):=by
 unfold bz
 rw [d9 xs (body:=bm xs q) p (fun i=>i) (by omega) (fun i x hx=>?_) ?_]
 ·cases bS p xs <;> rfl
 ·unfold bm
  simp
 ·unfold bm
  have hlt:=(List.getElem?_eq_some_iff.1 hx).1
  have:((i:Int) < (xs.length:Int)):=by omega
  simp only [this,decide_true,cond_true,aJ hx,hq,Option.bind_some]
theorem jm (xs:List ae.D) (hl:xs.length≤33554432) (p:ae.D→Bool) (q:(ae.D×Unit)→Option Bool) (hq:∀ x,q (x,())=some (p x)) :
  aR xs q=some (xs.any p):=by
 unfold aR
 rw [OK xs hl p q hq,Option.bind_some]
 obtain ⟨h1,h2⟩:=eT p xs
 cases hf:bS p xs with
 | none =>
  have:xs.any p=false:=by rw [List.any_eq_false];exact fun x hx=>by simp [h1 hf x hx]
  rw [this];rfl
 | some k =>
  obtain ⟨x,g1,g2,_⟩:=h2 k hf
  have:xs.any p=true:=by rw [List.any_eq_true];exact ⟨x,List.mem_of_getElem? g1,g2⟩
  rw [this]
  simp
theorem oT {α:Type} {c:Prop} [Decidable c] (a b:α):(if c then some a else some b)=some (if c then a else b):=by split <;> rfl
def kZ (e:ae.D):Bool:=aK e || ((e.1 != 2) && (e.2.2.2.2.1 == -1) && aK (e.1,e.2.1,e.2.2.1,e.2.2.2.1,0,e.2.2.2.2.2))
theorem zN (e:ae.D):uo e=some (kZ e):=by
 unfold uo kZ
 simp only [bJ,Option.bind_some]
 cases aK e <;> cases (e.1 != 2) <;> cases (e.2.2.2.2.1 == -1) <;> rfl
theorem M7 (e:ae.D):t7 e=some (kZ e):=by
 unfold t7 kZ
 simp only [bQ,Option.bind_some]
 cases h:(e.2.2.2.2.1 == -1)
 ·simp
 ·have:aK e=false:=by
   unfold aK
   have h1:e.2.2.2.2.1=-1:=by simpa using h
   have:decide (0≤e.2.2.2.2.1)=false:=by rw [h1];rfl
   rw [this];rfl
  rw [this]
  cases hk:(e.1 != 2) <;> simp [this,bQ]
theorem SU (a:bM.D) (hl:a.2.2.2.2.2.2.1.length≤33554432):aw (j6 a) 0=some (bif a.2.2.2.2.2.2.1.any (fun e=>!kZ e) then .inr false else .inl (a.2.2.2.2.2.2.1.length:Int)):=by
 rw [np a.2.2.2.2.2.2.1 (body:=j6 a) (fun _ e=>!kZ e) false (by omega) (fun i x hx=>?_) (by unfold j6;simp),Ap]
 have hlt:=(List.getElem?_eq_some_iff.1 hx).1
 have hil:((i:Int) < (a.2.2.2.2.2.2.1.length:Int)):=by omega
 unfold j6
 simp only [hil,decide_true,cond_true,aJ hx,M7,Option.bind_some]
theorem Rh (k n p s z:Int) (bt:Bool) (L:List ae.D) (u:Unit) (hl:L.length≤33554432):∃ b,sq (k,n,p,s,z,bt,L,u)=some b∧fB (k,n,p,s,z,bt,L,u)=some b:=by
 have hW:=SU (k,n,p,s,z,bt,L,u) hl
 have hC:aR L (fun q=>jB q.1)=some (L.any (fun e=>!kZ e)):=jm L hl (fun e=>!kZ e) _ (fun x=>by simp only [jB,zN,Option.bind_some])
 simp only at hW
 unfold sq fB rb cV bo jf
 simp only [hW,hC,gx,dd,Option.bind_some]
 have hz:((L.length:Int) == 0)=!decide ((L.length:Int) > 0):=by
  by_cases h:(L.length:Int) > 0
  ·rw [decide_eq_true h];simp only [Bool.not_true];rw [beq_eq_false_iff_ne];omega
  ·rw [decide_eq_false h];simp only [Bool.not_false];rw [beq_iff_eq];omega
 simp only [hz,bne]
 clear hW hC hz
 generalize L.any (fun e=>!kZ e)=q
 generalize hM:(decide (1≤(L.length:Int)) && decide ((L.length:Int)≤3))=m3
 generalize decide ((L.length:Int) > 0)=m0
 by_cases h1:k=1
 ·subst h1
  simp only [Int.reduceBEq,beq_self_eq_true,cond_true,cond_false,Option.bind_some,Bool.not_true,Bool.not_false]
  cases (n == 0) <;> cases (p == 0) <;> cases (s == -1) <;> cases (z == 0) <;> cases bt <;> cases m0 <;> exact ⟨_,rfl,rfl⟩
 by_cases h2:k=2
 ·subst h2
  simp only [Int.reduceBEq,beq_self_eq_true,cond_true,cond_false,Option.bind_some,Bool.not_true,Bool.not_false]
  cases (n == 0) <;> cases (p == 0) <;> cases (s == -1) <;> cases (z == 0) <;> cases bt <;> cases m0 <;> exact ⟨_,rfl,rfl⟩
 by_cases h3:k=3
 ·subst h3
  simp only [Int.reduceBEq,beq_self_eq_true,cond_true,cond_false,Option.bind_some,Bool.not_true,Bool.not_false]
  cases (decide (1≤n) && decide (n≤2147483647)) <;> cases (p == 0) <;> cases (s == -1) <;> cases (z == 0) <;> cases bt <;> cases m0 <;> exact ⟨_,rfl,rfl⟩
 by_cases h4:k=4
 ·subst h4
  simp only [Int.reduceBEq,beq_self_eq_true,cond_true,cond_false,Option.bind_some,Bool.not_true,Bool.not_false]
  cases (n == 0) <;> cases (p == 0) <;> cases (s == -1) <;> cases (z == 0) <;> cases bt <;> cases m0 <;> exact ⟨_,rfl,rfl⟩
 by_cases h5:k=5
 ·subst h5
  simp only [Int.reduceBEq,beq_self_eq_true,cond_true,cond_false,Option.bind_some,Bool.not_true,Bool.not_false]
  cases (n == 0) <;> cases (p == 0) <;> cases (s == -1) <;> cases (z == 0) <;> cases bt <;> cases m0 <;> exact ⟨_,rfl,rfl⟩
 by_cases h6:k=6
 ·subst h6
  simp only [Int.reduceBEq,beq_self_eq_true,cond_true,cond_false,Option.bind_some,Bool.not_true,Bool.not_false]
  cases (n == 0) <;> cases (p == 0) <;> cases (s == -1) <;> cases (z == 0) <;> cases bt <;> cases m0 <;> cases (decide (1≤p) && decide (p≤99)) <;> cases (decide (0≤s) && decide (s≤2)) <;> exact ⟨_,rfl,rfl⟩
 by_cases h7:k=7
 ·subst h7
  simp only [Int.reduceBEq,beq_self_eq_true,cond_true,cond_false,Option.bind_some,Bool.not_true,Bool.not_false]
  cases (n == 0) <;> cases (p == 0) <;> cases (s == -1) <;> cases bt <;> cases m0 <;> cases (decide (1≤z) && decide (z≤4)) <;> exact ⟨_,rfl,rfl⟩
 by_cases h8:k=8
 ·subst h8
  simp only [Int.reduceBEq,beq_self_eq_true,cond_true,cond_false,Option.bind_some,Bool.not_true,Bool.not_false]
  cases (decide (0≤n) && decide (n≤99)) <;> cases (p == 0) <;> cases (s == -1) <;> cases (z == 0) <;> cases m0 <;> exact ⟨_,rfl,rfl⟩
 by_cases h9:k=9
 ·subst h9
  simp only [Int.reduceBEq,beq_self_eq_true,cond_true,cond_false,Option.bind_some,Bool.not_true,Bool.not_false]
  cases (n == 0) <;> cases (p == 0) <;> cases (s == -1) <;> cases (z == 0) <;> cases bt <;> cases m3 <;> cases q <;> exact ⟨_,rfl,rfl⟩
 have e1:(k == 1)=false:=by rw [beq_eq_false_iff_ne];exact h1
 have e2:(k == 2)=false:=by rw [beq_eq_false_iff_ne];exact h2
 have e3:(k == 3)=false:=by rw [beq_eq_false_iff_ne];exact h3
 have e4:(k == 4)=false:=by rw [beq_eq_false_iff_ne];exact h4
 have e5:(k == 5)=false:=by rw [beq_eq_false_iff_ne];exact h5
 have e6:(k == 6)=false:=by rw [beq_eq_false_iff_ne];exact h6
 have e7:(k == 7)=false:=by rw [beq_eq_false_iff_ne];exact h7
 have e8:(k == 8)=false:=by rw [beq_eq_false_iff_ne];exact h8
 have e9:(k == 9)=false:=by rw [beq_eq_false_iff_ne];exact h9
 simp only [e1,e2,e3,e4,e5,e6,e7,e8,e9,cond_true,cond_false,Option.bind_some,Bool.not_true,Bool.not_false]
 cases (n == 0) <;> cases (p == 0) <;> cases (s == -1) <;> cases (z == 0) <;> cases bt <;> cases m0 <;> exact ⟨_,rfl,rfl⟩
theorem zO (a:bM.D) (hl:a.2.2.2.2.2.2.1.length≤33554432):∃ b,sq a=some b∧fB a=some b :=
 Rh a.1 a.2.1 a.2.2.1 a.2.2.2.1 a.2.2.2.2.1 a.2.2.2.2.2.1 a.2.2.2.2.2.2.1 a.2.2.2.2.2.2.2 hl
theorem jU {a b:Int} (h:¬ a=b):(a == b)=false:=by rw [beq_eq_false_iff_ne];exact h
theorem lA (a:bM.D) (k:Int):∃ b,fT a k=some b∧dF a k=some b:=by
 unfold fT dF lP
 simp only [gx,dd,Option.bind_some]
 generalize (decide (1≤k) && decide (k≤6))=m
 cases m
 ·exact ⟨_,rfl,rfl⟩
 by_cases h1:a.1=1
 ·rw [h1];exact ⟨_,rfl,rfl⟩
 by_cases h2:a.1=2
 ·rw [h2];exact ⟨_,rfl,rfl⟩
 by_cases h3:a.1=3
 ·rw [h3];exact ⟨_,rfl,rfl⟩
 by_cases h4:a.1=4
 ·rw [h4];exact ⟨_,rfl,rfl⟩
 by_cases h5:a.1=5
 ·rw [h5];exact ⟨_,rfl,rfl⟩
 by_cases h6:a.1=6
 ·rw [h6];exact ⟨_,rfl,rfl⟩
 by_cases h7:a.1=7
 ·rw [h7];exact ⟨_,rfl,rfl⟩
 by_cases h8:a.1=8
 ·rw [h8];exact ⟨_,rfl,rfl⟩
 by_cases h9:a.1=9
 ·rw [h9];exact ⟨_,rfl,rfl⟩
 refine ⟨false,?_,?_⟩ <;> simp only [jU h1,jU h2,jU h3,jU h4,jU h5,jU h6,jU h7,jU h8,jU h9,cond_true,cond_false,Option.bind_some,Bool.not_true,Bool.not_false]
theorem Ri (k c so tr pc am z:Int) (u:Unit):∃ b,oq (k,c,so,tr,pc,am,z,u)=some b∧lu (k,c,so,tr,pc,am,z,u)=some b:=by
 unfold oq lu lP kd bY
 simp only [gx,dd,Option.bind_some,cond_eq_ite,oT]
 refine ⟨_,rfl,?_⟩
 congr 1
 rw [Bool.eq_iff_iff]
 simp
 grind
theorem v6 (p:de.D):∃ b,oq p=some b∧lu p=some b:=Ri p.1 p.2.1 p.2.2.1 p.2.2.2.1 p.2.2.2.2.1 p.2.2.2.2.2.1 p.2.2.2.2.2.2.1 p.2.2.2.2.2.2.2
theorem OL (k n:Int) (u:Unit):∃ b,jr (k,n,u)=some b∧ik (k,n,u)=some b:=by
 unfold jr ik
 simp only [gx,dd,kq,Option.bind_some,cond_eq_ite,oT]
 refine ⟨_,rfl,?_⟩
 congr 1
 rw [Bool.eq_iff_iff]
 unfold fD
 simp
 grind
theorem oU (p:bP.D):∃ b,jr p=some b∧ik p=some b:=OL p.1 p.2.1 p.2.2
theorem Gk (x:aa.D) (hl:x.2.2.2.2.2.2.1.2.2.2.2.2.2.1.length≤33554432):∃ b,gj x=some b∧cD x=some b:=by
 obtain ⟨b1,p1,q1⟩:=v6 x.2.2.2.2.1
 obtain ⟨b2,p2,q2⟩:=oU x.2.2.2.2.2.1
 obtain ⟨b3,p3,q3⟩:=zO x.2.2.2.2.2.2.1 hl
 obtain ⟨b4,p4,q4⟩:=lA x.2.2.2.2.2.2.1 x.2.2.2.2.1.1
 unfold gj cD cV bo
 simp only [p1,p2,p3,p4,q1,q2,q3,q4,gx,dd,Option.bind_some]
 simp only [cond_eq_ite,oT,Option.bind_some]
 refine ⟨_,rfl,?_⟩
 congr 1
 rw [Bool.eq_iff_iff]
 generalize x.2.2.2.2.2.2.1.1=ak
 generalize x.1=i
 generalize x.2.1=ow
 generalize x.2.2.1=so
 generalize x.2.2.2.1=du
 generalize x.2.2.2.2.2.2.2.1=co
 generalize x.2.2.2.2.2.2.2.2.1=on
 clear p1 p2 p3 p4 q1 q2 q3 q4 hl
 simp
 grind
noncomputable def aQ (x:aa.D):Bool:=(cD x).getD false
theorem di (x:aa.D) (hl:x.2.2.2.2.2.2.1.2.2.2.2.2.2.1.length≤33554432):cD x=some (aQ x):=by
 obtain ⟨b,_,h⟩:=Gk x hl
 unfold aQ;rw [h];rfl
theorem oV (x:aa.D) (hl:x.2.2.2.2.2.2.1.2.2.2.2.2.2.1.length≤33554432):gj x=some (aQ x):=by
 obtain ⟨b,h1,h⟩:=Gk x hl
 unfold aQ;rw [h,h1];rfl
noncomputable def cG (xs:List aa.D) (i:Nat) (x:aa.D):Bool:=!aQ x || (decide (0 < i) && (xs[i - 1]?).any (fun y=>decide (y.1≥x.1)))
theorem QO {α R:Type} {xs:List α} {i:Nat} {x:α} (hx:xs[i]?=some x) (hl:xs.length≤33554432) (κ:α→Option R) (h:0 < i):∃ y,xs[i - 1]?=some y∧idx xs (IntKind.wrap .i64 ((i:Int) - 1)) κ=κ y:=by
 have hlt:=(List.getElem?_eq_some_iff.1 hx).1
 have hy:xs[i - 1]?=some (xs[i - 1]'(by omega)):=List.getElem?_eq_getElem (by omega)
 refine ⟨_,hy,?_⟩
 rw [aD (by omega) (by omega),show ((i:Int) - 1)=((i - 1:Nat):Int) by omega]
 exact aJ hy
theorem la (xs:List aa.D) (h:okD (.slice aa) xs):fU xs=some (!qJ (cG xs) 0 xs && decide ((xs.length:Int)≤5)):=by
 have hl:xs.length≤33554432:=h.1
 unfold fU
 rw [np xs (body:=kF xs) (cG xs) false (by omega) (fun i x hx=>?_) (by unfold kF;simp)]
 ·cases qJ (cG xs) 0 xs <;> rfl
 ·have hlt:=(List.getElem?_eq_some_iff.1 hx).1
  have hil:((i:Int) < (xs.length:Int)):=by omega
  have hok:=(h.2 x (List.mem_of_getElem? hx)).2.2.2.2.2.2.1.2.2.2.2.2.2.1.1
  unfold kF cG
  simp only [hil,decide_true,cond_true,aJ hx,oV x hok,Option.bind_some]
  by_cases hi:0 < i
  ·obtain ⟨y,hy,hk⟩:=QO hx hl (fun x4=>some (decide (x4.1≥x.1))) hi
   rw [decide_eq_true (p:=(i:Int) > 0) (by omega),decide_eq_true hi,hy]
   simp only [cond_true,hk,Option.any_some]
   cases aQ x <;> cases decide (y.1≥x.1) <;> rfl
  ·rw [decide_eq_false (p:=(i:Int) > 0) (by omega),decide_eq_false hi]
   cases aQ x <;> rfl
theorem lc (xs:List aa.D) (h:okD (.slice aa) xs):fW xs=some (!qJ (cG xs) 0 xs && decide ((xs.length:Int)≤5)):=by
 have hl:xs.length≤33554432:=h.1
 unfold fW
 rw [np xs (body:=kQ xs) (cG xs) false (by omega) (fun i x hx=>?_) (by unfold kQ;simp)]
 ·cases qJ (cG xs) 0 xs <;> rfl
 ·have hlt:=(List.getElem?_eq_some_iff.1 hx).1
  have hil:((i:Int) < (xs.length:Int)):=by omega
  have hok:=(h.2 x (List.mem_of_getElem? hx)).2.2.2.2.2.2.1.2.2.2.2.2.2.1.1
  unfold kQ cG
  simp only [hil,decide_true,cond_true,aJ hx,di x hok,Option.bind_some]
  by_cases hi:0 < i
  ·obtain ⟨y,hy,hk⟩:=QO hx hl (fun x4=>some (decide (x4.1≥x.1))) hi
   rw [decide_eq_true (p:=(i:Int) > 0) (by omega),decide_eq_true hi,hy]
   simp only [cond_true,hk,Option.any_some]
   cases aQ x <;> cases decide (y.1≥x.1) <;> rfl
  ·rw [decide_eq_false (p:=(i:Int) > 0) (by omega),decide_eq_false hi]
   cases aQ x <;> rfl
theorem Rj (x:aA.D) (hl:x.2.2.2.2.2.1.length≤33554432):aw (jc x) 0=some (bif x.2.2.2.2.2.1.any (fun e=>!aK e) then .inr false else .inl (x.2.2.2.2.2.1.length:Int)):=by
 rw [np x.2.2.2.2.2.1 (body:=jc x) (fun _ e=>!aK e) false (by omega) (fun i y hx=>?_) (by unfold jc;simp),Ap]
 have hlt:=(List.getElem?_eq_some_iff.1 hx).1
 have hil:((i:Int) < (x.2.2.2.2.2.1.length:Int)):=by omega
 unfold jc
 simp only [hil,decide_true,cond_true,aJ hx,bQ,Option.bind_some]
theorem LE (x:aA.D) (hl:x.2.2.2.2.2.1.length≤33554432):∃ b,pM x=some b∧jh x=some b:=by
 have hW:=Rj x hl
 have hC:aR x.2.2.2.2.2.1 (fun q=>iD q.1)=some (x.2.2.2.2.2.1.any (fun e=>!aK e)):=jm x.2.2.2.2.2.1 hl (fun e=>!aK e) _ (fun x=>by simp only [iD,bJ,Option.bind_some])
 unfold pM jh cV bo bY
 simp only [hW,hC,gx,dd,bQ,bJ,Option.bind_some]
 have hd:decide ((x.2.2.2.2.2.1.length:Int) > 3)=!decide ((x.2.2.2.2.2.1.length:Int)≤3):=by
  by_cases h:(x.2.2.2.2.2.1.length:Int)≤3
  ·rw [decide_eq_true h,decide_eq_false (by omega)];rfl
  ·rw [decide_eq_false h,decide_eq_true (by omega)];rfl
 rw [hd]
 clear hW hC hd
 generalize (decide (1≤x.1) && decide (x.1≤99))=c1
 generalize (decide (0≤x.2.1) && decide (x.2.1≤2))=c2
 generalize (decide (1≤x.2.2.2.1) && decide (x.2.2.2.1≤5))=c3
 generalize (decide (0≤x.2.2.1) && decide (x.2.2.1≤IntKind.wrap .i64 (x.2.2.2.1 - 1)))=c4
 generalize aK x.2.2.2.2.1=c5
 generalize decide ((x.2.2.2.2.2.1.length:Int)≤3)=c6
 generalize (decide (0≤x.2.2.2.2.2.2.1) && decide (x.2.2.2.2.2.2.1≤2147483647))=c7
 generalize (decide (0≤x.2.2.2.2.2.2.2.1) && decide (x.2.2.2.2.2.2.2.1≤4))=c8
 generalize x.2.2.2.2.2.1.any (fun e=>!aK e)=c9
 cases c1 <;> cases c2 <;> cases c3 <;> cases c4 <;> cases c5 <;> cases c6 <;> cases c7 <;> cases c8 <;> cases c9 <;> exact ⟨_,rfl,rfl⟩
noncomputable def dr (x:aA.D):Bool:=(jh x).getD false
theorem Jr (x:aA.D) (hl:x.2.2.2.2.2.1.length≤33554432):jh x=some (dr x):=by
 obtain ⟨b,_,h⟩:=LE x hl
 unfold dr;rw [h];rfl
theorem Js (x:aA.D) (hl:x.2.2.2.2.2.1.length≤33554432):pM x=some (dr x):=by
 obtain ⟨b,h1,h⟩:=LE x hl
 unfold dr;rw [h,h1];rfl
theorem P2 (xs:List aA.D) (hl:xs.length≤33554432) (p:aA.D→Bool) (q:(aA.D×Unit)→Option Bool) (hq:∀ x∈xs,q (x,())=some (p x)) :
  dG xs q=some (match bS p xs with | some k=>(k:Int) | none=>-1):=by
 unfold dG
 rw [d9 xs (body:=cQ xs q) p (fun i=>i) (by omega) (fun i x hx=>?_) ?_]
 ·cases bS p xs <;> rfl
 ·unfold cQ
  simp
 ·unfold cQ
  have hlt:=(List.getElem?_eq_some_iff.1 hx).1
  have:((i:Int) < (xs.length:Int)):=by omega
  simp only [this,decide_true,cond_true,aJ hx,hq x (List.mem_of_getElem? hx),Option.bind_some]
def dK (s:ac.D) (a:Int):Int:=match bS (fun (x:ai.D)=>x.1 == a) s.1 with | some k=>(k:Int) | none=>-1
theorem iG (s:ac.D) (a:Int):dK s a=-1∨∃ (k:Nat) (x:ai.D),dK s a=k∧s.1[k]?=some x∧x.1=a:=by
 unfold dK
 obtain ⟨h1,h2⟩:=eT (fun (x:ai.D)=>x.1 == a) s.1
 cases hf:bS (fun (x:ai.D)=>x.1 == a) s.1 with
 | none=>exact .inl rfl
 | some k =>
  obtain ⟨x,g1,g2,_⟩:=h2 k hf
  exact .inr ⟨k,x,rfl,g1,by simpa using g2⟩
theorem eV (s:ac.D) (a:Int) (h:s.1.length≤33554432):eZ s a=some (dK s a):=by
 unfold eZ dK
 rw [d9 s.1 (body:=kz s a) (fun (x:ai.D)=>x.1 == a) (fun i=>i) (by omega) (fun i x hx=>?_) ?_]
 ·cases bS (fun (x:ai.D)=>x.1 == a) s.1 <;> rfl
 ·unfold kz
  simp
 ·unfold kz
  have hlt:=(List.getElem?_eq_some_iff.1 hx).1
  have:((i:Int) < (s.1.length:Int)):=by omega
  simp only [this,decide_true,cond_true,aJ hx]
theorem OM (xs:List ai.D) (hl:xs.length≤33554432) (p:ai.D→Bool) (q:(ai.D×Unit)→Option Bool) (hq:∀ x,q (x,())=some (p x)) :
  dq xs q=some (match bS p xs with | some k=>(k:Int) | none=>-1):=by
 unfold dq
 rw [d9 xs (body:=cF xs q) p (fun i=>i) (by omega) (fun i x hx=>?_) ?_]
 ·cases bS p xs <;> rfl
 ·unfold cF
  simp
 ·unfold cF
  have hlt:=(List.getElem?_eq_some_iff.1 hx).1
  have:((i:Int) < (xs.length:Int)):=by omega
  simp only [this,decide_true,cond_true,aJ hx,hq,Option.bind_some]
theorem fP (s:ac.D) (a:Int) (h:s.1.length≤33554432):fX s a=some (dK s a):=by
 unfold fX dK
 rw [OM s.1 h (fun (x:ai.D)=>x.1 == a) _ (fun x=>rfl)]
 rfl
theorem lW (p:ai.D) (t:Int):cC p t=aP p t:=by
 unfold cC aP
 cases h1:t == 1 <;> cases h2:t == 2 <;> cases h4:t == 4 <;> cases h8:t == 8 <;> cases h16:t == 16 <;> cases h32:t == 32 <;> simp only [cond_true,cond_false,Option.bind_some]
theorem kt (p:ai.D) (t:Int):∃ b,cC p t=some b:=by
 unfold cC
 simp only [cond_eq_ite]
 repeat' split
 all_goals exact ⟨_,rfl⟩
theorem w4 (a b:Int):eL a b=some (v5 a b):=by unfold eL;simp only [vi,Option.bind_some];rfl
theorem w5 (a b:Int):bn a b=some (v5 a b):=by unfold bn;simp only [kq,Option.bind_some];rfl
theorem w6 (a b:Int):jw a b=some (xN a b):=by unfold jw;simp only [vi,Option.bind_some];rfl
theorem w7 (a b:Int):gQ a b=some (xN a b):=by unfold gQ;simp only [kq,Option.bind_some];rfl
theorem KZ (xs:List ai.D) (h:xs.length≤33554432):eM xs=some xs:=by
 unfold eM
 rw [if_pos (by simp only [aG,List.length_nil];omega)]
 rfl
theorem M8 (xs:List ay.D) (h:xs.length≤33554432):fd xs=some xs:=by
 unfold fd
 rw [if_pos (by simp only [aG,List.length_nil];omega)]
 rfl
theorem gb (s:ac.D) (hp:s.1.length≤33554432) (hs:s.2.1.length≤33554432):cX s=some s:=by
 unfold cX
 simp only [KZ _ hp,M8 _ hs,Option.bind_some]
theorem gc (s:ac.D) (hp:s.1.length≤33554432) (hs:s.2.1.length≤33554432):eH s=some s:=by
 unfold eH
 rw [if_pos (by simp only [aG,List.length_nil];omega),if_pos (by simp only [aG,List.length_nil];omega)]
 rfl
def iz (a b:ac.D):Prop:=a.1.length=b.1.length∧a.2.1.length=b.2.1.length
def fh (x:ai.D) (v:ae.D) (c:Int):ai.D :=
 bif v.2.2.2.2.2.1 == 2 then (x.1,x.2.1,x.2.1,v.2.2.2.2.2.1,c,x.2.2.2.2.2.1,x.2.2.2.2.2.2.1,x.2.2.2.2.2.2.2.1,v.2.2.2.2.1,0,0,false,v.2.2.2.2.2.2)
 else (x.1,x.2.1,x.2.1,v.2.2.2.2.2.1,c,x.2.2.2.2.2.1,x.2.2.2.2.2.2.1,x.2.2.2.2.2.2.2.1,0,0,0,false,false,())
def SV (s:ac.D) (v:ae.D) (r:ac.D×(Bool×Unit)):Prop :=
 (r.2.1=false∧r.1=s)∨(r.2.1=true∧aT s=true∧aK v=true∧v.1=2∧∃ (k:Nat) (x:ai.D),dK s v.2.2.1=k∧s.1[k]?=some x∧x.1=v.2.2.1∧(x.2.2.2.1 == v.2.2.2.2.2.1)=false∧r.1=(s.1.set k (fh x v s.2.2.2.1),s.2))
theorem Rk (s:ac.D) (v:ae.D) (hp:s.1.length≤33554432) (hs:s.2.1.length≤33554432):∃ r,oB s v=some r∧wV s v=some r∧SV s v r:=by
 unfold oB wV
 simp only [gc s hp hs,gb s hp hs,eV s _ hp,fP s _ hp,dO s hp hs,dP s hp hs,bQ,bJ,Option.bind_some]
 cases h1:aT s
 ·exact ⟨_,rfl,rfl,.inl ⟨rfl,rfl⟩⟩
 cases h2:aK v
 ·exact ⟨_,rfl,rfl,.inl ⟨rfl,rfl⟩⟩
 cases h3:(v.1 != 2)
 case true=>exact ⟨_,rfl,rfl,.inl ⟨rfl,rfl⟩⟩
 have h3:v.1=2:=by simpa using h3
 rcases iG s v.2.2.1 with h | ⟨k,x,g1,g2,g3⟩
 ·rw [h];exact ⟨_,rfl,rfl,.inl ⟨rfl,rfl⟩⟩
 ·rw [g1,bO (by omega)]
  simp only [cond_false,Bool.not_true,Option.bind_some,aJ g2,Int.toNat_natCast,g2]
  cases h4:(x.2.2.2.1 == v.2.2.2.2.2.1)
  ·simp only [cond_false]
   have e1:∀ a b,sD x a b=some (x.1,x.2.1,x.2.1,a,b,x.2.2.2.2.2.1,x.2.2.2.2.2.2.1,x.2.2.2.2.2.2.2.1,0,0,0,false,false,()):=fun a b=>rfl
   have e2:∀ a b,sU x a b=some (x.1,x.2.1,x.2.1,a,b,x.2.2.2.2.2.1,x.2.2.2.2.2.2.1,x.2.2.2.2.2.2.2.1,0,0,0,false,false,()):=fun a b=>rfl
   simp only [e1,e2,Option.bind_some]
   refine ⟨((s.1.set k (fh x v s.2.2.2.1),s.2),true,()),?_,?_,.inr ⟨rfl,h1,h2,h3,k,x,g1,g2,g3,h4,rfl⟩⟩ <;> unfold fh <;> cases (v.2.2.2.2.2.1 == 2) <;> rfl
  ·exact ⟨_,rfl,rfl,.inl ⟨rfl,rfl⟩⟩
theorem M9 {s:ac.D} {d:Int} (h0:0≤d) (h:d < (s.2.1.length:Int)):∃ (j:Nat) (x:ay.D),d=j∧s.2.1[j]?=some x:=by
 obtain ⟨j,rfl⟩:=Int.eq_ofNat_of_zero_le h0
 exact ⟨j,s.2.1[j]'(by omega),rfl,List.getElem?_eq_getElem (by omega)⟩
def T6 (s:ac.D) (k p d n:Int) (ev:Bool) (r:ac.D×(Bool×Unit)):Prop :=
 (r.2.1=false∧r.1=s)∨(r.2.1=true∧aT s=true∧ev=true ∧
  ((∃ (j:Nat) (x:ay.D),(p=0∧d=j∧s.2.1[j]?=some x)∧((k=3∧r.1=(s.1,s.2.1.set j (v5 x.1 n,x.2),s.2.2))∨(k=4∧r.1=(s.1,s.2.1.set j (xN x.1 n,x.2),s.2.2)))) ∨
   (∃ (i:Nat) (x:ai.D),(dK s p=i∧s.1[i]?=some x∧(x.2.2.2.1 == 2)=true) ∧
   ((k=5∧r.1=(s.1.set i (x.1,x.2.1,x.2.2.1,x.2.2.2.1,x.2.2.2.2.1,x.2.2.2.2.2.1,x.2.2.2.2.2.2.1,x.2.2.2.2.2.2.2.1,v5 x.2.2.2.2.2.2.2.2.1 n,x.2.2.2.2.2.2.2.2.2),s.2)) ∨
    (k=6∧r.1=(s.1.set i (x.1,x.2.1,x.2.2.1,x.2.2.2.1,x.2.2.2.2.1,x.2.2.2.2.2.1,x.2.2.2.2.2.2.1,x.2.2.2.2.2.2.2.1,x.2.2.2.2.2.2.2.2.1,v5 x.2.2.2.2.2.2.2.2.2.1 n,x.2.2.2.2.2.2.2.2.2.2),s.2))))))
theorem Rl (s:ac.D) (k sr p d n z:Int) (bt:Bool) (u:Unit) (hp:s.1.length≤33554432) (hs:s.2.1.length≤33554432):∃ r,vH s (k,sr,p,d,n,z,bt,u)=some r∧vU s (k,sr,p,d,n,z,bt,u)=some r∧T6 s k p d n (aK (k,sr,p,d,n,z,bt,u)) r:=by
 unfold vH vU
 simp only [gc s hp hs,gb s hp hs,dO s hp hs,dP s hp hs,bQ,bJ,Option.bind_some]
 cases hs0:aT s
 ·exact ⟨_,rfl,rfl,.inl ⟨rfl,rfl⟩⟩
 cases hv:aK (k,sr,p,d,n,z,bt,u)
 ·exact ⟨_,rfl,rfl,.inl ⟨rfl,rfl⟩⟩
 unfold mX aZ f9
 simp only [dd,eV s _ hp,fP s _ hp,w4,w5,w6,w7,Option.bind_some,Bool.not_true,cond_false]
 rw [aD (n:=(s.2.1.length:Int) - 1) (by omega) (by omega)]
 rcases Bz hv with ⟨rfl,_⟩ | ⟨rfl,_⟩ | ⟨hk,rfl,hd⟩ | ⟨hk,h1⟩
 ·exact ⟨_,rfl,rfl,.inl ⟨rfl,rfl⟩⟩
 ·exact ⟨_,rfl,rfl,.inl ⟨rfl,rfl⟩⟩
 ·by_cases hlt:d < (s.2.1.length:Int)
  ·obtain ⟨j,x,rfl,hx⟩:=M9 hd hlt
   have c1:decide ((j:Int)≥(s.2.1.length:Int))=false:=decide_eq_false (by omega)
   have c2:(decide (0≤(j:Int)) && decide ((j:Int)≤(s.2.1.length:Int) - 1))=true:=by rw [decide_eq_true (by omega),decide_eq_true (by omega)];rfl
   rcases hk with rfl | rfl <;> simp only [Int.reduceBEq,Int.reduceBNe,beq_self_eq_true,c1,c2,cond_true,cond_false,Option.bind_some,aJ hx,Int.toNat_natCast,hx,Bool.not_true] <;> first | exact ⟨_,rfl,rfl,.inr ⟨rfl,hs0,rfl,.inl ⟨j,x,⟨rfl,rfl,hx⟩,.inl ⟨rfl,rfl⟩⟩⟩⟩ | exact ⟨_,rfl,rfl,.inr ⟨rfl,hs0,rfl,.inl ⟨j,x,⟨rfl,rfl,hx⟩,.inr ⟨rfl,rfl⟩⟩⟩⟩
  ·have c1:decide (d≥(s.2.1.length:Int))=true:=decide_eq_true (by omega)
   have c2:(decide (0≤d) && decide (d≤(s.2.1.length:Int) - 1))=false:=by rw [decide_eq_false (p:=d≤(s.2.1.length:Int) - 1) (by omega),Bool.and_false]
   rcases hk with rfl | rfl <;> simp only [Int.reduceBEq,Int.reduceBNe,beq_self_eq_true,c1,c2,cond_true,cond_false,Option.bind_some,Bool.not_false] <;> exact ⟨_,rfl,rfl,.inl ⟨rfl,rfl⟩⟩
 ·have p0:(p == 0)=false:=by rw [beq_eq_false_iff_ne];omega
  rcases iG s p with h | ⟨i,x,e1,hx,_⟩
  ·rcases hk with rfl | rfl <;> simp only [h,Int.reduceBEq,Int.reduceBNe,p0,cond_true,cond_false,Option.bind_some] <;> exact ⟨_,rfl,rfl,.inl ⟨rfl,rfl⟩⟩
  ·have c1:decide ((i:Int)≥0)=true:=by simp
   have c2:decide ((i:Int) < 0)=false:=bO (by omega)
   have hzz:(x.2.2.2.1 != 2)=false→(x.2.2.2.1 == 2)=true:=fun h=>by unfold bne at h;cases hq:(x.2.2.2.1 == 2) <;> rw [hq] at h <;> first | rfl | cases h
   rcases hk with rfl | rfl <;> simp only [e1,c1,c2,Int.reduceBEq,Int.reduceBNe,p0,cond_true,cond_false,Option.bind_some,aJ hx,Int.toNat_natCast,hx] <;> cases hq:(x.2.2.2.1 != 2) <;> simp only [c1,cond_true,cond_false,Option.bind_some,aJ hx,Int.toNat_natCast,hx,Bool.not_true] <;> first | exact ⟨_,rfl,rfl,.inl ⟨rfl,rfl⟩⟩ | exact ⟨_,rfl,rfl,.inr ⟨rfl,hs0,rfl,.inr ⟨i,x,⟨e1,hx,hzz hq⟩,.inl ⟨rfl,rfl⟩⟩⟩⟩ | exact ⟨_,rfl,rfl,.inr ⟨rfl,hs0,rfl,.inr ⟨i,x,⟨e1,hx,hzz hq⟩,.inr ⟨rfl,rfl⟩⟩⟩⟩
theorem Jt {α:Type} (p:Nat→α→Bool):∀ (xs:List α) (k:Nat),qJ p k xs=false↔∀ (i:Nat) x,xs[i]?=some x→p (k + i) x=false
 | [],_=>by simp [qJ]
 | y :: xs,k=>by
  simp only [qJ,Bool.or_eq_false_iff,Jt p xs (k + 1)]
  constructor
  ·rintro ⟨h1,h2⟩ i x hx
   cases i with
   | zero=>simp at hx;subst hx;exact h1
   | succ i=>rw [show k + (i + 1)=k + 1 + i by omega];exact h2 i x (by simpa using hx)
  ·intro h
   refine ⟨h 0 y (by simp),fun i x hx=>?_⟩
   rw [show k + 1 + i=k + (i + 1) by omega]
   exact h (i + 1) x (by simpa using hx)
def D7 (s:ac.D) (x:ai.D):Prop:=gT x=true∧x.2.1 < (s.2.1.length:Int)∧x.2.2.1 < (s.2.1.length:Int)∧x.2.2.2.2.1≤s.2.2.2.1
def tQ (s:ac.D):Prop :=
 (s.1.length≤8∧2≤s.2.1.length∧s.2.1.length≤3)∧((0≤s.2.2.1∧s.2.2.1≤(s.2.1.length:Int) - 1)∧(0≤s.2.2.2.1∧s.2.2.2.1≤9999)) ∧
 (∀ (i:Nat) x,s.1[i]?=some x→D7 s x)∧(∀ (i:Nat) x y,s.1[i]?=some x→s.1[i + 1]?=some y→x.1 < y.1)∧∀ x∈s.2.1,dW x=true
theorem dk (s:ac.D):aT s=true↔tQ s:=by
 unfold aT tQ
 simp only [Bool.and_eq_true,decide_eq_true_eq,Bool.not_eq_true',Jt,Nat.zero_add,List.any_eq_false]
 constructor
 ·rintro ⟨⟨⟨⟨⟨h1,h2⟩,h3⟩,h4⟩,h5⟩,h6⟩
  refine ⟨⟨by omega,by omega,by omega⟩,⟨h3,h4⟩,fun i x hx=>?_,fun i x y hx hy=>?_,fun x hx=>by simpa using h6 x hx⟩
  ·have:=h5 i x hx
   unfold kr at this
   simp only [Bool.or_eq_false_iff,Bool.not_eq_false',decide_eq_false_iff_not] at this
   obtain ⟨⟨⟨⟨g1,g2⟩,g3⟩,g4⟩,_⟩:=this
   exact ⟨g1,Int.not_le.1 g2,Int.not_le.1 g3,Int.not_lt.1 g4⟩
  ·have:=h5 (i + 1) y hy
   unfold kr at this
   simp only [Bool.or_eq_false_iff,Bool.and_eq_false_iff,Nat.add_sub_cancel,hx,Option.any_some,decide_eq_false_iff_not] at this
   rcases this.2 with h | h
   ·omega
   ·exact Int.not_le.1 h
 ·rintro ⟨⟨h1,h2,h2'⟩,⟨h3,h4⟩,h5,h6,h7⟩
  refine ⟨⟨⟨⟨⟨by omega,by omega,by omega⟩,h3⟩,h4⟩,fun i x hx=>?_⟩,fun x hx=>by simpa using h7 x hx⟩
  obtain ⟨g1,g2,g3,g4⟩:=h5 i x hx
  unfold kr
  simp only [Bool.or_eq_false_iff,Bool.not_eq_false',decide_eq_false_iff_not,Bool.and_eq_false_iff]
  refine ⟨⟨⟨⟨g1,Int.not_le.2 g2⟩,Int.not_le.2 g3⟩,Int.not_lt.2 g4⟩,?_⟩
  cases i with
  | zero=>left;simp
  | succ i =>
   right
   simp only [Nat.add_sub_cancel]
   have hlt:=(List.getElem?_eq_some_iff.1 hx).1
   have hp:s.1[i]?=some (s.1[i]'(by omega)):=List.getElem?_eq_getElem (by omega)
   rw [hp,Option.any_some,decide_eq_false_iff_not]
   exact Int.not_le.2 (h6 i _ x hp hx)
theorem Gl {s:ac.D} (h:tQ s) (ps:List ai.D) (hl:ps.length=s.1.length) (hk:∀ (i:Nat) x y,s.1[i]?=some x→ps[i]?=some y→y.1=x.1∧D7 s y):tQ (ps,s.2):=by
 obtain ⟨⟨h1,h2,h2'⟩,h3,h5,h6,h7⟩:=h
 have hget:∀ (i:Nat) y,ps[i]?=some y→∃ x,s.1[i]?=some x:=fun i y hy=>⟨_,List.getElem?_eq_getElem (by have:=(List.getElem?_eq_some_iff.1 hy).1;omega)⟩
 refine ⟨⟨by simp only;omega,h2,h2'⟩,h3,fun i y hy=>?_,fun i x y hx hy=>?_,h7⟩
 ·obtain ⟨x,hx⟩:=hget i y hy
  exact (hk i x y hx hy).2
 ·obtain ⟨x',hx'⟩:=hget i x hx
  obtain ⟨y',hy'⟩:=hget (i + 1) y hy
  have e1:=(hk i x' x hx' hx).1
  have e2:=(hk (i + 1) y' y hy' hy).1
  have:=h6 i x' y' hx' hy'
  rw [e1,e2]
  exact this
theorem D8 {s:ac.D} (h:tQ s) {i:Nat} {x:ai.D} (hx:s.1[i]?=some x) (y:ai.D) (he:y.1=x.1) (hy:D7 s y):tQ (s.1.set i y,s.2):=by
 refine Gl h _ (by simp) fun j a b ha hb=>?_
 by_cases hj:i=j
 ·subst hj
  have hlt:=(List.getElem?_eq_some_iff.1 hx).1
  rw [tZ hlt] at hb
  cases hb
  rw [hx] at ha
  cases ha
  exact ⟨he,hy⟩
 ·rw [List.getElem?_set_ne hj] at hb
  rw [ha] at hb
  cases hb
  exact ⟨rfl,h.2.2.1 j _ ha⟩
theorem Ju {s:ac.D} (h:tQ s) (ss:List ay.D) (hl:ss.length=s.2.1.length) (hk:∀ x∈ss,dW x=true):tQ (s.1,ss,s.2.2):=by
 obtain ⟨⟨h1,h2,h2'⟩,⟨h3,h4⟩,h5,h6,h7⟩:=h
 refine ⟨⟨h1,by simp only;omega,by simp only;omega⟩,⟨by simp only;rw [hl];exact h3,h4⟩,fun i x hx=>?_,h6,hk⟩
 obtain ⟨g1,g2,g3,g4⟩:=h5 i x hx
 exact ⟨g1,by simp only;rw [hl];exact g2,by simp only;rw [hl];exact g3,g4⟩
theorem Aq {s:ac.D} (h:tQ s) {j:Nat} (y:ay.D) (hy:dW y=true):tQ (s.1,s.2.1.set j y,s.2.2):=by
 refine Ju h _ (by simp) fun x hx=>?_
 rcases List.mem_or_eq_of_mem_set hx with hm | rfl
 ·exact h.2.2.2.2 x hm
 ·exact hy
theorem Ar (n:Int):-2147483647≤fD n∧fD n≤2147483647:=by unfold fD;split <;> (try split) <;> omega
theorem rN {n:Int} (h1:-2147483647≤n) (h2:n≤2147483647):fD n=n:=by unfold fD;split <;> (try split) <;> omega
theorem gU (a b:Int):-2147483647≤v5 a b∧v5 a b≤2147483647:=Ar _
theorem D9 (a b:Int):-2147483647≤xN a b∧xN a b≤2147483647:=Ar _
theorem nq {a b:Int} (ha:0≤a) (hb:0≤b):0≤v5 a b:=by
 unfold v5
 have h1:=Ar a
 have h2:=Ar b
 have h3:0≤fD a:=by unfold fD;split <;> (try split) <;> omega
 have h4:0≤fD b:=by unfold fD;split <;> (try split) <;> omega
 rw [aD (by omega) (by omega)]
 unfold fD
 split <;> (try split) <;> omega
theorem QP {α:Type} {xs:List α} (j:Nat) (w:α) {i:Nat} {x:α} (h:xs[i]?=some x):∃ y,(xs.set j w)[i]?=some y :=
 ⟨_,List.getElem?_eq_getElem (by have:=(List.getElem?_eq_some_iff.1 h).1;simpa using this)⟩
theorem P3 (s:ac.D) (d:Int):(decide (0≤d) && decide (d≤(s.2.1.length:Int) - 1))=false∨∃ (j:Nat) (y:ay.D),(decide (0≤(j:Int)) && decide ((j:Int)≤(s.2.1.length:Int) - 1))=true∧d=j∧s.2.1[j]?=some y:=by
 by_cases h:0≤d∧d < (s.2.1.length:Int)
 ·obtain ⟨j,y,e,hy⟩:=M9 (s:=s) h.1 h.2
  have:=(List.getElem?_eq_some_iff.1 hy).1
  exact .inr ⟨j,y,by rw [decide_eq_true (by omega),decide_eq_true (by omega)];rfl,e,hy⟩
 ·left
  by_cases h0:0≤d
  ·rw [decide_eq_false (p:=d≤(s.2.1.length:Int) - 1) (by omega),Bool.and_false]
  ·rw [decide_eq_false h0];rfl
def QQ (ss ss':List ay.D):Prop:=ss'=ss∨∃ (j:Nat) (z:ay.D) (a:Int),ss[j]?=some z∧ss'=ss.set j (a,z.2)∧-2147483647≤a∧a≤2147483647
def Hv (b2:Bool) (n:Int) (x:ay.D):ay.D:=bif b2 then (x.1,v5 x.2.1 n,x.2.2) else (xN x.1 n,x.2)
def Hw (b2 b4 c:Bool) (n:Int) (x:ai.D):ai.D :=
 (x.1,x.2.1,x.2.2.1,x.2.2.2.1,x.2.2.2.2.1,x.2.2.2.2.2.1,x.2.2.2.2.2.2.1,x.2.2.2.2.2.2.2.1,x.2.2.2.2.2.2.2.2.1,(bif b2 then v5 x.2.2.2.2.2.2.2.2.2.1 n else x.2.2.2.2.2.2.2.2.2.1),(bif b2 then x.2.2.2.2.2.2.2.2.2.2.1 else v5 x.2.2.2.2.2.2.2.2.2.2.1 n),(x.2.2.2.2.2.2.2.2.2.2.2.1 || (b4 && c)),x.2.2.2.2.2.2.2.2.2.2.2.2)
def Na (s:ac.D) (k sr p d n z:Int) (bt:Bool) (u:Unit) (b2 b4 c:Bool) (r:ac.D×(Int×Unit)):Prop :=
 (r.2.1=0∧r.1=s∧(aT s=false∨aK (k,sr,p,d,n,z,bt,u)=false∨(k != 1)=true∨(p=0∧(decide (0≤d) && decide (d≤(s.2.1.length:Int) - 1))=false)∨((p == 0)=false∧(dK s p=-1∨∃ (i:Nat) (x:ai.D),dK s p=i∧s.1[i]?=some x∧(x.2.2.2.1 != 2)=true)))) ∨
 (r.2.1=n∧r.1.2.2=s.2.2∧aT s=true∧aK (k,sr,p,d,n,z,bt,u)=true ∧
  ((p=0∧r.1.1=s.1∧∃ (j:Nat) (x:ay.D),d=j∧s.2.1[j]?=some x∧QQ (s.2.1.set j (Hv b2 n x)) r.1.2.1) ∨
   ((p == 0)=false∧∃ (i:Nat) (x:ai.D),dK s p=i∧s.1[i]?=some x∧(x.2.2.2.1 == 2)=true∧r.1.1=s.1.set i (Hw b2 b4 c n x)∧QQ s.2.1 r.1.2.1)))
theorem ON (s:ac.D) (q:ai.D) (k sr p d n z:Int) (bt:Bool) (u:Unit) (hp:s.1.length≤33554432) (hs:s.2.1.length≤33554432) :
  ∃ r,lL s q (k,sr,p,d,n,z,bt,u)=some r∧lS s q (k,sr,p,d,n,z,bt,u)=some r∧∃ b2 b4,aP q 2=some b2∧aP q 4=some b4∧Na s k sr p d n z bt u b2 b4 (decide (n≥1)) r:=by
 obtain ⟨b1,hb1⟩:=kt q 1
 obtain ⟨b2,hb2⟩:=kt q 2
 obtain ⟨b4,hb4⟩:=kt q 4
 have hc1:aP q 1=some b1:=by rw [← lW];exact hb1
 have hc2:aP q 2=some b2:=by rw [← lW];exact hb2
 have hc4:aP q 4=some b4:=by rw [← lW];exact hb4
 suffices h:∃ r,lL s q (k,sr,p,d,n,z,bt,u)=some r∧lS s q (k,sr,p,d,n,z,bt,u)=some r∧Na s k sr p d n z bt u b2 b4 (decide (n≥1)) r by
  obtain ⟨r,g1,g2,g3⟩:=h
  exact ⟨r,g1,g2,b2,b4,hc2,hc4,g3⟩
 unfold lL lS
 simp only [gc s hp hs,gb s hp hs,dO s hp hs,dP s hp hs,bQ,bJ,Option.bind_some]
 cases hs0:aT s
 ·exact ⟨_,rfl,rfl,.inl ⟨rfl,rfl,.inl hs0⟩⟩
 cases hv:aK (k,sr,p,d,n,z,bt,u)
 ·exact ⟨_,rfl,rfl,.inl ⟨rfl,rfl,.inr (.inl hv)⟩⟩
 by_cases k1:k=1
 case neg =>
  have:(k != 1)=true:=by simp [k1]
  refine ⟨(s,0,()),?_,?_,.inl ⟨rfl,rfl,.inr (.inr (.inl this))⟩⟩ <;> simp only [this] <;> rfl
 subst k1
 have hw:IntKind.wrap .i64 ((s.2.1.length:Int) - 1)=(s.2.1.length:Int) - 1:=aD (by omega) (by omega)
 unfold mX aZ f9
 simp only [hb1,hb2,hb4,hc1,hc2,hc4,dd,gx,hw,eV s _ hp,fP s _ hp,w4,w5,w6,w7,Option.bind_some,Bool.not_true,cond_false,bne_self_eq_false,List.length_set]
 have hq:=P3 s q.2.2.1
 have hf:(1≤p∨p=0∧0≤d):=by rcases Bz hv with ⟨_,h⟩ | ⟨h,_⟩ | ⟨h,_⟩ | ⟨h,_⟩ <;> first | exact h | omega
 rcases hf with h1 | ⟨rfl,hd⟩
 ·have p0:(p == 0)=false:=by rw [beq_eq_false_iff_ne];omega
  rcases iG s p with h | ⟨i,x,e1,hx,_⟩
  ·refine ⟨(s,0,()),?_,?_,.inl ⟨rfl,rfl,.inr (.inr (.inr (.inr ⟨p0,.inl h⟩)))⟩⟩ <;> simp only [h,p0,cond_true,cond_false,Option.bind_some] <;> rfl
  ·have c1:decide ((i:Int)≥0)=true:=by simp
   have c2:decide ((i:Int) < 0)=false:=bO (by omega)
   have hil:=(List.getElem?_eq_some_iff.1 hx).1
   obtain ⟨xi,xo,xs,xz,xt,xp,xg,xr,xl,xm,xk,xd,xb,xu⟩:=x
   simp only [e1,c1,c2,p0,cond_true,cond_false,Option.bind_some,aJ hx]
   cases hz:(xz != 2)
   case true=>exact ⟨_,rfl,rfl,.inl ⟨rfl,rfl,.inr (.inr (.inr (.inr ⟨p0,.inr ⟨i,_,e1,hx,hz⟩⟩)))⟩⟩
   have hz2:(xz == 2)=true:=by unfold bne at hz;cases h:(xz == 2) <;> simp [h] at hz ⊢
   simp only [c1,cond_true,cond_false,Option.bind_some,aJ hx,Int.toNat_natCast,hx,Bool.not_true,Ah hil,tZ hil,List.set_set]
   rcases hq with hq | ⟨j,y,hq,hj,hy⟩
   ·simp only [hq]
    cases b2 <;> cases b4 <;> cases xd <;> cases decide (n≥1) <;> cases b1 <;> simp only [cond_true,cond_false,Option.bind_some,Ah hil,tZ hil,List.set_set] <;> exact ⟨_,rfl,rfl,.inr ⟨rfl,rfl,hs0,hv,.inr ⟨p0,i,_,e1,hx,hz2,rfl,.inl rfl⟩⟩⟩
   ·simp only [hj,hq]
    cases b2 <;> cases b4 <;> cases xd <;> cases decide (n≥1) <;> cases b1 <;> simp only [cond_true,cond_false,Option.bind_some,Ah hil,tZ hil,List.set_set,aJ hy,Int.toNat_natCast,hy] <;> first | exact ⟨_,rfl,rfl,.inr ⟨rfl,rfl,hs0,hv,.inr ⟨p0,i,_,e1,hx,hz2,rfl,.inl rfl⟩⟩⟩ | exact ⟨_,rfl,rfl,.inr ⟨rfl,rfl,hs0,hv,.inr ⟨p0,i,_,e1,hx,hz2,rfl,.inr ⟨j,y,_,hy,rfl,(gU _ _).1,(gU _ _).2⟩⟩⟩⟩
 ·have p0:((0:Int) == 0)=true:=rfl
  by_cases hlt:d < (s.2.1.length:Int)
  ·obtain ⟨j,x,rfl,hx⟩:=M9 hd hlt
   have c1:decide ((j:Int)≥(s.2.1.length:Int))=false:=decide_eq_false (by omega)
   have c2:(decide (0≤(j:Int)) && decide ((j:Int)≤(s.2.1.length:Int) - 1))=true:=by rw [decide_eq_true (by omega),decide_eq_true (by omega)];rfl
   simp only [p0,c1,c2,cond_true,cond_false,Option.bind_some,aJ hx,Int.toNat_natCast,hx,Bool.not_true]
   rcases hq with hq | ⟨i,y,hq,hj,hy⟩
   ·simp only [hq]
    cases b2 <;> cases b1 <;> simp only [cond_true,cond_false,Option.bind_some,aJ hx,Int.toNat_natCast,hx] <;> exact ⟨_,rfl,rfl,.inr ⟨rfl,rfl,hs0,hv,.inl ⟨rfl,rfl,j,x,rfl,hx,.inl rfl⟩⟩⟩
   ·simp only [hj,hq]
    obtain ⟨y1,hy1⟩:=QP j (x.1,v5 x.2.1 n,x.2.2) hy
    obtain ⟨y2,hy2⟩:=QP j (xN x.1 n,x.2) hy
    cases b2 <;> cases b1 <;> simp only [cond_true,cond_false,Option.bind_some,aJ hx,Int.toNat_natCast,hx,aJ hy1,hy1,aJ hy2,hy2] <;> first | exact ⟨_,rfl,rfl,.inr ⟨rfl,rfl,hs0,hv,.inl ⟨rfl,rfl,j,x,rfl,hx,.inl rfl⟩⟩⟩ | exact ⟨_,rfl,rfl,.inr ⟨rfl,rfl,hs0,hv,.inl ⟨rfl,rfl,j,x,rfl,hx,.inr ⟨i,_,_,hy1,rfl,(gU _ _).1,(gU _ _).2⟩⟩⟩⟩ | exact ⟨_,rfl,rfl,.inr ⟨rfl,rfl,hs0,hv,.inl ⟨rfl,rfl,j,x,rfl,hx,.inr ⟨i,_,_,hy2,rfl,(gU _ _).1,(gU _ _).2⟩⟩⟩⟩
  ·have c1:decide (d≥(s.2.1.length:Int))=true:=decide_eq_true (by omega)
   have c2:(decide (0≤d) && decide (d≤(s.2.1.length:Int) - 1))=false:=by rw [decide_eq_false (p:=d≤(s.2.1.length:Int) - 1) (by omega),Bool.and_false]
   refine ⟨(s,0,()),?_,?_,.inl ⟨rfl,rfl,.inr (.inr (.inr (.inl ⟨rfl,c2⟩)))⟩⟩ <;> simp only [p0,c1,c2,cond_true,cond_false,Option.bind_some,Bool.not_false]
theorem eI (i o sd z t pw tg tr pl mi mk:Int) (dl bt:Bool) (u:Unit):gT (i,o,sd,z,t,pw,tg,tr,pl,mi,mk,dl,bt,u)=true ↔
  ((1≤i∧i≤99)∧(0≤o∧o≤2)∧(0≤sd∧sd≤2)∧(1≤z∧z≤4)∧(0≤t∧t≤9999)∧(0≤pw∧pw≤999)∧(0≤tg∧tg≤999)∧(0≤tr∧tr≤63)) ∧
  ((z=2∧(0≤pl∧pl≤2147483647)∧(0≤mi∧mi≤2147483647)∧(0≤mk∧mk≤2147483647))∨(z≠2∧sd=o∧pl=0∧mi=0∧mk=0∧dl=false∧bt=false)):=by
 unfold gT
 by_cases h:z=2
 ·subst h;simp;grind
 ·simp [h];grind
theorem Jv (s:ac.D) (h:tQ s) (z:Int) (hz:1≤z∧z≤4) (x:ai.D) (hx:D7 s x):D7 s (x.1,x.2.1,x.2.1,z,s.2.2.2.1,x.2.2.2.2.2.1,x.2.2.2.2.2.2.1,x.2.2.2.2.2.2.2.1,0,0,0,false,false,()):=by
 obtain ⟨h1,h2,h3,h4⟩:=hx
 obtain ⟨⟨k1,k2,k3,k4,k5,k6,k7,k8⟩,_⟩:=(eI x.1 x.2.1 x.2.2.1 x.2.2.2.1 x.2.2.2.2.1 x.2.2.2.2.2.1 x.2.2.2.2.2.2.1 x.2.2.2.2.2.2.2.1 x.2.2.2.2.2.2.2.2.1 x.2.2.2.2.2.2.2.2.2.1 x.2.2.2.2.2.2.2.2.2.2.1 x.2.2.2.2.2.2.2.2.2.2.2.1 x.2.2.2.2.2.2.2.2.2.2.2.2.1 x.2.2.2.2.2.2.2.2.2.2.2.2.2).1 h1
 refine ⟨(eI _ _ _ _ _ _ _ _ _ _ _ _ _ _).2 ⟨⟨k1,k2,k2,hz,h.2.1.2,k6,k7,k8⟩,?_⟩,h2,h2,Int.le_refl _⟩
 by_cases h':z=2
 ·exact .inl ⟨h',⟨by decide,by decide⟩,⟨by decide,by decide⟩,⟨by decide,by decide⟩⟩
 ·exact .inr ⟨h',rfl,rfl,rfl,rfl,rfl,rfl⟩
theorem OO {ss ss':List ay.D} (h:QQ ss ss'):ss'.length=ss.length:=by
 rcases h with rfl | ⟨j,z,a,_,rfl,_⟩
 ·rfl
 ·simp
theorem w8 (x:ay.D) (a:Int) (h:dW x=true) (h1:-2147483647≤a) (h2:a≤2147483647):dW (a,x.2)=true:=by
 unfold dW at h ⊢
 rw [Bool.and_eq_true] at h ⊢
 exact ⟨by rw [decide_eq_true h1,decide_eq_true h2];rfl,h.2⟩
theorem As {k sr p d n z:Int} {bt:Bool} {u:Unit} (h:aK (k,sr,p,d,n,z,bt,u)=true):0≤n:=by
 unfold aK at h
 rw [Bool.and_eq_true,Bool.and_eq_true] at h
 exact of_decide_eq_true h.1.1
theorem Jw {s:ac.D} (h:tQ s) {ss':List ay.D} (hl:QQ s.2.1 ss'):tQ (s.1,ss',s.2.2):=by
 rcases hl with rfl | ⟨j,z,a,hz,rfl,h1,h2⟩
 ·exact h
 ·exact Aq h _ (w8 z a (h.2.2.2.2 z (List.mem_of_getElem? hz)) h1 h2)
theorem P4 (b2:Bool) (n:Int) (hn:0≤n) (x:ay.D) (h:dW x=true):dW (Hv b2 n x)=true:=by
 have h':=h
 unfold dW at h'
 simp only [Bool.and_eq_true,decide_eq_true_eq] at h'
 unfold Hv
 cases b2
 ·exact w8 x _ h (D9 _ _).1 (D9 _ _).2
 ·unfold dW
  simp only [cond_true,Bool.and_eq_true,decide_eq_true_eq]
  exact ⟨h'.1,nq h'.2.1 hn,(gU _ _).2⟩
theorem P5 (s:ac.D) (b2 b4 c:Bool) (n:Int) (hn:0≤n) (x:ai.D) (hz:(x.2.2.2.1 == 2)=true) (hx:D7 s x):D7 s (Hw b2 b4 c n x):=by
 obtain ⟨h1,h2,h3,h4⟩:=hx
 obtain ⟨k0,k9⟩:=(eI x.1 x.2.1 x.2.2.1 x.2.2.2.1 x.2.2.2.2.1 x.2.2.2.2.2.1 x.2.2.2.2.2.2.1 x.2.2.2.2.2.2.2.1 x.2.2.2.2.2.2.2.2.1 x.2.2.2.2.2.2.2.2.2.1 x.2.2.2.2.2.2.2.2.2.2.1 x.2.2.2.2.2.2.2.2.2.2.2.1 x.2.2.2.2.2.2.2.2.2.2.2.2.1 x.2.2.2.2.2.2.2.2.2.2.2.2.2).1 h1
 have hz':x.2.2.2.1=2:=by simpa using hz
 rcases k9 with ⟨_,g1,g2,g3⟩ | ⟨g,_⟩
 ·refine ⟨(eI _ _ _ _ _ _ _ _ _ _ _ _ _ _).2 ⟨k0,.inl ⟨hz',g1,?_,?_⟩⟩,h2,h3,h4⟩
  ·cases b2
   ·exact g2
   ·exact ⟨nq g2.1 hn,(gU _ _).2⟩
  ·cases b2
   ·exact ⟨nq g3.1 hn,(gU _ _).2⟩
   ·exact g3
 ·exact absurd hz' g
theorem td {α:Type}:∀ {ys:List α} {i:Nat} {x:α},ys[i]?=some x→ys.set i x=ys
 | [],_,_,_=>by simp
 | y :: ys,0,x,h=>by simp at h;simp [h]
 | y :: ys,i + 1,x,h=>by simp only [List.set_cons_succ];rw [td (by simpa using h)]
theorem LF {α β:Type} (f:α→β) (p:β→Bool):∀ (xs:List α),bS (fun x=>p (f x)) xs=bS p (xs.map f)
 | []=>rfl
 | x :: xs=>by simp only [bS,List.map_cons,LF f p xs]
theorem Gm (s t:ac.D) (a:Int) (h:s.1.map (fun (x:ai.D)=>x.1)=t.1.map (fun (x:ai.D)=>x.1)):dK s a=dK t a:=by
 have e:∀ (r:ac.D),bS (fun (x:ai.D)=>x.1 == a) r.1=bS (fun i=>i == a) (r.1.map (fun (x:ai.D)=>x.1)):=fun r=>LF (fun (x:ai.D)=>x.1) (fun i=>i == a) r.1
 unfold dK
 rw [e s,e t,h]
theorem OP {s:ac.D} {k:Nat} {x y:ai.D} (hx:s.1[k]?=some x) (he:y.1=x.1) (u:(List ay.D)×(Int×(Int×Unit))) (a:Int):dK (s.1.set k y,u) a=dK s a:=by
 refine Gm _ _ a ?_
 simp only [List.map_set,he]
 exact td (by rw [List.getElem?_map,hx];rfl)
theorem Nb (s:ac.D) (h:tQ s) (x:ai.D) (hx:D7 s x) (k sr p d n z:Int) (bt:Bool) (u:Unit) (he:aK (k,sr,p,d,n,z,bt,u)=true) (hk:k=2) :
  (fh x (k,sr,p,d,n,z,bt,u) s.2.2.2.1).1=x.1∧D7 s (fh x (k,sr,p,d,n,z,bt,u) s.2.2.2.1)∧(fh x (k,sr,p,d,n,z,bt,u) s.2.2.2.1).2.2.2.1=z∧(fh x (k,sr,p,d,n,z,bt,u) s.2.2.2.1).2.2.2.2.1=s.2.2.2.1 ∧
   (fh x (k,sr,p,d,n,z,bt,u) s.2.2.2.1).2.2.2.2.2.2.2.2.2.2.1=0∧(fh x (k,sr,p,d,n,z,bt,u) s.2.2.2.1).2.2.1=(fh x (k,sr,p,d,n,z,bt,u) s.2.2.2.1).2.1∧(fh x (k,sr,p,d,n,z,bt,u) s.2.2.2.1).2.2.2.2.2.2.2.2.1=n:=by
 subst hk
 have hf:(1≤z∧z≤4)∧(0≤n∧n≤99)∧(z=2∨n=0):=by
  unfold aK at he
  simp at he
  grind
 obtain ⟨hz,hn,hzn⟩:=hf
 by_cases hz2:z=2
 ·subst hz2
  obtain ⟨g1,g2,g3,g4⟩:=Jv s h 2 (by decide) x hx
  obtain ⟨k0,_⟩:=(eI _ _ _ _ _ _ _ _ _ _ _ _ _ _).1 g1
  exact ⟨rfl,⟨(eI _ _ _ _ _ _ _ _ _ _ _ _ _ _).2 ⟨k0,.inl ⟨rfl,⟨hn.1,show n≤2147483647 by omega⟩,⟨by decide,by decide⟩,⟨by decide,by decide⟩⟩⟩,g2,g3,g4⟩,rfl,rfl,rfl,rfl,rfl⟩
 ·have hn0:n=0:=by omega
  subst hn0
  have hb:(z == 2)=false:=by rw [beq_eq_false_iff_ne];exact hz2
  have e:fh x (2,sr,p,d,0,z,bt,u) s.2.2.2.1=(x.1,x.2.1,x.2.1,z,s.2.2.2.1,x.2.2.2.2.2.1,x.2.2.2.2.2.2.1,x.2.2.2.2.2.2.2.1,0,0,0,false,false,()):=by
   unfold fh
   simp only [hb,cond_false]
  rw [e]
  exact ⟨rfl,Jv s h z hz x hx,rfl,rfl,rfl,rfl,rfl⟩
theorem OQ (s:ac.D) (v:ae.D) (k:Nat) (x:ai.D) (h1:aT s=true) (h2:aK v=true) (h3:v.1=2) (h4:dK s v.2.2.1=k) (h5:s.1[k]?=some x) :
  let t:ac.D:=(s.1.set k (fh x v s.2.2.2.1),s.2)
  aT t=true∧dK t v.2.2.1=k∧t.1[k]?=some (fh x v s.2.2.2.1)∧(fh x v s.2.2.2.1).1=x.1∧(fh x v s.2.2.2.1).2.2.2.1=v.2.2.2.2.2.1∧(fh x v s.2.2.2.1).2.2.2.2.1=s.2.2.2.1∧(fh x v s.2.2.2.1).2.2.2.2.2.2.2.2.2.2.1=0∧(fh x v s.2.2.2.1).2.2.1=(fh x v s.2.2.2.1).2.1∧(fh x v s.2.2.2.1).2.2.2.2.2.2.2.2.1=v.2.2.2.2.1:=by
 have hs:=(dk s).1 h1
 obtain ⟨g1,g2,g3,g4,g5,g6,g7⟩:=Nb s hs x (hs.2.2.1 k x h5) v.1 v.2.1 v.2.2.1 v.2.2.2.1 v.2.2.2.2.1 v.2.2.2.2.2.1 v.2.2.2.2.2.2.1 v.2.2.2.2.2.2.2 h2 h3
 have hlt:=(List.getElem?_eq_some_iff.1 h5).1
 exact ⟨(dk _).2 (D8 hs h5 _ g1 g2),by rw [OP h5 g1];exact h4,tZ hlt,g1,g3,g4,g5,g6,g7⟩
theorem LG (s:ac.D) (e:ae.D) (h:s.1.length≤33554432):∃ p,gY s e=some p∧fY s e=some p:=by
 unfold gY fY
 simp only [eV s _ h,fP s _ h,Option.bind_some]
 rcases iG s e.2.1 with h | ⟨k,x,h1,h2,_⟩
 ·rw [h]
  cases (e.1 != 1) <;> exact ⟨_,rfl,rfl⟩
 ·rw [h1,bO (by omega)]
  cases (e.1 != 1)
  ·simp only [cond_false,Option.bind_some,aJ h2];exact ⟨_,rfl,rfl⟩
  ·exact ⟨_,rfl,rfl⟩
noncomputable def iQ (s:ac.D) (e:ae.D):ai.D:=(fY s e).getD (0,0,0,0,0,0,0,0,0,0,0,false,false,())
theorem th (s:ac.D) (e:ae.D) (h:s.1.length≤33554432):fY s e=some (iQ s e):=by
 obtain ⟨p,_,h2⟩:=LG s e h
 unfold iQ;rw [h2];rfl
theorem tj (s:ac.D) (e:ae.D) (h:s.1.length≤33554432):gY s e=some (iQ s e):=by
 obtain ⟨p,h1,h2⟩:=LG s e h
 unfold iQ;rw [h2,h1];rfl
theorem OR (xs:List ae.D) (hl:xs.length≤33554432) (p:ae.D→Bool) (q:(ae.D×Unit)→Option Bool) (hq:∀ x,q (x,())=some (p x)) :
  bz xs q=some (match bS p xs with | some k=>(k:Int) | none=>-1):=by
 unfold bz
 rw [d9 xs (body:=bm xs q) p (fun i=>i) (by omega) (fun i x hx=>?_) ?_]
 ·cases bS p xs <;> rfl
 ·unfold bm
  simp
 ·unfold bm
  have hlt:=(List.getElem?_eq_some_iff.1 hx).1
  have:((i:Int) < (xs.length:Int)):=by omega
  simp only [this,decide_true,cond_true,aJ hx,hq,Option.bind_some]
theorem oW (xs:List ae.D) (hl:xs.length≤33554432) (p:ae.D→Bool) (q:(ae.D×Unit)→Option Bool) (hq:∀ x,q (x,())=some (p x)) :
  br xs q=some (xs.filter (fun x=>!p x),()):=by
 unfold br
 rw [OR xs hl p q hq,Option.bind_some]
 obtain ⟨h1,h2⟩:=eT p xs
 cases hf:bS p xs with
 | none =>
  have:xs.filter (fun x=>!p x)=xs:=by rw [List.filter_eq_self];intro x hx;simp [h1 hf x hx]
  rw [this];rfl
 | some k =>
  obtain ⟨x,g1,g2,g3⟩:=h2 k hf
  have hk:=(List.getElem?_eq_some_iff.1 g1).1
  have n1:((k:Int) == -1)=false:=by simp
  simp only [n1,cond_false]
  rw [aD (by omega) (by omega)]
  obtain ⟨ys,m,e1,e2,e3,e4⟩:∃ (ys:List ae.D) (m:Nat),aw (bN q) (xs,(k:Int),(k:Int) + 1)=some (ys,(m:Int),(xs.length:Int))∧ys.length=xs.length∧m≤xs.length∧ys.take m=xs.filter (fun x=>!p x):=by
   refine Gh xs (body:=bN q) p (fun s=>s) (by omega) (fun ys i j x hx hij hl'=>?_) (fun ys i hl'=>?_) k x g1 g2 g3
   ·have hlt:=(List.getElem?_eq_some_iff.1 hx).1
    have hil:((j:Int) < (ys.length:Int)):=by omega
    obtain ⟨y,hy⟩:∃ y,ys[i]?=some y:=⟨_,List.getElem?_eq_getElem (by omega)⟩
    unfold bN
    simp (disch:=omega) only [hil,decide_true,cond_true,Int.toNat_natCast,aJ hx,hx,hq,Option.bind_some,aJ hy,hy,aD]
    cases p x <;> rfl
   ·unfold bN
    have:¬ ((xs.length:Int) < (ys.length:Int)):=by omega
    simp only [this,decide_false,cond_false]
  rw [e1,Option.bind_some]
  have t1:0≤(m:Int):=by omega
  have t2:(m:Int)≤(ys.length:Int):=by omega
  simp only [t1,t2,if_true,Int.le_refl,Int.toNat_natCast]
  have z1:m≤ys.length:=by omega
  rw [if_pos (by simp only [List.length_append,List.length_take,List.length_replicate,List.length_drop];omega)]
  have:∀ (zs:List ae.D),(ys.take m++zs).take m=ys.take m:=fun zs=>by rw [List.take_append_of_le_length (by simp;omega),List.take_take,Nat.min_self]
  rw [List.append_assoc,this,e4]
  simp
theorem rF {α:Type} (p:α→Bool):∀ (l:List α),(l.filter p).length + (l.filter fun x=>!p x).length=l.length
 | []=>rfl
 | a :: l=>by
  have:=rF p l
  cases h:p a <;> simp [h] <;> omega
theorem Cy {α σ S R:Type} (xs:List α) {body:S→Option (S⊕R)} (mk:σ→Int→S) (step:σ→Nat→α→σ) (I:Nat→σ→Prop) (r:S→R) (s0:σ) (h0:I 0 s0) (hlen:xs.length≤9223372036854775806)
  (hb:∀ s (i:Nat) x,I i s→xs[i]?=some x→body (mk s (i:Int))=some (.inl (mk (step s i x) (IntKind.wrap .i64 ((i:Int) + 1))))∧I (i + 1) (step s i x))
  (he:∀ s,I xs.length s→body (mk s (xs.length:Int))=some (.inr (r (mk s (xs.length:Int))))) :
  aw body (mk s0 0)=some (r (mk (ee step 0 xs s0) (xs.length:Int)))∧I xs.length (ee step 0 xs s0):=by
 have main:∀ (l:List α) (k:Nat) (s:σ),xs.drop k=l→k≤xs.length→I k s→aw body (mk s (k:Int))=some (r (mk (ee step k l s) (xs.length:Int)))∧I xs.length (ee step k l s):=by
  intro l
  induction l with
  | nil =>
   intro k s h hk hI
   have:k=xs.length:=by
    have:=congrArg List.length h
    simp at this
    omega
   subst this
   exact ⟨bb (he s hI),hI⟩
  | cons x l ih =>
   intro k s h hk hI
   have hlt:k < xs.length:=by
    have:=congrArg List.length h
    simp at this
    omega
   have hx:xs[k]?=some x:=by
    have:=congrArg (fun l=>l[0]?) h
    simpa using this
   have hr:xs.drop (k + 1)=l:=by
    have:=congrArg List.tail h
    simpa using this
   obtain ⟨h1,h2⟩:=hb s k x hI hx
   rw [aD (by omega) (by omega)] at h1
   obtain ⟨h3,h4⟩:=ih (k + 1) (step s k x) hr hlt h2
   exact ⟨aS h1 h3,h4⟩
 have:=main xs 0 s0 rfl (by omega) h0
 simpa using this
theorem rG {α σ:Type} (f:σ→α→σ):∀ (xs:List α) (i:Nat) (s:σ),ee (fun s _ x=>f s x) i xs s=xs.foldl f s
 | [],_,_=>rfl
 | x :: xs,i,s=>rG f xs (i + 1) (f s x)
def ids (t:ac.D):List Int:=t.1.map (fun (x:ai.D)=>x.1)
def Ea:ai.D:=(0,0,0,0,0,0,0,0,0,0,0,false,false,())
def OS (s t:ac.D) (v:ae.D) (y:ac.D×(aq.D×Unit)):Prop :=
 (v.1=1∧∃ b2 b4 r,Na t v.1 v.2.1 v.2.2.1 v.2.2.2.1 v.2.2.2.2.1 v.2.2.2.2.2.1 v.2.2.2.2.2.2.1 v.2.2.2.2.2.2.2 b2 b4 (decide (v.2.2.2.2.1≥1)) r∧y=(r.1,(if r.2.1≥1 then (1,v,r.2.1,0,Ea,()) else (4,v,0,0,Ea,())),())) ∨
 (v.1=2∧∃ r,SV t v r∧((r.2.1=false∧y=(t,(4,v,0,0,Ea,()),()))∨(r.2.1=true∧∃ (k:Nat) (x:ai.D),dK s v.2.2.1=k∧s.1[k]?=some x∧y=(r.1,(3,v,0,0,x,()),())))) ∨
 (v.1≠1∧v.1≠2∧∃ r,T6 t v.1 v.2.2.1 v.2.2.2.1 v.2.2.2.2.1 (aK v) r∧y=(r.1,(if r.2.1=true then (2,v,0,0,Ea,()) else (4,v,0,0,Ea,())),()))
theorem P6 (s t:ac.D) (v:ae.D) (hs:s.1.length≤33554432) (ht:t.1.length≤33554432) (ht2:t.2.1.length≤33554432) (hid:ids t=ids s) :
  ∃ y,dH t s v=some (y,())∧(v.1≠2→oA s t v=some y)∧(v.1=2→∃ r,oB t v=some r∧((r.2.1=false∧y=(t,(4,v,0,0,Ea,()),()))∨(r.2.1=true∧∃ (k:Nat) (x:ai.D),dK s v.2.2.1=k∧s.1[k]?=some x∧y=(r.1,(3,v,0,0,x,()),()))))∧OS s t v y:=by
 by_cases h1:v.1=1
 ·have e1:(v.1 == 1)=true:=by rw [h1];rfl
  obtain ⟨r,g1,g2,b2,b4,t2,t4,hr⟩:=ON t (iQ s v) v.1 v.2.1 v.2.2.1 v.2.2.2.1 v.2.2.2.2.1 v.2.2.2.2.2.1 v.2.2.2.2.2.2.1 v.2.2.2.2.2.2.2 ht ht2
  have g1:lL t (iQ s v) v=some r:=g1
  have g2:lS t (iQ s v) v=some r:=g2
  refine ⟨_,?_,fun _=>?_,fun h=>by rw [h1] at h;exact absurd h (by decide),.inl ⟨h1,b2,b4,r,hr,rfl⟩⟩
  ·unfold dH
   simp only [e1,cond_true,th s v hs,Option.bind_some,g2]
   by_cases hn:r.2.1≥1
   ·rw [decide_eq_true hn,if_pos hn];rfl
   ·rw [decide_eq_false hn,if_neg hn];rfl
  ·unfold oA
   simp only [e1,cond_true,tj s v hs,Option.bind_some,g1]
   by_cases hn:r.2.1≥1
   ·rw [decide_eq_true hn,if_pos hn];rfl
   ·rw [decide_eq_false hn,if_neg hn];rfl
 ·have e1:(v.1 == 1)=false:=by rw [beq_eq_false_iff_ne];exact h1
  by_cases h2:v.1=2
  ·have e2:(v.1 == 2)=true:=by rw [h2];rfl
   obtain ⟨r,g1,g2,hr⟩:=Rk t v ht ht2
   rcases hr0:hr with ⟨q1,q2⟩ | ⟨q1,q2,q3,q4,k,x,q5,q6,q7,q8,q9⟩
   ·refine ⟨(t,(4,v,0,0,Ea,()),()),?_,fun h=>absurd h2 h,fun _=>⟨r,g1,.inl ⟨q1,rfl⟩⟩,.inr (.inl ⟨h2,r,hr,.inl ⟨q1,rfl⟩⟩)⟩
    unfold dH
    simp only [e1,e2,cond_false,cond_true,Option.bind_some,g2,q1]
    rfl
   ·have hk:dK s v.2.2.1=k:=by rw [← Gm t s v.2.2.1 hid];exact q5
    obtain ⟨x',hx'⟩:∃ x',s.1[k]?=some x':=by
     have h3:=congrArg List.length hid
     simp only [ids,List.length_map] at h3
     exact ⟨_,List.getElem?_eq_getElem (by rw [← h3];exact (List.getElem?_eq_some_iff.1 q6).1)⟩
    refine ⟨(r.1,(3,v,0,0,x',()),()),?_,fun h=>absurd h2 h,fun _=>⟨r,g1,.inr ⟨q1,k,x',hk,hx',rfl⟩⟩,.inr (.inl ⟨h2,r,hr,.inr ⟨q1,k,x',hk,hx',rfl⟩⟩)⟩
    unfold dH
    simp only [e1,e2,cond_false,cond_true,Option.bind_some,g2,q1,fP s _ hs,hk,aJ hx']
  ·have e2:(v.1 == 2)=false:=by rw [beq_eq_false_iff_ne];exact h2
   obtain ⟨r,g1,g2,hr⟩:=Rl t v.1 v.2.1 v.2.2.1 v.2.2.2.1 v.2.2.2.2.1 v.2.2.2.2.2.1 v.2.2.2.2.2.2.1 v.2.2.2.2.2.2.2 ht ht2
   have g1:vH t v=some r:=g1
   have g2:vU t v=some r:=g2
   refine ⟨_,?_,fun _=>?_,fun h=>absurd h h2,.inr (.inr ⟨h1,h2,r,hr,rfl⟩)⟩
   ·unfold dH
    simp only [e1,e2,cond_false,Option.bind_some,g2]
    rcases hr with ⟨q1,q2⟩ | ⟨q1,_⟩
    ·rw [q1,q2];rfl
    ·rw [q1];rfl
   ·unfold oA
    simp only [e1,cond_false,Option.bind_some,g1]
    rcases hr with ⟨q1,q2⟩ | ⟨q1,_⟩
    ·rw [q1];rfl
    ·rw [q1];rfl
theorem Hx {ps:List ai.D} {k:Nat} {x y:ai.D} (hx:ps[k]?=some x) (he:y.1=x.1):(ps.set k y).map (fun (x:ai.D)=>x.1)=ps.map (fun (x:ai.D)=>x.1):=by
 simp only [List.map_set,he]
 exact td (by rw [List.getElem?_map,hx];rfl)
theorem Rm (x:ai.D) (v:ae.D) (c:Int):(fh x v c).1=x.1:=by
 unfold fh
 cases (v.2.2.2.2.2.1 == 2) <;> rfl
theorem Rn {s t:ac.D} {v:ae.D} {y:ac.D×(aq.D×Unit)} (h:OS s t v y):ids y.1=ids t∧iz y.1 t∧y.1.2.2=t.2.2:=by
 rcases h with ⟨_,b2,b4,r,hr,rfl⟩ | ⟨_,r,hr,hy⟩ | ⟨_,_,r,hr,rfl⟩
 ·rcases hr with ⟨_,h,_⟩ | ⟨_,h0,_,_,⟨_,h1,j,x,_,_,h2⟩ | ⟨_,i,x,_,hx,_,h1,h2⟩⟩
  ·simp only [h];exact ⟨by trivial,⟨by trivial,by trivial⟩,by trivial⟩
  ·exact ⟨by unfold ids;simp only [h1],⟨by simp only [h1],by have:=OO h2;simp only [this];simp⟩,h0⟩
  ·exact ⟨by unfold ids;simp only [h1];exact Hx hx rfl,⟨by simp only [h1];simp,OO h2⟩,h0⟩
 ·rcases hy with ⟨_,rfl⟩ | ⟨hb,k,x,_,_,rfl⟩
  ·exact ⟨by trivial,⟨by trivial,by trivial⟩,by trivial⟩
  ·rcases hr with ⟨q1,_⟩ | ⟨_,_,_,_,k,x,_,q6,_,_,q9⟩
   ·rw [q1] at hb;cases hb
   ·simp only [q9]
    exact ⟨Hx q6 (Rm _ _ _),⟨by simp,by trivial⟩,by trivial⟩
 ·rcases hr with ⟨_,h⟩ | ⟨_,_,_,⟨j,x,⟨_,_,_⟩,⟨_,h⟩ | ⟨_,h⟩⟩ | ⟨i,x,⟨_,hx,_⟩,⟨_,h⟩ | ⟨_,h⟩⟩⟩
  ·simp only [h];exact ⟨by trivial,⟨by trivial,by trivial⟩,by trivial⟩
  ·simp only [h];exact ⟨by trivial,⟨by trivial,by simp⟩,by trivial⟩
  ·simp only [h];exact ⟨by trivial,⟨by trivial,by simp⟩,by trivial⟩
  ·simp only [h];exact ⟨Hx hx rfl,⟨by simp,by trivial⟩,by trivial⟩
  ·simp only [h];exact ⟨Hx hx rfl,⟨by simp,by trivial⟩,by trivial⟩
noncomputable def Eb (s t:ac.D) (v:ae.D):ac.D×(aq.D×Unit):=((dH t s v).map (fun y=>y.1)).getD (t,(0,(0,0,0,0,0,0,false,()),0,0,Ea,()),())
theorem zP (s t:ac.D) (v:ae.D) (hs:s.1.length≤33554432) (ht:t.1.length≤33554432) (ht2:t.2.1.length≤33554432) (hid:ids t=ids s) :
  dH t s v=some (Eb s t v,())∧(v.1≠2→oA s t v=some (Eb s t v))∧(v.1=2→∃ r,oB t v=some r∧((r.2.1=false∧Eb s t v=(t,(4,v,0,0,Ea,()),()))∨(r.2.1=true∧∃ (k:Nat) (x:ai.D),dK s v.2.2.1=k∧s.1[k]?=some x∧Eb s t v=(r.1,(3,v,0,0,x,()),()))))∧OS s t v (Eb s t v):=by
 obtain ⟨y,h1,h2,h3,h4⟩:=P6 s t v hs ht ht2 hid
 have e:Eb s t v=y:=by unfold Eb;rw [h1];rfl
 rw [e]
 exact ⟨h1,h2,h3,h4⟩
noncomputable def ku (s:ac.D) (q:List aq.D×ac.D) (v:ae.D):List aq.D×ac.D:=(q.1++[(Eb s q.2 v).2.1],(Eb s q.2 v).1)
def nr (es:List ae.D):List ae.D:=es.filter (fun v=>v.1 != 2)
def qK (es:List ae.D):List ae.D:=es.filter (fun v=>v.1 == 2)
noncomputable def le (s:ac.D) (es:List ae.D):List aq.D×ac.D:=(nr es++qK es).foldl (ku s) ([],s)
def CI (s:ac.D) (q:List aq.D×ac.D):Prop:=ids q.2=ids s∧iz q.2 s∧q.2.2.2=s.2.2
theorem CI.step {s:ac.D} {q:List aq.D×ac.D} (h:CI s q) (v:ae.D) (hs:s.1.length≤33554432) (hs2:s.2.1.length≤33554432):CI s (ku s q v):=by
 obtain ⟨h1,h2,h3⟩:=h
 obtain ⟨k1,k2,k3⟩:=Rn (zP s q.2 v hs (by rw [h2.1];exact hs) (by rw [h2.2];exact hs2) h1).2.2.2
 exact ⟨k1.trans h1,⟨k2.1.trans h2.1,k2.2.trans h2.2⟩,k3.trans h3⟩
theorem FE (es:List ae.D):(nr es).length + (qK es).length=es.length:=by
 have:=rF (fun v:ae.D=>v.1 == 2) es
 unfold nr qK bne
 omega
theorem Jx (s:ac.D) (es:List ae.D) (hp:s.1.length≤33554432) (hs:s.2.1.length≤33554432) (he:es.length≤33554432) :
  uv s es=some (if aT s then ((le s es).2,(le s es).1,()) else (s,[],()))∧((le s es).1.length=es.length∧CI s (le s es)):=by
 have hom:=FE es
 have hlm:(nr es++qK es).length=es.length:=by rw [List.length_append];exact hom
 have key:=Cy (nr es++qK es) (body:=mY s (nr es,()) (qK es,())) (fun (q:List aq.D×ac.D) i=>(q.1,i,q.2)) (fun q _ v=>ku s q v) (fun i q=>q.1.length=i∧CI s q) (fun x=>x) ([],s) ⟨rfl,rfl,⟨rfl,rfl⟩,rfl⟩ (by omega) (fun q i v hI hx=>?_) (fun q hI=>?_)
 ·obtain ⟨k1,k2,k3⟩:=key
  rw [rG (ku s)] at k1 k2 k3
  refine ⟨?_,by rw [← hlm];exact k2,k3⟩
  unfold uv
  rw [gb s hp hs,Option.bind_some,dP s hp hs,Option.bind_some]
  cases hso:aT s
  ·rfl
  ·simp only [Bool.not_true,cond_false,if_true]
   unfold bq
   rw [if_pos (by simp only [aG,List.length_nil];omega)]
   simp only [Option.bind_some,List.nil_append]
   rw [oW es he (fun v=>v.1 == 2) _ (fun x=>rfl),Option.bind_some,oW es he (fun v=>v.1 != 2) _ (fun x=>rfl),Option.bind_some]
   have e1:(es.filter fun v=>!(v.1 == 2))=nr es:=rfl
   have e2:(es.filter fun v=>!(v.1 != 2))=qK es:=by
    unfold qK bne
    simp only [Bool.not_not]
   rw [e1,e2,if_pos (by simp only [aG];omega)]
   rw [show (([],0,s):List aq.D×(Int×ac.D))=((([],s):List aq.D×ac.D).1,0,(([],s):List aq.D×ac.D).2) from rfl,k1]
   rfl
 ·obtain ⟨h1,h2⟩:=hI
  have hlt:=(List.getElem?_eq_some_iff.1 hx).1
  refine ⟨?_,by unfold ku;simp only [List.length_append,List.length_cons,List.length_nil];omega,h2.step v hp hs⟩
  obtain ⟨g1,g2,g3⟩:=h2
  have:=(zP s q.2 v hp (by rw [g2.1];exact hp) (by rw [g2.2];exact hs) g1).1
  have hil:((i:Int) < ((nr es++qK es).length:Int)):=by omega
  unfold mY
  simp only [hil,decide_true,cond_true,aJ hx,Int.toNat_natCast,hx,Option.bind_some,this]
  rw [if_pos (by simp only [aG,List.length_cons,List.length_nil];omega)]
  rfl
 ·unfold mY
  simp
theorem Jy (s:ac.D) (es:List ae.D) (hp:s.1.length≤33554432) (hs:s.2.1.length≤33554432) (he:es.length≤33554432) :
  ui s es=some (if aT s then ((le s es).2,(le s es).1,()) else (s,[],())):=by
 have k1:=Cy es (body:=mG s es) (fun (q:List aq.D×ac.D) i=>(q.1,i,q.2)) (fun q _ v=>if (v.1 != 2)=true then ku s q v else q) (fun i q=>q.1.length≤i∧CI s q) (fun x=>x) ([],s) ⟨Nat.le_refl _,rfl,⟨rfl,rfl⟩,rfl⟩ (by omega) (fun q i v hI hx=>?_) (fun q hI=>?_)
 ·obtain ⟨k1,k2,k3⟩:=k1
  rw [rG (fun q v=>if (v.1 != 2)=true then ku s q v else q),← List.foldl_filter] at k1 k2 k3
  have k4:=Cy es (body:=mH s es) (fun (q:List aq.D×ac.D) i=>(q.1,i,q.2)) (fun q _ v=>if (v.1 == 2)=true then ku s q v else q) (fun i q=>q.1.length≤es.length + i∧CI s q) (fun x=>x) _ ⟨k2,k3⟩ (by omega) (fun q i v hI hx=>?_) (fun q hI=>?_)
  ·obtain ⟨k4,_⟩:=k4
   rw [rG (fun q v=>if (v.1 == 2)=true then ku s q v else q),← List.foldl_filter,← List.foldl_append] at k4
   unfold ui
   rw [gc s hp hs,Option.bind_some,dO s hp hs,Option.bind_some]
   cases hso:aT s
   ·rfl
   ·simp only [Bool.not_true,cond_false,if_true]
    rw [show (([],0,s):List aq.D×(Int×ac.D))=((([],s):List aq.D×ac.D).1,0,(([],s):List aq.D×ac.D).2) from rfl,k1,Option.bind_some]
    simp only
    rw [k4]
    rfl
  ·obtain ⟨h1,h2⟩:=hI
   have hlt:=(List.getElem?_eq_some_iff.1 hx).1
   have hil:((i:Int) < (es.length:Int)):=by omega
   have hst:=h2.step v hp hs
   obtain ⟨g1,g2,g3⟩:=h2
   have hpf:=(zP s q.2 v hp (by rw [g2.1];exact hp) (by rw [g2.2];exact hs) g1).2.2.1
   unfold mH
   simp only [hil,decide_true,cond_true,aJ hx]
   by_cases h2':v.1=2
   ·have e2:(v.1 == 2)=true:=by rw [h2'];rfl
    have e3:(v.1 != 2)=false:=by unfold bne;rw [e2];rfl
    simp only [e2,e3,cond_false,if_true]
    refine ⟨?_,by unfold ku;simp only [List.length_append,List.length_cons,List.length_nil];omega,hst⟩
    obtain ⟨r,p1,⟨p2,p3⟩ | ⟨p2,k,x,p3,p4,p5⟩⟩:=hpf h2'
    ·simp only [p1,Option.bind_some,p2,Bool.not_false,cond_true]
     rw [if_pos (by simp only [aG,List.length_cons,List.length_nil];omega)]
     unfold ku
     rw [p3]
     rfl
    ·simp only [p1,Option.bind_some,p2,Bool.not_true,cond_false,eV s _ hp,p3,aJ p4]
     rw [if_pos (by simp only [aG,List.length_cons,List.length_nil];omega)]
     unfold ku
     rw [p5]
     rfl
   ·have e2:(v.1 == 2)=false:=by rw [beq_eq_false_iff_ne];exact h2'
    have e3:(v.1 != 2)=true:=by unfold bne;rw [e2];rfl
    simp only [e2,e3,cond_true,Option.bind_some]
    exact ⟨rfl,by simp only [Bool.false_eq_true,if_false];omega,by simp only [Bool.false_eq_true,if_false];exact ⟨g1,g2,g3⟩⟩
  ·unfold mH
   simp
 ·obtain ⟨h1,h2⟩:=hI
  have hlt:=(List.getElem?_eq_some_iff.1 hx).1
  have hil:((i:Int) < (es.length:Int)):=by omega
  have hst:=h2.step v hp hs
  obtain ⟨g1,g2,g3⟩:=h2
  have hpf:=(zP s q.2 v hp (by rw [g2.1];exact hp) (by rw [g2.2];exact hs) g1).2.1
  unfold mG
  simp only [hil,decide_true,cond_true,aJ hx]
  by_cases h2':v.1=2
  ·have e2:(v.1 == 2)=true:=by rw [h2'];rfl
   have e3:(v.1 != 2)=false:=by unfold bne;rw [e2];rfl
   simp only [e3,cond_false,Option.bind_some]
   exact ⟨rfl,by simp only [Bool.false_eq_true,if_false];omega,by simp only [Bool.false_eq_true,if_false];exact ⟨g1,g2,g3⟩⟩
  ·have e2:(v.1 == 2)=false:=by rw [beq_eq_false_iff_ne];exact h2'
   have e3:(v.1 != 2)=true:=by unfold bne;rw [e2];rfl
   simp only [e3,cond_true,if_true,hpf h2',Option.bind_some]
   refine ⟨?_,by unfold ku;simp only [List.length_append,List.length_cons,List.length_nil];omega,hst⟩
   rw [if_pos (by simp only [aG,List.length_cons,List.length_nil];omega)]
   rfl
 ·unfold mG
  simp
def zQ (x:aq.D):Bool:=(x.1 == 6) || ((x.1 == 3) && ((x.2.2.2.2.1.2.2.2.1 == 2) && (x.2.1.2.2.2.2.2.1 != 2)))
theorem Nc (x:aq.D):An x=some (zQ x):=by
 unfold An zQ
 cases (x.1 == 6) <;> cases (x.1 == 3) <;> cases (x.2.2.2.2.1.2.2.2.1 == 2) <;> rfl
theorem Nd (x:aq.D):rk x=some (zQ x):=by
 unfold rk zQ
 cases (x.1 == 6) <;> cases (x.1 == 3) <;> cases (x.2.2.2.2.1.2.2.2.1 == 2) <;> rfl
def ej (p:ai.D) (t:Int):Bool:=(aP p t).getD false
theorem v7 (p:ai.D) (t:Int):aP p t=some (ej p t):=by
 obtain ⟨b,h⟩:=kt p t
 rw [lW] at h
 unfold ej
 rw [h];rfl
theorem FF (p:ai.D) (t:Int):cC p t=some (ej p t):=by rw [lW,v7]
noncomputable def uB (s:ac.D) (_:Nat) (x:aq.D):List ah.D :=
 bif zQ x && ej x.2.2.2.2.1 16 then [(1,x.2.2.2.2.1.2.2.1,0,x.2.2.2.2)]
 else bif (x.1 == 1) && (decide (x.2.2.1≥1) && ej (iQ s x.2.1) 32) then [(2,(iQ s x.2.1).2.2.1,x.2.2.1,iQ s x.2.1,())] else []
theorem Au (s:ac.D) (i:Nat) (x:aq.D):(uB s i x).length≤1:=by
 unfold uB
 cases (zQ x && ej x.2.2.2.2.1 16) <;> cases ((x.1 == 1) && (decide (x.2.2.1≥1) && ej (iQ s x.2.1) 32)) <;> simp
theorem SW (x:aq.D) (h:zQ x=true):(x.1 == 1)=false:=by
 unfold zQ at h
 rw [beq_eq_false_iff_ne]
 intro e
 rw [e] at h
 simp at h
theorem Ed (s:ac.D) (xs:List aq.D) (hs:s.1.length≤33554432) (h:xs.length≤33554432):vW s xs=some (bv (uB s) 0 xs):=by
 unfold vW
 rw [cM xs (uB s) (fun s=>s) (Au s) (by omega) (fun t i x hI hx=>?_) (fun t=>?_)]
 ·rfl
 ·have hlt:=(List.getElem?_eq_some_iff.1 hx).1
  have hil:((i:Int) < (xs.length:Int)):=by omega
  unfold wX uB
  simp only [hil,decide_true,cond_true,aJ hx,Nc,v7,th s _ hs,Option.bind_some]
  have hr:∀ (y:ah.D),(t.length + ([y]:List ah.D).length) * (24 * 16)≤aG:=fun y=>by simp only [aG,List.length_cons,List.length_nil];omega
  simp only [hr,if_true]
  cases zQ x <;> cases ej x.2.2.2.2.1 16 <;> cases (x.1 == 1) <;> cases decide (x.2.2.1≥1) <;> cases ej (iQ s x.2.1) 32 <;> simp
 ·unfold wX;simp
theorem Ee (s:ac.D) (xs:List aq.D) (hs:s.1.length≤33554432) (h:xs.length≤33554432):vI s xs=some (bv (uB s) 0 xs):=by
 unfold vI
 rw [cM xs (uB s) (fun s=>s) (Au s) (by omega) (fun t i x hI hx=>?_) (fun t=>?_)]
 ·rfl
 ·have hlt:=(List.getElem?_eq_some_iff.1 hx).1
  have hil:((i:Int) < (xs.length:Int)):=by omega
  unfold wE uB
  simp only [hil,decide_true,cond_true,aJ hx,Nd,FF,tj s _ hs,Option.bind_some]
  have hr:∀ (y:ah.D),(t.length + ([y]:List ah.D).length) * (24 * 16)≤aG:=fun y=>by simp only [aG,List.length_cons,List.length_nil];omega
  simp only [hr,if_true]
  have h1:=SW x
  cases hl:zQ x
  ·simp only [cond_false,Option.bind_some,hr,if_true,Bool.false_and]
   cases (x.1 == 1) <;> cases decide (x.2.2.1≥1) <;> cases ej (iQ s x.2.1) 32 <;> simp only [cond_true,cond_false,Option.bind_some,hr,if_true,Bool.and_true,Bool.and_false,Bool.false_and,List.append_nil]
  ·rw [h1 hl]
   cases ej x.2.2.2.2.1 16 <;> simp
 ·unfold wE;simp
theorem OT (n:Int):dB n=cz n:=by
 unfold dB cz
 simp only [cond_eq_ite,decide_eq_true_eq]
 split <;> split <;> (try split) <;> (try split) <;> first | rfl | (congr 1;omega) | omega
theorem TH (a b:Int):eL a b=bn a b:=by unfold eL bn;simp only [OT]
theorem TJ (a b:Int):jw a b=gQ a b:=by unfold jw gQ;simp only [OT]
theorem SX (p:ai.D):rj p=io p:=by unfold rj io;simp only [TH,TJ]
theorem P7 (p:ai.D):∃ m,io p=some m:=by simp [io,bn,gQ,cz]
theorem FG (p:ai.D):∃ b,pQ p=some b∧lT p=some b∧(b=true→(p.2.2.2.1 == 2)=true):=by
 unfold pQ lT
 obtain ⟨m,hm⟩:=P7 p
 obtain ⟨b,hb⟩:=kt p 8
 simp only [SX,hm,← lW,hb,Option.bind_some]
 unfold bne
 cases h:p.2.2.2.1 == 2 <;> simp only [Bool.not_true,Bool.not_false,cond_true,cond_false]
 ·exact ⟨_,rfl,rfl,by simp⟩
 ·cases decide (m≤0) <;> cases b <;> cases p.2.2.2.2.2.2.2.2.2.2.2.1 <;> exact ⟨_,rfl,rfl,by simp⟩
def jH (p:ai.D):Bool:=(lT p).getD false
theorem Jz (p:ai.D):lT p=some (jH p):=by
 obtain ⟨b,_,h,_⟩:=FG p
 unfold jH
 rw [h];rfl
theorem JA (p:ai.D):pQ p=some (jH p):=by
 obtain ⟨b,h1,h,_⟩:=FG p
 unfold jH
 rw [h,h1];rfl
theorem OU (p:ai.D) (h:jH p=true):(p.2.2.2.1 == 2)=true:=by
 obtain ⟨b,_,h2,h3⟩:=FG p
 unfold jH at h
 rw [h2] at h
 exact h3 h
theorem Ef {α β T R:Type} (xs:List α) (f:α→α) (g:Nat→α→List β) (mk:List β→List α→Int→T) (r:T→R) {body:T→Option (T⊕R)} (n0:List β) (hg:∀ i x,(g i x).length≤1) (hlen:xs.length≤33554432)
  (hb:∀ (ns:List β) (ys:List α) (i:Nat) x,ns.length≤n0.length + i→i < 33554432→ys.length=xs.length→xs[i]?=some x→ys[i]?=some x→body (mk ns ys (i:Int))=some (.inl (mk (ns++g i x) (ys.set i (f x)) (IntKind.wrap .i64 ((i:Int) + 1)))))
  (he:∀ (ns:List β) (ys:List α),body (mk ns ys (xs.length:Int))=some (.inr (r (mk ns ys (xs.length:Int))))) :
  aw body (mk n0 xs 0)=some (r (mk (n0++bv g 0 xs) (xs.map f) (xs.length:Int))):=by
 have main:∀ (l p q:List α) (ns:List β),xs=p++l→q.length=p.length→ns.length≤n0.length + p.length→aw body (mk ns (q++l) (p.length:Int))=some (r (mk (ns++bv g p.length l) (q++l.map f) (xs.length:Int))):=by
  intro l
  induction l with
  | nil =>
   intro p q ns e hq hn
   refine bb ?_
   have:p.length=xs.length:=by rw [e];simp
   rw [this,he]
   simp [bv]
  | cons x l ih =>
   intro p q ns e hq hn
   have hlt:p.length < xs.length:=by rw [e];simp
   have hx:xs[p.length]?=some x:=by rw [e];simp
   have hy:(q++x :: l)[p.length]?=some x:=by rw [← hq];simp
   have h1:=hb ns (q++x :: l) p.length x hn (by omega) (by rw [e];simp [hq]) hx hy
   rw [aD (by omega) (by omega)] at h1
   have h2:=ih (p++[x]) (q++[f x]) (ns++g p.length x) (by rw [e];simp) (by simp [hq]) (by have:=hg p.length x;simp only [List.length_append,List.length_cons,List.length_nil];omega)
   refine aS h1 ?_
   have e1:(q++x :: l).set p.length (f x)=q++[f x]++l:=by rw [← hq];simp
   rw [e1]
   have e2:((p++[x]).length:Int)=(p.length:Int) + 1:=by simp
   rw [e2] at h2
   rw [h2]
   simp [bv,List.append_assoc]
 have:=main xs [] [] n0 rfl rfl (by simp)
 simpa using this
def zR (x:ay.D):Bool:=!x.2.2.1 && (decide (x.1≤0) || decide (x.2.1≥10))
def v8 (x:ay.D):ay.D:=bif zR x then (x.1,x.2.1,true,()) else x
def uC (i:Nat) (x:ay.D):List aq.D:=bif zR x then [(5,(0,0,0,0,0,0,false,()),0,(i:Int),(0,0,0,0,0,0,0,0,0,0,0,false,false,()),())] else []
def xO (p:ai.D):Int:=if p.2.2.2.2.2.2.2.2.2.1 < p.2.2.2.2.2.2.2.2.1 then p.2.2.2.2.2.2.2.2.2.1 else p.2.2.2.2.2.2.2.2.1
def rH (p:ai.D):Bool:=(p.2.2.2.1 == 2) && decide (xO p > 0)
def nu (c:Int) (p:ai.D):ai.D :=
 bif jH p then (p.1,p.2.1,p.2.1,3,c,p.2.2.2.2.2.1,p.2.2.2.2.2.2.1,p.2.2.2.2.2.2.2.1,0,0,0,false,false,())
 else bif rH p then (p.1,p.2.1,p.2.2.1,p.2.2.2.1,p.2.2.2.2.1,p.2.2.2.2.2.1,p.2.2.2.2.2.2.1,p.2.2.2.2.2.2.2.1,IntKind.wrap .i64 (p.2.2.2.2.2.2.2.2.1 - xO p),IntKind.wrap .i64 (p.2.2.2.2.2.2.2.2.2.1 - xO p),p.2.2.2.2.2.2.2.2.2.2)
 else p
def xP (_:Nat) (p:ai.D):List aq.D :=
 bif jH p then [(6,(0,0,0,0,0,0,false,()),0,0,p,())] else bif rH p then [(7,(0,0,0,0,0,0,false,()),xO p,0,p,())] else []
theorem Av (i:Nat) (x:ay.D):(uC i x).length≤1:=by unfold uC;cases zR x <;> simp
theorem LH (i:Nat) (x:ai.D):(xP i x).length≤1:=by unfold xP;cases jH x <;> cases rH x <;> simp
theorem K0 (a b:Int):∃ m,fx a b=some m∧(if (if b < a then b else a) > 0 then m=(if b < a then b else a) else ¬ m > 0):=by
 unfold fx
 simp only [cond_eq_ite,decide_eq_true_eq]
 split <;> simp only [Option.bind_some] <;> split <;> refine ⟨_,rfl,?_⟩ <;> split <;> omega
theorem Ro (s:ac.D) (hs:s.2.1.length≤33554432):aw (kg s) ([],0,s)=some (bv uC 0 s.2.1,(s.2.1.length:Int),(s.1,s.2.1.map v8,s.2.2)):=by
 have:=Ef s.2.1 v8 uC (fun ns ys i=>(ns,i,(s.1,ys,s.2.2))) (fun t=>t) (body:=kg s) [] Av hs (fun ns ys i x hn hi hl hx hy=>?_) (fun ns ys=>?_)
 ·simpa using this
 ·have hlt:=(List.getElem?_eq_some_iff.1 hx).1
  have hil:((i:Int) < (s.2.1.length:Int)):=by omega
  unfold kg v8 uC zR
  simp only [hil,decide_true,cond_true,aJ hx,Int.toNat_natCast,aJ hy,hy,Option.bind_some]
  rw [if_pos (by simp only [aG,List.length_cons,List.length_nil] at *;omega)]
  have:=td hy
  cases x.2.2.1 <;> cases decide (x.1≤0) <;> cases decide (x.2.1≥10) <;> simp [this]
 ·unfold kg;simp
theorem P8 (s:ac.D) (hs:s.2.1.length≤33554432):aw (ka s) ([],0,s)=some (bv uC 0 s.2.1,(s.2.1.length:Int),(s.1,s.2.1.map v8,s.2.2)):=by
 have:=Ef s.2.1 v8 uC (fun ns ys i=>(ns,i,(s.1,ys,s.2.2))) (fun t=>t) (body:=ka s) [] Av hs (fun ns ys i x hn hi hl hx hy=>?_) (fun ns ys=>?_)
 ·simpa using this
 ·have hlt:=(List.getElem?_eq_some_iff.1 hx).1
  have hil:((i:Int) < (s.2.1.length:Int)):=by omega
  unfold ka v8 uC zR
  simp only [hil,decide_true,cond_true,aJ hx,Int.toNat_natCast,aJ hy,hy,Option.bind_some]
  rw [if_pos (by simp only [aG,List.length_cons,List.length_nil] at *;omega)]
  have:=td hy
  cases x.2.2.1 <;> cases decide (x.1≤0) <;> cases decide (x.2.1≥10) <;> simp [this]
 ·unfold ka;simp
theorem P9 (s:ac.D) (n0:List aq.D) (t:(List ay.D)×(Int×(Int×Unit))) (hn0:n0.length≤33554432) (hp:s.1.length≤33554432) :
  aw (ki s) (n0,0,(s.1,t))=some (n0++bv xP 0 s.1,(s.1.length:Int),(s.1.map (nu s.2.2.2.1),t)):=by
 refine Ef s.1 (nu s.2.2.2.1) xP (fun ns ys i=>(ns,i,(ys,t))) (fun t=>t) (body:=ki s) n0 LH hp (fun ns ys i x hn hi hl hx hy=>?_) (fun ns ys=>?_)
 ·have hlt:=(List.getElem?_eq_some_iff.1 hx).1
  have hil:((i:Int) < (s.1.length:Int)):=by omega
  have hly:i < ys.length:=by omega
  have hm:∀ a b,sU x a b=some (x.1,x.2.1,x.2.1,a,b,x.2.2.2.2.2.1,x.2.2.2.2.2.2.1,x.2.2.2.2.2.2.2.1,0,0,0,false,false,()):=fun a b=>rfl
  have hself:=td hy
  unfold ki nu xP
  simp only [hil,decide_true,cond_true,aJ hx,Jz,Option.bind_some,Int.toNat_natCast,aJ hy,hy,hm,Ah hly,tZ hly,List.set_set]
  cases jH x
  ·simp only [cond_false]
   change ((bif x.2.2.2.1 == 2 then some (decide (xO x > 0)) else some false).bind fun o17=>_)=_
   unfold rH
   cases (x.2.2.2.1 == 2) <;> cases decide (xO x > 0) <;> simp only [cond_true,cond_false,Option.bind_some,Bool.and_true,Bool.and_false,Bool.true_and,Bool.false_and,hself,List.append_nil]
   rw [if_pos (by simp only [aG,List.length_cons,List.length_nil] at *;omega)]
   rfl
  ·simp only [cond_true]
   rw [if_pos (by simp only [aG,List.length_cons,List.length_nil] at *;omega)]
 ·unfold ki;simp
theorem OV (s:ac.D) (n0:List aq.D) (t:(List ay.D)×(Int×(Int×Unit))) (hn0:n0.length≤33554432) (hp:s.1.length≤33554432) :
  aw (kb s) (n0,0,(s.1,t))=some (n0++bv xP 0 s.1,(s.1.length:Int),(s.1.map (nu s.2.2.2.1),t)):=by
 refine Ef s.1 (nu s.2.2.2.1) xP (fun ns ys i=>(ns,i,(ys,t))) (fun t=>t) (body:=kb s) n0 LH hp (fun ns ys i x hn hi hl hx hy=>?_) (fun ns ys=>?_)
 ·have hlt:=(List.getElem?_eq_some_iff.1 hx).1
  have hil:((i:Int) < (s.1.length:Int)):=by omega
  have hly:i < ys.length:=by omega
  have hm:∀ a b,sD x a b=some (x.1,x.2.1,x.2.1,a,b,x.2.2.2.2.2.1,x.2.2.2.2.2.2.1,x.2.2.2.2.2.2.2.1,0,0,0,false,false,()):=fun a b=>rfl
  have hself:=td hy
  obtain ⟨m,hm1,hm2⟩:=K0 x.2.2.2.2.2.2.2.2.1 x.2.2.2.2.2.2.2.2.2.1
  change (if xO x > 0 then m=xO x else ¬ m > 0) at hm2
  unfold kb nu xP
  simp only [hil,decide_true,cond_true,aJ hx,JA,Option.bind_some,Int.toNat_natCast,aJ hy,hy,hm,hm1,Ah hly,tZ hly,List.set_set]
  cases jH x
  ·simp only [cond_false]
   unfold rH
   by_cases hpos:xO x > 0
   ·rw [if_pos hpos] at hm2
    subst hm2
    rw [decide_eq_true hpos]
    cases (x.2.2.2.1 == 2) <;> simp only [cond_true,cond_false,Option.bind_some,Bool.and_true,Bool.and_false,Bool.true_and,Bool.false_and,hself,List.append_nil]
    rw [if_pos (by simp only [aG,List.length_cons,List.length_nil] at *;omega)]
    rfl
   ·rw [if_neg hpos] at hm2
    rw [decide_eq_false hpos,decide_eq_false hm2]
    cases (x.2.2.2.1 == 2) <;> simp only [cond_true,cond_false,Option.bind_some,Bool.and_true,Bool.and_false,Bool.true_and,Bool.false_and,hself,List.append_nil]
  ·simp only [cond_true]
   rw [if_pos (by simp only [aG,List.length_cons,List.length_nil] at *;omega)]
   rfl
 ·unfold kb;simp
def dv (s:ac.D):ac.D×((List aq.D)×Unit) :=
 if aT s then ((s.1.map (nu s.2.2.2.1),s.2.1.map v8,s.2.2),bv uC 0 s.2.1++bv xP 0 s.1,()) else (s,[],())
theorem gp (s:ac.D) (hp:s.1.length≤33554432) (hs:s.2.1.length≤33554432):sV s=some (dv s):=by
 unfold sV dv
 simp only [gb s hp hs,dP s hp hs,Option.bind_some]
 cases aT s
 ·rfl
 ·simp only [Bool.not_true,cond_false,if_true,Ro s hs,Option.bind_some]
  rw [P9 s _ _ (by have:=lG uC Av s.2.1 0;omega) hp]
  rfl
theorem K1 (s:ac.D) (hp:s.1.length≤33554432) (hs:s.2.1.length≤33554432):wD s=some (dv s):=by
 unfold wD dv
 simp only [gc s hp hs,dO s hp hs,Option.bind_some]
 cases aT s
 ·rfl
 ·simp only [Bool.not_true,cond_false,if_true,P8 s hs,Option.bind_some]
  rw [OV s _ _ (by have:=lG uC Av s.2.1 0;omega) hp]
  rfl
theorem Cz (s:ac.D):iz (dv s).1 s:=by
 unfold dv iz
 split <;> simp
def wS (x:ay.D):Nat:=bif x.2.2.1 then 0 else 1
def wP (p:ai.D):Nat:=bif p.2.2.2.1 == 2 then (if xO p > 0 then 2 else 1) else 0
def tp (s:ac.D):Nat:=(s.2.1.map wS).sum + (s.1.map wP).sum
theorem TL (i:Nat) (x:ay.D):(uC i x).length + wS (v8 x)≤wS x:=by
 unfold uC v8
 cases h:zR x
 ·simp
 ·have:x.2.2.1=false:=by unfold zR at h;cases hx:x.2.2.1 <;> simp [hx] at h ⊢
  simp [wS,this]
theorem Rp (a b:Int):(if IntKind.wrap .i64 (b - (if b < a then b else a)) < IntKind.wrap .i64 (a - (if b < a then b else a)) then IntKind.wrap .i64 (b - (if b < a then b else a)) else IntKind.wrap .i64 (a - (if b < a then b else a)))≤0:=by
 have h0:IntKind.wrap .i64 0=0:=by decide
 by_cases h:b < a
 ·rw [if_pos h,Int.sub_self,h0];split <;> omega
 ·rw [if_neg h,Int.sub_self,h0];split <;> omega
theorem TM (c:Int) (i:Nat) (p:ai.D):(xP i p).length + wP (nu c p)≤wP p:=by
 unfold xP nu
 cases h:jH p
 ·cases h2:rH p
  ·simp
  ·unfold rH at h2
   rw [Bool.and_eq_true,decide_eq_true_eq] at h2
   have e1:wP p=2:=by unfold wP;rw [h2.1];simp only [cond_true];rw [if_pos h2.2]
   rw [e1]
   simp only [cond_true,cond_false,List.length_cons,List.length_nil]
   have:=Rp p.2.2.2.2.2.2.2.2.1 p.2.2.2.2.2.2.2.2.2.1
   unfold wP
   simp only [h2.1,cond_true]
   rw [if_neg]
   ·omega
   ·unfold xO;simp only;unfold xO at *;omega
 ·have hz:=OU p h
  simp only [cond_true,List.length_cons,List.length_nil]
  unfold wP
  rw [hz]
  simp only [cond_true]
  have:((3:Int) == 2)=false:=rfl
  simp only [this,cond_false]
  split <;> omega
theorem tq {α β:Type} (g:Nat→α→List β) (f:α→α) (w:α→Nat) (h:∀ i x,(g i x).length + w (f x)≤w x):∀ (xs:List α) (i:Nat),(bv g i xs).length + ((xs.map f).map w).sum≤(xs.map w).sum
 | [],_=>by simp [bv]
 | x :: xs,i=>by
  have h1:=tq g f w h xs (i + 1)
  have h2:=h i x
  simp only [bv,List.length_append,List.map_cons,List.sum_cons]
  omega
theorem Eg (s:ac.D):(dv s).2.1.length + tp (dv s).1≤tp s:=by
 unfold dv
 split
 ·have h1:=tq uC v8 wS TL s.2.1 0
  have h2:=tq xP (nu s.2.2.2.1) wP (TM _) s.1 0
  simp only [tp,List.length_append]
  omega
 ·simp
theorem Qa {α:Type} (w:α→Nat) (k:Nat) (h:∀ x,w x≤k):∀ (xs:List α),(xs.map w).sum≤k * xs.length
 | []=>by simp
 | x :: xs=>by have h1:=Qa w k h xs;have h2:=h x;simp only [List.map_cons,List.sum_cons,List.length_cons,Nat.mul_add];omega
theorem LI (s:ac.D):tp s≤s.2.1.length + 2 * s.1.length:=by
 have h1:=Qa wS 1 (fun x=>by unfold wS;cases x.2.2.1 <;> simp) s.2.1
 have h2:=Qa wP 2 (fun p=>by unfold wP;cases p.2.2.2.1 == 2 <;> simp only [cond_true,cond_false] <;> (try split) <;> omega) s.1
 unfold tp
 omega
theorem px {s:ac.D} (h:aT s=true):s.1.length≤8∧s.2.1.length≤3:=by
 unfold aT at h
 simp only [Bool.and_eq_true] at h
 have h1:=of_decide_eq_true h.1.1.1.1.1
 have h2:=of_decide_eq_true h.1.1.1.1.2.2
 exact ⟨by omega,by omega⟩
theorem OW (s:ac.D) (hp:s.1.length≤33554432) (hs:s.2.1.length≤33554432) (u:ac.D) :
  ∃ r,aw bU ([],0,u,s)=some r∧iz r.2.2 s∧r.1.length≤33554432:=by
 cases hok:aT s with
 | false =>
  refine ⟨([],0,s),bb ?_,⟨rfl,rfl⟩,by simp⟩
  unfold bU
  simp only [gp s hp hs,Option.bind_some]
  have:(dv s).2.1=[]:=by unfold dv;rw [hok];rfl
  rw [this];rfl
 | true =>
  obtain ⟨l1,l2⟩:=px hok
  have hw:=LI s
  obtain ⟨r,h1,h2⟩:=rK (body:=bU) (fun t=>tp t.2.2.2) (fun t=>iz t.2.2.2 s∧t.1.length + tp t.2.2.2≤tp s) (fun r=>iz r.2.2 s∧r.1.length≤33554432) (by
   rintro ⟨all,n,u,t⟩ ⟨⟨z1,z2⟩,z3⟩
   simp only at z1 z2 z3
   have hr:=Eg t
   have hz:=Cz t
   unfold bU
   simp only [gp t (by omega) (by omega),Option.bind_some]
   by_cases hn:(dv t).2.1.length=0
   ·right
    have:(((dv t).2.1.length:Int) == 0)=true:=by rw [hn];rfl
    rw [this]
    exact ⟨_,rfl,⟨z1,z2⟩,by simp only;omega⟩
   ·left
    have:(((dv t).2.1.length:Int) == 0)=false:=by rw [beq_eq_false_iff_ne];omega
    rw [this]
    simp only [cond_false]
    rw [if_pos (by simp only [aG];omega)]
    refine ⟨_,rfl,⟨⟨hz.1.trans z1,hz.2.trans z2⟩,?_⟩,?_⟩
    ·simp only [List.length_append];omega
    ·simp only;omega) ([],0,u,s) ⟨⟨rfl,rfl⟩,by simp⟩
  exact ⟨r,h1,h2⟩
theorem OX (t:_) (hp:t.2.2.2.1.length≤33554432) (hs:t.2.2.2.2.1.length≤33554432):mI t=bU t:=by
 unfold mI bU
 rw [K1 _ hp hs,gp _ hp hs]
theorem Qb {S R:Type} {b1 b2:S→Option (S⊕R)} (I:S→Prop) (h:∀ s,I s→b1 s=b2 s) (hk:∀ s s',I s→b2 s=some (.inl s')→I s') {s:S} {r:R} (hI:I s) (hr:aw b2 s=some r):aw b1 s=some r:=by
 obtain ⟨n,hn⟩:=BR hr
 refine uO (n:=n) ?_
 clear hr
 induction n generalizing s with
 | zero=>simp [aw.iter] at hn
 | succ n ih =>
  simp only [aw.iter] at hn ⊢
  rw [h s hI]
  cases hb:b2 s with
  | none=>rw [hb] at hn;cases hn
  | some x =>
   rw [hb,Option.bind_some] at hn
   rw [Option.bind_some]
   cases x with
   | inl s'=>exact ih (hk s s' hI hb) hn
   | inr q=>exact hn
theorem Rq (s:ac.D) (hp:s.1.length≤33554432) (hs:s.2.1.length≤33554432):∃ r,pR s=some r∧lU s=some r∧iz r.1 s∧r.2.1.length≤33554432:=by
 obtain ⟨r,h1,h2,h3⟩:=OW s hp hs ([],[],0,0,())
 have h4:aw mI ([],0,([],[],0,0,()),s)=some r:=by
  refine Qb (b2:=bU) (fun t=>t.2.2.2.1.length≤33554432∧t.2.2.2.2.1.length≤33554432) (fun t h=>OX t h.1 h.2) ?_ ⟨hp,hs⟩ h1
  rintro ⟨all,n,u,t⟩ t' ⟨g1,g2⟩ hb
  simp only at g1 g2
  have hz:=Cz t
  unfold bU at hb
  simp only [gp t g1 g2,Option.bind_some] at hb
  cases hc:(((dv t).2.1.length:Int) == 0) with
  | true=>rw [hc] at hb;simp at hb
  | false =>
   rw [hc] at hb
   simp only [cond_false] at hb
   split at hb
   ·simp only [Option.some.injEq,Sum.inl.injEq] at hb
    subst hb
    exact ⟨by simp only;rw [hz.1];exact g1,by simp only;rw [hz.2];exact g2⟩
   ·cases hb
 refine ⟨(r.2.2,r.1,r.2.1,()),?_,?_,h2,h3⟩
 ·unfold pR
  simp only [gc s hp hs,Option.bind_some,h4]
 ·unfold lU
  simp only [gb s hp hs,Option.bind_some,h1]
def CA (a:Int) (_:Nat) (x:ai.D):List Int:=bif (x.2.2.2.1 == 2) && ((a == -1) || (x.2.2.1 == a)) then [x.1] else []
theorem Qc (a:Int) (i:Nat) (x:ai.D):(CA a i x).length≤1:=by unfold CA;cases ((x.2.2.2.1 == 2) && ((a == -1) || (x.2.2.1 == a))) <;> simp
theorem Hj (s:ac.D) (a:Int) (h:s.1.length≤33554432):rt s a=some (bv (CA a) 0 s.1):=by
 unfold rt
 rw [cM s.1 (CA a) (fun s=>s) (Qc a) (by omega) (fun t i x hI hx=>?_) (fun t=>?_)]
 ·rfl
 ·have hlt:=(List.getElem?_eq_some_iff.1 hx).1
  have hil:((i:Int) < (s.1.length:Int)):=by omega
  unfold qC CA
  simp only [hil,decide_true,cond_true,aJ hx]
  rw [if_pos (by simp only [aG,List.length_cons,List.length_nil];omega)]
  cases (x.2.2.2.1 == 2) <;> cases (a == -1) <;> cases (x.2.2.1 == a) <;> simp
 ·unfold qC;simp
def up (a b:Int):Int:=if (if b < a then b else a) > 0 then (if b < a then b else a) else 0
theorem nv (a b:Int):lR a b=some (up a b):=rfl
theorem jI (a b:Int) (hb:0≤b):fx a b=some (up a b):=by
 unfold fx up
 simp only [cond_eq_ite,decide_eq_true_eq]
 split <;> simp only [Option.bind_some] <;> (try split) <;> (try split) <;> (try split) <;> first | rfl | (congr 1;omega) | omega
theorem Eh {a:Int} (h0:0≤a) (h1:a≤2147483647):up a 2147483647=a:=by unfold up;split <;> (try split) <;> omega
theorem kv {v:ae.D} (h:aK v=true):0≤v.2.2.2.2.1∧v.2.2.2.2.1≤2147483647:=by
 unfold aK at h
 rw [Bool.and_eq_true,Bool.and_eq_true] at h
 exact ⟨of_decide_eq_true h.1.1,of_decide_eq_true h.1.2⟩
def tt (v:ae.D):Int:=if v.1=1 then up v.2.2.2.2.1 2147483647 else 0
theorem jn {α β:Type} (f:α→β):∀ (xs:List α) (i:Nat),bv (fun _ x=>[f x]) i xs=xs.map f
 | [],_=>rfl
 | x :: xs,i=>by simp only [bv,List.map_cons,jn f xs (i + 1)];rfl
theorem ce (xs:List aa.D) (h:okD (.slice aa) xs):ck xs=some xs:=by
 have hl:xs.length≤33554432:=h.1
 unfold ck
 rw [cM xs (fun _ x=>[x]) (fun s=>s) (fun _ _=>by simp) (by omega) (fun t i x hI hx=>?_) (fun t=>?_)]
 ·rw [Option.bind_some,jn];simp
 ·have hlt:=(List.getElem?_eq_some_iff.1 hx).1
  have hil:((i:Int) < (xs.length:Int)):=by omega
  have hle:=(h.2 x (List.mem_of_getElem? hx)).2.2.2.2.2.2.1.2.2.2.2.2.2.1.1
  unfold qx ew t5
  simp only [hil,decide_true,cond_true,aJ hx,List.nil_append]
  rw [if_pos (by simp only [aG,List.length_nil];omega)]
  simp only [Option.bind_some]
  rw [if_pos (by simp only [aG,List.length_cons,List.length_nil];omega)]
 ·unfold qx;simp
theorem dQ (xs:List aa.D) (h:okD (.slice aa) xs):b9 xs=some xs:=by
 have hl:xs.length≤33554432:=h.1
 unfold b9
 rw [cM xs (fun _ x=>[x]) (fun s=>s) (fun _ _=>by simp) (by omega) (fun t i x hI hx=>?_) (fun t=>?_)]
 ·rw [Option.bind_some,jn];simp
 ·have hlt:=(List.getElem?_eq_some_iff.1 hx).1
  have hil:((i:Int) < (xs.length:Int)):=by omega
  have hle:=(h.2 x (List.mem_of_getElem? hx)).2.2.2.2.2.2.1.2.2.2.2.2.2.1.1
  unfold mP db bq
  simp only [hil,decide_true,cond_true,aJ hx,List.nil_append]
  rw [if_pos (by simp only [aG,List.length_nil];omega)]
  simp only [Option.bind_some]
  rw [if_pos (by simp only [aG,List.length_cons,List.length_nil];omega)]
 ·unfold mP;simp
def JB (n:Int) (x:ae.D):ae.D:=bif (x.2.2.2.2.1 == (-1)) then (x.1,x.2.1,x.2.2.1,x.2.2.2.1,up n 2147483647,x.2.2.2.2.2) else x
theorem K2 (a:bM.D) (e:ae.D) (hk:a.1=9) (hl:a.2.2.2.2.2.2.1.length≤33554432):wR a e=some (a.2.2.2.2.2.2.1.map (JB e.2.2.2.2.1)):=by
 unfold wR
 have:(a.1 != 9)=false:=by rw [hk];rfl
 rw [this,cond_false]
 rw [cM a.2.2.2.2.2.2.1 (fun _ x=>[JB e.2.2.2.2.1 x]) (fun s=>s) (fun _ _=>by simp) (by omega) (fun t i x hI hx=>?_) (fun t=>?_)]
 ·rw [jn];rfl
 ·have hlt:=(List.getElem?_eq_some_iff.1 hx).1
  have hil:((i:Int) < (a.2.2.2.2.2.2.1.length:Int)):=by omega
  unfold uX JB
  simp only [hil,decide_true,cond_true,aJ hx,nv,Option.bind_some]
  cases (x.2.2.2.2.1 == -1)
  ·simp only [cond_false,Option.bind_some]
   rw [if_pos (by simp only [aG,List.length_cons,List.length_nil];omega)]
  ·simp only [cond_true,Option.bind_some]
   rw [if_pos (by simp only [aG,List.length_cons,List.length_nil];omega)]
 ·unfold uX;simp
theorem K3 (a:bM.D) (e:ae.D) (hk:a.1=9) (hl:a.2.2.2.2.2.2.1.length≤33554432):sA a e=some (a.2.2.2.2.2.2.1.map (JB e.2.2.2.2.1)):=by
 unfold sA
 rw [cM a.2.2.2.2.2.2.1 (fun _ x=>[JB e.2.2.2.2.1 x]) (fun s=>s) (fun _ _=>by simp) (by omega) (fun t i x hI hx=>?_) (fun t=>?_)]
 ·rw [jn];rfl
 ·have hlt:=(List.getElem?_eq_some_iff.1 hx).1
  have hil:((i:Int) < (a.2.2.2.2.2.2.1.length:Int)):=by omega
  have h9:(a.1 == 9)=true:=by rw [hk];rfl
  unfold uQ JB
  simp only [hil,decide_true,cond_true,h9,aJ hx,jI _ 2147483647 (by decide),Option.bind_some]
  cases (x.2.2.2.2.1 == -1)
  ·simp only [cond_false,Option.bind_some]
   rw [if_pos (by simp only [aG,List.length_cons,List.length_nil];omega)]
  ·simp only [cond_true,Option.bind_some]
   rw [if_pos (by simp only [aG,List.length_cons,List.length_nil];omega)]
 ·unfold uQ;simp
def Ei (e:ae.D):Bool:=(e.2.2.2.2.1 == 0) && (e.1 != 2)
theorem Ej (e:ae.D):vN e=some (Ei e):=by unfold vN Ei;cases (e.2.2.2.2.1 == 0) <;> rfl
theorem Ek (e:ae.D):vE e=some (Ei e):=by unfold vE Ei;cases (e.2.2.2.2.1 == 0) <;> rfl
def nx (e:ae.D):Bool:=aK e && !Ei e
theorem SY (L:List ae.D) (hl:L.length≤33554432):br L (fun q=>rA q.1)=some (L.filter nx,()):=by
 rw [oW L hl (fun e=>!nx e) _ (fun x=>by
  unfold rA nx
  simp only [bJ,Ej,Option.bind_some]
  cases aK x <;> cases Ei x <;> rfl)]
 simp only [Bool.not_not]
theorem SZ (o:(List ae.D)×Int) (hl:o.1.length≤33554432):aw (pj o) ([],0)=some (o.1.filter nx,(o.1.length:Int)):=by
 rw [cM o.1 (fun _ x=>if nx x then [x] else []) (fun s=>s) (fun _ x=>by split <;> simp) (by omega) (fun t i x hI hx=>?_) (fun t=>?_)]
 ·rw [i7]
 ·have hlt:=(List.getElem?_eq_some_iff.1 hx).1
  have hil:((i:Int) < (o.1.length:Int)):=by omega
  unfold pj nx
  simp only [hil,decide_true,cond_true,aJ hx,Int.toNat_natCast,hx,bQ,Ek,Option.bind_some]
  cases aK x <;> cases Ei x <;> simp only [cond_true,cond_false,Option.bind_some,Bool.not_true,Bool.not_false,Bool.and_true,Bool.and_false,Bool.false_and,Bool.true_and,if_true,if_false,List.append_nil,Bool.false_eq_true]
  rw [if_pos (by simp only [aG,List.length_cons,List.length_nil];omega)]
  rfl
 ·unfold pj;simp
theorem ir (x:aa.D) (hl:x.2.2.2.2.2.2.1.2.2.2.2.2.2.1.length≤33554432):db x=some x:=by
 unfold db bq
 rw [if_pos (by simp only [aG,List.length_nil];omega)]
 rfl
theorem fE (x:aa.D) (hl:x.2.2.2.2.2.2.1.2.2.2.2.2.2.1.length≤33554432):ew x=some x:=by
 unfold ew t5
 rw [if_pos (by simp only [aG,List.length_nil];omega)]
 rfl
theorem BA (e:ae.D) (n:Int):wQ e n=some (e.1,e.2.1,e.2.2.1,e.2.2.2.1,up n 2147483647,e.2.2.2.2.2):=rfl
theorem BB (e:ae.D) (n:Int):oy e n=some (e.1,e.2.1,e.2.2.1,e.2.2.2.1,up n 2147483647,e.2.2.2.2.2):=by
 unfold oy;rw [jI _ _ (by decide)];rfl
theorem Rr (a:bM.D) (n:Int):∃ m,ue a n=some m∧ut a n=some m:=by
 unfold ue ut BY Ch E2 Fg
 simp only [jI _ 2147483647 (by decide),nv,w4,w5,vi,kq,Option.bind_some]
 cases (a.1 == 1) <;> cases (a.1 == 3) <;> cases (a.1 == 4) <;> cases (a.1 == 5) <;> exact ⟨_,rfl,rfl⟩
def tu (x:aa.D) (n:Int):aa.D :=
 bif x.2.2.2.2.2.2.1.1 == 2 then (x.1,x.2.1,x.2.2.1,x.2.2.2.1,x.2.2.2.2.1,x.2.2.2.2.2.1,x.2.2.2.2.2.2.1,x.2.2.2.2.2.2.2.1,up (xN x.2.2.2.2.2.2.2.2.1 n) 2147483647,())
 else bif decide (x.2.2.2.2.2.2.2.2.1 > 0) then (x.1,x.2.1,x.2.2.1,x.2.2.2.1,x.2.2.2.2.1,x.2.2.2.2.2.1,x.2.2.2.2.2.2.1,x.2.2.2.2.2.2.2.1,IntKind.wrap .i64 (x.2.2.2.2.2.2.2.2.1 - 1),())
 else x
theorem K4 (x:aa.D) (n:Int) (hl:x.2.2.2.2.2.2.1.2.2.2.2.2.2.1.length≤33554432):wT x n=some (tu x n):=by
 unfold wT tu
 rw [ir x hl]
 simp only [w7,nv,Option.bind_some]
 cases (x.2.2.2.2.2.2.1.1 == 2) <;> cases decide (x.2.2.2.2.2.2.2.2.1 > 0) <;> rfl
theorem K5 (x:aa.D) (n:Int) (hl:x.2.2.2.2.2.2.1.2.2.2.2.2.2.1.length≤33554432):wA x n=some (tu x n):=by
 unfold wA tu
 rw [fE x hl]
 simp only [w6,jI _ 2147483647 (by decide),Option.bind_some]
 cases (x.2.2.2.2.2.2.1.1 == 2) <;> cases decide (x.2.2.2.2.2.2.2.2.1 > 0) <;> rfl
theorem w9 (x:aa.D) (hl:x.2.2.2.2.2.2.1.2.2.2.2.2.2.1.length≤33554432) (h:aQ x=true) :
  fB x.2.2.2.2.2.2.1=some true∧(x.2.2.2.2.2.2.1.1=2→0≤x.2.2.2.2.2.2.2.2.1)∧x.2.2.2.2.2.2.2.2.1≤2147483647:=by
 have h':=di x hl
 rw [h] at h'
 obtain ⟨b1,p1,q1⟩:=v6 x.2.2.2.2.1
 obtain ⟨b2,p2,q2⟩:=oU x.2.2.2.2.2.1
 obtain ⟨b3,p3,q3⟩:=zO x.2.2.2.2.2.2.1 hl
 obtain ⟨b4,p4,q4⟩:=lA x.2.2.2.2.2.2.1 x.2.2.2.2.1.1
 unfold cD cV bo at h'
 simp only [q1,q2,q3,q4,dd,Option.bind_some] at h'
 simp only [cond_eq_ite,oT,Option.bind_some] at h'
 have h':=Option.some.inj h'
 rw [q3]
 clear p1 p2 p3 p4 q1 q2 q3 q4 hl h
 generalize x.2.2.2.2.2.2.1.1=ak at *
 generalize x.1=i at *
 generalize x.2.1=ow at *
 generalize x.2.2.1=so at *
 generalize x.2.2.2.1=du at *
 generalize x.2.2.2.2.2.2.2.1=co at *
 generalize x.2.2.2.2.2.2.2.2.1=on at *
 simp at h'
 grind
theorem Uz (n p s z:Int) (bt:Bool) (L:List ae.D) (u:Unit) (h:fB (6,n,p,s,z,bt,L,u)=some true):(1≤p∧p≤99∧s=-1)∨(p=0∧0≤s∧s≤2):=by
 unfold fB cV bo at h
 simp only [dd,Option.bind_some,bne] at h
 simp only [Int.reduceBEq,beq_self_eq_true,cond_true,cond_false,Option.bind_some,Bool.not_true,Bool.not_false] at h
 have key:((decide (1≤p) && decide (p≤99)) && (s == -1) || (p == 0) && (decide (0≤s) && decide (s≤2)))=true:=by
  revert h
  generalize (decide (1≤p) && decide (p≤99))=c1
  generalize (s == -1)=c2
  generalize (p == 0)=c3
  generalize (decide (0≤s) && decide (s≤2))=c4
  generalize (n == 0)=c5
  generalize (z == 0)=c6
  generalize decide ((L.length:Int) > 0)=c7
  cases c1 <;> cases c2 <;> cases c3 <;> cases c4 <;> cases c5 <;> cases c6 <;> cases c7 <;> cases bt <;> decide
 simp at key
 omega
theorem UA (n p s z:Int) (bt:Bool) (L:List ae.D) (u:Unit) (hl:L.length≤33554432) (h:fB (9,n,p,s,z,bt,L,u)=some true):L.length≤3:=by
 have hC:aR L (fun q=>jB q.1)=some (L.any (fun e=>!kZ e)):=jm L hl (fun e=>!kZ e) _ (fun x=>by simp only [jB,zN,Option.bind_some])
 unfold fB at h
 simp only [hC,dd,Option.bind_some,bne] at h
 simp only [Int.reduceBEq,beq_self_eq_true,cond_true,cond_false,Option.bind_some,Bool.not_true,Bool.not_false] at h
 have key:(decide (1≤(L.length:Int)) && decide ((L.length:Int)≤3))=true:=by
  revert h
  generalize (decide (1≤(L.length:Int)) && decide ((L.length:Int)≤3))=c1
  generalize (s == -1)=c2
  generalize (p == 0)=c3
  generalize L.any (fun e=>!kZ e)=c4
  generalize (n == 0)=c5
  generalize (z == 0)=c6
  generalize decide ((L.length:Int) > 0)=c7
  cases c1 <;> cases c2 <;> cases c3 <;> cases c4 <;> cases c5 <;> cases c6 <;> cases c7 <;> cases bt <;> decide
 simp at key
 omega
theorem T7 (a:bM.D) (k:Int) (hk:a.1=2∨a.1=6) (h:dF a k=some true):k=1:=by
 unfold dF lP at h
 simp only [dd,Option.bind_some] at h
 rcases hk with hk | hk <;> rw [hk] at h <;> revert h <;> generalize (decide (1≤k) && decide (k≤6))=m <;> cases m <;> simp
theorem QR (e:ae.D) (hk:e.1=1) (he:aK e=true):(([e].filter nx).map tt).sum=e.2.2.2.2.1:=by
 have hn:=kv he
 have hk2:(e.1 != 2)=true:=by rw [hk];rfl
 unfold nx Ei
 by_cases h0:e.2.2.2.2.1=0
 ·simp [List.filter,he,h0,hk2]
 ·have:(e.2.2.2.2.1 == 0)=false:=by rw [beq_eq_false_iff_ne];exact h0
  simp only [List.filter,he,this,Bool.false_and,Bool.not_false,Bool.and_self,List.map_cons,List.map_nil,List.sum_cons,List.sum_nil]
  unfold tt
  rw [if_pos hk,Eh hn.1 hn.2]
  omega
theorem Ut {a b:Int} (h0:0≤a) (h1:0≤b):0≤up a b∧up a b≤a∧up a b≤b:=by unfold up;split <;> (try split) <;> omega
noncomputable def Aw (x:aa.D) (e:ae.D):Option ((List ae.D)×Int):=((bif (x.2.2.2.2.2.2.1.1 == 1) then (
((bif (e.1 == 1) then (
 some e.2.2.2.2.1)
 else (
 some 0)):Option Int).bind fun o6 =>
 some ([],o6))
 else (
((bif (x.2.2.2.2.2.2.1.1 == 2) then (
(fx e.2.2.2.2.1 x.2.2.2.2.2.2.2.2.1).bind fun y7 =>
(oy e (IntKind.wrap .i64 (e.2.2.2.2.1 - y7))).bind fun y8 =>
 if (([]:List ae.D).length + [y8].length) * (24 * 7)≤aG then (
 some (([]++[y8]),y7)) else none)
 else (
((bif (x.2.2.2.2.2.2.1.1 == 9) then (
(sA x.2.2.2.2.2.2.1 e).bind fun y9 =>
 some y9)
 else (
(uf x.2.2.2.2.2.2.1 e).bind fun y10 =>
 if (([]:List ae.D).length + [y10].length) * (24 * 7)≤aG then (
 some ([]++[y10])) else none)):Option (List ae.D)).bind fun o11 =>
 some (o11,0))):Option ((List ae.D)×Int)).bind fun o12 =>
 some o12)):Option ((List ae.D)×Int))
theorem Rs (i ow so du:Int) (pat:de.D) (gd:bP.D) (k an ap asd az:Int) (ab:Bool) (aL:List ae.D) (u1:Unit) (co lf:Int) (u2:Unit) (ek es ep ed en ez:Int) (eb:Bool) (eu:Unit) (hl:aL.length≤33554432) (hok:aQ (i,ow,so,du,pat,gd,(k,an,ap,asd,az,ab,aL,u1),co,lf,u2)=true) (hev:aK (ek,es,ep,ed,en,ez,eb,eu)=true) (hft:dF (k,an,ap,asd,az,ab,aL,u1) ek=some true) :
  ∃ L n,sO (i,ow,so,du,pat,gd,(k,an,ap,asd,az,ab,aL,u1),co,lf,u2) (ek,es,ep,ed,en,ez,eb,eu)=some (L,n,())∧Aw (i,ow,so,du,pat,gd,(k,an,ap,asd,az,ab,aL,u1),co,lf,u2) (ek,es,ep,ed,en,ez,eb,eu)=some (L,n)∧L.length≤3∧0≤n∧n≤en ∧
   (k=1→L=[])∧(k=2→n≤lf∧((L.filter nx).map tt).sum=en - n)∧(k=6→((L.filter nx).map tt).sum=en):=by
 obtain ⟨f1,f2,f3⟩:=w9 (i,ow,so,du,pat,gd,(k,an,ap,asd,az,ab,aL,u1),co,lf,u2) hl hok
 have f2:k=2→0≤lf:=f2
 have f3:lf≤2147483647:=f3
 have hn:0≤en∧en≤2147483647:=kv hev
 have rm:(([]:List ae.D).length + 1) * (24 * 7)≤aG:=by simp only [aG,List.length_nil];omega
 unfold sO Aw
 by_cases h1:k=1
 ·subst h1
  by_cases he:ek=1
  ·subst he
   exact ⟨[],en,rfl,rfl,by simp,hn.1,Int.le_refl _,fun _=>rfl,fun h=>absurd h (by decide),fun h=>absurd h (by decide)⟩
  ·have he':(ek == 1)=false:=by rw [beq_eq_false_iff_ne];exact he
   refine ⟨[],0,by simp only [he'];rfl,by simp only [he'];rfl,by simp,Int.le_refl _,hn.1,fun _=>rfl,fun h=>absurd h (by decide),fun h=>absurd h (by decide)⟩
 by_cases h2:k=2
 ·subst h2
  have hk:=T7 _ ek (.inl rfl) hft
  subst hk
  have f2:=f2 rfl
  obtain ⟨v1,v2,v3⟩:=Ut hn.1 f2
  have hw:IntKind.wrap .i64 (en - up en lf)=en - up en lf:=aD (by omega) (by omega)
  have hup:up (en - up en lf) 2147483647=en - up en lf:=Eh (by omega) (by omega)
  refine ⟨[(1,es,ep,ed,en - up en lf,ez,eb,eu)],up en lf,?_,?_,by simp,v1,v2,fun h=>absurd h (by decide),fun _=>⟨v3,?_⟩,fun h=>absurd h (by decide)⟩
  ·simp only [nv,BA,Option.bind_some,hw,hup];rfl
  ·simp only [jI _ _ f2,BB,Option.bind_some,hw,hup]
   rw [if_pos (by simp only [aG,List.length_cons,List.length_nil];omega)]
   rfl
  ·rw [QR _ rfl]
   unfold aK at hev ⊢
   simp at hev ⊢
   grind
 have hend:∀ L n,(∃ y,L=[y]∧n=(0:Int)∧(k=6→(([y].filter nx).map tt).sum=en))→L.length≤3∧0≤n∧n≤en∧(k=1→L=[])∧(k=2→n≤lf∧((L.filter nx).map tt).sum=en - n)∧(k=6→((L.filter nx).map tt).sum=en):=by
  rintro L n ⟨y,rfl,rfl,hy⟩
  exact ⟨by simp,Int.le_refl _,hn.1,fun h=>absurd h h1,fun h=>absurd h h2,hy⟩
 by_cases h9:k=9
 ·subst h9
  have hL:=UA an ap asd az ab aL u1 hl f1
  refine ⟨aL.map (JB en),0,?_,?_,by rw [List.length_map];exact hL,Int.le_refl _,hn.1,fun h=>absurd h (by decide),fun h=>absurd h (by decide),fun h=>absurd h (by decide)⟩
  ·rw [K2 _ _ rfl hl];rfl
  ·rw [K3 _ _ rfl hl];rfl
 unfold uf
 have e1:=jU h1
 have e2:=jU h2
 have e9:=jU h9
 have rm1:∀ y:ae.D,(([]:List ae.D).length + [y].length) * (24 * 7)≤aG:=fun y=>by simp only [aG,List.length_cons,List.length_nil];omega
 simp only [e1,e2,e9,cond_false,rm1,if_true]
 by_cases h345:k=3∨k=4∨k=5
 ·obtain ⟨m,m1,m2⟩:=Rr (k,an,ap,asd,az,ab,aL,u1) en
  have hd:=hend [(ek,es,ep,ed,up m 2147483647,ez,eb,eu)] 0 ⟨_,rfl,rfl,fun h=>by omega⟩
  refine ⟨[(ek,es,ep,ed,up m 2147483647,ez,eb,eu)],0,?_,?_,hd⟩
  ·rcases h345 with rfl | rfl | rfl <;> (simp only [m2,BA,Option.bind_some];rfl)
  ·rcases h345 with rfl | rfl | rfl <;> (simp only [m1,BB,Option.bind_some];rfl)
 have e3:=jU (show ¬ k=3 by omega)
 have e4:=jU (show ¬ k=4 by omega)
 have e5:=jU (show ¬ k=5 by omega)
 simp only [e3,e4,e5,cond_false,Option.bind_some]
 by_cases h6:k=6
 ·subst h6
  have hk:=T7 _ ek (.inr rfl) hft
  subst hk
  have ha:=Uz an ap asd az ab aL u1 f1
  have hd:=hend [(1,es,ap,asd,en,ez,eb,eu)] 0 ⟨_,rfl,rfl,fun _=>by
   rw [QR _ rfl]
   unfold aK at hev ⊢
   simp at hev ⊢
   grind⟩
  exact ⟨_,_,rfl,rfl,hd⟩
 have e6:=jU h6
 simp only [e6,cond_false]
 have hd:∀ y:ae.D,_:=fun y=>hend [y] 0 ⟨y,rfl,rfl,fun h=>absurd h h6⟩
 cases e7:(k == 7) with
 | true =>
  cases e72:(az != 2) with
  | true=>exact ⟨_,_,rfl,rfl,hd _⟩
  | false=>exact ⟨_,_,rfl,rfl,hd _⟩
 | false =>
  simp only [cond_false]
  cases e8:(k == 8) with
  | true =>
   simp only [jI _ 99 (by decide),nv,Option.bind_some]
   cases (ez == 2) with
   | true =>
    cases eb with
    | true=>exact ⟨_,_,rfl,rfl,hd _⟩
    | false=>exact ⟨_,_,rfl,rfl,hd _⟩
   | false=>exact ⟨_,_,rfl,rfl,hd _⟩
  | false=>exact ⟨_,_,rfl,rfl,hd _⟩
theorem S0 (x:aa.D) (e:ae.D) (hl:x.2.2.2.2.2.2.1.2.2.2.2.2.2.1.length≤33554432) (hok:aQ x=true) (hev:aK e=true) (hft:dF x.2.2.2.2.2.2.1 e.1=some true) :
  ∃ L n,sO x e=some (L,n,())∧Aw x e=some (L,n)∧L.length≤3∧0≤n∧n≤(e.2.2.2.2.1:Int) ∧
   ((x.2.2.2.2.2.2.1.1:Int)=1→L=[])∧((x.2.2.2.2.2.2.1.1:Int)=2→n≤(x.2.2.2.2.2.2.2.2.1:Int)∧((L.filter nx).map tt).sum=(e.2.2.2.2.1:Int) - n)∧((x.2.2.2.2.2.2.1.1:Int)=6→((L.filter nx).map tt).sum=(e.2.2.2.2.1:Int)) :=
 Rs x.1 x.2.1 x.2.2.1 x.2.2.2.1 x.2.2.2.2.1 x.2.2.2.2.2.1 x.2.2.2.2.2.2.1.1 x.2.2.2.2.2.2.1.2.1 x.2.2.2.2.2.2.1.2.2.1 x.2.2.2.2.2.2.1.2.2.2.1 x.2.2.2.2.2.2.1.2.2.2.2.1 x.2.2.2.2.2.2.1.2.2.2.2.2.1 x.2.2.2.2.2.2.1.2.2.2.2.2.2.1 x.2.2.2.2.2.2.1.2.2.2.2.2.2.2 x.2.2.2.2.2.2.2.1 x.2.2.2.2.2.2.2.2.1 x.2.2.2.2.2.2.2.2.2 e.1 e.2.1 e.2.2.1 e.2.2.2.1 e.2.2.2.2.1 e.2.2.2.2.2.1 e.2.2.2.2.2.2.1 e.2.2.2.2.2.2.2 hl hok hev hft
theorem BC (i ow so du:Int) (pat:de.D) (gd:bP.D) (act:bM.D) (co lf lf':Int) (u:Unit) (hl:act.2.2.2.2.2.2.1.length≤33554432) (h:aQ (i,ow,so,du,pat,gd,act,co,lf,u)=true) (h2:act.1=2→0≤lf') (h3:-1≤lf') (h4:lf'≤2147483647):aQ (i,ow,so,du,pat,gd,act,co,lf',u)=true:=by
 have h':=di (i,ow,so,du,pat,gd,act,co,lf,u) hl
 have g:=di (i,ow,so,du,pat,gd,act,co,lf',u) hl
 rw [h] at h'
 obtain ⟨b1,p1,q1⟩:=v6 pat
 obtain ⟨b2,p2,q2⟩:=oU gd
 obtain ⟨b3,p3,q3⟩:=zO act hl
 obtain ⟨b4,p4,q4⟩:=lA act pat.1
 unfold cD cV bo at h' g
 simp only [q1,q2,q3,q4,dd,Option.bind_some] at h' g
 simp only [cond_eq_ite,oT,Option.bind_some] at h' g
 have h':=Option.some.inj h'
 have g:=Option.some.inj g
 rw [← g]
 clear g p1 p2 p3 p4 q1 q2 q3 q4 hl h
 generalize act.1=ak at *
 simp at h' ⊢
 grind
theorem Rt (i ow so du:Int) (pat:de.D) (gd:bP.D) (act:bM.D) (co lf:Int) (u:Unit) (n k:Int) (hk0:act.1=k) (hl:act.2.2.2.2.2.2.1.length≤33554432) (h:aQ (i,ow,so,du,pat,gd,act,co,lf,u)=true) (h0:0≤n) (h2:k=2→n≤lf):aQ (tu (i,ow,so,du,pat,gd,act,co,lf,u) n)=true:=by
 obtain ⟨f1,f2,f3⟩:=w9 (i,ow,so,du,pat,gd,act,co,lf,u) hl h
 have f2:k=2→0≤lf:=fun h=>f2 (hk0.trans h)
 have f3:lf≤2147483647:=f3
 unfold tu
 simp only [hk0]
 by_cases hk:k=2
 ·have e2:(k == 2)=true:=by rw [hk];rfl
  have f2:=f2 hk
  have h2:=h2 hk
  have e:xN lf n=lf - n:=by
   unfold xN
   rw [rN (n:=n) (by omega) (by omega),rN (n:=lf) (by omega) (by omega),aD (by omega) (by omega),rN (by omega) (by omega)]
  rw [e2,e,Eh (by omega) (by omega)]
  exact BC i ow so du pat gd act co lf (lf - n) () hl h (fun _=>by omega) (by omega) (by omega)
 ·have e2:(k == 2)=false:=by rw [beq_eq_false_iff_ne];exact hk
  rw [e2]
  by_cases hp:lf > 0
  ·have hp':decide (lf > 0)=true:=decide_eq_true hp
   rw [hp',aD (by omega) (by omega)]
   exact BC i ow so du pat gd act co lf (lf - 1) () hl h (fun h=>absurd (hk0.symm.trans h) hk) (by omega) (by omega)
  ·have hp':decide (lf > 0)=false:=decide_eq_false hp
   rw [hp']
   exact h
theorem S1 (x:aa.D) (n:Int) (hl:x.2.2.2.2.2.2.1.2.2.2.2.2.2.1.length≤33554432) (h:aQ x=true) (h0:0≤n) (h2:(x.2.2.2.2.2.2.1.1:Int)=2→n≤(x.2.2.2.2.2.2.2.2.1:Int)):aQ (tu x n)=true :=
 Rt x.1 x.2.1 x.2.2.1 x.2.2.2.1 x.2.2.2.2.1 x.2.2.2.2.2.1 x.2.2.2.2.2.2.1 x.2.2.2.2.2.2.2.1 x.2.2.2.2.2.2.2.2.1 x.2.2.2.2.2.2.2.2.2 n x.2.2.2.2.2.2.1.1 rfl hl h h0 h2
theorem OY (x:aa.D) (e:ae.D) (hl:x.2.2.2.2.2.2.1.2.2.2.2.2.2.1.length≤33554432) :
  ∃ L n y,wU x e=some (L,n,y,())∧sB x e=some (L,n,y,())∧(y.2.2.2.2.2.2.1.2.2.2.2.2.2.1.length≤33554432∧L.length≤3∧y.1=x.1∧(aQ x=true→aQ y=true))∧∃ b,dF x.2.2.2.2.2.2.1 e.1=some b ∧
   (((!aQ x || !aK e) || !b)=true→L=[e]∧n=0)∧(((!aQ x || !aK e) || !b)=false →
    (∀ v∈L,nx v=true)∧0≤n∧n≤e.2.2.2.2.1∧(x.2.2.2.2.2.2.1.1=1→L=[])∧(x.2.2.2.2.2.2.1.1=2→y.2.2.2.2.2.2.2.2.1=x.2.2.2.2.2.2.2.2.1 - n∧(-2147483647≤x.2.2.2.2.2.2.2.2.1 - n∧x.2.2.2.2.2.2.2.2.1 - n≤2147483647)∧(L.map tt).sum=e.2.2.2.2.1 - n)∧(x.2.2.2.2.2.2.1.1=6→(L.map tt).sum=e.2.2.2.2.1)∧e.2.2.2.2.1≤2147483647):=by
 obtain ⟨b,p4,q4⟩:=lA x.2.2.2.2.2.2.1 e.1
 unfold wU sB
 simp only [di x hl,oV x hl,bJ,bQ,p4,q4,Option.bind_some]
 by_cases hb:((!aQ x || !aK e) || !b)=true
 ·refine ⟨[e],0,x,?_,?_,⟨hl,by simp,rfl,id⟩,b,rfl,fun _=>⟨rfl,rfl⟩,fun h=>?_⟩
  ·revert hb;cases aQ x <;> cases aK e <;> cases b <;> intro hb <;> first | (simp at hb;done) | (simp only [ir x hl,cond_true,cond_false,Option.bind_some,Bool.not_true,Bool.not_false])
  ·revert hb;cases aQ x <;> cases aK e <;> cases b <;> intro hb <;> first | (simp at hb;done) | (simp only [fE x hl,cond_true,cond_false,Option.bind_some,Bool.not_true,Bool.not_false])
  ·rw [hb] at h;cases h
 ·have hb':((!aQ x || !aK e) || !b)=false:=by simpa using hb
  rw [Bool.or_eq_false_iff,Bool.or_eq_false_iff] at hb'
  obtain ⟨⟨g1,g2⟩,g3⟩:=hb'
  have g1:aQ x=true:=by simpa using g1
  have g2:aK e=true:=by simpa using g2
  have g3:b=true:=by simpa using g3
  subst g3
  obtain ⟨f1,f2,f3⟩:=w9 x hl g1
  obtain ⟨L,n,a1,a2,a3,a4,a5,a6,a7,a8⟩:=S0 x e hl g1 g2 q4
  have hn:=kv g2
  have hL:L.length≤33554432:=by omega
  refine ⟨L.filter nx,n,tu x n,?_,?_,⟨?_,Nat.le_trans (List.length_filter_le _ _) a3,by unfold tu;cases (x.2.2.2.2.2.2.1.1 == 2) <;> cases decide (x.2.2.2.2.2.2.2.2.1 > 0) <;> rfl,fun _=>S1 x n hl g1 a4 fun h=>(a7 h).1⟩,true,rfl,fun h=>absurd h hb,fun _=>⟨fun v hv=>(List.mem_filter.1 hv).2,a4,a5,fun h=>by rw [a6 h];rfl,fun h=>?_,a8,hn.2⟩⟩
  ·simp only [g1,g2,a1,SY L hL,K4 x n hl,cond_true,cond_false,Option.bind_some,Bool.not_true]
  ·simp only [g1,g2,cond_true,cond_false,Option.bind_some,Bool.not_true]
   have a2':=a2
   unfold Aw at a2'
   rw [a2',Option.bind_some,SZ (L,n) hL,Option.bind_some,K5 x n hl]
   rfl
  ·unfold tu
   cases (x.2.2.2.2.2.2.1.1 == 2) <;> cases decide (x.2.2.2.2.2.2.2.2.1 > 0) <;> exact hl
  ·obtain ⟨a7,a9⟩:=a7 h
   obtain ⟨lf,hlf⟩:∃ lf:Int,lf=x.2.2.2.2.2.2.2.2.1:=⟨_,rfl⟩
   have f2:0≤lf:=by rw [hlf];exact f2 h
   have f3:lf≤2147483647:=by rw [hlf];exact f3
   have a7:n≤lf:=by rw [hlf];exact a7
   rw [← hlf]
   have h2:(x.2.2.2.2.2.2.1.1 == 2)=true:=by rw [h];rfl
   refine ⟨?_,⟨(by show (-2147483647:Int)≤lf - n;omega),(by show lf - n≤(2147483647:Int);omega)⟩,a9⟩
   unfold tu
   rw [h2]
   simp only [cond_true]
   have:xN lf n=lf - n:=by
    unfold xN
    rw [rN (n:=n) (by omega) (by omega),rN (n:=lf) (by omega) (by omega),aD (by omega) (by omega),rN (by omega) (by omega)]
   rw [← hlf,this,Eh (by omega) (by omega)]
def zS (a n:Int) (i:Nat) (_:ay.D):List Int:=[(IntKind.wrap .i64 (a + (i:Int))).tmod n]
theorem FI (a n:Int) (i:Nat) (x:ay.D):(zS a n i x).length≤1:=by simp [zS]
def cZ (s:ac.D):List Int:=if (decide (0≤s.2.2.1) && decide (s.2.2.1≤IntKind.wrap .i64 ((s.2.1.length:Int) - 1)))=true then bv (zS s.2.2.1 s.2.1.length) 0 s.2.1 else []
theorem Qd (s:ac.D):(cZ s).length≤s.2.1.length:=by
 unfold cZ
 split
 ·exact lG _ (FI _ _) _ _
 ·simp
theorem uD (s:ac.D) (h:s.2.1.length≤33554432):gJ s=some (cZ s):=by
 unfold cZ
 by_cases hin:(decide (0≤s.2.2.1) && decide (s.2.2.1≤IntKind.wrap .i64 ((s.2.1.length:Int) - 1)))=true
 ·rw [if_pos hin]
  unfold gJ
  rw [cM s.2.1 (zS s.2.2.1 s.2.1.length) (fun s=>s) (FI _ _) (by omega) (fun t i x hI hx=>?_) (fun t=>?_)]
  ·rfl
  ·have hlt:=(List.getElem?_eq_some_iff.1 hx).1
   have hil:((i:Int) < (s.2.1.length:Int)):=by omega
   unfold iM zS
   simp only [hil,decide_true,cond_true,gx,hin,Option.bind_some]
   rw [if_neg (by omega),if_pos (by simp only [aG,List.length_cons,List.length_nil];omega)]
  ·unfold iM;simp
 ·rw [if_neg hin]
  have hin:(decide (0≤s.2.2.1) && decide (s.2.2.1≤IntKind.wrap .i64 ((s.2.1.length:Int) - 1)))=false:=by simpa using hin
  unfold gJ
  rw [bb (r:=([],0)) (by unfold iM;simp only [gx,hin,Option.bind_some];cases decide ((0:Int) < (s.2.1.length:Int)) <;> rfl)]
  rfl
theorem uE (s:ac.D) (h:s.2.1.length≤33554432):gR s=some (cZ s):=by
 unfold cZ
 by_cases hin:(decide (0≤s.2.2.1) && decide (s.2.2.1≤IntKind.wrap .i64 ((s.2.1.length:Int) - 1)))=true
 ·rw [if_pos hin]
  unfold gR aZ
  simp only [dd,hin,Option.bind_some,Bool.not_true,cond_false]
  rw [cM s.2.1 (zS s.2.2.1 s.2.1.length) (fun s=>s) (FI _ _) (by omega) (fun t i x hI hx=>?_) (fun t=>?_)]
  ·rfl
  ·have hlt:=(List.getElem?_eq_some_iff.1 hx).1
   have hil:((i:Int) < (s.2.1.length:Int)):=by omega
   unfold mZ zS
   simp only [hil,decide_true,cond_true]
   rw [if_neg (by omega),if_pos (by simp only [aG,List.length_cons,List.length_nil];omega)]
  ·unfold mZ;simp
 ·rw [if_neg hin]
  have hin:(decide (0≤s.2.2.1) && decide (s.2.2.1≤IntKind.wrap .i64 ((s.2.1.length:Int) - 1)))=false:=by simpa using hin
  unfold gR aZ
  simp only [dd,hin,Option.bind_some,Bool.not_false,cond_true]
theorem OZ {m n:Int} (h0:0≤m) (h1:m < 2 * n):m.tmod n=if m < n then m else m - n:=by
 split
 ·exact Int.tmod_eq_of_lt h0 (by assumption)
 ·rename_i h
  rw [Int.tmod_eq_emod_of_nonneg h0,← Int.sub_emod_right,Int.emod_eq_of_lt (by omega) (by omega)]
theorem JC {a n:Int}:∀ (xs:List ay.D) (i:Nat) (x:Int),x∈bv (zS a n) i xs→∃ j:Nat,i≤j∧j < i + xs.length∧x=(IntKind.wrap .i64 (a + (j:Int))).tmod n
 | [],i,x,h=>by simp [bv] at h
 | y :: xs,i,x,h=>by
  simp only [bv,zS,List.mem_append,List.mem_singleton] at h
  rcases h with rfl | h
  ·exact ⟨i,Nat.le_refl _,by simp,rfl⟩
  ·obtain ⟨j,h1,h2,h3⟩:=JC xs (i + 1) x h
   exact ⟨j,by omega,by simp;omega,h3⟩
theorem JD {a:Int} {n:Nat} (h0:0≤a) (h1:a < n) (hn:n≤33554432):∀ (xs:List ay.D) (i:Nat),i + xs.length≤n→(bv (zS a n) i xs).Nodup
 | [],i,_=>by simp [bv]
 | y :: xs,i,h=>by
  simp only [List.length_cons] at h
  simp only [bv,zS,List.singleton_append,List.nodup_cons]
  refine ⟨fun hm=>?_,JD h0 h1 hn xs (i + 1) (by omega)⟩
  obtain ⟨j,g1,g2,g3⟩:=JC xs (i + 1) _ hm
  rw [aD (by omega) (by omega),aD (by omega) (by omega),OZ (by omega) (by omega),OZ (by omega) (by omega)] at g3
  split at g3 <;> split at g3 <;> omega
theorem El (s:ac.D) (h:s.2.1.length≤33554432):(cZ s).Nodup:=by
 unfold cZ
 split
 ·rename_i hin
  simp only [Bool.and_eq_true,decide_eq_true_eq] at hin
  rw [aD (by omega) (by omega)] at hin
  have key:∀ a:Int,a≤(s.2.1.length:Int) - 1→a < s.2.1.length:=fun a h=>by omega
  exact JD hin.1 (key _ hin.2) h _ _ (by omega)
 ·simp
theorem K6 (xs:List ah.D) (hl:xs.length≤33554432) (p:ah.D→Bool) (q:(ah.D×Unit)→Option Bool) (hq:∀ x,q (x,())=some (p x)) :
  cT xs q=some (match bS p xs with | some k=>(k:Int) | none=>-1):=by
 unfold cT
 rw [d9 xs (body:=cr xs q) p (fun i=>i) (by omega) (fun i x hx=>?_) ?_]
 ·cases bS p xs <;> rfl
 ·unfold cr
  simp
 ·unfold cr
  have hlt:=(List.getElem?_eq_some_iff.1 hx).1
  have:((i:Int) < (xs.length:Int)):=by omega
  simp only [this,decide_true,cond_true,aJ hx,hq,Option.bind_some]
theorem tw (xs:List ah.D) (hl:xs.length≤33554432) (p:ah.D→Bool) (q:(ah.D×Unit)→Option Bool) (hq:∀ x,q (x,())=some (p x)) :
  bV xs q=some (xs.filter (fun x=>!p x),()):=by
 unfold bV
 rw [K6 xs hl p q hq,Option.bind_some]
 obtain ⟨h1,h2⟩:=eT p xs
 cases hf:bS p xs with
 | none =>
  have:xs.filter (fun x=>!p x)=xs:=by rw [List.filter_eq_self];intro x hx;simp [h1 hf x hx]
  rw [this];rfl
 | some k =>
  obtain ⟨x,g1,g2,g3⟩:=h2 k hf
  have hk:=(List.getElem?_eq_some_iff.1 g1).1
  have n1:((k:Int) == -1)=false:=by simp
  simp only [n1,cond_false]
  rw [aD (by omega) (by omega)]
  obtain ⟨ys,m,e1,e2,e3,e4⟩:∃ (ys:List ah.D) (m:Nat),aw (bF q) (xs,(k:Int),(k:Int) + 1)=some (ys,(m:Int),(xs.length:Int))∧ys.length=xs.length∧m≤xs.length∧ys.take m=xs.filter (fun x=>!p x):=by
   refine Gh xs (body:=bF q) p (fun s=>s) (by omega) (fun ys i j x hx hij hl'=>?_) (fun ys i hl'=>?_) k x g1 g2 g3
   ·have hlt:=(List.getElem?_eq_some_iff.1 hx).1
    have hil:((j:Int) < (ys.length:Int)):=by omega
    obtain ⟨y,hy⟩:∃ y,ys[i]?=some y:=⟨_,List.getElem?_eq_getElem (by omega)⟩
    unfold bF
    simp (disch:=omega) only [hil,decide_true,cond_true,Int.toNat_natCast,aJ hx,hx,hq,Option.bind_some,aJ hy,hy,aD]
    cases p x <;> rfl
   ·unfold bF
    have:¬ ((xs.length:Int) < (ys.length:Int)):=by omega
    simp only [this,decide_false,cond_false]
  rw [e1,Option.bind_some]
  have t1:0≤(m:Int):=by omega
  have t2:(m:Int)≤(ys.length:Int):=by omega
  simp only [t1,t2,if_true,Int.le_refl,Int.toNat_natCast]
  have z1:m≤ys.length:=by omega
  rw [if_pos (by simp only [List.length_append,List.length_take,List.length_replicate,List.length_drop];omega)]
  have:∀ (zs:List ah.D),(ys.take m++zs).take m=ys.take m:=fun zs=>by rw [List.take_append_of_le_length (by simp;omega),List.take_take,Nat.min_self]
  rw [List.append_assoc,this,e4]
  simp
theorem CB (xs:List ah.D) (a:Int) (h:xs.length≤33554432):kM xs a=some (xs.filter fun x=>x.2.1 == a):=by
 unfold kM
 rw [cM xs (fun _ x=>if x.2.1 == a then [x] else []) (fun s=>s) (fun _ x=>by split <;> simp) (by omega) (fun t i x hI hx=>?_) (fun t=>?_)]
 ·rw [Option.bind_some,i7]
 ·have hlt:=(List.getElem?_eq_some_iff.1 hx).1
  have hil:((i:Int) < (xs.length:Int)):=by omega
  unfold lr
  simp only [hil,decide_true,cond_true,aJ hx]
  rw [if_pos (by simp only [aG,List.length_cons,List.length_nil];omega)]
  cases (x.2.1 == a) <;> simp
 ·unfold lr;simp
theorem CC (xs:List ah.D) (a:Int) (h:xs.length≤33554432):kW xs a=some (xs.filter fun x=>x.2.1 == a):=by
 unfold kW bH
 rw [if_pos (by simp only [aG,List.length_nil];omega)]
 simp only [Option.bind_some,List.nil_append]
 rw [tw xs h (fun x=>x.2.1 != a) _ (fun x=>rfl)]
 simp [bne]
theorem zT (l:List Int) (a:Int) (h:l.length≤33554432):vD l a=some (l.any (fun x=>x == a)):=by
 unfold vD
 rw [d9 l (body:=uc l a) (fun x=>x == a) (fun _=>true) (by omega) (fun i x hx=>?_) ?_]
 ·obtain ⟨h1,h2⟩:=eT (fun x=>x == a) l
  cases hf:bS (fun x=>x == a) l with
  | none =>
   have:l.any (fun x=>x == a)=false:=by rw [List.any_eq_false];exact fun x hx=>by simpa using h1 hf x hx
   rw [this];rfl
  | some k =>
   obtain ⟨x,g1,g2,_⟩:=h2 k hf
   have:l.any (fun x=>x == a)=true:=by rw [List.any_eq_true];exact ⟨x,List.mem_of_getElem? g1,g2⟩
   rw [this];rfl
 ·unfold uc
  simp
 ·unfold uc
  have hlt:=(List.getElem?_eq_some_iff.1 hx).1
  have:((i:Int) < (l.length:Int)):=by omega
  simp only [this,decide_true,cond_true,aJ hx]
def ny (cs:List Int) (n:Int):Int:=match cs with
 | []=>0
 | c :: _=>if n < 2 then 0 else if c.tmod n < 0 then c.tmod n + n else c.tmod n
def lX (cs:List Int) (n:Int):List Int:=match cs with
 | []=>[]
 | c :: r=>if n < 2 then c :: r else r
theorem Em (cs:List Int) {n:Int} (h:1≤n):0≤ny cs n∧ny cs n < n:=by
 unfold ny
 split
 ·omega
 ·rename_i c r
  split
  ·omega
  ·have h1:=Int.tmod_lt_of_pos c (show 0 < n by omega)
   have h2:-n < c.tmod n:=by
    have:=Int.tmod_lt_of_pos (-c) (show 0 < n by omega)
    rw [Int.neg_tmod] at this
    omega
   split <;> omega
theorem nz (cs:List Int) (n:Int):lX cs n <:+ cs:=by
 unfold lX
 split
 ·exact List.suffix_refl _
 ·split
  ·exact List.suffix_refl _
  ·exact List.suffix_cons _ _
theorem fi (a:List Int) (h:a.length≤33554432):bA a=some a:=by
 unfold bA
 rw [if_pos (by simp only [aG,List.length_nil];omega),List.nil_append]
theorem Eo (cs:List Int) (n:Int) (h:cs.length≤33554432) (hn:n≤33554432):vO cs n=some (ny cs n,lX cs n,()):=by
 unfold vO
 by_cases h2:n < 2
 ·rw [decide_eq_true h2]
  simp only [cond_true,Option.bind_some,fi cs h]
  unfold ny lX
  cases cs <;> simp [h2]
 ·rw [decide_eq_false h2]
  cases cs with
  | nil=>simp [ny,lX,fi]
  | cons c r =>
   have h1:=Int.tmod_lt_of_pos c (show 0 < n by omega)
   have h3:-n < c.tmod n:=by
    have:=Int.tmod_lt_of_pos (-c) (show 0 < n by omega)
    rw [Int.neg_tmod] at this
    omega
   have hl:((c :: r).length:Int)=(r.length:Int) + 1:=by simp
   have e0:(((c :: r).length:Int) == 0)=false:=by rw [hl,beq_eq_false_iff_ne];omega
   have ei:∀ {R:Type} (κ:Int→Option R),idx (c :: r) 0 κ=κ c:=fun κ=>aJ (i:=0) rfl
   simp only [cond_false,e0,Option.bind_some,ei]
   rw [if_neg (by omega)]
   simp only [List.length_cons] at h
   simp only [ny,lX,if_neg h2]
   by_cases hneg:c.tmod n < 0
   ·rw [decide_eq_true hneg,if_pos hneg]
    simp only [cond_true,Option.bind_some]
    rw [aD (by omega) (by omega),if_pos (by omega),if_pos (by omega),if_pos (by omega)]
    have:(((c :: r).take ((c :: r).length:Int).toNat).drop (1:Int).toNat)=r:=by simp
    rw [this,fi r (by omega)]
    rfl
   ·rw [decide_eq_false hneg,if_neg hneg]
    simp only [cond_false,Option.bind_some]
    rw [if_pos (by omega),if_pos (by omega),if_pos (by omega)]
    have:(((c :: r).take ((c :: r).length:Int).toNat).drop (1:Int).toNat)=r:=by simp
    rw [this,fi r (by omega)]
    rfl
theorem Ep (cs:List Int) (n:Int) (h:cs.length≤33554432) (hn:n≤33554432):vF cs n=some (ny cs n,lX cs n,()):=by
 unfold vF
 by_cases h2:n < 2
 ·rw [decide_eq_true h2]
  simp only [cond_true,Option.bind_some]
  rw [if_pos (by simp only [aG,List.length_nil];omega)]
  unfold ny lX
  cases cs <;> simp [h2]
 ·rw [decide_eq_false h2]
  cases cs with
  | nil=>simp [ny,lX,aG]
  | cons c r =>
   have h1:=Int.tmod_lt_of_pos c (show 0 < n by omega)
   have h3:-n < c.tmod n:=by
    have:=Int.tmod_lt_of_pos (-c) (show 0 < n by omega)
    rw [Int.neg_tmod] at this
    omega
   have hl:((c :: r).length:Int)=(r.length:Int) + 1:=by simp
   have e0:(((c :: r).length:Int) == 0)=false:=by rw [hl,beq_eq_false_iff_ne];omega
   have ei:∀ {R:Type} (κ:Int→Option R),idx (c :: r) 0 κ=κ c:=fun κ=>aJ (i:=0) rfl
   simp only [cond_false,e0,Option.bind_some,ei]
   rw [if_neg (by omega)]
   simp only [List.length_cons] at h
   simp only [ny,lX,if_neg h2]
   have hd:(((c :: r).take ((c :: r).length:Int).toNat).drop (1:Int).toNat)=r:=by simp
   by_cases hneg:c.tmod n < 0
   ·rw [decide_eq_true hneg,if_pos hneg]
    simp only [cond_true,Option.bind_some]
    rw [aD (by omega) (by omega),if_pos (by omega),if_pos (by omega),if_pos (by omega),hd,if_pos (by simp only [aG,List.length_nil];omega)]
    rfl
   ·rw [decide_eq_false hneg,if_neg hneg]
    simp only [cond_false,Option.bind_some]
    rw [if_pos (by omega),if_pos (by omega),if_pos (by omega),hd,if_pos (by simp only [aG,List.length_nil];omega)]
    rfl
theorem Ru (xs:List ah.D) (k:Nat) (h:k < xs.length) (hl:xs.length≤33554432):dI xs (k:Int) (IntKind.wrap .i64 ((k:Int) + 1))=some (xs.eraseIdx k,()):=by
 unfold dI
 rw [aD (by omega) (by omega)]
 have e0:((k:Int) == (k:Int) + 1)=false:=by rw [beq_eq_false_iff_ne];omega
 have t1:((k:Int) + 1).toNat=k + 1:=by omega
 have t2:(xs.length:Int).toNat=xs.length:=by omega
 have t3:k + (xs.length - (k + 1)) - 0=xs.length - 1:=by omega
 have t4:k + (xs.length - (k + 1))=xs.length - 1:=by omega
 simp only [e0,cond_false,t1,t2,Int.toNat_natCast,t3,t4]
 rw [if_pos (by omega),if_pos (by omega),if_pos (by omega),if_pos (by omega),if_pos (by omega),if_pos (by omega),if_pos (by omega),if_pos (by omega),if_pos (by omega),if_pos (by omega),if_pos (by omega),if_pos (by omega),if_pos (by omega),if_pos (by omega),if_pos (by omega)]
 have hlen:(xs.take k++(xs.take xs.length).drop (k + 1)++xs.drop (xs.length - 1)).length=xs.length:=by simp;omega
 rw [if_pos (by rw [hlen];omega)]
 rw [List.drop_zero,List.append_assoc,List.take_append_of_le_length (by rw [List.length_take,hlen];omega),List.take_take,show min (xs.length - 1) (xs.length - 1 - 0)=xs.length - 1 by omega,List.append_assoc,← List.append_assoc,List.take_append_of_le_length (by simp;omega),List.take_of_length_le (by simp;omega),List.take_length,List.eraseIdx_eq_take_drop_succ]
def eJ:Nat→List Int→List ah.D→List Int×List ah.D
 | 0,cs,_=>(cs,[])
 | n + 1,cs,own=>match own[(ny cs own.length).toNat]? with
  | none=>(cs,[])
  | some x=>((eJ n (lX cs own.length) (own.eraseIdx (ny cs own.length).toNat)).1,x :: (eJ n (lX cs own.length) (own.eraseIdx (ny cs own.length).toNat)).2)
theorem Gn (n:Nat) (cs:List Int) (own:List ah.D):eJ (n + 1) cs own=match own[(ny cs own.length).toNat]? with
  | none=>(cs,[])
  | some x=>((eJ n (lX cs own.length) (own.eraseIdx (ny cs own.length).toNat)).1,x :: (eJ n (lX cs own.length) (own.eraseIdx (ny cs own.length).toNat)).2):=rfl
theorem BD {α:Type}:∀ (l:List α) (k:Nat) (x:α),l[k]?=some x→(x :: l.eraseIdx k).Perm l
 | [],k,x,h=>by simp at h
 | a :: l,0,x,h=>by simp at h;subst h;simp
 | a :: l,k + 1,x,h=>by
  simp only [List.getElem?_cons_succ] at h
  simp only [List.eraseIdx_cons_succ]
  exact (List.Perm.swap a x _).trans ((BD l k x h).cons a)
theorem uF:∀ (n:Nat) (cs:List Int) (own:List ah.D),own.length=n→(eJ n cs own).2.Perm own∧(eJ n cs own).1 <:+ cs
 | 0,cs,own,h=>by
  have:own=[]:=List.eq_nil_of_length_eq_zero h
  subst this
  exact ⟨List.Perm.nil,List.suffix_refl _⟩
 | n + 1,cs,own,h=>by
  obtain ⟨h1,h2⟩:=Em cs (n:=own.length) (by omega)
  have hk:(ny cs own.length).toNat < own.length:=by omega
  have hx:=List.getElem?_eq_getElem hk
  obtain ⟨g1,g2⟩:=uF n (lX cs own.length) (own.eraseIdx (ny cs own.length).toNat) (by rw [List.length_eraseIdx_of_lt hk];omega)
  unfold eJ
  rw [hx]
  exact ⟨(g1.cons _).trans (BD own _ _ hx),g2.trans (nz _ _)⟩
theorem BE:∀ (n:Nat) (cs:List Int) (out own:List ah.D),own.length=n→n≤33554432→out.length + n≤33554432→cs.length≤33554432 →
  aw kX (cs,out,own)=some ((eJ n cs own).1,out++(eJ n cs own).2,[])
 | 0,cs,out,own,h,_,_,_=>by
  have:own=[]:=List.eq_nil_of_length_eq_zero h
  subst this
  refine bb ?_
  unfold kX eJ
  simp
 | n + 1,cs,out,own,h,hn,ho,hc=>by
  obtain ⟨h1,h2⟩:=Em cs (n:=own.length) (by omega)
  obtain ⟨k,hk⟩:=Int.eq_ofNat_of_zero_le h1
  have hkl:k < own.length:=by omega
  have hx:=List.getElem?_eq_getElem hkl
  have hr:=(nz cs own.length).length_le
  have ih:=BE n (lX cs own.length) (out++[own[k]]) (own.eraseIdx k) (by rw [List.length_eraseIdx_of_lt hkl];omega) (by omega) (by simp;omega) (by omega)
  refine aS (s':=(lX cs own.length,out++[own[k]],own.eraseIdx k)) ?_ ?_
  ·unfold kX
   have hp:(own.length:Int) > 0:=by omega
   simp only [hp,decide_true,cond_true,Eo cs own.length hc (by omega),Option.bind_some,hk,aJ hx,Int.toNat_natCast,hx]
   rw [if_pos (by simp only [aG,List.length_cons,List.length_nil];omega),Ru own k hkl (by omega),Option.bind_some]
  ·rw [ih]
   rw [Gn,hk,Int.toNat_natCast,hx]
   simp
theorem BF:∀ (n:Nat) (cs:List Int) (out own:List ah.D),own.length=n→n≤33554432→out.length + n≤33554432→cs.length≤33554432 →
  aw kN (out,cs,own)=some (out++(eJ n cs own).2,(eJ n cs own).1,[])
 | 0,cs,out,own,h,_,_,_=>by
  have:own=[]:=List.eq_nil_of_length_eq_zero h
  subst this
  refine bb ?_
  unfold kN eJ
  simp
 | n + 1,cs,out,own,h,hn,ho,hc=>by
  obtain ⟨h1,h2⟩:=Em cs (n:=own.length) (by omega)
  obtain ⟨k,hk⟩:=Int.eq_ofNat_of_zero_le h1
  have hkl:k < own.length:=by omega
  have hx:=List.getElem?_eq_getElem hkl
  have hr:=(nz cs own.length).length_le
  have ih:=BF n (lX cs own.length) (out++[own[k]]) (own.eraseIdx k) (by rw [List.length_eraseIdx_of_lt hkl];omega) (by omega) (by simp;omega) (by omega)
  refine aS (s':=(out++[own[k]],lX cs own.length,own.eraseIdx k)) ?_ ?_
  ·unfold kN
   have hp:(own.length:Int) > 0:=by omega
   have t1:((k:Int) + 1).toNat=k + 1:=by omega
   have t2:(own.length:Int).toNat=own.length:=by omega
   simp only [hp,decide_true,cond_true,Ep cs own.length hc (by omega),Option.bind_some,hk,aJ hx,Int.toNat_natCast,hx]
   rw [aD (by omega) (by omega)]
   have l1:((own.take k).drop (0:Int).toNat).length=k:=by simp;omega
   have l2:((own.take own.length).drop ((k:Int) + 1).toNat).length=own.length - (k + 1):=by rw [t1];simp
   rw [if_pos (by simp only [aG,List.length_cons,List.length_nil];omega),if_pos (by omega),if_pos (by omega),if_pos (by omega),if_pos (by rw [l1];simp only [aG,List.length_nil];omega),if_pos (by omega),if_pos (by omega),if_pos (by omega),if_pos (by rw [List.nil_append,l1,l2];simp only [aG];omega)]
   simp [t1,List.eraseIdx_eq_take_drop_succ]
  ·rw [ih]
   rw [Gn,hk,Int.toNat_natCast,hx]
   simp
def hU (l:List ah.D) (done:List Int):List ah.D:=l.filter fun x=>!(done.any fun z=>z == x.2.1)
def tx (l:List ah.D):List Int→List Int→List Int×List ah.D
 | [],cs=>(cs,[])
 | s :: r,cs=>((tx l r (eJ (l.filter fun x=>x.2.1 == s).length cs (l.filter fun x=>x.2.1 == s)).1).1,(eJ (l.filter fun x=>x.2.1 == s).length cs (l.filter fun x=>x.2.1 == s)).2++(tx l r (eJ (l.filter fun x=>x.2.1 == s).length cs (l.filter fun x=>x.2.1 == s)).1).2)
theorem JE (l:List ah.D) (done:List Int) (s:Int) (h:s ∉ done):(hU l done).filter (fun x=>x.2.1 == s)=l.filter fun x=>x.2.1 == s:=by
 unfold hU
 rw [List.filter_filter]
 refine List.filter_congr fun x _=>?_
 cases hx:x.2.1 == s with
 | false=>rfl
 | true =>
  have hx:=eq_of_beq hx
  have:(done.any fun z=>z == x.2.1)=false:=by
   rw [List.any_eq_false]
   intro z hz hzs
   have:=eq_of_beq hzs
   rw [hx] at this
   exact h (this ▸ hz)
  rw [this];rfl
theorem FJ (l:List ah.D) (done:List Int) (s:Int):(hU l done).filter (fun x=>!(x.2.1 == s))=hU l (done++[s]):=by
 unfold hU
 rw [List.filter_filter]
 refine List.filter_congr fun x _=>?_
 rw [List.any_append]
 simp only [List.any_cons,List.any_nil,Bool.or_false,Bool.not_or]
 rw [Bool.and_comm,show (x.2.1 == s)=(s == x.2.1) from Bool.eq_iff_iff.2 (by simp only [beq_iff_eq];exact eq_comm)]
theorem zU (l:List ah.D) (sides:List Int) (hl:l.length≤33554432) (hs:sides.length≤33554432) (hn:sides.Nodup):∀ (rem done cs:List Int) (out:List ah.D),sides=done++rem→cs.length≤33554432→out.length + (hU l done).length=l.length →
  aw (kY sides) (cs,out,hU l done,(done.length:Int))=some ((tx l rem cs).1,out++(tx l rem cs).2,hU l sides,(sides.length:Int))∧(out++(tx l rem cs).2).length + (hU l sides).length=l.length∧(tx l rem cs).1 <:+ cs
 | [],done,cs,out,e,hc,ho=>by
  simp only [List.append_nil] at e
  subst e
  refine ⟨bb ?_,by simpa [tx] using ho,List.suffix_refl _⟩
  unfold kY tx
  simp
 | s :: rem,done,cs,out,e,hc,ho=>by
  have hnd:s ∉ done:=by
   rw [e,List.nodup_append] at hn
   exact fun hm=>hn.2.2 s hm s (by simp) rfl
  have hlt:done.length < sides.length:=by rw [e];simp
  have hx:sides[done.length]?=some s:=by rw [e];simp
  have hkl:(hU l done).length≤l.length:=List.length_filter_le _ _
  have hown:=JE l done s hnd
  have hrest:=FJ l done s
  have hparts:=rF (fun x:ah.D=>x.2.1 == s) (hU l done)
  rw [hown,hrest] at hparts
  obtain ⟨p1,p2⟩:=uF _ cs (l.filter fun x=>x.2.1 == s) rfl
  have hpl:=p1.length_eq
  have hsl:=p2.length_le
  obtain ⟨i1,i2,i3⟩:=zU l sides hl hs hn rem (done++[s]) (eJ (l.filter fun x=>x.2.1 == s).length cs (l.filter fun x=>x.2.1 == s)).1 (out++(eJ (l.filter fun x=>x.2.1 == s).length cs (l.filter fun x=>x.2.1 == s)).2) (by rw [e];simp) (by omega) (by rw [List.length_append];omega)
  refine ⟨aS (s':=((eJ (l.filter fun x=>x.2.1 == s).length cs (l.filter fun x=>x.2.1 == s)).1,out++(eJ (l.filter fun x=>x.2.1 == s).length cs (l.filter fun x=>x.2.1 == s)).2,hU l (done++[s]),((done++[s]).length:Int))) ?_ ?_,?_,i3.trans p2⟩
  ·have hil:((done.length:Int) < (sides.length:Int)):=by omega
   unfold kY
   simp only [hil,decide_true,cond_true,aJ hx,Int.toNat_natCast,hx,Option.bind_some]
   rw [CC _ _ (by omega),hown,Option.bind_some,tw _ (by omega) (fun x=>x.2.1 == s) _ (fun x=>rfl),hrest,Option.bind_some,
    BE _ cs out _ rfl (by omega) (by omega) hc,Option.bind_some,aD (by omega) (by omega)]
   simp
  ·rw [i1]
   simp [tx]
  ·simpa [tx,List.append_assoc] using i2
theorem zV (l:List ah.D) (sides:List Int) (hl:l.length≤33554432) (hs:sides.length≤33554432) (hn:sides.Nodup):∀ (rem done cs:List Int) (out:List ah.D),sides=done++rem→cs.length≤33554432→out.length + (hU l done).length=l.length →
  aw (kO l sides) (out,cs,(done.length:Int))=some (out++(tx l rem cs).2,(tx l rem cs).1,(sides.length:Int))
 | [],done,cs,out,e,hc,ho=>by
  simp only [List.append_nil] at e
  subst e
  refine bb ?_
  unfold kO tx
  simp
 | s :: rem,done,cs,out,e,hc,ho=>by
  have hnd:s ∉ done:=by
   rw [e,List.nodup_append] at hn
   exact fun hm=>hn.2.2 s hm s (by simp) rfl
  have hlt:done.length < sides.length:=by rw [e];simp
  have hx:sides[done.length]?=some s:=by rw [e];simp
  have hkl:(hU l done).length≤l.length:=List.length_filter_le _ _
  have hown:=JE l done s hnd
  have hrest:=FJ l done s
  have hparts:=rF (fun x:ah.D=>x.2.1 == s) (hU l done)
  rw [hown,hrest] at hparts
  obtain ⟨p1,p2⟩:=uF _ cs (l.filter fun x=>x.2.1 == s) rfl
  have hpl:=p1.length_eq
  have hsl:=p2.length_le
  have i1:=zV l sides hl hs hn rem (done++[s]) (eJ (l.filter fun x=>x.2.1 == s).length cs (l.filter fun x=>x.2.1 == s)).1 (out++(eJ (l.filter fun x=>x.2.1 == s).length cs (l.filter fun x=>x.2.1 == s)).2) (by rw [e];simp) (by omega) (by rw [List.length_append];omega)
  refine aS (s':=(out++(eJ (l.filter fun x=>x.2.1 == s).length cs (l.filter fun x=>x.2.1 == s)).2,(eJ (l.filter fun x=>x.2.1 == s).length cs (l.filter fun x=>x.2.1 == s)).1,((done++[s]).length:Int))) ?_ ?_
  ·have hil:((done.length:Int) < (sides.length:Int)):=by omega
   unfold kO
   simp only [hil,decide_true,cond_true,aJ hx,Int.toNat_natCast,hx,Option.bind_some]
   rw [CB _ _ (by omega),Option.bind_some,BF _ cs out _ rfl (by omega) (by omega) hc,Option.bind_some,aD (by omega) (by omega)]
   simp
  ·rw [i1]
   simp [tx]
noncomputable def kw (s:ac.D) (l:List ah.D) (cs:List Int):List ah.D×List Int:=((tx l (cZ s) cs).2++hU l (cZ s),(tx l (cZ s) cs).1)
theorem JF (s:ac.D) (l:List ah.D) (cs:List Int) (hs:s.2.1.length≤33554432) (hl:l.length≤33554432) (hc:cs.length≤33554432) :
  mK s l cs=some ((kw s l cs).1,(kw s l cs).2,())∧m9 s l cs=some ((kw s l cs).1,(kw s l cs).2,())∧(kw s l cs).1.length=l.length∧(kw s l cs).2 <:+ cs:=by
 have hol:=Qd s
 have hk0:hU l []=l:=by unfold hU;simp
 have hn:=El s hs
 obtain ⟨h1,h2,h3⟩:=zU l (cZ s) hl (by omega) hn (cZ s) [] cs [] rfl hc (by rw [hk0];simp)
 have h4:=zV l (cZ s) hl (by omega) hn (cZ s) [] cs [] rfl hc (by rw [hk0];simp)
 simp only [List.nil_append,List.length_nil,hk0,Int.natCast_zero] at h1 h2 h4
 refine ⟨?_,?_,by unfold kw;simp only [List.length_append];exact h2,h3⟩
 ·unfold mK
  rw [if_pos (by simp only [aG,List.length_nil];omega),uD s hs,Option.bind_some,List.nil_append,h4,Option.bind_some]
  have key:aw (iv l (cZ s)) ((tx l (cZ s) cs).2,0)=some ((tx l (cZ s) cs).2++hU l (cZ s),(l.length:Int)):=by
   have:=(E0 l (body:=iv l (cZ s)) (fun (t:List ah.D) _ x=>t++(if (!((cZ s).any fun z=>z == x.2.1)) then [x] else [])) (fun i t=>t.length≤(tx l (cZ s) cs).2.length + i) (fun t=>t) (tx l (cZ s) cs).2 (by omega) (by omega) (fun t i x hI hx=>⟨?_,?_⟩) (fun t hI=>?_)).1
   ·rw [this,si (fun _ (x:ah.D)=>if (!((cZ s).any fun z=>z == x.2.1)) then [x] else []),i7]
    rfl
   ·have hlt:=(List.getElem?_eq_some_iff.1 hx).1
    have hil:((i:Int) < (l.length:Int)):=by omega
    unfold iv
    simp only [hil,decide_true,cond_true,aJ hx,Option.bind_some]
    rw [zT _ _ (by omega),Option.bind_some,if_pos (by simp only [aG,List.length_cons,List.length_nil];omega)]
    cases ((cZ s).any fun z=>z == x.2.1) <;> simp
   ·rw [List.length_append]
    split <;> simp <;> omega
   ·unfold iv;simp
  rw [key,Option.bind_some]
  rfl
 ·unfold m9 bH
  rw [if_pos (by simp only [aG,List.length_nil];omega),fi cs hc]
  simp only [Option.bind_some,List.nil_append,uE s hs,h1]
  rw [if_pos (by simp only [aG];omega)]
  rfl
theorem O0 (l:List Int) (a:Int) (h:l.length≤33554432):DI l a=some (l.any (fun x=>a == x)):=by
 unfold DI jR oI
 rw [d9 l (body:=gw l a) (fun x=>a == x) (fun i=>i) (by omega) (fun i x hx=>?_) ?_]
 ·rw [← FD]
  cases bS (fun x=>a == x) l <;> rfl
 ·unfold gw
  simp
 ·unfold gw
  have hlt:=(List.getElem?_eq_some_iff.1 hx).1
  have:((i:Int) < (l.length:Int)):=by omega
  simp only [this,decide_true,cond_true,aJ hx]
theorem Qe (n:Int) (h0:0≤n) (h1:n≤33554432):fg () n=some ([],()):=by
 unfold fg
 rw [bO h0]
 simp only [cond_false,Option.bind_some]
 have z:IntKind.wrap .i64 (0 - 0)=0:=aD (by omega) (by omega)
 rw [z,Int.sub_zero,aD (by omega) (by omega)]
 by_cases hn:n > 0
 ·rw [decide_eq_true hn]
  simp only [cond_true,Int.le_refl,if_true]
  rw [if_pos (by omega),if_pos hn,if_pos (by simp only [aG];omega),if_pos (by omega)]
  simp
 ·rw [decide_eq_false hn];rfl
theorem Rv (n:Int) (h0:0≤n) (h1:n≤33554432):fH () n=some ([],()):=by
 unfold fH
 rw [bO h0]
 simp only [cond_false,Option.bind_some]
 have z:IntKind.wrap .i64 (0 - 0)=0:=aD (by omega) (by omega)
 rw [z,Int.sub_zero,aD (by omega) (by omega)]
 by_cases hn:n > 0
 ·rw [decide_eq_true hn]
  simp only [cond_true,Int.le_refl,if_true]
  rw [if_pos (by omega),if_pos hn,if_pos (by simp only [aG];omega),if_pos (by omega)]
  simp
 ·rw [decide_eq_false hn];rfl
theorem Ne (a b:List ae.D) (h:a.length + b.length≤33554432):eD [a,b]=some (a++b):=by
 have i0:([a,b]:List (List ae.D))[0]?=some a:=rfl
 have i1:([a,b]:List (List ae.D))[1]?=some b:=rfl
 have e1:aw (cn [a,b]) (0,0)=some ((a.length:Int) + (b.length:Int),2):=by
  refine aS (s':=((a.length:Int),1)) ?_ (aS (s':=((a.length:Int) + (b.length:Int),2)) ?_ (bb ?_))
  ·unfold cn
   rw [decide_eq_true (by simp)]
   simp only [cond_true]
   rw [show ((0:Int))=((0:Nat):Int) from rfl,aJ i0]
   simp (disch:=omega) only [aD,bO,cond_false]
   first | (simp;done) | (simp;rw [bO (by omega)];rfl)
  ·unfold cn
   rw [decide_eq_true (by simp)]
   simp only [cond_true]
   rw [show ((1:Int))=((1:Nat):Int) from rfl,aJ i1]
   simp (disch:=omega) only [aD,bO,cond_false]
   first | (simp;done) | (simp;rw [bO (by omega)];rfl)
  ·unfold cn
   simp
 have e2:aw (cp [a,b]) ([],0)=some (a++b,2):=by
  refine aS (s':=(a,1)) ?_ (aS (s':=(a++b,2)) ?_ (bb ?_))
  ·unfold cp
   rw [decide_eq_true (by simp)]
   simp only [cond_true]
   rw [show ((0:Int))=((0:Nat):Int) from rfl,aJ i0]
   rw [if_pos (by simp only [aG,List.length_nil];omega)]
   simp (disch:=omega) only [aD]
   simp
  ·unfold cp
   rw [decide_eq_true (by simp)]
   simp only [cond_true]
   rw [show ((1:Int))=((1:Nat):Int) from rfl,aJ i1]
   rw [if_pos (by simp only [aG];omega)]
   simp (disch:=omega) only [aD]
   simp
  ·unfold cp
   simp
 unfold eD
 rw [e1,Option.bind_some]
 simp only
 rw [Qe _ (by omega) (by omega),Option.bind_some]
 simp only
 rw [e2,Option.bind_some]
theorem O1 (a b:List aA.D) (h:a.length + b.length≤33554432):eO [a,b]=some (a++b):=by
 have i0:([a,b]:List (List eK.D))[0]?=some a:=rfl
 have i1:([a,b]:List (List eK.D))[1]?=some b:=rfl
 have e1:aw (cA [a,b]) (0,0)=some ((a.length:Int) + (b.length:Int),2):=by
  refine aS (s':=((a.length:Int),1)) ?_ (aS (s':=((a.length:Int) + (b.length:Int),2)) ?_ (bb ?_))
  ·unfold cA
   rw [decide_eq_true (by simp)]
   simp only [cond_true]
   rw [show ((0:Int))=((0:Nat):Int) from rfl,aJ i0]
   simp (disch:=omega) only [aD,bO,cond_false]
   first | (simp;done) | (simp;rw [bO (by omega)];rfl)
  ·unfold cA
   rw [decide_eq_true (by simp)]
   simp only [cond_true]
   rw [show ((1:Int))=((1:Nat):Int) from rfl,aJ i1]
   simp (disch:=omega) only [aD,bO,cond_false]
   first | (simp;done) | (simp;rw [bO (by omega)];rfl)
  ·unfold cA
   simp
 have e2:aw (cB [a,b]) ([],0)=some ((a++b:List aA.D),2):=by
  refine aS (s':=(a,1)) ?_ (aS (s':=((a++b:List aA.D),2)) ?_ (bb ?_))
  ·unfold cB
   rw [decide_eq_true (by simp)]
   simp only [cond_true]
   rw [show ((0:Int))=((0:Nat):Int) from rfl,aJ i0]
   rw [if_pos (by simp only [aG,List.length_nil];omega)]
   simp (disch:=omega) only [aD]
   simp
  ·unfold cB
   rw [decide_eq_true (by simp)]
   simp only [cond_true]
   rw [show ((1:Int))=((1:Nat):Int) from rfl,aJ i1]
   rw [if_pos (by simp only [aG];omega)]
   simp (disch:=omega) only [aD]
   simp
  ·unfold cB
   simp
 unfold eO
 rw [e1,Option.bind_some]
 simp only
 rw [Rv _ (by omega) (by omega),Option.bind_some]
 simp only
 rw [e2,Option.bind_some]
theorem qL (xs:List aA.D) (h:okD (.slice aA) xs):gK xs=some xs:=by
 have hl:xs.length≤33554432:=h.1
 unfold gK
 rw [cM xs (fun _ x=>[x]) (fun s=>s) (fun _ _=>by simp) (by omega) (fun t i x hI hx=>?_) (fun t=>?_)]
 ·rw [Option.bind_some,jn];simp
 ·have hlt:=(List.getElem?_eq_some_iff.1 hx).1
  have hil:((i:Int) < (xs.length:Int)):=by omega
  have hle:=(h.2 x (List.mem_of_getElem? hx)).2.2.2.2.2.1.1
  unfold mQ bq
  simp only [hil,decide_true,cond_true,aJ hx,List.nil_append]
  rw [if_pos (by simp only [aG,List.length_nil];omega)]
  simp only [Option.bind_some]
  rw [if_pos (by simp only [aG,List.length_cons,List.length_nil];omega)]
 ·unfold mQ;simp
theorem xQ (xs:List aA.D) (h:okD (.slice aA) xs):j9 xs=some xs:=by
 have hl:xs.length≤33554432:=h.1
 unfold j9
 rw [cM xs (fun _ x=>[x]) (fun s=>s) (fun _ _=>by simp) (by omega) (fun t i x hI hx=>?_) (fun t=>?_)]
 ·rw [Option.bind_some,jn];simp
 ·have hlt:=(List.getElem?_eq_some_iff.1 hx).1
  have hil:((i:Int) < (xs.length:Int)):=by omega
  have hle:=(h.2 x (List.mem_of_getElem? hx)).2.2.2.2.2.1.1
  unfold ox wz
  simp only [hil,decide_true,cond_true,aJ hx,List.nil_append]
  rw [if_pos (by simp only [aG,List.length_nil];omega)]
  simp only [Option.bind_some]
  rw [if_pos (by simp only [aG,List.length_cons,List.length_nil];omega)]
 ·unfold ox;simp
theorem tz (f:bp.D) (h:okD bp f):jv f=some f:=by
 have h1:f.1.length≤33554432:=h.1.1
 have h3:f.2.2.1.length≤33554432:=h.2.2.1.1
 unfold jv
 rw [if_pos (by simp only [aG,List.length_nil];omega),ce _ h.2.1,Option.bind_some,if_pos (by simp only [aG,List.length_nil];omega),xQ _ h.2.2.2.1]
 rfl
theorem py:∀ (xs ys:List Int),xs.Nodup→(∀ x∈xs,x∈ys)→xs.length≤ys.length
 | [],_,_,_=>Nat.zero_le _
 | x :: xs,ys,h,hs=>by
  have hx:x∈ys:=hs x (List.mem_cons_self ..)
  obtain ⟨h1,h2⟩:=List.nodup_cons.1 h
  have:=py xs (ys.erase x) h2 (fun y hy=>by
   refine (List.mem_erase_of_ne ?_).2 (hs y (List.mem_cons_of_mem _ hy))
   intro e;subst e;exact h1 hy)
  rw [List.length_erase_of_mem hx] at this
  have:0 < ys.length:=List.length_pos_of_mem hx
  simp only [List.length_cons]
  omega
theorem O2 (out:List Int) (k:Nat) (x:Int):(out.take k++[x]++out.drop k).Perm (out++[x]):=by
 have h:(out.take k++([x]++out.drop k)).Perm (out.take k++(out.drop k++[x])):=List.Perm.append_left _ List.perm_append_comm
 have e:out.take k++(out.drop k++[x])=out++[x]:=by rw [← List.append_assoc,List.take_append_drop]
 rw [e] at h
 rw [List.append_assoc]
 exact h
theorem CD (l:List Int) (a:Int):l.any (fun x=>x == a)=decide (a∈l):=by
 by_cases h:a∈l
 ·rw [decide_eq_true h,List.any_eq_true];exact ⟨a,h,by simp⟩
 ·rw [decide_eq_false h,List.any_eq_false]
  intro x hx e
  have:x=a:=by simpa using e
  subst this;exact h hx
theorem O3 (l:List Int) (a:Int):l.any (fun x=>a == x)=decide (a∈l):=by
 rw [← CD]
 congr 1
 funext x
 exact Bool.beq_comm
theorem FK (s:ac.D) (e:ae.D) (h:s.1.length≤33554432):∃ t,jb s e=some t∧qd s e=some t:=by
 unfold jb qd aZ
 simp only [gx,dd,eV s _ h,fP s _ h,Option.bind_some]
 cases (e.2.2.1 == 0)
 ·simp only [cond_false]
  rcases iG s e.2.2.1 with h | ⟨k,x,h1,h2,_⟩
  ·rw [h];exact ⟨-1,rfl,rfl⟩
  ·rw [h1,bO (by omega)]
   simp only [cond_false,aJ h2]
   exact ⟨_,rfl,rfl⟩
 ·generalize (decide (0≤e.2.2.2.1) && decide (e.2.2.2.1≤IntKind.wrap .i64 ((s.2.1.length:Int) - 1)))=b
  cases b <;> exact ⟨_,rfl,rfl⟩
theorem JG (s:ac.D) (e:ae.D) (h:s.1.length≤33554432):∃ t,ic s e=some t∧rC s e=some t:=by
 obtain ⟨t,h1,h2⟩:=FK s e h
 unfold ic rC
 rw [h1,h2]
 simp only [Option.bind_some,bne]
 cases (t == -1) <;> exact ⟨_,rfl,rfl⟩
def O4 {α:Type} (p:α→Bool) (n:Int) (_:Nat) (x:α):Int:=if p x then n + 1 else n
theorem JH {α:Type} (p:α→Bool):∀ (xs:List α) (i:Nat) (n:Int),ee (O4 p) i xs n=n + ((xs.filter p).length:Int)
 | [],_,n=>by simp [ee]
 | x :: xs,i,n=>by
  unfold ee
  rw [JH p xs]
  unfold O4
  by_cases h:p x=true
  ·rw [if_pos h,List.filter_cons_of_pos h,List.length_cons];omega
  ·rw [if_neg h,List.filter_cons_of_neg h]
theorem JI {α:Type} (xs:List α) (hl:xs.length≤33554432) (p:α→Bool) {body:(Int×Int)→Option ((Int×Int)⊕(Int×Int))}
  (hb:∀ (n:Int) (i:Nat) x,0≤n→n≤i→xs[i]?=some x→body (n,(i:Int))=some (.inl (O4 p n i x,IntKind.wrap .i64 ((i:Int) + 1))))
  (he:∀ n,body (n,(xs.length:Int))=some (.inr (n,(xs.length:Int)))) :
  aw body (0,0)=some (((xs.filter p).length:Int),(xs.length:Int)):=by
 have:=(E0 xs (body:=body) (O4 p) (fun i n=>0≤n∧n≤i) (fun s=>s) 0 (by simp) (by omega) (fun n i x hI hx=>⟨hb n i x hI.1 hI.2 hx,by
  unfold O4;split <;> omega⟩) (fun n _=>he n)).1
 rw [this,JH]
 simp
def LJ (a:Int) (x:ai.D):Bool:=(x.2.2.2.1 == 2) && (x.2.2.1 == a) && x.2.2.2.2.2.2.2.2.2.2.2.2.1
def Gp (a:Int) (x:ai.D):Bool:=(x.2.2.2.1 == 2) && (x.2.2.1 == a)
theorem JJ (s:ac.D) (a:Int) (h:s.1.length≤33554432):uq s a=some ((s.1.filter (LJ a)).length:Int):=by
 unfold uq
 rw [JI s.1 h (LJ a) (fun n i x h0 h1 hx=>?_) (fun n=>by unfold sK;simp)]
 ·rfl
 ·have hlt:=(List.getElem?_eq_some_iff.1 hx).1
  have hil:((i:Int) < (s.1.length:Int)):=by omega
  have hw:IntKind.wrap .i64 (n + 1)=n + 1:=aD (by omega) (by omega)
  unfold sK O4 LJ
  simp only [hil,decide_true,cond_true,aJ hx,hw]
  cases (x.2.2.2.1 == 2) <;> cases (x.2.2.1 == a) <;> cases x.2.2.2.2.2.2.2.2.2.2.2.2.1 <;> rfl
theorem JK (s:ac.D) (a:Int) (h:s.1.length≤33554432):t9 s a=some ((s.1.filter (LJ a)).length:Int):=by
 unfold t9
 rw [JI s.1 h (LJ a) (fun n i x h0 h1 hx=>?_) (fun n=>by unfold sv;simp)]
 ·rfl
 ·have hlt:=(List.getElem?_eq_some_iff.1 hx).1
  have hil:((i:Int) < (s.1.length:Int)):=by omega
  have hw:IntKind.wrap .i64 (n + 1)=n + 1:=aD (by omega) (by omega)
  unfold sv O4 LJ
  simp only [hil,decide_true,cond_true,aJ hx,hw]
  cases (x.2.2.2.1 == 2) <;> cases (x.2.2.1 == a) <;> cases x.2.2.2.2.2.2.2.2.2.2.2.2.1 <;> rfl
end Go.Abs
