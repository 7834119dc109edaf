/- Part of a proof of FnGames: see the row. -/
import Derived.Test.YtenadnbpibhmiaaGreatGmGenGM2
import Derived.Test.YtenadnbpibhmiaaGreatGmAbsDeep
import Derived.Test.YtenadnbpibhmiaaGreatGmAbsDraw
set_option linter.unusedVariables false
set_option linter.unusedSimpArgs false
namespace Go.Abs
theorem gK (a b c:Int):aP a b c=some (decide (b≤a) && decide (a≤c)):=by
 unfold aP
 have:decide (a≥b)=decide (b≤a):=rfl
 simp only [this]
 cases decide (b≤a) <;> rfl
theorem bQ (a b c:Int):bo a b c=some (decide (b≤a) && decide (a≤c)):=by
 unfold bo
 have:decide (a≥b)=decide (b≤a):=rfl
 simp only [this]
 cases decide (b≤a) <;> rfl
def fG (n:Int):Int:=if n > 2147483647 then 2147483647 else if n < -2147483647 then -2147483647 else n
theorem vE (n:Int):dP n=some (fG n):=by
 unfold dP fG
 simp only [cond_eq_ite,decide_eq_true_eq]
 split <;> (try split) <;> rfl
theorem i6 (n:Int):cO n=some (fG n):=by
 unfold cO fG
 congr 1
 split <;> split <;> (try split) <;> (try split) <;> omega
def wn (a b:Int):Int:=fG (IntKind.wrap .i64 (fG a + fG b))
def yf (a b:Int):Int:=fG (IntKind.wrap .i64 (fG a - fG b))
theorem DT {c:Prop} [Decidable c] (a b:Bool):(if c then some a else some b)=some (if c then a else b):=by split <;> rfl
def eV (p:aj.D):Bool :=
 decide (1≤p.1) && decide (p.1≤99) && decide (0≤p.2.1) && decide (p.2.1≤2) && decide (0≤p.2.2.1) && decide (p.2.2.1≤2) && decide (1≤p.2.2.2.1) && decide (p.2.2.2.1≤4) && decide (0≤p.2.2.2.2.1) && decide (p.2.2.2.2.1≤9999) &&
 decide (0≤p.2.2.2.2.2.1) && decide (p.2.2.2.2.2.1≤999) && decide (0≤p.2.2.2.2.2.2.1) && decide (p.2.2.2.2.2.2.1≤999) && decide (0≤p.2.2.2.2.2.2.2.1) && decide (p.2.2.2.2.2.2.2.1≤63) && (
  if p.2.2.2.1=2 then decide (0≤p.2.2.2.2.2.2.2.2.1) && decide (p.2.2.2.2.2.2.2.2.1≤2147483647) && decide (0≤p.2.2.2.2.2.2.2.2.2.1) && decide (p.2.2.2.2.2.2.2.2.2.1≤2147483647) && decide (0≤p.2.2.2.2.2.2.2.2.2.2.1) && decide (p.2.2.2.2.2.2.2.2.2.2.1≤2147483647)
  else (p.2.2.1 == p.2.1) && (p.2.2.2.2.2.2.2.2.1 == 0) && (p.2.2.2.2.2.2.2.2.2.1 == 0) && (p.2.2.2.2.2.2.2.2.2.2.1 == 0) && !p.2.2.2.2.2.2.2.2.2.2.2.1 && !p.2.2.2.2.2.2.2.2.2.2.2.2.1)
theorem GK (p:aj.D):rz p=some (eV p):=by
 obtain ⟨i,o,sd,z,t,pw,tg,tr,pl,mi,mk,dl,bt,u⟩:=p
 unfold rz eV
 simp only [gK,Option.bind_some,cond_eq_ite,DT]
 congr 1
 rw [Bool.eq_iff_iff]
 by_cases h1:z=2
 ·subst h1;simp;grind
 ·simp [h1];grind
theorem GL (p:aj.D):rG p=some (eV p):=by
 obtain ⟨i,o,sd,z,t,pw,tg,tr,pl,mi,mk,dl,bt,u⟩:=p
 unfold rG eV cJ bl it qg iW bT
 simp only [bQ,Option.bind_some,cond_eq_ite,DT,bne]
 congr 1
 rw [Bool.eq_iff_iff]
 by_cases h1:z=2
 ·subst h1;simp;grind
 ·simp [h1];grind
def dm (x:aB.D):Bool:=decide (-2147483647≤x.1) && decide (x.1≤2147483647) && (decide (0≤x.2.1) && decide (x.2.1≤2147483647))
theorem IU (x:aB.D):uy x=some (dm x):=by
 unfold uy dm
 simp only [gK,Option.bind_some]
 cases (decide (-2147483647≤x.1) && decide (x.1≤2147483647)) <;> rfl
theorem DU (x:aB.D):jH x=some (!dm x):=by
 unfold jH dm bT
 simp only [i6,bQ,Option.bind_some]
 have:(fG x.1 != x.1)=!(decide (-2147483647≤x.1) && decide (x.1≤2147483647)):=by
  rw [Bool.eq_iff_iff];unfold fG;simp;grind
 rw [this]
 cases (decide (-2147483647≤x.1) && decide (x.1≤2147483647)) <;> rfl
def qC {α:Type} (p:Nat→α→Bool):Nat→List α→Bool
 | _,[]=>false
 | i,x :: r=>p i x || qC p (i + 1) r
theorem IV {α:Type} (p:Nat→α→Bool):∀ (xs:List α) (k:Nat),qC p k xs=false→∀ (i:Nat) x,xs[i]?=some x→p (k + i) x=false
 | [],_,_,i,x,hx=>by simp at hx
 | y :: xs,k,h,0,x,hx=>by
  simp only [qC,Bool.or_eq_false_iff] at h
  simp at hx
  subst hx
  exact h.1
 | y :: xs,k,h,i + 1,x,hx=>by
  simp only [qC,Bool.or_eq_false_iff] at h
  have:=IV p xs (k + 1) h.2 i x (by simpa using hx)
  rwa [show k + (i + 1)=k + 1 + i by omega]
theorem kM {α β:Type} (xs:List α) {body:Int→Option (Int⊕(Int⊕β))} (p:Nat→α→Bool) (v:β) (hlen:xs.length≤9223372036854775806)
  (hb:∀ (i:Nat) x,xs[i]?=some x→body i=bif p i x then some (.inr (.inr v)) else some (.inl (IntKind.wrap .i64 ((i:Int) + 1))))
  (he:body xs.length=some (.inr (.inl xs.length))) :
  ay body 0=some (bif qC p 0 xs then .inr v else .inl xs.length):=by
 have main:∀ (r:List α) (k:Nat),xs.drop k=r→k≤xs.length→ay body k=some (bif qC p k r then .inr v else .inl xs.length):=by
  intro r
  induction r with
  | nil =>
   intro k h hk
   have:k=xs.length:=by
    have:=congrArg List.length h
    simp at this
    omega
   subst this
   exact be he
  | cons x r ih =>
   intro k h hk
   have hlt:k < xs.length:=by
    have:=congrArg List.length h
    simp at this
    omega
   have hx:xs[k]?=some x:=by
    have:=congrArg (fun l=>l[0]?) h
    simpa using this
   have hr:xs.drop (k + 1)=r:=by
    have:=congrArg List.tail h
    simpa using this
   unfold qC
   cases hp:p k x with
   | true =>
    refine be ?_
    rw [hb k x hx,hp]
    rfl
   | false =>
    refine aW (s':=((k + 1:Nat):Int)) ?_ (ih (k + 1) hr hlt)
    rw [hb k x hx,hp]
    simp only [cond_false]
    rw [aA (by omega) (by omega)]
    rfl
 have:=main xs 0 rfl (by omega)
 simpa using this
theorem Aw {α:Type} (p:α→Bool):∀ (xs:List α) (k:Nat),qC (fun _ x=>p x) k xs=xs.any p
 | [],_=>rfl
 | x :: xs,k=>by simp [qC,Aw p xs]
theorem Fh {α:Type} (p:α→Bool) (xs:List α):decide ((match bZ p xs with | some k=>(k:Int) | none=>-1)≥0)=xs.any p:=by
 obtain ⟨h1,h2⟩:=fk p xs
 cases hf:bZ p xs with
 | none =>
  have:xs.any p=false:=by rw [List.any_eq_false];exact fun x hx=>by simp [h1 hf x hx]
  rw [this];rfl
 | some k =>
  obtain ⟨x,g1,g2,_⟩:=h2 k hf
  have:xs.any p=true:=by rw [List.any_eq_true];exact ⟨x,List.mem_of_getElem? g1,g2⟩
  rw [this]
  simp
def kN (s:ae.D) (i:Nat) (x:aj.D):Bool :=
 !eV x || decide (x.2.1≥(s.2.1.length:Int)) || decide (x.2.2.1≥(s.2.1.length:Int)) || decide (x.2.2.2.2.1 > s.2.2.2.1) || (decide (0 < i) && (s.1[i - 1]?).any (fun y=>decide (y.1≥x.1)))
def aV (s:ae.D):Bool :=
 decide ((s.1.length:Int)≤8) && (decide (2≤(s.2.1.length:Int)) && decide ((s.2.1.length:Int)≤3)) && (decide (0≤s.2.2.1) && decide (s.2.2.1≤(s.2.1.length:Int) - 1)) && (decide (0≤s.2.2.2.1) && decide (s.2.2.2.1≤9999)) && !qC (kN s) 0 s.1 && !s.2.1.any (fun x=>!dm x)
theorem IW {s:ae.D} {i:Nat} {x:aj.D} (hx:s.1[i]?=some x) (hl:s.1.length≤33554432) {R:Type} (κ:aj.D→Option R) (h:0 < i):∃ y,s.1[i - 1]?=some y∧idx s.1 (IntKind.wrap .i64 ((i:Int) - 1)) κ=κ y:=by
 have hlt:=(List.getElem?_eq_some_iff.1 hx).1
 have hy:s.1[i - 1]?=some (s.1[i - 1]'(by omega)):=List.getElem?_eq_getElem (by omega)
 refine ⟨_,hy,?_⟩
 rw [aA (by omega) (by omega),show ((i:Int) - 1)=((i - 1:Nat):Int) by omega]
 exact aJ hy
theorem Bz {x:aj.D} (h:eV x=true):0≤x.2.1∧0≤x.2.2.1:=by
 unfold eV at h
 simp only [Bool.and_eq_true,decide_eq_true_eq] at h
 exact ⟨h.1.1.1.1.1.1.1.1.1.1.1.1.1.1.2,h.1.1.1.1.1.1.1.1.1.1.1.1.2⟩
theorem Qx {a n:Int} (h:0≤a):(decide (0≤a) && decide (a≤n - 1))=!decide (a≥n):=by
 by_cases hh:a≥n
 ·rw [decide_eq_true hh,decide_eq_false (p:=a≤n - 1) (by omega),Bool.and_false];rfl
 ·rw [decide_eq_false hh,decide_eq_true (p:=a≤n - 1) (by omega),decide_eq_true h];rfl
theorem PK (xs:List aB.D) (hl:xs.length≤33554432) (p:aB.D→Bool) (q:(aB.D×Unit)→Option Bool) (hq:∀ x,q (x,())=some (p x)) :
  dR xs q=some (match bZ p xs with | some k=>(k:Int) | none=>-1):=by
 unfold dR
 rw [eG xs (body:=de xs q) p (fun i=>i) (by omega) (fun i x hx=>?_) ?_]
 ·cases bZ p xs <;> rfl
 ·unfold de
  simp
 ·unfold de
  have hlt:=(List.getElem?_eq_some_iff.1 hx).1
  have:((i:Int) < (xs.length:Int)):=by omega
  simp only [this,decide_true,cond_true,aJ hx,hq,Option.bind_some]
theorem eh (s:ae.D) (hp:s.1.length≤33554432) (hs:s.2.1.length≤33554432):dO s=some (aV s):=by
 unfold dO aV
 simp only [gK,Option.bind_some]
 rw [aA (by omega) (by omega)]
 have hd:decide ((s.1.length:Int) > 8)=!decide ((s.1.length:Int)≤8):=by rw [Bool.eq_iff_iff];simp
 rw [hd]
 cases decide ((s.1.length:Int)≤8)
 ·rfl
 cases (decide (2≤(s.2.1.length:Int)) && decide ((s.2.1.length:Int)≤3))
 ·rfl
 cases (decide (0≤s.2.2.1) && decide (s.2.2.1≤(s.2.1.length:Int) - 1))
 ·rfl
 cases (decide (0≤s.2.2.2.1) && decide (s.2.2.2.1≤9999))
 ·rfl
 simp only [Bool.not_true,cond_false,Option.bind_some,Bool.true_and]
 rw [kM s.1 (body:=kY s) (kN s) false (by omega) (fun i x hx=>?_) (by unfold kY;simp)]
 ·rw [kM s.2.1 (body:=kZ s) (fun _ x=>!dm x) false (by omega) (fun i x hx=>?_) (by unfold kZ;simp),Aw]
  ·cases qC (kN s) 0 s.1 <;> cases s.2.1.any (fun x=>!dm x) <;> rfl
  ·have hlt:=(List.getElem?_eq_some_iff.1 hx).1
   have hil:((i:Int) < (s.2.1.length:Int)):=by omega
   unfold kZ
   simp only [hil,decide_true,cond_true,aJ hx,IU,Option.bind_some]
 ·have hlt:=(List.getElem?_eq_some_iff.1 hx).1
  have hil:((i:Int) < (s.1.length:Int)):=by omega
  unfold kY kN
  simp only [hil,decide_true,cond_true,aJ hx,GK,Option.bind_some]
  by_cases hi:0 < i
  ·obtain ⟨y,hy,hk⟩:=IW hx hp (fun x8=>bif decide (x8.1≥x.1) then some true else bif decide (x.2.1≥(s.2.1.length:Int)) then some true else bif decide (x.2.2.1≥(s.2.1.length:Int)) then some true else some (decide (x.2.2.2.2.1 > s.2.2.2.1))) hi
   have h1:decide ((i:Int) > 0)=true:=by simp;omega
   have h2:decide (0 < i)=true:=by simpa using hi
   rw [h1,h2,hy]
   simp only [cond_true,hk,Option.any_some]
   cases eV x <;> cases decide (y.1≥x.1) <;> cases decide (x.2.1≥(s.2.1.length:Int)) <;> cases decide (x.2.2.1≥(s.2.1.length:Int)) <;> cases decide (x.2.2.2.2.1 > s.2.2.2.1) <;> rfl
  ·have h1:decide ((i:Int) > 0)=false:=by simp;omega
   have h2:decide (0 < i)=false:=by simpa using hi
   rw [h1,h2]
   simp only [cond_false]
   cases eV x <;> cases decide (x.2.1≥(s.2.1.length:Int)) <;> cases decide (x.2.2.1≥(s.2.1.length:Int)) <;> cases decide (x.2.2.2.2.1 > s.2.2.2.1) <;> rfl
theorem ej (s:ae.D) (hp:s.1.length≤33554432) (hs:s.2.1.length≤33554432):dS s=some (aV s):=by
 unfold dS aV bc qg
 simp only [bQ,Option.bind_some]
 rw [aA (by omega) (by omega)]
 have hd:decide ((s.1.length:Int) > 8)=!decide ((s.1.length:Int)≤8):=by rw [Bool.eq_iff_iff];simp
 rw [hd]
 cases decide ((s.1.length:Int)≤8)
 ·rfl
 cases (decide (2≤(s.2.1.length:Int)) && decide ((s.2.1.length:Int)≤3))
 ·rfl
 cases (decide (0≤s.2.2.1) && decide (s.2.2.1≤(s.2.1.length:Int) - 1))
 ·rfl
 cases (decide (0≤s.2.2.2.1) && decide (s.2.2.2.1≤9999))
 ·rfl
 simp only [Bool.not_true,cond_false,Option.bind_some,Bool.true_and]
 have hc:df s.2.1 (fun q=>jH q.1)=some (s.2.1.any (fun x=>!dm x)):=by
  unfold df
  rw [PK s.2.1 hs (fun x=>!dm x) _ (fun x=>DU x),Option.bind_some,Fh]
 rw [kM s.1 (body:=ln s) (kN s) false (by omega) (fun i x hx=>?_) (by unfold ln;simp)]
 ·rw [hc]
  cases qC (kN s) 0 s.1 <;> cases s.2.1.any (fun x=>!dm x) <;> rfl
 ·have hlt:=(List.getElem?_eq_some_iff.1 hx).1
  have hil:((i:Int) < (s.1.length:Int)):=by omega
  unfold ln kN bc
  simp only [hil,decide_true,cond_true,aJ hx,GL,bQ,Option.bind_some]
  rw [aA (n:=(s.2.1.length:Int) - 1) (by omega) (by omega)]
  cases hok:eV x
  ·rfl
  obtain ⟨g1,g2⟩:=Bz hok
  have e1:(decide (0≤x.2.1) && decide (x.2.1≤(s.2.1.length:Int) - 1))=!decide (x.2.1≥(s.2.1.length:Int)):=Qx g1
  have e2:(decide (0≤x.2.2.1) && decide (x.2.2.1≤(s.2.1.length:Int) - 1))=!decide (x.2.2.1≥(s.2.1.length:Int)):=Qx g2
  rw [e1,e2]
  by_cases hi:0 < i
  ·obtain ⟨y,hy,hk⟩:=IW hx hp (fun x10=>some (decide (x10.1≥x.1))) hi
   have h1:decide ((i:Int) > 0)=true:=by simp;omega
   have h2:decide (0 < i)=true:=by simpa using hi
   rw [h1,h2,hy]
   simp only [cond_true,hk,Option.any_some]
   cases decide (y.1≥x.1) <;> cases decide (x.2.1≥(s.2.1.length:Int)) <;> cases decide (x.2.2.1≥(s.2.1.length:Int)) <;> cases decide (x.2.2.2.2.1 > s.2.2.2.1) <;> rfl
  ·have h1:decide ((i:Int) > 0)=false:=by simp;omega
   have h2:decide (0 < i)=false:=by simpa using hi
   rw [h1,h2]
   simp only [cond_false]
   cases decide (x.2.1≥(s.2.1.length:Int)) <;> cases decide (x.2.2.1≥(s.2.1.length:Int)) <;> cases decide (x.2.2.2.2.1 > s.2.2.2.1) <;> rfl
def aM (e:ah.D):Bool :=
 let piece:=decide (1≤e.2.2.1) && decide (e.2.2.1≤99) && (e.2.2.2.1 == -1)
 let side:=(e.2.2.1 == 0) && decide (0≤e.2.2.2.1) && decide (e.2.2.2.1≤2)
 decide (0≤e.2.2.2.2.1) && decide (e.2.2.2.2.1≤2147483647) && (
  if e.1=1 then decide (1≤e.2.1) && decide (e.2.1≤99) && (piece || side) && (e.2.2.2.2.2.1 == 0) && !e.2.2.2.2.2.2.1
  else if e.1=2 then (e.2.1 == 0) && piece && decide (1≤e.2.2.2.2.2.1) && decide (e.2.2.2.2.2.1≤4) && decide (e.2.2.2.2.1≤99) && ((e.2.2.2.2.2.1 == 2) || (e.2.2.2.2.1 == 0) && !e.2.2.2.2.2.2.1)
  else if e.1=3∨e.1=4 then (e.2.1 == 0) && side && (e.2.2.2.2.2.1 == 0) && !e.2.2.2.2.2.2.1
  else if e.1=5∨e.1=6 then (e.2.1 == 0) && piece && (e.2.2.2.2.2.1 == 0) && !e.2.2.2.2.2.2.1
  else false)
theorem bX (e:ah.D):cF e=some (aM e):=by
 obtain ⟨k,s,p,d,n,z,bt,u⟩:=e
 unfold cF aM
 simp only [gK,Option.bind_some,cond_eq_ite,DT]
 congr 1
 rw [Bool.eq_iff_iff]
 by_cases h1:k=1
 ·subst h1;simp;grind
 by_cases h2:k=2
 ·subst h2;simp;grind
 by_cases h3:k=3
 ·subst h3;simp;grind
 by_cases h4:k=4
 ·subst h4;simp;grind
 by_cases h5:k=5
 ·subst h5;simp;grind
 by_cases h6:k=6
 ·subst h6;simp;grind
 simp [h1,h2,h3,h4,h5,h6]
theorem bO (e:ah.D):cn e=some (aM e):=by
 obtain ⟨k,s,p,d,n,z,bt,u⟩:=e
 unfold cn aM bT jX pK cJ it bl
 simp only [bQ,Option.bind_some,cond_eq_ite,DT,bne]
 congr 1
 rw [Bool.eq_iff_iff]
 by_cases h1:k=1
 ·subst h1;simp;grind
 by_cases h2:k=2
 ·subst h2;simp;grind
 by_cases h3:k=3
 ·subst h3;simp;grind
 by_cases h4:k=4
 ·subst h4;simp;grind
 by_cases h5:k=5
 ·subst h5;simp;grind
 by_cases h6:k=6
 ·subst h6;simp;grind
 simp [h1,h2,h3,h4,h5,h6]
theorem BA {k s p d n z:Int} {bt:Bool} {u:Unit} (h:aM (k,s,p,d,n,z,bt,u)=true) :
  (k=1∧(1≤p∨p=0∧0≤d))∨(k=2∧1≤p)∨((k=3∨k=4)∧p=0∧0≤d)∨((k=5∨k=6)∧1≤p):=by
 unfold aM at h
 by_cases h1:k=1
 ·subst h1;simp at h;grind
 by_cases h2:k=2
 ·subst h2;simp at h;grind
 by_cases h3:k=3
 ·subst h3;simp at h;grind
 by_cases h4:k=4
 ·subst h4;simp at h;grind
 by_cases h5:k=5
 ·subst h5;simp at h;grind
 by_cases h6:k=6
 ·subst h6;simp at h;grind
 simp [h1,h2,h3,h4,h5,h6] at h
theorem Om (xs:List ah.D) (hl:xs.length≤33554432) (p:ah.D→Bool) (q:(ah.D×Unit)→Option Bool) (hq:∀ x,q (x,())=some (p x)) :
  bD xs q=some (match bZ p xs with | some k=>(k:Int) | none=>-1):=by
 unfold bD
 rw [eG xs (body:=bp xs q) p (fun i=>i) (by omega) (fun i x hx=>?_) ?_]
 ·cases bZ p xs <;> rfl
 ·unfold bp
  simp
 ·unfold bp
  have hlt:=(List.getElem?_eq_some_iff.1 hx).1
  have:((i:Int) < (xs.length:Int)):=by omega
  simp only [this,decide_true,cond_true,aJ hx,hq,Option.bind_some]
theorem ig (xs:List ah.D) (hl:xs.length≤33554432) (p:ah.D→Bool) (q:(ah.D×Unit)→Option Bool) (hq:∀ x,q (x,())=some (p x)) :
  aU xs q=some (xs.any p):=by
 unfold aU
 rw [Om xs hl p q hq,Option.bind_some]
 obtain ⟨h1,h2⟩:=fk p xs
 cases hf:bZ p xs with
 | none =>
  have:xs.any p=false:=by rw [List.any_eq_false];exact fun x hx=>by simp [h1 hf x hx]
  rw [this];rfl
 | some k =>
  obtain ⟨x,g1,g2,_⟩:=h2 k hf
  have:xs.any p=true:=by rw [List.any_eq_true];exact ⟨x,List.mem_of_getElem? g1,g2⟩
  rw [this]
  simp
theorem i7 {α:Type} {c:Prop} [Decidable c] (a b:α):(if c then some a else some b)=some (if c then a else b):=by split <;> rfl
def eC (e:ah.D):Bool:=aM e || ((e.1 != 2) && (e.2.2.2.2.1 == -1) && aM (e.1,e.2.1,e.2.2.1,e.2.2.2.1,0,e.2.2.2.2.2))
theorem tJ (e:ah.D):uL e=some (eC e):=by
 unfold uL eC
 simp only [bO,Option.bind_some]
 cases aM e <;> cases (e.1 != 2) <;> cases (e.2.2.2.2.1 == -1) <;> rfl
theorem ML (e:ah.D):uv e=some (eC e):=by
 unfold uv eC
 simp only [bX,Option.bind_some]
 cases h:(e.2.2.2.2.1 == -1)
 ·simp
 ·have:aM e=false:=by
   unfold aM
   have h1:e.2.2.2.2.1=-1:=by simpa using h
   have:decide (0≤e.2.2.2.2.1)=false:=by rw [h1];rfl
   rw [this];rfl
  rw [this]
  cases hk:(e.1 != 2) <;> simp [this,bX]
theorem ST (a:bR.D) (hl:a.2.2.2.2.2.2.1.length≤33554432):ay (kC a) 0=some (bif a.2.2.2.2.2.2.1.any (fun e=>!eC e) then .inr false else .inl (a.2.2.2.2.2.2.1.length:Int)):=by
 rw [kM a.2.2.2.2.2.2.1 (body:=kC a) (fun _ e=>!eC e) false (by omega) (fun i x hx=>?_) (by unfold kC;simp),Aw]
 have hlt:=(List.getElem?_eq_some_iff.1 hx).1
 have hil:((i:Int) < (a.2.2.2.2.2.2.1.length:Int)):=by omega
 unfold kC
 simp only [hil,decide_true,cond_true,aJ hx,ML,Option.bind_some]
theorem Q5 (k n p s z:Int) (bt:Bool) (L:List ah.D) (u:Unit) (hl:L.length≤33554432):∃ b,sO (k,n,p,s,z,bt,L,u)=some b∧bE (k,n,p,s,z,bt,L,u)=some b:=by
 have hW:=ST (k,n,p,s,z,bt,L,u) hl
 have hC:aU L (fun q=>gn q.1)=some (L.any (fun e=>!eC e)):=ig L hl (fun e=>!eC e) _ (fun x=>by simp only [gn,tJ,Option.bind_some])
 simp only at hW
 unfold sO bE ru cJ bl it
 simp only [hW,hC,gK,bQ,Option.bind_some]
 have hz:((L.length:Int) == 0)=!decide ((L.length:Int) > 0):=by
  by_cases h:(L.length:Int) > 0
  ·rw [decide_eq_true h];simp only [Bool.not_true];rw [beq_eq_false_iff_ne];omega
  ·rw [decide_eq_false h];simp only [Bool.not_false];rw [beq_iff_eq];omega
 simp only [hz,bne]
 clear hW hC hz
 generalize L.any (fun e=>!eC e)=q
 generalize hM:(decide (1≤(L.length:Int)) && decide ((L.length:Int)≤3))=m3
 generalize decide ((L.length:Int) > 0)=m0
 by_cases h1:k=1
 ·subst h1
  simp only [Int.reduceBEq,beq_self_eq_true,cond_true,cond_false,Option.bind_some,Bool.not_true,Bool.not_false]
  cases (n == 0) <;> cases (p == 0) <;> cases (s == -1) <;> cases (z == 0) <;> cases bt <;> cases m0 <;> exact ⟨_,rfl,rfl⟩
 by_cases h2:k=2
 ·subst h2
  simp only [Int.reduceBEq,beq_self_eq_true,cond_true,cond_false,Option.bind_some,Bool.not_true,Bool.not_false]
  cases (n == 0) <;> cases (p == 0) <;> cases (s == -1) <;> cases (z == 0) <;> cases bt <;> cases m0 <;> exact ⟨_,rfl,rfl⟩
 by_cases h3:k=3
 ·subst h3
  simp only [Int.reduceBEq,beq_self_eq_true,cond_true,cond_false,Option.bind_some,Bool.not_true,Bool.not_false]
  cases (decide (1≤n) && decide (n≤2147483647)) <;> cases (p == 0) <;> cases (s == -1) <;> cases (z == 0) <;> cases bt <;> cases m0 <;> exact ⟨_,rfl,rfl⟩
 by_cases h4:k=4
 ·subst h4
  simp only [Int.reduceBEq,beq_self_eq_true,cond_true,cond_false,Option.bind_some,Bool.not_true,Bool.not_false]
  cases (n == 0) <;> cases (p == 0) <;> cases (s == -1) <;> cases (z == 0) <;> cases bt <;> cases m0 <;> exact ⟨_,rfl,rfl⟩
 by_cases h5:k=5
 ·subst h5
  simp only [Int.reduceBEq,beq_self_eq_true,cond_true,cond_false,Option.bind_some,Bool.not_true,Bool.not_false]
  cases (n == 0) <;> cases (p == 0) <;> cases (s == -1) <;> cases (z == 0) <;> cases bt <;> cases m0 <;> exact ⟨_,rfl,rfl⟩
 by_cases h6:k=6
 ·subst h6
  simp only [Int.reduceBEq,beq_self_eq_true,cond_true,cond_false,Option.bind_some,Bool.not_true,Bool.not_false]
  cases (n == 0) <;> cases (p == 0) <;> cases (s == -1) <;> cases (z == 0) <;> cases bt <;> cases m0 <;> cases (decide (1≤p) && decide (p≤99)) <;> cases (decide (0≤s) && decide (s≤2)) <;> exact ⟨_,rfl,rfl⟩
 by_cases h7:k=7
 ·subst h7
  simp only [Int.reduceBEq,beq_self_eq_true,cond_true,cond_false,Option.bind_some,Bool.not_true,Bool.not_false]
  cases (n == 0) <;> cases (p == 0) <;> cases (s == -1) <;> cases bt <;> cases m0 <;> cases (decide (1≤z) && decide (z≤4)) <;> exact ⟨_,rfl,rfl⟩
 by_cases h8:k=8
 ·subst h8
  simp only [Int.reduceBEq,beq_self_eq_true,cond_true,cond_false,Option.bind_some,Bool.not_true,Bool.not_false]
  cases (decide (0≤n) && decide (n≤99)) <;> cases (p == 0) <;> cases (s == -1) <;> cases (z == 0) <;> cases m0 <;> exact ⟨_,rfl,rfl⟩
 by_cases h9:k=9
 ·subst h9
  simp only [Int.reduceBEq,beq_self_eq_true,cond_true,cond_false,Option.bind_some,Bool.not_true,Bool.not_false]
  cases (n == 0) <;> cases (p == 0) <;> cases (s == -1) <;> cases (z == 0) <;> cases bt <;> cases m3 <;> cases q <;> exact ⟨_,rfl,rfl⟩
 have e1:(k == 1)=false:=by rw [beq_eq_false_iff_ne];exact h1
 have e2:(k == 2)=false:=by rw [beq_eq_false_iff_ne];exact h2
 have e3:(k == 3)=false:=by rw [beq_eq_false_iff_ne];exact h3
 have e4:(k == 4)=false:=by rw [beq_eq_false_iff_ne];exact h4
 have e5:(k == 5)=false:=by rw [beq_eq_false_iff_ne];exact h5
 have e6:(k == 6)=false:=by rw [beq_eq_false_iff_ne];exact h6
 have e7:(k == 7)=false:=by rw [beq_eq_false_iff_ne];exact h7
 have e8:(k == 8)=false:=by rw [beq_eq_false_iff_ne];exact h8
 have e9:(k == 9)=false:=by rw [beq_eq_false_iff_ne];exact h9
 simp only [e1,e2,e3,e4,e5,e6,e7,e8,e9,cond_true,cond_false,Option.bind_some,Bool.not_true,Bool.not_false]
 cases (n == 0) <;> cases (p == 0) <;> cases (s == -1) <;> cases (z == 0) <;> cases bt <;> cases m0 <;> exact ⟨_,rfl,rfl⟩
theorem zW (a:bR.D) (hl:a.2.2.2.2.2.2.1.length≤33554432):∃ b,sO a=some b∧bE a=some b :=
 Q5 a.1 a.2.1 a.2.2.1 a.2.2.2.1 a.2.2.2.2.1 a.2.2.2.2.2.1 a.2.2.2.2.2.2.1 a.2.2.2.2.2.2.2 hl
theorem ku {a b:Int} (h:¬ a=b):(a == b)=false:=by rw [beq_eq_false_iff_ne];exact h
theorem iL (a:bR.D) (k:Int):∃ b,gj a k=some b∧bG a k=some b:=by
 unfold gj bG iu
 simp only [gK,bQ,Option.bind_some]
 generalize (decide (1≤k) && decide (k≤6))=m
 cases m
 ·exact ⟨_,rfl,rfl⟩
 by_cases h1:a.1=1
 ·rw [h1];exact ⟨_,rfl,rfl⟩
 by_cases h2:a.1=2
 ·rw [h2];exact ⟨_,rfl,rfl⟩
 by_cases h3:a.1=3
 ·rw [h3];exact ⟨_,rfl,rfl⟩
 by_cases h4:a.1=4
 ·rw [h4];exact ⟨_,rfl,rfl⟩
 by_cases h5:a.1=5
 ·rw [h5];exact ⟨_,rfl,rfl⟩
 by_cases h6:a.1=6
 ·rw [h6];exact ⟨_,rfl,rfl⟩
 by_cases h7:a.1=7
 ·rw [h7];exact ⟨_,rfl,rfl⟩
 by_cases h8:a.1=8
 ·rw [h8];exact ⟨_,rfl,rfl⟩
 by_cases h9:a.1=9
 ·rw [h9];exact ⟨_,rfl,rfl⟩
 refine ⟨false,?_,?_⟩ <;> simp only [ku h1,ku h2,ku h3,ku h4,ku h5,ku h6,ku h7,ku h8,ku h9,cond_true,cond_false,Option.bind_some,Bool.not_true,Bool.not_false]
theorem Q6 (k c so tr pc am z:Int) (u:Unit):∃ b,oH (k,c,so,tr,pc,am,z,u)=some b∧fS (k,c,so,tr,pc,am,z,u)=some b:=by
 unfold oH fS iu iW bT
 simp only [gK,bQ,Option.bind_some,cond_eq_ite,i7]
 refine ⟨_,rfl,?_⟩
 congr 1
 rw [Bool.eq_iff_iff]
 simp
 grind
theorem wo (p:dr.D):∃ b,oH p=some b∧fS p=some b:=Q6 p.1 p.2.1 p.2.2.1 p.2.2.2.1 p.2.2.2.2.1 p.2.2.2.2.2.1 p.2.2.2.2.2.2.1 p.2.2.2.2.2.2.2
theorem On (k n:Int) (u:Unit):∃ b,jR (k,n,u)=some b∧dU (k,n,u)=some b:=by
 unfold jR dU
 simp only [gK,bQ,i6,Option.bind_some,cond_eq_ite,i7]
 refine ⟨_,rfl,?_⟩
 congr 1
 rw [Bool.eq_iff_iff]
 unfold fG
 simp
 grind
theorem ph (p:bU.D):∃ b,jR p=some b∧dU p=some b:=On p.1 p.2.1 p.2.2
theorem FU (x:aa.D) (hl:x.2.2.2.2.2.2.1.2.2.2.2.2.2.1.length≤33554432):∃ b,gD x=some b∧cy x=some b:=by
 obtain ⟨b1,p1,q1⟩:=wo x.2.2.2.2.1
 obtain ⟨b2,p2,q2⟩:=ph x.2.2.2.2.2.1
 obtain ⟨b3,p3,q3⟩:=zW x.2.2.2.2.2.2.1 hl
 obtain ⟨b4,p4,q4⟩:=iL x.2.2.2.2.2.2.1 x.2.2.2.2.1.1
 unfold gD cy cJ bl
 simp only [p1,p2,p3,p4,q1,q2,q3,q4,gK,bQ,Option.bind_some]
 simp only [cond_eq_ite,i7,Option.bind_some]
 refine ⟨_,rfl,?_⟩
 congr 1
 rw [Bool.eq_iff_iff]
 generalize x.2.2.2.2.2.2.1.1=ak
 generalize x.1=i
 generalize x.2.1=ow
 generalize x.2.2.1=so
 generalize x.2.2.2.1=du
 generalize x.2.2.2.2.2.2.2.1=co
 generalize x.2.2.2.2.2.2.2.2.1=on
 clear p1 p2 p3 p4 q1 q2 q3 q4 hl
 simp
 grind
noncomputable def aS (x:aa.D):Bool:=(cy x).getD false
theorem cW (x:aa.D) (hl:x.2.2.2.2.2.2.1.2.2.2.2.2.2.1.length≤33554432):cy x=some (aS x):=by
 obtain ⟨b,_,h⟩:=FU x hl
 unfold aS;rw [h];rfl
theorem pi (x:aa.D) (hl:x.2.2.2.2.2.2.1.2.2.2.2.2.2.1.length≤33554432):gD x=some (aS x):=by
 obtain ⟨b,h1,h⟩:=FU x hl
 unfold aS;rw [h,h1];rfl
noncomputable def cX (xs:List aa.D) (i:Nat) (x:aa.D):Bool:=!aS x || (decide (0 < i) && (xs[i - 1]?).any (fun y=>decide (y.1≥x.1)))
theorem Qy {α R:Type} {xs:List α} {i:Nat} {x:α} (hx:xs[i]?=some x) (hl:xs.length≤33554432) (κ:α→Option R) (h:0 < i):∃ y,xs[i - 1]?=some y∧idx xs (IntKind.wrap .i64 ((i:Int) - 1)) κ=κ y:=by
 have hlt:=(List.getElem?_eq_some_iff.1 hx).1
 have hy:xs[i - 1]?=some (xs[i - 1]'(by omega)):=List.getElem?_eq_getElem (by omega)
 refine ⟨_,hy,?_⟩
 rw [aA (by omega) (by omega),show ((i:Int) - 1)=((i - 1:Nat):Int) by omega]
 exact aJ hy
theorem lC (xs:List aa.D) (h:okD (.slice aa) xs):gm xs=some (!qC (cX xs) 0 xs && decide ((xs.length:Int)≤5)):=by
 have hl:xs.length≤33554432:=h.1
 unfold gm
 rw [kM xs (body:=la xs) (cX xs) false (by omega) (fun i x hx=>?_) (by unfold la;simp)]
 ·cases qC (cX xs) 0 xs <;> rfl
 ·have hlt:=(List.getElem?_eq_some_iff.1 hx).1
  have hil:((i:Int) < (xs.length:Int)):=by omega
  have hok:=(h.2 x (List.mem_of_getElem? hx)).2.2.2.2.2.2.1.2.2.2.2.2.2.1.1
  unfold la cX
  simp only [hil,decide_true,cond_true,aJ hx,pi x hok,Option.bind_some]
  by_cases hi:0 < i
  ·obtain ⟨y,hy,hk⟩:=Qy hx hl (fun x4=>some (decide (x4.1≥x.1))) hi
   rw [decide_eq_true (p:=(i:Int) > 0) (by omega),decide_eq_true hi,hy]
   simp only [cond_true,hk,Option.any_some]
   cases aS x <;> cases decide (y.1≥x.1) <;> rfl
  ·rw [decide_eq_false (p:=(i:Int) > 0) (by omega),decide_eq_false hi]
   cases aS x <;> rfl
theorem lD (xs:List aa.D) (h:okD (.slice aa) xs):go xs=some (!qC (cX xs) 0 xs && decide ((xs.length:Int)≤5)):=by
 have hl:xs.length≤33554432:=h.1
 unfold go
 rw [kM xs (body:=lq xs) (cX xs) false (by omega) (fun i x hx=>?_) (by unfold lq;simp)]
 ·cases qC (cX xs) 0 xs <;> rfl
 ·have hlt:=(List.getElem?_eq_some_iff.1 hx).1
  have hil:((i:Int) < (xs.length:Int)):=by omega
  have hok:=(h.2 x (List.mem_of_getElem? hx)).2.2.2.2.2.2.1.2.2.2.2.2.2.1.1
  unfold lq cX
  simp only [hil,decide_true,cond_true,aJ hx,cW x hok,Option.bind_some]
  by_cases hi:0 < i
  ·obtain ⟨y,hy,hk⟩:=Qy hx hl (fun x4=>some (decide (x4.1≥x.1))) hi
   rw [decide_eq_true (p:=(i:Int) > 0) (by omega),decide_eq_true hi,hy]
   simp only [cond_true,hk,Option.any_some]
   cases aS x <;> cases decide (y.1≥x.1) <;> rfl
  ·rw [decide_eq_false (p:=(i:Int) > 0) (by omega),decide_eq_false hi]
   cases aS x <;> rfl
theorem Q7 (x:aF.D) (hl:x.2.2.2.2.2.1.length≤33554432):ay (jE x) 0=some (bif x.2.2.2.2.2.1.any (fun e=>!aM e) then .inr false else .inl (x.2.2.2.2.2.1.length:Int)):=by
 rw [kM x.2.2.2.2.2.1 (body:=jE x) (fun _ e=>!aM e) false (by omega) (fun i y hx=>?_) (by unfold jE;simp),Aw]
 have hlt:=(List.getElem?_eq_some_iff.1 hx).1
 have hil:((i:Int) < (x.2.2.2.2.2.1.length:Int)):=by omega
 unfold jE
 simp only [hil,decide_true,cond_true,aJ hx,bX,Option.bind_some]
theorem Lh (x:aF.D) (hl:x.2.2.2.2.2.1.length≤33554432):∃ b,pZ x=some b∧jI x=some b:=by
 have hW:=Q7 x hl
 have hC:aU x.2.2.2.2.2.1 (fun q=>iY q.1)=some (x.2.2.2.2.2.1.any (fun e=>!aM e)):=ig x.2.2.2.2.2.1 hl (fun e=>!aM e) _ (fun x=>by simp only [iY,bO,Option.bind_some])
 unfold pZ jI cJ bl bT
 simp only [hW,hC,gK,bQ,bX,bO,Option.bind_some]
 have hd:decide ((x.2.2.2.2.2.1.length:Int) > 3)=!decide ((x.2.2.2.2.2.1.length:Int)≤3):=by
  by_cases h:(x.2.2.2.2.2.1.length:Int)≤3
  ·rw [decide_eq_true h,decide_eq_false (by omega)];rfl
  ·rw [decide_eq_false h,decide_eq_true (by omega)];rfl
 rw [hd]
 clear hW hC hd
 generalize (decide (1≤x.1) && decide (x.1≤99))=c1
 generalize (decide (0≤x.2.1) && decide (x.2.1≤2))=c2
 generalize (decide (1≤x.2.2.2.1) && decide (x.2.2.2.1≤5))=c3
 generalize (decide (0≤x.2.2.1) && decide (x.2.2.1≤IntKind.wrap .i64 (x.2.2.2.1 - 1)))=c4
 generalize aM x.2.2.2.2.1=c5
 generalize decide ((x.2.2.2.2.2.1.length:Int)≤3)=c6
 generalize (decide (0≤x.2.2.2.2.2.2.1) && decide (x.2.2.2.2.2.2.1≤2147483647))=c7
 generalize (decide (0≤x.2.2.2.2.2.2.2.1) && decide (x.2.2.2.2.2.2.2.1≤4))=c8
 generalize x.2.2.2.2.2.1.any (fun e=>!aM e)=c9
 cases c1 <;> cases c2 <;> cases c3 <;> cases c4 <;> cases c5 <;> cases c6 <;> cases c7 <;> cases c8 <;> cases c9 <;> exact ⟨_,rfl,rfl⟩
noncomputable def dF (x:aF.D):Bool:=(jI x).getD false
theorem IX (x:aF.D) (hl:x.2.2.2.2.2.1.length≤33554432):jI x=some (dF x):=by
 obtain ⟨b,_,h⟩:=Lh x hl
 unfold dF;rw [h];rfl
theorem IY (x:aF.D) (hl:x.2.2.2.2.2.1.length≤33554432):pZ x=some (dF x):=by
 obtain ⟨b,h1,h⟩:=Lh x hl
 unfold dF;rw [h,h1];rfl
theorem PL (xs:List aF.D) (hl:xs.length≤33554432) (p:aF.D→Bool) (q:(aF.D×Unit)→Option Bool) (hq:∀ x∈xs,q (x,())=some (p x)) :
  dV xs q=some (match bZ p xs with | some k=>(k:Int) | none=>-1):=by
 unfold dV
 rw [eG xs (body:=dg xs q) p (fun i=>i) (by omega) (fun i x hx=>?_) ?_]
 ·cases bZ p xs <;> rfl
 ·unfold dg
  simp
 ·unfold dg
  have hlt:=(List.getElem?_eq_some_iff.1 hx).1
  have:((i:Int) < (xs.length:Int)):=by omega
  simp only [this,decide_true,cond_true,aJ hx,hq x (List.mem_of_getElem? hx),Option.bind_some]
def dZ (s:ae.D) (a:Int):Int:=match bZ (fun (x:aj.D)=>x.1 == a) s.1 with | some k=>(k:Int) | none=>-1
theorem i9 (s:ae.D) (a:Int):dZ s a=-1∨∃ (k:Nat) (x:aj.D),dZ s a=k∧s.1[k]?=some x∧x.1=a:=by
 unfold dZ
 obtain ⟨h1,h2⟩:=fk (fun (x:aj.D)=>x.1 == a) s.1
 cases hf:bZ (fun (x:aj.D)=>x.1 == a) s.1 with
 | none=>exact .inl rfl
 | some k =>
  obtain ⟨x,g1,g2,_⟩:=h2 k hf
  exact .inr ⟨k,x,rfl,g1,by simpa using g2⟩
theorem fx (s:ae.D) (a:Int) (h:s.1.length≤33554432):fB s a=some (dZ s a):=by
 unfold fB dZ
 rw [eG s.1 (body:=kV s a) (fun (x:aj.D)=>x.1 == a) (fun i=>i) (by omega) (fun i x hx=>?_) ?_]
 ·cases bZ (fun (x:aj.D)=>x.1 == a) s.1 <;> rfl
 ·unfold kV
  simp
 ·unfold kV
  have hlt:=(List.getElem?_eq_some_iff.1 hx).1
  have:((i:Int) < (s.1.length:Int)):=by omega
  simp only [this,decide_true,cond_true,aJ hx]
theorem Oo (xs:List aj.D) (hl:xs.length≤33554432) (p:aj.D→Bool) (q:(aj.D×Unit)→Option Bool) (hq:∀ x,q (x,())=some (p x)) :
  dE xs q=some (match bZ p xs with | some k=>(k:Int) | none=>-1):=by
 unfold dE
 rw [eG xs (body:=cV xs q) p (fun i=>i) (by omega) (fun i x hx=>?_) ?_]
 ·cases bZ p xs <;> rfl
 ·unfold cV
  simp
 ·unfold cV
  have hlt:=(List.getElem?_eq_some_iff.1 hx).1
  have:((i:Int) < (xs.length:Int)):=by omega
  simp only [this,decide_true,cond_true,aJ hx,hq,Option.bind_some]
theorem gf (s:ae.D) (a:Int) (h:s.1.length≤33554432):gq s a=some (dZ s a):=by
 unfold gq dZ
 rw [Oo s.1 h (fun (x:aj.D)=>x.1 == a) _ (fun x=>rfl)]
 rfl
theorem mf (p:aj.D) (t:Int):cR p t=aQ p t:=by
 unfold cR aQ
 cases h1:t == 1 <;> cases h2:t == 2 <;> cases h4:t == 4 <;> cases h8:t == 8 <;> cases h16:t == 16 <;> cases h32:t == 32 <;> simp only [cond_true,cond_false,Option.bind_some]
theorem kO (p:aj.D) (t:Int):∃ b,cR p t=some b:=by
 unfold cR
 simp only [cond_eq_ite]
 repeat' split
 all_goals exact ⟨_,rfl⟩
theorem xD (a b:Int):eY a b=some (wn a b):=by unfold eY;simp only [vE,Option.bind_some];rfl
theorem xE (a b:Int):bq a b=some (wn a b):=by unfold bq;simp only [i6,Option.bind_some];rfl
theorem xF (a b:Int):jV a b=some (yf a b):=by unfold jV;simp only [vE,Option.bind_some];rfl
theorem xG (a b:Int):ib a b=some (yf a b):=by unfold ib;simp only [i6,Option.bind_some];rfl
theorem KA (xs:List aj.D) (h:xs.length≤33554432):eZ xs=some xs:=by
 unfold eZ
 rw [if_pos (by simp only [aI,List.length_nil];omega)]
 rfl
theorem MM (xs:List aB.D) (h:xs.length≤33554432):fC xs=some xs:=by
 unfold fC
 rw [if_pos (by simp only [aI,List.length_nil];omega)]
 rfl
theorem fH (s:ae.D) (hp:s.1.length≤33554432) (hs:s.2.1.length≤33554432):cN s=some s:=by
 unfold cN
 simp only [KA _ hp,MM _ hs,Option.bind_some]
theorem gy (s:ae.D) (hp:s.1.length≤33554432) (hs:s.2.1.length≤33554432):eU s=some s:=by
 unfold eU
 rw [if_pos (by simp only [aI,List.length_nil];omega),if_pos (by simp only [aI,List.length_nil];omega)]
 rfl
def iS (a b:ae.D):Prop:=a.1.length=b.1.length∧a.2.1.length=b.2.1.length
def fI (x:aj.D) (v:ah.D) (c:Int):aj.D :=
 bif v.2.2.2.2.2.1 == 2 then (x.1,x.2.1,x.2.1,v.2.2.2.2.2.1,c,x.2.2.2.2.2.1,x.2.2.2.2.2.2.1,x.2.2.2.2.2.2.2.1,v.2.2.2.2.1,0,0,false,v.2.2.2.2.2.2)
 else (x.1,x.2.1,x.2.1,v.2.2.2.2.2.1,c,x.2.2.2.2.2.1,x.2.2.2.2.2.2.1,x.2.2.2.2.2.2.2.1,0,0,0,false,false,())
def SU (s:ae.D) (v:ah.D) (r:ae.D×(Bool×Unit)):Prop :=
 (r.2.1=false∧r.1=s)∨(r.2.1=true∧aV s=true∧aM v=true∧v.1=2∧∃ (k:Nat) (x:aj.D),dZ s v.2.2.1=k∧s.1[k]?=some x∧x.1=v.2.2.1∧(x.2.2.2.1 == v.2.2.2.2.2.1)=false∧r.1=(s.1.set k (fI x v s.2.2.2.1),s.2))
theorem Q8 (s:ae.D) (v:ah.D) (hp:s.1.length≤33554432) (hs:s.2.1.length≤33554432):∃ r,oO s v=some r∧w9 s v=some r∧SU s v r:=by
 unfold oO w9
 simp only [gy s hp hs,fH s hp hs,fx s _ hp,gf s _ hp,eh s hp hs,ej s hp hs,bX,bO,Option.bind_some]
 cases h1:aV s
 ·exact ⟨_,rfl,rfl,.inl ⟨rfl,rfl⟩⟩
 cases h2:aM v
 ·exact ⟨_,rfl,rfl,.inl ⟨rfl,rfl⟩⟩
 cases h3:(v.1 != 2)
 case true=>exact ⟨_,rfl,rfl,.inl ⟨rfl,rfl⟩⟩
 have h3:v.1=2:=by simpa using h3
 rcases i9 s v.2.2.1 with h | ⟨k,x,g1,g2,g3⟩
 ·rw [h];exact ⟨_,rfl,rfl,.inl ⟨rfl,rfl⟩⟩
 ·rw [g1,bW (by omega)]
  simp only [cond_false,Bool.not_true,Option.bind_some,aJ g2,Int.toNat_natCast,g2]
  cases h4:(x.2.2.2.1 == v.2.2.2.2.2.1)
  ·simp only [cond_false]
   have e1:∀ a b,sX x a b=some (x.1,x.2.1,x.2.1,a,b,x.2.2.2.2.2.1,x.2.2.2.2.2.2.1,x.2.2.2.2.2.2.2.1,0,0,0,false,false,()):=fun a b=>rfl
   have e2:∀ a b,tz x a b=some (x.1,x.2.1,x.2.1,a,b,x.2.2.2.2.2.1,x.2.2.2.2.2.2.1,x.2.2.2.2.2.2.2.1,0,0,0,false,false,()):=fun a b=>rfl
   simp only [e1,e2,Option.bind_some]
   refine ⟨((s.1.set k (fI x v s.2.2.2.1),s.2),true,()),?_,?_,.inr ⟨rfl,h1,h2,h3,k,x,g1,g2,g3,h4,rfl⟩⟩ <;> unfold fI <;> cases (v.2.2.2.2.2.1 == 2) <;> rfl
  ·exact ⟨_,rfl,rfl,.inl ⟨rfl,rfl⟩⟩
theorem MN {s:ae.D} {d:Int} (h0:0≤d) (h:d < (s.2.1.length:Int)):∃ (j:Nat) (x:aB.D),d=j∧s.2.1[j]?=some x:=by
 obtain ⟨j,rfl⟩:=Int.eq_ofNat_of_zero_le h0
 exact ⟨j,s.2.1[j]'(by omega),rfl,List.getElem?_eq_getElem (by omega)⟩
def Ub (s:ae.D) (k p d n:Int) (ev:Bool) (r:ae.D×(Bool×Unit)):Prop :=
 (r.2.1=false∧r.1=s)∨(r.2.1=true∧aV s=true∧ev=true ∧
  ((∃ (j:Nat) (x:aB.D),(p=0∧d=j∧s.2.1[j]?=some x)∧((k=3∧r.1=(s.1,s.2.1.set j (wn x.1 n,x.2),s.2.2))∨(k=4∧r.1=(s.1,s.2.1.set j (yf x.1 n,x.2),s.2.2)))) ∨
   (∃ (i:Nat) (x:aj.D),(dZ s p=i∧s.1[i]?=some x∧(x.2.2.2.1 == 2)=true) ∧
   ((k=5∧r.1=(s.1.set i (x.1,x.2.1,x.2.2.1,x.2.2.2.1,x.2.2.2.2.1,x.2.2.2.2.2.1,x.2.2.2.2.2.2.1,x.2.2.2.2.2.2.2.1,wn x.2.2.2.2.2.2.2.2.1 n,x.2.2.2.2.2.2.2.2.2),s.2)) ∨
    (k=6∧r.1=(s.1.set i (x.1,x.2.1,x.2.2.1,x.2.2.2.1,x.2.2.2.2.1,x.2.2.2.2.2.1,x.2.2.2.2.2.2.1,x.2.2.2.2.2.2.2.1,x.2.2.2.2.2.2.2.2.1,wn x.2.2.2.2.2.2.2.2.2.1 n,x.2.2.2.2.2.2.2.2.2.2),s.2))))))
theorem Q9 (s:ae.D) (k sr p d n z:Int) (bt:Bool) (u:Unit) (hp:s.1.length≤33554432) (hs:s.2.1.length≤33554432):∃ r,vZ s (k,sr,p,d,n,z,bt,u)=some r∧wh s (k,sr,p,d,n,z,bt,u)=some r∧Ub s k p d n (aM (k,sr,p,d,n,z,bt,u)) r:=by
 unfold vZ wh
 simp only [gy s hp hs,fH s hp hs,eh s hp hs,ej s hp hs,bX,bO,Option.bind_some]
 cases hs0:aV s
 ·exact ⟨_,rfl,rfl,.inl ⟨rfl,rfl⟩⟩
 cases hv:aM (k,sr,p,d,n,z,bt,u)
 ·exact ⟨_,rfl,rfl,.inl ⟨rfl,rfl⟩⟩
 unfold ni bc gx
 simp only [bQ,fx s _ hp,gf s _ hp,xD,xE,xF,xG,Option.bind_some,Bool.not_true,cond_false]
 rw [aA (n:=(s.2.1.length:Int) - 1) (by omega) (by omega)]
 rcases BA hv with ⟨rfl,_⟩ | ⟨rfl,_⟩ | ⟨hk,rfl,hd⟩ | ⟨hk,h1⟩
 ·exact ⟨_,rfl,rfl,.inl ⟨rfl,rfl⟩⟩
 ·exact ⟨_,rfl,rfl,.inl ⟨rfl,rfl⟩⟩
 ·by_cases hlt:d < (s.2.1.length:Int)
  ·obtain ⟨j,x,rfl,hx⟩:=MN hd hlt
   have c1:decide ((j:Int)≥(s.2.1.length:Int))=false:=decide_eq_false (by omega)
   have c2:(decide (0≤(j:Int)) && decide ((j:Int)≤(s.2.1.length:Int) - 1))=true:=by rw [decide_eq_true (by omega),decide_eq_true (by omega)];rfl
   rcases hk with rfl | rfl <;> simp only [Int.reduceBEq,Int.reduceBNe,beq_self_eq_true,c1,c2,cond_true,cond_false,Option.bind_some,aJ hx,Int.toNat_natCast,hx,Bool.not_true] <;> first | exact ⟨_,rfl,rfl,.inr ⟨rfl,hs0,rfl,.inl ⟨j,x,⟨rfl,rfl,hx⟩,.inl ⟨rfl,rfl⟩⟩⟩⟩ | exact ⟨_,rfl,rfl,.inr ⟨rfl,hs0,rfl,.inl ⟨j,x,⟨rfl,rfl,hx⟩,.inr ⟨rfl,rfl⟩⟩⟩⟩
  ·have c1:decide (d≥(s.2.1.length:Int))=true:=decide_eq_true (by omega)
   have c2:(decide (0≤d) && decide (d≤(s.2.1.length:Int) - 1))=false:=by rw [decide_eq_false (p:=d≤(s.2.1.length:Int) - 1) (by omega),Bool.and_false]
   rcases hk with rfl | rfl <;> simp only [Int.reduceBEq,Int.reduceBNe,beq_self_eq_true,c1,c2,cond_true,cond_false,Option.bind_some,Bool.not_false] <;> exact ⟨_,rfl,rfl,.inl ⟨rfl,rfl⟩⟩
 ·have p0:(p == 0)=false:=by rw [beq_eq_false_iff_ne];omega
  rcases i9 s p with h | ⟨i,x,e1,hx,_⟩
  ·rcases hk with rfl | rfl <;> simp only [h,Int.reduceBEq,Int.reduceBNe,p0,cond_true,cond_false,Option.bind_some] <;> exact ⟨_,rfl,rfl,.inl ⟨rfl,rfl⟩⟩
  ·have c1:decide ((i:Int)≥0)=true:=by simp
   have c2:decide ((i:Int) < 0)=false:=bW (by omega)
   have hzz:(x.2.2.2.1 != 2)=false→(x.2.2.2.1 == 2)=true:=fun h=>by unfold bne at h;cases hq:(x.2.2.2.1 == 2) <;> rw [hq] at h <;> first | rfl | cases h
   rcases hk with rfl | rfl <;> simp only [e1,c1,c2,Int.reduceBEq,Int.reduceBNe,p0,cond_true,cond_false,Option.bind_some,aJ hx,Int.toNat_natCast,hx] <;> cases hq:(x.2.2.2.1 != 2) <;> simp only [c1,cond_true,cond_false,Option.bind_some,aJ hx,Int.toNat_natCast,hx,Bool.not_true] <;> first | exact ⟨_,rfl,rfl,.inl ⟨rfl,rfl⟩⟩ | exact ⟨_,rfl,rfl,.inr ⟨rfl,hs0,rfl,.inr ⟨i,x,⟨e1,hx,hzz hq⟩,.inl ⟨rfl,rfl⟩⟩⟩⟩ | exact ⟨_,rfl,rfl,.inr ⟨rfl,hs0,rfl,.inr ⟨i,x,⟨e1,hx,hzz hq⟩,.inr ⟨rfl,rfl⟩⟩⟩⟩
theorem IZ {α:Type} (p:Nat→α→Bool):∀ (xs:List α) (k:Nat),qC p k xs=false↔∀ (i:Nat) x,xs[i]?=some x→p (k + i) x=false
 | [],_=>by simp [qC]
 | y :: xs,k=>by
  simp only [qC,Bool.or_eq_false_iff,IZ p xs (k + 1)]
  constructor
  ·rintro ⟨h1,h2⟩ i x hx
   cases i with
   | zero=>simp at hx;subst hx;exact h1
   | succ i=>rw [show k + (i + 1)=k + 1 + i by omega];exact h2 i x (by simpa using hx)
  ·intro h
   refine ⟨h 0 y (by simp),fun i x hx=>?_⟩
   rw [show k + 1 + i=k + (i + 1) by omega]
   exact h (i + 1) x (by simpa using hx)
def DV (s:ae.D) (x:aj.D):Prop:=eV x=true∧x.2.1 < (s.2.1.length:Int)∧x.2.2.1 < (s.2.1.length:Int)∧x.2.2.2.2.1≤s.2.2.2.1
def uh (s:ae.D):Prop :=
 (s.1.length≤8∧2≤s.2.1.length∧s.2.1.length≤3)∧((0≤s.2.2.1∧s.2.2.1≤(s.2.1.length:Int) - 1)∧(0≤s.2.2.2.1∧s.2.2.2.1≤9999)) ∧
 (∀ (i:Nat) x,s.1[i]?=some x→DV s x)∧(∀ (i:Nat) x y,s.1[i]?=some x→s.1[i + 1]?=some y→x.1 < y.1)∧∀ x∈s.2.1,dm x=true
theorem cz (s:ae.D):aV s=true↔uh s:=by
 unfold aV uh
 simp only [Bool.and_eq_true,decide_eq_true_eq,Bool.not_eq_true',IZ,Nat.zero_add,List.any_eq_false]
 constructor
 ·rintro ⟨⟨⟨⟨⟨h1,h2⟩,h3⟩,h4⟩,h5⟩,h6⟩
  refine ⟨⟨by omega,by omega,by omega⟩,⟨h3,h4⟩,fun i x hx=>?_,fun i x y hx hy=>?_,fun x hx=>by simpa using h6 x hx⟩
  ·have:=h5 i x hx
   unfold kN at this
   simp only [Bool.or_eq_false_iff,Bool.not_eq_false',decide_eq_false_iff_not] at this
   obtain ⟨⟨⟨⟨g1,g2⟩,g3⟩,g4⟩,_⟩:=this
   exact ⟨g1,Int.not_le.1 g2,Int.not_le.1 g3,Int.not_lt.1 g4⟩
  ·have:=h5 (i + 1) y hy
   unfold kN at this
   simp only [Bool.or_eq_false_iff,Bool.and_eq_false_iff,Nat.add_sub_cancel,hx,Option.any_some,decide_eq_false_iff_not] at this
   rcases this.2 with h | h
   ·omega
   ·exact Int.not_le.1 h
 ·rintro ⟨⟨h1,h2,h2'⟩,⟨h3,h4⟩,h5,h6,h7⟩
  refine ⟨⟨⟨⟨⟨by omega,by omega,by omega⟩,h3⟩,h4⟩,fun i x hx=>?_⟩,fun x hx=>by simpa using h7 x hx⟩
  obtain ⟨g1,g2,g3,g4⟩:=h5 i x hx
  unfold kN
  simp only [Bool.or_eq_false_iff,Bool.not_eq_false',decide_eq_false_iff_not,Bool.and_eq_false_iff]
  refine ⟨⟨⟨⟨g1,Int.not_le.2 g2⟩,Int.not_le.2 g3⟩,Int.not_lt.2 g4⟩,?_⟩
  cases i with
  | zero=>left;simp
  | succ i =>
   right
   simp only [Nat.add_sub_cancel]
   have hlt:=(List.getElem?_eq_some_iff.1 hx).1
   have hp:s.1[i]?=some (s.1[i]'(by omega)):=List.getElem?_eq_getElem (by omega)
   rw [hp,Option.any_some,decide_eq_false_iff_not]
   exact Int.not_le.2 (h6 i _ x hp hx)
theorem FV {s:ae.D} (h:uh s) (ps:List aj.D) (hl:ps.length=s.1.length) (hk:∀ (i:Nat) x y,s.1[i]?=some x→ps[i]?=some y→y.1=x.1∧DV s y):uh (ps,s.2):=by
 obtain ⟨⟨h1,h2,h2'⟩,h3,h5,h6,h7⟩:=h
 have hget:∀ (i:Nat) y,ps[i]?=some y→∃ x,s.1[i]?=some x:=fun i y hy=>⟨_,List.getElem?_eq_getElem (by have:=(List.getElem?_eq_some_iff.1 hy).1;omega)⟩
 refine ⟨⟨by simp only;omega,h2,h2'⟩,h3,fun i y hy=>?_,fun i x y hx hy=>?_,h7⟩
 ·obtain ⟨x,hx⟩:=hget i y hy
  exact (hk i x y hx hy).2
 ·obtain ⟨x',hx'⟩:=hget i x hx
  obtain ⟨y',hy'⟩:=hget (i + 1) y hy
  have e1:=(hk i x' x hx' hx).1
  have e2:=(hk (i + 1) y' y hy' hy).1
  have:=h6 i x' y' hx' hy'
  rw [e1,e2]
  exact this
theorem DW {s:ae.D} (h:uh s) {i:Nat} {x:aj.D} (hx:s.1[i]?=some x) (y:aj.D) (he:y.1=x.1) (hy:DV s y):uh (s.1.set i y,s.2):=by
 refine FV h _ (by simp) fun j a b ha hb=>?_
 by_cases hj:i=j
 ·subst hj
  have hlt:=(List.getElem?_eq_some_iff.1 hx).1
  rw [rt hlt] at hb
  cases hb
  rw [hx] at ha
  cases ha
  exact ⟨he,hy⟩
 ·rw [List.getElem?_set_ne hj] at hb
  rw [ha] at hb
  cases hb
  exact ⟨rfl,h.2.2.1 j _ ha⟩
theorem I0 {s:ae.D} (h:uh s) (ss:List aB.D) (hl:ss.length=s.2.1.length) (hk:∀ x∈ss,dm x=true):uh (s.1,ss,s.2.2):=by
 obtain ⟨⟨h1,h2,h2'⟩,⟨h3,h4⟩,h5,h6,h7⟩:=h
 refine ⟨⟨h1,by simp only;omega,by simp only;omega⟩,⟨by simp only;rw [hl];exact h3,h4⟩,fun i x hx=>?_,h6,hk⟩
 obtain ⟨g1,g2,g3,g4⟩:=h5 i x hx
 exact ⟨g1,by simp only;rw [hl];exact g2,by simp only;rw [hl];exact g3,g4⟩
theorem Ax {s:ae.D} (h:uh s) {j:Nat} (y:aB.D) (hy:dm y=true):uh (s.1,s.2.1.set j y,s.2.2):=by
 refine I0 h _ (by simp) fun x hx=>?_
 rcases List.mem_or_eq_of_mem_set hx with hm | rfl
 ·exact h.2.2.2.2 x hm
 ·exact hy
theorem Ay (n:Int):-2147483647≤fG n∧fG n≤2147483647:=by unfold fG;split <;> (try split) <;> omega
theorem se {n:Int} (h1:-2147483647≤n) (h2:n≤2147483647):fG n=n:=by unfold fG;split <;> (try split) <;> omega
theorem ii (a b:Int):-2147483647≤wn a b∧wn a b≤2147483647:=Ay _
theorem DX (a b:Int):-2147483647≤yf a b∧yf a b≤2147483647:=Ay _
theorem nD {a b:Int} (ha:0≤a) (hb:0≤b):0≤wn a b:=by
 unfold wn
 have h1:=Ay a
 have h2:=Ay b
 have h3:0≤fG a:=by unfold fG;split <;> (try split) <;> omega
 have h4:0≤fG b:=by unfold fG;split <;> (try split) <;> omega
 rw [aA (by omega) (by omega)]
 unfold fG
 split <;> (try split) <;> omega
theorem Qz {α:Type} {xs:List α} (j:Nat) (w:α) {i:Nat} {x:α} (h:xs[i]?=some x):∃ y,(xs.set j w)[i]?=some y :=
 ⟨_,List.getElem?_eq_getElem (by have:=(List.getElem?_eq_some_iff.1 h).1;simpa using this)⟩
theorem PM (s:ae.D) (d:Int):(decide (0≤d) && decide (d≤(s.2.1.length:Int) - 1))=false∨∃ (j:Nat) (y:aB.D),(decide (0≤(j:Int)) && decide ((j:Int)≤(s.2.1.length:Int) - 1))=true∧d=j∧s.2.1[j]?=some y:=by
 by_cases h:0≤d∧d < (s.2.1.length:Int)
 ·obtain ⟨j,y,e,hy⟩:=MN (s:=s) h.1 h.2
  have:=(List.getElem?_eq_some_iff.1 hy).1
  exact .inr ⟨j,y,by rw [decide_eq_true (by omega),decide_eq_true (by omega)];rfl,e,hy⟩
 ·left
  by_cases h0:0≤d
  ·rw [decide_eq_false (p:=d≤(s.2.1.length:Int) - 1) (by omega),Bool.and_false]
  ·rw [decide_eq_false h0];rfl
def QA (ss ss':List aB.D):Prop:=ss'=ss∨∃ (j:Nat) (z:aB.D) (a:Int),ss[j]?=some z∧ss'=ss.set j (a,z.2)∧-2147483647≤a∧a≤2147483647
def GY (b2:Bool) (n:Int) (x:aB.D):aB.D:=bif b2 then (x.1,wn x.2.1 n,x.2.2) else (yf x.1 n,x.2)
def GZ (b2 b4 c:Bool) (n:Int) (x:aj.D):aj.D :=
 (x.1,x.2.1,x.2.2.1,x.2.2.2.1,x.2.2.2.2.1,x.2.2.2.2.2.1,x.2.2.2.2.2.2.1,x.2.2.2.2.2.2.2.1,x.2.2.2.2.2.2.2.2.1,(bif b2 then wn x.2.2.2.2.2.2.2.2.2.1 n else x.2.2.2.2.2.2.2.2.2.1),(bif b2 then x.2.2.2.2.2.2.2.2.2.2.1 else wn x.2.2.2.2.2.2.2.2.2.2.1 n),(x.2.2.2.2.2.2.2.2.2.2.2.1 || (b4 && c)),x.2.2.2.2.2.2.2.2.2.2.2.2)
def MO (s:ae.D) (k sr p d n z:Int) (bt:Bool) (u:Unit) (b2 b4 c:Bool) (r:ae.D×(Int×Unit)):Prop :=
 (r.2.1=0∧r.1=s∧(aV s=false∨aM (k,sr,p,d,n,z,bt,u)=false∨(k != 1)=true∨(p=0∧(decide (0≤d) && decide (d≤(s.2.1.length:Int) - 1))=false)∨((p == 0)=false∧(dZ s p=-1∨∃ (i:Nat) (x:aj.D),dZ s p=i∧s.1[i]?=some x∧(x.2.2.2.1 != 2)=true)))) ∨
 (r.2.1=n∧r.1.2.2=s.2.2∧aV s=true∧aM (k,sr,p,d,n,z,bt,u)=true ∧
  ((p=0∧r.1.1=s.1∧∃ (j:Nat) (x:aB.D),d=j∧s.2.1[j]?=some x∧QA (s.2.1.set j (GY b2 n x)) r.1.2.1) ∨
   ((p == 0)=false∧∃ (i:Nat) (x:aj.D),dZ s p=i∧s.1[i]?=some x∧(x.2.2.2.1 == 2)=true∧r.1.1=s.1.set i (GZ b2 b4 c n x)∧QA s.2.1 r.1.2.1)))
theorem Oq (s:ae.D) (q:aj.D) (k sr p d n z:Int) (bt:Bool) (u:Unit) (hp:s.1.length≤33554432) (hs:s.2.1.length≤33554432) :
  ∃ r,l8 s q (k,sr,p,d,n,z,bt,u)=some r∧mb s q (k,sr,p,d,n,z,bt,u)=some r∧∃ b2 b4,aQ q 2=some b2∧aQ q 4=some b4∧MO s k sr p d n z bt u b2 b4 (decide (n≥1)) r:=by
 obtain ⟨b1,hb1⟩:=kO q 1
 obtain ⟨b2,hb2⟩:=kO q 2
 obtain ⟨b4,hb4⟩:=kO q 4
 have hc1:aQ q 1=some b1:=by rw [← mf];exact hb1
 have hc2:aQ q 2=some b2:=by rw [← mf];exact hb2
 have hc4:aQ q 4=some b4:=by rw [← mf];exact hb4
 suffices h:∃ r,l8 s q (k,sr,p,d,n,z,bt,u)=some r∧mb s q (k,sr,p,d,n,z,bt,u)=some r∧MO s k sr p d n z bt u b2 b4 (decide (n≥1)) r by
  obtain ⟨r,g1,g2,g3⟩:=h
  exact ⟨r,g1,g2,b2,b4,hc2,hc4,g3⟩
 unfold l8 mb
 simp only [gy s hp hs,fH s hp hs,eh s hp hs,ej s hp hs,bX,bO,Option.bind_some]
 cases hs0:aV s
 ·exact ⟨_,rfl,rfl,.inl ⟨rfl,rfl,.inl hs0⟩⟩
 cases hv:aM (k,sr,p,d,n,z,bt,u)
 ·exact ⟨_,rfl,rfl,.inl ⟨rfl,rfl,.inr (.inl hv)⟩⟩
 by_cases k1:k=1
 case neg =>
  have:(k != 1)=true:=by simp [k1]
  refine ⟨(s,0,()),?_,?_,.inl ⟨rfl,rfl,.inr (.inr (.inl this))⟩⟩ <;> simp only [this] <;> rfl
 subst k1
 have hw:IntKind.wrap .i64 ((s.2.1.length:Int) - 1)=(s.2.1.length:Int) - 1:=aA (by omega) (by omega)
 unfold ni bc gx
 simp only [hb1,hb2,hb4,hc1,hc2,hc4,bQ,gK,hw,fx s _ hp,gf s _ hp,xD,xE,xF,xG,Option.bind_some,Bool.not_true,cond_false,bne_self_eq_false,List.length_set]
 have hq:=PM s q.2.2.1
 have hf:(1≤p∨p=0∧0≤d):=by rcases BA hv with ⟨_,h⟩ | ⟨h,_⟩ | ⟨h,_⟩ | ⟨h,_⟩ <;> first | exact h | omega
 rcases hf with h1 | ⟨rfl,hd⟩
 ·have p0:(p == 0)=false:=by rw [beq_eq_false_iff_ne];omega
  rcases i9 s p with h | ⟨i,x,e1,hx,_⟩
  ·refine ⟨(s,0,()),?_,?_,.inl ⟨rfl,rfl,.inr (.inr (.inr (.inr ⟨p0,.inl h⟩)))⟩⟩ <;> simp only [h,p0,cond_true,cond_false,Option.bind_some] <;> rfl
  ·have c1:decide ((i:Int)≥0)=true:=by simp
   have c2:decide ((i:Int) < 0)=false:=bW (by omega)
   have hil:=(List.getElem?_eq_some_iff.1 hx).1
   obtain ⟨xi,xo,xs,xz,xt,xp,xg,xr,xl,xm,xk,xd,xb,xu⟩:=x
   simp only [e1,c1,c2,p0,cond_true,cond_false,Option.bind_some,aJ hx]
   cases hz:(xz != 2)
   case true=>exact ⟨_,rfl,rfl,.inl ⟨rfl,rfl,.inr (.inr (.inr (.inr ⟨p0,.inr ⟨i,_,e1,hx,hz⟩⟩)))⟩⟩
   have hz2:(xz == 2)=true:=by unfold bne at hz;cases h:(xz == 2) <;> simp [h] at hz ⊢
   simp only [c1,cond_true,cond_false,Option.bind_some,aJ hx,Int.toNat_natCast,hx,Bool.not_true,wL hil,rt hil,List.set_set]
   rcases hq with hq | ⟨j,y,hq,hj,hy⟩
   ·simp only [hq]
    cases b2 <;> cases b4 <;> cases xd <;> cases decide (n≥1) <;> cases b1 <;> simp only [cond_true,cond_false,Option.bind_some,wL hil,rt hil,List.set_set] <;> exact ⟨_,rfl,rfl,.inr ⟨rfl,rfl,hs0,hv,.inr ⟨p0,i,_,e1,hx,hz2,rfl,.inl rfl⟩⟩⟩
   ·simp only [hj,hq]
    cases b2 <;> cases b4 <;> cases xd <;> cases decide (n≥1) <;> cases b1 <;> simp only [cond_true,cond_false,Option.bind_some,wL hil,rt hil,List.set_set,aJ hy,Int.toNat_natCast,hy] <;> first | exact ⟨_,rfl,rfl,.inr ⟨rfl,rfl,hs0,hv,.inr ⟨p0,i,_,e1,hx,hz2,rfl,.inl rfl⟩⟩⟩ | exact ⟨_,rfl,rfl,.inr ⟨rfl,rfl,hs0,hv,.inr ⟨p0,i,_,e1,hx,hz2,rfl,.inr ⟨j,y,_,hy,rfl,(ii _ _).1,(ii _ _).2⟩⟩⟩⟩
 ·have p0:((0:Int) == 0)=true:=rfl
  by_cases hlt:d < (s.2.1.length:Int)
  ·obtain ⟨j,x,rfl,hx⟩:=MN hd hlt
   have c1:decide ((j:Int)≥(s.2.1.length:Int))=false:=decide_eq_false (by omega)
   have c2:(decide (0≤(j:Int)) && decide ((j:Int)≤(s.2.1.length:Int) - 1))=true:=by rw [decide_eq_true (by omega),decide_eq_true (by omega)];rfl
   simp only [p0,c1,c2,cond_true,cond_false,Option.bind_some,aJ hx,Int.toNat_natCast,hx,Bool.not_true]
   rcases hq with hq | ⟨i,y,hq,hj,hy⟩
   ·simp only [hq]
    cases b2 <;> cases b1 <;> simp only [cond_true,cond_false,Option.bind_some,aJ hx,Int.toNat_natCast,hx] <;> exact ⟨_,rfl,rfl,.inr ⟨rfl,rfl,hs0,hv,.inl ⟨rfl,rfl,j,x,rfl,hx,.inl rfl⟩⟩⟩
   ·simp only [hj,hq]
    obtain ⟨y1,hy1⟩:=Qz j (x.1,wn x.2.1 n,x.2.2) hy
    obtain ⟨y2,hy2⟩:=Qz j (yf x.1 n,x.2) hy
    cases b2 <;> cases b1 <;> simp only [cond_true,cond_false,Option.bind_some,aJ hx,Int.toNat_natCast,hx,aJ hy1,hy1,aJ hy2,hy2] <;> first | exact ⟨_,rfl,rfl,.inr ⟨rfl,rfl,hs0,hv,.inl ⟨rfl,rfl,j,x,rfl,hx,.inl rfl⟩⟩⟩ | exact ⟨_,rfl,rfl,.inr ⟨rfl,rfl,hs0,hv,.inl ⟨rfl,rfl,j,x,rfl,hx,.inr ⟨i,_,_,hy1,rfl,(ii _ _).1,(ii _ _).2⟩⟩⟩⟩ | exact ⟨_,rfl,rfl,.inr ⟨rfl,rfl,hs0,hv,.inl ⟨rfl,rfl,j,x,rfl,hx,.inr ⟨i,_,_,hy2,rfl,(ii _ _).1,(ii _ _).2⟩⟩⟩⟩
  ·have c1:decide (d≥(s.2.1.length:Int))=true:=decide_eq_true (by omega)
   have c2:(decide (0≤d) && decide (d≤(s.2.1.length:Int) - 1))=false:=by rw [decide_eq_false (p:=d≤(s.2.1.length:Int) - 1) (by omega),Bool.and_false]
   refine ⟨(s,0,()),?_,?_,.inl ⟨rfl,rfl,.inr (.inr (.inr (.inl ⟨rfl,c2⟩)))⟩⟩ <;> simp only [p0,c1,c2,cond_true,cond_false,Option.bind_some,Bool.not_false]
theorem dn (i o sd z t pw tg tr pl mi mk:Int) (dl bt:Bool) (u:Unit):eV (i,o,sd,z,t,pw,tg,tr,pl,mi,mk,dl,bt,u)=true ↔
  ((1≤i∧i≤99)∧(0≤o∧o≤2)∧(0≤sd∧sd≤2)∧(1≤z∧z≤4)∧(0≤t∧t≤9999)∧(0≤pw∧pw≤999)∧(0≤tg∧tg≤999)∧(0≤tr∧tr≤63)) ∧
  ((z=2∧(0≤pl∧pl≤2147483647)∧(0≤mi∧mi≤2147483647)∧(0≤mk∧mk≤2147483647))∨(z≠2∧sd=o∧pl=0∧mi=0∧mk=0∧dl=false∧bt=false)):=by
 unfold eV
 by_cases h:z=2
 ·subst h;simp;grind
 ·simp [h];grind
theorem I4 (s:ae.D) (h:uh s) (z:Int) (hz:1≤z∧z≤4) (x:aj.D) (hx:DV s x):DV s (x.1,x.2.1,x.2.1,z,s.2.2.2.1,x.2.2.2.2.2.1,x.2.2.2.2.2.2.1,x.2.2.2.2.2.2.2.1,0,0,0,false,false,()):=by
 obtain ⟨h1,h2,h3,h4⟩:=hx
 obtain ⟨⟨k1,k2,k3,k4,k5,k6,k7,k8⟩,_⟩:=(dn x.1 x.2.1 x.2.2.1 x.2.2.2.1 x.2.2.2.2.1 x.2.2.2.2.2.1 x.2.2.2.2.2.2.1 x.2.2.2.2.2.2.2.1 x.2.2.2.2.2.2.2.2.1 x.2.2.2.2.2.2.2.2.2.1 x.2.2.2.2.2.2.2.2.2.2.1 x.2.2.2.2.2.2.2.2.2.2.2.1 x.2.2.2.2.2.2.2.2.2.2.2.2.1 x.2.2.2.2.2.2.2.2.2.2.2.2.2).1 h1
 refine ⟨(dn _ _ _ _ _ _ _ _ _ _ _ _ _ _).2 ⟨⟨k1,k2,k2,hz,h.2.1.2,k6,k7,k8⟩,?_⟩,h2,h2,Int.le_refl _⟩
 by_cases h':z=2
 ·exact .inl ⟨h',⟨by decide,by decide⟩,⟨by decide,by decide⟩,⟨by decide,by decide⟩⟩
 ·exact .inr ⟨h',rfl,rfl,rfl,rfl,rfl,rfl⟩
theorem Ot {ss ss':List aB.D} (h:QA ss ss'):ss'.length=ss.length:=by
 rcases h with rfl | ⟨j,z,a,_,rfl,_⟩
 ·rfl
 ·simp
theorem xH (x:aB.D) (a:Int) (h:dm x=true) (h1:-2147483647≤a) (h2:a≤2147483647):dm (a,x.2)=true:=by
 unfold dm at h ⊢
 rw [Bool.and_eq_true] at h ⊢
 exact ⟨by rw [decide_eq_true h1,decide_eq_true h2];rfl,h.2⟩
theorem Az {k sr p d n z:Int} {bt:Bool} {u:Unit} (h:aM (k,sr,p,d,n,z,bt,u)=true):0≤n:=by
 unfold aM at h
 rw [Bool.and_eq_true,Bool.and_eq_true] at h
 exact of_decide_eq_true h.1.1
theorem I5 {s:ae.D} (h:uh s) {ss':List aB.D} (hl:QA s.2.1 ss'):uh (s.1,ss',s.2.2):=by
 rcases hl with rfl | ⟨j,z,a,hz,rfl,h1,h2⟩
 ·exact h
 ·exact Ax h _ (xH z a (h.2.2.2.2 z (List.mem_of_getElem? hz)) h1 h2)
theorem PN (b2:Bool) (n:Int) (hn:0≤n) (x:aB.D) (h:dm x=true):dm (GY b2 n x)=true:=by
 have h':=h
 unfold dm at h'
 simp only [Bool.and_eq_true,decide_eq_true_eq] at h'
 unfold GY
 cases b2
 ·exact xH x _ h (DX _ _).1 (DX _ _).2
 ·unfold dm
  simp only [cond_true,Bool.and_eq_true,decide_eq_true_eq]
  exact ⟨h'.1,nD h'.2.1 hn,(ii _ _).2⟩
theorem PO (s:ae.D) (b2 b4 c:Bool) (n:Int) (hn:0≤n) (x:aj.D) (hz:(x.2.2.2.1 == 2)=true) (hx:DV s x):DV s (GZ b2 b4 c n x):=by
 obtain ⟨h1,h2,h3,h4⟩:=hx
 obtain ⟨k0,k9⟩:=(dn x.1 x.2.1 x.2.2.1 x.2.2.2.1 x.2.2.2.2.1 x.2.2.2.2.2.1 x.2.2.2.2.2.2.1 x.2.2.2.2.2.2.2.1 x.2.2.2.2.2.2.2.2.1 x.2.2.2.2.2.2.2.2.2.1 x.2.2.2.2.2.2.2.2.2.2.1 x.2.2.2.2.2.2.2.2.2.2.2.1 x.2.2.2.2.2.2.2.2.2.2.2.2.1 x.2.2.2.2.2.2.2.2.2.2.2.2.2).1 h1
 have hz':x.2.2.2.1=2:=by simpa using hz
 rcases k9 with ⟨_,g1,g2,g3⟩ | ⟨g,_⟩
 ·refine ⟨(dn _ _ _ _ _ _ _ _ _ _ _ _ _ _).2 ⟨k0,.inl ⟨hz',g1,?_,?_⟩⟩,h2,h3,h4⟩
  ·cases b2
   ·exact g2
   ·exact ⟨nD g2.1 hn,(ii _ _).2⟩
  ·cases b2
   ·exact ⟨nD g3.1 hn,(ii _ _).2⟩
   ·exact g3
 ·exact absurd hz' g
theorem tK {α:Type}:∀ {ys:List α} {i:Nat} {x:α},ys[i]?=some x→ys.set i x=ys
 | [],_,_,_=>by simp
 | y :: ys,0,x,h=>by simp at h;simp [h]
 | y :: ys,i + 1,x,h=>by simp only [List.set_cons_succ];rw [tK (by simpa using h)]
theorem Li {α β:Type} (f:α→β) (p:β→Bool):∀ (xs:List α),bZ (fun x=>p (f x)) xs=bZ p (xs.map f)
 | []=>rfl
 | x :: xs=>by simp only [bZ,List.map_cons,Li f p xs]
theorem FW (s t:ae.D) (a:Int) (h:s.1.map (fun (x:aj.D)=>x.1)=t.1.map (fun (x:aj.D)=>x.1)):dZ s a=dZ t a:=by
 have e:∀ (r:ae.D),bZ (fun (x:aj.D)=>x.1 == a) r.1=bZ (fun i=>i == a) (r.1.map (fun (x:aj.D)=>x.1)):=fun r=>Li (fun (x:aj.D)=>x.1) (fun i=>i == a) r.1
 unfold dZ
 rw [e s,e t,h]
theorem Ou {s:ae.D} {k:Nat} {x y:aj.D} (hx:s.1[k]?=some x) (he:y.1=x.1) (u:(List aB.D)×(Int×(Int×Unit))) (a:Int):dZ (s.1.set k y,u) a=dZ s a:=by
 refine FW _ _ a ?_
 simp only [List.map_set,he]
 exact tK (by rw [List.getElem?_map,hx];rfl)
theorem MP (s:ae.D) (h:uh s) (x:aj.D) (hx:DV s x) (k sr p d n z:Int) (bt:Bool) (u:Unit) (he:aM (k,sr,p,d,n,z,bt,u)=true) (hk:k=2) :
  (fI x (k,sr,p,d,n,z,bt,u) s.2.2.2.1).1=x.1∧DV s (fI x (k,sr,p,d,n,z,bt,u) s.2.2.2.1)∧(fI x (k,sr,p,d,n,z,bt,u) s.2.2.2.1).2.2.2.1=z∧(fI x (k,sr,p,d,n,z,bt,u) s.2.2.2.1).2.2.2.2.1=s.2.2.2.1 ∧
   (fI x (k,sr,p,d,n,z,bt,u) s.2.2.2.1).2.2.2.2.2.2.2.2.2.2.1=0∧(fI x (k,sr,p,d,n,z,bt,u) s.2.2.2.1).2.2.1=(fI x (k,sr,p,d,n,z,bt,u) s.2.2.2.1).2.1∧(fI x (k,sr,p,d,n,z,bt,u) s.2.2.2.1).2.2.2.2.2.2.2.2.1=n:=by
 subst hk
 have hf:(1≤z∧z≤4)∧(0≤n∧n≤99)∧(z=2∨n=0):=by
  unfold aM at he
  simp at he
  grind
 obtain ⟨hz,hn,hzn⟩:=hf
 by_cases hz2:z=2
 ·subst hz2
  obtain ⟨g1,g2,g3,g4⟩:=I4 s h 2 (by decide) x hx
  obtain ⟨k0,_⟩:=(dn _ _ _ _ _ _ _ _ _ _ _ _ _ _).1 g1
  exact ⟨rfl,⟨(dn _ _ _ _ _ _ _ _ _ _ _ _ _ _).2 ⟨k0,.inl ⟨rfl,⟨hn.1,show n≤2147483647 by omega⟩,⟨by decide,by decide⟩,⟨by decide,by decide⟩⟩⟩,g2,g3,g4⟩,rfl,rfl,rfl,rfl,rfl⟩
 ·have hn0:n=0:=by omega
  subst hn0
  have hb:(z == 2)=false:=by rw [beq_eq_false_iff_ne];exact hz2
  have e:fI x (2,sr,p,d,0,z,bt,u) s.2.2.2.1=(x.1,x.2.1,x.2.1,z,s.2.2.2.1,x.2.2.2.2.2.1,x.2.2.2.2.2.2.1,x.2.2.2.2.2.2.2.1,0,0,0,false,false,()):=by
   unfold fI
   simp only [hb,cond_false]
  rw [e]
  exact ⟨rfl,I4 s h z hz x hx,rfl,rfl,rfl,rfl,rfl⟩
theorem Ov (s:ae.D) (v:ah.D) (k:Nat) (x:aj.D) (h1:aV s=true) (h2:aM v=true) (h3:v.1=2) (h4:dZ s v.2.2.1=k) (h5:s.1[k]?=some x) :
  let t:ae.D:=(s.1.set k (fI x v s.2.2.2.1),s.2)
  aV t=true∧dZ t v.2.2.1=k∧t.1[k]?=some (fI x v s.2.2.2.1)∧(fI x v s.2.2.2.1).1=x.1∧(fI x v s.2.2.2.1).2.2.2.1=v.2.2.2.2.2.1∧(fI x v s.2.2.2.1).2.2.2.2.1=s.2.2.2.1∧(fI x v s.2.2.2.1).2.2.2.2.2.2.2.2.2.2.1=0∧(fI x v s.2.2.2.1).2.2.1=(fI x v s.2.2.2.1).2.1∧(fI x v s.2.2.2.1).2.2.2.2.2.2.2.2.1=v.2.2.2.2.1:=by
 have hs:=(cz s).1 h1
 obtain ⟨g1,g2,g3,g4,g5,g6,g7⟩:=MP s hs x (hs.2.2.1 k x h5) v.1 v.2.1 v.2.2.1 v.2.2.2.1 v.2.2.2.2.1 v.2.2.2.2.2.1 v.2.2.2.2.2.2.1 v.2.2.2.2.2.2.2 h2 h3
 have hlt:=(List.getElem?_eq_some_iff.1 h5).1
 exact ⟨(cz _).2 (DW hs h5 _ g1 g2),by rw [Ou h5 g1];exact h4,rt hlt,g1,g3,g4,g5,g6,g7⟩
theorem Lj (s:ae.D) (e:ah.D) (h:s.1.length≤33554432):∃ p,ir s e=some p∧gu s e=some p:=by
 unfold ir gu
 simp only [fx s _ h,gf s _ h,Option.bind_some]
 rcases i9 s e.2.1 with h | ⟨k,x,h1,h2,_⟩
 ·rw [h]
  cases (e.1 != 1) <;> exact ⟨_,rfl,rfl⟩
 ·rw [h1,bW (by omega)]
  cases (e.1 != 1)
  ·simp only [cond_false,Option.bind_some,aJ h2];exact ⟨_,rfl,rfl⟩
  ·exact ⟨_,rfl,rfl⟩
noncomputable def jh (s:ae.D) (e:ah.D):aj.D:=(gu s e).getD (0,0,0,0,0,0,0,0,0,0,0,false,false,())
theorem tL (s:ae.D) (e:ah.D) (h:s.1.length≤33554432):gu s e=some (jh s e):=by
 obtain ⟨p,_,h2⟩:=Lj s e h
 unfold jh;rw [h2];rfl
theorem tM (s:ae.D) (e:ah.D) (h:s.1.length≤33554432):ir s e=some (jh s e):=by
 obtain ⟨p,h1,h2⟩:=Lj s e h
 unfold jh;rw [h2,h1];rfl
theorem Ow (xs:List ah.D) (hl:xs.length≤33554432) (p:ah.D→Bool) (q:(ah.D×Unit)→Option Bool) (hq:∀ x,q (x,())=some (p x)) :
  bD xs q=some (match bZ p xs with | some k=>(k:Int) | none=>-1):=by
 unfold bD
 rw [eG xs (body:=bp xs q) p (fun i=>i) (by omega) (fun i x hx=>?_) ?_]
 ·cases bZ p xs <;> rfl
 ·unfold bp
  simp
 ·unfold bp
  have hlt:=(List.getElem?_eq_some_iff.1 hx).1
  have:((i:Int) < (xs.length:Int)):=by omega
  simp only [this,decide_true,cond_true,aJ hx,hq,Option.bind_some]
theorem pj (xs:List ah.D) (hl:xs.length≤33554432) (p:ah.D→Bool) (q:(ah.D×Unit)→Option Bool) (hq:∀ x,q (x,())=some (p x)) :
  bx xs q=some (xs.filter (fun x=>!p x),()):=by
 unfold bx
 rw [Ow xs hl p q hq,Option.bind_some]
 obtain ⟨h1,h2⟩:=fk p xs
 cases hf:bZ p xs with
 | none =>
  have:xs.filter (fun x=>!p x)=xs:=by rw [List.filter_eq_self];intro x hx;simp [h1 hf x hx]
  rw [this];rfl
 | some k =>
  obtain ⟨x,g1,g2,g3⟩:=h2 k hf
  have hk:=(List.getElem?_eq_some_iff.1 g1).1
  have n1:((k:Int) == -1)=false:=by simp
  simp only [n1,cond_false]
  rw [aA (by omega) (by omega)]
  obtain ⟨ys,m,e1,e2,e3,e4⟩:∃ (ys:List ah.D) (m:Nat),ay (bV q) (xs,(k:Int),(k:Int) + 1)=some (ys,(m:Int),(xs.length:Int))∧ys.length=xs.length∧m≤xs.length∧ys.take m=xs.filter (fun x=>!p x):=by
   refine FR xs (body:=bV q) p (fun s=>s) (by omega) (fun ys i j x hx hij hl'=>?_) (fun ys i hl'=>?_) k x g1 g2 g3
   ·have hlt:=(List.getElem?_eq_some_iff.1 hx).1
    have hil:((j:Int) < (ys.length:Int)):=by omega
    obtain ⟨y,hy⟩:∃ y,ys[i]?=some y:=⟨_,List.getElem?_eq_getElem (by omega)⟩
    unfold bV
    simp (disch:=omega) only [hil,decide_true,cond_true,Int.toNat_natCast,aJ hx,hx,hq,Option.bind_some,aJ hy,hy,aA]
    cases p x <;> rfl
   ·unfold bV
    have:¬ ((xs.length:Int) < (ys.length:Int)):=by omega
    simp only [this,decide_false,cond_false]
  rw [e1,Option.bind_some]
  have t1:0≤(m:Int):=by omega
  have t2:(m:Int)≤(ys.length:Int):=by omega
  simp only [t1,t2,if_true,Int.le_refl,Int.toNat_natCast]
  have z1:m≤ys.length:=by omega
  rw [if_pos (by simp only [List.length_append,List.length_take,List.length_replicate,List.length_drop];omega)]
  have:∀ (zs:List ah.D),(ys.take m++zs).take m=ys.take m:=fun zs=>by rw [List.take_append_of_le_length (by simp;omega),List.take_take,Nat.min_self]
  rw [List.append_assoc,this,e4]
  simp
theorem rT {α:Type} (p:α→Bool):∀ (l:List α),(l.filter p).length + (l.filter fun x=>!p x).length=l.length
 | []=>rfl
 | a :: l=>by
  have:=rT p l
  cases h:p a <;> simp [h] <;> omega
theorem Cu {α σ S R:Type} (xs:List α) {body:S→Option (S⊕R)} (mk:σ→Int→S) (step:σ→Nat→α→σ) (I:Nat→σ→Prop) (r:S→R) (s0:σ) (h0:I 0 s0) (hlen:xs.length≤9223372036854775806)
  (hb:∀ s (i:Nat) x,I i s→xs[i]?=some x→body (mk s (i:Int))=some (.inl (mk (step s i x) (IntKind.wrap .i64 ((i:Int) + 1))))∧I (i + 1) (step s i x))
  (he:∀ s,I xs.length s→body (mk s (xs.length:Int))=some (.inr (r (mk s (xs.length:Int))))) :
  ay body (mk s0 0)=some (r (mk (eH step 0 xs s0) (xs.length:Int)))∧I xs.length (eH step 0 xs s0):=by
 have main:∀ (l:List α) (k:Nat) (s:σ),xs.drop k=l→k≤xs.length→I k s→ay body (mk s (k:Int))=some (r (mk (eH step k l s) (xs.length:Int)))∧I xs.length (eH step k l s):=by
  intro l
  induction l with
  | nil =>
   intro k s h hk hI
   have:k=xs.length:=by
    have:=congrArg List.length h
    simp at this
    omega
   subst this
   exact ⟨be (he s hI),hI⟩
  | cons x l ih =>
   intro k s h hk hI
   have hlt:k < xs.length:=by
    have:=congrArg List.length h
    simp at this
    omega
   have hx:xs[k]?=some x:=by
    have:=congrArg (fun l=>l[0]?) h
    simpa using this
   have hr:xs.drop (k + 1)=l:=by
    have:=congrArg List.tail h
    simpa using this
   obtain ⟨h1,h2⟩:=hb s k x hI hx
   rw [aA (by omega) (by omega)] at h1
   obtain ⟨h3,h4⟩:=ih (k + 1) (step s k x) hr hlt h2
   exact ⟨aW h1 h3,h4⟩
 have:=main xs 0 s0 rfl (by omega) h0
 simpa using this
theorem rU {α σ:Type} (f:σ→α→σ):∀ (xs:List α) (i:Nat) (s:σ),eH (fun s _ x=>f s x) i xs s=xs.foldl f s
 | [],_,_=>rfl
 | x :: xs,i,s=>rU f xs (i + 1) (f s x)
def ids (t:ae.D):List Int:=t.1.map (fun (x:aj.D)=>x.1)
def DY:aj.D:=(0,0,0,0,0,0,0,0,0,0,0,false,false,())
def Ox (s t:ae.D) (v:ah.D) (y:ae.D×(au.D×Unit)):Prop :=
 (v.1=1∧∃ b2 b4 r,MO t v.1 v.2.1 v.2.2.1 v.2.2.2.1 v.2.2.2.2.1 v.2.2.2.2.2.1 v.2.2.2.2.2.2.1 v.2.2.2.2.2.2.2 b2 b4 (decide (v.2.2.2.2.1≥1)) r∧y=(r.1,(if r.2.1≥1 then (1,v,r.2.1,0,DY,()) else (4,v,0,0,DY,())),())) ∨
 (v.1=2∧∃ r,SU t v r∧((r.2.1=false∧y=(t,(4,v,0,0,DY,()),()))∨(r.2.1=true∧∃ (k:Nat) (x:aj.D),dZ s v.2.2.1=k∧s.1[k]?=some x∧y=(r.1,(3,v,0,0,x,()),())))) ∨
 (v.1≠1∧v.1≠2∧∃ r,Ub t v.1 v.2.2.1 v.2.2.2.1 v.2.2.2.2.1 (aM v) r∧y=(r.1,(if r.2.1=true then (2,v,0,0,DY,()) else (4,v,0,0,DY,())),()))
theorem PP (s t:ae.D) (v:ah.D) (hs:s.1.length≤33554432) (ht:t.1.length≤33554432) (ht2:t.2.1.length≤33554432) (hid:ids t=ids s) :
  ∃ y,dW t s v=some (y,())∧(v.1≠2→oN s t v=some y)∧(v.1=2→∃ r,oO t v=some r∧((r.2.1=false∧y=(t,(4,v,0,0,DY,()),()))∨(r.2.1=true∧∃ (k:Nat) (x:aj.D),dZ s v.2.2.1=k∧s.1[k]?=some x∧y=(r.1,(3,v,0,0,x,()),()))))∧Ox s t v y:=by
 by_cases h1:v.1=1
 ·have e1:(v.1 == 1)=true:=by rw [h1];rfl
  obtain ⟨r,g1,g2,b2,b4,t2,t4,hr⟩:=Oq t (jh s v) v.1 v.2.1 v.2.2.1 v.2.2.2.1 v.2.2.2.2.1 v.2.2.2.2.2.1 v.2.2.2.2.2.2.1 v.2.2.2.2.2.2.2 ht ht2
  have g1:l8 t (jh s v) v=some r:=g1
  have g2:mb t (jh s v) v=some r:=g2
  refine ⟨_,?_,fun _=>?_,fun h=>by rw [h1] at h;exact absurd h (by decide),.inl ⟨h1,b2,b4,r,hr,rfl⟩⟩
  ·unfold dW
   simp only [e1,cond_true,tL s v hs,Option.bind_some,g2]
   by_cases hn:r.2.1≥1
   ·rw [decide_eq_true hn,if_pos hn];rfl
   ·rw [decide_eq_false hn,if_neg hn];rfl
  ·unfold oN
   simp only [e1,cond_true,tM s v hs,Option.bind_some,g1]
   by_cases hn:r.2.1≥1
   ·rw [decide_eq_true hn,if_pos hn];rfl
   ·rw [decide_eq_false hn,if_neg hn];rfl
 ·have e1:(v.1 == 1)=false:=by rw [beq_eq_false_iff_ne];exact h1
  by_cases h2:v.1=2
  ·have e2:(v.1 == 2)=true:=by rw [h2];rfl
   obtain ⟨r,g1,g2,hr⟩:=Q8 t v ht ht2
   rcases hr0:hr with ⟨q1,q2⟩ | ⟨q1,q2,q3,q4,k,x,q5,q6,q7,q8,q9⟩
   ·refine ⟨(t,(4,v,0,0,DY,()),()),?_,fun h=>absurd h2 h,fun _=>⟨r,g1,.inl ⟨q1,rfl⟩⟩,.inr (.inl ⟨h2,r,hr,.inl ⟨q1,rfl⟩⟩)⟩
    unfold dW
    simp only [e1,e2,cond_false,cond_true,Option.bind_some,g2,q1]
    rfl
   ·have hk:dZ s v.2.2.1=k:=by rw [← FW t s v.2.2.1 hid];exact q5
    obtain ⟨x',hx'⟩:∃ x',s.1[k]?=some x':=by
     have h3:=congrArg List.length hid
     simp only [ids,List.length_map] at h3
     exact ⟨_,List.getElem?_eq_getElem (by rw [← h3];exact (List.getElem?_eq_some_iff.1 q6).1)⟩
    refine ⟨(r.1,(3,v,0,0,x',()),()),?_,fun h=>absurd h2 h,fun _=>⟨r,g1,.inr ⟨q1,k,x',hk,hx',rfl⟩⟩,.inr (.inl ⟨h2,r,hr,.inr ⟨q1,k,x',hk,hx',rfl⟩⟩)⟩
    unfold dW
    simp only [e1,e2,cond_false,cond_true,Option.bind_some,g2,q1,gf s _ hs,hk,aJ hx']
  ·have e2:(v.1 == 2)=false:=by rw [beq_eq_false_iff_ne];exact h2
   obtain ⟨r,g1,g2,hr⟩:=Q9 t v.1 v.2.1 v.2.2.1 v.2.2.2.1 v.2.2.2.2.1 v.2.2.2.2.2.1 v.2.2.2.2.2.2.1 v.2.2.2.2.2.2.2 ht ht2
   have g1:vZ t v=some r:=g1
   have g2:wh t v=some r:=g2
   refine ⟨_,?_,fun _=>?_,fun h=>absurd h h2,.inr (.inr ⟨h1,h2,r,hr,rfl⟩)⟩
   ·unfold dW
    simp only [e1,e2,cond_false,Option.bind_some,g2]
    rcases hr with ⟨q1,q2⟩ | ⟨q1,_⟩
    ·rw [q1,q2];rfl
    ·rw [q1];rfl
   ·unfold oN
    simp only [e1,cond_false,Option.bind_some,g1]
    rcases hr with ⟨q1,q2⟩ | ⟨q1,_⟩
    ·rw [q1];rfl
    ·rw [q1];rfl
theorem G0 {ps:List aj.D} {k:Nat} {x y:aj.D} (hx:ps[k]?=some x) (he:y.1=x.1):(ps.set k y).map (fun (x:aj.D)=>x.1)=ps.map (fun (x:aj.D)=>x.1):=by
 simp only [List.map_set,he]
 exact tK (by rw [List.getElem?_map,hx];rfl)
theorem Ra (x:aj.D) (v:ah.D) (c:Int):(fI x v c).1=x.1:=by
 unfold fI
 cases (v.2.2.2.2.2.1 == 2) <;> rfl
theorem Rb {s t:ae.D} {v:ah.D} {y:ae.D×(au.D×Unit)} (h:Ox s t v y):ids y.1=ids t∧iS y.1 t∧y.1.2.2=t.2.2:=by
 rcases h with ⟨_,b2,b4,r,hr,rfl⟩ | ⟨_,r,hr,hy⟩ | ⟨_,_,r,hr,rfl⟩
 ·rcases hr with ⟨_,h,_⟩ | ⟨_,h0,_,_,⟨_,h1,j,x,_,_,h2⟩ | ⟨_,i,x,_,hx,_,h1,h2⟩⟩
  ·simp only [h];exact ⟨by trivial,⟨by trivial,by trivial⟩,by trivial⟩
  ·exact ⟨by unfold ids;simp only [h1],⟨by simp only [h1],by have:=Ot h2;simp only [this];simp⟩,h0⟩
  ·exact ⟨by unfold ids;simp only [h1];exact G0 hx rfl,⟨by simp only [h1];simp,Ot h2⟩,h0⟩
 ·rcases hy with ⟨_,rfl⟩ | ⟨hb,k,x,_,_,rfl⟩
  ·exact ⟨by trivial,⟨by trivial,by trivial⟩,by trivial⟩
  ·rcases hr with ⟨q1,_⟩ | ⟨_,_,_,_,k,x,_,q6,_,_,q9⟩
   ·rw [q1] at hb;cases hb
   ·simp only [q9]
    exact ⟨G0 q6 (Ra _ _ _),⟨by simp,by trivial⟩,by trivial⟩
 ·rcases hr with ⟨_,h⟩ | ⟨_,_,_,⟨j,x,⟨_,_,_⟩,⟨_,h⟩ | ⟨_,h⟩⟩ | ⟨i,x,⟨_,hx,_⟩,⟨_,h⟩ | ⟨_,h⟩⟩⟩
  ·simp only [h];exact ⟨by trivial,⟨by trivial,by trivial⟩,by trivial⟩
  ·simp only [h];exact ⟨by trivial,⟨by trivial,by simp⟩,by trivial⟩
  ·simp only [h];exact ⟨by trivial,⟨by trivial,by simp⟩,by trivial⟩
  ·simp only [h];exact ⟨G0 hx rfl,⟨by simp,by trivial⟩,by trivial⟩
  ·simp only [h];exact ⟨G0 hx rfl,⟨by simp,by trivial⟩,by trivial⟩
noncomputable def DZ (s t:ae.D) (v:ah.D):ae.D×(au.D×Unit):=((dW t s v).map (fun y=>y.1)).getD (t,(0,(0,0,0,0,0,0,false,()),0,0,DY,()),())
theorem zX (s t:ae.D) (v:ah.D) (hs:s.1.length≤33554432) (ht:t.1.length≤33554432) (ht2:t.2.1.length≤33554432) (hid:ids t=ids s) :
  dW t s v=some (DZ s t v,())∧(v.1≠2→oN s t v=some (DZ s t v))∧(v.1=2→∃ r,oO t v=some r∧((r.2.1=false∧DZ s t v=(t,(4,v,0,0,DY,()),()))∨(r.2.1=true∧∃ (k:Nat) (x:aj.D),dZ s v.2.2.1=k∧s.1[k]?=some x∧DZ s t v=(r.1,(3,v,0,0,x,()),()))))∧Ox s t v (DZ s t v):=by
 obtain ⟨y,h1,h2,h3,h4⟩:=PP s t v hs ht ht2 hid
 have e:DZ s t v=y:=by unfold DZ;rw [h1];rfl
 rw [e]
 exact ⟨h1,h2,h3,h4⟩
noncomputable def kP (s:ae.D) (q:List au.D×ae.D) (v:ah.D):List au.D×ae.D:=(q.1++[(DZ s q.2 v).2.1],(DZ s q.2 v).1)
def nE (es:List ah.D):List ah.D:=es.filter (fun v=>v.1 != 2)
def qZ (es:List ah.D):List ah.D:=es.filter (fun v=>v.1 == 2)
noncomputable def lE (s:ae.D) (es:List ah.D):List au.D×ae.D:=(nE es++qZ es).foldl (kP s) ([],s)
def CI (s:ae.D) (q:List au.D×ae.D):Prop:=ids q.2=ids s∧iS q.2 s∧q.2.2.2=s.2.2
theorem CI.step {s:ae.D} {q:List au.D×ae.D} (h:CI s q) (v:ah.D) (hs:s.1.length≤33554432) (hs2:s.2.1.length≤33554432):CI s (kP s q v):=by
 obtain ⟨h1,h2,h3⟩:=h
 obtain ⟨k1,k2,k3⟩:=Rb (zX s q.2 v hs (by rw [h2.1];exact hs) (by rw [h2.2];exact hs2) h1).2.2.2
 exact ⟨k1.trans h1,⟨k2.1.trans h2.1,k2.2.trans h2.2⟩,k3.trans h3⟩
theorem Fi (es:List ah.D):(nE es).length + (qZ es).length=es.length:=by
 have:=rT (fun v:ah.D=>v.1 == 2) es
 unfold nE qZ bne
 omega
theorem I6 (s:ae.D) (es:List ah.D) (hp:s.1.length≤33554432) (hs:s.2.1.length≤33554432) (he:es.length≤33554432) :
  uQ s es=some (if aV s then ((lE s es).2,(lE s es).1,()) else (s,[],()))∧((lE s es).1.length=es.length∧CI s (lE s es)):=by
 have hom:=Fi es
 have hlm:(nE es++qZ es).length=es.length:=by rw [List.length_append];exact hom
 have key:=Cu (nE es++qZ es) (body:=nj s (nE es,()) (qZ es,())) (fun (q:List au.D×ae.D) i=>(q.1,i,q.2)) (fun q _ v=>kP s q v) (fun i q=>q.1.length=i∧CI s q) (fun x=>x) ([],s) ⟨rfl,rfl,⟨rfl,rfl⟩,rfl⟩ (by omega) (fun q i v hI hx=>?_) (fun q hI=>?_)
 ·obtain ⟨k1,k2,k3⟩:=key
  rw [rU (kP s)] at k1 k2 k3
  refine ⟨?_,by rw [← hlm];exact k2,k3⟩
  unfold uQ
  rw [fH s hp hs,Option.bind_some,ej s hp hs,Option.bind_some]
  cases hso:aV s
  ·rfl
  ·simp only [Bool.not_true,cond_false,if_true]
   unfold bu
   rw [if_pos (by simp only [aI,List.length_nil];omega)]
   simp only [Option.bind_some,List.nil_append]
   rw [pj es he (fun v=>v.1 == 2) _ (fun x=>rfl),Option.bind_some,pj es he (fun v=>v.1 != 2) _ (fun x=>rfl),Option.bind_some]
   have e1:(es.filter fun v=>!(v.1 == 2))=nE es:=rfl
   have e2:(es.filter fun v=>!(v.1 != 2))=qZ es:=by
    unfold qZ bne
    simp only [Bool.not_not]
   rw [e1,e2,if_pos (by simp only [aI];omega)]
   rw [show (([],0,s):List au.D×(Int×ae.D))=((([],s):List au.D×ae.D).1,0,(([],s):List au.D×ae.D).2) from rfl,k1]
   rfl
 ·obtain ⟨h1,h2⟩:=hI
  have hlt:=(List.getElem?_eq_some_iff.1 hx).1
  refine ⟨?_,by unfold kP;simp only [List.length_append,List.length_cons,List.length_nil];omega,h2.step v hp hs⟩
  obtain ⟨g1,g2,g3⟩:=h2
  have:=(zX s q.2 v hp (by rw [g2.1];exact hp) (by rw [g2.2];exact hs) g1).1
  have hil:((i:Int) < ((nE es++qZ es).length:Int)):=by omega
  unfold nj
  simp only [hil,decide_true,cond_true,aJ hx,Int.toNat_natCast,hx,Option.bind_some,this]
  rw [if_pos (by simp only [aI,List.length_cons,List.length_nil];omega)]
  rfl
 ·unfold nj
  simp
theorem I7 (s:ae.D) (es:List ah.D) (hp:s.1.length≤33554432) (hs:s.2.1.length≤33554432) (he:es.length≤33554432) :
  uH s es=some (if aV s then ((lE s es).2,(lE s es).1,()) else (s,[],())):=by
 have k1:=Cu es (body:=mQ s es) (fun (q:List au.D×ae.D) i=>(q.1,i,q.2)) (fun q _ v=>if (v.1 != 2)=true then kP s q v else q) (fun i q=>q.1.length≤i∧CI s q) (fun x=>x) ([],s) ⟨Nat.le_refl _,rfl,⟨rfl,rfl⟩,rfl⟩ (by omega) (fun q i v hI hx=>?_) (fun q hI=>?_)
 ·obtain ⟨k1,k2,k3⟩:=k1
  rw [rU (fun q v=>if (v.1 != 2)=true then kP s q v else q),← List.foldl_filter] at k1 k2 k3
  have k4:=Cu es (body:=mR s es) (fun (q:List au.D×ae.D) i=>(q.1,i,q.2)) (fun q _ v=>if (v.1 == 2)=true then kP s q v else q) (fun i q=>q.1.length≤es.length + i∧CI s q) (fun x=>x) _ ⟨k2,k3⟩ (by omega) (fun q i v hI hx=>?_) (fun q hI=>?_)
  ·obtain ⟨k4,_⟩:=k4
   rw [rU (fun q v=>if (v.1 == 2)=true then kP s q v else q),← List.foldl_filter,← List.foldl_append] at k4
   unfold uH
   rw [gy s hp hs,Option.bind_some,eh s hp hs,Option.bind_some]
   cases hso:aV s
   ·rfl
   ·simp only [Bool.not_true,cond_false,if_true]
    rw [show (([],0,s):List au.D×(Int×ae.D))=((([],s):List au.D×ae.D).1,0,(([],s):List au.D×ae.D).2) from rfl,k1,Option.bind_some]
    simp only
    rw [k4]
    rfl
  ·obtain ⟨h1,h2⟩:=hI
   have hlt:=(List.getElem?_eq_some_iff.1 hx).1
   have hil:((i:Int) < (es.length:Int)):=by omega
   have hst:=h2.step v hp hs
   obtain ⟨g1,g2,g3⟩:=h2
   have hpf:=(zX s q.2 v hp (by rw [g2.1];exact hp) (by rw [g2.2];exact hs) g1).2.2.1
   unfold mR
   simp only [hil,decide_true,cond_true,aJ hx]
   by_cases h2':v.1=2
   ·have e2:(v.1 == 2)=true:=by rw [h2'];rfl
    have e3:(v.1 != 2)=false:=by unfold bne;rw [e2];rfl
    simp only [e2,e3,cond_false,if_true]
    refine ⟨?_,by unfold kP;simp only [List.length_append,List.length_cons,List.length_nil];omega,hst⟩
    obtain ⟨r,p1,⟨p2,p3⟩ | ⟨p2,k,x,p3,p4,p5⟩⟩:=hpf h2'
    ·simp only [p1,Option.bind_some,p2,Bool.not_false,cond_true]
     rw [if_pos (by simp only [aI,List.length_cons,List.length_nil];omega)]
     unfold kP
     rw [p3]
     rfl
    ·simp only [p1,Option.bind_some,p2,Bool.not_true,cond_false,fx s _ hp,p3,aJ p4]
     rw [if_pos (by simp only [aI,List.length_cons,List.length_nil];omega)]
     unfold kP
     rw [p5]
     rfl
   ·have e2:(v.1 == 2)=false:=by rw [beq_eq_false_iff_ne];exact h2'
    have e3:(v.1 != 2)=true:=by unfold bne;rw [e2];rfl
    simp only [e2,e3,cond_true,Option.bind_some]
    exact ⟨rfl,by simp only [Bool.false_eq_true,if_false];omega,by simp only [Bool.false_eq_true,if_false];exact ⟨g1,g2,g3⟩⟩
  ·unfold mR
   simp
 ·obtain ⟨h1,h2⟩:=hI
  have hlt:=(List.getElem?_eq_some_iff.1 hx).1
  have hil:((i:Int) < (es.length:Int)):=by omega
  have hst:=h2.step v hp hs
  obtain ⟨g1,g2,g3⟩:=h2
  have hpf:=(zX s q.2 v hp (by rw [g2.1];exact hp) (by rw [g2.2];exact hs) g1).2.1
  unfold mQ
  simp only [hil,decide_true,cond_true,aJ hx]
  by_cases h2':v.1=2
  ·have e2:(v.1 == 2)=true:=by rw [h2'];rfl
   have e3:(v.1 != 2)=false:=by unfold bne;rw [e2];rfl
   simp only [e3,cond_false,Option.bind_some]
   exact ⟨rfl,by simp only [Bool.false_eq_true,if_false];omega,by simp only [Bool.false_eq_true,if_false];exact ⟨g1,g2,g3⟩⟩
  ·have e2:(v.1 == 2)=false:=by rw [beq_eq_false_iff_ne];exact h2'
   have e3:(v.1 != 2)=true:=by unfold bne;rw [e2];rfl
   simp only [e3,cond_true,if_true,hpf h2',Option.bind_some]
   refine ⟨?_,by unfold kP;simp only [List.length_append,List.length_cons,List.length_nil];omega,hst⟩
   rw [if_pos (by simp only [aI,List.length_cons,List.length_nil];omega)]
   rfl
 ·unfold mQ
  simp
def zY (x:au.D):Bool:=(x.1 == 6) || ((x.1 == 3) && ((x.2.2.2.2.1.2.2.2.1 == 2) && (x.2.1.2.2.2.2.2.1 != 2)))
theorem MQ (x:au.D):Av x=some (zY x):=by
 unfold Av zY
 cases (x.1 == 6) <;> cases (x.1 == 3) <;> cases (x.2.2.2.2.1.2.2.2.1 == 2) <;> rfl
theorem MR (x:au.D):rF x=some (zY x):=by
 unfold rF zY
 cases (x.1 == 6) <;> cases (x.1 == 3) <;> cases (x.2.2.2.2.1.2.2.2.1 == 2) <;> rfl
def eJ (p:aj.D) (t:Int):Bool:=(aQ p t).getD false
theorem pm (p:aj.D) (t:Int):aQ p t=some (eJ p t):=by
 obtain ⟨b,h⟩:=kO p t
 rw [mf] at h
 unfold eJ
 rw [h];rfl
theorem Fj (p:aj.D) (t:Int):cR p t=some (eJ p t):=by rw [mf,pm]
noncomputable def uW (s:ae.D) (_:Nat) (x:au.D):List ai.D :=
 bif zY x && eJ x.2.2.2.2.1 16 then [(1,x.2.2.2.2.1.2.2.1,0,x.2.2.2.2)]
 else bif (x.1 == 1) && (decide (x.2.2.1≥1) && eJ (jh s x.2.1) 32) then [(2,(jh s x.2.1).2.2.1,x.2.2.1,jh s x.2.1,())] else []
theorem AA (s:ae.D) (i:Nat) (x:au.D):(uW s i x).length≤1:=by
 unfold uW
 cases (zY x && eJ x.2.2.2.2.1 16) <;> cases ((x.1 == 1) && (decide (x.2.2.1≥1) && eJ (jh s x.2.1) 32)) <;> simp
theorem SV (x:au.D) (h:zY x=true):(x.1 == 1)=false:=by
 unfold zY at h
 rw [beq_eq_false_iff_ne]
 intro e
 rw [e] at h
 simp at h
theorem D0 (s:ae.D) (xs:List au.D) (hs:s.1.length≤33554432) (h:xs.length≤33554432):wj s xs=some (bA (uW s) 0 xs):=by
 unfold wj
 rw [db xs (uW s) (fun s=>s) (AA s) (by omega) (fun t i x hI hx=>?_) (fun t=>?_)]
 ·rfl
 ·have hlt:=(List.getElem?_eq_some_iff.1 hx).1
  have hil:((i:Int) < (xs.length:Int)):=by omega
  unfold xj uW
  simp only [hil,decide_true,cond_true,aJ hx,MQ,pm,tL s _ hs,Option.bind_some]
  have hr:∀ (y:ai.D),(t.length + ([y]:List ai.D).length) * (24 * 16)≤aI:=fun y=>by simp only [aI,List.length_cons,List.length_nil];omega
  simp only [hr,if_true]
  cases zY x <;> cases eJ x.2.2.2.2.1 16 <;> cases (x.1 == 1) <;> cases decide (x.2.2.1≥1) <;> cases eJ (jh s x.2.1) 32 <;> simp
 ·unfold xj;simp
theorem D1 (s:ae.D) (xs:List au.D) (hs:s.1.length≤33554432) (h:xs.length≤33554432):v5 s xs=some (bA (uW s) 0 xs):=by
 unfold v5
 rw [db xs (uW s) (fun s=>s) (AA s) (by omega) (fun t i x hI hx=>?_) (fun t=>?_)]
 ·rfl
 ·have hlt:=(List.getElem?_eq_some_iff.1 hx).1
  have hil:((i:Int) < (xs.length:Int)):=by omega
  unfold wX uW
  simp only [hil,decide_true,cond_true,aJ hx,MR,Fj,tM s _ hs,Option.bind_some]
  have hr:∀ (y:ai.D),(t.length + ([y]:List ai.D).length) * (24 * 16)≤aI:=fun y=>by simp only [aI,List.length_cons,List.length_nil];omega
  simp only [hr,if_true]
  have h1:=SV x
  cases hl:zY x
  ·simp only [cond_false,Option.bind_some,hr,if_true,Bool.false_and]
   cases (x.1 == 1) <;> cases decide (x.2.2.1≥1) <;> cases eJ (jh s x.2.1) 32 <;> simp only [cond_true,cond_false,Option.bind_some,hr,if_true,Bool.and_true,Bool.and_false,Bool.false_and,List.append_nil]
  ·rw [h1 hl]
   cases eJ x.2.2.2.2.1 16 <;> simp
 ·unfold wX;simp
theorem Oy (n:Int):dP n=cO n:=by
 unfold dP cO
 simp only [cond_eq_ite,decide_eq_true_eq]
 split <;> split <;> (try split) <;> (try split) <;> first | rfl | (congr 1;omega) | omega
theorem TO (a b:Int):eY a b=bq a b:=by unfold eY bq;simp only [Oy]
theorem TP (a b:Int):jV a b=ib a b:=by unfold jV ib;simp only [Oy]
theorem SW (p:aj.D):rE p=iI p:=by unfold rE iI;simp only [TO,TP]
theorem PQ (p:aj.D):∃ m,iI p=some m:=by simp [iI,bq,ib,cO]
theorem Fk (p:aj.D):∃ b,qa p=some b∧mc p=some b∧(b=true→(p.2.2.2.1 == 2)=true):=by
 unfold qa mc
 obtain ⟨m,hm⟩:=PQ p
 obtain ⟨b,hb⟩:=kO p 8
 simp only [SW,hm,← mf,hb,Option.bind_some]
 unfold bne
 cases h:p.2.2.2.1 == 2 <;> simp only [Bool.not_true,Bool.not_false,cond_true,cond_false]
 ·exact ⟨_,rfl,rfl,by simp⟩
 ·cases decide (m≤0) <;> cases b <;> cases p.2.2.2.2.2.2.2.2.2.2.2.1 <;> exact ⟨_,rfl,rfl,by simp⟩
def j8 (p:aj.D):Bool:=(mc p).getD false
theorem I8 (p:aj.D):mc p=some (j8 p):=by
 obtain ⟨b,_,h,_⟩:=Fk p
 unfold j8
 rw [h];rfl
theorem I9 (p:aj.D):qa p=some (j8 p):=by
 obtain ⟨b,h1,h,_⟩:=Fk p
 unfold j8
 rw [h,h1];rfl
theorem Oz (p:aj.D) (h:j8 p=true):(p.2.2.2.1 == 2)=true:=by
 obtain ⟨b,_,h2,h3⟩:=Fk p
 unfold j8 at h
 rw [h2] at h
 exact h3 h
theorem D2 {α β T R:Type} (xs:List α) (f:α→α) (g:Nat→α→List β) (mk:List β→List α→Int→T) (r:T→R) {body:T→Option (T⊕R)} (n0:List β) (hg:∀ i x,(g i x).length≤1) (hlen:xs.length≤33554432)
  (hb:∀ (ns:List β) (ys:List α) (i:Nat) x,ns.length≤n0.length + i→i < 33554432→ys.length=xs.length→xs[i]?=some x→ys[i]?=some x→body (mk ns ys (i:Int))=some (.inl (mk (ns++g i x) (ys.set i (f x)) (IntKind.wrap .i64 ((i:Int) + 1)))))
  (he:∀ (ns:List β) (ys:List α),body (mk ns ys (xs.length:Int))=some (.inr (r (mk ns ys (xs.length:Int))))) :
  ay body (mk n0 xs 0)=some (r (mk (n0++bA g 0 xs) (xs.map f) (xs.length:Int))):=by
 have main:∀ (l p q:List α) (ns:List β),xs=p++l→q.length=p.length→ns.length≤n0.length + p.length→ay body (mk ns (q++l) (p.length:Int))=some (r (mk (ns++bA g p.length l) (q++l.map f) (xs.length:Int))):=by
  intro l
  induction l with
  | nil =>
   intro p q ns e hq hn
   refine be ?_
   have:p.length=xs.length:=by rw [e];simp
   rw [this,he]
   simp [bA]
  | cons x l ih =>
   intro p q ns e hq hn
   have hlt:p.length < xs.length:=by rw [e];simp
   have hx:xs[p.length]?=some x:=by rw [e];simp
   have hy:(q++x :: l)[p.length]?=some x:=by rw [← hq];simp
   have h1:=hb ns (q++x :: l) p.length x hn (by omega) (by rw [e];simp [hq]) hx hy
   rw [aA (by omega) (by omega)] at h1
   have h2:=ih (p++[x]) (q++[f x]) (ns++g p.length x) (by rw [e];simp) (by simp [hq]) (by have:=hg p.length x;simp only [List.length_append,List.length_cons,List.length_nil];omega)
   refine aW h1 ?_
   have e1:(q++x :: l).set p.length (f x)=q++[f x]++l:=by rw [← hq];simp
   rw [e1]
   have e2:((p++[x]).length:Int)=(p.length:Int) + 1:=by simp
   rw [e2] at h2
   rw [h2]
   simp [bA,List.append_assoc]
 have:=main xs [] [] n0 rfl rfl (by simp)
 simpa using this
def zZ (x:aB.D):Bool:=!x.2.2.1 && (decide (x.1≤0) || decide (x.2.1≥10))
def wq (x:aB.D):aB.D:=bif zZ x then (x.1,x.2.1,true,()) else x
def uX (i:Nat) (x:aB.D):List au.D:=bif zZ x then [(5,(0,0,0,0,0,0,false,()),0,(i:Int),(0,0,0,0,0,0,0,0,0,0,0,false,false,()),())] else []
def yg (p:aj.D):Int:=if p.2.2.2.2.2.2.2.2.2.1 < p.2.2.2.2.2.2.2.2.1 then p.2.2.2.2.2.2.2.2.2.1 else p.2.2.2.2.2.2.2.2.1
def rV (p:aj.D):Bool:=(p.2.2.2.1 == 2) && decide (yg p > 0)
def nF (c:Int) (p:aj.D):aj.D :=
 bif j8 p then (p.1,p.2.1,p.2.1,3,c,p.2.2.2.2.2.1,p.2.2.2.2.2.2.1,p.2.2.2.2.2.2.2.1,0,0,0,false,false,())
 else bif rV p then (p.1,p.2.1,p.2.2.1,p.2.2.2.1,p.2.2.2.2.1,p.2.2.2.2.2.1,p.2.2.2.2.2.2.1,p.2.2.2.2.2.2.2.1,IntKind.wrap .i64 (p.2.2.2.2.2.2.2.2.1 - yg p),IntKind.wrap .i64 (p.2.2.2.2.2.2.2.2.2.1 - yg p),p.2.2.2.2.2.2.2.2.2.2)
 else p
def yh (_:Nat) (p:aj.D):List au.D :=
 bif j8 p then [(6,(0,0,0,0,0,0,false,()),0,0,p,())] else bif rV p then [(7,(0,0,0,0,0,0,false,()),yg p,0,p,())] else []
theorem AB (i:Nat) (x:aB.D):(uX i x).length≤1:=by unfold uX;cases zZ x <;> simp
theorem Lk (i:Nat) (x:aj.D):(yh i x).length≤1:=by unfold yh;cases j8 x <;> cases rV x <;> simp
theorem KB (a b:Int):∃ m,fO a b=some m∧(if (if b < a then b else a) > 0 then m=(if b < a then b else a) else ¬ m > 0):=by
 unfold fO
 simp only [cond_eq_ite,decide_eq_true_eq]
 split <;> simp only [Option.bind_some] <;> split <;> refine ⟨_,rfl,?_⟩ <;> split <;> omega
theorem Rc (s:ae.D) (hs:s.2.1.length≤33554432):ay (kI s) ([],0,s)=some (bA uX 0 s.2.1,(s.2.1.length:Int),(s.1,s.2.1.map wq,s.2.2)):=by
 have:=D2 s.2.1 wq uX (fun ns ys i=>(ns,i,(s.1,ys,s.2.2))) (fun t=>t) (body:=kI s) [] AB hs (fun ns ys i x hn hi hl hx hy=>?_) (fun ns ys=>?_)
 ·simpa using this
 ·have hlt:=(List.getElem?_eq_some_iff.1 hx).1
  have hil:((i:Int) < (s.2.1.length:Int)):=by omega
  unfold kI wq uX zZ
  simp only [hil,decide_true,cond_true,aJ hx,Int.toNat_natCast,aJ hy,hy,Option.bind_some]
  rw [if_pos (by simp only [aI,List.length_cons,List.length_nil] at *;omega)]
  have:=tK hy
  cases x.2.2.1 <;> cases decide (x.1≤0) <;> cases decide (x.2.1≥10) <;> simp [this]
 ·unfold kI;simp
theorem PR (s:ae.D) (hs:s.2.1.length≤33554432):ay (kF s) ([],0,s)=some (bA uX 0 s.2.1,(s.2.1.length:Int),(s.1,s.2.1.map wq,s.2.2)):=by
 have:=D2 s.2.1 wq uX (fun ns ys i=>(ns,i,(s.1,ys,s.2.2))) (fun t=>t) (body:=kF s) [] AB hs (fun ns ys i x hn hi hl hx hy=>?_) (fun ns ys=>?_)
 ·simpa using this
 ·have hlt:=(List.getElem?_eq_some_iff.1 hx).1
  have hil:((i:Int) < (s.2.1.length:Int)):=by omega
  unfold kF wq uX zZ
  simp only [hil,decide_true,cond_true,aJ hx,Int.toNat_natCast,aJ hy,hy,Option.bind_some]
  rw [if_pos (by simp only [aI,List.length_cons,List.length_nil] at *;omega)]
  have:=tK hy
  cases x.2.2.1 <;> cases decide (x.1≤0) <;> cases decide (x.2.1≥10) <;> simp [this]
 ·unfold kF;simp
theorem PT (s:ae.D) (n0:List au.D) (t:(List aB.D)×(Int×(Int×Unit))) (hn0:n0.length≤33554432) (hp:s.1.length≤33554432) :
  ay (kJ s) (n0,0,(s.1,t))=some (n0++bA yh 0 s.1,(s.1.length:Int),(s.1.map (nF s.2.2.2.1),t)):=by
 refine D2 s.1 (nF s.2.2.2.1) yh (fun ns ys i=>(ns,i,(ys,t))) (fun t=>t) (body:=kJ s) n0 Lk hp (fun ns ys i x hn hi hl hx hy=>?_) (fun ns ys=>?_)
 ·have hlt:=(List.getElem?_eq_some_iff.1 hx).1
  have hil:((i:Int) < (s.1.length:Int)):=by omega
  have hly:i < ys.length:=by omega
  have hm:∀ a b,tz x a b=some (x.1,x.2.1,x.2.1,a,b,x.2.2.2.2.2.1,x.2.2.2.2.2.2.1,x.2.2.2.2.2.2.2.1,0,0,0,false,false,()):=fun a b=>rfl
  have hself:=tK hy
  unfold kJ nF yh
  simp only [hil,decide_true,cond_true,aJ hx,I8,Option.bind_some,Int.toNat_natCast,aJ hy,hy,hm,wL hly,rt hly,List.set_set]
  cases j8 x
  ·simp only [cond_false]
   change ((bif x.2.2.2.1 == 2 then some (decide (yg x > 0)) else some false).bind fun o17=>_)=_
   unfold rV
   cases (x.2.2.2.1 == 2) <;> cases decide (yg x > 0) <;> simp only [cond_true,cond_false,Option.bind_some,Bool.and_true,Bool.and_false,Bool.true_and,Bool.false_and,hself,List.append_nil]
   rw [if_pos (by simp only [aI,List.length_cons,List.length_nil] at *;omega)]
   rfl
  ·simp only [cond_true]
   rw [if_pos (by simp only [aI,List.length_cons,List.length_nil] at *;omega)]
 ·unfold kJ;simp
theorem OA (s:ae.D) (n0:List au.D) (t:(List aB.D)×(Int×(Int×Unit))) (hn0:n0.length≤33554432) (hp:s.1.length≤33554432) :
  ay (kG s) (n0,0,(s.1,t))=some (n0++bA yh 0 s.1,(s.1.length:Int),(s.1.map (nF s.2.2.2.1),t)):=by
 refine D2 s.1 (nF s.2.2.2.1) yh (fun ns ys i=>(ns,i,(ys,t))) (fun t=>t) (body:=kG s) n0 Lk hp (fun ns ys i x hn hi hl hx hy=>?_) (fun ns ys=>?_)
 ·have hlt:=(List.getElem?_eq_some_iff.1 hx).1
  have hil:((i:Int) < (s.1.length:Int)):=by omega
  have hly:i < ys.length:=by omega
  have hm:∀ a b,sX x a b=some (x.1,x.2.1,x.2.1,a,b,x.2.2.2.2.2.1,x.2.2.2.2.2.2.1,x.2.2.2.2.2.2.2.1,0,0,0,false,false,()):=fun a b=>rfl
  have hself:=tK hy
  obtain ⟨m,hm1,hm2⟩:=KB x.2.2.2.2.2.2.2.2.1 x.2.2.2.2.2.2.2.2.2.1
  change (if yg x > 0 then m=yg x else ¬ m > 0) at hm2
  unfold kG nF yh
  simp only [hil,decide_true,cond_true,aJ hx,I9,Option.bind_some,Int.toNat_natCast,aJ hy,hy,hm,hm1,wL hly,rt hly,List.set_set]
  cases j8 x
  ·simp only [cond_false]
   unfold rV
   by_cases hpos:yg x > 0
   ·rw [if_pos hpos] at hm2
    subst hm2
    rw [decide_eq_true hpos]
    cases (x.2.2.2.1 == 2) <;> simp only [cond_true,cond_false,Option.bind_some,Bool.and_true,Bool.and_false,Bool.true_and,Bool.false_and,hself,List.append_nil]
    rw [if_pos (by simp only [aI,List.length_cons,List.length_nil] at *;omega)]
    rfl
   ·rw [if_neg hpos] at hm2
    rw [decide_eq_false hpos,decide_eq_false hm2]
    cases (x.2.2.2.1 == 2) <;> simp only [cond_true,cond_false,Option.bind_some,Bool.and_true,Bool.and_false,Bool.true_and,Bool.false_and,hself,List.append_nil]
  ·simp only [cond_true]
   rw [if_pos (by simp only [aI,List.length_cons,List.length_nil] at *;omega)]
   rfl
 ·unfold kG;simp
def dH (s:ae.D):ae.D×((List au.D)×Unit) :=
 if aV s then ((s.1.map (nF s.2.2.2.1),s.2.1.map wq,s.2.2),bA uX 0 s.2.1++bA yh 0 s.1,()) else (s,[],())
theorem ja (s:ae.D) (hp:s.1.length≤33554432) (hs:s.2.1.length≤33554432):xf s=some (dH s):=by
 unfold xf dH
 simp only [fH s hp hs,ej s hp hs,Option.bind_some]
 cases aV s
 ·rfl
 ·simp only [Bool.not_true,cond_false,if_true,Rc s hs,Option.bind_some]
  rw [PT s _ _ (by have:=lY uX AB s.2.1 0;omega) hp]
  rfl
theorem KD (s:ae.D) (hp:s.1.length≤33554432) (hs:s.2.1.length≤33554432):wW s=some (dH s):=by
 unfold wW dH
 simp only [gy s hp hs,eh s hp hs,Option.bind_some]
 cases aV s
 ·rfl
 ·simp only [Bool.not_true,cond_false,if_true,PR s hs,Option.bind_some]
  rw [OA s _ _ (by have:=lY uX AB s.2.1 0;omega) hp]
  rfl
theorem Cv (s:ae.D):iS (dH s).1 s:=by
 unfold dH iS
 split <;> simp
def wS (x:aB.D):Nat:=bif x.2.2.1 then 0 else 1
def wP (p:aj.D):Nat:=bif p.2.2.2.1 == 2 then (if yg p > 0 then 2 else 1) else 0
def tN (s:ae.D):Nat:=(s.2.1.map wS).sum + (s.1.map wP).sum
theorem TQ (i:Nat) (x:aB.D):(uX i x).length + wS (wq x)≤wS x:=by
 unfold uX wq
 cases h:zZ x
 ·simp
 ·have:x.2.2.1=false:=by unfold zZ at h;cases hx:x.2.2.1 <;> simp [hx] at h ⊢
  simp [wS,this]
theorem Re (a b:Int):(if IntKind.wrap .i64 (b - (if b < a then b else a)) < IntKind.wrap .i64 (a - (if b < a then b else a)) then IntKind.wrap .i64 (b - (if b < a then b else a)) else IntKind.wrap .i64 (a - (if b < a then b else a)))≤0:=by
 have h0:IntKind.wrap .i64 0=0:=by decide
 by_cases h:b < a
 ·rw [if_pos h,Int.sub_self,h0];split <;> omega
 ·rw [if_neg h,Int.sub_self,h0];split <;> omega
theorem TR (c:Int) (i:Nat) (p:aj.D):(yh i p).length + wP (nF c p)≤wP p:=by
 unfold yh nF
 cases h:j8 p
 ·cases h2:rV p
  ·simp
  ·unfold rV at h2
   rw [Bool.and_eq_true,decide_eq_true_eq] at h2
   have e1:wP p=2:=by unfold wP;rw [h2.1];simp only [cond_true];rw [if_pos h2.2]
   rw [e1]
   simp only [cond_true,cond_false,List.length_cons,List.length_nil]
   have:=Re p.2.2.2.2.2.2.2.2.1 p.2.2.2.2.2.2.2.2.2.1
   unfold wP
   simp only [h2.1,cond_true]
   rw [if_neg]
   ·omega
   ·unfold yg;simp only;unfold yg at *;omega
 ·have hz:=Oz p h
  simp only [cond_true,List.length_cons,List.length_nil]
  unfold wP
  rw [hz]
  simp only [cond_true]
  have:((3:Int) == 2)=false:=rfl
  simp only [this,cond_false]
  split <;> omega
theorem tO {α β:Type} (g:Nat→α→List β) (f:α→α) (w:α→Nat) (h:∀ i x,(g i x).length + w (f x)≤w x):∀ (xs:List α) (i:Nat),(bA g i xs).length + ((xs.map f).map w).sum≤(xs.map w).sum
 | [],_=>by simp [bA]
 | x :: xs,i=>by
  have h1:=tO g f w h xs (i + 1)
  have h2:=h i x
  simp only [bA,List.length_append,List.map_cons,List.sum_cons]
  omega
theorem D3 (s:ae.D):(dH s).2.1.length + tN (dH s).1≤tN s:=by
 unfold dH
 split
 ·have h1:=tO uX wq wS TQ s.2.1 0
  have h2:=tO yh (nF s.2.2.2.1) wP (TR _) s.1 0
  simp only [tN,List.length_append]
  omega
 ·simp
theorem PU {α:Type} (w:α→Nat) (k:Nat) (h:∀ x,w x≤k):∀ (xs:List α),(xs.map w).sum≤k * xs.length
 | []=>by simp
 | x :: xs=>by have h1:=PU w k h xs;have h2:=h x;simp only [List.map_cons,List.sum_cons,List.length_cons,Nat.mul_add];omega
theorem Ll (s:ae.D):tN s≤s.2.1.length + 2 * s.1.length:=by
 have h1:=PU wS 1 (fun x=>by unfold wS;cases x.2.2.1 <;> simp) s.2.1
 have h2:=PU wP 2 (fun p=>by unfold wP;cases p.2.2.2.1 == 2 <;> simp only [cond_true,cond_false] <;> (try split) <;> omega) s.1
 unfold tN
 omega
theorem kQ {s:ae.D} (h:aV s=true):s.1.length≤8∧s.2.1.length≤3:=by
 unfold aV at h
 simp only [Bool.and_eq_true] at h
 have h1:=of_decide_eq_true h.1.1.1.1.1
 have h2:=of_decide_eq_true h.1.1.1.1.2.2
 exact ⟨by omega,by omega⟩
theorem OB (s:ae.D) (hp:s.1.length≤33554432) (hs:s.2.1.length≤33554432) (u:ae.D) :
  ∃ r,ay cd ([],0,u,s)=some r∧iS r.2.2 s∧r.1.length≤33554432:=by
 cases hok:aV s with
 | false =>
  refine ⟨([],0,s),be ?_,⟨rfl,rfl⟩,by simp⟩
  unfold cd
  simp only [ja s hp hs,Option.bind_some]
  have:(dH s).2.1=[]:=by unfold dH;rw [hok];rfl
  rw [this];rfl
 | true =>
  obtain ⟨l1,l2⟩:=kQ hok
  have hw:=Ll s
  obtain ⟨r,h1,h2⟩:=rY (body:=cd) (fun t=>tN t.2.2.2) (fun t=>iS t.2.2.2 s∧t.1.length + tN t.2.2.2≤tN s) (fun r=>iS r.2.2 s∧r.1.length≤33554432) (by
   rintro ⟨all,n,u,t⟩ ⟨⟨z1,z2⟩,z3⟩
   simp only at z1 z2 z3
   have hr:=D3 t
   have hz:=Cv t
   unfold cd
   simp only [ja t (by omega) (by omega),Option.bind_some]
   by_cases hn:(dH t).2.1.length=0
   ·right
    have:(((dH t).2.1.length:Int) == 0)=true:=by rw [hn];rfl
    rw [this]
    exact ⟨_,rfl,⟨z1,z2⟩,by simp only;omega⟩
   ·left
    have:(((dH t).2.1.length:Int) == 0)=false:=by rw [beq_eq_false_iff_ne];omega
    rw [this]
    simp only [cond_false]
    rw [if_pos (by simp only [aI];omega)]
    refine ⟨_,rfl,⟨⟨hz.1.trans z1,hz.2.trans z2⟩,?_⟩,?_⟩
    ·simp only [List.length_append];omega
    ·simp only;omega) ([],0,u,s) ⟨⟨rfl,rfl⟩,by simp⟩
  exact ⟨r,h1,h2⟩
theorem OC (t:_) (hp:t.2.2.2.1.length≤33554432) (hs:t.2.2.2.2.1.length≤33554432):mS t=cd t:=by
 unfold mS cd
 rw [KD _ hp hs,ja _ hp hs]
theorem PV {S R:Type} {b1 b2:S→Option (S⊕R)} (I:S→Prop) (h:∀ s,I s→b1 s=b2 s) (hk:∀ s s',I s→b2 s=some (.inl s')→I s') {s:S} {r:R} (hI:I s) (hr:ay b2 s=some r):ay b1 s=some r:=by
 obtain ⟨n,hn⟩:=BR hr
 refine vj (n:=n) ?_
 clear hr
 induction n generalizing s with
 | zero=>simp [ay.iter] at hn
 | succ n ih =>
  simp only [ay.iter] at hn ⊢
  rw [h s hI]
  cases hb:b2 s with
  | none=>rw [hb] at hn;cases hn
  | some x =>
   rw [hb,Option.bind_some] at hn
   rw [Option.bind_some]
   cases x with
   | inl s'=>exact ih (hk s s' hI hb) hn
   | inr q=>exact hn
theorem Rf (s:ae.D) (hp:s.1.length≤33554432) (hs:s.2.1.length≤33554432):∃ r,qb s=some r∧md s=some r∧iS r.1 s∧r.2.1.length≤33554432:=by
 obtain ⟨r,h1,h2,h3⟩:=OB s hp hs ([],[],0,0,())
 have h4:ay mS ([],0,([],[],0,0,()),s)=some r:=by
  refine PV (b2:=cd) (fun t=>t.2.2.2.1.length≤33554432∧t.2.2.2.2.1.length≤33554432) (fun t h=>OC t h.1 h.2) ?_ ⟨hp,hs⟩ h1
  rintro ⟨all,n,u,t⟩ t' ⟨g1,g2⟩ hb
  simp only at g1 g2
  have hz:=Cv t
  unfold cd at hb
  simp only [ja t g1 g2,Option.bind_some] at hb
  cases hc:(((dH t).2.1.length:Int) == 0) with
  | true=>rw [hc] at hb;simp at hb
  | false =>
   rw [hc] at hb
   simp only [cond_false] at hb
   split at hb
   ·simp only [Option.some.injEq,Sum.inl.injEq] at hb
    subst hb
    exact ⟨by simp only;rw [hz.1];exact g1,by simp only;rw [hz.2];exact g2⟩
   ·cases hb
 refine ⟨(r.2.2,r.1,r.2.1,()),?_,?_,h2,h3⟩
 ·unfold qb
  simp only [gy s hp hs,Option.bind_some,h4]
 ·unfold md
  simp only [fH s hp hs,Option.bind_some,h1]
def Cw (a:Int) (_:Nat) (x:aj.D):List Int:=bif (x.2.2.2.1 == 2) && ((a == -1) || (x.2.2.1 == a)) then [x.1] else []
theorem PW (a:Int) (i:Nat) (x:aj.D):(Cw a i x).length≤1:=by unfold Cw;cases ((x.2.2.2.1 == 2) && ((a == -1) || (x.2.2.1 == a))) <;> simp
theorem GM (s:ae.D) (a:Int) (h:s.1.length≤33554432):rI s a=some (bA (Cw a) 0 s.1):=by
 unfold rI
 rw [db s.1 (Cw a) (fun s=>s) (PW a) (by omega) (fun t i x hI hx=>?_) (fun t=>?_)]
 ·rfl
 ·have hlt:=(List.getElem?_eq_some_iff.1 hx).1
  have hil:((i:Int) < (s.1.length:Int)):=by omega
  unfold qS Cw
  simp only [hil,decide_true,cond_true,aJ hx]
  rw [if_pos (by simp only [aI,List.length_cons,List.length_nil];omega)]
  cases (x.2.2.2.1 == 2) <;> cases (a == -1) <;> cases (x.2.2.1 == a) <;> simp
 ·unfold qS;simp
def up (a b:Int):Int:=if (if b < a then b else a) > 0 then (if b < a then b else a) else 0
theorem nG (a b:Int):ma a b=some (up a b):=rfl
theorem j9 (a b:Int) (hb:0≤b):fO a b=some (up a b):=by
 unfold fO up
 simp only [cond_eq_ite,decide_eq_true_eq]
 split <;> simp only [Option.bind_some] <;> (try split) <;> (try split) <;> (try split) <;> first | rfl | (congr 1;omega) | omega
theorem D4 {a:Int} (h0:0≤a) (h1:a≤2147483647):up a 2147483647=a:=by unfold up;split <;> (try split) <;> omega
theorem kR {v:ah.D} (h:aM v=true):0≤v.2.2.2.2.1∧v.2.2.2.2.1≤2147483647:=by
 unfold aM at h
 rw [Bool.and_eq_true,Bool.and_eq_true] at h
 exact ⟨of_decide_eq_true h.1.1,of_decide_eq_true h.1.2⟩
def tP (v:ah.D):Int:=if v.1=1 then up v.2.2.2.2.1 2147483647 else 0
theorem jM {α β:Type} (f:α→β):∀ (xs:List α) (i:Nat),bA (fun _ x=>[f x]) i xs=xs.map f
 | [],_=>rfl
 | x :: xs,i=>by simp only [bA,List.map_cons,jM f xs (i + 1)];rfl
theorem cx (xs:List aa.D) (h:okD (.slice aa) xs):cE xs=some xs:=by
 have hl:xs.length≤33554432:=h.1
 unfold cE
 rw [db xs (fun _ x=>[x]) (fun s=>s) (fun _ _=>by simp) (by omega) (fun t i x hI hx=>?_) (fun t=>?_)]
 ·rw [Option.bind_some,jM];simp
 ·have hlt:=(List.getElem?_eq_some_iff.1 hx).1
  have hil:((i:Int) < (xs.length:Int)):=by omega
  have hle:=(h.2 x (List.mem_of_getElem? hx)).2.2.2.2.2.2.1.2.2.2.2.2.2.1.1
  unfold qN eN uu
  simp only [hil,decide_true,cond_true,aJ hx,List.nil_append]
  rw [if_pos (by simp only [aI,List.length_nil];omega)]
  simp only [Option.bind_some]
  rw [if_pos (by simp only [aI,List.length_cons,List.length_nil];omega)]
 ·unfold qN;simp
theorem dy (xs:List aa.D) (h:okD (.slice aa) xs):b8 xs=some xs:=by
 have hl:xs.length≤33554432:=h.1
 unfold b8
 rw [db xs (fun _ x=>[x]) (fun s=>s) (fun _ _=>by simp) (by omega) (fun t i x hI hx=>?_) (fun t=>?_)]
 ·rw [Option.bind_some,jM];simp
 ·have hlt:=(List.getElem?_eq_some_iff.1 hx).1
  have hil:((i:Int) < (xs.length:Int)):=by omega
  have hle:=(h.2 x (List.mem_of_getElem? hx)).2.2.2.2.2.2.1.2.2.2.2.2.2.1.1
  unfold mY dx bu
  simp only [hil,decide_true,cond_true,aJ hx,List.nil_append]
  rw [if_pos (by simp only [aI,List.length_nil];omega)]
  simp only [Option.bind_some]
  rw [if_pos (by simp only [aI,List.length_cons,List.length_nil];omega)]
 ·unfold mY;simp
def Ja (n:Int) (x:ah.D):ah.D:=bif (x.2.2.2.2.1 == (-1)) then (x.1,x.2.1,x.2.2.1,x.2.2.2.1,up n 2147483647,x.2.2.2.2.2) else x
theorem KE (a:bR.D) (e:ah.D) (hk:a.1=9) (hl:a.2.2.2.2.2.2.1.length≤33554432):w6 a e=some (a.2.2.2.2.2.2.1.map (Ja e.2.2.2.2.1)):=by
 unfold w6
 have:(a.1 != 9)=false:=by rw [hk];rfl
 rw [this,cond_false]
 rw [db a.2.2.2.2.2.2.1 (fun _ x=>[Ja e.2.2.2.2.1 x]) (fun s=>s) (fun _ _=>by simp) (by omega) (fun t i x hI hx=>?_) (fun t=>?_)]
 ·rw [jM];rfl
 ·have hlt:=(List.getElem?_eq_some_iff.1 hx).1
  have hil:((i:Int) < (a.2.2.2.2.2.2.1.length:Int)):=by omega
  unfold vq Ja
  simp only [hil,decide_true,cond_true,aJ hx,nG,Option.bind_some]
  cases (x.2.2.2.2.1 == -1)
  ·simp only [cond_false,Option.bind_some]
   rw [if_pos (by simp only [aI,List.length_cons,List.length_nil];omega)]
  ·simp only [cond_true,Option.bind_some]
   rw [if_pos (by simp only [aI,List.length_cons,List.length_nil];omega)]
 ·unfold vq;simp
theorem KF (a:bR.D) (e:ah.D) (hk:a.1=9) (hl:a.2.2.2.2.2.2.1.length≤33554432):sU a e=some (a.2.2.2.2.2.2.1.map (Ja e.2.2.2.2.1)):=by
 unfold sU
 rw [db a.2.2.2.2.2.2.1 (fun _ x=>[Ja e.2.2.2.2.1 x]) (fun s=>s) (fun _ _=>by simp) (by omega) (fun t i x hI hx=>?_) (fun t=>?_)]
 ·rw [jM];rfl
 ·have hlt:=(List.getElem?_eq_some_iff.1 hx).1
  have hil:((i:Int) < (a.2.2.2.2.2.2.1.length:Int)):=by omega
  have h9:(a.1 == 9)=true:=by rw [hk];rfl
  unfold vl Ja
  simp only [hil,decide_true,cond_true,h9,aJ hx,j9 _ 2147483647 (by decide),Option.bind_some]
  cases (x.2.2.2.2.1 == -1)
  ·simp only [cond_false,Option.bind_some]
   rw [if_pos (by simp only [aI,List.length_cons,List.length_nil];omega)]
  ·simp only [cond_true,Option.bind_some]
   rw [if_pos (by simp only [aI,List.length_cons,List.length_nil];omega)]
 ·unfold vl;simp
def D5 (e:ah.D):Bool:=(e.2.2.2.2.1 == 0) && (e.1 != 2)
theorem D6 (e:ah.D):v9 e=some (D5 e):=by unfold v9 D5;cases (e.2.2.2.2.1 == 0) <;> rfl
theorem D7 (e:ah.D):vW e=some (D5 e):=by unfold vW D5;cases (e.2.2.2.2.1 == 0) <;> rfl
def nH (e:ah.D):Bool:=aM e && !D5 e
theorem SX (L:List ah.D) (hl:L.length≤33554432):bx L (fun q=>rM q.1)=some (L.filter nH,()):=by
 rw [pj L hl (fun e=>!nH e) _ (fun x=>by
  unfold rM nH
  simp only [bO,D6,Option.bind_some]
  cases aM x <;> cases D5 x <;> rfl)]
 simp only [Bool.not_not]
theorem SY (o:(List ah.D)×Int) (hl:o.1.length≤33554432):ay (pF o) ([],0)=some (o.1.filter nH,(o.1.length:Int)):=by
 rw [db o.1 (fun _ x=>if nH x then [x] else []) (fun s=>s) (fun _ x=>by split <;> simp) (by omega) (fun t i x hI hx=>?_) (fun t=>?_)]
 ·rw [jv]
 ·have hlt:=(List.getElem?_eq_some_iff.1 hx).1
  have hil:((i:Int) < (o.1.length:Int)):=by omega
  unfold pF nH
  simp only [hil,decide_true,cond_true,aJ hx,Int.toNat_natCast,hx,bX,D7,Option.bind_some]
  cases aM x <;> cases D5 x <;> simp only [cond_true,cond_false,Option.bind_some,Bool.not_true,Bool.not_false,Bool.and_true,Bool.and_false,Bool.false_and,Bool.true_and,if_true,if_false,List.append_nil,Bool.false_eq_true]
  rw [if_pos (by simp only [aI,List.length_cons,List.length_nil];omega)]
  rfl
 ·unfold pF;simp
theorem iM (x:aa.D) (hl:x.2.2.2.2.2.2.1.2.2.2.2.2.2.1.length≤33554432):dx x=some x:=by
 unfold dx bu
 rw [if_pos (by simp only [aI,List.length_nil];omega)]
 rfl
theorem fU (x:aa.D) (hl:x.2.2.2.2.2.2.1.2.2.2.2.2.2.1.length≤33554432):eN x=some x:=by
 unfold eN uu
 rw [if_pos (by simp only [aI,List.length_nil];omega)]
 rfl
theorem BB (e:ah.D) (n:Int):w5 e n=some (e.1,e.2.1,e.2.2.1,e.2.2.2.1,up n 2147483647,e.2.2.2.2.2):=rfl
theorem BC (e:ah.D) (n:Int):oL e n=some (e.1,e.2.1,e.2.2.1,e.2.2.2.1,up n 2147483647,e.2.2.2.2.2):=by
 unfold oL;rw [j9 _ _ (by decide)];rfl
theorem Rg (a:bR.D) (n:Int):∃ m,uD a n=some m∧uO a n=some m:=by
 unfold uD uO BZ Cf EP E4
 simp only [j9 _ 2147483647 (by decide),nG,xD,xE,vE,i6,Option.bind_some]
 cases (a.1 == 1) <;> cases (a.1 == 3) <;> cases (a.1 == 4) <;> cases (a.1 == 5) <;> exact ⟨_,rfl,rfl⟩
def tQ (x:aa.D) (n:Int):aa.D :=
 bif x.2.2.2.2.2.2.1.1 == 2 then (x.1,x.2.1,x.2.2.1,x.2.2.2.1,x.2.2.2.2.1,x.2.2.2.2.2.1,x.2.2.2.2.2.2.1,x.2.2.2.2.2.2.2.1,up (yf x.2.2.2.2.2.2.2.2.1 n) 2147483647,())
 else bif decide (x.2.2.2.2.2.2.2.2.1 > 0) then (x.1,x.2.1,x.2.2.1,x.2.2.2.1,x.2.2.2.2.1,x.2.2.2.2.2.1,x.2.2.2.2.2.2.1,x.2.2.2.2.2.2.2.1,IntKind.wrap .i64 (x.2.2.2.2.2.2.2.2.1 - 1),())
 else x
theorem KG (x:aa.D) (n:Int) (hl:x.2.2.2.2.2.2.1.2.2.2.2.2.2.1.length≤33554432):w7 x n=some (tQ x n):=by
 unfold w7 tQ
 rw [iM x hl]
 simp only [xG,nG,Option.bind_some]
 cases (x.2.2.2.2.2.2.1.1 == 2) <;> cases decide (x.2.2.2.2.2.2.2.2.1 > 0) <;> rfl
theorem KH (x:aa.D) (n:Int) (hl:x.2.2.2.2.2.2.1.2.2.2.2.2.2.1.length≤33554432):wT x n=some (tQ x n):=by
 unfold wT tQ
 rw [fU x hl]
 simp only [xF,j9 _ 2147483647 (by decide),Option.bind_some]
 cases (x.2.2.2.2.2.2.1.1 == 2) <;> cases decide (x.2.2.2.2.2.2.2.2.1 > 0) <;> rfl
theorem xI (x:aa.D) (hl:x.2.2.2.2.2.2.1.2.2.2.2.2.2.1.length≤33554432) (h:aS x=true) :
  bE x.2.2.2.2.2.2.1=some true∧(x.2.2.2.2.2.2.1.1=2→0≤x.2.2.2.2.2.2.2.2.1)∧x.2.2.2.2.2.2.2.2.1≤2147483647:=by
 have h':=cW x hl
 rw [h] at h'
 obtain ⟨b1,p1,q1⟩:=wo x.2.2.2.2.1
 obtain ⟨b2,p2,q2⟩:=ph x.2.2.2.2.2.1
 obtain ⟨b3,p3,q3⟩:=zW x.2.2.2.2.2.2.1 hl
 obtain ⟨b4,p4,q4⟩:=iL x.2.2.2.2.2.2.1 x.2.2.2.2.1.1
 unfold cy cJ bl at h'
 simp only [q1,q2,q3,q4,bQ,Option.bind_some] at h'
 simp only [cond_eq_ite,i7,Option.bind_some] at h'
 have h':=Option.some.inj h'
 rw [q3]
 clear p1 p2 p3 p4 q1 q2 q3 q4 hl h
 generalize x.2.2.2.2.2.2.1.1=ak at *
 generalize x.1=i at *
 generalize x.2.1=ow at *
 generalize x.2.2.1=so at *
 generalize x.2.2.2.1=du at *
 generalize x.2.2.2.2.2.2.2.1=co at *
 generalize x.2.2.2.2.2.2.2.2.1=on at *
 simp at h'
 grind
theorem UG (n p s z:Int) (bt:Bool) (L:List ah.D) (u:Unit) (h:bE (6,n,p,s,z,bt,L,u)=some true):(1≤p∧p≤99∧s=-1)∨(p=0∧0≤s∧s≤2):=by
 unfold bE cJ bl at h
 simp only [bQ,Option.bind_some,bne] at h
 simp only [Int.reduceBEq,beq_self_eq_true,cond_true,cond_false,Option.bind_some,Bool.not_true,Bool.not_false] at h
 have key:((decide (1≤p) && decide (p≤99)) && (s == -1) || (p == 0) && (decide (0≤s) && decide (s≤2)))=true:=by
  revert h
  generalize (decide (1≤p) && decide (p≤99))=c1
  generalize (s == -1)=c2
  generalize (p == 0)=c3
  generalize (decide (0≤s) && decide (s≤2))=c4
  generalize (n == 0)=c5
  generalize (z == 0)=c6
  generalize decide ((L.length:Int) > 0)=c7
  cases c1 <;> cases c2 <;> cases c3 <;> cases c4 <;> cases c5 <;> cases c6 <;> cases c7 <;> cases bt <;> decide
 simp at key
 omega
theorem UH (n p s z:Int) (bt:Bool) (L:List ah.D) (u:Unit) (hl:L.length≤33554432) (h:bE (9,n,p,s,z,bt,L,u)=some true):L.length≤3:=by
 have hC:aU L (fun q=>gn q.1)=some (L.any (fun e=>!eC e)):=ig L hl (fun e=>!eC e) _ (fun x=>by simp only [gn,tJ,Option.bind_some])
 unfold bE at h
 simp only [hC,bQ,Option.bind_some,bne] at h
 simp only [Int.reduceBEq,beq_self_eq_true,cond_true,cond_false,Option.bind_some,Bool.not_true,Bool.not_false] at h
 have key:(decide (1≤(L.length:Int)) && decide ((L.length:Int)≤3))=true:=by
  revert h
  generalize (decide (1≤(L.length:Int)) && decide ((L.length:Int)≤3))=c1
  generalize (s == -1)=c2
  generalize (p == 0)=c3
  generalize L.any (fun e=>!eC e)=c4
  generalize (n == 0)=c5
  generalize (z == 0)=c6
  generalize decide ((L.length:Int) > 0)=c7
  cases c1 <;> cases c2 <;> cases c3 <;> cases c4 <;> cases c5 <;> cases c6 <;> cases c7 <;> cases bt <;> decide
 simp at key
 omega
theorem Uc (a:bR.D) (k:Int) (hk:a.1=2∨a.1=6) (h:bG a k=some true):k=1:=by
 unfold bG iu at h
 simp only [bQ,Option.bind_some] at h
 rcases hk with hk | hk <;> rw [hk] at h <;> revert h <;> generalize (decide (1≤k) && decide (k≤6))=m <;> cases m <;> simp
theorem QB (e:ah.D) (hk:e.1=1) (he:aM e=true):(([e].filter nH).map tP).sum=e.2.2.2.2.1:=by
 have hn:=kR he
 have hk2:(e.1 != 2)=true:=by rw [hk];rfl
 unfold nH D5
 by_cases h0:e.2.2.2.2.1=0
 ·simp [List.filter,he,h0,hk2]
 ·have:(e.2.2.2.2.1 == 0)=false:=by rw [beq_eq_false_iff_ne];exact h0
  simp only [List.filter,he,this,Bool.false_and,Bool.not_false,Bool.and_self,List.map_cons,List.map_nil,List.sum_cons,List.sum_nil]
  unfold tP
  rw [if_pos hk,D4 hn.1 hn.2]
  omega
theorem Uy {a b:Int} (h0:0≤a) (h1:0≤b):0≤up a b∧up a b≤a∧up a b≤b:=by unfold up;split <;> (try split) <;> omega
noncomputable def AC (x:aa.D) (e:ah.D):Option ((List ah.D)×Int):=((bif (x.2.2.2.2.2.2.1.1 == 1) then (
((bif (e.1 == 1) then (
 some e.2.2.2.2.1)
 else (
 some 0)):Option Int).bind fun o6 =>
 some ([],o6))
 else (
((bif (x.2.2.2.2.2.2.1.1 == 2) then (
(fO e.2.2.2.2.1 x.2.2.2.2.2.2.2.2.1).bind fun y7 =>
(oL e (IntKind.wrap .i64 (e.2.2.2.2.1 - y7))).bind fun y8 =>
 if (([]:List ah.D).length + [y8].length) * (24 * 7)≤aI then (
 some (([]++[y8]),y7)) else none)
 else (
((bif (x.2.2.2.2.2.2.1.1 == 9) then (
(sU x.2.2.2.2.2.2.1 e).bind fun y9 =>
 some y9)
 else (
(uE x.2.2.2.2.2.2.1 e).bind fun y10 =>
 if (([]:List ah.D).length + [y10].length) * (24 * 7)≤aI then (
 some ([]++[y10])) else none)):Option (List ah.D)).bind fun o11 =>
 some (o11,0))):Option ((List ah.D)×Int)).bind fun o12 =>
 some o12)):Option ((List ah.D)×Int))
theorem Rh (i ow so du:Int) (pat:dr.D) (gd:bU.D) (k an ap asd az:Int) (ab:Bool) (aL:List ah.D) (u1:Unit) (co lf:Int) (u2:Unit) (ek es ep ed en ez:Int) (eb:Bool) (eu:Unit) (hl:aL.length≤33554432) (hok:aS (i,ow,so,du,pat,gd,(k,an,ap,asd,az,ab,aL,u1),co,lf,u2)=true) (hev:aM (ek,es,ep,ed,en,ez,eb,eu)=true) (hft:bG (k,an,ap,asd,az,ab,aL,u1) ek=some true) :
  ∃ L n,tq (i,ow,so,du,pat,gd,(k,an,ap,asd,az,ab,aL,u1),co,lf,u2) (ek,es,ep,ed,en,ez,eb,eu)=some (L,n,())∧AC (i,ow,so,du,pat,gd,(k,an,ap,asd,az,ab,aL,u1),co,lf,u2) (ek,es,ep,ed,en,ez,eb,eu)=some (L,n)∧L.length≤3∧0≤n∧n≤en ∧
   (k=1→L=[])∧(k=2→n≤lf∧((L.filter nH).map tP).sum=en - n)∧(k=6→((L.filter nH).map tP).sum=en):=by
 obtain ⟨f1,f2,f3⟩:=xI (i,ow,so,du,pat,gd,(k,an,ap,asd,az,ab,aL,u1),co,lf,u2) hl hok
 have f2:k=2→0≤lf:=f2
 have f3:lf≤2147483647:=f3
 have hn:0≤en∧en≤2147483647:=kR hev
 have rm:(([]:List ah.D).length + 1) * (24 * 7)≤aI:=by simp only [aI,List.length_nil];omega
 unfold tq AC
 by_cases h1:k=1
 ·subst h1
  by_cases he:ek=1
  ·subst he
   exact ⟨[],en,rfl,rfl,by simp,hn.1,Int.le_refl _,fun _=>rfl,fun h=>absurd h (by decide),fun h=>absurd h (by decide)⟩
  ·have he':(ek == 1)=false:=by rw [beq_eq_false_iff_ne];exact he
   refine ⟨[],0,by simp only [he'];rfl,by simp only [he'];rfl,by simp,Int.le_refl _,hn.1,fun _=>rfl,fun h=>absurd h (by decide),fun h=>absurd h (by decide)⟩
 by_cases h2:k=2
 ·subst h2
  have hk:=Uc _ ek (.inl rfl) hft
  subst hk
  have f2:=f2 rfl
  obtain ⟨v1,v2,v3⟩:=Uy hn.1 f2
  have hw:IntKind.wrap .i64 (en - up en lf)=en - up en lf:=aA (by omega) (by omega)
  have hup:up (en - up en lf) 2147483647=en - up en lf:=D4 (by omega) (by omega)
  refine ⟨[(1,es,ep,ed,en - up en lf,ez,eb,eu)],up en lf,?_,?_,by simp,v1,v2,fun h=>absurd h (by decide),fun _=>⟨v3,?_⟩,fun h=>absurd h (by decide)⟩
  ·simp only [nG,BB,Option.bind_some,hw,hup];rfl
  ·simp only [j9 _ _ f2,BC,Option.bind_some,hw,hup]
   rw [if_pos (by simp only [aI,List.length_cons,List.length_nil];omega)]
   rfl
  ·rw [QB _ rfl]
   unfold aM at hev ⊢
   simp at hev ⊢
   grind
 have hend:∀ L n,(∃ y,L=[y]∧n=(0:Int)∧(k=6→(([y].filter nH).map tP).sum=en))→L.length≤3∧0≤n∧n≤en∧(k=1→L=[])∧(k=2→n≤lf∧((L.filter nH).map tP).sum=en - n)∧(k=6→((L.filter nH).map tP).sum=en):=by
  rintro L n ⟨y,rfl,rfl,hy⟩
  exact ⟨by simp,Int.le_refl _,hn.1,fun h=>absurd h h1,fun h=>absurd h h2,hy⟩
 by_cases h9:k=9
 ·subst h9
  have hL:=UH an ap asd az ab aL u1 hl f1
  refine ⟨aL.map (Ja en),0,?_,?_,by rw [List.length_map];exact hL,Int.le_refl _,hn.1,fun h=>absurd h (by decide),fun h=>absurd h (by decide),fun h=>absurd h (by decide)⟩
  ·rw [KE _ _ rfl hl];rfl
  ·rw [KF _ _ rfl hl];rfl
 unfold uE
 have e1:=ku h1
 have e2:=ku h2
 have e9:=ku h9
 have rm1:∀ y:ah.D,(([]:List ah.D).length + [y].length) * (24 * 7)≤aI:=fun y=>by simp only [aI,List.length_cons,List.length_nil];omega
 simp only [e1,e2,e9,cond_false,rm1,if_true]
 by_cases h345:k=3∨k=4∨k=5
 ·obtain ⟨m,m1,m2⟩:=Rg (k,an,ap,asd,az,ab,aL,u1) en
  have hd:=hend [(ek,es,ep,ed,up m 2147483647,ez,eb,eu)] 0 ⟨_,rfl,rfl,fun h=>by omega⟩
  refine ⟨[(ek,es,ep,ed,up m 2147483647,ez,eb,eu)],0,?_,?_,hd⟩
  ·rcases h345 with rfl | rfl | rfl <;> (simp only [m2,BB,Option.bind_some];rfl)
  ·rcases h345 with rfl | rfl | rfl <;> (simp only [m1,BC,Option.bind_some];rfl)
 have e3:=ku (show ¬ k=3 by omega)
 have e4:=ku (show ¬ k=4 by omega)
 have e5:=ku (show ¬ k=5 by omega)
 simp only [e3,e4,e5,cond_false,Option.bind_some]
 by_cases h6:k=6
 ·subst h6
  have hk:=Uc _ ek (.inr rfl) hft
  subst hk
  have ha:=UG an ap asd az ab aL u1 f1
  have hd:=hend [(1,es,ap,asd,en,ez,eb,eu)] 0 ⟨_,rfl,rfl,fun _=>by
   rw [QB _ rfl]
   unfold aM at hev ⊢
   simp at hev ⊢
   grind⟩
  exact ⟨_,_,rfl,rfl,hd⟩
 have e6:=ku h6
 simp only [e6,cond_false]
 have hd:∀ y:ah.D,_:=fun y=>hend [y] 0 ⟨y,rfl,rfl,fun h=>absurd h h6⟩
 cases e7:(k == 7) with
 | true =>
  cases e72:(az != 2) with
  | true=>exact ⟨_,_,rfl,rfl,hd _⟩
  | false=>exact ⟨_,_,rfl,rfl,hd _⟩
 | false =>
  simp only [cond_false]
  cases e8:(k == 8) with
  | true =>
   simp only [j9 _ 99 (by decide),nG,Option.bind_some]
   cases (ez == 2) with
   | true =>
    cases eb with
    | true=>exact ⟨_,_,rfl,rfl,hd _⟩
    | false=>exact ⟨_,_,rfl,rfl,hd _⟩
   | false=>exact ⟨_,_,rfl,rfl,hd _⟩
  | false=>exact ⟨_,_,rfl,rfl,hd _⟩
theorem SZ (x:aa.D) (e:ah.D) (hl:x.2.2.2.2.2.2.1.2.2.2.2.2.2.1.length≤33554432) (hok:aS x=true) (hev:aM e=true) (hft:bG x.2.2.2.2.2.2.1 e.1=some true) :
  ∃ L n,tq x e=some (L,n,())∧AC x e=some (L,n)∧L.length≤3∧0≤n∧n≤(e.2.2.2.2.1:Int) ∧
   ((x.2.2.2.2.2.2.1.1:Int)=1→L=[])∧((x.2.2.2.2.2.2.1.1:Int)=2→n≤(x.2.2.2.2.2.2.2.2.1:Int)∧((L.filter nH).map tP).sum=(e.2.2.2.2.1:Int) - n)∧((x.2.2.2.2.2.2.1.1:Int)=6→((L.filter nH).map tP).sum=(e.2.2.2.2.1:Int)) :=
 Rh x.1 x.2.1 x.2.2.1 x.2.2.2.1 x.2.2.2.2.1 x.2.2.2.2.2.1 x.2.2.2.2.2.2.1.1 x.2.2.2.2.2.2.1.2.1 x.2.2.2.2.2.2.1.2.2.1 x.2.2.2.2.2.2.1.2.2.2.1 x.2.2.2.2.2.2.1.2.2.2.2.1 x.2.2.2.2.2.2.1.2.2.2.2.2.1 x.2.2.2.2.2.2.1.2.2.2.2.2.2.1 x.2.2.2.2.2.2.1.2.2.2.2.2.2.2 x.2.2.2.2.2.2.2.1 x.2.2.2.2.2.2.2.2.1 x.2.2.2.2.2.2.2.2.2 e.1 e.2.1 e.2.2.1 e.2.2.2.1 e.2.2.2.2.1 e.2.2.2.2.2.1 e.2.2.2.2.2.2.1 e.2.2.2.2.2.2.2 hl hok hev hft
theorem BD (i ow so du:Int) (pat:dr.D) (gd:bU.D) (act:bR.D) (co lf lf':Int) (u:Unit) (hl:act.2.2.2.2.2.2.1.length≤33554432) (h:aS (i,ow,so,du,pat,gd,act,co,lf,u)=true) (h2:act.1=2→0≤lf') (h3:-1≤lf') (h4:lf'≤2147483647):aS (i,ow,so,du,pat,gd,act,co,lf',u)=true:=by
 have h':=cW (i,ow,so,du,pat,gd,act,co,lf,u) hl
 have g:=cW (i,ow,so,du,pat,gd,act,co,lf',u) hl
 rw [h] at h'
 obtain ⟨b1,p1,q1⟩:=wo pat
 obtain ⟨b2,p2,q2⟩:=ph gd
 obtain ⟨b3,p3,q3⟩:=zW act hl
 obtain ⟨b4,p4,q4⟩:=iL act pat.1
 unfold cy cJ bl at h' g
 simp only [q1,q2,q3,q4,bQ,Option.bind_some] at h' g
 simp only [cond_eq_ite,i7,Option.bind_some] at h' g
 have h':=Option.some.inj h'
 have g:=Option.some.inj g
 rw [← g]
 clear g p1 p2 p3 p4 q1 q2 q3 q4 hl h
 generalize act.1=ak at *
 simp at h' ⊢
 grind
theorem Ri (i ow so du:Int) (pat:dr.D) (gd:bU.D) (act:bR.D) (co lf:Int) (u:Unit) (n k:Int) (hk0:act.1=k) (hl:act.2.2.2.2.2.2.1.length≤33554432) (h:aS (i,ow,so,du,pat,gd,act,co,lf,u)=true) (h0:0≤n) (h2:k=2→n≤lf):aS (tQ (i,ow,so,du,pat,gd,act,co,lf,u) n)=true:=by
 obtain ⟨f1,f2,f3⟩:=xI (i,ow,so,du,pat,gd,act,co,lf,u) hl h
 have f2:k=2→0≤lf:=fun h=>f2 (hk0.trans h)
 have f3:lf≤2147483647:=f3
 unfold tQ
 simp only [hk0]
 by_cases hk:k=2
 ·have e2:(k == 2)=true:=by rw [hk];rfl
  have f2:=f2 hk
  have h2:=h2 hk
  have e:yf lf n=lf - n:=by
   unfold yf
   rw [se (n:=n) (by omega) (by omega),se (n:=lf) (by omega) (by omega),aA (by omega) (by omega),se (by omega) (by omega)]
  rw [e2,e,D4 (by omega) (by omega)]
  exact BD i ow so du pat gd act co lf (lf - n) () hl h (fun _=>by omega) (by omega) (by omega)
 ·have e2:(k == 2)=false:=by rw [beq_eq_false_iff_ne];exact hk
  rw [e2]
  by_cases hp:lf > 0
  ·have hp':decide (lf > 0)=true:=decide_eq_true hp
   rw [hp',aA (by omega) (by omega)]
   exact BD i ow so du pat gd act co lf (lf - 1) () hl h (fun h=>absurd (hk0.symm.trans h) hk) (by omega) (by omega)
  ·have hp':decide (lf > 0)=false:=decide_eq_false hp
   rw [hp']
   exact h
theorem S0 (x:aa.D) (n:Int) (hl:x.2.2.2.2.2.2.1.2.2.2.2.2.2.1.length≤33554432) (h:aS x=true) (h0:0≤n) (h2:(x.2.2.2.2.2.2.1.1:Int)=2→n≤(x.2.2.2.2.2.2.2.2.1:Int)):aS (tQ x n)=true :=
 Ri x.1 x.2.1 x.2.2.1 x.2.2.2.1 x.2.2.2.2.1 x.2.2.2.2.2.1 x.2.2.2.2.2.2.1 x.2.2.2.2.2.2.2.1 x.2.2.2.2.2.2.2.2.1 x.2.2.2.2.2.2.2.2.2 n x.2.2.2.2.2.2.1.1 rfl hl h h0 h2
theorem OD (x:aa.D) (e:ah.D) (hl:x.2.2.2.2.2.2.1.2.2.2.2.2.2.1.length≤33554432) :
  ∃ L n y,w8 x e=some (L,n,y,())∧sV x e=some (L,n,y,())∧(y.2.2.2.2.2.2.1.2.2.2.2.2.2.1.length≤33554432∧L.length≤3∧y.1=x.1∧(aS x=true→aS y=true))∧∃ b,bG x.2.2.2.2.2.2.1 e.1=some b ∧
   (((!aS x || !aM e) || !b)=true→L=[e]∧n=0)∧(((!aS x || !aM e) || !b)=false →
    (∀ v∈L,nH v=true)∧0≤n∧n≤e.2.2.2.2.1∧(x.2.2.2.2.2.2.1.1=1→L=[])∧(x.2.2.2.2.2.2.1.1=2→y.2.2.2.2.2.2.2.2.1=x.2.2.2.2.2.2.2.2.1 - n∧(-2147483647≤x.2.2.2.2.2.2.2.2.1 - n∧x.2.2.2.2.2.2.2.2.1 - n≤2147483647)∧(L.map tP).sum=e.2.2.2.2.1 - n)∧(x.2.2.2.2.2.2.1.1=6→(L.map tP).sum=e.2.2.2.2.1)∧e.2.2.2.2.1≤2147483647):=by
 obtain ⟨b,p4,q4⟩:=iL x.2.2.2.2.2.2.1 e.1
 unfold w8 sV
 simp only [cW x hl,pi x hl,bO,bX,p4,q4,Option.bind_some]
 by_cases hb:((!aS x || !aM e) || !b)=true
 ·refine ⟨[e],0,x,?_,?_,⟨hl,by simp,rfl,id⟩,b,rfl,fun _=>⟨rfl,rfl⟩,fun h=>?_⟩
  ·revert hb;cases aS x <;> cases aM e <;> cases b <;> intro hb <;> first | (simp at hb;done) | (simp only [iM x hl,cond_true,cond_false,Option.bind_some,Bool.not_true,Bool.not_false])
  ·revert hb;cases aS x <;> cases aM e <;> cases b <;> intro hb <;> first | (simp at hb;done) | (simp only [fU x hl,cond_true,cond_false,Option.bind_some,Bool.not_true,Bool.not_false])
  ·rw [hb] at h;cases h
 ·have hb':((!aS x || !aM e) || !b)=false:=by simpa using hb
  rw [Bool.or_eq_false_iff,Bool.or_eq_false_iff] at hb'
  obtain ⟨⟨g1,g2⟩,g3⟩:=hb'
  have g1:aS x=true:=by simpa using g1
  have g2:aM e=true:=by simpa using g2
  have g3:b=true:=by simpa using g3
  subst g3
  obtain ⟨f1,f2,f3⟩:=xI x hl g1
  obtain ⟨L,n,a1,a2,a3,a4,a5,a6,a7,a8⟩:=SZ x e hl g1 g2 q4
  have hn:=kR g2
  have hL:L.length≤33554432:=by omega
  refine ⟨L.filter nH,n,tQ x n,?_,?_,⟨?_,Nat.le_trans (List.length_filter_le _ _) a3,by unfold tQ;cases (x.2.2.2.2.2.2.1.1 == 2) <;> cases decide (x.2.2.2.2.2.2.2.2.1 > 0) <;> rfl,fun _=>S0 x n hl g1 a4 fun h=>(a7 h).1⟩,true,rfl,fun h=>absurd h hb,fun _=>⟨fun v hv=>(List.mem_filter.1 hv).2,a4,a5,fun h=>by rw [a6 h];rfl,fun h=>?_,a8,hn.2⟩⟩
  ·simp only [g1,g2,a1,SX L hL,KG x n hl,cond_true,cond_false,Option.bind_some,Bool.not_true]
  ·simp only [g1,g2,cond_true,cond_false,Option.bind_some,Bool.not_true]
   have a2':=a2
   unfold AC at a2'
   rw [a2',Option.bind_some,SY (L,n) hL,Option.bind_some,KH x n hl]
   rfl
  ·unfold tQ
   cases (x.2.2.2.2.2.2.1.1 == 2) <;> cases decide (x.2.2.2.2.2.2.2.2.1 > 0) <;> exact hl
  ·obtain ⟨a7,a9⟩:=a7 h
   obtain ⟨lf,hlf⟩:∃ lf:Int,lf=x.2.2.2.2.2.2.2.2.1:=⟨_,rfl⟩
   have f2:0≤lf:=by rw [hlf];exact f2 h
   have f3:lf≤2147483647:=by rw [hlf];exact f3
   have a7:n≤lf:=by rw [hlf];exact a7
   rw [← hlf]
   have h2:(x.2.2.2.2.2.2.1.1 == 2)=true:=by rw [h];rfl
   refine ⟨?_,⟨(by show (-2147483647:Int)≤lf - n;omega),(by show lf - n≤(2147483647:Int);omega)⟩,a9⟩
   unfold tQ
   rw [h2]
   simp only [cond_true]
   have:yf lf n=lf - n:=by
    unfold yf
    rw [se (n:=n) (by omega) (by omega),se (n:=lf) (by omega) (by omega),aA (by omega) (by omega),se (by omega) (by omega)]
   rw [← hlf,this,D4 (by omega) (by omega)]
def z6 (a n:Int) (i:Nat) (_:aB.D):List Int:=[(IntKind.wrap .i64 (a + (i:Int))).tmod n]
theorem Fl (a n:Int) (i:Nat) (x:aB.D):(z6 a n i x).length≤1:=by simp [z6]
def dv (s:ae.D):List Int:=if (decide (0≤s.2.2.1) && decide (s.2.2.1≤IntKind.wrap .i64 ((s.2.1.length:Int) - 1)))=true then bA (z6 s.2.2.1 s.2.1.length) 0 s.2.1 else []
theorem PX (s:ae.D):(dv s).length≤s.2.1.length:=by
 unfold dv
 split
 ·exact lY _ (Fl _ _) _ _
 ·simp
theorem uY (s:ae.D) (h:s.2.1.length≤33554432):gV s=some (dv s):=by
 unfold dv
 by_cases hin:(decide (0≤s.2.2.1) && decide (s.2.2.1≤IntKind.wrap .i64 ((s.2.1.length:Int) - 1)))=true
 ·rw [if_pos hin]
  unfold gV
  rw [db s.2.1 (z6 s.2.2.1 s.2.1.length) (fun s=>s) (Fl _ _) (by omega) (fun t i x hI hx=>?_) (fun t=>?_)]
  ·rfl
  ·have hlt:=(List.getElem?_eq_some_iff.1 hx).1
   have hil:((i:Int) < (s.2.1.length:Int)):=by omega
   unfold jf z6
   simp only [hil,decide_true,cond_true,gK,hin,Option.bind_some]
   rw [if_neg (by omega),if_pos (by simp only [aI,List.length_cons,List.length_nil];omega)]
  ·unfold jf;simp
 ·rw [if_neg hin]
  have hin:(decide (0≤s.2.2.1) && decide (s.2.2.1≤IntKind.wrap .i64 ((s.2.1.length:Int) - 1)))=false:=by simpa using hin
  unfold gV
  rw [be (r:=([],0)) (by unfold jf;simp only [gK,hin,Option.bind_some];cases decide ((0:Int) < (s.2.1.length:Int)) <;> rfl)]
  rfl
theorem uZ (s:ae.D) (h:s.2.1.length≤33554432):ic s=some (dv s):=by
 unfold dv
 by_cases hin:(decide (0≤s.2.2.1) && decide (s.2.2.1≤IntKind.wrap .i64 ((s.2.1.length:Int) - 1)))=true
 ·rw [if_pos hin]
  unfold ic bc
  simp only [bQ,hin,Option.bind_some,Bool.not_true,cond_false]
  rw [db s.2.1 (z6 s.2.2.1 s.2.1.length) (fun s=>s) (Fl _ _) (by omega) (fun t i x hI hx=>?_) (fun t=>?_)]
  ·rfl
  ·have hlt:=(List.getElem?_eq_some_iff.1 hx).1
   have hil:((i:Int) < (s.2.1.length:Int)):=by omega
   unfold nk z6
   simp only [hil,decide_true,cond_true]
   rw [if_neg (by omega),if_pos (by simp only [aI,List.length_cons,List.length_nil];omega)]
  ·unfold nk;simp
 ·rw [if_neg hin]
  have hin:(decide (0≤s.2.2.1) && decide (s.2.2.1≤IntKind.wrap .i64 ((s.2.1.length:Int) - 1)))=false:=by simpa using hin
  unfold ic bc
  simp only [bQ,hin,Option.bind_some,Bool.not_false,cond_true]
theorem OE {m n:Int} (h0:0≤m) (h1:m < 2 * n):m.tmod n=if m < n then m else m - n:=by
 split
 ·exact Int.tmod_eq_of_lt h0 (by assumption)
 ·rename_i h
  rw [Int.tmod_eq_emod_of_nonneg h0,← Int.sub_emod_right,Int.emod_eq_of_lt (by omega) (by omega)]
theorem Jb {a n:Int}:∀ (xs:List aB.D) (i:Nat) (x:Int),x∈bA (z6 a n) i xs→∃ j:Nat,i≤j∧j < i + xs.length∧x=(IntKind.wrap .i64 (a + (j:Int))).tmod n
 | [],i,x,h=>by simp [bA] at h
 | y :: xs,i,x,h=>by
  simp only [bA,z6,List.mem_append,List.mem_singleton] at h
  rcases h with rfl | h
  ·exact ⟨i,Nat.le_refl _,by simp,rfl⟩
  ·obtain ⟨j,h1,h2,h3⟩:=Jb xs (i + 1) x h
   exact ⟨j,by omega,by simp;omega,h3⟩
theorem Jc {a:Int} {n:Nat} (h0:0≤a) (h1:a < n) (hn:n≤33554432):∀ (xs:List aB.D) (i:Nat),i + xs.length≤n→(bA (z6 a n) i xs).Nodup
 | [],i,_=>by simp [bA]
 | y :: xs,i,h=>by
  simp only [List.length_cons] at h
  simp only [bA,z6,List.singleton_append,List.nodup_cons]
  refine ⟨fun hm=>?_,Jc h0 h1 hn xs (i + 1) (by omega)⟩
  obtain ⟨j,g1,g2,g3⟩:=Jb xs (i + 1) _ hm
  rw [aA (by omega) (by omega),aA (by omega) (by omega),OE (by omega) (by omega),OE (by omega) (by omega)] at g3
  split at g3 <;> split at g3 <;> omega
theorem D8 (s:ae.D) (h:s.2.1.length≤33554432):(dv s).Nodup:=by
 unfold dv
 split
 ·rename_i hin
  simp only [Bool.and_eq_true,decide_eq_true_eq] at hin
  rw [aA (by omega) (by omega)] at hin
  have key:∀ a:Int,a≤(s.2.1.length:Int) - 1→a < s.2.1.length:=fun a h=>by omega
  exact Jc hin.1 (key _ hin.2) h _ _ (by omega)
 ·simp
theorem KI (xs:List ai.D) (hl:xs.length≤33554432) (p:ai.D→Bool) (q:(ai.D×Unit)→Option Bool) (hq:∀ x,q (x,())=some (p x)) :
  dk xs q=some (match bZ p xs with | some k=>(k:Int) | none=>-1):=by
 unfold dk
 rw [eG xs (body:=cI xs q) p (fun i=>i) (by omega) (fun i x hx=>?_) ?_]
 ·cases bZ p xs <;> rfl
 ·unfold cI
  simp
 ·unfold cI
  have hlt:=(List.getElem?_eq_some_iff.1 hx).1
  have:((i:Int) < (xs.length:Int)):=by omega
  simp only [this,decide_true,cond_true,aJ hx,hq,Option.bind_some]
theorem tR (xs:List ai.D) (hl:xs.length≤33554432) (p:ai.D→Bool) (q:(ai.D×Unit)→Option Bool) (hq:∀ x,q (x,())=some (p x)) :
  ce xs q=some (xs.filter (fun x=>!p x),()):=by
 unfold ce
 rw [KI xs hl p q hq,Option.bind_some]
 obtain ⟨h1,h2⟩:=fk p xs
 cases hf:bZ p xs with
 | none =>
  have:xs.filter (fun x=>!p x)=xs:=by rw [List.filter_eq_self];intro x hx;simp [h1 hf x hx]
  rw [this];rfl
 | some k =>
  obtain ⟨x,g1,g2,g3⟩:=h2 k hf
  have hk:=(List.getElem?_eq_some_iff.1 g1).1
  have n1:((k:Int) == -1)=false:=by simp
  simp only [n1,cond_false]
  rw [aA (by omega) (by omega)]
  obtain ⟨ys,m,e1,e2,e3,e4⟩:∃ (ys:List ai.D) (m:Nat),ay (bL q) (xs,(k:Int),(k:Int) + 1)=some (ys,(m:Int),(xs.length:Int))∧ys.length=xs.length∧m≤xs.length∧ys.take m=xs.filter (fun x=>!p x):=by
   refine FR xs (body:=bL q) p (fun s=>s) (by omega) (fun ys i j x hx hij hl'=>?_) (fun ys i hl'=>?_) k x g1 g2 g3
   ·have hlt:=(List.getElem?_eq_some_iff.1 hx).1
    have hil:((j:Int) < (ys.length:Int)):=by omega
    obtain ⟨y,hy⟩:∃ y,ys[i]?=some y:=⟨_,List.getElem?_eq_getElem (by omega)⟩
    unfold bL
    simp (disch:=omega) only [hil,decide_true,cond_true,Int.toNat_natCast,aJ hx,hx,hq,Option.bind_some,aJ hy,hy,aA]
    cases p x <;> rfl
   ·unfold bL
    have:¬ ((xs.length:Int) < (ys.length:Int)):=by omega
    simp only [this,decide_false,cond_false]
  rw [e1,Option.bind_some]
  have t1:0≤(m:Int):=by omega
  have t2:(m:Int)≤(ys.length:Int):=by omega
  simp only [t1,t2,if_true,Int.le_refl,Int.toNat_natCast]
  have z1:m≤ys.length:=by omega
  rw [if_pos (by simp only [List.length_append,List.length_take,List.length_replicate,List.length_drop];omega)]
  have:∀ (zs:List ai.D),(ys.take m++zs).take m=ys.take m:=fun zs=>by rw [List.take_append_of_le_length (by simp;omega),List.take_take,Nat.min_self]
  rw [List.append_assoc,this,e4]
  simp
theorem Cx (xs:List ai.D) (a:Int) (h:xs.length≤33554432):lk xs a=some (xs.filter fun x=>x.2.1 == a):=by
 unfold lk
 rw [db xs (fun _ x=>if x.2.1 == a then [x] else []) (fun s=>s) (fun _ x=>by split <;> simp) (by omega) (fun t i x hI hx=>?_) (fun t=>?_)]
 ·rw [Option.bind_some,jv]
 ·have hlt:=(List.getElem?_eq_some_iff.1 hx).1
  have hil:((i:Int) < (xs.length:Int)):=by omega
  unfold lN
  simp only [hil,decide_true,cond_true,aJ hx]
  rw [if_pos (by simp only [aI,List.length_cons,List.length_nil];omega)]
  cases (x.2.1 == a) <;> simp
 ·unfold lN;simp
theorem Cy (xs:List ai.D) (a:Int) (h:xs.length≤33554432):lz xs a=some (xs.filter fun x=>x.2.1 == a):=by
 unfold lz bM
 rw [if_pos (by simp only [aI,List.length_nil];omega)]
 simp only [Option.bind_some,List.nil_append]
 rw [tR xs h (fun x=>x.2.1 != a) _ (fun x=>rfl)]
 simp [bne]
theorem z7 (l:List Int) (a:Int) (h:l.length≤33554432):vV l a=some (l.any (fun x=>x == a)):=by
 unfold vV
 rw [eG l (body:=uB l a) (fun x=>x == a) (fun _=>true) (by omega) (fun i x hx=>?_) ?_]
 ·obtain ⟨h1,h2⟩:=fk (fun x=>x == a) l
  cases hf:bZ (fun x=>x == a) l with
  | none =>
   have:l.any (fun x=>x == a)=false:=by rw [List.any_eq_false];exact fun x hx=>by simpa using h1 hf x hx
   rw [this];rfl
  | some k =>
   obtain ⟨x,g1,g2,_⟩:=h2 k hf
   have:l.any (fun x=>x == a)=true:=by rw [List.any_eq_true];exact ⟨x,List.mem_of_getElem? g1,g2⟩
   rw [this];rfl
 ·unfold uB
  simp
 ·unfold uB
  have hlt:=(List.getElem?_eq_some_iff.1 hx).1
  have:((i:Int) < (l.length:Int)):=by omega
  simp only [this,decide_true,cond_true,aJ hx]
def nI (cs:List Int) (n:Int):Int:=match cs with
 | []=>0
 | c :: _=>if n < 2 then 0 else if c.tmod n < 0 then c.tmod n + n else c.tmod n
def mg (cs:List Int) (n:Int):List Int:=match cs with
 | []=>[]
 | c :: r=>if n < 2 then c :: r else r
theorem D9 (cs:List Int) {n:Int} (h:1≤n):0≤nI cs n∧nI cs n < n:=by
 unfold nI
 split
 ·omega
 ·rename_i c r
  split
  ·omega
  ·have h1:=Int.tmod_lt_of_pos c (show 0 < n by omega)
   have h2:-n < c.tmod n:=by
    have:=Int.tmod_lt_of_pos (-c) (show 0 < n by omega)
    rw [Int.neg_tmod] at this
    omega
   split <;> omega
theorem nJ (cs:List Int) (n:Int):mg cs n <:+ cs:=by
 unfold mg
 split
 ·exact List.suffix_refl _
 ·split
  ·exact List.suffix_refl _
  ·exact List.suffix_cons _ _
theorem eR (a:List Int) (h:a.length≤33554432):bw a=some a:=by
 unfold bw
 rw [if_pos (by simp only [aI,List.length_nil];omega),List.nil_append]
theorem Ea (cs:List Int) (n:Int) (h:cs.length≤33554432) (hn:n≤33554432):wa cs n=some (nI cs n,mg cs n,()):=by
 unfold wa
 by_cases h2:n < 2
 ·rw [decide_eq_true h2]
  simp only [cond_true,Option.bind_some,eR cs h]
  unfold nI mg
  cases cs <;> simp [h2]
 ·rw [decide_eq_false h2]
  cases cs with
  | nil=>simp [nI,mg,eR]
  | cons c r =>
   have h1:=Int.tmod_lt_of_pos c (show 0 < n by omega)
   have h3:-n < c.tmod n:=by
    have:=Int.tmod_lt_of_pos (-c) (show 0 < n by omega)
    rw [Int.neg_tmod] at this
    omega
   have hl:((c :: r).length:Int)=(r.length:Int) + 1:=by simp
   have e0:(((c :: r).length:Int) == 0)=false:=by rw [hl,beq_eq_false_iff_ne];omega
   have ei:∀ {R:Type} (κ:Int→Option R),idx (c :: r) 0 κ=κ c:=fun κ=>aJ (i:=0) rfl
   simp only [cond_false,e0,Option.bind_some,ei]
   rw [if_neg (by omega)]
   simp only [List.length_cons] at h
   simp only [nI,mg,if_neg h2]
   by_cases hneg:c.tmod n < 0
   ·rw [decide_eq_true hneg,if_pos hneg]
    simp only [cond_true,Option.bind_some]
    rw [aA (by omega) (by omega),if_pos (by omega),if_pos (by omega),if_pos (by omega)]
    have:(((c :: r).take ((c :: r).length:Int).toNat).drop (1:Int).toNat)=r:=by simp
    rw [this,eR r (by omega)]
    rfl
   ·rw [decide_eq_false hneg,if_neg hneg]
    simp only [cond_false,Option.bind_some]
    rw [if_pos (by omega),if_pos (by omega),if_pos (by omega)]
    have:(((c :: r).take ((c :: r).length:Int).toNat).drop (1:Int).toNat)=r:=by simp
    rw [this,eR r (by omega)]
    rfl
theorem Eb (cs:List Int) (n:Int) (h:cs.length≤33554432) (hn:n≤33554432):vX cs n=some (nI cs n,mg cs n,()):=by
 unfold vX
 by_cases h2:n < 2
 ·rw [decide_eq_true h2]
  simp only [cond_true,Option.bind_some]
  rw [if_pos (by simp only [aI,List.length_nil];omega)]
  unfold nI mg
  cases cs <;> simp [h2]
 ·rw [decide_eq_false h2]
  cases cs with
  | nil=>simp [nI,mg,aI]
  | cons c r =>
   have h1:=Int.tmod_lt_of_pos c (show 0 < n by omega)
   have h3:-n < c.tmod n:=by
    have:=Int.tmod_lt_of_pos (-c) (show 0 < n by omega)
    rw [Int.neg_tmod] at this
    omega
   have hl:((c :: r).length:Int)=(r.length:Int) + 1:=by simp
   have e0:(((c :: r).length:Int) == 0)=false:=by rw [hl,beq_eq_false_iff_ne];omega
   have ei:∀ {R:Type} (κ:Int→Option R),idx (c :: r) 0 κ=κ c:=fun κ=>aJ (i:=0) rfl
   simp only [cond_false,e0,Option.bind_some,ei]
   rw [if_neg (by omega)]
   simp only [List.length_cons] at h
   simp only [nI,mg,if_neg h2]
   have hd:(((c :: r).take ((c :: r).length:Int).toNat).drop (1:Int).toNat)=r:=by simp
   by_cases hneg:c.tmod n < 0
   ·rw [decide_eq_true hneg,if_pos hneg]
    simp only [cond_true,Option.bind_some]
    rw [aA (by omega) (by omega),if_pos (by omega),if_pos (by omega),if_pos (by omega),hd,if_pos (by simp only [aI,List.length_nil];omega)]
    rfl
   ·rw [decide_eq_false hneg,if_neg hneg]
    simp only [cond_false,Option.bind_some]
    rw [if_pos (by omega),if_pos (by omega),if_pos (by omega),hd,if_pos (by simp only [aI,List.length_nil];omega)]
    rfl
theorem Rj (xs:List ai.D) (k:Nat) (h:k < xs.length) (hl:xs.length≤33554432):dX xs (k:Int) (IntKind.wrap .i64 ((k:Int) + 1))=some (xs.eraseIdx k,()):=by
 unfold dX
 rw [aA (by omega) (by omega)]
 have e0:((k:Int) == (k:Int) + 1)=false:=by rw [beq_eq_false_iff_ne];omega
 have t1:((k:Int) + 1).toNat=k + 1:=by omega
 have t2:(xs.length:Int).toNat=xs.length:=by omega
 have t3:k + (xs.length - (k + 1)) - 0=xs.length - 1:=by omega
 have t4:k + (xs.length - (k + 1))=xs.length - 1:=by omega
 simp only [e0,cond_false,t1,t2,Int.toNat_natCast,t3,t4]
 rw [if_pos (by omega),if_pos (by omega),if_pos (by omega),if_pos (by omega),if_pos (by omega),if_pos (by omega),if_pos (by omega),if_pos (by omega),if_pos (by omega),if_pos (by omega),if_pos (by omega),if_pos (by omega),if_pos (by omega),if_pos (by omega),if_pos (by omega)]
 have hlen:(xs.take k++(xs.take xs.length).drop (k + 1)++xs.drop (xs.length - 1)).length=xs.length:=by simp;omega
 rw [if_pos (by rw [hlen];omega)]
 rw [List.drop_zero,List.append_assoc,List.take_append_of_le_length (by rw [List.length_take,hlen];omega),List.take_take,show min (xs.length - 1) (xs.length - 1 - 0)=xs.length - 1 by omega,List.append_assoc,← List.append_assoc,List.take_append_of_le_length (by simp;omega),List.take_of_length_le (by simp;omega),List.take_length,List.eraseIdx_eq_take_drop_succ]
def eW:Nat→List Int→List ai.D→List Int×List ai.D
 | 0,cs,_=>(cs,[])
 | n + 1,cs,own=>match own[(nI cs own.length).toNat]? with
  | none=>(cs,[])
  | some x=>((eW n (mg cs own.length) (own.eraseIdx (nI cs own.length).toNat)).1,x :: (eW n (mg cs own.length) (own.eraseIdx (nI cs own.length).toNat)).2)
theorem FX (n:Nat) (cs:List Int) (own:List ai.D):eW (n + 1) cs own=match own[(nI cs own.length).toNat]? with
  | none=>(cs,[])
  | some x=>((eW n (mg cs own.length) (own.eraseIdx (nI cs own.length).toNat)).1,x :: (eW n (mg cs own.length) (own.eraseIdx (nI cs own.length).toNat)).2):=rfl
theorem BE {α:Type}:∀ (l:List α) (k:Nat) (x:α),l[k]?=some x→(x :: l.eraseIdx k).Perm l
 | [],k,x,h=>by simp at h
 | a :: l,0,x,h=>by simp at h;subst h;simp
 | a :: l,k + 1,x,h=>by
  simp only [List.getElem?_cons_succ] at h
  simp only [List.eraseIdx_cons_succ]
  exact (List.Perm.swap a x _).trans ((BE l k x h).cons a)
theorem va:∀ (n:Nat) (cs:List Int) (own:List ai.D),own.length=n→(eW n cs own).2.Perm own∧(eW n cs own).1 <:+ cs
 | 0,cs,own,h=>by
  have:own=[]:=List.eq_nil_of_length_eq_zero h
  subst this
  exact ⟨List.Perm.nil,List.suffix_refl _⟩
 | n + 1,cs,own,h=>by
  obtain ⟨h1,h2⟩:=D9 cs (n:=own.length) (by omega)
  have hk:(nI cs own.length).toNat < own.length:=by omega
  have hx:=List.getElem?_eq_getElem hk
  obtain ⟨g1,g2⟩:=va n (mg cs own.length) (own.eraseIdx (nI cs own.length).toNat) (by rw [List.length_eraseIdx_of_lt hk];omega)
  unfold eW
  rw [hx]
  exact ⟨(g1.cons _).trans (BE own _ _ hx),g2.trans (nJ _ _)⟩
theorem BF:∀ (n:Nat) (cs:List Int) (out own:List ai.D),own.length=n→n≤33554432→out.length + n≤33554432→cs.length≤33554432 →
  ay lA (cs,out,own)=some ((eW n cs own).1,out++(eW n cs own).2,[])
 | 0,cs,out,own,h,_,_,_=>by
  have:own=[]:=List.eq_nil_of_length_eq_zero h
  subst this
  refine be ?_
  unfold lA eW
  simp
 | n + 1,cs,out,own,h,hn,ho,hc=>by
  obtain ⟨h1,h2⟩:=D9 cs (n:=own.length) (by omega)
  obtain ⟨k,hk⟩:=Int.eq_ofNat_of_zero_le h1
  have hkl:k < own.length:=by omega
  have hx:=List.getElem?_eq_getElem hkl
  have hr:=(nJ cs own.length).length_le
  have ih:=BF n (mg cs own.length) (out++[own[k]]) (own.eraseIdx k) (by rw [List.length_eraseIdx_of_lt hkl];omega) (by omega) (by simp;omega) (by omega)
  refine aW (s':=(mg cs own.length,out++[own[k]],own.eraseIdx k)) ?_ ?_
  ·unfold lA
   have hp:(own.length:Int) > 0:=by omega
   simp only [hp,decide_true,cond_true,Ea cs own.length hc (by omega),Option.bind_some,hk,aJ hx,Int.toNat_natCast,hx]
   rw [if_pos (by simp only [aI,List.length_cons,List.length_nil];omega),Rj own k hkl (by omega),Option.bind_some]
  ·rw [ih]
   rw [FX,hk,Int.toNat_natCast,hx]
   simp
theorem BG:∀ (n:Nat) (cs:List Int) (out own:List ai.D),own.length=n→n≤33554432→out.length + n≤33554432→cs.length≤33554432 →
  ay ll (out,cs,own)=some (out++(eW n cs own).2,(eW n cs own).1,[])
 | 0,cs,out,own,h,_,_,_=>by
  have:own=[]:=List.eq_nil_of_length_eq_zero h
  subst this
  refine be ?_
  unfold ll eW
  simp
 | n + 1,cs,out,own,h,hn,ho,hc=>by
  obtain ⟨h1,h2⟩:=D9 cs (n:=own.length) (by omega)
  obtain ⟨k,hk⟩:=Int.eq_ofNat_of_zero_le h1
  have hkl:k < own.length:=by omega
  have hx:=List.getElem?_eq_getElem hkl
  have hr:=(nJ cs own.length).length_le
  have ih:=BG n (mg cs own.length) (out++[own[k]]) (own.eraseIdx k) (by rw [List.length_eraseIdx_of_lt hkl];omega) (by omega) (by simp;omega) (by omega)
  refine aW (s':=(out++[own[k]],mg cs own.length,own.eraseIdx k)) ?_ ?_
  ·unfold ll
   have hp:(own.length:Int) > 0:=by omega
   have t1:((k:Int) + 1).toNat=k + 1:=by omega
   have t2:(own.length:Int).toNat=own.length:=by omega
   simp only [hp,decide_true,cond_true,Eb cs own.length hc (by omega),Option.bind_some,hk,aJ hx,Int.toNat_natCast,hx]
   rw [aA (by omega) (by omega)]
   have l1:((own.take k).drop (0:Int).toNat).length=k:=by simp;omega
   have l2:((own.take own.length).drop ((k:Int) + 1).toNat).length=own.length - (k + 1):=by rw [t1];simp
   rw [if_pos (by simp only [aI,List.length_cons,List.length_nil];omega),if_pos (by omega),if_pos (by omega),if_pos (by omega),if_pos (by rw [l1];simp only [aI,List.length_nil];omega),if_pos (by omega),if_pos (by omega),if_pos (by omega),if_pos (by rw [List.nil_append,l1,l2];simp only [aI];omega)]
   simp [t1,List.eraseIdx_eq_take_drop_succ]
  ·rw [ih]
   rw [FX,hk,Int.toNat_natCast,hx]
   simp
def iw (l:List ai.D) (done:List Int):List ai.D:=l.filter fun x=>!(done.any fun z=>z == x.2.1)
def tS (l:List ai.D):List Int→List Int→List Int×List ai.D
 | [],cs=>(cs,[])
 | s :: r,cs=>((tS l r (eW (l.filter fun x=>x.2.1 == s).length cs (l.filter fun x=>x.2.1 == s)).1).1,(eW (l.filter fun x=>x.2.1 == s).length cs (l.filter fun x=>x.2.1 == s)).2++(tS l r (eW (l.filter fun x=>x.2.1 == s).length cs (l.filter fun x=>x.2.1 == s)).1).2)
theorem Jd (l:List ai.D) (done:List Int) (s:Int) (h:s ∉ done):(iw l done).filter (fun x=>x.2.1 == s)=l.filter fun x=>x.2.1 == s:=by
 unfold iw
 rw [List.filter_filter]
 refine List.filter_congr fun x _=>?_
 cases hx:x.2.1 == s with
 | false=>rfl
 | true =>
  have hx:=eq_of_beq hx
  have:(done.any fun z=>z == x.2.1)=false:=by
   rw [List.any_eq_false]
   intro z hz hzs
   have:=eq_of_beq hzs
   rw [hx] at this
   exact h (this ▸ hz)
  rw [this];rfl
theorem Fm (l:List ai.D) (done:List Int) (s:Int):(iw l done).filter (fun x=>!(x.2.1 == s))=iw l (done++[s]):=by
 unfold iw
 rw [List.filter_filter]
 refine List.filter_congr fun x _=>?_
 rw [List.any_append]
 simp only [List.any_cons,List.any_nil,Bool.or_false,Bool.not_or]
 rw [Bool.and_comm,show (x.2.1 == s)=(s == x.2.1) from Bool.eq_iff_iff.2 (by simp only [beq_iff_eq];exact eq_comm)]
theorem z8 (l:List ai.D) (sides:List Int) (hl:l.length≤33554432) (hs:sides.length≤33554432) (hn:sides.Nodup):∀ (rem done cs:List Int) (out:List ai.D),sides=done++rem→cs.length≤33554432→out.length + (iw l done).length=l.length →
  ay (lB sides) (cs,out,iw l done,(done.length:Int))=some ((tS l rem cs).1,out++(tS l rem cs).2,iw l sides,(sides.length:Int))∧(out++(tS l rem cs).2).length + (iw l sides).length=l.length∧(tS l rem cs).1 <:+ cs
 | [],done,cs,out,e,hc,ho=>by
  simp only [List.append_nil] at e
  subst e
  refine ⟨be ?_,by simpa [tS] using ho,List.suffix_refl _⟩
  unfold lB tS
  simp
 | s :: rem,done,cs,out,e,hc,ho=>by
  have hnd:s ∉ done:=by
   rw [e,List.nodup_append] at hn
   exact fun hm=>hn.2.2 s hm s (by simp) rfl
  have hlt:done.length < sides.length:=by rw [e];simp
  have hx:sides[done.length]?=some s:=by rw [e];simp
  have hkl:(iw l done).length≤l.length:=List.length_filter_le _ _
  have hown:=Jd l done s hnd
  have hrest:=Fm l done s
  have hparts:=rT (fun x:ai.D=>x.2.1 == s) (iw l done)
  rw [hown,hrest] at hparts
  obtain ⟨p1,p2⟩:=va _ cs (l.filter fun x=>x.2.1 == s) rfl
  have hpl:=p1.length_eq
  have hsl:=p2.length_le
  obtain ⟨i1,i2,i3⟩:=z8 l sides hl hs hn rem (done++[s]) (eW (l.filter fun x=>x.2.1 == s).length cs (l.filter fun x=>x.2.1 == s)).1 (out++(eW (l.filter fun x=>x.2.1 == s).length cs (l.filter fun x=>x.2.1 == s)).2) (by rw [e];simp) (by omega) (by rw [List.length_append];omega)
  refine ⟨aW (s':=((eW (l.filter fun x=>x.2.1 == s).length cs (l.filter fun x=>x.2.1 == s)).1,out++(eW (l.filter fun x=>x.2.1 == s).length cs (l.filter fun x=>x.2.1 == s)).2,iw l (done++[s]),((done++[s]).length:Int))) ?_ ?_,?_,i3.trans p2⟩
  ·have hil:((done.length:Int) < (sides.length:Int)):=by omega
   unfold lB
   simp only [hil,decide_true,cond_true,aJ hx,Int.toNat_natCast,hx,Option.bind_some]
   rw [Cy _ _ (by omega),hown,Option.bind_some,tR _ (by omega) (fun x=>x.2.1 == s) _ (fun x=>rfl),hrest,Option.bind_some,
    BF _ cs out _ rfl (by omega) (by omega) hc,Option.bind_some,aA (by omega) (by omega)]
   simp
  ·rw [i1]
   simp [tS]
  ·simpa [tS,List.append_assoc] using i2
theorem z9 (l:List ai.D) (sides:List Int) (hl:l.length≤33554432) (hs:sides.length≤33554432) (hn:sides.Nodup):∀ (rem done cs:List Int) (out:List ai.D),sides=done++rem→cs.length≤33554432→out.length + (iw l done).length=l.length →
  ay (lm l sides) (out,cs,(done.length:Int))=some (out++(tS l rem cs).2,(tS l rem cs).1,(sides.length:Int))
 | [],done,cs,out,e,hc,ho=>by
  simp only [List.append_nil] at e
  subst e
  refine be ?_
  unfold lm tS
  simp
 | s :: rem,done,cs,out,e,hc,ho=>by
  have hnd:s ∉ done:=by
   rw [e,List.nodup_append] at hn
   exact fun hm=>hn.2.2 s hm s (by simp) rfl
  have hlt:done.length < sides.length:=by rw [e];simp
  have hx:sides[done.length]?=some s:=by rw [e];simp
  have hkl:(iw l done).length≤l.length:=List.length_filter_le _ _
  have hown:=Jd l done s hnd
  have hrest:=Fm l done s
  have hparts:=rT (fun x:ai.D=>x.2.1 == s) (iw l done)
  rw [hown,hrest] at hparts
  obtain ⟨p1,p2⟩:=va _ cs (l.filter fun x=>x.2.1 == s) rfl
  have hpl:=p1.length_eq
  have hsl:=p2.length_le
  have i1:=z9 l sides hl hs hn rem (done++[s]) (eW (l.filter fun x=>x.2.1 == s).length cs (l.filter fun x=>x.2.1 == s)).1 (out++(eW (l.filter fun x=>x.2.1 == s).length cs (l.filter fun x=>x.2.1 == s)).2) (by rw [e];simp) (by omega) (by rw [List.length_append];omega)
  refine aW (s':=(out++(eW (l.filter fun x=>x.2.1 == s).length cs (l.filter fun x=>x.2.1 == s)).2,(eW (l.filter fun x=>x.2.1 == s).length cs (l.filter fun x=>x.2.1 == s)).1,((done++[s]).length:Int))) ?_ ?_
  ·have hil:((done.length:Int) < (sides.length:Int)):=by omega
   unfold lm
   simp only [hil,decide_true,cond_true,aJ hx,Int.toNat_natCast,hx,Option.bind_some]
   rw [Cx _ _ (by omega),Option.bind_some,BG _ cs out _ rfl (by omega) (by omega) hc,Option.bind_some,aA (by omega) (by omega)]
   simp
  ·rw [i1]
   simp [tS]
noncomputable def kS (s:ae.D) (l:List ai.D) (cs:List Int):List ai.D×List Int:=((tS l (dv s) cs).2++iw l (dv s),(tS l (dv s) cs).1)
theorem Je (s:ae.D) (l:List ai.D) (cs:List Int) (hs:s.2.1.length≤33554432) (hl:l.length≤33554432) (hc:cs.length≤33554432) :
  mU s l cs=some ((kS s l cs).1,(kS s l cs).2,())∧nq s l cs=some ((kS s l cs).1,(kS s l cs).2,())∧(kS s l cs).1.length=l.length∧(kS s l cs).2 <:+ cs:=by
 have hol:=PX s
 have hk0:iw l []=l:=by unfold iw;simp
 have hn:=D8 s hs
 obtain ⟨h1,h2,h3⟩:=z8 l (dv s) hl (by omega) hn (dv s) [] cs [] rfl hc (by rw [hk0];simp)
 have h4:=z9 l (dv s) hl (by omega) hn (dv s) [] cs [] rfl hc (by rw [hk0];simp)
 simp only [List.nil_append,List.length_nil,hk0,Int.natCast_zero] at h1 h2 h4
 refine ⟨?_,?_,by unfold kS;simp only [List.length_append];exact h2,h3⟩
 ·unfold mU
  rw [if_pos (by simp only [aI,List.length_nil];omega),uY s hs,Option.bind_some,List.nil_append,h4,Option.bind_some]
  have key:ay (iP l (dv s)) ((tS l (dv s) cs).2,0)=some ((tS l (dv s) cs).2++iw l (dv s),(l.length:Int)):=by
   have:=(EN l (body:=iP l (dv s)) (fun (t:List ai.D) _ x=>t++(if (!((dv s).any fun z=>z == x.2.1)) then [x] else [])) (fun i t=>t.length≤(tS l (dv s) cs).2.length + i) (fun t=>t) (tS l (dv s) cs).2 (by omega) (by omega) (fun t i x hI hx=>⟨?_,?_⟩) (fun t hI=>?_)).1
   ·rw [this,sF (fun _ (x:ai.D)=>if (!((dv s).any fun z=>z == x.2.1)) then [x] else []),jv]
    rfl
   ·have hlt:=(List.getElem?_eq_some_iff.1 hx).1
    have hil:((i:Int) < (l.length:Int)):=by omega
    unfold iP
    simp only [hil,decide_true,cond_true,aJ hx,Option.bind_some]
    rw [z7 _ _ (by omega),Option.bind_some,if_pos (by simp only [aI,List.length_cons,List.length_nil];omega)]
    cases ((dv s).any fun z=>z == x.2.1) <;> simp
   ·rw [List.length_append]
    split <;> simp <;> omega
   ·unfold iP;simp
  rw [key,Option.bind_some]
  rfl
 ·unfold nq bM
  rw [if_pos (by simp only [aI,List.length_nil];omega),eR cs hc]
  simp only [Option.bind_some,List.nil_append,uZ s hs,h1]
  rw [if_pos (by simp only [aI];omega)]
  rfl
theorem OF (l:List Int) (a:Int) (h:l.length≤33554432):Dx l a=some (l.any (fun x=>a == x)):=by
 unfold Dx kq oU
 rw [eG l (body:=gJ l a) (fun x=>a == x) (fun i=>i) (by omega) (fun i x hx=>?_) ?_]
 ·rw [← Fh]
  cases bZ (fun x=>a == x) l <;> rfl
 ·unfold gJ
  simp
 ·unfold gJ
  have hlt:=(List.getElem?_eq_some_iff.1 hx).1
  have:((i:Int) < (l.length:Int)):=by omega
  simp only [this,decide_true,cond_true,aJ hx]
theorem PY (n:Int) (h0:0≤n) (h1:n≤33554432):fE () n=some ([],()):=by
 unfold fE
 rw [bW h0]
 simp only [cond_false,Option.bind_some]
 have z:IntKind.wrap .i64 (0 - 0)=0:=aA (by omega) (by omega)
 rw [z,Int.sub_zero,aA (by omega) (by omega)]
 by_cases hn:n > 0
 ·rw [decide_eq_true hn]
  simp only [cond_true,Int.le_refl,if_true]
  rw [if_pos (by omega),if_pos hn,if_pos (by simp only [aI];omega),if_pos (by omega)]
  simp
 ·rw [decide_eq_false hn];rfl
theorem Rk (n:Int) (h0:0≤n) (h1:n≤33554432):fW () n=some ([],()):=by
 unfold fW
 rw [bW h0]
 simp only [cond_false,Option.bind_some]
 have z:IntKind.wrap .i64 (0 - 0)=0:=aA (by omega) (by omega)
 rw [z,Int.sub_zero,aA (by omega) (by omega)]
 by_cases hn:n > 0
 ·rw [decide_eq_true hn]
  simp only [cond_true,Int.le_refl,if_true]
  rw [if_pos (by omega),if_pos hn,if_pos (by simp only [aI];omega),if_pos (by omega)]
  simp
 ·rw [decide_eq_false hn];rfl
theorem MS (a b:List ah.D) (h:a.length + b.length≤33554432):eP [a,b]=some (a++b):=by
 have i0:([a,b]:List (List ah.D))[0]?=some a:=rfl
 have i1:([a,b]:List (List ah.D))[1]?=some b:=rfl
 have e1:ay (cG [a,b]) (0,0)=some ((a.length:Int) + (b.length:Int),2):=by
  refine aW (s':=((a.length:Int),1)) ?_ (aW (s':=((a.length:Int) + (b.length:Int),2)) ?_ (be ?_))
  ·unfold cG
   rw [decide_eq_true (by simp)]
   simp only [cond_true]
   rw [show ((0:Int))=((0:Nat):Int) from rfl,aJ i0]
   simp (disch:=omega) only [aA,bW,cond_false]
   first | (simp;done) | (simp;rw [bW (by omega)];rfl)
  ·unfold cG
   rw [decide_eq_true (by simp)]
   simp only [cond_true]
   rw [show ((1:Int))=((1:Nat):Int) from rfl,aJ i1]
   simp (disch:=omega) only [aA,bW,cond_false]
   first | (simp;done) | (simp;rw [bW (by omega)];rfl)
  ·unfold cG
   simp
 have e2:ay (cH [a,b]) ([],0)=some (a++b,2):=by
  refine aW (s':=(a,1)) ?_ (aW (s':=(a++b,2)) ?_ (be ?_))
  ·unfold cH
   rw [decide_eq_true (by simp)]
   simp only [cond_true]
   rw [show ((0:Int))=((0:Nat):Int) from rfl,aJ i0]
   rw [if_pos (by simp only [aI,List.length_nil];omega)]
   simp (disch:=omega) only [aA]
   simp
  ·unfold cH
   rw [decide_eq_true (by simp)]
   simp only [cond_true]
   rw [show ((1:Int))=((1:Nat):Int) from rfl,aJ i1]
   rw [if_pos (by simp only [aI];omega)]
   simp (disch:=omega) only [aA]
   simp
  ·unfold cH
   simp
 unfold eP
 rw [e1,Option.bind_some]
 simp only
 rw [PY _ (by omega) (by omega),Option.bind_some]
 simp only
 rw [e2,Option.bind_some]
theorem OG (a b:List aF.D) (h:a.length + b.length≤33554432):ff [a,b]=some (a++b):=by
 have i0:([a,b]:List (List eX.D))[0]?=some a:=rfl
 have i1:([a,b]:List (List eX.D))[1]?=some b:=rfl
 have e1:ay (cP [a,b]) (0,0)=some ((a.length:Int) + (b.length:Int),2):=by
  refine aW (s':=((a.length:Int),1)) ?_ (aW (s':=((a.length:Int) + (b.length:Int),2)) ?_ (be ?_))
  ·unfold cP
   rw [decide_eq_true (by simp)]
   simp only [cond_true]
   rw [show ((0:Int))=((0:Nat):Int) from rfl,aJ i0]
   simp (disch:=omega) only [aA,bW,cond_false]
   first | (simp;done) | (simp;rw [bW (by omega)];rfl)
  ·unfold cP
   rw [decide_eq_true (by simp)]
   simp only [cond_true]
   rw [show ((1:Int))=((1:Nat):Int) from rfl,aJ i1]
   simp (disch:=omega) only [aA,bW,cond_false]
   first | (simp;done) | (simp;rw [bW (by omega)];rfl)
  ·unfold cP
   simp
 have e2:ay (cQ [a,b]) ([],0)=some ((a++b:List aF.D),2):=by
  refine aW (s':=(a,1)) ?_ (aW (s':=((a++b:List aF.D),2)) ?_ (be ?_))
  ·unfold cQ
   rw [decide_eq_true (by simp)]
   simp only [cond_true]
   rw [show ((0:Int))=((0:Nat):Int) from rfl,aJ i0]
   rw [if_pos (by simp only [aI,List.length_nil];omega)]
   simp (disch:=omega) only [aA]
   simp
  ·unfold cQ
   rw [decide_eq_true (by simp)]
   simp only [cond_true]
   rw [show ((1:Int))=((1:Nat):Int) from rfl,aJ i1]
   rw [if_pos (by simp only [aI];omega)]
   simp (disch:=omega) only [aA]
   simp
  ·unfold cQ
   simp
 unfold ff
 rw [e1,Option.bind_some]
 simp only
 rw [Rk _ (by omega) (by omega),Option.bind_some]
 simp only
 rw [e2,Option.bind_some]
theorem ra (xs:List aF.D) (h:okD (.slice aF) xs):gY xs=some xs:=by
 have hl:xs.length≤33554432:=h.1
 unfold gY
 rw [db xs (fun _ x=>[x]) (fun s=>s) (fun _ _=>by simp) (by omega) (fun t i x hI hx=>?_) (fun t=>?_)]
 ·rw [Option.bind_some,jM];simp
 ·have hlt:=(List.getElem?_eq_some_iff.1 hx).1
  have hil:((i:Int) < (xs.length:Int)):=by omega
  have hle:=(h.2 x (List.mem_of_getElem? hx)).2.2.2.2.2.1.1
  unfold mZ bu
  simp only [hil,decide_true,cond_true,aJ hx,List.nil_append]
  rw [if_pos (by simp only [aI,List.length_nil];omega)]
  simp only [Option.bind_some]
  rw [if_pos (by simp only [aI,List.length_cons,List.length_nil];omega)]
 ·unfold mZ;simp
theorem yi (xs:List aF.D) (h:okD (.slice aF) xs):kE xs=some xs:=by
 have hl:xs.length≤33554432:=h.1
 unfold kE
 rw [db xs (fun _ x=>[x]) (fun s=>s) (fun _ _=>by simp) (by omega) (fun t i x hI hx=>?_) (fun t=>?_)]
 ·rw [Option.bind_some,jM];simp
 ·have hlt:=(List.getElem?_eq_some_iff.1 hx).1
  have hil:((i:Int) < (xs.length:Int)):=by omega
  have hle:=(h.2 x (List.mem_of_getElem? hx)).2.2.2.2.2.1.1
  unfold oK wR
  simp only [hil,decide_true,cond_true,aJ hx,List.nil_append]
  rw [if_pos (by simp only [aI,List.length_nil];omega)]
  simp only [Option.bind_some]
  rw [if_pos (by simp only [aI,List.length_cons,List.length_nil];omega)]
 ·unfold oK;simp
theorem tT (f:br.D) (h:okD br f):jU f=some f:=by
 have h1:f.1.length≤33554432:=h.1.1
 have h3:f.2.2.1.length≤33554432:=h.2.2.1.1
 unfold jU
 rw [if_pos (by simp only [aI,List.length_nil];omega),cx _ h.2.1,Option.bind_some,if_pos (by simp only [aI,List.length_nil];omega),yi _ h.2.2.2.1]
 rfl
theorem pO:∀ (xs ys:List Int),xs.Nodup→(∀ x∈xs,x∈ys)→xs.length≤ys.length
 | [],_,_,_=>Nat.zero_le _
 | x :: xs,ys,h,hs=>by
  have hx:x∈ys:=hs x (List.mem_cons_self ..)
  obtain ⟨h1,h2⟩:=List.nodup_cons.1 h
  have:=pO xs (ys.erase x) h2 (fun y hy=>by
   refine (List.mem_erase_of_ne ?_).2 (hs y (List.mem_cons_of_mem _ hy))
   intro e;subst e;exact h1 hy)
  rw [List.length_erase_of_mem hx] at this
  have:0 < ys.length:=List.length_pos_of_mem hx
  simp only [List.length_cons]
  omega
theorem OH (out:List Int) (k:Nat) (x:Int):(out.take k++[x]++out.drop k).Perm (out++[x]):=by
 have h:(out.take k++([x]++out.drop k)).Perm (out.take k++(out.drop k++[x])):=List.Perm.append_left _ List.perm_append_comm
 have e:out.take k++(out.drop k++[x])=out++[x]:=by rw [← List.append_assoc,List.take_append_drop]
 rw [e] at h
 rw [List.append_assoc]
 exact h
theorem Cz (l:List Int) (a:Int):l.any (fun x=>x == a)=decide (a∈l):=by
 by_cases h:a∈l
 ·rw [decide_eq_true h,List.any_eq_true];exact ⟨a,h,by simp⟩
 ·rw [decide_eq_false h,List.any_eq_false]
  intro x hx e
  have:x=a:=by simpa using e
  subst this;exact h hx
theorem OI (l:List Int) (a:Int):l.any (fun x=>a == x)=decide (a∈l):=by
 rw [← Cz]
 congr 1
 funext x
 exact Bool.beq_comm
theorem Fn (s:ae.D) (e:ah.D) (h:s.1.length≤33554432):∃ t,jD s e=some t∧qq s e=some t:=by
 unfold jD qq bc
 simp only [gK,bQ,fx s _ h,gf s _ h,Option.bind_some]
 cases (e.2.2.1 == 0)
 ·simp only [cond_false]
  rcases i9 s e.2.2.1 with h | ⟨k,x,h1,h2,_⟩
  ·rw [h];exact ⟨-1,rfl,rfl⟩
  ·rw [h1,bW (by omega)]
   simp only [cond_false,aJ h2]
   exact ⟨_,rfl,rfl⟩
 ·generalize (decide (0≤e.2.2.2.1) && decide (e.2.2.2.1≤IntKind.wrap .i64 ((s.2.1.length:Int) - 1)))=b
  cases b <;> exact ⟨_,rfl,rfl⟩
theorem Jf (s:ae.D) (e:ah.D) (h:s.1.length≤33554432):∃ t,iC s e=some t∧rO s e=some t:=by
 obtain ⟨t,h1,h2⟩:=Fn s e h
 unfold iC rO
 rw [h1,h2]
 simp only [Option.bind_some,bne]
 cases (t == -1) <;> exact ⟨_,rfl,rfl⟩
def OJ {α:Type} (p:α→Bool) (n:Int) (_:Nat) (x:α):Int:=if p x then n + 1 else n
theorem Jg {α:Type} (p:α→Bool):∀ (xs:List α) (i:Nat) (n:Int),eH (OJ p) i xs n=n + ((xs.filter p).length:Int)
 | [],_,n=>by simp [eH]
 | x :: xs,i,n=>by
  unfold eH
  rw [Jg p xs]
  unfold OJ
  by_cases h:p x=true
  ·rw [if_pos h,List.filter_cons_of_pos h,List.length_cons];omega
  ·rw [if_neg h,List.filter_cons_of_neg h]
theorem Jh {α:Type} (xs:List α) (hl:xs.length≤33554432) (p:α→Bool) {body:(Int×Int)→Option ((Int×Int)⊕(Int×Int))}
  (hb:∀ (n:Int) (i:Nat) x,0≤n→n≤i→xs[i]?=some x→body (n,(i:Int))=some (.inl (OJ p n i x,IntKind.wrap .i64 ((i:Int) + 1))))
  (he:∀ n,body (n,(xs.length:Int))=some (.inr (n,(xs.length:Int)))) :
  ay body (0,0)=some (((xs.filter p).length:Int),(xs.length:Int)):=by
 have:=(EN xs (body:=body) (OJ p) (fun i n=>0≤n∧n≤i) (fun s=>s) 0 (by simp) (by omega) (fun n i x hI hx=>⟨hb n i x hI.1 hI.2 hx,by
  unfold OJ;split <;> omega⟩) (fun n _=>he n)).1
 rw [this,Jg]
 simp
def Lm (a:Int) (x:aj.D):Bool:=(x.2.2.2.1 == 2) && (x.2.2.1 == a) && x.2.2.2.2.2.2.2.2.2.2.2.2.1
def FY (a:Int) (x:aj.D):Bool:=(x.2.2.2.1 == 2) && (x.2.2.1 == a)
theorem Ji (s:ae.D) (a:Int) (h:s.1.length≤33554432):uM s a=some ((s.1.filter (Lm a)).length:Int):=by
 unfold uM
 rw [Jh s.1 h (Lm a) (fun n i x h0 h1 hx=>?_) (fun n=>by unfold td;simp)]
 ·rfl
 ·have hlt:=(List.getElem?_eq_some_iff.1 hx).1
  have hil:((i:Int) < (s.1.length:Int)):=by omega
  have hw:IntKind.wrap .i64 (n + 1)=n + 1:=aA (by omega) (by omega)
  unfold td OJ Lm
  simp only [hil,decide_true,cond_true,aJ hx,hw]
  cases (x.2.2.2.1 == 2) <;> cases (x.2.2.1 == a) <;> cases x.2.2.2.2.2.2.2.2.2.2.2.2.1 <;> rfl
theorem Jj (s:ae.D) (a:Int) (h:s.1.length≤33554432):ux s a=some ((s.1.filter (Lm a)).length:Int):=by
 unfold ux
 rw [Jh s.1 h (Lm a) (fun n i x h0 h1 hx=>?_) (fun n=>by unfold sQ;simp)]
 ·rfl
 ·have hlt:=(List.getElem?_eq_some_iff.1 hx).1
  have hil:((i:Int) < (s.1.length:Int)):=by omega
  have hw:IntKind.wrap .i64 (n + 1)=n + 1:=aA (by omega) (by omega)
  unfold sQ OJ Lm
  simp only [hil,decide_true,cond_true,aJ hx,hw]
  cases (x.2.2.2.1 == 2) <;> cases (x.2.2.1 == a) <;> cases x.2.2.2.2.2.2.2.2.2.2.2.2.1 <;> rfl
end Go.Abs
