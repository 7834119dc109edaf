/- Part of a proof of FnGames: see the row. -/
import Derived.Test.YtenadnbpibhmiaaGreatGmPureGMp1
set_option linter.unusedVariables false
set_option linter.unusedSimpArgs false
namespace Go.Abs
theorem MT (s:ae.D) (a:Int) (h:s.1.length≤33554432):uw s a=some ((s.1.filter (FY a)).length:Int):=by
 unfold uw
 rw [Jh s.1 h (FY a) (fun n i x h0 h1 hx=>?_) (fun n=>by unfold sP;simp)]
 ·rfl
 ·have hlt:=(List.getElem?_eq_some_iff.1 hx).1
  have hil:((i:Int) < (s.1.length:Int)):=by omega
  have hw:IntKind.wrap .i64 (n + 1)=n + 1:=aA (by omega) (by omega)
  unfold sP OJ FY
  simp only [hil,decide_true,cond_true,aJ hx,hw]
  cases (x.2.2.2.1 == 2) <;> cases (x.2.2.1 == a) <;> rfl
theorem Jk (a:Int) (ha:0≤a):∀ (xs:List aj.D) (i:Nat),(bA (Cw a) i xs).length=(xs.filter (FY a)).length
 | [],_=>rfl
 | x :: xs,i=>by
  unfold bA
  have h1:(a == -1)=false:=by rw [beq_eq_false_iff_ne];omega
  rw [List.length_append,Jk a ha xs]
  unfold Cw
  by_cases h:FY a x=true
  ·rw [List.filter_cons_of_pos h]
   unfold FY at h
   rw [h1,Bool.false_or,h]
   simp only [cond_true,List.length_cons,List.length_nil];omega
  ·rw [List.filter_cons_of_neg h]
   have h:FY a x=false:=by simpa using h
   unfold FY at h
   rw [h1,Bool.false_or,h]
   simp
theorem S1 (s:ae.D) (a:Int) (g:bU.D) (h1:s.1.length≤33554432) (h2:s.2.1.length≤33554432):∃ b,wN s a g=some b∧w4 s a g=some b:=by
 obtain ⟨b,q1,q2⟩:=ph g
 unfold wN w4 bc
 simp only [q1,q2,gK,bQ,Option.bind_some]
 cases b
 ·exact ⟨_,rfl,rfl⟩
 ·simp only [Bool.not_true,cond_false,Option.bind_some]
  rw [aA (by omega) (by omega)]
  by_cases hs:0≤a∧a≤(s.2.1.length:Int) - 1
  ·rw [decide_eq_true hs.1,decide_eq_true hs.2]
   obtain ⟨k,rfl⟩:=Int.eq_ofNat_of_zero_le hs.1
   have hx:s.2.1[k]?=some (s.2.1[k]'(by omega)):=List.getElem?_eq_getElem (by omega)
   simp only [Bool.and_self,Bool.not_true,cond_false,aJ hx,MT s _ h1,GM s _ h1,Ji s _ h1,Jj s _ h1,Option.bind_some,Jk _ hs.1]
   cases (g.1 == 1) <;> cases (g.1 == 2) <;> cases (g.1 == 3) <;> cases (g.1 == 4) <;> exact ⟨_,rfl,rfl⟩
  ·have:(decide (0≤a) && decide (a≤(s.2.1.length:Int) - 1))=false:=by
    rw [Bool.and_eq_false_iff]
    rcases Int.lt_or_le a 0 with h | h
    ·exact .inl (decide_eq_false (by omega))
    ·exact .inr (decide_eq_false (by omega))
   rw [this]
   exact ⟨_,rfl,rfl⟩
theorem KJ (s:ae.D) (a:Int) (p:dr.D) (e:ah.D) (h:s.1.length≤33554432):∃ b,kW s a p e=some b∧lu s a p e=some b:=by
 obtain ⟨t,h1,h2⟩:=Fn s e h
 unfold kW lu
 rw [h1,h2]
 simp only [Option.bind_some,bne]
 cases (t == -1) <;> cases (p.2.1 == 1) <;> cases (t == a) <;> cases (p.2.1 == 2) <;> cases (p.2.2.2.2.1 == 0) <;> exact ⟨_,rfl,rfl⟩
theorem KK (s:ae.D) (p:dr.D) (e:ah.D) (h:s.1.length≤33554432):∃ b,kX s p e=some b∧lw s p e=some b:=by
 unfold kX lw
 simp only [tL s e h,tM s e h,Option.bind_some]
 cases (p.2.2.1 == 0) <;> cases (p.2.2.1 == e.2.1) <;> exact ⟨_,rfl,rfl⟩
theorem PZ (s:ae.D) (a:Int) (p:dr.D) (e:ah.D) (h:s.1.length≤33554432):∃ b,rv s a p e=some b∧rJ s a p e=some b:=by
 obtain ⟨b1,p1,q1⟩:=wo p
 obtain ⟨b2,p2,q2⟩:=KJ s a p e h
 obtain ⟨b3,p3,q3⟩:=KK s p e h
 unfold rv rJ
 simp only [p1,q1,p2,q2,p3,q3,bO,bX,Option.bind_some]
 cases b1 <;> cases aM e <;> cases (p.1 == e.1) <;> cases b2 <;> cases b3 <;> cases decide ((e.2.2.2.2.1:Int)≥p.2.2.2.2.2.1) <;> cases (p.2.2.2.2.2.2.1 == 0) <;> exact ⟨_,rfl,rfl⟩
theorem MU (s:ae.D) (x:aa.D) (e:ah.D) (h1:s.1.length≤33554432) (h2:s.2.1.length≤33554432) (hl:x.2.2.2.2.2.2.1.2.2.2.2.2.2.1.length≤33554432) :
  ∃ b,rZ s x e=some b∧sa s x e=some b∧(b=true→aS x=true):=by
 obtain ⟨b1,p1,q1⟩:=S1 s x.2.1 x.2.2.2.2.2.1 h1 h2
 obtain ⟨b2,p2,q2⟩:=PZ s x.2.1 x.2.2.2.2.1 e h1
 unfold rZ sa oJ oV EO E2
 simp only [p1,q1,p2,q2,cW x hl,pi x hl,Option.bind_some]
 cases aS x
 ·exact ⟨false,rfl,rfl,fun h=>by cases h⟩
 ·cases ((x.2.2.2.2.2.2.2.2.1:Int) != 0) <;> cases ((x.2.2.2.2.2.2.2.1:Int) == -1) <;> cases decide ((x.2.2.2.2.2.2.2.1:Int)≥s.2.2.2.1) <;> cases ((x.2.2.2.1:Int) != 0) <;> cases ((x.2.2.1:Int) == e.2.1) <;> cases ((x.2.2.1:Int) == e.2.2.1) <;> cases b1 <;> exact ⟨_,rfl,rfl,fun _=>rfl⟩
noncomputable def Ed (s:ae.D) (e:ah.D) (x:aa.D):Bool:=(sa s x e).getD false
theorem MV (s:ae.D) (x:aa.D) (e:ah.D) (h1:s.1.length≤33554432) (h2:s.2.1.length≤33554432) (hl:x.2.2.2.2.2.2.1.2.2.2.2.2.2.1.length≤33554432):sa s x e=some (Ed s e x):=by
 obtain ⟨b,_,h,_⟩:=MU s x e h1 h2 hl
 unfold Ed;rw [h];rfl
theorem Ee (s:ae.D) (x:aa.D) (e:ah.D) (h1:s.1.length≤33554432) (h2:s.2.1.length≤33554432) (hl:x.2.2.2.2.2.2.1.2.2.2.2.2.2.1.length≤33554432):rZ s x e=some (Ed s e x):=by
 obtain ⟨b,h',h,_⟩:=MU s x e h1 h2 hl
 unfold Ed;rw [h,h'];rfl
theorem P0 (s:ae.D) (x:aa.D) (e:ah.D) (h1:s.1.length≤33554432) (h2:s.2.1.length≤33554432) (hl:x.2.2.2.2.2.2.1.2.2.2.2.2.2.1.length≤33554432) (h:Ed s e x=true):0≤x.2.2.2.1∧x.2.2.2.1≤4:=by
 obtain ⟨b,_,hb,ho⟩:=MU s x e h1 h2 hl
 unfold Ed at h
 rw [hb] at h
 have h':=cW x hl
 rw [ho h] at h'
 obtain ⟨b1,p1,q1⟩:=wo x.2.2.2.2.1
 obtain ⟨b2,p2,q2⟩:=ph x.2.2.2.2.2.1
 obtain ⟨b3,p3,q3⟩:=zW x.2.2.2.2.2.2.1 hl
 obtain ⟨b4,p4,q4⟩:=iL x.2.2.2.2.2.2.1 x.2.2.2.2.1.1
 unfold cy cJ bl at h'
 simp only [q1,q2,q3,q4,bQ,Option.bind_some] at h'
 simp only [cond_eq_ite,i7,Option.bind_some] at h'
 have h':=Option.some.inj h'
 clear p1 p2 p3 p4 q1 q2 q3 q4 hl h hb ho
 generalize x.2.2.2.2.2.2.1.1=ak at *
 generalize x.1=i at *
 generalize x.2.1=ow at *
 generalize x.2.2.1=so at *
 generalize x.2.2.2.1=du at *
 generalize x.2.2.2.2.2.2.2.1=co at *
 generalize x.2.2.2.2.2.2.2.2.1=on at *
 simp at h'
 grind
theorem Jl {α σ S R:Type} (xs:List α) {body:S→Option (S⊕R)} (mk:σ→Int→S) (step:σ→Nat→α→σ) (I:Nat→σ→Prop) (r:σ→R) (s0:σ) (h0:I 0 s0) (hlen:xs.length≤9223372036854775806)
  (hb:∀ s (i:Nat) x,I i s→xs[i]?=some x→body (mk s (i:Int))=some (.inl (mk (step s i x) (IntKind.wrap .i64 ((i:Int) + 1))))∧I (i + 1) (step s i x))
  (he:∀ s,I xs.length s→body (mk s (xs.length:Int))=some (.inr (r s))) :
  ay body (mk s0 0)=some (r (eH step 0 xs s0))∧I xs.length (eH step 0 xs s0):=by
 have main:∀ (l:List α) (k:Nat) (s:σ),xs.drop k=l→k≤xs.length→I k s→ay body (mk s (k:Int))=some (r (eH step k l s))∧I xs.length (eH step k l s):=by
  intro l
  induction l with
  | nil =>
   intro k s h hk hI
   have:k=xs.length:=by
    have:=congrArg List.length h
    simp at this
    omega
   subst this
   exact ⟨be (he s hI),hI⟩
  | cons x l ih =>
   intro k s h hk hI
   have hlt:k < xs.length:=by
    have:=congrArg List.length h
    simp at this
    omega
   have hx:xs[k]?=some x:=by
    have:=congrArg (fun l=>l[0]?) h
    simpa using this
   have hr:xs.drop (k + 1)=l:=by
    have:=congrArg List.tail h
    simpa using this
   obtain ⟨h1,h2⟩:=hb s k x hI hx
   rw [aA (by omega) (by omega)] at h1
   obtain ⟨h3,h4⟩:=ih (k + 1) (step s k x) hr hlt h2
   exact ⟨aW h1 h3,h4⟩
 have:=main xs 0 s0 rfl (by omega) h0
 simpa using this
theorem FZ {α σ:Type} (step:σ→Nat→α→σ) (P:σ→Prop):∀ (xs:List α) (i:Nat) (s:σ),P s→(∀ s i x,x∈xs→P s→P (step s i x))→P (eH step i xs s)
 | [],_,_,h,_=>h
 | x :: xs,i,s,h,hs=>FZ step P xs (i + 1) _ (hs s i x (List.mem_cons_self ..) h) (fun s i y hy=>hs s i y (List.mem_cons_of_mem _ hy))
theorem Jm {α σ τ:Type} (f:σ→Nat→α→σ) (g:τ→Nat→α→τ) (Q:σ→τ→Prop):∀ (xs:List α) (i:Nat) (s:σ) (t:τ),Q s t→(∀ s t i x,x∈xs→Q s t→Q (f s i x) (g t i x))→Q (eH f i xs s) (eH g i xs t)
 | [],_,_,_,h,_=>h
 | x :: xs,i,s,t,h,hs=>Jm f g Q xs (i + 1) _ _ (hs s t i x (List.mem_cons_self ..) h) (fun s t i y hy=>hs s t i y (List.mem_cons_of_mem _ hy))
def Ef (b:Bool) (id c:Int) (s:List Int×Int):List Int×Int :=
 if b=true then (if c > s.2 then s else if c < s.2 then ([id],c) else (s.1++[id],s.2)) else s
def F0 (b:Bool) (id c:Int) (s:List Int×Int):List Int×Int :=
 if b=true then (if s.1.length=0∨c < s.2 then ([id],c) else if c=s.2 then (s.1++[id],s.2) else s) else s
theorem TS (p:Bool) (id c:Int) (h0:p=true→0≤c∧c≤4) (a b:List Int×Int) (h:a.1=b.1∧(a.1.length=0→a.2=5)∧(a.1.length≠0→a.2=b.2)) :
  (Ef p id c a).1=(F0 p id c b).1∧((Ef p id c a).1.length=0→(Ef p id c a).2=5)∧((Ef p id c a).1.length≠0→(Ef p id c a).2=(F0 p id c b).2):=by
 obtain ⟨a1,a2,a3⟩:=h
 unfold Ef F0
 by_cases hp:p=true
 ·obtain ⟨c1,c2⟩:=h0 hp
  rw [if_pos hp,if_pos hp,← a1]
  by_cases h0:a.1.length=0
  ·have:=a2 h0
   rw [if_neg (by omega),if_pos (by omega),if_pos (.inl h0)]
   exact ⟨rfl,fun h=>by simp at h,fun _=>rfl⟩
  ·have:=a3 h0
   by_cases h3:c < b.2
   ·rw [if_neg (by omega),if_pos (by omega),if_pos (.inr h3)]
    exact ⟨rfl,fun h=>by simp at h,fun _=>rfl⟩
   ·rw [if_neg (c:=a.1.length=0∨c < b.2) (by omega)]
    by_cases h4:c=b.2
    ·rw [if_neg (by omega),if_neg (by omega),if_pos h4]
     exact ⟨by rfl,fun h=>by simp at h,fun _=>this⟩
    ·rw [if_pos (by omega),if_neg h4]
     exact ⟨a1,a2,a3⟩
 ·rw [if_neg hp,if_neg hp]
  exact ⟨a1,a2,a3⟩
def TT (p:aa.D→Bool) (s:List Int×Int) (_:Nat) (x:aa.D):List Int×Int:=Ef (p x) x.1 x.2.2.2.1 s
def Jn (p:aa.D→Bool) (s:List Int×Int) (_:Nat) (x:aa.D):List Int×Int:=F0 (p x) x.1 x.2.2.2.1 s
noncomputable def qD (s:ae.D) (e:ah.D) (u:List Int) (x:aa.D):Bool:=!decide (x.1∈u) && Ed s e x
noncomputable def OK (s:ae.D) (xs:List aa.D) (e:ah.D) (u:List Int):List Int:=(eH (Jn (qD s e u)) 0 xs ([],0)).1
theorem GN (s:ae.D) (xs:List aa.D) (e:ah.D) (u:List Int) (h1:s.1.length≤33554432) (h2:s.2.1.length≤33554432) (hx:okD (.slice aa) xs) (hu:u.length≤33554432) :
  rK s xs e u=some (OK s xs e u):=by
 have hl:xs.length≤33554432:=hx.1
 have:=(Jl xs (body:=lx s xs e u) (fun (t:List Int×Int) i=>(t.1,t.2,i)) (Jn (qD s e u)) (fun i t=>t.1.length≤i) (fun t=>(t.1,t.2,(xs.length:Int))) ([],0) (by simp) (by omega) (fun t i x hI hi=>⟨?_,?_⟩) (fun t hI=>?_)).1
 ·unfold rK
  rw [this]
  rfl
 ·have hlt:=(List.getElem?_eq_some_iff.1 hi).1
  have hil:((i:Int) < (xs.length:Int)):=by omega
  have hok:=(hx.2 x (List.mem_of_getElem? hi)).2.2.2.2.2.2.1.2.2.2.2.2.2.1.1
  unfold lx Jn F0 qD
  simp only [hil,decide_true,cond_true,aJ hi,OF u _ hu,OI,MV s x e h1 h2 hok,Option.bind_some]
  by_cases hm:x.1∈u
  ·simp only [hm,decide_true,cond_true,Option.bind_some,Bool.not_true,Bool.false_and,Bool.false_eq_true,if_false]
  ·cases hf:Ed s e x
   ·simp only [hm,decide_false,cond_true,cond_false,Option.bind_some,Bool.not_false,Bool.and_false,Bool.false_eq_true,if_false]
   ·simp only [hm,decide_false,cond_false,Option.bind_some,Bool.not_false,Bool.not_true,Bool.and_self,if_true]
    have r1:∀ (l:List Int),l.length≤i→(l.length + [x.1].length) * (24 * 1)≤aI:=fun l h=>by simp only [aI,List.length_cons,List.length_nil];omega
    by_cases h0:t.1.length=0
    ·have:((t.1.length:Int) == 0)=true:=by rw [h0];rfl
     rw [if_pos (Or.inl h0)]
     simp only [this,cond_true,Option.bind_some,Int.le_refl,if_true,Int.natCast_nonneg,beq_self_eq_true]
     rw [if_pos (r1 _ (by simp))]
     simp
    ·have:((t.1.length:Int) == 0)=false:=by rw [beq_eq_false_iff_ne];omega
     simp only [this,cond_false,Option.bind_some]
     by_cases h3:x.2.2.2.1 < t.2
     ·simp only [h3,decide_true,cond_true,Int.le_refl,if_true,or_true]
      rw [if_pos (by omega)]
      simp only [Option.bind_some,beq_self_eq_true,cond_true]
      rw [if_pos (r1 _ (by simp))]
      simp
     ·simp only [h3,decide_false,cond_false,Option.bind_some,h0,or_self,if_false]
      by_cases h4:x.2.2.2.1=t.2
      ·have:((x.2.2.2.1:Int) == t.2)=true:=by rw [h4];simp
       simp only [this,cond_true]
       rw [if_pos h4,if_pos (r1 _ hI)]
      ·have:((x.2.2.2.1:Int) == t.2)=false:=by rw [beq_eq_false_iff_ne];exact h4
       simp only [this,cond_false,h4,if_false]
 ·unfold Jn F0
  split
  ·split
   ·simp
   ·split
    ·simp only [List.length_append,List.length_cons,List.length_nil];omega
    ·omega
  ·omega
 ·unfold lx
  simp
theorem GO (s:ae.D) (xs:List aa.D) (e:ah.D) (u v:List Int) (h1:s.1.length≤33554432) (h2:s.2.1.length≤33554432) (hx:okD (.slice aa) xs) (hu:u.length≤33554432) (huv:∀ a,a∈u↔a∈v) :
  rB s xs e u=some (OK s xs e v):=by
 have hl:xs.length≤33554432:=hx.1
 have hop:qD s e u=qD s e v:=by
  funext x
  unfold qD
  rw [show decide (x.1∈u)=decide (x.1∈v) from decide_eq_decide.2 (huv _)]
 have:=(Jl xs (body:=lh s xs e u) (fun (t:List Int×Int) i=>(t.1,t.2,i)) (TT (qD s e u)) (fun i t=>t.1.length≤i) (fun t=>(t.1,t.2,(xs.length:Int))) ([],5) (by simp) (by omega) (fun t i x hI hi=>⟨?_,?_⟩) (fun t hI=>?_)).1
 ·unfold rB
  rw [this,Option.bind_some]
  have hr:=Jm (TT (qD s e u)) (Jn (qD s e u)) (fun (a b:List Int×Int)=>a.1=b.1∧(a.1.length=0→a.2=5)∧(a.1.length≠0→a.2=b.2)) xs 0 ([],5) ([],0) ⟨rfl,fun _=>rfl,fun h=>absurd rfl h⟩ (fun a b i x hm hab=>?_)
  ·unfold OK
   rw [← hop]
   simp only
   rw [hr.1]
  ·have hok:=(hx.2 x hm).2.2.2.2.2.2.1.2.2.2.2.2.2.1.1
   exact TS (qD s e u x) x.1 x.2.2.2.1 (fun hp=>P0 s x e h1 h2 hok (by unfold qD at hp;simp at hp;exact hp.2)) a b hab
 ·have hlt:=(List.getElem?_eq_some_iff.1 hi).1
  have hil:((i:Int) < (xs.length:Int)):=by omega
  have hok:=(hx.2 x (List.mem_of_getElem? hi)).2.2.2.2.2.2.1.2.2.2.2.2.2.1.1
  unfold lh TT Ef qD
  simp only [hil,decide_true,cond_true,aJ hi,z7 u _ hu,Cz,Ee s x e h1 h2 hok,Option.bind_some]
  have r1:∀ (l:List Int),l.length≤i→(l.length + [x.1].length) * (24 * 1)≤aI:=fun l h=>by simp only [aI,List.length_cons,List.length_nil];omega
  by_cases hm:x.1∈u
  ·simp only [hm,decide_true,cond_true,Option.bind_some,Bool.not_true,Bool.false_and,Bool.false_eq_true,if_false]
  ·cases hf:Ed s e x
   ·simp only [hm,decide_false,cond_true,cond_false,Option.bind_some,Bool.not_false,Bool.and_false,Bool.false_eq_true,if_false]
   ·simp only [hm,decide_false,cond_false,Option.bind_some,Bool.not_false,Bool.not_true,Bool.and_self,if_true]
    by_cases h3:x.2.2.2.1 > t.2
    ·simp only [h3,decide_true,cond_true,Option.bind_some,if_true]
    ·simp only [h3,decide_false,cond_false,Option.bind_some,if_false]
     by_cases h4:x.2.2.2.1 < t.2
     ·simp only [h4,decide_true,cond_true,Option.bind_some,if_true]
      rw [if_pos (r1 _ (by simp))]
      rfl
     ·simp only [h4,decide_false,cond_false,Option.bind_some,if_false]
      rw [if_pos (r1 _ hI)]
      rfl
 ·unfold TT Ef
  split
  ·split
   ·omega
   ·split
    ·simp
    ·simp only [List.length_append,List.length_cons,List.length_nil];omega
  ·omega
 ·unfold lh
  simp
theorem S2 (s:ae.D) (xs:List aa.D) (e:ah.D) (u:List Int):∀ a∈OK s xs e u,a∈xs.map (fun (x:aa.D)=>x.1)∧a ∉ u:=by
 unfold OK
 refine FZ (Jn (qD s e u)) (fun t=>∀ a∈t.1,a∈xs.map (fun (x:aa.D)=>x.1)∧a ∉ u) xs 0 ([],0) (fun a h=>by cases h) (fun t i x hm ht=>?_)
 unfold Jn F0
 split
 ·rename_i hp
  have hx:x.1∈xs.map (fun (x:aa.D)=>x.1)∧x.1 ∉ u:=⟨List.mem_map.2 ⟨x,hm,rfl⟩,by unfold qD at hp;simp at hp;exact hp.1⟩
  split
  ·intro a ha
   simp only [List.mem_singleton] at ha
   subst ha;exact hx
  ·split
   ·intro a ha
    rcases List.mem_append.1 ha with h | h
    ·exact ht a h
    ·simp only [List.mem_singleton] at h
     subst h;exact hx
   ·exact ht
 ·exact ht
theorem S3 (s:ae.D) (xs:List aa.D) (e:ah.D) (u:List Int) (h1:s.1.length≤33554432) (h2:s.2.1.length≤33554432) (hx:okD (.slice aa) xs):(OK s xs e u).length≤xs.length:=by
 have:∀ (l:List aa.D) (i:Nat) (t:List Int×Int),(eH (Jn (qD s e u)) i l t).1.length≤t.1.length + l.length:=by
  intro l
  induction l with
  | nil=>intro i t;simp [eH]
  | cons x l ih =>
   intro i t
   unfold eH
   have:=ih (i + 1) (Jn (qD s e u) t i x)
   have h2:(Jn (qD s e u) t i x).1.length≤t.1.length + 1:=by
    unfold Jn F0
    split
    ·split
     ·simp
     ·split
      ·simp
      ·omega
    ·omega
   simp only [List.length_cons]
   omega
 have:=this xs 0 ([],0)
 unfold OK
 simpa using this
def Aa (xs:List aa.D) (a:Int):Int:=match bZ (fun (x:aa.D)=>x.1 == a) xs with | some k=>(k:Int) | none=>-1
theorem Eg (xs:List aa.D) (hl:xs.length≤33554432) (p:aa.D→Bool) (q:(aa.D×Unit)→Option Bool) (hq:∀ x∈xs,q (x,())=some (p x)) :
  bN xs q=some (match bZ p xs with | some k=>(k:Int) | none=>-1):=by
 unfold bN
 rw [eG xs (body:=cK xs q) p (fun i=>i) (by omega) (fun i x hx=>?_) ?_]
 ·cases bZ p xs <;> rfl
 ·unfold cK
  simp
 ·unfold cK
  have hlt:=(List.getElem?_eq_some_iff.1 hx).1
  have:((i:Int) < (xs.length:Int)):=by omega
  simp only [this,decide_true,cond_true,aJ hx,hq x (List.mem_of_getElem? hx),Option.bind_some]
theorem ka (xs:List aa.D) (a:Int) (hl:xs.length≤33554432):gF xs a=some (Aa xs a):=by
 unfold gF Aa
 rw [Eg xs hl (fun (x:aa.D)=>x.1 == a) _ (fun x _=>rfl)]
 rfl
theorem kb (xs:List aa.D) (a:Int) (hl:xs.length≤33554432):gE xs a=some (Aa xs a):=by
 unfold gE Aa
 rw [eG xs (body:=jS xs a) (fun (x:aa.D)=>x.1 == a) (fun i=>i) (by omega) (fun i x hx=>?_) ?_]
 ·cases bZ (fun (x:aa.D)=>x.1 == a) xs <;> rfl
 ·unfold jS
  simp
 ·unfold jS
  have hlt:=(List.getElem?_eq_some_iff.1 hx).1
  have:((i:Int) < (xs.length:Int)):=by omega
  simp only [this,decide_true,cond_true,aJ hx]
theorem Ln (xs:List aa.D) (a:Int) (h:a∈xs.map (fun (x:aa.D)=>x.1)):∃ (k:Nat) (x:aa.D),Aa xs a=k∧xs[k]?=some x∧x.1=a:=by
 unfold Aa
 obtain ⟨h1,h2⟩:=fk (fun (x:aa.D)=>x.1 == a) xs
 cases hf:bZ (fun (x:aa.D)=>x.1 == a) xs with
 | none =>
  obtain ⟨x,hx,rfl⟩:=List.mem_map.1 h
  have:=h1 hf x hx
  simp at this
 | some k =>
  obtain ⟨x,g1,g2,_⟩:=h2 k hf
  exact ⟨k,x,rfl,g1,by simpa using g2⟩
theorem jN (y:aa.D) (h:y.2.2.2.2.2.2.1.2.2.2.2.2.2.1.length≤33554432):okD aa y :=
 ⟨trivial,trivial,trivial,trivial,f8 _ rfl _,f8 _ rfl _,⟨trivial,trivial,trivial,trivial,trivial,trivial,⟨h,fun x _=>f8 _ rfl x⟩,trivial⟩,trivial,trivial,trivial⟩
theorem Rl (xs:List aa.D) (y x:aa.D) (k:Nat) (hx:okD (.slice aa) xs) (hy:y.2.2.2.2.2.2.1.2.2.2.2.2.2.1.length≤33554432) (h1:Aa xs y.1=k) (h2:xs[k]?=some x) (h3:x.1=y.1) :
  uF xs y=some (xs.set k y)∧uP xs y=some (xs.set k y)∧okD (.slice aa) (xs.set k y)∧(xs.set k y).map (fun (x:aa.D)=>x.1)=xs.map (fun (x:aa.D)=>x.1):=by
 have hl:xs.length≤33554432:=hx.1
 refine ⟨?_,?_,⟨by rw [List.length_set];exact hl,fun z hz=>?_⟩,?_⟩
 ·unfold uF
  rw [cx xs hx,Option.bind_some,kb xs _ hl,Option.bind_some,h1,decide_eq_true (by omega)]
  simp only [cond_true,fU y hy,Option.bind_some,aJ h2,Int.toNat_natCast,h2]
 ·unfold uP
  rw [dy xs hx,Option.bind_some,ka xs _ hl,Option.bind_some,h1,decide_eq_true (by omega)]
  simp only [cond_true,iM y hy,Option.bind_some,aJ h2,Int.toNat_natCast,h2]
 ·rcases List.mem_or_eq_of_mem_set hz with h | rfl
  ·exact hx.2 z h
  ·exact jN _ hy
 ·rw [List.map_set]
  refine List.ext_getElem? fun i=>?_
  rw [List.getElem?_set]
  split
  ·rename_i he
   subst he
   have hk:=(List.getElem?_eq_some_iff.1 h2).1
   rw [if_pos (by rw [List.length_map];exact hk),List.getElem?_map,h2,← h3]
   rfl
  ·rfl
theorem MW {l:List Int} (h:l.Nodup) {k:Nat} {x:Int} (hx:l[k]?=some x):x ∉ l.take k∧(l.take k++[x])=l.take (k + 1):=by
 have hk:=(List.getElem?_eq_some_iff.1 hx).1
 have he:=(List.getElem?_eq_some_iff.1 hx).2
 have h2:l.take (k + 1)=l.take k++[x]:=by rw [← he,List.take_succ_eq_append_getElem hk]
 refine ⟨fun hm=>?_,h2.symm⟩
 have hn:(l.take k++[x]).Nodup:=by rw [← h2];exact List.Sublist.nodup (List.take_sublist _ _) h
 rw [List.nodup_append] at hn
 exact hn.2.2 x hm x (by simp) rfl
theorem KL (l:List Int) (hl:l.length≤1000) (hn:l.Nodup):∃ r,wU l=some r∧r.Perm l:=by
 obtain ⟨q,h1,h2⟩:=rY (body:=vn l) (fun s=>l.length - s.2.toNat) (fun s=>∃ k:Nat,s.2=k∧k≤l.length∧s.1.Perm (l.take k)) (fun s=>s.1.Perm l) (by
  rintro ⟨out,i⟩ ⟨k,rfl,hk,hp⟩
  simp only at hp ⊢
  have hol:out.length≤1000:=by rw [hp.length_eq,List.length_take];omega
  unfold vn
  by_cases hlt:((k:Int) < (l.length:Int))
  ·have hkl:k < l.length:=by omega
   obtain ⟨x,hx⟩:∃ x,l[k]?=some x:=⟨_,List.getElem?_eq_getElem hkl⟩
   obtain ⟨n1,n2⟩:=MW hn hx
   have hno:x ∉ out:=fun h=>n1 (hp.mem_iff.1 h)
   obtain ⟨o,w1,w2⟩:=rY (body:=vm l (out,(k:Int))) (fun s=>s.toNat) (fun s=>0≤s∧s≤out.length) (fun s=>0≤s∧s≤out.length) (by
    rintro j ⟨j0,j1⟩
    unfold vm
    by_cases hj:j > 0
    ·obtain ⟨m,rfl⟩:∃ m:Nat,j=(m:Int) + 1:=⟨(j - 1).toNat,by omega⟩
     have hm:m < out.length:=by omega
     obtain ⟨y,hy⟩:∃ y,out[m]?=some y:=⟨_,List.getElem?_eq_getElem hm⟩
     have hw:IntKind.wrap .i64 ((m:Int) + 1 - 1)=(m:Int):=by rw [aA (by omega) (by omega)];omega
     simp only [hj,decide_true,cond_true,hw,aJ hy,Int.toNat_natCast,hy,Option.bind_some,aJ hx]
     by_cases hyx:y > x
     ·left
      simp only [hyx,decide_true,cond_true]
      exact ⟨_,rfl,⟨by omega,by omega⟩,by omega⟩
     ·right
      simp only [hyx,decide_false,cond_false]
      exact ⟨_,rfl,j0,j1⟩
    ·right
     simp only [hj,decide_false,cond_false,Option.bind_some]
     exact ⟨_,rfl,j0,j1⟩) (out.length:Int) ⟨by omega,by omega⟩
   obtain ⟨m,rfl⟩:=Int.eq_ofNat_of_zero_le w2.1
   have hm:m≤out.length:=by omega
   left
   have hh:out.any (fun y=>y == x)=false:=by rw [Cz,decide_eq_false hno]
   simp only [hlt,decide_true,cond_true,aJ hx,z7 out x (by omega),hh,Option.bind_some,cond_false,w1,Int.le_refl,if_true,w2.1,w2.2]
   rw [if_pos (by simp only [aI,List.length_append,List.length_take,List.length_drop,List.length_nil];omega),if_pos (by simp only [aI,List.length_append,List.length_take,List.length_drop,List.length_nil,List.length_cons];omega),if_pos (by simp only [aI,List.length_append,List.length_take,List.length_drop,List.length_nil,List.length_cons];omega)]
   refine ⟨_,rfl,⟨k + 1,by simp only;rw [aA (by omega) (by omega)];omega,by omega,?_⟩,?_⟩
   ·simp only [Int.toNat_natCast,List.nil_append]
    have e1:(List.drop (0:Int).toNat (List.take m out))=out.take m:=rfl
    have e2:List.take out.length out=out:=List.take_length
    rw [e1,e2]
    refine (OH out m x).trans ?_
    rw [← n2]
    exact List.Perm.append_right _ hp
   ·simp only
    rw [aA (by omega) (by omega)]
    omega
  ·right
   simp only [hlt,decide_false,cond_false]
   have:k=l.length:=by omega
   subst this
   rw [List.take_length] at hp
   exact ⟨_,rfl,hp⟩) ([],0) ⟨0,rfl,Nat.zero_le _,by simp⟩
 unfold wU
 rw [h1]
 exact ⟨_,rfl,h2⟩
theorem MX (u:List Int) (a:Int) (hl:u.length≤900) (hn:(u++[a]).Nodup):∃ r,As u a=some r∧r.Perm (u++[a]):=by
 obtain ⟨r,h1,h2⟩:=KL (u++[a]) (by simp;omega) hn
 unfold As
 rw [if_pos (by simp only [aI,List.length_nil];omega),if_pos (by simp only [aI,List.nil_append,List.length_cons,List.length_nil];omega),List.nil_append,h1]
 exact ⟨r,rfl,h2⟩
theorem TU (pl mi:Int) (h1:0≤pl∧pl≤2147483647) (h2:0≤mi∧mi≤2147483647):(0≤IntKind.wrap .i64 (pl - (if mi < pl then mi else pl))∧IntKind.wrap .i64 (pl - (if mi < pl then mi else pl))≤2147483647)∧(0≤IntKind.wrap .i64 (mi - (if mi < pl then mi else pl))∧IntKind.wrap .i64 (mi - (if mi < pl then mi else pl))≤2147483647):=by
 split
 ·rw [aA (by omega) (by omega),aA (by omega) (by omega)];omega
 ·rw [aA (by omega) (by omega),aA (by omega) (by omega)];omega
theorem Rm (s:ae.D) (h:uh s) (x:aj.D) (hx:DV s x):(nF s.2.2.2.1 x).1=x.1∧DV s (nF s.2.2.2.1 x):=by
 unfold nF
 cases hd:j8 x
 ·cases hp:rV x
  ·exact ⟨rfl,hx⟩
  ·refine ⟨rfl,?_⟩
   obtain ⟨h1,h2,h3,h4⟩:=hx
   obtain ⟨k0,k9⟩:=(dn x.1 x.2.1 x.2.2.1 x.2.2.2.1 x.2.2.2.2.1 x.2.2.2.2.2.1 x.2.2.2.2.2.2.1 x.2.2.2.2.2.2.2.1 x.2.2.2.2.2.2.2.2.1 x.2.2.2.2.2.2.2.2.2.1 x.2.2.2.2.2.2.2.2.2.2.1 x.2.2.2.2.2.2.2.2.2.2.2.1 x.2.2.2.2.2.2.2.2.2.2.2.2.1 x.2.2.2.2.2.2.2.2.2.2.2.2.2).1 h1
   have hz:x.2.2.2.1=2:=by unfold rV at hp;rw [Bool.and_eq_true] at hp;simpa using hp.1
   rcases k9 with ⟨_,g1,g2,g3⟩ | ⟨g,_⟩
   ·have:=TU _ _ g1 g2
    exact ⟨(dn _ _ _ _ _ _ _ _ _ _ _ _ _ _).2 ⟨k0,.inl ⟨hz,this.1,this.2,g3⟩⟩,h2,h3,h4⟩
   ·exact absurd hz g
 ·exact ⟨rfl,I4 s h 3 (by decide) x hx⟩
theorem S4 (x:aB.D) (h:dm x=true):dm (wq x)=true:=by
 unfold wq
 cases zZ x
 ·exact h
 ·exact h
theorem OL (s:ae.D) (h:aV s=true):aV (dH s).1=true:=by
 have hs:=(cz s).1 h
 unfold dH
 rw [if_pos h]
 refine (cz _).2 ?_
 have h1:=FV hs (s.1.map (nF s.2.2.2.1)) (by simp) fun i x y hx hy=>by
  rw [List.getElem?_map,hx] at hy
  cases hy
  exact Rm s hs x (hs.2.2.1 i x hx)
 exact I0 h1 (s.2.1.map wq) (by simp) fun x hx=>by
  obtain ⟨y,hy,rfl⟩:=List.mem_map.1 hx
  exact S4 y (hs.2.2.2.2 y hy)
theorem OM (t:ae.D) (x:aj.D) (hz:(x.2.2.2.1 == 2)=true) (hx:DV t x) (pl mi:Int) (h1:0≤pl∧pl≤2147483647) (h2:0≤mi∧mi≤2147483647):DV t (x.1,x.2.1,x.2.2.1,x.2.2.2.1,x.2.2.2.2.1,x.2.2.2.2.2.1,x.2.2.2.2.2.2.1,x.2.2.2.2.2.2.2.1,pl,mi,x.2.2.2.2.2.2.2.2.2.2):=by
 obtain ⟨g1,g2,g3,g4⟩:=hx
 obtain ⟨k0,k9⟩:=(dn x.1 x.2.1 x.2.2.1 x.2.2.2.1 x.2.2.2.2.1 x.2.2.2.2.2.1 x.2.2.2.2.2.2.1 x.2.2.2.2.2.2.2.1 x.2.2.2.2.2.2.2.2.1 x.2.2.2.2.2.2.2.2.2.1 x.2.2.2.2.2.2.2.2.2.2.1 x.2.2.2.2.2.2.2.2.2.2.2.1 x.2.2.2.2.2.2.2.2.2.2.2.2.1 x.2.2.2.2.2.2.2.2.2.2.2.2.2).1 g1
 have hz':x.2.2.2.1=2:=by simpa using hz
 rcases k9 with ⟨_,a1,a2,a3⟩ | ⟨g,_⟩
 ·exact ⟨(dn _ _ _ _ _ _ _ _ _ _ _ _ _ _).2 ⟨k0,.inl ⟨hz',h1,h2,a3⟩⟩,g2,g3,g4⟩
 ·exact absurd hz' g
theorem ON {t:ae.D} {x:aj.D} (hz:(x.2.2.2.1 == 2)=true) (hx:DV t x):(0≤x.2.2.2.2.2.2.2.2.1∧x.2.2.2.2.2.2.2.2.1≤2147483647)∧(0≤x.2.2.2.2.2.2.2.2.2.1∧x.2.2.2.2.2.2.2.2.2.1≤2147483647):=by
 obtain ⟨k0,k9⟩:=(dn x.1 x.2.1 x.2.2.1 x.2.2.2.1 x.2.2.2.2.1 x.2.2.2.2.2.1 x.2.2.2.2.2.2.1 x.2.2.2.2.2.2.2.1 x.2.2.2.2.2.2.2.2.1 x.2.2.2.2.2.2.2.2.2.1 x.2.2.2.2.2.2.2.2.2.2.1 x.2.2.2.2.2.2.2.2.2.2.2.1 x.2.2.2.2.2.2.2.2.2.2.2.2.1 x.2.2.2.2.2.2.2.2.2.2.2.2.2).1 hx.1
 have hz':x.2.2.2.1=2:=by simpa using hz
 rcases k9 with ⟨_,a1,a2,a3⟩ | ⟨g,_⟩
 ·exact ⟨a1,a2⟩
 ·exact absurd hz' g
theorem P1 {s t:ae.D} {v:ah.D} {y:ae.D×(au.D×Unit)} (h:Ox s t v y) (ht:uh t):uh y.1:=by
 rcases h with ⟨_,b2,b4,r,hr,rfl⟩ | ⟨_,r,hr,hy⟩ | ⟨_,_,r,hr,rfl⟩
 ·obtain ⟨⟨ps,ss,tl⟩,n',u'⟩:=r
  rcases hr with ⟨_,h,_⟩ | ⟨_,h0,_,he,⟨_,h1,j,x,_,hx,h2⟩ | ⟨_,i,x,_,hx,hz,h1,h2⟩⟩
  ·have h:((ps,ss,tl):ae.D)=t:=h
   show uh (ps,ss,tl)
   rw [h];exact ht
  ·have h1:ps=t.1:=h1
   have h0:tl=t.2.2:=h0
   subst h1 h0
   have hn:=Az he
   have:=Ax ht (j:=j) (GY b2 v.2.2.2.2.1 x) (PN b2 _ hn x (ht.2.2.2.2 x (List.mem_of_getElem? hx)))
   exact I5 this h2
  ·have h1:ps=t.1.set i (GZ b2 b4 (decide (v.2.2.2.2.1≥1)) v.2.2.2.2.1 x):=h1
   have h0:tl=t.2.2:=h0
   subst h1 h0
   have hn:=Az he
   have:=DW ht hx (GZ b2 b4 (decide (v.2.2.2.2.1≥1)) v.2.2.2.2.1 x) rfl (PO t b2 b4 _ _ hn x hz (ht.2.2.1 i x hx))
   exact I5 this h2
 ·rcases hy with ⟨_,rfl⟩ | ⟨hb,k,x,_,_,rfl⟩
  ·exact ht
  ·rcases hr with ⟨q1,_⟩ | ⟨_,q2,q3,q4,k,x,q5,q6,_,_,q9⟩
   ·rw [q1] at hb;cases hb
   ·simp only [q9]
    exact (cz _).1 (Ov t v k x q2 q3 q4 q5 q6).1
 ·rcases hr with ⟨_,h⟩ | ⟨_,_,he,⟨j,x,⟨_,_,hx⟩,⟨_,h⟩ | ⟨_,h⟩⟩ | ⟨i,x,⟨_,hx,hz⟩,⟨_,h⟩ | ⟨_,h⟩⟩⟩
  ·simp only [h];exact ht
  ·simp only [h]
   exact Ax ht _ (xH x _ (ht.2.2.2.2 x (List.mem_of_getElem? hx)) (ii _ _).1 (ii _ _).2)
  ·simp only [h]
   exact Ax ht _ (xH x _ (ht.2.2.2.2 x (List.mem_of_getElem? hx)) (DX _ _).1 (DX _ _).2)
  ·simp only [h]
   have hn:=Az (k:=v.1) (sr:=v.2.1) (p:=v.2.2.1) (d:=v.2.2.2.1) (n:=v.2.2.2.2.1) (z:=v.2.2.2.2.2.1) (bt:=v.2.2.2.2.2.2.1) (u:=v.2.2.2.2.2.2.2) he
   have hr:=ON hz (ht.2.2.1 i x hx)
   exact DW ht hx _ rfl (OM t x hz (ht.2.2.1 i x hx) _ _ ⟨nD hr.1.1 hn,(ii _ _).2⟩ hr.2)
  ·simp only [h]
   have hn:=Az (k:=v.1) (sr:=v.2.1) (p:=v.2.2.1) (d:=v.2.2.2.1) (n:=v.2.2.2.2.1) (z:=v.2.2.2.2.2.1) (bt:=v.2.2.2.2.2.2.1) (u:=v.2.2.2.2.2.2.2) he
   have hr:=ON hz (ht.2.2.1 i x hx)
   exact DW ht hx _ rfl (OM t x hz (ht.2.2.1 i x hx) _ _ hr.1 ⟨nD hr.2.1 hn,(ii _ _).2⟩)
def Ab (n:au.D):Int:=(if n.1=4 then tP n.2.1 else 0) + (if n.1=1 then n.2.2.1 else 0)
theorem Rn {s t:ae.D} {v:ah.D} {y:ae.D×(au.D×Unit)} (h:Ox s t v y):Ab y.2.1=tP v∧(y.2.1.1=1→0≤y.2.1.2.2.1∧y.2.1.2.2.1≤2147483647):=by
 rcases h with ⟨hk,b2,b4,r,hr,rfl⟩ | ⟨hk,r,hr,hy⟩ | ⟨hk,_,r,hr,rfl⟩
 ·simp only
  rcases hr with ⟨h0,_,_⟩ | ⟨h0,_,_,he,_⟩
  ·rw [if_neg (by omega)]
   exact ⟨by unfold Ab tP;simp,fun h=>by simp at h⟩
  ·have he':aM v=true:=he
   obtain ⟨m1,m2⟩:=kR he'
   by_cases hn:r.2.1≥1
   ·rw [if_pos hn]
    refine ⟨?_,fun _=>?_⟩
    ·unfold Ab tP
     rw [if_pos hk,D4 m1 m2,h0]
     simp
    ·simp only [h0];exact ⟨m1,m2⟩
   ·rw [if_neg hn]
    exact ⟨by unfold Ab tP;simp,fun h=>by simp at h⟩
 ·have hk1:¬ v.1=1:=by rw [hk];decide
  rcases hy with ⟨_,rfl⟩ | ⟨_,k,x,_,_,rfl⟩
  ·exact ⟨by unfold Ab tP;simp,fun h=>by simp at h⟩
  ·exact ⟨by unfold Ab tP;simp [hk1],fun h=>by simp at h⟩
 ·simp only
  split
  ·exact ⟨by unfold Ab tP;simp [hk],fun h=>by simp at h⟩
  ·exact ⟨by unfold Ab tP;simp,fun h=>by simp at h⟩
theorem F1 (s:ae.D) (hs:s.1.length≤33554432) (hs2:s.2.1.length≤33554432):∀ (vs:List ah.D) (q:List au.D×ae.D),CI s q→(∀ n∈q.1,n.1=1→0≤n.2.2.1∧n.2.2.1≤2147483647) →
  CI s (vs.foldl (kP s) q)∧(uh q.2→uh (vs.foldl (kP s) q).2)∧((vs.foldl (kP s) q).1.map Ab).sum=(q.1.map Ab).sum + (vs.map tP).sum∧(∀ n∈(vs.foldl (kP s) q).1,n.1=1→0≤n.2.2.1∧n.2.2.1≤2147483647)
 | [],q,h,hn=>⟨h,id,by simp,hn⟩
 | v :: vs,q,h,hn=>by
  have hp:=(zX s q.2 v hs (by rw [h.2.1.1];exact hs) (by rw [h.2.1.2];exact hs2) h.1).2.2.2
  obtain ⟨n1,n2⟩:=Rn hp
  obtain ⟨k1,k2,k3,k4⟩:=F1 s hs hs2 vs (kP s q v) (h.step v hs hs2) (fun n hm=>by
   unfold kP at hm
   rcases List.mem_append.1 hm with hm | hm
   ·exact hn n hm
   ·rw [List.mem_singleton.1 hm];exact n2)
  refine ⟨k1,fun ho=>k2 (P1 hp ho),?_,k4⟩
  simp only [List.foldl_cons]
  rw [k3]
  unfold kP
  simp only [List.map_append,List.map_cons,List.map_nil,List.sum_append,List.sum_cons,List.sum_nil,n1]
  omega
theorem Lo (f:ah.D→Int) (p:ah.D→Bool):∀ (l:List ah.D),((l.filter p).map f).sum + ((l.filter fun x=>!p x).map f).sum=(l.map f).sum
 | []=>rfl
 | a :: l=>by
  have:=Lo f p l
  cases h:p a <;> simp [h] <;> omega
theorem P2 (s:ae.D) (es:List ah.D) (hs:s.1.length≤33554432) (hs2:s.2.1.length≤33554432) :
  CI s (lE s es)∧(uh s→uh (lE s es).2)∧((lE s es).1.map Ab).sum=(es.map tP).sum∧(∀ n∈(lE s es).1,n.1=1→0≤n.2.2.1∧n.2.2.1≤2147483647):=by
 obtain ⟨k1,k2,k3,k4⟩:=F1 s hs hs2 (nE es++qZ es) ([],s) ⟨rfl,⟨rfl,rfl⟩,rfl⟩ (by simp)
 refine ⟨k1,k2,?_,k4⟩
 have:=Lo tP (fun v=>v.1 == 2) es
 rw [show (lE s es).1=((nE es++qZ es).foldl (kP s) ([],s)).1 from rfl,k3]
 simp only [List.map_nil,List.sum_nil,List.map_append,List.sum_append]
 unfold nE qZ bne
 omega
theorem OO (l:List ai.D):∀ (rem done cs:List Int),(done++rem).Nodup→((tS l rem cs).2++iw l (done++rem)).Perm (iw l done)
 | [],done,cs,_=>by simp [tS]
 | s :: rem,done,cs,hn=>by
  have hnd:s ∉ done:=by
   rw [List.nodup_append] at hn
   exact fun hm=>hn.2.2 s hm s (by simp) rfl
  obtain ⟨p1,p2⟩:=va _ cs (l.filter fun x=>x.2.1 == s) rfl
  have ih:=OO l rem (done++[s]) (eW (l.filter fun x=>x.2.1 == s).length cs (l.filter fun x=>x.2.1 == s)).1 (by simpa using hn)
  have hp:((iw l done).filter (fun x=>x.2.1 == s)++(iw l done).filter (fun x=>!(x.2.1 == s))).Perm (iw l done):=List.filter_append_perm _ _
  rw [Jd l done s hnd,Fm l done s] at hp
  simp only [List.append_assoc,List.singleton_append] at ih
  unfold tS
  rw [List.append_assoc]
  exact (p1.append ih).trans hp
theorem Eh (s:ae.D) (l:List ai.D) (cs:List Int) (hs:s.2.1.length≤33554432):(kS s l cs).1.Perm l:=by
 have:=OO l (dv s) [] cs (by simpa using D8 s hs)
 have hk0:iw l []=l:=by unfold iw;simp
 rw [hk0,List.nil_append] at this
 exact this
theorem MY (i sd pk oo:Int) (b:ah.D) (af:List ah.D) (st dp:Int) (u:Unit) (h1:1≤i∧i≤99) (h2:0≤sd∧sd≤2) (h3:1≤oo∧oo≤5) (h4:0≤pk∧pk < oo) (h5:aM b=true) (h6:af.length≤3) (h7:0≤st∧st≤2147483647) (h8:0≤dp∧dp≤4) (h9:∀ e∈af,aM e=true):dF (i,sd,pk,oo,b,af,st,dp,u)=true:=by
 have hC:aU af (fun q=>iY q.1)=some (af.any (fun e=>!aM e)):=ig af (by omega) (fun e=>!aM e) _ (fun x=>by simp only [iY,bO,Option.bind_some])
 have hA:af.any (fun e=>!aM e)=false:=by rw [List.any_eq_false];intro x hx;rw [h9 x hx];decide
 have hd:∀ {p q:Prop} [Decidable p] [Decidable q],p∧q→(decide p && decide q)=true:=fun {p q} _ _ h=>by rw [decide_eq_true h.1,decide_eq_true h.2];rfl
 have w:IntKind.wrap .i64 (oo - 1)=oo - 1:=aA (by omega) (by omega)
 have h4':0≤pk∧pk≤oo - 1:=by omega
 have h6':decide ((af.length:Int)≤3)=true:=decide_eq_true (by omega)
 unfold dF jI cJ bl bT
 simp only [hC,hA,bQ,bO,h5,h6',w,hd h1,hd h2,hd h3,hd h4',hd h7,hd h8,Option.bind_some,cond_true]
 rfl
theorem OP {x:aa.D} (hl:x.2.2.2.2.2.2.1.2.2.2.2.2.2.1.length≤33554432) (h:aS x=true):(1:Int)≤x.1∧x.1≤(99:Int):=by
 have h':=cW x hl
 rw [h] at h'
 obtain ⟨b1,p1,q1⟩:=wo x.2.2.2.2.1
 obtain ⟨b2,p2,q2⟩:=ph x.2.2.2.2.2.1
 obtain ⟨b3,p3,q3⟩:=zW x.2.2.2.2.2.2.1 hl
 obtain ⟨b4,p4,q4⟩:=iL x.2.2.2.2.2.2.1 x.2.2.2.2.1.1
 unfold cy cJ bl at h'
 simp only [q1,q2,q3,q4,bQ,Option.bind_some] at h'
 simp only [cond_eq_ite,i7,Option.bind_some] at h'
 have h':=Option.some.inj h'
 clear p1 p2 p3 p4 q1 q2 q3 q4 hl h
 generalize x.2.2.2.2.2.2.1.1=ak at *
 generalize x.1=i at *
 generalize x.2.1=ow at *
 generalize x.2.2.1=so at *
 generalize x.2.2.2.1=du at *
 generalize x.2.2.2.2.2.2.2.1=co at *
 generalize x.2.2.2.2.2.2.2.2.1=on at *
 simp at h'
 grind
theorem Ro {s:ae.D} {e:ah.D} {t:Int} (hl:s.1.length≤33554432) (h:aV s=true) (ht:jD s e=some t):t=-1∨(0≤t∧t < (s.2.1.length:Int)):=by
 obtain ⟨⟨k1,k2,k3⟩,k4,k5,_⟩:=(cz s).1 h
 have hw:IntKind.wrap .i64 ((s.2.1.length:Int) - 1)=(s.2.1.length:Int) - 1:=aA (by omega) (by omega)
 unfold jD at ht
 simp only [gK,fx s _ hl,Option.bind_some,hw] at ht
 cases hz:(e.2.2.1 == 0)
 ·rw [hz] at ht
  simp only [cond_false] at ht
  rcases i9 s e.2.2.1 with h | ⟨k,x,h1,h2,_⟩
  ·rw [h] at ht
   exact .inl (Option.some.inj ht).symm
  ·rw [h1,bW (by omega)] at ht
   simp only [cond_false,aJ h2] at ht
   have hp:=k5 k x h2
   have hs:=Bz hp.1
   have:x.2.2.1=t:=Option.some.inj ht
   rw [← this]
   exact .inr ⟨hs.2,hp.2.2.1⟩
 ·rw [hz] at ht
  cases hd:(decide (0≤e.2.2.2.1) && decide (e.2.2.2.1≤(s.2.1.length:Int) - 1)) with
  | false=>rw [hd] at ht;exact .inl (Option.some.inj ht).symm
  | true =>
   rw [hd] at ht
   have:e.2.2.2.1=t:=Option.some.inj ht
   rw [Bool.and_eq_true,decide_eq_true_eq,decide_eq_true_eq] at hd
   rw [← this]
   exact .inr ⟨hd.1,Int.lt_of_le_sub_one hd.2⟩
theorem P3 {s:ae.D} {e:ah.D} {t:Int} (hl:s.1.length≤33554432) (h:aV s=true) (ht:iC s e=some t):0≤t∧t≤2:=by
 obtain ⟨z,h1,_⟩:=Fn s e hl
 have hz:=Ro hl h h1
 obtain ⟨⟨k1,k2,k3⟩,⟨⟨k4,k4'⟩,_⟩,_⟩:=(cz s).1 h
 unfold iC at ht
 rw [h1,Option.bind_some] at ht
 by_cases e1:z=-1
 ·rw [e1] at ht
  have:s.2.2.1=t:=Option.some.inj ht
  rw [← this]
  exact ⟨k4,Int.le_trans k4' (by omega)⟩
 ·rw [show (z == -1)=false by rw [beq_eq_false_iff_ne];exact e1] at ht
  have:z=t:=Option.some.inj ht
  omega
theorem TV {e:ah.D} {L:List ah.D} {n:Int} {c:Bool} {P:Prop} (he:aM e=true) (hA:c=true→L=[e]∧n=0) (hB:c=false→(∀ v∈L,nH v=true)∧0≤n∧n≤e.2.2.2.2.1∧P):(∀ v∈L,aM v=true)∧0≤n∧n≤2147483647:=by
 have hm:=kR he
 cases c with
 | true =>
  obtain ⟨rfl,rfl⟩:=hA rfl
  exact ⟨fun v hv=>by rw [List.mem_singleton.1 hv];exact he,by decide,by decide⟩
 | false =>
  obtain ⟨q1,q2,q3,_⟩:=hB rfl
  refine ⟨fun v hv=>?_,q2,Int.le_trans q3 hm.2⟩
  have:=q1 v hv
  unfold nH at this
  rw [Bool.and_eq_true] at this
  exact this.1
theorem KM {tb:List aa.D} (h:(!qC (cX tb) 0 tb && decide ((tb.length:Int)≤5))=true):∀ x∈tb,aS x=true:=fun x hx=>by
 rw [Bool.and_eq_true] at h
 have h1:qC (cX tb) 0 tb=false:=by simpa using h.1
 obtain ⟨i,hi⟩:=List.mem_iff_getElem?.1 hx
 have:=IV _ _ _ h1 i x hi
 unfold cX at this
 rw [Bool.or_eq_false_iff] at this
 simpa using this.1
def UD (G:Prop) (tb tb':List aa.D) (cs cs':List Int) (lf lf':List ah.D) (tn tn':List aF.D) (q:Nat):Prop :=
 okD (.slice aa) tb'∧tb'.map (fun (x:aa.D)=>x.1)=tb.map (fun (x:aa.D)=>x.1)∧cs'.length≤cs.length∧lf'.length≤lf.length + q∧tn'.length≤tn.length + q∧(∀ t∈tn',okD aF t)∧((∀ x∈tb,aS x=true)→∀ x∈tb',aS x=true)∧cs' <:+ cs∧(G→(∀ x∈tb,aS x=true)→(∀ t∈tn,dF t=true)→∀ t∈tn',dF t=true)
theorem xJ (y:aF.D) (h:y.2.2.2.2.2.1.length≤33554432):okD aF y :=
 ⟨trivial,trivial,trivial,trivial,f8 _ rfl _,⟨h,fun x _=>f8 _ rfl x⟩,trivial,trivial,trivial⟩
def QC (n:Nat):Prop:=∀ (s:ae.D) (tb:List aa.D) (cs:List Int) (lf:List ah.D) (tn:List aF.D) (e:ah.D) (uS uI:List Int),
 s.1.length≤33554432→s.2.1.length≤33554432→okD (.slice aa) tb→cs.length≤33554432→uS.Perm uI→uS.Nodup→(∀ a∈uS,a∈tb.map (fun (x:aa.D)=>x.1))→tb.length≤5→tb.length < n + uS.length →
 lf.length + 4 ^ n≤33554432→tn.length + 4 ^ n≤33554432→(∀ t∈tn,okD aF t) →
 ∃ tb' cs' lf' tn',jG n (s,tb,cs,lf,tn,()) e uS=some ((),(s,tb',cs',lf',tn',()))∧di n (s,(lf,tb,cs,tn,()),()) e uI=some (true,(s,(lf',tb',cs',tn',()),()))∧UD (aV s=true∧aM e=true) tb tb' cs cs' lf lf' tn tn' (4 ^ n)
theorem QD (n:Nat) (IH:QC n) (s:ae.D) (L:List ah.D) (m1:Int) (y1:aa.D) (m2:Int) (y2:aa.D) (wS v:List Int) (a:Int) (h1:s.1.length≤33554432) (h2:s.2.1.length≤33554432) (hw:wS.Perm (v++[a])) (hn:wS.Nodup) (hL:L.length≤3) :
  ∀ (m k:Nat) (tb:List aa.D) (cs:List Int) (lf:List ah.D) (tn:List aF.D),k + m=L.length→okD (.slice aa) tb→cs.length≤33554432→(∀ a∈wS,a∈tb.map (fun (x:aa.D)=>x.1))→tb.length≤5→tb.length < n + wS.length →
  lf.length + m * 4 ^ n≤33554432→tn.length + m * 4 ^ n≤33554432→(∀ t∈tn,okD aF t) →
  ∃ tb' cs' lf' tn',ay (pG (jG n) (L,m1,y1,()) wS) ((k:Int),s,tb,cs,lf,tn,())=some ((L.length:Int),s,tb',cs',lf',tn',()) ∧
   ay (gv (di n) a (L,m2,y2,()) v) ((k:Int),s,(lf,tb,cs,tn,()),())=some (.inl ((L.length:Int),s,(lf',tb',cs',tn',()),()))∧UD (aV s=true∧∀ v∈L,aM v=true) tb tb' cs cs' lf lf' tn tn' (m * 4 ^ n)
 | 0,k,tb,cs,lf,tn,hk,h3,h4,h5,h6,h7,h8,h9,h10=>by
  have:k=L.length:=by omega
  subst this
  refine ⟨tb,cs,lf,tn,be ?_,be ?_,h3,rfl,Nat.le_refl _,by omega,by omega,h10,id,List.suffix_refl _,fun _ _ h=>h⟩
  ·unfold pG
   simp only [Int.lt_irrefl,decide_false,cond_false]
  ·unfold gv
   simp only [Int.lt_irrefl,decide_false,cond_false]
 | m + 1,k,tb,cs,lf,tn,hk,h3,h4,h5,h6,h7,h8,h9,h10=>by
  rw [Nat.succ_mul] at h8 h9
  obtain ⟨x,hx⟩:∃ x,L[k]?=some x:=⟨_,List.getElem?_eq_getElem (by omega)⟩
  have hil:((k:Int) < (L.length:Int)):=by omega
  obtain ⟨tb1,cs1,lf1,tn1,e1,e2,k1,k2,k3,k4,k5,k6,k7,k8,k9⟩:=IH s tb cs lf tn x wS (v++[a]) h1 h2 h3 h4 hw hn h5 h6 h7 (by omega) (by omega) h10
  have hlen:tb1.length=tb.length:=by have:=congrArg List.length k2;simpa using this
  obtain ⟨tb2,cs2,lf2,tn2,w1,w2,g1,g2,g3,g4,g5,g6,g7,g8,g9⟩:=QD n IH s L m1 y1 m2 y2 wS v a h1 h2 hw hn hL m (k + 1) tb1 cs1 lf1 tn1 (by omega) k1 (by omega) (by rw [k2];exact h5) (by omega) (by omega) (by omega) (by omega) k6
  have hwr:IntKind.wrap .i64 ((k:Int) + 1)=((k + 1:Nat):Int):=by rw [aA (by omega) (by omega)];rfl
  refine ⟨tb2,cs2,lf2,tn2,aW ?_ w1,aW ?_ w2,g1,by rw [g2,k2],by omega,by rw [Nat.succ_mul];omega,by rw [Nat.succ_mul];omega,g6,fun h=>g7 (k7 h),g8.trans k8,fun hG hb ht=>g9 hG (k7 hb) (k9 ⟨hG.1,hG.2 x (List.mem_of_getElem? hx)⟩ hb ht)⟩
  ·unfold pG
   simp only [hil,decide_true,cond_true,aJ hx,Int.toNat_natCast,hx,Option.bind_some,e1,hwr]
  ·unfold gv
   simp only [hil,decide_true,cond_true,aJ hx,Int.toNat_natCast,hx,Option.bind_some,e2,hwr,Bool.not_true,cond_false]
theorem OQ:∀ n,QC n
 | 0,s,tb,cs,lf,tn,e,uS,uI,_,_,_,_,_,hn,hs,_,h7,_,_,_=>by
  have:=pO uS _ hn hs
  rw [List.length_map] at this
  omega
 | n + 1,s,tb,cs,lf,tn,e,uS,uI,h1,h2,h3,h4,hp,hn,hs,h6,h7,h8,h9,h10=>by
  have hq:1≤4 ^ n:=Nat.one_le_iff_ne_zero.2 (by exact Nat.pos_iff_ne_zero.1 (Nat.pow_pos (by omega)))
  rw [Nat.pow_succ] at h8 h9
  have hul:=pO uS _ hn hs
  rw [List.length_map] at hul
  have hui:=hp.length_eq
  have hl:tb.length≤33554432:=h3.1
  have o1:=GO s tb e uS uI h1 h2 h3 (by omega) (fun a=>hp.mem_iff)
  have o2:=GN s tb e uI h1 h2 h3 (by omega)
  have o3:=S2 s tb e uI
  have o4:=S3 s tb e uI h1 h2 h3
  show ∃ tb' cs' lf' tn',li (jG n) (s,tb,cs,lf,tn,()) e uS=_∧fD (di n) (s,(lf,tb,cs,tn,()),()) e uI=_∧_
  unfold li fD
  simp only [o1,o2,Option.bind_some]
  generalize OK s tb e uI=os at o3 o4
  by_cases h0:os.length=0
  ·have:((os.length:Int) == 0)=true:=by rw [h0];rfl
   simp only [this,cond_true,D7,D6,Option.bind_some]
   cases D5 e
   ·simp only [Bool.not_false,cond_true]
    rw [if_pos (by simp only [aI,List.length_cons,List.length_nil];omega),if_pos (by simp only [aI,List.length_cons,List.length_nil];omega)]
    refine ⟨tb,cs,lf++[e],tn,rfl,rfl,h3,rfl,Nat.le_refl _,?_,?_,h10,id,List.suffix_refl _,fun _ _ h=>h⟩
    ·rw [Nat.pow_succ,List.length_append,List.length_cons,List.length_nil];omega
    ·omega
   ·simp only [Bool.not_true,cond_false]
    exact ⟨tb,cs,lf,tn,rfl,rfl,h3,rfl,Nat.le_refl _,by omega,by omega,h10,id,List.suffix_refl _,fun _ _ h=>h⟩
  ·have:((os.length:Int) == 0)=false:=by rw [beq_eq_false_iff_ne];omega
   obtain ⟨p1,p2⟩:=D9 cs (n:=(os.length:Int)) (by omega)
   have p3:=(nJ cs (os.length:Int)).length_le
   obtain ⟨k,hk⟩:=Int.eq_ofNat_of_zero_le p1
   have hko:k < os.length:=by omega
   obtain ⟨a,ha⟩:∃ a,os[k]?=some a:=⟨_,List.getElem?_eq_getElem hko⟩
   obtain ⟨ha1,ha2⟩:=o3 a (List.mem_of_getElem? ha)
   obtain ⟨j,x,f1,f2,f3⟩:=Ln tb a ha1
   have hok:=(h3.2 x (List.mem_of_getElem? f2)).2.2.2.2.2.2.1.2.2.2.2.2.2.1.1
   obtain ⟨L,sn,y,d1,d2,⟨d3,d4,d5,d6⟩,b,hb,hA,hB⟩:=OD x e hok
   have hLv:aM e=true→(∀ v∈L,aM v=true)∧0≤sn∧sn≤2147483647:=fun he=>TV he hA hB
   clear hb hA hB
   obtain ⟨u1,u2,u3,u4⟩:=Rl tb y x j h3 d3 (by rw [d5,f3];exact f1) f2 d5.symm
   obtain ⟨ch,c1,c2⟩:=Jf s e h1
   have hnu:(uS++[a]).Nodup:=by
    rw [List.nodup_append]
    refine ⟨hn,by simp,fun b hb c hc=>?_⟩
    simp only [List.mem_singleton] at hc
    subst hc
    intro he;subst he
    exact ha2 (hp.mem_iff.1 hb)
   obtain ⟨wS,w1,w2⟩:=MX uS a (by omega) hnu
   have hsub:∀ b∈wS,b∈tb.map (fun (x:aa.D)=>x.1):=fun b hb=>by
    rcases List.mem_append.1 (w2.mem_iff.1 hb) with h | h
    ·exact hs b h
    ·simp only [List.mem_singleton] at h;subst h;exact ha1
   have hdp:=pO (uS++[a]) _ hnu (fun b hb=>hsub b (w2.mem_iff.2 hb))
   rw [List.length_append,List.length_map,List.length_cons,List.length_nil] at hdp
   have hwl:wS.length=uS.length + 1:=by rw [w2.length_eq,List.length_append];rfl
   have hut:(tb.set j y).length=tb.length:=List.length_set ..
   have tl:∀ t∈tn++[((x.1,ch,(k:Int),(os.length:Int),e,L,sn,(uS.length:Int),()):aF.D)],okD aF t:=fun t ht=>by
    rcases List.mem_append.1 ht with h | h
    ·exact h10 t h
    ·simp only [List.mem_singleton] at h
     subst h
     exact xJ _ (by show L.length≤33554432;omega)
   have tl2:aV s=true∧aM e=true→(∀ x∈tb,aS x=true)→(∀ t∈tn,dF t=true)→∀ t∈tn++[((x.1,ch,(k:Int),(os.length:Int),e,L,sn,(uS.length:Int),()):aF.D)],dF t=true:=fun hG hE ht t hm=>by
    rcases List.mem_append.1 hm with h | h
    ·exact ht t h
    ·rw [List.mem_singleton.1 h]
     obtain ⟨v1,v2,v3⟩:=hLv hG.2
     exact MY _ _ _ _ _ _ _ _ _ (OP hok (hE x (List.mem_of_getElem? f2))) (P3 h1 hG.1 c1) ⟨by omega,by omega⟩ ⟨by omega,by omega⟩ hG.2 d4 ⟨v2,v3⟩ ⟨by omega,by omega⟩ v1
   have hupd:(∀ x∈tb,aS x=true)→∀ z∈tb.set j y,aS z=true:=fun h z hz=>by
    rcases List.mem_or_eq_of_mem_set hz with hz | rfl
    ·exact h z hz
    ·exact d6 (h x (List.mem_of_getElem? f2))
   have hmq:L.length * 4 ^ n≤3 * 4 ^ n:=Nat.mul_le_mul_right _ d4
   obtain ⟨tb',cs',lf',tn',g1,g2,g3,g4,g5,g6,g7,g8,g9,g10,g11⟩:=QD n (OQ n) s L sn y sn y wS uI a h1 h2 (w2.trans (List.Perm.append_right _ hp)) (w2.nodup_iff.2 hnu) d4 L.length 0 (tb.set j y) (mg cs (os.length:Int)) lf (tn++[(x.1,ch,(k:Int),(os.length:Int),e,L,sn,(uS.length:Int),())]) (by omega) u3 (by omega) (by rw [u4];exact hsub) (by omega) (by omega) (by omega) (by simp only [List.length_append,List.length_cons,List.length_nil];omega) tl
   refine ⟨tb',cs',lf',tn',?_,?_,g3,by rw [g4,u4],by omega,by rw [Nat.pow_succ];omega,by rw [Nat.pow_succ];simp only [List.length_append,List.length_cons,List.length_nil] at g7;omega,g8,fun h=>g9 (hupd h),g10.trans (nJ cs _),fun hG hb ht=>g11 ⟨hG.1,(hLv hG.2).1⟩ (hupd hb) (tl2 hG hb ht)⟩
   ·simp only [this,cond_false,Eb cs (os.length:Int) (by omega) (by omega),Option.bind_some,hk,aJ ha,Int.toNat_natCast,ha,kb tb a hl,f1,aJ f2,d2,u1,c1]
    rw [if_pos (by simp only [aI,List.length_nil];omega),if_pos (by simp only [aI,List.length_cons,List.length_nil];omega),f3,w1,Option.bind_some]
    rw [f3] at g1
    simp only [List.nil_append]
    rw [show ((0:Int))=((0:Nat):Int) from rfl,g1]
    rfl
   ·have hc:bw uI=some uI:=eR uI (by omega)
    simp only [this,cond_false,tp,tu,Ea cs (os.length:Int) (by omega) (by omega),Option.bind_some,hk,aJ ha,Int.toNat_natCast,ha,ka tb a hl,f1,aJ f2,d1,u2,c2,Bool.not_true,hc]
    rw [if_pos (by simp only [aI,List.length_cons,List.length_nil];omega),if_pos (by simp only [aI,List.length_cons,List.length_nil];omega)]
    rw [f3,hui] at g2
    rw [show ((0:Int))=((0:Nat):Int) from rfl,g2]
    rfl
theorem P4 (s:ae.D) (tb:List aa.D) (e:ah.D) (cs:List Int) (h1:s.1.length≤33554432) (h2:s.2.1.length≤33554432) (h3:okD (.slice aa) tb) (h4:cs.length≤33554432) :
  ∃ r:br.D,mP s tb e cs=some r∧jZ s tb e cs=some r∧okD br r∧r.1.length≤65536∧r.2.2.1.length≤cs.length∧r.2.2.2.1.length≤65536∧r.2.1.map (fun (x:aa.D)=>x.1)=tb.map (fun (x:aa.D)=>x.1)∧((∀ x∈tb,aS x=true)→∀ x∈r.2.1,aS x=true)∧r.2.2.1 <:+ cs∧∀ t∈r.2.2.2.1,dF t=true:=by
 have hl:tb.length≤33554432:=h3.1
 have triv:okD br ([],tb,cs,[],()):=⟨⟨by simp,fun x hx=>by cases hx⟩,h3,⟨h4,fun x _=>f8 _ rfl x⟩,⟨by simp,fun x hx=>by cases hx⟩,trivial⟩
 obtain ⟨b3,hb3⟩:∃ b3,b3=(!qC (cX tb) 0 tb && decide ((tb.length:Int)≤5)):=⟨_,rfl⟩
 have g1:=lC tb h3
 have g2:=lD tb h3
 rw [← hb3] at g1 g2
 unfold mP jZ
 simp only [cx tb h3,dy tb h3,eR cs h4,eh s h1 h2,ej s h1 h2,g1,g2,bX,bO,Option.bind_some,List.nil_append]
 rw [if_pos (by simp only [aI,List.length_nil];omega)]
 cases hst:aV s
 ·exact ⟨_,rfl,rfl,triv,Nat.zero_le _,Nat.le_refl _,Nat.zero_le _,rfl,id,List.suffix_refl _,fun t h=>by cases h⟩
 cases b3
 ·cases aM e <;> exact ⟨_,rfl,rfl,triv,Nat.zero_le _,Nat.le_refl _,Nat.zero_le _,rfl,id,List.suffix_refl _,fun t h=>by cases h⟩
 cases he:aM e
 ·exact ⟨_,rfl,rfl,triv,Nat.zero_le _,Nat.le_refl _,Nat.zero_le _,rfl,id,List.suffix_refl _,fun t h=>by cases h⟩
 have h5:tb.length≤5:=by
  have:=hb3.symm
  rw [Bool.and_eq_true] at this
  have:=of_decide_eq_true this.2
  omega
 obtain ⟨tb',cs',lf',tn',e1,e2,k1,k2,k3,k4,k5,k6,k7,k8,k9⟩:=OQ 8 s tb cs [] [] e [] [] h1 h2 h3 h4 (List.Perm.refl _) List.nodup_nil (fun a h=>by cases h) h5 (by simp;omega) (by simp) (by simp) (fun t h=>by cases h)
 simp only [List.length_nil,Nat.zero_add] at k4 k5
 have q:4 ^ 8=65536:=by decide
 rw [q] at k4 k5
 have q1:lf'.length≤33554432:=by omega
 have q2:cs'.length≤33554432:=by omega
 have q3:tn'.length≤33554432:=by omega
 have ok:okD br (lf',tb',cs',tn',()):=⟨⟨q1,fun x _=>f8 _ rfl x⟩,k1,⟨q2,fun x _=>f8 _ rfl x⟩,⟨q3,k6⟩,trivial⟩
 simp only [e1,e2,cond_true,cond_false,Bool.not_true,Option.bind_some]
 rw [ra tn' ⟨by omega,k6⟩]
 exact ⟨_,rfl,rfl,ok,by simp only;omega,by simp only;omega,by simp only;omega,k2,k7,k8,k9 ⟨hst,he⟩ (KM hb3.symm) (fun t h=>by cases h)⟩
def Jo (a b:br.D):br.D:=(a.1++b.1,b.2.1,b.2.2.1,a.2.2.2.1++b.2.2.2.1,())
theorem TW (f0 f1:br.D) (ok0:okD br f0) (ok1:okD br f1) (s1:f0.1.length + f1.1.length≤33554432) (s2:f0.2.2.2.1.length + f1.2.2.2.1.length≤33554432) :
  vY f0 f1=some (Jo f0 f1)∧we f0 f1=some (Jo f0 f1)∧okD br (Jo f0 f1):=by
 have okt:okD (.slice aF) (f0.2.2.2.1++f1.2.2.2.1):=⟨by rw [List.length_append];exact s2,fun x hx=>by
  rcases List.mem_append.1 hx with h | h
  ·exact ok0.2.2.2.1.2 x h
  ·exact ok1.2.2.2.1.2 x h⟩
 have l3:f1.2.2.1.length≤33554432:=ok1.2.2.1.1
 refine ⟨?_,?_,⟨by show (f0.1++f1.1).length≤_;rw [List.length_append];exact s1,fun x hx=>?_⟩,ok1.2.1,ok1.2.2.1,okt,trivial⟩
 ·unfold vY Jo
  rw [tT f0 ok0,Option.bind_some,tT f1 ok1,Option.bind_some,if_pos (by simp only [aI];omega),if_pos (by simp only [aI];omega)]
 ·unfold we bw Jo
  rw [MS _ _ s1,Option.bind_some,dy _ ok1.2.1,Option.bind_some,if_pos (by simp only [aI,List.length_nil];omega),Option.bind_some,OG _ _ s2,Option.bind_some,ra _ okt,Option.bind_some]
  rfl
 ·rcases List.mem_append.1 hx with h | h
  ·exact ok0.1.2 x h
  ·exact ok1.1.2 x h
noncomputable def xK (es:List ah.D):Bool:=decide ((es.length:Int)≤4) && !es.any (fun e=>!aM e)
theorem yj (es:List ah.D) (hl:es.length≤33554432):ng es=some (xK es):=by
 have hC:aU es (fun q=>nf q.1)=some (es.any (fun e=>!aM e)):=ig es hl (fun e=>!aM e) _ (fun x=>by simp only [nf,bO,Option.bind_some])
 unfold ng xK
 rw [hC]
 cases decide ((es.length:Int)≤4) <;> rfl
theorem yk (es:List ah.D) (hl:es.length≤33554432):mO es=some (xK es):=by
 unfold mO xK
 rw [kM es (body:=lg es) (fun _ e=>!aM e) false (by omega) (fun i x hx=>?_) (by unfold lg;simp),Aw]
 ·cases es.any (fun e=>!aM e) <;> simp
 ·have hlt:=(List.getElem?_eq_some_iff.1 hx).1
  have hil:((i:Int) < (es.length:Int)):=by omega
  unfold lg
  simp only [hil,decide_true,cond_true,aJ hx,bX,Option.bind_some]
noncomputable def Ei (s:ae.D) (f:br.D) (e:ah.D):br.D:=Jo f ((jZ s f.2.1 e f.2.2.1).getD ([],[],[],[],()))
noncomputable def kv (s:ae.D):List ah.D→br.D→br.D
 | [],f=>f
 | e :: es,f=>kv s es (Ei s f e)
theorem TX (s:ae.D) (f:br.D) (e:ah.D) (h1:s.1.length≤33554432) (h2:s.2.1.length≤33554432) (hf:okD br f) (s1:f.1.length + 65536≤33554432) (s2:f.2.2.2.1.length + 65536≤33554432) :
  okD br (Ei s f e)∧(Ei s f e).1.length≤f.1.length + 65536∧(Ei s f e).2.2.2.1.length≤f.2.2.2.1.length + 65536∧(Ei s f e).2.2.1.length≤f.2.2.1.length∧(Ei s f e).2.1.map (fun (x:aa.D)=>x.1)=f.2.1.map (fun (x:aa.D)=>x.1)∧((∀ x∈f.2.1,aS x=true)→∀ x∈(Ei s f e).2.1,aS x=true)∧(Ei s f e).2.2.1 <:+ f.2.2.1∧((∀ t∈f.2.2.2.1,dF t=true)→∀ t∈(Ei s f e).2.2.2.1,dF t=true)∧∃ r,mP s f.2.1 e f.2.2.1=some r∧jZ s f.2.1 e f.2.2.1=some r∧vY f r=some (Ei s f e)∧we f r=some (Ei s f e):=by
 obtain ⟨r,e1,e2,ok,q1,q2,q3,q4,q5,q6,q7⟩:=P4 s f.2.1 e f.2.2.1 h1 h2 hf.2.1 hf.2.2.1.1
 obtain ⟨j1,j2,j3⟩:=TW f r hf ok (by omega) (by omega)
 have hv:Ei s f e=Jo f r:=by unfold Ei;rw [e2];rfl
 rw [hv]
 refine ⟨j3,?_,?_,q2,q4,q5,q6,fun h t ht=>by
  have ht:t∈f.2.2.2.1++r.2.2.2.1:=ht
  rcases List.mem_append.1 ht with ht | ht
  ·exact h t ht
  ·exact q7 t ht,r,e1,e2,j1,j2⟩
 ·show (f.1++r.1).length≤_
  rw [List.length_append];omega
 ·show (f.2.2.2.1++r.2.2.2.1).length≤_
  rw [List.length_append];omega
theorem OR (s:ae.D) (es:List ah.D) (h1:s.1.length≤33554432) (h2:s.2.1.length≤33554432) (hl:es.length≤4) (Q:Nat) (hQ:Q=65536):∀ (m k:Nat) (f:br.D),k + m=es.length→okD br f→f.1.length + m * Q≤33554432→f.2.2.2.1.length + m * Q≤33554432 →
  ay (iD s es) ((k:Int),f)=some ((es.length:Int),kv s (es.drop k) f)∧ay (iH s es) ((k:Int),f)=some ((es.length:Int),kv s (es.drop k) f)∧okD br (kv s (es.drop k) f)∧(kv s (es.drop k) f).1.length≤f.1.length + m * Q∧(kv s (es.drop k) f).2.2.2.1.length≤f.2.2.2.1.length + m * Q∧(kv s (es.drop k) f).2.2.1.length≤f.2.2.1.length∧(kv s (es.drop k) f).2.1.map (fun (x:aa.D)=>x.1)=f.2.1.map (fun (x:aa.D)=>x.1)∧((∀ x∈f.2.1,aS x=true)→∀ x∈(kv s (es.drop k) f).2.1,aS x=true)∧(kv s (es.drop k) f).2.2.1 <:+ f.2.2.1∧((∀ t∈f.2.2.2.1,dF t=true)→∀ t∈(kv s (es.drop k) f).2.2.2.1,dF t=true)
 | 0,k,f,hk,h3,h4,h5=>by
  have:k=es.length:=by omega
  subst this
  rw [List.drop_length]
  refine ⟨be ?_,be ?_,h3,Nat.le_add_right _ _,Nat.le_add_right _ _,Nat.le_refl _,rfl,id,List.suffix_refl _,id⟩
  ·unfold iD
   simp only [Int.lt_irrefl,decide_false,cond_false,kv]
  ·unfold iH
   simp only [Int.lt_irrefl,decide_false,cond_false,kv]
 | m + 1,k,f,hk,h3,h4,h5=>by
  obtain ⟨q,hq⟩:∃ q:Nat,q=m * Q:=⟨_,rfl⟩
  have hq1:(m + 1) * Q=q + Q:=by rw [Nat.succ_mul,hq]
  rw [hq1] at h4 h5
  have hkl:k < es.length:=by omega
  obtain ⟨x,hx⟩:∃ x,es[k]?=some x:=⟨_,List.getElem?_eq_getElem hkl⟩
  have hd:es.drop k=x :: es.drop (k + 1):=by
   rw [List.drop_eq_getElem_cons hkl]
   rw [List.getElem?_eq_getElem hkl] at hx
   rw [Option.some.inj hx]
  have hil:((k:Int) < (es.length:Int)):=by omega
  obtain ⟨a1,a2,a3,a4,a5,a6,a7,a8,r,b1,b2,b3,b4⟩:=TX s f x h1 h2 h3 (by omega) (by omega)
  obtain ⟨c1,c2,c3,c4,c5,c6,c7,c8,c9,c10⟩:=OR s es h1 h2 hl Q hQ m (k + 1) (Ei s f x) (by omega) a1 (by rw [← hq];omega) (by rw [← hq];omega)
  rw [← hq] at c4 c5
  have hwr:IntKind.wrap .i64 ((k:Int) + 1)=((k + 1:Nat):Int):=by rw [aA (by omega) (by omega)];rfl
  rw [hd]
  simp only [kv]
  refine ⟨aW ?_ c1,aW ?_ c2,c3,by rw [hq1];omega,by rw [hq1];omega,by omega,by rw [c7,a5],fun h=>c8 (a6 h),c9.trans a7,fun h=>c10 (a8 h)⟩
  ·unfold iD
   simp only [hil,decide_true,cond_true,aJ hx,b1,b3,hwr,Option.bind_some]
  ·unfold iH
   simp only [hil,decide_true,cond_true,aJ hx,b2,b4,hwr,Option.bind_some]
noncomputable def iN (tb:List aa.D):Bool:=!qC (cX tb) 0 tb && decide ((tb.length:Int)≤5)
noncomputable def gL (s:ae.D) (tb:List aa.D) (es:List ah.D) (cs:List Int):br.D :=
 bif (xK es && aV s) && iN tb then kv s es ([],tb,cs,[],()) else ([],tb,cs,[],())
theorem KN (s:ae.D) (tb:List aa.D) (es:List ah.D) (cs:List Int) (h1:s.1.length≤33554432) (h2:s.2.1.length≤33554432) (h3:okD (.slice aa) tb) (h4:cs.length≤33554432) (h5:es.length≤33554432) :
  lj s tb es cs=some (gL s tb es cs)∧ly s tb es cs=some (gL s tb es cs)∧okD br (gL s tb es cs)∧(gL s tb es cs).1.length≤262144∧(gL s tb es cs).2.2.2.1.length≤262144∧(gL s tb es cs).2.2.1.length≤cs.length∧(gL s tb es cs).2.1.map (fun (x:aa.D)=>x.1)=tb.map (fun (x:aa.D)=>x.1)∧((∀ x∈tb,aS x=true)→∀ x∈(gL s tb es cs).2.1,aS x=true)∧(gL s tb es cs).2.2.1 <:+ cs∧∀ t∈(gL s tb es cs).2.2.2.1,dF t=true:=by
 have triv:okD br ([],tb,cs,[],()):=⟨⟨by simp,fun x hx=>by cases hx⟩,h3,⟨h4,fun x _=>f8 _ rfl x⟩,⟨by simp,fun x hx=>by cases hx⟩,trivial⟩
 have g1:gm tb=some (iN tb):=lC tb h3
 have g2:go tb=some (iN tb):=lD tb h3
 unfold lj ly
 simp only [tT _ triv,dy tb h3,eR cs h4,yk es h5,yj es h5,eh s h1 h2,ej s h1 h2,g1,g2,Option.bind_some]
 by_cases hb:((xK es && aV s) && iN tb)=true
 ·have hv:gL s tb es cs=kv s es ([],tb,cs,[],()):=by unfold gL;rw [hb];rfl
  rw [Bool.and_eq_true,Bool.and_eq_true] at hb
  obtain ⟨⟨b1,b2⟩,b3⟩:=hb
  have hl:es.length≤4:=by
   unfold xK at b1
   rw [Bool.and_eq_true] at b1
   have:=of_decide_eq_true b1.1
   omega
  obtain ⟨c1,c2,c3,c4,c5,c6,c7,c8,c9,c10⟩:=OR s es h1 h2 hl 65536 rfl es.length 0 ([],tb,cs,[],()) (by omega) triv (by simp only [List.length_nil];omega) (by simp only [List.length_nil];omega)
  rw [List.drop_zero] at c1 c2 c3 c4 c5 c6 c7 c8 c9 c10
  rw [show (((0:Nat):Int))=(0:Int) from rfl] at c1 c2
  rw [hv]
  simp only [List.length_nil] at c4 c5
  simp only [b1,b2,b3,Bool.not_true,cond_false,Option.bind_some,c1,c2]
  exact ⟨trivial,trivial,c3,by omega,by omega,c6,c7,c8,c9,c10 (fun t h=>by cases h)⟩
 ·have hv:gL s tb es cs=([],tb,cs,[],()):=by
   unfold gL
   rw [Bool.not_eq_true] at hb
   rw [hb];rfl
  rw [hv]
  refine ⟨?_,?_,triv,Nat.zero_le _,Nat.zero_le _,Nat.le_refl _,rfl,id,List.suffix_refl _,fun t h=>by cases h⟩ <;> revert hb <;> cases xK es <;> cases aV s <;> cases iN tb <;> intro hb <;> first | rfl | exact absurd rfl hb
theorem MZ (n:Int) (h0:0≤n) (h1:n≤33554432):eQ () n=some ([],()):=by
 unfold eQ
 rw [bW h0]
 simp only [cond_false,Option.bind_some]
 have z:IntKind.wrap .i64 (0 - 0)=0:=aA (by omega) (by omega)
 rw [z,Int.sub_zero,aA (by omega) (by omega)]
 by_cases hn:n > 0
 ·rw [decide_eq_true hn]
  simp only [cond_true,Int.le_refl,if_true]
  rw [if_pos (by omega),if_pos hn,if_pos (by simp only [aI];omega),if_pos (by omega)]
  simp
 ·rw [decide_eq_false hn];rfl
theorem GP (a b c:List ai.D) (h:a.length + b.length + c.length≤33554432):dY [a,b,c]=some ((a++b)++c):=by
 have i0:([a,b,c]:List (List ai.D))[0]?=some a:=rfl
 have i1:([a,b,c]:List (List ai.D))[1]?=some b:=rfl
 have i2:([a,b,c]:List (List ai.D))[2]?=some c:=rfl
 have e1:ay (bI [a,b,c]) (0,0)=some ((a.length:Int) + (b.length:Int) + (c.length:Int),3):=by
  refine aW (s':=((a.length:Int),1)) ?_ (aW (s':=((a.length:Int) + (b.length:Int),2)) ?_ (aW (s':=((a.length:Int) + (b.length:Int) + (c.length:Int),3)) ?_ (be ?_)))
  ·unfold bI
   rw [decide_eq_true (by simp)]
   simp only [cond_true]
   rw [show ((0:Int))=((0:Nat):Int) from rfl,aJ i0]
   simp (disch:=omega) only [aA,bW,cond_false]
   first | (simp;done) | (simp;rw [bW (by omega)];rfl)
  ·unfold bI
   rw [decide_eq_true (by simp)]
   simp only [cond_true]
   rw [show ((1:Int))=((1:Nat):Int) from rfl,aJ i1]
   simp (disch:=omega) only [aA,bW,cond_false]
   first | (simp;done) | (simp;rw [bW (by omega)];rfl)
  ·unfold bI
   rw [decide_eq_true (by simp)]
   simp only [cond_true]
   rw [show ((2:Int))=((2:Nat):Int) from rfl,aJ i2]
   simp (disch:=omega) only [aA,bW,cond_false]
   first | (simp;done) | (simp;rw [bW (by omega)];rfl)
  ·unfold bI
   simp
 have e2:ay (bJ [a,b,c]) ([],0)=some ((a++b)++c,3):=by
  refine aW (s':=(a,1)) ?_ (aW (s':=(a++b,2)) ?_ (aW (s':=((a++b)++c,3)) ?_ (be ?_)))
  ·unfold bJ
   rw [decide_eq_true (by simp)]
   simp only [cond_true]
   rw [show ((0:Int))=((0:Nat):Int) from rfl,aJ i0]
   rw [if_pos (by simp only [aI,List.length_append,List.length_nil];omega)]
   simp (disch:=omega) only [aA]
   simp
  ·unfold bJ
   rw [decide_eq_true (by simp)]
   simp only [cond_true]
   rw [show ((1:Int))=((1:Nat):Int) from rfl,aJ i1]
   rw [if_pos (by simp only [aI,List.length_append,List.length_nil];omega)]
   simp (disch:=omega) only [aA]
   simp
  ·unfold bJ
   rw [decide_eq_true (by simp)]
   simp only [cond_true]
   rw [show ((2:Int))=((2:Nat):Int) from rfl,aJ i2]
   rw [if_pos (by simp only [aI,List.length_append,List.length_nil];omega)]
   simp (disch:=omega) only [aA]
   simp
  ·unfold bJ
   simp
 unfold dY
 rw [e1,Option.bind_some]
 simp only
 rw [MZ _ (by omega) (by omega),Option.bind_some]
 simp only
 rw [e2,Option.bind_some]
theorem Rp (n:Int) (h0:0≤n) (h1:n≤33554432):fX () n=some ([],()):=by
 unfold fX
 rw [bW h0]
 simp only [cond_false,Option.bind_some]
 have z:IntKind.wrap .i64 (0 - 0)=0:=aA (by omega) (by omega)
 rw [z,Int.sub_zero,aA (by omega) (by omega)]
 by_cases hn:n > 0
 ·rw [decide_eq_true hn]
  simp only [cond_true,Int.le_refl,if_true]
  rw [if_pos (by omega),if_pos hn,if_pos (by simp only [aI];omega),if_pos (by omega)]
  simp
 ·rw [decide_eq_false hn];rfl
theorem M0 (a b c:List au.D) (h:a.length + b.length + c.length≤33554432):fg [a,b,c]=some ((a++b)++c):=by
 have i0:([a,b,c]:List (List au.D))[0]?=some a:=rfl
 have i1:([a,b,c]:List (List au.D))[1]?=some b:=rfl
 have i2:([a,b,c]:List (List au.D))[2]?=some c:=rfl
 have e1:ay (cf [a,b,c]) (0,0)=some ((a.length:Int) + (b.length:Int) + (c.length:Int),3):=by
  refine aW (s':=((a.length:Int),1)) ?_ (aW (s':=((a.length:Int) + (b.length:Int),2)) ?_ (aW (s':=((a.length:Int) + (b.length:Int) + (c.length:Int),3)) ?_ (be ?_)))
  ·unfold cf
   rw [decide_eq_true (by simp)]
   simp only [cond_true]
   rw [show ((0:Int))=((0:Nat):Int) from rfl,aJ i0]
   simp (disch:=omega) only [aA,bW,cond_false]
   first | (simp;done) | (simp;rw [bW (by omega)];rfl)
  ·unfold cf
   rw [decide_eq_true (by simp)]
   simp only [cond_true]
   rw [show ((1:Int))=((1:Nat):Int) from rfl,aJ i1]
   simp (disch:=omega) only [aA,bW,cond_false]
   first | (simp;done) | (simp;rw [bW (by omega)];rfl)
  ·unfold cf
   rw [decide_eq_true (by simp)]
   simp only [cond_true]
   rw [show ((2:Int))=((2:Nat):Int) from rfl,aJ i2]
   simp (disch:=omega) only [aA,bW,cond_false]
   first | (simp;done) | (simp;rw [bW (by omega)];rfl)
  ·unfold cf
   simp
 have e2:ay (cg [a,b,c]) ([],0)=some ((a++b)++c,3):=by
  refine aW (s':=(a,1)) ?_ (aW (s':=(a++b,2)) ?_ (aW (s':=((a++b)++c,3)) ?_ (be ?_)))
  ·unfold cg
   rw [decide_eq_true (by simp)]
   simp only [cond_true]
   rw [show ((0:Int))=((0:Nat):Int) from rfl,aJ i0]
   rw [if_pos (by simp only [aI,List.length_append,List.length_nil];omega)]
   simp (disch:=omega) only [aA]
   simp
  ·unfold cg
   rw [decide_eq_true (by simp)]
   simp only [cond_true]
   rw [show ((1:Int))=((1:Nat):Int) from rfl,aJ i1]
   rw [if_pos (by simp only [aI,List.length_append,List.length_nil];omega)]
   simp (disch:=omega) only [aA]
   simp
  ·unfold cg
   rw [decide_eq_true (by simp)]
   simp only [cond_true]
   rw [show ((2:Int))=((2:Nat):Int) from rfl,aJ i2]
   rw [if_pos (by simp only [aI,List.length_append,List.length_nil];omega)]
   simp (disch:=omega) only [aA]
   simp
  ·unfold cg
   simp
 unfold fg
 rw [e1,Option.bind_some]
 simp only
 rw [Rp _ (by omega) (by omega),Option.bind_some]
 simp only
 rw [e2,Option.bind_some]
def tU (c:Int) (x:aa.D):Bool:=(x.2.2.2.2.2.2.2.2.1 != 0) && ((x.2.2.2.2.2.2.2.1 == (-1)) || decide (x.2.2.2.2.2.2.2.1≥c))
theorem KO (x:aa.D) (c:Int):oV x c=some (tU c x):=by
 unfold oV tU
 cases ((x.2.2.2.2.2.2.2.2.1:Int) != 0) <;> cases ((x.2.2.2.2.2.2.2.1:Int) == -1) <;> rfl
theorem KP (x:aa.D) (c:Int):oJ x c=some (tU c x):=by
 unfold oJ tU
 cases ((x.2.2.2.2.2.2.2.2.1:Int) != 0) <;> cases ((x.2.2.2.2.2.2.2.1:Int) == -1) <;> rfl
theorem OS {xs ys:List aa.D} (h:okD (.slice aa) xs) (hl:ys.length≤xs.length) (hs:∀ y∈ys,y∈xs):okD (.slice aa) ys:=⟨Nat.le_trans hl h.1,fun y hy=>h.2 y (hs y hy)⟩
theorem Lp (xs:List aa.D) (c:Int) (h:okD (.slice aa) xs) (h5:xs.length≤1000):qd xs c=some (xs.filter (tU c))∧qs xs c=some (xs.filter (tU c)):=by
 refine ⟨?_,?_⟩
 ·unfold qd
  rw [db xs (fun _ x=>if tU c x then [x] else []) (fun s=>s) (fun _ x=>by split <;> simp) (by omega) (fun t i x hI hx=>?_) (fun t=>?_)]
  ·rw [Option.bind_some,jv]
  ·have hlt:=(List.getElem?_eq_some_iff.1 hx).1
   have hil:((i:Int) < (xs.length:Int)):=by omega
   have hok:=(h.2 x (List.mem_of_getElem? hx)).2.2.2.2.2.2.1.2.2.2.2.2.2.1.1
   unfold sY
   simp only [hil,decide_true,cond_true,aJ hx,KP,fU x hok,Option.bind_some]
   cases tU c x
   ·simp only [cond_false,Option.bind_some,if_false,List.append_nil,Bool.false_eq_true]
   ·simp only [cond_true]
    rw [if_pos (by simp only [aI,List.length_cons,List.length_nil];omega)]
    rfl
  ·unfold sY;simp
 ·unfold qs
  rw [dy xs h,Option.bind_some]
  unfold cj
  have hq:∀ x:aa.D,pM c x=some (!tU c x):=fun x=>by unfold pM;rw [KO];rfl
  simp only [hq]
  rw [if_pos ⟨by omega,by rw [List.all_eq_true];intro x _;rfl⟩,Option.bind_some]
  simp only [Option.getD_some,Bool.not_not]
theorem OT (xs:List aa.D) (a:Int):Aa xs a=-1∨∃ (k:Nat) (x:aa.D),Aa xs a=k∧xs[k]?=some x∧x.1=a:=by
 by_cases h:a∈xs.map (fun (x:aa.D)=>x.1)
 ·exact .inr (Ln xs a h)
 ·refine .inl ?_
  unfold Aa
  obtain ⟨_,h2⟩:=fk (fun (x:aa.D)=>x.1 == a) xs
  cases hf:bZ (fun (x:aa.D)=>x.1 == a) xs with
  | none=>rfl
  | some k =>
   obtain ⟨x,g1,g2,_⟩:=h2 k hf
   exact absurd (List.mem_map.2 ⟨x,List.mem_of_getElem? g1,by simpa using g2⟩) h
theorem QE {xs:List aa.D} (h:okD (.slice aa) xs) (i:Nat):okD (.slice aa) (xs.take i)∧okD (.slice aa) (xs.drop i) :=
 ⟨OS h (by rw [List.length_take];omega) fun y hy=>List.mem_of_mem_take hy,OS h (by rw [List.length_drop];omega) fun y hy=>List.mem_of_mem_drop hy⟩
theorem TY (xs:List aa.D) (a:Int) (h:okD (.slice aa) xs) (h5:xs.length≤1000):∃ r,Ar xs a=some r∧Au xs a=some r∧okD (.slice aa) r.1∧r.1.Sublist xs∧(r.2.1=false→r.1=xs):=by
 have hl:xs.length≤33554432:=by omega
 unfold Ar Au
 rw [dy xs h,Option.bind_some,ka xs a hl,kb xs a hl,Option.bind_some,Option.bind_some]
 rcases OT xs a with e | ⟨k,x,e,hx,_⟩
 ·rw [e,cx xs h]
  exact ⟨_,rfl,rfl,h,List.Sublist.refl _,fun _=>rfl⟩
 ·have hk:=(List.getElem?_eq_some_iff.1 hx).1
  rw [e,bW (by omega)]
  have hw:IntKind.wrap .i64 ((k:Int) + 1)=((k + 1:Nat):Int):=by rw [aA (by omega) (by omega)];rfl
  have e1:(List.drop (0:Int).toNat (List.take k xs))=xs.take k:=rfl
  have e2:(List.drop (k + 1) (List.take xs.length xs))=xs.drop (k + 1):=by rw [List.take_length]
  have e3:(xs.length:Int).toNat=xs.length:=by omega
  simp only [cond_false,hw,Int.toNat_natCast,e1,e2,e3]
  rw [if_pos (by omega),if_pos (by omega),if_pos (by omega),cx _ (QE h k).1,Option.bind_some,if_pos (by omega),if_pos (by omega),if_pos (by omega),cx _ (QE h (k + 1)).2,Option.bind_some]
  rw [if_pos (by simp only [aI,List.length_take,List.length_drop];omega)]
  unfold cY
  rw [if_pos ⟨by omega,by omega,by omega⟩,Option.bind_some]
  refine ⟨_,rfl,rfl,OS h ?_ fun y hy=>?_,(by show (xs.take k++xs.drop (k + 1)).Sublist xs;rw [← List.eraseIdx_eq_take_drop_succ];exact List.eraseIdx_sublist xs k),fun h=>by cases h⟩
  ·simp only [Int.toNat_natCast,List.length_append,List.length_take,List.length_drop];omega
  ·rcases List.mem_append.1 hy with hy | hy
   ·exact List.mem_of_mem_take hy
   ·exact List.mem_of_mem_drop hy
theorem Rq {α:Type} (xs:List α) {body:Int→Option (Int⊕Int)} (p:α→Bool) (hlen:xs.length≤9223372036854775806)
  (hb:∀ (i:Nat) x,xs[i]?=some x→body i=bif p x then some (.inr (i:Int)) else some (.inl (IntKind.wrap .i64 ((i:Int) + 1))))
  (he:body xs.length=some (.inr (xs.length:Int))) :
  ∃ k:Nat,k≤xs.length∧ay body 0=some (k:Int)∧(match bZ p xs with | some j=>j | none=>xs.length)=k:=by
 have main:∀ (r:List α) (k:Nat),xs.drop k=r→k≤xs.length→ay body k=some (match bZ p r with | some j=>((k + j:Nat):Int) | none=>(xs.length:Int)):=by
  intro r
  induction r with
  | nil =>
   intro k h hk
   have:k=xs.length:=by
    have:=congrArg List.length h
    simp at this
    omega
   subst this
   exact be he
  | cons x r ih =>
   intro k h hk
   have hlt:k < xs.length:=by
    have:=congrArg List.length h
    simp at this
    omega
   have hx:xs[k]?=some x:=by
    have:=congrArg (fun l=>l[0]?) h
    simpa using this
   have hr:xs.drop (k + 1)=r:=by
    have:=congrArg List.tail h
    simpa using this
   unfold bZ
   by_cases hp:p x=true
   ·rw [if_pos hp]
    refine be ?_
    rw [hb k x hx,hp]
    simp
   ·rw [if_neg hp]
    refine aW (s':=((k + 1:Nat):Int)) ?_ ?_
    ·rw [hb k x hx]
     have:p x=false:=by simpa using hp
     rw [this]
     simp only [cond_false]
     rw [aA (by omega) (by omega)]
     rfl
    ·rw [ih (k + 1) hr hlt]
     cases bZ p r with
     | none=>rfl
     | some j =>
      simp only [Option.map_some]
      rw [show k + 1 + j=k + (j + 1) by omega]
 have h0:=main xs 0 rfl (by omega)
 obtain ⟨_,h2⟩:=fk p xs
 cases hf:bZ p xs with
 | none =>
  rw [hf] at h0
  exact ⟨xs.length,Nat.le_refl _,h0,rfl⟩
 | some j =>
  rw [hf] at h0
  obtain ⟨x,g1,_⟩:=h2 j hf
  have:=(List.getElem?_eq_some_iff.1 g1).1
  refine ⟨j,by omega,?_,rfl⟩
  show ay body ((0:Nat):Int)=_
  rw [h0]
  simp only [Nat.zero_add]
theorem UE (a b:Int):decide (a≥b)=!decide (a < b):=by
 by_cases h:a < b
 ·rw [decide_eq_true h,decide_eq_false (by omega)];rfl
 ·rw [decide_eq_false h,decide_eq_true (by omega)];rfl
theorem P5 (xs:List aa.D) (e:aa.D) (h:okD (.slice aa) xs) (h5:xs.length≤1000) (he:e.2.2.2.2.2.2.1.2.2.2.2.2.2.1.length≤33554432):∃ r,rA xs e=some r∧rH xs e=some r∧okD (.slice aa) r.1∧(r.2.1=true→iN r.1=true)∧(r.2.1=false→r.1=xs):=by
 have hl:xs.length≤33554432:=by omega
 obtain ⟨k,hk,w1,w2⟩:=Rq xs (body:=le xs e) (fun x=>decide (x.1≥e.1)) (by omega) (fun i x hx=>by
  have hlt:=(List.getElem?_eq_some_iff.1 hx).1
  have hil:((i:Int) < (xs.length:Int)):=by omega
  unfold le
  simp only [hil,decide_true,cond_true,aJ hx,Option.bind_some]
  have hd:decide (x.1≥e.1)=!decide (x.1 < e.1):=UE x.1 e.1
  rw [hd]
  cases decide (x.1 < e.1) <;> rfl) (by unfold le;simp)
 have hi:bN xs (fun q=>tc e q.1)=some (match bZ (fun x=>decide (x.1≥e.1)) xs with | some k=>(k:Int) | none=>-1):=Eg xs hl (fun x=>decide (x.1≥e.1)) _ (fun x _=>rfl)
 obtain ⟨ix,hix⟩:∃ ix:Int,ix=(match bZ (fun (x:aa.D)=>decide (x.1≥e.1)) xs with | some k=>(k:Int) | none=>-1):=⟨_,rfl⟩
 rw [← hix] at hi
 have ho:((bif decide (ix < 0) then some (xs.length:Int) else some ix):Option Int)=some (k:Int):=by
  rw [hix,← w2]
  cases bZ (fun (x:aa.D)=>decide (x.1≥e.1)) xs with
  | none=>rfl
  | some j=>simp only;rw [bW (by omega)];rfl
 have okn:okD (.slice aa) (xs.take k++[e]++xs.drop k):=by
  refine ⟨?_,fun y hy=>?_⟩
  ·simp only [List.length_append,List.length_take,List.length_drop,List.length_cons,List.length_nil];omega
  ·rcases List.mem_append.1 hy with hy | hy
   ·rcases List.mem_append.1 hy with hy | hy
    ·exact h.2 y (List.mem_of_mem_take hy)
    ·rw [List.mem_singleton.1 hy];exact jN _ he
   ·exact h.2 y (List.mem_of_mem_drop hy)
 obtain ⟨tk,htk⟩:∃ tk,tk=(!qC (cX (xs.take k++[e]++xs.drop k)) 0 (xs.take k++[e]++xs.drop k) && decide (((xs.take k++[e]++xs.drop k).length:Int)≤5)):=⟨_,rfl⟩
 have t1:=lC _ okn
 have t2:=lD _ okn
 rw [← htk] at t1 t2
 have e1:(List.drop (0:Int).toNat (List.take k xs))=xs.take k:=rfl
 have e2:(List.drop k (List.take xs.length xs))=xs.drop k:=by rw [List.take_length]
 have e3:(xs.length:Int).toNat=xs.length:=by omega
 have hins:ew xs (k:Int) [e]=some (xs.take k++[e]++xs.drop k,()):=by
  unfold ew
  rw [if_pos ⟨by omega,by omega,rfl,by omega⟩,Int.toNat_natCast]
 unfold rA rH
 rw [w1,Option.bind_some,dy xs h,Option.bind_some,hi,Option.bind_some,ho,Option.bind_some,Option.bind_some,iM e he,Option.bind_some,hins,Option.bind_some]
 simp only [Int.toNat_natCast,e1,e2,e3]
 rw [if_pos (by omega),if_pos (by omega),if_pos (by omega),cx _ (QE h k).1,Option.bind_some,fU e he,Option.bind_some]
 rw [if_pos (by simp only [aI,List.length_take,List.length_cons,List.length_nil];omega),if_pos (by omega),if_pos (by omega),if_pos (by omega),cx _ (QE h k).2,Option.bind_some]
 rw [if_pos (by simp only [aI,List.length_append,List.length_take,List.length_drop,List.length_cons,List.length_nil];omega)]
 simp only [kb xs _ hl,ka xs _ hl,t1,t2,Option.bind_some,cx xs h]
 cases decide (Aa xs e.1≥0) <;> cases tk <;> first | exact ⟨_,rfl,rfl,h,fun h=>(by cases h),fun _=>rfl⟩ | exact ⟨_,rfl,rfl,okn,fun _=>htk.symm,fun h=>(by cases h)⟩
theorem BH:∀ (l:List aa.D),(∀ (i:Nat) (x y:aa.D),l[i]?=some x→l[i + 1]?=some y→(x.1:Int) < (y.1:Int))→l.Pairwise (fun (a b:aa.D)=>(a.1:Int) < (b.1:Int))
 | [],_=>List.Pairwise.nil
 | a :: l,h=>by
  have ih:=BH l (fun i x y hx hy=>h (i + 1) x y (by simpa using hx) (by simpa using hy))
  refine List.Pairwise.cons (fun c hc=>?_) ih
  cases l with
  | nil=>cases hc
  | cons b l =>
   have hab:=h 0 a b rfl rfl
   rcases List.mem_cons.1 hc with rfl | hc
   ·exact hab
   ·exact Int.lt_trans hab ((List.pairwise_cons.1 ih).1 c hc)
theorem BI:∀ (l:List aa.D),l.Pairwise (fun (a b:aa.D)=>(a.1:Int) < (b.1:Int))→∀ (i:Nat) (x y:aa.D),l[i]?=some x→l[i + 1]?=some y→(x.1:Int) < (y.1:Int)
 | [],_,i,x,y,hx,_=>by simp at hx
 | a :: l,h,0,x,y,hx,hy=>by
  obtain ⟨h1,_⟩:=List.pairwise_cons.1 h
  simp at hx
  subst hx
  exact h1 y (List.mem_of_getElem? (by simpa using hy))
 | a :: l,h,i + 1,x,y,hx,hy=>BI l (List.pairwise_cons.1 h).2 i x y (by simpa using hx) (by simpa using hy)
theorem lS (tb:List aa.D):iN tb=true↔(∀ x∈tb,aS x=true)∧tb.Pairwise (fun (a b:aa.D)=>(a.1:Int) < (b.1:Int))∧tb.length≤5:=by
 have hpt:iN tb=true↔(∀ (i:Nat) x,tb[i]?=some x→cX tb i x=false)∧(tb.length:Int)≤5:=by
  unfold iN
  rw [Bool.and_eq_true,decide_eq_true_eq,Bool.not_eq_true',IZ]
  simp only [Nat.zero_add]
 rw [hpt]
 constructor
 ·rintro ⟨h1,h2⟩
  refine ⟨fun x hx=>?_,BH tb (fun i x y hx hy=>?_),by omega⟩
  ·obtain ⟨i,hi⟩:=List.mem_iff_getElem?.1 hx
   have:=h1 i x hi
   unfold cX at this
   rw [Bool.or_eq_false_iff] at this
   simpa using this.1
  ·have:=h1 (i + 1) y hy
   unfold cX at this
   simp only [Bool.or_eq_false_iff,Bool.and_eq_false_iff,Nat.add_sub_cancel,hx,Option.any_some,decide_eq_false_iff_not] at this
   rcases this.2 with h | h
   ·omega
   ·exact Int.not_le.1 h
 ·rintro ⟨h1,h2,h3⟩
  refine ⟨fun i x hx=>?_,by omega⟩
  unfold cX
  rw [h1 x (List.mem_of_getElem? hx)]
  simp only [Bool.not_true,Bool.false_or,Bool.and_eq_false_iff,decide_eq_false_iff_not]
  cases i with
  | zero=>left;omega
  | succ i =>
   right
   have hlt:=(List.getElem?_eq_some_iff.1 hx).1
   have hp:tb[i]?=some (tb[i]'(by omega)):=List.getElem?_eq_getElem (by omega)
   simp only [Nat.add_sub_cancel,hp,Option.any_some,decide_eq_false_iff_not]
   exact Int.not_le.2 (BI tb h2 i _ x hp hx)
theorem CA {tb tb':List aa.D} (h:iN tb=true) (hs:tb'.Sublist tb):iN tb'=true:=by
 obtain ⟨h1,h2,h3⟩:=(lS tb).1 h
 exact (lS tb').2 ⟨fun x hx=>h1 x (hs.subset hx),List.Pairwise.sublist hs h2,Nat.le_trans hs.length_le h3⟩
theorem Ej:∀ (l l':List aa.D),l'.map (fun (x:aa.D)=>(x.1:Int))=l.map (fun (x:aa.D)=>(x.1:Int))→l.Pairwise (fun (a b:aa.D)=>(a.1:Int) < (b.1:Int))→l'.Pairwise (fun (a b:aa.D)=>(a.1:Int) < (b.1:Int)):=fun l l' h hp=>by
 have h1:(l.map (fun (x:aa.D)=>(x.1:Int))).Pairwise (fun a b=>a < b):=List.pairwise_map.2 hp
 rw [← h] at h1
 exact List.pairwise_map.1 h1
theorem OU {tb tb':List aa.D} (h:iN tb=true) (hm:tb'.map (fun (x:aa.D)=>x.1)=tb.map (fun (x:aa.D)=>x.1)) (he:(∀ x∈tb,aS x=true)→∀ x∈tb',aS x=true):iN tb'=true:=by
 obtain ⟨h1,h2,h3⟩:=(lS tb).1 h
 have hl:tb'.length=tb.length:=by have:=congrArg List.length hm;simpa using this
 exact (lS tb').2 ⟨he h1,Ej tb tb' hm h2,by omega⟩
def Jp (t:ai.D):Prop:=((t.1:Int)=1→eJ t.2.2.2.1 16=true)∧((t.1:Int)=2→eJ t.2.2.2.1 32=true)
theorem xL (s:ae.D):∀ (xs:List au.D) (i:Nat),∀ t∈bA (uW s) i xs,Jp t
 | [],_,t,h=>by cases h
 | x :: xs,i,t,h=>by
  rcases List.mem_append.1 h with h | h
  ·unfold uW at h
   cases h1:(zY x && eJ x.2.2.2.2.1 16) with
   | true =>
    rw [h1] at h
    simp only [cond_true,List.mem_singleton] at h
    subst h
    rw [Bool.and_eq_true] at h1
    exact ⟨fun _=>h1.2,fun h=>by simp at h⟩
   | false =>
    rw [h1] at h
    simp only [cond_false] at h
    cases h2:((x.1 == 1) && (decide (x.2.2.1≥1) && eJ (jh s x.2.1) 32)) with
    | true =>
     rw [h2] at h
     simp only [cond_true,List.mem_singleton] at h
     subst h
     simp only [Bool.and_eq_true,decide_eq_true_eq] at h2
     exact ⟨fun h=>by simp at h,fun _=>h2.2.2⟩
    | false=>rw [h2] at h;cases h
  ·exact xL s xs (i + 1) t h
def Ac (g r:aK.D):Prop:=r.2.2.1 <:+ g.2.2.1∧(∃ q,r.2.2.2.1=g.2.2.2.1++q∧∀ t∈q,Jp t)∧(∃ q,r.2.2.2.2.1=g.2.2.2.2.1++q)∧(∃ q,r.2.2.2.2.2.1=g.2.2.2.2.2.1++q∧∀ t∈q,dF t=true)∧(g.1.2.2.2.1:Int)≤r.1.2.2.2.1
theorem Ac.self {g r:aK.D} (h:r.2.2=g.2.2) (hc:(g.1.2.2.2.1:Int)≤r.1.2.2.2.1):Ac g r:=by
 unfold Ac
 rw [h]
 exact ⟨List.suffix_refl _,⟨[],(List.append_nil _).symm,fun t h=>by cases h⟩,⟨[],(List.append_nil _).symm⟩,⟨[],(List.append_nil _).symm,fun t h=>by cases h⟩,hc⟩
theorem Ac.trans {a b c:aK.D} (h:Ac a b) (k:Ac b c):Ac a c:=by
 obtain ⟨h1,⟨q2,h2,h2'⟩,⟨q3,h3⟩,⟨q4,h4,h4'⟩,h5⟩:=h
 obtain ⟨k1,⟨p2,k2,k2'⟩,⟨p3,k3⟩,⟨p4,k4,k4'⟩,k5⟩:=k
 refine ⟨k1.trans h1,⟨q2++p2,by rw [k2,h2,List.append_assoc],fun t ht=>?_⟩,⟨q3++p3,by rw [k3,h3,List.append_assoc]⟩,⟨q4++p4,by rw [k4,h4,List.append_assoc],fun t ht=>?_⟩,Int.le_trans h5 k5⟩
 ·rcases List.mem_append.1 ht with ht | ht
  ·exact h2' t ht
  ·exact k2' t ht
 ·rcases List.mem_append.1 ht with ht | ht
  ·exact h4' t ht
  ·exact k4' t ht
theorem P6 (s:ae.D):(dH s).1.2.2=s.2.2:=by unfold dH;split <;> rfl
theorem P7 (s:ae.D) (hp:s.1.length≤33554432) (hs:s.2.1.length≤33554432):∃ r,qb s=some r∧md s=some r∧iS r.1 s∧r.2.1.length≤19∧r.1.2.2=s.2.2∧(aV s=true→aV r.1=true∧(dH r.1).2.1.length=0):=by
 obtain ⟨r,h1,h2,_,_⟩:=Rf s hp hs
 refine ⟨r,h1,h2,?_⟩
 obtain ⟨q,g1,g2⟩:∃ q,ay cd ([],0,([],[],0,0,()),s)=some q∧(iS q.2.2 s∧q.1.length≤19∧q.2.2.2.2=s.2.2∧(aV s=true→aV q.2.2=true∧(dH q.2.2).2.1.length=0)):=by
  cases hok:aV s with
  | false =>
   refine ⟨([],0,s),be ?_,⟨rfl,rfl⟩,by simp,rfl,fun h=>by cases h⟩
   unfold cd
   simp only [ja s hp hs,Option.bind_some]
   have:(dH s).2.1=[]:=by unfold dH;rw [hok];rfl
   rw [this];rfl
  | true =>
   obtain ⟨l1,l2⟩:=kQ hok
   have hw:=Ll s
   exact rY (body:=cd) (fun t=>tN t.2.2.2) (fun t=>iS t.2.2.2 s∧t.1.length + tN t.2.2.2≤tN s∧t.2.2.2.2.2=s.2.2∧aV t.2.2.2=true) (fun r=>iS r.2.2 s∧r.1.length≤19∧r.2.2.2.2=s.2.2∧(true=true→aV r.2.2=true∧(dH r.2.2).2.1.length=0)) (by
    rintro ⟨all,n,u,t⟩ ⟨⟨z1,z2⟩,z3,z4,z5⟩
    simp only at z1 z2 z3 z4 z5
    have hr:=D3 t
    have hz:=Cv t
    unfold cd
    simp only [ja t (by omega) (by omega),Option.bind_some]
    by_cases hn:(dH t).2.1.length=0
    ·right
     have:(((dH t).2.1.length:Int) == 0)=true:=by rw [hn];rfl
     rw [this]
     exact ⟨_,rfl,⟨z1,z2⟩,by simp only;omega,z4,fun _=>⟨z5,hn⟩⟩
    ·left
     have:(((dH t).2.1.length:Int) == 0)=false:=by rw [beq_eq_false_iff_ne];omega
     rw [this]
     simp only [cond_false]
     rw [if_pos (by simp only [aI];omega)]
     refine ⟨_,rfl,⟨⟨hz.1.trans z1,hz.2.trans z2⟩,?_,?_,OL t z5⟩,?_⟩
     ·simp only [List.length_append];omega
     ·exact (P6 t).trans z4
     ·simp only;omega) ([],0,([],[],0,0,()),s) ⟨⟨rfl,rfl⟩,by simp,rfl,hok⟩
 unfold md at h2
 simp only [fH s hp hs,Option.bind_some,g1] at h2
 have h2:=Option.some.inj h2
 rw [← h2]
 exact ⟨g2.1,g2.2.1,g2.2.2⟩
theorem Rr (g:aK.D) (es:List ah.D) (ok:okD aK g) (hs:aV g.1=true) (htb:iN g.2.1=true) (he:es.length≤33554432) (hq:g.2.2.2.1.length + 600000≤33554432) (hl:g.2.2.2.2.1.length + 600000≤33554432) (hn:g.2.2.2.2.2.1.length + 600000≤33554432) :
  ∃ r,pI g es=some ((),r)∧uT g es=some (r,())∧okD aK r∧r.2.2.2.1.length≤g.2.2.2.1.length + 600000∧r.2.2.2.2.1.length≤g.2.2.2.2.1.length + 600000∧r.2.2.2.2.2.1.length≤g.2.2.2.2.2.1.length + 600000∧Ac g r∧aV r.1=true∧iN r.2.1=true∧(dH r.1).2.1.length=0:=by
 have ht:=((lS _).1 htb).2.2
 obtain ⟨m1,m2⟩:=kQ hs
 have k1:g.1.1.length≤33554432:=ok.1.1.1
 have k2:g.1.2.1.length≤33554432:=ok.1.2.1.1
 have k3:g.2.2.1.length≤33554432:=ok.2.2.1.1
 obtain ⟨a1,a2,fok,fl,ft,fc,fm,fe,fs,fn⟩:=KN g.1 g.2.1 es g.2.2.1 k1 k2 ok.2.1 k3 he
 have ftl:(gL g.1 g.2.1 es g.2.2.1).2.1.length=g.2.1.length:=by have:=congrArg List.length fm;simpa using this
 have ftb:=OU htb fm fe
 clear fm fe
 generalize gL g.1 g.2.1 es g.2.2.1=f at a1 a2 fok fl ft fc ftl ftb fs fn
 have c1:=I7 g.1 f.1 k1 k2 (by omega)
 obtain ⟨c2,c3,c4,c5,c6⟩:=I6 g.1 f.1 k1 k2 (by omega)
 rw [if_pos hs] at c1 c2
 have c7:=(P2 g.1 f.1 k1 k2).2.1 ((cz _).1 hs)
 generalize lE g.1 f.1=q at c1 c2 c3 c4 c5 c6 c7
 obtain ⟨one,t⟩:=q
 simp only at c1 c2 c3 c4 c5 c6 c7
 have c7:=(cz _).2 c7
 have t1:t.1.length≤33554432:=by rw [c5.1];exact k1
 have t2:t.2.1.length≤33554432:=by rw [c5.2];exact k2
 obtain ⟨⟨u,two,rn,un⟩,d1,d2,d3,d4,d5,d6⟩:=P7 t t1 t2
 simp only at d3 d4 d5 d6
 obtain ⟨d6,d7⟩:=d6 c7
 have u1:u.1.length≤33554432:=by rw [d3.1];exact t1
 have u2:u.2.1.length≤33554432:=by rw [d3.2];exact t2
 have s1:=D1 g.1 one k1 (by omega)
 have s2:=D0 g.1 one k1 (by omega)
 have s3:=lY (uW g.1) (AA g.1) one 0
 have s7:=xL g.1 one 0
 generalize bA (uW g.1) 0 one=sn1 at s1 s2 s3 s7
 obtain ⟨r1,r2,r3,r4⟩:=Je u sn1 f.2.2.1 u2 (by omega) (by omega)
 have r5:=r4.length_le
 have r11:=Eh u sn1 f.2.2.1 u2
 generalize kS u sn1 f.2.2.1=ar1 at r1 r2 r3 r4 r5 r11
 have s4:=D1 t two t1 (by omega)
 have s5:=D0 t two t1 (by omega)
 have s6:=lY (uW t) (AA t) two 0
 have s8:=xL t two 0
 generalize bA (uW t) 0 two=sn2 at s4 s5 s6 s8
 obtain ⟨r6,r7,r8,r9⟩:=Je u sn2 ar1.2 u2 (by omega) (by omega)
 have r10:=r9.length_le
 have r12:=Eh u sn2 ar1.2 u2
 generalize kS u sn2 ar1.2=ar2 at r6 r7 r8 r9 r10 r12
 have hck:u.2.2.2.1=g.1.2.2.2.1:=by rw [d5,c6]
 obtain ⟨x1,x2⟩:=Lp f.2.1 g.1.2.2.2.1 fok.2.1 (by omega)
 refine ⟨(u,f.2.1.filter (tU g.1.2.2.2.1),ar2.2,(g.2.2.2.1++ar1.1)++ar2.1,(g.2.2.2.2.1++one)++two,g.2.2.2.2.2.1++f.2.2.2.1,()),?_,?_,⟨⟨⟨u1,fun x _=>f8 _ rfl x⟩,⟨u2,fun x _=>f8 _ rfl x⟩,f8 _ rfl _⟩,OS fok.2.1 (List.length_filter_le _ _) (fun y hy=>(List.mem_filter.1 hy).1),⟨?_,fun x _=>f8 _ rfl x⟩,⟨?_,fun x _=>f8 _ rfl x⟩,⟨?_,fun x _=>f8 _ rfl x⟩,⟨?_,fun x hx=>?_⟩,trivial⟩,?_,?_,?_,⟨?_,⟨ar1.1++ar2.1,List.append_assoc ..,fun t ht=>?_⟩,⟨one++two,List.append_assoc ..⟩,⟨f.2.2.2.1,rfl,fn⟩,Int.le_of_eq hck.symm⟩,d6,CA ftb List.filter_sublist,d7⟩
 ·unfold pI
  simp only [a1,c1,d1,s1,r1,s4,r6,x1,Option.bind_some]
  rw [if_pos (by simp only [aI];omega),if_pos (by simp only [aI,List.length_append];omega),if_pos (by simp only [aI];omega),if_pos (by simp only [aI,List.length_append];omega),if_pos (by simp only [aI];omega)]
 ·unfold uT
  simp only [a2,c2,d2,s2,r2,s5,r7,hck,x2,Option.bind_some]
  rw [GP _ _ _ (by omega),Option.bind_some,M0 _ _ _ (by omega),Option.bind_some,if_pos (by simp only [aI];omega)]
 ·show ar2.2.length≤33554432;omega
 ·show ((g.2.2.2.1++ar1.1)++ar2.1).length≤33554432;simp only [List.length_append];omega
 ·show ((g.2.2.2.2.1++one)++two).length≤33554432;simp only [List.length_append];omega
 ·show (g.2.2.2.2.2.1++f.2.2.2.1).length≤33554432;simp only [List.length_append];omega
 ·rcases List.mem_append.1 hx with hx | hx
  ·exact ok.2.2.2.2.2.1.2 x hx
  ·exact fok.2.2.2.1.2 x hx
 ·show ((g.2.2.2.1++ar1.1)++ar2.1).length≤_;simp only [List.length_append];omega
 ·show ((g.2.2.2.2.1++one)++two).length≤_;simp only [List.length_append];omega
 ·show (g.2.2.2.2.2.1++f.2.2.2.1).length≤_;simp only [List.length_append];omega
 ·exact r9.trans (r4.trans fs)
 ·rcases List.mem_append.1 ht with ht | ht
  ·exact s7 t (r11.mem_iff.1 ht)
  ·exact s8 t (r12.mem_iff.1 ht)
theorem Ad (g:aK.D) (h:okD aK g):kH g=some g:=by
 have l4:g.2.2.2.1.length≤33554432:=h.2.2.2.1.1
 have l5:g.2.2.2.2.1.length≤33554432:=h.2.2.2.2.1.1
 unfold kH bM iF
 simp only [fH g.1 h.1.1.1 h.1.2.1.1,dy _ h.2.1,eR _ h.2.2.1.1,ra _ h.2.2.2.2.2.1,Option.bind_some,List.nil_append]
 rw [if_pos (by simp only [aI,List.length_nil];omega),Option.bind_some,if_pos (by simp only [aI,List.length_nil];omega)]
 rfl
theorem Ae (g:aK.D) (h:okD aK g):mN g=some g:=by
 have l3:g.2.2.1.length≤33554432:=h.2.2.1.1
 have l4:g.2.2.2.1.length≤33554432:=h.2.2.2.1.1
 have l5:g.2.2.2.2.1.length≤33554432:=h.2.2.2.2.1.1
 unfold mN
 simp only [gy g.1 h.1.1.1 h.1.2.1.1,cx _ h.2.1,yi _ h.2.2.2.2.2.1,Option.bind_some,List.nil_append]
 rw [if_pos (by simp only [aI,List.length_nil];omega),if_pos (by simp only [aI,List.length_nil];omega),if_pos (by simp only [aI,List.length_nil];omega)]
noncomputable def ji (g:aK.D):Bool:=(aV g.1 && iN g.2.1) && !g.2.2.2.2.2.1.any (fun e=>!dF e)
theorem po (g:aK.D):ji g=true↔aV g.1=true∧iN g.2.1=true∧∀ t∈g.2.2.2.2.2.1,dF t=true:=by
 unfold ji
 rw [Bool.and_eq_true,Bool.and_eq_true,Bool.not_eq_true',List.any_eq_false,and_assoc]
 simp
theorem Jq (g:aK.D) (h:okD aK g):uz g=some (ji g)∧qm g=some (ji g):=by
 have hl:g.2.2.2.2.2.1.length≤33554432:=h.2.2.2.2.2.1.1
 have hT:∀ x∈g.2.2.2.2.2.1,x.2.2.2.2.2.1.length≤33554432:=fun x hx=>(h.2.2.2.2.2.1.2 x hx).2.2.2.2.2.1.1
 have hW:ay (jF g) 0=some (bif g.2.2.2.2.2.1.any (fun e=>!dF e) then .inr false else .inl (g.2.2.2.2.2.1.length:Int)):=by
  rw [kM g.2.2.2.2.2.1 (body:=jF g) (fun _ e=>!dF e) false (by omega) (fun i y hx=>?_) (by unfold jF;simp),Aw]
  have hlt:=(List.getElem?_eq_some_iff.1 hx).1
  have hil:((i:Int) < (g.2.2.2.2.2.1.length:Int)):=by omega
  unfold jF
  simp only [hil,decide_true,cond_true,aJ hx,IY y (hT y (List.mem_of_getElem? hx)),Option.bind_some]
 have hC:dh g.2.2.2.2.2.1 (fun q=>pL q.1)=some (g.2.2.2.2.2.1.any (fun e=>!dF e)):=by
  unfold dh
  rw [PL g.2.2.2.2.2.1 hl (fun e=>!dF e) _ (fun x hx=>by simp only [pL,IX x (hT x hx),Option.bind_some]),Option.bind_some,Fh]
 unfold uz qm ji iN
 simp only [hW,hC,eh g.1 h.1.1.1 h.1.2.1.1,ej g.1 h.1.1.1 h.1.2.1.1,lC _ h.2.1,lD _ h.2.1,Option.bind_some]
 generalize g.2.2.2.2.2.1.any (fun e=>!dF e)=c1
 generalize aV g.1=c2
 generalize (!qC (cX g.2.1) 0 g.2.1 && decide ((g.2.1.length:Int)≤5))=c3
 cases c1 <;> cases c2 <;> cases c3 <;> exact ⟨rfl,rfl⟩
theorem Rs (s:ae.D) (h:aV s=true):∃ x,(dv s)[1]?=some x:=by
 have hs:=(kQ h).2
 unfold aV at h
 simp only [Bool.and_eq_true] at h
 have h1:=of_decide_eq_true h.1.1.1.1.2.1
 have h2:=of_decide_eq_true h.1.1.1.2.1
 have h3:=of_decide_eq_true h.1.1.1.2.2
 unfold dv
 rw [aA (by omega) (by omega),decide_eq_true h2,decide_eq_true h3,Bool.true_and,if_pos rfl]
 match s.2.1,h1 with
 | x :: y :: r,_=>exact ⟨_,rfl⟩
 | [x],h=>simp at h
 | [],h=>simp at h
theorem TZ {a:Int} {n:Nat} (h0:0≤a) (hn:0 < n):0≤a.tmod n∧a.tmod n < (n:Int):=⟨Int.tmod_nonneg _ h0,Int.tmod_lt_of_pos _ (by omega)⟩
theorem S5 {s:ae.D} (h:aV s=true) {x:Int} (hx:x∈dv s):0≤x∧x≤(s.2.1.length:Int) - 1:=by
 obtain ⟨⟨_,k2,k3⟩,⟨⟨k4,k4'⟩,_⟩,_⟩:=(cz s).1 h
 unfold dv at hx
 split at hx
 ·obtain ⟨j,_,j2,rfl⟩:=Jb _ _ _ hx
  have hk:(s.2.2.1:Int)≤2:=Int.le_trans k4' (by omega)
  have hw:∀ a:Int,0≤a→a≤2→IntKind.wrap .i64 (a + (j:Int))=a + (j:Int):=fun a a0 a1=>aA (by omega) (by omega)
  rw [hw _ k4 hk]
  have:=TZ (a:=(s.2.2.1:Int) + (j:Int)) (n:=s.2.1.length) (Int.add_nonneg k4 (by omega)) (by omega)
  omega
 ·cases hx
theorem T0 {s:ae.D} (h:aV s=true) {x c:Int} (hx:0≤x∧x≤(s.2.1.length:Int) - 1) (hc:(s.2.2.2.1:Int)≤c) (hc2:c≤9999):aV (s.1,s.2.1,x,c,())=true:=by
 obtain ⟨k1,⟨_,k5,_⟩,k6,k7,k8⟩:=(cz s).1 h
 refine (cz _).2 ⟨k1,⟨hx,Int.le_trans k5 hc,hc2⟩,fun i y hy=>?_,k7,k8⟩
 obtain ⟨g1,g2,g3,g4⟩:=k6 i y hy
 exact ⟨g1,g2,g3,Int.le_trans g4 hc⟩
theorem Jr (g:aK.D) (o:bm.D) (ok:okD aK g) (oko:okD bm o) (hq:g.2.2.2.1.length + 600000≤33554432) (hl:g.2.2.2.2.1.length + 600000≤33554432) (hn:g.2.2.2.2.2.1.length + 600000≤33554432) :
  ∃ r,mV g o=some r∧nx g o=some r∧okD aK r.1∧(r.1.2.2.2.1.length≤g.2.2.2.1.length + 600000∧r.1.2.2.2.2.1.length≤g.2.2.2.2.1.length + 600000∧r.1.2.2.2.2.2.1.length≤g.2.2.2.2.2.1.length + 600000)∧Ac g r.1∧(r.2.1=false→r.1=g)∧(r.2.1=true→ji r.1=true∧((o.1:Int)=3→(dH r.1.1).2.1.length=0)):=by
 obtain ⟨g1,g2⟩:=Jq g ok
 have stay:okD aK g∧(g.2.2.2.1.length≤g.2.2.2.1.length + 600000∧g.2.2.2.2.1.length≤g.2.2.2.2.1.length + 600000∧g.2.2.2.2.2.1.length≤g.2.2.2.2.2.1.length + 600000)∧Ac g g∧(false=false→g=g)∧(false=true→ji g=true∧((o.1:Int)=3→(dH g.1).2.1.length=0)) :=
  ⟨ok,⟨Nat.le_add_right _ _,Nat.le_add_right _ _,Nat.le_add_right _ _⟩,Ac.self rfl (Int.le_refl _),fun _=>rfl,fun h=>by cases h⟩
 unfold mV nx
 rw [Ae g ok,Ad g ok,Option.bind_some,Option.bind_some,g1,g2,Option.bind_some,Option.bind_some]
 clear g1 g2
 cases hb:ji g with
 | false=>exact ⟨(g,false,()),rfl,rfl,stay⟩
 | true =>
  obtain ⟨hs,htb,htn⟩:=(po g).1 hb
  have ht:=((lS _).1 htb).2.2
  have he:o.2.1.2.2.2.2.2.2.1.2.2.2.2.2.2.1.length≤33554432:=oko.2.1.2.2.2.2.2.2.1.2.2.2.2.2.2.1.1
  have hv:o.2.2.2.1.length≤33554432:=oko.2.2.2.1.1
  have k2:g.1.2.1.length≤33554432:=ok.1.2.1.1
  have no:∀ (c:Int) (P:Prop),(o.1 == c)=true→c≠3→((o.1:Int)=3→P):=fun c P h hc h3=>absurd ((beq_iff_eq.1 h).symm.trans h3) hc
  generalize hc1:(o.1 == 1)=c1
  generalize hc2:(o.1 == 2)=c2
  generalize hc3:(o.1 == 3)=c3
  generalize hc4:(o.1 == 4)=c4
  cases c1 with
  | true =>
   obtain ⟨r,e1,e2,okr,i1,i2⟩:=P5 g.2.1 o.2.1 ok.2.1 (by omega) he
   rw [e1,e2]
   refine ⟨((g.1,r.1,g.2.2),r.2),rfl,rfl,⟨ok.1,okr,ok.2.2⟩,⟨Nat.le_add_right _ _,Nat.le_add_right _ _,Nat.le_add_right _ _⟩,Ac.self rfl (Int.le_refl _),fun h=>?_,fun h=>⟨(po _).2 ⟨hs,i1 h,htn⟩,no 1 _ hc1 (by decide)⟩⟩
   have h:=i2 h
   show ((g.1,r.1,g.2.2):aK.D)=g
   rw [h]
  | false =>
   cases c2 with
   | true =>
    obtain ⟨r,e1,e2,okr,i1,i2⟩:=TY g.2.1 o.2.2.1 ok.2.1 (by omega)
    rw [e1,e2]
    refine ⟨((g.1,r.1,g.2.2),r.2),rfl,rfl,⟨ok.1,okr,ok.2.2⟩,⟨Nat.le_add_right _ _,Nat.le_add_right _ _,Nat.le_add_right _ _⟩,Ac.self rfl (Int.le_refl _),fun h=>?_,fun h=>⟨(po _).2 ⟨hs,CA htb i1,htn⟩,no 2 _ hc2 (by decide)⟩⟩
    have h:=i2 h
    show ((g.1,r.1,g.2.2):aK.D)=g
    rw [h]
   | false =>
    cases c3 with
    | true =>
     rw [yk _ hv,yj _ hv]
     cases xK o.2.2.2.1 with
     | false=>exact ⟨(g,false,()),rfl,rfl,stay⟩
     | true =>
      obtain ⟨r,e1,e2,okr,z1,z2,z3,gr,s1,s2,s3⟩:=Rr g o.2.2.2.1 ok hs htb hv hq hl hn
      rw [e1,e2]
      refine ⟨(r,true,()),rfl,rfl,okr,⟨z1,z2,z3⟩,gr,fun h=>(by cases h),fun _=>⟨(po r).2 ⟨s1,s2,fun t ht=>?_⟩,fun _=>s3⟩⟩
      obtain ⟨_,_,_,⟨q,hq,hq'⟩,_⟩:=gr
      rw [hq] at ht
      rcases List.mem_append.1 ht with ht | ht
      ·exact htn t ht
      ·exact hq' t ht
    | false =>
     cases c4 with
     | false=>exact ⟨(g,false,()),rfl,rfl,stay⟩
     | true =>
      generalize hc5:(g.1.2.2.2.1 == 9999)=c5
      cases c5 with
      | true=>exact ⟨(g,false,()),rfl,rfl,stay⟩
      | false =>
       obtain ⟨x,hx⟩:=Rs g.1 hs
       obtain ⟨y1,y2⟩:=Lp g.2.1 (IntKind.wrap .i64 (g.1.2.2.2.1 + 1)) ok.2.1 (by omega)
       have hi:∀ {R:Type} (κ:Int→Option R),idx (dv g.1) 1 κ=κ x:=fun κ=>aJ (i:=1) hx
       have hx':(dv g.1)[(1:Int).toNat]?=some x:=hx
       have hck:∀ c:Int,c≠9999→0≤c→c≤9999→IntKind.wrap .i64 (c + 1)=c + 1∧c + 1≤9999:=fun c n0 n1 n2=>⟨aA (by omega) (by omega),by omega⟩
       obtain ⟨_,⟨_,k5,k5'⟩,_⟩:=(cz g.1).1 hs
       obtain ⟨w1,w2⟩:=hck _ (by rw [beq_eq_false_iff_ne] at hc5;exact hc5) k5 k5'
       rw [uY _ k2,uZ _ k2]
       simp only [cond_false,cond_true,Option.bind_some,hi,hx',y1,y2]
       clear y1 y2
       rw [w1]
       refine ⟨((((g.1.1,g.1.2.1,x,g.1.2.2.2.1 + 1,()),g.2.1.filter (tU (g.1.2.2.2.1 + 1)),g.2.2)),true,()),rfl,rfl,
        ⟨⟨ok.1.1,ok.1.2.1,trivial,trivial,trivial⟩,OS ok.2.1 (List.length_filter_le _ _) (fun y hy=>(List.mem_filter.1 hy).1),ok.2.2⟩,⟨Nat.le_add_right _ _,Nat.le_add_right _ _,Nat.le_add_right _ _⟩,Ac.self rfl (Int.le_add_of_nonneg_right (by decide)),fun h=>(by cases h),fun _=>⟨(po _).2 ⟨T0 hs (S5 hs (List.mem_of_getElem? hx)) (Int.le_add_of_nonneg_right (by decide)) w2,CA htb List.filter_sublist,htn⟩,no 4 _ hc4 (by decide)⟩⟩
noncomputable def doV (g:aK.D) (o:bm.D):aK.D×(Bool×Unit):=(nx g o).getD (g,false,())
noncomputable def cp:List bm.D→Int×aK.D→Int×aK.D
 | [],s=>s
 | o :: l,s=>cp l (bif (doV s.2 o).2.1 then s.1 + 1 else s.1,(doV s.2 o).1)
theorem Ek:∀ (a b:List bm.D) (s:Int×aK.D),cp (a++b) s=cp b (cp a s)
 | [],_,_=>rfl
 | _ :: a,b,_=>Ek a b _
theorem Af:∀ (l:List bm.D) (c:Int) (g:aK.D),cp l (c,g)=(c + (cp l (0,g)).1,(cp l (0,g)).2)
 | [],c,g=>by simp [cp]
 | o :: l,c,g=>by
  simp only [cp]
  rw [Af l (bif (doV g o).2.1 then c + 1 else c),Af l (bif (doV g o).2.1 then 0 + 1 else 0)]
  cases (doV g o).2.1
  ·simp
  ·simp only [cond_true]
   rw [show c + 1 + (cp l (0,(doV g o).1)).1=c + (0 + 1 + (cp l (0,(doV g o).1)).1) by omega]
theorem P8 (l:List bm.D) (okl:okD (.slice bm) l) (Q:Nat) (hQ:Q=600000):∀ (m k:Nat) (c:Int) (g:aK.D),m + k=min 12 l.length→okD aK g→0≤c→c≤k→g.2.2.2.1.length + m * Q≤33554432→g.2.2.2.2.1.length + m * Q≤33554432→g.2.2.2.2.2.1.length + m * Q≤33554432 →
  ∃ i':Int,ay (nz l) (c,(k:Int),g)=some ((cp ((l.take 12).drop k) (c,g)).1,i',(cp ((l.take 12).drop k) (c,g)).2)∧ay (ny l) (c,(k:Int),g)=some ((cp ((l.take 12).drop k) (c,g)).1,i',(cp ((l.take 12).drop k) (c,g)).2) ∧
   okD aK (cp ((l.take 12).drop k) (c,g)).2∧Ac g (cp ((l.take 12).drop k) (c,g)).2∧(ji g=true→ji (cp ((l.take 12).drop k) (c,g)).2=true)∧(c≤(cp ((l.take 12).drop k) (c,g)).1∧(cp ((l.take 12).drop k) (c,g)).1≤c + m) ∧
   ((cp ((l.take 12).drop k) (c,g)).2.2.2.2.1.length≤g.2.2.2.1.length + m * Q∧(cp ((l.take 12).drop k) (c,g)).2.2.2.2.2.1.length≤g.2.2.2.2.1.length + m * Q∧(cp ((l.take 12).drop k) (c,g)).2.2.2.2.2.2.1.length≤g.2.2.2.2.2.1.length + m * Q):=by
 have hl:l.length≤33554432:=okl.1
 have hM:(if 12 < (l.length:Int) then 12 else (l.length:Int)).toNat=min 12 l.length:=by split <;> omega
 have hT:((l.take (if 12 < (l.length:Int) then 12 else (l.length:Int)).toNat).drop (0:Int).toNat)=l.take 12:=by
  rw [hM]
  show l.take (min 12 l.length)=l.take 12
  by_cases h:l.length≤12
  ·rw [List.take_of_length_le (by omega),List.take_of_length_le (by omega)]
  ·rw [show min 12 l.length=12 by omega]
 have hL:(l.take 12).length=min 12 l.length:=List.length_take ..
 intro m
 induction m with
 | zero =>
  intro k c g hk ok _ _ _ _ _
  rw [Nat.zero_add] at hk
  have e:(l.take 12).drop k=[]:=List.drop_eq_nil_of_le (by omega)
  rw [e]
  refine ⟨k,be ?_,be ?_,ok,Ac.self rfl (Int.le_refl _),id,⟨Int.le_refl _,by show c≤c + ((0:Nat):Int);omega⟩,Nat.le_add_right _ _,Nat.le_add_right _ _,Nat.le_add_right _ _⟩
  ·unfold nz
   simp only
   by_cases h:(k:Int) < (l.length:Int)
   ·rw [decide_eq_true h,decide_eq_false (by omega)];rfl
   ·rw [decide_eq_false h];rfl
  ·unfold ny
   simp only [hT]
   rw [decide_eq_false (by omega)];rfl
 | succ m ih =>
  intro k c g hk ok c0 c1 q1 q2 q3
  rw [Nat.succ_mul] at q1 q2 q3
  have hlt:k < l.length:=by omega
  have hx:l[k]?=some l[k]:=List.getElem?_eq_getElem hlt
  have hx2:(l.take 12)[k]?=some l[k]:=by rw [List.getElem?_take,if_pos (by omega)];exact hx
  obtain ⟨r,e1,e2,okr,⟨z1,z2,z3⟩,gr,f0,f1⟩:=Jr g l[k] ok (okl.2 _ (List.getElem_mem hlt)) (by omega) (by omega) (by omega)
  have b1:r.1.2.2.2.1.length + m * Q≤33554432:=by omega
  have b2:r.1.2.2.2.2.1.length + m * Q≤33554432:=by omega
  have b3:r.1.2.2.2.2.2.1.length + m * Q≤33554432:=by omega
  have hv:doV g l[k]=r:=by unfold doV;rw [e2];rfl
  have hd:(l.take 12).drop k=l[k] :: (l.take 12).drop (k + 1):=by
   rw [List.drop_eq_getElem_cons (by omega),List.getElem_take]
  obtain ⟨i',s1,s2,s3,s4,s5,s6,s7,s8,s9⟩:=ih (k + 1) (bif r.2.1 then c + 1 else c) r.1 (by omega) okr (by cases r.2.1 <;> simp <;> omega) (by cases r.2.1 <;> simp <;> omega) b1 b2 b3
  rw [hd]
  simp only [cp,hv]
  have hc:c≤(bif r.2.1 then c + 1 else c)∧(bif r.2.1 then c + 1 else c)≤c + 1:=by cases r.2.1 <;> simp <;> omega
  rw [Nat.succ_mul]
  refine ⟨i',aW ?_ s1,aW ?_ s2,s3,gr.trans s4,fun h=>s5 ?_,⟨by omega,by omega⟩,by omega,by omega,by omega⟩
  ·unfold nz
   simp only
   rw [decide_eq_true (show (k:Int) < (l.length:Int) by omega),decide_eq_true (show (k:Int) < 12 by omega)]
   simp only [cond_true,Option.bind_some,aJ hx,e1]
   rw [aA (n:=(k:Int) + 1) (by omega) (by omega),aA (n:=c + 1) (by omega) (by omega)]
   cases r.2.1 <;> rfl
  ·unfold ny
   simp only [hT]
   rw [decide_eq_true (show (k:Int) < ((l.take 12).length:Int) by omega)]
   simp only [cond_true,aJ hx2,e2,Option.bind_some]
   rw [aA (n:=(k:Int) + 1) (by omega) (by omega),aA (n:=c + 1) (by omega) (by omega)]
   cases r.2.1 <;> rfl
  ·cases hb:r.2.1 with
   | true=>exact (f1 hb).1
   | false=>rw [f0 hb];exact h
theorem El (g:aK.D) (l:List bm.D) (ok:okD aK g) (okl:okD (.slice bm) l) (m:Nat) (hm:l.length≤m) (q1:g.2.2.2.1.length + 600000 * m≤33554432) (q2:g.2.2.2.2.1.length + 600000 * m≤33554432) (q3:g.2.2.2.2.2.1.length + 600000 * m≤33554432) :
  wm g l=some ((cp (l.take 12) (0,g)).2,(cp (l.take 12) (0,g)).1,())∧pa g l=some ((cp (l.take 12) (0,g)).2,(cp (l.take 12) (0,g)).1,()) ∧
   okD aK (cp (l.take 12) (0,g)).2∧Ac g (cp (l.take 12) (0,g)).2∧(ji g=true→ji (cp (l.take 12) (0,g)).2=true)∧(0≤(cp (l.take 12) (0,g)).1∧(cp (l.take 12) (0,g)).1≤(l.length:Int)) ∧
   ((cp (l.take 12) (0,g)).2.2.2.2.1.length≤g.2.2.2.1.length + 600000 * m∧(cp (l.take 12) (0,g)).2.2.2.2.2.1.length≤g.2.2.2.2.1.length + 600000 * m∧(cp (l.take 12) (0,g)).2.2.2.2.2.2.1.length≤g.2.2.2.2.2.1.length + 600000 * m):=by
 have hl:l.length≤33554432:=okl.1
 obtain ⟨i,s1,s2,s3,s4,s5,s6,s7,s8,s9⟩:=P8 l okl 600000 rfl (min 12 l.length) 0 0 g (by omega) ok (by omega) (by omega) (by omega) (by omega) (by omega)
 rw [List.drop_zero] at s1 s2 s3 s4 s5 s6 s7 s8 s9
 refine ⟨?_,?_,s3,s4,s5,⟨s6.1,by omega⟩,by omega,by omega,by omega⟩
 ·unfold wm
  rw [Ae g ok,Option.bind_some]
  have s1:ay (nz l) (0,0,g)=some ((cp (l.take 12) (0,g)).1,i,(cp (l.take 12) (0,g)).2):=s1
  rw [s1];rfl
 ·unfold pa
  have s2:ay (ny l) (0,0,g)=some ((cp (l.take 12) (0,g)).1,i,(cp (l.take 12) (0,g)).2):=s2
  rw [Ad g ok,Option.bind_some,if_pos (by omega),if_pos (by split <;> omega),if_pos (by split <;> omega),s2];rfl
theorem F2 (a b:List ah.D) (h:a.length≤33554432):fh a b=some (eqD (.slice ah) a b) :=
 vP (t:=ah) rfl a b (e:=eqD ah) (fun _ _=>rfl) (by omega) (fun i=>rfl)
theorem CB (a b:aa.D) (h:okD aa a):gc a b=some (eqD aa a b):=by
 have hl:a.2.2.2.2.2.2.1.2.2.2.2.2.2.1.length≤33554432:=h.2.2.2.2.2.2.1.2.2.2.2.2.2.1.1
 have hE:eqD aa a b=((a.1 == b.1) && ((a.2.1 == b.2.1) && ((a.2.2.1 == b.2.2.1) && ((a.2.2.2.1 == b.2.2.2.1) && (((a.2.2.2.2.1.1 == b.2.2.2.2.1.1) && ((a.2.2.2.2.1.2.1 == b.2.2.2.2.1.2.1) && ((a.2.2.2.2.1.2.2.1 == b.2.2.2.2.1.2.2.1) && ((a.2.2.2.2.1.2.2.2.1 == b.2.2.2.2.1.2.2.2.1) && ((a.2.2.2.2.1.2.2.2.2.1 == b.2.2.2.2.1.2.2.2.2.1) && ((a.2.2.2.2.1.2.2.2.2.2.1 == b.2.2.2.2.1.2.2.2.2.2.1) && ((a.2.2.2.2.1.2.2.2.2.2.2.1 == b.2.2.2.2.1.2.2.2.2.2.2.1) && (true)))))))) && (((a.2.2.2.2.2.1.1 == b.2.2.2.2.2.1.1) && ((a.2.2.2.2.2.1.2.1 == b.2.2.2.2.2.1.2.1) && (true))) && (((a.2.2.2.2.2.2.1.1 == b.2.2.2.2.2.2.1.1) && ((a.2.2.2.2.2.2.1.2.1 == b.2.2.2.2.2.2.1.2.1) && ((a.2.2.2.2.2.2.1.2.2.1 == b.2.2.2.2.2.2.1.2.2.1) && ((a.2.2.2.2.2.2.1.2.2.2.1 == b.2.2.2.2.2.2.1.2.2.2.1) && ((a.2.2.2.2.2.2.1.2.2.2.2.1 == b.2.2.2.2.2.2.1.2.2.2.2.1) && ((a.2.2.2.2.2.2.1.2.2.2.2.2.1 == b.2.2.2.2.2.2.1.2.2.2.2.2.1) && (eqD (.slice ah) a.2.2.2.2.2.2.1.2.2.2.2.2.2.1 b.2.2.2.2.2.2.1.2.2.2.2.2.2.1 && (true)))))))) && ((a.2.2.2.2.2.2.2.1 == b.2.2.2.2.2.2.2.1) && ((a.2.2.2.2.2.2.2.2.1 == b.2.2.2.2.2.2.2.2.1) && (true)))))))))):=rfl
 unfold gc
 rw [hE]
 unfold xB
 simp only [F2 _ _ hl,Option.bind_some]
 cases (a.1 == b.1)
 ·first | rfl | simp
 cases (a.2.1 == b.2.1)
 ·first | rfl | simp
 cases (a.2.2.1 == b.2.2.1)
 ·first | rfl | simp
 cases (a.2.2.2.1 == b.2.2.2.1)
 ·first | rfl | simp
 cases (a.2.2.2.2.1.1 == b.2.2.2.2.1.1)
 ·first | rfl | simp
 cases (a.2.2.2.2.1.2.1 == b.2.2.2.2.1.2.1)
 ·first | rfl | simp
 cases (a.2.2.2.2.1.2.2.1 == b.2.2.2.2.1.2.2.1)
 ·first | rfl | simp
 cases (a.2.2.2.2.1.2.2.2.1 == b.2.2.2.2.1.2.2.2.1)
 ·first | rfl | simp
 cases (a.2.2.2.2.1.2.2.2.2.1 == b.2.2.2.2.1.2.2.2.2.1)
 ·first | rfl | simp
 cases (a.2.2.2.2.1.2.2.2.2.2.1 == b.2.2.2.2.1.2.2.2.2.2.1)
 ·first | rfl | simp
 cases (a.2.2.2.2.1.2.2.2.2.2.2.1 == b.2.2.2.2.1.2.2.2.2.2.2.1)
 ·first | rfl | simp
 cases (a.2.2.2.2.2.1.1 == b.2.2.2.2.2.1.1)
 ·first | rfl | simp
 cases (a.2.2.2.2.2.1.2.1 == b.2.2.2.2.2.1.2.1)
 ·first | rfl | simp
 cases (a.2.2.2.2.2.2.1.1 == b.2.2.2.2.2.2.1.1)
 ·first | rfl | simp
 cases (a.2.2.2.2.2.2.1.2.1 == b.2.2.2.2.2.2.1.2.1)
 ·first | rfl | simp
 cases (a.2.2.2.2.2.2.1.2.2.1 == b.2.2.2.2.2.2.1.2.2.1)
 ·first | rfl | simp
 cases (a.2.2.2.2.2.2.1.2.2.2.1 == b.2.2.2.2.2.2.1.2.2.2.1)
 ·first | rfl | simp
 cases (a.2.2.2.2.2.2.1.2.2.2.2.1 == b.2.2.2.2.2.2.1.2.2.2.2.1)
 ·first | rfl | simp
 cases (a.2.2.2.2.2.2.1.2.2.2.2.2.1 == b.2.2.2.2.2.2.1.2.2.2.2.2.1)
 ·first | rfl | simp
 cases eqD (.slice ah) a.2.2.2.2.2.2.1.2.2.2.2.2.2.1 b.2.2.2.2.2.2.1.2.2.2.2.2.2.1
 ·first | rfl | simp
 cases (a.2.2.2.2.2.2.2.1 == b.2.2.2.2.2.2.2.1)
 ·first | rfl | simp
 cases (a.2.2.2.2.2.2.2.2.1 == b.2.2.2.2.2.2.2.2.1)
 ·first | rfl | simp
 rfl
theorem Fo (a b:aF.D) (h:okD aF a):iZ a b=some (eqD aF a b):=by
 have hl:a.2.2.2.2.2.1.length≤33554432:=h.2.2.2.2.2.1.1
 have hE:eqD aF a b=((a.1 == b.1) && ((a.2.1 == b.2.1) && ((a.2.2.1 == b.2.2.1) && ((a.2.2.2.1 == b.2.2.2.1) && (((a.2.2.2.2.1.1 == b.2.2.2.2.1.1) && ((a.2.2.2.2.1.2.1 == b.2.2.2.2.1.2.1) && ((a.2.2.2.2.1.2.2.1 == b.2.2.2.2.1.2.2.1) && ((a.2.2.2.2.1.2.2.2.1 == b.2.2.2.2.1.2.2.2.1) && ((a.2.2.2.2.1.2.2.2.2.1 == b.2.2.2.2.1.2.2.2.2.1) && ((a.2.2.2.2.1.2.2.2.2.2.1 == b.2.2.2.2.1.2.2.2.2.2.1) && ((a.2.2.2.2.1.2.2.2.2.2.2.1 == b.2.2.2.2.1.2.2.2.2.2.2.1) && (true)))))))) && (eqD (.slice ah) a.2.2.2.2.2.1 b.2.2.2.2.2.1 && ((a.2.2.2.2.2.2.1 == b.2.2.2.2.2.2.1) && ((a.2.2.2.2.2.2.2.1 == b.2.2.2.2.2.2.2.1) && (true))))))))):=rfl
 unfold iZ
 rw [hE]
 simp only [F2 _ _ hl,Option.bind_some]
 cases (a.1 == b.1)
 ·first | rfl | simp
 cases (a.2.1 == b.2.1)
 ·first | rfl | simp
 cases (a.2.2.1 == b.2.2.1)
 ·first | rfl | simp
 cases (a.2.2.2.1 == b.2.2.2.1)
 ·first | rfl | simp
 cases (a.2.2.2.2.1.1 == b.2.2.2.2.1.1)
 ·first | rfl | simp
 cases (a.2.2.2.2.1.2.1 == b.2.2.2.2.1.2.1)
 ·first | rfl | simp
 cases (a.2.2.2.2.1.2.2.1 == b.2.2.2.2.1.2.2.1)
 ·first | rfl | simp
 cases (a.2.2.2.2.1.2.2.2.1 == b.2.2.2.2.1.2.2.2.1)
 ·first | rfl | simp
 cases (a.2.2.2.2.1.2.2.2.2.1 == b.2.2.2.2.1.2.2.2.2.1)
 ·first | rfl | simp
 cases (a.2.2.2.2.1.2.2.2.2.2.1 == b.2.2.2.2.1.2.2.2.2.2.1)
 ·first | rfl | simp
 cases (a.2.2.2.2.1.2.2.2.2.2.2.1 == b.2.2.2.2.1.2.2.2.2.2.2.1)
 ·first | rfl | simp
 cases eqD (.slice ah) a.2.2.2.2.2.1 b.2.2.2.2.2.1
 ·first | rfl | simp
 cases (a.2.2.2.2.2.2.1 == b.2.2.2.2.2.2.1)
 ·first | rfl | simp
 cases (a.2.2.2.2.2.2.2.1 == b.2.2.2.2.2.2.2.1)
 ·first | rfl | simp
 rfl
theorem Em (a b:List aa.D) (h:okD (.slice aa) a):nB a b=some (eqD (.slice aa) a b):=by
 have hl:a.length≤33554432:=h.1
 unfold nB
 rw [show fw a b (fun q=>gc q.1 q.2.1)=some (eqD (.slice aa) a b) from
  Lf (t:=aa) rfl a b (e:=gc) (fun x hx y=>CB x y (h.2 x hx)) (by omega) (fun _=>rfl)]
 rfl
theorem Eo (a b:List aF.D) (h:okD (.slice aF) a):fT a b (fun q=>iZ q.1 q.2.1)=some (eqD (.slice aF) a b):=by
 have hl:a.length≤33554432:=h.1
 exact Lf (t:=aF) rfl a b (e:=iZ) (fun x hx y=>Fo x y (h.2 x hx)) (by omega) (fun _=>rfl)
theorem Rt (a b:List Int) (h:a.length≤33554432):pf a b=some (eqD (.slice (.int .i64)) a b) :=
 vP (t:=.int .i64) rfl a b (e:=fun (x y:Int)=>x == y) (fun _ _=>rfl) (by omega) (fun i=>rfl)
theorem Ag (a b:List ai.D) (h:a.length≤33554432):jg a b=some (eqD (.slice ai) a b):=by
 unfold jg
 rw [show ga a b=some (eqD (.slice ai) a b) from vP (t:=ai) rfl a b (e:=eqD ai) (fun _ _=>rfl) (by omega) (fun i=>rfl)]
 rfl
theorem Ep (a b:List au.D) (h:a.length≤33554432):nC a b=some (eqD (.slice au) a b):=by
 unfold nC
 rw [show iK a b=some (eqD (.slice au) a b) from vP (t:=au) rfl a b (e:=eqD au) (fun _ _=>rfl) (by omega) (fun i=>rfl)]
 rfl
theorem QF (b c:Bool):(bif b then some c else some false)=some (b && c):=by cases b <;> rfl
theorem Eq (a b:ae.D) (hp:a.1.length≤33554432) (hs:a.2.1.length≤33554432):nA a b=some (eqD ae a b):=by
 have hE:eqD ae a b=(eqD (.slice aj) a.1 b.1 && (eqD (.slice aB) a.2.1 b.2.1 && ((a.2.2.1 == b.2.2.1) && ((a.2.2.2.1 == b.2.2.2.1) && true)))):=rfl
 unfold nA
 rw [hE,show ie a.1 b.1=some (eqD (.slice aj) a.1 b.1) from vP (t:=aj) rfl a.1 b.1 (e:=eqD aj) (fun _ _=>rfl) (by omega) (fun i=>rfl),
  show iJ a.2.1 b.2.1=some (eqD (.slice aB) a.2.1 b.2.1) from vP (t:=aB) rfl a.2.1 b.2.1 (e:=eqD aB) (fun _ _=>rfl) (by omega) (fun i=>rfl)]
 simp only [Option.bind_some,QF]
 cases eqD (.slice aj) a.1 b.1 <;> cases eqD (.slice aB) a.2.1 b.2.1 <;> cases (a.2.2.1 == b.2.2.1) <;> cases (a.2.2.2.1 == b.2.2.2.1) <;> rfl
theorem pp (a b:aK.D) (h:okD aK a):i4 a b=some (eqD aK a b):=by
 have hE:eqD aK a b=(eqD ae a.1 b.1 && (eqD (.slice aa) a.2.1 b.2.1 && (eqD (.slice (.int .i64)) a.2.2.1 b.2.2.1 && (eqD (.slice ai) a.2.2.2.1 b.2.2.2.1 && (eqD (.slice au) a.2.2.2.2.1 b.2.2.2.2.1 && (eqD (.slice aF) a.2.2.2.2.2.1 b.2.2.2.2.2.1 && true)))))):=rfl
 unfold i4
 rw [hE]
 simp only [Eq _ _ h.1.1.1 h.1.2.1.1,Em _ _ h.2.1,Rt _ _ h.2.2.1.1,Ag _ _ h.2.2.2.1.1,Ep _ _ h.2.2.2.2.1.1,Eo _ _ h.2.2.2.2.2.1,Option.bind_some,QF,Bool.and_true]
def aO (c:al.D):Prop:=0≤c.2.1∧c.1.length≤33554432
theorem P9 (b:List Int) (i g:Int) (u:Unit) (h0:0≤i) (h1:b.length≤33554432):Tot (il (b,i,g,u)) (fun y=>aO y.2.1∧0≤y.1∧y.1≤255):=by
 unfold il
 simp only
 rw [if_pos (by decide),if_pos (by decide)]
 refine Tot.bif (fun hl=>?_) (fun _=>?_)
 ·have hl:i < (b.length:Int):=of_decide_eq_true hl
  refine Tot.idx h0 hl fun n x e hx=>?_
  obtain ⟨m,e1,e2⟩:=Lg (IntKind.wrap .i64 (IntKind.wrap .i64 (BitVec.ofInt (IntKind.bits .i64) (IntKind.wrap .i64 (BitVec.ofInt (IntKind.bits .i64) ((IntKind.wrap .i64 ((IntKind.wrap .i64 (g * 6364136223846793005)) + 1442695040888963407)).fdiv (2 ^ min (33:Int).toNat (IntKind.bits .i64))) ^^^ BitVec.ofInt (IntKind.bits .i64) ((IntKind.wrap .i64 ((IntKind.wrap .i64 (g * 6364136223846793005)) + 1442695040888963407)).fdiv (2 ^ min (47:Int).toNat (IntKind.bits .i64)))).toNat) &&& BitVec.ofInt (IntKind.bits .i64) 255).toNat + IntKind.wrap .i64 x))
  refine Tot.pure ⟨⟨?_,h1⟩,?_,?_⟩
  ·show (0:Int)≤IntKind.wrap .i64 (i + 1)
   rw [aA (by omega) (by omega)];omega
  ·simp only;rw [e1];omega
  ·simp only;rw [e1];omega
 ·obtain ⟨m,e1,e2⟩:=Lg (IntKind.wrap .i64 (BitVec.ofInt (IntKind.bits .i64) ((IntKind.wrap .i64 ((IntKind.wrap .i64 (g * 6364136223846793005)) + 1442695040888963407)).fdiv (2 ^ min (33:Int).toNat (IntKind.bits .i64))) ^^^ BitVec.ofInt (IntKind.bits .i64) ((IntKind.wrap .i64 ((IntKind.wrap .i64 (g * 6364136223846793005)) + 1442695040888963407)).fdiv (2 ^ min (47:Int).toNat (IntKind.bits .i64)))).toNat)
  refine Tot.pure ⟨⟨h0,h1⟩,?_,?_⟩
  ·simp only;rw [e1];omega
  ·simp only;rw [e1];omega
theorem AD (c:al.D) (h:aO c):Tot (il c) (fun y=>aO y.2.1∧0≤y.1∧y.1≤255):=P9 c.1 c.2.1 c.2.2.1 c.2.2.2 h.1 h.2
theorem aD (c:al.D) (n:Int) (h:aO c):Tot (aN c n) (fun y=>aO y.2.1∧0≤y.1∧(0 < n→y.1 < n)):=by
 unfold aN
 refine Tot.bif (fun hn=>?_) (fun hn=>?_)
 ·have hn:n≤0:=of_decide_eq_true hn
  exact Tot.pure ⟨h,Int.le_refl _,fun h=>by omega⟩
 ·have hn:¬ n≤0:=of_decide_eq_false hn
  refine Tot.bif (fun _=>?_) (fun _=>?_)
  ·refine Tot.bind (AD c h) ?_
   rintro y ⟨hc,h0,h1⟩
   rw [if_neg (by omega)]
   exact Tot.pure ⟨hc,Int.tmod_nonneg _ h0,fun hp=>Int.tmod_lt_of_pos _ hp⟩
  ·refine Tot.bind (AD c h) ?_
   rintro y2 ⟨hc2,h20,h21⟩
   refine Tot.bind (AD _ hc2) ?_
   rintro y3 ⟨hc3,h30,h31⟩
   refine Tot.bind (AD _ hc3) ?_
   rintro y4 ⟨hc4,h40,h41⟩
   show Tot (if n=0 then none else some ((IntKind.wrap .i64 (IntKind.wrap .i64 (IntKind.wrap .i64 (y2.1 * 65536) + IntKind.wrap .i64 (y3.1 * 256)) + y4.1)).tmod n,y4.2)) _
   rw [aA (n:=y2.1 * 65536) (by omega) (by omega),aA (n:=y3.1 * 256) (by omega) (by omega),aA (n:=y2.1 * 65536 + y3.1 * 256) (by omega) (by omega),aA (n:=y2.1 * 65536 + y3.1 * 256 + y4.1) (by omega) (by omega),if_neg (by omega)]
   exact Tot.pure ⟨hc4,Int.tmod_nonneg _ (by omega),fun hp=>Int.tmod_lt_of_pos _ hp⟩
theorem aT (c:al.D) (l:List Int) (h:aO c) (hl:0 < l.length):Tot (aG c l) (fun y=>aO y.2.1∧y.1∈l):=by
 unfold aG
 refine Tot.bind (aD c _ h) ?_
 rintro y ⟨hc,h0,h1⟩
 refine Tot.idx h0 (h1 (by omega)) fun n x e hx=>?_
 exact Tot.pure ⟨hc,List.mem_of_getElem? hx⟩
theorem bh (c:al.D) (n:Int) (h:aO c):Tot (bF c n) (fun y=>aO y.2.1∧True):=by
 unfold bF
 refine Tot.bind (aD c _ h) ?_
 rintro y ⟨hc,h0,h1⟩
 exact Tot.pure ⟨hc,trivial⟩
theorem S6 (c:al.D) (h:aO c):Tot (xq c) (fun y=>aO y.2.1∧True):=by
 unfold xq
 refine Tot.bind (aT c _ h (by decide)) ?_
 rintro y ⟨hc,_⟩
 exact Tot.pure ⟨hc,trivial⟩
theorem nK (c:al.D) (h:aO c):Tot (eI c) (fun y=>aO y.2.1∧True):=by
 unfold eI
 refine Tot.bind (bh c _ h) ?_
 rintro y ⟨hc,_⟩
 refine Tot.bif (fun _=>?_) (fun _=>?_)
 ·refine Tot.bind (S6 _ hc) ?_
  rintro y ⟨hc,_⟩
  exact Tot.pure ⟨hc,trivial⟩
 ·refine Tot.bind (aT _ _ hc (by decide)) ?_
  rintro y ⟨hc,_⟩
  exact Tot.pure ⟨hc,trivial⟩
theorem Fp (c:al.D) (id:Int) (h:aO c):Tot (io c id) (fun y=>aO y.2.1∧True):=by
 unfold io
 refine Tot.bind (aD c _ h) ?_
 rintro y1 ⟨_,_⟩
 refine Tot.bind (aT _ _ (by assumption) (by decide)) ?_
 rintro y2 ⟨_,_⟩
 refine Tot.bind (aD _ _ (by assumption)) ?_
 rintro y3 ⟨_,_⟩
 refine Tot.bind (aD _ _ (by assumption)) ?_
 rintro y4 ⟨_,_⟩
 refine Tot.bind (aD _ _ (by assumption)) ?_
 rintro y5 ⟨h5,_⟩
 refine Tot.bind (P:=fun o=>aO o.2.1) (Tot.while (fun s=>aO s.2.1∧0≤s.1∧s.1≤6) (fun s=>6 - s.1.toNat) ?_ ⟨h5,by simp only;omega,by simp only;omega⟩) ?_
 ·rintro ⟨i,cc,t⟩ ⟨g1,g2,g3⟩
  simp only at g1 g2 g3
  unfold sG
  simp only
  refine Tot.bif (fun hl=>?_) (fun _=>?_)
  ·have hl:i < (6:Int):=of_decide_eq_true hl
   refine Tot.idx g2 (by simpa using hl) fun n x e hx=>?_
   subst e
   rw [Int.toNat_natCast,hx,Option.bind_some]
   refine Tot.bind (bh _ _ g1) ?_
   rintro y ⟨hc,_⟩
   refine Tot.bif (fun _=>?_) (fun _=>?_) <;> refine Tot.pure ⟨⟨hc,?_,?_⟩,?_⟩ <;> simp only <;> rw [aA (by omega) (by omega)] <;> omega
  ·exact Tot.pure g1
 ·rintro o ho
  refine Tot.bif (fun _=>Tot.pure ⟨ho,trivial⟩) (fun _=>?_)
  refine Tot.bind (bh _ _ ho) ?_
  rintro y12 ⟨h12,_⟩
  refine Tot.bind (P:=fun _=>True) (Tot.bif (fun _=>Tot.pure trivial) (fun _=>Tot.pure trivial)) ?_
  rintro o13 _
  refine Tot.bind (aT _ _ h12 (by decide)) ?_
  rintro y14 ⟨h14,_⟩
  refine Tot.bind (aT _ _ h14 (by decide)) ?_
  rintro y15 ⟨h15,_⟩
  refine Tot.bind (aT _ _ h15 (by decide)) ?_
  rintro y16 ⟨h16,_⟩
  refine Tot.bind (bh _ _ h16) ?_
  rintro y17 ⟨h17,_⟩
  exact Tot.pure ⟨h17,trivial⟩
theorem OV (c:al.D) (h:aO c):Tot (tC c) (fun y=>aO y.2.1∧True):=by
 unfold tC
 refine Tot.bind (aD c _ h) ?_
 rintro y1 ⟨h1,_⟩
 refine Tot.bind (Fp _ _ h1) ?_
 rintro y2 ⟨h2,_⟩
 refine Tot.bind (aD _ _ h2) ?_
 rintro y3 ⟨h3,_⟩
 repeat' first
  | refine Tot.bif (fun _=>?_) (fun _=>?_)
  | (refine Tot.bind (aT _ _ h3 (by decide)) ?_;rintro y ⟨hy,_⟩;exact Tot.pure ⟨hy,trivial⟩)
  | (refine Tot.bind (nK _ h3) ?_;rintro y ⟨hy,_⟩;exact Tot.pure ⟨hy,trivial⟩)
  | exact Tot.pure ⟨h3,trivial⟩
theorem Lq (c:al.D) (h:aO c):Tot (ip c) (fun y=>aO y.2.1∧1≤y.1.1.length∧y.1.1.length≤6∧y.1.2.1.length=2):=by
 unfold ip
 refine Tot.bind (P:=fun s=>s.1.length=0∧s.2.1.length=2) ⟨_,rfl,rfl,rfl⟩ ?_
 rintro y1 ⟨p1,p2⟩
 refine Tot.bind (aD c _ h) ?_
 rintro y2 ⟨h2,_⟩
 refine Tot.bind (aD _ _ h2) ?_
 rintro y3 ⟨h3,_⟩
 refine Tot.bind (P:=fun o=>aO o.2.1∧o.2.2.1.length=0∧o.2.2.2.1.length=2) (Tot.while (fun s=>aO s.2.1∧s.2.2.1.length=0∧s.2.2.2.1.length=2∧0≤s.1∧s.1≤2) (fun s=>2 - s.1.toNat) ?_ ⟨h3,p1,p2,by simp only;omega,by simp only;omega⟩) ?_
 ·rintro ⟨i,cc,ps,ss,t⟩ ⟨g1,g2,g3,g4,g5⟩
  simp only at g1 g2 g3 g4 g5
  unfold sH
  simp only
  refine Tot.bif (fun hl=>?_) (fun _=>Tot.pure ⟨g1,g2,g3⟩)
  have hl:i < (2:Int):=of_decide_eq_true hl
  refine Tot.bind (aT _ _ g1 (by decide)) ?_
  rintro y7 ⟨h7,_⟩
  refine Tot.idx g4 (by omega) fun n x e hx=>?_
  subst e
  rw [Int.toNat_natCast,hx,Option.bind_some]
  refine Tot.bind (aT _ _ h7 (by decide)) ?_
  rintro y10 ⟨h10,_⟩
  have hn:n < ss.length:=by omega
  rw [wL hn,rt hn,Option.bind_some]
  refine Tot.pure ⟨⟨h10,g2,by simp only [List.length_set];exact g3,?_,?_⟩,?_⟩ <;> simp only <;> rw [aA (by omega) (by omega)] <;> omega
 ·rintro o ⟨g1,g2,g3⟩
  refine Tot.bind (aD _ _ g1) ?_
  rintro y14 ⟨h14,h14a,h14b⟩
  have hlt:=h14b (by decide)
  rw [aA (n:=1 + y14.1) (by omega) (by omega)]
  refine Tot.bind (P:=fun o=>aO o.2.2.1∧1≤o.2.2.2.1.length∧o.2.2.2.1.length≤6∧o.2.2.2.2.1.length=2) (Tot.while (fun s=>aO s.2.2.1∧0≤s.2.1∧(s.2.2.2.1.length:Int) + s.2.1=1 + y14.1∧s.2.2.2.2.1.length=2) (fun s=>s.2.1.toNat) ?_ ⟨h14,by simp only;omega,by simp only;omega,g3⟩) ?_
  ·rintro ⟨id,i,cc,ps,ss,t⟩ ⟨k1,k2,k3,k4⟩
   simp only at k1 k2 k3 k4
   unfold sI
   simp only
   refine Tot.bif (fun hl=>?_) (fun hl=>Tot.pure ⟨k1,?_,?_,k4⟩)
   ·have hl:i > 0:=of_decide_eq_true hl
    refine Tot.bind (aD _ _ k1) ?_
    rintro y18 ⟨h18,_⟩
    refine Tot.bind (Fp _ _ h18) ?_
    rintro y19 ⟨h19,_⟩
    rw [if_pos (by simp only [aI,List.length_cons,List.length_nil];omega)]
    refine Tot.pure ⟨⟨h19,?_,?_,k4⟩,?_⟩ <;> simp only [List.length_append,List.length_cons,List.length_nil] <;> rw [aA (n:=i - 1) (by omega) (by omega)] <;> omega
   ·have hl:¬ i > 0:=of_decide_eq_false hl
    simp only;omega
   ·have hl:¬ i > 0:=of_decide_eq_false hl
    simp only;omega
  ·rintro o ⟨k1,k2⟩
   exact Tot.pure ⟨k1,k2⟩
theorem OW (c:al.D) (h:aO c):Tot (pb c) (fun y=>aO y.2.1∧y.1.1.length≤20∧y.1.2.1.length≤3):=by
 unfold pb
 refine Tot.bind (Lq c h) ?_
 rintro ⟨⟨ps,ss,t⟩,c1⟩ ⟨h1,g1,g2,g3⟩
 simp only at h1 g1 g2 g3
 refine Tot.bind (aD _ _ h1) ?_
 rintro y2 ⟨h2,_⟩
 refine Tot.bif (fun _=>?_) (fun _=>?_)
 ·refine Tot.bind (aT _ _ h2 (by decide)) ?_
  rintro y ⟨hy,_⟩
  exact Tot.pure ⟨hy,by simp only;omega,by simp only;omega⟩
 refine Tot.bif (fun _=>?_) (fun _=>?_)
 ·refine Tot.bind (aT _ _ h2 (by decide)) ?_
  rintro y ⟨hy,_⟩
  exact Tot.pure ⟨hy,by simp only;omega,by simp only;omega⟩
 refine Tot.bif (fun _=>?_) (fun _=>?_)
 ·refine Tot.bind (nK _ h2) ?_
  rintro y ⟨hy,_⟩
  rw [if_pos (by simp only [aI,List.length_cons,List.length_nil];omega)]
  exact Tot.pure ⟨hy,by simp only;omega,by simp only [List.length_append,List.length_cons,List.length_nil];omega⟩
 refine Tot.bif (fun _=>?_) (fun _=>?_)
 ·refine Tot.bind (nK _ h2) ?_
  rintro y ⟨hy,_⟩
  refine Tot.idx (by decide) (by simp only;omega) fun n x e hx=>?_
  have:n=0:=by omega
  subst this
  rw [show ((0:Int)).toNat=0 from rfl,hx,Option.bind_some]
  exact Tot.pure ⟨hy,by simp only;omega,by simp only [List.length_set];omega⟩
 refine Tot.bif (fun _=>?_) (fun _=>?_)
 ·refine Tot.bind (OV _ h2) ?_
  rintro y ⟨hy,_⟩
  rw [if_pos (by simp only [aI,List.length_cons,List.length_nil];omega)]
  exact Tot.pure ⟨hy,by simp only [List.length_append,List.length_cons,List.length_nil];omega,by simp only;omega⟩
 refine Tot.bif (fun _=>?_) (fun _=>?_)
 ·rw [if_pos (by decide),if_pos (by decide),if_pos (by simp only;omega)]
  exact Tot.pure ⟨h2,by simp only;omega,by simp only [List.length_drop,List.length_take];omega⟩
 refine Tot.bif (fun _=>?_) (fun _=>?_)
 ·refine Tot.bind (OV _ h2) ?_
  rintro y ⟨hy,_⟩
  refine Tot.idx (by decide) (by simp only;omega) fun n x e hx=>?_
  have:n=0:=by omega
  subst this
  rw [show ((0:Int)).toNat=0 from rfl,hx,Option.bind_some]
  exact Tot.pure ⟨hy,by simp only [List.length_set];omega,by simp only;omega⟩
 refine Tot.bif (fun _=>?_) (fun _=>?_)
 ·refine Tot.bind (P:=fun o=>aO o.2.1∧o.2.2.1.length≤20∧o.2.2.2.1.length≤3) (Tot.while (fun s=>aO s.2.1∧40≤s.1∧s.1≤46∧(s.2.2.1.length:Int)≤s.1 - 34∧s.2.2.2.1.length≤3) (fun s=>46 - s.1.toNat) ?_ ⟨h2,by simp only;omega,by simp only;omega,by simp only;omega,by simp only;omega⟩) ?_
  ·rintro ⟨i,cc,ps,ss,t⟩ ⟨k1,k2,k3,k4,k5⟩
   simp only at k1 k2 k3 k4 k5
   unfold Bx
   simp only
   refine Tot.bif (fun hl=>?_) (fun hl=>Tot.pure ⟨k1,by simp only;omega,k5⟩)
   have hl:i < 46:=of_decide_eq_true hl
   refine Tot.bind (Fp _ _ k1) ?_
   rintro y ⟨hy,_⟩
   rw [if_pos (by simp only [aI,List.length_cons,List.length_nil];omega)]
   refine Tot.pure ⟨⟨hy,?_,?_,?_,k5⟩,?_⟩ <;> simp only [List.length_append,List.length_cons,List.length_nil] <;> rw [aA (n:=i + 1) (by omega) (by omega)] <;> omega
  ·rintro o ⟨k1,k2,k3⟩
   exact Tot.pure ⟨k1,k2,k3⟩
 exact Tot.pure ⟨h2,by simp only;omega,by simp only;omega⟩
theorem vd (c:al.D) (s:ae.D) (h:aO c):Tot (fN c s) (fun y=>aO y.2.1∧True):=by
 unfold fN
 refine Tot.bind (P:=fun o=>aO o.2∧(o.1=false→0 < s.1.length)) (Tot.bif (fun _=>Tot.pure ⟨h,by simp⟩) (fun he=>?_)) ?_
 ·have he:0 < s.1.length:=by
   rw [beq_eq_false_iff_ne] at he
   omega
  refine Tot.bind (bh _ _ h) ?_
  rintro y ⟨hy,_⟩
  exact Tot.pure ⟨hy,fun _=>he⟩
 ·rintro o ⟨ho,hl⟩
  refine Tot.bif (fun _=>?_) (fun hf=>?_)
  ·refine Tot.bind (aD _ _ ho) ?_
   rintro y ⟨hy,_⟩
   exact Tot.pure ⟨hy,trivial⟩
  ·have:=hl hf
   refine Tot.bind (aD _ _ ho) ?_
   rintro y ⟨hy,h0,h1⟩
   refine Tot.idx h0 (h1 (by omega)) fun n x e hx=>?_
   exact Tot.pure ⟨hy,trivial⟩
theorem pr (c:al.D) (s:ae.D) (h:aO c):Tot (d8 c s) (fun y=>aO y.2.1∧True):=by
 unfold d8
 refine Tot.bind (aT _ _ h (by decide)) ?_
 rintro y1 ⟨h1,_⟩
 refine Tot.bind (aT _ _ h1 (by decide)) ?_
 rintro y2 ⟨h2,_⟩
 refine Tot.bif (fun _=>?_) (fun _=>?_)
 ·refine Tot.bind (vd _ _ h2) ?_
  rintro y3 ⟨h3,_⟩
  refine Tot.bind (bh _ _ h3) ?_
  rintro y4 ⟨h4,_⟩
  refine Tot.bif (fun _=>?_) (fun _=>?_)
  ·refine Tot.bind (aD _ _ h4) ?_
   rintro y ⟨hy,_⟩
   exact Tot.pure ⟨hy,trivial⟩
  ·refine Tot.bind (vd _ _ h4) ?_
   rintro y ⟨hy,_⟩
   exact Tot.pure ⟨hy,trivial⟩
 refine Tot.bif (fun _=>?_) (fun _=>?_)
 ·refine Tot.bind (vd _ _ h2) ?_
  rintro y3 ⟨h3,_⟩
  refine Tot.bind (aT _ _ h3 (by decide)) ?_
  rintro y4 ⟨h4,_⟩
  refine Tot.bif (fun _=>?_) (fun _=>Tot.pure ⟨h4,trivial⟩)
  refine Tot.bind (aT _ _ h4 (by decide)) ?_
  rintro y5 ⟨h5,_⟩
  refine Tot.bind (bh _ _ h5) ?_
  rintro y ⟨hy,_⟩
  exact Tot.pure ⟨hy,trivial⟩
 refine Tot.bind (P:=fun _=>True) (Tot.bif (fun _=>Tot.pure trivial) (fun _=>Tot.pure trivial)) ?_
 rintro o11 _
 refine Tot.bif (fun _=>?_) (fun _=>?_)
 ·refine Tot.bind (aD _ _ h2) ?_
  rintro y ⟨hy,_⟩
  exact Tot.pure ⟨hy,trivial⟩
 ·refine Tot.bind (vd _ _ h2) ?_
  rintro y ⟨hy,_⟩
  exact Tot.pure ⟨hy,trivial⟩
theorem OX (c:al.D) (s:ae.D) (h:aO c):Tot (tE c s) (fun y=>aO y.2.1∧True):=by
 unfold tE
 refine Tot.bind (pr _ _ h) ?_
 rintro y1 ⟨h1,_⟩
 refine Tot.bind (aD _ _ h1) ?_
 rintro y3 ⟨h3,_⟩
 repeat' first
  | refine Tot.bif (fun _=>?_) (fun _=>?_)
  | (refine Tot.bind (aT _ _ h3 (by decide)) ?_;rintro y ⟨hy,_⟩;exact Tot.pure ⟨hy,trivial⟩)
  | (refine Tot.bind (nK _ h3) ?_;rintro y ⟨hy,_⟩;exact Tot.pure ⟨hy,trivial⟩)
  | exact Tot.pure ⟨h3,trivial⟩
theorem Js (code:List Int) (hl:code.length≤33554432):Tot (oG code) (fun c=>aO c):=by
 unfold oG
 refine Tot.bind (P:=fun _=>True) (Tot.while (fun s=>0≤s.2∧s.2≤(code.length:Int)) (fun s=>code.length - s.2.toNat) ?_ ⟨by simp only;omega,by simp only;omega⟩) ?_
 ·rintro ⟨g,i⟩ ⟨k1,k2⟩
  simp only at k1 k2
  unfold Bk
  simp only
  refine Tot.bind (P:=fun o=>o=true→i < (code.length:Int)) (Tot.bif (fun hl=>Tot.pure (fun _=>of_decide_eq_true hl)) (fun _=>Tot.pure (fun h=>by cases h))) ?_
  rintro o ho
  refine Tot.bif (fun hb=>?_) (fun _=>Tot.pure trivial)
  have hlt:=ho hb
  refine Tot.idx k1 hlt fun n x e hx=>?_
  refine Tot.pure ⟨⟨?_,?_⟩,?_⟩ <;> simp only <;> rw [aA (n:=i + 1) (by omega) (by omega)] <;> omega
 ·rintro o _
  exact Tot.pure ⟨Int.le_refl _,hl⟩
theorem Lr (c:al.D) (s:ae.D) (h:aO c):Tot (jy c s) (fun y=>aO y.2.1∧True):=by
 unfold jy
 refine Tot.bind (aT _ _ h (by decide)) ?_
 rintro y1 ⟨h1,_⟩
 refine Tot.bind (aT _ _ h1 (by decide)) ?_
 rintro y2 ⟨h2,_⟩
 refine Tot.bind (bh _ _ h2) ?_
 rintro y3 ⟨h3,_⟩
 refine Tot.bind (P:=fun o=>aO o.1) (Tot.bif (fun _=>?_) (fun _=>Tot.pure h3)) ?_
 ·(refine Tot.bind (aT _ _ h3 (by decide)) ?_;rintro y ⟨hy,_⟩;exact Tot.pure hy)
 rintro o5 h5
 refine Tot.bind (P:=fun o=>aO o.1) (Tot.bif (fun _=>?_) (fun _=>?_)) ?_
 ·refine Tot.bind (bh _ _ h5) ?_
  rintro y6 ⟨h6,_⟩
  refine Tot.bind (P:=fun o=>aO o.1) (Tot.bif (fun _=>?_) (fun _=>Tot.pure h6)) ?_
  ·(refine Tot.bind (vd _ _ h6) ?_;rintro y ⟨hy,_⟩;exact Tot.pure hy)
  rintro o8 h8
  refine Tot.bind (bh _ _ h8) ?_
  rintro y9 ⟨h9,_⟩
  refine Tot.bind (P:=fun o=>aO o.1) (Tot.bif (fun _=>?_) (fun _=>Tot.pure h9)) ?_
  ·(refine Tot.bind (aT _ _ h9 (by decide)) ?_;rintro y ⟨hy,_⟩;exact Tot.pure hy)
  rintro o11 h11
  exact Tot.pure h11
 ·refine Tot.bind (P:=fun o=>aO o.1) (Tot.bif (fun _=>?_) (fun _=>Tot.pure h5)) ?_
  ·(refine Tot.bind (aT _ _ h5 (by decide)) ?_;rintro y ⟨hy,_⟩;exact Tot.pure hy)
  rintro o13 h13
  exact Tot.pure h13
 rintro o14 h14
 refine Tot.bind (P:=fun o=>aO o.2) (Tot.bif (fun _=>Tot.bif (fun _=>?_) (fun _=>Tot.pure h14)) (fun _=>Tot.pure h14)) ?_
 ·(refine Tot.bind (bh _ _ h14) ?_;rintro y ⟨hy,_⟩;exact Tot.pure hy)
 rintro o16 h16
 refine Tot.bif (fun _=>?_) (fun _=>Tot.pure ⟨h16,trivial⟩)
 (refine Tot.bind (vd _ _ h16) ?_;rintro y ⟨hy,_⟩;exact Tot.pure ⟨hy,trivial⟩)
theorem Ls (c:al.D) (h:aO c):Tot (jz c) (fun y=>aO y.2.1∧True):=by
 unfold jz
 refine Tot.bind (bh _ _ h) ?_
 rintro y1 ⟨h1,_⟩
 refine Tot.bif (fun _=>Tot.pure ⟨h1,trivial⟩) (fun _=>?_)
 refine Tot.bind (aD _ _ h1) ?_
 rintro y2 ⟨h2,_⟩
 refine Tot.bif (fun _=>?_) (fun _=>?_)
 ·(refine Tot.bind (aT _ _ h2 (by decide)) ?_;rintro y ⟨hy,_⟩;exact Tot.pure ⟨hy,trivial⟩)
 refine Tot.bind (P:=fun _=>True) (Tot.bif (fun _=>Tot.pure trivial) (fun _=>Tot.pure trivial)) ?_
 rintro o4 _
 refine Tot.bif (fun _=>?_) (fun _=>Tot.pure ⟨h2,trivial⟩)
 (refine Tot.bind (aT _ _ h2 (by decide)) ?_;rintro y ⟨hy,_⟩;exact Tot.pure ⟨hy,trivial⟩)
theorem OY (a:bR.D) (k:Int):Tot (gj a k) (fun _=>True):=by
 obtain ⟨b,h,_⟩:=iL a k
 exact ⟨b,h,trivial⟩
theorem Lt (c:al.D) (s:ae.D) (k:Int) (h:aO c):Tot (jA c s k) (fun y=>aO y.2.1∧y.1.2.2.2.2.2.2.1.length≤9):=by
 unfold jA
 refine Tot.bind (aT _ _ h (by decide)) ?_
 rintro y1 ⟨h1,_⟩
 refine Tot.bind (P:=fun o=>aO o.2.1∧o.2.2.2.2.2.2.2.2.1=[]) (Tot.while (fun s=>(aO s.2.1∧s.2.2.2.2.2.2.2.2.1=[])∧0≤s.1∧s.1≤6) (fun s=>6 - s.1.toNat) ?_ ⟨⟨h1,rfl⟩,by simp only;omega⟩) ?_
 ·rintro ⟨i,cc,ak,an,ap,asd,az,ab,aL,u⟩ ⟨⟨g1,g2⟩,g3,g4⟩
  simp only at g1 g2 g3 g4
  unfold sL
  simp only
  refine Tot.bind (P:=fun o=>o=true→i < (6:Int)) (Tot.bif (fun hl=>?_) (fun _=>Tot.pure (fun h=>by cases h))) ?_
  ·have hl:i < (6:Int):=of_decide_eq_true hl
   refine Tot.bind (OY _ _) ?_
   rintro y5 _
   exact Tot.pure (fun _=>hl)
  rintro o6 h6
  refine Tot.bif (fun hb=>?_) (fun _=>Tot.pure ⟨g1,g2⟩)
  have hl:=h6 hb
  refine Tot.bind (aD _ _ g1) ?_
  rintro y7 ⟨h7,_⟩
  refine Tot.pure ⟨⟨⟨h7,g2⟩,?_,?_⟩,?_⟩ <;> simp only <;> rw [aA (by omega) (by omega)] <;> omega
 rintro o8 ⟨h8,e8⟩
 refine Tot.bind (OY _ _) ?_
 rintro y9 _
 refine Tot.bind (P:=fun o=>o.2.2.2.2.2.2.1=[]) (Tot.bif (fun _=>Tot.pure e8) (fun _=>Tot.pure e8)) ?_
 rintro o10 h10
 have h10':o10.2.2.2.2.2.2.1.length≤9:=by rw [h10];decide
 refine Tot.bif (fun _=>?_) (fun _=>?_)
 ·refine Tot.bind (aT _ _ h8 (by decide)) ?_
  rintro y ⟨hy,_⟩
  exact Tot.pure ⟨hy,h10'⟩
 refine Tot.bif (fun _=>?_) (fun _=>?_)
 ·refine Tot.bind (bh _ _ h8) ?_
  rintro y12 ⟨h12,_⟩
  refine Tot.bif (fun _=>?_) (fun _=>?_)
  ·refine Tot.bind (aD _ _ h12) ?_
   rintro y ⟨hy,_⟩
   exact Tot.pure ⟨hy,h10'⟩
  ·refine Tot.bind (vd _ _ h12) ?_
   rintro y ⟨hy,_⟩
   exact Tot.pure ⟨hy,h10'⟩
 refine Tot.bif (fun _=>?_) (fun _=>?_)
 ·refine Tot.bind (aT _ _ h8 (by decide)) ?_
  rintro y ⟨hy,_⟩
  exact Tot.pure ⟨hy,h10'⟩
 refine Tot.bif (fun _=>?_) (fun _=>?_)
 ·refine Tot.bind (aD _ _ h8) ?_
  rintro y16 ⟨h16,_⟩
  refine Tot.bind (bh _ _ h16) ?_
  rintro y ⟨hy,_⟩
  exact Tot.pure ⟨hy,h10'⟩
 refine Tot.bif (fun _=>?_) (fun _=>Tot.pure ⟨h8,h10'⟩)
 refine Tot.bind (aD _ _ h8) ?_
 rintro y18 ⟨h18,a18,b18⟩
 have b18:=b18 (by decide)
 have hw:IntKind.wrap .i64 (1 + y18.1)=1 + y18.1:=aA (by omega) (by omega)
 refine Tot.bind (P:=fun o=>aO o.2.1∧o.2.2.2.2.2.2.2.2.1.length≤9) (Tot.while (fun s=>aO s.2.1∧0≤s.1∧(s.2.2.2.2.2.2.2.2.1.length:Int) + s.1=1 + y18.1) (fun s=>s.1.toNat) ?_ ⟨h18,by simp only;omega,by simp only;rw [h10,hw];simp⟩) ?_
 ·rintro ⟨i,cc,ak,an,ap,asd,az,ab,aL,u⟩ ⟨g1,g3,g4⟩
  simp only at g1 g3 g4
  unfold sM
  simp only
  refine Tot.bif (fun hl=>?_) (fun hl=>Tot.pure ⟨g1,by simp only;omega⟩)
  have hl:i > 0:=of_decide_eq_true hl
  refine Tot.bind (pr _ _ g1) ?_
  rintro y22 ⟨h22,_⟩
  refine Tot.bind (P:=fun o=>aO o.2) (Tot.bif (fun _=>?_) (fun _=>Tot.pure h22)) ?_
  ·(refine Tot.bind (bh _ _ h22) ?_;rintro y ⟨hy,_⟩;exact Tot.pure hy)
  rintro o24 h24
  refine Tot.bind (P:=fun _=>True) (Tot.bif (fun _=>Tot.pure trivial) (fun _=>Tot.pure trivial)) ?_
  rintro o25 _
  rw [if_pos (by simp only [aI,List.length_cons,List.length_nil];omega)]
  refine Tot.pure ⟨⟨h24,?_,?_⟩,?_⟩ <;> simp only [List.length_append,List.length_cons,List.length_nil] <;> rw [aA (n:=i - 1) (by omega) (by omega)] <;> omega
 rintro o26 ⟨h26,e26⟩
 exact Tot.pure ⟨h26,e26⟩
theorem lT (c:al.D) (s:ae.D) (k:Int) (h:aO c):Tot (cU c s k) (fun y=>aO y.2.1∧y.1.2.2.2.2.2.2.1.2.2.2.2.2.2.1.length≤9):=by
 unfold cU
 refine Tot.bind (aD _ _ h) ?_
 rintro y1 ⟨h1,_⟩
 refine Tot.bind (aT _ _ h1 (by decide)) ?_
 rintro y2 ⟨h2,_⟩
 refine Tot.bind (P:=fun o=>aO o.2) (Tot.bif (fun _=>Tot.pure h2) (fun _=>?_)) ?_
 ·(refine Tot.bind (bh _ _ h2) ?_;rintro y ⟨hy,_⟩;exact Tot.pure hy)
 rintro o4 h4
 refine Tot.bind (P:=fun o=>aO o.1) (Tot.bif (fun _=>?_) (fun _=>Tot.pure h4)) ?_
 ·(refine Tot.bind (vd _ _ h4) ?_;rintro y ⟨hy,_⟩;exact Tot.pure hy)
 rintro o6 h6
 refine Tot.bind (Lr _ _ h6) ?_
 rintro y7 ⟨h7,_⟩
 refine Tot.bind (Ls _ h7) ?_
 rintro y8 ⟨h8,_⟩
 refine Tot.bind (Lt _ _ _ h8) ?_
 rintro y9 ⟨h9,e9⟩
 refine Tot.bind (bh _ _ h9) ?_
 rintro y10 ⟨h10,_⟩
 refine Tot.bind (P:=fun o=>aO o.1∧o.2.2.2.2.2.2.2.1.2.2.2.2.2.2.1.length≤9) (Tot.bif (fun _=>?_) (fun _=>Tot.pure ⟨h10,e9⟩)) ?_
 ·refine Tot.bind (aD _ _ h10) ?_
  rintro y ⟨hy,_⟩
  exact Tot.pure ⟨hy,e9⟩
 rintro o13 ⟨h13,e13⟩
 refine Tot.bif (fun _=>?_) (fun _=>?_)
 ·refine Tot.bind (aT _ _ h13 (by decide)) ?_
  rintro y ⟨hy,_⟩
  exact Tot.pure ⟨hy,e13⟩
 refine Tot.bind (bh _ _ h13) ?_
 rintro y15 ⟨h15,_⟩
 refine Tot.bif (fun _=>?_) (fun _=>Tot.pure ⟨h15,e13⟩)
 refine Tot.bind (aD _ _ h15) ?_
 rintro y ⟨hy,_⟩
 exact Tot.pure ⟨hy,e13⟩
theorem S7 (c:al.D) (s:ae.D) (h:aO c):Tot (xw c s) (fun y=>aO y.2.1∧True):=by
 unfold xw
 refine Tot.bind (Lr _ _ h) ?_
 rintro y1 ⟨h1,_⟩
 refine Tot.bind (aD _ _ h1) ?_
 rintro y3 ⟨h3,_⟩
 repeat' first
  | refine Tot.bif (fun _=>?_) (fun _=>?_)
  | (refine Tot.bind (aT _ _ h3 (by decide)) ?_;rintro y ⟨hy,_⟩;exact Tot.pure ⟨hy,trivial⟩)
  | (refine Tot.bind (nK _ h3) ?_;rintro y ⟨hy,_⟩;exact Tot.pure ⟨hy,trivial⟩)
  | exact Tot.pure ⟨h3,trivial⟩
theorem S8 (c:al.D) (h:aO c):Tot (xx c) (fun y=>aO y.2.1∧True):=by
 unfold xx
 refine Tot.bind (Ls _ h) ?_
 rintro y1 ⟨h1,_⟩
 refine Tot.bind (aD _ _ h1) ?_
 rintro y3 ⟨h3,_⟩
 repeat' first
  | refine Tot.bif (fun _=>?_) (fun _=>?_)
  | (refine Tot.bind (aT _ _ h3 (by decide)) ?_;rintro y ⟨hy,_⟩;exact Tot.pure ⟨hy,trivial⟩)
  | (refine Tot.bind (nK _ h3) ?_;rintro y ⟨hy,_⟩;exact Tot.pure ⟨hy,trivial⟩)
  | exact Tot.pure ⟨h3,trivial⟩
theorem S9 (c:al.D) (s:ae.D) (h:aO c):Tot (xA c s) (fun y=>aO y.2.1∧y.1.2.2.2.2.2.2.1.length≤12):=by
 unfold xA
 refine Tot.bind (aD _ _ h) ?_
 rintro y1 ⟨h1,_⟩
 refine Tot.bind (Lt _ _ _ h1) ?_
 rintro y2 ⟨h2,e2⟩
 refine Tot.bind (aD _ _ h2) ?_
 rintro y3 ⟨h3,_⟩
 have e2':y2.1.2.2.2.2.2.2.1.length≤12:=by omega
 repeat' first
  | refine Tot.bif (fun _=>?_) (fun _=>?_)
  | (refine Tot.bind (aT _ _ h3 (by decide)) ?_;rintro y ⟨hy,_⟩;exact Tot.pure ⟨hy,e2'⟩)
  | (refine Tot.bind (nK _ h3) ?_;rintro y ⟨hy,_⟩;exact Tot.pure ⟨hy,e2'⟩)
  | exact Tot.pure ⟨h3,e2'⟩
  | (refine Tot.bind (OX _ _ h3) ?_;rintro y ⟨hy,_⟩;rw [if_pos (by simp only [aI,List.length_cons,List.length_nil];omega)];exact Tot.pure ⟨hy,by simp only [List.length_append,List.length_cons,List.length_nil];omega⟩)
  | (refine Tot.bind (pr _ _ h3) ?_;rintro y ⟨hy,_⟩;refine Tot.bind (pr _ _ hy) ?_;rintro z ⟨hz,_⟩;refine Tot.bind (pr _ _ hz) ?_;rintro w ⟨hw,_⟩;rw [if_pos (by simp only [aI,List.length_cons,List.length_nil];omega)];exact Tot.pure ⟨hw,by simp only [List.length_append,List.length_cons,List.length_nil];omega⟩)
theorem Lu (c:al.D) (s:ae.D) (h:aO c):Tot (qw c s) (fun y=>aO y.2.1∧y.1.2.2.2.2.2.2.1.2.2.2.2.2.2.1.length≤12):=by
 unfold qw
 refine Tot.bind (aD _ _ h) ?_
 rintro y1 ⟨h1,_⟩
 refine Tot.bind (lT _ _ _ h1) ?_
 rintro y2 ⟨h2,e2⟩
 refine Tot.bind (aD _ _ h2) ?_
 rintro y3 ⟨h3,_⟩
 have e2':y2.1.2.2.2.2.2.2.1.2.2.2.2.2.2.1.length≤12:=by omega
 repeat' first
  | refine Tot.bif (fun _=>?_) (fun _=>?_)
  | (refine Tot.bind (aT _ _ h3 (by decide)) ?_;rintro y ⟨hy,_⟩;exact Tot.pure ⟨hy,e2'⟩)
  | (refine Tot.bind (nK _ h3) ?_;rintro y ⟨hy,_⟩;exact Tot.pure ⟨hy,e2'⟩)
  | exact Tot.pure ⟨h3,e2'⟩
  | (refine Tot.bind (S7 _ _ h3) ?_;rintro y ⟨hy,_⟩;exact Tot.pure ⟨hy,e2'⟩)
  | (refine Tot.bind (S8 _ h3) ?_;rintro y ⟨hy,_⟩;exact Tot.pure ⟨hy,e2'⟩)
  | (refine Tot.bind (S9 _ _ h3) ?_;rintro y ⟨hy,ey⟩;exact Tot.pure ⟨hy,ey⟩)
theorem kT (c:al.D) (h:aO c):Tot (fu c) (fun y=>aO y.2.1∧y.1.length≤8):=by
 unfold fu
 refine Tot.bind (aD c _ h) ?_
 rintro y1 ⟨h1,h1a,h1b⟩
 have h1c:=h1b (by decide)
 refine Tot.bind (P:=fun o=>aO o.2.2∧o.1.length≤8) (Tot.while (fun s=>aO s.2.2∧0≤s.2.1∧(s.1.length:Int) + s.2.1≤8) (fun s=>s.2.1.toNat) ?_ ⟨h1,h1a,by simp only [List.length_nil];omega⟩) ?_
 ·rintro ⟨l,i,cc⟩ ⟨k1,k2,k3⟩
  simp only at k1 k2 k3
  unfold sN
  simp only
  refine Tot.bif (fun hl=>?_) (fun _=>Tot.pure ⟨k1,by simp only;omega⟩)
  have hl:i > 0:=of_decide_eq_true hl
  refine Tot.bind (aT _ _ k1 (by decide)) ?_
  rintro y4 ⟨h4,_⟩
  rw [if_pos (by simp only [aI,List.length_cons,List.length_nil];omega)]
  refine Tot.pure ⟨⟨h4,?_,?_⟩,?_⟩ <;> simp only [List.length_append,List.length_cons,List.length_nil] <;> rw [aA (n:=i - 1) (by omega) (by omega)] <;> omega
 ·rintro o ⟨k1,k2⟩
  exact Tot.pure ⟨k1,k2⟩
theorem Jt (c:al.D) (s:ae.D) (h:aO c):Tot (iA c s) (fun y=>aO y.2.1∧okD (.slice aa) y.1∧y.1.length≤5):=by
 unfold iA
 refine Tot.bind (aD _ _ h) ?_
 rintro y1 ⟨h1,h1a,h1b⟩
 have h1c:=h1b (by decide)
 refine Tot.bind (P:=fun o=>aO o.2.2.2∧(∀ x∈o.1,okD aa x)∧o.1.length≤5) (Tot.while (fun s=>aO s.2.2.2∧(∀ x∈s.1,okD aa x)∧0≤s.2.2.1∧(s.1.length:Int) + s.2.2.1≤5) (fun s=>s.2.2.1.toNat) ?_ ⟨h1,(fun x hx=>by cases hx),h1a,by simp only [List.length_nil];omega⟩) ?_
 ·rintro ⟨l,id,i,cc⟩ ⟨k1,k2,k3,k4⟩
  simp only at k1 k2 k3 k4
  unfold qM
  simp only
  refine Tot.bif (fun hl=>?_) (fun _=>Tot.pure ⟨k1,k2,by simp only;omega⟩)
  have hl:i > 0:=of_decide_eq_true hl
  refine Tot.bind (aD _ _ k1) ?_
  rintro y4 ⟨h4,_⟩
  refine Tot.bind (lT _ _ _ h4) ?_
  rintro y5 ⟨h5,e5⟩
  rw [if_pos (by simp only [aI,List.length_cons,List.length_nil];omega)]
  refine Tot.pure ⟨⟨h5,fun x hx=>?_,?_,?_⟩,?_⟩
  ·rcases List.mem_append.1 hx with hx | hx
   ·exact k2 x hx
   ·rw [List.mem_singleton.1 hx];exact jN _ (by omega)
  all_goals simp only [List.length_append,List.length_cons,List.length_nil] <;> rw [aA (n:=i - 1) (by omega) (by omega)] <;> omega
 ·rintro o ⟨k1,k2,k3⟩
  have k4:o.1.length≤33554432:=by omega
  exact Tot.pure ⟨k1,⟨k4,k2⟩,k3⟩
theorem Lv (c:al.D) (s:ae.D) (h:aO c):Tot (qx c s) (fun y=>aO y.2.1∧okD (.slice aa) y.1∧y.1.length≤8):=by
 unfold qx
 refine Tot.bind (Jt _ _ h) ?_
 rintro y1 ⟨h1,g1,e1⟩
 refine Tot.bind (aD _ _ h1) ?_
 rintro y2 ⟨h2,_⟩
 have triv:y1.1.length≤8:=by omega
 refine Tot.bif (fun _=>?_) (fun _=>Tot.bif (fun _=>?_) (fun _=>Tot.bif (fun _=>Tot.bif (fun hp=>?_) (fun _=>Tot.pure ⟨h2,g1,triv⟩)) (fun _=>Tot.pure ⟨h2,g1,triv⟩)))
 ·refine Tot.bind (Lu _ _ h2) ?_
  rintro y3 ⟨h3,e3⟩
  rw [if_pos (by simp only [aI,List.length_cons,List.length_nil];omega)]
  have hl:(y1.1++[y3.1]).length≤8:=by simp only [List.length_append,List.length_cons,List.length_nil];omega
  refine Tot.pure ⟨h3,⟨by show (y1.1++[y3.1]).length≤33554432;omega,fun x hx=>?_⟩,hl⟩
  rcases List.mem_append.1 hx with hx | hx
  ·exact g1.2 x hx
  ·rw [List.mem_singleton.1 hx];exact jN _ (by omega)
 ·refine Tot.bind (lT _ _ _ h2) ?_
  rintro y4 ⟨h4,e4⟩
  refine Tot.bind (lT _ _ _ h4) ?_
  rintro y5 ⟨h5,e5⟩
  refine Tot.bind (lT _ _ _ h5) ?_
  rintro y6 ⟨h6,e6⟩
  rw [if_pos (by simp only [aI,List.length_cons,List.length_nil];omega)]
  have hl:(y1.1++[y4.1,y5.1,y6.1]).length≤8:=by simp only [List.length_append,List.length_cons,List.length_nil];omega
  refine Tot.pure ⟨h6,⟨by show (y1.1++[y4.1,y5.1,y6.1]).length≤33554432;omega,fun x hx=>?_⟩,hl⟩
  rcases List.mem_append.1 hx with hx | hx
  ·exact g1.2 x hx
  ·simp only [List.mem_cons,List.not_mem_nil,or_false] at hx
   rcases hx with rfl | rfl | rfl
   ·exact jN _ (by omega)
   ·exact jN _ (by omega)
   ·exact jN _ (by omega)
 ·have hp:(y1.1.length:Int) > 0:=of_decide_eq_true hp
  refine Tot.bind (Lu _ _ h2) ?_
  rintro y7 ⟨h7,e7⟩
  obtain ⟨x,hx⟩:∃ x,y1.1[0]?=some x:=⟨_,List.getElem?_eq_getElem (by omega)⟩
  have hi:∀ {R:Type} (κ:aa.D→Option R),idx y1.1 0 κ=κ x:=fun κ=>aJ (i:=0) hx
  rw [hi]
  have h0:y1.1[(0:Int).toNat]?=some x:=hx
  rw [h0,Option.bind_some]
  have hl:(y1.1.set (0:Int).toNat y7.1).length≤8:=by rw [List.length_set];omega
  refine Tot.pure ⟨h7,⟨by show (y1.1.set (0:Int).toNat y7.1).length≤33554432;omega,fun z hz=>?_⟩,hl⟩
  rcases List.mem_or_eq_of_mem_set hz with hz | rfl
  ·exact g1.2 z hz
  ·exact jN _ (by omega)
theorem F3 (c:al.D) (s:ae.D) (l:List aa.D) (h:aO c) (h1:s.1.length≤33554432) (h2:s.2.1.length≤33554432) (hl:okD (.slice aa) l):Tot (kD c s l) (fun y=>aO y.2.1∧True):=by
 have hll:l.length≤33554432:=hl.1
 unfold kD
 refine Tot.bind (pr _ _ h) ?_
 rintro y1 ⟨g1,_⟩
 refine Tot.bind (P:=fun o=>match o with | .inl t=>aO t.2.2.1 | .inr r=>aO r.2) (Tot.while (fun t=>aO t.2.2.1∧0≤t.1∧t.1≤5) (fun t=>5 - t.1.toNat) ?_ ⟨g1,by simp only;omega⟩) ?_
 ·rintro ⟨k,ev,cc,e⟩ ⟨k1,k2,k3⟩
  simp only at k1 k2 k3
  unfold vS
  simp only
  refine Tot.bif (fun hk=>?_) (fun _=>Tot.pure k1)
  have hk:k < 5:=of_decide_eq_true hk
  refine Tot.bind (P:=fun _=>True) (Tot.while (fun t=>0≤t.1∧t.1≤(l.length:Int)) (fun t=>l.length - t.1.toNat) ?_ ⟨Int.le_refl _,by simp only;omega⟩) ?_
  ·rintro ⟨i,ev'⟩ ⟨i1,i2⟩
   simp only at i1 i2
   unfold vR
   simp only
   refine Tot.bif (fun hi=>?_) (fun _=>Tot.pure trivial)
   have hi:i < (l.length:Int):=of_decide_eq_true hi
   refine Tot.idx i1 hi ?_
   rintro n x rfl hx
   have hok:=(hl.2 x (List.mem_of_getElem? hx)).2.2.2.2.2.2.1.2.2.2.2.2.2.1.1
   rw [Ee s x _ h1 h2 hok,Option.bind_some]
   refine Tot.bif (fun _=>Tot.pure trivial) (fun _=>Tot.pure ⟨⟨?_,?_⟩,?_⟩) <;> simp only <;> rw [aA (by omega) (by omega)] <;> omega
  ·rintro (o | o) _
   ·refine Tot.bind (pr _ _ k1) ?_
    rintro y13 ⟨h13,_⟩
    refine Tot.pure ⟨⟨h13,?_,?_⟩,?_⟩ <;> simp only <;> rw [aA (by omega) (by omega)] <;> omega
   ·exact Tot.pure k1
 ·rintro (o | o) ho
  ·exact Tot.pure ⟨ho,trivial⟩
  ·exact Tot.pure ⟨ho,trivial⟩
theorem OZ (c:al.D) (s:ae.D) (l:List aa.D) (h:aO c) (h1:s.1.length≤33554432) (h2:s.2.1.length≤33554432) (hl:okD (.slice aa) l):Tot (pC c s l) (fun y=>aO y.2.1∧y.1.length≤3):=by
 unfold pC
 refine Tot.bind (aD _ _ h) ?_
 rintro y1 ⟨g1,g2,g3⟩
 have g3:=g3 (by decide)
 have hw:IntKind.wrap .i64 (1 + y1.1)=1 + y1.1:=aA (by omega) (by omega)
 refine Tot.bind (P:=fun o=>aO o.2.2∧o.1.length≤3) (Tot.while (fun t=>aO t.2.2∧0≤t.2.1∧(t.1.length:Int) + t.2.1≤3) (fun t=>t.2.1.toNat) ?_ ⟨g1,by simp only;omega,by simp only [List.length_nil];omega⟩) ?_
 ·rintro ⟨es,i,cc⟩ ⟨k1,k2,k3⟩
  simp only at k1 k2 k3
  unfold vU
  simp only
  refine Tot.bif (fun hi=>?_) (fun _=>Tot.pure ⟨k1,by simp only;omega⟩)
  have hi:i > 0:=of_decide_eq_true hi
  refine Tot.bind (F3 _ s l k1 h1 h2 hl) ?_
  rintro y4 ⟨h4,_⟩
  rw [if_pos (by simp only [aI,List.length_cons,List.length_nil];omega)]
  refine Tot.pure ⟨⟨h4,?_,?_⟩,?_⟩ <;> simp only [List.length_append,List.length_cons,List.length_nil] <;> rw [aA (n:=i - 1) (by omega) (by omega)] <;> omega
 ·rintro o ⟨k1,k2⟩
  exact Tot.pure ⟨k1,k2⟩
theorem M1 {s:ae.D} (h1:s.1.length≤33554432) (h2:s.2.1.length≤33554432):okD ae s:=⟨⟨h1,fun x _=>f8 _ rfl x⟩,⟨h2,fun x _=>f8 _ rfl x⟩,f8 _ rfl _⟩
theorem Qa {t:Ty}:okD (.slice t) ([]:List t.D):=⟨Nat.zero_le _,fun x hx=>by cases hx⟩
theorem G1 {k i:Int} {e:aa.D} {es:List ah.D} (h1:e.2.2.2.2.2.2.1.2.2.2.2.2.2.1.length≤33554432) (h2:es.length≤33554432):okD bm (k,e,i,es,()):=⟨trivial,jN e h1,trivial,⟨h2,fun x _=>f8 _ rfl x⟩,trivial⟩
theorem CC (s:ae.D) (xs:List aa.D) (l:List Int) (hp:s.1.length≤33554432) (hs:s.2.1.length≤33554432) (ok:okD (.slice aa) xs) (hll:l.length≤33554432) :
  mL s xs l=some (s,xs,l,[],[],[],())∧okD aK (s,xs,l,[],[],[],()):=by
 refine ⟨?_,M1 hp hs,ok,⟨hll,fun x _=>f8 _ rfl x⟩,Qa,Qa,Qa,trivial⟩
 unfold mL
 simp only [gy s hp hs,cx xs ok,Option.bind_some,List.nil_append]
 rw [if_pos (by simp only [aI,List.length_nil];omega)]
theorem Ru (c:al.D) (h:aO c):Tot (iq c) (fun y=>aO y.2.1∧okD aK y.1∧y.1.2.2.2.1=[]∧y.1.2.2.2.2.1=[]∧y.1.2.2.2.2.2.1=[]):=by
 unfold iq
 refine Tot.bind (Lq _ h) ?_
 rintro y1 ⟨h1,_,e1,e2⟩
 refine Tot.bind (Jt _ _ h1) ?_
 rintro y2 ⟨h2,g2,_⟩
 refine Tot.bind (kT _ h2) ?_
 rintro y3 ⟨h3,e3⟩
 refine Tot.bind (kT _ h3) ?_
 rintro y4 ⟨h4,e4⟩
 rw [if_pos (by simp only [aI];omega)]
 obtain ⟨g,ok⟩:=CC y1.1 y2.1 (y3.1++y4.1) (by omega) (by omega) g2 (by rw [List.length_append];omega)
 rw [g,Option.bind_some]
 exact Tot.pure ⟨h4,ok,rfl,rfl,rfl⟩
theorem O0 (c:al.D) (g:aK.D) (h:aO c) (okg:okD aK g):Tot (pD c g) (fun y=>aO y.2.1∧okD bm y.1∧y.1.2.2.2.1.length≤3):=by
 unfold pD
 refine Tot.bind (aT _ _ h (by decide)) ?_
 rintro y1 ⟨h1,_⟩
 refine Tot.bif (fun _=>?_) (fun _=>Tot.bif (fun _=>?_) (fun _=>Tot.bif (fun _=>?_) (fun _=>Tot.pure ⟨h1,G1 (Nat.zero_le _) (Nat.zero_le _),Nat.zero_le _⟩)))
 ·refine Tot.bind (aD _ _ h1) ?_
  rintro y2 ⟨h2,_⟩
  refine Tot.bind (lT _ _ _ h2) ?_
  rintro y3 ⟨h3,e3⟩
  exact Tot.pure ⟨h3,G1 (by omega) (Nat.zero_le _),Nat.zero_le _⟩
 ·refine Tot.bind (aD _ _ h1) ?_
  rintro y4 ⟨h4,_⟩
  exact Tot.pure ⟨h4,G1 (Nat.zero_le _) (Nat.zero_le _),Nat.zero_le _⟩
 ·refine Tot.bind (OZ _ _ _ h1 okg.1.1.1 okg.1.2.1.1 okg.2.1) ?_
  rintro y5 ⟨h5,e5⟩
  exact Tot.pure ⟨h5,G1 (Nat.zero_le _) (by omega),e5⟩
theorem xM (c:al.D) (g:aK.D) (n:Int) (N:Nat) (h:aO c) (okg:okD aK g) (h0:0 < n) (hN:n≤N) (h9:N≤9) (q1:g.2.2.2.1.length + 600000 * N≤33554432) (q2:g.2.2.2.2.1.length + 600000 * N≤33554432) (q3:g.2.2.2.2.2.1.length + 600000 * N≤33554432) :
  Tot (gW c g n) (fun y=>aO y.2.1∧okD (.slice bm) y.1∧y.1.length≤N):=by
 unfold gW
 refine Tot.bind (aD _ _ h) ?_
 rintro ⟨i,c1,u1⟩ ⟨h1,a1,b1⟩
 have b1:=b1 h0
 simp only at h1 a1 b1 ⊢
 rw [aA (n:=1 + i) (by omega) (by omega)]
 refine Tot.bind (P:=fun o=>aO o.2.2.1∧(∀ x∈o.1,okD bm x)∧o.1.length≤N)
  (Tot.while (fun s=>aO s.2.2.1∧(∀ x∈s.1,okD bm x)∧okD aK s.2.2.2∧0≤s.2.1∧(s.1.length:Int) + s.2.1≤N∧s.2.2.2.2.2.2.1.length + 600000 * s.2.1.toNat≤33554432∧s.2.2.2.2.2.2.2.1.length + 600000 * s.2.1.toNat≤33554432∧s.2.2.2.2.2.2.2.2.1.length + 600000 * s.2.1.toNat≤33554432) (fun s=>s.2.1.toNat) ?_ ⟨h1,(fun x hx=>by cases hx),okg,by simp only;omega,by simp only [List.length_nil];omega,by simp only;omega,by simp only;omega,by simp only;omega⟩) ?_
 ·rintro ⟨l,i,cc,g⟩ ⟨k1,k2,k3,k4,k5,k6,k7,k8⟩
  simp only at k1 k2 k3 k4 k5 k6 k7 k8
  unfold uK
  simp only
  refine Tot.bif (fun hi=>?_) (fun _=>Tot.pure ⟨k1,k2,by simp only;omega⟩)
  have hi:i > 0:=of_decide_eq_true hi
  refine Tot.bind (O0 _ _ k1 k3) ?_
  rintro y5 ⟨h5,ok5,_⟩
  obtain ⟨r,r1,_,okr,⟨z1,z2,z3⟩,_⟩:=Jr g y5.1 k3 ok5 (by omega) (by omega) (by omega)
  rw [r1,Option.bind_some,if_pos (by simp only [aI,List.length_cons,List.length_nil];omega)]
  have hw:IntKind.wrap .i64 (i - 1)=i - 1:=aA (by omega) (by omega)
  refine Tot.pure ⟨⟨h5,fun x hx=>?_,okr,?_,?_,?_,?_,?_⟩,?_⟩
  ·rcases List.mem_append.1 hx with hx | hx
   ·exact k2 x hx
   ·rw [List.mem_singleton.1 hx];exact ok5
  all_goals simp only [List.length_append,List.length_cons,List.length_nil,hw] <;> omega
 ·rintro o ⟨k1,k2,k3⟩
  have k4:o.1.length≤33554432:=by omega
  exact Tot.pure ⟨k1,⟨k4,k2⟩,k3⟩
theorem Qb (c:al.D) (s:ae.D) (h:aO c) (h1:s.1.length≤33554432) (h2:s.2.1.length≤33554432):Tot (rP c s) (fun y=>aO y.2.1∧okD aF y.1):=by
 unfold rP
 refine Tot.bind (aD _ _ h) ?_
 rintro y1 ⟨g1,_⟩
 refine Tot.bind (lT _ _ _ g1) ?_
 rintro y2 ⟨g2,e2⟩
 refine Tot.bind (F3 _ _ _ g2 h1 h2 ⟨by simp,fun x hx=>by rw [List.mem_singleton.1 hx];exact jN _ (by omega)⟩) ?_
 rintro y3 ⟨g3,_⟩
 obtain ⟨ch,c1,_⟩:=Jf s y3.1 h1
 rw [c1,Option.bind_some]
 refine Tot.bind (aD _ _ g3) ?_
 rintro y5 ⟨g5,_⟩
 obtain ⟨L,sn,y,_,d2,⟨_,d4,_⟩,_⟩:=OD y2.1 y3.1 (by omega)
 rw [d2,Option.bind_some]
 refine Tot.bind (aD _ _ g5) ?_
 rintro y7 ⟨g7,_⟩
 refine Tot.bind (aD _ _ g7) ?_
 rintro y8 ⟨g8,_⟩
 have d5:L.length≤33554432:=by omega
 refine Tot.bif (fun _=>?_) (fun _=>Tot.bif (fun _=>?_) (fun _=>Tot.bif (fun _=>Tot.pure ⟨g8,xJ _ d5⟩) (fun _=>Tot.bif (fun _=>?_) (fun _=>Tot.bif (fun _=>?_) (fun _=>Tot.bif (fun _=>?_) (fun _=>Tot.bif (fun _=>?_) (fun _=>Tot.pure ⟨g8,xJ _ d5⟩)))))))
 ·(refine Tot.bind (aT _ _ g8 (by decide)) ?_;rintro z ⟨hz,_⟩;exact Tot.pure ⟨hz,xJ _ d5⟩)
 ·(refine Tot.bind (aT _ _ g8 (by decide)) ?_;rintro z ⟨hz,_⟩;exact Tot.pure ⟨hz,xJ _ d5⟩)
 ·(refine Tot.bind (aT _ _ g8 (by decide)) ?_;rintro z ⟨hz,_⟩;exact Tot.pure ⟨hz,xJ _ d5⟩)
 ·refine Tot.bind (OX _ _ g8) ?_
  rintro z ⟨hz,_⟩
  simp only
  rw [if_pos (by simp only [aI,List.length_cons,List.length_nil];omega)]
  refine Tot.pure ⟨hz,xJ _ ?_⟩
  show (L++[z.1]).length≤33554432
  simp only [List.length_append,List.length_cons,List.length_nil];omega
 ·(refine Tot.bind (nK _ g8) ?_;rintro z ⟨hz,_⟩;exact Tot.pure ⟨hz,xJ _ d5⟩)
 ·(refine Tot.bind (aT _ _ g8 (by decide)) ?_;rintro z ⟨hz,_⟩;exact Tot.pure ⟨hz,xJ _ d5⟩)
theorem Rv (c:al.D) (h:aO c):Tot (uV c) (fun y=>aO y.2.1∧okD aK y.1∧y.1.2.2.2.1.length≤1800001∧y.1.2.2.2.2.1.length≤1800001∧y.1.2.2.2.2.2.1.length≤1800001):=by
 unfold uV
 refine Tot.bind (Ru _ h) ?_
 rintro y1 ⟨h1,ok1,e1,e2,e3⟩
 have e1:y1.1.2.2.2.1.length=0:=by rw [e1];rfl
 have e2:y1.1.2.2.2.2.1.length=0:=by rw [e2];rfl
 have e3:y1.1.2.2.2.2.2.1.length=0:=by rw [e3];rfl
 refine Tot.bind (xM _ _ 3 3 h1 ok1 (by decide) (by decide) (by decide) (by omega) (by omega) (by omega)) ?_
 rintro y2 ⟨h2,ok2,l2⟩
 obtain ⟨p1,_,okp,_,_,_,z1,z2,z3⟩:=El y1.1 y2.1 ok1 ok2 3 l2 (by omega) (by omega) (by omega)
 rw [p1,Option.bind_some]
 generalize cp (y2.1.take 12) (0,y1.1)=p at okp z1 z2 z3
 obtain ⟨n,g⟩:=p
 simp only at okp z1 z2 z3 ⊢
 refine Tot.bind (aD _ _ h2) ?_
 rintro y4 ⟨h4,_⟩
 refine Tot.bif (fun _=>?_) (fun _=>Tot.bif (fun _=>?_) (fun _=>Tot.bif (fun _=>?_) (fun _=>Tot.bif (fun _=>Tot.pure ⟨h4,⟨M1 okp.1.1.1 okp.1.2.1.1,okp.2⟩,by simp only;omega,by simp only;omega,by simp only;omega⟩) (fun _=>Tot.pure ⟨h4,okp,by simp only;omega,by simp only;omega,by simp only;omega⟩))))
 ·refine Tot.bind (OW _ h4) ?_
  rintro y5 ⟨h5,a1,a2⟩
  exact Tot.pure ⟨h5,⟨M1 (s:=y5.1) (by omega) (by omega),okp.2⟩,by simp only;omega,by simp only;omega,by simp only;omega⟩
 ·refine Tot.bind (Lv _ _ h4) ?_
  rintro y6 ⟨h6,a1,_⟩
  exact Tot.pure ⟨h6,⟨okp.1,a1,okp.2.2⟩,by simp only;omega,by simp only;omega,by simp only;omega⟩
 ·refine Tot.bind (Qb _ _ h4 okp.1.1.1 okp.1.2.1.1) ?_
  rintro y7 ⟨h7,a1⟩
  rw [if_pos (by simp only [aI,List.length_cons,List.length_nil];omega)]
  have hl:(g.2.2.2.2.2.1++[y7.1]).length≤1800001:=by simp only [List.length_append,List.length_cons,List.length_nil];omega
  refine Tot.pure ⟨h7,⟨okp.1,okp.2.1,okp.2.2.1,okp.2.2.2.1,okp.2.2.2.2.1,⟨by show (g.2.2.2.2.2.1++[y7.1]).length≤33554432;omega,fun x hx=>?_⟩,trivial⟩,by simp only;omega,by simp only;omega,hl⟩
  rcases List.mem_append.1 hx with hx | hx
  ·exact okp.2.2.2.2.2.1.2 x hx
  ·rw [List.mem_singleton.1 hx];exact a1
theorem T4:∀ (n:Nat) (x:Int),([1,2,4,8,16,32]:List Int)[n]?=some x→x=2 ^ n∧1≤x∧x≤32
 | 0,x,h=>by simp at h;subst h;decide
 | 1,x,h=>by simp at h;subst h;decide
 | 2,x,h=>by simp at h;subst h;decide
 | 3,x,h=>by simp at h;subst h;decide
 | 4,x,h=>by simp at h;subst h;decide
 | 5,x,h=>by simp at h;subst h;decide
 | n + 6,x,h=>by simp at h
theorem Rw (c:al.D) (id:Int) (h:aO c) (hi:1≤id∧id≤99):Tot (io c id) (fun y=>aO y.2.1∧y.1.1=id∧eV y.1=true∧y.1.2.1 < (2:Int)∧y.1.2.2.1 < (2:Int)∧y.1.2.2.2.2.1≤(2:Int)):=by
 unfold io
 refine Tot.bind (aD c _ h) ?_
 rintro ⟨o,c1,u1⟩ ⟨h1,a1,b1⟩
 have b1:=b1 (by decide)
 refine Tot.bind (aT _ _ h1 (by decide)) ?_
 rintro ⟨z,c2,u2⟩ ⟨h2,m2⟩
 refine Tot.bind (aD _ _ h2) ?_
 rintro ⟨st,c3,u3⟩ ⟨h3,a3,b3⟩
 have b3:=b3 (by decide)
 refine Tot.bind (aD _ _ h3) ?_
 rintro ⟨pw,c4,u4⟩ ⟨h4,a4,b4⟩
 have b4:=b4 (by decide)
 refine Tot.bind (aD _ _ h4) ?_
 rintro ⟨tg,c5,u5⟩ ⟨h5,a5,b5⟩
 have b5:=b5 (by decide)
 simp only at h1 a1 b1 h2 m2 h3 a3 b3 h4 a4 b4 h5 a5 b5 ⊢
 have hz:z=2∨z=1∨z=3:=by simp at m2;omega
 rw [aA (n:=1 + tg) (by omega) (by omega)]
 refine Tot.bind (P:=fun w=>aO w.2.1∧∃ tr:Int,w.2.2=(id,o,o,z,st,pw,1 + tg,tr,0,0,0,false,false,())∧0≤tr∧tr≤63)
  (Tot.while (fun s=>aO s.2.1∧0≤s.1∧s.1≤6∧∃ tr:Int,s.2.2=(id,o,o,z,st,pw,1 + tg,tr,0,0,0,false,false,())∧0≤tr∧tr < 2 ^ s.1.toNat) (fun s=>6 - s.1.toNat) ?_ ⟨h5,by simp only;omega,by simp only;omega,0,rfl,by decide,(show (0:Int) < 2 ^ (0:Int).toNat by decide)⟩) ?_
 ·rintro ⟨i,cc,t⟩ ⟨g1,g2,g3,tr,e,t1,t2⟩
  simp only at g1 g2 g3 e t2
  subst e
  unfold sG
  simp only
  refine Tot.bif (fun hl=>?_) (fun hl=>?_)
  ·have hl:i < (6:Int):=of_decide_eq_true hl
   refine Tot.idx g2 (by simpa using hl) fun n x e hx=>?_
   subst e
   obtain ⟨x1,x2,x3⟩:=T4 n x hx
   rw [Int.toNat_natCast,hx,Option.bind_some]
   refine Tot.bind (bh _ _ g1) ?_
   rintro y ⟨hc,_⟩
   rw [Int.toNat_natCast,← x1] at t2
   have hw:IntKind.wrap .i64 ((n:Int) + 1)=((n + 1:Nat):Int):=by rw [aA (by omega) (by omega)];simp
   have hp:(2:Int) ^ (n + 1)=x + x:=by rw [Int.pow_succ,← x1];omega
   rw [hw]
   refine Tot.bif (fun _=>?_) (fun _=>?_)
   ·refine Tot.pure ⟨⟨hc,by simp only;omega,by simp only;omega,tr + x,?_,by omega,?_⟩,by simp only;omega⟩
    ·simp only;rw [aA (n:=tr + x) (by omega) (by omega)]
    ·simp only [Int.toNat_natCast];rw [hp];omega
   ·refine Tot.pure ⟨⟨hc,by simp only;omega,by simp only;omega,tr,rfl,t1,?_⟩,by simp only;omega⟩
    simp only [Int.toNat_natCast];rw [hp];omega
  ·have hl:¬ i < (6:Int):=of_decide_eq_false hl
   have:i=6:=by omega
   subst this
   have t2:tr < 64:=t2
   exact Tot.pure ⟨g1,tr,rfl,t1,by omega⟩
 ·rintro ⟨i,cc,t⟩ ⟨g1,tr,e,t1,t2⟩
  simp only at g1 e
  subst e
  simp only
  have k0:(1≤id∧id≤99)∧(0≤o∧o≤2)∧(0≤o∧o≤2)∧(1≤z∧z≤4)∧(0≤st∧st≤9999)∧(0≤pw∧pw≤999)∧(0≤1 + tg∧1 + tg≤999)∧(0≤tr∧tr≤63):=by omega
  by_cases hz2:z=2
  ·subst hz2
   simp only [bne_self_eq_false,cond_false]
   refine Tot.bind (bh _ _ g1) ?_
   rintro y12 ⟨h12,_⟩
   refine Tot.bind (P:=fun p=>∃ sd:Int,p=(id,o,sd,2,st,pw,1 + tg,tr,0,0,0,false,false,())∧0≤sd∧sd≤1) (Tot.bif (fun _=>Tot.pure ⟨1 - o,by rw [aA (by omega) (by omega)],by omega,by omega⟩) (fun _=>Tot.pure ⟨o,rfl,by omega,by omega⟩)) ?_
   rintro o13 ⟨sd,rfl,s1,s2⟩
   refine Tot.bind (aT _ _ h12 (by decide)) ?_
   rintro ⟨pl,c14,u14⟩ ⟨h14,m14⟩
   refine Tot.bind (aT _ _ h14 (by decide)) ?_
   rintro ⟨mi,c15,u15⟩ ⟨h15,m15⟩
   refine Tot.bind (aT _ _ h15 (by decide)) ?_
   rintro ⟨mk,c16,u16⟩ ⟨h16,m16⟩
   refine Tot.bind (bh _ _ h16) ?_
   rintro ⟨bt,c17⟩ ⟨h17,_⟩
   simp only at m14 m15 m16 h17 ⊢
   have q1:pl=0∨pl=1∨pl=2:=by simp at m14;omega
   have q2:mi=0∨mi=1:=by simp at m15;omega
   have q3:mk=0∨mk=1:=by simp at m16;omega
   refine Tot.pure ⟨h17,rfl,(dn id o sd 2 st pw (1 + tg) tr pl mi mk false bt ()).2 ⟨by omega,.inl ⟨rfl,by omega,by omega,by omega⟩⟩,b1,(show sd < (2:Int) by omega),(show st≤(2:Int) by omega)⟩
  ·have hb:(z != 2)=true:=by simpa using hz2
   simp only [hb,cond_true]
   refine Tot.pure ⟨g1,rfl,(dn id o o z st pw (1 + tg) tr 0 0 0 false false ()).2 ⟨by omega,.inr ⟨hz2,rfl,rfl,rfl,rfl,rfl,rfl⟩⟩,b1,b1,(show st≤(2:Int) by omega)⟩
end Go.Abs
