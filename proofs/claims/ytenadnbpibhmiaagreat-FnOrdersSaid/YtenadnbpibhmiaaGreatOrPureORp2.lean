/- Part of a proof of FnOrders: see the row. -/
import Derived.Test.YtenadnbpibhmiaaGreatOrPureORp1
set_option linter.unusedVariables false
set_option linter.unusedSimpArgs false
namespace Go.Abs
theorem Nf (s:ac.D) (a:Int) (h:s.1.length≤33554432):t8 s a=some ((s.1.filter (Gp a)).length:Int):=by
 unfold t8
 rw [JI s.1 h (Gp a) (fun n i x h0 h1 hx=>?_) (fun n=>by unfold su;simp)]
 ·rfl
 ·have hlt:=(List.getElem?_eq_some_iff.1 hx).1
  have hil:((i:Int) < (s.1.length:Int)):=by omega
  have hw:IntKind.wrap .i64 (n + 1)=n + 1:=aD (by omega) (by omega)
  unfold su O4 Gp
  simp only [hil,decide_true,cond_true,aJ hx,hw]
  cases (x.2.2.2.1 == 2) <;> cases (x.2.2.1 == a) <;> rfl
theorem JL (a:Int) (ha:0≤a):∀ (xs:List ai.D) (i:Nat),(bv (CA a) i xs).length=(xs.filter (Gp a)).length
 | [],_=>rfl
 | x :: xs,i=>by
  unfold bv
  have h1:(a == -1)=false:=by rw [beq_eq_false_iff_ne];omega
  rw [List.length_append,JL a ha xs]
  unfold CA
  by_cases h:Gp a x=true
  ·rw [List.filter_cons_of_pos h]
   unfold Gp at h
   rw [h1,Bool.false_or,h]
   simp only [cond_true,List.length_cons,List.length_nil];omega
  ·rw [List.filter_cons_of_neg h]
   have h:Gp a x=false:=by simpa using h
   unfold Gp at h
   rw [h1,Bool.false_or,h]
   simp
theorem S2 (s:ac.D) (a:Int) (g:bP.D) (h1:s.1.length≤33554432) (h2:s.2.1.length≤33554432):∃ b,wx s a g=some b∧wO s a g=some b:=by
 obtain ⟨b,q1,q2⟩:=oU g
 unfold wx wO aZ
 simp only [q1,q2,gx,dd,Option.bind_some]
 cases b
 ·exact ⟨_,rfl,rfl⟩
 ·simp only [Bool.not_true,cond_false,Option.bind_some]
  rw [aD (by omega) (by omega)]
  by_cases hs:0≤a∧a≤(s.2.1.length:Int) - 1
  ·rw [decide_eq_true hs.1,decide_eq_true hs.2]
   obtain ⟨k,rfl⟩:=Int.eq_ofNat_of_zero_le hs.1
   have hx:s.2.1[k]?=some (s.2.1[k]'(by omega)):=List.getElem?_eq_getElem (by omega)
   simp only [Bool.and_self,Bool.not_true,cond_false,aJ hx,Nf s _ h1,Hj s _ h1,JJ s _ h1,JK s _ h1,Option.bind_some,JL _ hs.1]
   cases (g.1 == 1) <;> cases (g.1 == 2) <;> cases (g.1 == 3) <;> cases (g.1 == 4) <;> exact ⟨_,rfl,rfl⟩
  ·have:(decide (0≤a) && decide (a≤(s.2.1.length:Int) - 1))=false:=by
    rw [Bool.and_eq_false_iff]
    rcases Int.lt_or_le a 0 with h | h
    ·exact .inl (decide_eq_false (by omega))
    ·exact .inr (decide_eq_false (by omega))
   rw [this]
   exact ⟨_,rfl,rfl⟩
theorem K7 (s:ac.D) (a:Int) (p:de.D) (e:ae.D) (h:s.1.length≤33554432):∃ b,kA s a p e=some b∧kS s a p e=some b:=by
 obtain ⟨t,h1,h2⟩:=FK s e h
 unfold kA kS
 rw [h1,h2]
 simp only [Option.bind_some,bne]
 cases (t == -1) <;> cases (p.2.1 == 1) <;> cases (t == a) <;> cases (p.2.1 == 2) <;> cases (p.2.2.2.2.1 == 0) <;> exact ⟨_,rfl,rfl⟩
theorem K8 (s:ac.D) (p:de.D) (e:ae.D) (h:s.1.length≤33554432):∃ b,kC s p e=some b∧kT s p e=some b:=by
 unfold kC kT
 simp only [th s e h,tj s e h,Option.bind_some]
 cases (p.2.2.1 == 0) <;> cases (p.2.2.1 == e.2.1) <;> exact ⟨_,rfl,rfl⟩
theorem Qf (s:ac.D) (a:Int) (p:de.D) (e:ae.D) (h:s.1.length≤33554432):∃ b,rc s a p e=some b∧ru s a p e=some b:=by
 obtain ⟨b1,p1,q1⟩:=v6 p
 obtain ⟨b2,p2,q2⟩:=K7 s a p e h
 obtain ⟨b3,p3,q3⟩:=K8 s p e h
 unfold rc ru
 simp only [p1,q1,p2,q2,p3,q3,bJ,bQ,Option.bind_some]
 cases b1 <;> cases aK e <;> cases (p.1 == e.1) <;> cases b2 <;> cases b3 <;> cases decide ((e.2.2.2.2.1:Int)≥p.2.2.2.2.2.1) <;> cases (p.2.2.2.2.2.2.1 == 0) <;> exact ⟨_,rfl,rfl⟩
theorem Ng (s:ac.D) (x:aa.D) (e:ae.D) (h1:s.1.length≤33554432) (h2:s.2.1.length≤33554432) (hl:x.2.2.2.2.2.2.1.2.2.2.2.2.2.1.length≤33554432) :
  ∃ b,rL s x e=some b∧rM s x e=some b∧(b=true→aQ x=true):=by
 obtain ⟨b1,p1,q1⟩:=S2 s x.2.1 x.2.2.2.2.2.1 h1 h2
 obtain ⟨b2,p2,q2⟩:=Qf s x.2.1 x.2.2.2.2.1 e h1
 unfold rL rM ou oJ E1 Fe
 simp only [p1,q1,p2,q2,di x hl,oV x hl,Option.bind_some]
 cases aQ x
 ·exact ⟨false,rfl,rfl,fun h=>by cases h⟩
 ·cases ((x.2.2.2.2.2.2.2.2.1:Int) != 0) <;> cases ((x.2.2.2.2.2.2.2.1:Int) == -1) <;> cases decide ((x.2.2.2.2.2.2.2.1:Int)≥s.2.2.2.1) <;> cases ((x.2.2.2.1:Int) != 0) <;> cases ((x.2.2.1:Int) == e.2.1) <;> cases ((x.2.2.1:Int) == e.2.2.1) <;> cases b1 <;> exact ⟨_,rfl,rfl,fun _=>rfl⟩
noncomputable def Eq (s:ac.D) (e:ae.D) (x:aa.D):Bool:=(rM s x e).getD false
theorem Nh (s:ac.D) (x:aa.D) (e:ae.D) (h1:s.1.length≤33554432) (h2:s.2.1.length≤33554432) (hl:x.2.2.2.2.2.2.1.2.2.2.2.2.2.1.length≤33554432):rM s x e=some (Eq s e x):=by
 obtain ⟨b,_,h,_⟩:=Ng s x e h1 h2 hl
 unfold Eq;rw [h];rfl
theorem Er (s:ac.D) (x:aa.D) (e:ae.D) (h1:s.1.length≤33554432) (h2:s.2.1.length≤33554432) (hl:x.2.2.2.2.2.2.1.2.2.2.2.2.2.1.length≤33554432):rL s x e=some (Eq s e x):=by
 obtain ⟨b,h',h,_⟩:=Ng s x e h1 h2 hl
 unfold Eq;rw [h,h'];rfl
theorem Qg (s:ac.D) (x:aa.D) (e:ae.D) (h1:s.1.length≤33554432) (h2:s.2.1.length≤33554432) (hl:x.2.2.2.2.2.2.1.2.2.2.2.2.2.1.length≤33554432) (h:Eq s e x=true):0≤x.2.2.2.1∧x.2.2.2.1≤4:=by
 obtain ⟨b,_,hb,ho⟩:=Ng s x e h1 h2 hl
 unfold Eq at h
 rw [hb] at h
 have h':=di x hl
 rw [ho h] at h'
 obtain ⟨b1,p1,q1⟩:=v6 x.2.2.2.2.1
 obtain ⟨b2,p2,q2⟩:=oU x.2.2.2.2.2.1
 obtain ⟨b3,p3,q3⟩:=zO x.2.2.2.2.2.2.1 hl
 obtain ⟨b4,p4,q4⟩:=lA x.2.2.2.2.2.2.1 x.2.2.2.2.1.1
 unfold cD cV bo at h'
 simp only [q1,q2,q3,q4,dd,Option.bind_some] at h'
 simp only [cond_eq_ite,oT,Option.bind_some] at h'
 have h':=Option.some.inj h'
 clear p1 p2 p3 p4 q1 q2 q3 q4 hl h hb ho
 generalize x.2.2.2.2.2.2.1.1=ak at *
 generalize x.1=i at *
 generalize x.2.1=ow at *
 generalize x.2.2.1=so at *
 generalize x.2.2.2.1=du at *
 generalize x.2.2.2.2.2.2.2.1=co at *
 generalize x.2.2.2.2.2.2.2.2.1=on at *
 simp at h'
 grind
theorem JM {α σ S R:Type} (xs:List α) {body:S→Option (S⊕R)} (mk:σ→Int→S) (step:σ→Nat→α→σ) (I:Nat→σ→Prop) (r:σ→R) (s0:σ) (h0:I 0 s0) (hlen:xs.length≤9223372036854775806)
  (hb:∀ s (i:Nat) x,I i s→xs[i]?=some x→body (mk s (i:Int))=some (.inl (mk (step s i x) (IntKind.wrap .i64 ((i:Int) + 1))))∧I (i + 1) (step s i x))
  (he:∀ s,I xs.length s→body (mk s (xs.length:Int))=some (.inr (r s))) :
  aw body (mk s0 0)=some (r (ee step 0 xs s0))∧I xs.length (ee step 0 xs s0):=by
 have main:∀ (l:List α) (k:Nat) (s:σ),xs.drop k=l→k≤xs.length→I k s→aw body (mk s (k:Int))=some (r (ee step k l s))∧I xs.length (ee step k l s):=by
  intro l
  induction l with
  | nil =>
   intro k s h hk hI
   have:k=xs.length:=by
    have:=congrArg List.length h
    simp at this
    omega
   subst this
   exact ⟨bb (he s hI),hI⟩
  | cons x l ih =>
   intro k s h hk hI
   have hlt:k < xs.length:=by
    have:=congrArg List.length h
    simp at this
    omega
   have hx:xs[k]?=some x:=by
    have:=congrArg (fun l=>l[0]?) h
    simpa using this
   have hr:xs.drop (k + 1)=l:=by
    have:=congrArg List.tail h
    simpa using this
   obtain ⟨h1,h2⟩:=hb s k x hI hx
   rw [aD (by omega) (by omega)] at h1
   obtain ⟨h3,h4⟩:=ih (k + 1) (step s k x) hr hlt h2
   exact ⟨aS h1 h3,h4⟩
 have:=main xs 0 s0 rfl (by omega) h0
 simpa using this
theorem Gq {α σ:Type} (step:σ→Nat→α→σ) (P:σ→Prop):∀ (xs:List α) (i:Nat) (s:σ),P s→(∀ s i x,x∈xs→P s→P (step s i x))→P (ee step i xs s)
 | [],_,_,h,_=>h
 | x :: xs,i,s,h,hs=>Gq step P xs (i + 1) _ (hs s i x (List.mem_cons_self ..) h) (fun s i y hy=>hs s i y (List.mem_cons_of_mem _ hy))
theorem JN {α σ τ:Type} (f:σ→Nat→α→σ) (g:τ→Nat→α→τ) (Q:σ→τ→Prop):∀ (xs:List α) (i:Nat) (s:σ) (t:τ),Q s t→(∀ s t i x,x∈xs→Q s t→Q (f s i x) (g t i x))→Q (ee f i xs s) (ee g i xs t)
 | [],_,_,_,h,_=>h
 | x :: xs,i,s,t,h,hs=>JN f g Q xs (i + 1) _ _ (hs s t i x (List.mem_cons_self ..) h) (fun s t i y hy=>hs s t i y (List.mem_cons_of_mem _ hy))
def Es (b:Bool) (id c:Int) (s:List Int×Int):List Int×Int :=
 if b=true then (if c > s.2 then s else if c < s.2 then ([id],c) else (s.1++[id],s.2)) else s
def Gr (b:Bool) (id c:Int) (s:List Int×Int):List Int×Int :=
 if b=true then (if s.1.length=0∨c < s.2 then ([id],c) else if c=s.2 then (s.1++[id],s.2) else s) else s
theorem TN (p:Bool) (id c:Int) (h0:p=true→0≤c∧c≤4) (a b:List Int×Int) (h:a.1=b.1∧(a.1.length=0→a.2=5)∧(a.1.length≠0→a.2=b.2)) :
  (Es p id c a).1=(Gr p id c b).1∧((Es p id c a).1.length=0→(Es p id c a).2=5)∧((Es p id c a).1.length≠0→(Es p id c a).2=(Gr p id c b).2):=by
 obtain ⟨a1,a2,a3⟩:=h
 unfold Es Gr
 by_cases hp:p=true
 ·obtain ⟨c1,c2⟩:=h0 hp
  rw [if_pos hp,if_pos hp,← a1]
  by_cases h0:a.1.length=0
  ·have:=a2 h0
   rw [if_neg (by omega),if_pos (by omega),if_pos (.inl h0)]
   exact ⟨rfl,fun h=>by simp at h,fun _=>rfl⟩
  ·have:=a3 h0
   by_cases h3:c < b.2
   ·rw [if_neg (by omega),if_pos (by omega),if_pos (.inr h3)]
    exact ⟨rfl,fun h=>by simp at h,fun _=>rfl⟩
   ·rw [if_neg (c:=a.1.length=0∨c < b.2) (by omega)]
    by_cases h4:c=b.2
    ·rw [if_neg (by omega),if_neg (by omega),if_pos h4]
     exact ⟨by rfl,fun h=>by simp at h,fun _=>this⟩
    ·rw [if_pos (by omega),if_neg h4]
     exact ⟨a1,a2,a3⟩
 ·rw [if_neg hp,if_neg hp]
  exact ⟨a1,a2,a3⟩
def TO (p:aa.D→Bool) (s:List Int×Int) (_:Nat) (x:aa.D):List Int×Int:=Es (p x) x.1 x.2.2.2.1 s
def JO (p:aa.D→Bool) (s:List Int×Int) (_:Nat) (x:aa.D):List Int×Int:=Gr (p x) x.1 x.2.2.2.1 s
noncomputable def qm (s:ac.D) (e:ae.D) (u:List Int) (x:aa.D):Bool:=!decide (x.1∈u) && Eq s e x
noncomputable def O5 (s:ac.D) (xs:List aa.D) (e:ae.D) (u:List Int):List Int:=(ee (JO (qm s e u)) 0 xs ([],0)).1
theorem Hk (s:ac.D) (xs:List aa.D) (e:ae.D) (u:List Int) (h1:s.1.length≤33554432) (h2:s.2.1.length≤33554432) (hx:okD (.slice aa) xs) (hu:u.length≤33554432) :
  rv s xs e u=some (O5 s xs e u):=by
 have hl:xs.length≤33554432:=hx.1
 have:=(JM xs (body:=kU s xs e u) (fun (t:List Int×Int) i=>(t.1,t.2,i)) (JO (qm s e u)) (fun i t=>t.1.length≤i) (fun t=>(t.1,t.2,(xs.length:Int))) ([],0) (by simp) (by omega) (fun t i x hI hi=>⟨?_,?_⟩) (fun t hI=>?_)).1
 ·unfold rv
  rw [this]
  rfl
 ·have hlt:=(List.getElem?_eq_some_iff.1 hi).1
  have hil:((i:Int) < (xs.length:Int)):=by omega
  have hok:=(hx.2 x (List.mem_of_getElem? hi)).2.2.2.2.2.2.1.2.2.2.2.2.2.1.1
  unfold kU JO Gr qm
  simp only [hil,decide_true,cond_true,aJ hi,O0 u _ hu,O3,Nh s x e h1 h2 hok,Option.bind_some]
  by_cases hm:x.1∈u
  ·simp only [hm,decide_true,cond_true,Option.bind_some,Bool.not_true,Bool.false_and,Bool.false_eq_true,if_false]
  ·cases hf:Eq s e x
   ·simp only [hm,decide_false,cond_true,cond_false,Option.bind_some,Bool.not_false,Bool.and_false,Bool.false_eq_true,if_false]
   ·simp only [hm,decide_false,cond_false,Option.bind_some,Bool.not_false,Bool.not_true,Bool.and_self,if_true]
    have r1:∀ (l:List Int),l.length≤i→(l.length + [x.1].length) * (24 * 1)≤aG:=fun l h=>by simp only [aG,List.length_cons,List.length_nil];omega
    by_cases h0:t.1.length=0
    ·have:((t.1.length:Int) == 0)=true:=by rw [h0];rfl
     rw [if_pos (Or.inl h0)]
     simp only [this,cond_true,Option.bind_some,Int.le_refl,if_true,Int.natCast_nonneg,beq_self_eq_true]
     rw [if_pos (r1 _ (by simp))]
     simp
    ·have:((t.1.length:Int) == 0)=false:=by rw [beq_eq_false_iff_ne];omega
     simp only [this,cond_false,Option.bind_some]
     by_cases h3:x.2.2.2.1 < t.2
     ·simp only [h3,decide_true,cond_true,Int.le_refl,if_true,or_true]
      rw [if_pos (by omega)]
      simp only [Option.bind_some,beq_self_eq_true,cond_true]
      rw [if_pos (r1 _ (by simp))]
      simp
     ·simp only [h3,decide_false,cond_false,Option.bind_some,h0,or_self,if_false]
      by_cases h4:x.2.2.2.1=t.2
      ·have:((x.2.2.2.1:Int) == t.2)=true:=by rw [h4];simp
       simp only [this,cond_true]
       rw [if_pos h4,if_pos (r1 _ hI)]
      ·have:((x.2.2.2.1:Int) == t.2)=false:=by rw [beq_eq_false_iff_ne];exact h4
       simp only [this,cond_false,h4,if_false]
 ·unfold JO Gr
  split
  ·split
   ·simp
   ·split
    ·simp only [List.length_append,List.length_cons,List.length_nil];omega
    ·omega
  ·omega
 ·unfold kU
  simp
theorem Hl (s:ac.D) (xs:List aa.D) (e:ae.D) (u v:List Int) (h1:s.1.length≤33554432) (h2:s.2.1.length≤33554432) (hx:okD (.slice aa) xs) (hu:u.length≤33554432) (huv:∀ a,a∈u↔a∈v) :
  rg s xs e u=some (O5 s xs e v):=by
 have hl:xs.length≤33554432:=hx.1
 have hop:qm s e u=qm s e v:=by
  funext x
  unfold qm
  rw [show decide (x.1∈u)=decide (x.1∈v) from decide_eq_decide.2 (huv _)]
 have:=(JM xs (body:=kJ s xs e u) (fun (t:List Int×Int) i=>(t.1,t.2,i)) (TO (qm s e u)) (fun i t=>t.1.length≤i) (fun t=>(t.1,t.2,(xs.length:Int))) ([],5) (by simp) (by omega) (fun t i x hI hi=>⟨?_,?_⟩) (fun t hI=>?_)).1
 ·unfold rg
  rw [this,Option.bind_some]
  have hr:=JN (TO (qm s e u)) (JO (qm s e u)) (fun (a b:List Int×Int)=>a.1=b.1∧(a.1.length=0→a.2=5)∧(a.1.length≠0→a.2=b.2)) xs 0 ([],5) ([],0) ⟨rfl,fun _=>rfl,fun h=>absurd rfl h⟩ (fun a b i x hm hab=>?_)
  ·unfold O5
   rw [← hop]
   simp only
   rw [hr.1]
  ·have hok:=(hx.2 x hm).2.2.2.2.2.2.1.2.2.2.2.2.2.1.1
   exact TN (qm s e u x) x.1 x.2.2.2.1 (fun hp=>Qg s x e h1 h2 hok (by unfold qm at hp;simp at hp;exact hp.2)) a b hab
 ·have hlt:=(List.getElem?_eq_some_iff.1 hi).1
  have hil:((i:Int) < (xs.length:Int)):=by omega
  have hok:=(hx.2 x (List.mem_of_getElem? hi)).2.2.2.2.2.2.1.2.2.2.2.2.2.1.1
  unfold kJ TO Es qm
  simp only [hil,decide_true,cond_true,aJ hi,zT u _ hu,CD,Er s x e h1 h2 hok,Option.bind_some]
  have r1:∀ (l:List Int),l.length≤i→(l.length + [x.1].length) * (24 * 1)≤aG:=fun l h=>by simp only [aG,List.length_cons,List.length_nil];omega
  by_cases hm:x.1∈u
  ·simp only [hm,decide_true,cond_true,Option.bind_some,Bool.not_true,Bool.false_and,Bool.false_eq_true,if_false]
  ·cases hf:Eq s e x
   ·simp only [hm,decide_false,cond_true,cond_false,Option.bind_some,Bool.not_false,Bool.and_false,Bool.false_eq_true,if_false]
   ·simp only [hm,decide_false,cond_false,Option.bind_some,Bool.not_false,Bool.not_true,Bool.and_self,if_true]
    by_cases h3:x.2.2.2.1 > t.2
    ·simp only [h3,decide_true,cond_true,Option.bind_some,if_true]
    ·simp only [h3,decide_false,cond_false,Option.bind_some,if_false]
     by_cases h4:x.2.2.2.1 < t.2
     ·simp only [h4,decide_true,cond_true,Option.bind_some,if_true]
      rw [if_pos (r1 _ (by simp))]
      rfl
     ·simp only [h4,decide_false,cond_false,Option.bind_some,if_false]
      rw [if_pos (r1 _ hI)]
      rfl
 ·unfold TO Es
  split
  ·split
   ·omega
   ·split
    ·simp
    ·simp only [List.length_append,List.length_cons,List.length_nil];omega
  ·omega
 ·unfold kJ
  simp
theorem S3 (s:ac.D) (xs:List aa.D) (e:ae.D) (u:List Int):∀ a∈O5 s xs e u,a∈xs.map (fun (x:aa.D)=>x.1)∧a ∉ u:=by
 unfold O5
 refine Gq (JO (qm s e u)) (fun t=>∀ a∈t.1,a∈xs.map (fun (x:aa.D)=>x.1)∧a ∉ u) xs 0 ([],0) (fun a h=>by cases h) (fun t i x hm ht=>?_)
 unfold JO Gr
 split
 ·rename_i hp
  have hx:x.1∈xs.map (fun (x:aa.D)=>x.1)∧x.1 ∉ u:=⟨List.mem_map.2 ⟨x,hm,rfl⟩,by unfold qm at hp;simp at hp;exact hp.1⟩
  split
  ·intro a ha
   simp only [List.mem_singleton] at ha
   subst ha;exact hx
  ·split
   ·intro a ha
    rcases List.mem_append.1 ha with h | h
    ·exact ht a h
    ·simp only [List.mem_singleton] at h
     subst h;exact hx
   ·exact ht
 ·exact ht
theorem S4 (s:ac.D) (xs:List aa.D) (e:ae.D) (u:List Int) (h1:s.1.length≤33554432) (h2:s.2.1.length≤33554432) (hx:okD (.slice aa) xs):(O5 s xs e u).length≤xs.length:=by
 have:∀ (l:List aa.D) (i:Nat) (t:List Int×Int),(ee (JO (qm s e u)) i l t).1.length≤t.1.length + l.length:=by
  intro l
  induction l with
  | nil=>intro i t;simp [ee]
  | cons x l ih =>
   intro i t
   unfold ee
   have:=ih (i + 1) (JO (qm s e u) t i x)
   have h2:(JO (qm s e u) t i x).1.length≤t.1.length + 1:=by
    unfold JO Gr
    split
    ·split
     ·simp
     ·split
      ·simp
      ·omega
    ·omega
   simp only [List.length_cons]
   omega
 have:=this xs 0 ([],0)
 unfold O5
 simpa using this
def zW (xs:List aa.D) (a:Int):Int:=match bS (fun (x:aa.D)=>x.1 == a) xs with | some k=>(k:Int) | none=>-1
theorem Et (xs:List aa.D) (hl:xs.length≤33554432) (p:aa.D→Bool) (q:(aa.D×Unit)→Option Bool) (hq:∀ x∈xs,q (x,())=some (p x)) :
  bI xs q=some (match bS p xs with | some k=>(k:Int) | none=>-1):=by
 unfold bI
 rw [d9 xs (body:=cw xs q) p (fun i=>i) (by omega) (fun i x hx=>?_) ?_]
 ·cases bS p xs <;> rfl
 ·unfold cw
  simp
 ·unfold cw
  have hlt:=(List.getElem?_eq_some_iff.1 hx).1
  have:((i:Int) < (xs.length:Int)):=by omega
  simp only [this,decide_true,cond_true,aJ hx,hq x (List.mem_of_getElem? hx),Option.bind_some]
theorem jJ (xs:List aa.D) (a:Int) (hl:xs.length≤33554432):gn xs a=some (zW xs a):=by
 unfold gn zW
 rw [Et xs hl (fun (x:aa.D)=>x.1 == a) _ (fun x _=>rfl)]
 rfl
theorem jK (xs:List aa.D) (a:Int) (hl:xs.length≤33554432):gk xs a=some (zW xs a):=by
 unfold gk zW
 rw [d9 xs (body:=jt xs a) (fun (x:aa.D)=>x.1 == a) (fun i=>i) (by omega) (fun i x hx=>?_) ?_]
 ·cases bS (fun (x:aa.D)=>x.1 == a) xs <;> rfl
 ·unfold jt
  simp
 ·unfold jt
  have hlt:=(List.getElem?_eq_some_iff.1 hx).1
  have:((i:Int) < (xs.length:Int)):=by omega
  simp only [this,decide_true,cond_true,aJ hx]
theorem LK (xs:List aa.D) (a:Int) (h:a∈xs.map (fun (x:aa.D)=>x.1)):∃ (k:Nat) (x:aa.D),zW xs a=k∧xs[k]?=some x∧x.1=a:=by
 unfold zW
 obtain ⟨h1,h2⟩:=eT (fun (x:aa.D)=>x.1 == a) xs
 cases hf:bS (fun (x:aa.D)=>x.1 == a) xs with
 | none =>
  obtain ⟨x,hx,rfl⟩:=List.mem_map.1 h
  have:=h1 hf x hx
  simp at this
 | some k =>
  obtain ⟨x,g1,g2,_⟩:=h2 k hf
  exact ⟨k,x,rfl,g1,by simpa using g2⟩
theorem kx (y:aa.D) (h:y.2.2.2.2.2.2.1.2.2.2.2.2.2.1.length≤33554432):okD aa y :=
 ⟨trivial,trivial,trivial,trivial,fL _ rfl _,fL _ rfl _,⟨trivial,trivial,trivial,trivial,trivial,trivial,⟨h,fun x _=>fL _ rfl x⟩,trivial⟩,trivial,trivial,trivial⟩
theorem Rw (xs:List aa.D) (y x:aa.D) (k:Nat) (hx:okD (.slice aa) xs) (hy:y.2.2.2.2.2.2.1.2.2.2.2.2.2.1.length≤33554432) (h1:zW xs y.1=k) (h2:xs[k]?=some x) (h3:x.1=y.1) :
  ug xs y=some (xs.set k y)∧uu xs y=some (xs.set k y)∧okD (.slice aa) (xs.set k y)∧(xs.set k y).map (fun (x:aa.D)=>x.1)=xs.map (fun (x:aa.D)=>x.1):=by
 have hl:xs.length≤33554432:=hx.1
 refine ⟨?_,?_,⟨by rw [List.length_set];exact hl,fun z hz=>?_⟩,?_⟩
 ·unfold ug
  rw [ce xs hx,Option.bind_some,jK xs _ hl,Option.bind_some,h1,decide_eq_true (by omega)]
  simp only [cond_true,fE y hy,Option.bind_some,aJ h2,Int.toNat_natCast,h2]
 ·unfold uu
  rw [dQ xs hx,Option.bind_some,jJ xs _ hl,Option.bind_some,h1,decide_eq_true (by omega)]
  simp only [cond_true,ir y hy,Option.bind_some,aJ h2,Int.toNat_natCast,h2]
 ·rcases List.mem_or_eq_of_mem_set hz with h | rfl
  ·exact hx.2 z h
  ·exact kx _ hy
 ·rw [List.map_set]
  refine List.ext_getElem? fun i=>?_
  rw [List.getElem?_set]
  split
  ·rename_i he
   subst he
   have hk:=(List.getElem?_eq_some_iff.1 h2).1
   rw [if_pos (by rw [List.length_map];exact hk),List.getElem?_map,h2,← h3]
   rfl
  ·rfl
theorem Ni {l:List Int} (h:l.Nodup) {k:Nat} {x:Int} (hx:l[k]?=some x):x ∉ l.take k∧(l.take k++[x])=l.take (k + 1):=by
 have hk:=(List.getElem?_eq_some_iff.1 hx).1
 have he:=(List.getElem?_eq_some_iff.1 hx).2
 have h2:l.take (k + 1)=l.take k++[x]:=by rw [← he,List.take_succ_eq_append_getElem hk]
 refine ⟨fun hm=>?_,h2.symm⟩
 have hn:(l.take k++[x]).Nodup:=by rw [← h2];exact List.Sublist.nodup (List.take_sublist _ _) h
 rw [List.nodup_append] at hn
 exact hn.2.2 x hm x (by simp) rfl
theorem K9 (l:List Int) (hl:l.length≤1000) (hn:l.Nodup):∃ r,wB l=some r∧r.Perm l:=by
 obtain ⟨q,h1,h2⟩:=rK (body:=uT l) (fun s=>l.length - s.2.toNat) (fun s=>∃ k:Nat,s.2=k∧k≤l.length∧s.1.Perm (l.take k)) (fun s=>s.1.Perm l) (by
  rintro ⟨out,i⟩ ⟨k,rfl,hk,hp⟩
  simp only at hp ⊢
  have hol:out.length≤1000:=by rw [hp.length_eq,List.length_take];omega
  unfold uT
  by_cases hlt:((k:Int) < (l.length:Int))
  ·have hkl:k < l.length:=by omega
   obtain ⟨x,hx⟩:∃ x,l[k]?=some x:=⟨_,List.getElem?_eq_getElem hkl⟩
   obtain ⟨n1,n2⟩:=Ni hn hx
   have hno:x ∉ out:=fun h=>n1 (hp.mem_iff.1 h)
   obtain ⟨o,w1,w2⟩:=rK (body:=uR l (out,(k:Int))) (fun s=>s.toNat) (fun s=>0≤s∧s≤out.length) (fun s=>0≤s∧s≤out.length) (by
    rintro j ⟨j0,j1⟩
    unfold uR
    by_cases hj:j > 0
    ·obtain ⟨m,rfl⟩:∃ m:Nat,j=(m:Int) + 1:=⟨(j - 1).toNat,by omega⟩
     have hm:m < out.length:=by omega
     obtain ⟨y,hy⟩:∃ y,out[m]?=some y:=⟨_,List.getElem?_eq_getElem hm⟩
     have hw:IntKind.wrap .i64 ((m:Int) + 1 - 1)=(m:Int):=by rw [aD (by omega) (by omega)];omega
     simp only [hj,decide_true,cond_true,hw,aJ hy,Int.toNat_natCast,hy,Option.bind_some,aJ hx]
     by_cases hyx:y > x
     ·left
      simp only [hyx,decide_true,cond_true]
      exact ⟨_,rfl,⟨by omega,by omega⟩,by omega⟩
     ·right
      simp only [hyx,decide_false,cond_false]
      exact ⟨_,rfl,j0,j1⟩
    ·right
     simp only [hj,decide_false,cond_false,Option.bind_some]
     exact ⟨_,rfl,j0,j1⟩) (out.length:Int) ⟨by omega,by omega⟩
   obtain ⟨m,rfl⟩:=Int.eq_ofNat_of_zero_le w2.1
   have hm:m≤out.length:=by omega
   left
   have hh:out.any (fun y=>y == x)=false:=by rw [CD,decide_eq_false hno]
   simp only [hlt,decide_true,cond_true,aJ hx,zT out x (by omega),hh,Option.bind_some,cond_false,w1,Int.le_refl,if_true,w2.1,w2.2]
   rw [if_pos (by simp only [aG,List.length_append,List.length_take,List.length_drop,List.length_nil];omega),if_pos (by simp only [aG,List.length_append,List.length_take,List.length_drop,List.length_nil,List.length_cons];omega),if_pos (by simp only [aG,List.length_append,List.length_take,List.length_drop,List.length_nil,List.length_cons];omega)]
   refine ⟨_,rfl,⟨k + 1,by simp only;rw [aD (by omega) (by omega)];omega,by omega,?_⟩,?_⟩
   ·simp only [Int.toNat_natCast,List.nil_append]
    have e1:(List.drop (0:Int).toNat (List.take m out))=out.take m:=rfl
    have e2:List.take out.length out=out:=List.take_length
    rw [e1,e2]
    refine (O2 out m x).trans ?_
    rw [← n2]
    exact List.Perm.append_right _ hp
   ·simp only
    rw [aD (by omega) (by omega)]
    omega
  ·right
   simp only [hlt,decide_false,cond_false]
   have:k=l.length:=by omega
   subst this
   rw [List.take_length] at hp
   exact ⟨_,rfl,hp⟩) ([],0) ⟨0,rfl,Nat.zero_le _,by simp⟩
 unfold wB
 rw [h1]
 exact ⟨_,rfl,h2⟩
theorem Nj (u:List Int) (a:Int) (hl:u.length≤900) (hn:(u++[a]).Nodup):∃ r,Ak u a=some r∧r.Perm (u++[a]):=by
 obtain ⟨r,h1,h2⟩:=K9 (u++[a]) (by simp;omega) hn
 unfold Ak
 rw [if_pos (by simp only [aG,List.length_nil];omega),if_pos (by simp only [aG,List.nil_append,List.length_cons,List.length_nil];omega),List.nil_append,h1]
 exact ⟨r,rfl,h2⟩
theorem TP (pl mi:Int) (h1:0≤pl∧pl≤2147483647) (h2:0≤mi∧mi≤2147483647):(0≤IntKind.wrap .i64 (pl - (if mi < pl then mi else pl))∧IntKind.wrap .i64 (pl - (if mi < pl then mi else pl))≤2147483647)∧(0≤IntKind.wrap .i64 (mi - (if mi < pl then mi else pl))∧IntKind.wrap .i64 (mi - (if mi < pl then mi else pl))≤2147483647):=by
 split
 ·rw [aD (by omega) (by omega),aD (by omega) (by omega)];omega
 ·rw [aD (by omega) (by omega),aD (by omega) (by omega)];omega
theorem Rx (s:ac.D) (h:tQ s) (x:ai.D) (hx:D7 s x):(nu s.2.2.2.1 x).1=x.1∧D7 s (nu s.2.2.2.1 x):=by
 unfold nu
 cases hd:jH x
 ·cases hp:rH x
  ·exact ⟨rfl,hx⟩
  ·refine ⟨rfl,?_⟩
   obtain ⟨h1,h2,h3,h4⟩:=hx
   obtain ⟨k0,k9⟩:=(eI x.1 x.2.1 x.2.2.1 x.2.2.2.1 x.2.2.2.2.1 x.2.2.2.2.2.1 x.2.2.2.2.2.2.1 x.2.2.2.2.2.2.2.1 x.2.2.2.2.2.2.2.2.1 x.2.2.2.2.2.2.2.2.2.1 x.2.2.2.2.2.2.2.2.2.2.1 x.2.2.2.2.2.2.2.2.2.2.2.1 x.2.2.2.2.2.2.2.2.2.2.2.2.1 x.2.2.2.2.2.2.2.2.2.2.2.2.2).1 h1
   have hz:x.2.2.2.1=2:=by unfold rH at hp;rw [Bool.and_eq_true] at hp;simpa using hp.1
   rcases k9 with ⟨_,g1,g2,g3⟩ | ⟨g,_⟩
   ·have:=TP _ _ g1 g2
    exact ⟨(eI _ _ _ _ _ _ _ _ _ _ _ _ _ _).2 ⟨k0,.inl ⟨hz,this.1,this.2,g3⟩⟩,h2,h3,h4⟩
   ·exact absurd hz g
 ·exact ⟨rfl,Jv s h 3 (by decide) x hx⟩
theorem S5 (x:ay.D) (h:dW x=true):dW (v8 x)=true:=by
 unfold v8
 cases zR x
 ·exact h
 ·exact h
theorem O6 (s:ac.D) (h:aT s=true):aT (dv s).1=true:=by
 have hs:=(dk s).1 h
 unfold dv
 rw [if_pos h]
 refine (dk _).2 ?_
 have h1:=Gl hs (s.1.map (nu s.2.2.2.1)) (by simp) fun i x y hx hy=>by
  rw [List.getElem?_map,hx] at hy
  cases hy
  exact Rx s hs x (hs.2.2.1 i x hx)
 exact Ju h1 (s.2.1.map v8) (by simp) fun x hx=>by
  obtain ⟨y,hy,rfl⟩:=List.mem_map.1 hx
  exact S5 y (hs.2.2.2.2 y hy)
theorem O7 (t:ac.D) (x:ai.D) (hz:(x.2.2.2.1 == 2)=true) (hx:D7 t x) (pl mi:Int) (h1:0≤pl∧pl≤2147483647) (h2:0≤mi∧mi≤2147483647):D7 t (x.1,x.2.1,x.2.2.1,x.2.2.2.1,x.2.2.2.2.1,x.2.2.2.2.2.1,x.2.2.2.2.2.2.1,x.2.2.2.2.2.2.2.1,pl,mi,x.2.2.2.2.2.2.2.2.2.2):=by
 obtain ⟨g1,g2,g3,g4⟩:=hx
 obtain ⟨k0,k9⟩:=(eI x.1 x.2.1 x.2.2.1 x.2.2.2.1 x.2.2.2.2.1 x.2.2.2.2.2.1 x.2.2.2.2.2.2.1 x.2.2.2.2.2.2.2.1 x.2.2.2.2.2.2.2.2.1 x.2.2.2.2.2.2.2.2.2.1 x.2.2.2.2.2.2.2.2.2.2.1 x.2.2.2.2.2.2.2.2.2.2.2.1 x.2.2.2.2.2.2.2.2.2.2.2.2.1 x.2.2.2.2.2.2.2.2.2.2.2.2.2).1 g1
 have hz':x.2.2.2.1=2:=by simpa using hz
 rcases k9 with ⟨_,a1,a2,a3⟩ | ⟨g,_⟩
 ·exact ⟨(eI _ _ _ _ _ _ _ _ _ _ _ _ _ _).2 ⟨k0,.inl ⟨hz',h1,h2,a3⟩⟩,g2,g3,g4⟩
 ·exact absurd hz' g
theorem O8 {t:ac.D} {x:ai.D} (hz:(x.2.2.2.1 == 2)=true) (hx:D7 t x):(0≤x.2.2.2.2.2.2.2.2.1∧x.2.2.2.2.2.2.2.2.1≤2147483647)∧(0≤x.2.2.2.2.2.2.2.2.2.1∧x.2.2.2.2.2.2.2.2.2.1≤2147483647):=by
 obtain ⟨k0,k9⟩:=(eI x.1 x.2.1 x.2.2.1 x.2.2.2.1 x.2.2.2.2.1 x.2.2.2.2.2.1 x.2.2.2.2.2.2.1 x.2.2.2.2.2.2.2.1 x.2.2.2.2.2.2.2.2.1 x.2.2.2.2.2.2.2.2.2.1 x.2.2.2.2.2.2.2.2.2.2.1 x.2.2.2.2.2.2.2.2.2.2.2.1 x.2.2.2.2.2.2.2.2.2.2.2.2.1 x.2.2.2.2.2.2.2.2.2.2.2.2.2).1 hx.1
 have hz':x.2.2.2.1=2:=by simpa using hz
 rcases k9 with ⟨_,a1,a2,a3⟩ | ⟨g,_⟩
 ·exact ⟨a1,a2⟩
 ·exact absurd hz' g
theorem Qh {s t:ac.D} {v:ae.D} {y:ac.D×(aq.D×Unit)} (h:OS s t v y) (ht:tQ t):tQ y.1:=by
 rcases h with ⟨_,b2,b4,r,hr,rfl⟩ | ⟨_,r,hr,hy⟩ | ⟨_,_,r,hr,rfl⟩
 ·obtain ⟨⟨ps,ss,tl⟩,n',u'⟩:=r
  rcases hr with ⟨_,h,_⟩ | ⟨_,h0,_,he,⟨_,h1,j,x,_,hx,h2⟩ | ⟨_,i,x,_,hx,hz,h1,h2⟩⟩
  ·have h:((ps,ss,tl):ac.D)=t:=h
   show tQ (ps,ss,tl)
   rw [h];exact ht
  ·have h1:ps=t.1:=h1
   have h0:tl=t.2.2:=h0
   subst h1 h0
   have hn:=As he
   have:=Aq ht (j:=j) (Hv b2 v.2.2.2.2.1 x) (P4 b2 _ hn x (ht.2.2.2.2 x (List.mem_of_getElem? hx)))
   exact Jw this h2
  ·have h1:ps=t.1.set i (Hw b2 b4 (decide (v.2.2.2.2.1≥1)) v.2.2.2.2.1 x):=h1
   have h0:tl=t.2.2:=h0
   subst h1 h0
   have hn:=As he
   have:=D8 ht hx (Hw b2 b4 (decide (v.2.2.2.2.1≥1)) v.2.2.2.2.1 x) rfl (P5 t b2 b4 _ _ hn x hz (ht.2.2.1 i x hx))
   exact Jw this h2
 ·rcases hy with ⟨_,rfl⟩ | ⟨hb,k,x,_,_,rfl⟩
  ·exact ht
  ·rcases hr with ⟨q1,_⟩ | ⟨_,q2,q3,q4,k,x,q5,q6,_,_,q9⟩
   ·rw [q1] at hb;cases hb
   ·simp only [q9]
    exact (dk _).1 (OQ t v k x q2 q3 q4 q5 q6).1
 ·rcases hr with ⟨_,h⟩ | ⟨_,_,he,⟨j,x,⟨_,_,hx⟩,⟨_,h⟩ | ⟨_,h⟩⟩ | ⟨i,x,⟨_,hx,hz⟩,⟨_,h⟩ | ⟨_,h⟩⟩⟩
  ·simp only [h];exact ht
  ·simp only [h]
   exact Aq ht _ (w8 x _ (ht.2.2.2.2 x (List.mem_of_getElem? hx)) (gU _ _).1 (gU _ _).2)
  ·simp only [h]
   exact Aq ht _ (w8 x _ (ht.2.2.2.2 x (List.mem_of_getElem? hx)) (D9 _ _).1 (D9 _ _).2)
  ·simp only [h]
   have hn:=As (k:=v.1) (sr:=v.2.1) (p:=v.2.2.1) (d:=v.2.2.2.1) (n:=v.2.2.2.2.1) (z:=v.2.2.2.2.2.1) (bt:=v.2.2.2.2.2.2.1) (u:=v.2.2.2.2.2.2.2) he
   have hr:=O8 hz (ht.2.2.1 i x hx)
   exact D8 ht hx _ rfl (O7 t x hz (ht.2.2.1 i x hx) _ _ ⟨nq hr.1.1 hn,(gU _ _).2⟩ hr.2)
  ·simp only [h]
   have hn:=As (k:=v.1) (sr:=v.2.1) (p:=v.2.2.1) (d:=v.2.2.2.1) (n:=v.2.2.2.2.1) (z:=v.2.2.2.2.2.1) (bt:=v.2.2.2.2.2.2.1) (u:=v.2.2.2.2.2.2.2) he
   have hr:=O8 hz (ht.2.2.1 i x hx)
   exact D8 ht hx _ rfl (O7 t x hz (ht.2.2.1 i x hx) _ _ hr.1 ⟨nq hr.2.1 hn,(gU _ _).2⟩)
def zX (n:aq.D):Int:=(if n.1=4 then tt n.2.1 else 0) + (if n.1=1 then n.2.2.1 else 0)
theorem Ry {s t:ac.D} {v:ae.D} {y:ac.D×(aq.D×Unit)} (h:OS s t v y):zX y.2.1=tt v∧(y.2.1.1=1→0≤y.2.1.2.2.1∧y.2.1.2.2.1≤2147483647):=by
 rcases h with ⟨hk,b2,b4,r,hr,rfl⟩ | ⟨hk,r,hr,hy⟩ | ⟨hk,_,r,hr,rfl⟩
 ·simp only
  rcases hr with ⟨h0,_,_⟩ | ⟨h0,_,_,he,_⟩
  ·rw [if_neg (by omega)]
   exact ⟨by unfold zX tt;simp,fun h=>by simp at h⟩
  ·have he':aK v=true:=he
   obtain ⟨m1,m2⟩:=kv he'
   by_cases hn:r.2.1≥1
   ·rw [if_pos hn]
    refine ⟨?_,fun _=>?_⟩
    ·unfold zX tt
     rw [if_pos hk,Eh m1 m2,h0]
     simp
    ·simp only [h0];exact ⟨m1,m2⟩
   ·rw [if_neg hn]
    exact ⟨by unfold zX tt;simp,fun h=>by simp at h⟩
 ·have hk1:¬ v.1=1:=by rw [hk];decide
  rcases hy with ⟨_,rfl⟩ | ⟨_,k,x,_,_,rfl⟩
  ·exact ⟨by unfold zX tt;simp,fun h=>by simp at h⟩
  ·exact ⟨by unfold zX tt;simp [hk1],fun h=>by simp at h⟩
 ·simp only
  split
  ·exact ⟨by unfold zX tt;simp [hk],fun h=>by simp at h⟩
  ·exact ⟨by unfold zX tt;simp,fun h=>by simp at h⟩
theorem Gs (s:ac.D) (hs:s.1.length≤33554432) (hs2:s.2.1.length≤33554432):∀ (vs:List ae.D) (q:List aq.D×ac.D),CI s q→(∀ n∈q.1,n.1=1→0≤n.2.2.1∧n.2.2.1≤2147483647) →
  CI s (vs.foldl (ku s) q)∧(tQ q.2→tQ (vs.foldl (ku s) q).2)∧((vs.foldl (ku s) q).1.map zX).sum=(q.1.map zX).sum + (vs.map tt).sum∧(∀ n∈(vs.foldl (ku s) q).1,n.1=1→0≤n.2.2.1∧n.2.2.1≤2147483647)
 | [],q,h,hn=>⟨h,id,by simp,hn⟩
 | v :: vs,q,h,hn=>by
  have hp:=(zP s q.2 v hs (by rw [h.2.1.1];exact hs) (by rw [h.2.1.2];exact hs2) h.1).2.2.2
  obtain ⟨n1,n2⟩:=Ry hp
  obtain ⟨k1,k2,k3,k4⟩:=Gs s hs hs2 vs (ku s q v) (h.step v hs hs2) (fun n hm=>by
   unfold ku at hm
   rcases List.mem_append.1 hm with hm | hm
   ·exact hn n hm
   ·rw [List.mem_singleton.1 hm];exact n2)
  refine ⟨k1,fun ho=>k2 (Qh hp ho),?_,k4⟩
  simp only [List.foldl_cons]
  rw [k3]
  unfold ku
  simp only [List.map_append,List.map_cons,List.map_nil,List.sum_append,List.sum_cons,List.sum_nil,n1]
  omega
theorem LL (f:ae.D→Int) (p:ae.D→Bool):∀ (l:List ae.D),((l.filter p).map f).sum + ((l.filter fun x=>!p x).map f).sum=(l.map f).sum
 | []=>rfl
 | a :: l=>by
  have:=LL f p l
  cases h:p a <;> simp [h] <;> omega
theorem Qi (s:ac.D) (es:List ae.D) (hs:s.1.length≤33554432) (hs2:s.2.1.length≤33554432) :
  CI s (le s es)∧(tQ s→tQ (le s es).2)∧((le s es).1.map zX).sum=(es.map tt).sum∧(∀ n∈(le s es).1,n.1=1→0≤n.2.2.1∧n.2.2.1≤2147483647):=by
 obtain ⟨k1,k2,k3,k4⟩:=Gs s hs hs2 (nr es++qK es) ([],s) ⟨rfl,⟨rfl,rfl⟩,rfl⟩ (by simp)
 refine ⟨k1,k2,?_,k4⟩
 have:=LL tt (fun v=>v.1 == 2) es
 rw [show (le s es).1=((nr es++qK es).foldl (ku s) ([],s)).1 from rfl,k3]
 simp only [List.map_nil,List.sum_nil,List.map_append,List.sum_append]
 unfold nr qK bne
 omega
theorem O9 (l:List ah.D):∀ (rem done cs:List Int),(done++rem).Nodup→((tx l rem cs).2++hU l (done++rem)).Perm (hU l done)
 | [],done,cs,_=>by simp [tx]
 | s :: rem,done,cs,hn=>by
  have hnd:s ∉ done:=by
   rw [List.nodup_append] at hn
   exact fun hm=>hn.2.2 s hm s (by simp) rfl
  obtain ⟨p1,p2⟩:=uF _ cs (l.filter fun x=>x.2.1 == s) rfl
  have ih:=O9 l rem (done++[s]) (eJ (l.filter fun x=>x.2.1 == s).length cs (l.filter fun x=>x.2.1 == s)).1 (by simpa using hn)
  have hp:((hU l done).filter (fun x=>x.2.1 == s)++(hU l done).filter (fun x=>!(x.2.1 == s))).Perm (hU l done):=List.filter_append_perm _ _
  rw [JE l done s hnd,FJ l done s] at hp
  simp only [List.append_assoc,List.singleton_append] at ih
  unfold tx
  rw [List.append_assoc]
  exact (p1.append ih).trans hp
theorem Eu (s:ac.D) (l:List ah.D) (cs:List Int) (hs:s.2.1.length≤33554432):(kw s l cs).1.Perm l:=by
 have:=O9 l (cZ s) [] cs (by simpa using El s hs)
 have hk0:hU l []=l:=by unfold hU;simp
 rw [hk0,List.nil_append] at this
 exact this
theorem FL (a b:List Int) (h:a.length≤33554432):pv a b=some (eqD (.slice (.int .i64)) a b):=by
 unfold pv
 exact i6 (t:=.int .i64) rfl a b (e:=fun (x y:Int)=>x == y) (fun _ _=>rfl) (by omega) (fun i=>rfl)
theorem TQ (a b:List Int) (h:b <:+ a) (hl:a.length≤33554432):Ao a b=some true:=by
 have hle:=h.length_le
 unfold Ao
 rw [decide_eq_true (by omega:(b.length:Int)≤(a.length:Int)),aD (by omega) (by omega)]
 simp only [cond_true]
 rw [if_pos (by omega),if_pos (by omega),if_pos (by omega)]
 have e:(a.take (a.length:Int).toNat).drop ((a.length:Int) - (b.length:Int)).toNat=b:=by
  rw [Int.toNat_natCast,List.take_length,show ((a.length:Int) - (b.length:Int)).toNat=a.length - b.length by omega]
  obtain ⟨t,rfl⟩:=h
  simp
 rw [e,FL b b (by omega),mn (t:=.slice (.int .i64)) rfl]
 rfl
theorem Nk (i sd pk oo:Int) (b:ae.D) (af:List ae.D) (st dp:Int) (u:Unit) (h1:1≤i∧i≤99) (h2:0≤sd∧sd≤2) (h3:1≤oo∧oo≤5) (h4:0≤pk∧pk < oo) (h5:aK b=true) (h6:af.length≤3) (h7:0≤st∧st≤2147483647) (h8:0≤dp∧dp≤4) (h9:∀ e∈af,aK e=true):dr (i,sd,pk,oo,b,af,st,dp,u)=true:=by
 have hC:aR af (fun q=>iD q.1)=some (af.any (fun e=>!aK e)):=jm af (by omega) (fun e=>!aK e) _ (fun x=>by simp only [iD,bJ,Option.bind_some])
 have hA:af.any (fun e=>!aK e)=false:=by rw [List.any_eq_false];intro x hx;rw [h9 x hx];decide
 have hd:∀ {p q:Prop} [Decidable p] [Decidable q],p∧q→(decide p && decide q)=true:=fun {p q} _ _ h=>by rw [decide_eq_true h.1,decide_eq_true h.2];rfl
 have w:IntKind.wrap .i64 (oo - 1)=oo - 1:=aD (by omega) (by omega)
 have h4':0≤pk∧pk≤oo - 1:=by omega
 have h6':decide ((af.length:Int)≤3)=true:=decide_eq_true (by omega)
 unfold dr jh cV bo bY
 simp only [hC,hA,dd,bJ,h5,h6',w,hd h1,hd h2,hd h3,hd h4',hd h7,hd h8,Option.bind_some,cond_true]
 rfl
theorem Pa {x:aa.D} (hl:x.2.2.2.2.2.2.1.2.2.2.2.2.2.1.length≤33554432) (h:aQ x=true):(1:Int)≤x.1∧x.1≤(99:Int):=by
 have h':=di x hl
 rw [h] at h'
 obtain ⟨b1,p1,q1⟩:=v6 x.2.2.2.2.1
 obtain ⟨b2,p2,q2⟩:=oU x.2.2.2.2.2.1
 obtain ⟨b3,p3,q3⟩:=zO x.2.2.2.2.2.2.1 hl
 obtain ⟨b4,p4,q4⟩:=lA x.2.2.2.2.2.2.1 x.2.2.2.2.1.1
 unfold cD cV bo at h'
 simp only [q1,q2,q3,q4,dd,Option.bind_some] at h'
 simp only [cond_eq_ite,oT,Option.bind_some] at h'
 have h':=Option.some.inj h'
 clear p1 p2 p3 p4 q1 q2 q3 q4 hl h
 generalize x.2.2.2.2.2.2.1.1=ak at *
 generalize x.1=i at *
 generalize x.2.1=ow at *
 generalize x.2.2.1=so at *
 generalize x.2.2.2.1=du at *
 generalize x.2.2.2.2.2.2.2.1=co at *
 generalize x.2.2.2.2.2.2.2.2.1=on at *
 simp at h'
 grind
theorem Rz {s:ac.D} {e:ae.D} {t:Int} (hl:s.1.length≤33554432) (h:aT s=true) (ht:jb s e=some t):t=-1∨(0≤t∧t < (s.2.1.length:Int)):=by
 obtain ⟨⟨k1,k2,k3⟩,k4,k5,_⟩:=(dk s).1 h
 have hw:IntKind.wrap .i64 ((s.2.1.length:Int) - 1)=(s.2.1.length:Int) - 1:=aD (by omega) (by omega)
 unfold jb at ht
 simp only [gx,eV s _ hl,Option.bind_some,hw] at ht
 cases hz:(e.2.2.1 == 0)
 ·rw [hz] at ht
  simp only [cond_false] at ht
  rcases iG s e.2.2.1 with h | ⟨k,x,h1,h2,_⟩
  ·rw [h] at ht
   exact .inl (Option.some.inj ht).symm
  ·rw [h1,bO (by omega)] at ht
   simp only [cond_false,aJ h2] at ht
   have hp:=k5 k x h2
   have hs:=By hp.1
   have:x.2.2.1=t:=Option.some.inj ht
   rw [← this]
   exact .inr ⟨hs.2,hp.2.2.1⟩
 ·rw [hz] at ht
  cases hd:(decide (0≤e.2.2.2.1) && decide (e.2.2.2.1≤(s.2.1.length:Int) - 1)) with
  | false=>rw [hd] at ht;exact .inl (Option.some.inj ht).symm
  | true =>
   rw [hd] at ht
   have:e.2.2.2.1=t:=Option.some.inj ht
   rw [Bool.and_eq_true,decide_eq_true_eq,decide_eq_true_eq] at hd
   rw [← this]
   exact .inr ⟨hd.1,Int.lt_of_le_sub_one hd.2⟩
theorem Qj {s:ac.D} {e:ae.D} {t:Int} (hl:s.1.length≤33554432) (h:aT s=true) (ht:ic s e=some t):0≤t∧t≤2:=by
 obtain ⟨z,h1,_⟩:=FK s e hl
 have hz:=Rz hl h h1
 obtain ⟨⟨k1,k2,k3⟩,⟨⟨k4,k4'⟩,_⟩,_⟩:=(dk s).1 h
 unfold ic at ht
 rw [h1,Option.bind_some] at ht
 by_cases e1:z=-1
 ·rw [e1] at ht
  have:s.2.2.1=t:=Option.some.inj ht
  rw [← this]
  exact ⟨k4,Int.le_trans k4' (by omega)⟩
 ·rw [show (z == -1)=false by rw [beq_eq_false_iff_ne];exact e1] at ht
  have:z=t:=Option.some.inj ht
  omega
theorem TR {e:ae.D} {L:List ae.D} {n:Int} {c:Bool} {P:Prop} (he:aK e=true) (hA:c=true→L=[e]∧n=0) (hB:c=false→(∀ v∈L,nx v=true)∧0≤n∧n≤e.2.2.2.2.1∧P):(∀ v∈L,aK v=true)∧0≤n∧n≤2147483647:=by
 have hm:=kv he
 cases c with
 | true =>
  obtain ⟨rfl,rfl⟩:=hA rfl
  exact ⟨fun v hv=>by rw [List.mem_singleton.1 hv];exact he,by decide,by decide⟩
 | false =>
  obtain ⟨q1,q2,q3,_⟩:=hB rfl
  refine ⟨fun v hv=>?_,q2,Int.le_trans q3 hm.2⟩
  have:=q1 v hv
  unfold nx at this
  rw [Bool.and_eq_true] at this
  exact this.1
theorem La {tb:List aa.D} (h:(!qJ (cG tb) 0 tb && decide ((tb.length:Int)≤5))=true):∀ x∈tb,aQ x=true:=fun x hx=>by
 rw [Bool.and_eq_true] at h
 have h1:qJ (cG tb) 0 tb=false:=by simpa using h.1
 obtain ⟨i,hi⟩:=List.mem_iff_getElem?.1 hx
 have:=Jp _ _ _ h1 i x hi
 unfold cG at this
 rw [Bool.or_eq_false_iff] at this
 simpa using this.1
def Ux (G:Prop) (tb tb':List aa.D) (cs cs':List Int) (lf lf':List ae.D) (tn tn':List aA.D) (q:Nat):Prop :=
 okD (.slice aa) tb'∧tb'.map (fun (x:aa.D)=>x.1)=tb.map (fun (x:aa.D)=>x.1)∧cs'.length≤cs.length∧lf'.length≤lf.length + q∧tn'.length≤tn.length + q∧(∀ t∈tn',okD aA t)∧((∀ x∈tb,aQ x=true)→∀ x∈tb',aQ x=true)∧cs' <:+ cs∧(G→(∀ x∈tb,aQ x=true)→(∀ t∈tn,dr t=true)→∀ t∈tn',dr t=true)
theorem xe (y:aA.D) (h:y.2.2.2.2.2.1.length≤33554432):okD aA y :=
 ⟨trivial,trivial,trivial,trivial,fL _ rfl _,⟨h,fun x _=>fL _ rfl x⟩,trivial,trivial,trivial⟩
def QS (n:Nat):Prop:=∀ (s:ac.D) (tb:List aa.D) (cs:List Int) (lf:List ae.D) (tn:List aA.D) (e:ae.D) (uS uI:List Int),
 s.1.length≤33554432→s.2.1.length≤33554432→okD (.slice aa) tb→cs.length≤33554432→uS.Perm uI→uS.Nodup→(∀ a∈uS,a∈tb.map (fun (x:aa.D)=>x.1))→tb.length≤5→tb.length < n + uS.length →
 lf.length + 4 ^ n≤33554432→tn.length + 4 ^ n≤33554432→(∀ t∈tn,okD aA t) →
 ∃ tb' cs' lf' tn',je n (s,tb,cs,lf,tn,()) e uS=some ((),(s,tb',cs',lf',tn',()))∧cS n (s,(lf,tb,cs,tn,()),()) e uI=some (true,(s,(lf',tb',cs',tn',()),()))∧Ux (aT s=true∧aK e=true) tb tb' cs cs' lf lf' tn tn' (4 ^ n)
theorem QT (n:Nat) (IH:QS n) (s:ac.D) (L:List ae.D) (m1:Int) (y1:aa.D) (m2:Int) (y2:aa.D) (wS v:List Int) (a:Int) (h1:s.1.length≤33554432) (h2:s.2.1.length≤33554432) (hw:wS.Perm (v++[a])) (hn:wS.Nodup) (hL:L.length≤3) :
  ∀ (m k:Nat) (tb:List aa.D) (cs:List Int) (lf:List ae.D) (tn:List aA.D),k + m=L.length→okD (.slice aa) tb→cs.length≤33554432→(∀ a∈wS,a∈tb.map (fun (x:aa.D)=>x.1))→tb.length≤5→tb.length < n + wS.length →
  lf.length + m * 4 ^ n≤33554432→tn.length + m * 4 ^ n≤33554432→(∀ t∈tn,okD aA t) →
  ∃ tb' cs' lf' tn',aw (pm (je n) (L,m1,y1,()) wS) ((k:Int),s,tb,cs,lf,tn,())=some ((L.length:Int),s,tb',cs',lf',tn',()) ∧
   aw (fZ (cS n) a (L,m2,y2,()) v) ((k:Int),s,(lf,tb,cs,tn,()),())=some (.inl ((L.length:Int),s,(lf',tb',cs',tn',()),()))∧Ux (aT s=true∧∀ v∈L,aK v=true) tb tb' cs cs' lf lf' tn tn' (m * 4 ^ n)
 | 0,k,tb,cs,lf,tn,hk,h3,h4,h5,h6,h7,h8,h9,h10=>by
  have:k=L.length:=by omega
  subst this
  refine ⟨tb,cs,lf,tn,bb ?_,bb ?_,h3,rfl,Nat.le_refl _,by omega,by omega,h10,id,List.suffix_refl _,fun _ _ h=>h⟩
  ·unfold pm
   simp only [Int.lt_irrefl,decide_false,cond_false]
  ·unfold fZ
   simp only [Int.lt_irrefl,decide_false,cond_false]
 | m + 1,k,tb,cs,lf,tn,hk,h3,h4,h5,h6,h7,h8,h9,h10=>by
  rw [Nat.succ_mul] at h8 h9
  obtain ⟨x,hx⟩:∃ x,L[k]?=some x:=⟨_,List.getElem?_eq_getElem (by omega)⟩
  have hil:((k:Int) < (L.length:Int)):=by omega
  obtain ⟨tb1,cs1,lf1,tn1,e1,e2,k1,k2,k3,k4,k5,k6,k7,k8,k9⟩:=IH s tb cs lf tn x wS (v++[a]) h1 h2 h3 h4 hw hn h5 h6 h7 (by omega) (by omega) h10
  have hlen:tb1.length=tb.length:=by have:=congrArg List.length k2;simpa using this
  obtain ⟨tb2,cs2,lf2,tn2,w1,w2,g1,g2,g3,g4,g5,g6,g7,g8,g9⟩:=QT n IH s L m1 y1 m2 y2 wS v a h1 h2 hw hn hL m (k + 1) tb1 cs1 lf1 tn1 (by omega) k1 (by omega) (by rw [k2];exact h5) (by omega) (by omega) (by omega) (by omega) k6
  have hwr:IntKind.wrap .i64 ((k:Int) + 1)=((k + 1:Nat):Int):=by rw [aD (by omega) (by omega)];rfl
  refine ⟨tb2,cs2,lf2,tn2,aS ?_ w1,aS ?_ w2,g1,by rw [g2,k2],by omega,by rw [Nat.succ_mul];omega,by rw [Nat.succ_mul];omega,g6,fun h=>g7 (k7 h),g8.trans k8,fun hG hb ht=>g9 hG (k7 hb) (k9 ⟨hG.1,hG.2 x (List.mem_of_getElem? hx)⟩ hb ht)⟩
  ·unfold pm
   simp only [hil,decide_true,cond_true,aJ hx,Int.toNat_natCast,hx,Option.bind_some,e1,hwr]
  ·unfold fZ
   simp only [hil,decide_true,cond_true,aJ hx,Int.toNat_natCast,hx,Option.bind_some,e2,hwr,Bool.not_true,cond_false]
theorem Pb:∀ n,QS n
 | 0,s,tb,cs,lf,tn,e,uS,uI,_,_,_,_,_,hn,hs,_,h7,_,_,_=>by
  have:=py uS _ hn hs
  rw [List.length_map] at this
  omega
 | n + 1,s,tb,cs,lf,tn,e,uS,uI,h1,h2,h3,h4,hp,hn,hs,h6,h7,h8,h9,h10=>by
  have hq:1≤4 ^ n:=Nat.one_le_iff_ne_zero.2 (by exact Nat.pos_iff_ne_zero.1 (Nat.pow_pos (by omega)))
  rw [Nat.pow_succ] at h8 h9
  have hul:=py uS _ hn hs
  rw [List.length_map] at hul
  have hui:=hp.length_eq
  have hl:tb.length≤33554432:=h3.1
  have o1:=Hl s tb e uS uI h1 h2 h3 (by omega) (fun a=>hp.mem_iff)
  have o2:=Hk s tb e uI h1 h2 h3 (by omega)
  have o3:=S3 s tb e uI
  have o4:=S4 s tb e uI h1 h2 h3
  show ∃ tb' cs' lf' tn',kK (je n) (s,tb,cs,lf,tn,()) e uS=_∧ff (cS n) (s,(lf,tb,cs,tn,()),()) e uI=_∧_
  unfold kK ff
  simp only [o1,o2,Option.bind_some]
  generalize O5 s tb e uI=os at o3 o4
  by_cases h0:os.length=0
  ·have:((os.length:Int) == 0)=true:=by rw [h0];rfl
   simp only [this,cond_true,Ek,Ej,Option.bind_some]
   cases Ei e
   ·simp only [Bool.not_false,cond_true]
    rw [if_pos (by simp only [aG,List.length_cons,List.length_nil];omega),if_pos (by simp only [aG,List.length_cons,List.length_nil];omega)]
    refine ⟨tb,cs,lf++[e],tn,rfl,rfl,h3,rfl,Nat.le_refl _,?_,?_,h10,id,List.suffix_refl _,fun _ _ h=>h⟩
    ·rw [Nat.pow_succ,List.length_append,List.length_cons,List.length_nil];omega
    ·omega
   ·simp only [Bool.not_true,cond_false]
    exact ⟨tb,cs,lf,tn,rfl,rfl,h3,rfl,Nat.le_refl _,by omega,by omega,h10,id,List.suffix_refl _,fun _ _ h=>h⟩
  ·have:((os.length:Int) == 0)=false:=by rw [beq_eq_false_iff_ne];omega
   obtain ⟨p1,p2⟩:=Em cs (n:=(os.length:Int)) (by omega)
   have p3:=(nz cs (os.length:Int)).length_le
   obtain ⟨k,hk⟩:=Int.eq_ofNat_of_zero_le p1
   have hko:k < os.length:=by omega
   obtain ⟨a,ha⟩:∃ a,os[k]?=some a:=⟨_,List.getElem?_eq_getElem hko⟩
   obtain ⟨ha1,ha2⟩:=o3 a (List.mem_of_getElem? ha)
   obtain ⟨j,x,f1,f2,f3⟩:=LK tb a ha1
   have hok:=(h3.2 x (List.mem_of_getElem? f2)).2.2.2.2.2.2.1.2.2.2.2.2.2.1.1
   obtain ⟨L,sn,y,d1,d2,⟨d3,d4,d5,d6⟩,b,hb,hA,hB⟩:=OY x e hok
   have hLv:aK e=true→(∀ v∈L,aK v=true)∧0≤sn∧sn≤2147483647:=fun he=>TR he hA hB
   clear hb hA hB
   obtain ⟨u1,u2,u3,u4⟩:=Rw tb y x j h3 d3 (by rw [d5,f3];exact f1) f2 d5.symm
   obtain ⟨ch,c1,c2⟩:=JG s e h1
   have hnu:(uS++[a]).Nodup:=by
    rw [List.nodup_append]
    refine ⟨hn,by simp,fun b hb c hc=>?_⟩
    simp only [List.mem_singleton] at hc
    subst hc
    intro he;subst he
    exact ha2 (hp.mem_iff.1 hb)
   obtain ⟨wS,w1,w2⟩:=Nj uS a (by omega) hnu
   have hsub:∀ b∈wS,b∈tb.map (fun (x:aa.D)=>x.1):=fun b hb=>by
    rcases List.mem_append.1 (w2.mem_iff.1 hb) with h | h
    ·exact hs b h
    ·simp only [List.mem_singleton] at h;subst h;exact ha1
   have hdp:=py (uS++[a]) _ hnu (fun b hb=>hsub b (w2.mem_iff.2 hb))
   rw [List.length_append,List.length_map,List.length_cons,List.length_nil] at hdp
   have hwl:wS.length=uS.length + 1:=by rw [w2.length_eq,List.length_append];rfl
   have hut:(tb.set j y).length=tb.length:=List.length_set ..
   have tl:∀ t∈tn++[((x.1,ch,(k:Int),(os.length:Int),e,L,sn,(uS.length:Int),()):aA.D)],okD aA t:=fun t ht=>by
    rcases List.mem_append.1 ht with h | h
    ·exact h10 t h
    ·simp only [List.mem_singleton] at h
     subst h
     exact xe _ (by show L.length≤33554432;omega)
   have tl2:aT s=true∧aK e=true→(∀ x∈tb,aQ x=true)→(∀ t∈tn,dr t=true)→∀ t∈tn++[((x.1,ch,(k:Int),(os.length:Int),e,L,sn,(uS.length:Int),()):aA.D)],dr t=true:=fun hG hE ht t hm=>by
    rcases List.mem_append.1 hm with h | h
    ·exact ht t h
    ·rw [List.mem_singleton.1 h]
     obtain ⟨v1,v2,v3⟩:=hLv hG.2
     exact Nk _ _ _ _ _ _ _ _ _ (Pa hok (hE x (List.mem_of_getElem? f2))) (Qj h1 hG.1 c1) ⟨by omega,by omega⟩ ⟨by omega,by omega⟩ hG.2 d4 ⟨v2,v3⟩ ⟨by omega,by omega⟩ v1
   have hupd:(∀ x∈tb,aQ x=true)→∀ z∈tb.set j y,aQ z=true:=fun h z hz=>by
    rcases List.mem_or_eq_of_mem_set hz with hz | rfl
    ·exact h z hz
    ·exact d6 (h x (List.mem_of_getElem? f2))
   have hmq:L.length * 4 ^ n≤3 * 4 ^ n:=Nat.mul_le_mul_right _ d4
   obtain ⟨tb',cs',lf',tn',g1,g2,g3,g4,g5,g6,g7,g8,g9,g10,g11⟩:=QT n (Pb n) s L sn y sn y wS uI a h1 h2 (w2.trans (List.Perm.append_right _ hp)) (w2.nodup_iff.2 hnu) d4 L.length 0 (tb.set j y) (lX cs (os.length:Int)) lf (tn++[(x.1,ch,(k:Int),(os.length:Int),e,L,sn,(uS.length:Int),())]) (by omega) u3 (by omega) (by rw [u4];exact hsub) (by omega) (by omega) (by omega) (by simp only [List.length_append,List.length_cons,List.length_nil];omega) tl
   refine ⟨tb',cs',lf',tn',?_,?_,g3,by rw [g4,u4],by omega,by rw [Nat.pow_succ];omega,by rw [Nat.pow_succ];simp only [List.length_append,List.length_cons,List.length_nil] at g7;omega,g8,fun h=>g9 (hupd h),g10.trans (nz cs _),fun hG hb ht=>g11 ⟨hG.1,(hLv hG.2).1⟩ (hupd hb) (tl2 hG hb ht)⟩
   ·simp only [this,cond_false,Ep cs (os.length:Int) (by omega) (by omega),Option.bind_some,hk,aJ ha,Int.toNat_natCast,ha,jK tb a hl,f1,aJ f2,d2,u1,c1]
    rw [if_pos (by simp only [aG,List.length_nil];omega),if_pos (by simp only [aG,List.length_cons,List.length_nil];omega),f3,w1,Option.bind_some]
    rw [f3] at g1
    simp only [List.nil_append]
    rw [show ((0:Int))=((0:Nat):Int) from rfl,g1]
    rfl
   ·have hc:bA uI=some uI:=fi uI (by omega)
    simp only [this,cond_false,sN,sQ,Eo cs (os.length:Int) (by omega) (by omega),Option.bind_some,hk,aJ ha,Int.toNat_natCast,ha,jJ tb a hl,f1,aJ f2,d1,u2,c2,Bool.not_true,hc]
    rw [if_pos (by simp only [aG,List.length_cons,List.length_nil];omega),if_pos (by simp only [aG,List.length_cons,List.length_nil];omega)]
    rw [f3,hui] at g2
    rw [show ((0:Int))=((0:Nat):Int) from rfl,g2]
    rfl
theorem Qk (s:ac.D) (tb:List aa.D) (e:ae.D) (cs:List Int) (h1:s.1.length≤33554432) (h2:s.2.1.length≤33554432) (h3:okD (.slice aa) tb) (h4:cs.length≤33554432) :
  ∃ r:bp.D,mF s tb e cs=some r∧jD s tb e cs=some r∧okD bp r∧r.1.length≤65536∧r.2.2.1.length≤cs.length∧r.2.2.2.1.length≤65536∧r.2.1.map (fun (x:aa.D)=>x.1)=tb.map (fun (x:aa.D)=>x.1)∧((∀ x∈tb,aQ x=true)→∀ x∈r.2.1,aQ x=true)∧r.2.2.1 <:+ cs∧∀ t∈r.2.2.2.1,dr t=true:=by
 have hl:tb.length≤33554432:=h3.1
 have triv:okD bp ([],tb,cs,[],()):=⟨⟨by simp,fun x hx=>by cases hx⟩,h3,⟨h4,fun x _=>fL _ rfl x⟩,⟨by simp,fun x hx=>by cases hx⟩,trivial⟩
 obtain ⟨b3,hb3⟩:∃ b3,b3=(!qJ (cG tb) 0 tb && decide ((tb.length:Int)≤5)):=⟨_,rfl⟩
 have g1:=la tb h3
 have g2:=lc tb h3
 rw [← hb3] at g1 g2
 unfold mF jD
 simp only [ce tb h3,dQ tb h3,fi cs h4,dO s h1 h2,dP s h1 h2,g1,g2,bQ,bJ,Option.bind_some,List.nil_append]
 rw [if_pos (by simp only [aG,List.length_nil];omega)]
 cases hst:aT s
 ·exact ⟨_,rfl,rfl,triv,Nat.zero_le _,Nat.le_refl _,Nat.zero_le _,rfl,id,List.suffix_refl _,fun t h=>by cases h⟩
 cases b3
 ·cases aK e <;> exact ⟨_,rfl,rfl,triv,Nat.zero_le _,Nat.le_refl _,Nat.zero_le _,rfl,id,List.suffix_refl _,fun t h=>by cases h⟩
 cases he:aK e
 ·exact ⟨_,rfl,rfl,triv,Nat.zero_le _,Nat.le_refl _,Nat.zero_le _,rfl,id,List.suffix_refl _,fun t h=>by cases h⟩
 have h5:tb.length≤5:=by
  have:=hb3.symm
  rw [Bool.and_eq_true] at this
  have:=of_decide_eq_true this.2
  omega
 obtain ⟨tb',cs',lf',tn',e1,e2,k1,k2,k3,k4,k5,k6,k7,k8,k9⟩:=Pb 8 s tb cs [] [] e [] [] h1 h2 h3 h4 (List.Perm.refl _) List.nodup_nil (fun a h=>by cases h) h5 (by simp;omega) (by simp) (by simp) (fun t h=>by cases h)
 simp only [List.length_nil,Nat.zero_add] at k4 k5
 have q:4 ^ 8=65536:=by decide
 rw [q] at k4 k5
 have q1:lf'.length≤33554432:=by omega
 have q2:cs'.length≤33554432:=by omega
 have q3:tn'.length≤33554432:=by omega
 have ok:okD bp (lf',tb',cs',tn',()):=⟨⟨q1,fun x _=>fL _ rfl x⟩,k1,⟨q2,fun x _=>fL _ rfl x⟩,⟨q3,k6⟩,trivial⟩
 simp only [e1,e2,cond_true,cond_false,Bool.not_true,Option.bind_some]
 rw [qL tn' ⟨by omega,k6⟩]
 exact ⟨_,rfl,rfl,ok,by simp only;omega,by simp only;omega,by simp only;omega,k2,k7,k8,k9 ⟨hst,he⟩ (La hb3.symm) (fun t h=>by cases h)⟩
def JP (a b:bp.D):bp.D:=(a.1++b.1,b.2.1,b.2.2.1,a.2.2.2.1++b.2.2.2.1,())
theorem TS (f0 f1:bp.D) (ok0:okD bp f0) (ok1:okD bp f1) (s1:f0.1.length + f1.1.length≤33554432) (s2:f0.2.2.2.1.length + f1.2.2.2.1.length≤33554432) :
  vG f0 f1=some (JP f0 f1)∧vS f0 f1=some (JP f0 f1)∧okD bp (JP f0 f1):=by
 have okt:okD (.slice aA) (f0.2.2.2.1++f1.2.2.2.1):=⟨by rw [List.length_append];exact s2,fun x hx=>by
  rcases List.mem_append.1 hx with h | h
  ·exact ok0.2.2.2.1.2 x h
  ·exact ok1.2.2.2.1.2 x h⟩
 have l3:f1.2.2.1.length≤33554432:=ok1.2.2.1.1
 refine ⟨?_,?_,⟨by show (f0.1++f1.1).length≤_;rw [List.length_append];exact s1,fun x hx=>?_⟩,ok1.2.1,ok1.2.2.1,okt,trivial⟩
 ·unfold vG JP
  rw [tz f0 ok0,Option.bind_some,tz f1 ok1,Option.bind_some,if_pos (by simp only [aG];omega),if_pos (by simp only [aG];omega)]
 ·unfold vS bA JP
  rw [Ne _ _ s1,Option.bind_some,dQ _ ok1.2.1,Option.bind_some,if_pos (by simp only [aG,List.length_nil];omega),Option.bind_some,O1 _ _ s2,Option.bind_some,qL _ okt,Option.bind_some]
  rfl
 ·rcases List.mem_append.1 hx with h | h
  ·exact ok0.1.2 x h
  ·exact ok1.1.2 x h
noncomputable def xf (es:List ae.D):Bool:=decide ((es.length:Int)≤4) && !es.any (fun e=>!aK e)
theorem xR (es:List ae.D) (hl:es.length≤33554432):mV es=some (xf es):=by
 have hC:aR es (fun q=>mU q.1)=some (es.any (fun e=>!aK e)):=jm es hl (fun e=>!aK e) _ (fun x=>by simp only [mU,bJ,Option.bind_some])
 unfold mV xf
 rw [hC]
 cases decide ((es.length:Int)≤4) <;> rfl
theorem xS (es:List ae.D) (hl:es.length≤33554432):mE es=some (xf es):=by
 unfold mE xf
 rw [np es (body:=kI es) (fun _ e=>!aK e) false (by omega) (fun i x hx=>?_) (by unfold kI;simp),Ap]
 ·cases es.any (fun e=>!aK e) <;> simp
 ·have hlt:=(List.getElem?_eq_some_iff.1 hx).1
  have hil:((i:Int) < (es.length:Int)):=by omega
  unfold kI
  simp only [hil,decide_true,cond_true,aJ hx,bQ,Option.bind_some]
noncomputable def Ev (s:ac.D) (f:bp.D) (e:ae.D):bp.D:=JP f ((jD s f.2.1 e f.2.2.1).getD ([],[],[],[],()))
noncomputable def jV (s:ac.D):List ae.D→bp.D→bp.D
 | [],f=>f
 | e :: es,f=>jV s es (Ev s f e)
theorem TT (s:ac.D) (f:bp.D) (e:ae.D) (h1:s.1.length≤33554432) (h2:s.2.1.length≤33554432) (hf:okD bp f) (s1:f.1.length + 65536≤33554432) (s2:f.2.2.2.1.length + 65536≤33554432) :
  okD bp (Ev s f e)∧(Ev s f e).1.length≤f.1.length + 65536∧(Ev s f e).2.2.2.1.length≤f.2.2.2.1.length + 65536∧(Ev s f e).2.2.1.length≤f.2.2.1.length∧(Ev s f e).2.1.map (fun (x:aa.D)=>x.1)=f.2.1.map (fun (x:aa.D)=>x.1)∧((∀ x∈f.2.1,aQ x=true)→∀ x∈(Ev s f e).2.1,aQ x=true)∧(Ev s f e).2.2.1 <:+ f.2.2.1∧((∀ t∈f.2.2.2.1,dr t=true)→∀ t∈(Ev s f e).2.2.2.1,dr t=true)∧∃ r,mF s f.2.1 e f.2.2.1=some r∧jD s f.2.1 e f.2.2.1=some r∧vG f r=some (Ev s f e)∧vS f r=some (Ev s f e):=by
 obtain ⟨r,e1,e2,ok,q1,q2,q3,q4,q5,q6,q7⟩:=Qk s f.2.1 e f.2.2.1 h1 h2 hf.2.1 hf.2.2.1.1
 obtain ⟨j1,j2,j3⟩:=TS f r hf ok (by omega) (by omega)
 have hv:Ev s f e=JP f r:=by unfold Ev;rw [e2];rfl
 rw [hv]
 refine ⟨j3,?_,?_,q2,q4,q5,q6,fun h t ht=>by
  have ht:t∈f.2.2.2.1++r.2.2.2.1:=ht
  rcases List.mem_append.1 ht with ht | ht
  ·exact h t ht
  ·exact q7 t ht,r,e1,e2,j1,j2⟩
 ·show (f.1++r.1).length≤_
  rw [List.length_append];omega
 ·show (f.2.2.2.1++r.2.2.2.1).length≤_
  rw [List.length_append];omega
theorem Pc (s:ac.D) (es:List ae.D) (h1:s.1.length≤33554432) (h2:s.2.1.length≤33554432) (hl:es.length≤4) (Q:Nat) (hQ:Q=65536):∀ (m k:Nat) (f:bp.D),k + m=es.length→okD bp f→f.1.length + m * Q≤33554432→f.2.2.2.1.length + m * Q≤33554432 →
  aw (ie s es) ((k:Int),f)=some ((es.length:Int),jV s (es.drop k) f)∧aw (il s es) ((k:Int),f)=some ((es.length:Int),jV s (es.drop k) f)∧okD bp (jV s (es.drop k) f)∧(jV s (es.drop k) f).1.length≤f.1.length + m * Q∧(jV s (es.drop k) f).2.2.2.1.length≤f.2.2.2.1.length + m * Q∧(jV s (es.drop k) f).2.2.1.length≤f.2.2.1.length∧(jV s (es.drop k) f).2.1.map (fun (x:aa.D)=>x.1)=f.2.1.map (fun (x:aa.D)=>x.1)∧((∀ x∈f.2.1,aQ x=true)→∀ x∈(jV s (es.drop k) f).2.1,aQ x=true)∧(jV s (es.drop k) f).2.2.1 <:+ f.2.2.1∧((∀ t∈f.2.2.2.1,dr t=true)→∀ t∈(jV s (es.drop k) f).2.2.2.1,dr t=true)
 | 0,k,f,hk,h3,h4,h5=>by
  have:k=es.length:=by omega
  subst this
  rw [List.drop_length]
  refine ⟨bb ?_,bb ?_,h3,Nat.le_add_right _ _,Nat.le_add_right _ _,Nat.le_refl _,rfl,id,List.suffix_refl _,id⟩
  ·unfold ie
   simp only [Int.lt_irrefl,decide_false,cond_false,jV]
  ·unfold il
   simp only [Int.lt_irrefl,decide_false,cond_false,jV]
 | m + 1,k,f,hk,h3,h4,h5=>by
  obtain ⟨q,hq⟩:∃ q:Nat,q=m * Q:=⟨_,rfl⟩
  have hq1:(m + 1) * Q=q + Q:=by rw [Nat.succ_mul,hq]
  rw [hq1] at h4 h5
  have hkl:k < es.length:=by omega
  obtain ⟨x,hx⟩:∃ x,es[k]?=some x:=⟨_,List.getElem?_eq_getElem hkl⟩
  have hd:es.drop k=x :: es.drop (k + 1):=by
   rw [List.drop_eq_getElem_cons hkl]
   rw [List.getElem?_eq_getElem hkl] at hx
   rw [Option.some.inj hx]
  have hil:((k:Int) < (es.length:Int)):=by omega
  obtain ⟨a1,a2,a3,a4,a5,a6,a7,a8,r,b1,b2,b3,b4⟩:=TT s f x h1 h2 h3 (by omega) (by omega)
  obtain ⟨c1,c2,c3,c4,c5,c6,c7,c8,c9,c10⟩:=Pc s es h1 h2 hl Q hQ m (k + 1) (Ev s f x) (by omega) a1 (by rw [← hq];omega) (by rw [← hq];omega)
  rw [← hq] at c4 c5
  have hwr:IntKind.wrap .i64 ((k:Int) + 1)=((k + 1:Nat):Int):=by rw [aD (by omega) (by omega)];rfl
  rw [hd]
  simp only [jV]
  refine ⟨aS ?_ c1,aS ?_ c2,c3,by rw [hq1];omega,by rw [hq1];omega,by omega,by rw [c7,a5],fun h=>c8 (a6 h),c9.trans a7,fun h=>c10 (a8 h)⟩
  ·unfold ie
   simp only [hil,decide_true,cond_true,aJ hx,b1,b3,hwr,Option.bind_some]
  ·unfold il
   simp only [hil,decide_true,cond_true,aJ hx,b2,b4,hwr,Option.bind_some]
noncomputable def iL (tb:List aa.D):Bool:=!qJ (cG tb) 0 tb && decide ((tb.length:Int)≤5)
noncomputable def gy (s:ac.D) (tb:List aa.D) (es:List ae.D) (cs:List Int):bp.D :=
 bif (xf es && aT s) && iL tb then jV s es ([],tb,cs,[],()) else ([],tb,cs,[],())
theorem Lb (s:ac.D) (tb:List aa.D) (es:List ae.D) (cs:List Int) (h1:s.1.length≤33554432) (h2:s.2.1.length≤33554432) (h3:okD (.slice aa) tb) (h4:cs.length≤33554432) (h5:es.length≤33554432) :
  kL s tb es cs=some (gy s tb es cs)∧kV s tb es cs=some (gy s tb es cs)∧okD bp (gy s tb es cs)∧(gy s tb es cs).1.length≤262144∧(gy s tb es cs).2.2.2.1.length≤262144∧(gy s tb es cs).2.2.1.length≤cs.length∧(gy s tb es cs).2.1.map (fun (x:aa.D)=>x.1)=tb.map (fun (x:aa.D)=>x.1)∧((∀ x∈tb,aQ x=true)→∀ x∈(gy s tb es cs).2.1,aQ x=true)∧(gy s tb es cs).2.2.1 <:+ cs∧∀ t∈(gy s tb es cs).2.2.2.1,dr t=true:=by
 have triv:okD bp ([],tb,cs,[],()):=⟨⟨by simp,fun x hx=>by cases hx⟩,h3,⟨h4,fun x _=>fL _ rfl x⟩,⟨by simp,fun x hx=>by cases hx⟩,trivial⟩
 have g1:fU tb=some (iL tb):=la tb h3
 have g2:fW tb=some (iL tb):=lc tb h3
 unfold kL kV
 simp only [tz _ triv,dQ tb h3,fi cs h4,xS es h5,xR es h5,dO s h1 h2,dP s h1 h2,g1,g2,Option.bind_some]
 by_cases hb:((xf es && aT s) && iL tb)=true
 ·have hv:gy s tb es cs=jV s es ([],tb,cs,[],()):=by unfold gy;rw [hb];rfl
  rw [Bool.and_eq_true,Bool.and_eq_true] at hb
  obtain ⟨⟨b1,b2⟩,b3⟩:=hb
  have hl:es.length≤4:=by
   unfold xf at b1
   rw [Bool.and_eq_true] at b1
   have:=of_decide_eq_true b1.1
   omega
  obtain ⟨c1,c2,c3,c4,c5,c6,c7,c8,c9,c10⟩:=Pc s es h1 h2 hl 65536 rfl es.length 0 ([],tb,cs,[],()) (by omega) triv (by simp only [List.length_nil];omega) (by simp only [List.length_nil];omega)
  rw [List.drop_zero] at c1 c2 c3 c4 c5 c6 c7 c8 c9 c10
  rw [show (((0:Nat):Int))=(0:Int) from rfl] at c1 c2
  rw [hv]
  simp only [List.length_nil] at c4 c5
  simp only [b1,b2,b3,Bool.not_true,cond_false,Option.bind_some,c1,c2]
  exact ⟨trivial,trivial,c3,by omega,by omega,c6,c7,c8,c9,c10 (fun t h=>by cases h)⟩
 ·have hv:gy s tb es cs=([],tb,cs,[],()):=by
   unfold gy
   rw [Bool.not_eq_true] at hb
   rw [hb];rfl
  rw [hv]
  refine ⟨?_,?_,triv,Nat.zero_le _,Nat.zero_le _,Nat.le_refl _,rfl,id,List.suffix_refl _,fun t h=>by cases h⟩ <;> revert hb <;> cases xf es <;> cases aT s <;> cases iL tb <;> intro hb <;> first | rfl | exact absurd rfl hb
theorem Nl (n:Int) (h0:0≤n) (h1:n≤33554432):eE () n=some ([],()):=by
 unfold eE
 rw [bO h0]
 simp only [cond_false,Option.bind_some]
 have z:IntKind.wrap .i64 (0 - 0)=0:=aD (by omega) (by omega)
 rw [z,Int.sub_zero,aD (by omega) (by omega)]
 by_cases hn:n > 0
 ·rw [decide_eq_true hn]
  simp only [cond_true,Int.le_refl,if_true]
  rw [if_pos (by omega),if_pos hn,if_pos (by simp only [aG];omega),if_pos (by omega)]
  simp
 ·rw [decide_eq_false hn];rfl
theorem Hm (a b c:List ah.D) (h:a.length + b.length + c.length≤33554432):dJ [a,b,c]=some ((a++b)++c):=by
 have i0:([a,b,c]:List (List ah.D))[0]?=some a:=rfl
 have i1:([a,b,c]:List (List ah.D))[1]?=some b:=rfl
 have i2:([a,b,c]:List (List ah.D))[2]?=some c:=rfl
 have e1:aw (bC [a,b,c]) (0,0)=some ((a.length:Int) + (b.length:Int) + (c.length:Int),3):=by
  refine aS (s':=((a.length:Int),1)) ?_ (aS (s':=((a.length:Int) + (b.length:Int),2)) ?_ (aS (s':=((a.length:Int) + (b.length:Int) + (c.length:Int),3)) ?_ (bb ?_)))
  ·unfold bC
   rw [decide_eq_true (by simp)]
   simp only [cond_true]
   rw [show ((0:Int))=((0:Nat):Int) from rfl,aJ i0]
   simp (disch:=omega) only [aD,bO,cond_false]
   first | (simp;done) | (simp;rw [bO (by omega)];rfl)
  ·unfold bC
   rw [decide_eq_true (by simp)]
   simp only [cond_true]
   rw [show ((1:Int))=((1:Nat):Int) from rfl,aJ i1]
   simp (disch:=omega) only [aD,bO,cond_false]
   first | (simp;done) | (simp;rw [bO (by omega)];rfl)
  ·unfold bC
   rw [decide_eq_true (by simp)]
   simp only [cond_true]
   rw [show ((2:Int))=((2:Nat):Int) from rfl,aJ i2]
   simp (disch:=omega) only [aD,bO,cond_false]
   first | (simp;done) | (simp;rw [bO (by omega)];rfl)
  ·unfold bC
   simp
 have e2:aw (bD [a,b,c]) ([],0)=some ((a++b)++c,3):=by
  refine aS (s':=(a,1)) ?_ (aS (s':=(a++b,2)) ?_ (aS (s':=((a++b)++c,3)) ?_ (bb ?_)))
  ·unfold bD
   rw [decide_eq_true (by simp)]
   simp only [cond_true]
   rw [show ((0:Int))=((0:Nat):Int) from rfl,aJ i0]
   rw [if_pos (by simp only [aG,List.length_append,List.length_nil];omega)]
   simp (disch:=omega) only [aD]
   simp
  ·unfold bD
   rw [decide_eq_true (by simp)]
   simp only [cond_true]
   rw [show ((1:Int))=((1:Nat):Int) from rfl,aJ i1]
   rw [if_pos (by simp only [aG,List.length_append,List.length_nil];omega)]
   simp (disch:=omega) only [aD]
   simp
  ·unfold bD
   rw [decide_eq_true (by simp)]
   simp only [cond_true]
   rw [show ((2:Int))=((2:Nat):Int) from rfl,aJ i2]
   rw [if_pos (by simp only [aG,List.length_append,List.length_nil];omega)]
   simp (disch:=omega) only [aD]
   simp
  ·unfold bD
   simp
 unfold dJ
 rw [e1,Option.bind_some]
 simp only
 rw [Nl _ (by omega) (by omega),Option.bind_some]
 simp only
 rw [e2,Option.bind_some]
theorem RC (n:Int) (h0:0≤n) (h1:n≤33554432):fI () n=some ([],()):=by
 unfold fI
 rw [bO h0]
 simp only [cond_false,Option.bind_some]
 have z:IntKind.wrap .i64 (0 - 0)=0:=aD (by omega) (by omega)
 rw [z,Int.sub_zero,aD (by omega) (by omega)]
 by_cases hn:n > 0
 ·rw [decide_eq_true hn]
  simp only [cond_true,Int.le_refl,if_true]
  rw [if_pos (by omega),if_pos hn,if_pos (by simp only [aG];omega),if_pos (by omega)]
  simp
 ·rw [decide_eq_false hn];rfl
theorem Nm (a b c:List aq.D) (h:a.length + b.length + c.length≤33554432):eP [a,b,c]=some ((a++b)++c):=by
 have i0:([a,b,c]:List (List aq.D))[0]?=some a:=rfl
 have i1:([a,b,c]:List (List aq.D))[1]?=some b:=rfl
 have i2:([a,b,c]:List (List aq.D))[2]?=some c:=rfl
 have e1:aw (bW [a,b,c]) (0,0)=some ((a.length:Int) + (b.length:Int) + (c.length:Int),3):=by
  refine aS (s':=((a.length:Int),1)) ?_ (aS (s':=((a.length:Int) + (b.length:Int),2)) ?_ (aS (s':=((a.length:Int) + (b.length:Int) + (c.length:Int),3)) ?_ (bb ?_)))
  ·unfold bW
   rw [decide_eq_true (by simp)]
   simp only [cond_true]
   rw [show ((0:Int))=((0:Nat):Int) from rfl,aJ i0]
   simp (disch:=omega) only [aD,bO,cond_false]
   first | (simp;done) | (simp;rw [bO (by omega)];rfl)
  ·unfold bW
   rw [decide_eq_true (by simp)]
   simp only [cond_true]
   rw [show ((1:Int))=((1:Nat):Int) from rfl,aJ i1]
   simp (disch:=omega) only [aD,bO,cond_false]
   first | (simp;done) | (simp;rw [bO (by omega)];rfl)
  ·unfold bW
   rw [decide_eq_true (by simp)]
   simp only [cond_true]
   rw [show ((2:Int))=((2:Nat):Int) from rfl,aJ i2]
   simp (disch:=omega) only [aD,bO,cond_false]
   first | (simp;done) | (simp;rw [bO (by omega)];rfl)
  ·unfold bW
   simp
 have e2:aw (bX [a,b,c]) ([],0)=some ((a++b)++c,3):=by
  refine aS (s':=(a,1)) ?_ (aS (s':=(a++b,2)) ?_ (aS (s':=((a++b)++c,3)) ?_ (bb ?_)))
  ·unfold bX
   rw [decide_eq_true (by simp)]
   simp only [cond_true]
   rw [show ((0:Int))=((0:Nat):Int) from rfl,aJ i0]
   rw [if_pos (by simp only [aG,List.length_append,List.length_nil];omega)]
   simp (disch:=omega) only [aD]
   simp
  ·unfold bX
   rw [decide_eq_true (by simp)]
   simp only [cond_true]
   rw [show ((1:Int))=((1:Nat):Int) from rfl,aJ i1]
   rw [if_pos (by simp only [aG,List.length_append,List.length_nil];omega)]
   simp (disch:=omega) only [aD]
   simp
  ·unfold bX
   rw [decide_eq_true (by simp)]
   simp only [cond_true]
   rw [show ((2:Int))=((2:Nat):Int) from rfl,aJ i2]
   rw [if_pos (by simp only [aG,List.length_append,List.length_nil];omega)]
   simp (disch:=omega) only [aD]
   simp
  ·unfold bX
   simp
 unfold eP
 rw [e1,Option.bind_some]
 simp only
 rw [RC _ (by omega) (by omega),Option.bind_some]
 simp only
 rw [e2,Option.bind_some]
def tA (c:Int) (x:aa.D):Bool:=(x.2.2.2.2.2.2.2.2.1 != 0) && ((x.2.2.2.2.2.2.2.1 == (-1)) || decide (x.2.2.2.2.2.2.2.1≥c))
theorem Lc (x:aa.D) (c:Int):oJ x c=some (tA c x):=by
 unfold oJ tA
 cases ((x.2.2.2.2.2.2.2.2.1:Int) != 0) <;> cases ((x.2.2.2.2.2.2.2.1:Int) == -1) <;> rfl
theorem Ld (x:aa.D) (c:Int):ou x c=some (tA c x):=by
 unfold ou tA
 cases ((x.2.2.2.2.2.2.2.2.1:Int) != 0) <;> cases ((x.2.2.2.2.2.2.2.1:Int) == -1) <;> rfl
theorem Pd {xs ys:List aa.D} (h:okD (.slice aa) xs) (hl:ys.length≤xs.length) (hs:∀ y∈ys,y∈xs):okD (.slice aa) ys:=⟨Nat.le_trans hl h.1,fun y hy=>h.2 y (hs y hy)⟩
theorem LM (xs:List aa.D) (c:Int) (h:okD (.slice aa) xs) (h5:xs.length≤1000):pT xs c=some (xs.filter (tA c))∧qf xs c=some (xs.filter (tA c)):=by
 refine ⟨?_,?_⟩
 ·unfold pT
  rw [cM xs (fun _ x=>if tA c x then [x] else []) (fun s=>s) (fun _ x=>by split <;> simp) (by omega) (fun t i x hI hx=>?_) (fun t=>?_)]
  ·rw [Option.bind_some,i7]
  ·have hlt:=(List.getElem?_eq_some_iff.1 hx).1
   have hil:((i:Int) < (xs.length:Int)):=by omega
   have hok:=(h.2 x (List.mem_of_getElem? hx)).2.2.2.2.2.2.1.2.2.2.2.2.2.1.1
   unfold sE
   simp only [hil,decide_true,cond_true,aJ hx,Ld,fE x hok,Option.bind_some]
   cases tA c x
   ·simp only [cond_false,Option.bind_some,if_false,List.append_nil,Bool.false_eq_true]
   ·simp only [cond_true]
    rw [if_pos (by simp only [aG,List.length_cons,List.length_nil];omega)]
    rfl
  ·unfold sE;simp
 ·unfold qf
  rw [dQ xs h,Option.bind_some]
  unfold b5
  have hq:∀ x:aa.D,pt c x=some (!tA c x):=fun x=>by unfold pt;rw [Lc];rfl
  simp only [hq]
  rw [if_pos ⟨by omega,by rw [List.all_eq_true];intro x _;rfl⟩,Option.bind_some]
  simp only [Option.getD_some,Bool.not_not]
theorem Pe (xs:List aa.D) (a:Int):zW xs a=-1∨∃ (k:Nat) (x:aa.D),zW xs a=k∧xs[k]?=some x∧x.1=a:=by
 by_cases h:a∈xs.map (fun (x:aa.D)=>x.1)
 ·exact .inr (LK xs a h)
 ·refine .inl ?_
  unfold zW
  obtain ⟨_,h2⟩:=eT (fun (x:aa.D)=>x.1 == a) xs
  cases hf:bS (fun (x:aa.D)=>x.1 == a) xs with
  | none=>rfl
  | some k =>
   obtain ⟨x,g1,g2,_⟩:=h2 k hf
   exact absurd (List.mem_map.2 ⟨x,List.mem_of_getElem? g1,by simpa using g2⟩) h
theorem QU {xs:List aa.D} (h:okD (.slice aa) xs) (i:Nat):okD (.slice aa) (xs.take i)∧okD (.slice aa) (xs.drop i) :=
 ⟨Pd h (by rw [List.length_take];omega) fun y hy=>List.mem_of_mem_take hy,Pd h (by rw [List.length_drop];omega) fun y hy=>List.mem_of_mem_drop hy⟩
theorem TU (xs:List aa.D) (a:Int) (h:okD (.slice aa) xs) (h5:xs.length≤1000):∃ r,Aj xs a=some r∧Am xs a=some r∧okD (.slice aa) r.1∧r.1.Sublist xs∧(r.2.1=false→r.1=xs):=by
 have hl:xs.length≤33554432:=by omega
 unfold Aj Am
 rw [dQ xs h,Option.bind_some,jJ xs a hl,jK xs a hl,Option.bind_some,Option.bind_some]
 rcases Pe xs a with e | ⟨k,x,e,hx,_⟩
 ·rw [e,ce xs h]
  exact ⟨_,rfl,rfl,h,List.Sublist.refl _,fun _=>rfl⟩
 ·have hk:=(List.getElem?_eq_some_iff.1 hx).1
  rw [e,bO (by omega)]
  have hw:IntKind.wrap .i64 ((k:Int) + 1)=((k + 1:Nat):Int):=by rw [aD (by omega) (by omega)];rfl
  have e1:(List.drop (0:Int).toNat (List.take k xs))=xs.take k:=rfl
  have e2:(List.drop (k + 1) (List.take xs.length xs))=xs.drop (k + 1):=by rw [List.take_length]
  have e3:(xs.length:Int).toNat=xs.length:=by omega
  simp only [cond_false,hw,Int.toNat_natCast,e1,e2,e3]
  rw [if_pos (by omega),if_pos (by omega),if_pos (by omega),ce _ (QU h k).1,Option.bind_some,if_pos (by omega),if_pos (by omega),if_pos (by omega),ce _ (QU h (k + 1)).2,Option.bind_some]
  rw [if_pos (by simp only [aG,List.length_take,List.length_drop];omega)]
  unfold cJ
  rw [if_pos ⟨by omega,by omega,by omega⟩,Option.bind_some]
  refine ⟨_,rfl,rfl,Pd h ?_ fun y hy=>?_,(by show (xs.take k++xs.drop (k + 1)).Sublist xs;rw [← List.eraseIdx_eq_take_drop_succ];exact List.eraseIdx_sublist xs k),fun h=>by cases h⟩
  ·simp only [Int.toNat_natCast,List.length_append,List.length_take,List.length_drop];omega
  ·rcases List.mem_append.1 hy with hy | hy
   ·exact List.mem_of_mem_take hy
   ·exact List.mem_of_mem_drop hy
theorem RD {α:Type} (xs:List α) {body:Int→Option (Int⊕Int)} (p:α→Bool) (hlen:xs.length≤9223372036854775806)
  (hb:∀ (i:Nat) x,xs[i]?=some x→body i=bif p x then some (.inr (i:Int)) else some (.inl (IntKind.wrap .i64 ((i:Int) + 1))))
  (he:body xs.length=some (.inr (xs.length:Int))) :
  ∃ k:Nat,k≤xs.length∧aw body 0=some (k:Int)∧(match bS p xs with | some j=>j | none=>xs.length)=k:=by
 have main:∀ (r:List α) (k:Nat),xs.drop k=r→k≤xs.length→aw body k=some (match bS p r with | some j=>((k + j:Nat):Int) | none=>(xs.length:Int)):=by
  intro r
  induction r with
  | nil =>
   intro k h hk
   have:k=xs.length:=by
    have:=congrArg List.length h
    simp at this
    omega
   subst this
   exact bb he
  | cons x r ih =>
   intro k h hk
   have hlt:k < xs.length:=by
    have:=congrArg List.length h
    simp at this
    omega
   have hx:xs[k]?=some x:=by
    have:=congrArg (fun l=>l[0]?) h
    simpa using this
   have hr:xs.drop (k + 1)=r:=by
    have:=congrArg List.tail h
    simpa using this
   unfold bS
   by_cases hp:p x=true
   ·rw [if_pos hp]
    refine bb ?_
    rw [hb k x hx,hp]
    simp
   ·rw [if_neg hp]
    refine aS (s':=((k + 1:Nat):Int)) ?_ ?_
    ·rw [hb k x hx]
     have:p x=false:=by simpa using hp
     rw [this]
     simp only [cond_false]
     rw [aD (by omega) (by omega)]
     rfl
    ·rw [ih (k + 1) hr hlt]
     cases bS p r with
     | none=>rfl
     | some j =>
      simp only [Option.map_some]
      rw [show k + 1 + j=k + (j + 1) by omega]
 have h0:=main xs 0 rfl (by omega)
 obtain ⟨_,h2⟩:=eT p xs
 cases hf:bS p xs with
 | none =>
  rw [hf] at h0
  exact ⟨xs.length,Nat.le_refl _,h0,rfl⟩
 | some j =>
  rw [hf] at h0
  obtain ⟨x,g1,_⟩:=h2 j hf
  have:=(List.getElem?_eq_some_iff.1 g1).1
  refine ⟨j,by omega,?_,rfl⟩
  show aw body ((0:Nat):Int)=_
  rw [h0]
  simp only [Nat.zero_add]
theorem Uy (a b:Int):decide (a≥b)=!decide (a < b):=by
 by_cases h:a < b
 ·rw [decide_eq_true h,decide_eq_false (by omega)];rfl
 ·rw [decide_eq_false h,decide_eq_true (by omega)];rfl
theorem Ql (xs:List aa.D) (e:aa.D) (h:okD (.slice aa) xs) (h5:xs.length≤1000) (he:e.2.2.2.2.2.2.1.2.2.2.2.2.2.1.length≤33554432):∃ r,rf xs e=some r∧rs xs e=some r∧okD (.slice aa) r.1∧(r.2.1=true→iL r.1=true)∧(r.2.1=false→r.1=xs):=by
 have hl:xs.length≤33554432:=by omega
 obtain ⟨k,hk,w1,w2⟩:=RD xs (body:=kH xs e) (fun x=>decide (x.1≥e.1)) (by omega) (fun i x hx=>by
  have hlt:=(List.getElem?_eq_some_iff.1 hx).1
  have hil:((i:Int) < (xs.length:Int)):=by omega
  unfold kH
  simp only [hil,decide_true,cond_true,aJ hx,Option.bind_some]
  have hd:decide (x.1≥e.1)=!decide (x.1 < e.1):=Uy x.1 e.1
  rw [hd]
  cases decide (x.1 < e.1) <;> rfl) (by unfold kH;simp)
 have hi:bI xs (fun q=>sJ e q.1)=some (match bS (fun x=>decide (x.1≥e.1)) xs with | some k=>(k:Int) | none=>-1):=Et xs hl (fun x=>decide (x.1≥e.1)) _ (fun x _=>rfl)
 obtain ⟨ix,hix⟩:∃ ix:Int,ix=(match bS (fun (x:aa.D)=>decide (x.1≥e.1)) xs with | some k=>(k:Int) | none=>-1):=⟨_,rfl⟩
 rw [← hix] at hi
 have ho:((bif decide (ix < 0) then some (xs.length:Int) else some ix):Option Int)=some (k:Int):=by
  rw [hix,← w2]
  cases bS (fun (x:aa.D)=>decide (x.1≥e.1)) xs with
  | none=>rfl
  | some j=>simp only;rw [bO (by omega)];rfl
 have okn:okD (.slice aa) (xs.take k++[e]++xs.drop k):=by
  refine ⟨?_,fun y hy=>?_⟩
  ·simp only [List.length_append,List.length_take,List.length_drop,List.length_cons,List.length_nil];omega
  ·rcases List.mem_append.1 hy with hy | hy
   ·rcases List.mem_append.1 hy with hy | hy
    ·exact h.2 y (List.mem_of_mem_take hy)
    ·rw [List.mem_singleton.1 hy];exact kx _ he
   ·exact h.2 y (List.mem_of_mem_drop hy)
 obtain ⟨tk,htk⟩:∃ tk,tk=(!qJ (cG (xs.take k++[e]++xs.drop k)) 0 (xs.take k++[e]++xs.drop k) && decide (((xs.take k++[e]++xs.drop k).length:Int)≤5)):=⟨_,rfl⟩
 have t1:=la _ okn
 have t2:=lc _ okn
 rw [← htk] at t1 t2
 have e1:(List.drop (0:Int).toNat (List.take k xs))=xs.take k:=rfl
 have e2:(List.drop k (List.take xs.length xs))=xs.drop k:=by rw [List.take_length]
 have e3:(xs.length:Int).toNat=xs.length:=by omega
 have hins:dV xs (k:Int) [e]=some (xs.take k++[e]++xs.drop k,()):=by
  unfold dV
  rw [if_pos ⟨by omega,by omega,rfl,by omega⟩,Int.toNat_natCast]
 unfold rf rs
 rw [w1,Option.bind_some,dQ xs h,Option.bind_some,hi,Option.bind_some,ho,Option.bind_some,Option.bind_some,ir e he,Option.bind_some,hins,Option.bind_some]
 simp only [Int.toNat_natCast,e1,e2,e3]
 rw [if_pos (by omega),if_pos (by omega),if_pos (by omega),ce _ (QU h k).1,Option.bind_some,fE e he,Option.bind_some]
 rw [if_pos (by simp only [aG,List.length_take,List.length_cons,List.length_nil];omega),if_pos (by omega),if_pos (by omega),if_pos (by omega),ce _ (QU h k).2,Option.bind_some]
 rw [if_pos (by simp only [aG,List.length_append,List.length_take,List.length_drop,List.length_cons,List.length_nil];omega)]
 simp only [jK xs _ hl,jJ xs _ hl,t1,t2,Option.bind_some,ce xs h]
 cases decide (zW xs e.1≥0) <;> cases tk <;> first | exact ⟨_,rfl,rfl,h,fun h=>(by cases h),fun _=>rfl⟩ | exact ⟨_,rfl,rfl,okn,fun _=>htk.symm,fun h=>(by cases h)⟩
theorem BG:∀ (l:List aa.D),(∀ (i:Nat) (x y:aa.D),l[i]?=some x→l[i + 1]?=some y→(x.1:Int) < (y.1:Int))→l.Pairwise (fun (a b:aa.D)=>(a.1:Int) < (b.1:Int))
 | [],_=>List.Pairwise.nil
 | a :: l,h=>by
  have ih:=BG l (fun i x y hx hy=>h (i + 1) x y (by simpa using hx) (by simpa using hy))
  refine List.Pairwise.cons (fun c hc=>?_) ih
  cases l with
  | nil=>cases hc
  | cons b l =>
   have hab:=h 0 a b rfl rfl
   rcases List.mem_cons.1 hc with rfl | hc
   ·exact hab
   ·exact Int.lt_trans hab ((List.pairwise_cons.1 ih).1 c hc)
theorem BH:∀ (l:List aa.D),l.Pairwise (fun (a b:aa.D)=>(a.1:Int) < (b.1:Int))→∀ (i:Nat) (x y:aa.D),l[i]?=some x→l[i + 1]?=some y→(x.1:Int) < (y.1:Int)
 | [],_,i,x,y,hx,_=>by simp at hx
 | a :: l,h,0,x,y,hx,hy=>by
  obtain ⟨h1,_⟩:=List.pairwise_cons.1 h
  simp at hx
  subst hx
  exact h1 y (List.mem_of_getElem? (by simpa using hy))
 | a :: l,h,i + 1,x,y,hx,hy=>BH l (List.pairwise_cons.1 h).2 i x y (by simpa using hx) (by simpa using hy)
theorem oX (tb:List aa.D):iL tb=true↔(∀ x∈tb,aQ x=true)∧tb.Pairwise (fun (a b:aa.D)=>(a.1:Int) < (b.1:Int))∧tb.length≤5:=by
 have hpt:iL tb=true↔(∀ (i:Nat) x,tb[i]?=some x→cG tb i x=false)∧(tb.length:Int)≤5:=by
  unfold iL
  rw [Bool.and_eq_true,decide_eq_true_eq,Bool.not_eq_true',Jt]
  simp only [Nat.zero_add]
 rw [hpt]
 constructor
 ·rintro ⟨h1,h2⟩
  refine ⟨fun x hx=>?_,BG tb (fun i x y hx hy=>?_),by omega⟩
  ·obtain ⟨i,hi⟩:=List.mem_iff_getElem?.1 hx
   have:=h1 i x hi
   unfold cG at this
   rw [Bool.or_eq_false_iff] at this
   simpa using this.1
  ·have:=h1 (i + 1) y hy
   unfold cG at this
   simp only [Bool.or_eq_false_iff,Bool.and_eq_false_iff,Nat.add_sub_cancel,hx,Option.any_some,decide_eq_false_iff_not] at this
   rcases this.2 with h | h
   ·omega
   ·exact Int.not_le.1 h
 ·rintro ⟨h1,h2,h3⟩
  refine ⟨fun i x hx=>?_,by omega⟩
  unfold cG
  rw [h1 x (List.mem_of_getElem? hx)]
  simp only [Bool.not_true,Bool.false_or,Bool.and_eq_false_iff,decide_eq_false_iff_not]
  cases i with
  | zero=>left;omega
  | succ i =>
   right
   have hlt:=(List.getElem?_eq_some_iff.1 hx).1
   have hp:tb[i]?=some (tb[i]'(by omega)):=List.getElem?_eq_getElem (by omega)
   simp only [Nat.add_sub_cancel,hp,Option.any_some,decide_eq_false_iff_not]
   exact Int.not_le.2 (BH tb h2 i _ x hp hx)
theorem CE {tb tb':List aa.D} (h:iL tb=true) (hs:tb'.Sublist tb):iL tb'=true:=by
 obtain ⟨h1,h2,h3⟩:=(oX tb).1 h
 exact (oX tb').2 ⟨fun x hx=>h1 x (hs.subset hx),List.Pairwise.sublist hs h2,Nat.le_trans hs.length_le h3⟩
theorem Ew:∀ (l l':List aa.D),l'.map (fun (x:aa.D)=>(x.1:Int))=l.map (fun (x:aa.D)=>(x.1:Int))→l.Pairwise (fun (a b:aa.D)=>(a.1:Int) < (b.1:Int))→l'.Pairwise (fun (a b:aa.D)=>(a.1:Int) < (b.1:Int)):=fun l l' h hp=>by
 have h1:(l.map (fun (x:aa.D)=>(x.1:Int))).Pairwise (fun a b=>a < b):=List.pairwise_map.2 hp
 rw [← h] at h1
 exact List.pairwise_map.1 h1
theorem Pf {tb tb':List aa.D} (h:iL tb=true) (hm:tb'.map (fun (x:aa.D)=>x.1)=tb.map (fun (x:aa.D)=>x.1)) (he:(∀ x∈tb,aQ x=true)→∀ x∈tb',aQ x=true):iL tb'=true:=by
 obtain ⟨h1,h2,h3⟩:=(oX tb).1 h
 have hl:tb'.length=tb.length:=by have:=congrArg List.length hm;simpa using this
 exact (oX tb').2 ⟨he h1,Ew tb tb' hm h2,by omega⟩
def Pg (t:ah.D):Prop:=((t.1:Int)=1→ej t.2.2.2.1 16=true)∧((t.1:Int)=2→ej t.2.2.2.1 32=true)
theorem xj (s:ac.D):∀ (xs:List aq.D) (i:Nat),∀ t∈bv (uB s) i xs,Pg t
 | [],_,t,h=>by cases h
 | x :: xs,i,t,h=>by
  rcases List.mem_append.1 h with h | h
  ·unfold uB at h
   cases h1:(zQ x && ej x.2.2.2.2.1 16) with
   | true =>
    rw [h1] at h
    simp only [cond_true,List.mem_singleton] at h
    subst h
    rw [Bool.and_eq_true] at h1
    exact ⟨fun _=>h1.2,fun h=>by simp at h⟩
   | false =>
    rw [h1] at h
    simp only [cond_false] at h
    cases h2:((x.1 == 1) && (decide (x.2.2.1≥1) && ej (iQ s x.2.1) 32)) with
    | true =>
     rw [h2] at h
     simp only [cond_true,List.mem_singleton] at h
     subst h
     simp only [Bool.and_eq_true,decide_eq_true_eq] at h2
     exact ⟨fun h=>by simp at h,fun _=>h2.2.2⟩
    | false=>rw [h2] at h;cases h
  ·exact xj s xs (i + 1) t h
def zY (g r:aC.D):Prop:=r.2.2.1 <:+ g.2.2.1∧(∃ q,r.2.2.2.1=g.2.2.2.1++q∧∀ t∈q,Pg t)∧(∃ q,r.2.2.2.2.1=g.2.2.2.2.1++q)∧(∃ q,r.2.2.2.2.2.1=g.2.2.2.2.2.1++q∧∀ t∈q,dr t=true)∧(g.1.2.2.2.1:Int)≤r.1.2.2.2.1
theorem zY.self {g r:aC.D} (h:r.2.2=g.2.2) (hc:(g.1.2.2.2.1:Int)≤r.1.2.2.2.1):zY g r:=by
 unfold zY
 rw [h]
 exact ⟨List.suffix_refl _,⟨[],(List.append_nil _).symm,fun t h=>by cases h⟩,⟨[],(List.append_nil _).symm⟩,⟨[],(List.append_nil _).symm,fun t h=>by cases h⟩,hc⟩
theorem zY.trans {a b c:aC.D} (h:zY a b) (k:zY b c):zY a c:=by
 obtain ⟨h1,⟨q2,h2,h2'⟩,⟨q3,h3⟩,⟨q4,h4,h4'⟩,h5⟩:=h
 obtain ⟨k1,⟨p2,k2,k2'⟩,⟨p3,k3⟩,⟨p4,k4,k4'⟩,k5⟩:=k
 refine ⟨k1.trans h1,⟨q2++p2,by rw [k2,h2,List.append_assoc],fun t ht=>?_⟩,⟨q3++p3,by rw [k3,h3,List.append_assoc]⟩,⟨q4++p4,by rw [k4,h4,List.append_assoc],fun t ht=>?_⟩,Int.le_trans h5 k5⟩
 ·rcases List.mem_append.1 ht with ht | ht
  ·exact h2' t ht
  ·exact k2' t ht
 ·rcases List.mem_append.1 ht with ht | ht
  ·exact h4' t ht
  ·exact k4' t ht
theorem Qm (s:ac.D):(dv s).1.2.2=s.2.2:=by unfold dv;split <;> rfl
theorem Qn (s:ac.D) (hp:s.1.length≤33554432) (hs:s.2.1.length≤33554432):∃ r,pR s=some r∧lU s=some r∧iz r.1 s∧r.2.1.length≤19∧r.1.2.2=s.2.2∧(aT s=true→aT r.1=true∧(dv r.1).2.1.length=0):=by
 obtain ⟨r,h1,h2,_,_⟩:=Rq s hp hs
 refine ⟨r,h1,h2,?_⟩
 obtain ⟨q,g1,g2⟩:∃ q,aw bU ([],0,([],[],0,0,()),s)=some q∧(iz q.2.2 s∧q.1.length≤19∧q.2.2.2.2=s.2.2∧(aT s=true→aT q.2.2=true∧(dv q.2.2).2.1.length=0)):=by
  cases hok:aT s with
  | false =>
   refine ⟨([],0,s),bb ?_,⟨rfl,rfl⟩,by simp,rfl,fun h=>by cases h⟩
   unfold bU
   simp only [gp s hp hs,Option.bind_some]
   have:(dv s).2.1=[]:=by unfold dv;rw [hok];rfl
   rw [this];rfl
  | true =>
   obtain ⟨l1,l2⟩:=px hok
   have hw:=LI s
   exact rK (body:=bU) (fun t=>tp t.2.2.2) (fun t=>iz t.2.2.2 s∧t.1.length + tp t.2.2.2≤tp s∧t.2.2.2.2.2=s.2.2∧aT t.2.2.2=true) (fun r=>iz r.2.2 s∧r.1.length≤19∧r.2.2.2.2=s.2.2∧(true=true→aT r.2.2=true∧(dv r.2.2).2.1.length=0)) (by
    rintro ⟨all,n,u,t⟩ ⟨⟨z1,z2⟩,z3,z4,z5⟩
    simp only at z1 z2 z3 z4 z5
    have hr:=Eg t
    have hz:=Cz t
    unfold bU
    simp only [gp t (by omega) (by omega),Option.bind_some]
    by_cases hn:(dv t).2.1.length=0
    ·right
     have:(((dv t).2.1.length:Int) == 0)=true:=by rw [hn];rfl
     rw [this]
     exact ⟨_,rfl,⟨z1,z2⟩,by simp only;omega,z4,fun _=>⟨z5,hn⟩⟩
    ·left
     have:(((dv t).2.1.length:Int) == 0)=false:=by rw [beq_eq_false_iff_ne];omega
     rw [this]
     simp only [cond_false]
     rw [if_pos (by simp only [aG];omega)]
     refine ⟨_,rfl,⟨⟨hz.1.trans z1,hz.2.trans z2⟩,?_,?_,O6 t z5⟩,?_⟩
     ·simp only [List.length_append];omega
     ·exact (Qm t).trans z4
     ·simp only;omega) ([],0,([],[],0,0,()),s) ⟨⟨rfl,rfl⟩,by simp,rfl,hok⟩
 unfold lU at h2
 simp only [gb s hp hs,Option.bind_some,g1] at h2
 have h2:=Option.some.inj h2
 rw [← h2]
 exact ⟨g2.1,g2.2.1,g2.2.2⟩
theorem RE (g:aC.D) (es:List ae.D) (ok:okD aC g) (hs:aT g.1=true) (htb:iL g.2.1=true) (he:es.length≤33554432) (hq:g.2.2.2.1.length + 600000≤33554432) (hl:g.2.2.2.2.1.length + 600000≤33554432) (hn:g.2.2.2.2.2.1.length + 600000≤33554432) :
  ∃ r,po g es=some ((),r)∧ux g es=some (r,())∧okD aC r∧r.2.2.2.1.length≤g.2.2.2.1.length + 600000∧r.2.2.2.2.1.length≤g.2.2.2.2.1.length + 600000∧r.2.2.2.2.2.1.length≤g.2.2.2.2.2.1.length + 600000∧zY g r∧aT r.1=true∧iL r.2.1=true∧(dv r.1).2.1.length=0:=by
 have ht:=((oX _).1 htb).2.2
 obtain ⟨m1,m2⟩:=px hs
 have k1:g.1.1.length≤33554432:=ok.1.1.1
 have k2:g.1.2.1.length≤33554432:=ok.1.2.1.1
 have k3:g.2.2.1.length≤33554432:=ok.2.2.1.1
 obtain ⟨a1,a2,fok,fl,ft,fc,fm,fe,fs,fn⟩:=Lb g.1 g.2.1 es g.2.2.1 k1 k2 ok.2.1 k3 he
 have ftl:(gy g.1 g.2.1 es g.2.2.1).2.1.length=g.2.1.length:=by have:=congrArg List.length fm;simpa using this
 have ftb:=Pf htb fm fe
 clear fm fe
 generalize gy g.1 g.2.1 es g.2.2.1=f at a1 a2 fok fl ft fc ftl ftb fs fn
 have c1:=Jy g.1 f.1 k1 k2 (by omega)
 obtain ⟨c2,c3,c4,c5,c6⟩:=Jx g.1 f.1 k1 k2 (by omega)
 rw [if_pos hs] at c1 c2
 have c7:=(Qi g.1 f.1 k1 k2).2.1 ((dk _).1 hs)
 generalize le g.1 f.1=q at c1 c2 c3 c4 c5 c6 c7
 obtain ⟨one,t⟩:=q
 simp only at c1 c2 c3 c4 c5 c6 c7
 have c7:=(dk _).2 c7
 have t1:t.1.length≤33554432:=by rw [c5.1];exact k1
 have t2:t.2.1.length≤33554432:=by rw [c5.2];exact k2
 obtain ⟨⟨u,two,rn,un⟩,d1,d2,d3,d4,d5,d6⟩:=Qn t t1 t2
 simp only at d3 d4 d5 d6
 obtain ⟨d6,d7⟩:=d6 c7
 have u1:u.1.length≤33554432:=by rw [d3.1];exact t1
 have u2:u.2.1.length≤33554432:=by rw [d3.2];exact t2
 have s1:=Ee g.1 one k1 (by omega)
 have s2:=Ed g.1 one k1 (by omega)
 have s3:=lG (uB g.1) (Au g.1) one 0
 have s7:=xj g.1 one 0
 generalize bv (uB g.1) 0 one=sn1 at s1 s2 s3 s7
 obtain ⟨r1,r2,r3,r4⟩:=JF u sn1 f.2.2.1 u2 (by omega) (by omega)
 have r5:=r4.length_le
 have r11:=Eu u sn1 f.2.2.1 u2
 generalize kw u sn1 f.2.2.1=ar1 at r1 r2 r3 r4 r5 r11
 have s4:=Ee t two t1 (by omega)
 have s5:=Ed t two t1 (by omega)
 have s6:=lG (uB t) (Au t) two 0
 have s8:=xj t two 0
 generalize bv (uB t) 0 two=sn2 at s4 s5 s6 s8
 obtain ⟨r6,r7,r8,r9⟩:=JF u sn2 ar1.2 u2 (by omega) (by omega)
 have r10:=r9.length_le
 have r12:=Eu u sn2 ar1.2 u2
 generalize kw u sn2 ar1.2=ar2 at r6 r7 r8 r9 r10 r12
 have hck:u.2.2.2.1=g.1.2.2.2.1:=by rw [d5,c6]
 obtain ⟨x1,x2⟩:=LM f.2.1 g.1.2.2.2.1 fok.2.1 (by omega)
 refine ⟨(u,f.2.1.filter (tA g.1.2.2.2.1),ar2.2,(g.2.2.2.1++ar1.1)++ar2.1,(g.2.2.2.2.1++one)++two,g.2.2.2.2.2.1++f.2.2.2.1,()),?_,?_,⟨⟨⟨u1,fun x _=>fL _ rfl x⟩,⟨u2,fun x _=>fL _ rfl x⟩,fL _ rfl _⟩,Pd fok.2.1 (List.length_filter_le _ _) (fun y hy=>(List.mem_filter.1 hy).1),⟨?_,fun x _=>fL _ rfl x⟩,⟨?_,fun x _=>fL _ rfl x⟩,⟨?_,fun x _=>fL _ rfl x⟩,⟨?_,fun x hx=>?_⟩,trivial⟩,?_,?_,?_,⟨?_,⟨ar1.1++ar2.1,List.append_assoc ..,fun t ht=>?_⟩,⟨one++two,List.append_assoc ..⟩,⟨f.2.2.2.1,rfl,fn⟩,Int.le_of_eq hck.symm⟩,d6,CE ftb List.filter_sublist,d7⟩
 ·unfold po
  simp only [a1,c1,d1,s1,r1,s4,r6,x1,Option.bind_some]
  rw [if_pos (by simp only [aG];omega),if_pos (by simp only [aG,List.length_append];omega),if_pos (by simp only [aG];omega),if_pos (by simp only [aG,List.length_append];omega),if_pos (by simp only [aG];omega)]
 ·unfold ux
  simp only [a2,c2,d2,s2,r2,s5,r7,hck,x2,Option.bind_some]
  rw [Hm _ _ _ (by omega),Option.bind_some,Nm _ _ _ (by omega),Option.bind_some,if_pos (by simp only [aG];omega)]
 ·show ar2.2.length≤33554432;omega
 ·show ((g.2.2.2.1++ar1.1)++ar2.1).length≤33554432;simp only [List.length_append];omega
 ·show ((g.2.2.2.2.1++one)++two).length≤33554432;simp only [List.length_append];omega
 ·show (g.2.2.2.2.2.1++f.2.2.2.1).length≤33554432;simp only [List.length_append];omega
 ·rcases List.mem_append.1 hx with hx | hx
  ·exact ok.2.2.2.2.2.1.2 x hx
  ·exact fok.2.2.2.1.2 x hx
 ·show ((g.2.2.2.1++ar1.1)++ar2.1).length≤_;simp only [List.length_append];omega
 ·show ((g.2.2.2.2.1++one)++two).length≤_;simp only [List.length_append];omega
 ·show (g.2.2.2.2.2.1++f.2.2.2.1).length≤_;simp only [List.length_append];omega
 ·exact r9.trans (r4.trans fs)
 ·rcases List.mem_append.1 ht with ht | ht
  ·exact s7 t (r11.mem_iff.1 ht)
  ·exact s8 t (r12.mem_iff.1 ht)
theorem zZ (g:aC.D) (h:okD aC g):kc g=some g:=by
 have l4:g.2.2.2.1.length≤33554432:=h.2.2.2.1.1
 have l5:g.2.2.2.2.1.length≤33554432:=h.2.2.2.2.1.1
 unfold kc bH ii
 simp only [gb g.1 h.1.1.1 h.1.2.1.1,dQ _ h.2.1,fi _ h.2.2.1.1,qL _ h.2.2.2.2.2.1,Option.bind_some,List.nil_append]
 rw [if_pos (by simp only [aG,List.length_nil];omega),Option.bind_some,if_pos (by simp only [aG,List.length_nil];omega)]
 rfl
theorem nA (g:aC.D) (h:okD aC g):ia g=some g:=by
 have l3:g.2.2.1.length≤33554432:=h.2.2.1.1
 have l4:g.2.2.2.1.length≤33554432:=h.2.2.2.1.1
 have l5:g.2.2.2.2.1.length≤33554432:=h.2.2.2.2.1.1
 unfold ia
 simp only [gc g.1 h.1.1.1 h.1.2.1.1,ce _ h.2.1,xQ _ h.2.2.2.2.2.1,Option.bind_some,List.nil_append]
 rw [if_pos (by simp only [aG,List.length_nil];omega),if_pos (by simp only [aG,List.length_nil];omega),if_pos (by simp only [aG,List.length_nil];omega)]
noncomputable def lg (g:aC.D):Bool:=(aT g.1 && iL g.2.1) && !g.2.2.2.2.2.1.any (fun e=>!dr e)
theorem tB (g:aC.D):lg g=true↔aT g.1=true∧iL g.2.1=true∧∀ t∈g.2.2.2.2.2.1,dr t=true:=by
 unfold lg
 rw [Bool.and_eq_true,Bool.and_eq_true,Bool.not_eq_true',List.any_eq_false,and_assoc]
 simp
theorem CF (g:aC.D) (h:okD aC g):pN g=some (lg g)∧lQ g=some (lg g):=by
 have hl:g.2.2.2.2.2.1.length≤33554432:=h.2.2.2.2.2.1.1
 have hT:∀ x∈g.2.2.2.2.2.1,x.2.2.2.2.2.1.length≤33554432:=fun x hx=>(h.2.2.2.2.2.1.2 x hx).2.2.2.2.2.1.1
 have hW:aw (jd g) 0=some (bif g.2.2.2.2.2.1.any (fun e=>!dr e) then .inr false else .inl (g.2.2.2.2.2.1.length:Int)):=by
  rw [np g.2.2.2.2.2.1 (body:=jd g) (fun _ e=>!dr e) false (by omega) (fun i y hx=>?_) (by unfold jd;simp),Ap]
  have hlt:=(List.getElem?_eq_some_iff.1 hx).1
  have hil:((i:Int) < (g.2.2.2.2.2.1.length:Int)):=by omega
  unfold jd
  simp only [hil,decide_true,cond_true,aJ hx,Js y (hT y (List.mem_of_getElem? hx)),Option.bind_some]
 have hC:cR g.2.2.2.2.2.1 (fun q=>pr q.1)=some (g.2.2.2.2.2.1.any (fun e=>!dr e)):=by
  unfold cR
  rw [P2 g.2.2.2.2.2.1 hl (fun e=>!dr e) _ (fun x hx=>by simp only [pr,Jr x (hT x hx),Option.bind_some]),Option.bind_some,FD]
 unfold pN lQ lg iL
 simp only [hW,hC,dO g.1 h.1.1.1 h.1.2.1.1,dP g.1 h.1.1.1 h.1.2.1.1,la _ h.2.1,lc _ h.2.1,Option.bind_some]
 generalize g.2.2.2.2.2.1.any (fun e=>!dr e)=c1
 generalize aT g.1=c2
 generalize (!qJ (cG g.2.1) 0 g.2.1 && decide ((g.2.1.length:Int)≤5))=c3
 cases c1 <;> cases c2 <;> cases c3 <;> exact ⟨rfl,rfl⟩
theorem RF (s:ac.D) (h:aT s=true):∃ x,(cZ s)[1]?=some x:=by
 have hs:=(px h).2
 unfold aT at h
 simp only [Bool.and_eq_true] at h
 have h1:=of_decide_eq_true h.1.1.1.1.2.1
 have h2:=of_decide_eq_true h.1.1.1.2.1
 have h3:=of_decide_eq_true h.1.1.1.2.2
 unfold cZ
 rw [aD (by omega) (by omega),decide_eq_true h2,decide_eq_true h3,Bool.true_and,if_pos rfl]
 match s.2.1,h1 with
 | x :: y :: r,_=>exact ⟨_,rfl⟩
 | [x],h=>simp at h
 | [],h=>simp at h
theorem TV {a:Int} {n:Nat} (h0:0≤a) (hn:0 < n):0≤a.tmod n∧a.tmod n < (n:Int):=⟨Int.tmod_nonneg _ h0,Int.tmod_lt_of_pos _ (by omega)⟩
theorem S6 {s:ac.D} (h:aT s=true) {x:Int} (hx:x∈cZ s):0≤x∧x≤(s.2.1.length:Int) - 1:=by
 obtain ⟨⟨_,k2,k3⟩,⟨⟨k4,k4'⟩,_⟩,_⟩:=(dk s).1 h
 unfold cZ at hx
 split at hx
 ·obtain ⟨j,_,j2,rfl⟩:=JC _ _ _ hx
  have hk:(s.2.2.1:Int)≤2:=Int.le_trans k4' (by omega)
  have hw:∀ a:Int,0≤a→a≤2→IntKind.wrap .i64 (a + (j:Int))=a + (j:Int):=fun a a0 a1=>aD (by omega) (by omega)
  rw [hw _ k4 hk]
  have:=TV (a:=(s.2.2.1:Int) + (j:Int)) (n:=s.2.1.length) (Int.add_nonneg k4 (by omega)) (by omega)
  omega
 ·cases hx
theorem TW {s:ac.D} (h:aT s=true) {x c:Int} (hx:0≤x∧x≤(s.2.1.length:Int) - 1) (hc:(s.2.2.2.1:Int)≤c) (hc2:c≤9999):aT (s.1,s.2.1,x,c,())=true:=by
 obtain ⟨k1,⟨_,k5,_⟩,k6,k7,k8⟩:=(dk s).1 h
 refine (dk _).2 ⟨k1,⟨hx,Int.le_trans k5 hc,hc2⟩,fun i y hy=>?_,k7,k8⟩
 obtain ⟨g1,g2,g3,g4⟩:=k6 i y hy
 exact ⟨g1,g2,g3,Int.le_trans g4 hc⟩
theorem CG (g:aC.D) (o:bi.D) (ok:okD aC g) (oko:okD bi o) (hq:g.2.2.2.1.length + 600000≤33554432) (hl:g.2.2.2.2.1.length + 600000≤33554432) (hn:g.2.2.2.2.2.1.length + 600000≤33554432) :
  ∃ r,jx g o=some r∧jF g o=some r∧okD aC r.1∧(r.1.2.2.2.1.length≤g.2.2.2.1.length + 600000∧r.1.2.2.2.2.1.length≤g.2.2.2.2.1.length + 600000∧r.1.2.2.2.2.2.1.length≤g.2.2.2.2.2.1.length + 600000)∧zY g r.1∧(r.2.1=false→r.1=g)∧(r.2.1=true→lg r.1=true∧((o.1:Int)=3→(dv r.1.1).2.1.length=0)):=by
 obtain ⟨g1,g2⟩:=CF g ok
 have stay:okD aC g∧(g.2.2.2.1.length≤g.2.2.2.1.length + 600000∧g.2.2.2.2.1.length≤g.2.2.2.2.1.length + 600000∧g.2.2.2.2.2.1.length≤g.2.2.2.2.2.1.length + 600000)∧zY g g∧(false=false→g=g)∧(false=true→lg g=true∧((o.1:Int)=3→(dv g.1).2.1.length=0)) :=
  ⟨ok,⟨Nat.le_add_right _ _,Nat.le_add_right _ _,Nat.le_add_right _ _⟩,zY.self rfl (Int.le_refl _),fun _=>rfl,fun h=>by cases h⟩
 unfold jx jF
 rw [nA g ok,zZ g ok,Option.bind_some,Option.bind_some,g1,g2,Option.bind_some,Option.bind_some]
 clear g1 g2
 cases hb:lg g with
 | false=>exact ⟨(g,false,()),rfl,rfl,stay⟩
 | true =>
  obtain ⟨hs,htb,htn⟩:=(tB g).1 hb
  have ht:=((oX _).1 htb).2.2
  have he:o.2.1.2.2.2.2.2.2.1.2.2.2.2.2.2.1.length≤33554432:=oko.2.1.2.2.2.2.2.2.1.2.2.2.2.2.2.1.1
  have hv:o.2.2.2.1.length≤33554432:=oko.2.2.2.1.1
  have k2:g.1.2.1.length≤33554432:=ok.1.2.1.1
  have no:∀ (c:Int) (P:Prop),(o.1 == c)=true→c≠3→((o.1:Int)=3→P):=fun c P h hc h3=>absurd ((beq_iff_eq.1 h).symm.trans h3) hc
  generalize hc1:(o.1 == 1)=c1
  generalize hc2:(o.1 == 2)=c2
  generalize hc3:(o.1 == 3)=c3
  generalize hc4:(o.1 == 4)=c4
  cases c1 with
  | true =>
   obtain ⟨r,e1,e2,okr,i1,i2⟩:=Ql g.2.1 o.2.1 ok.2.1 (by omega) he
   rw [e1,e2]
   refine ⟨((g.1,r.1,g.2.2),r.2),rfl,rfl,⟨ok.1,okr,ok.2.2⟩,⟨Nat.le_add_right _ _,Nat.le_add_right _ _,Nat.le_add_right _ _⟩,zY.self rfl (Int.le_refl _),fun h=>?_,fun h=>⟨(tB _).2 ⟨hs,i1 h,htn⟩,no 1 _ hc1 (by decide)⟩⟩
   have h:=i2 h
   show ((g.1,r.1,g.2.2):aC.D)=g
   rw [h]
  | false =>
   cases c2 with
   | true =>
    obtain ⟨r,e1,e2,okr,i1,i2⟩:=TU g.2.1 o.2.2.1 ok.2.1 (by omega)
    rw [e1,e2]
    refine ⟨((g.1,r.1,g.2.2),r.2),rfl,rfl,⟨ok.1,okr,ok.2.2⟩,⟨Nat.le_add_right _ _,Nat.le_add_right _ _,Nat.le_add_right _ _⟩,zY.self rfl (Int.le_refl _),fun h=>?_,fun h=>⟨(tB _).2 ⟨hs,CE htb i1,htn⟩,no 2 _ hc2 (by decide)⟩⟩
    have h:=i2 h
    show ((g.1,r.1,g.2.2):aC.D)=g
    rw [h]
   | false =>
    cases c3 with
    | true =>
     rw [xS _ hv,xR _ hv]
     cases xf o.2.2.2.1 with
     | false=>exact ⟨(g,false,()),rfl,rfl,stay⟩
     | true =>
      obtain ⟨r,e1,e2,okr,z1,z2,z3,gr,s1,s2,s3⟩:=RE g o.2.2.2.1 ok hs htb hv hq hl hn
      rw [e1,e2]
      refine ⟨(r,true,()),rfl,rfl,okr,⟨z1,z2,z3⟩,gr,fun h=>(by cases h),fun _=>⟨(tB r).2 ⟨s1,s2,fun t ht=>?_⟩,fun _=>s3⟩⟩
      obtain ⟨_,_,_,⟨q,hq,hq'⟩,_⟩:=gr
      rw [hq] at ht
      rcases List.mem_append.1 ht with ht | ht
      ·exact htn t ht
      ·exact hq' t ht
    | false =>
     cases c4 with
     | false=>exact ⟨(g,false,()),rfl,rfl,stay⟩
     | true =>
      generalize hc5:(g.1.2.2.2.1 == 9999)=c5
      cases c5 with
      | true=>exact ⟨(g,false,()),rfl,rfl,stay⟩
      | false =>
       obtain ⟨x,hx⟩:=RF g.1 hs
       obtain ⟨y1,y2⟩:=LM g.2.1 (IntKind.wrap .i64 (g.1.2.2.2.1 + 1)) ok.2.1 (by omega)
       have hi:∀ {R:Type} (κ:Int→Option R),idx (cZ g.1) 1 κ=κ x:=fun κ=>aJ (i:=1) hx
       have hx':(cZ g.1)[(1:Int).toNat]?=some x:=hx
       have hck:∀ c:Int,c≠9999→0≤c→c≤9999→IntKind.wrap .i64 (c + 1)=c + 1∧c + 1≤9999:=fun c n0 n1 n2=>⟨aD (by omega) (by omega),by omega⟩
       obtain ⟨_,⟨_,k5,k5'⟩,_⟩:=(dk g.1).1 hs
       obtain ⟨w1,w2⟩:=hck _ (by rw [beq_eq_false_iff_ne] at hc5;exact hc5) k5 k5'
       rw [uD _ k2,uE _ k2]
       simp only [cond_false,cond_true,Option.bind_some,hi,hx',y1,y2]
       clear y1 y2
       rw [w1]
       refine ⟨((((g.1.1,g.1.2.1,x,g.1.2.2.2.1 + 1,()),g.2.1.filter (tA (g.1.2.2.2.1 + 1)),g.2.2)),true,()),rfl,rfl,
        ⟨⟨ok.1.1,ok.1.2.1,trivial,trivial,trivial⟩,Pd ok.2.1 (List.length_filter_le _ _) (fun y hy=>(List.mem_filter.1 hy).1),ok.2.2⟩,⟨Nat.le_add_right _ _,Nat.le_add_right _ _,Nat.le_add_right _ _⟩,zY.self rfl (Int.le_add_of_nonneg_right (by decide)),fun h=>(by cases h),fun _=>⟨(tB _).2 ⟨TW hs (S6 hs (List.mem_of_getElem? hx)) (Int.le_add_of_nonneg_right (by decide)) w2,CE htb List.filter_sublist,htn⟩,no 4 _ hc4 (by decide)⟩⟩
noncomputable def doV (g:aC.D) (o:bi.D):aC.D×(Bool×Unit):=(jF g o).getD (g,false,())
noncomputable def fF:List bi.D→Int×aC.D→Int×aC.D
 | [],s=>s
 | o :: l,s=>fF l (bif (doV s.2 o).2.1 then s.1 + 1 else s.1,(doV s.2 o).1)
theorem Qo (l:List bi.D) (okl:okD (.slice bi) l) (Q:Nat) (hQ:Q=600000):∀ (m k:Nat) (c:Int) (g:aC.D),m + k=min 12 l.length→okD aC g→0≤c→c≤k→g.2.2.2.1.length + m * Q≤33554432→g.2.2.2.2.1.length + m * Q≤33554432→g.2.2.2.2.2.1.length + m * Q≤33554432 →
  ∃ i':Int,aw (mN l) (c,(k:Int),g)=some ((fF ((l.take 12).drop k) (c,g)).1,i',(fF ((l.take 12).drop k) (c,g)).2)∧aw (nl l) (c,(k:Int),g)=some ((fF ((l.take 12).drop k) (c,g)).1,i',(fF ((l.take 12).drop k) (c,g)).2) ∧
   okD aC (fF ((l.take 12).drop k) (c,g)).2∧zY g (fF ((l.take 12).drop k) (c,g)).2∧(lg g=true→lg (fF ((l.take 12).drop k) (c,g)).2=true)∧(c≤(fF ((l.take 12).drop k) (c,g)).1∧(fF ((l.take 12).drop k) (c,g)).1≤c + m) ∧
   ((fF ((l.take 12).drop k) (c,g)).2.2.2.2.1.length≤g.2.2.2.1.length + m * Q∧(fF ((l.take 12).drop k) (c,g)).2.2.2.2.2.1.length≤g.2.2.2.2.1.length + m * Q∧(fF ((l.take 12).drop k) (c,g)).2.2.2.2.2.2.1.length≤g.2.2.2.2.2.1.length + m * Q):=by
 have hl:l.length≤33554432:=okl.1
 have hM:(if 12 < (l.length:Int) then 12 else (l.length:Int)).toNat=min 12 l.length:=by split <;> omega
 have hT:((l.take (if 12 < (l.length:Int) then 12 else (l.length:Int)).toNat).drop (0:Int).toNat)=l.take 12:=by
  rw [hM]
  show l.take (min 12 l.length)=l.take 12
  by_cases h:l.length≤12
  ·rw [List.take_of_length_le (by omega),List.take_of_length_le (by omega)]
  ·rw [show min 12 l.length=12 by omega]
 have hL:(l.take 12).length=min 12 l.length:=List.length_take ..
 intro m
 induction m with
 | zero =>
  intro k c g hk ok _ _ _ _ _
  rw [Nat.zero_add] at hk
  have e:(l.take 12).drop k=[]:=List.drop_eq_nil_of_le (by omega)
  rw [e]
  refine ⟨k,bb ?_,bb ?_,ok,zY.self rfl (Int.le_refl _),id,⟨Int.le_refl _,by show c≤c + ((0:Nat):Int);omega⟩,Nat.le_add_right _ _,Nat.le_add_right _ _,Nat.le_add_right _ _⟩
  ·unfold mN
   simp only
   by_cases h:(k:Int) < (l.length:Int)
   ·rw [decide_eq_true h,decide_eq_false (by omega)];rfl
   ·rw [decide_eq_false h];rfl
  ·unfold nl
   simp only [hT]
   rw [decide_eq_false (by omega)];rfl
 | succ m ih =>
  intro k c g hk ok c0 c1 q1 q2 q3
  rw [Nat.succ_mul] at q1 q2 q3
  have hlt:k < l.length:=by omega
  have hx:l[k]?=some l[k]:=List.getElem?_eq_getElem hlt
  have hx2:(l.take 12)[k]?=some l[k]:=by rw [List.getElem?_take,if_pos (by omega)];exact hx
  obtain ⟨r,e1,e2,okr,⟨z1,z2,z3⟩,gr,f0,f1⟩:=CG g l[k] ok (okl.2 _ (List.getElem_mem hlt)) (by omega) (by omega) (by omega)
  have b1:r.1.2.2.2.1.length + m * Q≤33554432:=by omega
  have b2:r.1.2.2.2.2.1.length + m * Q≤33554432:=by omega
  have b3:r.1.2.2.2.2.2.1.length + m * Q≤33554432:=by omega
  have hv:doV g l[k]=r:=by unfold doV;rw [e2];rfl
  have hd:(l.take 12).drop k=l[k] :: (l.take 12).drop (k + 1):=by
   rw [List.drop_eq_getElem_cons (by omega),List.getElem_take]
  obtain ⟨i',s1,s2,s3,s4,s5,s6,s7,s8,s9⟩:=ih (k + 1) (bif r.2.1 then c + 1 else c) r.1 (by omega) okr (by cases r.2.1 <;> simp <;> omega) (by cases r.2.1 <;> simp <;> omega) b1 b2 b3
  rw [hd]
  simp only [fF,hv]
  have hc:c≤(bif r.2.1 then c + 1 else c)∧(bif r.2.1 then c + 1 else c)≤c + 1:=by cases r.2.1 <;> simp <;> omega
  rw [Nat.succ_mul]
  refine ⟨i',aS ?_ s1,aS ?_ s2,s3,gr.trans s4,fun h=>s5 ?_,⟨by omega,by omega⟩,by omega,by omega,by omega⟩
  ·unfold mN
   simp only
   rw [decide_eq_true (show (k:Int) < (l.length:Int) by omega),decide_eq_true (show (k:Int) < 12 by omega)]
   simp only [cond_true,Option.bind_some,aJ hx,e1]
   rw [aD (n:=(k:Int) + 1) (by omega) (by omega),aD (n:=c + 1) (by omega) (by omega)]
   cases r.2.1 <;> rfl
  ·unfold nl
   simp only [hT]
   rw [decide_eq_true (show (k:Int) < ((l.take 12).length:Int) by omega)]
   simp only [cond_true,aJ hx2,e2,Option.bind_some]
   rw [aD (n:=(k:Int) + 1) (by omega) (by omega),aD (n:=c + 1) (by omega) (by omega)]
   cases r.2.1 <;> rfl
  ·cases hb:r.2.1 with
   | true=>exact (f1 hb).1
   | false=>rw [f0 hb];exact h
theorem TX (g:aC.D) (l:List bi.D) (ok:okD aC g) (okl:okD (.slice bi) l) (m:Nat) (hm:l.length≤m) (q1:g.2.2.2.1.length + 600000 * m≤33554432) (q2:g.2.2.2.2.1.length + 600000 * m≤33554432) (q3:g.2.2.2.2.2.1.length + 600000 * m≤33554432) :
  Al g l=some ((fF (l.take 12) (0,g)).2,(fF (l.take 12) (0,g)).1,())∧LD g l=some ((fF (l.take 12) (0,g)).2,(fF (l.take 12) (0,g)).1,()) ∧
   okD aC (fF (l.take 12) (0,g)).2∧zY g (fF (l.take 12) (0,g)).2∧(lg g=true→lg (fF (l.take 12) (0,g)).2=true)∧(0≤(fF (l.take 12) (0,g)).1∧(fF (l.take 12) (0,g)).1≤(l.length:Int)) ∧
   ((fF (l.take 12) (0,g)).2.2.2.2.1.length≤g.2.2.2.1.length + 600000 * m∧(fF (l.take 12) (0,g)).2.2.2.2.2.1.length≤g.2.2.2.2.1.length + 600000 * m∧(fF (l.take 12) (0,g)).2.2.2.2.2.2.1.length≤g.2.2.2.2.2.1.length + 600000 * m):=by
 have hl:l.length≤33554432:=okl.1
 obtain ⟨i,s1,s2,s3,s4,s5,s6,s7,s8,s9⟩:=Qo l okl 600000 rfl (min 12 l.length) 0 0 g (by omega) ok (by omega) (by omega) (by omega) (by omega) (by omega)
 rw [List.drop_zero] at s1 s2 s3 s4 s5 s6 s7 s8 s9
 refine ⟨?_,?_,s3,s4,s5,⟨s6.1,by omega⟩,by omega,by omega,by omega⟩
 ·unfold Al
  rw [nA g ok,Option.bind_some]
  have s1:aw (mN l) (0,0,g)=some ((fF (l.take 12) (0,g)).1,i,(fF (l.take 12) (0,g)).2):=s1
  rw [s1];rfl
 ·unfold LD
  have s2:aw (nl l) (0,0,g)=some ((fF (l.take 12) (0,g)).1,i,(fF (l.take 12) (0,g)).2):=s2
  rw [zZ g ok,Option.bind_some,if_pos (by omega),if_pos (by split <;> omega),if_pos (by split <;> omega),s2];rfl
theorem CH (a b:aa.D) (h:okD aa a):iy a b=some (eqD aa a b):=by
 have hl:a.2.2.2.2.2.2.1.2.2.2.2.2.2.1.length≤33554432:=h.2.2.2.2.2.2.1.2.2.2.2.2.2.1.1
 have hE:eqD aa a b=((a.1 == b.1) && ((a.2.1 == b.2.1) && ((a.2.2.1 == b.2.2.1) && ((a.2.2.2.1 == b.2.2.2.1) && (((a.2.2.2.2.1.1 == b.2.2.2.2.1.1) && ((a.2.2.2.2.1.2.1 == b.2.2.2.2.1.2.1) && ((a.2.2.2.2.1.2.2.1 == b.2.2.2.2.1.2.2.1) && ((a.2.2.2.2.1.2.2.2.1 == b.2.2.2.2.1.2.2.2.1) && ((a.2.2.2.2.1.2.2.2.2.1 == b.2.2.2.2.1.2.2.2.2.1) && ((a.2.2.2.2.1.2.2.2.2.2.1 == b.2.2.2.2.1.2.2.2.2.2.1) && ((a.2.2.2.2.1.2.2.2.2.2.2.1 == b.2.2.2.2.1.2.2.2.2.2.2.1) && (true)))))))) && (((a.2.2.2.2.2.1.1 == b.2.2.2.2.2.1.1) && ((a.2.2.2.2.2.1.2.1 == b.2.2.2.2.2.1.2.1) && (true))) && (((a.2.2.2.2.2.2.1.1 == b.2.2.2.2.2.2.1.1) && ((a.2.2.2.2.2.2.1.2.1 == b.2.2.2.2.2.2.1.2.1) && ((a.2.2.2.2.2.2.1.2.2.1 == b.2.2.2.2.2.2.1.2.2.1) && ((a.2.2.2.2.2.2.1.2.2.2.1 == b.2.2.2.2.2.2.1.2.2.2.1) && ((a.2.2.2.2.2.2.1.2.2.2.2.1 == b.2.2.2.2.2.2.1.2.2.2.2.1) && ((a.2.2.2.2.2.2.1.2.2.2.2.2.1 == b.2.2.2.2.2.2.1.2.2.2.2.2.1) && (eqD (.slice ae) a.2.2.2.2.2.2.1.2.2.2.2.2.2.1 b.2.2.2.2.2.2.1.2.2.2.2.2.2.1 && (true)))))))) && ((a.2.2.2.2.2.2.2.1 == b.2.2.2.2.2.2.2.1) && ((a.2.2.2.2.2.2.2.2.1 == b.2.2.2.2.2.2.2.2.1) && (true)))))))))):=rfl
 unfold iy
 rw [hE]
 rcases Dn (t:=ae) rfl a.2.2.2.2.2.2.1.2.2.2.2.2.2.1 b.2.2.2.2.2.2.1.2.2.2.2.2.2.1 (e:=eqD ae) (fun _ _=>rfl) (by omega) (body:=tc a b) (fun i=>rfl) with ⟨e1,e2⟩ | ⟨e1,⟨i,e2,e3⟩ | ⟨e2,e3⟩⟩
 ·simp only [e1,e2]
  simp only [bne]
  cases (a.1 == b.1)
  ·first | rfl | simp
  cases (a.2.1 == b.2.1)
  ·first | rfl | simp
  cases (a.2.2.1 == b.2.2.1)
  ·first | rfl | simp
  cases (a.2.2.2.1 == b.2.2.2.1)
  ·first | rfl | simp
  cases (a.2.2.2.2.1.1 == b.2.2.2.2.1.1)
  ·first | rfl | simp
  cases (a.2.2.2.2.1.2.1 == b.2.2.2.2.1.2.1)
  ·first | rfl | simp
  cases (a.2.2.2.2.1.2.2.1 == b.2.2.2.2.1.2.2.1)
  ·first | rfl | simp
  cases (a.2.2.2.2.1.2.2.2.1 == b.2.2.2.2.1.2.2.2.1)
  ·first | rfl | simp
  cases (a.2.2.2.2.1.2.2.2.2.1 == b.2.2.2.2.1.2.2.2.2.1)
  ·first | rfl | simp
  cases (a.2.2.2.2.1.2.2.2.2.2.1 == b.2.2.2.2.1.2.2.2.2.2.1)
  ·first | rfl | simp
  cases (a.2.2.2.2.1.2.2.2.2.2.2.1 == b.2.2.2.2.1.2.2.2.2.2.2.1)
  ·first | rfl | simp
  cases (a.2.2.2.2.2.1.1 == b.2.2.2.2.2.1.1)
  ·first | rfl | simp
  cases (a.2.2.2.2.2.1.2.1 == b.2.2.2.2.2.1.2.1)
  ·first | rfl | simp
  cases (a.2.2.2.2.2.2.2.1 == b.2.2.2.2.2.2.2.1)
  ·first | rfl | simp
  cases (a.2.2.2.2.2.2.2.2.1 == b.2.2.2.2.2.2.2.2.1)
  ·first | rfl | simp
  cases (a.2.2.2.2.2.2.1.1 == b.2.2.2.2.2.2.1.1)
  ·first | rfl | simp
  cases (a.2.2.2.2.2.2.1.2.1 == b.2.2.2.2.2.2.1.2.1)
  ·first | rfl | simp
  cases (a.2.2.2.2.2.2.1.2.2.1 == b.2.2.2.2.2.2.1.2.2.1)
  ·first | rfl | simp
  cases (a.2.2.2.2.2.2.1.2.2.2.1 == b.2.2.2.2.2.2.1.2.2.2.1)
  ·first | rfl | simp
  cases (a.2.2.2.2.2.2.1.2.2.2.2.1 == b.2.2.2.2.2.2.1.2.2.2.2.1)
  ·first | rfl | simp
  cases (a.2.2.2.2.2.2.1.2.2.2.2.2.1 == b.2.2.2.2.2.2.1.2.2.2.2.2.1)
  ·first | rfl | simp
  first | rfl | simp
 ·simp only [e1,e2,e3]
  simp only [bne,Option.bind_some]
  cases (a.1 == b.1)
  ·first | rfl | simp
  cases (a.2.1 == b.2.1)
  ·first | rfl | simp
  cases (a.2.2.1 == b.2.2.1)
  ·first | rfl | simp
  cases (a.2.2.2.1 == b.2.2.2.1)
  ·first | rfl | simp
  cases (a.2.2.2.2.1.1 == b.2.2.2.2.1.1)
  ·first | rfl | simp
  cases (a.2.2.2.2.1.2.1 == b.2.2.2.2.1.2.1)
  ·first | rfl | simp
  cases (a.2.2.2.2.1.2.2.1 == b.2.2.2.2.1.2.2.1)
  ·first | rfl | simp
  cases (a.2.2.2.2.1.2.2.2.1 == b.2.2.2.2.1.2.2.2.1)
  ·first | rfl | simp
  cases (a.2.2.2.2.1.2.2.2.2.1 == b.2.2.2.2.1.2.2.2.2.1)
  ·first | rfl | simp
  cases (a.2.2.2.2.1.2.2.2.2.2.1 == b.2.2.2.2.1.2.2.2.2.2.1)
  ·first | rfl | simp
  cases (a.2.2.2.2.1.2.2.2.2.2.2.1 == b.2.2.2.2.1.2.2.2.2.2.2.1)
  ·first | rfl | simp
  cases (a.2.2.2.2.2.1.1 == b.2.2.2.2.2.1.1)
  ·first | rfl | simp
  cases (a.2.2.2.2.2.1.2.1 == b.2.2.2.2.2.1.2.1)
  ·first | rfl | simp
  cases (a.2.2.2.2.2.2.2.1 == b.2.2.2.2.2.2.2.1)
  ·first | rfl | simp
  cases (a.2.2.2.2.2.2.2.2.1 == b.2.2.2.2.2.2.2.2.1)
  ·first | rfl | simp
  cases (a.2.2.2.2.2.2.1.1 == b.2.2.2.2.2.2.1.1)
  ·first | rfl | simp
  cases (a.2.2.2.2.2.2.1.2.1 == b.2.2.2.2.2.2.1.2.1)
  ·first | rfl | simp
  cases (a.2.2.2.2.2.2.1.2.2.1 == b.2.2.2.2.2.2.1.2.2.1)
  ·first | rfl | simp
  cases (a.2.2.2.2.2.2.1.2.2.2.1 == b.2.2.2.2.2.2.1.2.2.2.1)
  ·first | rfl | simp
  cases (a.2.2.2.2.2.2.1.2.2.2.2.1 == b.2.2.2.2.2.2.1.2.2.2.2.1)
  ·first | rfl | simp
  cases (a.2.2.2.2.2.2.1.2.2.2.2.2.1 == b.2.2.2.2.2.2.1.2.2.2.2.2.1)
  ·first | rfl | simp
  first | rfl | simp
 ·simp only [e1,e2,e3]
  simp only [bne,Option.bind_some]
  cases (a.1 == b.1)
  ·first | rfl | simp
  cases (a.2.1 == b.2.1)
  ·first | rfl | simp
  cases (a.2.2.1 == b.2.2.1)
  ·first | rfl | simp
  cases (a.2.2.2.1 == b.2.2.2.1)
  ·first | rfl | simp
  cases (a.2.2.2.2.1.1 == b.2.2.2.2.1.1)
  ·first | rfl | simp
  cases (a.2.2.2.2.1.2.1 == b.2.2.2.2.1.2.1)
  ·first | rfl | simp
  cases (a.2.2.2.2.1.2.2.1 == b.2.2.2.2.1.2.2.1)
  ·first | rfl | simp
  cases (a.2.2.2.2.1.2.2.2.1 == b.2.2.2.2.1.2.2.2.1)
  ·first | rfl | simp
  cases (a.2.2.2.2.1.2.2.2.2.1 == b.2.2.2.2.1.2.2.2.2.1)
  ·first | rfl | simp
  cases (a.2.2.2.2.1.2.2.2.2.2.1 == b.2.2.2.2.1.2.2.2.2.2.1)
  ·first | rfl | simp
  cases (a.2.2.2.2.1.2.2.2.2.2.2.1 == b.2.2.2.2.1.2.2.2.2.2.2.1)
  ·first | rfl | simp
  cases (a.2.2.2.2.2.1.1 == b.2.2.2.2.2.1.1)
  ·first | rfl | simp
  cases (a.2.2.2.2.2.1.2.1 == b.2.2.2.2.2.1.2.1)
  ·first | rfl | simp
  cases (a.2.2.2.2.2.2.2.1 == b.2.2.2.2.2.2.2.1)
  ·first | rfl | simp
  cases (a.2.2.2.2.2.2.2.2.1 == b.2.2.2.2.2.2.2.2.1)
  ·first | rfl | simp
  cases (a.2.2.2.2.2.2.1.1 == b.2.2.2.2.2.2.1.1)
  ·first | rfl | simp
  cases (a.2.2.2.2.2.2.1.2.1 == b.2.2.2.2.2.2.1.2.1)
  ·first | rfl | simp
  cases (a.2.2.2.2.2.2.1.2.2.1 == b.2.2.2.2.2.2.1.2.2.1)
  ·first | rfl | simp
  cases (a.2.2.2.2.2.2.1.2.2.2.1 == b.2.2.2.2.2.2.1.2.2.2.1)
  ·first | rfl | simp
  cases (a.2.2.2.2.2.2.1.2.2.2.2.1 == b.2.2.2.2.2.2.1.2.2.2.2.1)
  ·first | rfl | simp
  cases (a.2.2.2.2.2.2.1.2.2.2.2.2.1 == b.2.2.2.2.2.2.1.2.2.2.2.2.1)
  ·first | rfl | simp
  first | rfl | simp
theorem FM (a b:aA.D) (h:okD aA a):ko a b=some (eqD aA a b):=by
 have hl:a.2.2.2.2.2.1.length≤33554432:=h.2.2.2.2.2.1.1
 have hE:eqD aA a b=((a.1 == b.1) && ((a.2.1 == b.2.1) && ((a.2.2.1 == b.2.2.1) && ((a.2.2.2.1 == b.2.2.2.1) && (((a.2.2.2.2.1.1 == b.2.2.2.2.1.1) && ((a.2.2.2.2.1.2.1 == b.2.2.2.2.1.2.1) && ((a.2.2.2.2.1.2.2.1 == b.2.2.2.2.1.2.2.1) && ((a.2.2.2.2.1.2.2.2.1 == b.2.2.2.2.1.2.2.2.1) && ((a.2.2.2.2.1.2.2.2.2.1 == b.2.2.2.2.1.2.2.2.2.1) && ((a.2.2.2.2.1.2.2.2.2.2.1 == b.2.2.2.2.1.2.2.2.2.2.1) && ((a.2.2.2.2.1.2.2.2.2.2.2.1 == b.2.2.2.2.1.2.2.2.2.2.2.1) && (true)))))))) && (eqD (.slice ae) a.2.2.2.2.2.1 b.2.2.2.2.2.1 && ((a.2.2.2.2.2.2.1 == b.2.2.2.2.2.2.1) && ((a.2.2.2.2.2.2.2.1 == b.2.2.2.2.2.2.2.1) && (true))))))))):=rfl
 unfold ko
 rw [hE]
 rcases Dn (t:=ae) rfl a.2.2.2.2.2.1 b.2.2.2.2.2.1 (e:=eqD ae) (fun _ _=>rfl) (by omega) (body:=vZ a b) (fun i=>rfl) with ⟨e1,e2⟩ | ⟨e1,⟨i,e2,e3⟩ | ⟨e2,e3⟩⟩
 ·simp only [e1,e2]
  simp only [bne]
  cases (a.1 == b.1)
  ·first | rfl | simp
  cases (a.2.1 == b.2.1)
  ·first | rfl | simp
  cases (a.2.2.1 == b.2.2.1)
  ·first | rfl | simp
  cases (a.2.2.2.1 == b.2.2.2.1)
  ·first | rfl | simp
  cases (a.2.2.2.2.1.1 == b.2.2.2.2.1.1)
  ·first | rfl | simp
  cases (a.2.2.2.2.1.2.1 == b.2.2.2.2.1.2.1)
  ·first | rfl | simp
  cases (a.2.2.2.2.1.2.2.1 == b.2.2.2.2.1.2.2.1)
  ·first | rfl | simp
  cases (a.2.2.2.2.1.2.2.2.1 == b.2.2.2.2.1.2.2.2.1)
  ·first | rfl | simp
  cases (a.2.2.2.2.1.2.2.2.2.1 == b.2.2.2.2.1.2.2.2.2.1)
  ·first | rfl | simp
  cases (a.2.2.2.2.1.2.2.2.2.2.1 == b.2.2.2.2.1.2.2.2.2.2.1)
  ·first | rfl | simp
  cases (a.2.2.2.2.1.2.2.2.2.2.2.1 == b.2.2.2.2.1.2.2.2.2.2.2.1)
  ·first | rfl | simp
  cases (a.2.2.2.2.2.2.1 == b.2.2.2.2.2.2.1)
  ·first | rfl | simp
  cases (a.2.2.2.2.2.2.2.1 == b.2.2.2.2.2.2.2.1)
  ·first | rfl | simp
  first | rfl | simp
 ·simp only [e1,e2,e3]
  simp only [bne,Option.bind_some]
  cases (a.1 == b.1)
  ·first | rfl | simp
  cases (a.2.1 == b.2.1)
  ·first | rfl | simp
  cases (a.2.2.1 == b.2.2.1)
  ·first | rfl | simp
  cases (a.2.2.2.1 == b.2.2.2.1)
  ·first | rfl | simp
  cases (a.2.2.2.2.1.1 == b.2.2.2.2.1.1)
  ·first | rfl | simp
  cases (a.2.2.2.2.1.2.1 == b.2.2.2.2.1.2.1)
  ·first | rfl | simp
  cases (a.2.2.2.2.1.2.2.1 == b.2.2.2.2.1.2.2.1)
  ·first | rfl | simp
  cases (a.2.2.2.2.1.2.2.2.1 == b.2.2.2.2.1.2.2.2.1)
  ·first | rfl | simp
  cases (a.2.2.2.2.1.2.2.2.2.1 == b.2.2.2.2.1.2.2.2.2.1)
  ·first | rfl | simp
  cases (a.2.2.2.2.1.2.2.2.2.2.1 == b.2.2.2.2.1.2.2.2.2.2.1)
  ·first | rfl | simp
  cases (a.2.2.2.2.1.2.2.2.2.2.2.1 == b.2.2.2.2.1.2.2.2.2.2.2.1)
  ·first | rfl | simp
  cases (a.2.2.2.2.2.2.1 == b.2.2.2.2.2.2.1)
  ·first | rfl | simp
  cases (a.2.2.2.2.2.2.2.1 == b.2.2.2.2.2.2.2.1)
  ·first | rfl | simp
  first | rfl | simp
 ·simp only [e1,e2,e3]
  simp only [bne,Option.bind_some]
  cases (a.1 == b.1)
  ·first | rfl | simp
  cases (a.2.1 == b.2.1)
  ·first | rfl | simp
  cases (a.2.2.1 == b.2.2.1)
  ·first | rfl | simp
  cases (a.2.2.2.1 == b.2.2.2.1)
  ·first | rfl | simp
  cases (a.2.2.2.2.1.1 == b.2.2.2.2.1.1)
  ·first | rfl | simp
  cases (a.2.2.2.2.1.2.1 == b.2.2.2.2.1.2.1)
  ·first | rfl | simp
  cases (a.2.2.2.2.1.2.2.1 == b.2.2.2.2.1.2.2.1)
  ·first | rfl | simp
  cases (a.2.2.2.2.1.2.2.2.1 == b.2.2.2.2.1.2.2.2.1)
  ·first | rfl | simp
  cases (a.2.2.2.2.1.2.2.2.2.1 == b.2.2.2.2.1.2.2.2.2.1)
  ·first | rfl | simp
  cases (a.2.2.2.2.1.2.2.2.2.2.1 == b.2.2.2.2.1.2.2.2.2.2.1)
  ·first | rfl | simp
  cases (a.2.2.2.2.1.2.2.2.2.2.2.1 == b.2.2.2.2.1.2.2.2.2.2.2.1)
  ·first | rfl | simp
  cases (a.2.2.2.2.2.2.1 == b.2.2.2.2.2.2.1)
  ·first | rfl | simp
  cases (a.2.2.2.2.2.2.2.1 == b.2.2.2.2.2.2.2.1)
  ·first | rfl | simp
  first | rfl | simp
theorem Gt (a b:List ae.D) (h:a.length≤33554432):eQ a b=some (eqD (.slice ae) a b) :=
 i6 (t:=ae) rfl a b (e:=eqD ae) (fun _ _=>rfl) (by omega) (fun i=>rfl)
theorem CJ (a b:aa.D) (h:okD aa a):fO a b=some (eqD aa a b):=by
 have hl:a.2.2.2.2.2.2.1.2.2.2.2.2.2.1.length≤33554432:=h.2.2.2.2.2.2.1.2.2.2.2.2.2.1.1
 have hE:eqD aa a b=((a.1 == b.1) && ((a.2.1 == b.2.1) && ((a.2.2.1 == b.2.2.1) && ((a.2.2.2.1 == b.2.2.2.1) && (((a.2.2.2.2.1.1 == b.2.2.2.2.1.1) && ((a.2.2.2.2.1.2.1 == b.2.2.2.2.1.2.1) && ((a.2.2.2.2.1.2.2.1 == b.2.2.2.2.1.2.2.1) && ((a.2.2.2.2.1.2.2.2.1 == b.2.2.2.2.1.2.2.2.1) && ((a.2.2.2.2.1.2.2.2.2.1 == b.2.2.2.2.1.2.2.2.2.1) && ((a.2.2.2.2.1.2.2.2.2.2.1 == b.2.2.2.2.1.2.2.2.2.2.1) && ((a.2.2.2.2.1.2.2.2.2.2.2.1 == b.2.2.2.2.1.2.2.2.2.2.2.1) && (true)))))))) && (((a.2.2.2.2.2.1.1 == b.2.2.2.2.2.1.1) && ((a.2.2.2.2.2.1.2.1 == b.2.2.2.2.2.1.2.1) && (true))) && (((a.2.2.2.2.2.2.1.1 == b.2.2.2.2.2.2.1.1) && ((a.2.2.2.2.2.2.1.2.1 == b.2.2.2.2.2.2.1.2.1) && ((a.2.2.2.2.2.2.1.2.2.1 == b.2.2.2.2.2.2.1.2.2.1) && ((a.2.2.2.2.2.2.1.2.2.2.1 == b.2.2.2.2.2.2.1.2.2.2.1) && ((a.2.2.2.2.2.2.1.2.2.2.2.1 == b.2.2.2.2.2.2.1.2.2.2.2.1) && ((a.2.2.2.2.2.2.1.2.2.2.2.2.1 == b.2.2.2.2.2.2.1.2.2.2.2.2.1) && (eqD (.slice ae) a.2.2.2.2.2.2.1.2.2.2.2.2.2.1 b.2.2.2.2.2.2.1.2.2.2.2.2.2.1 && (true)))))))) && ((a.2.2.2.2.2.2.2.1 == b.2.2.2.2.2.2.2.1) && ((a.2.2.2.2.2.2.2.2.1 == b.2.2.2.2.2.2.2.2.1) && (true)))))))))):=rfl
 unfold fO
 rw [hE]
 unfold wZ
 simp only [Gt _ _ hl,Option.bind_some]
 cases (a.1 == b.1)
 ·first | rfl | simp
 cases (a.2.1 == b.2.1)
 ·first | rfl | simp
 cases (a.2.2.1 == b.2.2.1)
 ·first | rfl | simp
 cases (a.2.2.2.1 == b.2.2.2.1)
 ·first | rfl | simp
 cases (a.2.2.2.2.1.1 == b.2.2.2.2.1.1)
 ·first | rfl | simp
 cases (a.2.2.2.2.1.2.1 == b.2.2.2.2.1.2.1)
 ·first | rfl | simp
 cases (a.2.2.2.2.1.2.2.1 == b.2.2.2.2.1.2.2.1)
 ·first | rfl | simp
 cases (a.2.2.2.2.1.2.2.2.1 == b.2.2.2.2.1.2.2.2.1)
 ·first | rfl | simp
 cases (a.2.2.2.2.1.2.2.2.2.1 == b.2.2.2.2.1.2.2.2.2.1)
 ·first | rfl | simp
 cases (a.2.2.2.2.1.2.2.2.2.2.1 == b.2.2.2.2.1.2.2.2.2.2.1)
 ·first | rfl | simp
 cases (a.2.2.2.2.1.2.2.2.2.2.2.1 == b.2.2.2.2.1.2.2.2.2.2.2.1)
 ·first | rfl | simp
 cases (a.2.2.2.2.2.1.1 == b.2.2.2.2.2.1.1)
 ·first | rfl | simp
 cases (a.2.2.2.2.2.1.2.1 == b.2.2.2.2.2.1.2.1)
 ·first | rfl | simp
 cases (a.2.2.2.2.2.2.1.1 == b.2.2.2.2.2.2.1.1)
 ·first | rfl | simp
 cases (a.2.2.2.2.2.2.1.2.1 == b.2.2.2.2.2.2.1.2.1)
 ·first | rfl | simp
 cases (a.2.2.2.2.2.2.1.2.2.1 == b.2.2.2.2.2.2.1.2.2.1)
 ·first | rfl | simp
 cases (a.2.2.2.2.2.2.1.2.2.2.1 == b.2.2.2.2.2.2.1.2.2.2.1)
 ·first | rfl | simp
 cases (a.2.2.2.2.2.2.1.2.2.2.2.1 == b.2.2.2.2.2.2.1.2.2.2.2.1)
 ·first | rfl | simp
 cases (a.2.2.2.2.2.2.1.2.2.2.2.2.1 == b.2.2.2.2.2.2.1.2.2.2.2.2.1)
 ·first | rfl | simp
 cases eqD (.slice ae) a.2.2.2.2.2.2.1.2.2.2.2.2.2.1 b.2.2.2.2.2.2.1.2.2.2.2.2.2.1
 ·first | rfl | simp
 cases (a.2.2.2.2.2.2.2.1 == b.2.2.2.2.2.2.2.1)
 ·first | rfl | simp
 cases (a.2.2.2.2.2.2.2.2.1 == b.2.2.2.2.2.2.2.2.1)
 ·first | rfl | simp
 rfl
theorem FN (a b:aA.D) (h:okD aA a):iE a b=some (eqD aA a b):=by
 have hl:a.2.2.2.2.2.1.length≤33554432:=h.2.2.2.2.2.1.1
 have hE:eqD aA a b=((a.1 == b.1) && ((a.2.1 == b.2.1) && ((a.2.2.1 == b.2.2.1) && ((a.2.2.2.1 == b.2.2.2.1) && (((a.2.2.2.2.1.1 == b.2.2.2.2.1.1) && ((a.2.2.2.2.1.2.1 == b.2.2.2.2.1.2.1) && ((a.2.2.2.2.1.2.2.1 == b.2.2.2.2.1.2.2.1) && ((a.2.2.2.2.1.2.2.2.1 == b.2.2.2.2.1.2.2.2.1) && ((a.2.2.2.2.1.2.2.2.2.1 == b.2.2.2.2.1.2.2.2.2.1) && ((a.2.2.2.2.1.2.2.2.2.2.1 == b.2.2.2.2.1.2.2.2.2.2.1) && ((a.2.2.2.2.1.2.2.2.2.2.2.1 == b.2.2.2.2.1.2.2.2.2.2.2.1) && (true)))))))) && (eqD (.slice ae) a.2.2.2.2.2.1 b.2.2.2.2.2.1 && ((a.2.2.2.2.2.2.1 == b.2.2.2.2.2.2.1) && ((a.2.2.2.2.2.2.2.1 == b.2.2.2.2.2.2.2.1) && (true))))))))):=rfl
 unfold iE
 rw [hE]
 simp only [Gt _ _ hl,Option.bind_some]
 cases (a.1 == b.1)
 ·first | rfl | simp
 cases (a.2.1 == b.2.1)
 ·first | rfl | simp
 cases (a.2.2.1 == b.2.2.1)
 ·first | rfl | simp
 cases (a.2.2.2.1 == b.2.2.2.1)
 ·first | rfl | simp
 cases (a.2.2.2.2.1.1 == b.2.2.2.2.1.1)
 ·first | rfl | simp
 cases (a.2.2.2.2.1.2.1 == b.2.2.2.2.1.2.1)
 ·first | rfl | simp
 cases (a.2.2.2.2.1.2.2.1 == b.2.2.2.2.1.2.2.1)
 ·first | rfl | simp
 cases (a.2.2.2.2.1.2.2.2.1 == b.2.2.2.2.1.2.2.2.1)
 ·first | rfl | simp
 cases (a.2.2.2.2.1.2.2.2.2.1 == b.2.2.2.2.1.2.2.2.2.1)
 ·first | rfl | simp
 cases (a.2.2.2.2.1.2.2.2.2.2.1 == b.2.2.2.2.1.2.2.2.2.2.1)
 ·first | rfl | simp
 cases (a.2.2.2.2.1.2.2.2.2.2.2.1 == b.2.2.2.2.1.2.2.2.2.2.2.1)
 ·first | rfl | simp
 cases eqD (.slice ae) a.2.2.2.2.2.1 b.2.2.2.2.2.1
 ·first | rfl | simp
 cases (a.2.2.2.2.2.2.1 == b.2.2.2.2.2.2.1)
 ·first | rfl | simp
 cases (a.2.2.2.2.2.2.2.1 == b.2.2.2.2.2.2.2.1)
 ·first | rfl | simp
 rfl
theorem Ey (a b:List aa.D) (h:okD (.slice aa) a):nj a b=some (eqD (.slice aa) a b):=by
 have hl:a.length≤33554432:=h.1
 unfold nj
 exact Ai (t:=aa) rfl a b (e:=iy) (fun x hx y=>CH x y (h.2 x hx)) (by omega) (fun _=>rfl)
theorem Ez (a b:List aa.D) (h:okD (.slice aa) a):nh a b=some (eqD (.slice aa) a b):=by
 have hl:a.length≤33554432:=h.1
 unfold nh
 rw [show eU a b (fun q=>fO q.1 q.2.1)=some (eqD (.slice aa) a b) from
  Ai (t:=aa) rfl a b (e:=fO) (fun x hx y=>CJ x y (h.2 x hx)) (by omega) (fun _=>rfl)]
 rfl
theorem EA (a b:List aA.D) (h:okD (.slice aA) a):iP a b=some (eqD (.slice aA) a b):=by
 have hl:a.length≤33554432:=h.1
 unfold iP
 exact Ai (t:=aA) rfl a b (e:=ko) (fun x hx y=>FM x y (h.2 x hx)) (by omega) (fun _=>rfl)
theorem EB (a b:List aA.D) (h:okD (.slice aA) a):fC a b (fun q=>iE q.1 q.2.1)=some (eqD (.slice aA) a b):=by
 have hl:a.length≤33554432:=h.1
 exact Ai (t:=aA) rfl a b (e:=iE) (fun x hx y=>FN x y (h.2 x hx)) (by omega) (fun _=>rfl)
theorem FO (a b:List Int) (h:a.length≤33554432):jG a b=some (eqD (.slice (.int .i64)) a b):=by
 unfold jG
 exact i6 (t:=.int .i64) rfl a b (e:=fun (x y:Int)=>x == y) (fun _ _=>rfl) (by omega) (fun i=>rfl)
theorem RG (a b:List Int) (h:a.length≤33554432):oS a b=some (eqD (.slice (.int .i64)) a b) :=
 i6 (t:=.int .i64) rfl a b (e:=fun (x y:Int)=>x == y) (fun _ _=>rfl) (by omega) (fun i=>rfl)
theorem z6 (a b:List ah.D) (h:a.length≤33554432):iO a b=some (eqD (.slice ah) a b):=by
 unfold iO
 exact i6 (t:=ah) rfl a b (e:=eqD ah) (fun _ _=>rfl) (by omega) (fun i=>rfl)
theorem qn (a b:List ah.D) (h:a.length≤33554432):ga a b=some (eqD (.slice ah) a b):=by
 unfold ga
 rw [show fM a b=some (eqD (.slice ah) a b) from i6 (t:=ah) rfl a b (e:=eqD ah) (fun _ _=>rfl) (by omega) (fun i=>rfl)]
 rfl
theorem EC (a b:List aq.D) (h:a.length≤33554432):nk a b=some (eqD (.slice aq) a b):=by
 unfold nk
 exact i6 (t:=aq) rfl a b (e:=eqD aq) (fun _ _=>rfl) (by omega) (fun i=>rfl)
theorem uG (a b:List aq.D) (h:a.length≤33554432):jl a b=some (eqD (.slice aq) a b):=by
 unfold jl
 rw [show iq a b=some (eqD (.slice aq) a b) from i6 (t:=aq) rfl a b (e:=eqD aq) (fun _ _=>rfl) (by omega) (fun i=>rfl)]
 rfl
theorem Nn (b c:Bool):(bif b then some c else some false)=some (b && c):=by cases b <;> rfl
theorem ED (a b:ac.D) (hp:a.1.length≤33554432) (hs:a.2.1.length≤33554432):ng a b=some (eqD ac a b):=by
 have hE:eqD ac a b=(eqD (.slice ai) a.1 b.1 && (eqD (.slice ay) a.2.1 b.2.1 && ((a.2.2.1 == b.2.2.1) && ((a.2.2.2.1 == b.2.2.2.1) && true)))):=rfl
 unfold ng
 rw [hE,show gS a.1 b.1=some (eqD (.slice ai) a.1 b.1) from i6 (t:=ai) rfl a.1 b.1 (e:=eqD ai) (fun _ _=>rfl) (by omega) (fun i=>rfl),
  show ip a.2.1 b.2.1=some (eqD (.slice ay) a.2.1 b.2.1) from i6 (t:=ay) rfl a.2.1 b.2.1 (e:=eqD ay) (fun _ _=>rfl) (by omega) (fun i=>rfl)]
 simp only [Option.bind_some,Nn]
 cases eqD (.slice ai) a.1 b.1 <;> cases eqD (.slice ay) a.2.1 b.2.1 <;> cases (a.2.2.1 == b.2.2.1) <;> cases (a.2.2.2.1 == b.2.2.2.1) <;> rfl
theorem EE (a b:ac.D) (hp:a.1.length≤33554432) (hs:a.2.1.length≤33554432):ni a b=some (eqD ac a b):=by
 have hE:eqD ac a b=(eqD (.slice ai) a.1 b.1 && (eqD (.slice ay) a.2.1 b.2.1 && ((a.2.2.1 == b.2.2.1) && ((a.2.2.2.1 == b.2.2.2.1) && true)))):=rfl
 unfold ni
 rw [hE]
 rcases Dn (t:=ai) rfl a.1 b.1 (e:=eqD ai) (fun _ _=>rfl) (by omega) (body:=uz a b) (fun i=>rfl) with ⟨e1,e2⟩ | ⟨e1,⟨i,e2,e3⟩ | ⟨e2,e3⟩⟩ <;>
 rcases Dn (t:=ay) rfl a.2.1 b.2.1 (e:=eqD ay) (fun _ _=>rfl) (by omega) (body:=uA a b) (fun i=>rfl) with ⟨f1,f2⟩ | ⟨f1,⟨j,f2,f3⟩ | ⟨f2,f3⟩⟩ <;>
 simp only [*] <;> simp only [bne,Option.bind_some] <;>
 cases (a.2.2.1 == b.2.2.1) <;> cases (a.2.2.2.1 == b.2.2.2.1) <;> first | rfl | simp
theorem FP (a b:aC.D) (h:okD aC a):pu a b=some (eqD aC a b):=by
 have hE:eqD aC a b=(eqD ac a.1 b.1 && (eqD (.slice aa) a.2.1 b.2.1 && (eqD (.slice (.int .i64)) a.2.2.1 b.2.2.1 && (eqD (.slice ah) a.2.2.2.1 b.2.2.2.1 && (eqD (.slice aq) a.2.2.2.2.1 b.2.2.2.2.1 && (eqD (.slice aA) a.2.2.2.2.2.1 b.2.2.2.2.2.1 && true)))))):=rfl
 unfold pu
 rw [hE]
 simp only [EE _ _ h.1.1.1 h.1.2.1.1,Ey _ _ h.2.1,FO _ _ h.2.2.1.1,z6 _ _ h.2.2.2.1.1,EC _ _ h.2.2.2.2.1.1,EA _ _ h.2.2.2.2.2.1,Option.bind_some,Nn,Bool.and_true]
theorem v9 (a b:aC.D) (h:okD aC a):iF a b=some (eqD aC a b):=by
 have hE:eqD aC a b=(eqD ac a.1 b.1 && (eqD (.slice aa) a.2.1 b.2.1 && (eqD (.slice (.int .i64)) a.2.2.1 b.2.2.1 && (eqD (.slice ah) a.2.2.2.1 b.2.2.2.1 && (eqD (.slice aq) a.2.2.2.2.1 b.2.2.2.2.1 && (eqD (.slice aA) a.2.2.2.2.2.1 b.2.2.2.2.2.1 && true)))))):=rfl
 unfold iF
 rw [hE]
 simp only [ED _ _ h.1.1.1 h.1.2.1.1,Ez _ _ h.2.1,RG _ _ h.2.2.1.1,qn _ _ h.2.2.2.1.1,uG _ _ h.2.2.2.2.1.1,EB _ _ h.2.2.2.2.2.1,Option.bind_some,Nn,Bool.and_true]
def aY (c:aj.D):Prop:=0≤c.2.1∧c.1.length≤33554432
theorem Qp (b:List Int) (i g:Int) (u:Unit) (h0:0≤i) (h1:b.length≤33554432):Tot (gX (b,i,g,u)) (fun y=>aY y.2.1∧0≤y.1∧y.1≤255):=by
 unfold gX
 simp only
 rw [if_pos (by decide),if_pos (by decide)]
 refine Tot.bif (fun hl=>?_) (fun _=>?_)
 ·have hl:i < (b.length:Int):=of_decide_eq_true hl
  refine Tot.idx h0 hl fun n x e hx=>?_
  obtain ⟨m,e1,e2⟩:=LC (IntKind.wrap .i64 (IntKind.wrap .i64 (BitVec.ofInt (IntKind.bits .i64) (IntKind.wrap .i64 (BitVec.ofInt (IntKind.bits .i64) ((IntKind.wrap .i64 ((IntKind.wrap .i64 (g * 6364136223846793005)) + 1442695040888963407)).fdiv (2 ^ min (33:Int).toNat (IntKind.bits .i64))) ^^^ BitVec.ofInt (IntKind.bits .i64) ((IntKind.wrap .i64 ((IntKind.wrap .i64 (g * 6364136223846793005)) + 1442695040888963407)).fdiv (2 ^ min (47:Int).toNat (IntKind.bits .i64)))).toNat) &&& BitVec.ofInt (IntKind.bits .i64) 255).toNat + IntKind.wrap .i64 x))
  refine Tot.pure ⟨⟨?_,h1⟩,?_,?_⟩
  ·show (0:Int)≤IntKind.wrap .i64 (i + 1)
   rw [aD (by omega) (by omega)];omega
  ·simp only;rw [e1];omega
  ·simp only;rw [e1];omega
 ·obtain ⟨m,e1,e2⟩:=LC (IntKind.wrap .i64 (BitVec.ofInt (IntKind.bits .i64) ((IntKind.wrap .i64 ((IntKind.wrap .i64 (g * 6364136223846793005)) + 1442695040888963407)).fdiv (2 ^ min (33:Int).toNat (IntKind.bits .i64))) ^^^ BitVec.ofInt (IntKind.bits .i64) ((IntKind.wrap .i64 ((IntKind.wrap .i64 (g * 6364136223846793005)) + 1442695040888963407)).fdiv (2 ^ min (47:Int).toNat (IntKind.bits .i64)))).toNat)
  refine Tot.pure ⟨⟨h0,h1⟩,?_,?_⟩
  ·simp only;rw [e1];omega
  ·simp only;rw [e1];omega
theorem Ax (c:aj.D) (h:aY c):Tot (gX c) (fun y=>aY y.2.1∧0≤y.1∧y.1≤255):=Qp c.1 c.2.1 c.2.2.1 c.2.2.2 h.1 h.2
theorem aN (c:aj.D) (n:Int) (h:aY c):Tot (aI c n) (fun y=>aY y.2.1∧0≤y.1∧(0 < n→y.1 < n)):=by
 unfold aI
 refine Tot.bif (fun hn=>?_) (fun hn=>?_)
 ·have hn:n≤0:=of_decide_eq_true hn
  exact Tot.pure ⟨h,Int.le_refl _,fun h=>by omega⟩
 ·have hn:¬ n≤0:=of_decide_eq_false hn
  refine Tot.bif (fun _=>?_) (fun _=>?_)
  ·refine Tot.bind (Ax c h) ?_
   rintro y ⟨hc,h0,h1⟩
   rw [if_neg (by omega)]
   exact Tot.pure ⟨hc,Int.tmod_nonneg _ h0,fun hp=>Int.tmod_lt_of_pos _ hp⟩
  ·refine Tot.bind (Ax c h) ?_
   rintro y2 ⟨hc2,h20,h21⟩
   refine Tot.bind (Ax _ hc2) ?_
   rintro y3 ⟨hc3,h30,h31⟩
   refine Tot.bind (Ax _ hc3) ?_
   rintro y4 ⟨hc4,h40,h41⟩
   show Tot (if n=0 then none else some ((IntKind.wrap .i64 (IntKind.wrap .i64 (IntKind.wrap .i64 (y2.1 * 65536) + IntKind.wrap .i64 (y3.1 * 256)) + y4.1)).tmod n,y4.2)) _
   rw [aD (n:=y2.1 * 65536) (by omega) (by omega),aD (n:=y3.1 * 256) (by omega) (by omega),aD (n:=y2.1 * 65536 + y3.1 * 256) (by omega) (by omega),aD (n:=y2.1 * 65536 + y3.1 * 256 + y4.1) (by omega) (by omega),if_neg (by omega)]
   exact Tot.pure ⟨hc4,Int.tmod_nonneg _ (by omega),fun hp=>Int.tmod_lt_of_pos _ hp⟩
theorem bh (c:aj.D) (l:List Int) (h:aY c) (hl:0 < l.length):Tot (aF c l) (fun y=>aY y.2.1∧y.1∈l):=by
 unfold aF
 refine Tot.bind (aN c _ h) ?_
 rintro y ⟨hc,h0,h1⟩
 refine Tot.idx h0 (h1 (by omega)) fun n x e hx=>?_
 exact Tot.pure ⟨hc,List.mem_of_getElem? hx⟩
theorem cH (c:aj.D) (n:Int) (h:aY c):Tot (bu c n) (fun y=>aY y.2.1∧True):=by
 unfold bu
 refine Tot.bind (aN c _ h) ?_
 rintro y ⟨hc,h0,h1⟩
 exact Tot.pure ⟨hc,trivial⟩
theorem S7 (c:aj.D) (h:aY c):Tot (wF c) (fun y=>aY y.2.1∧True):=by
 unfold wF
 refine Tot.bind (bh c _ h (by decide)) ?_
 rintro y ⟨hc,_⟩
 exact Tot.pure ⟨hc,trivial⟩
theorem nB (c:aj.D) (h:aY c):Tot (eh c) (fun y=>aY y.2.1∧True):=by
 unfold eh
 refine Tot.bind (cH c _ h) ?_
 rintro y ⟨hc,_⟩
 refine Tot.bif (fun _=>?_) (fun _=>?_)
 ·refine Tot.bind (S7 _ hc) ?_
  rintro y ⟨hc,_⟩
  exact Tot.pure ⟨hc,trivial⟩
 ·refine Tot.bind (bh _ _ hc (by decide)) ?_
  rintro y ⟨hc,_⟩
  exact Tot.pure ⟨hc,trivial⟩
theorem FQ (c:aj.D) (id:Int) (h:aY c):Tot (lH c id) (fun y=>aY y.2.1∧True):=by
 unfold lH
 refine Tot.bind (aN c _ h) ?_
 rintro y1 ⟨_,_⟩
 refine Tot.bind (bh _ _ (by assumption) (by decide)) ?_
 rintro y2 ⟨_,_⟩
 refine Tot.bind (aN _ _ (by assumption)) ?_
 rintro y3 ⟨_,_⟩
 refine Tot.bind (aN _ _ (by assumption)) ?_
 rintro y4 ⟨_,_⟩
 refine Tot.bind (aN _ _ (by assumption)) ?_
 rintro y5 ⟨h5,_⟩
 refine Tot.bind (P:=fun o=>aY o.2.1) (Tot.while (fun s=>aY s.2.1∧0≤s.1∧s.1≤6) (fun s=>6 - s.1.toNat) ?_ ⟨h5,by simp only;omega,by simp only;omega⟩) ?_
 ·rintro ⟨i,cc,t⟩ ⟨g1,g2,g3⟩
  simp only at g1 g2 g3
  unfold yF
  simp only
  refine Tot.bif (fun hl=>?_) (fun _=>?_)
  ·have hl:i < (6:Int):=of_decide_eq_true hl
   refine Tot.idx g2 (by simpa using hl) fun n x e hx=>?_
   subst e
   rw [Int.toNat_natCast,hx,Option.bind_some]
   refine Tot.bind (cH _ _ g1) ?_
   rintro y ⟨hc,_⟩
   refine Tot.bif (fun _=>?_) (fun _=>?_) <;> refine Tot.pure ⟨⟨hc,?_,?_⟩,?_⟩ <;> simp only <;> rw [aD (by omega) (by omega)] <;> omega
  ·exact Tot.pure g1
 ·rintro o ho
  refine Tot.bif (fun _=>Tot.pure ⟨ho,trivial⟩) (fun _=>?_)
  refine Tot.bind (cH _ _ ho) ?_
  rintro y12 ⟨h12,_⟩
  refine Tot.bind (P:=fun _=>True) (Tot.bif (fun _=>Tot.pure trivial) (fun _=>Tot.pure trivial)) ?_
  rintro o13 _
  refine Tot.bind (bh _ _ h12 (by decide)) ?_
  rintro y14 ⟨h14,_⟩
  refine Tot.bind (bh _ _ h14 (by decide)) ?_
  rintro y15 ⟨h15,_⟩
  refine Tot.bind (bh _ _ h15 (by decide)) ?_
  rintro y16 ⟨h16,_⟩
  refine Tot.bind (cH _ _ h16) ?_
  rintro y17 ⟨h17,_⟩
  exact Tot.pure ⟨h17,trivial⟩
theorem Ph (c:aj.D) (h:aY c):Tot (sF c) (fun y=>aY y.2.1∧True):=by
 unfold sF
 refine Tot.bind (aN c _ h) ?_
 rintro y1 ⟨h1,_⟩
 refine Tot.bind (FQ _ _ h1) ?_
 rintro y2 ⟨h2,_⟩
 refine Tot.bind (aN _ _ h2) ?_
 rintro y3 ⟨h3,_⟩
 repeat' first
  | refine Tot.bif (fun _=>?_) (fun _=>?_)
  | (refine Tot.bind (bh _ _ h3 (by decide)) ?_;rintro y ⟨hy,_⟩;exact Tot.pure ⟨hy,trivial⟩)
  | (refine Tot.bind (nB _ h3) ?_;rintro y ⟨hy,_⟩;exact Tot.pure ⟨hy,trivial⟩)
  | exact Tot.pure ⟨h3,trivial⟩
theorem LN (c:aj.D) (h:aY c):Tot (lI c) (fun y=>aY y.2.1∧1≤y.1.1.length∧y.1.1.length≤6∧y.1.2.1.length=2):=by
 unfold lI
 refine Tot.bind (P:=fun s=>s.1.length=0∧s.2.1.length=2) ⟨_,rfl,rfl,rfl⟩ ?_
 rintro y1 ⟨p1,p2⟩
 refine Tot.bind (aN c _ h) ?_
 rintro y2 ⟨h2,_⟩
 refine Tot.bind (aN _ _ h2) ?_
 rintro y3 ⟨h3,_⟩
 refine Tot.bind (P:=fun o=>aY o.2.1∧o.2.2.1.length=0∧o.2.2.2.1.length=2) (Tot.while (fun s=>aY s.2.1∧s.2.2.1.length=0∧s.2.2.2.1.length=2∧0≤s.1∧s.1≤2) (fun s=>2 - s.1.toNat) ?_ ⟨h3,p1,p2,by simp only;omega,by simp only;omega⟩) ?_
 ·rintro ⟨i,cc,ps,ss,t⟩ ⟨g1,g2,g3,g4,g5⟩
  simp only at g1 g2 g3 g4 g5
  unfold yG
  simp only
  refine Tot.bif (fun hl=>?_) (fun _=>Tot.pure ⟨g1,g2,g3⟩)
  have hl:i < (2:Int):=of_decide_eq_true hl
  refine Tot.bind (bh _ _ g1 (by decide)) ?_
  rintro y7 ⟨h7,_⟩
  refine Tot.idx g4 (by omega) fun n x e hx=>?_
  subst e
  rw [Int.toNat_natCast,hx,Option.bind_some]
  refine Tot.bind (bh _ _ h7 (by decide)) ?_
  rintro y10 ⟨h10,_⟩
  have hn:n < ss.length:=by omega
  rw [Ah hn,tZ hn,Option.bind_some]
  refine Tot.pure ⟨⟨h10,g2,by simp only [List.length_set];exact g3,?_,?_⟩,?_⟩ <;> simp only <;> rw [aD (by omega) (by omega)] <;> omega
 ·rintro o ⟨g1,g2,g3⟩
  refine Tot.bind (aN _ _ g1) ?_
  rintro y14 ⟨h14,h14a,h14b⟩
  have hlt:=h14b (by decide)
  rw [aD (n:=1 + y14.1) (by omega) (by omega)]
  refine Tot.bind (P:=fun o=>aY o.2.2.1∧1≤o.2.2.2.1.length∧o.2.2.2.1.length≤6∧o.2.2.2.2.1.length=2) (Tot.while (fun s=>aY s.2.2.1∧0≤s.2.1∧(s.2.2.2.1.length:Int) + s.2.1=1 + y14.1∧s.2.2.2.2.1.length=2) (fun s=>s.2.1.toNat) ?_ ⟨h14,by simp only;omega,by simp only;omega,g3⟩) ?_
  ·rintro ⟨id,i,cc,ps,ss,t⟩ ⟨k1,k2,k3,k4⟩
   simp only at k1 k2 k3 k4
   unfold yI
   simp only
   refine Tot.bif (fun hl=>?_) (fun hl=>Tot.pure ⟨k1,?_,?_,k4⟩)
   ·have hl:i > 0:=of_decide_eq_true hl
    refine Tot.bind (aN _ _ k1) ?_
    rintro y18 ⟨h18,_⟩
    refine Tot.bind (FQ _ _ h18) ?_
    rintro y19 ⟨h19,_⟩
    rw [if_pos (by simp only [aG,List.length_cons,List.length_nil];omega)]
    refine Tot.pure ⟨⟨h19,?_,?_,k4⟩,?_⟩ <;> simp only [List.length_append,List.length_cons,List.length_nil] <;> rw [aD (n:=i - 1) (by omega) (by omega)] <;> omega
   ·have hl:¬ i > 0:=of_decide_eq_false hl
    simp only;omega
   ·have hl:¬ i > 0:=of_decide_eq_false hl
    simp only;omega
  ·rintro o ⟨k1,k2⟩
   exact Tot.pure ⟨k1,k2⟩
theorem S8 (c:aj.D) (h:aY c):Tot (wG c) (fun y=>aY y.2.1∧y.1.1.length≤20∧y.1.2.1.length≤3):=by
 unfold wG
 refine Tot.bind (LN c h) ?_
 rintro ⟨⟨ps,ss,t⟩,c1⟩ ⟨h1,g1,g2,g3⟩
 simp only at h1 g1 g2 g3
 refine Tot.bind (aN _ _ h1) ?_
 rintro y2 ⟨h2,_⟩
 refine Tot.bif (fun _=>?_) (fun _=>?_)
 ·refine Tot.bind (bh _ _ h2 (by decide)) ?_
  rintro y ⟨hy,_⟩
  exact Tot.pure ⟨hy,by simp only;omega,by simp only;omega⟩
 refine Tot.bif (fun _=>?_) (fun _=>?_)
 ·refine Tot.bind (bh _ _ h2 (by decide)) ?_
  rintro y ⟨hy,_⟩
  exact Tot.pure ⟨hy,by simp only;omega,by simp only;omega⟩
 refine Tot.bif (fun _=>?_) (fun _=>?_)
 ·refine Tot.bind (nB _ h2) ?_
  rintro y ⟨hy,_⟩
  rw [if_pos (by simp only [aG,List.length_cons,List.length_nil];omega)]
  exact Tot.pure ⟨hy,by simp only;omega,by simp only [List.length_append,List.length_cons,List.length_nil];omega⟩
 refine Tot.bif (fun _=>?_) (fun _=>?_)
 ·refine Tot.bind (nB _ h2) ?_
  rintro y ⟨hy,_⟩
  refine Tot.idx (by decide) (by simp only;omega) fun n x e hx=>?_
  have:n=0:=by omega
  subst this
  rw [show ((0:Int)).toNat=0 from rfl,hx,Option.bind_some]
  exact Tot.pure ⟨hy,by simp only;omega,by simp only [List.length_set];omega⟩
 refine Tot.bif (fun _=>?_) (fun _=>?_)
 ·refine Tot.bind (Ph _ h2) ?_
  rintro y ⟨hy,_⟩
  rw [if_pos (by simp only [aG,List.length_cons,List.length_nil];omega)]
  exact Tot.pure ⟨hy,by simp only [List.length_append,List.length_cons,List.length_nil];omega,by simp only;omega⟩
 refine Tot.bif (fun _=>?_) (fun _=>?_)
 ·rw [if_pos (by decide),if_pos (by decide),if_pos (by simp only;omega)]
  exact Tot.pure ⟨h2,by simp only;omega,by simp only [List.length_drop,List.length_take];omega⟩
 refine Tot.bif (fun _=>?_) (fun _=>?_)
 ·refine Tot.bind (Ph _ h2) ?_
  rintro y ⟨hy,_⟩
  refine Tot.idx (by decide) (by simp only;omega) fun n x e hx=>?_
  have:n=0:=by omega
  subst this
  rw [show ((0:Int)).toNat=0 from rfl,hx,Option.bind_some]
  exact Tot.pure ⟨hy,by simp only [List.length_set];omega,by simp only;omega⟩
 refine Tot.bif (fun _=>?_) (fun _=>?_)
 ·refine Tot.bind (P:=fun o=>aY o.2.1∧o.2.2.1.length≤20∧o.2.2.2.1.length≤3) (Tot.while (fun s=>aY s.2.1∧40≤s.1∧s.1≤46∧(s.2.2.1.length:Int)≤s.1 - 34∧s.2.2.2.1.length≤3) (fun s=>46 - s.1.toNat) ?_ ⟨h2,by simp only;omega,by simp only;omega,by simp only;omega,by simp only;omega⟩) ?_
  ·rintro ⟨i,cc,ps,ss,t⟩ ⟨k1,k2,k3,k4,k5⟩
   simp only at k1 k2 k3 k4 k5
   unfold Bt
   simp only
   refine Tot.bif (fun hl=>?_) (fun hl=>Tot.pure ⟨k1,by simp only;omega,k5⟩)
   have hl:i < 46:=of_decide_eq_true hl
   refine Tot.bind (FQ _ _ k1) ?_
   rintro y ⟨hy,_⟩
   rw [if_pos (by simp only [aG,List.length_cons,List.length_nil];omega)]
   refine Tot.pure ⟨⟨hy,?_,?_,?_,k5⟩,?_⟩ <;> simp only [List.length_append,List.length_cons,List.length_nil] <;> rw [aD (n:=i + 1) (by omega) (by omega)] <;> omega
  ·rintro o ⟨k1,k2,k3⟩
   exact Tot.pure ⟨k1,k2,k3⟩
 exact Tot.pure ⟨h2,by simp only;omega,by simp only;omega⟩
theorem uH (c:aj.D) (s:ac.D) (h:aY c):Tot (gI c s) (fun y=>aY y.2.1∧True):=by
 unfold gI
 refine Tot.bind (P:=fun o=>aY o.2∧(o.1=false→0 < s.1.length)) (Tot.bif (fun _=>Tot.pure ⟨h,by simp⟩) (fun he=>?_)) ?_
 ·have he:0 < s.1.length:=by
   rw [beq_eq_false_iff_ne] at he
   omega
  refine Tot.bind (cH _ _ h) ?_
  rintro y ⟨hy,_⟩
  exact Tot.pure ⟨hy,fun _=>he⟩
 ·rintro o ⟨ho,hl⟩
  refine Tot.bif (fun _=>?_) (fun hf=>?_)
  ·refine Tot.bind (aN _ _ ho) ?_
   rintro y ⟨hy,_⟩
   exact Tot.pure ⟨hy,trivial⟩
  ·have:=hl hf
   refine Tot.bind (aN _ _ ho) ?_
   rintro y ⟨hy,h0,h1⟩
   refine Tot.idx h0 (h1 (by omega)) fun n x e hx=>?_
   exact Tot.pure ⟨hy,trivial⟩
theorem oY (c:aj.D) (s:ac.D) (h:aY c):Tot (fw c s) (fun y=>aY y.2.1∧True):=by
 unfold fw
 refine Tot.bind (bh _ _ h (by decide)) ?_
 rintro y1 ⟨h1,_⟩
 refine Tot.bind (bh _ _ h1 (by decide)) ?_
 rintro y2 ⟨h2,_⟩
 refine Tot.bif (fun _=>?_) (fun _=>?_)
 ·refine Tot.bind (uH _ _ h2) ?_
  rintro y3 ⟨h3,_⟩
  refine Tot.bind (cH _ _ h3) ?_
  rintro y4 ⟨h4,_⟩
  refine Tot.bif (fun _=>?_) (fun _=>?_)
  ·refine Tot.bind (aN _ _ h4) ?_
   rintro y ⟨hy,_⟩
   exact Tot.pure ⟨hy,trivial⟩
  ·refine Tot.bind (uH _ _ h4) ?_
   rintro y ⟨hy,_⟩
   exact Tot.pure ⟨hy,trivial⟩
 refine Tot.bif (fun _=>?_) (fun _=>?_)
 ·refine Tot.bind (uH _ _ h2) ?_
  rintro y3 ⟨h3,_⟩
  refine Tot.bind (bh _ _ h3 (by decide)) ?_
  rintro y4 ⟨h4,_⟩
  refine Tot.bif (fun _=>?_) (fun _=>Tot.pure ⟨h4,trivial⟩)
  refine Tot.bind (bh _ _ h4 (by decide)) ?_
  rintro y5 ⟨h5,_⟩
  refine Tot.bind (cH _ _ h5) ?_
  rintro y ⟨hy,_⟩
  exact Tot.pure ⟨hy,trivial⟩
 refine Tot.bind (P:=fun _=>True) (Tot.bif (fun _=>Tot.pure trivial) (fun _=>Tot.pure trivial)) ?_
 rintro o11 _
 refine Tot.bif (fun _=>?_) (fun _=>?_)
 ·refine Tot.bind (aN _ _ h2) ?_
  rintro y ⟨hy,_⟩
  exact Tot.pure ⟨hy,trivial⟩
 ·refine Tot.bind (uH _ _ h2) ?_
  rintro y ⟨hy,_⟩
  exact Tot.pure ⟨hy,trivial⟩
theorem JQ (c:aj.D) (s:ac.D) (h:aY c):Tot (oC c s) (fun y=>aY y.2.1∧True):=by
 unfold oC
 refine Tot.bind (oY _ _ h) ?_
 rintro y1 ⟨h1,_⟩
 refine Tot.bind (aN _ _ h1) ?_
 rintro y3 ⟨h3,_⟩
 repeat' first
  | refine Tot.bif (fun _=>?_) (fun _=>?_)
  | (refine Tot.bind (bh _ _ h3 (by decide)) ?_;rintro y ⟨hy,_⟩;exact Tot.pure ⟨hy,trivial⟩)
  | (refine Tot.bind (nB _ h3) ?_;rintro y ⟨hy,_⟩;exact Tot.pure ⟨hy,trivial⟩)
  | exact Tot.pure ⟨h3,trivial⟩
theorem Pi (code:List Int) (hl:code.length≤33554432):Tot (sj code) (fun c=>aY c):=by
 unfold sj
 refine Tot.bind (P:=fun _=>True) (Tot.while (fun s=>0≤s.2∧s.2≤(code.length:Int)) (fun s=>code.length - s.2.toNat) ?_ ⟨by simp only;omega,by simp only;omega⟩) ?_
 ·rintro ⟨g,i⟩ ⟨k1,k2⟩
  simp only at k1 k2
  unfold Bk
  simp only
  refine Tot.bind (P:=fun o=>o=true→i < (code.length:Int)) (Tot.bif (fun hl=>Tot.pure (fun _=>of_decide_eq_true hl)) (fun _=>Tot.pure (fun h=>by cases h))) ?_
  rintro o ho
  refine Tot.bif (fun hb=>?_) (fun _=>Tot.pure trivial)
  have hlt:=ho hb
  refine Tot.idx k1 hlt fun n x e hx=>?_
  refine Tot.pure ⟨⟨?_,?_⟩,?_⟩ <;> simp only <;> rw [aD (n:=i + 1) (by omega) (by omega)] <;> omega
 ·rintro o _
  exact Tot.pure ⟨Int.le_refl _,hl⟩
theorem LO (c:aj.D) (s:ac.D) (h:aY c):Tot (pG c s) (fun y=>aY y.2.1∧True):=by
 unfold pG
 refine Tot.bind (bh _ _ h (by decide)) ?_
 rintro y1 ⟨h1,_⟩
 refine Tot.bind (bh _ _ h1 (by decide)) ?_
 rintro y2 ⟨h2,_⟩
 refine Tot.bind (cH _ _ h2) ?_
 rintro y3 ⟨h3,_⟩
 refine Tot.bind (P:=fun o=>aY o.1) (Tot.bif (fun _=>?_) (fun _=>Tot.pure h3)) ?_
 ·(refine Tot.bind (bh _ _ h3 (by decide)) ?_;rintro y ⟨hy,_⟩;exact Tot.pure hy)
 rintro o5 h5
 refine Tot.bind (P:=fun o=>aY o.1) (Tot.bif (fun _=>?_) (fun _=>?_)) ?_
 ·refine Tot.bind (cH _ _ h5) ?_
  rintro y6 ⟨h6,_⟩
  refine Tot.bind (P:=fun o=>aY o.1) (Tot.bif (fun _=>?_) (fun _=>Tot.pure h6)) ?_
  ·(refine Tot.bind (uH _ _ h6) ?_;rintro y ⟨hy,_⟩;exact Tot.pure hy)
  rintro o8 h8
  refine Tot.bind (cH _ _ h8) ?_
  rintro y9 ⟨h9,_⟩
  refine Tot.bind (P:=fun o=>aY o.1) (Tot.bif (fun _=>?_) (fun _=>Tot.pure h9)) ?_
  ·(refine Tot.bind (bh _ _ h9 (by decide)) ?_;rintro y ⟨hy,_⟩;exact Tot.pure hy)
  rintro o11 h11
  exact Tot.pure h11
 ·refine Tot.bind (P:=fun o=>aY o.1) (Tot.bif (fun _=>?_) (fun _=>Tot.pure h5)) ?_
  ·(refine Tot.bind (bh _ _ h5 (by decide)) ?_;rintro y ⟨hy,_⟩;exact Tot.pure hy)
  rintro o13 h13
  exact Tot.pure h13
 rintro o14 h14
 refine Tot.bind (P:=fun o=>aY o.2) (Tot.bif (fun _=>Tot.bif (fun _=>?_) (fun _=>Tot.pure h14)) (fun _=>Tot.pure h14)) ?_
 ·(refine Tot.bind (cH _ _ h14) ?_;rintro y ⟨hy,_⟩;exact Tot.pure hy)
 rintro o16 h16
 refine Tot.bif (fun _=>?_) (fun _=>Tot.pure ⟨h16,trivial⟩)
 (refine Tot.bind (uH _ _ h16) ?_;rintro y ⟨hy,_⟩;exact Tot.pure ⟨hy,trivial⟩)
theorem LP (c:aj.D) (h:aY c):Tot (pI c) (fun y=>aY y.2.1∧True):=by
 unfold pI
 refine Tot.bind (cH _ _ h) ?_
 rintro y1 ⟨h1,_⟩
 refine Tot.bif (fun _=>Tot.pure ⟨h1,trivial⟩) (fun _=>?_)
 refine Tot.bind (aN _ _ h1) ?_
 rintro y2 ⟨h2,_⟩
 refine Tot.bif (fun _=>?_) (fun _=>?_)
 ·(refine Tot.bind (bh _ _ h2 (by decide)) ?_;rintro y ⟨hy,_⟩;exact Tot.pure ⟨hy,trivial⟩)
 refine Tot.bind (P:=fun _=>True) (Tot.bif (fun _=>Tot.pure trivial) (fun _=>Tot.pure trivial)) ?_
 rintro o4 _
 refine Tot.bif (fun _=>?_) (fun _=>Tot.pure ⟨h2,trivial⟩)
 (refine Tot.bind (bh _ _ h2 (by decide)) ?_;rintro y ⟨hy,_⟩;exact Tot.pure ⟨hy,trivial⟩)
theorem Pj (a:bM.D) (k:Int):Tot (fT a k) (fun _=>True):=by
 obtain ⟨b,h,_⟩:=lA a k
 exact ⟨b,h,trivial⟩
theorem LQ (c:aj.D) (s:ac.D) (k:Int) (h:aY c):Tot (pJ c s k) (fun y=>aY y.2.1∧y.1.2.2.2.2.2.2.1.length≤9):=by
 unfold pJ
 refine Tot.bind (bh _ _ h (by decide)) ?_
 rintro y1 ⟨h1,_⟩
 refine Tot.bind (P:=fun o=>aY o.2.1∧o.2.2.2.2.2.2.2.2.1=[]) (Tot.while (fun s=>(aY s.2.1∧s.2.2.2.2.2.2.2.2.1=[])∧0≤s.1∧s.1≤6) (fun s=>6 - s.1.toNat) ?_ ⟨⟨h1,rfl⟩,by simp only;omega⟩) ?_
 ·rintro ⟨i,cc,ak,an,ap,asd,az,ab,aL,u⟩ ⟨⟨g1,g2⟩,g3,g4⟩
  simp only at g1 g2 g3 g4
  unfold yL
  simp only
  refine Tot.bind (P:=fun o=>o=true→i < (6:Int)) (Tot.bif (fun hl=>?_) (fun _=>Tot.pure (fun h=>by cases h))) ?_
  ·have hl:i < (6:Int):=of_decide_eq_true hl
   refine Tot.bind (Pj _ _) ?_
   rintro y5 _
   exact Tot.pure (fun _=>hl)
  rintro o6 h6
  refine Tot.bif (fun hb=>?_) (fun _=>Tot.pure ⟨g1,g2⟩)
  have hl:=h6 hb
  refine Tot.bind (aN _ _ g1) ?_
  rintro y7 ⟨h7,_⟩
  refine Tot.pure ⟨⟨⟨h7,g2⟩,?_,?_⟩,?_⟩ <;> simp only <;> rw [aD (by omega) (by omega)] <;> omega
 rintro o8 ⟨h8,e8⟩
 refine Tot.bind (Pj _ _) ?_
 rintro y9 _
 refine Tot.bind (P:=fun o=>o.2.2.2.2.2.2.1=[]) (Tot.bif (fun _=>Tot.pure e8) (fun _=>Tot.pure e8)) ?_
 rintro o10 h10
 have h10':o10.2.2.2.2.2.2.1.length≤9:=by rw [h10];decide
 refine Tot.bif (fun _=>?_) (fun _=>?_)
 ·refine Tot.bind (bh _ _ h8 (by decide)) ?_
  rintro y ⟨hy,_⟩
  exact Tot.pure ⟨hy,h10'⟩
 refine Tot.bif (fun _=>?_) (fun _=>?_)
 ·refine Tot.bind (cH _ _ h8) ?_
  rintro y12 ⟨h12,_⟩
  refine Tot.bif (fun _=>?_) (fun _=>?_)
  ·refine Tot.bind (aN _ _ h12) ?_
   rintro y ⟨hy,_⟩
   exact Tot.pure ⟨hy,h10'⟩
  ·refine Tot.bind (uH _ _ h12) ?_
   rintro y ⟨hy,_⟩
   exact Tot.pure ⟨hy,h10'⟩
 refine Tot.bif (fun _=>?_) (fun _=>?_)
 ·refine Tot.bind (bh _ _ h8 (by decide)) ?_
  rintro y ⟨hy,_⟩
  exact Tot.pure ⟨hy,h10'⟩
 refine Tot.bif (fun _=>?_) (fun _=>?_)
 ·refine Tot.bind (aN _ _ h8) ?_
  rintro y16 ⟨h16,_⟩
  refine Tot.bind (cH _ _ h16) ?_
  rintro y ⟨hy,_⟩
  exact Tot.pure ⟨hy,h10'⟩
 refine Tot.bif (fun _=>?_) (fun _=>Tot.pure ⟨h8,h10'⟩)
 refine Tot.bind (aN _ _ h8) ?_
 rintro y18 ⟨h18,a18,b18⟩
 have b18:=b18 (by decide)
 have hw:IntKind.wrap .i64 (1 + y18.1)=1 + y18.1:=aD (by omega) (by omega)
 refine Tot.bind (P:=fun o=>aY o.2.1∧o.2.2.2.2.2.2.2.2.1.length≤9) (Tot.while (fun s=>aY s.2.1∧0≤s.1∧(s.2.2.2.2.2.2.2.2.1.length:Int) + s.1=1 + y18.1) (fun s=>s.1.toNat) ?_ ⟨h18,by simp only;omega,by simp only;rw [h10,hw];simp⟩) ?_
 ·rintro ⟨i,cc,ak,an,ap,asd,az,ab,aL,u⟩ ⟨g1,g3,g4⟩
  simp only at g1 g3 g4
  unfold yM
  simp only
  refine Tot.bif (fun hl=>?_) (fun hl=>Tot.pure ⟨g1,by simp only;omega⟩)
  have hl:i > 0:=of_decide_eq_true hl
  refine Tot.bind (oY _ _ g1) ?_
  rintro y22 ⟨h22,_⟩
  refine Tot.bind (P:=fun o=>aY o.2) (Tot.bif (fun _=>?_) (fun _=>Tot.pure h22)) ?_
  ·(refine Tot.bind (cH _ _ h22) ?_;rintro y ⟨hy,_⟩;exact Tot.pure hy)
  rintro o24 h24
  refine Tot.bind (P:=fun _=>True) (Tot.bif (fun _=>Tot.pure trivial) (fun _=>Tot.pure trivial)) ?_
  rintro o25 _
  rw [if_pos (by simp only [aG,List.length_cons,List.length_nil];omega)]
  refine Tot.pure ⟨⟨h24,?_,?_⟩,?_⟩ <;> simp only [List.length_append,List.length_cons,List.length_nil] <;> rw [aD (n:=i - 1) (by omega) (by omega)] <;> omega
 rintro o26 ⟨h26,e26⟩
 exact Tot.pure ⟨h26,e26⟩
theorem lB (c:aj.D) (s:ac.D) (k:Int) (h:aY c):Tot (dz c s k) (fun y=>aY y.2.1∧y.1.2.2.2.2.2.2.1.2.2.2.2.2.2.1.length≤9):=by
 unfold dz
 refine Tot.bind (aN _ _ h) ?_
 rintro y1 ⟨h1,_⟩
 refine Tot.bind (bh _ _ h1 (by decide)) ?_
 rintro y2 ⟨h2,_⟩
 refine Tot.bind (P:=fun o=>aY o.2) (Tot.bif (fun _=>Tot.pure h2) (fun _=>?_)) ?_
 ·(refine Tot.bind (cH _ _ h2) ?_;rintro y ⟨hy,_⟩;exact Tot.pure hy)
 rintro o4 h4
 refine Tot.bind (P:=fun o=>aY o.1) (Tot.bif (fun _=>?_) (fun _=>Tot.pure h4)) ?_
 ·(refine Tot.bind (uH _ _ h4) ?_;rintro y ⟨hy,_⟩;exact Tot.pure hy)
 rintro o6 h6
 refine Tot.bind (LO _ _ h6) ?_
 rintro y7 ⟨h7,_⟩
 refine Tot.bind (LP _ h7) ?_
 rintro y8 ⟨h8,_⟩
 refine Tot.bind (LQ _ _ _ h8) ?_
 rintro y9 ⟨h9,e9⟩
 refine Tot.bind (cH _ _ h9) ?_
 rintro y10 ⟨h10,_⟩
 refine Tot.bind (P:=fun o=>aY o.1∧o.2.2.2.2.2.2.2.1.2.2.2.2.2.2.1.length≤9) (Tot.bif (fun _=>?_) (fun _=>Tot.pure ⟨h10,e9⟩)) ?_
 ·refine Tot.bind (aN _ _ h10) ?_
  rintro y ⟨hy,_⟩
  exact Tot.pure ⟨hy,e9⟩
 rintro o13 ⟨h13,e13⟩
 refine Tot.bif (fun _=>?_) (fun _=>?_)
 ·refine Tot.bind (bh _ _ h13 (by decide)) ?_
  rintro y ⟨hy,_⟩
  exact Tot.pure ⟨hy,e13⟩
 refine Tot.bind (cH _ _ h13) ?_
 rintro y15 ⟨h15,_⟩
 refine Tot.bif (fun _=>?_) (fun _=>Tot.pure ⟨h15,e13⟩)
 refine Tot.bind (aN _ _ h15) ?_
 rintro y ⟨hy,_⟩
 exact Tot.pure ⟨hy,e13⟩
theorem S9 (c:aj.D) (s:ac.D) (h:aY c):Tot (wH c s) (fun y=>aY y.2.1∧True):=by
 unfold wH
 refine Tot.bind (LO _ _ h) ?_
 rintro y1 ⟨h1,_⟩
 refine Tot.bind (aN _ _ h1) ?_
 rintro y3 ⟨h3,_⟩
 repeat' first
  | refine Tot.bif (fun _=>?_) (fun _=>?_)
  | (refine Tot.bind (bh _ _ h3 (by decide)) ?_;rintro y ⟨hy,_⟩;exact Tot.pure ⟨hy,trivial⟩)
  | (refine Tot.bind (nB _ h3) ?_;rintro y ⟨hy,_⟩;exact Tot.pure ⟨hy,trivial⟩)
  | exact Tot.pure ⟨h3,trivial⟩
theorem Ta (c:aj.D) (h:aY c):Tot (wI c) (fun y=>aY y.2.1∧True):=by
 unfold wI
 refine Tot.bind (LP _ h) ?_
 rintro y1 ⟨h1,_⟩
 refine Tot.bind (aN _ _ h1) ?_
 rintro y3 ⟨h3,_⟩
 repeat' first
  | refine Tot.bif (fun _=>?_) (fun _=>?_)
  | (refine Tot.bind (bh _ _ h3 (by decide)) ?_;rintro y ⟨hy,_⟩;exact Tot.pure ⟨hy,trivial⟩)
  | (refine Tot.bind (nB _ h3) ?_;rintro y ⟨hy,_⟩;exact Tot.pure ⟨hy,trivial⟩)
  | exact Tot.pure ⟨h3,trivial⟩
theorem Tb (c:aj.D) (s:ac.D) (h:aY c):Tot (wK c s) (fun y=>aY y.2.1∧y.1.2.2.2.2.2.2.1.length≤12):=by
 unfold wK
 refine Tot.bind (aN _ _ h) ?_
 rintro y1 ⟨h1,_⟩
 refine Tot.bind (LQ _ _ _ h1) ?_
 rintro y2 ⟨h2,e2⟩
 refine Tot.bind (aN _ _ h2) ?_
 rintro y3 ⟨h3,_⟩
 have e2':y2.1.2.2.2.2.2.2.1.length≤12:=by omega
 repeat' first
  | refine Tot.bif (fun _=>?_) (fun _=>?_)
  | (refine Tot.bind (bh _ _ h3 (by decide)) ?_;rintro y ⟨hy,_⟩;exact Tot.pure ⟨hy,e2'⟩)
  | (refine Tot.bind (nB _ h3) ?_;rintro y ⟨hy,_⟩;exact Tot.pure ⟨hy,e2'⟩)
  | exact Tot.pure ⟨h3,e2'⟩
  | (refine Tot.bind (JQ _ _ h3) ?_;rintro y ⟨hy,_⟩;rw [if_pos (by simp only [aG,List.length_cons,List.length_nil];omega)];exact Tot.pure ⟨hy,by simp only [List.length_append,List.length_cons,List.length_nil];omega⟩)
  | (refine Tot.bind (oY _ _ h3) ?_;rintro y ⟨hy,_⟩;refine Tot.bind (oY _ _ hy) ?_;rintro z ⟨hz,_⟩;refine Tot.bind (oY _ _ hz) ?_;rintro w ⟨hw,_⟩;rw [if_pos (by simp only [aG,List.length_cons,List.length_nil];omega)];exact Tot.pure ⟨hw,by simp only [List.length_append,List.length_cons,List.length_nil];omega⟩)
theorem FR (c:aj.D) (s:ac.D) (h:aY c):Tot (lN c s) (fun y=>aY y.2.1∧y.1.2.2.2.2.2.2.1.2.2.2.2.2.2.1.length≤12):=by
 unfold lN
 refine Tot.bind (aN _ _ h) ?_
 rintro y1 ⟨h1,_⟩
 refine Tot.bind (lB _ _ _ h1) ?_
 rintro y2 ⟨h2,e2⟩
 refine Tot.bind (aN _ _ h2) ?_
 rintro y3 ⟨h3,_⟩
 have e2':y2.1.2.2.2.2.2.2.1.2.2.2.2.2.2.1.length≤12:=by omega
 repeat' first
  | refine Tot.bif (fun _=>?_) (fun _=>?_)
  | (refine Tot.bind (bh _ _ h3 (by decide)) ?_;rintro y ⟨hy,_⟩;exact Tot.pure ⟨hy,e2'⟩)
  | (refine Tot.bind (nB _ h3) ?_;rintro y ⟨hy,_⟩;exact Tot.pure ⟨hy,e2'⟩)
  | exact Tot.pure ⟨h3,e2'⟩
  | (refine Tot.bind (S9 _ _ h3) ?_;rintro y ⟨hy,_⟩;exact Tot.pure ⟨hy,e2'⟩)
  | (refine Tot.bind (Ta _ h3) ?_;rintro y ⟨hy,_⟩;exact Tot.pure ⟨hy,e2'⟩)
  | (refine Tot.bind (Tb _ _ h3) ?_;rintro y ⟨hy,ey⟩;exact Tot.pure ⟨hy,ey⟩)
theorem BI (c:aj.D) (h:aY c):Tot (iu c) (fun y=>aY y.2.1∧y.1.length≤8):=by
 unfold iu
 refine Tot.bind (aN c _ h) ?_
 rintro y1 ⟨h1,h1a,h1b⟩
 have h1c:=h1b (by decide)
 refine Tot.bind (P:=fun o=>aY o.2.2∧o.1.length≤8) (Tot.while (fun s=>aY s.2.2∧0≤s.2.1∧(s.1.length:Int) + s.2.1≤8) (fun s=>s.2.1.toNat) ?_ ⟨h1,h1a,by simp only [List.length_nil];omega⟩) ?_
 ·rintro ⟨l,i,cc⟩ ⟨k1,k2,k3⟩
  simp only at k1 k2 k3
  unfold sm
  simp only
  refine Tot.bif (fun hl=>?_) (fun _=>Tot.pure ⟨k1,by simp only;omega⟩)
  have hl:i > 0:=of_decide_eq_true hl
  refine Tot.bind (bh _ _ k1 (by decide)) ?_
  rintro y4 ⟨h4,_⟩
  rw [if_pos (by simp only [aG,List.length_cons,List.length_nil];omega)]
  refine Tot.pure ⟨⟨h4,?_,?_⟩,?_⟩ <;> simp only [List.length_append,List.length_cons,List.length_nil] <;> rw [aD (n:=i - 1) (by omega) (by omega)] <;> omega
 ·rintro o ⟨k1,k2⟩
  exact Tot.pure ⟨k1,k2⟩
theorem JR (c:aj.D) (s:ac.D) (h:aY c):Tot (mB c s) (fun y=>aY y.2.1∧okD (.slice aa) y.1∧y.1.length≤5):=by
 unfold mB
 refine Tot.bind (aN _ _ h) ?_
 rintro y1 ⟨h1,h1a,h1b⟩
 have h1c:=h1b (by decide)
 refine Tot.bind (P:=fun o=>aY o.2.2.2∧(∀ x∈o.1,okD aa x)∧o.1.length≤5) (Tot.while (fun s=>aY s.2.2.2∧(∀ x∈s.1,okD aa x)∧0≤s.2.2.1∧(s.1.length:Int) + s.2.2.1≤5) (fun s=>s.2.2.1.toNat) ?_ ⟨h1,(fun x hx=>by cases hx),h1a,by simp only [List.length_nil];omega⟩) ?_
 ·rintro ⟨l,id,i,cc⟩ ⟨k1,k2,k3,k4⟩
  simp only at k1 k2 k3 k4
  unfold xA
  simp only
  refine Tot.bif (fun hl=>?_) (fun _=>Tot.pure ⟨k1,k2,by simp only;omega⟩)
  have hl:i > 0:=of_decide_eq_true hl
  refine Tot.bind (aN _ _ k1) ?_
  rintro y4 ⟨h4,_⟩
  refine Tot.bind (lB _ _ _ h4) ?_
  rintro y5 ⟨h5,e5⟩
  rw [if_pos (by simp only [aG,List.length_cons,List.length_nil];omega)]
  refine Tot.pure ⟨⟨h5,fun x hx=>?_,?_,?_⟩,?_⟩
  ·rcases List.mem_append.1 hx with hx | hx
   ·exact k2 x hx
   ·rw [List.mem_singleton.1 hx];exact kx _ (by omega)
  all_goals simp only [List.length_append,List.length_cons,List.length_nil] <;> rw [aD (n:=i - 1) (by omega) (by omega)] <;> omega
 ·rintro o ⟨k1,k2,k3⟩
  have k4:o.1.length≤33554432:=by omega
  exact Tot.pure ⟨k1,⟨k4,k2⟩,k3⟩
theorem RH (c:aj.D) (s:ac.D) (h:aY c):Tot (um c s) (fun y=>aY y.2.1∧okD (.slice aa) y.1∧y.1.length≤8):=by
 unfold um
 refine Tot.bind (JR _ _ h) ?_
 rintro y1 ⟨h1,g1,e1⟩
 refine Tot.bind (aN _ _ h1) ?_
 rintro y2 ⟨h2,_⟩
 have triv:y1.1.length≤8:=by omega
 refine Tot.bif (fun _=>?_) (fun _=>Tot.bif (fun _=>?_) (fun _=>Tot.bif (fun _=>Tot.bif (fun hp=>?_) (fun _=>Tot.pure ⟨h2,g1,triv⟩)) (fun _=>Tot.pure ⟨h2,g1,triv⟩)))
 ·refine Tot.bind (FR _ _ h2) ?_
  rintro y3 ⟨h3,e3⟩
  rw [if_pos (by simp only [aG,List.length_cons,List.length_nil];omega)]
  have hl:(y1.1++[y3.1]).length≤8:=by simp only [List.length_append,List.length_cons,List.length_nil];omega
  refine Tot.pure ⟨h3,⟨by show (y1.1++[y3.1]).length≤33554432;omega,fun x hx=>?_⟩,hl⟩
  rcases List.mem_append.1 hx with hx | hx
  ·exact g1.2 x hx
  ·rw [List.mem_singleton.1 hx];exact kx _ (by omega)
 ·refine Tot.bind (lB _ _ _ h2) ?_
  rintro y4 ⟨h4,e4⟩
  refine Tot.bind (lB _ _ _ h4) ?_
  rintro y5 ⟨h5,e5⟩
  refine Tot.bind (lB _ _ _ h5) ?_
  rintro y6 ⟨h6,e6⟩
  rw [if_pos (by simp only [aG,List.length_cons,List.length_nil];omega)]
  have hl:(y1.1++[y4.1,y5.1,y6.1]).length≤8:=by simp only [List.length_append,List.length_cons,List.length_nil];omega
  refine Tot.pure ⟨h6,⟨by show (y1.1++[y4.1,y5.1,y6.1]).length≤33554432;omega,fun x hx=>?_⟩,hl⟩
  rcases List.mem_append.1 hx with hx | hx
  ·exact g1.2 x hx
  ·simp only [List.mem_cons,List.not_mem_nil,or_false] at hx
   rcases hx with rfl | rfl | rfl
   ·exact kx _ (by omega)
   ·exact kx _ (by omega)
   ·exact kx _ (by omega)
 ·have hp:(y1.1.length:Int) > 0:=of_decide_eq_true hp
  refine Tot.bind (FR _ _ h2) ?_
  rintro y7 ⟨h7,e7⟩
  obtain ⟨x,hx⟩:∃ x,y1.1[0]?=some x:=⟨_,List.getElem?_eq_getElem (by omega)⟩
  have hi:∀ {R:Type} (κ:aa.D→Option R),idx y1.1 0 κ=κ x:=fun κ=>aJ (i:=0) hx
  rw [hi]
  have h0:y1.1[(0:Int).toNat]?=some x:=hx
  rw [h0,Option.bind_some]
  have hl:(y1.1.set (0:Int).toNat y7.1).length≤8:=by rw [List.length_set];omega
  refine Tot.pure ⟨h7,⟨by show (y1.1.set (0:Int).toNat y7.1).length≤33554432;omega,fun z hz=>?_⟩,hl⟩
  rcases List.mem_or_eq_of_mem_set hz with hz | rfl
  ·exact g1.2 z hz
  ·exact kx _ (by omega)
theorem Gu (c:aj.D) (s:ac.D) (l:List aa.D) (h:aY c) (h1:s.1.length≤33554432) (h2:s.2.1.length≤33554432) (hl:okD (.slice aa) l):Tot (j7 c s l) (fun y=>aY y.2.1∧True):=by
 have hll:l.length≤33554432:=hl.1
 unfold j7
 refine Tot.bind (oY _ _ h) ?_
 rintro y1 ⟨g1,_⟩
 refine Tot.bind (P:=fun o=>match o with | .inl t=>aY t.2.2.1 | .inr r=>aY r.2) (Tot.while (fun t=>aY t.2.2.1∧0≤t.1∧t.1≤5) (fun t=>5 - t.1.toNat) ?_ ⟨g1,by simp only;omega⟩) ?_
 ·rintro ⟨k,ev,cc,e⟩ ⟨k1,k2,k3⟩
  simp only at k1 k2 k3
  unfold vA
  simp only
  refine Tot.bif (fun hk=>?_) (fun _=>Tot.pure k1)
  have hk:k < 5:=of_decide_eq_true hk
  refine Tot.bind (P:=fun _=>True) (Tot.while (fun t=>0≤t.1∧t.1≤(l.length:Int)) (fun t=>l.length - t.1.toNat) ?_ ⟨Int.le_refl _,by simp only;omega⟩) ?_
  ·rintro ⟨i,ev'⟩ ⟨i1,i2⟩
   simp only at i1 i2
   unfold vz
   simp only
   refine Tot.bif (fun hi=>?_) (fun _=>Tot.pure trivial)
   have hi:i < (l.length:Int):=of_decide_eq_true hi
   refine Tot.idx i1 hi ?_
   rintro n x rfl hx
   have hok:=(hl.2 x (List.mem_of_getElem? hx)).2.2.2.2.2.2.1.2.2.2.2.2.2.1.1
   rw [Er s x _ h1 h2 hok,Option.bind_some]
   refine Tot.bif (fun _=>Tot.pure trivial) (fun _=>Tot.pure ⟨⟨?_,?_⟩,?_⟩) <;> simp only <;> rw [aD (by omega) (by omega)] <;> omega
  ·rintro (o | o) _
   ·refine Tot.bind (oY _ _ k1) ?_
    rintro y13 ⟨h13,_⟩
    refine Tot.pure ⟨⟨h13,?_,?_⟩,?_⟩ <;> simp only <;> rw [aD (by omega) (by omega)] <;> omega
   ·exact Tot.pure k1
 ·rintro (o | o) ho
  ·exact Tot.pure ⟨ho,trivial⟩
  ·exact Tot.pure ⟨ho,trivial⟩
theorem Pk (c:aj.D) (s:ac.D) (l:List aa.D) (h:aY c) (h1:s.1.length≤33554432) (h2:s.2.1.length≤33554432) (hl:okD (.slice aa) l):Tot (ph c s l) (fun y=>aY y.2.1∧y.1.length≤3):=by
 unfold ph
 refine Tot.bind (aN _ _ h) ?_
 rintro y1 ⟨g1,g2,g3⟩
 have g3:=g3 (by decide)
 have hw:IntKind.wrap .i64 (1 + y1.1)=1 + y1.1:=aD (by omega) (by omega)
 refine Tot.bind (P:=fun o=>aY o.2.2∧o.1.length≤3) (Tot.while (fun t=>aY t.2.2∧0≤t.2.1∧(t.1.length:Int) + t.2.1≤3) (fun t=>t.2.1.toNat) ?_ ⟨g1,by simp only;omega,by simp only [List.length_nil];omega⟩) ?_
 ·rintro ⟨es,i,cc⟩ ⟨k1,k2,k3⟩
  simp only at k1 k2 k3
  unfold vC
  simp only
  refine Tot.bif (fun hi=>?_) (fun _=>Tot.pure ⟨k1,by simp only;omega⟩)
  have hi:i > 0:=of_decide_eq_true hi
  refine Tot.bind (Gu _ s l k1 h1 h2 hl) ?_
  rintro y4 ⟨h4,_⟩
  rw [if_pos (by simp only [aG,List.length_cons,List.length_nil];omega)]
  refine Tot.pure ⟨⟨h4,?_,?_⟩,?_⟩ <;> simp only [List.length_append,List.length_cons,List.length_nil] <;> rw [aD (n:=i - 1) (by omega) (by omega)] <;> omega
 ·rintro o ⟨k1,k2⟩
  exact Tot.pure ⟨k1,k2⟩
theorem No {s:ac.D} (h1:s.1.length≤33554432) (h2:s.2.1.length≤33554432):okD ac s:=⟨⟨h1,fun x _=>fL _ rfl x⟩,⟨h2,fun x _=>fL _ rfl x⟩,fL _ rfl _⟩
theorem Qq {t:Ty}:okD (.slice t) ([]:List t.D):=⟨Nat.zero_le _,fun x hx=>by cases hx⟩
theorem uJ {k i:Int} {e:aa.D} {es:List ae.D} (h1:e.2.2.2.2.2.2.1.2.2.2.2.2.2.1.length≤33554432) (h2:es.length≤33554432):okD bi (k,e,i,es,()):=⟨trivial,kx e h1,trivial,⟨h2,fun x _=>fL _ rfl x⟩,trivial⟩
end Go.Abs
