/- Part of a proof of FnGames: see the row. -/
import Derived.Test.YtenadnbpibhmiaaGreatGmPureGMp2
set_option linter.unusedVariables false
set_option linter.unusedSimpArgs false
namespace Go.Abs
theorem Rx (c:al.D) (h:aO c):Tot (ip c) (fun y=>aO y.2.1∧aV y.1=true∧y.1.2.2.2.1≤(4:Int)):=by
 unfold ip
 refine Tot.bind (P:=fun s=>s=([],([(20,0,false,()),(20,0,false,())]:List aB.D),0,0,())) ⟨_,rfl,rfl⟩ ?_
 rintro y1 rfl
 refine Tot.bind (aD c _ h) ?_
 rintro ⟨ck,c2,u2⟩ ⟨h2,a2,b2⟩
 have b2:=b2 (by decide)
 refine Tot.bind (aD _ _ h2) ?_
 rintro ⟨ac,c3,u3⟩ ⟨h3,a3,b3⟩
 have b3:=b3 (by decide)
 simp only at h2 a2 b2 h3 a3 b3 ⊢
 rw [aA (n:=2 + ck) (by omega) (by omega)]
 refine Tot.bind (P:=fun o=>aO o.2.1∧∃ ss:List aB.D,o.2.2=([],ss,ac,2 + ck,())∧ss.length=2∧∀ x∈ss,dm x=true)
  (Tot.while (fun s=>aO s.2.1∧0≤s.1∧s.1≤2∧∃ ss:List aB.D,s.2.2=([],ss,ac,2 + ck,())∧ss.length=2∧∀ x∈ss,dm x=true) (fun s=>2 - s.1.toNat) ?_ ⟨h3,by simp only;omega,by simp only;omega,_,rfl,rfl,by decide⟩) ?_
 ·rintro ⟨i,cc,ps,ss',t⟩ ⟨g1,g4,g5,ss,e,g3,g6⟩
  simp only [Prod.mk.injEq] at g1 g4 g5 e
  obtain ⟨rfl,rfl,rfl⟩:=e
  unfold sH
  simp only
  refine Tot.bif (fun hl=>?_) (fun _=>Tot.pure ⟨g1,_,rfl,g3,g6⟩)
  have hl:i < (2:Int):=of_decide_eq_true hl
  refine Tot.bind (aT _ _ g1 (by decide)) ?_
  rintro ⟨y7,c7,u7⟩ ⟨h7,m7⟩
  refine Tot.idx g4 (by omega) fun n x e hx=>?_
  subst e
  rw [Int.toNat_natCast,hx,Option.bind_some]
  refine Tot.bind (aT _ _ h7 (by decide)) ?_
  rintro ⟨y10,c10,u10⟩ ⟨h10,m10⟩
  have hn:n < ss'.length:=by omega
  rw [wL hn,rt hn,Option.bind_some]
  simp only at m7 m10 h10 ⊢
  refine Tot.pure ⟨⟨h10,?_,?_,_,rfl,by simp only [List.length_set];exact g3,?_⟩,?_⟩
  ·simp only;rw [aA (by omega) (by omega)];omega
  ·simp only;rw [aA (by omega) (by omega)];omega
  ·intro x' hx'
   rcases List.mem_or_eq_of_mem_set hx' with hx' | rfl
   ·rcases List.mem_or_eq_of_mem_set hx' with hx' | rfl
    ·exact g6 _ hx'
    ·have q1:y7=20∨y7=3∨y7=1∨y7=10:=by simp at m7;omega
     have:=g6 x (List.mem_of_getElem? hx)
     unfold dm at this ⊢
     simp only [Bool.and_eq_true,decide_eq_true_eq] at this ⊢
     exact ⟨⟨(show (-2147483647:Int)≤y7 by omega),(show y7≤(2147483647:Int) by omega)⟩,this.2⟩
   ·have q1:y7=20∨y7=3∨y7=1∨y7=10:=by simp at m7;omega
    have q2:y10=0∨y10=8∨y10=1:=by simp at m10;omega
    unfold dm
    simp only [Bool.and_eq_true,decide_eq_true_eq]
    exact ⟨⟨(show (-2147483647:Int)≤y7 by omega),(show y7≤(2147483647:Int) by omega)⟩,(show (0:Int)≤y10 by omega),(show y10≤(2147483647:Int) by omega)⟩
  ·simp only;rw [aA (by omega) (by omega)];omega
 ·rintro ⟨i',cc,t⟩ ⟨g1,ss,e,g3,g6⟩
  simp only at g1 e
  subst e
  refine Tot.bind (aD _ _ g1) ?_
  rintro ⟨m,c14,u14⟩ ⟨h14,h14a,h14b⟩
  have hlt:=h14b (by decide)
  simp only at h14 h14a hlt ⊢
  rw [aA (n:=1 + m) (by omega) (by omega)]
  have stk:∀ ps:List aj.D,ps.length≤8→(∀ (i:Nat) x,ps[i]?=some x→eV x=true∧x.2.1 < (2:Int)∧x.2.2.1 < (2:Int)∧x.2.2.2.2.1≤(2:Int))→(∀ (i:Nat) x y,ps[i]?=some x→ps[i + 1]?=some y→x.1 < y.1)→aV (ps,ss,ac,2 + ck,())=true:=by
   intro ps p1 p2 p3
   refine (cz _).2 ⟨⟨p1,by simp only;omega,by simp only;omega⟩,⟨⟨a3,(show ac≤(ss.length:Int) - 1 by omega)⟩,(show (0:Int)≤2 + ck by omega),(show 2 + ck≤(9999:Int) by omega)⟩,fun i x hx=>?_,p3,g6⟩
   obtain ⟨q1,q2,q3,q4⟩:=p2 i x hx
   exact ⟨q1,(by show x.2.1 < ((ss.length:Nat):Int);rw [g3];exact q2),(by show x.2.2.1 < ((ss.length:Nat):Int);rw [g3];exact q3),Int.le_trans q4 (show (2:Int)≤2 + ck by omega)⟩
  refine Tot.bind (P:=fun o=>aO o.2.2.1∧∃ ps:List aj.D,o.2.2.2=(ps,ss,ac,2 + ck,())∧ps.length≤8∧1≤ps.length∧(∀ (i:Nat) x,ps[i]?=some x→eV x=true∧x.2.1 < (2:Int)∧x.2.2.1 < (2:Int)∧x.2.2.2.2.1≤(2:Int))∧(∀ (i:Nat) x y,ps[i]?=some x→ps[i + 1]?=some y→x.1 < y.1))
   (Tot.while (fun s=>aO s.2.2.1∧0≤s.2.1∧0≤s.1∧∃ ps:List aj.D,s.2.2.2=(ps,ss,ac,2 + ck,())∧(ps.length:Int) + s.2.1=1 + m∧s.1≤2 * (ps.length:Int)∧(∀ x∈ps,x.1≤s.1)∧(∀ (i:Nat) x,ps[i]?=some x→eV x=true∧x.2.1 < (2:Int)∧x.2.2.1 < (2:Int)∧x.2.2.2.2.1≤(2:Int))∧(∀ (i:Nat) x y,ps[i]?=some x→ps[i + 1]?=some y→x.1 < y.1)) (fun s=>s.2.1.toNat) ?_ ⟨h14,by simp only;omega,Int.le_refl _,[],rfl,by simp,by simp,(fun x hx=>by cases hx),(fun i x hx=>by simp at hx),(fun i x y hx=>by simp at hx)⟩) ?_
  ·rintro ⟨id,i,cc,t⟩ ⟨k1,k2,k5,ps,e,k3,k4,k6,k7,k8⟩
   simp only at k1 k2 k5 e k3 k4 k6
   subst e
   unfold sI
   simp only
   refine Tot.bif (fun hl=>?_) (fun hl=>?_)
   ·have hl:i > 0:=of_decide_eq_true hl
    refine Tot.bind (aD _ _ k1) ?_
    rintro ⟨b,c18,u18⟩ ⟨h18,a18,b18⟩
    have b18:=b18 (by decide)
    simp only at h18 a18 b18 ⊢
    rw [aA (n:=id + 1) (by omega) (by omega),aA (n:=id + 1 + b) (by omega) (by omega),aA (n:=i - 1) (by omega) (by omega)]
    refine Tot.bind (Rw _ _ h18 (by omega)) ?_
    rintro ⟨p,c19,u19⟩ ⟨h19,e19,f1,f2,f3,f4⟩
    simp only at h19 e19 f1 f2 f3 f4 ⊢
    rw [if_pos (by simp only [aI,List.length_cons,List.length_nil];omega)]
    refine Tot.pure ⟨⟨h19,by simp only;omega,by simp only;omega,_,rfl,?_,?_,?_,?_,?_⟩,by simp only;omega⟩
    ·simp only [List.length_append,List.length_cons,List.length_nil];omega
    ·simp only [List.length_append,List.length_cons,List.length_nil];omega
    ·intro x hx
     rcases List.mem_append.1 hx with hx | hx
     ·exact Int.le_trans (k6 x hx) (show id≤id + 1 + b by omega)
     ·rw [List.mem_singleton.1 hx,e19];exact Int.le_refl _
    ·intro j x hx
     by_cases hj:j < ps.length
     ·rw [List.getElem?_append_left hj] at hx;exact k7 j x hx
     ·rw [List.getElem?_append_right (by omega)] at hx
      have hm:=List.mem_of_getElem? hx
      rw [List.mem_singleton.1 hm];exact ⟨f1,f2,f3,f4⟩
    ·intro j x y hx hy
     have hjl:=(List.getElem?_eq_some_iff.1 hy).1
     simp only [List.length_append,List.length_cons,List.length_nil] at hjl
     rw [List.getElem?_append_left (by omega)] at hx
     by_cases hj:j + 1 < ps.length
     ·rw [List.getElem?_append_left hj] at hy;exact k8 j x y hx hy
     ·rw [List.getElem?_append_right (by omega)] at hy
      have hm:=List.mem_of_getElem? hy
      rw [List.mem_singleton.1 hm,e19]
      exact Int.lt_of_le_of_lt (k6 x (List.mem_of_getElem? hx)) (show id < id + 1 + b by omega)
   ·have hl:¬ i > 0:=of_decide_eq_false hl
    exact Tot.pure ⟨k1,ps,rfl,by omega,by omega,k7,k8⟩
  ·rintro ⟨id,i,cc,t⟩ ⟨k1,ps,e,p1,p4,p2,p3⟩
   simp only at k1 e
   subst e
   exact Tot.pure ⟨k1,stk ps p1 p2 p3,(show 2 + ck≤(4:Int) by omega)⟩
theorem ve (c:al.D) (s:ae.D) (h:aO c) (hs:∀ x∈s.1,(1:Int)≤x.1∧x.1≤(99:Int)):Tot (fN c s) (fun y=>aO y.2.1∧1≤y.1∧y.1≤99):=by
 unfold fN
 refine Tot.bind (P:=fun o=>aO o.2∧(o.1=false→0 < s.1.length)) (Tot.bif (fun _=>Tot.pure ⟨h,by simp⟩) (fun he=>?_)) ?_
 ·have he:0 < s.1.length:=by
   rw [beq_eq_false_iff_ne] at he
   omega
  refine Tot.bind (bh _ _ h) ?_
  rintro y ⟨hy,_⟩
  exact Tot.pure ⟨hy,fun _=>he⟩
 ·rintro o ⟨ho,hl⟩
  refine Tot.bif (fun _=>?_) (fun hf=>?_)
  ·refine Tot.bind (aD _ _ ho) ?_
   rintro ⟨y,c1,u1⟩ ⟨hy,a,b⟩
   have b:=b (by decide)
   simp only at a b
   refine Tot.pure ⟨hy,?_,?_⟩ <;> simp only <;> rw [aA (by omega) (by omega)] <;> omega
  ·refine Tot.bind (aD _ _ ho) ?_
   rintro y ⟨hy,a,b⟩
   have b:=b (by have:=hl hf;omega)
   refine Tot.idx a b fun n x e hx=>?_
   exact Tot.pure ⟨hy,hs x (List.mem_of_getElem? hx)⟩
theorem M2 {sr d n:Int} (h1:1≤sr∧sr≤99) (h2:0≤d∧d≤1) (hn:0≤n∧n≤2147483647):aM (1,sr,0,d,n,0,false,())=true:=by
 unfold aM;simp;grind
theorem KQ {sr p n:Int} (h1:1≤sr∧sr≤99) (h2:1≤p∧p≤99) (hn:0≤n∧n≤2147483647):aM (1,sr,p,-1,n,0,false,())=true:=by
 unfold aM;simp;grind
theorem QG {p n z:Int} {b:Bool} (h2:1≤p∧p≤99) (hz:1≤z∧z≤4) (hn:0≤n∧n≤99) (hb:z=2∨(n=0∧b=false)):aM (2,0,p,-1,n,z,b,())=true:=by
 unfold aM;simp;rcases hb with hb | ⟨hb,hc⟩
 ·subst hb;simp;grind
 ·subst hb hc;simp;grind
theorem T5 {k d n:Int} (hk:k=3∨k=4) (h2:0≤d∧d≤1) (hn:0≤n∧n≤2147483647):aM (k,0,0,d,n,0,false,())=true:=by
 rcases hk with rfl | rfl <;> (unfold aM;simp;grind)
theorem Ta {k p n:Int} (hk:k=5∨k=6) (h2:1≤p∧p≤99) (hn:0≤n∧n≤2147483647):aM (k,0,p,-1,n,0,false,())=true:=by
 rcases hk with rfl | rfl <;> (unfold aM;simp;grind)
theorem Ry (c:al.D) (s:ae.D) (h:aO c) (hs:∀ x∈s.1,(1:Int)≤x.1∧x.1≤(99:Int)):Tot (d8 c s) (fun y=>aO y.2.1∧aM y.1=true):=by
 unfold d8
 refine Tot.bind (aT _ _ h (by decide)) ?_
 rintro ⟨k,c1,u1⟩ ⟨h1,m1⟩
 refine Tot.bind (aT _ _ h1 (by decide)) ?_
 rintro ⟨n,c2,u2⟩ ⟨h2,m2⟩
 simp only at h1 m1 h2 m2 ⊢
 have hn:0≤n∧n≤2147483647:=by simp at m2;omega
 have hk:1≤k∧k≤6:=by simp at m1;omega
 refine Tot.bif (fun e=>?_) (fun e1=>?_)
 ·have e:k=1:=by simpa using e
  subst e
  refine Tot.bind (ve _ _ h2 hs) ?_
  rintro ⟨sr,c3,u3⟩ ⟨h3,s1,s2⟩
  refine Tot.bind (bh _ _ h3) ?_
  rintro ⟨b,c4,u4⟩ ⟨h4,_⟩
  refine Tot.bif (fun _=>?_) (fun _=>?_)
  ·refine Tot.bind (aD _ _ h4) ?_
   rintro ⟨d,c5,u5⟩ ⟨h5,d1,d2⟩
   have d2:=d2 (by decide)
   simp only at d1 d2
   exact Tot.pure ⟨h5,M2 ⟨s1,s2⟩ ⟨d1,by omega⟩ hn⟩
  ·refine Tot.bind (ve _ _ h4 hs) ?_
   rintro ⟨p,c5,u5⟩ ⟨h5,d1,d2⟩
   exact Tot.pure ⟨h5,KQ ⟨s1,s2⟩ ⟨d1,d2⟩ hn⟩
 ·have e1:k≠1:=by simpa using e1
  refine Tot.bif (fun e=>?_) (fun e2=>?_)
  ·have e:k=2:=by simpa using e
   subst e
   refine Tot.bind (ve _ _ h2 hs) ?_
   rintro ⟨p,c3,u3⟩ ⟨h3,s1,s2⟩
   refine Tot.bind (aT _ _ h3 (by decide)) ?_
   rintro ⟨z,c4,u4⟩ ⟨h4,m4⟩
   simp only at s1 s2 h4 m4 ⊢
   have hz:1≤z∧z≤4:=by simp at m4;omega
   refine Tot.bif (fun e=>?_) (fun _=>Tot.pure ⟨h4,QG ⟨s1,s2⟩ hz (by decide) (.inr ⟨rfl,rfl⟩)⟩)
   refine Tot.bind (aT _ _ h4 (by decide)) ?_
   rintro ⟨q,c5,u5⟩ ⟨h5,m5⟩
   refine Tot.bind (bh _ _ h5) ?_
   rintro ⟨b,c6,u6⟩ ⟨h6,_⟩
   simp only at m5
   exact Tot.pure ⟨h6,QG ⟨s1,s2⟩ hz (by simp at m5;omega) (.inl (by simpa using e))⟩
  ·have e2:k≠2:=by simpa using e2
   refine Tot.bind (P:=fun o=>(o=true→k=3∨k=4)∧(o=false→k=5∨k=6)) (Tot.bif (fun e=>Tot.pure ⟨fun _=>.inl (by simpa using e),fun f=>by rw [e] at f;cases f⟩) (fun e=>Tot.pure ⟨fun f=>.inr (by simpa using f),fun f=>?_⟩)) ?_
   ·have e:k≠3:=by simpa using e
    have f:k≠4:=by simpa using f
    omega
   rintro o ⟨o1,o2⟩
   refine Tot.bif (fun e=>?_) (fun e=>?_)
   ·refine Tot.bind (aD _ _ h2) ?_
    rintro ⟨d,c5,u5⟩ ⟨h5,d1,d2⟩
    have d2:=d2 (by decide)
    simp only at d1 d2
    exact Tot.pure ⟨h5,T5 (o1 e) ⟨d1,by omega⟩ hn⟩
   ·refine Tot.bind (ve _ _ h2 hs) ?_
    rintro ⟨p,c5,u5⟩ ⟨h5,d1,d2⟩
    exact Tot.pure ⟨h5,Ta (o2 e) ⟨d1,d2⟩ hn⟩
theorem Rz {k s p d n z:Int} {b:Bool} {u:Unit} (h:aM (k,s,p,d,n,z,b,u)=true) (hk:k≠2):eC (k,s,p,d,-1,z,b,u)=true:=by
 have:aM (k,s,p,d,0,z,b,u)=true:=by
  unfold aM at h ⊢
  simp at h ⊢
  grind
 unfold eC
 simp only [this]
 simp [hk]
def AE (k w so tr pc am z:Int):Prop:=(1≤k∧k≤6)∧(0≤w∧w≤2)∧(0≤so∧so≤99)∧(0≤tr∧tr≤63)∧(0≤pc∧pc≤99)∧(0≤am∧am≤2147483647)∧(0≤z∧z≤4)∧(k≠1→so=0∧tr=0)∧(k≠2→z=0)∧(k=3∨k=4→pc=0)
theorem Tb {k w so tr pc am z:Int} {u:Unit} (h:AE k w so tr pc am z):fS (k,w,so,tr,pc,am,z,u)=some true:=by
 unfold AE at h
 unfold fS iu iW bT
 simp only [bQ,Option.bind_some,cond_eq_ite,i7]
 congr 1
 simp
 grind
theorem Qc (c:al.D) (s:ae.D) (h:aO c) (hs:∀ x∈s.1,(1:Int)≤x.1∧x.1≤(99:Int)):Tot (jy c s) (fun y=>aO y.2.1∧fS y.1=some true∧(1:Int)≤y.1.1∧y.1.1≤(6:Int)):=by
 unfold jy
 refine Tot.bind (aT _ _ h (by decide)) ?_
 rintro ⟨k,c1,u1⟩ ⟨h1,m1⟩
 refine Tot.bind (aT _ _ h1 (by decide)) ?_
 rintro ⟨w,c2,u2⟩ ⟨h2,m2⟩
 refine Tot.bind (bh _ _ h2) ?_
 rintro ⟨b3,c3,u3⟩ ⟨h3,_⟩
 simp only at m1 m2 h3 ⊢
 have hk:1≤k∧k≤6:=by simp at m1;omega
 have hw:0≤w∧w≤2:=by simp at m2;omega
 refine Tot.bind (P:=fun o=>aO o.1∧∃ am:Int,o.2=(k,w,0,0,0,am,0,())∧0≤am∧am≤3) (Tot.bif (fun _=>?_) (fun _=>Tot.pure ⟨h3,0,rfl,by decide,by decide⟩)) ?_
 ·refine Tot.bind (aT _ _ h3 (by decide)) ?_
  rintro ⟨y,c4,u4⟩ ⟨hy,m4⟩
  simp only at m4
  exact Tot.pure ⟨hy,y,rfl,by simp at m4;omega,by simp at m4;omega⟩
 rintro ⟨c5,t5⟩ ⟨h5,am,e,a1,a2⟩
 simp only at h5 e
 subst e
 simp only
 refine Tot.bind (P:=fun o=>aO o.1∧∃ so tr am z:Int,o.2=(k,w,so,tr,0,am,z,())∧AE k w so tr 0 am z) (Tot.bif (fun e=>?_) (fun e=>?_)) ?_
 ·have e:k=1:=by simpa using e
  subst e
  refine Tot.bind (bh _ _ h5) ?_
  rintro ⟨b6,c6,u6⟩ ⟨h6,_⟩
  simp only at h6 ⊢
  refine Tot.bind (P:=fun o=>aO o.1∧∃ so:Int,o.2=(1,w,so,0,0,am,0,())∧0≤so∧so≤99) (Tot.bif (fun _=>?_) (fun _=>Tot.pure ⟨h6,0,rfl,by decide,by decide⟩)) ?_
  ·refine Tot.bind (ve _ _ h6 hs) ?_
   rintro ⟨y,c7,u7⟩ ⟨hy,m7,m7'⟩
   simp only at m7 m7'
   exact Tot.pure ⟨hy,y,rfl,by omega,m7'⟩
  rintro ⟨c8,t8⟩ ⟨h8,so,e,s1,s2⟩
  simp only at h8 e
  subst e
  refine Tot.bind (bh _ _ h8) ?_
  rintro ⟨b9,c9,u9⟩ ⟨h9,_⟩
  simp only at h9 ⊢
  refine Tot.bind (P:=fun o=>aO o.1∧∃ tr:Int,o.2=(1,w,so,tr,0,am,0,())∧0≤tr∧tr≤63) (Tot.bif (fun _=>?_) (fun _=>Tot.pure ⟨h9,0,rfl,by decide,by decide⟩)) ?_
  ·refine Tot.bind (aT _ _ h9 (by decide)) ?_
   rintro ⟨y,c10,u10⟩ ⟨hy,m10⟩
   simp only at m10
   exact Tot.pure ⟨hy,y,rfl,by simp at m10;omega,by simp at m10;omega⟩
  rintro ⟨c11,t11⟩ ⟨h11,tr,e,t1,t2⟩
  simp only at h11 e
  subst e
  exact Tot.pure ⟨h11,so,tr,am,0,rfl,by unfold AE;omega⟩
 ·have e:k≠1:=by simpa using e
  refine Tot.bind (P:=fun o=>aO o.1∧∃ am z:Int,o.2=(k,w,0,0,0,am,z,())∧(0≤am∧am≤3)∧(0≤z∧z≤3)∧(k≠2→z=0)) (Tot.bif (fun e2=>?_) (fun e2=>Tot.pure ⟨h5,am,0,rfl,⟨a1,a2⟩,by decide,fun _=>rfl⟩)) ?_
  ·have e2:k=2:=by simpa using e2
   refine Tot.bind (aT _ _ h5 (by decide)) ?_
   rintro ⟨y,c12,u12⟩ ⟨hy,m12⟩
   simp only at m12
   exact Tot.pure ⟨hy,0,y,rfl,by decide,by simp at m12;omega,fun h=>absurd e2 h⟩
  rintro ⟨c13,t13⟩ ⟨h13,am,z,e13,a1,a2,a3⟩
  exact Tot.pure ⟨h13,0,0,am,z,e13,by unfold AE;omega⟩
 rintro ⟨c14,t14⟩ ⟨h14,so,tr,am,z,e14,pg⟩
 simp only at h14 e14
 subst e14
 simp only
 refine Tot.bind (P:=fun o=>aO o.2∧(o.1=true→k≠3∧k≠4)) (Tot.bif (fun f3=>Tot.bif (fun f4=>?_) (fun _=>Tot.pure ⟨h14,fun h=>by cases h⟩)) (fun _=>Tot.pure ⟨h14,fun h=>by cases h⟩)) ?_
 ·refine Tot.bind (bh _ _ h14) ?_
  rintro ⟨b15,c15,u15⟩ ⟨hy,_⟩
  exact Tot.pure ⟨hy,fun _=>⟨by simpa using f3,by simpa using f4⟩⟩
 rintro ⟨b16,c16⟩ ⟨h16,e16⟩
 simp only at h16 e16 ⊢
 refine Tot.bif (fun f=>?_) (fun _=>Tot.pure ⟨h16,Tb pg,hk⟩)
 have e16:=e16 f
 refine Tot.bind (ve _ _ h16 hs) ?_
 rintro ⟨y,c17,u17⟩ ⟨hy,m17,m17'⟩
 simp only at m17 m17'
 exact Tot.pure ⟨hy,Tb (by unfold AE at pg ⊢;omega),hk⟩
theorem QH {k n:Int} {u:Unit} (h:((k=0∨k=3)∧n=0)∨(k=1∧-2147483647≤n∧n≤2147483647)∨((k=2∨k=4)∧0≤n∧n≤8)):dU (k,n,u)=some true:=by
 unfold dU
 simp only [bQ,i6,Option.bind_some,cond_eq_ite,i7]
 congr 1
 unfold fG
 simp
 grind
theorem RC (c:al.D) (h:aO c):Tot (jz c) (fun y=>aO y.2.1∧dU y.1=some true):=by
 unfold jz
 refine Tot.bind (bh _ _ h) ?_
 rintro ⟨b1,c1,u1⟩ ⟨h1,_⟩
 simp only at h1 ⊢
 refine Tot.bif (fun _=>Tot.pure ⟨h1,QH (.inl ⟨.inl rfl,rfl⟩)⟩) (fun _=>?_)
 refine Tot.bind (aD _ _ h1) ?_
 rintro ⟨k,c2,u2⟩ ⟨h2,a,b⟩
 have b:=b (by decide)
 simp only at h2 a b ⊢
 rw [aA (n:=1 + k) (by omega) (by omega)]
 refine Tot.bif (fun e=>?_) (fun e=>?_)
 ·refine Tot.bind (aT _ _ h2 (by decide)) ?_
  rintro ⟨y,c3,u3⟩ ⟨hy,m3⟩
  simp only at m3
  exact Tot.pure ⟨hy,QH (.inr (.inl ⟨by simpa using e,by simp at m3;omega,by simp at m3;omega⟩))⟩
 have e:1 + k≠1:=by simpa using e
 refine Tot.bind (P:=fun o=>(o=true→1 + k=2∨1 + k=4)∧(o=false→1 + k=3)) (Tot.bif (fun e=>Tot.pure ⟨fun _=>.inl (by simpa using e),fun f=>by rw [e] at f;cases f⟩) (fun e=>Tot.pure ⟨fun f=>.inr (by simpa using f),fun f=>?_⟩)) ?_
 ·have e:1 + k≠2:=by simpa using e
  have f:1 + k≠4:=by simpa using f
  omega
 rintro o4 ⟨o1,o2⟩
 refine Tot.bif (fun e=>?_) (fun e=>Tot.pure ⟨h2,QH (.inl ⟨.inr (o2 e),rfl⟩)⟩)
 refine Tot.bind (aT _ _ h2 (by decide)) ?_
 rintro ⟨y,c5,u5⟩ ⟨hy,m5⟩
 simp only at m5
 exact Tot.pure ⟨hy,QH (.inr (.inr ⟨o1 e,by simp at m5;omega,by simp at m5;omega⟩))⟩
theorem RD {k:Int} {u:Unit} (h:k=1∨k=2∨k=4∨k=5):bE (k,0,0,-1,0,false,[],u)=some true:=by
 rcases h with rfl | rfl | rfl | rfl <;> rfl
theorem RE {n:Int} {u:Unit} (h:1≤n∧n≤2147483647):bE (3,n,0,-1,0,false,[],u)=some true:=by
 unfold bE
 simp [bQ,h.1,h.2]
theorem QI {p s:Int} {u:Unit} (h:(1≤p∧p≤99∧s=-1)∨(p=0∧0≤s∧s≤1)):bE (6,0,p,s,0,false,[],u)=some true:=by
 unfold bE cJ bl
 rcases h with ⟨h1,h2,rfl⟩ | ⟨rfl,h1,h2⟩
 ·simp [bQ,h1,h2]
 ·have:s≤2:=by omega
  have h3:¬ s=-1:=by omega
  simp [bQ,h1,this,h3]
theorem RF {z:Int} {u:Unit} (h:1≤z∧z≤4):bE (7,0,0,-1,z,false,[],u)=some true:=by
 unfold bE it
 simp [bQ,h.1,h.2]
theorem RG {n:Int} {b:Bool} {u:Unit} (h:0≤n∧n≤99):bE (8,n,0,-1,0,b,[],u)=some true:=by
 unfold bE
 simp [bQ,h.1,h.2]
theorem Tc {L:List ah.D} {u:Unit} (h:1≤L.length∧L.length≤3) (hp:∀ e∈L,eC e=true):bE (9,0,0,-1,0,false,L,u)=some true:=by
 have hC:aU L (fun q=>gn q.1)=some (L.any (fun e=>!eC e)):=ig L (by omega) (fun e=>!eC e) _ (fun x=>by simp only [gn,tJ,Option.bind_some])
 have hA:L.any (fun e=>!eC e)=false:=by rw [List.any_eq_false];intro x hx;rw [hp x hx];decide
 have h1:(1:Int)≤(L.length:Int):=by omega
 have h2:(L.length:Int)≤3:=by omega
 unfold bE
 simp [bQ,hC,hA,h1,h2]
theorem sh (k n p s z kk:Int) (b:Bool) (L:List ah.D) (u:Unit) (n' p' s' z':Int) (b':Bool) (L':List ah.D) (u':Unit) (h:bG (k,n',p',s',z',b',L',u') kk=some true):bG (k,n,p,s,z,b,L,u) kk=some true:=h
theorem Td {kk:Int} {n p s z:Int} {b:Bool} {L:List ah.D} {u:Unit} (h:1≤kk∧kk≤6):bG (1,n,p,s,z,b,L,u) kk=some true:=by
 unfold bG iu
 simp [bQ,h.1,h.2]
theorem Qd (c:al.D) (s:ae.D) (kk:Int) (h:aO c) (hs:∀ x∈s.1,(1:Int)≤x.1∧x.1≤(99:Int)) (hkk:1≤kk∧kk≤6):Tot (jA c s kk) (fun y=>aO y.2.1∧bE y.1=some true∧bG y.1 kk=some true∧y.1.2.2.2.2.2.2.1.length≤9):=by
 unfold jA
 refine Tot.bind (aT _ _ h (by decide)) ?_
 rintro ⟨k0,c1,u1⟩ ⟨h1,m1⟩
 simp only at h1 m1 ⊢
 have hk0:1≤k0∧k0≤9:=by simp at m1;omega
 refine Tot.bind (P:=fun o=>aO o.2.1∧∃ k:Int,o.2.2=(k,0,0,-1,0,false,[],())∧1≤k∧k≤9) (Tot.while (fun s=>(aO s.2.1∧∃ k:Int,s.2.2=(k,0,0,-1,0,false,[],())∧1≤k∧k≤9)∧0≤s.1∧s.1≤6) (fun s=>6 - s.1.toNat) ?_ ⟨⟨h1,k0,rfl,hk0⟩,by simp only;omega⟩) ?_
 ·rintro ⟨i,cc,t⟩ ⟨⟨g1,k,e,g2⟩,g3,g4⟩
  simp only at g1 e g3 g4
  subst e
  unfold sL
  simp only
  refine Tot.bind (P:=fun o=>o=true→i < (6:Int)) (Tot.bif (fun hl=>?_) (fun _=>Tot.pure (fun h=>by cases h))) ?_
  ·have hl:i < (6:Int):=of_decide_eq_true hl
   obtain ⟨b,hb,_⟩:=iL (k,0,0,-1,0,false,[],()) kk
   refine Tot.bind (P:=fun _=>True) ⟨b,hb,trivial⟩ ?_
   rintro y5 _
   exact Tot.pure (fun _=>hl)
  rintro o6 h6
  refine Tot.bif (fun hb=>?_) (fun _=>Tot.pure ⟨g1,k,rfl,g2⟩)
  have hl:=h6 hb
  refine Tot.bind (aD _ _ g1) ?_
  rintro ⟨y,c7,u7⟩ ⟨h7,a7,b7⟩
  have b7:=b7 (by decide)
  simp only at a7 b7
  refine Tot.pure ⟨⟨⟨h7,1 + y,?_,by omega,by omega⟩,?_,?_⟩,?_⟩
  ·simp only;rw [aA (n:=1 + y) (by omega) (by omega)]
  all_goals simp only <;> rw [aA (by omega) (by omega)] <;> omega
 rintro ⟨i8,c8,t8⟩ ⟨h8,k8,e8,k8r⟩
 simp only at h8 e8
 subst e8
 simp only
 obtain ⟨b9,hb9,hi9⟩:=iL (k8,0,0,-1,0,false,[],()) kk
 refine Tot.bind (P:=fun b=>b=b9) ⟨b9,hb9,rfl⟩ ?_
 rintro _ rfl
 refine Tot.bind (P:=fun o=>∃ k:Int,o=(k,0,0,-1,0,false,[],())∧(1≤k∧k≤9)∧bG (k,0,0,-1,0,false,[],()) kk=some true) (Tot.bif (fun _=>Tot.pure ⟨1,rfl,by decide,Td hkk⟩) (fun hb=>Tot.pure ⟨k8,rfl,k8r,?_⟩)) ?_
 ·rw [hi9]
  rw [Bool.not_eq_false'] at hb
  rw [hb]
 rintro _ ⟨k,rfl,hk,hf⟩
 simp only
 refine Tot.bif (fun e=>?_) (fun n3=>?_)
 ·have e:k=3:=by simpa using e
  subst e
  refine Tot.bind (aT _ _ h8 (by decide)) ?_
  rintro ⟨y,c11,u11⟩ ⟨hy,m11⟩
  simp only at m11
  exact Tot.pure ⟨hy,RE (by simp at m11;omega),sh _ _ _ _ _ _ _ _ _ _ _ _ _ _ _ _ hf,Nat.zero_le _⟩
 refine Tot.bif (fun e=>?_) (fun n6=>?_)
 ·have e:k=6:=by simpa using e
  subst e
  refine Tot.bind (bh _ _ h8) ?_
  rintro ⟨b12,c12,u12⟩ ⟨h12,_⟩
  simp only at h12 ⊢
  refine Tot.bif (fun _=>?_) (fun _=>?_)
  ·refine Tot.bind (aD _ _ h12) ?_
   rintro ⟨y,c13,u13⟩ ⟨hy,a13,b13⟩
   have b13:=b13 (by decide)
   simp only at a13 b13
   exact Tot.pure ⟨hy,QI (.inr ⟨rfl,a13,by omega⟩),sh _ _ _ _ _ _ _ _ _ _ _ _ _ _ _ _ hf,Nat.zero_le _⟩
  ·refine Tot.bind (ve _ _ h12 hs) ?_
   rintro ⟨y,c14,u14⟩ ⟨hy,a14,b14⟩
   simp only at a14 b14
   exact Tot.pure ⟨hy,QI (.inl ⟨a14,b14,rfl⟩),sh _ _ _ _ _ _ _ _ _ _ _ _ _ _ _ _ hf,Nat.zero_le _⟩
 refine Tot.bif (fun e=>?_) (fun n7=>?_)
 ·have e:k=7:=by simpa using e
  subst e
  refine Tot.bind (aT _ _ h8 (by decide)) ?_
  rintro ⟨y,c15,u15⟩ ⟨hy,m15⟩
  simp only at m15
  exact Tot.pure ⟨hy,RF (by simp at m15;omega),sh _ _ _ _ _ _ _ _ _ _ _ _ _ _ _ _ hf,Nat.zero_le _⟩
 refine Tot.bif (fun e=>?_) (fun n8=>?_)
 ·have e:k=8:=by simpa using e
  subst e
  refine Tot.bind (aD _ _ h8) ?_
  rintro ⟨y,c16,u16⟩ ⟨h16,a16,b16⟩
  have b16:=b16 (by decide)
  simp only at a16 b16
  refine Tot.bind (bh _ _ h16) ?_
  rintro ⟨b17,c17,u17⟩ ⟨hy,_⟩
  exact Tot.pure ⟨hy,RG ⟨a16,by omega⟩,sh _ _ _ _ _ _ _ _ _ _ _ _ _ _ _ _ hf,Nat.zero_le _⟩
 refine Tot.bif (fun e=>?_) (fun n9=>Tot.pure ⟨h8,RD ?_,hf,Nat.zero_le _⟩)
 ·have e:k=9:=by simpa using e
  subst e
  refine Tot.bind (aD _ _ h8) ?_
  rintro ⟨y,c18,u18⟩ ⟨h18,a18,b18⟩
  have b18:=b18 (by decide)
  simp only at h18 a18 b18 ⊢
  rw [aA (n:=1 + y) (by omega) (by omega)]
  refine Tot.bind (P:=fun o=>aO o.2.1∧∃ L:List ah.D,o.2.2=(9,0,0,-1,0,false,L,())∧(1≤L.length∧L.length≤3)∧∀ e∈L,eC e=true) (Tot.while (fun s=>aO s.2.1∧0≤s.1∧∃ L:List ah.D,s.2.2=(9,0,0,-1,0,false,L,())∧(L.length:Int) + s.1=1 + y∧∀ e∈L,eC e=true) (fun s=>s.1.toNat) ?_ ⟨h18,by simp only;omega,[],rfl,by simp,fun e he=>by cases he⟩) ?_
  ·rintro ⟨i,cc,t⟩ ⟨g1,g3,L,e,g4,g5⟩
   simp only at g1 g3 e g4
   subst e
   unfold sM
   simp only
   refine Tot.bif (fun hl=>?_) (fun hl=>?_)
   ·have hl:i > 0:=of_decide_eq_true hl
    refine Tot.bind (Ry _ _ g1 hs) ?_
    rintro ⟨⟨ek,es,ep,ed,en,ez,eb,eu⟩,c22,u22⟩ ⟨h22,e22⟩
    simp only at h22 e22 ⊢
    refine Tot.bind (P:=fun o=>aO o.2∧(o.1=true→ek≠2)) (Tot.bif (fun f=>?_) (fun _=>Tot.pure ⟨h22,fun h=>by cases h⟩)) ?_
    ·refine Tot.bind (bh _ _ h22) ?_
     rintro ⟨b,c23,u23⟩ ⟨hy,_⟩
     exact Tot.pure ⟨hy,fun _=>by simpa using f⟩
    rintro ⟨b24,c24⟩ ⟨h24,f24⟩
    simp only at h24 f24 ⊢
    refine Tot.bind (P:=fun o=>eC o=true) (Tot.bif (fun f=>Tot.pure (Rz e22 (f24 f))) (fun _=>Tot.pure ?_)) ?_
    ·unfold eC;rw [e22];rfl
    rintro o25 h25
    rw [if_pos (by simp only [aI,List.length_cons,List.length_nil];omega)]
    refine Tot.pure ⟨⟨h24,?_,L++[o25],rfl,?_,fun e he=>?_⟩,?_⟩
    ·simp only;rw [aA (n:=i - 1) (by omega) (by omega)];omega
    ·simp only [List.length_append,List.length_cons,List.length_nil];rw [aA (n:=i - 1) (by omega) (by omega)];omega
    ·rcases List.mem_append.1 he with he | he
     ·exact g5 e he
     ·rw [List.mem_singleton.1 he];exact h25
    ·simp only;rw [aA (n:=i - 1) (by omega) (by omega)];omega
   ·have hl:¬ i > 0:=of_decide_eq_false hl
    exact Tot.pure ⟨g1,L,rfl,by omega,g5⟩
  rintro ⟨i26,c26,t26⟩ ⟨h26,L,e26,l26,p26⟩
  simp only at h26 e26
  subst e26
  exact Tot.pure ⟨h26,Tc l26 p26,sh _ _ _ _ _ _ _ _ _ _ _ _ _ _ _ _ hf,by simp only;omega⟩
 ·have n3:k≠3:=by simpa using n3
  have n6:k≠6:=by simpa using n6
  have n7:k≠7:=by simpa using n7
  have n8:k≠8:=by simpa using n8
  have n9:k≠9:=by simpa using n9
  omega
theorem Fq {i ow so du:Int} {pat:dr.D} {gd:bU.D} {act:bR.D} {co lf:Int} {u:Unit} (hl:act.2.2.2.2.2.2.1.length≤33554432) (hi:1≤i∧i≤99) (how:0≤ow∧ow≤2) (hso:0≤so∧so≤99) (hdu:0≤du∧du≤4) (hco:-1≤co∧co≤9999) (hlf:-1≤lf∧lf≤2147483647) (hz:du=0→so≠0) (h2:(act.1:Int)=2→0≤lf)
  (hp:fS pat=some true) (hg:dU gd=some true) (ha:bE act=some true) (hf:bG act pat.1=some true):aS (i,ow,so,du,pat,gd,act,co,lf,u)=true:=by
 have g:=cW (i,ow,so,du,pat,gd,act,co,lf,u) hl
 unfold cy cJ bl at g
 simp only [hp,hg,ha,hf,bQ,Option.bind_some] at g
 simp only [cond_eq_ite,i7,Option.bind_some] at g
 have g:=Option.some.inj g
 rw [← g]
 clear g hp hg ha hf hl
 generalize (act.1:Int)=ak at *
 simp
 grind
theorem O1 (c:al.D) (s:ae.D) (id:Int) (h:aO c) (hs:∀ x∈s.1,(1:Int)≤x.1∧x.1≤(99:Int)) (hc:(0:Int)≤s.2.2.2.1∧s.2.2.2.1≤(9998:Int)) (hid:1≤id∧id≤99):Tot (cU c s id) (fun y=>aO y.2.1∧aS y.1=true∧y.1.1=id∧y.1.2.2.2.2.2.2.1.2.2.2.2.2.2.1.length≤9):=by
 unfold cU
 refine Tot.bind (aD _ _ h) ?_
 rintro ⟨ow,c1,u1⟩ ⟨h1,a1,b1⟩
 have b1:=b1 (by decide)
 refine Tot.bind (aT _ _ h1 (by decide)) ?_
 rintro ⟨du,c2,u2⟩ ⟨h2,m2⟩
 simp only at a1 b1 h2 m2 ⊢
 have hdu:0≤du∧du≤4:=by simp at m2;omega
 refine Tot.bind (P:=fun o=>aO o.2∧(du=0→o.1=true)) (Tot.bif (fun _=>Tot.pure ⟨h2,fun _=>rfl⟩) (fun e=>?_)) ?_
 ·refine Tot.bind (bh _ _ h2) ?_
  rintro ⟨b,c3,u3⟩ ⟨hy,_⟩
  exact Tot.pure ⟨hy,fun f=>absurd f (by simpa using e)⟩
 rintro ⟨b4,c4⟩ ⟨h4,e4⟩
 simp only at h4 e4 ⊢
 refine Tot.bind (P:=fun o=>aO o.1∧∃ so:Int,o.2=(id,ow,so,du,(0,0,0,0,0,0,0,()),(0,0,()),(0,0,0,0,0,false,[],()),(-1),(-1),())∧(0≤so∧so≤99)∧(du=0→so≠0)) (Tot.bif (fun e=>?_) (fun e=>Tot.pure ⟨h4,0,rfl,by decide,fun f=>by rw [e4 f] at e;cases e⟩)) ?_
 ·refine Tot.bind (ve _ _ h4 hs) ?_
  rintro ⟨y,c5,u5⟩ ⟨hy,m5,m5'⟩
  simp only at m5 m5'
  exact Tot.pure ⟨hy,y,rfl,by omega,fun _=>by omega⟩
 rintro ⟨c6,t6⟩ ⟨h6,so,e6,hso,hz⟩
 simp only at h6 e6
 subst e6
 simp only
 refine Tot.bind (Qc _ _ h6 hs) ?_
 rintro ⟨pat,c7,u7⟩ ⟨h7,p7,p7a,p7b⟩
 refine Tot.bind (RC _ h7) ?_
 rintro ⟨gd,c8,u8⟩ ⟨h8,g8⟩
 refine Tot.bind (Qd _ _ _ h8 hs ⟨p7a,p7b⟩) ?_
 rintro ⟨act,c9,u9⟩ ⟨h9,f9,f9',e9⟩
 refine Tot.bind (bh _ _ h9) ?_
 rintro ⟨b10,c10,u10⟩ ⟨h10,_⟩
 simp only at p7 g8 f9 f9' e9 h10 ⊢
 refine Tot.bind (P:=fun o=>aO o.1∧∃ co:Int,o.2=(id,ow,so,du,pat,gd,act,co,(-1),())∧-1≤co∧co≤9999) (Tot.bif (fun _=>?_) (fun _=>Tot.pure ⟨h10,-1,rfl,by decide,by decide⟩)) ?_
 ·refine Tot.bind (aD _ _ h10) ?_
  rintro ⟨y,c11,u11⟩ ⟨hy,a11,b11⟩
  have b11:=b11 (by decide)
  simp only at a11 b11 ⊢
  have key:∀ q:Int,0≤q∧q≤9998→IntKind.wrap .i64 (IntKind.wrap .i64 (q + y) - 1)=q + y - 1∧-1≤q + y - 1∧q + y - 1≤9999:=fun q hq=>⟨by rw [aA (n:=q + y) (by omega) (by omega),aA (by omega) (by omega)],by omega,by omega⟩
  obtain ⟨w1,w2,w3⟩:=key _ hc
  rw [w1]
  exact Tot.pure ⟨hy,_,rfl,w2,w3⟩
 rintro ⟨c13,t13⟩ ⟨h13,co,e13,hco⟩
 simp only at h13 e13
 subst e13
 simp only
 have hl:act.2.2.2.2.2.2.1.length≤33554432:=by omega
 have how:0≤ow∧ow≤2:=by omega
 refine Tot.bif (fun e=>?_) (fun e=>?_)
 ·refine Tot.bind (aT _ _ h13 (by decide)) ?_
  rintro ⟨y,c14,u14⟩ ⟨hy,m14⟩
  simp only at m14
  have m14:1≤y∧y≤5:=by simp at m14;omega
  exact Tot.pure ⟨hy,Fq hl hid how hso hdu hco ⟨by omega,by omega⟩ hz (fun _=>by omega) p7 g8 f9 f9',rfl,e9⟩
 have n2:∀ P:Prop,(act.1:Int)=2→P:=fun P f=>by rw [f] at e;cases e
 refine Tot.bind (bh _ _ h13) ?_
 rintro ⟨b15,c15,u15⟩ ⟨h15,_⟩
 simp only at h15 ⊢
 refine Tot.bif (fun _=>?_) (fun _=>Tot.pure ⟨h15,Fq hl hid how hso hdu hco ⟨by decide,by decide⟩ hz (n2 _) p7 g8 f9 f9',rfl,e9⟩)
 refine Tot.bind (aD _ _ h15) ?_
 rintro ⟨y,c16,u16⟩ ⟨hy,a16,b16⟩
 have b16:=b16 (by decide)
 simp only at a16 b16 ⊢
 rw [aA (n:=1 + y) (by omega) (by omega)]
 exact Tot.pure ⟨hy,Fq hl hid how hso hdu hco ⟨by omega,by omega⟩ hz (n2 _) p7 g8 f9 f9',rfl,e9⟩
theorem Qe (c:al.D) (s:ae.D) (h:aO c) (hs:∀ x∈s.1,(1:Int)≤x.1∧x.1≤(99:Int)) (hc:(0:Int)≤s.2.2.2.1∧s.2.2.2.1≤(9998:Int)):Tot (iA c s) (fun y=>aO y.2.1∧okD (.slice aa) y.1∧iN y.1=true):=by
 unfold iA
 refine Tot.bind (aD _ _ h) ?_
 rintro ⟨n,c1,u1⟩ ⟨h1,h1a,h1b⟩
 have h1c:=h1b (by decide)
 simp only at h1 h1a h1c ⊢
 refine Tot.bind (P:=fun o=>aO o.2.2.2∧(∀ x∈o.1,okD aa x)∧(∀ x∈o.1,aS x=true)∧o.1.Pairwise (fun (a b:aa.D)=>(a.1:Int) < (b.1:Int))∧o.1.length≤5)
  (Tot.while (fun s=>aO s.2.2.2∧(∀ x∈s.1,okD aa x)∧(∀ x∈s.1,aS x=true)∧s.1.Pairwise (fun (a b:aa.D)=>(a.1:Int) < (b.1:Int))∧(∀ x∈s.1,(x.1:Int)≤s.2.1)∧(0≤s.2.1∧s.2.1≤2 * (s.1.length:Int))∧0≤s.2.2.1∧(s.1.length:Int) + s.2.2.1≤5) (fun s=>s.2.2.1.toNat) ?_ ⟨h1,(fun x hx=>by cases hx),(fun x hx=>by cases hx),List.Pairwise.nil,(fun x hx=>by cases hx),by simp only [List.length_nil];omega,h1a,by simp only [List.length_nil];omega⟩) ?_
 ·rintro ⟨l,id,i,cc⟩ ⟨k1,k2,k5,k6,k7,k8,k3,k4⟩
  simp only at k1 k2 k3 k4 k5 k6 k7 k8
  unfold qM
  simp only
  refine Tot.bif (fun hl=>?_) (fun _=>Tot.pure ⟨k1,k2,k5,k6,by simp only;omega⟩)
  have hl:i > 0:=of_decide_eq_true hl
  refine Tot.bind (aD _ _ k1) ?_
  rintro ⟨y,c4,u4⟩ ⟨h4,a4,b4⟩
  have b4:=b4 (by decide)
  simp only at h4 a4 b4 ⊢
  have w:IntKind.wrap .i64 (IntKind.wrap .i64 (id + 1) + y)=id + 1 + y:=by rw [aA (n:=id + 1) (by omega) (by omega),aA (by omega) (by omega)]
  rw [w]
  refine Tot.bind (O1 _ _ _ h4 hs hc ⟨by omega,by omega⟩) ?_
  rintro ⟨x5,c5,u5⟩ ⟨h5,e5,i5,l5⟩
  simp only at h5 e5 i5 l5 ⊢
  rw [if_pos (by simp only [aI,List.length_cons,List.length_nil];omega)]
  refine Tot.pure ⟨⟨h5,fun x hx=>?_,fun x hx=>?_,?_,fun x hx=>?_,?_,?_,?_⟩,?_⟩
  ·rcases List.mem_append.1 hx with hx | hx
   ·exact k2 x hx
   ·rw [List.mem_singleton.1 hx];exact jN _ (by omega)
  ·rcases List.mem_append.1 hx with hx | hx
   ·exact k5 x hx
   ·rw [List.mem_singleton.1 hx];exact e5
  ·refine List.pairwise_append.2 ⟨k6,by simp,fun a ha b hb=>?_⟩
   rw [List.mem_singleton.1 hb,i5]
   exact Int.lt_of_le_of_lt (k7 a ha) (show id < id + 1 + y by omega)
  ·rcases List.mem_append.1 hx with hx | hx
   ·exact Int.le_trans (k7 x hx) (show id≤id + 1 + y by omega)
   ·rw [List.mem_singleton.1 hx,i5];exact Int.le_refl _
  all_goals simp only [List.length_append,List.length_cons,List.length_nil] <;> (try rw [aA (n:=i - 1) (by omega) (by omega)]) <;> omega
 ·rintro o ⟨k1,k2,k3,k4,k5⟩
  have k6:o.1.length≤33554432:=by omega
  exact Tot.pure ⟨k1,⟨k6,k2⟩,(lS _).2 ⟨k3,k4,k5⟩⟩
theorem UF (code:List Int) (hl:code.length≤33554432) (w:∀ x∈code,0≤x∧x≤(255:Int)):∃ n:Nat,GX code 2=some (n:Int)∧n≤255:=by
 unfold GX
 by_cases h:(2:Int) < (code.length:Int)
 ·obtain ⟨x,hx⟩:∃ x,code[2]?=some x:=⟨_,List.getElem?_eq_getElem (by omega)⟩
  obtain ⟨w1,w2⟩:=w x (List.mem_of_getElem? hx)
  obtain ⟨n,rfl⟩:=Int.eq_ofNat_of_zero_le w1
  have hi:∀ {R:Type} (κ:Int→Option R),idx code 2 κ=κ (n:Int):=fun κ=>aJ (i:=2) hx
  rw [decide_eq_true h,cond_true,hi,aA (by omega) (by omega)]
  exact ⟨n,rfl,by omega⟩
 ·rw [decide_eq_false h,cond_false]
  have e1:IntKind.wrap .i64 (2 * 31)=62:=aA (by omega) (by omega)
  have e2:IntKind.wrap .i64 ((code.length:Int) * 7)=(code.length:Int) * 7:=aA (by omega) (by omega)
  have e3:IntKind.wrap .i64 (62 + (code.length:Int) * 7)=((62 + code.length * 7:Nat):Int):=by rw [aA (by omega) (by omega)];omega
  simp only [e1,e2,e3]
  rw [if_neg (by decide)]
  refine ⟨(62 + code.length * 7) % 256,?_,by omega⟩
  rw [Int.tmod_eq_emod_of_nonneg (by omega)]
  rfl
theorem Uz {s:ae.D} (h:aV s=true):∀ x∈s.1,(1:Int)≤x.1∧x.1≤(99:Int):=fun x hx=>by
 obtain ⟨i,hi⟩:=List.mem_iff_getElem?.1 hx
 have hp:=(((cz s).1 h).2.2.1 i x hi).1
 exact ((dn x.1 x.2.1 x.2.2.1 x.2.2.2.1 x.2.2.2.2.1 x.2.2.2.2.2.1 x.2.2.2.2.2.2.1 x.2.2.2.2.2.2.2.1 x.2.2.2.2.2.2.2.2.1 x.2.2.2.2.2.2.2.2.2.1 x.2.2.2.2.2.2.2.2.2.2.1 x.2.2.2.2.2.2.2.2.2.2.2.1 x.2.2.2.2.2.2.2.2.2.2.2.2.1 x.2.2.2.2.2.2.2.2.2.2.2.2.2).1 hp).1.1
theorem Te {s:ae.D} (h:aV s=true) (h4:s.2.2.2.1≤(4:Int)):(0:Int)≤s.2.2.2.1∧s.2.2.2.1≤(9998:Int):=⟨((cz s).1 h).2.1.2.1,Int.le_trans h4 (by decide)⟩
theorem RH (c:al.D) (h:aO c):Tot (iq c) (fun y=>aO y.2.1∧okD aK y.1∧ji y.1=true∧y.1.2.2.2.1=[]∧y.1.2.2.2.2.1=[]∧y.1.2.2.2.2.2.1=[]):=by
 unfold iq
 refine Tot.bind (Rx _ h) ?_
 rintro y1 ⟨h1,e1,e2⟩
 obtain ⟨m1,m2⟩:=kQ e1
 refine Tot.bind (Qe _ _ h1 (Uz e1) (Te e1 e2)) ?_
 rintro y2 ⟨h2,g2,t2⟩
 refine Tot.bind (kT _ h2) ?_
 rintro y3 ⟨h3,e3⟩
 refine Tot.bind (kT _ h3) ?_
 rintro y4 ⟨h4,e4⟩
 rw [if_pos (by simp only [aI];omega)]
 obtain ⟨g,ok⟩:=CC y1.1 y2.1 (y3.1++y4.1) (by omega) (by omega) g2 (by rw [List.length_append];omega)
 rw [g,Option.bind_some]
 exact Tot.pure ⟨h4,ok,(po _).2 ⟨e1,t2,fun t ht=>by cases ht⟩,rfl,rfl,rfl⟩
theorem O2 (code:List Int) (hl:code.length≤33554432):Tot (pJ code) (fun y=>okD aK y.1∧ji y.1=true∧y.1.2.2.2.1=[]∧y.1.2.2.2.2.1=[]∧y.1.2.2.2.2.2.1=[]∧okD (.slice bm) y.2.1∧y.2.1.length≤7):=by
 unfold pJ
 refine Tot.bind (Js code hl) ?_
 rintro c hc
 refine Tot.bind (RH _ hc) ?_
 rintro y2 ⟨h2,ok2,gk,a1,a2,a3⟩
 have b1:y2.1.2.2.2.1.length=0:=by rw [a1];rfl
 have b2:y2.1.2.2.2.2.1.length=0:=by rw [a2];rfl
 have b3:y2.1.2.2.2.2.2.1.length=0:=by rw [a3];rfl
 refine Tot.bind (xM _ _ 7 7 h2 ok2 (by decide) (by decide) (by decide) (by omega) (by omega) (by omega)) ?_
 rintro y3 ⟨_,ok3,l3⟩
 exact Tot.pure ⟨ok2,gk,a1,a2,a3,ok3,l3⟩
theorem O3 (code:List Int) (hl:code.length≤33554432):Tot (pN code) (fun y=>okD aK y.1∧y.1.2.2.2.1.length≤1800001∧y.1.2.2.2.2.1.length≤1800001∧y.1.2.2.2.2.2.1.length≤1800001∧okD (.slice bm) y.2.1∧y.2.1.length≤6):=by
 unfold pN
 refine Tot.bind (Js code hl) ?_
 rintro c hc
 refine Tot.bind (Rv _ hc) ?_
 rintro y2 ⟨h2,ok2,a1,a2,a3⟩
 refine Tot.bind (xM _ _ 6 6 h2 ok2 (by decide) (by decide) (by decide) (by omega) (by omega) (by omega)) ?_
 rintro y3 ⟨_,ok3,l3⟩
 exact Tot.pure ⟨ok2,a1,a2,a3,ok3,l3⟩
theorem Ju (code:List Int) (hl:code.length≤33554432):Tot (j7 code) (fun y=>(y.1.1.length≤20∧y.1.2.1.length≤3)∧okD (.slice aa) y.2.1∧y.2.2.1.length≤8):=by
 unfold j7
 refine Tot.bind (Js code hl) ?_
 rintro c hc
 refine Tot.bind (OW _ hc) ?_
 rintro y2 ⟨h2,b1,b2⟩
 refine Tot.bind (Lv _ _ h2) ?_
 rintro y3 ⟨h3,a1,_⟩
 refine Tot.bind (kT _ h3) ?_
 rintro y4 ⟨_,e4⟩
 exact Tot.pure ⟨⟨b1,b2⟩,a1,e4⟩
theorem M3 (s:ae.D) (xs:List aa.D) (l:List Int) (hp:s.1.length≤33554432) (hs:s.2.1.length≤33554432) (ok:okD (.slice aa) xs) (hll:l.length≤33554432):rQ s xs l=some (s,xs,l,[],[],[],()):=by
 unfold rQ
 simp only [fH s hp hs,dy xs ok,eR l hll,Option.bind_some]
theorem Lw {α:Type}:∀ (xs:List α) (i:Nat),qC (fun _ _=>false) i xs=false
 | [],_=>rfl
 | _ :: xs,i=>Lw xs (i + 1)
theorem M4 (r:aK.D×(Int×Unit)) (hl:r.1.2.2.2.1.length≤33554432) (h:∀ t∈r.1.2.2.2.1,Jp t):ay (iR r) 0=some (.inl (r.1.2.2.2.1.length:Int)):=by
 rw [kM r.1.2.2.2.1 (body:=iR r) (fun _ _=>false) false (by omega) (fun i x hx=>?_) (by unfold iR;simp),Lw]
 ·rfl
 ·have hlt:=(List.getElem?_eq_some_iff.1 hx).1
  have hil:((i:Int) < (r.1.2.2.2.1.length:Int)):=by omega
  obtain ⟨g1,g2⟩:=h x (List.mem_of_getElem? hx)
  unfold iR
  simp only [hil,decide_true,cond_true,aJ hx,Int.toNat_natCast,hx,Option.bind_some,pm]
  cases e1:(x.1 == 1) with
  | true =>
   have e1:(x.1:Int)=1:=by simpa using e1
   have e2:(x.1 == 2)=false:=by rw [e1];rfl
   rw [g1 e1,e2];rfl
  | false =>
   cases e2:(x.1 == 2) with
   | true =>
    have e2:(x.1:Int)=2:=by simpa using e2
    rw [g2 e2];rfl
   | false=>rfl
theorem law_FnGames (code:List Int) (w:(Ty.slice (.int .u8)).wf code):xC code=some true:=by
 unfold xC HM
 by_cases hb:(code.length:Int) > 1048576
 ·rw [decide_eq_true hb];rfl
 have hl:code.length≤33554432:=by omega
 have hw:∀ x∈code,0≤x∧x≤(255:Int):=fun x hx=>by
  have h:(decide (IntKind.u8.min≤x) && decide (x≤IntKind.u8.max))=true:=w.2 x hx
  rw [Bool.and_eq_true,decide_eq_true_eq,decide_eq_true_eq] at h
  exact h
 obtain ⟨⟨g,l,u1⟩,hp,okg,gk,a1,a2,a3,okl,l7⟩:=O2 code hl
 obtain ⟨⟨v,m,u2⟩,hq,okv,q1,q2,q3,okm,m6⟩:=O3 code hl
 obtain ⟨⟨s,tb,cs,u3⟩,hn,⟨s1,s2⟩,okt,c8⟩:=Ju code hl
 simp only at okg gk a1 a2 a3 okl l7 okv q1 q2 q3 okm m6 s1 s2 okt c8
 have b1:g.2.2.2.1.length=0:=by rw [a1];rfl
 have b2:g.2.2.2.2.1.length=0:=by rw [a2];rfl
 have b3:g.2.2.2.2.2.1.length=0:=by rw [a3];rfl
 obtain ⟨_,p1,okp,gp,kp,⟨n0,n1⟩,_,_,_⟩:=El g l okg okl 7 l7 (by omega) (by omega) (by omega)
 obtain ⟨v1,v2,okw,_,_,_,_,_,_⟩:=El v m okv okm 6 m6 (by omega) (by omega) (by omega)
 obtain ⟨w1,okn⟩:=CC s tb cs (by omega) (by omega) okt (by omega)
 have w2:=M3 s tb cs (by omega) (by omega) okt (by omega)
 obtain ⟨n,hat,hn255⟩:=UF code hl hw
 have hwl:IntKind.wrap .i64 ((l.length:Int) + 1)=(l.length:Int) + 1:=aA (by omega) (by omega)
 have t1:=Int.tmod_nonneg ((l.length:Int) + 1) (show (0:Int)≤(n:Int) by omega)
 have t2:=Int.tmod_lt_of_pos (n:Int) (show (0:Int) < (l.length:Int) + 1 by omega)
 obtain ⟨k,hk⟩:=Int.eq_ofNat_of_zero_le t1
 have hkl:k≤l.length:=by omega
 have e1:(List.drop (0:Int).toNat (List.take k l))=l.take k:=rfl
 have e2:(List.drop k (List.take l.length l))=l.drop k:=by rw [List.take_length]
 have ok1:okD (.slice bm) (l.take k):=⟨by have:=okl.1;rw [List.length_take];omega,fun x hx=>okl.2 x (List.mem_of_mem_take hx)⟩
 have ok2:okD (.slice bm) (l.drop k):=⟨by have:=okl.1;rw [List.length_drop];omega,fun x hx=>okl.2 x (List.mem_of_mem_drop hx)⟩
 have j1:(l.take k).length≤7:=by rw [List.length_take];omega
 have j2:(l.drop k).length≤7:=by rw [List.length_drop];omega
 obtain ⟨_,x1,okx,_,_,⟨x2,x3⟩,x4,x5,x6⟩:=El g (l.take k) okg ok1 7 j1 (by omega) (by omega) (by omega)
 rw [List.take_of_length_le (show (l.take k).length≤12 by omega)] at x1 okx x2 x3 x4 x5 x6
 rw [List.take_of_length_le (show l.length≤12 by omega)] at p1 okp gp kp n0 n1
 obtain ⟨_,y1,_,_,_,⟨y2,y3⟩,_,_,_⟩:=El (cp (l.take k) (0,g)).2 (l.drop k) okx ok2 7 j2 (by omega) (by omega) (by omega)
 rw [List.take_of_length_le (show (l.drop k).length≤12 by omega)] at y1 y2 y3
 have fin:cp l (0,g)=((cp (l.take k) (0,g)).1 + (cp (l.drop k) (0,(cp (l.take k) (0,g)).2)).1,(cp (l.drop k) (0,(cp (l.take k) (0,g)).2)).2):=by
  have:=Ek (l.take k) (l.drop k) (0,g)
  rw [List.take_append_drop] at this
  rw [this]
  exact Af (l.drop k) (cp (l.take k) (0,g)).1 (cp (l.take k) (0,g)).2
 generalize cp (l.take k) (0,g)=xa at *
 generalize cp (l.drop k) (0,xa.2)=xb at *
 rw [fin] at p1 okp gp kp n0 n1
 simp only at p1 okp gp kp n0 n1
 have hg:=M4 (xb.2,xa.1 + xb.1,()) okp.2.2.2.1.1 (fun t ht=>by
  obtain ⟨_,⟨q,hq,hq'⟩,_⟩:=gp
  rw [a1,List.nil_append] at hq
  have ht:t∈xb.2.2.2.2.1:=ht
  rw [hq] at ht
  exact hq' t ht)
 have g3:=(Jq xb.2 okp).2
 rw [kp gk] at g3
 have d1:decide (xa.1 + xb.1 > (l.length:Int))=false:=decide_eq_false (by omega)
 have d2:decide (xb.2.1.2.2.2.1≥g.1.2.2.2.1)=true:=decide_eq_true gp.2.2.2.2
 have d3:IntKind.wrap .i64 (xa.1 + xb.1)=xa.1 + xb.1:=aA (by omega) (by omega)
 have k1:(0:Int)≤(k:Int):=by omega
 have k2:(k:Int)≤(l.length:Int):=by omega
 have k3:¬ ((l.length:Int) + 1=0):=by omega
 rw [decide_eq_false hb]
 simp only [Option.bind_some,cond_false,cond_true,hp,p1,hq,v1,v2,hn,hat,hwl,hk,k1,k2,k3,if_false,if_true,Int.le_refl,Int.toNat_natCast,e1,e2,x1,y1,w1,w2,pp _ _ okw,pp _ _ okn,pp _ _ okp,yY (t:=aK) rfl,bne_self_eq_false,Bool.not_true,List.length_nil,g3,d1,hg,d2,d3,beq_self_eq_true]
 rfl
end Go.Abs
