/- Part of a proof of FnOrders: see the row. -/
import Derived.Test.YtenadnbpibhmiaaGreatOrPureORp2
set_option linter.unusedVariables false
set_option linter.unusedSimpArgs false
namespace Go.Abs
theorem Qr (s:ac.D) (xs:List aa.D) (l:List Int) (hp:s.1.length≤33554432) (hs:s.2.1.length≤33554432) (ok:okD (.slice aa) xs) (hll:l.length≤33554432) :
  ra s xs l=some (s,xs,l,[],[],[],())∧okD aC (s,xs,l,[],[],[],()):=by
 refine ⟨?_,No hp hs,ok,⟨hll,fun x _=>fL _ rfl x⟩,Qq,Qq,Qq,trivial⟩
 unfold ra
 simp only [gc s hp hs,ce xs ok,Option.bind_some,List.nil_append]
 rw [if_pos (by simp only [aG,List.length_nil];omega)]
theorem RI (c:aj.D) (h:aY c):Tot (t6 c) (fun y=>aY y.2.1∧okD aC y.1∧y.1.2.2.2.1=[]∧y.1.2.2.2.2.1=[]∧y.1.2.2.2.2.2.1=[]):=by
 unfold t6
 refine Tot.bind (LN _ h) ?_
 rintro y1 ⟨h1,_,e1,e2⟩
 refine Tot.bind (JR _ _ h1) ?_
 rintro y2 ⟨h2,g2,_⟩
 refine Tot.bind (BI _ h2) ?_
 rintro y3 ⟨h3,e3⟩
 refine Tot.bind (BI _ h3) ?_
 rintro y4 ⟨h4,e4⟩
 rw [if_pos (by simp only [aG];omega)]
 obtain ⟨g,ok⟩:=Qr y1.1 y2.1 (y3.1++y4.1) (by omega) (by omega) g2 (by rw [List.length_append];omega)
 rw [g,Option.bind_some]
 exact Tot.pure ⟨h4,ok,rfl,rfl,rfl⟩
theorem Gv (c:aj.D) (g:aC.D) (h:aY c) (okg:okD aC g):Tot (j8 c g) (fun y=>aY y.2.1∧okD bi y.1∧y.1.2.2.2.1.length≤3):=by
 unfold j8
 refine Tot.bind (bh _ _ h (by decide)) ?_
 rintro y1 ⟨h1,_⟩
 refine Tot.bif (fun _=>?_) (fun _=>Tot.bif (fun _=>?_) (fun _=>Tot.bif (fun _=>?_) (fun _=>Tot.pure ⟨h1,uJ (Nat.zero_le _) (Nat.zero_le _),Nat.zero_le _⟩)))
 ·refine Tot.bind (aN _ _ h1) ?_
  rintro y2 ⟨h2,_⟩
  refine Tot.bind (lB _ _ _ h2) ?_
  rintro y3 ⟨h3,e3⟩
  exact Tot.pure ⟨h3,uJ (by omega) (Nat.zero_le _),Nat.zero_le _⟩
 ·refine Tot.bind (aN _ _ h1) ?_
  rintro y4 ⟨h4,_⟩
  exact Tot.pure ⟨h4,uJ (Nat.zero_le _) (Nat.zero_le _),Nat.zero_le _⟩
 ·refine Tot.bind (Pk _ _ _ h1 okg.1.1.1 okg.1.2.1.1 okg.2.1) ?_
  rintro y5 ⟨h5,e5⟩
  exact Tot.pure ⟨h5,uJ (Nat.zero_le _) (by omega),e5⟩
theorem Np (c:aj.D) (g:aC.D) (n:Int) (N:Nat) (h:aY c) (okg:okD aC g) (h0:0 < n) (hN:n≤N) (h9:N≤9) (q1:g.2.2.2.1.length + 600000 * N≤33554432) (q2:g.2.2.2.2.1.length + 600000 * N≤33554432) (q3:g.2.2.2.2.2.1.length + 600000 * N≤33554432) :
  Tot (mL c g n) (fun y=>aY y.2.1∧okD (.slice bi) y.1∧y.1.length≤N):=by
 unfold mL
 refine Tot.bind (aN _ _ h) ?_
 rintro ⟨i,c1,u1⟩ ⟨h1,a1,b1⟩
 have b1:=b1 h0
 simp only at h1 a1 b1 ⊢
 rw [aD (n:=1 + i) (by omega) (by omega)]
 refine Tot.bind (P:=fun o=>aY o.2.2.1∧(∀ x∈o.1,okD bi x)∧o.1.length≤N)
  (Tot.while (fun s=>aY s.2.2.1∧(∀ x∈s.1,okD bi x)∧okD aC s.2.2.2∧0≤s.2.1∧(s.1.length:Int) + s.2.1≤N∧s.2.2.2.2.2.2.1.length + 600000 * s.2.1.toNat≤33554432∧s.2.2.2.2.2.2.2.1.length + 600000 * s.2.1.toNat≤33554432∧s.2.2.2.2.2.2.2.2.1.length + 600000 * s.2.1.toNat≤33554432) (fun s=>s.2.1.toNat) ?_ ⟨h1,(fun x hx=>by cases hx),okg,by simp only;omega,by simp only [List.length_nil];omega,by simp only;omega,by simp only;omega,by simp only;omega⟩) ?_
 ·rintro ⟨l,i,cc,g⟩ ⟨k1,k2,k3,k4,k5,k6,k7,k8⟩
  simp only at k1 k2 k3 k4 k5 k6 k7 k8
  unfold uk
  simp only
  refine Tot.bif (fun hi=>?_) (fun _=>Tot.pure ⟨k1,k2,by simp only;omega⟩)
  have hi:i > 0:=of_decide_eq_true hi
  refine Tot.bind (Gv _ _ k1 k3) ?_
  rintro y5 ⟨h5,ok5,_⟩
  obtain ⟨r,r1,_,okr,⟨z1,z2,z3⟩,_⟩:=CG g y5.1 k3 ok5 (by omega) (by omega) (by omega)
  rw [r1,Option.bind_some,if_pos (by simp only [aG,List.length_cons,List.length_nil];omega)]
  have hw:IntKind.wrap .i64 (i - 1)=i - 1:=aD (by omega) (by omega)
  refine Tot.pure ⟨⟨h5,fun x hx=>?_,okr,?_,?_,?_,?_,?_⟩,?_⟩
  ·rcases List.mem_append.1 hx with hx | hx
   ·exact k2 x hx
   ·rw [List.mem_singleton.1 hx];exact ok5
  all_goals simp only [List.length_append,List.length_cons,List.length_nil,hw] <;> omega
 ·rintro o ⟨k1,k2,k3⟩
  have k4:o.1.length≤33554432:=by omega
  exact Tot.pure ⟨k1,⟨k4,k2⟩,k3⟩
theorem Qs (c:aj.D) (s:ac.D) (h:aY c) (h1:s.1.length≤33554432) (h2:s.2.1.length≤33554432):Tot (rl c s) (fun y=>aY y.2.1∧okD aA y.1):=by
 unfold rl
 refine Tot.bind (aN _ _ h) ?_
 rintro y1 ⟨g1,_⟩
 refine Tot.bind (lB _ _ _ g1) ?_
 rintro y2 ⟨g2,e2⟩
 refine Tot.bind (Gu _ _ _ g2 h1 h2 ⟨by simp,fun x hx=>by rw [List.mem_singleton.1 hx];exact kx _ (by omega)⟩) ?_
 rintro y3 ⟨g3,_⟩
 obtain ⟨ch,c1,_⟩:=JG s y3.1 h1
 rw [c1,Option.bind_some]
 refine Tot.bind (aN _ _ g3) ?_
 rintro y5 ⟨g5,_⟩
 obtain ⟨L,sn,y,_,d2,⟨_,d4,_⟩,_⟩:=OY y2.1 y3.1 (by omega)
 rw [d2,Option.bind_some]
 refine Tot.bind (aN _ _ g5) ?_
 rintro y7 ⟨g7,_⟩
 refine Tot.bind (aN _ _ g7) ?_
 rintro y8 ⟨g8,_⟩
 have d5:L.length≤33554432:=by omega
 refine Tot.bif (fun _=>?_) (fun _=>Tot.bif (fun _=>?_) (fun _=>Tot.bif (fun _=>Tot.pure ⟨g8,xe _ d5⟩) (fun _=>Tot.bif (fun _=>?_) (fun _=>Tot.bif (fun _=>?_) (fun _=>Tot.bif (fun _=>?_) (fun _=>Tot.bif (fun _=>?_) (fun _=>Tot.pure ⟨g8,xe _ d5⟩)))))))
 ·(refine Tot.bind (bh _ _ g8 (by decide)) ?_;rintro z ⟨hz,_⟩;exact Tot.pure ⟨hz,xe _ d5⟩)
 ·(refine Tot.bind (bh _ _ g8 (by decide)) ?_;rintro z ⟨hz,_⟩;exact Tot.pure ⟨hz,xe _ d5⟩)
 ·(refine Tot.bind (bh _ _ g8 (by decide)) ?_;rintro z ⟨hz,_⟩;exact Tot.pure ⟨hz,xe _ d5⟩)
 ·refine Tot.bind (JQ _ _ g8) ?_
  rintro z ⟨hz,_⟩
  simp only
  rw [if_pos (by simp only [aG,List.length_cons,List.length_nil];omega)]
  refine Tot.pure ⟨hz,xe _ ?_⟩
  show (L++[z.1]).length≤33554432
  simp only [List.length_append,List.length_cons,List.length_nil];omega
 ·(refine Tot.bind (nB _ g8) ?_;rintro z ⟨hz,_⟩;exact Tot.pure ⟨hz,xe _ d5⟩)
 ·(refine Tot.bind (bh _ _ g8 (by decide)) ?_;rintro z ⟨hz,_⟩;exact Tot.pure ⟨hz,xe _ d5⟩)
theorem FS (c:aj.D) (h:aY c):Tot (lO c) (fun y=>aY y.2.1∧okD aC y.1∧y.1.2.2.2.1.length≤1800001∧y.1.2.2.2.2.1.length≤1800001∧y.1.2.2.2.2.2.1.length≤1800001):=by
 unfold lO
 refine Tot.bind (RI _ h) ?_
 rintro y1 ⟨h1,ok1,e1,e2,e3⟩
 have e1:y1.1.2.2.2.1.length=0:=by rw [e1];rfl
 have e2:y1.1.2.2.2.2.1.length=0:=by rw [e2];rfl
 have e3:y1.1.2.2.2.2.2.1.length=0:=by rw [e3];rfl
 refine Tot.bind (Np _ _ 3 3 h1 ok1 (by decide) (by decide) (by decide) (by omega) (by omega) (by omega)) ?_
 rintro y2 ⟨h2,ok2,l2⟩
 obtain ⟨p1,_,okp,_,_,_,z1,z2,z3⟩:=TX y1.1 y2.1 ok1 ok2 3 l2 (by omega) (by omega) (by omega)
 rw [p1,Option.bind_some]
 generalize fF (y2.1.take 12) (0,y1.1)=p at okp z1 z2 z3
 obtain ⟨n,g⟩:=p
 simp only at okp z1 z2 z3 ⊢
 refine Tot.bind (aN _ _ h2) ?_
 rintro y4 ⟨h4,_⟩
 refine Tot.bif (fun _=>?_) (fun _=>Tot.bif (fun _=>?_) (fun _=>Tot.bif (fun _=>?_) (fun _=>Tot.bif (fun _=>Tot.pure ⟨h4,⟨No okp.1.1.1 okp.1.2.1.1,okp.2⟩,by simp only;omega,by simp only;omega,by simp only;omega⟩) (fun _=>Tot.pure ⟨h4,okp,by simp only;omega,by simp only;omega,by simp only;omega⟩))))
 ·refine Tot.bind (S8 _ h4) ?_
  rintro y5 ⟨h5,a1,a2⟩
  exact Tot.pure ⟨h5,⟨No (s:=y5.1) (by omega) (by omega),okp.2⟩,by simp only;omega,by simp only;omega,by simp only;omega⟩
 ·refine Tot.bind (RH _ _ h4) ?_
  rintro y6 ⟨h6,a1,_⟩
  exact Tot.pure ⟨h6,⟨okp.1,a1,okp.2.2⟩,by simp only;omega,by simp only;omega,by simp only;omega⟩
 ·refine Tot.bind (Qs _ _ h4 okp.1.1.1 okp.1.2.1.1) ?_
  rintro y7 ⟨h7,a1⟩
  rw [if_pos (by simp only [aG,List.length_cons,List.length_nil];omega)]
  have hl:(g.2.2.2.2.2.1++[y7.1]).length≤1800001:=by simp only [List.length_append,List.length_cons,List.length_nil];omega
  refine Tot.pure ⟨h7,⟨okp.1,okp.2.1,okp.2.2.1,okp.2.2.2.1,okp.2.2.2.2.1,⟨by show (g.2.2.2.2.2.1++[y7.1]).length≤33554432;omega,fun x hx=>?_⟩,trivial⟩,by simp only;omega,by simp only;omega,hl⟩
  rcases List.mem_append.1 hx with hx | hx
  ·exact okp.2.2.2.2.2.1.2 x hx
  ·rw [List.mem_singleton.1 hx];exact a1
theorem JS (code:List Int) (hl:code.length≤33554432):Tot (jy code) (fun y=>okD aC y.1∧okD bi y.2.1∧y.1.2.2.2.1.length≤1800001∧y.1.2.2.2.2.1.length≤1800001∧y.1.2.2.2.2.2.1.length≤1800001):=by
 unfold jy
 refine Tot.bind (Pi code hl) ?_
 rintro c hc
 refine Tot.bind (FS _ hc) ?_
 rintro y2 ⟨h2,ok2,a1,a2,a3⟩
 refine Tot.bind (Gv _ _ h2 ok2) ?_
 rintro ⟨⟨k3,x3,n3,es3,u3⟩,c3⟩ ⟨h3,ok3,e3⟩
 refine Tot.bind (aN _ _ h3) ?_
 rintro y4 ⟨h4,_⟩
 obtain ⟨_,o1,_,o2,_⟩:=ok3
 simp only at e3 o1 o2 ⊢
 have o1:=o1.2.2.2.2.2.2.1.2.2.2.2.2.2.1.1
 have o2:=o2.1
 refine Tot.bind (P:=fun o=>okD bi o.2) (Tot.bif (fun _=>?_) (fun _=>?_)) ?_
 ·refine Tot.bind (aN _ _ h4) ?_
  rintro y5 _
  exact Tot.pure (uJ o1 o2)
 ·refine Tot.bind (P:=fun o=>okD bi o.2) (Tot.bif (fun _=>?_) (fun _=>?_)) ?_
  ·refine Tot.bind (JQ _ _ h4) ?_
   rintro y6 _
   rw [if_pos (by simp only [aG,List.length_cons,List.length_nil];omega)]
   exact Tot.pure (uJ o1 (by simp only [List.length_append,List.length_cons,List.length_nil];omega))
  ·refine Tot.bind (P:=fun o=>okD bi o.2) (Tot.bif (fun _=>?_) (fun _=>?_)) ?_
   ·refine Tot.bind (FR _ _ h4) ?_
    rintro y7 ⟨_,e7⟩
    exact Tot.pure (uJ (by omega) o2)
   ·exact Tot.pure (uJ o1 o2)
   ·rintro o ho
    exact Tot.pure ho
  ·rintro o ho
   exact Tot.pure ho
 rintro o ho
 exact Tot.pure ⟨ok2,ho,a1,a2,a3⟩
theorem Hn (code:List Int) (hl:code.length≤33554432):Tot (iN code) (fun y=>okD aC y.1):=by
 unfold iN
 refine Tot.bind (Pi code hl) ?_
 rintro c hc
 refine Tot.bind (FS _ hc) ?_
 rintro y2 ⟨h2,ok2,a1,a2,a3⟩
 refine Tot.bind (cH _ _ h2) ?_
 rintro y3 ⟨h3,_⟩
 refine Tot.bif (fun _=>?_) (fun _=>?_)
 ·rw [nA y2.1 ok2,Option.bind_some]
  exact Tot.pure ok2
 rw [nA y2.1 ok2,Option.bind_some]
 refine Tot.bind (aN _ _ h3) ?_
 rintro y6 ⟨h6,_⟩
 have hc3:y2.1.2.2.1.length≤33554432:=ok2.2.2.1.1
 refine Tot.bind (P:=fun o=>match o with | .inl _=>True | .inr r=>okD aC r.1) (Tot.bif (fun _=>Tot.pure trivial) (fun _=>Tot.bind (P:=fun o=>match o with | .inl _=>True | .inr r=>okD aC r.1) (Tot.bif (fun _=>?_) (fun _=>Tot.bif (fun _=>?_) (fun _=>?_))) ?_)) ?_
 ·rw [if_pos (by simp only [aG,List.length_cons,List.length_nil];omega)]
  exact Tot.pure trivial
 ·rw [if_pos (by simp only [aG,List.length_cons,List.length_nil];omega)]
  exact Tot.pure trivial
 ·refine Tot.bind (FS _ h6) ?_
  rintro y7 _
  exact Tot.pure ok2
 ·rintro (o | o) ho
  ·exact Tot.pure trivial
  ·exact Tot.pure ho
 ·rintro (o | o) ho
  ·exact Tot.pure ok2
  ·exact Tot.pure ho
theorem law_FnOrders (code:List Int) (w:(Ty.slice (.int .u8)).wf code):vh code=some true:=by
 unfold vh Ii
 by_cases hb:(code.length:Int) > 1048576
 ·rw [decide_eq_true hb];rfl
 have hl:code.length≤33554432:=by omega
 obtain ⟨⟨g,o,u1⟩,hp,okg,oko,q1,q2,q3⟩:=JS code hl
 obtain ⟨⟨a,b,u2⟩,hq,oka⟩:=Hn code hl
 simp only at okg oko q1 q2 q3 oka
 obtain ⟨r,r1,r2,okr,_,gr,f0,f1⟩:=CG g o okg oko (by omega) (by omega) (by omega)
 obtain ⟨g1,g2⟩:=CF g okg
 have g3:=(CF r.1 okr).2
 rw [decide_eq_false hb]
 simp only [Option.bind_some,cond_false,hp,r1,r2,hq,bne_self_eq_false,v9 _ _ okr,mn (t:=aC) rfl,Bool.not_true,v9 _ _ oka,FP _ _ oka,g1,g2,g3]
 cases hr:r.2.1 with
 | false =>
  rw [f0 hr,mn (t:=aC) rfl];rfl
 | true =>
  obtain ⟨go,qu⟩:=f1 hr
  obtain ⟨k1,⟨q,k2,_⟩,⟨p,k3⟩,⟨t,k4,_⟩,_⟩:=gr
  have c1:g.2.2.1.length≤33554432:=okg.2.2.1.1
  have c2:g.2.2.2.1.length≤33554432:=okg.2.2.2.1.1
  have c3:g.2.2.2.2.1.length≤33554432:=okg.2.2.2.2.1.1
  have e2:=TQ g.2.2.1 r.1.2.2.1 k1 c1
  have t1:(r.1.2.2.2.2.1.take (g.2.2.2.2.1.length:Int).toNat).drop (0:Int).toNat=g.2.2.2.2.1:=by rw [k3];simp
  have t2:(r.1.2.2.2.1.take (g.2.2.2.1.length:Int).toNat).drop (0:Int).toNat=g.2.2.2.1:=by rw [k2];simp
  have l1:(g.2.2.2.2.1.length:Int)≤(r.1.2.2.2.2.1.length:Int):=by rw [k3,List.length_append];omega
  have l2:(g.2.2.2.1.length:Int)≤(r.1.2.2.2.1.length:Int):=by rw [k2,List.length_append];omega
  have l3:decide ((r.1.2.2.2.2.2.1.length:Int)≥(g.2.2.2.2.2.1.length:Int))=true:=decide_eq_true (by rw [k4,List.length_append];omega)
  have p1:(0:Int)≤(g.2.2.2.2.1.length:Int):=by omega
  have p2:(0:Int)≤(g.2.2.2.1.length:Int):=by omega
  simp only [Bool.not_true,cond_false,cond_true,go,e2,t1,t2,l1,l2,l3,p1,p2,Int.le_refl,if_true,Option.bind_some,uG g.2.2.2.2.1 g.2.2.2.2.1 c3,qn g.2.2.2.1 g.2.2.2.1 c2,mn (t:=.slice aq) rfl,mn (t:=.slice ah) rfl]
  cases h3:(o.1 != 3) with
  | true=>rfl
  | false =>
   have h3:(o.1:Int)=3:=by simpa using h3
   unfold Cx
   simp only [cond_false,gp r.1.1 okr.1.1.1 okr.1.2.1.1,Option.bind_some,qu h3]
   rfl
end Go.Abs
