/- Part of a proof of FnExactPlay: see the row. -/
import Derived.Test.YtenadnbpibhmiaaGreatPlAbsOps4
import Derived.Laws.Tables
set_option linter.unusedVariables false
set_option linter.unusedSimpArgs false
namespace Go.Abs
open Go.RowKit
section
variable {P:Program} {σ:Hd→aS} {Imm:Nat→Prop} {w:World}
theorem LR.one {l:Leaf} {v:Value} (h:LR P σ Imm w l v):v.oneCell'=true:=by
 cases l with
 | undef=>exact h
 | int k n=>have h:v=_:=h;subst h;rfl
 | bool b=>have h:v=_:=h;subst h;rfl
 | hd b=>have h:v=_:=h;subst h;rfl
 | nil=>have h:v=_:=h;subst h;rfl
 | view t xs=>obtain ⟨a,cap,e,_⟩:=h;simp only [List.cons.injEq,and_true] at e;subst e;rfl
 | viewN t xs=>obtain ⟨⟨a,cap,e,_⟩,_⟩:=h;simp only [List.cons.injEq,and_true] at e;subst e;rfl
 | own o=>exact h.2
 | part o n lo hi=>obtain ⟨a,len,cap,_,_,_,e⟩:=h;subst e;rfl
 | box o off=>have h:v=_:=h;subst h;rfl
 | elem o n i off=>have h:v=_:=h;subst h;rfl
 | vis t x off=>obtain ⟨b,p,cs,e,_⟩:=h;subst e;rfl
 | fn f caps=>have h:v=_:=h;subst h;rfl
 | fnd a r p=>obtain ⟨f,caps,e,_⟩:=h;simp only [List.cons.injEq,and_true] at e;subst e;rfl
theorem LRs.ones:∀ {ls:List Leaf} {vs:List Value},LRs P σ Imm w ls vs→∀ v∈vs,v.oneCell'=true
 | [],_,h,v,hv=>by cases h;cases hv
 | _ :: _,_,⟨u,r,e,h1,h⟩,v,hv=>by
  cases e
  rcases List.mem_cons.1 hv with rfl | hv
  ·exact h1.one
  ·exact h.ones v hv
theorem MM {v:Value} (h:v.oneCell'=true):v.cells=#[v]:=by
 cases v <;> first | rfl | (simp [Value.oneCell'] at h)
theorem sN {R:Type} {r:R} {v:AV} {κ:List Leaf→Option R} {u:Value} (hv:AVR P σ Imm w v u) (h:vq v κ=some r) :
  ∃ ls us,κ ls=some r∧u.cells=us.toArray∧LRs P σ Imm w ls us∧aN ls=v.hds:=by
 cases v with
 | any=>cases h
 | skip=>cases h
 | leaf l=>exact ⟨[l],[u],h,by rw [MM (LR.one hv)],⟨u,[],rfl,hv,rfl⟩,by simp [aN,AV.hds]⟩
 | agg ls =>
  obtain ⟨us,e,hr⟩:=hv
  exact ⟨ls,us,h,by rw [e];rfl,hr,rfl⟩
 | tup _=>cases h
theorem Il (cs:List Value) (off:Nat):∀ (k:Nat) (arr:Array Value),((cs.zipIdx k).foldl (fun (a:Array Value) (x:Value×Nat)=>a.setIfInBounds (off + x.2) x.1) arr)=(aW arr.toList (off + k) cs).toArray:=by
 induction cs with
 | nil=>intro k arr;simp [aW]
 | cons c cs ih =>
  intro k arr
  simp only [List.zipIdx_cons,List.foldl_cons]
  rw [ih]
  simp [aW,Nat.add_assoc]
theorem Im {R:Type} {r:R} {T:Tab} (hT:fU P T) {M:Nat→Prop} {w0:World} {st:St} {a:Act} (R0:Rel P M w0 σ Imm st a w) {F:List Field} {fs:List (Nat×Nat)} (hfs:F.map (fun f=>(f.offset,f.type))=fs) :
  ∀ {parts:List (Nat×Operand)} {cs:List Leaf} {us:List Value} {κ:List Leaf→Option R},Cr T fs st parts cs κ=some r→LRs P σ Imm w cs us→aK st.h (aN cs) →
  ∃ ls vs,κ ls=some r∧Instr.fill ((F.map fun f=>(f.offset,P.cellsOf f.type)).toArray[·]?) us.toArray (parts.map fun x=>(x.1,a.eval x.2))=some vs.toArray∧LRs P σ Imm w ls vs∧aK st.h (aN ls)
 | [],cs,us,κ,h,hr,hc=>⟨cs,us,h,rfl,hr,hc⟩
 | (i,x) :: parts,cs,us,κ,h,hr,hc=>by
  unfold Cr at h
  split at h
  ·rename_i off t hf
   split at h
   ·rename_i te hte
    obtain ⟨ls,vs,h1,h2,h3,h4⟩:=sN (R0.av x) h
    split at h1
    ·rename_i hn
     have hn:=Nat.eq_of_beq_eq_true hn
     obtain ⟨h5,h6⟩:=vB h1
     have hlen:=h3.length
     have hlen2:=hr.length
     rw [← hfs,List.getElem?_map] at hf
     cases hx:F[i]? with
     | none=>rw [hx] at hf;simp at hf
     | some fl =>
      rw [hx] at hf
      simp only [Option.map_some,Option.some.injEq,Prod.mk.injEq] at hf
      obtain ⟨rfl,rfl⟩:=hf
      obtain ⟨inf,z,hi,hs,_⟩:=(hT _ _ hte).info
      have hcl:aK st.h (aN (aW cs fl.offset ls)):=fun q hq=>by
       rcases Nq hq with hq | hq
       ·exact hc q hq
       ·rw [h4] at hq;exact R0.vc x q hq
      obtain ⟨ls',vs',k1,k2,k3,k4⟩:=Im hT R0 hfs h6 (hr.seg fl.offset h3) hcl
      refine ⟨ls',vs',k1,?_,k3,k4⟩
      have hplace:(F.map fun f=>(f.offset,P.cellsOf f.type)).toArray[i]?=some (fl.offset,te.n):=by
       simp [hx,Program.cellsOf,hi,hs]
      have hfold:(a.eval x).cells.zipIdx.foldl (fun (cs:Array Value) (x:Value×Nat)=>cs.setIfInBounds (fl.offset + x.2) x.1) us.toArray=(aW us fl.offset vs).toArray:=by
       rw [h2,← Array.foldl_toList]
       simpa using Il vs fl.offset 0 us.toArray
      have hc1:(a.eval x).cells.size=te.n:=by rw [h2];simp;omega
      have hc2:¬ (fl.offset + te.n > us.length):=by omega
      simp only [List.map_cons,Instr.fill,hplace,hc1]
      simp only [ne_eq,not_true_eq_false,decide_false,List.size_toArray,Bool.false_or,decide_eq_true_eq,hc2,if_false]
      exact hfold ▸ k2
    ·cases h1
   ·cases h
  ·cases h
end
section
variable {P:Program} {M:Nat→Prop} {w0:World} {σ:Hd→aS} {Imm:Nat→Prop} {st:St} {a:Act} {w:World} {o:Oper} {E:Env}
theorem O6 {F:List Field} (h:∀ f∈F,∃ i,P.info? f.type=some i∧i.size≠0) :
  F.mapM (fun f=>(P.info? f.type).map fun i=>(f.offset,i.size))=some (F.map fun f=>(f.offset,P.cellsOf f.type)):=by
 induction F with
 | nil=>rfl
 | cons f F ih =>
  obtain ⟨i,hi,_⟩:=h f (by simp)
  rw [List.mapM_cons,ih fun g hg=>h g (by simp [hg])]
  simp [hi,Program.cellsOf]
theorem S2 {R:Type} {r:R} {t:Nat} {parts:Array (Nat×Operand)} {ti:TI} {fs:List (Nat×Nat)} {κ:Dl→Option R} (R0:Rel P M w0 σ Imm st a w) (hd:∀ i,o.dst=some i→i < st.t.length) (hT:fU P E.T)
  (ho:o.op=.build t parts) (hl:iu E.T t=some ti) (hk:ti.k=.struct fs) (h:(Cr E.T fs st parts.toList ti.zero fun cs=>κ { v:=.agg cs })=some r) :
  ∃ δ,κ δ=some r∧aU P M w0 o st a w σ Imm δ:=by
 obtain ⟨i,z,hi,hn,hz,hz2,hz3⟩:=(hT t ti hl).info
 have hkk:=(hT t ti hl).k
 rw [hk] at hkk
 obtain ⟨F,hu,hF,hs,_⟩:=hkk
 have hzr:LRs P σ Imm w ti.zero z.cells.toList:=by rw [← hz2];exact eM _ hz3
 obtain ⟨ls,vs,h1,h2,h3,h4⟩:=Im hT R0 hF h hzr (by rw [← hz2,lM];exact aA)
 refine ⟨_,h1,aU.value R0 hd (v:=.agg vs.toArray) ?_ ⟨vs,rfl,h3⟩ h4 aA⟩
 have hb:P.built t (parts.map fun (i,x)=>(i,a.eval x)).toList=some vs.toArray:=by
  unfold Program.built
  simp only [hi,hu,hz,O6 hs]
  simpa using h2
 have:=run_build w t (parts.map fun (i,x)=>(i,a.eval x)) vs.toArray hb
 simp only [execOp,ho,Sem.run_bind,this,Result.andThen_ok]
 simp
theorem EC (h:List (List aw)) (q:Hd) (x:aw) (d:Nat):(bx (rs h q x) d).length=(bx h d).length:=by
 unfold rs
 rw [CA]
 split
 ·rename_i e;rw [← e.1];simp
 ·rfl
theorem sO (ws:List (Hd×aw)):∀ (h:List (List aw)) (d:Nat),(bx (bf ws h) d).length=(bx h d).length:=by
 induction ws with
 | nil=>intro h d;rfl
 | cons x r ih=>obtain ⟨q,x⟩:=x;intro h d;show (bx (bf r (rs h q x)) d).length=_;rw [ih,EC]
theorem CB {h:List (List aw)} {d:Nat} {new:List aw} (hl:d < h.length) (q:Hd):aj (h.set d new) q=if d=q.1 then gn new q.2 else aj h q:=by
 unfold aj
 rw [CA]
 by_cases e:d=q.1
 ·simp [e,e ▸ hl]
 ·simp [e]
theorem ul {h:List (List aw)} {d:Nat} (hn:bx h d=[]) (j:Nat):aj h (d,j)=.none:=by
 unfold aj
 rw [hn]
 rfl
theorem In {d:Nat} {x:AV} {rd:List Hd} {ws:List (Hd×aw)} {n0:aw} {new:List aw} {st':St} (h:jv (some d) { v:=x,rd,wr:=ws,new:=n0 :: new } st=some st') :
  st'.t=Gw st.t (some d) x∧st'.h=(bf ws st.h).set d (n0 :: new)∧bx st.h d=[]:=by
 simp only [jv] at h
 split at h
 ·rename_i hn
  simp only [Option.some.injEq] at h
  subst h
  refine ⟨rfl,rfl,?_⟩
  have:=sO ws st.h d
  rw [hn] at this
  exact List.eq_nil_of_length_eq_zero this.symm
 ·cases h
theorem Rel.make (R:Rel P M w0 σ Imm st a w) {d:Nat} (hd:d < st.t.length) {x:AV} {rd:List Hd} {ws:List (Hd×aw)} {n0:aw} {new:List aw} {st':St}
  (hs:jv (some d) { v:=x,rd,wr:=ws,new:=n0 :: new } st=some st') (hws:∀ q y,(q,y)∈ws→y=.dead∧(aj st.h q).live=true∧(aj st.h q).ro=false) (hnd:(aq ws).Nodup)
  {v:Value} {Imm':Nat→Prop} {w':World} (φ:Nat→aS) (σ':Hd→aS) (hσ:∀ q,σ' q=if d=q.1 then φ q.2 else σ q)
  (hK:bg M w0 w') (hsz:w.heap.size≤w'.heap.size)
  (hI1:∀ b,Imm b→Imm' b) (hI2:∀ b,Imm' b→b < w'.heap.size) (hI3:∀ b,b < w.heap.size→Imm' b→Imm b)
  (hb:∀ b,b < w.heap.size→(∀ q∈aq ws,b ∉ (σ q).fp)→w'.heap[b]?=w.heap[b]?)
  (hv:AVR P σ' Imm' w' x v) (hvc:∀ q∈x.hds,(aj st.h q).there=true∨(q.1=d∧(gn (n0 :: new) q.2).there=true))
  (ho:∀ j,ObR P σ' Imm' w' (d,j) (gn (n0 :: new) j))
  (hoc:∀ j ro ls,gn (n0 :: new) j=.box ro ls→aK st.h (aN ls))
  (hn:∀ j,(gn (n0 :: new) j).live=true→(φ j).fp.Nodup∧∀ b∈(φ j).fp,¬ Imm' b∧(w.heap.size≤b∨∃ q∈aq ws,b∈(σ q).fp))
  (hj:∀ i j,i≠j→(gn (n0 :: new) i).live=true→(gn (n0 :: new) j).live=true→∀ b∈(φ i).fp,b ∉ (φ j).fp) :
  Rel P M w0 σ' Imm' st' (a.put (some d) v) w'∧Evo st st' σ σ' Imm Imm' w w':=by
 obtain ⟨e1,e2,e3⟩:=In hs
 have hdl:d < st.h.length:=by rw [R.hlen];exact hd
 have hlen:d < (bf ws st.h).length:=by rw [bT];exact hdl
 have hsl:∀ q,(aj st.h q).live=true→(aj st.h q).there=true:=by intro q;cases aj st.h q <;> simp [aw.live,aw.there]
 have hset:=rt ws st.h hnd (fun q y hq=>⟨hsl q (hws q y hq).2.1,by rw [(hws q y hq).1];rfl⟩)
 have hnot:∀ q:Hd,(aj st.h q).there=true→d≠q.1:=by
  rintro ⟨q1,q2⟩ hq rfl
  rw [ul e3] at hq
  cases hq
 have hget:∀ q,aj st'.h q=if d=q.1 then gn (n0 :: new) q.2 else aj (bf ws st.h) q:=by intro q;rw [e2];exact CB hlen q
 have hlt:∀ q,(aj st.h q).live=true→∀ b∈(σ q).fp,b < w.heap.size:=by
  intro q hq b hb
  have:=R.ob q
  cases hx:aj st.h q with
  | none=>rw [hx] at hq;cases hq
  | dead=>rw [hx] at hq;cases hq
  | box ro ls=>rw [hx] at this;obtain ⟨c,ty,h1,_,h3⟩:=this;rw [h3] at hb;simp at hb;subst hb;exact (Array.getElem?_eq_some_iff.1 h1).1
  | arr ro t xs=>rw [hx] at this;exact this.1.lt b hb
 have hkey:∀ q,q∈aq ws→∃ y,(q,y)∈ws:=by
  intro q hq
  rw [dG] at hq
  obtain ⟨⟨q',y⟩,h1,rfl⟩:=List.mem_map.1 hq
  exact ⟨y,h1⟩
 have hklive:∀ q,q∈aq ws→(aj st.h q).live=true∧(aj st.h q).ro=false:=by
  intro q hq
  obtain ⟨y,hy⟩:=hkey q hq
  exact (hws q y hy).2
 have hdead:∀ q,q∈aq ws→d≠q.1∧aj st'.h q=.dead:=by
  intro q hq
  obtain ⟨y,hy⟩:=hkey q hq
  have hne:=hnot q (hsl q (hws q y hy).2.1)
  refine ⟨hne,?_⟩
  rw [hget,if_neg hne,(hset q).1 y hy,(hws q y hy).1]
 have hsame:∀ q,d≠q.1→q ∉ aq ws→aj st'.h q=aj st.h q:=fun q h1 h2=>by rw [hget,if_neg h1,(hset q).2 h2]
 have hblk:∀ q,q ∉ aq ws→(aj st.h q).live=true→∀ b∈(σ q).fp,w'.heap[b]?=w.heap[b]?:=fun q hq hl b hbm =>
  hb b (hlt q hl b hbm) fun q' hq' hb'=>R.dj q q' (fun e=>hq (e ▸ hq')) hl (hklive q' hq').1 b hbm hb'
 have hthere:∀ q,(aj st.h q).there=true→(aj st'.h q).there=true:=by
  intro q hq
  by_cases hk:q∈aq ws
  ·rw [(hdead q hk).2];rfl
  ·rw [hsame q (hnot q hq) hk];exact hq
 have hnI:∀ q,(aj st.h q).live=true→∀ b∈(σ q).fp,¬ Imm' b:=fun q hl b hbm hi=>((R.nd q hl).2 b hbm).1 (hI3 b (hlt q hl b hbm) hi)
 have g:pU st.h σ σ' Imm Imm' w w':=by
  refine ⟨fun q hq=>by rw [hσ,if_neg (hnot q hq)];exact ⟨rfl,rfl⟩,fun b hbI hl=>⟨hI1 b hbI,Nat.lt_of_lt_of_le hl hsz,hb b hl fun q hq hbm=>?_⟩⟩
  exact ((R.nd q (hklive q hq).1).2 b hbm).1 hbI
 have hfar:∀ j,new.length < j→gn (n0 :: new) j=.none:=by
  intro j hj
  rw [gr,List.getD_eq_getElem?_getD,List.getElem?_eq_none (by simp;omega)]
  rfl
 have hcl:∀ q,(aj st.h q).there=true∨(q.1=d∧(gn (n0 :: new) q.2).there=true)→(aj st'.h q).there=true:=by
  intro q hq
  rcases hq with hq | ⟨hq,hq2⟩
  ·exact hthere q hq
  ·rw [hget,if_pos hq.symm];exact hq2
 refine ⟨R.step (some d) x v (aq ws++(List.range (new.length + 1)).map fun j=>(d,j)) e1 (fun i e=>by cases e;exact hd) (by rw [e2];simp [bT]) g (fun q _ hq=>by rw [hσ,if_neg (hnot q hq)]) hI2 hK hthere ?_ ?_ hv (fun q hq=>hcl q (hvc q hq)) ?_ ?_ ?_ ?_,g,hthere,?_,hsz,hI3⟩
 ·intro q hq
  simp only [List.mem_append,not_or] at hq
  by_cases hdq:d=q.1
  ·obtain ⟨q1,q2⟩:=q
   simp only at hdq
   subst hdq
   rw [hget,if_pos rfl,ul e3]
   refine hfar _ ?_
   rcases Nat.lt_or_ge new.length q2 with h1 | h1
   ·exact h1
   ·exact absurd (List.mem_map.2 ⟨q2,by simp;omega,rfl⟩) hq.2
  ·exact hsame q hdq hq.1
 ·intro q hq hl b hbm
  simp only [List.mem_append,not_or] at hq
  exact ⟨hblk q hq.1 hl b hbm,hnI q hl b hbm⟩
 ·intro q hq
  rcases List.mem_append.1 hq with hq | hq
  ·rw [(hdead q hq).2];trivial
  ·obtain ⟨j,_,rfl⟩:=List.mem_map.1 hq
   rw [hget,if_pos rfl]
   exact ho j
 ·intro q hq ro ls e
  rcases List.mem_append.1 hq with hq | hq
  ·rw [(hdead q hq).2] at e;cases e
  ·obtain ⟨j,_,rfl⟩:=List.mem_map.1 hq
   rw [hget,if_pos rfl] at e
   exact (hoc j ro ls e).mono hthere
 ·intro q hq hl
  rcases List.mem_append.1 hq with hq | hq
  ·rw [(hdead q hq).2] at hl;cases hl
  ·obtain ⟨j,_,rfl⟩:=List.mem_map.1 hq
   rw [hget,if_pos rfl] at hl
   rw [hσ,if_pos rfl]
   refine ⟨(hn j hl).1,fun b hbm=>⟨((hn j hl).2 b hbm).1,?_⟩⟩
   rcases ((hn j hl).2 b hbm).2 with h1 | ⟨q',hq',hb'⟩
   ·exact .inl (Nat.le_trans R.keep.size h1)
   ·exact ((R.nd q' (hklive q' hq').1).2 b hb').2
 ·intro q q' hq hne hl hl' b hbm hbm'
  rcases List.mem_append.1 hq with hq | hq
  ·rw [(hdead q hq).2] at hl;cases hl
  ·obtain ⟨j,_,rfl⟩:=List.mem_map.1 hq
   rw [hget,if_pos rfl] at hl
   rw [hσ,if_pos rfl] at hbm
   by_cases hdq:d=q'.1
   ·obtain ⟨q1,q2⟩:=q'
    simp only at hdq
    subst hdq
    rw [hget,if_pos rfl] at hl'
    rw [hσ,if_pos rfl] at hbm'
    exact hj j q2 (fun e=>hne (by rw [e])) hl hl' b hbm hbm'
   ·by_cases hk:q'∈aq ws
    ·rw [(hdead q' hk).2] at hl';cases hl'
    ·rw [hsame q' hdq hk] at hl'
     rw [hσ,if_neg hdq] at hbm'
     rcases ((hn j hl).2 b hbm).2 with h1 | ⟨q2,hq2,hb2⟩
     ·have:=hlt q' hl' b hbm';omega
     ·exact R.dj q2 q' (fun e=>hk (e ▸ hq2)) (hklive q2 hq2).1 hl' b hb2 hbm'
 ·intro q hr
  have hl:(aj st.h q).live=true:=by cases hx:aj st.h q <;> simp_all [aw.ro,aw.live]
  have hk:q ∉ aq ws:=fun hk=>by rw [(hklive q hk).2] at hr;cases hr
  exact ⟨hsame q (hnot q (hsl q hl)) hk,by rw [hσ,if_neg (hnot q (hsl q hl))],fun b hbm=>⟨hblk q hk hl b hbm,hnI q hl b hbm⟩⟩
end
end Go.Abs
