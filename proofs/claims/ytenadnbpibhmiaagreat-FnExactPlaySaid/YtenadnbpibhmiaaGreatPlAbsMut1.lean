/- Part of a proof of FnExactPlay: see the row. -/
import Derived.Test.YtenadnbpibhmiaaGreatPlAbsApp
set_option linter.unusedVariables false
set_option linter.unusedSimpArgs false
namespace Go.Abs
open Go.RowKit
def WR (P:Program) (σ:Hd→aS) (I:Nat→Prop) (w:World) (q:Hd) (y:aw) (f:List Nat):Prop :=
 match y with
 | .arr false t xs=>Own P I (.slice t) w [(σ q).v] xs f∧(∀ a n c,(σ q).v=.slice (some a) n c→a=⟨(σ q).b,0,none⟩)
 | .box false ls=>∃ (t:Ty) (x:t.D),ls=iA t x∧∃ (c:Array Value) (ty:TypeId),w.heap[(σ q).b]?=some (.cells c ty (0,0))∧Rd P t I w c.toList x∧f=[(σ q).b]
 | .dead=>f=[]∨f=[(σ q).b]
 | _=>False
def WsR (P:Program) (σ:Hd→aS) (I:Nat→Prop) (w:World):List (Hd×aw)→List (List Nat)→Prop
 | [],fs=>fs=[]
 | (q,y) :: ws,fs=>∃ f r,fs=f :: r∧WR P σ I w q y f∧WsR P σ I w ws r
theorem WsR.append {P:Program} {σ:Hd→aS} {I:Nat→Prop} {w:World}:∀ {ws vs:List (Hd×aw)} {fs gs:List (List Nat)},WsR P σ I w ws fs→WsR P σ I w vs gs→WsR P σ I w (ws++vs) (fs++gs)
 | [],_,_,_,h,k=>by cases h;exact k
 | _ :: _,_,_,_,⟨f,r,e,h1,h2⟩,k=>by subst e;exact ⟨f,_,rfl,h1,h2.append k⟩
theorem WsR.imm {P:Program} {σ:Hd→aS} {I J:Nat→Prop} {w:World} (hij:∀ b,I b→J b):∀ {ws:List (Hd×aw)} {fs:List (List Nat)},WsR P σ I w ws fs→WsR P σ J w ws fs
 | [],_,h=>h
 | (q,y) :: _,_,⟨f,r,e,h1,h2⟩=>⟨f,r,e,by
   unfold WR at h1 ⊢
   split at h1
   ·exact ⟨h1.1.imm hij,h1.2⟩
   ·obtain ⟨t,x,e1,c,ty,k1,k2,k3⟩:=h1;exact ⟨t,x,e1,c,ty,k1,k2.imm hij,k3⟩
   ·exact h1
   ·exact h1.elim,h2.imm hij⟩
theorem WR.there {P:Program} {σ:Hd→aS} {I:Nat→Prop} {w:World} {q:Hd} {y:aw} {f:List Nat} (h:WR P σ I w q y f):y.there=true:=by
 unfold WR at h
 split at h <;> first | rfl | exact h.elim
def tU:List (Hd×aw)→List (List Nat)→Hd→List Nat
 | (q,_) :: ws,f :: fs,p=>if q=p then f else tU ws fs p
 | _,_,_=>[]
theorem WsR.get {P:Program} {σ:Hd→aS} {I:Nat→Prop} {w:World}:∀ {ws:List (Hd×aw)} {fs:List (List Nat)},WsR P σ I w ws fs→(aq ws).Nodup→∀ {q:Hd} {y:aw},(q,y)∈ws→WR P σ I w q y (tU ws fs q)∧tU ws fs q∈fs
 | (q,y) :: ws,_,⟨f,r,e,h1,h2⟩,hn,p,z,hm=>by
  subst e
  simp only [aq,List.nodup_cons] at hn
  rcases List.mem_cons.1 hm with e | hm
  ·cases e
   simp only [tU,if_true]
   exact ⟨h1,by simp⟩
  ·have hp:p∈aq ws:=by rw [dG];exact List.mem_map.2 ⟨(p,z),hm,rfl⟩
   have hne:q≠p:=fun e=>hn.1 (e ▸ hp)
   simp only [tU,if_neg hne]
   have:=h2.get hn.2 hm
   exact ⟨this.1,by simp [this.2]⟩
theorem MN {P:Program} {σ:Hd→aS} {I:Nat→Prop} {w:World}:∀ {ws:List (Hd×aw)} {fs:List (List Nat)},WsR P σ I w ws fs→(aq ws).Nodup→fs.flatten.Nodup→∀ {q p:Hd},q∈aq ws→p∈aq ws→q≠p→∀ b∈tU ws fs q,b ∉ tU ws fs p
 | (k,y) :: ws,_,⟨f,r,e,h1,h2⟩,hn,hf,q,p,hq,hp,hne=>by
  subst e
  have key:∀ p,p∈aq ws→∀ b∈tU ws r p,b∈r.flatten:=by
   intro p hp b hb
   rw [dG] at hp
   obtain ⟨⟨p',z⟩,hm,rfl⟩:=List.mem_map.1 hp
   exact List.mem_flatten.2 ⟨_,(h2.get (by simp only [aq,List.nodup_cons] at hn;exact hn.2) hm).2,hb⟩
  simp only [aq,List.nodup_cons] at hn
  simp only [List.flatten_cons,List.nodup_append] at hf
  simp only [aq,List.mem_cons] at hq hp
  intro b hb hb2
  rcases hq with rfl | hq
  ·rcases hp with rfl | hp
   ·exact hne rfl
   ·have hne2:q≠p:=hne
    simp only [tU,if_true] at hb
    simp only [tU,if_neg hne2] at hb2
    exact hf.2.2 b hb b (key p hp b hb2) rfl
  ·have h3:k≠q:=fun e=>hn.1 (e ▸ hq)
   simp only [tU,if_neg h3] at hb
   rcases hp with rfl | hp
   ·simp only [tU,if_true] at hb2
    exact hf.2.2 b hb2 b (key q hq b hb) rfl
   ·have h4:k≠p:=fun e=>hn.1 (e ▸ hp)
    simp only [tU,if_neg h4] at hb2
    exact MN h2 hn.2 hf.2.1 hq hp hne b hb hb2
section
variable {P:Program} {M:Nat→Prop} {w0:World} {σ:Hd→aS} {Imm:Nat→Prop} {st:St} {a:Act} {w:World} {o:Oper} {E:Env}
theorem Te {d:Option Nat} {x:AV} {rd:List Hd} {ws:List (Hd×aw)} {new:List aw} {st':St} (h:jv d { v:=x,rd,wr:=ws,new } st=some st') :
  st'.t=Gw st.t d x∧((new=[]∧st'.h=bf ws st.h)∨∃ d',d=some d'∧new≠[]∧st'.h=(bf ws st.h).set d' new∧bx st.h d'=[]):=by
 cases new with
 | nil =>
  obtain ⟨e1,e2⟩:=Ip h
  exact ⟨e2,.inl ⟨rfl,e1⟩⟩
 | cons n0 new =>
  cases d with
  | none=>simp [jv] at h
  | some d =>
   obtain ⟨e1,e2,e3⟩:=In h
   exact ⟨e1,.inr ⟨d,rfl,by simp,e2,e3⟩⟩
def QO (d:Option Nat) (n:Nat):List Hd :=
 match d with
 | some i=>(List.range n).map fun j=>(i,j)
 | none=>[]
theorem Rel.mutcF {Fz:Nat→Prop} (R:Rel P M w0 σ Imm st a w) {d:Option Nat} (hd:∀ i,d=some i→i < st.t.length) {x:AV} {rd:List Hd} {ws:List (Hd×aw)} {new:List aw} {st':St}
  (hs:jv d { v:=x,rd,wr:=ws,new } st=some st') (hk:∀ q∈aq ws,(aj st.h q).live=true∧(aj st.h q).ro=false) (hnd:(aq ws).Nodup)
  {v:Value} {w':World} {Imm':Nat→Prop} {φs:List aS} {fs:List (List Nat)} (hK:bg (fun b=>∃ q∈aq ws,b∈(σ q).fp) w w')
  (hI1:∀ b,Imm b→Imm' b) (hI2:∀ b,Imm' b→b < w'.heap.size) (hI3:∀ b,b < w.heap.size→Imm' b→Imm b∨∃ q∈aq ws,b∈(σ q).fp) (hFz:∀ q∈aq ws,∀ b∈(σ q).fp,Imm' b→Fz b)
  (hW:WsR P σ Imm' w' ws fs) (hN:gu P Imm' w' new φs) (hnd2:((φs.map (·.fp)).flatten++fs.flatten).Nodup)
  (hfp:∀ b∈(φs.map (·.fp)).flatten++fs.flatten,¬ Imm' b∧(w.heap.size≤b∨∃ q∈aq ws,b∈(σ q).fp))
  (hv:∀ σ',(∀ i,d=some i→∀ j p,φs[j]?=some p→σ' (i,j)=p)→AVR P σ' Imm' w' x v)
  (hx:∀ q∈x.hds,∃ i,d=some i∧q.1=i∧q.2 < new.length) :
  ∃ σ',Rel P M w0 σ' Imm' st' (a.put d v) w'∧nE Fz st st' σ σ' Imm Imm' w w'∧(∀ q∈aq ws,σ' q=⟨(σ q).v,(σ q).b,tU ws fs q⟩)∧∀ q,(aj st.h q).there=true→q ∉ aq ws→σ' q=σ q∧aj st'.h q=aj st.h q:=by
 obtain ⟨e1,e2⟩:=Te hs
 have hlive:∀ q,(aj st.h q).live=true→(aj st.h q).there=true:=fun q=>cx
 have hwk:∀ q,q∈aq ws→∃ y,(q,y)∈ws:=by
  intro q hq
  rw [dG] at hq
  obtain ⟨⟨q',y⟩,h1,rfl⟩:=List.mem_map.1 hq
  exact ⟨y,h1⟩
 have hset:=rt ws st.h hnd (fun q y hq=>⟨hlive q (hk q (by rw [dG];exact List.mem_map.2 ⟨(q,y),hq,rfl⟩)).1,(hW.get hnd hq).1.there⟩)
 have hnl:=hN.length
 let isN:Hd→Prop:=fun q=>d=some q.1∧new≠[]
 have hsite:∀ q,isN q→aj st.h q=.none:=by
  rintro ⟨q1,q2⟩ ⟨h1,h2⟩
  rcases e2 with ⟨h3,_⟩ | ⟨d',h3,_,_,h5⟩
  ·exact absurd h3 h2
  ·simp only at h1
   rw [h1] at h3
   cases h3
   exact ul h5 q2
 have hget:∀ q,(isN q→aj st'.h q=gn new q.2)∧(¬ isN q→aj st'.h q=aj (bf ws st.h) q):=by
  intro q
  rcases e2 with ⟨h3,h4⟩ | ⟨d',h3,h6,h4,h5⟩
  ·exact ⟨fun h=>absurd h3 h.2,fun _=>by rw [h4]⟩
  ·subst h3
   have hdl:d' < (bf ws st.h).length:=by rw [bT,R.hlen];exact hd d' rfl
   rw [h4,CB hdl]
   refine ⟨fun h=>?_,fun h=>?_⟩
   ·rw [if_pos (by have:=h.1;simpa using this)]
   ·rw [if_neg (fun e=>h ⟨by simp [e],h6⟩)]
 have hkey:∀ q,q∈aq ws→¬ isN q:=fun q hq h=>by
  have:=(hk q hq).1
  rw [hsite q h] at this
  cases this
 classical
 let σ':Hd→aS:=fun q=>if isN q then φs.getD q.2 (σ q) else if q∈aq ws then ⟨(σ q).v,(σ q).b,tU ws fs q⟩ else σ q
 have hσN:∀ q p,isN q→φs[q.2]?=some p→σ' q=p:=fun q p h hp=>by
  simp only [σ']
  rw [if_pos h,List.getD_eq_getElem?_getD,hp];rfl
 have hσK:∀ q,q∈aq ws→σ' q=⟨(σ q).v,(σ q).b,tU ws fs q⟩:=fun q h=>by
  simp only [σ']
  rw [if_neg (hkey q h),if_pos h]
 have hσO:∀ q,¬ isN q→q ∉ aq ws→σ' q=σ q:=fun q h1 h2=>by
  simp only [σ']
  rw [if_neg h1,if_neg h2]
 have hsame:∀ q,¬ isN q→q ∉ aq ws→aj st'.h q=aj st.h q:=fun q h1 h2=>by rw [(hget q).2 h1,(hset q).2 h2]
 have hgk:∀ q y,(q,y)∈ws→aj st'.h q=y:=fun q y h=>by
  rw [(hget q).2 (hkey q (by rw [dG];exact List.mem_map.2 ⟨(q,y),h,rfl⟩)),(hset q).1 y h]
 have hnot:∀ q,(aj st.h q).there=true→¬ isN q:=fun q hq h=>by rw [hsite q h] at hq;cases hq
 have hthere:∀ q,(aj st.h q).there=true→(aj st'.h q).there=true:=by
  intro q hq
  by_cases h:q∈aq ws
  ·obtain ⟨y,hy⟩:=hwk q h
   rw [hgk q y hy]
   exact (hW.get hnd hy).1.there
  ·rw [hsame q (hnot q hq) h];exact hq
 have hdisk:∀ q,(aj st.h q).live=true→q ∉ aq ws→∀ b∈(σ q).fp,∀ p∈aq ws,b ∉ (σ p).fp:=fun q hl hq b hb p hp hbp =>
  R.dj q p (fun e=>hq (e ▸ hp)) hl (hk p hp).1 b hb hbp
 have hblk:∀ q,q ∉ aq ws→(aj st.h q).live=true→∀ b∈(σ q).fp,w'.heap[b]?=w.heap[b]?:=fun q hq hl b hb =>
  hK.block b (R.lt q hl b hb) fun ⟨p,hp,hbp⟩=>hdisk q hl hq b hb p hp hbp
 have hnI:∀ q,(aj st.h q).live=true→q ∉ aq ws→∀ b∈(σ q).fp,¬ Imm' b:=fun q hl hn b hb hi=>(hI3 b (R.lt q hl b hb) hi).elim ((R.nd q hl).2 b hb).1 fun ⟨p,hp,hbp⟩=>hdisk q hl hn b hb p hp hbp
 have g:pU st.h σ σ' Imm Imm' w w':=by
  refine ⟨fun q hq=>?_,fun b hb hl=>⟨hI1 b hb,Nat.lt_of_lt_of_le hl hK.size,hK.block b hl fun ⟨q,hq,hbq⟩=>((R.nd q (hk q hq).1).2 b hbq).1 hb⟩⟩
  by_cases h:q∈aq ws
  ·rw [hσK q h];exact ⟨rfl,rfl⟩
  ·rw [hσO q (hnot q hq) h];exact ⟨rfl,rfl⟩
 have hKM:bg M w0 w':=by
  refine ⟨hK.os.trans R.keep.os,hK.tape.trans R.keep.tape,hK.output.trans R.keep.output,Nat.le_trans R.keep.size hK.size,fun k hk2 hm=>?_⟩
  refine (hK.block k (Nat.lt_of_lt_of_le hk2 R.keep.size) fun ⟨q,hq,hbm⟩=>?_).trans (R.keep.block k hk2 hm)
  rcases ((R.nd q (hk q hq).1).2 k hbm).2 with h | h
  ·omega
  ·exact hm h
 have hNget:∀ q,isN q→(aj st'.h q).live=true→∃ y p,φs[q.2]?=some p∧aj st'.h q=y∧σ' q=p∧CG P Imm' w' y p:=by
  intro q hq hl
  rw [(hget q).1 hq,gr,List.getD_eq_getElem?_getD] at hl ⊢
  cases hy:new[q.2]? with
  | none=>rw [hy] at hl;cases hl
  | some y =>
   obtain ⟨p,h1,h2⟩:=hN.get hy
   exact ⟨y,p,h1,rfl,hσN q p hq h1,h2⟩
 have hin:∀ {j:Nat} {p:aS},φs[j]?=some p→∀ b∈p.fp,b∈(φs.map (·.fp)).flatten:=fun {j p} hp b hb=>List.mem_flatten.2 ⟨p.fp,List.mem_map.2 ⟨p,List.mem_of_getElem? hp,rfl⟩,hb⟩
 obtain ⟨nd1,nd2,nd3⟩:=List.nodup_append.1 hnd2
 have hKfp:∀ q y,(q,y)∈ws→(∀ b∈tU ws fs q,b∈fs.flatten)∧(tU ws fs q).Nodup:=fun q y hq=>by
  have hm:=(hW.get hnd hq).2
  exact ⟨fun b hb=>List.mem_flatten.2 ⟨_,hm,hb⟩,(List.pairwise_flatten.1 nd2).1 _ hm⟩
 have hfree:∀ b,(w.heap.size≤b∨∃ q∈aq ws,b∈(σ q).fp)→w0.heap.size≤b∨M b:=by
  rintro b (h | ⟨q,hq,h⟩)
  ·exact .inl (Nat.le_trans R.keep.size h)
  ·exact ((R.nd q (hk q hq).1).2 b h).2
 have hfar:∀ q,(aj st.h q).live=true→q ∉ aq ws→∀ b∈(σ q).fp,b ∉ (φs.map (·.fp)).flatten++fs.flatten:=by
  intro q hl hq b hb hb2
  rcases (hfp b hb2).2 with h | ⟨p,hp,h⟩
  ·have:=R.lt q hl b hb;omega
  ·exact hdisk q hl hq b hb p hp h
 have hcase:∀ q,(aj st'.h q).live=true→(isN q∧∃ y p,φs[q.2]?=some p∧aj st'.h q=y∧σ' q=p∧CG P Imm' w' y p)∨(q∈aq ws∧∃ y,(q,y)∈ws∧aj st'.h q=y∧σ' q=⟨(σ q).v,(σ q).b,tU ws fs q⟩)∨((aj st.h q).live=true∧q ∉ aq ws∧aj st'.h q=aj st.h q∧σ' q=σ q):=by
  intro q hl
  by_cases h1:isN q
  ·exact .inl ⟨h1,hNget q h1 hl⟩
  ·by_cases h2:q∈aq ws
   ·obtain ⟨y,hy⟩:=hwk q h2
    exact .inr (.inl ⟨h2,y,hy,hgk q y hy,hσK q h2⟩)
   ·have:=hsame q h1 h2
    exact .inr (.inr ⟨by rw [← this];exact hl,h2,this,hσO q h1 h2⟩)
 let T:List Hd:=aq ws++QO d new.length
 have hT1:∀ q,q∈aq ws→q∈T:=fun q h=>List.mem_append.2 (.inl h)
 have hT2:∀ q,isN q→q.2 < new.length→q∈T:=by
  rintro ⟨q1,q2⟩ ⟨h1,h2⟩ h3
  refine List.mem_append.2 (.inr ?_)
  simp only at h1
  unfold QO
  rw [h1]
  exact List.mem_map.2 ⟨q2,by simpa using h3,rfl⟩
 have hT3:∀ q,q∈T→q∈aq ws∨(isN q∧q.2 < new.length):=by
  intro q hq
  rcases List.mem_append.1 hq with h | h
  ·exact .inl h
  ·right
   unfold QO at h
   cases hdd:d with
   | none=>rw [hdd] at h;simp at h
   | some i =>
    rw [hdd] at h
    obtain ⟨j,h1,rfl⟩:=List.mem_map.1 h
    simp at h1
    exact ⟨⟨by simp [hdd],fun e=>by rw [e] at h1;simp at h1⟩,h1⟩
 have hunN:∀ q,q ∉ T→isN q→aj st'.h q=.none:=by
  intro q hq h
  rw [(hget q).1 h,gr,List.getD_eq_getElem?_getD]
  rcases Nat.lt_or_ge q.2 new.length with h1 | h1
  ·exact absurd (hT2 q h h1) hq
  ·rw [List.getElem?_eq_none h1];rfl
 refine ⟨σ',R.step d x v T e1 hd ?_ g ?_ hI2 hKM hthere ?_ ?_ (hv σ' fun i hi j p hp=>hσN (i,j) p ⟨hi,fun e=>by have h1:=(List.getElem?_eq_some_iff.1 hp).1;rw [← hnl,e] at h1;simp at h1⟩ hp) ?_ ?_ ?_ ?_ ?_,⟨g,hthere,?_,hK.size,fun b hb hi=>(hI3 b hb hi).imp id fun ⟨q,hq,hbq⟩=>hFz q hq b hbq hi⟩,hσK,fun q hq h=>⟨hσO q (hnot q hq) h,hsame q (hnot q hq) h⟩⟩
 ·rcases e2 with ⟨_,h4⟩ | ⟨d',_,_,h4,_⟩
  ·rw [h4,bT]
  ·rw [h4,List.length_set,bT]
 ·intro q hq ht
  exact hσO q (hnot q ht) fun h=>hq (hT1 q h)
 ·intro q hq
  by_cases h1:isN q
  ·rw [hunN q hq h1,hsite q h1]
  ·exact hsame q h1 fun h=>hq (hT1 q h)
 ·intro q hq hl b hb
  have h2:q ∉ aq ws:=fun h=>hq (hT1 q h)
  exact ⟨hblk q h2 hl b hb,hnI q hl h2 b hb⟩
 ·intro q hq
  obtain ⟨i,h1,h2,h3⟩:=hx q hq
  have hn:isN q:=⟨by rw [h1,h2],fun e=>by rw [e] at h3;simp at h3⟩
  rw [(hget q).1 hn,gr,List.getD_eq_getElem?_getD,List.getElem?_eq_getElem h3]
  obtain ⟨p,_,t,xs,h4,_⟩:=hN.get (List.getElem?_eq_getElem h3)
  simp only [Option.getD_some]
  rw [h4];rfl
 ·intro q hq
  cases hl:(aj st'.h q).live with
  | false=>cases hx:aj st'.h q <;> first | trivial | (rw [hx] at hl;cases hl)
  | true =>
   rcases hcase q hl with ⟨_,y,p,h1,h2,h3,t,xs,h4,h5,h6⟩ | ⟨h0,y,hy,h2,h3⟩ | ⟨h1,h2,h3,h4⟩
   ·rw [h2,h4]
    simp only [ObR,h3]
    exact ⟨h5,h6⟩
   ·rw [h2]
    have hwr:=(hW.get hnd hy).1
    unfold WR at hwr
    split at hwr
    ·simp only [ObR,h3]
     exact hwr
    ·obtain ⟨t,x,e3,c,ty,k1,k2,k3⟩:=hwr
     simp only [ObR,h3]
     exact ⟨c,ty,k1,by rw [e3];exact k2.cells,k3⟩
    ·trivial
    ·exact hwr.elim
   ·rcases hT3 q hq with h | h
    ·exact absurd h h2
    ·have:=hsite q h.1;rw [this] at h1;cases h1
 ·intro q hq ro ls e
  rcases hcase q (by rw [e];rfl) with ⟨_,y,p,h1,h2,h3,t,xs,h4,h5,h6⟩ | ⟨h0,y,hy,h2,h3⟩ | ⟨h1,h2,h3,h4⟩
  ·rw [h2,h4] at e;cases e
  ·rw [h2] at e
   have hwr:=(hW.get hnd hy).1
   subst e
   unfold WR at hwr
   split at hwr
   ·rename_i e;cases e
   ·rename_i e;cases e
    obtain ⟨t,x,e3,_⟩:=hwr
    rw [e3,cR]
    exact aA
   ·rename_i e;cases e
   ·exact hwr.elim
  ·rw [h3] at e
   exact (R.cb q ro ls e).mono hthere
 ·intro q hq hl
  rcases hcase q hl with ⟨_,y,p,h1,h2,h3,t,xs,h4,h5,h6⟩ | ⟨h0,y,hy,h2,h3⟩ | ⟨h1,h2,h3,h4⟩
  ·rw [h3]
   have hm:p.fp∈φs.map (·.fp):=List.mem_map.2 ⟨p,List.mem_of_getElem? h1,rfl⟩
   refine ⟨(List.pairwise_flatten.1 nd1).1 _ hm,fun b hb=>?_⟩
   have:=hfp b (List.mem_append.2 (.inl (hin h1 b hb)))
   exact ⟨this.1,hfree b this.2⟩
  ·rw [h3]
   refine ⟨(hKfp q y hy).2,fun b hb=>?_⟩
   have:=hfp b (List.mem_append.2 (.inr ((hKfp q y hy).1 b hb)))
   exact ⟨this.1,hfree b this.2⟩
  ·rcases hT3 q hq with h | h
   ·exact absurd h h2
   ·have:=hsite q h.1;rw [this] at h1;cases h1
 ·intro q q' hq hne hl hl' b hb hb'
  rcases hcase q hl with ⟨n1,y,p,h1,h2,h3,_⟩ | ⟨h0,y,hy,h2,h3⟩ | ⟨h1,h2,h3,h4⟩
  ·rw [h3] at hb
   rcases hcase q' hl' with ⟨n1',y',p',h1',h2',h3',_⟩ | ⟨h0',y',hy',h2',h3'⟩ | ⟨h1',h2',h3',h4'⟩
   ·rw [h3'] at hb'
    have hne2:q.2≠q'.2:=fun e=>hne (Prod.ext (by have:=n1.1;rw [n1'.1] at this;simpa using this.symm) e)
    have hpw:=List.pairwise_iff_getElem.1 (List.pairwise_flatten.1 nd1).2
    have e1:(φs.map (·.fp))[q.2]?=some p.fp:=by simp [h1]
    have e2:(φs.map (·.fp))[q'.2]?=some p'.fp:=by simp [h1']
    obtain ⟨hi1,hi2⟩:=List.getElem?_eq_some_iff.1 e1
    obtain ⟨hj1,hj2⟩:=List.getElem?_eq_some_iff.1 e2
    rcases Nat.lt_or_gt_of_ne hne2 with h | h
    ·exact hpw _ _ hi1 hj1 h b (by rw [hi2];exact hb) b (by rw [hj2];exact hb') rfl
    ·exact hpw _ _ hj1 hi1 h b (by rw [hj2];exact hb') b (by rw [hi2];exact hb) rfl
   ·rw [h3'] at hb'
    exact nd3 b (hin h1 b hb) b ((hKfp q' y' hy').1 b hb') rfl
   ·rw [h4'] at hb'
    exact hfar q' h1' h2' b hb' (List.mem_append.2 (.inl (hin h1 b hb)))
  ·rw [h3] at hb
   rcases hcase q' hl' with ⟨n1',y',p',h1',h2',h3',_⟩ | ⟨h0',y',hy',h2',h3'⟩ | ⟨h1',h2',h3',h4'⟩
   ·rw [h3'] at hb'
    exact nd3 b (hin h1' b hb') b ((hKfp q y hy).1 b hb) rfl
   ·rw [h3'] at hb'
    exact MN hW hnd nd2 h0 h0' hne b hb hb'
   ·rw [h4'] at hb'
    exact hfar q' h1' h2' b hb' (List.mem_append.2 (.inr ((hKfp q y hy).1 b hb)))
  ·rcases hT3 q hq with h | h
   ·exact absurd h h2
   ·have:=hsite q h.1;rw [this] at h1;cases h1
 ·intro q hr
  have hl:(aj st.h q).live=true:=by revert hr;cases aj st.h q <;> intro hr <;> first | rfl | cases hr
  have h2:q ∉ aq ws:=fun e=>by rw [(hk q e).2] at hr;cases hr
  have h1:=hnot q (hlive q hl)
  exact ⟨hsame q h1 h2,hσO q h1 h2,fun b hb=>⟨hblk q h2 hl b hb,hnI q hl h2 b hb⟩⟩
theorem nE.strict {st st':St} {σ σ':Hd→aS} {Imm Imm':Nat→Prop} {w w':World} (h:nE (fun _=>False) st st' σ σ' Imm Imm' w w'):Evo st st' σ σ' Imm Imm' w w' :=
 ⟨h.goes,h.there,h.ro,h.sz,fun b hb hi=>(h.nw b hb hi).elim id False.elim⟩
theorem Rel.mutc (R:Rel P M w0 σ Imm st a w) {d:Option Nat} (hd:∀ i,d=some i→i < st.t.length) {x:AV} {rd:List Hd} {ws:List (Hd×aw)} {new:List aw} {st':St}
  (hs:jv d { v:=x,rd,wr:=ws,new } st=some st') (hk:∀ q∈aq ws,(aj st.h q).live=true∧(aj st.h q).ro=false) (hnd:(aq ws).Nodup)
  {v:Value} {w':World} {Imm':Nat→Prop} {φs:List aS} {fs:List (List Nat)} (hK:bg (fun b=>∃ q∈aq ws,b∈(σ q).fp) w w')
  (hI1:∀ b,Imm b→Imm' b) (hI2:∀ b,Imm' b→b < w'.heap.size) (hI3:∀ b,b < w.heap.size→Imm' b→Imm b)
  (hW:WsR P σ Imm' w' ws fs) (hN:gu P Imm' w' new φs) (hnd2:((φs.map (·.fp)).flatten++fs.flatten).Nodup)
  (hfp:∀ b∈(φs.map (·.fp)).flatten++fs.flatten,¬ Imm' b∧(w.heap.size≤b∨∃ q∈aq ws,b∈(σ q).fp))
  (hv:∀ σ',(∀ i,d=some i→∀ j p,φs[j]?=some p→σ' (i,j)=p)→AVR P σ' Imm' w' x v)
  (hx:∀ q∈x.hds,∃ i,d=some i∧q.1=i∧q.2 < new.length) :
  ∃ σ',Rel P M w0 σ' Imm' st' (a.put d v) w'∧Evo st st' σ σ' Imm Imm' w w':=by
 obtain ⟨σ',h1,h2,_⟩:=R.mutcF (Fz:=fun _=>False) hd hs hk hnd hK hI1 hI2 (fun b hb hi=>.inl (hI3 b hb hi)) (fun q hq b hb hi=>((R.nd q (hk q hq).1).2 b hb).1 (hI3 b (R.lt q (hk q hq).1 b hb) hi)) hW hN hnd2 hfp hv hx
 exact ⟨σ',h1,h2.strict⟩
end
end Go.Abs
