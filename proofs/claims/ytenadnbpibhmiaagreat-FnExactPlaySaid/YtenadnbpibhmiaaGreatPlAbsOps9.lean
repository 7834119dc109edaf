/- Part of a proof of FnExactPlay: see the row. -/
import Derived.Test.YtenadnbpibhmiaaGreatPlAbsOps8
set_option linter.unusedVariables false
set_option linter.unusedSimpArgs false
namespace Go.Abs
open Go.RowKit
section
variable {P:Program} {M:Nat→Prop} {w0:World} {σ:Hd→aS} {Imm:Nat→Prop} {st:St} {a:Act} {w:World} {o:Oper} {E:Env}
theorem Ip {d:Option Nat} {x:AV} {rd:List Hd} {ws:List (Hd×aw)} {st':St} (h:jv d { v:=x,rd,wr:=ws } st=some st') :
  st'.h=bf ws st.h∧st'.t=Gw st.t d x:=by
 cases d <;> (simp only [jv,Option.some.injEq] at h;subst h;exact ⟨rfl,rfl⟩)
theorem Rel.lt (R:Rel P M w0 σ Imm st a w):∀ q,(aj st.h q).live=true→∀ b∈(σ q).fp,b < w.heap.size:=by
 intro q hq b hb
 have:=R.ob q
 cases hx:aj st.h q with
 | none=>rw [hx] at hq;cases hq
 | dead=>rw [hx] at hq;cases hq
 | box ro ls=>rw [hx] at this;obtain ⟨c,ty,h1,_,h3⟩:=this;rw [h3] at hb;simp at hb;subst hb;exact (Array.getElem?_eq_some_iff.1 h1).1
 | arr ro t xs=>rw [hx] at this;exact this.1.lt b hb
theorem cx {x:aw} (h:x.live=true):x.there=true:=by cases x <;> simp_all [aw.live,aw.there]
theorem aU.writeV (R:Rel P M w0 σ Imm st a w) (hd:∀ i,o.dst=some i→i < st.t.length) {x:AV} {q:Hd} {x':aw} {rd:List Hd} {ws:List (Hd×aw)} (hw:dF st ((q,.dead) :: ws)) (hrd:aK st.h rd) (hx:x'.live=true)
  {v:Value} {w':World} (fp':List Nat) (hrun:(execOp a.eval o).run P w=.ok (.value v) w'∨((execOp a.eval o).run P w=.ok .skip w'∧v=undef))
  (hK:bg (fun b=>b∈(σ q).fp) w w')
  (ho:∀ σ':Hd→aS,(σ' q).v=(σ q).v→(σ' q).b=(σ q).b→(σ' q).fp=fp'→pU st.h σ σ' Imm Imm w w'→ObR P σ' Imm w' q x')
  (hoc:∀ ro ls,x'=.box ro ls→aK st.h (aN ls))
  (hn:fp'.Nodup) (hn2:∀ b∈fp',b∈(σ q).fp∨∃ p∈aq ws,b∈(σ p).fp)
  (hxv:∀ σ':Hd→aS,(σ' q).v=(σ q).v→(σ' q).b=(σ q).b→AVR P σ' Imm w' x v) (hxc:aK st.h x.hds) :
  aU P M w0 o st a w σ Imm { v:=x,rd,wr:=(q,x') :: ws }:=by
 have hql:=hw.key (q:=q) (by simp [aq])
 have hnd:=hw.nd
 simp only [aq,List.nodup_cons] at hnd
 have hkl:∀ p∈aq ws,(aj st.h p).live=true∧(aj st.h p).ro=false:=fun p hp=>hw.key (by simp [aq,hp])
 have hwd:∀ p y,(p,y)∈ws→y=.dead:=fun p y hp=>(hw.d p y (by simp [hp])).1
 have hfine:Vp st { v:=x,rd,wr:=(q,x') :: ws }:=by
  refine ⟨hrd,fun p y hp=>?_,by simp [aq,hnd.1,hnd.2]⟩
  rcases List.mem_cons.1 hp with e | hp
  ·cases e;exact ⟨cx hql.1,hql.2,cx hx⟩
  ·have hpk:p∈aq ws:=by rw [dG];exact List.mem_map.2 ⟨(p,y),hp,rfl⟩
   exact ⟨cx (hkl p hpk).1,(hkl p hpk).2,by rw [hwd p y hp];rfl⟩
 refine ⟨hfine,fun st' hs next Q hnx=>?_⟩
 obtain ⟨e1,e2⟩:=Ip hs
 have hset:=rt ((q,x') :: ws) st.h hfine.nd (fun p y hp=>⟨(hfine.wr p y hp).1,(hfine.wr p y hp).2.2⟩)
 have hgq:aj st'.h q=x':=by rw [e1];exact (hset q).1 x' (by simp)
 have hgk:∀ p∈aq ws,aj st'.h p=.dead:=by
  intro p hp
  rw [dG] at hp
  obtain ⟨⟨p',y⟩,h1,rfl⟩:=List.mem_map.1 hp
  rw [e1,(hset p').1 y (by simp [h1]),hwd p' y h1]
 have hsame:∀ p,p≠q→p ∉ aq ws→aj st'.h p=aj st.h p:=fun p h1 h2=>by rw [e1];exact (hset p).2 (by simp [aq,h1,h2])
 let σ1:Hd→aS:=fun p=>if p=q then ⟨(σ q).v,(σ q).b,fp'⟩ else σ p
 have hσq:σ1 q=⟨(σ q).v,(σ q).b,fp'⟩:=by simp [σ1]
 have hσo:∀ p,p≠q→σ1 p=σ p:=fun p hp=>by simp [σ1,hp]
 have hblk:∀ p,p≠q→(aj st.h p).live=true→∀ b∈(σ p).fp,w'.heap[b]?=w.heap[b]?:=fun p hp hl b hb =>
  hK.block b (R.lt p hl b hb) fun hbq=>R.dj p q hp hl hql.1 b hb hbq
 have hnI:∀ p,(aj st.h p).live=true→∀ b∈(σ p).fp,¬ Imm b:=fun p hl b hb=>((R.nd p hl).2 b hb).1
 have hg:pU st.h σ σ1 Imm Imm w w':=by
  refine ⟨fun p _=>?_,fun b hb hl=>⟨hb,Nat.lt_of_lt_of_le hl hK.size,hK.block b hl fun hbq=>hnI q hql.1 b hbq hb⟩⟩
  by_cases hp:p=q
  ·subst hp;rw [hσq];exact ⟨rfl,rfl⟩
  ·rw [hσo p hp];exact ⟨rfl,rfl⟩
 have hthere:∀ p,(aj st.h p).there=true→(aj st'.h p).there=true:=by
  intro p hp
  by_cases h1:p=q
  ·subst h1;rw [hgq];exact cx hx
  ·by_cases h2:p∈aq ws
   ·rw [hgk p h2];rfl
   ·rw [hsame p h1 h2];exact hp
 have hKM:bg M w0 w':=by
  refine ⟨hK.os.trans R.keep.os,hK.tape.trans R.keep.tape,hK.output.trans R.keep.output,Nat.le_trans R.keep.size hK.size,fun k hk hm=>?_⟩
  refine (hK.block k (Nat.lt_of_lt_of_le hk R.keep.size) fun hbm=>?_).trans (R.keep.block k hk hm)
  rcases ((R.nd q hql.1).2 k hbm).2 with h | h
  ·omega
  ·exact hm h
 have hob:∀ b∈fp',¬ Imm b∧(w0.heap.size≤b∨M b):=by
  intro b hb
  rcases hn2 b hb with h | ⟨p,hp,h⟩
  ·exact (R.nd q hql.1).2 b h
  ·exact (R.nd p (hkl p hp).1).2 b h
 have hr:Rel P M w0 σ1 Imm st' (a.put o.dst v) w':=by
  refine R.step o.dst x v (q :: aq ws) e2 hd (by rw [e1,bT]) hg ?_ (fun b hb=>Nat.lt_of_lt_of_le (R.imm b hb) hK.size) hKM hthere ?_ ?_ (hxv σ1 (by rw [hσq]) (by rw [hσq])) (hxc.mono hthere) ?_ ?_ ?_ ?_
  ·intro p hp _
   simp only [List.mem_cons,not_or] at hp
   exact hσo p hp.1
  ·intro p hp
   simp only [List.mem_cons,not_or] at hp
   exact hsame p hp.1 hp.2
  ·intro p hp hl b hb
   simp only [List.mem_cons,not_or] at hp
   exact ⟨hblk p hp.1 hl b hb,hnI p hl b hb⟩
  ·intro p hp
   rcases List.mem_cons.1 hp with rfl | hp
   ·rw [hgq];exact ho σ1 (by rw [hσq]) (by rw [hσq]) (by rw [hσq]) hg
   ·rw [hgk p hp];trivial
  ·intro p hp ro ls e
   rcases List.mem_cons.1 hp with rfl | hp
   ·rw [hgq] at e;exact (hoc ro ls e).mono hthere
   ·rw [hgk p hp] at e;cases e
  ·intro p hp hl
   rcases List.mem_cons.1 hp with rfl | hp
   ·rw [hσq];exact ⟨hn,hob⟩
   ·rw [hgk p hp] at hl;cases hl
  ·intro p p' hp hne hl hl' b hb hb'
   rcases List.mem_cons.1 hp with rfl | hp
   ·by_cases h2:p'∈aq ws
    ·rw [hgk p' h2] at hl';cases hl'
    ·have hp':p'≠p:=fun e=>hne e.symm
     rw [hsame p' hp' h2] at hl'
     rw [hσq] at hb
     rw [hσo p' hp'] at hb'
     rcases hn2 b hb with h | ⟨k,hk,h⟩
     ·exact R.dj p p' hne hql.1 hl' b h hb'
     ·exact R.dj k p' (fun e=>h2 (e ▸ hk)) (hkl k hk).1 hl' b h hb'
   ·rw [hgk p hp] at hl;cases hl
 have he:Evo st st' σ σ1 Imm Imm w w':=by
  refine ⟨hg,hthere,fun p hr=>?_,hK.size,fun _ _ h=>h⟩
  have hl:(aj st.h p).live=true:=by cases hx:aj st.h p <;> simp_all [aw.ro,aw.live]
  have h1:p≠q:=fun e=>by rw [e,hql.2] at hr;cases hr
  have h2:p ∉ aq ws:=fun e=>by rw [(hkl p e).2] at hr;cases hr
  exact ⟨hsame p h1 h2,hσo p h1,fun b hb=>⟨hblk p h1 hl b hb,hnI p hl b hb⟩⟩
 unfold Oper.wp
 rcases hrun with hrun | ⟨hrun,rfl⟩
 ·rw [hrun];exact hnx v _ _ _ hr he
 ·rw [hrun];exact hnx undef _ _ _ hr he
theorem aU.write1 (R:Rel P M w0 σ Imm st a w) (hd:∀ i,o.dst=some i→i < st.t.length) {q:Hd} {x':aw} {rd:List Hd} {ws:List (Hd×aw)} (hw:dF st ((q,.dead) :: ws)) (hrd:aK st.h rd) (hx:x'.live=true)
  {v:Value} {w':World} (fp':List Nat) (hrun:(execOp a.eval o).run P w=.ok (.value v) w'∨((execOp a.eval o).run P w=.ok .skip w'∧v=undef))
  (hK:bg (fun b=>b∈(σ q).fp) w w')
  (ho:∀ σ':Hd→aS,(σ' q).v=(σ q).v→(σ' q).b=(σ q).b→(σ' q).fp=fp'→pU st.h σ σ' Imm Imm w w'→ObR P σ' Imm w' q x')
  (hoc:∀ ro ls,x'=.box ro ls→aK st.h (aN ls))
  (hn:fp'.Nodup) (hn2:∀ b∈fp',b∈(σ q).fp∨∃ p∈aq ws,b∈(σ p).fp) :
  aU P M w0 o st a w σ Imm { v:=.any,rd,wr:=(q,x') :: ws } :=
 aU.writeV R hd hw hrd hx fp' hrun hK ho hoc hn hn2 (fun _ _ _=>trivial) aA
theorem CC {α:Type}:∀ (cs m:List α) (o:Nat),o + cs.length≤m.length→m.take o++cs++m.drop (o + cs.length)=aW m o cs
 | [],m,o,_=>by simp [aW]
 | c :: cs,m,o,h=>by
  have hlt:o < m.length:=by simp at h;omega
  rw [aW,← CC cs (m.set o c) (o + 1) (by simp at h ⊢;omega)]
  have h1:(m.set o c).take (o + 1)=m.take o++[c]:=by
   rw [List.take_succ_eq_append_getElem (by simpa using hlt)]
   simp [List.take_set_of_le]
  have h2:(m.set o c).drop (o + 1 + cs.length)=m.drop (o + 1 + cs.length):=by
   rw [List.drop_set_of_lt (by omega)]
  rw [h1,h2]
  simp [Nat.add_assoc,Nat.add_comm 1]
theorem Li {t:Nat} {ti:TI} (ht:EA P t ti) {b off:Nat} {c:Array Value} {ty:TypeId} (hb:w.heap[b]?=some (.cells c ty (0,0))) {v:Value} {us:List Value} (hv:v.cells=us.toArray) (hn:us.length=ti.n) (h1:∀ u∈us,u.oneCell'=true) (hle:off + us.length≤c.size) :
  (storeVar t ⟨b,off,none⟩ v).run P w=.ok () (w.setRow b (aW c.toList off us).toArray):=by
 obtain ⟨i,z,hi,hs,_⟩:=ht.info
 have hst:=run_storeCells_at P b off ty us 0 c w hb (by simpa using hle) h1
 simp only [Nat.add_zero] at hst
 rw [CC us c.toList off (by simpa using hle)] at hst
 simp [storeVar,hv,hn,sizeOf,typeInfo,hi,hs,hst]
end
end Go.Abs
