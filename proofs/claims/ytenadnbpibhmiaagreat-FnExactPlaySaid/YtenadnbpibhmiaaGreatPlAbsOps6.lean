/- Part of a proof of FnExactPlay: see the row. -/
import Derived.Test.YtenadnbpibhmiaaGreatPlAbsOps5
set_option linter.unusedVariables false
set_option linter.unusedSimpArgs false
namespace Go.Abs
open Go.RowKit
theorem nH {R:Type} {r:R} {t t':Ty} {x:t.D} {κ:t'.D→Option R} (h:fT t t' x κ=some r):∃ e:t=t',κ (e ▸ x)=some r:=by
 unfold fT at h
 split at h
 ·rename_i e;exact ⟨e,h⟩
 ·cases h
theorem d8 {R:Type} {r:R} {t t':Ty} {x:List t.D} {κ:List t'.D→Option R} (h:fT (.slice t) (.slice t') x κ=some r):∃ e:t=t',κ (e ▸ x)=some r:=by
 obtain ⟨e,h⟩:=nH h
 cases e
 exact ⟨rfl,h⟩
theorem iC:∀ {ws:List (Hd×aw)} {o:Hd},Bi ws o=false→o ∉ aq ws
 | [],_,_=>by simp [aq]
 | ((d,j),x) :: ws,o,h=>by
  unfold Bi at h
  split at h
  ·cases h
  ·rename_i hne
   simp only [aq,List.mem_cons,not_or]
   refine ⟨fun e=>?_,iC h⟩
   subst e
   exact hne (by simp) (by simp)
structure dF (st:St) (ws:List (Hd×aw)):Prop where
 d:∀ q y,(q,y)∈ws→y=.dead∧(aj st.h q).live=true∧(aj st.h q).ro=false
 nd:(aq ws).Nodup
theorem dF.nil (st:St):dF st []:=⟨fun _ _ h=>(by cases h),List.nodup_nil⟩
theorem dF.cons {st:St} {ws:List (Hd×aw)} (h:dF st ws) {q:Hd} (hq:q ∉ aq ws) (hl:(aj st.h q).live=true) (hr:(aj st.h q).ro=false):dF st ((q,.dead) :: ws) :=
 ⟨fun p y hp=>by
  rcases List.mem_cons.1 hp with e | hp
  ·cases e;exact ⟨rfl,hl,hr⟩
  ·exact h.d p y hp,by simp [aq,hq,h.nd]⟩
theorem dF.key {st:St} {ws:List (Hd×aw)} (h:dF st ws) {q:Hd} (hq:q∈aq ws):(aj st.h q).live=true∧(aj st.h q).ro=false:=by
 rw [dG] at hq
 obtain ⟨⟨q',y⟩,h1,rfl⟩:=List.mem_map.1 hq
 exact (h.d _ _ h1).2
structure cT (σ:Hd→aS) (st:St) (ws0 ws:List (Hd×aw)) (fp:List Nat):Prop where
 ok:dF st ws
 ks:∃ ks,aq ws=ks++aq ws0∧∀ b∈fp,∃ q∈ks,b∈(σ q).fp
 nd:fp.Nodup
theorem cT.refl {σ:Hd→aS} {st:St} {ws:List (Hd×aw)} (h:dF st ws):cT σ st ws ws []:=⟨h,⟨[],rfl,fun _ h=>(by cases h)⟩,List.nodup_nil⟩
theorem vC {l:List (List Nat)} (h:l.flatten.Nodup) {i:Nat} {x:List Nat} (hx:l[i]?=some x):x.Nodup:=by
 rw [List.nodup_iff_pairwise_ne,List.pairwise_flatten] at h
 exact h.1 x (List.mem_of_getElem? hx)
section
variable {P:Program} {M:Nat→Prop} {w0:World} {σ:Hd→aS} {Imm:Nat→Prop} {st:St} {a:Act} {w:World}
theorem cT.trans (R0:Rel P M w0 σ Imm st a w) {ws0 ws1 ws2:List (Hd×aw)} {f1 f2:List Nat} (h:cT σ st ws0 ws1 f1) (k:cT σ st ws1 ws2 f2):cT σ st ws0 ws2 (f1++f2):=by
 obtain ⟨k1,e1,h1⟩:=h.ks
 obtain ⟨k2,e2,h2⟩:=k.ks
 refine ⟨k.ok,⟨k2++k1,by rw [e2,e1,List.append_assoc],fun b hb=>?_⟩,?_⟩
 ·rcases List.mem_append.1 hb with hb | hb
  ·obtain ⟨q,hq,hb⟩:=h1 b hb;exact ⟨q,by simp [hq],hb⟩
  ·obtain ⟨q,hq,hb⟩:=h2 b hb;exact ⟨q,by simp [hq],hb⟩
 ·rw [List.nodup_append]
  refine ⟨h.nd,k.nd,fun b hb c hc e=>?_⟩
  subst e
  obtain ⟨q,hq,hbq⟩:=h1 b hb
  obtain ⟨q',hq',hbq'⟩:=h2 b hc
  have hn:=k.ok.nd
  rw [e2,e1,List.nodup_append] at hn
  have hne:q≠q':=fun e=>hn.2.2 q' hq' q (by simp [hq]) e.symm
  exact R0.dj q q' hne (k.ok.key (by rw [e2,e1];simp [hq])).1 (k.ok.key (by rw [e2];simp [hq'])).1 b hbq hbq'
theorem xY {R:Type} {r:R} (R0:Rel P M w0 σ Imm st a w) {t:Ty} {l:Leaf} {v:Value} {ws:List (Hd×aw)} {κ:List t.D→List (Hd×aw)→Option R} (hv:LR P σ Imm w l v) (hw:dF st ws)
  (h:rk st.h t l ws κ=some r):∃ xs ws' fp,κ xs ws'=some r∧Own P Imm (.slice t) w [v] xs fp∧cT σ st ws ws' fp:=by
 unfold rk at h
 split at h
 ·exact ⟨[],ws,[],h,.inl ⟨by rw [show v=_ from hv],rfl,rfl⟩,cT.refl hw⟩
 ·rename_i o
  split at h
  ·rename_i t' xs ho hh
   obtain ⟨e,hk⟩:=d8 h
   subst e
   have hob:=R0.ob o
   rw [ho] at hob
   obtain ⟨hown,_⟩:=hob
   have hl:(aj st.h o).live=true:=by rw [ho];rfl
   have hr:(aj st.h o).ro=false:=by rw [ho];rfl
   have hno:=iC hh
   refine ⟨xs,_,(σ o).fp,hk,by rw [hv.1];exact hown,hw.cons hno hl hr,⟨[o],rfl,fun b hb=>⟨o,by simp,hb⟩⟩,(R0.nd o hl).1⟩
  ·cases h
 ·rename_i o n hi
  split at h
  ·rename_i t' xs ho hh
   obtain ⟨e,hk⟩:=d8 h
   subst e
   have hob:=R0.ob o
   rw [ho] at hob
   obtain ⟨hown,_⟩:=hob
   have hl:(aj st.h o).live=true:=by rw [ho];rfl
   have hr:(aj st.h o).ro=false:=by rw [ho];rfl
   have hno:=iC hh
   obtain ⟨a',len,cap',e0,_,hlen,ev⟩:=hv
   rcases hown with ⟨e1,e2,e3⟩ | ⟨g,cap,cur,ty',fps,e1,e2,e3,e4,e5,e6,e7,e8⟩
   ·subst e2
    simp only [List.cons.injEq,and_true] at e1
    rw [e1] at e0
    simp only [Value.slice.injEq] at e0
    obtain ⟨rfl,rfl,rfl⟩:=e0
    have:hi=0:=by omega
    subst this
    exact ⟨_,_,[],hk,.inl ⟨by rw [ev];simp,by simp,rfl⟩,hw.cons hno hl hr,⟨[o],rfl,fun _ h=>(by cases h)⟩,List.nodup_nil⟩
   ·simp only [List.cons.injEq,and_true] at e1
    rw [e1] at e0
    simp only [Value.slice.injEq] at e0
    obtain ⟨rfl,rfl,rfl⟩:=e0
    have hsub:∀ b∈g :: (fps.take hi).flatten,b∈(σ o).fp:=by
     intro b hb
     rw [e7]
     rcases List.mem_cons.1 hb with rfl | hb
     ·simp
     ·obtain ⟨f,hf,hb⟩:=List.mem_flatten.1 hb
      exact List.mem_cons_of_mem _ (List.mem_flatten.2 ⟨f,List.mem_of_mem_take hf,hb⟩)
    refine ⟨_,_,g :: (fps.take hi).flatten,hk,.inr ⟨g,cap,cur,ty',fps.take hi,?_,e2,by simp;omega,e4,e5,by simp;omega,rfl,?_⟩,hw.cons hno hl hr,⟨[o],rfl,fun b hb=>⟨o,by simp,hsub b hb⟩⟩,?_⟩
    ·rw [ev]
     have:min hi xs.length=hi:=by omega
     simp [this,Addr.add]
    ·intro i x fp' hx hf
     rw [List.getElem?_take] at hx hf
     split at hx
     ·rename_i hlt
      rw [if_pos hlt] at hf
      exact e8 i x fp' hx hf
     ·cases hx
    ·have hn:=(R0.nd o hl).1
     rw [e7] at hn
     rw [← List.take_append_drop hi fps,List.flatten_append,← List.cons_append,List.nodup_append] at hn
     exact hn.1
  ·cases h
 ·cases h
theorem xZ {R:Type} {r:R} {t:Ty} {l:Leaf} {v:Value} {κ:List t.D→Option R} (hv:LR P σ Imm w l v) (h:pQ t l κ=some r):∃ xs,κ xs=some r∧Rd P (.vw t) Imm w [v] xs:=by
 unfold pQ at h
 split at h
 ·exact ⟨[],h,none,0,by rw [show v=_ from hv];rfl,Nat.le_refl _,fun _=>rfl,fun i x hx=>by simp at hx⟩
 ·obtain ⟨ys,k1,_,k3⟩:=nD (P:=P) (I:=Imm) (w:=w) h
  exact ⟨ys,k1,k3 _ hv⟩
 ·obtain ⟨ys,k1,_,k3⟩:=nD (P:=P) (I:=Imm) (w:=w) h
  exact ⟨ys,k1,k3 _ hv.1⟩
 ·cases h
theorem d9 {R:Type} {r:R} (R0:Rel P M w0 σ Imm st a w):∀ {t:Ty} {ls:List Leaf} {vs:List Value} {ws:List (Hd×aw)} {κ:t.D→List Leaf→List (Hd×aw)→Option R},LRs P σ Imm w ls vs→dF st ws →
  bN st.h t ls ws κ=some r→∃ x rest ws' fp v1 v2,κ x rest ws'=some r∧vs=v1++v2∧LRs P σ Imm w rest v2∧Own P Imm t w v1 x fp∧cT σ st ws ws' fp
 | .int k,ls,vs,ws,κ,hr,hw,h=>by
  cases ls with
  | nil=>simp [bN] at h
  | cons l ls =>
   cases l <;> simp only [bN,reduceCtorEq] at h
   split at h
   ·rename_i k' n e
    subst e
    obtain ⟨v,q,e,hv,hq⟩:=hr
    subst e
    have hv:v=_:=hv
    subst hv
    exact ⟨_,ls,ws,[],[_],q,h,rfl,hq,⟨rfl,rfl⟩,cT.refl hw⟩
   ·cases h
 | .bool,ls,vs,ws,κ,hr,hw,h=>by
  cases ls with
  | nil=>simp [bN] at h
  | cons l ls =>
   cases l <;> simp only [bN,reduceCtorEq] at h
   obtain ⟨v,q,e,hv,hq⟩:=hr
   subst e
   have hv:v=_:=hv
   subst hv
   exact ⟨_,ls,ws,[],[_],q,h,rfl,hq,⟨rfl,rfl⟩,cT.refl hw⟩
 | .hd,ls,vs,ws,κ,hr,hw,h=>by
  cases ls with
  | nil=>simp [bN] at h
  | cons l ls =>
   cases l <;> simp only [bN,reduceCtorEq] at h
   all_goals (
    obtain ⟨v,q,e,hv,hq⟩:=hr
    subst e
    have hv:v=_:=hv
    subst hv
    exact ⟨_,ls,ws,[],[_],q,h,rfl,hq,⟨rfl,rfl⟩,cT.refl hw⟩)
 | .slice t,ls,vs,ws,κ,hr,hw,h=>by
  cases ls with
  | nil=>simp [bN] at h
  | cons l ls =>
   simp only [bN] at h
   obtain ⟨v,q,e,hv,hq⟩:=hr
   subst e
   obtain ⟨xs,ws',fp,hk,hown,ht⟩:=xY R0 hv hw h
   exact ⟨xs,ls,ws',fp,[v],q,hk,rfl,hq,hown,ht⟩
 | .unit,ls,vs,ws,κ,hr,hw,h=>by
  simp only [bN] at h
  exact ⟨(),ls,ws,[],[],vs,h,rfl,hr,⟨rfl,rfl⟩,cT.refl hw⟩
 | .pair t u,ls,vs,ws,κ,hr,hw,h=>by
  simp only [bN] at h
  obtain ⟨x,rest,ws1,f1,v1,v2,h1,e1,r1,o1,t1⟩:=d9 (t:=t) R0 hr hw h
  obtain ⟨y,rest2,ws2,f2,v3,v4,h2,e2,r2,o2,t2⟩:=d9 (t:=u) R0 r1 t1.ok h1
  exact ⟨(x,y),rest2,ws2,f1++f2,v1++v3,v4,h2,by rw [e1,e2,List.append_assoc],r2,⟨v1,v3,f1,f2,rfl,o1.length,rfl,o1,o2⟩,t1.trans R0 t2⟩
 | .fn _ _,ls,vs,ws,κ,hr,hw,h=>by simp [bN] at h
 | .vw t,ls,vs,ws,κ,hr,hw,h=>by
  cases ls with
  | nil=>simp [bN] at h
  | cons l ls =>
   simp only [bN] at h
   obtain ⟨v,q,e,hv,hq⟩:=hr
   subst e
   obtain ⟨xs,hk,hrd⟩:=xZ hv h
   exact ⟨xs,ls,ws,[],[v],q,hk,rfl,hq,⟨hrd,rfl⟩,cT.refl hw⟩
end
section
variable {P:Program} {M:Nat→Prop} {w0:World} {σ:Hd→aS} {Imm:Nat→Prop} {st:St} {a:Act} {w:World} {o:Oper} {E:Env}
theorem cT.wr {ws:List (Hd×aw)} (h:dF st ws):(∀ q y,(q,y)∈ws→(aj st.h q).there=true∧(aj st.h q).ro=false∧y.there=true)∧aK st.h (aq ws):=by
 have hsl:∀ q,(aj st.h q).live=true→(aj st.h q).there=true:=by intro q;cases aj st.h q <;> simp [aw.live,aw.there]
 exact ⟨fun q y hq=>⟨hsl q (h.d q y hq).2.1,(h.d q y hq).2.2,by rw [(h.d q y hq).1];rfl⟩,fun q hq=>hsl q (h.key hq).1⟩
theorem aU.make1 (R:Rel P M w0 σ Imm st a w) (hd:∀ i,o.dst=some i→i < st.t.length) {d:Nat} (hdst:o.dst=some d) {l:Leaf} {rd:List Hd} {ws:List (Hd×aw)} {n0:aw}
  (hw:dF st ws) (hrd:aK st.h rd) {v:Value} {w':World} (φ:aS) (hrun:(execOp a.eval o).run P w=.ok (.value v) w')
  (hK:bg (fun b=>∃ q∈aq ws,b∈(σ q).fp) w w')
  (hl:∀ σ',σ' (d,0)=φ→LR P σ' Imm w' l v) (hlh:∀ q∈l.hds,q=(d,0)) (hth:n0.there=true)
  (ho:∀ σ',(∀ q,(aj st.h q).there=true→σ' q=σ q)→σ' (d,0)=φ→pU st.h σ σ' Imm Imm w w'→ObR P σ' Imm w' (d,0) n0)
  (hoc:∀ ro ls,n0=.box ro ls→aK st.h (aN ls))
  (hn:φ.fp.Nodup) (hn2:∀ b∈φ.fp,w.heap.size≤b∨∃ q∈aq ws,b∈(σ q).fp) :
  aU P M w0 o st a w σ Imm { v:=.leaf l,rd,wr:=ws,new:=[n0] }:=by
 refine ⟨⟨hrd,(cT.wr hw).1,hw.nd⟩,fun st' hs next Q hnx=>?_⟩
 rw [hdst] at hs hnx
 unfold Oper.wp
 rw [hrun]
 simp only [Oper.upon,hdst]
 have hdn:bx st.h d=[]:=(In hs).2.2
 have hnt:∀ q:Hd,(aj st.h q).there=true→d≠q.1:=by
  rintro ⟨q1,q2⟩ hq rfl
  rw [ul hdn] at hq
  cases hq
 have hIb:∀ b,Imm b→∀ q∈aq ws,b ∉ (σ q).fp:=fun b hb q hq hbm=>((R.nd q (hw.key hq).1).2 b hbm).1 hb
 have hKM:bg M w0 w':=by
  refine ⟨hK.os.trans R.keep.os,hK.tape.trans R.keep.tape,hK.output.trans R.keep.output,Nat.le_trans R.keep.size hK.size,fun k hk hm=>?_⟩
  refine (hK.block k (Nat.lt_of_lt_of_le hk R.keep.size) ?_).trans (R.keep.block k hk hm)
  rintro ⟨q,hq,hbm⟩
  rcases ((R.nd q (hw.key hq).1).2 k hbm).2 with h | h
  ·omega
  ·exact hm h
 let σ1:Hd→aS:=fun q=>if d=q.1 then (if q.2=0 then φ else ⟨undef,0,[]⟩) else σ q
 have hσ0:σ1 (d,0)=φ:=by simp [σ1]
 have hσs:∀ q,(aj st.h q).there=true→σ1 q=σ q:=fun q hq=>by simp only [σ1];rw [if_neg (hnt q hq)]
 have hg:pU st.h σ σ1 Imm Imm w w':=⟨fun q hq=>by rw [hσs q hq];exact ⟨rfl,rfl⟩,fun b hb hl=>⟨hb,Nat.lt_of_lt_of_le hl hK.size,hK.block b hl fun ⟨q,hq,hbm⟩=>hIb b hb q hq hbm⟩⟩
 have hj0:∀ j,gn [n0] (j + 1)=.none:=fun j=>by simp [gn]
 obtain ⟨r,e⟩:=R.make (hd d hdst) hs hw.d hw.nd (v:=v) (Imm':=Imm) (w':=w') (fun j=>if j=0 then φ else ⟨undef,0,[]⟩) σ1 (fun q=>rfl)
  hKM hK.size (fun _ h=>h) (fun b hb=>Nat.lt_of_lt_of_le (R.imm b hb) hK.size) (fun _ _ h=>h)
  (fun b hb hq=>hK.block b hb fun ⟨q,hq',hbm⟩=>hq q hq' hbm) (hl _ hσ0)
  (fun q hq=>.inr (by rw [hlh q hq];exact ⟨rfl,hth⟩))
  (fun j=>by
   cases j with
   | zero=>exact ho σ1 hσs hσ0 hg
   | succ j=>rw [hj0];trivial)
  (fun j ro ls e=>by
   cases j with
   | zero=>exact hoc ro ls e
   | succ j=>rw [hj0] at e;cases e)
  (fun j hl=>by
   cases j with
   | zero=>exact ⟨hn,fun b hb=>⟨fun hi=>by
     rcases hn2 b hb with h | ⟨q,hq,hbm⟩
     ·have:=R.imm b hi;omega
     ·exact hIb b hi q hq hbm,hn2 b hb⟩⟩
   | succ j=>rw [hj0] at hl;cases hl)
  (fun i j hij hi hj=>by
   cases i with
   | zero=>cases j with
    | zero=>exact absurd rfl hij
    | succ j=>rw [hj0] at hj;cases hj
   | succ i=>rw [hj0] at hi;cases hi)
 exact hnx v _ _ _ r e
theorem aU.box1 (R:Rel P M w0 σ Imm st a w) (hd:∀ i,o.dst=some i→i < st.t.length) {d:Nat} (hdst:o.dst=some d) {ls:List Leaf} {c:List Value} {ty:TypeId}
  (hrun:(execOp a.eval o).run P w=.ok (.value (.pointer (some ⟨w.heap.size,0,none⟩))) (w.alloc (.cells c.toArray ty))) (hr:LRs P σ Imm w ls c) (hc:aK st.h (aN ls)) :
  aU P M w0 o st a w σ Imm { v:=.leaf (.box (d,0) 0),new:=[.box false ls] } :=
 aU.make1 R hd hdst (dF.nil st) aA ⟨undef,w.heap.size,[w.heap.size]⟩ hrun ((bg.alloc w _).mono fun _ _ h=>h.elim)
  (fun σ' h=>by show _=_;rw [h]) (fun q hq=>by simpa [Leaf.hds] using hq) rfl
  (fun σ' h1 h2 g=>by
   refine ⟨c.toArray,ty,by rw [h2];exact heap_alloc_new w _,?_,by rw [h2]⟩
   simpa using hr.goes g hc)
  (fun ro ls' e=>by cases e;exact hc) (by simp) (fun b hb=>.inl (by simp at hb;omega))
theorem S3 {e d:Nat} {ti:TI} (R:Rel P M w0 σ Imm st a w) (hd:∀ i,o.dst=some i→i < st.t.length) (ht:EA P e ti) (ho:o.op=.alloc e) (hdst:o.dst=some d) :
  aU P M w0 o st a w σ Imm { v:=.leaf (.box (d,0) 0),new:=[.box false ti.zero] }:=by
 obtain ⟨i,z,hi,hn,hz,hz2,hz3⟩:=ht.info
 refine aU.box1 R hd hdst (c:=z.cells.toList) (ty:=e) ?_ (by rw [← hz2];exact eM _ hz3) (by rw [← hz2,lM];exact aA)
 simp [execOp,ho,Instr.alloc,zeroValue,typeInfo,hi,hz,newVar,newRow]
theorem S4 {e d:Nat} {x:Operand} {ls:List Leaf} (R:Rel P M w0 σ Imm st a w) (hd:∀ i,o.dst=some i→i < st.t.length) (ho:o.op=.box e x) (hdst:o.dst=some d)
  (hx:val st x=.agg ls∨∃ l,val st x=.leaf l∧ls=[l]):aU P M w0 o st a w σ Imm { v:=.leaf (.box (d,0) 0),new:=[.box false ls] }:=by
 have hv:=R.av x
 have hc:=R.vc x
 have key:∃ us:List Value,(a.eval x).cells=us.toArray∧LRs P σ Imm w ls us∧aK st.h (aN ls):=by
  rcases hx with hx | ⟨l,hx,rfl⟩
  ·rw [hx] at hv hc
   obtain ⟨us,e,hr⟩:=hv
   exact ⟨us,by rw [e];rfl,hr,hc⟩
  ·rw [hx] at hv hc
   exact ⟨[a.eval x],by rw [MM (LR.one hv)],⟨_,[],rfl,hv,rfl⟩,fun q hq=>hc q (by simpa [aN,AV.hds] using hq)⟩
 obtain ⟨us,e1,hr,hcl⟩:=key
 refine aU.box1 R hd hdst (c:=us) (ty:=e) ?_ hr hcl
 simp [execOp,ho,Instr.box,newVar,newRow,e1]
end
end Go.Abs
