/- Part of a proof of FnGames: see the row. -/
import Derived.Test.YtenadnbpibhmiaaGreatGmAbsOps5
set_option linter.unusedVariables false
set_option linter.unusedSimpArgs false
namespace Go.Abs
open Go.RowKit
theorem oB {R:Type} {r:R} {t t':Ty} {x:t.D} {κ:t'.D→Option R} (h:gN t t' x κ=some r):∃ e:t=t',κ (e ▸ x)=some r:=by
 unfold gN at h
 split at h
 ·rename_i e;exact ⟨e,h⟩
 ·cases h
theorem fi {R:Type} {r:R} {t t':Ty} {x:List t.D} {κ:List t'.D→Option R} (h:gN (.slice t) (.slice t') x κ=some r):∃ e:t=t',κ (e ▸ x)=some r:=by
 obtain ⟨e,h⟩:=oB h
 cases e
 exact ⟨rfl,h⟩
theorem jr:∀ {ws:List (Hd×aC)} {o:Hd},BJ ws o=false→o ∉ aw ws
 | [],_,_=>by simp [aw]
 | ((d,j),x) :: ws,o,h=>by
  unfold BJ at h
  split at h
  ·cases h
  ·rename_i hne
   simp only [aw,List.mem_cons,not_or]
   refine ⟨fun e=>?_,jr h⟩
   subst e
   exact hne (by simp) (by simp)
structure eD (st:St) (ws:List (Hd×aC)):Prop where
 d:∀ q y,(q,y)∈ws→y=.dead∧(aq st.h q).live=true∧(aq st.h q).ro=false
 nd:(aw ws).Nodup
theorem eD.nil (st:St):eD st []:=⟨fun _ _ h=>(by cases h),List.nodup_nil⟩
theorem eD.cons {st:St} {ws:List (Hd×aC)} (h:eD st ws) {q:Hd} (hq:q ∉ aw ws) (hl:(aq st.h q).live=true) (hr:(aq st.h q).ro=false):eD st ((q,.dead) :: ws) :=
 ⟨fun p y hp=>by
  rcases List.mem_cons.1 hp with e | hp
  ·cases e;exact ⟨rfl,hl,hr⟩
  ·exact h.d p y hp,by simp [aw,hq,h.nd]⟩
theorem eD.key {st:St} {ws:List (Hd×aC)} (h:eD st ws) {q:Hd} (hq:q∈aw ws):(aq st.h q).live=true∧(aq st.h q).ro=false:=by
 rw [eE] at hq
 obtain ⟨⟨q',y⟩,h1,rfl⟩:=List.mem_map.1 hq
 exact (h.d _ _ h1).2
structure dB (σ:Hd→bd) (st:St) (ws0 ws:List (Hd×aC)) (fp:List Nat):Prop where
 ok:eD st ws
 ks:∃ ks,aw ws=ks++aw ws0∧∀ b∈fp,∃ q∈ks,b∈(σ q).fp
 nd:fp.Nodup
theorem dB.refl {σ:Hd→bd} {st:St} {ws:List (Hd×aC)} (h:eD st ws):dB σ st ws ws []:=⟨h,⟨[],rfl,fun _ h=>(by cases h)⟩,List.nodup_nil⟩
theorem wA {l:List (List Nat)} (h:l.flatten.Nodup) {i:Nat} {x:List Nat} (hx:l[i]?=some x):x.Nodup:=by
 rw [List.nodup_iff_pairwise_ne,List.pairwise_flatten] at h
 exact h.1 x (List.mem_of_getElem? hx)
section
variable {P:Program} {M:Nat→Prop} {w0:World} {σ:Hd→bd} {Imm:Nat→Prop} {st:St} {a:Act} {w:World}
theorem dB.trans (R0:Rel P M w0 σ Imm st a w) {ws0 ws1 ws2:List (Hd×aC)} {f1 f2:List Nat} (h:dB σ st ws0 ws1 f1) (k:dB σ st ws1 ws2 f2):dB σ st ws0 ws2 (f1++f2):=by
 obtain ⟨k1,e1,h1⟩:=h.ks
 obtain ⟨k2,e2,h2⟩:=k.ks
 refine ⟨k.ok,⟨k2++k1,by rw [e2,e1,List.append_assoc],fun b hb=>?_⟩,?_⟩
 ·rcases List.mem_append.1 hb with hb | hb
  ·obtain ⟨q,hq,hb⟩:=h1 b hb;exact ⟨q,by simp [hq],hb⟩
  ·obtain ⟨q,hq,hb⟩:=h2 b hb;exact ⟨q,by simp [hq],hb⟩
 ·rw [List.nodup_append]
  refine ⟨h.nd,k.nd,fun b hb c hc e=>?_⟩
  subst e
  obtain ⟨q,hq,hbq⟩:=h1 b hb
  obtain ⟨q',hq',hbq'⟩:=h2 b hc
  have hn:=k.ok.nd
  rw [e2,e1,List.nodup_append] at hn
  have hne:q≠q':=fun e=>hn.2.2 q' hq' q (by simp [hq]) e.symm
  exact R0.dj q q' hne (k.ok.key (by rw [e2,e1];simp [hq])).1 (k.ok.key (by rw [e2];simp [hq'])).1 b hbq hbq'
theorem yJ {R:Type} {r:R} (R0:Rel P M w0 σ Imm st a w) {t:Ty} {l:Leaf} {v:Value} {ws:List (Hd×aC)} {κ:List t.D→List (Hd×aC)→Option R} (hv:LR P σ Imm w l v) (hw:eD st ws)
  (h:si st.h t l ws κ=some r):∃ xs ws' fp,κ xs ws'=some r∧Own P Imm (.slice t) w [v] xs fp∧dB σ st ws ws' fp:=by
 unfold si at h
 split at h
 ·exact ⟨[],ws,[],h,.inl ⟨by rw [show v=_ from hv],rfl,rfl⟩,dB.refl hw⟩
 ·rename_i o
  split at h
  ·rename_i t' xs ho hh
   obtain ⟨e,hk⟩:=fi h
   subst e
   have hob:=R0.ob o
   rw [ho] at hob
   obtain ⟨hown,_⟩:=hob
   have hl:(aq st.h o).live=true:=by rw [ho];rfl
   have hr:(aq st.h o).ro=false:=by rw [ho];rfl
   have hno:=jr hh
   refine ⟨xs,_,(σ o).fp,hk,by rw [hv.1];exact hown,hw.cons hno hl hr,⟨[o],rfl,fun b hb=>⟨o,by simp,hb⟩⟩,(R0.nd o hl).1⟩
  ·cases h
 ·rename_i o n hi
  split at h
  ·rename_i t' xs ho hh
   obtain ⟨e,hk⟩:=fi h
   subst e
   have hob:=R0.ob o
   rw [ho] at hob
   obtain ⟨hown,_⟩:=hob
   have hl:(aq st.h o).live=true:=by rw [ho];rfl
   have hr:(aq st.h o).ro=false:=by rw [ho];rfl
   have hno:=jr hh
   obtain ⟨a',len,cap',e0,_,hlen,ev⟩:=hv
   rcases hown with ⟨e1,e2,e3⟩ | ⟨g,cap,cur,ty',fps,e1,e2,e3,e4,e5,e6,e7,e8⟩
   ·subst e2
    simp only [List.cons.injEq,and_true] at e1
    rw [e1] at e0
    simp only [Value.slice.injEq] at e0
    obtain ⟨rfl,rfl,rfl⟩:=e0
    have:hi=0:=by omega
    subst this
    exact ⟨_,_,[],hk,.inl ⟨by rw [ev];simp,by simp,rfl⟩,hw.cons hno hl hr,⟨[o],rfl,fun _ h=>(by cases h)⟩,List.nodup_nil⟩
   ·simp only [List.cons.injEq,and_true] at e1
    rw [e1] at e0
    simp only [Value.slice.injEq] at e0
    obtain ⟨rfl,rfl,rfl⟩:=e0
    have hsub:∀ b∈g :: (fps.take hi).flatten,b∈(σ o).fp:=by
     intro b hb
     rw [e7]
     rcases List.mem_cons.1 hb with rfl | hb
     ·simp
     ·obtain ⟨f,hf,hb⟩:=List.mem_flatten.1 hb
      exact List.mem_cons_of_mem _ (List.mem_flatten.2 ⟨f,List.mem_of_mem_take hf,hb⟩)
    refine ⟨_,_,g :: (fps.take hi).flatten,hk,.inr ⟨g,cap,cur,ty',fps.take hi,?_,e2,by simp;omega,e4,e5,by simp;omega,rfl,?_⟩,hw.cons hno hl hr,⟨[o],rfl,fun b hb=>⟨o,by simp,hsub b hb⟩⟩,?_⟩
    ·rw [ev]
     have:min hi xs.length=hi:=by omega
     simp [this,Addr.add]
    ·intro i x fp' hx hf
     rw [List.getElem?_take] at hx hf
     split at hx
     ·rename_i hlt
      rw [if_pos hlt] at hf
      exact e8 i x fp' hx hf
     ·cases hx
    ·have hn:=(R0.nd o hl).1
     rw [e7] at hn
     rw [← List.take_append_drop hi fps,List.flatten_append,← List.cons_append,List.nodup_append] at hn
     exact hn.1
  ·cases h
 ·cases h
theorem yK {R:Type} {r:R} {t:Ty} {l:Leaf} {v:Value} {κ:List t.D→Option R} (hv:LR P σ Imm w l v) (h:qF t l κ=some r):∃ xs,κ xs=some r∧Rd P (.vw t) Imm w [v] xs:=by
 unfold qF at h
 split at h
 ·exact ⟨[],h,none,0,by rw [show v=_ from hv];rfl,Nat.le_refl _,fun _=>rfl,fun i x hx=>by simp at hx⟩
 ·obtain ⟨ys,k1,_,k3⟩:=ox (P:=P) (I:=Imm) (w:=w) h
  exact ⟨ys,k1,k3 _ hv⟩
 ·obtain ⟨ys,k1,_,k3⟩:=ox (P:=P) (I:=Imm) (w:=w) h
  exact ⟨ys,k1,k3 _ hv.1⟩
 ·cases h
theorem fj {R:Type} {r:R} (R0:Rel P M w0 σ Imm st a w):∀ {t:Ty} {ls:List Leaf} {vs:List Value} {ws:List (Hd×aC)} {κ:t.D→List Leaf→List (Hd×aC)→Option R},LRs P σ Imm w ls vs→eD st ws →
  cr st.h t ls ws κ=some r→∃ x rest ws' fp v1 v2,κ x rest ws'=some r∧vs=v1++v2∧LRs P σ Imm w rest v2∧Own P Imm t w v1 x fp∧dB σ st ws ws' fp
 | .int k,ls,vs,ws,κ,hr,hw,h=>by
  cases ls with
  | nil=>simp [cr] at h
  | cons l ls =>
   cases l <;> simp only [cr,reduceCtorEq] at h
   split at h
   ·rename_i k' n e
    subst e
    obtain ⟨v,q,e,hv,hq⟩:=hr
    subst e
    have hv:v=_:=hv
    subst hv
    exact ⟨_,ls,ws,[],[_],q,h,rfl,hq,⟨rfl,rfl⟩,dB.refl hw⟩
   ·cases h
 | .bool,ls,vs,ws,κ,hr,hw,h=>by
  cases ls with
  | nil=>simp [cr] at h
  | cons l ls =>
   cases l <;> simp only [cr,reduceCtorEq] at h
   obtain ⟨v,q,e,hv,hq⟩:=hr
   subst e
   have hv:v=_:=hv
   subst hv
   exact ⟨_,ls,ws,[],[_],q,h,rfl,hq,⟨rfl,rfl⟩,dB.refl hw⟩
 | .hd,ls,vs,ws,κ,hr,hw,h=>by
  cases ls with
  | nil=>simp [cr] at h
  | cons l ls =>
   cases l <;> simp only [cr,reduceCtorEq] at h
   all_goals (
    obtain ⟨v,q,e,hv,hq⟩:=hr
    subst e
    have hv:v=_:=hv
    subst hv
    exact ⟨_,ls,ws,[],[_],q,h,rfl,hq,⟨rfl,rfl⟩,dB.refl hw⟩)
 | .slice t,ls,vs,ws,κ,hr,hw,h=>by
  cases ls with
  | nil=>simp [cr] at h
  | cons l ls =>
   simp only [cr] at h
   obtain ⟨v,q,e,hv,hq⟩:=hr
   subst e
   obtain ⟨xs,ws',fp,hk,hown,ht⟩:=yJ R0 hv hw h
   exact ⟨xs,ls,ws',fp,[v],q,hk,rfl,hq,hown,ht⟩
 | .unit,ls,vs,ws,κ,hr,hw,h=>by
  simp only [cr] at h
  exact ⟨(),ls,ws,[],[],vs,h,rfl,hr,⟨rfl,rfl⟩,dB.refl hw⟩
 | .pair t u,ls,vs,ws,κ,hr,hw,h=>by
  simp only [cr] at h
  obtain ⟨x,rest,ws1,f1,v1,v2,h1,e1,r1,o1,t1⟩:=fj (t:=t) R0 hr hw h
  obtain ⟨y,rest2,ws2,f2,v3,v4,h2,e2,r2,o2,t2⟩:=fj (t:=u) R0 r1 t1.ok h1
  exact ⟨(x,y),rest2,ws2,f1++f2,v1++v3,v4,h2,by rw [e1,e2,List.append_assoc],r2,⟨v1,v3,f1,f2,rfl,o1.length,rfl,o1,o2⟩,t1.trans R0 t2⟩
 | .fn _ _,ls,vs,ws,κ,hr,hw,h=>by simp [cr] at h
 | .vw t,ls,vs,ws,κ,hr,hw,h=>by
  cases ls with
  | nil=>simp [cr] at h
  | cons l ls =>
   simp only [cr] at h
   obtain ⟨v,q,e,hv,hq⟩:=hr
   subst e
   obtain ⟨xs,hk,hrd⟩:=yK hv h
   exact ⟨xs,ls,ws,[],[v],q,hk,rfl,hq,⟨hrd,rfl⟩,dB.refl hw⟩
end
section
variable {P:Program} {M:Nat→Prop} {w0:World} {σ:Hd→bd} {Imm:Nat→Prop} {st:St} {a:Act} {w:World} {o:Oper} {E:Env}
theorem dB.wr {ws:List (Hd×aC)} (h:eD st ws):(∀ q y,(q,y)∈ws→(aq st.h q).there=true∧(aq st.h q).ro=false∧y.there=true)∧aY st.h (aw ws):=by
 have hsl:∀ q,(aq st.h q).live=true→(aq st.h q).there=true:=by intro q;cases aq st.h q <;> simp [aC.live,aC.there]
 exact ⟨fun q y hq=>⟨hsl q (h.d q y hq).2.1,(h.d q y hq).2.2,by rw [(h.d q y hq).1];rfl⟩,fun q hq=>hsl q (h.key hq).1⟩
theorem bk.make1 (R:Rel P M w0 σ Imm st a w) (hd:∀ i,o.dst=some i→i < st.t.length) {d:Nat} (hdst:o.dst=some d) {l:Leaf} {rd:List Hd} {ws:List (Hd×aC)} {n0:aC}
  (hw:eD st ws) (hrd:aY st.h rd) {v:Value} {w':World} (φ:bd) (hrun:(execOp a.eval o).run P w=.ok (.value v) w')
  (hK:bB (fun b=>∃ q∈aw ws,b∈(σ q).fp) w w')
  (hl:∀ σ',σ' (d,0)=φ→LR P σ' Imm w' l v) (hlh:∀ q∈l.hds,q=(d,0)) (hth:n0.there=true)
  (ho:∀ σ',(∀ q,(aq st.h q).there=true→σ' q=σ q)→σ' (d,0)=φ→qJ st.h σ σ' Imm Imm w w'→ObR P σ' Imm w' (d,0) n0)
  (hoc:∀ ro ls,n0=.box ro ls→aY st.h (aZ ls))
  (hn:φ.fp.Nodup) (hn2:∀ b∈φ.fp,w.heap.size≤b∨∃ q∈aw ws,b∈(σ q).fp) :
  bk P M w0 o st a w σ Imm { v:=.leaf l,rd,wr:=ws,new:=[n0] }:=by
 refine ⟨⟨hrd,(dB.wr hw).1,hw.nd⟩,fun st' hs next Q hnx=>?_⟩
 rw [hdst] at hs hnx
 unfold Oper.wp
 rw [hrun]
 simp only [Oper.upon,hdst]
 have hdn:bS st.h d=[]:=(He hs).2.2
 have hnt:∀ q:Hd,(aq st.h q).there=true→d≠q.1:=by
  rintro ⟨q1,q2⟩ hq rfl
  rw [vJ hdn] at hq
  cases hq
 have hIb:∀ b,Imm b→∀ q∈aw ws,b ∉ (σ q).fp:=fun b hb q hq hbm=>((R.nd q (hw.key hq).1).2 b hbm).1 hb
 have hKM:bB M w0 w':=by
  refine ⟨hK.os.trans R.keep.os,hK.tape.trans R.keep.tape,hK.output.trans R.keep.output,Nat.le_trans R.keep.size hK.size,fun k hk hm=>?_⟩
  refine (hK.block k (Nat.lt_of_lt_of_le hk R.keep.size) ?_).trans (R.keep.block k hk hm)
  rintro ⟨q,hq,hbm⟩
  rcases ((R.nd q (hw.key hq).1).2 k hbm).2 with h | h
  ·omega
  ·exact hm h
 let σ1:Hd→bd:=fun q=>if d=q.1 then (if q.2=0 then φ else ⟨undef,0,[]⟩) else σ q
 have hσ0:σ1 (d,0)=φ:=by simp [σ1]
 have hσs:∀ q,(aq st.h q).there=true→σ1 q=σ q:=fun q hq=>by simp only [σ1];rw [if_neg (hnt q hq)]
 have hg:qJ st.h σ σ1 Imm Imm w w':=⟨fun q hq=>by rw [hσs q hq];exact ⟨rfl,rfl⟩,fun b hb hl=>⟨hb,Nat.lt_of_lt_of_le hl hK.size,hK.block b hl fun ⟨q,hq,hbm⟩=>hIb b hb q hq hbm⟩⟩
 have hj0:∀ j,ij [n0] (j + 1)=.none:=fun j=>by simp [ij]
 obtain ⟨r,e⟩:=R.make (hd d hdst) hs hw.d hw.nd (v:=v) (Imm':=Imm) (w':=w') (fun j=>if j=0 then φ else ⟨undef,0,[]⟩) σ1 (fun q=>rfl)
  hKM hK.size (fun _ h=>h) (fun b hb=>Nat.lt_of_lt_of_le (R.imm b hb) hK.size) (fun _ _ h=>h)
  (fun b hb hq=>hK.block b hb fun ⟨q,hq',hbm⟩=>hq q hq' hbm) (hl _ hσ0)
  (fun q hq=>.inr (by rw [hlh q hq];exact ⟨rfl,hth⟩))
  (fun j=>by
   cases j with
   | zero=>exact ho σ1 hσs hσ0 hg
   | succ j=>rw [hj0];trivial)
  (fun j ro ls e=>by
   cases j with
   | zero=>exact hoc ro ls e
   | succ j=>rw [hj0] at e;cases e)
  (fun j hl=>by
   cases j with
   | zero=>exact ⟨hn,fun b hb=>⟨fun hi=>by
     rcases hn2 b hb with h | ⟨q,hq,hbm⟩
     ·have:=R.imm b hi;omega
     ·exact hIb b hi q hq hbm,hn2 b hb⟩⟩
   | succ j=>rw [hj0] at hl;cases hl)
  (fun i j hij hi hj=>by
   cases i with
   | zero=>cases j with
    | zero=>exact absurd rfl hij
    | succ j=>rw [hj0] at hj;cases hj
   | succ i=>rw [hj0] at hi;cases hi)
 exact hnx v _ _ _ r e
theorem bk.box1 (R:Rel P M w0 σ Imm st a w) (hd:∀ i,o.dst=some i→i < st.t.length) {d:Nat} (hdst:o.dst=some d) {ls:List Leaf} {c:List Value} {ty:TypeId}
  (hrun:(execOp a.eval o).run P w=.ok (.value (.pointer (some ⟨w.heap.size,0,none⟩))) (w.alloc (.cells c.toArray ty))) (hr:LRs P σ Imm w ls c) (hc:aY st.h (aZ ls)) :
  bk P M w0 o st a w σ Imm { v:=.leaf (.box (d,0) 0),new:=[.box false ls] } :=
 bk.make1 R hd hdst (eD.nil st) aE ⟨undef,w.heap.size,[w.heap.size]⟩ hrun ((bB.alloc w _).mono fun _ _ h=>h.elim)
  (fun σ' h=>by show _=_;rw [h]) (fun q hq=>by simpa [Leaf.hds] using hq) rfl
  (fun σ' h1 h2 g=>by
   refine ⟨c.toArray,ty,by rw [h2];exact heap_alloc_new w _,?_,by rw [h2]⟩
   simpa using hr.goes g hc)
  (fun ro ls' e=>by cases e;exact hc) (by simp) (fun b hb=>.inl (by simp at hb;omega))
theorem RU {e d:Nat} {ti:TI} (R:Rel P M w0 σ Imm st a w) (hd:∀ i,o.dst=some i→i < st.t.length) (ht:Ev P e ti) (ho:o.op=.alloc e) (hdst:o.dst=some d) :
  bk P M w0 o st a w σ Imm { v:=.leaf (.box (d,0) 0),new:=[.box false ti.zero] }:=by
 obtain ⟨i,z,hi,hn,hz,hz2,hz3⟩:=ht.info
 refine bk.box1 R hd hdst (c:=z.cells.toList) (ty:=e) ?_ (by rw [← hz2];exact fP _ hz3) (by rw [← hz2,mz];exact aE)
 simp [execOp,ho,Instr.alloc,zeroValue,typeInfo,hi,hz,newVar,newRow]
theorem RV {e d:Nat} {x:Operand} {ls:List Leaf} (R:Rel P M w0 σ Imm st a w) (hd:∀ i,o.dst=some i→i < st.t.length) (ho:o.op=.box e x) (hdst:o.dst=some d)
  (hx:val st x=.agg ls∨∃ l,val st x=.leaf l∧ls=[l]):bk P M w0 o st a w σ Imm { v:=.leaf (.box (d,0) 0),new:=[.box false ls] }:=by
 have hv:=R.av x
 have hc:=R.vc x
 have key:∃ us:List Value,(a.eval x).cells=us.toArray∧LRs P σ Imm w ls us∧aY st.h (aZ ls):=by
  rcases hx with hx | ⟨l,hx,rfl⟩
  ·rw [hx] at hv hc
   obtain ⟨us,e,hr⟩:=hv
   exact ⟨us,by rw [e];rfl,hr,hc⟩
  ·rw [hx] at hv hc
   exact ⟨[a.eval x],by rw [KS (LR.one hv)],⟨_,[],rfl,hv,rfl⟩,fun q hq=>hc q (by simpa [aZ,AV.hds] using hq)⟩
 obtain ⟨us,e1,hr,hcl⟩:=key
 refine bk.box1 R hd hdst (c:=us) (ty:=e) ?_ hr hcl
 simp [execOp,ho,Instr.box,newVar,newRow,e1]
end
end Go.Abs
