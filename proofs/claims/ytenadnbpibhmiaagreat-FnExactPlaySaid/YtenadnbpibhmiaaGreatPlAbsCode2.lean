/- Part of a proof of FnExactPlay: see the row. -/
import Derived.Test.YtenadnbpibhmiaaGreatPlAbsCode1
set_option linter.unusedVariables false
set_option linter.unusedSimpArgs false
namespace Go.Abs
open Go.RowKit
section
variable {P:Program} {M:Nat→Prop} {w0:World} {σ:Hd→aS} {Imm:Nat→Prop} {st:St} {a:Act} {w:World}
structure CR (P:Program) (M:Nat→Prop) (w0:World) (σ σ':Hd→aS) (Imm:Nat→Prop) (T T':St) (a:Act) (w:World) (fp:List Nat):Prop where
 rel:Rel P M w0 σ' Imm T' a w
 len:T'.t.length=T.t.length
 sg:∀ q,(aj T'.h q).live=false→σ' q=σ q
 dead:∀ q,(aj T'.h q).live=false→(aj T.h q).live=false
 sgt:∀ q,(aj T.h q).there=true→(σ' q).v=(σ q).v∧(σ' q).b=(σ q).b
 there:∀ q,(aj T.h q).there=true→(aj T'.h q).there=true
 ro:∀ q,(aj T.h q).ro=true→aj T'.h q=aj T.h q∧σ' q=σ q
 lv:∀ q,(aj T'.h q).live=true→((aj T.h q).live=true∧σ' q=σ q)∨∀ b∈(σ' q).fp,b∈fp
theorem lO {o:aw} (h:o.ro=true):o.live=true:=by cases o <;> simp_all [aw.ro,aw.live]
theorem pa {R:Type} {r:R} (R0:Rel P M w0 σ Imm st a w) {σb:Hd→aS} (hσ:∀ q,(aj st.h q).live=false→σ q=σb q) {p:Place} {x:p.ty.D} {fp:List Nat} (hp:MY P σb Imm a w p x fp) (hnd:fp.Nodup) (hf:∀ b∈fp,IF M w0 σ Imm st b) (hcp:∀ q∈p.caps,(aj st.h q).there=true∧(σ q).b=(σb q).b)
  {κ:St→Option R} (h:nJ st p x κ=some r):∃ T' σ',κ T'=some r∧CR P M w0 σ σ' Imm st T' a w fp:=by
 cases p with
 | tmp i t =>
  simp only [nJ] at h
  rw [aP] at h
  obtain ⟨h1,h2⟩:=zR h
  obtain ⟨rfl,cs,h3,h4⟩:=hp
  refine ⟨_,σ,h2,R0.setT h1 ?_ (by rw [eJ,cR];exact aA),by simp,fun _ _=>rfl,fun _ h=>h,fun _ _=>⟨rfl,rfl⟩,fun _ h=>h,fun _ _=>⟨rfl,rfl⟩,fun q hq=>.inl ⟨hq,rfl⟩⟩
  rw [h4]
  exact eI h3.cells h3.length
 | tmpO i j t =>
  simp only [nJ] at h
  obtain ⟨m,h1,h2⟩:=zS h
  obtain ⟨cs,objs,e1,hfo⟩:=fg (P:=P) i t x (bx st.h i++List.replicate m .dead)
  rw [e1] at h2
  obtain ⟨h3,h4⟩:=zR h2
  obtain ⟨h5,h6⟩:=zR h4
  obtain ⟨vs,k1,k2⟩:=hp
  obtain ⟨φs,k3,k4,k5⟩:=hfo.rel Imm w vs fp k1
  obtain ⟨σ',g1,g2,g3,g4,g5,g6,g7⟩:=R0.grow (m:=m) h3 k3 (by rw [k4];exact hnd) (by rw [k4];exact hf)
  have hrel:=k5 Imm σ' (fun _ h=>h) fun j p hj=>by
   have:=g1 j p hj
   simpa using this
  have hcl:aK (st.h.set i (bx st.h i++List.replicate m aw.dead++objs)) (aN cs):=fun q hq=>by
   obtain ⟨q1,q2,q3⟩:=hfo.hds q hq
   simp only [List.length_append,List.length_replicate] at q2 q3
   have:=g6 (q.2 - ((bx st.h i).length + m)) (by omega)
   have e:(i,(bx st.h i).length + m + (q.2 - ((bx st.h i).length + m)))=q:=Prod.ext q1.symm (by simp;omega)
   rw [e] at this
   exact this
  refine ⟨_,σ',h6,g4.setT h5 ?_ (by rw [eJ];exact hcl),by simp,g3,fun q hq=>?_,fun q hq=>by rw [g2 q hq];exact ⟨rfl,rfl⟩,fun q hq=>by simp only;rw [g5 q hq];exact hq,fun q hq=>⟨g5 q (cx (lO hq)),g2 q (cx (lO hq))⟩,fun q hq=>?_⟩
  ·rw [k2];exact eI hrel k1.length
  ·cases hl:(aj st.h q).live with
   | false=>rfl
   | true =>
    simp only at hq
    rw [g5 q (cx hl),hl] at hq;cases hq
  ·rw [← k4];exact g7 q hq
 | box d j t =>
  simp only [nJ] at h
  split at h
  ·rename_i hd
   rw [aP,Cy] at h
   obtain ⟨c,ty,k1,k2,rfl,k4⟩:=hp
   have e:=hσ (d,j) (by rw [hd];rfl)
   rw [← e] at k1 k4 hf
   obtain ⟨g1,g2⟩:=R0.setB hd k1 k2.cells (by rw [cR];exact aA) k4 (hf _ (by simp))
   refine ⟨_,σ,h,g1,rfl,fun _ _=>rfl,fun q hq=>?_,fun _ _=>⟨rfl,rfl⟩,fun q hq=>?_,fun q hq=>⟨?_,rfl⟩,fun q hq=>?_⟩
   ·simp only [g2] at hq;split at hq
    ·cases hq
    ·exact hq
   ·simp only [g2];split
    ·rfl
    ·exact hq
   ·simp only [g2];split
    ·rename_i e;subst e;rw [hd] at hq;cases hq
    ·rfl
   ·simp only [g2] at hq;split at hq
    ·rename_i e';subst e';right;rw [k4,e];exact fun b hb=>hb
    ·exact .inl ⟨hq,rfl⟩
  ·cases h
 | boxO d j k t fl =>
  simp only [nJ] at h
  split at h
  ·rename_i hd hfn
   obtain ⟨m,h1,h2⟩:=zS h
   obtain ⟨cs,objs,e1,hfo⟩:=fg (P:=P) d t x (bx st.h d++List.replicate m .dead)
   rw [e1] at h2
   simp only [Nv] at h2
   obtain ⟨h3,h4⟩:=zR h2
   rw [Cy] at h4
   obtain ⟨c,ty,f,us,fv,k1,ke,kf,k2,rfl,k4⟩:=hp
   obtain ⟨φs,k5,k6,k7⟩:=hfo.rel Imm w us f k2
   have hnd':=List.nodup_cons.1 hnd
   obtain ⟨σ',g1,g2,g3,g4,g5,g6,g7⟩:=R0.grow (m:=m) h3 k5 (by rw [k6];exact hnd'.2) (by rw [k6];exact fun b hb=>hf b (by simp [hb]))
   have hdt:(aj st.h (d,j)).there=true:=by rw [hd];rfl
   have e:σ' (d,j)=σb (d,j):=(g2 _ hdt).trans (hσ _ (by rw [hd];rfl))
   have hd':=(g5 _ hdt).trans hd
   have hrel:=k7 Imm σ' (fun _ h=>h) fun j p hj=>by
    have:=g1 j p hj
    simpa using this
   have hcp:∀ q∈qj fl,(aj st.h q).there=true∧(σ q).b=(σb q).b:=hcp
   have hrel2:=Ps (σ:=σ') hfn (fun q hq=>by rw [g2 q (hcp q hq).1];exact (hcp q hq).2) kf
   have hcl:aK (st.h.set d (bx st.h d++List.replicate m aw.dead++objs)) (aN cs):=fun q hq=>by
    obtain ⟨q1,q2,q3⟩:=hfo.hds q hq
    simp only [List.length_append,List.length_replicate] at q2 q3
    have:=g6 (q.2 - ((bx st.h d).length + m)) (by omega)
    have e:(d,(bx st.h d).length + m + (q.2 - ((bx st.h d).length + m)))=q:=Prod.ext q1.symm (by simp;omega)
    rw [e] at this
    exact this
   have hfb:=hf _ (List.mem_cons_self ..)
   obtain ⟨i1,i2⟩:=g4.setB (q:=(d,j)) hd' (by rw [e];exact k1) (by rw [ke];exact hrel.append hrel2) (fun q hq=>by
    rw [CQ,List.mem_append] at hq
    rcases hq with hq | hq
    ·exact hcl q hq
    ·rw [M0 hfn] at hq
     show (aj _ q).there=true
     rw [g5 q (hcp q hq).1]
     exact (hcp q hq).1) (by rw [e];exact k4) (by
    rw [e]
    refine ⟨hfb.1,hfb.2.1,fun q hq=>?_⟩
    rcases g7 q hq with ⟨l1,l2⟩ | l
    ·rw [l2];exact hfb.2.2 q l1
    ·intro hb
     have:=l _ hb
     rw [k6] at this
     exact hnd'.1 this)
   simp only at i2
   refine ⟨_,σ',h4,i1,rfl,fun q hq=>?_,fun q hq=>?_,fun q hq=>by rw [g2 q hq];exact ⟨rfl,rfl⟩,fun q hq=>?_,fun q hq=>⟨?_,g2 q (cx (lO hq))⟩,fun q hq=>?_⟩
   ·simp only [i2] at hq;split at hq
    ·cases hq
    ·exact g3 q hq
   ·simp only [i2] at hq;split at hq
    ·cases hq
    ·cases hl:(aj st.h q).live with
     | false=>rfl
     | true=>rw [g5 q (cx hl),hl] at hq;cases hq
   ·simp only [i2];split
    ·rfl
    ·rw [g5 q hq];exact hq
   ·simp only [i2];split
    ·rename_i e';subst e';rw [hd] at hq;cases hq
    ·exact g5 q (cx (lO hq))
   ·simp only [i2] at hq;split at hq
    ·rename_i e';subst e';right;rw [e,k4];intro b hb;simp at hb;simp [hb]
    ·rcases g7 q hq with l | l
     ·exact .inl l
     ·right;intro b hb;have:=l b hb;rw [k6] at this;simp [this]
  ·cases h
theorem CR.refl (R:Rel P M w0 σ Imm st a w):CR P M w0 σ σ Imm st st a w [] :=
 ⟨R,rfl,fun _ _=>rfl,fun _ h=>h,fun _ _=>⟨rfl,rfl⟩,fun _ h=>h,fun _ _=>⟨rfl,rfl⟩,fun q hq=>.inl ⟨hq,rfl⟩⟩
theorem CR.trans {σ1 σ2 σ3:Hd→aS} {T1 T2 T3:St} {f1 f2:List Nat} (h:CR P M w0 σ1 σ2 Imm T1 T2 a w f1) (k:CR P M w0 σ2 σ3 Imm T2 T3 a w f2):CR P M w0 σ1 σ3 Imm T1 T3 a w (f1++f2):=by
 refine ⟨k.rel,k.len.trans h.len,fun q hq=>(k.sg q hq).trans (h.sg q (k.dead q hq)),fun q hq=>h.dead q (k.dead q hq),fun q hq=>?_,fun q hq=>k.there q (h.there q hq),fun q hq=>?_,fun q hq=>?_⟩
 ·obtain ⟨a1,a2⟩:=h.sgt q hq
  obtain ⟨b1,b2⟩:=k.sgt q (h.there q hq)
  exact ⟨b1.trans a1,b2.trans a2⟩
 ·obtain ⟨a1,a2⟩:=h.ro q hq
  obtain ⟨b1,b2⟩:=k.ro q (by rw [a1];exact hq)
  exact ⟨b1.trans a1,b2.trans a2⟩
 ·rcases k.lv q hq with ⟨a1,a2⟩ | a1
  ·rcases h.lv q a1 with ⟨b1,b2⟩ | b1
   ·exact .inl ⟨b1,a2.trans b2⟩
   ·right;intro b hb;rw [a2] at hb;simp [b1 b hb]
  ·right;intro b hb;simp [a1 b hb]
theorem CS {R:Type} {r:R}:∀ {l:List Place} {σ:Hd→aS} {st:St} {x:(PS l).D} {fp:List Nat} {κ:St→Option R} {σb:Hd→aS},Rel P M w0 σ Imm st a w→(∀ q,(aj st.h q).live=false→σ q=σb q)→NH P σb Imm a w l x fp→fp.Nodup →
  (∀ b∈fp,IF M w0 σ Imm st b)→(∀ q∈wG l,(aj st.h q).there=true∧(σ q).b=(σb q).b)→CO st l x κ=some r→∃ T' σ',κ T'=some r∧CR P M w0 σ σ' Imm st T' a w fp
 | [],σ,st,x,fp,κ,σb,R0,_,hp,_,_,_,h=>by
  cases (hp:fp=[])
  exact ⟨st,σ,h,CR.refl R0⟩
 | [p],σ,st,x,fp,κ,σb,R0,hσ,hp,hnd,hf,hc,h=>pa R0 hσ hp hnd hf (fun q hq=>hc q (by simp [wG,hq])) h
 | p :: q :: l,σ,st,x,fp,κ,σb,R0,hσ,hp,hnd,hf,hc,h=>by
  simp only [CO] at h
  obtain ⟨f1,f2,rfl,hp1,hp2⟩:=hp
  obtain ⟨n1,n2,n3⟩:=List.nodup_append.1 hnd
  obtain ⟨T1,σ1,h1,t1⟩:=pa R0 hσ hp1 n1 (fun b hb=>hf b (by simp [hb])) (fun q hq=>hc q (by simp [wG,hq])) h
  obtain ⟨T2,σ2,h2,t2⟩:=CS t1.rel (σb:=σb) (fun q hq=>(t1.sg q hq).trans (hσ q (t1.dead q hq))) hp2 n2 (fun b hb=>by
   have hfb:=hf b (by simp [hb])
   refine ⟨hfb.1,hfb.2.1,fun q hq=>?_⟩
   rcases t1.lv q hq with ⟨l1,l2⟩ | l
   ·rw [l2];exact hfb.2.2 q l1
   ·exact fun hb2=>n3 b (l b hb2) b hb rfl) (fun q hq=>by
   have:=hc q (by rw [wG];exact List.mem_append_right _ hq)
   exact ⟨t1.there q this.1,((t1.sgt q this.1).2).trans this.2⟩) h1
  exact ⟨T2,σ2,h2,t1.trans t2⟩
theorem IG {R:Type} (m:Nat):∀ (l:List AV) (i:Nat) (κ:List AV→Option R),IC m i l κ=κ (l.mapIdx fun j v=>if Nat.testBit m (i + j)=true then .any else v)
 | [],i,κ=>rfl
 | v :: r,i,κ=>by
  unfold IC
  rw [List.mapIdx_cons]
  have e:(fun j v=>if Nat.testBit m (i + (j + 1))=true then AV.any else v)=fun j v=>if Nat.testBit m (i + 1 + j)=true then AV.any else v:=by
   funext j v;rw [show i + (j + 1)=i + 1 + j by omega]
  split
  ·rename_i h
   rw [IG m r (i + 1)]
   simp [h,e]
  ·rename_i h
   rw [IG m r (i + 1)]
   simp [h,e]
def fE (m:Nat) (l:List AV):List AV:=l.mapIdx fun j v=>if Nat.testBit m j=true then .any else v
theorem CT {R:Type} (m:Nat) (l:List AV) (κ:List AV→Option R):IC m 0 l κ=κ (fE m l):=by
 rw [IG];simp [fE]
theorem Bm (m:Nat) (l:List AV) (i:Nat):cZ (fE m l) i=if Nat.testBit m i=true then .any else cZ l i:=by
 rw [vz,vz,List.getD_eq_getElem?_getD,List.getD_eq_getElem?_getD,fE,List.getElem?_mapIdx]
 cases l[i]? with
 | none=>simp
 | some v=>rfl
theorem kR (m:Nat) (l:List AV):(fE m l).length=l.length:=by simp [fE]
theorem EN {k:Nat}:∀ {l:List Oper} {m:Nat},(k∈AU l∨Nat.testBit m k=true)→Nat.testBit (MW l m) k=true
 | [],m,h=>by simpa [AU,MW] using h
 | o :: r,m,h=>by
  unfold MW
  unfold AU at h
  split
  ·rename_i d hd
   rw [hd] at h
   refine EN ?_
   change k∈AU r∨(m ||| 1 <<< d).testBit k=true
   rw [Nat.testBit_or,Nat.one_shiftLeft,Nat.testBit_two_pow]
   rcases h with h | h
   ·rcases List.mem_cons.1 h with rfl | h
    ·right;simp
    ·exact .inl h
   ·right;simp [h]
  ·rename_i hd
   rw [hd] at h
   exact EN h
theorem fY {k:Nat}:∀ {c:Code} {m:Nat},(k∈b9 c∨Nat.testBit m k=true)→Nat.testBit (dL c m) k=true
 | .region _ ops _,m,h=>EN h
 | .seq a b,m,h=>by
  simp only [b9,List.mem_append] at h
  refine fY (c:=b) ?_
  rcases h with (h | h) | h
  ·exact .inr (fY (c:=a) (.inl h))
  ·exact .inl h
  ·exact .inr (fY (c:=a) (.inr h))
 | .cond _ a b,m,h=>by
  simp only [b9,List.mem_append] at h
  refine fY (c:=b) ?_
  rcases h with (h | h) | h
  ·exact .inr (fY (c:=a) (.inl h))
  ·exact .inl h
  ·exact .inr (fY (c:=a) (.inr h))
 | .block _ a,m,h=>fY (c:=a) h
 | .loop a,m,h=>fY (c:=a) h
 | .scope a,m,h=>fY (c:=a) h
 | .skip,m,h=>by simpa [b9,dL] using h
 | .rangeFunc _ _ _ _,m,h=>by simpa [b9,dL] using h
 | .exit _,m,h=>by simpa [b9,dL] using h
 | .label _,m,h=>by simpa [b9,dL] using h
 | .goto _,m,h=>by simpa [b9,dL] using h
 | .ret,m,h=>by simpa [b9,dL] using h
 | .refuse _,m,h=>by simpa [b9,dL] using h
theorem II {R:Type} (free:List Hd) (d:Nat):∀ (l:List aw) (j:Nat) (κ:List aw→Option R),Gc free d j l κ=κ (l.mapIdx fun i o=>if vu free (d,j + i)=true then o else eN o)
 | [],j,κ=>rfl
 | o :: r,j,κ=>by
  have e:(fun i o=>if vu free (d,j + (i + 1))=true then o else eN o)=fun i o=>if vu free (d,j + 1 + i)=true then o else eN o:=by
   funext i o;rw [show j + (i + 1)=j + 1 + i by omega]
  unfold Gc
  rw [List.mapIdx_cons,e]
  split
  ·rename_i h
   rw [II free d r (j + 1)]
   simp [h]
  ·rename_i h
   cases o <;> simp only <;> rw [II free d r (j + 1)] <;> simp [h,eN]
theorem IJ {R:Type} (free:List Hd):∀ (h:iD) (d:Nat) (κ:iD→Option R),Gd free d h κ=κ (h.mapIdx fun k l=>l.mapIdx fun i o=>if vu free (d + k,i)=true then o else eN o)
 | [],d,κ=>rfl
 | l :: r,d,κ=>by
  have e:(fun (k:Nat) (l:List aw)=>l.mapIdx fun i o=>if vu free (d + (k + 1),i)=true then o else eN o)=fun k l=>l.mapIdx fun i o=>if vu free (d + 1 + k,i)=true then o else eN o:=by
   funext k l;rw [show d + (k + 1)=d + 1 + k by omega]
  cases l with
  | nil =>
   unfold Gd
   rw [IJ free r (d + 1),List.mapIdx_cons,e]
   simp
  | cons o l =>
   unfold Gd
   rw [II,IJ free r (d + 1)]
   rw [List.mapIdx_cons (l:=r),e]
   simp
def eV (free:List Hd) (h:iD):iD:=h.mapIdx fun k l=>l.mapIdx fun i o=>if vu free (k,i)=true then o else eN o
theorem CU {R:Type} (free:List Hd) (h:iD) (κ:iD→Option R):Gd free 0 h κ=κ (eV free h):=by
 rw [IJ];simp [eV]
theorem nK (free:List Hd) (h:iD) (q:Hd):aj (eV free h) q=if q∈free then aj h q else eN (aj h q):=by
 unfold aj
 rw [iZ,iZ,gr,gr,List.getD_eq_getElem?_getD,List.getD_eq_getElem?_getD,List.getD_eq_getElem?_getD,List.getD_eq_getElem?_getD,eV,List.getElem?_mapIdx]
 cases h[q.1]? with
 | none=>simp [eN]
 | some l =>
  simp only [Option.map_some,Option.getD_some,List.getElem?_mapIdx]
  cases l[q.2]? with
  | none=>simp [eN]
  | some o=>simp [CM]
theorem Bn (free:List Hd) (h:iD):(eV free h).length=h.length:=by simp [eV]
theorem pb (o:aw):(eN o).there=o.there:=by cases o <;> rfl
theorem vG (o:aw):(eN o).live=o.live:=by cases o <;> rfl
theorem yi (o:aw):(eN o).ro=o.live:=by cases o <;> rfl
theorem IK (o:aw) (h:o.ro=true):eN o=o:=by cases o <;> simp_all [aw.ro,eN]
theorem ObR.lock {o:Hd} {x:aw}:ObR P σ Imm w o (eN x)↔ObR P σ Imm w o x:=by cases x <;> exact Iff.rfl
end
end Go.Abs
