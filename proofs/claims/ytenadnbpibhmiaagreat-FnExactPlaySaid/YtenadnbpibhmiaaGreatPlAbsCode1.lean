/- Part of a proof of FnExactPlay: see the row. -/
import Derived.Test.YtenadnbpibhmiaaGreatPlAbsReg4
import Derived.Test.YtenadnbpibhmiaaGreatPlAbsCode
set_option linter.unusedVariables false
set_option linter.unusedSimpArgs false
namespace Go.Abs
open Go.RowKit
section
variable {P:Program} {M:Nat→Prop} {w0:World} {σ:Hd→aS} {Imm:Nat→Prop} {st:St} {a:Act} {w:World}
def MY (P:Program) (σ:Hd→aS) (Imm:Nat→Prop) (a:Act) (w:World):(p:Place)→p.ty.D→List Nat→Prop
 | .tmp i t,x,fp=>fp=[]∧∃ cs,Rd P t Imm w cs x∧a.tmps.getD i undef=valOf t cs
 | .tmpO i _ t,x,fp=>∃ cs,Own P Imm t w cs x fp∧a.tmps.getD i undef=valOf t cs
 | .box d j t,x,fp=>∃ (c:Array Value) (ty:TypeId),w.heap[(σ (d,j)).b]?=some (.cells c ty (0,0))∧Rd P t Imm w c.toList x∧fp=[(σ (d,j)).b]∧(σ (d,j)).fp=[(σ (d,j)).b]
 | .boxO d j _ t fl,x,fp=>∃ (c:Array Value) (ty:TypeId) (f:List Nat) (us fv:List Value),w.heap[(σ (d,j)).b]?=some (.cells c ty (0,0))∧c.toList=us++fv∧LRs P σ Imm w fl fv∧Own P Imm t w us x f∧fp=(σ (d,j)).b :: f∧(σ (d,j)).fp=[(σ (d,j)).b]
def NH (P:Program) (σ:Hd→aS) (Imm:Nat→Prop) (a:Act) (w:World):(l:List Place)→(PS l).D→List Nat→Prop
 | [],_,fp=>fp=[]
 | [p],x,fp=>MY P σ Imm a w p x fp
 | p :: q :: r,x,fp=>∃ f1 f2,fp=f1++f2∧MY P σ Imm a w p x.1 f1∧NH P σ Imm a w (q :: r) x.2 f2
theorem IE {α:Type} {r:α} {l:List Leaf} {os:List Hd} {k:Option α} (h:RM l os k=some r):l=[]∧os=[]∧k=some r:=by
 unfold RM at h
 split at h
 ·exact ⟨rfl,rfl,h⟩
 ·cases h
theorem le {α β:Type} {r:α} {l:List β} {k:Option α} (h:jD l k=some r):l=[]∧k=some r:=by
 unfold jD at h
 split at h
 ·exact ⟨rfl,h⟩
 ·cases h
theorem RS:∀ {a b:List Hd},Us a b=true→a=b
 | [],[],_=>rfl
 | (a,b) :: r,(c,d) :: s,h=>by
  unfold Us at h
  split at h
  ·rename_i h1 h2
   rw [Nat.eq_of_beq_eq_true h1,Nat.eq_of_beq_eq_true h2,RS h]
  ·cases h
 | [],_ :: _,h=>by cases h
 | _ :: _,[],h=>by cases h
theorem MZ {α:Type} {x:α}:∀ {r s:List Leaf} {k:Option α},Ut r s k=some x→r=s∧k=some x
 | [],[],k,h=>⟨rfl,h⟩
 | .fn f cs :: r,.fn g ds :: s,k,h=>by
  unfold Ut at h
  split at h
  ·rename_i h1 h2
   obtain ⟨e,h⟩:=MZ h
   rw [Nat.eq_of_beq_eq_true h1,RS h2,e]
   exact ⟨rfl,h⟩
  ·cases h
 | [],_ :: _,_,h=>by cases h
 | .undef :: _,_,_,h=>by cases h
 | .int _ _ :: _,_,_,h=>by cases h
 | .bool _ :: _,_,_,h=>by cases h
 | .nil :: _,_,_,h=>by cases h
 | .view _ _ :: _,_,_,h=>by cases h
 | .viewN _ _ :: _,_,_,h=>by cases h
 | .own _ :: _,_,_,h=>by cases h
 | .part _ _ _ _ :: _,_,_,h=>by cases h
 | .box _ _ :: _,_,_,h=>by cases h
 | .elem _ _ _ _ :: _,_,_,h=>by cases h
 | .vis _ _ _ :: _,_,_,h=>by cases h
 | .fnd _ _ _ :: _,_,_,h=>by cases h
 | .fn _ _ :: _,[],_,h=>by cases h
 | .fn _ _ :: _,.undef :: _,_,h=>by cases h
 | .fn _ _ :: _,.int _ _ :: _,_,h=>by cases h
 | .fn _ _ :: _,.bool _ :: _,_,h=>by cases h
 | .fn _ _ :: _,.nil :: _,_,h=>by cases h
 | .fn _ _ :: _,.view _ _ :: _,_,h=>by cases h
 | .fn _ _ :: _,.viewN _ _ :: _,_,h=>by cases h
 | .fn _ _ :: _,.own _ :: _,_,h=>by cases h
 | .fn _ _ :: _,.part _ _ _ _ :: _,_,h=>by cases h
 | .fn _ _ :: _,.box _ _ :: _,_,h=>by cases h
 | .fn _ _ :: _,.elem _ _ _ _ :: _,_,h=>by cases h
 | .fn _ _ :: _,.vis _ _ _ :: _,_,h=>by cases h
 | .fn _ _ :: _,.fnd _ _ _ :: _,_,h=>by cases h
theorem Ge {l:Leaf} {r:List Leaf} (h:EL (l :: r)=true):∃ f cs,l=.fn f cs∧EL r=true:=by
 cases l <;> first | exact ⟨_,_,rfl,h⟩ | cases h
theorem Ps {σb:Hd→aS}:∀ {fl:List Leaf} {vs:List Value},EL fl=true→(∀ q∈qj fl,(σ q).b=(σb q).b)→LRs P σb Imm w fl vs→LRs P σ Imm w fl vs
 | [],_,_,_,h=>h
 | l :: r,_,ho,hc,⟨v,u,e,h1,h2⟩=>by
  obtain ⟨f,cs,rfl,ho⟩:=Ge ho
  refine ⟨v,u,e,?_,Ps ho (fun q hq=>hc q (by simp [qj,hq])) h2⟩
  have h1:v=.func (.func f) #[] (cs.map fun o=>Value.pointer (some ⟨(σb o).b,0,none⟩)).toArray:=h1
  show v=.func (.func f) #[] (cs.map fun o=>Value.pointer (some ⟨(σ o).b,0,none⟩)).toArray
  rw [h1]
  congr 2
  exact List.map_congr_left fun o ho=>by rw [hc o (by simp [qj,ho])]
theorem CQ:∀ (a b:List Leaf),aN (a++b)=aN a++aN b
 | [],_=>rfl
 | l :: r,b=>by simp only [List.cons_append,aN,CQ r b,List.append_assoc]
theorem M0:∀ {fl:List Leaf},EL fl=true→aN fl=qj fl
 | [],_=>rfl
 | l :: r,h=>by
  obtain ⟨f,cs,rfl,ho⟩:=Ge h
  simp only [aN,qj,Leaf.hds,M0 ho]
theorem oE {h:List (List aw)}:∀ {l:List Hd},oZ h l=true→∀ q∈l,(aj h q).there=true
 | [],_,_,hq=>by cases hq
 | p :: r,hl,q,hq=>by
  unfold oZ at hl
  split at hl
  ·cases hl
  ·rename_i hn
   rcases List.mem_cons.1 hq with rfl | hq
   ·cases hx:aj h q with
    | none=>exact absurd hx hn
    | _=>rfl
   ·exact oE hl q hq
theorem cT.one {ws:List (Hd×aw)} (hw:dF st ws) {q:Hd} (hq:q ∉ aq ws) (hl:(aj st.h q).live=true) (hr:(aj st.h q).ro=false) (hn:(σ q).fp.Nodup):cT σ st ws ((q,.dead) :: ws) (σ q).fp :=
 ⟨hw.cons hq hl hr,⟨[q],rfl,fun b hb=>⟨q,by simp,hb⟩⟩,hn⟩
theorem kQ {R:Type} {r:R} (R0:Rel P M w0 σ Imm st a w) {p:Place} {ws:List (Hd×aw)} {κ:p.ty.D→List (Hd×aw)→Option R} (hw:dF st ws) (h:qk st p ws κ=some r) :
  ∃ x ws' fp,κ x ws'=some r∧MY P σ Imm a w p x fp∧cT σ st ws ws' fp:=by
 cases p with
 | tmp i t =>
  simp only [qk] at h
  obtain ⟨ls,us,h1,h2,h3,h4⟩:=gV (R0.tm i) h
  obtain ⟨x,rest,os,v1,v2,k1,k2,k3,k4,k5,k6⟩:=ee R0 h2 (by rw [h3];exact R0.ct i) h1
  obtain ⟨e1,e2,k1⟩:=IE k1
  subst e1;subst e2
  cases k3
  simp only [List.append_nil] at k2
  subst k2
  exact ⟨x,ws,[],k1,⟨rfl,us,k5.imm fun b=>eT.nil,h4⟩,cT.refl hw⟩
 | tmpO i j t =>
  simp only [qk] at h
  obtain ⟨ls,us,h1,h2,h3,h4⟩:=gV (R0.tm i) h
  obtain ⟨x,rest,ws',fp,v1,v2,k1,k2,k3,k4,k5⟩:=d9 R0 h2 hw h1
  obtain ⟨e1,k1⟩:=le k1
  subst e1
  cases k3
  simp only [List.append_nil] at k2
  subst k2
  exact ⟨x,ws',fp,k1,⟨us,k4,h4⟩,k5⟩
 | box d j t =>
  simp only [qk] at h
  split at h
  ·rename_i cs ho hh
   have hob:=R0.ob (d,j)
   rw [ho] at hob
   obtain ⟨c,ty,h1,h2,h3⟩:=hob
   obtain ⟨x,rest,os,v1,v2,k1,k2,k3,k4,k5,k6⟩:=ee R0 h2 (R0.cb _ _ _ ho) h
   obtain ⟨e1,e2,k1⟩:=IE k1
   subst e1;subst e2
   cases k3
   simp only [List.append_nil] at k2
   have hl:(aj st.h (d,j)).live=true:=by rw [ho];rfl
   refine ⟨x,_,_,k1,⟨c,ty,h1,by rw [k2];exact k5.imm fun b=>eT.nil,rfl,h3⟩,?_⟩
   rw [← h3]
   exact cT.one hw (iC hh) hl (by rw [ho];rfl) (R0.nd _ hl).1
  ·cases h
 | boxO d j k t fl =>
  simp only [qk] at h
  split at h
  ·rename_i cs ho hh
   have hob:=R0.ob (d,j)
   rw [ho] at hob
   obtain ⟨c,ty,h1,h2,h3⟩:=hob
   have hl:(aj st.h (d,j)).live=true:=by rw [ho];rfl
   have ht:=cT.one hw (iC hh) hl (by rw [ho];rfl) (R0.nd _ hl).1
   obtain ⟨x,rest,ws',fp,v1,v2,k1,k2,k3,k4,k5⟩:=d9 R0 h2 ht.ok h
   obtain ⟨e1,k1⟩:=MZ k1
   subst e1
   refine ⟨x,_,_,k1,⟨c,ty,fp,v1,v2,h1,k2,k3,k4,rfl,h3⟩,?_⟩
   have:=ht.trans R0 k5
   rw [h3] at this
   exact this
  ·cases h
theorem Gf {R:Type} {r:R} (R0:Rel P M w0 σ Imm st a w):∀ {l:List Place} {ws:List (Hd×aw)} {κ:(PS l).D→List (Hd×aw)→Option R},dF st ws→vE st l ws κ=some r →
  ∃ x ws' fp,κ x ws'=some r∧NH P σ Imm a w l x fp∧cT σ st ws ws' fp
 | [],ws,κ,hw,h=>⟨(),ws,[],h,rfl,cT.refl hw⟩
 | [p],ws,κ,hw,h=>kQ R0 hw h
 | p :: q :: l,ws,κ,hw,h=>by
  simp only [vE] at h
  obtain ⟨x,ws1,f1,h1,h2,h3⟩:=kQ R0 hw h
  obtain ⟨y,ws2,f2,k1,k2,k3⟩:=Gf R0 h3.ok h1
  exact ⟨(x,y),ws2,f1++f2,k1,⟨f1,f2,rfl,h2,k2⟩,h3.trans R0 k3⟩
theorem zR {α R:Type} {r:R} {l:List α} {n:Nat} {v:α} {κ:List α→Option R} (h:ND l n v κ=some r):n < l.length∧κ (l.set n v)=some r:=by
 induction l generalizing n κ with
 | nil=>simp [ND] at h
 | cons a l ih=>cases n with
  | zero=>exact ⟨by simp,by simpa [ND] using h⟩
  | succ n =>
   obtain ⟨h1,h2⟩:=ih (by simpa [ND] using h)
   exact ⟨by simpa using h1,by simpa using h2⟩
theorem Rel.setT (R:Rel P M w0 σ Imm st a w) {i:Nat} {v:AV} (hi:i < st.t.length) (hv:AVR P σ Imm w v (a.tmps.getD i undef)) (hc:aK st.h v.hds):Rel P M w0 σ Imm { st with t:=st.t.set i v } a w:=by
 have hg:∀ k,cZ (st.t.set i v) k=if i=k then v else cZ st.t k:=fun k=>Cx _ _ _ _ hi
 refine ⟨by simp [R.len],by simp [R.hlen],R.defers,fun k=>?_,R.ob,fun k=>?_,R.cb,R.nd,R.dj,R.imm,R.keep⟩
 ·simp only [hg];split
  ·rename_i e;subst e;exact hv
  ·exact R.tm k
 ·simp only [hg];split
  ·exact hc
  ·exact R.ct k
def IF (M:Nat→Prop) (w0:World) (σ:Hd→aS) (Imm:Nat→Prop) (st:St) (b:Nat):Prop :=
 ¬ Imm b∧(w0.heap.size≤b∨M b)∧∀ q,(aj st.h q).live=true→b ∉ (σ q).fp
theorem Rel.setB (R:Rel P M w0 σ Imm st a w) {q:Hd} (hq:aj st.h q=.dead) {ls:List Leaf} {c:Array Value} {ty:TypeId} (hh:w.heap[(σ q).b]?=some (.cells c ty (0,0))) (hr:LRs P σ Imm w ls c.toList) (hc:aK st.h (aN ls))
  (hfp:(σ q).fp=[(σ q).b]) (hf:IF M w0 σ Imm st (σ q).b):Rel P M w0 σ Imm { st with h:=rs st.h q (.box false ls) } a w∧∀ q',aj (rs st.h q (.box false ls)) q'=if q=q' then .box false ls else aj st.h q':=by
 have hg:∀ q',aj (rs st.h q (.box false ls)) q'=if q=q' then .box false ls else aj st.h q':=Ez _ (by rw [hq];rfl)
 have hth:∀ o,(aj st.h o).there=true→(aj (rs st.h q (.box false ls)) o).there=true:=by
  intro o ho;rw [hg];split
  ·rfl
  ·exact ho
 refine ⟨⟨R.len,by simp [xW,R.hlen],R.defers,R.tm,fun o=>?_,fun k=>(R.ct k).mono hth,fun o ro ls' e=>?_,fun o ho=>?_,fun o o' hne h1 h2=>?_,R.imm,R.keep⟩,hg⟩
 ·simp only [hg];split
  ·rename_i e;subst e;exact ⟨c,ty,hh,hr,hfp⟩
  ·exact R.ob o
 ·simp only [hg] at e
  split at e
  ·cases e;exact hc.mono hth
  ·exact (R.cb o ro ls' e).mono hth
 ·simp only [hg] at ho
  split at ho
  ·rename_i e;subst e
   rw [hfp]
   exact ⟨by simp,fun b hb=>by simp at hb;subst hb;exact ⟨hf.1,hf.2.1⟩⟩
  ·exact R.nd o ho
 ·simp only [hg] at h1 h2
  split at h1
  ·rename_i e;subst e
   rw [if_neg hne] at h2
   rw [hfp]
   intro b hb
   simp at hb;subst hb
   exact hf.2.2 o' h2
  ·rename_i hne1
   split at h2
   ·rename_i e;subst e
    rw [hfp]
    intro b hb hb2
    simp at hb2;subst hb2
    exact hf.2.2 o h1 hb
   ·exact R.dj o o' hne h1 h2
theorem zS {R:Type} {r:R}:∀ {n:Nat} {l:List aw} {κ:List aw→Option R},QV n l κ=some r→∃ m,l.length + m=n∧κ (l++List.replicate m .dead)=some r
 | 0,[],κ,h=>⟨0,rfl,h⟩
 | 0,_ :: _,κ,h=>by cases h
 | n + 1,[],κ,h=>by
  obtain ⟨m,h1,h2⟩:=zS (n:=n) (l:=[]) (by simpa only [QV] using h)
  exact ⟨m + 1,by simp at h1 ⊢;omega,by simpa [List.replicate_succ] using h2⟩
 | n + 1,a :: l,κ,h=>by
  obtain ⟨m,h1,h2⟩:=zS (n:=n) (l:=l) (by simpa only [QV] using h)
  exact ⟨m,by simp;omega,by simpa using h2⟩
theorem Rel.grow (R:Rel P M w0 σ Imm st a w) {i m:Nat} (hi:i < st.h.length) {objs:List aw} {φs:List aS} (hn:gu P Imm w objs φs) (hnd:(φs.map (·.fp)).flatten.Nodup) (hf:∀ b∈(φs.map (·.fp)).flatten,IF M w0 σ Imm st b) :
  ∃ σ',(∀ j p,φs[j]?=some p→σ' (i,(bx st.h i).length + m + j)=p)∧(∀ q,(aj st.h q).there=true→σ' q=σ q) ∧
   (∀ q,(aj (st.h.set i (bx st.h i++List.replicate m .dead++objs)) q).live=false→σ' q=σ q) ∧
   Rel P M w0 σ' Imm { st with h:=st.h.set i (bx st.h i++List.replicate m .dead++objs) } a w ∧
   (∀ q,(aj st.h q).there=true→aj (st.h.set i (bx st.h i++List.replicate m .dead++objs)) q=aj st.h q) ∧
   (∀ j,j < objs.length→(aj (st.h.set i (bx st.h i++List.replicate m .dead++objs)) (i,(bx st.h i).length + m + j)).there=true) ∧
   (∀ q,(aj (st.h.set i (bx st.h i++List.replicate m .dead++objs)) q).live=true→((aj st.h q).live=true∧σ' q=σ q)∨∀ b∈(σ' q).fp,b∈(φs.map (·.fp)).flatten):=by
 have hlen:=hn.length
 let k:=(bx st.h i).length + m
 let h':=st.h.set i (bx st.h i++List.replicate m .dead++objs)
 let σ':Hd→aS:=fun q=>if i=q.1∧k≤q.2 then φs.getD (q.2 - k) (σ q) else σ q
 have hget:∀ q,aj h' q=if i=q.1 then gn (bx st.h i++List.replicate m .dead++objs) q.2 else aj st.h q:=fun q=>CB hi q
 have hcase:∀ q,(aj h' q=aj st.h q∧(i≠q.1∨q.2 < (bx st.h i).length))∨(i=q.1∧(bx st.h i).length≤q.2∧aj st.h q=.none∧((q.2 < k∧aj h' q=.dead)∨(k≤q.2∧((objs.length≤q.2 - k∧aj h' q=.none)∨∃ x,objs[q.2 - k]?=some x∧aj h' q=x)))):=by
  intro q
  rw [hget]
  by_cases e:i=q.1
  ·rw [if_pos e]
   rcases Nat.lt_or_ge q.2 (bx st.h i).length with h1 | h1
   ·left
    refine ⟨?_,.inr h1⟩
    rw [gr,List.getD_eq_getElem?_getD,List.append_assoc,List.getElem?_append_left h1]
    unfold aj
    rw [gr,List.getD_eq_getElem?_getD,e]
   ·right
    refine ⟨e,h1,?_,?_⟩
    ·unfold aj
     rw [gr,List.getD_eq_getElem?_getD,← e,List.getElem?_eq_none h1];rfl
    ·rcases Nat.lt_or_ge q.2 k with h2 | h2
     ·left
      refine ⟨h2,?_⟩
      rw [gr,List.getD_eq_getElem?_getD,List.getElem?_append_left (by simp;exact h2),List.getElem?_append_right h1,List.getElem?_replicate,if_pos (by simp only [k] at h2;omega)]
      rfl
     ·right
      refine ⟨h2,?_⟩
      rw [gr,List.getD_eq_getElem?_getD,List.getElem?_append_right (by simp;exact h2)]
      have hk:(bx st.h i++List.replicate m aw.dead).length=k:=by simp [k]
      rw [hk]
      cases hx:objs[q.2 - k]? with
      | none=>left;exact ⟨by simpa using hx,rfl⟩
      | some x=>right;exact ⟨x,rfl,rfl⟩
  ·left;rw [if_neg e];exact ⟨rfl,.inl e⟩
 have hσold:∀ q,(i≠q.1∨q.2 < (bx st.h i).length)→σ' q=σ q:=by
  intro q hq
  simp only [σ']
  rw [if_neg]
  rintro ⟨h1,h2⟩
  rcases hq with hq | hq
  ·exact hq h1
  ·simp only [k] at h2;omega
 have hthere:∀ q,(aj st.h q).there=true→aj h' q=aj st.h q∧σ' q=σ q:=by
  intro q hq
  rcases hcase q with ⟨h1,h2⟩ | ⟨h1,h2,h3,_⟩
  ·exact ⟨h1,hσold q h2⟩
  ·rw [h3] at hq;cases hq
 have hnew:∀ q,(aj h' q).live=true→((aj st.h q).live=true∧aj h' q=aj st.h q∧σ' q=σ q)∨(i=q.1∧k≤q.2∧∃ x p,objs[q.2 - k]?=some x∧φs[q.2 - k]?=some p∧aj h' q=x∧σ' q=p∧CG P Imm w x p):=by
  intro q hq
  rcases hcase q with ⟨h1,h2⟩ | ⟨h1,h2,h3,h4⟩
  ·left;rw [h1] at hq;exact ⟨hq,h1,hσold q h2⟩
  ·right
   rcases h4 with ⟨_,h4⟩ | ⟨h4,h5⟩
   ·rw [h4] at hq;cases hq
   ·rcases h5 with ⟨_,h5⟩ | ⟨x,h5,h6⟩
    ·rw [h5] at hq;cases hq
    ·obtain ⟨p,h7,h8⟩:=hn.get h5
     refine ⟨h1,h4,x,p,h5,h7,h6,?_,h8⟩
     simp only [σ']
     rw [if_pos ⟨h1,h4⟩,List.getD_eq_getElem?_getD,h7];rfl
 have g:pU st.h σ σ' Imm Imm w w:=⟨fun q hq=>by rw [(hthere q hq).2];exact ⟨rfl,rfl⟩,fun b hb hl=>⟨hb,hl,rfl⟩⟩
 have hth:∀ o,(aj st.h o).there=true→(aj h' o).there=true:=fun o ho=>by rw [(hthere o ho).1];exact ho
 have hlt:∀ q,(aj st.h q).live=true→(aj st.h q).there=true:=by intro q;cases aj st.h q <;> simp [aw.live,aw.there]
 have hin:∀ {j:Nat} {p:aS},φs[j]?=some p→∀ b∈p.fp,b∈(φs.map (·.fp)).flatten:=fun {j p} hp b hb=>List.mem_flatten.2 ⟨p.fp,List.mem_map.2 ⟨p,List.mem_of_getElem? hp,rfl⟩,hb⟩
 refine ⟨σ',fun j p hp=>?_,fun q hq=>(hthere q hq).2,fun q hq=>?_,⟨R.len,by simp [R.hlen],R.defers,fun t=>(R.tm t).goes g (R.ct t),fun o=>?_,fun t=>(R.ct t).mono hth,fun o ro ls e=>?_,fun o ho=>?_,fun o o' hne h1 h2=>?_,R.imm,R.keep⟩,fun q hq=>(hthere q hq).1,fun j hj=>?_,fun q hq=>?_⟩
 ·simp only [σ']
  rw [if_pos ⟨trivial,by simp only [k];omega⟩]
  have:(bx st.h i).length + m + j - k=j:=by simp only [k];omega
  rw [this,List.getD_eq_getElem?_getD,hp];rfl
 ·rcases hcase q with ⟨_,h2⟩ | ⟨h1,h2,h3,h4⟩
  ·exact hσold q h2
  ·rcases h4 with ⟨h4,_⟩ | ⟨h4,h5⟩
   ·simp only [σ'];rw [if_neg (by rintro ⟨_,h⟩;omega)]
   ·rcases h5 with ⟨h5,_⟩ | ⟨x,h5,h6⟩
    ·simp only [σ']
     rw [if_pos ⟨h1,h4⟩,List.getD_eq_getElem?_getD,List.getElem?_eq_none (by omega)];rfl
    ·change (aj h' q).live=false at hq
     obtain ⟨p,h7,t,xs,h8,_⟩:=hn.get h5
     rw [h6,h8] at hq;cases hq
 ·show ObR P σ' Imm w o (aj h' o)
  cases hl:(aj h' o).live with
  | true =>
   rcases hnew o hl with ⟨h1,h2,h3⟩ | ⟨h1,h2,x,p,h3,h4,h5,h6,t,xs,h7,h8,h9⟩
   ·rw [h2]
    exact (R.ob o).goes g (fun _=>h3) (fun ro ls e=>R.cb o ro ls e) (fun _ _ _=>rfl)
   ·rw [h5,h7]
    show Own P Imm _ _ _ _ _∧_
    rw [h6]
    exact ⟨h8,h9⟩
  | false=>cases hx:aj h' o <;> first | trivial | (rw [hx] at hl;cases hl)
 ·change aj h' o=.box ro ls at e
  rcases hnew o (by rw [e];rfl) with ⟨h1,h2,h3⟩ | ⟨h1,h2,x,p,h3,h4,h5,h6,t,xs,h7,h8⟩
  ·rw [h2] at e
   exact (R.cb o ro ls e).mono hth
  ·rw [h5,h7] at e;cases e
 ·change (aj h' o).live=true at ho
  rcases hnew o ho with ⟨h1,h2,h3⟩ | ⟨h1,h2,x,p,h3,h4,h5,h6,h7⟩
  ·rw [h3];exact R.nd o h1
  ·rw [h6]
   refine ⟨(List.pairwise_flatten.1 hnd).1 _ (List.mem_map.2 ⟨p,List.mem_of_getElem? h4,rfl⟩),fun b hb=>?_⟩
   have:=hf b (hin h4 b hb)
   exact ⟨this.1,this.2.1⟩
 ·change (aj h' o).live=true at h1
  change (aj h' o').live=true at h2
  intro b hb hb2
  rcases hnew o h1 with ⟨k1,k2,k3⟩ | ⟨k1,k2,x,p,k3,k4,k5,k6,k7⟩
  ·rcases hnew o' h2 with ⟨l1,l2,l3⟩ | ⟨l1,l2,y,p',l3,l4,l5,l6,l7⟩
   ·rw [k3] at hb;rw [l3] at hb2
    exact R.dj o o' hne k1 l1 b hb hb2
   ·rw [k3] at hb;rw [l6] at hb2
    exact (hf b (hin l4 b hb2)).2.2 o k1 hb
  ·rcases hnew o' h2 with ⟨l1,l2,l3⟩ | ⟨l1,l2,y,p',l3,l4,l5,l6,l7⟩
   ·rw [k6] at hb;rw [l3] at hb2
    exact (hf b (hin k4 b hb)).2.2 o' l1 hb2
   ·rw [k6] at hb;rw [l6] at hb2
    have hne2:o.2 - k≠o'.2 - k:=fun e=>hne (Prod.ext (k1.symm.trans l1) (by omega))
    have hpw:=List.pairwise_iff_getElem.1 (List.pairwise_flatten.1 hnd).2
    have e1:(φs.map (·.fp))[o.2 - k]?=some p.fp:=by simp [k4]
    have e2:(φs.map (·.fp))[o'.2 - k]?=some p'.fp:=by simp [l4]
    obtain ⟨hi1,hi2⟩:=List.getElem?_eq_some_iff.1 e1
    obtain ⟨hj1,hj2⟩:=List.getElem?_eq_some_iff.1 e2
    rcases Nat.lt_or_gt_of_ne hne2 with h | h
    ·exact hpw _ _ hi1 hj1 h b (by rw [hi2];exact hb) b (by rw [hj2];exact hb2) rfl
    ·exact hpw _ _ hj1 hi1 h b (by rw [hj2];exact hb2) b (by rw [hi2];exact hb) rfl
 ·show (aj h' _).there=true
  rcases hcase (i,(bx st.h i).length + m + j) with ⟨h1,h2⟩ | ⟨h1,h2,h3,h4⟩
  ·rcases h2 with h2 | h2
   ·exact absurd rfl h2
   ·simp at h2;omega
  ·rcases h4 with ⟨h4,h5⟩ | ⟨h4,h5⟩
   ·rw [h5];rfl
   ·rcases h5 with ⟨h5,_⟩ | ⟨x,h5,h6⟩
    ·simp only [k] at h5;omega
    ·obtain ⟨p,_,t,xs,h8,_⟩:=hn.get h5
     rw [h6,h8];rfl
 ·change (aj h' q).live=true at hq
  rcases hnew q hq with ⟨h1,h2,h3⟩ | ⟨h1,h2,x,p,h3,h4,h5,h6,h7⟩
  ·exact .inl ⟨h1,h3⟩
  ·right;rw [h6];exact hin h4
end
end Go.Abs
