/- Part of a proof of FnExactPlay: see the row. -/
import Derived.Test.YtenadnbpibhmiaaGreatPlAbsOps12
set_option linter.unusedVariables false
set_option linter.unusedSimpArgs false
namespace Go.Abs
open Go.RowKit
section
variable {P:Program} {M:Nat→Prop} {w0:World} {σ:Hd→aS} {Imm:Nat→Prop} {st:St} {a:Act} {w:World} {o:Oper} {E:Env}
theorem Rel.avs (R:Rel P M w0 σ Imm st a w):∀ xs:List Operand,rv P σ Imm w (xs.map (val st)) (xs.map a.eval)
 | []=>rfl
 | x :: xs=>⟨_,_,rfl,R.av x,R.avs xs⟩
theorem lC.closed {ps:List Hd} (h:lC st [] ps):aK st.h ps:=fun q hq=>by
 rcases h.2 q hq with h | h
 ·cases h
 ·cases hx:aj st.h q <;> simp_all [aw.live,aw.there]
theorem eT.nil {b:Nat} (h:eT σ Imm [] b):Imm b:=by
 rcases h with h | ⟨_,hq,_⟩
 ·exact h
 ·cases hq
theorem EE (R0:Rel P M w0 σ Imm st a w) (hd:∀ i,o.dst=some i→i < st.t.length) {c:Call} {fo:Operand} {f:FuncId} {caps:Array Value} {us:List Value} {ps:List Hd} {r:Ty} {y:r.D} (one:Bool)
  (ho:o.op=.call c) (hc:c.callee=.value fo) (hf:a.eval fo=.func (.func f) #[] caps) (ha:c.args.toList.map a.eval=us) (hb:ff P f) (hs:aK st.h ps) (hfl:(r.flat || Bj ps)=true)
  (h:Calls P f (us.toArray++caps) w fun e w'=>bg aV w w'∧∃ cs',e=.returned (jF one r cs')∧Rd P r (fun b=>eT σ Imm ps b∨(w.heap.size≤b∧b < w'.heap.size)) w' cs' y)
  (x:AV) (hx:∀ Imm' w' cs',Rd P r Imm' w' cs' y→AVR P σ Imm' w' x (jF one r cs')) (hxh:x.hds=[]):aU P M w0 o st a w σ Imm { v:=x,rd:=ps }:=by
 refine ⟨⟨hs,fun _ _ h=>(by cases h),List.nodup_nil⟩,fun st' hap next Q hn=>?_⟩
 refine zL ho hc hf ha hb h fun e w' hq=>?_
 obtain ⟨hk,cs',rfl,hr⟩:=hq
 refine ⟨_,rfl,?_⟩
 have hr':Rd P r (fun b=>Imm b∨(w.heap.size≤b∧b < w'.heap.size)) w' cs' y:=by
  simp only [Bool.or_eq_true] at hfl
  rcases hfl with hfl | hfl
  ·exact hr.flatI hfl
  ·cases ps with
   | nil=>exact hr.imm fun b hb=>hb.imp eT.nil id
   | cons _ _=>simp [Bj] at hfl
 obtain ⟨r1,e1⟩:=R0.plain hd hap (v:=jF one r cs') (Imm':=fun b=>Imm b∨(w.heap.size≤b∧b < w'.heap.size)) hk (fun b h=>.inl h) (fun b h=>by
   rcases h with h | h
   ·exact Nat.lt_of_lt_of_le (R0.imm b h) hk.size
   ·exact h.2) (fun b hb h=>by
   rcases h with h | h
   ·exact h
   ·omega) (hx _ _ _ hr') (by rw [hxh];exact aA)
 exact hn _ _ _ _ r1 e1
theorem Ir (R0:Rel P M w0 σ Imm st a w) {d:Nat} (hdst:o.dst=some d) (hd:d < st.t.length) {c:Call} {fo:Operand} {f:FuncId} {caps:Array Value} {us:List Value} {ps:List Hd} {r:Ty} {y:r.D} (one:Bool)
  (ho:o.op=.call c) (hc:c.callee=.value fo) (hf:a.eval fo=.func (.func f) #[] caps) (ha:c.args.toList.map a.eval=us) (hb:ff P f) (hs:aK st.h ps)
  (h:Calls P f (us.toArray++caps) w fun e w'=>bg aV w w'∧∃ cs',e=.returned (jF one r cs')∧∃ fp,Own P aV r w' cs' y fp∧fp.Nodup∧∀ b∈fp,w.heap.size≤b)
  (x:AV) (n0:aw) (new:List aw) (hxh:∀ q∈x.hds,q.1=d∧q.2 < (n0 :: new).length)
  (hx:∀ w' cs' fp,Own P aV r w' cs' y fp→fp.Nodup→∃ φs,gu P aV w' (n0 :: new) φs∧(∀ b∈(φs.map (·.fp)).flatten,b∈fp)∧(φs.map (·.fp)).flatten.Nodup∧∀ σ',(∀ j p,φs[j]?=some p→σ' (d,j)=p)→AVR P σ' Imm w' x (jF one r cs')) :
  aU P M w0 o st a w σ Imm { v:=x,rd:=ps,new:=n0 :: new }:=by
 refine ⟨⟨hs,fun _ _ h=>(by cases h),List.nodup_nil⟩,fun st' hap next Q hn=>?_⟩
 refine zL ho hc hf ha hb h fun e w' hq=>?_
 obtain ⟨hk,cs',rfl,fp,hown,hnd,hge⟩:=hq
 refine ⟨_,rfl,?_⟩
 obtain ⟨φs,hno,hsub,hnd2,hrel⟩:=hx w' cs' fp hown hnd
 rw [hdst] at hap hn ⊢
 let φ:Nat→aS:=fun j=>φs.getD j ⟨undef,0,[]⟩
 have hφ:∀ j p,φs[j]?=some p→φ j=p:=fun j p h=>by simp [φ,List.getD_eq_getElem?_getD,h]
 have hJ:∀ j,(gn (n0 :: new) j).live=true→∃ y p,(n0 :: new)[j]?=some y∧gn (n0 :: new) j=y∧φs[j]?=some p∧φ j=p∧CG P aV w' y p:=by
  intro j hl
  rw [gr,List.getD_eq_getElem?_getD] at hl ⊢
  cases hy:(n0 :: new)[j]? with
  | none=>rw [hy] at hl;cases hl
  | some y =>
   obtain ⟨p,h1,h2⟩:=hno.get hy
   exact ⟨y,p,rfl,rfl,h1,hφ j p h1,h2⟩
 have hlen:=hno.length
 obtain ⟨r1,e1⟩:=R0.make hd hap (fun _ _ h=>(by cases h)) List.nodup_nil (v:=jF one r cs') (Imm':=Imm) (w':=w') φ (fun q=>if d=q.1 then φ q.2 else σ q) (fun q=>rfl)
  (R0.keep.trans (hk.mono fun _ _ h=>h.elim)) hk.size (fun _ h=>h) (fun b hb=>Nat.lt_of_lt_of_le (R0.imm b hb) hk.size) (fun _ _ h=>h) (fun b hb _=>hk.block b hb id)
  (hrel _ fun j p h=>by simp only [if_true];exact hφ j p h)
  (fun q hq=>.inr ⟨(hxh q hq).1,by
   have hlt:=(hxh q hq).2
   obtain ⟨p,h1,t,xs,h2,h3⟩:=hno.get (List.getElem?_eq_getElem hlt)
   rw [gr,List.getD_eq_getElem?_getD,List.getElem?_eq_getElem hlt,Option.getD_some,h2]
   rfl⟩)
  (fun j=>by
   cases hl:(gn (n0 :: new) j).live with
   | true =>
    obtain ⟨y,p,h1,h2,h3,h4,t,xs,h5,h6,h7⟩:=hJ j hl
    rw [h2,h5]
    simp only [ObR,if_true,h4]
    exact ⟨h6.imm fun _ h=>h.elim,h7⟩
   | false=>cases hx:gn (n0 :: new) j <;> first | trivial | (rw [hx] at hl;cases hl))
  (fun j ro ls e=>by
   obtain ⟨y,p,h1,h2,h3,h4,t,xs,h5,h6,h7⟩:=hJ j (by rw [e];rfl)
   rw [h2,h5] at e
   cases e)
  (fun j hl=>by
   obtain ⟨y,p,h1,h2,h3,h4,h5⟩:=hJ j hl
   rw [h4]
   have hm:p.fp∈φs.map (·.fp):=List.mem_map.2 ⟨p,List.mem_of_getElem? h3,rfl⟩
   have hin:∀ b∈p.fp,b∈(φs.map (·.fp)).flatten:=fun b hb=>List.mem_flatten.2 ⟨_,hm,hb⟩
   refine ⟨(List.pairwise_flatten.1 hnd2).1 _ hm,fun b hb=>⟨fun hi=>?_,.inl (hge b (hsub b (hin b hb)))⟩⟩
   have:=hge b (hsub b (hin b hb))
   have:=R0.imm b hi
   omega)
  (fun i j hij hi hj b hb hb2=>by
   obtain ⟨_,p,_,_,h3,h4,_⟩:=hJ i hi
   obtain ⟨_,p',_,_,h3',h4',_⟩:=hJ j hj
   rw [h4] at hb
   rw [h4'] at hb2
   have hpw:=(List.pairwise_flatten.1 hnd2).2
   have h1:(φs.map (·.fp))[i]?=some p.fp:=by simp [h3]
   have h2:(φs.map (·.fp))[j]?=some p'.fp:=by simp [h3']
   have:=List.pairwise_iff_getElem.1 hpw
   obtain ⟨hi1,hi2⟩:=List.getElem?_eq_some_iff.1 h1
   obtain ⟨hj1,hj2⟩:=List.getElem?_eq_some_iff.1 h2
   rcases Nat.lt_or_gt_of_ne hij with h | h
   ·exact this i j hi1 hj1 h b (by rw [hi2];exact hb) b (by rw [hj2];exact hb2) rfl
   ·exact this j i hj1 hi1 h b (by rw [hj2];exact hb2) b (by rw [hi2];exact hb) rfl)
 exact hn _ _ _ _ r1 e1
theorem S8 {R:Type} {r:R} {κ:Dl→Option R} (hE:aE P E) (R0:Rel P M w0 σ Imm st a w) (hd:∀ i,o.dst=some i→i < st.t.length) {c:Call} {fo:Operand} {t u:Ty} {p:t.D→Option u.D}
  (ho:o.op=.call c) (hc:c.callee=.value fo) (hf:val st fo=.leaf (.fnd t u p)) (h:(aJ E st.h t (c.args.toList.map (val st)) [] fun x os=>(p x).bind fun y=>match u.flat with
    | true=>cU u y [] fun cs=>κ { v:=cV u cs,rd:=os }
    | false=>none)=some r):∃ δ,κ δ=some r∧aU P M w0 o st a w σ Imm δ:=by
 have hfv:=R0.av fo
 rw [hf] at hfv
 obtain ⟨f,caps,e,hb,hcall⟩:=hfv
 simp only [List.cons.injEq,and_true] at e
 have hvc:∀ v∈c.args.toList.map (val st),aK st.h v.hds:=by
  intro v hv
  obtain ⟨x,_,rfl⟩:=List.mem_map.1 hv
  exact R0.vc x
 obtain ⟨x,ps,cs,k1,k2,k3,k4⟩:=fD hE R0 (R0.avs c.args.toList) hvc h
 cases hF:p x with
 | none=>rw [hF] at k1;cases k1
 | some y =>
  rw [hF,Option.bind_some] at k1
  split at k1
  ·rename_i hfl
   rw [aP] at k1
   refine ⟨_,k1,EE R0 hd true ho hc e k3 hb k4.closed (by rw [hfl];rfl) ?_ _ (fun I w' cs' hr=>eI hr.cells hr.length) (by rw [eJ,cR])⟩
   refine (hcall _ w cs x y (fun _ _ _=>rfl) k2 hF).mono fun e' w' hq=>?_
   obtain ⟨h1,cs',h2,h3⟩:=hq
   exact ⟨h1,cs',h2,h3.imm fun b hb=>hb.elim⟩
  ·cases k1
end
end Go.Abs
