/- Part of a proof of FnExactPlay: see the row. -/
import Derived.Test.YtenadnbpibhmiaaGreatPlAbsOps3
set_option linter.unusedVariables false
set_option linter.unusedSimpArgs false
namespace Go.Abs
open Go.RowKit
def VT (k:TK) (us:List Value) (v:Value):Prop:=(iB k=true∧v=.agg us.toArray)∨(iB k=false∧us=[v])
section
variable {P:Program} {σ:Hd→aS} {Imm:Nat→Prop} {w:World}
theorem O5 {t:Nat} {ti:TI} (ht:EA P t ti) {us:List Value} {off:Nat} {v:Value} (h:VT ti.k ((us.drop off).take ti.n) v):(part t us.toArray off).run P w=.ok v w:=by
 obtain ⟨i,z,hi,hn,_⟩:=ht.info
 obtain ⟨d,hd,hg⟩:=ht.k.agg
 have hag:=EB (P:=P) (w:=w) hd
 rcases h with ⟨hk,rfl⟩ | ⟨hk,h⟩
 ·have:us.toArray.extract off (off + ti.n)=((us.drop off).take ti.n).toArray:=by
   simp [List.extract_toArray,List.extract_eq_take_drop]
  rw [hk] at hg
  simp [part,hag,hg,sizeOf,typeInfo,hi,hn,this]
 ·have hget:us[off]?=some v:=by
   have:=congrArg (fun l=>l[0]?) h
   simp only [List.getElem?_take,List.getElem?_drop,Nat.add_zero,List.getElem?_cons_zero] at this
   split at this
   ·exact this
   ·cases this
  rw [hk] at hg
  simp [part,hag,hg,hget]
theorem SZ {T:Tab} {f t:Nat} {ti:TI} {cs ds:List Leaf} {e:Bool} (hl:iu T t=some ti) (h:Nl T f t cs ds=some e):iB ti.k=true∨(∃ a,cs=[a])∧∃ b,ds=[b]:=by
 cases f with
 | zero=>simp [Nl] at h
 | succ f =>
  rw [Nl,hl] at h
  simp only [] at h
  split at h
  ·exact .inr ⟨⟨_,rfl⟩,⟨_,rfl⟩⟩
  ·exact .inr ⟨⟨_,rfl⟩,⟨_,rfl⟩⟩
  ·rename_i hk;left;rw [hk];rfl
  ·cases h
theorem UW {k:TK} {cs:List Leaf} {us:List Value} (hr:LRs P σ Imm w cs us) (h:iB k=true∨∃ a,cs=[a]):∃ v,VT k us v:=by
 by_cases hk:iB k=true
 ·exact ⟨_,.inl ⟨hk,rfl⟩⟩
 ·rcases h with h | ⟨a,rfl⟩
  ·exact absurd h hk
  ·obtain ⟨v,r,rfl,_,hq⟩:=hr
   cases hq
   exact ⟨v,.inr ⟨by simpa using hk,rfl⟩⟩
theorem S0 {T:Tab} (hT:fU P T):∀ f:Nat,
  (∀ t ti cs ds us vs u v e d,iu T t=some ti→Nl T f t cs ds=some e→LRs P σ Imm w cs us→LRs P σ Imm w ds vs→VT ti.k us u→VT ti.k vs v→f≤d→(Op.equalIn d t u v).run P w=.ok e w) ∧
  (∀ (F:List Field) fs cs ds us vs e d,F.map (fun f=>(f.offset,f.type))=fs→(∀ f∈F,f.name ≠ "_")→QC T f fs cs ds=some e→LRs P σ Imm w cs us→LRs P σ Imm w ds vs→f≤d→(Op.eqFields d us.toArray vs.toArray F).run P w=.ok e w):=by
 intro f
 induction f with
 | zero =>
  refine ⟨fun _ _ _ _ _ _ _ _ _ _ _ h=>by simp [Nl] at h,fun F fs cs ds us vs e d hF hn h _ _ _=>?_⟩
  cases F with
  | nil=>subst hF;simp [QC] at h;subst h;simp [Op.eqFields]
  | cons f F=>subst hF;simp [QC] at h
 | succ f ih =>
  constructor
  ·intro t ti cs ds us vs u v e d hl h hr1 hr2 hv1 hv2 hd
   obtain ⟨d,rfl⟩:∃ m,d=m + 1:=⟨d - 1,by omega⟩
   have hk:=(hT t ti hl).k
   rw [Nl,hl] at h
   simp only [] at h
   split at h
   ·rename_i _ _ _ k0 k a k' b hki
    rw [hki] at hk hv1 hv2
    rcases hv1 with ⟨hv1,_⟩ | ⟨_,rfl⟩
    ·simp [iB] at hv1
    rcases hv2 with ⟨hv2,_⟩ | ⟨_,rfl⟩
    ·simp [iB] at hv2
    obtain ⟨_,_,e1,e2,_⟩:=hr1
    obtain ⟨_,_,e3,e4,_⟩:=hr2
    cases e1
    cases e3
    have e2':u=.int k a:=e2
    have e4':v=.int k' b:=e4
    subst e2' e4'
    split at h
    ·cases h
     exact run_equalIn_int w d t k k0 a b (by rename_i hkk;exact hk) |> fun x=>by rename_i hkk;subst hkk;exact x
    ·cases h
   ·rename_i _ _ _ a b hki
    rw [hki] at hk hv1 hv2
    rcases hv1 with ⟨hv1,_⟩ | ⟨_,rfl⟩
    ·simp [iB] at hv1
    rcases hv2 with ⟨hv2,_⟩ | ⟨_,rfl⟩
    ·simp [iB] at hv2
    obtain ⟨_,_,e1,e2,_⟩:=hr1
    obtain ⟨_,_,e3,e4,_⟩:=hr2
    cases e1
    cases e3
    have e2':u=.bool a:=e2
    have e4':v=.bool b:=e4
    subst e2' e4'
    cases h
    exact run_equalIn_bool' w d t a b hk
   ·rename_i _ _ _ fs hki
    rw [hki] at hk hv1 hv2
    rcases hv1 with ⟨_,rfl⟩ | ⟨hv1,_⟩
    rotate_left
    ·simp [iB] at hv1
    rcases hv2 with ⟨_,rfl⟩ | ⟨hv2,_⟩
    rotate_left
    ·simp [iB] at hv2
    obtain ⟨F,h1,h2,_,h4,_,h6⟩:=hk
    have hfo:P.fieldsOf t=F:=by simp [Program.fieldsOf,h1]
    rw [run_equalIn_struct w d t us.toArray vs.toArray (by rw [hfo];exact h1) h4,hfo]
    exact ih.2 F.toList fs _ _ us vs e d h2 h6 h hr1 hr2 (by omega)
   ·cases h
  ·intro F fs cs ds us vs e d hF hn h hr1 hr2 hd
   cases F with
   | nil=>subst hF;simp [QC] at h;subst h;simp [Op.eqFields]
   | cons fl F =>
    subst hF
    rw [List.map_cons,QC] at h
    split at h
    ·rename_i tf hl
     split at h
     ·rename_i a b ha hb
      cases h
      rw [O0,ru,O0,ru] at ha
      have hx:=SZ hl ha
      have r1:=(hr1.drop fl.offset).take tf.n
      have r2:=(hr2.drop fl.offset).take tf.n
      obtain ⟨u,hu⟩:=UW r1 (hx.imp id fun h=>h.1)
      obtain ⟨v,hv⟩:=UW r2 (hx.imp id fun h=>h.2)
      have e1:=ih.1 fl.type tf _ _ _ _ u v a d hl ha r1 r2 hu hv (by omega)
      have e2:=ih.2 F _ cs ds us vs b d rfl (fun x hx=>hn x (by simp [hx])) hb hr1 hr2 (by omega)
      have p1:=O5 (w:=w) (hT _ _ hl) hu
      have p2:=O5 (w:=w) (hT _ _ hl) hv
      have hne:=hn fl (by simp)
      simp only [Op.eqFields,ne_eq,hne,not_false_eq_true,if_true,Sem.run_bind,p1,p2,Result.andThen_ok,e1,Sem.run_ite]
      cases a
      ·simp
      ·simp [e2]
     ·cases h
    ·cases h
end
section
variable {P:Program} {M:Nat→Prop} {w0:World} {σ:Hd→aS} {Imm:Nat→Prop} {st:St} {a:Act} {w:World} {o:Oper} {E:Env}
theorem S1 {R:Type} {r:R} {op:BinOp} {t t':Nat} {x y:Operand} {cs ds:List Leaf} {e:Bool} {ti:TI} {fs:List (Nat×Nat)} {κ:Dl→Option R} (R0:Rel P M w0 σ Imm st a w) (hd:∀ i,o.dst=some i→i < st.t.length) (hT:fU P E.T)
  (ho:o.op=.binOp op t x y t') (hx:val st x=.agg cs) (hy:val st y=.agg ds) (hl:iu E.T t=some ti) (hki:ti.k=.struct fs) (he:Nl E.T 100 t cs ds=some e) (h:(match (generalizing:=false) op with
    | .eql=>κ { v:=.leaf (.bool e) }
    | .neq=>κ { v:=.leaf (.bool (!e)) }
    | _=>none)=some r):∃ δ,κ δ=some r∧aU P M w0 o st a w σ Imm δ:=by
 have hvx:=R0.av x
 have hvy:=R0.av y
 rw [hx] at hvx
 rw [hy] at hvy
 obtain ⟨us,ex,rx⟩:=hvx
 obtain ⟨vs,ey,ry⟩:=hvy
 have hk:=(hT t ti hl).k
 have hag:iB ti.k=true:=by rw [hki];rfl
 have hrun:=(S0 (σ:=σ) (Imm:=Imm) (w:=w) hT 100).1 t ti cs ds us vs (.agg us.toArray) (.agg vs.toArray) e 10000 hl he rx ry (.inl ⟨hag,rfl⟩) (.inl ⟨hag,rfl⟩) (by omega)
 rw [hki] at hk
 obtain ⟨F,_,_,_,_,hm,_⟩:=hk
 have hg:=run_eqGuard_agg (P:=P) w op t x y us.toArray vs.toArray hm
 cases op
 case eql =>
  refine ⟨_,h,aU.value R0 hd (v:=.bool e) ?_ rfl (fun _ h=>by cases h) aA⟩
  simp only [execOp,ho,ex,ey,Sem.run_bind,hg,Result.andThen_ok,run_eql_struct,hrun]
  simp
 case neq =>
  refine ⟨_,h,aU.value R0 hd (v:=.bool (!e)) ?_ rfl (fun _ h=>by cases h) aA⟩
  simp only [execOp,ho,ex,ey,Sem.run_bind,hg,Result.andThen_ok,run_neq_struct,hrun]
  simp
 all_goals cases h
theorem U8 {x y:Operand} {k k':IntKind} {n m:Int} {c:Call} (R:Rel P M w0 σ Imm st a w) (hd:∀ i,o.dst=some i→i < st.t.length)
  (ho:o.op=.call c) (hcal:c.callee=.builtin .max) (hargs:c.args.toList=[x,y]) (hx:val st x=.leaf (.int k n)) (hy:val st y=.leaf (.int k' m)) :
  aU P M w0 o st a w σ Imm { v:=.leaf (.int k (if m > n then m else n)) }:=by
 have ex:=R.avI hx
 have ey:=R.avI hy
 have ha:c.args=#[x,y]:=by rw [← Array.toArray_toList (xs:=c.args),hargs]
 refine aU.value R hd (v:=.int k (if m > n then m else n)) ?_ rfl (fun _ h=>by cases h) aA
 simp [execOp,ho,resolve,hcal,ha,invoke,builtin,Builtin.max_,Builtin.max2,ex,ey]
theorem U9 {x y:Operand} {k k':IntKind} {n m:Int} {c:Call} (R:Rel P M w0 σ Imm st a w) (hd:∀ i,o.dst=some i→i < st.t.length)
  (ho:o.op=.call c) (hcal:c.callee=.builtin .min) (hargs:c.args.toList=[x,y]) (hx:val st x=.leaf (.int k n)) (hy:val st y=.leaf (.int k' m)) :
  aU P M w0 o st a w σ Imm { v:=.leaf (.int k (if m < n then m else n)) }:=by
 have ex:=R.avI hx
 have ey:=R.avI hy
 have ha:c.args=#[x,y]:=by rw [← Array.toArray_toList (xs:=c.args),hargs]
 refine aU.value R hd (v:=.int k (if m < n then m else n)) ?_ rfl (fun _ h=>by cases h) aA
 simp [execOp,ho,resolve,hcal,ha,invoke,builtin,Builtin.min_,Builtin.min2,ex,ey]
end
end Go.Abs
