/- Part of a proof of FnExactPlay: see the row. -/
import Derived.Test.YtenadnbpibhmiaaGreatPlAbsFrm3
import Derived.Orders
set_option linter.unusedVariables false
set_option linter.unusedSimpArgs false
namespace Go.Abs
open Go.RowKit
def Pi (dsts:List (Option Nat)) (o:Oper) (st:St) (b:Bool):Prop :=
 match o.guard with
 | none=>b=true
 | some (j,want)=>∃ t,dsts[j]?=some (some t)∧((∃ v,cZ st.t t=.leaf (.bool v)∧b=(want == v))∨(cZ st.t t=.skip∧b=false))
def It (E:Env) (dsts:List (Option Nat)) (o:Oper) (st:St) (δ:Dl):Prop :=
 ∃ b,Pi dsts o st b∧Ig st.h δ.wr=true∧(match b with
  | true=>dC E o st some=some δ∧Frm E o st δ
  | false=>δ={ v:=.skip })
theorem Pj {t:List AV} {i:Nat} {v:AV} (h:cZ t i=v) (hv:v≠.any):t.set i v=t:=by
 subst h
 rw [vz] at hv ⊢
 rcases Nat.lt_or_ge i t.length with h | h
 ·rw [List.getD_eq_getElem?_getD,List.getElem?_eq_getElem h,Option.getD_some]
  exact List.set_getElem_self h
 ·rw [List.set_eq_of_length_le h]
theorem Pk {R:Type} {r:R} {dsts:List (Option Nat)} {o:Oper} {st:St} {κ:Bool→St→Option R} (h:QD dsts o st κ=some r):∃ b,κ b st=some r∧Pi dsts o st b:=by
 unfold QD at h
 unfold Pi
 split at h
 ·rename_i hg;rw [hg];exact ⟨true,h,rfl⟩
 ·rename_i j want hg
  rw [hg]
  split at h
  ·rename_i t ht
   split at h
   ·rename_i b hb
    refine ⟨want == b,?_,t,ht,.inl ⟨b,hb,rfl⟩⟩
    cases b
    ·simp only [cond_false,oC] at h
     rw [Pj hb (by simp)] at h
     exact h
    ·simp only [cond_true,oC] at h
     rw [Pj hb (by simp)] at h
     exact h
   ·rename_i hb;exact ⟨false,h,t,ht,.inr ⟨hb,rfl⟩⟩
   ·cases h
  ·cases h
def eU (δ:Dl):OT:=(δ.rd++aq δ.wr,aq δ.wr)
inductive Tr (E:Env) (dsts:List (Option Nat)):List Oper→St→List Dl→List St→St→Prop
 | nil (st:St):Tr E dsts [] st [] [] st
 | cons {o:Oper} {r:List Oper} {st st1 st':St} {δ:Dl} {ds:List Dl} {ss:List St}:It E dsts o st δ→jv o.dst δ st=some st1→Tr E dsts r st1 ds ss st'→Tr E dsts (o :: r) st (δ :: ds) (st :: ss) st'
theorem rB {R:Type} {r:R} {E:Env} {dsts:List (Option Nat)}:∀ {os:List Oper} {st:St} {κ:St→List OT→Option R},Cu E dsts os st κ=some r→∃ ds ss st',Tr E dsts os st ds ss st'∧κ st' (ds.map eU)=some r
 | [],st,κ,h=>⟨[],[],st,.nil st,h⟩
 | o :: os,st,κ,h=>by
  unfold Cu at h
  obtain ⟨b,h1,h2⟩:=Pk h
  cases b with
  | true =>
   simp only at h1
   obtain ⟨δ,h3,h4,h5⟩:=Up h1
   split at h3
   ·rename_i hw
    rw [SX] at h3
    cases ha:jv o.dst δ st with
    | none=>rw [ha] at h3;cases h3
    | some st1 =>
     rw [ha,Option.bind_some] at h3
     obtain ⟨ds,ss,st',h6,h7⟩:=rB h3
     exact ⟨δ :: ds,st :: ss,st',.cons ⟨true,h2,hw,h4,h5⟩ ha h6,h7⟩
   ·cases h3
  | false =>
   simp only at h1
   rw [SX] at h1
   cases ha:jv o.dst { v:=.skip } st with
   | none=>rw [ha] at h1;cases h1
   | some st1 =>
    rw [ha,Option.bind_some] at h1
    obtain ⟨ds,ss,st',h6,h7⟩:=rB h1
    exact ⟨{ v:=.skip } :: ds,st :: ss,st',.cons ⟨false,h2,rfl,rfl⟩ ha h6,h7⟩
section
variable {P:Program} {M:Nat→Prop} {w0:World} {σ:Hd→aS} {Imm:Nat→Prop} {st:St} {a:Act} {w:World} {E:Env}
theorem Evo.trans {st1 st2 st3:St} {σ1 σ2 σ3:Hd→aS} {I1 I2 I3:Nat→Prop} {w1 w2 w3:World} (h:Evo st1 st2 σ1 σ2 I1 I2 w1 w2) (k:Evo st2 st3 σ2 σ3 I2 I3 w2 w3):Evo st1 st3 σ1 σ3 I1 I3 w1 w3:=by
 refine ⟨⟨fun o ho=>?_,fun b hb hl=>?_⟩,fun o ho=>k.there o (h.there o ho),fun o ho=>?_,Nat.le_trans h.sz k.sz,fun b hb hi=>h.nw b hb (k.nw b (Nat.lt_of_lt_of_le hb h.sz) hi)⟩
 ·obtain ⟨a1,a2⟩:=h.goes.sg o ho
  obtain ⟨b1,b2⟩:=k.goes.sg o (h.there o ho)
  exact ⟨b1.trans a1,b2.trans a2⟩
 ·obtain ⟨a1,a2,a3⟩:=h.goes.im b hb hl
  obtain ⟨b1,b2,b3⟩:=k.goes.im b a1 a2
  exact ⟨b1,b2,b3.trans a3⟩
 ·obtain ⟨a1,a2,a3⟩:=h.ro o ho
  have ho2:(aj st2.h o).ro=true:=by rw [a1];exact ho
  obtain ⟨b1,b2,b3⟩:=k.ro o ho2
  refine ⟨b1.trans a1,b2.trans a2,fun b hb=>?_⟩
  obtain ⟨c1,c2⟩:=b3 b (by rw [a2];exact hb)
  exact ⟨c1.trans (a3 b hb).1,c2⟩
theorem NA {ops:Array Oper} {Q:Exit→Act→World→Prop} {i:Nat} {o:Oper} {δ:Dl} {st':St} (hE:aE P E) (R:Rel P M w0 σ Imm st a w) (hd:∀ i,o.dst=some i→i < st.t.length) (ho:ops[i]?=some o)
  (hD:It E (ops.toList.map (·.dst)) o st δ) (ha:jv o.dst δ st=some st') {K:Act→World→Prop}
  (hK:∀ v σ' Imm' w',Rel P M w0 σ' Imm' st' (a.put o.dst v) w'→Evo st st' σ σ' Imm Imm' w w'→K (a.put o.dst v) w'):wpOp P ops Q i K a w:=by
 obtain ⟨b,hW,hw,hD⟩:=hD
 unfold wpOp
 simp only [ho]
 have hwant:Region.wanted o (yielded ops a.tmps)=b:=by
  unfold Pi at hW
  unfold Region.wanted
  split at hW
  ·rename_i hg;rw [hg,hW]
  ·rename_i j want hg
   obtain ⟨t,ht,hv⟩:=hW
   rw [hg]
   simp only
   have hj:(ops[j]?).bind (·.dst)=some t:=by
    rw [List.getElem?_map,Array.getElem?_toList] at ht
    cases hx:ops[j]? with
    | none=>rw [hx] at ht;cases ht
    | some x=>rw [hx] at ht;simpa using ht
   unfold yielded
   rw [hj,Option.bind_some]
   have htm:=R.tm t
   rcases hv with ⟨v,hv,rfl⟩ | ⟨hv,rfl⟩
   ·rw [hv] at htm
    have htm:a.tmps.getD t undef=.bool v:=htm
    rw [Array.getD_eq_getD_getElem?] at htm
    cases hx:a.tmps[t]? with
    | none=>rw [hx] at htm;cases htm
    | some x =>
     rw [hx,Option.getD_some] at htm
     subst htm
     cases want <;> cases v <;> rfl
   ·rw [hv] at htm
    have htm:a.tmps.getD t undef=undef:=htm
    rw [Array.getD_eq_getD_getElem?] at htm
    cases hx:a.tmps[t]? with
    | none=>rfl
    | some x =>
     rw [hx,Option.getD_some] at htm
     subst htm
     rfl
 rw [hwant]
 cases b with
 | true =>
  obtain ⟨h1,h2⟩:=hD
  obtain ⟨δ',e,_,hok⟩:=Um hE R hd h1
  cases e
  exact .inl (hok st' ha K Q hK)
 | false =>
  have hD:δ={ v:=.skip }:=hD
  subst hD
  obtain ⟨r,e⟩:=R.plain hd ha (v:=undef) (bg.refl _ w) (fun _ h=>h) R.imm (fun _ _ h=>h) rfl aA
  exact hK undef σ Imm w r e
theorem H4 {ops:Array Oper} {Q:Exit→Act→World→Prop} (hE:aE P E):∀ {os:List Oper} {k:Nat} {st st':St} {ds:List Dl} {ss:List St} {σ:Hd→aS} {Imm:Nat→Prop} {a:Act} {w:World},
  Tr E (ops.toList.map (·.dst)) os st ds ss st'→(∀ j o,os[j]?=some o→ops[k + j]?=some o)→Rel P M w0 σ Imm st a w→(∀ o∈os,∀ i,o.dst=some i→i < st.t.length) →
  (∀ σ' Imm' a' w',Rel P M w0 σ' Imm' st' a' w'→Evo st st' σ σ' Imm Imm' w w'→(∀ t,(∀ o∈os,o.dst≠some t)→a'.tmps.getD t undef=a.tmps.getD t undef)→Q .normal a' w') →
  wpOps P ops Q (List.range' k os.length) a w
 | [],k,st,st',ds,ss,σ,Imm,a,w,htr,_,R,_,hq=>by
  cases htr
  refine hq σ Imm a w R ⟨⟨fun _ _=>⟨rfl,rfl⟩,fun b hb hl=>⟨hb,hl,rfl⟩⟩,fun _ h=>h,fun o ho=>⟨rfl,rfl,fun b hb=>⟨rfl,?_⟩⟩,Nat.le_refl _,fun _ _ h=>h⟩ (fun _ _=>rfl)
  exact ((R.nd o (by cases hx:aj st.h o <;> simp_all [aw.ro,aw.live])).2 b hb).1
 | o :: os,k,st,st',ds,ss,σ,Imm,a,w,htr,hops,R,hd,hq=>by
  cases htr with
  | @cons _ _ _ st1 _ δ ds ss hD ha htr =>
   rw [List.length_cons,List.range'_succ,wpOps_cons]
   refine NA hE R (hd o (by simp)) (by simpa using hops 0 o rfl) hD ha fun v σ' Imm' w' R' ev=>?_
   have hlen:st1.t.length=st.t.length:=by
    rw [R'.len,R.len]
    cases o.dst <;> simp [Act.put]
   refine H4 hE htr (fun j o' hj=>by rw [Nat.add_right_comm,Nat.add_assoc];exact hops (j + 1) o' (by simpa using hj)) R' (fun o' ho' i hi=>by rw [hlen];exact hd o' (by simp [ho']) i hi) fun σ2 I2 a2 w2 R2 ev2 hun=>?_
   refine hq σ2 I2 a2 w2 R2 (ev.trans ev2) fun t ht=>?_
   rw [hun t (fun o' ho'=>ht o' (by simp [ho']))]
   have hne:=ht o (by simp)
   cases hdst:o.dst with
   | none=>simp [Act.put]
   | some d =>
    rw [hdst] at hne
    have hne:d≠t:=fun e=>hne (by rw [e])
    simp [Act.put,Array.getD_eq_getD_getElem?,Array.getElem?_setIfInBounds,hne]
end
end Go.Abs
