/- Part of a proof of FnExactPlay: see the row. -/
import Derived.Test.YtenadnbpibhmiaaGreatPlAbsStep
import Derived.Laws.StructEq
import Derived.Laws.Slices
import Derived.Laws.Rows
set_option linter.unusedVariables false
set_option linter.unusedSimpArgs false
namespace Go.Abs
open Go.RowKit
def Ij:TypeDesc→Bool
 | .struct _ | .array _ _=>false
 | _=>true
def KOk (P:Program) (t:Nat) (ty:Ty):TK→Prop
 | .int k=>P.underlying t=some (.int k)
 | .bool=>P.underlying t=some .bool
 | .slice e=>P.underlying t=some (.slice e)∧∃ t' i z,ty=.slice t'∧P.info? e=some i∧i.size=t'.n∧i.bytes≤24 * t'.n∧0 < t'.n∧i.zero=some z∧z.cells.size=t'.n
 | .struct fs=>∃ F:Array Field,P.underlying t=some (.struct F)∧F.toList.map (fun f=>(f.offset,f.type))=fs∧(∀ f∈F.toList,∃ i,P.info? f.type=some i∧i.size≠0) ∧
   P.stoodInHeld t=false∧P.eqGuardType P.depth t=false∧∀ f∈F.toList,f.name ≠ "_"
 | .other=>∃ d,P.underlying t=some d∧Ij d=true
structure EA (P:Program) (t:Nat) (ti:TI):Prop where
 info:∃ i z,P.info? t=some i∧i.size=ti.n∧i.zero=some z∧z.cells.toList.map gU=ti.zero∧uh z.cells.toList=true
 k:KOk P t ti.ty ti.k
def fU (P:Program) (T:Tab):Prop:=∀ t ti,iu T t=some ti→EA P t ti
section
variable {P:Program} {M:Nat→Prop} {w0:World} {σ:Hd→aS} {Imm:Nat→Prop} {st:St} {a:Act} {w:World}
theorem AQ (v:Value) (h:v.oneCell'=true):LR P σ Imm w (gU v) v:=by
 unfold gU
 split <;> first | exact h | rfl
theorem AR (v:Value):(gU v).hds=[]:=by
 unfold gU
 split <;> rfl
theorem eM:∀ vs:List Value,uh vs=true→LRs P σ Imm w (vs.map gU) vs
 | [],_=>rfl
 | v :: vs,h=>by
  simp only [uh,Bool.and_eq_true] at h
  exact ⟨v,vs,rfl,AQ v h.1,eM vs h.2⟩
theorem lM:∀ vs:List Value,aN (vs.map gU)=[]
 | []=>rfl
 | v :: vs=>by simp [aN,AR,lM vs]
theorem OY (v:Value):AVR P σ Imm w (Cn v) v:=by
 unfold Cn
 split
 ·rename_i cs
  split
  ·rename_i h;exact ⟨cs.toList,by simp,eM _ h⟩
  ·trivial
 ·trivial
 ·rename_i h1 h2
  refine AQ v ?_
  cases v <;> first | rfl | (exact absurd rfl (h1 _)) | (exact absurd rfl (h2 _))
theorem OZ (v:Value):(Cn v).hds=[]:=by
 unfold Cn
 split
 ·split
  ·exact lM _
  ·rfl
 ·rfl
 ·exact AR v
theorem Rel.av (R:Rel P M w0 σ Imm st a w) (x:Operand):AVR P σ Imm w (val st x) (a.eval x):=by
 cases x with
 | tmp i=>exact R.tm i
 | const v=>exact OY v
 | global g=>trivial
 | func f=>rfl
theorem Rel.vc (R:Rel P M w0 σ Imm st a w) (x:Operand):aK st.h (val st x).hds:=by
 cases x with
 | tmp i=>exact R.ct i
 | const v=>intro o ho;simp [val,OZ] at ho
 | global g=>intro o ho;simp [val,AV.hds] at ho
 | func f=>intro o ho;simp [val,AV.hds,Leaf.hds] at ho
theorem Rel.avI (R:Rel P M w0 σ Imm st a w) {x:Operand} {k:IntKind} {n:Int} (h:val st x=.leaf (.int k n)):a.eval x=.int k n:=by have:=R.av x;rw [h] at this;exact this
theorem Rel.avB (R:Rel P M w0 σ Imm st a w) {x:Operand} {b:Bool} (h:val st x=.leaf (.bool b)):a.eval x=.bool b:=by have:=R.av x;rw [h] at this;exact this
end
def aw.ro:aw→Bool
 | .box r _ | .arr r _ _=>r
 | _=>false
structure Evo (st st':St) (σ σ':Hd→aS) (Imm Imm':Nat→Prop) (w w':World):Prop where
 goes:pU st.h σ σ' Imm Imm' w w'
 there:∀ o,(aj st.h o).there=true→(aj st'.h o).there=true
 ro:∀ o,(aj st.h o).ro=true→aj st'.h o=aj st.h o∧σ' o=σ o∧∀ b∈(σ o).fp,w'.heap[b]?=w.heap[b]?∧¬ Imm' b
 sz:w.heap.size≤w'.heap.size
 nw:∀ b,b < w.heap.size→Imm' b→Imm b
structure nE (Fz:Nat→Prop) (st st':St) (σ σ':Hd→aS) (Imm Imm':Nat→Prop) (w w':World):Prop where
 goes:pU st.h σ σ' Imm Imm' w w'
 there:∀ o,(aj st.h o).there=true→(aj st'.h o).there=true
 ro:∀ o,(aj st.h o).ro=true→aj st'.h o=aj st.h o∧σ' o=σ o∧∀ b∈(σ o).fp,w'.heap[b]?=w.heap[b]?∧¬ Imm' b
 sz:w.heap.size≤w'.heap.size
 nw:∀ b,b < w.heap.size→Imm' b→Imm b∨Fz b
structure Vp (st:St) (δ:Dl):Prop where
 rd:∀ o∈δ.rd,(aj st.h o).there=true
 wr:∀ o x,(o,x)∈δ.wr→(aj st.h o).there=true∧(aj st.h o).ro=false∧x.there=true
 nd:(aq δ.wr).Nodup
def aU (P:Program) (M:Nat→Prop) (w0:World) (o:Oper) (st:St) (a:Act) (w:World) (σ:Hd→aS) (Imm:Nat→Prop) (δ:Dl):Prop :=
 Vp st δ∧∀ st',jv o.dst δ st=some st'→∀ (next:Act→World→Prop) (Q:Exit→Act→World→Prop),
  (∀ v σ' Imm' w',Rel P M w0 σ' Imm' st' (a.put o.dst v) w'→Evo st st' σ σ' Imm Imm' w w'→next (a.put o.dst v) w')→o.wp P a w next Q
section
variable {P:Program} {M:Nat→Prop} {w0:World} {σ:Hd→aS} {Imm:Nat→Prop} {st:St} {a:Act} {w:World} {o:Oper}
theorem QF {d:Option Nat} {x:AV} {rd:List Hd} {st':St} (h:jv d { v:=x,rd } st=some st') :
  st'.h=st.h∧st'.t=Gw st.t d x:=by
 cases d <;> (simp only [jv,bf,Option.some.injEq] at h;subst h;exact ⟨rfl,rfl⟩)
theorem Rel.plain (R:Rel P M w0 σ Imm st a w) (hd:∀ i,o.dst=some i→i < st.t.length) {x:AV} {rd:List Hd} {st':St} (hs:jv o.dst { v:=x,rd } st=some st')
  {v:Value} {Imm':Nat→Prop} {w':World} (hk:bg aV w w') (hI1:∀ b,Imm b→Imm' b) (hI2:∀ b,Imm' b→b < w'.heap.size) (hI3:∀ b,b < w.heap.size→Imm' b→Imm b)
  (hv:AVR P σ Imm' w' x v) (hc:aK st.h x.hds):Rel P M w0 σ Imm' st' (a.put o.dst v) w'∧Evo st st' σ σ Imm Imm' w w':=by
 obtain ⟨e1,e2⟩:=QF hs
 have hlt:∀ o,(aj st.h o).live=true→∀ b∈(σ o).fp,b < w.heap.size:=by
  intro q hq b hb
  have:=R.ob q
  cases hx:aj st.h q with
  | none=>rw [hx] at hq;cases hq
  | dead=>rw [hx] at hq;cases hq
  | box ro ls=>rw [hx] at this;obtain ⟨c,ty,h1,_,h3⟩:=this;rw [h3] at hb;simp at hb;subst hb;exact (Array.getElem?_eq_some_iff.1 h1).1
  | arr ro t xs=>rw [hx] at this;exact this.1.lt b hb
 have g:pU st.h σ σ Imm Imm' w w':=⟨fun _ _=>⟨rfl,rfl⟩,fun b hb hl=>⟨hI1 b hb,Nat.lt_of_lt_of_le hl hk.size,hk.block b hl id⟩⟩
 refine ⟨R.step o.dst x v [] e2 hd (by rw [e1]) g (fun _ _ _=>rfl) hI2 (R.keep.trans (hk.mono fun _ _ h=>h.elim)) (fun o h=>by rw [e1];exact h) (fun o _=>by rw [e1])
  (fun o _ hl b hb=>⟨hk.block b (hlt o hl b hb) id,fun hi=>((R.nd o hl).2 b hb).1 (hI3 b (hlt o hl b hb) hi)⟩) hv (by rw [e1];exact hc) (by simp) (by simp) (by simp) (by simp),?_⟩
 refine ⟨g,fun o h=>by rw [e1];exact h,fun o hr=>⟨by rw [e1],rfl,fun b hb=>?_⟩,hk.size,hI3⟩
 have hl:(aj st.h o).live=true:=by cases hx:aj st.h o <;> simp_all [aw.ro,aw.live]
 exact ⟨hk.block b (hlt o hl b hb) id,fun hi=>((R.nd o hl).2 b hb).1 (hI3 b (hlt o hl b hb) hi)⟩
theorem aU.value (R:Rel P M w0 σ Imm st a w) (hd:∀ i,o.dst=some i→i < st.t.length) {x:AV} {rd:List Hd} {v:Value}
  (hrun:(execOp a.eval o).run P w=.ok (.value v) w) (hv:AVR P σ Imm w x v) (hc:aK st.h x.hds) (hrd:aK st.h rd):aU P M w0 o st a w σ Imm { v:=x,rd }:=by
 refine ⟨⟨hrd,fun _ _ h=>(by cases h),List.nodup_nil⟩,fun st' hs next Q hn=>?_⟩
 unfold Oper.wp
 rw [hrun]
 obtain ⟨r,e⟩:=R.plain hd hs (bg.refl _ w) (fun _ h=>h) R.imm (fun _ _ h=>h) hv hc
 exact hn v σ Imm w r e
theorem aA {h:List (List aw)}:aK h []:=fun _ h=>by cases h
theorem RG {x:Operand} (R:Rel P M w0 σ Imm st a w) (hd:∀ i,o.dst=some i→i < st.t.length) (ho:o.op=.move x∨o.op=.assign x):aU P M w0 o st a w σ Imm { v:=val st x } :=
 aU.value R hd (v:=a.eval x) (by rcases ho with ho | ho <;> simp [execOp,ho]) (R.av x) (R.vc x) aA
theorem Uh {c x y:Operand} {b:Bool} (R:Rel P M w0 σ Imm st a w) (hd:∀ i,o.dst=some i→i < st.t.length) (ho:o.op=.pick c x y) (hc:val st c=.leaf (.bool b)) :
  aU P M w0 o st a w σ Imm { v:=cond b (val st x) (val st y) }:=by
 have e:=R.avB hc
 cases b
 ·exact aU.value R hd (v:=a.eval y) (by simp [execOp,ho,e,asBool]) (R.av y) (R.vc y) aA
 ·exact aU.value R hd (v:=a.eval x) (by simp [execOp,ho,e,asBool]) (R.av x) (R.vc x) aA
theorem Sa {op:BinOp} {t t':Nat} {x y:Operand} {k:IntKind} {n m:Int} {l:Leaf} (R:Rel P M w0 σ Imm st a w) (hd:∀ i,o.dst=some i→i < st.t.length)
  (ho:o.op=.binOp op t x y t') (hx:val st x=.leaf (.int k n)) (hy:val st y=.leaf (.int k m)) (hl:Id op k n m=some l) (hs1:op≠.shr) (hs2:op≠.shl):aU P M w0 o st a w σ Imm { v:=.leaf l }:=by
 have ex:=R.avI hx
 have ey:=R.avI hy
 have hg:(eqGuard op t x y (.int k n) (.int k m)).run P w=.ok () w:=by
  unfold eqGuard;cases op <;> rfl
 cases op <;> simp only [Id,Option.some.injEq,reduceCtorEq] at hl <;> subst hl <;>
  (refine aU.value R hd (v:=_) (by simp only [execOp,ho,ex,ey,Sem.run_bind,hg,Result.andThen_ok];simp [binOp,Op.intArith,Op.intBits,Op.intCmp];rfl) ?_ (fun _ h=>by cases h) aA;first | rfl | (show _=_;simp))
end
end Go.Abs
