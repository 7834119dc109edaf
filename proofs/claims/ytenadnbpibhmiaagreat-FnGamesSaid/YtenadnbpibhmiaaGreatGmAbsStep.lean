/- Part of a proof of FnGames: see the row. -/
import Derived.Test.YtenadnbpibhmiaaGreatGmAbsRel
set_option linter.unusedVariables false
set_option linter.unusedSimpArgs false
namespace Go.Abs
open Go.RowKit
theorem wx (l:List AV) (i:Nat):dK l i=l.getD i .any:=by
 induction l generalizing i with
 | nil=>simp [dK]
 | cons a l ih=>cases i with
  | zero=>simp [dK]
  | succ i=>simpa [dK] using ih i
theorem iy (l:List aC) (i:Nat):ij l i=l.getD i .none:=by
 induction l generalizing i with
 | nil=>simp [ij]
 | cons a l ih=>cases i with
  | zero=>simp [ij]
  | succ i=>simpa [ij] using ih i
theorem jO (l:List (List aC)) (i:Nat):bS l i=l.getD i []:=by
 induction l generalizing i with
 | nil=>simp [bS]
 | cons a l ih=>cases i with
  | zero=>simp [bS]
  | succ i=>simpa [bS] using ih i
theorem pu {α R:Type} (l:List α) (n:Nat) (v:α) (κ:List α→Option R):yC l n v κ=κ (l.set n v):=by
 induction l generalizing n κ with
 | nil=>simp [yC]
 | cons a l ih=>cases n with
  | zero=>simp [yC]
  | succ n=>simp [yC,ih]
theorem CN (l:List AV) (d i:Nat) (v:AV) (h:d < l.length):dK (l.set d v) i=if d=i then v else dK l i:=by
 simp only [wx,List.getD_eq_getElem?_getD,List.getElem?_set]
 split
 ·simp [h]
 ·rfl
def sl (h:List (List aC)) (o:Hd) (x:aC):List (List aC):=h.set o.1 ((bS h o.1).set o.2 x)
theorem CO {R:Type} (h:List (List aC)) (o:Hd) (x:aC) (κ:List (List aC)→Option R):O4 h o x κ=κ (sl h o x):=by
 simp [O4,pu,sl]
def bC:List (Hd×aC)→List (List aC)→List (List aC)
 | [],h=>h
 | (o,x) :: r,h=>bC r (sl h o x)
theorem CP {R:Type} (ws:List (Hd×aC)) (h:List (List aC)) (κ:List (List aC)→Option R):Fr ws h κ=κ (bC ws h):=by
 induction ws generalizing h with
 | nil=>rfl
 | cons x r ih=>obtain ⟨o,x⟩:=x;simp [Fr,CO,bC,ih]
theorem CQ (h:List (List aC)) (d i:Nat) (v:List aC):bS (h.set d v) i=if d=i∧d < h.length then v else bS h i:=by
 simp only [jO,List.getD_eq_getElem?_getD,List.getElem?_set]
 by_cases hd:d=i
 ·subst hd
  by_cases hl:d < h.length
  ·simp [hl]
  ·simp [hl]
 ·simp [hd]
theorem RN (l:List aC) (d i:Nat) (v:aC):ij (l.set d v) i=if d=i∧d < l.length then v else ij l i:=by
 simp only [iy,List.getD_eq_getElem?_getD,List.getElem?_set]
 by_cases hd:d=i
 ·subst hd
  by_cases hl:d < l.length
  ·simp [hl]
  ·simp [hl]
 ·simp [hd]
theorem LC {h:List (List aC)} {o:Hd} (ht:(aq h o).there=true):o.1 < h.length∧o.2 < (bS h o.1).length:=by
 unfold aq at ht
 constructor
 ·rcases Nat.lt_or_ge o.1 h.length with h1 | h1
  ·exact h1
  ·simp [jO,List.getD_eq_getElem?_getD,List.getElem?_eq_none h1,ij,aC.there] at ht
 ·rcases Nat.lt_or_ge o.2 (bS h o.1).length with h1 | h1
  ·exact h1
  ·simp [iy,List.getD_eq_getElem?_getD,List.getElem?_eq_none h1,aC.there] at ht
theorem Eu {h:List (List aC)} {o:Hd} (x:aC) (ht:(aq h o).there=true) (o':Hd):aq (sl h o x) o'=if o=o' then x else aq h o':=by
 obtain ⟨h1,h2⟩:=LC ht
 unfold sl aq
 rw [CQ]
 by_cases e1:o.1=o'.1
 ·simp only [e1,true_and]
  rw [if_pos (by omega),RN]
  by_cases e2:o.2=o'.2
  ·rw [if_pos ⟨e2,by rw [← e1];exact h2⟩,if_pos (Prod.ext e1 e2)]
  ·rw [if_neg (fun h=>e2 h.1),if_neg (fun h=>e2 (by rw [h]))]
 ·rw [if_neg (fun h=>e1 h.1),if_neg (fun h=>e1 (by rw [h]))]
theorem yG (h:List (List aC)) (o:Hd) (x:aC):(sl h o x).length=h.length:=by simp [sl]
theorem cB (ws:List (Hd×aC)) (h:List (List aC)):(bC ws h).length=h.length:=by
 induction ws generalizing h with
 | nil=>rfl
 | cons x r ih=>obtain ⟨o,x⟩:=x;simp [bC,ih,yG]
theorem eE (ws:List (Hd×aC)):aw ws=ws.map (·.1):=by
 induction ws with
 | nil=>rfl
 | cons x r ih=>obtain ⟨o,x⟩:=x;simp [aw,ih]
theorem sm (ws:List (Hd×aC)):∀ (h:List (List aC)),(aw ws).Nodup→(∀ o x,(o,x)∈ws→(aq h o).there=true∧x.there=true)→∀ o',
  (∀ x,(o',x)∈ws→aq (bC ws h) o'=x)∧(o' ∉ aw ws→aq (bC ws h) o'=aq h o'):=by
 induction ws with
 | nil=>intro h _ _ o';exact ⟨fun x hx=>(by cases hx),fun _=>rfl⟩
 | cons y r ih =>
  obtain ⟨o,y⟩:=y
  intro h hn ht o'
  simp only [aw,List.nodup_cons] at hn
  have hy:=ht o y (by simp)
  have hg:=Eu y hy.1
  have ih':=ih (sl h o y) hn.2 (fun o2 x2 h2=>by
   have:=ht o2 x2 (by simp [h2])
   refine ⟨?_,this.2⟩
   rw [hg]
   split
   ·exact hy.2
   ·exact this.1) o'
  constructor
  ·intro x hx
   rcases List.mem_cons.1 hx with e | hx
   ·cases e
    show aq (bC r (sl h o y)) o=y
    rw [ih'.2 hn.1,hg,if_pos rfl]
   ·exact ih'.1 x hx
  ·intro hno
   simp only [aw,List.mem_cons,not_or] at hno
   show aq (bC r (sl h o y)) o'=aq h o'
   rw [ih'.2 hno.2,hg,if_neg (fun e=>hno.1 e.symm)]
def F4 (t:List AV) (d:Option Nat) (x:AV):List AV :=
 match d with
 | some d=>t.set d x
 | none=>t
def kg (d:Option Nat) (δ:Dl) (st:St):Option St :=
 match d with
 | none=>match δ.new with
  | []=>some { st with h:=bC δ.wr st.h }
  | _=>none
 | some d=>match δ.new with
  | []=>some ⟨st.t.set d δ.v,bC δ.wr st.h⟩
  | new=>match bS (bC δ.wr st.h) d with
   | []=>some ⟨st.t.set d δ.v,(bC δ.wr st.h).set d new⟩
   | _=>none
theorem RO {R:Type} (d:Option Nat) (δ:Dl) (st:St) (κ:St→Option R):app d δ st κ=(kg d δ st).bind κ:=by
 unfold app kg
 rw [CP]
 cases d with
 | none=>cases δ.new <;> simp
 | some d =>
  cases hn:δ.new with
  | nil=>simp [pu]
  | cons x r =>
   simp only []
   cases bS (bC δ.wr st.h) d <;> simp [pu]
section
variable {P:Program} {σ σ':Hd→bd} {Imm Imm':Nat→Prop} {w w':World} {h:List (List aC)}
structure qJ (h:List (List aC)) (σ σ':Hd→bd) (Imm Imm':Nat→Prop) (w w':World):Prop where
 sg:∀ o,(aq h o).there=true→(σ' o).v=(σ o).v∧(σ' o).b=(σ o).b
 im:∀ b,Imm b→b < w.heap.size→Imm' b∧b < w'.heap.size∧w'.heap[b]?=w.heap[b]?
theorem qJ.refl:qJ h σ σ Imm Imm w w:=⟨fun _ _=>⟨rfl,rfl⟩,fun _ hb hl=>⟨hb,hl,rfl⟩⟩
theorem LR.goes (g:qJ h σ σ' Imm Imm' w w'):∀ {l:Leaf} {v:Value},aY h l.hds→LR P σ Imm w l v→LR P σ' Imm' w' l v
 | .undef,_,_,h=>h
 | .int _ _,_,_,h=>h
 | .bool _,_,_,h=>h
 | .hd _,_,_,h=>h
 | .nil,_,_,h=>h
 | .view _ _,_,_,h=>Rd.keep (t:=.slice _) h g.im
 | .viewN _ _,_,_,h=>⟨Rd.keep (t:=.slice _) h.1 g.im,h.2⟩
 | .own o,_,hc,h=>by show _=_∧_;rw [(g.sg o (hc o (by simp [Leaf.hds]))).1];exact h
 | .part o _ _ _,_,hc,⟨a,len,cap,e,h⟩=>⟨a,len,cap,by rw [(g.sg o (hc o (by simp [Leaf.hds]))).1];exact e,h⟩
 | .box o _,_,hc,h=>by show _=_;rw [(g.sg o (hc o (by simp [Leaf.hds]))).2];exact h
 | .elem o _ _ _,_,hc,h=>by show _=_;rw [(g.sg o (hc o (by simp [Leaf.hds]))).2];exact h
 | .vis t x off,_,_,⟨b,o,cs,e,hb,hl,hlen,hcs,hr⟩=>by
  obtain ⟨k1,k2,k3⟩:=g.im b hb hl
  exact ⟨b,o,cs,e,k1,k2,hlen,gz k3 _ _ hcs,hr.keep g.im⟩
 | .fn f caps,_,hc,h=>by
  show _=_
  have e:caps.map (fun o=>Value.pointer (some ⟨(σ' o).b,0,none⟩))=caps.map (fun o=>Value.pointer (some ⟨(σ o).b,0,none⟩)) :=
   List.map_congr_left fun o ho=>by rw [(g.sg o (hc o (by simpa [Leaf.hds] using ho))).2]
  rw [e];exact h
 | .fnd _ _ _,_,_,h=>Rd.keep (t:=.fn _ _) h g.im
theorem LRs.goes (g:qJ h σ σ' Imm Imm' w w'):∀ {ls:List Leaf} {vs:List Value},aY h (aZ ls)→LRs P σ Imm w ls vs→LRs P σ' Imm' w' ls vs
 | [],_,_,h=>h
 | _ :: _,_,hc,⟨v,r,e,h1,h2⟩=>⟨v,r,e,h1.goes g (fun o ho=>hc o (by simp [aZ,ho])),h2.goes g (fun o ho=>hc o (by simp [aZ,ho]))⟩
theorem Jv.goes (g:qJ h σ σ' Imm Imm' w w'):∀ {ts:List (Bool×List Leaf)} {vs:List Value},aY h (ts.flatMap fun x=>aZ x.2)→Jv P σ Imm w ts vs→Jv P σ' Imm' w' ts vs
 | [],_,_,h=>h
 | (_,_) :: _,_,hc,⟨v,r,cs,e,h1,h2,h3⟩=>⟨v,r,cs,e,h1.goes g (fun o ho=>hc o (by simp [ho])),h2,h3.goes g (fun o ho=>hc o (by simp only [List.flatMap_cons,List.mem_append];exact .inr ho))⟩
theorem AVR.goes (g:qJ h σ σ' Imm Imm' w w'):∀ {v:AV} {u:Value},aY h v.hds→AVR P σ Imm w v u→AVR P σ' Imm' w' v u
 | .any,_,_,_=>trivial
 | .skip,_,_,h=>h
 | .leaf _,_,hc,h=>LR.goes g hc h
 | .agg _,_,hc,⟨cs,e,h⟩=>⟨cs,e,h.goes g hc⟩
 | .tup _,_,hc,⟨vs,e,h⟩=>⟨vs,e,h.goes g hc⟩
theorem ObR.goes (g:qJ h σ σ' Imm Imm' w w') {o:Hd} {x:aC} (hx:x.live=true→σ' o=σ o) (hc:∀ ro ls,x=.box ro ls→aY h (aZ ls))
  (hb:x.live=true→∀ b∈(σ o).fp,w'.heap[b]?=w.heap[b]?) (hr:ObR P σ Imm w o x):ObR P σ' Imm' w' o x:=by
 cases x with
 | none=>trivial
 | dead=>trivial
 | box ro ls =>
  obtain ⟨c,ty,h1,h2,h3⟩:=hr
  have e:=hx rfl
  refine ⟨c,ty,?_,h2.goes g (hc ro ls rfl),by rw [e];exact h3⟩
  rw [e,hb rfl _ (by rw [h3];simp)]
  exact h1
 | arr ro t xs =>
  obtain ⟨h1,h2⟩:=hr
  have e:=hx rfl
  refine ⟨?_,by rw [e];exact h2⟩
  rw [e]
  exact h1.keep (hb rfl) g.im
end
theorem aY.mono {h h':List (List aC)} {l:List Hd} (hc:aY h l) (hm:∀ o,(aq h o).there=true→(aq h' o).there=true):aY h' l:=fun o ho=>hm o (hc o ho)
theorem Rel.step {P:Program} {M:Nat→Prop} {w0:World} {σ σ':Hd→bd} {Imm Imm':Nat→Prop} {st st':St} {a:Act} {w w':World} (R:Rel P M w0 σ Imm st a w)
  (d:Option Nat) (x:AV) (v:Value) (T:List Hd)
  (ht:st'.t=F4 st.t d x)
  (hd:∀ i,d=some i→i < st.t.length)
  (hl:st'.h.length=st.h.length)
  (g:qJ st.h σ σ' Imm Imm' w w')
  (hsg:∀ o,o ∉ T→(aq st.h o).there=true→σ' o=σ o)
  (hI:∀ b,Imm' b→b < w'.heap.size)
  (hK:bB M w0 w')
  (hm:∀ o,(aq st.h o).there=true→(aq st'.h o).there=true)
  (hu:∀ o,o ∉ T→aq st'.h o=aq st.h o)
  (hb:∀ o,o ∉ T→(aq st.h o).live=true→∀ b∈(σ o).fp,w'.heap[b]?=w.heap[b]?∧¬ Imm' b)
  (hv:AVR P σ' Imm' w' x v) (hvc:aY st'.h x.hds)
  (ho:∀ o,o∈T→ObR P σ' Imm' w' o (aq st'.h o))
  (hoc:∀ o,o∈T→∀ ro ls,aq st'.h o=.box ro ls→aY st'.h (aZ ls))
  (hn:∀ o,o∈T→(aq st'.h o).live=true→(σ' o).fp.Nodup∧∀ b∈(σ' o).fp,¬ Imm' b∧(w0.heap.size≤b∨M b))
  (hj:∀ o o',o∈T→o≠o'→(aq st'.h o).live=true→(aq st'.h o').live=true→∀ b∈(σ' o).fp,b ∉ (σ' o').fp) :
  Rel P M w0 σ' Imm' st' (a.put d v) w':=by
 have hput:∀ i,(a.put d v).tmps.getD i undef=if d=some i then v else a.tmps.getD i undef:=by
  intro i
  cases d with
  | none=>simp [Act.put]
  | some j =>
   have hj:=hd j rfl
   rw [R.len] at hj
   simp only [Act.put,Array.getD_eq_getD_getElem?,Array.getElem?_setIfInBounds,Option.some.injEq]
   by_cases e:j=i
   ·subst e;simp [hj]
   ·simp [e]
 have hget:∀ i,dK st'.t i=if d=some i then x else dK st.t i:=by
  intro i
  cases d with
  | none=>simp [ht,F4]
  | some j=>simp only [ht,Option.some.injEq];exact CN _ _ _ _ (hd j rfl)
 have hsl:∀ o,(aq st.h o).live=true→(aq st.h o).there=true:=by intro o;cases aq st.h o <;> simp [aC.live,aC.there]
 refine ⟨?_,?_,?_,?_,?_,?_,?_,?_,?_,hI,hK⟩
 ·have e1:st'.t.length=st.t.length:=by rw [ht];cases d <;> simp [F4]
  have e2:(a.put d v).tmps.size=a.tmps.size:=by cases d <;> simp [Act.put]
  rw [e1,e2];exact R.len
 ·have e1:st'.t.length=st.t.length:=by rw [ht];cases d <;> simp [F4]
  rw [hl,e1];exact R.hlen
 ·cases d <;> exact R.defers
 ·intro i
  rw [hput,hget]
  split
  ·exact hv
  ·exact (R.tm i).goes g (R.ct i)
 ·intro o
  by_cases hT:o∈T
  ·exact ho o hT
  ·rw [hu o hT]
   exact (R.ob o).goes g (fun hx=>hsg o hT (hsl o hx)) (fun ro ls e=>R.cb o ro ls e) (fun hx b hbm=>(hb o hT hx b hbm).1)
 ·intro i
  rw [hget]
  split
  ·exact hvc
  ·exact (R.ct i).mono hm
 ·intro o ro ls e
  by_cases hT:o∈T
  ·exact hoc o hT ro ls e
  ·rw [hu o hT] at e
   exact (R.cb o ro ls e).mono hm
 ·intro o hlv
  by_cases hT:o∈T
  ·exact hn o hT hlv
  ·rw [hu o hT] at hlv
   rw [hsg o hT (hsl o hlv)]
   exact ⟨(R.nd o hlv).1,fun b hbm=>⟨(hb o hT hlv b hbm).2,((R.nd o hlv).2 b hbm).2⟩⟩
 ·intro o o' hne h1 h2
  by_cases hT:o∈T
  ·exact hj o o' hT hne h1 h2
  ·by_cases hT':o'∈T
   ·intro b hb1 hb2
    exact hj o' o hT' (fun e=>hne e.symm) h2 h1 b hb2 hb1
   ·rw [hu o hT] at h1
    rw [hu o' hT'] at h2
    rw [hsg o hT (hsl o h1),hsg o' hT' (hsl o' h2)]
    exact R.dj o o' hne h1 h2
end Go.Abs
