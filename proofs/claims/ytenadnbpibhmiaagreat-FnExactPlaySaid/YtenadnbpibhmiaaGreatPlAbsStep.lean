/- Part of a proof of FnExactPlay: see the row. -/
import Derived.Test.YtenadnbpibhmiaaGreatPlAbsRel
set_option linter.unusedVariables false
set_option linter.unusedSimpArgs false
namespace Go.Abs
open Go.RowKit
theorem vz (l:List AV) (i:Nat):cZ l i=l.getD i .any:=by
 induction l generalizing i with
 | nil=>simp [cZ]
 | cons a l ih=>cases i with
  | zero=>simp [cZ]
  | succ i=>simpa [cZ] using ih i
theorem gr (l:List aw) (i:Nat):gn l i=l.getD i .none:=by
 induction l generalizing i with
 | nil=>simp [gn]
 | cons a l ih=>cases i with
  | zero=>simp [gn]
  | succ i=>simpa [gn] using ih i
theorem iZ (l:List (List aw)) (i:Nat):bx l i=l.getD i []:=by
 induction l generalizing i with
 | nil=>simp [bx]
 | cons a l ih=>cases i with
  | zero=>simp [bx]
  | succ i=>simpa [bx] using ih i
theorem oC {α R:Type} (l:List α) (n:Nat) (v:α) (κ:List α→Option R):xS l n v κ=κ (l.set n v):=by
 induction l generalizing n κ with
 | nil=>simp [xS]
 | cons a l ih=>cases n with
  | zero=>simp [xS]
  | succ n=>simp [xS,ih]
theorem Cx (l:List AV) (d i:Nat) (v:AV) (h:d < l.length):cZ (l.set d v) i=if d=i then v else cZ l i:=by
 simp only [vz,List.getD_eq_getElem?_getD,List.getElem?_set]
 split
 ·simp [h]
 ·rfl
def rs (h:List (List aw)) (o:Hd) (x:aw):List (List aw):=h.set o.1 ((bx h o.1).set o.2 x)
theorem Cy {R:Type} (h:List (List aw)) (o:Hd) (x:aw) (κ:List (List aw)→Option R):QB h o x κ=κ (rs h o x):=by
 simp [QB,oC,rs]
def bf:List (Hd×aw)→List (List aw)→List (List aw)
 | [],h=>h
 | (o,x) :: r,h=>bf r (rs h o x)
theorem Cz {R:Type} (ws:List (Hd×aw)) (h:List (List aw)) (κ:List (List aw)→Option R):FZ ws h κ=κ (bf ws h):=by
 induction ws generalizing h with
 | nil=>rfl
 | cons x r ih=>obtain ⟨o,x⟩:=x;simp [FZ,Cy,bf,ih]
theorem CA (h:List (List aw)) (d i:Nat) (v:List aw):bx (h.set d v) i=if d=i∧d < h.length then v else bx h i:=by
 simp only [iZ,List.getD_eq_getElem?_getD,List.getElem?_set]
 by_cases hd:d=i
 ·subst hd
  by_cases hl:d < h.length
  ·simp [hl]
  ·simp [hl]
 ·simp [hd]
theorem SW (l:List aw) (d i:Nat) (v:aw):gn (l.set d v) i=if d=i∧d < l.length then v else gn l i:=by
 simp only [gr,List.getD_eq_getElem?_getD,List.getElem?_set]
 by_cases hd:d=i
 ·subst hd
  by_cases hl:d < l.length
  ·simp [hl]
  ·simp [hl]
 ·simp [hd]
theorem Np {h:List (List aw)} {o:Hd} (ht:(aj h o).there=true):o.1 < h.length∧o.2 < (bx h o.1).length:=by
 unfold aj at ht
 constructor
 ·rcases Nat.lt_or_ge o.1 h.length with h1 | h1
  ·exact h1
  ·simp [iZ,List.getD_eq_getElem?_getD,List.getElem?_eq_none h1,gn,aw.there] at ht
 ·rcases Nat.lt_or_ge o.2 (bx h o.1).length with h1 | h1
  ·exact h1
  ·simp [gr,List.getD_eq_getElem?_getD,List.getElem?_eq_none h1,aw.there] at ht
theorem Ez {h:List (List aw)} {o:Hd} (x:aw) (ht:(aj h o).there=true) (o':Hd):aj (rs h o x) o'=if o=o' then x else aj h o':=by
 obtain ⟨h1,h2⟩:=Np ht
 unfold rs aj
 rw [CA]
 by_cases e1:o.1=o'.1
 ·simp only [e1,true_and]
  rw [if_pos (by omega),SW]
  by_cases e2:o.2=o'.2
  ·rw [if_pos ⟨e2,by rw [← e1];exact h2⟩,if_pos (Prod.ext e1 e2)]
  ·rw [if_neg (fun h=>e2 h.1),if_neg (fun h=>e2 (by rw [h]))]
 ·rw [if_neg (fun h=>e1 h.1),if_neg (fun h=>e1 (by rw [h]))]
theorem xW (h:List (List aw)) (o:Hd) (x:aw):(rs h o x).length=h.length:=by simp [rs]
theorem bT (ws:List (Hd×aw)) (h:List (List aw)):(bf ws h).length=h.length:=by
 induction ws generalizing h with
 | nil=>rfl
 | cons x r ih=>obtain ⟨o,x⟩:=x;simp [bf,ih,xW]
theorem dG (ws:List (Hd×aw)):aq ws=ws.map (·.1):=by
 induction ws with
 | nil=>rfl
 | cons x r ih=>obtain ⟨o,x⟩:=x;simp [aq,ih]
theorem rt (ws:List (Hd×aw)):∀ (h:List (List aw)),(aq ws).Nodup→(∀ o x,(o,x)∈ws→(aj h o).there=true∧x.there=true)→∀ o',
  (∀ x,(o',x)∈ws→aj (bf ws h) o'=x)∧(o' ∉ aq ws→aj (bf ws h) o'=aj h o'):=by
 induction ws with
 | nil=>intro h _ _ o';exact ⟨fun x hx=>(by cases hx),fun _=>rfl⟩
 | cons y r ih =>
  obtain ⟨o,y⟩:=y
  intro h hn ht o'
  simp only [aq,List.nodup_cons] at hn
  have hy:=ht o y (by simp)
  have hg:=Ez y hy.1
  have ih':=ih (rs h o y) hn.2 (fun o2 x2 h2=>by
   have:=ht o2 x2 (by simp [h2])
   refine ⟨?_,this.2⟩
   rw [hg]
   split
   ·exact hy.2
   ·exact this.1) o'
  constructor
  ·intro x hx
   rcases List.mem_cons.1 hx with e | hx
   ·cases e
    show aj (bf r (rs h o y)) o=y
    rw [ih'.2 hn.1,hg,if_pos rfl]
   ·exact ih'.1 x hx
  ·intro hno
   simp only [aq,List.mem_cons,not_or] at hno
   show aj (bf r (rs h o y)) o'=aj h o'
   rw [ih'.2 hno.2,hg,if_neg (fun e=>hno.1 e.symm)]
def Gw (t:List AV) (d:Option Nat) (x:AV):List AV :=
 match d with
 | some d=>t.set d x
 | none=>t
def jv (d:Option Nat) (δ:Dl) (st:St):Option St :=
 match d with
 | none=>match δ.new with
  | []=>some { st with h:=bf δ.wr st.h }
  | _=>none
 | some d=>match δ.new with
  | []=>some ⟨st.t.set d δ.v,bf δ.wr st.h⟩
  | new=>match bx (bf δ.wr st.h) d with
   | []=>some ⟨st.t.set d δ.v,(bf δ.wr st.h).set d new⟩
   | _=>none
theorem SX {R:Type} (d:Option Nat) (δ:Dl) (st:St) (κ:St→Option R):app d δ st κ=(jv d δ st).bind κ:=by
 unfold app jv
 rw [Cz]
 cases d with
 | none=>cases δ.new <;> simp
 | some d =>
  cases hn:δ.new with
  | nil=>simp [oC]
  | cons x r =>
   simp only []
   cases bx (bf δ.wr st.h) d <;> simp [oC]
section
variable {P:Program} {σ σ':Hd→aS} {Imm Imm':Nat→Prop} {w w':World} {h:List (List aw)}
structure pU (h:List (List aw)) (σ σ':Hd→aS) (Imm Imm':Nat→Prop) (w w':World):Prop where
 sg:∀ o,(aj h o).there=true→(σ' o).v=(σ o).v∧(σ' o).b=(σ o).b
 im:∀ b,Imm b→b < w.heap.size→Imm' b∧b < w'.heap.size∧w'.heap[b]?=w.heap[b]?
theorem pU.refl:pU h σ σ Imm Imm w w:=⟨fun _ _=>⟨rfl,rfl⟩,fun _ hb hl=>⟨hb,hl,rfl⟩⟩
theorem LR.goes (g:pU h σ σ' Imm Imm' w w'):∀ {l:Leaf} {v:Value},aK h l.hds→LR P σ Imm w l v→LR P σ' Imm' w' l v
 | .undef,_,_,h=>h
 | .int _ _,_,_,h=>h
 | .bool _,_,_,h=>h
 | .hd _,_,_,h=>h
 | .nil,_,_,h=>h
 | .view _ _,_,_,h=>Rd.keep (t:=.slice _) h g.im
 | .viewN _ _,_,_,h=>⟨Rd.keep (t:=.slice _) h.1 g.im,h.2⟩
 | .own o,_,hc,h=>by show _=_∧_;rw [(g.sg o (hc o (by simp [Leaf.hds]))).1];exact h
 | .part o _ _ _,_,hc,⟨a,len,cap,e,h⟩=>⟨a,len,cap,by rw [(g.sg o (hc o (by simp [Leaf.hds]))).1];exact e,h⟩
 | .box o _,_,hc,h=>by show _=_;rw [(g.sg o (hc o (by simp [Leaf.hds]))).2];exact h
 | .elem o _ _ _,_,hc,h=>by show _=_;rw [(g.sg o (hc o (by simp [Leaf.hds]))).2];exact h
 | .vis t x off,_,_,⟨b,o,cs,e,hb,hl,hlen,hcs,hr⟩=>by
  obtain ⟨k1,k2,k3⟩:=g.im b hb hl
  exact ⟨b,o,cs,e,k1,k2,hlen,fB k3 _ _ hcs,hr.keep g.im⟩
 | .fn f caps,_,hc,h=>by
  show _=_
  have e:caps.map (fun o=>Value.pointer (some ⟨(σ' o).b,0,none⟩))=caps.map (fun o=>Value.pointer (some ⟨(σ o).b,0,none⟩)) :=
   List.map_congr_left fun o ho=>by rw [(g.sg o (hc o (by simpa [Leaf.hds] using ho))).2]
  rw [e];exact h
 | .fnd _ _ _,_,_,h=>Rd.keep (t:=.fn _ _) h g.im
theorem LRs.goes (g:pU h σ σ' Imm Imm' w w'):∀ {ls:List Leaf} {vs:List Value},aK h (aN ls)→LRs P σ Imm w ls vs→LRs P σ' Imm' w' ls vs
 | [],_,_,h=>h
 | _ :: _,_,hc,⟨v,r,e,h1,h2⟩=>⟨v,r,e,h1.goes g (fun o ho=>hc o (by simp [aN,ho])),h2.goes g (fun o ho=>hc o (by simp [aN,ho]))⟩
theorem Lg.goes (g:pU h σ σ' Imm Imm' w w'):∀ {ts:List (Bool×List Leaf)} {vs:List Value},aK h (ts.flatMap fun x=>aN x.2)→Lg P σ Imm w ts vs→Lg P σ' Imm' w' ts vs
 | [],_,_,h=>h
 | (_,_) :: _,_,hc,⟨v,r,cs,e,h1,h2,h3⟩=>⟨v,r,cs,e,h1.goes g (fun o ho=>hc o (by simp [ho])),h2,h3.goes g (fun o ho=>hc o (by simp only [List.flatMap_cons,List.mem_append];exact .inr ho))⟩
theorem AVR.goes (g:pU h σ σ' Imm Imm' w w'):∀ {v:AV} {u:Value},aK h v.hds→AVR P σ Imm w v u→AVR P σ' Imm' w' v u
 | .any,_,_,_=>trivial
 | .skip,_,_,h=>h
 | .leaf _,_,hc,h=>LR.goes g hc h
 | .agg _,_,hc,⟨cs,e,h⟩=>⟨cs,e,h.goes g hc⟩
 | .tup _,_,hc,⟨vs,e,h⟩=>⟨vs,e,h.goes g hc⟩
theorem ObR.goes (g:pU h σ σ' Imm Imm' w w') {o:Hd} {x:aw} (hx:x.live=true→σ' o=σ o) (hc:∀ ro ls,x=.box ro ls→aK h (aN ls))
  (hb:x.live=true→∀ b∈(σ o).fp,w'.heap[b]?=w.heap[b]?) (hr:ObR P σ Imm w o x):ObR P σ' Imm' w' o x:=by
 cases x with
 | none=>trivial
 | dead=>trivial
 | box ro ls =>
  obtain ⟨c,ty,h1,h2,h3⟩:=hr
  have e:=hx rfl
  refine ⟨c,ty,?_,h2.goes g (hc ro ls rfl),by rw [e];exact h3⟩
  rw [e,hb rfl _ (by rw [h3];simp)]
  exact h1
 | arr ro t xs =>
  obtain ⟨h1,h2⟩:=hr
  have e:=hx rfl
  refine ⟨?_,by rw [e];exact h2⟩
  rw [e]
  exact h1.keep (hb rfl) g.im
end
theorem aK.mono {h h':List (List aw)} {l:List Hd} (hc:aK h l) (hm:∀ o,(aj h o).there=true→(aj h' o).there=true):aK h' l:=fun o ho=>hm o (hc o ho)
theorem Rel.step {P:Program} {M:Nat→Prop} {w0:World} {σ σ':Hd→aS} {Imm Imm':Nat→Prop} {st st':St} {a:Act} {w w':World} (R:Rel P M w0 σ Imm st a w)
  (d:Option Nat) (x:AV) (v:Value) (T:List Hd)
  (ht:st'.t=Gw st.t d x)
  (hd:∀ i,d=some i→i < st.t.length)
  (hl:st'.h.length=st.h.length)
  (g:pU st.h σ σ' Imm Imm' w w')
  (hsg:∀ o,o ∉ T→(aj st.h o).there=true→σ' o=σ o)
  (hI:∀ b,Imm' b→b < w'.heap.size)
  (hK:bg M w0 w')
  (hm:∀ o,(aj st.h o).there=true→(aj st'.h o).there=true)
  (hu:∀ o,o ∉ T→aj st'.h o=aj st.h o)
  (hb:∀ o,o ∉ T→(aj st.h o).live=true→∀ b∈(σ o).fp,w'.heap[b]?=w.heap[b]?∧¬ Imm' b)
  (hv:AVR P σ' Imm' w' x v) (hvc:aK st'.h x.hds)
  (ho:∀ o,o∈T→ObR P σ' Imm' w' o (aj st'.h o))
  (hoc:∀ o,o∈T→∀ ro ls,aj st'.h o=.box ro ls→aK st'.h (aN ls))
  (hn:∀ o,o∈T→(aj st'.h o).live=true→(σ' o).fp.Nodup∧∀ b∈(σ' o).fp,¬ Imm' b∧(w0.heap.size≤b∨M b))
  (hj:∀ o o',o∈T→o≠o'→(aj st'.h o).live=true→(aj st'.h o').live=true→∀ b∈(σ' o).fp,b ∉ (σ' o').fp) :
  Rel P M w0 σ' Imm' st' (a.put d v) w':=by
 have hput:∀ i,(a.put d v).tmps.getD i undef=if d=some i then v else a.tmps.getD i undef:=by
  intro i
  cases d with
  | none=>simp [Act.put]
  | some j =>
   have hj:=hd j rfl
   rw [R.len] at hj
   simp only [Act.put,Array.getD_eq_getD_getElem?,Array.getElem?_setIfInBounds,Option.some.injEq]
   by_cases e:j=i
   ·subst e;simp [hj]
   ·simp [e]
 have hget:∀ i,cZ st'.t i=if d=some i then x else cZ st.t i:=by
  intro i
  cases d with
  | none=>simp [ht,Gw]
  | some j=>simp only [ht,Option.some.injEq];exact Cx _ _ _ _ (hd j rfl)
 have hsl:∀ o,(aj st.h o).live=true→(aj st.h o).there=true:=by intro o;cases aj st.h o <;> simp [aw.live,aw.there]
 refine ⟨?_,?_,?_,?_,?_,?_,?_,?_,?_,hI,hK⟩
 ·have e1:st'.t.length=st.t.length:=by rw [ht];cases d <;> simp [Gw]
  have e2:(a.put d v).tmps.size=a.tmps.size:=by cases d <;> simp [Act.put]
  rw [e1,e2];exact R.len
 ·have e1:st'.t.length=st.t.length:=by rw [ht];cases d <;> simp [Gw]
  rw [hl,e1];exact R.hlen
 ·cases d <;> exact R.defers
 ·intro i
  rw [hput,hget]
  split
  ·exact hv
  ·exact (R.tm i).goes g (R.ct i)
 ·intro o
  by_cases hT:o∈T
  ·exact ho o hT
  ·rw [hu o hT]
   exact (R.ob o).goes g (fun hx=>hsg o hT (hsl o hx)) (fun ro ls e=>R.cb o ro ls e) (fun hx b hbm=>(hb o hT hx b hbm).1)
 ·intro i
  rw [hget]
  split
  ·exact hvc
  ·exact (R.ct i).mono hm
 ·intro o ro ls e
  by_cases hT:o∈T
  ·exact hoc o hT ro ls e
  ·rw [hu o hT] at e
   exact (R.cb o ro ls e).mono hm
 ·intro o hlv
  by_cases hT:o∈T
  ·exact hn o hT hlv
  ·rw [hu o hT] at hlv
   rw [hsg o hT (hsl o hlv)]
   exact ⟨(R.nd o hlv).1,fun b hbm=>⟨(hb o hT hlv b hbm).2,((R.nd o hlv).2 b hbm).2⟩⟩
 ·intro o o' hne h1 h2
  by_cases hT:o∈T
  ·exact hj o o' hT hne h1 h2
  ·by_cases hT':o'∈T
   ·intro b hb1 hb2
    exact hj o' o hT' (fun e=>hne e.symm) h2 h1 b hb2 hb1
   ·rw [hu o hT] at h1
    rw [hu o' hT'] at h2
    rw [hsg o hT (hsl o h1),hsg o' hT' (hsl o' h2)]
    exact R.dj o o' hne h1 h2
end Go.Abs
