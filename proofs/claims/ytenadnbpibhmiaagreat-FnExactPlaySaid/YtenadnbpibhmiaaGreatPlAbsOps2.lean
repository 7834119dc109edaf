/- Part of a proof of FnExactPlay: see the row. -/
import Derived.Test.YtenadnbpibhmiaaGreatPlAbsOps
set_option linter.unusedVariables false
set_option linter.unusedSimpArgs false
namespace Go.Abs
open Go.RowKit
theorem ru (n:Nat) (l:List Leaf):wC n l=l.drop n:=by
 induction n generalizing l with
 | zero=>simp [wC]
 | succ n ih=>cases l <;> simp [wC,ih]
theorem O0 (n:Nat) (l:List Leaf):ML n l=l.take n:=by
 induction n generalizing l with
 | zero=>simp [ML]
 | succ n ih=>cases l <;> simp [ML,ih]
theorem nF {R:Type} {r:R}:∀ {n:Nat} {l:List Leaf} {κ:List Leaf→Option R},nv n l κ=some r→n≤l.length∧κ (l.take n)=some r
 | 0,l,κ,h=>⟨Nat.zero_le _,by simpa [nv] using h⟩
 | n + 1,[],κ,h=>by simp [nv] at h
 | n + 1,a :: l,κ,h=>by
  obtain ⟨h1,h2⟩:=nF (n:=n) (l:=l) (by simpa [nv] using h)
  exact ⟨by simpa using h1,by simpa using h2⟩
theorem kO {R:Type}:∀ (t:Ty) (x:t.D) (r:List Leaf) (κ:List Leaf→R),cU t x r κ=κ (cU t x [] id++r)
 | .int _,_,_,_=>rfl
 | .bool,_,_,_=>rfl
 | .hd,_,_,_=>rfl
 | .slice _,_,_,_=>rfl
 | .unit,_,_,_=>rfl
 | .pair a b,x,r,κ=>by
  simp only [cU]
  rw [kO b x.2 r,kO a x.1 _ κ,kO b x.2 [] (fun r'=>cU a x.1 r' id),kO a x.1 (_++[]) id]
  simp
 | .fn _ _,_,_,_=>rfl
 | .vw _,_,_,_=>rfl
def iA (t:Ty) (x:t.D):List Leaf:=cU t x [] id
theorem aP {R:Type} (t:Ty) (x:t.D) (κ:List Leaf→R):cU t x [] κ=κ (iA t x):=by rw [kO];simp [iA]
theorem F3 (a b:Ty) (x:(Ty.pair a b).D):iA (.pair a b) x=iA a x.1++iA b x.2:=by
 show cU (.pair a b) x [] id=_
 simp only [cU]
 rw [kO b,kO a]
 simp [iA]
theorem cR:∀ (t:Ty) (x:t.D),aN (iA t x)=[]
 | .int _,_=>rfl
 | .bool,_=>rfl
 | .hd,_=>rfl
 | .slice _,_=>rfl
 | .unit,_=>rfl
 | .pair a b,x=>by
  rw [F3]
  have h:∀ (l m:List Leaf),aN l=[]→aN m=[]→aN (l++m)=[]:=by
   intro l m
   induction l with
   | nil=>simp
   | cons a l ih=>simp only [aN,List.cons_append,List.append_eq_nil_iff];rintro ⟨h1,h2⟩ h3;exact ⟨h1,ih h2 h3⟩
  exact h _ _ (cR a x.1) (cR b x.2)
 | .fn _ _,_=>rfl
 | .vw _,_=>rfl
theorem nG {l:List Leaf} {o:Hd}:o∈aN l↔∃ x∈l,o∈x.hds:=by
 induction l with
 | nil=>simp [aN]
 | cons a l ih=>simp [aN,ih]
section
variable {P:Program} {σ:Hd→aS} {Imm:Nat→Prop} {w:World}
theorem LRs.length:∀ {ls:List Leaf} {vs:List Value},LRs P σ Imm w ls vs→ls.length=vs.length
 | [],_,h=>by cases h;rfl
 | _ :: ls,_,⟨v,r,e,_,h⟩=>by cases e;simp [h.length]
theorem LRs.append:∀ {ls ms:List Leaf} {vs us:List Value},LRs P σ Imm w ls vs→LRs P σ Imm w ms us→LRs P σ Imm w (ls++ms) (vs++us)
 | [],_,_,_,h,k=>by cases h;exact k
 | _ :: _,_,_,_,⟨v,r,e,h1,h⟩,k=>by cases e;exact ⟨v,_,rfl,h1,h.append k⟩
theorem LRs.drop:∀ (n:Nat) {ls:List Leaf} {vs:List Value},LRs P σ Imm w ls vs→LRs P σ Imm w (ls.drop n) (vs.drop n)
 | 0,_,_,h=>by simpa using h
 | n + 1,[],_,h=>by cases h;rfl
 | n + 1,_ :: ls,_,⟨v,r,e,_,h⟩=>by cases e;simpa using h.drop n
theorem LRs.take:∀ (n:Nat) {ls:List Leaf} {vs:List Value},LRs P σ Imm w ls vs→LRs P σ Imm w (ls.take n) (vs.take n)
 | 0,_,_,h=>by simp [LRs]
 | n + 1,[],_,h=>by cases h;rfl
 | n + 1,_ :: ls,_,⟨v,r,e,h1,h⟩=>by cases e;exact ⟨v,r.take n,by simp,h1,h.take n⟩
theorem LRs.flat {I:Nat→Prop} {σ':Hd→aS} {w':World}:∀ {ls:List Leaf} {vs:List Value},Ib ls=true→LRs P σ I w ls vs→LRs P σ' Imm w' ls vs
 | [],_,_,h=>h
 | .int _ _ :: _,_,hf,⟨v,r,e,h1,h⟩=>⟨v,r,e,h1,h.flat hf⟩
 | .bool _ :: _,_,hf,⟨v,r,e,h1,h⟩=>⟨v,r,e,h1,h.flat hf⟩
 | .hd _ :: _,_,hf,⟨v,r,e,h1,h⟩=>⟨v,r,e,h1,h.flat hf⟩
theorem vA:∀ {ls:List Leaf},Ib ls=true→aN ls=[]
 | [],_=>rfl
 | .int _ _ :: _,h=>by simp only [aN,Leaf.hds,List.nil_append];exact vA h
 | .bool _ :: _,h=>by simp only [aN,Leaf.hds,List.nil_append];exact vA h
 | .hd _ :: _,h=>by simp only [aN,Leaf.hds,List.nil_append];exact vA h
theorem Rd.cells:∀ {t:Ty} {vs:List Value} {x:t.D},Rd P t Imm w vs x→LRs P σ Imm w (iA t x) vs
 | .int _,_,_,h=>⟨_,[],h,rfl,rfl⟩
 | .bool,_,_,h=>⟨_,[],h,rfl,rfl⟩
 | .hd,_,_,h=>⟨_,[],h,rfl,rfl⟩
 | .slice t,vs,xs,h=>by
  obtain ⟨a,cap,e,h1,h2,h3⟩:=h
  exact ⟨_,[],e,⟨a,cap,rfl,h1,h2,h3⟩,rfl⟩
 | .unit,_,_,h=>h
 | .pair a b,_,x,⟨v1,v2,e,_,h1,h2⟩=>by rw [F3,e];exact h1.cells.append h2.cells
 | .fn a r,_,p,⟨f,caps,e,h1,h2⟩=>⟨_,[],e,⟨f,caps,rfl,h1,h2⟩,rfl⟩
 | .vw t,vs,xs,h=>by
  obtain ⟨a,cap,e,h1,h2,h3⟩:=h
  exact ⟨_,[],e,⟨a,cap,rfl,h1,h2,h3⟩,rfl⟩
def iB:TK→Bool
 | .struct _=>true
 | _=>false
theorem F4 {R:Type} {r:R} {k:TK} {ls:List Leaf} {κ:AV→Option R} (h:kM k ls κ=some r) :
  ∃ x,κ x=some r∧((∃ fs,k=.struct fs∧x=.agg ls)∨((∀ fs,k≠.struct fs)∧∃ l,ls=[l]∧x=.leaf l)):=by
 cases k with
 | struct fs=>exact ⟨.agg ls,by simpa [kM] using h,.inl ⟨fs,rfl,rfl⟩⟩
 | _ =>
  simp only [kM] at h
  split at h
  ·rename_i l;exact ⟨.leaf l,h,.inr ⟨by simp,l,rfl,rfl⟩⟩
  ·cases h
theorem EB {t:Nat} {d:TypeDesc} (h:P.underlying t=some d):(isAgg t).run P w=.ok (!Ij d) w:=by
 unfold isAgg
 rw [Sem.run_bind,run_underlying h w]
 cases d <;> rfl
theorem KOk.agg {t:Nat} {ty:Ty} {k:TK} (h:KOk P t ty k):∃ d,P.underlying t=some d∧Ij d=!iB k:=by
 cases k with
 | int k=>exact ⟨_,h,rfl⟩
 | bool=>exact ⟨_,h,rfl⟩
 | slice e=>exact ⟨_,h.1,rfl⟩
 | struct fs=>obtain ⟨F,h1,_⟩:=h;exact ⟨_,h1,rfl⟩
 | other=>obtain ⟨d,h1,h2⟩:=h;exact ⟨d,h1,h2⟩
theorem fV (b o j:Nat):(⟨b,o,none⟩:Addr).add j=⟨b,o + j,none⟩:=by unfold Addr.add;split <;> simp_all
theorem sM {t:Nat} {ti:TI} (ht:EA P t ti) {b o:Nat} {cs:List Value} (hl:cs.length=ti.n) (hc:dD w b o cs) :
  (loadVar t ⟨b,o,none⟩).run P w=match ti.k with
   | .struct _=>.ok (.agg cs.toArray) w
   | _=>(load ⟨b,o,none⟩).run P w:=by
 obtain ⟨i,z,hi,hn,_⟩:=ht.info
 obtain ⟨d,hd,hg⟩:=ht.k.agg
 have hag:=EB (P:=P) (w:=w) hd
 have hld:(loadCells ⟨b,o,none⟩ ti.n).run P w=.ok cs.toArray w:=by
  rw [← hl]
  exact run_loadCells_list (P:=P) w ⟨b,o,none⟩ cs fun j v hj=>by rw [fV];exact (b8 cs o).1 hc j v hj
 unfold loadVar
 rw [Sem.run_bind,hag]
 cases hk:ti.k with
 | struct fs=>rw [hk] at hg;simp [hg,iB,sizeOf,typeInfo,hi,hn,hld]
 | _=>rw [hk] at hg;simp [hg,iB]
theorem O1 {R:Type} {r:R} {t:Nat} {ti:TI} (ht:EA P t ti) {b o:Nat} {cs:List Value} {ls:List Leaf} {κ:AV→Option R} (hl:cs.length=ti.n) (hc:dD w b o cs)
  (hr:LRs P σ Imm w ls cs) (h:kM ti.k ls κ=some r) :
  ∃ x v,κ x=some r∧(loadVar t ⟨b,o,none⟩).run P w=.ok v w∧AVR P σ Imm w x v∧x.hds=aN ls:=by
 obtain ⟨x,hx,hh⟩:=F4 h
 have hrun:=sM ht hl hc
 rcases hh with ⟨fs,hk,rfl⟩ | ⟨hk,l,rfl,rfl⟩
 ·rw [hk] at hrun
  exact ⟨_,_,hx,hrun,⟨cs,rfl,hr⟩,rfl⟩
 ·obtain ⟨v,q,rfl,hv,hq⟩:=hr
  cases hq
  refine ⟨_,v,hx,?_,hv,by simp [AV.hds,aN]⟩
  rw [hrun]
  have:(load ⟨b,o,none⟩).run P w=.ok v w:=by rw [run_load,hc.1]
  split
  ·rename_i fs e;exact absurd e (hk fs)
  ·exact this
end
theorem uj {l:List Leaf} {n:Nat} {o:Hd} (h:o∈aN (l.take n)):o∈aN l:=by
 obtain ⟨x,hx,ho⟩:=nG.1 h
 exact nG.2 ⟨x,List.mem_of_mem_take hx,ho⟩
theorem uk {l:List Leaf} {n:Nat} {o:Hd} (h:o∈aN (l.drop n)):o∈aN l:=by
 obtain ⟨x,hx,ho⟩:=nG.1 h
 exact nG.2 ⟨x,List.mem_of_mem_drop hx,ho⟩
theorem oX {w:World} {b o:Nat} {cs:List Value} (h:dD w b o cs) (k n:Nat):dD w b (o + k) ((cs.drop k).take n):=by
 rw [b8] at h ⊢
 intro j v hj
 rw [List.getElem?_take] at hj
 split at hj
 ·rw [List.getElem?_drop] at hj
  have:=h (k + j) v hj
  rwa [← Nat.add_assoc] at this
 ·cases hj
theorem F5 {w:World} {b:Nat} {c:Array Value} {ty:TypeId} {fr:Nat×Nat} (h:w.heap[b]?=some (.cells c ty fr)):dD w b 0 c.toList:=by
 rw [b8]
 intro j v hj
 rw [Nat.zero_add,cell_of_row w b j c ty fr h]
 simpa using hj
section
variable {P:Program} {M:Nat→Prop} {w0:World} {σ:Hd→aS} {Imm:Nat→Prop} {st:St} {a:Act} {w:World} {o:Oper} {E:Env}
theorem Ui {R:Type} {r:R} {t:Nat} {x:Operand} {ti:TI} {κ:Dl→Option R} (R0:Rel P M w0 σ Imm st a w) (hd:∀ i,o.dst=some i→i < st.t.length) (ht:EA P t ti)
  (ho:o.op=.load t x) (h:Co st ti (val st x) κ=some r):∃ δ,κ δ=some r∧aU P M w0 o st a w σ Imm δ:=by
 have hx:=R0.av x
 have hxc:=R0.vc x
 have key:∀ {rd:List Hd} {b off:Nat} {cs:List Value} {ls:List Leaf},a.eval x=.pointer (some ⟨b,off,none⟩)→cs.length=ti.n→dD w b off cs→LRs P σ Imm w ls cs →
   aK st.h (aN ls)→aK st.h rd→kM ti.k ls (fun v=>κ { v,rd })=some r→∃ δ,κ δ=some r∧aU P M w0 o st a w σ Imm δ:=by
  intro rd b off cs ls he hl hc hr hcl hrd hw
  obtain ⟨y,v,hy,hrun,hv,hh⟩:=O1 ht hl hc hr hw
  refine ⟨_,hy,aU.value R0 hd (v:=v) ?_ hv (by rw [hh];exact hcl) hrd⟩
  simp [execOp,ho,Instr.loadAt,he,Instr.sureAddr,hrun]
 generalize val st x=vx at *
 unfold Co at h
 split at h
 ·
  rename_i q off
  split at h
  ·rename_i ro ls hq
   obtain ⟨h1,h2⟩:=nF h
   rw [ru] at h1 h2
   have hob:=R0.ob q
   rw [hq] at hob
   obtain ⟨c,ty,hb,hr,_⟩:=hob
   have hlen:=hr.length
   refine key (ls:=(ls.drop off).take ti.n) (cs:=(c.toList.drop off).take ti.n) hx (by simp at h1 hlen ⊢;omega) ?_ ((hr.drop off).take ti.n) ?_ (fun q' hq'=>hxc q' (by simpa [AV.hds,Leaf.hds] using hq')) h2
   ·have:=oX (F5 hb) off ti.n
    rwa [Nat.zero_add] at this
   ·intro q' hq'
    exact R0.cb q ro ls hq q' (uk (uj hq'))
  ·cases h
 ·
  rename_i ty y off
  rw [aP] at h
  obtain ⟨h1,h2⟩:=nF h
  rw [ru] at h1 h2
  obtain ⟨b,p,cs,he,hb,hl,hlen,hcs,hr⟩:=hx
  have hrc:=hr.cells (σ:=σ)
  have hlen2:=hrc.length
  refine key (ls:=((iA ty y).drop off).take ti.n) (cs:=(cs.drop off).take ti.n) he (by simp at h1 hlen2 ⊢;omega) (oX hcs off ti.n) ((hrc.drop off).take ti.n) ?_ aA h2
  intro q' hq'
  have:=uk (uj hq')
  rw [cR] at this
  cases this
 ·
  rename_i q n i off
  split at h
  ·rename_i ro ty xs hq
   cases hxs:xs[i]? with
   | none=>rw [hxs] at h;simp at h
   | some y =>
    rw [hxs] at h
    simp only [Option.bind_some] at h
    rw [aP] at h
    obtain ⟨h1,h2⟩:=nF h
    rw [ru] at h1 h2
    split at h2
    ·rename_i hfl hnb
     have hob:=R0.ob q
     rw [hq] at hob
     obtain ⟨hown,hbv⟩:=hob
     rcases hown with ⟨_,e,_⟩ | ⟨g,cap,cur,ty',fps,e1,e2,e3,e4,e5,e6,e7,e8⟩
     ·subst e;simp at hxs
     ·have hlt:i < fps.length:=by rw [e6];exact (List.getElem?_eq_some_iff.1 hxs).1
      obtain ⟨cs,hlen,hcs,hown⟩:=e8 i y fps[i] hxs (List.getElem?_eq_getElem hlt)
      simp only [List.cons.injEq,and_true] at e1
      have hg:=hbv _ _ _ e1
      simp only [Addr.mk.injEq,and_true] at hg
      have hn:n=ty.n:=Nat.eq_of_beq_eq_true hnb
      rcases (show Ib _=true∨ty.cop=true by simpa only [Bool.or_eq_true] using hfl) with hfl | hcop
      ·have hrc:=(hown.rd (J:=fun b=>b∈fps[i]∨Imm b) (fun _ hb=>.inl hb) fun _ hb=>.inr hb).cells (σ:=σ)
       have hlen2:=hrc.length
       refine key (ls:=((iA ty y).drop off).take ti.n) (cs:=(cs.drop off).take ti.n) hx (by simp at h1 hlen2 ⊢;omega) ?_ (LRs.flat hfl ((hrc.drop off).take ti.n)) (by rw [vA hfl];exact aA) (fun q' hq'=>hxc q' (by simpa [AV.hds,Leaf.hds] using hq')) h2
       have:=oX hcs off ti.n
       rw [hn,← hg]
       exact this
      ·have hnil:=Own.cop hcop hown
       have hrc:=(hown.rd (J:=Imm) (fun b hb=>by rw [hnil] at hb;cases hb) fun _ hb=>hb).cells (σ:=σ)
       have hlen2:=hrc.length
       refine key (ls:=((iA ty y).drop off).take ti.n) (cs:=(cs.drop off).take ti.n) hx (by simp at h1 hlen2 ⊢;omega) ?_ ((hrc.drop off).take ti.n) (fun q' hq'=>?_) (fun q' hq'=>hxc q' (by simpa [AV.hds,Leaf.hds] using hq')) h2
       ·have:=oX hcs off ti.n
        rw [hn,← hg]
        exact this
       ·have:=uk (uj hq')
        rw [cR] at this
        cases this
    ·cases h2
  ·cases h
 ·cases h
end
end Go.Abs
