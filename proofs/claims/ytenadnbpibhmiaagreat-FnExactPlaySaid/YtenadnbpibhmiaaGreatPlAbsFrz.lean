/- Part of a proof of FnExactPlay: see the row. -/
import Derived.Test.YtenadnbpibhmiaaGreatPlAbsCode2
import Derived.Test.YtenadnbpibhmiaaGreatPlAbsMark
set_option linter.unusedVariables false
set_option linter.unusedSimpArgs false
namespace Go.Abs
open Go.RowKit
section
variable {P:Program} {M Fz:Nat→Prop} {w0:World} {E:Env}
theorem Evo.f {st st':St} {σ σ':Hd→aS} {Imm Imm':Nat→Prop} {w w':World} (h:Evo st st' σ σ' Imm Imm' w w'):nE Fz st st' σ σ' Imm Imm' w w' :=
 ⟨h.goes,h.there,h.ro,h.sz,fun b hb hi=>.inl (h.nw b hb hi)⟩
theorem Rel.evoF {σ:Hd→aS} {Imm:Nat→Prop} {st:St} {a:Act} {w:World} (R:Rel P M w0 σ Imm st a w):nE Fz st st σ σ Imm Imm w w:=R.evo.f
theorem nE.trans {st1 st2 st3:St} {σ1 σ2 σ3:Hd→aS} {I1 I2 I3:Nat→Prop} {w1 w2 w3:World} (h:nE Fz st1 st2 σ1 σ2 I1 I2 w1 w2) (k:nE Fz st2 st3 σ2 σ3 I2 I3 w2 w3):nE Fz st1 st3 σ1 σ3 I1 I3 w1 w3:=by
 refine ⟨⟨fun o ho=>?_,fun b hb hl=>?_⟩,fun o ho=>k.there o (h.there o ho),fun o ho=>?_,Nat.le_trans h.sz k.sz,fun b hb hi=>(k.nw b (Nat.lt_of_lt_of_le hb h.sz) hi).elim (fun hi=>h.nw b hb hi) .inr⟩
 ·obtain ⟨a1,a2⟩:=h.goes.sg o ho
  obtain ⟨b1,b2⟩:=k.goes.sg o (h.there o ho)
  exact ⟨b1.trans a1,b2.trans a2⟩
 ·obtain ⟨a1,a2,a3⟩:=h.goes.im b hb hl
  obtain ⟨b1,b2,b3⟩:=k.goes.im b a1 a2
  exact ⟨b1,b2,b3.trans a3⟩
 ·obtain ⟨a1,a2,a3⟩:=h.ro o ho
  have ho2:(aj st2.h o).ro=true:=by rw [a1];exact ho
  obtain ⟨b1,b2,b3⟩:=k.ro o ho2
  refine ⟨b1.trans a1,b2.trans a2,fun b hb=>?_⟩
  obtain ⟨c1,c2⟩:=b3 b (by rw [a2];exact hb)
  exact ⟨c1.trans (a3 b hb).1,c2⟩
theorem CR.evo {σ σ':Hd→aS} {Imm:Nat→Prop} {T T':St} {a:Act} {w:World} {fp:List Nat} (R:Rel P M w0 σ Imm T a w) (h:CR P M w0 σ σ' Imm T T' a w fp):Evo T T' σ σ' Imm Imm w w :=
 ⟨⟨h.sgt,fun b hb hl=>⟨hb,hl,rfl⟩⟩,h.there,fun q hq=>⟨(h.ro q hq).1,(h.ro q hq).2,fun b hb=>⟨rfl,((R.nd q (lO hq)).2 b hb).1⟩⟩,Nat.le_refl _,fun _ _ h=>h⟩
def Gy (o:Hd) (x:Leaf):Leaf→Leaf
 | .own p=>match Nat.beq p.1 o.1,Nat.beq p.2 o.2 with
  | true,true=>x
  | _,_=>.own p
 | l=>l
def IL (o:Hd) (x:Leaf):AV→AV
 | .leaf l=>.leaf (Gy o x l)
 | .agg cs=>.agg (cs.map (Gy o x))
 | v=>v
def sS (o:Hd) (x:Leaf) (q:Hd):aw→aw
 | .box false cs=>.box false (cs.map (Gy o x))
 | .arr ro t xs=>match Nat.beq q.1 o.1,Nat.beq q.2 o.2 with
  | true,true=>.dead
  | _,_=>.arr ro t xs
 | v=>v
def EO (o:Hd) (x:Leaf) (d:Nat):Nat→List aw→List aw
 | _,[]=>[]
 | j,v :: r=>sS o x (d,j) v :: EO o x d (j + 1) r
def CV (o:Hd) (x:Leaf):Nat→List (List aw)→List (List aw)
 | _,[]=>[]
 | d,l :: r=>EO o x d 0 l :: CV o x (d + 1) r
variable {R:Type} {o:Hd} {x:Leaf}
theorem Pt (l:Leaf) (κ:Leaf→Option R):RO o x l κ=κ (Gy o x l):=by
 cases l with
 | own p =>
  unfold RO Gy
  simp only
  cases Nat.beq p.1 o.1 <;> cases Nat.beq p.2 o.2 <;> rfl
 | _=>rfl
theorem Pu (cs:List Leaf) (κ:List Leaf→Option R):Pr o x cs κ=κ (cs.map (Gy o x)):=by
 induction cs generalizing κ with
 | nil=>rfl
 | cons l r ih=>simp only [Pr,Pt,ih,List.map_cons]
theorem TG (t:List AV) (κ:List AV→Option R):MX o x t κ=κ (t.map (IL o x)):=by
 induction t generalizing κ with
 | nil=>rfl
 | cons v r ih=>cases v <;> simp only [MX,Pt,Pu,ih,List.map_cons,IL]
theorem TH (d:Nat) (l:List aw) (j:Nat) (κ:List aw→Option R):AW o x d j l κ=κ (EO o x d j l):=by
 induction l generalizing j κ with
 | nil=>rfl
 | cons v r ih =>
  cases v with
  | box ro cs=>cases ro <;> simp only [AW,Pu,ih,EO,sS]
  | arr ro t xs =>
   simp only [AW,EO,sS]
   cases Nat.beq d o.1 <;> cases Nat.beq j o.2 <;> simp only [ih]
  | none=>simp only [AW,ih,EO,sS]
  | dead=>simp only [AW,ih,EO,sS]
theorem TJ (h:List (List aw)) (d:Nat) (κ:List (List aw)→Option R):RP o x d h κ=κ (CV o x d h):=by
 induction h generalizing d κ with
 | nil=>rfl
 | cons l r ih=>simp only [RP,TH,ih,CV]
theorem TL (d:Nat) (l:List aw) (j k:Nat):gn (EO o x d j l) k=sS o x (d,j + k) (gn l k):=by
 induction l generalizing j k with
 | nil=>simp only [EO,gn];rfl
 | cons v r ih=>cases k with
  | zero=>simp only [EO,gn];rfl
  | succ k=>simp only [EO,gn,ih];rw [show j + 1 + k=j + (k + 1) by omega]
theorem Sm (h:List (List aw)) (d k:Nat):bx (CV o x d h) k=EO o x (d + k) 0 (bx h k):=by
 induction h generalizing d k with
 | nil=>simp only [CV,bx,EO]
 | cons l r ih=>cases k with
  | zero=>simp only [CV,bx];rfl
  | succ k=>simp only [CV,bx,ih];rw [show d + 1 + k=d + (k + 1) by omega]
theorem rD (h:List (List aw)) (q:Hd):aj (CV o x 0 h) q=sS o x q (aj h q):=by
 unfold aj
 rw [Sm,TL]
 simp
theorem TM (h:List (List aw)) (d:Nat):(CV o x d h).length=h.length:=by
 induction h generalizing d with
 | nil=>rfl
 | cons l r ih=>simp only [CV,List.length_cons,ih]
theorem Pv (t:List AV) (i:Nat):cZ (t.map (IL o x)) i=IL o x (cZ t i):=by
 induction t generalizing i with
 | nil=>rfl
 | cons v r ih=>cases i with
  | zero=>rfl
  | succ i=>simpa [cZ] using ih i
theorem yj (q:Hd) (v:aw):(sS o x q v).there=v.there:=by
 cases v with
 | box ro cs=>cases ro <;> rfl
 | arr ro t xs=>simp only [sS];cases Nat.beq q.1 o.1 <;> cases Nat.beq q.2 o.2 <;> rfl
 | none=>rfl
 | dead=>rfl
theorem Q2 (q:Hd) (v:aw) (h:(sS o x q v).live=true):v.live=true:=by
 cases v with
 | box ro cs=>rfl
 | arr ro t xs=>rfl
 | none=>exact h
 | dead=>exact h
section
variable {σ:Hd→aS} {Imm Imm':Nat→Prop} {w:World}
theorem Pw (hx:x.hds=[]) (l:Leaf):∀ q∈(Gy o x l).hds,q∈l.hds:=by
 cases l with
 | own p =>
  unfold Gy
  simp only
  cases Nat.beq p.1 o.1 <;> cases Nat.beq p.2 o.2 <;> simp only <;> (try rw [hx]) <;> intro q hq <;> first | exact hq | cases hq
 | _=>exact fun q hq=>hq
theorem M1 (hx:x.hds=[]) (cs:List Leaf):∀ q∈aN (cs.map (Gy o x)),q∈aN cs:=by
 induction cs with
 | nil=>exact fun q hq=>hq
 | cons l r ih =>
  intro q hq
  simp only [List.map_cons,aN,List.mem_append] at hq ⊢
  exact hq.imp (Pw hx l q) (ih q)
theorem Sn (hx:x.hds=[]) (v:AV):∀ q∈(IL o x v).hds,q∈v.hds:=by
 cases v with
 | leaf l=>exact Pw hx l
 | agg cs=>exact M1 hx cs
 | _=>exact fun q hq=>hq
theorem RT {h:List (List aw)} (g:pU h σ σ Imm Imm' w w) (hx:∀ v,v=(σ o).v→v.oneCell'=true→LR P σ Imm' w x v) {l:Leaf} {v:Value} (hc:aK h l.hds) (hl:LR P σ Imm w l v):LR P σ Imm' w (Gy o x l) v:=by
 cases l with
 | own p =>
  obtain ⟨p1,p2⟩:=p
  obtain ⟨o1,o2⟩:=o
  unfold Gy
  simp only
  cases h1:Nat.beq p1 o1 with
  | false=>exact hl.goes g hc
  | true =>
   cases h2:Nat.beq p2 o2 with
   | false=>exact hl.goes g hc
   | true =>
    have e1:=Nat.eq_of_beq_eq_true h1
    have e2:=Nat.eq_of_beq_eq_true h2
    subst e1 e2
    exact hx v hl.1 hl.2
 | _=>exact LR.goes g hc hl
theorem NI {h:List (List aw)} (g:pU h σ σ Imm Imm' w w) (hx:∀ v,v=(σ o).v→v.oneCell'=true→LR P σ Imm' w x v):∀ {cs:List Leaf} {vs:List Value},aK h (aN cs)→LRs P σ Imm w cs vs→LRs P σ Imm' w (cs.map (Gy o x)) vs
 | [],_,_,hl=>hl
 | _ :: _,_,hc,⟨v,r,e,h1,h2⟩=>⟨v,r,e,RT g hx (fun q hq=>hc q (by simp [aN,hq])) h1,NI g hx (fun q hq=>hc q (by simp [aN,hq])) h2⟩
theorem EP {q:Hd} {ro:Bool} {t:Ty} {xs:List t.D} (h:q≠o):sS o x q (.arr ro t xs)=.arr ro t xs:=by
 obtain ⟨p1,p2⟩:=q
 obtain ⟨o1,o2⟩:=o
 unfold sS
 simp only
 cases h1:Nat.beq p1 o1 with
 | false=>rfl
 | true=>cases h2:Nat.beq p2 o2 with
  | false=>rfl
  | true=>exact absurd (Prod.ext (Nat.eq_of_beq_eq_true h1) (Nat.eq_of_beq_eq_true h2)) h
theorem Bo {ro:Bool} {t:Ty} {xs:List t.D}:sS o x o (.arr ro t xs)=.dead:=by
 unfold sS
 simp only
 have h1:Nat.beq o.1 o.1=true:=Nat.beq_refl _
 have h2:Nat.beq o.2 o.2=true:=Nat.beq_refl _
 rw [h1,h2]
theorem Q3 {st:St} {a:Act} (R0:Rel P M w0 σ Imm st a w) {t:Ty} {xs:List t.D} (ho:aj st.h o=.arr false t xs) (hF:∀ b,(w0.heap.size≤b∨M b)→Fz b) :
  Rel P M w0 σ (fun b=>Imm b∨b∈(σ o).fp) ⟨st.t.map (IL o (.view t xs)),CV o (.view t xs) 0 st.h⟩ a w ∧
   nE Fz st ⟨st.t.map (IL o (.view t xs)),CV o (.view t xs) 0 st.h⟩ σ σ Imm (fun b=>Imm b∨b∈(σ o).fp) w w:=by
 have hob:ObR P σ Imm w o (.arr false t xs):=by have:=R0.ob o;rw [ho] at this;exact this
 have hown:=hob.1
 have g:pU st.h σ σ Imm (fun b=>Imm b∨b∈(σ o).fp) w w:=⟨fun _ _=>⟨rfl,rfl⟩,fun b hb hl=>⟨.inl hb,hl,rfl⟩⟩
 have hlo:(aj st.h o).live=true:=by rw [ho];rfl
 have hx:∀ v,v=(σ o).v→v.oneCell'=true→LR P σ (fun b=>Imm b∨b∈(σ o).fp) w (.view t xs) v:=fun v e _=>by
  subst e
  exact hown.rd (fun b hb=>.inr hb) (fun b hb=>.inl hb)
 have hne:∀ q,(aj (CV o (.view t xs) 0 st.h) q).live=true→(aj st.h q).live=true∧q≠o:=fun q hq=>by
  rw [rD] at hq
  refine ⟨Q2 q _ hq,fun e=>?_⟩
  subst e
  rw [ho,Bo] at hq
  cases hq
 have hro:∀ q,(aj st.h q).ro=true→aj (CV o (.view t xs) 0 st.h) q=aj st.h q∧(aj st.h q).live=true∧q≠o:=fun q hq=>by
  have hn:q≠o:=fun e=>by rw [e,ho] at hq;cases hq
  refine ⟨?_,lO hq,hn⟩
  rw [rD]
  cases hb:aj st.h q with
  | none=>rfl
  | dead=>rfl
  | box ro cs=>cases ro with
   | true=>rfl
   | false=>rw [hb] at hq;cases hq
  | arr ro t' xs'=>exact EP hn
 refine ⟨⟨by simpa using R0.len,by simpa [TM] using R0.hlen,R0.defers,fun i=>?_,fun q=>?_,fun i=>?_,fun q ro ls e=>?_,fun q hq=>?_,fun q q' hqq h1 h2=>R0.dj q q' hqq (hne q h1).1 (hne q' h2).1,fun b hb=>hb.elim (R0.imm b) (hown.lt b),R0.keep⟩,
  ⟨g,fun q hq=>by rw [rD,yj];exact hq,fun q hq=>?_,Nat.le_refl _,fun b _ hb=>hb.elim .inl fun hb=>.inr (hF b ((R0.nd o hlo).2 b hb).2)⟩⟩
 ·have h1:=R0.tm i
  have h2:=R0.ct i
  simp only [Pv]
  cases hv:cZ st.t i with
  | any=>trivial
  | skip=>rw [hv] at h1;exact h1
  | leaf l=>rw [hv] at h1 h2;exact RT g hx h2 h1
  | agg cs =>
   rw [hv] at h1 h2
   obtain ⟨vs,e,h3⟩:=h1
   exact ⟨vs,e,NI g hx h2 h3⟩
  | tup ts=>rw [hv] at h1 h2;exact AVR.goes g h2 h1
 ·have h1:=R0.ob q
  simp only [rD]
  cases hb:aj st.h q with
  | none=>trivial
  | dead=>trivial
  | box ro cs =>
   rw [hb] at h1
   have h2:=R0.cb q ro cs hb
   obtain ⟨c,ty,k1,k2,k3⟩:=h1
   cases ro with
   | true=>exact ⟨c,ty,k1,k2.goes g h2,k3⟩
   | false=>exact ⟨c,ty,k1,NI g hx h2 k2,k3⟩
  | arr ro t' xs' =>
   by_cases e:q=o
   ·subst e
    rw [Bo]
    trivial
   ·rw [EP e]
    rw [hb] at h1
    exact ObR.goes g (x:=.arr ro t' xs') (fun _=>rfl) (fun _ _ e=>by cases e) (fun _ _ _=>rfl) h1
 ·intro q hq
  simp only [Pv] at hq
  simp only [rD,yj]
  exact R0.ct i q (Sn rfl _ q hq)
 ·simp only [rD] at e
  intro q' hq'
  simp only [rD,yj]
  cases hb:aj st.h q with
  | none=>rw [hb] at e;cases e
  | dead=>rw [hb] at e;cases e
  | box ro' cs =>
   rw [hb] at e
   cases ro' with
   | true=>cases e;exact R0.cb q _ _ hb q' hq'
   | false=>cases e;exact R0.cb q _ _ hb q' (M1 rfl cs q' hq')
  | arr ro' t' xs' =>
   rw [hb] at e
   by_cases e':q=o
   ·subst e';rw [Bo] at e;cases e
   ·rw [EP e'] at e;cases e
 ·obtain ⟨h1,h2⟩:=hne q hq
  exact ⟨(R0.nd q h1).1,fun b hb=>⟨fun hi=>hi.elim (((R0.nd q h1).2 b hb).1) (R0.dj q o h2 h1 hlo b hb),((R0.nd q h1).2 b hb).2⟩⟩
 ·obtain ⟨h1,h2,h3⟩:=hro q hq
  exact ⟨h1,rfl,fun b hb=>⟨rfl,fun hi=>hi.elim (((R0.nd q h2).2 b hb).1) (R0.dj q o h3 h2 hlo b hb)⟩⟩
theorem Px {R:Type} {r:R} {κ:St→Option R}:∀ {l:List Hd} {st:St} {Imm:Nat→Prop} {a:Act},Rel P M w0 σ Imm st a w→(l≠[]→∀ b,(w0.heap.size≤b∨M b)→Fz b)→NF l st κ=some r →
  ∃ st' Imm',κ st'=some r∧Rel P M w0 σ Imm' st' a w∧nE Fz st st' σ σ Imm Imm' w w∧st'.t.length=st.t.length
 | [],st,Imm,a,R0,_,h=>⟨st,Imm,h,R0,R0.evoF,rfl⟩
 | o :: l,st,Imm,a,R0,hF,h=>by
  unfold NF at h
  split at h
  ·rename_i t xs ho
   rw [TG,TJ] at h
   obtain ⟨R1,e1⟩:=Q3 R0 ho (hF (by simp))
   obtain ⟨st',Imm',k1,k2,k3,k4⟩:=Px R1 (fun _=>hF (by simp)) h
   exact ⟨st',Imm',k1,k2,e1.trans k3,k4.trans (by simp)⟩
  ·cases h
theorem Q4 {R:Type} {r:R} {t t':Ty} {xs:List t.D} {κ:List t'.D→Option R} (h:qi t t' xs κ=some r) :
  ∃ ys,κ ys=some r∧t.n=t'.n∧ys.length=xs.length∧∀ (i:Nat) y,ys[i]?=some y→∃ x,xs[i]?=some x∧∀ (I:Nat→Prop) (w:World) (cs:List Value),Rd P t I w cs x→Rd P t' I w cs y:=by
 unfold qi at h
 split at h
 ·rename_i e
  cases e
  exact ⟨xs,h,rfl,rfl,fun i y hy=>⟨y,hy,fun _ _ _ h=>h⟩⟩
 ·split at h
  ·rename_i e
   have q:t.D=t'.D:=(Ty.erD t).symm.trans ((congrArg Ty.D e).trans (Ty.erD t'))
   refine ⟨_,h,by rw [← Ty.er_n t,e,Ty.er_n],oW q xs,fun i y hy=>?_⟩
   have hy:(cast (congrArg List q) xs)[i]?=some y:=hy
   rw [xV q] at hy
   obtain ⟨x,hx,rfl⟩:=Option.map_eq_some_iff.1 hy
   refine ⟨x,hx,fun I w cs hr=>Rd.ofEr ?_⟩
   have h1:=Rd.toEr hr
   have key:∀ {u:Ty} (hu:t.er=u) (c:t.D=u.D),Rd P u I w cs (cast c x):=by
    intro u hu c
    subst hu
    exact h1
   have h2:=key e ((Ty.erD t).symm.trans (congrArg Ty.D e))
   simp only [cast_cast] at h2 ⊢
   exact h2
  ·cases h
theorem Gg (n:Nat):(List.replicate n ([]:List Nat)).flatten=[]:=by
 induction n with
 | zero=>rfl
 | succ n ih=>rw [List.replicate_succ,List.flatten_cons,ih];rfl
theorem Own.inner {Imm:Nat→Prop} {w:World} {t t':Ty} {v:Value} {xs:List t.D} {ys:List t'.D} {fp:List Nat} (h:Own P Imm (.slice t) w [v] xs fp) (hn:t.n=t'.n) (hc:t'.cop=true) (hl:ys.length=xs.length)
  (he:∀ (i:Nat) y,ys[i]?=some y→∃ x,xs[i]?=some x∧∀ (I:Nat→Prop) (w:World) (cs:List Value),Rd P t I w cs x→Rd P t' I w cs y) (hnd:fp.Nodup) :
  ∃ fp',(∀ b∈fp',b∈fp)∧Own P (fun b=>Imm b∨(b∈fp∧b ∉ fp')) (.slice t') w [v] ys fp':=by
 rcases h with ⟨h1,h2,h3⟩ | ⟨g,cap,cur,ty,fps,h1,h2,h3,h4,h5,h6,h7,h8⟩
 ·subst h2
  have:ys=[]:=List.eq_nil_of_length_eq_zero (by rw [hl];rfl)
  subst this
  exact ⟨[],fun b hb=>(by cases hb),.inl ⟨h1,rfl,rfl⟩⟩
 ·refine ⟨[g],fun b hb=>by rw [h7,List.mem_singleton.1 hb];exact List.mem_cons_self ..,.inr ⟨g,cap,cur,ty,List.replicate ys.length [],by rw [h1,hl],h2,by rw [hl];exact h3,h4,by rw [h5,hn],List.length_replicate,by rw [Gg],fun i y fp' hy hf=>?_⟩⟩
  obtain ⟨x,hx,hr⟩:=he i y hy
  have hlt:i < fps.length:=by rw [h6];exact (List.getElem?_eq_some_iff.1 hx).1
  obtain ⟨cs,hcs,hat,ho⟩:=h8 i x fps[i] hx (List.getElem?_eq_getElem hlt)
  have hfp:fp'=[]:=by
   rw [List.getElem?_replicate] at hf
   split at hf
   ·exact (Option.some.inj hf).symm
   ·cases hf
  subst hfp
  rw [← hn]
  refine ⟨cs,hcs,hat,Rd.own hc (hr _ _ _ (ho.rd (fun b hb=>?_) (fun b hb=>.inl hb)))⟩
  have hm:b∈fps.flatten:=List.mem_flatten.2 ⟨_,List.getElem_mem hlt,hb⟩
  refine .inr ⟨by rw [h7];exact List.mem_cons_of_mem _ hm,fun hg=>?_⟩
  rw [List.mem_singleton] at hg
  subst hg
  rw [h7] at hnd
  exact (List.nodup_cons.1 hnd).1 hm
theorem Q5 {st:St} {a:Act} (R0:Rel P M w0 σ Imm st a w) {t t':Ty} {xs:List t.D} {ys:List t'.D} (ho:aj st.h o=.arr false t xs) (hF:∀ b,(w0.heap.size≤b∨M b)→Fz b) (hn:t.n=t'.n) (hc:t'.cop=true) (hl:ys.length=xs.length)
  (he:∀ (i:Nat) y,ys[i]?=some y→∃ x,xs[i]?=some x∧∀ (I:Nat→Prop) (w:World) (cs:List Value),Rd P t I w cs x→Rd P t' I w cs y) :
  ∃ σ' Imm',Rel P M w0 σ' Imm' ⟨st.t,rs st.h o (.arr false t' ys)⟩ a w∧nE Fz st ⟨st.t,rs st.h o (.arr false t' ys)⟩ σ σ' Imm Imm' w w:=by
 have hob:ObR P σ Imm w o (.arr false t xs):=by have:=R0.ob o;rw [ho] at this;exact this
 have hlo:(aj st.h o).live=true:=by rw [ho];rfl
 have hth:(aj st.h o).there=true:=by rw [ho];rfl
 obtain ⟨fp',hs,hown⟩:=hob.1.inner hn hc hl he (R0.nd o hlo).1
 have hfpn:fp'.Nodup:=by
  rcases hown with ⟨_,_,h⟩ | ⟨g,cap,cur,ty,fps,_,h2,h3,_,_,h6,h7,h8⟩
  ·rw [h];exact List.nodup_nil
  ·have:fps.flatten=[]:=by
    rw [List.flatten_eq_nil_iff]
    intro l hm
    obtain ⟨i,hi⟩:=List.mem_iff_getElem?.1 hm
    have hlt:i < ys.length:=by rw [← h6];exact (List.getElem?_eq_some_iff.1 hi).1
    obtain ⟨cs,_,_,h⟩:=h8 i _ l (List.getElem?_eq_getElem hlt) hi
    exact Own.cop hc h
   rw [h7,this]
   simp
 obtain ⟨σ',hσ⟩:∃ σ':Hd→aS,σ'=fun q=>if q=o then { (σ o) with fp:=fp' } else σ q:=⟨_,rfl⟩
 have so:σ' o={ (σ o) with fp:=fp' }:=by rw [hσ];exact if_pos rfl
 have sn:∀ q,q≠o→σ' q=σ q:=fun q hq=>by rw [hσ];exact if_neg hq
 obtain ⟨J,hJ⟩:∃ J:Nat→Prop,J=fun b=>Imm b∨(b∈(σ o).fp∧b ∉ fp'):=⟨_,rfl⟩
 rw [← hJ] at hown
 have hJi:∀ b,Imm b→J b:=fun b hb=>by rw [hJ];exact .inl hb
 have hJe:∀ b,J b→Imm b∨(b∈(σ o).fp∧b ∉ fp'):=fun b hb=>by rw [hJ] at hb;exact hb
 have g:pU st.h σ σ' Imm J w w:=⟨fun q _=>by
  by_cases e:q=o
  ·subst e;rw [so];exact ⟨rfl,rfl⟩
  ·rw [sn q e];exact ⟨rfl,rfl⟩,fun b hb hl=>⟨hJi b hb,hl,rfl⟩⟩
 have ge:∀ q,aj (rs st.h o (.arr false t' ys)) q=if o=q then .arr false t' ys else aj st.h q:=fun q=>Ez _ hth q
 have gt:∀ q,(aj (rs st.h o (.arr false t' ys)) q).there=(aj st.h q).there:=fun q=>by
  rw [ge]
  by_cases e:o=q
  ·subst e;rw [if_pos rfl,ho];rfl
  ·rw [if_neg e]
 have gl:∀ q,(aj (rs st.h o (.arr false t' ys)) q).live=(aj st.h q).live:=fun q=>by
  rw [ge]
  by_cases e:o=q
  ·subst e;rw [if_pos rfl,ho];rfl
  ·rw [if_neg e]
 have fpo:∀ q,∀ b∈(σ' q).fp,b∈(σ q).fp:=fun q b hb=>by
  by_cases e:q=o
  ·subst e;rw [so] at hb;exact hs b hb
  ·rw [sn q e] at hb;exact hb
 refine ⟨σ',J,⟨R0.len,by rw [xW];exact R0.hlen,R0.defers,fun i=>(R0.tm i).goes g (R0.ct i),fun q=>?_,fun i q hq=>by rw [gt];exact R0.ct i q hq,fun q ro ls e q' hq'=>?_,fun q hq=>?_,fun q q' hqq h1 h2 b hb hb'=>R0.dj q q' hqq (by rw [← gl];exact h1) (by rw [← gl];exact h2) b (fpo q b hb) (fpo q' b hb'),fun b hb=>(hJe b hb).elim (R0.imm b) (fun hb=>hob.1.lt b hb.1),R0.keep⟩,
  ⟨g,fun q hq=>by rw [gt];exact hq,fun q hq=>?_,Nat.le_refl _,fun b _ hb=>(hJe b hb).elim .inl fun hb=>.inr (hF b ((R0.nd o hlo).2 b hb.1).2)⟩⟩
 ·simp only [ge]
  by_cases e:o=q
  ·subst e
   rw [if_pos rfl]
   refine ⟨by rw [so];exact hown,fun a n c hv=>?_⟩
   rw [so] at hv ⊢
   exact hob.2 a n c hv
  ·rw [if_neg e]
   exact ObR.goes g (fun _=>sn q (fun h=>e h.symm)) (fun ro ls h=>R0.cb q ro ls h) (fun _ _ _=>rfl) (R0.ob q)
 ·rw [gt]
  simp only [ge] at e
  by_cases e':o=q
  ·rw [if_pos e'] at e;cases e
  ·rw [if_neg e'] at e
   exact R0.cb q ro ls e q' hq'
 ·have hq:(aj st.h q).live=true:=by rw [← gl];exact hq
  obtain ⟨n1,n2⟩:=R0.nd q hq
  by_cases e:q=o
  ·subst e
   refine ⟨by rw [so];exact hfpn,fun b hb=>?_⟩
   rw [so] at hb
   have hb':=hs b hb
   exact ⟨fun hi=>(hJe b hi).elim ((n2 b hb').1) (fun h=>h.2 hb),(n2 b hb').2⟩
  ·rw [sn q e]
   exact ⟨n1,fun b hb=>⟨fun hi=>(hJe b hi).elim ((n2 b hb).1) (fun h=>R0.dj q o e hq hlo b hb h.1),(n2 b hb).2⟩⟩
 ·have hn:q≠o:=fun e=>by rw [e,ho] at hq;cases hq
  refine ⟨by simp only [ge];rw [if_neg (fun h=>hn h.symm)],sn q hn,fun b hb=>⟨rfl,fun hi=>(hJe b hi).elim ((R0.nd q (lO hq)).2 b hb).1 (fun h=>R0.dj q o hn (lO hq) hlo b hb h.1)⟩⟩
theorem Py {R:Type} {r:R} {κ:St→Option R}:∀ {l:List Place} {st:St} {σ:Hd→aS} {Imm:Nat→Prop} {a:Act},Rel P M w0 σ Imm st a w→(l≠[]→∀ b,(w0.heap.size≤b∨M b)→Fz b)→NG l st κ=some r →
  ∃ st' σ' Imm',κ st'=some r∧Rel P M w0 σ' Imm' st' a w∧nE Fz st st' σ σ' Imm Imm' w w∧st'.t.length=st.t.length
 | [],st,σ,Imm,a,R0,_,h=>⟨st,σ,Imm,h,R0,R0.evoF,rfl⟩
 | .boxO d j k t fl :: l,st,σ,Imm,a,R0,hF,h=>by
  unfold NG at h
  split at h
  ·rename_i t' xs ho hc
   obtain ⟨ys,h1,hn,hl,he⟩:=Q4 (P:=P) h
   rw [Cy] at h1
   obtain ⟨σ1,I1,R1,e1⟩:=Q5 R0 ho (hF (by simp)) hn hc hl he
   obtain ⟨st',σ',Imm',k1,k2,k3,k4⟩:=Py R1 (fun _=>hF (by simp)) h1
   exact ⟨st',σ',Imm',k1,k2,e1.trans k3,k4⟩
  ·cases h
 | .tmp _ _ :: _,_,_,_,_,_,_,h=>by cases h
 | .tmpO _ _ _ :: _,_,_,_,_,_,_,h=>by cases h
 | .box _ _ _ :: _,_,_,_,_,_,_,h=>by cases h
end
end
end Go.Abs
