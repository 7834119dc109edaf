/- Part of a proof of FnExactPlay: see the row. -/
import Derived.Test.YtenadnbpibhmiaaGreatPlAbsMut2
set_option linter.unusedVariables false
set_option linter.unusedSimpArgs false
namespace Go.Abs
open Go.RowKit
section
variable {P:Program} {M:Nat→Prop} {w0:World} {σ:Hd→aS} {Imm:Nat→Prop} {st:St} {a:Act} {w:World} {o:Oper} {E:Env}
theorem QS {R:Type} {r:R} {b:Builtin} {c:Call} {κ:Dl→Option R} (R0:Rel P M w0 σ Imm st a w) (hd:∀ i,o.dst=some i→i < st.t.length) (hT:fU P E.T)
  (ho:o.op=.call c) (hcal:c.callee=.builtin b) (h:dR E st o.dst b (c.args.toList.map (val st)) c.argTypes.toList κ=some r):∃ δ,κ δ=some r∧aU P M w0 o st a w σ Imm δ:=by
 unfold dR at h
 split at h
 ·rename_i l hargs
  obtain ⟨x,hx,hl⟩:∃ x,c.args.toList=[x]∧val st x=.leaf l:=by
   obtain ⟨x,xs,h1,h2,h3⟩:=List.map_eq_cons_iff.1 hargs
   exact ⟨x,by rw [h1,List.map_eq_nil_iff.1 h3],h2⟩
  split at h
  ·rename_i T tys htys
   split at h
   ·rename_i t hel
    exact U7 R0 hd hT ho hcal hx htys hel hl h
   ·cases h
  ·cases h
 ·rename_i hargs
  obtain ⟨x,hx,hl⟩:∃ x,c.args.toList=[x]∧val st x=.leaf .nil:=by
   obtain ⟨x,xs,h1,h2,h3⟩:=List.map_eq_cons_iff.1 hargs
   exact ⟨x,by rw [h1,List.map_eq_nil_iff.1 h3],h2⟩
  split at h
  ·rename_i T tys htys
   split at h
   ·rename_i t hel
    exact Sb R0 hd hT ho hcal hx htys hel hl h
   ·cases h
  ·cases h
 ·rename_i s u hargs
  obtain ⟨x,y,hx,hs,hu⟩:∃ x y,c.args.toList=[x,y]∧val st x=.leaf s∧val st y=.leaf u:=by
   obtain ⟨x,xs,h1,h2,h3⟩:=List.map_eq_cons_iff.1 hargs
   obtain ⟨y,ys,h4,h5,h6⟩:=List.map_eq_cons_iff.1 h3
   exact ⟨x,y,by rw [h1,h4,List.map_eq_nil_iff.1 h6],h2,h5⟩
  split at h
  ·rename_i T T' htys
   split at h
   ·rename_i hTT
    have hTT:=Nat.eq_of_beq_eq_true hTT
    subst hTT
    exact Se R0 hd hT ho hcal hx htys hs hu h
   ·exact Ta R0 hd hT ho hcal hx htys hs hu h
  ·cases h
 ·rename_i q n lo hi hargs
  obtain ⟨x,hx,hl⟩:∃ x,c.args.toList=[x]∧val st x=.leaf (.part q n lo hi):=by
   obtain ⟨x,xs,h1,h2,h3⟩:=List.map_eq_cons_iff.1 hargs
   exact ⟨x,by rw [h1,List.map_eq_nil_iff.1 h3],h2⟩
  split at h
  ·rename_i T htys
   split at h
   ·rename_i t te t' xs hel hte hq
    obtain ⟨et,_⟩:=d8 h
    subst et
    exact Td R0 hd hT ho hcal hx htys hel hte hq hl (rz h)
   ·cases h
  ·cases h
 ·rename_i k n k' m hargs
  obtain ⟨x,y,hx,hs,hu⟩:∃ x y,c.args.toList=[x,y]∧val st x=.leaf (.int k n)∧val st y=.leaf (.int k' m):=by
   obtain ⟨x,xs,h1,h2,h3⟩:=List.map_eq_cons_iff.1 hargs
   obtain ⟨y,ys,h4,h5,h6⟩:=List.map_eq_cons_iff.1 h3
   exact ⟨x,y,by rw [h1,h4,List.map_eq_nil_iff.1 h6],h2,h5⟩
  exact ⟨_,h,U8 R0 hd ho hcal hx hs hu⟩
 ·rename_i k n k' m hargs
  obtain ⟨x,y,hx,hs,hu⟩:∃ x y,c.args.toList=[x,y]∧val st x=.leaf (.int k n)∧val st y=.leaf (.int k' m):=by
   obtain ⟨x,xs,h1,h2,h3⟩:=List.map_eq_cons_iff.1 hargs
   obtain ⟨y,ys,h4,h5,h6⟩:=List.map_eq_cons_iff.1 h3
   exact ⟨x,y,by rw [h1,h4,List.map_eq_nil_iff.1 h6],h2,h5⟩
  exact ⟨_,h,U9 R0 hd ho hcal hx hs hu⟩
 ·cases h
theorem Tj {R:Type} {r:R} {op:BinOp} {t t':Nat} {x y:Operand} {κ:Dl→Option R} (R0:Rel P M w0 σ Imm st a w) (hd:∀ i,o.dst=some i→i < st.t.length) (hT:fU P E.T)
  (ho:o.op=.binOp op t x y t') (h:dC E o st κ=some r):∃ δ,κ δ=some r∧aU P M w0 o st a w σ Imm δ:=by
 unfold dC at h
 rw [ho] at h
 simp only at h
 split at h
 ·rename_i k n k' m hx hy
  split at h
  ·split at h
   ·rename_i hm;exact ⟨_,h,U3 R0 hd ho hx hy hm⟩
   ·cases h
  ·split at h
   ·rename_i hk;subst hk
    split at h
    ·cases h
    ·rename_i hm;exact ⟨_,h,U4 R0 hd ho hx hy hm⟩
   ·cases h
  ·split at h
   ·rename_i hk;subst hk
    split at h
    ·cases h
    ·rename_i hm;exact ⟨_,h,U5 R0 hd ho hx hy hm⟩
   ·cases h
  ·rename_i hs1 _ _
   split at h
   ·rename_i hk;subst hk
    split at h
    ·rename_i l hl
     exact ⟨_,h,Sa R0 hd ho hx hy hl hs1 (fun e=>by subst e;simp [Id] at hl)⟩
    ·cases h
   ·cases h
 ·rename_i n m hx hy
  split at h
  ·rename_i ti hti
   split at h
   ·rename_i l hk hl
    have:=(hT _ _ hti).k
    rw [hk] at this
    exact ⟨_,h,QG (ti:=ti) R0 hd this ho hx hy hl⟩
   ·cases h
  ·cases h
 ·rename_i hx hy
  exact Pa R0 hd hT ho hx hy (.inl ⟨rfl,rfl⟩) h
 ·rename_i u xs hx hy
  exact Pa R0 hd hT ho hx hy (.inr ⟨u,xs,rfl,rfl⟩) h
 ·rename_i cs ds hx hy
  split at h
  ·rename_i ti hti
   split at h
   ·rename_i fs e hk he
    exact S1 R0 hd hT ho hx hy hti hk he h
   ·cases h
  ·cases h
 ·cases h
theorem Um {R:Type} {r:R} {κ:Dl→Option R} (hE:aE P E) (R0:Rel P M w0 σ Imm st a w) (hd:∀ i,o.dst=some i→i < st.t.length) (h:dC E o st κ=some r):∃ δ,κ δ=some r∧aU P M w0 o st a w σ Imm δ:=by
 have h0:=h
 have hT:=hE.1
 unfold dC at h
 split at h
 ·rename_i x ho;exact ⟨_,h,RG R0 hd (.inl ho)⟩
 ·rename_i x ho;exact ⟨_,h,RG R0 hd (.inr ho)⟩
 ·rename_i c x y ho
  split at h
  ·rename_i b hc
   refine ⟨_,?_,Uh R0 hd ho hc⟩
   cases b <;> exact h
  ·cases h
 ·rename_i e ho
  split at h
  ·rename_i ti d hti hdst;exact ⟨_,h,S3 R0 hd (hT _ _ hti) ho hdst⟩
  ·cases h
 ·rename_i e x ho
  split at h
  ·rename_i d l hdst hx;exact ⟨_,h,S4 R0 hd ho hdst (.inr ⟨_,hx,rfl⟩)⟩
  ·rename_i d cs hdst hx;exact ⟨_,h,S4 R0 hd ho hdst (.inl hx)⟩
  ·cases h
 ·rename_i t parts ho
  split at h
  ·rename_i ti hti
   split at h
   ·rename_i fs hk;exact S2 R0 hd hT ho hti hk h
   ·cases h
  ·cases h
 ·rename_i T len parts ho
  split at h
  ·rename_i t d hel hdst
   split at h
   ·rename_i hle
    split at h
    ·exact Nx R0 hd hT ho hel hdst (Nat.le_of_ble_eq_true hle) h
    ·exact Lh R0 hd hT ho hel hdst (Nat.le_of_ble_eq_true hle) h
   ·cases h
  ·cases h
 ·rename_i t x ho
  split at h
  ·rename_i ti hti;exact Ui R0 hd (hT _ _ hti) ho h
  ·cases h
 ·rename_i t x y ho
  split at h
  ·rename_i ti hti;exact S5 R0 hd (hT _ _ hti) ho h
  ·cases h
 ·rename_i x ho
  split at h
  ·rename_i q off hx;exact ⟨_,h,O2 R0 hd ho hx⟩
  ·rename_i q n i off hx;exact ⟨_,h,Nr R0 hd ho hx⟩
  ·rename_i t y off hx;exact ⟨_,h,Ns R0 hd ho hx⟩
  ·cases h
 ·rename_i op t x y t' ho;exact Tj R0 hd hT ho h0
 ·rename_i t x ho
  split at h
  ·rename_i b hx;exact ⟨_,h,U6 R0 hd ho hx⟩
  ·cases h
 ·rename_i s t x ho
  split at h
  ·rename_i k n ts ti hx hs ht
   split at h
   ·rename_i k' hk
    have h1:=(hT _ _ ht).k
    rw [hk] at h1
    have h2:∃ d,P.underlying s=some d:=by
     have:=(hT _ _ hs).k
     cases hk2:ts.k with
     | int k=>rw [hk2] at this;exact ⟨_,this⟩
     | bool=>rw [hk2] at this;exact ⟨_,this⟩
     | slice e=>rw [hk2] at this;exact ⟨_,this.1⟩
     | struct fs=>rw [hk2] at this;obtain ⟨F,h,_⟩:=this;exact ⟨_,h⟩
     | other=>rw [hk2] at this;obtain ⟨d,h,_⟩:=this;exact ⟨_,h⟩
    obtain ⟨d,h2⟩:=h2
    exact ⟨_,h,QH R0 hd ho hx h2 h1⟩
   ·cases h
  ·cases h
 ·rename_i s x f ho
  split at h
  ·rename_i ti hti
   split at h
   ·rename_i fs hk
    split at h
    ·rename_i off t hf
     split at h
     ·rename_i te cs hte hx
      exact SY R0 hd ho (hT _ _ hti) hk hf (hT _ _ hte) hx h
     ·cases h
    ·cases h
   ·cases h
  ·cases h
 ·rename_i s x f ho
  split at h
  ·rename_i ti hti
   split at h
   ·rename_i fs hk
    split at h
    ·rename_i off t hf;exact Nt R0 hd ho (hT _ _ hti) hk hf h
    ·cases h
   ·cases h
  ·cases h
 ·rename_i T x i ho;exact Nu R0 hd hT ho h
 ·rename_i T x y ho;exact Ul R0 hd hT ho h
 ·rename_i T x lo hi mx ho;exact QM R0 hd hT ho h
 ·rename_i f first caps ho;exact O4 R0 hd ho h
 ·rename_i t i ho;exact QI R0 hd ho h
 ·rename_i c ho
  split at h
  ·rename_i b hc;exact QS R0 hd hT ho hc h
  ·rename_i f hc
   split at h
   ·rename_i f' hf;exact Ti hE R0 hd ho hc hf h
   ·rename_i t u p hf;exact S8 hE R0 hd ho hc hf h
   ·cases h
  ·cases h
 ·cases h
end
end Go.Abs
