/- Part of a proof of FnExactPlay: see the row. -/
import Derived.Test.YtenadnbpibhmiaaGreatPlAbsOps9
set_option linter.unusedVariables false
set_option linter.unusedSimpArgs false
namespace Go.Abs
open Go.RowKit
theorem i4 {α:Type} {m cs:List α} {o:Nat} (h:o + cs.length≤m.length) (k:Nat):(aW m o cs)[k]?=if o≤k∧k < o + cs.length then cs[k - o]? else m[k]?:=by
 rw [← CC cs m o h]
 have hl:(m.take o).length=o:=by simp;omega
 by_cases h1:k < o
 ·rw [if_neg (by omega),List.append_assoc,List.getElem?_append_left (by omega),List.getElem?_take,if_pos h1]
 ·by_cases h2:k < o + cs.length
  ·rw [if_pos ⟨by omega,h2⟩,List.append_assoc,List.getElem?_append_right (by omega),hl,List.getElem?_append_left (by omega)]
  ·rw [if_neg (by omega),List.getElem?_append_right (by simp;omega),List.getElem?_drop]
   congr 1
   simp
   omega
theorem F6 {α:Type}:∀ (cs m:List α) (o k:Nat),o + cs.length≤k→(aW m o cs).take k=aW (m.take k) o cs
 | [],_,_,_,_=>rfl
 | c :: cs,m,o,k,h=>by
  rw [aW,aW,F6 cs _ _ _ (by simp at h;omega),List.take_set]
theorem Els.setElem {P:Program} {Imm:Nat→Prop} {t:Ty} {w:World} {all:List Value} {xs:List t.D} {fps:List (List Nat)} (h:Els P Imm t w all xs fps) {i:Nat} (hi:i < xs.length) {cs:List Value} {y:t.D} {f:List Nat} (ho:Own P Imm t w cs y f) :
  Els P Imm t w (aW all (i * t.n) cs) (xs.set i y) (fps.set i f):=by
 obtain ⟨h1,h2,h3⟩:=h
 have hc:=ho.length
 have hle:i * t.n + cs.length≤all.length:=by
  rw [h2,hc]
  have:=Nat.mul_le_mul_right t.n (show i + 1≤xs.length by omega)
  rw [Nat.add_mul] at this
  omega
 refine ⟨by simp [h1],by rw [jE];simpa using h2,fun j x g hx hg=>?_⟩
 by_cases hj:j=i
 ·subst hj
  rw [List.getElem?_set_self (by omega)] at hx hg
  cases hx
  cases hg
  refine ⟨cs,hc,fun k v hk=>?_,ho⟩
  have hkl:=(List.getElem?_eq_some_iff.1 hk).1
  rw [i4 hle,if_pos (by omega),Nat.add_sub_cancel_left]
  exact hk
 ·rw [List.getElem?_set_ne (fun e=>hj e.symm)] at hx hg
  obtain ⟨ds,d1,d2,d3⟩:=h3 j x g hx hg
  refine ⟨ds,d1,fun k v hk=>?_,d3⟩
  have hkl:k < t.n:=by rw [← d1];exact (List.getElem?_eq_some_iff.1 hk).1
  rw [i4 hle,if_neg]
  ·exact d2 k v hk
  ·rw [hc]
   rintro ⟨a1,a2⟩
   rcases Nat.lt_or_gt_of_ne hj with hlt | hgt
   ·have:=Nat.mul_le_mul_right t.n (show j + 1≤i by omega)
    rw [Nat.add_mul] at this
    omega
   ·have:=Nat.mul_le_mul_right t.n (show i + 1≤j by omega)
    rw [Nat.add_mul] at this
    omega
theorem lc {l:List (List Nat)} {i:Nat} {f:List Nat} {b:Nat} (h:b∈(l.set i f).flatten):b∈l.flatten∨b∈f:=by
 obtain ⟨g,hg,hb⟩:=List.mem_flatten.1 h
 rcases List.mem_or_eq_of_mem_set hg with hg | rfl
 ·exact .inl (List.mem_flatten.2 ⟨g,hg,hb⟩)
 ·exact .inr hb
theorem sP:∀ {l:List (List Nat)} {i:Nat} {f:List Nat},l.flatten.Nodup→f.Nodup→(∀ b∈f,b ∉ l.flatten)→(l.set i f).flatten.Nodup
 | [],_,_,_,_,_=>by simp
 | a :: l,0,f,h,hf,hd=>by
  rw [List.set_cons_zero,List.flatten_cons,List.nodup_append]
  rw [List.flatten_cons,List.nodup_append] at h
  exact ⟨hf,h.2.1,fun b hb c hc e=>hd b hb (by rw [List.flatten_cons];simp [e,hc])⟩
 | a :: l,i + 1,f,h,hf,hd=>by
  rw [List.set_cons_succ,List.flatten_cons,List.nodup_append]
  rw [List.flatten_cons,List.nodup_append] at h
  refine ⟨h.1,sP h.2.1 hf (fun b hb hb2=>hd b hb (by rw [List.flatten_cons];simp [hb2])),fun b hb c hc e=>?_⟩
  rcases lc hc with h1 | h1
  ·exact h.2.2 b hb c h1 e
  ·exact hd c h1 (by rw [List.flatten_cons];simp [← e,hb])
section
variable {P:Program} {σ:Hd→aS} {Imm:Nat→Prop} {w:World}
theorem ED {R:Type} {r:R}:∀ {t:Ty} {x:t.D} {off:Nat} {l:Leaf} {κ:t.D→Option R},iv t x off l κ=some r →
  ∃ y,κ y=some r∧off < t.n∧∀ (w':World) (cs:List Value) (v:Value) (fp:List Nat),Own P Imm t w' cs x fp→LR P σ Imm w l v→Own P Imm t w' (cs.set off v) y fp
 | .int k,x,off,l,κ,h=>by
  cases off with
  | succ off=>cases l <;> simp [iv] at h
  | zero =>
   cases l <;> try (simp [iv] at h;done)
   rename_i k' n
   simp only [iv] at h
   split at h
   ·rename_i e
    subst e
    refine ⟨_,h,by simp [Ty.n],fun w' cs v fp ho hv=>?_⟩
    obtain ⟨e1,e2⟩:=ho
    have hv:v=_:=hv
    subst e1 hv e2
    exact ⟨rfl,rfl⟩
   ·cases h
 | .bool,x,off,l,κ,h=>by
  cases off with
  | succ off=>cases l <;> simp [iv] at h
  | zero =>
   cases l <;> try (simp [iv] at h;done)
   simp only [iv] at h
   refine ⟨_,h,by simp [Ty.n],fun w' cs v fp ho hv=>?_⟩
   obtain ⟨e1,e2⟩:=ho
   have hv:v=_:=hv
   subst e1 hv e2
   exact ⟨rfl,rfl⟩
 | .hd,x,off,l,κ,h=>by
  cases off with
  | succ off=>cases l <;> simp [iv] at h
  | zero =>
   cases l <;> try (simp [iv] at h;done)
   simp only [iv] at h
   refine ⟨_,h,by simp [Ty.n],fun w' cs v fp ho hv=>?_⟩
   obtain ⟨e1,e2⟩:=ho
   have hv:v=_:=hv
   subst e1 hv e2
   exact ⟨rfl,rfl⟩
 | .pair a b,x,off,l,κ,h=>by
  simp only [iv] at h
  split at h
  ·rename_i hb
   have hb:=Nat.le_of_ble_eq_true hb
   obtain ⟨y,h1,h2,h3⟩:=ED (t:=b) h
   refine ⟨_,h1,by simp [Ty.n];omega,fun w' cs v fp ho hv=>?_⟩
   obtain ⟨v1,v2,f1,f2,e1,e2,e3,o1,o2⟩:=ho
   subst e1
   rw [List.set_append_right _ _ (by omega),e2]
   exact ⟨v1,_,f1,f2,rfl,e2,e3,o1,h3 w' v2 v f2 o2 hv⟩
  ·rename_i hb
   have hb:¬ a.n≤off:=fun hle=>by rw [Nat.ble_eq_true_of_le hle] at hb;cases hb
   obtain ⟨y,h1,h2,h3⟩:=ED (t:=a) h
   refine ⟨_,h1,by simp [Ty.n];omega,fun w' cs v fp ho hv=>?_⟩
   obtain ⟨v1,v2,f1,f2,e1,e2,e3,o1,o2⟩:=ho
   subst e1
   rw [List.set_append_left _ _ (by omega)]
   exact ⟨_,v2,f1,f2,rfl,by simpa using e2,e3,h3 w' v1 v f1 o1 hv,o2⟩
 | .slice _,x,off,l,κ,h=>by simp [iv] at h
 | .unit,x,off,l,κ,h=>by simp [iv] at h
 | .fn _ _,x,off,l,κ,h=>by simp [iv] at h
 | .vw _,x,off,l,κ,h=>by simp [iv] at h
theorem Iq {R:Type} {r:R} {t:Ty}:∀ {ls:List Leaf} {x:t.D} {off:Nat} {κ:t.D→Option R},F0 t x off ls κ=some r →
  ∃ y,κ y=some r∧(ls≠[]→off + ls.length≤t.n)∧∀ (w':World) (cs vs:List Value) (fp:List Nat),Own P Imm t w' cs x fp→LRs P σ Imm w ls vs→Own P Imm t w' (aW cs off vs) y fp
 | [],x,off,κ,h=>⟨x,h,fun e=>absurd rfl e,fun w' cs vs fp ho hv=>by cases hv;exact ho⟩
 | l :: ls,x,off,κ,h=>by
  unfold F0 at h
  obtain ⟨y,h1,h2,h3⟩:=ED (P:=P) (σ:=σ) (Imm:=Imm) (w:=w) h
  obtain ⟨z,k1,k2,k3⟩:=Iq h1
  refine ⟨z,k1,fun _=>?_,fun w' cs vs fp ho hv=>?_⟩
  ·cases ls with
   | nil=>simp;omega
   | cons a b=>have:=k2 (by simp);simp at this ⊢;omega
  ·obtain ⟨v,r,rfl,hv,hr⟩:=hv
   exact k3 w' (cs.set off v) r fp (h3 w' cs v fp ho hv) hr
end
section
variable {P:Program} {M:Nat→Prop} {w0:World} {σ:Hd→aS} {Imm:Nat→Prop} {st:St} {a:Act} {w:World} {o:Oper} {E:Env}
theorem S5 {R:Type} {r:R} {t:Nat} {x y:Operand} {ti:TI} {κ:Dl→Option R} (R0:Rel P M w0 σ Imm st a w) (hd:∀ i,o.dst=some i→i < st.t.length) (ht:EA P t ti)
  (ho:o.op=.store t x y) (h:(vq (val st y) fun cs=>match Nat.beq cs.length ti.n with
   | true=>vr st (val st x) cs κ
   | false=>none)=some r):∃ δ,κ δ=some r∧aU P M w0 o st a w σ Imm δ:=by
 obtain ⟨ls,us,h1,h2,h3,h4⟩:=sN (R0.av y) h
 have hlc:aK st.h (aN ls):=by rw [h4];exact R0.vc y
 split at h1
 ·rename_i hn
  have hn:=Nat.eq_of_beq_eq_true hn
  have hlen:=h3.length
  have hx:=R0.av x
  have hxc:=R0.vc x
  have hrun:∀ {b off:Nat} {c:Array Value} {ty:TypeId},a.eval x=.pointer (some ⟨b,off,none⟩)→w.heap[b]?=some (.cells c ty (0,0))→off + us.length≤c.size →
    (execOp a.eval o).run P w=.ok .skip (w.setRow b (aW c.toList off us).toArray):=by
   intro b off c ty he hb hle
   have:=Li ht hb h2 (by omega) h3.ones hle
   simp [execOp,ho,Instr.storeAt,he,Instr.sureAddr,this]
  generalize val st x=vx at *
  unfold vr at h1
  split at h1
  ·
   rename_i q off
   split at h1
   ·rename_i cs hq
    obtain ⟨k1,k2⟩:=vB h1
    have hob:=R0.ob q
    rw [hq] at hob
    obtain ⟨c,ty,hb,hr,hfp⟩:=hob
    have hl2:=hr.length
    have hl:(aj st.h q).live=true:=by rw [hq];rfl
    have hro:(aj st.h q).ro=false:=by rw [hq];rfl
    have hrd:aK st.h [q]:=fun p hp=>hxc p (by simpa [AV.hds,Leaf.hds] using hp)
    refine ⟨_,k2,aU.write1 R0 hd ((dF.nil st).cons (by simp [aq]) hl hro) hrd rfl (σ q).fp (.inr ⟨hrun hx hb (by simp at hl2;omega),rfl⟩) (bg.setRow (by rw [hfp];simp)) ?_ ?_ (R0.nd q hl).1 (fun b hb=>.inl hb)⟩
    ·intro σ' e1 e2 e3 g
     refine ⟨_,ty,by rw [e2];exact setRow_heap w (σ q).b c _ ty (0,0) hb,?_,by rw [e3,e2];exact hfp⟩
     show LRs P σ' Imm _ (aW cs off ls) (aW c.toList off us)
     exact (hr.goes g (R0.cb q false cs hq)).seg off (h3.goes g hlc)
    ·intro ro' ls' e
     cases e
     intro p hp
     rcases Nq hp with hp | hp
     ·exact R0.cb q false cs hq p hp
     ·exact hlc p hp
   ·cases h1
  ·
   rename_i q n i off
   split at h1
   ·rename_i t' xs hq hnb
    rw [hq] at hnb
    have hnb:n=t'.n:=Nat.eq_of_beq_eq_true hnb
    subst hnb
    cases hxs:xs[i]? with
    | none=>rw [hxs] at h1;simp at h1
    | some x0 =>
     rw [hxs] at h1
     simp only [Option.bind_some] at h1
     have hi:i < xs.length:=(List.getElem?_eq_some_iff.1 hxs).1
     have hob:=R0.ob q
     rw [hq] at hob
     obtain ⟨hown,hbv⟩:=hob
     have hl:(aj st.h q).live=true:=by rw [hq];rfl
     have hro:(aj st.h q).ro=false:=by rw [hq];rfl
     have hrd:aK st.h [q]:=fun p hp=>hxc p (by simpa [AV.hds,Leaf.hds] using hp)
     rcases hown.els with ⟨_,e,_⟩ | ⟨g,cap,cur,ty,fps,e1,e2,e3,e4,e5,e6,e7⟩
     ·subst e;simp at hxs
     ·have hg:=hbv _ _ _ e1
      simp only [Addr.mk.injEq,and_true] at hg
      have hnd:=(R0.nd q hl).1
      rw [e6,List.nodup_cons] at hnd
      have hin:i * t'.n + t'.n≤xs.length * t'.n:=by
       have:=Nat.mul_le_mul_right t'.n (show i + 1≤xs.length by omega)
       rw [Nat.add_mul] at this
       omega
      have hcap:xs.length * t'.n≤cap * t'.n:=Nat.mul_le_mul_right _ e3
      have hx':a.eval x=.pointer (some ⟨g,i * t'.n + off,none⟩):=by rw [show a.eval x=_ from hx,hg]
      have hkg:bg (fun b=>b∈(σ q).fp) w (w.setRow g (aW cur.toList (i * t'.n + off) us).toArray):=bg.setRow (by rw [e6];simp)
      have hst:rq Imm Imm w (w.setRow g (aW cur.toList (i * t'.n + off) us).toArray):=hkg.still fun b hb hm=>((R0.nd q hl).2 b hm).1 hb
      have hset:=setRow_heap w g cur (aW cur.toList (i * t'.n + off) us).toArray ty (0,0) e2
      have hfl:∀ b∈fps.flatten,(w.setRow g (aW cur.toList (i * t'.n + off) us).toArray).heap[b]?=w.heap[b]?:=fun b hb=>setRow_other w g b _ fun e=>hnd.1 (e ▸ hb)
      have fin:∀ {xs':List t'.D} {fps':List (List Nat)} {fp':List Nat},xs'.length=xs.length→i * t'.n + off + us.length≤xs.length * t'.n →
        Els P Imm t' (w.setRow g (aW cur.toList (i * t'.n + off) us).toArray) (aW (cur.toList.take (xs.length * t'.n)) (i * t'.n + off) us) xs' fps' →
        fp'=g :: fps'.flatten→∀ σ':Hd→aS,(σ' q).v=(σ q).v→(σ' q).b=(σ q).b→(σ' q).fp=fp' →
        ObR P σ' Imm (w.setRow g (aW cur.toList (i * t'.n + off) us).toArray) q (.arr false t' xs'):=by
       intro xs' fps' fp' hxl hin2 hels hfp σ' s1 s2 s3
       refine ⟨?_,fun a' n' c' e=>by rw [s2];rw [s1] at e;exact hbv a' n' c' e⟩
       rw [s1,s3,e1,hfp,← hxl]
       refine hels.own hset (by omega) e4 (by simp [jE,e5]) ?_
       rw [hxl]
       show (aW cur.toList (i * t'.n + off) us).take (xs.length * t'.n)=_
       rw [F6 us cur.toList _ _ hin2]
      split at h1
      ·
       rename_i _ _ _ hw
       have hw:=Nat.eq_of_beq_eq_true hw
       obtain ⟨y0,rest,ws,f1,v1,v2,k1,k2,k3,k4,k5⟩:=d9 R0 h3 (dF.nil st) h1
       split at k1
       ·rename_i hh
        cases k3
        simp only [List.append_nil] at k2
        subst k2
        have hno:=iC hh
        obtain ⟨ks,s1,s2⟩:=k5.ks
        simp only [aq,List.append_nil] at s1
        have hwq:=k5.ok.cons hno hl hro
        have hf1:∀ b∈f1,b ∉ (σ q).fp:=by
         intro b hb hbq
         obtain ⟨p,hp,hbp⟩:=s2 b hb
         have hpk:p∈aq ws:=by rw [s1];exact hp
         exact R0.dj p q (fun e=>hno (e ▸ hpk)) (k5.ok.key hpk).1 hl b hbp hbq
        have hown':=k4.keep (w':=w.setRow g (aW cur.toList (i * t'.n + 0) us).toArray) (fun b hb=>setRow_other w g b _ fun e=>hf1 b hb (by rw [e6,e];simp)) hst
        refine ⟨_,k1,aU.write1 R0 hd hwq (fun p hp=>?_) rfl (g :: (fps.set i f1).flatten) (.inr ⟨hrun hx' e2 (by simp only [Nat.add_zero];rw [e5];omega),rfl⟩) hkg ?_ (fun ro' ls' e=>by cases e) ?_ ?_⟩
        ·rcases List.mem_cons.1 hp with rfl | hp
         ·exact hrd p (by simp)
         ·exact (cT.wr k5.ok).2 p hp
        ·intro σ' s1' s2' s3' _
         refine fin (by simp) (by simp only [Nat.add_zero];omega) ?_ rfl σ' s1' s2' s3'
         simp only [Nat.add_zero] at hown' hfl hst ⊢
         exact (e7.keep hfl hst).setElem hi hown'
        ·rw [List.nodup_cons]
         refine ⟨fun hm=>?_,sP hnd.2 k5.nd fun b hb hb2=>hf1 b hb (by rw [e6];simp [hb2])⟩
         rcases lc hm with hm | hm
         ·exact hnd.1 hm
         ·exact hf1 g hm (by rw [e6];simp)
        ·intro b hb
         rcases List.mem_cons.1 hb with rfl | hb
         ·exact .inl (by rw [e6];simp)
         ·rcases lc hb with hb | hb
          ·exact .inl (by rw [e6];simp [hb])
          ·obtain ⟨p,hp,hbp⟩:=s2 b hb
           exact .inr ⟨p,by rw [s1];exact hp,hbp⟩
       ·cases k1
      ·
       rename_i off _ _ _ l v0 _ _
       obtain ⟨y0,k1,k2,k3⟩:=Iq (P:=P) (σ:=σ) (Imm:=Imm) (w:=w) h1
       have k2:=k2 (by simp)
       have hfi:i < fps.length:=by rw [e7.1];exact hi
       obtain ⟨cs0,c1,c2,c3⟩:=e7.2.2 i x0 fps[i] hxs (List.getElem?_eq_getElem hfi)
       have hown':=k3 (w.setRow g (aW cur.toList (i * t'.n + off) us).toArray) cs0 us fps[i] (c3.keep (fun b hb=>hfl b (List.mem_flatten.2 ⟨_,List.getElem_mem hfi,hb⟩)) hst) h3
       rw [hlen] at k2
       refine ⟨_,k1,aU.write1 R0 hd ((dF.nil st).cons (by simp [aq]) hl hro) hrd rfl (σ q).fp (.inr ⟨hrun hx' e2 (by rw [e5];omega),rfl⟩) hkg ?_ (fun ro' ls' e=>by cases e) (R0.nd q hl).1 (fun b hb=>.inl hb)⟩
       intro σ' s1' s2' s3' _
       refine fin (fps':=fps) (by simp) (by omega) ?_ (by rw [← e6]) σ' s1' s2' s3'
       have he:=(e7.keep hfl hst).setElem hi hown'
       have hfs:fps.set i fps[i]=fps:=List.set_getElem_self hfi
       rw [hfs] at he
       have hal:(cur.toList.take (xs.length * t'.n)).length=xs.length * t'.n:=e7.2.1
       have hsl:(aW cs0 off us).length=t'.n:=by rw [jE,c1]
       have heq:aW (cur.toList.take (xs.length * t'.n)) (i * t'.n + off) us=aW (cur.toList.take (xs.length * t'.n)) (i * t'.n) (aW cs0 off us):=by
        apply List.ext_getElem?
        intro k
        rw [i4 (by rw [hal];omega),i4 (by rw [hal,hsl];omega),hsl]
        by_cases hk1:i * t'.n≤k∧k < i * t'.n + t'.n
        ·rw [if_pos hk1,i4 (by rw [c1];omega)]
         by_cases hk2:i * t'.n + off≤k∧k < i * t'.n + off + us.length
         ·rw [if_pos hk2,if_pos (by omega)]
          congr 1
          omega
         ·rw [if_neg hk2,if_neg (by omega)]
          have hck:k - i * t'.n < cs0.length:=by rw [c1];omega
          have:=c2 (k - i * t'.n) cs0[k - i * t'.n] (List.getElem?_eq_getElem hck)
          rw [List.getElem?_eq_getElem hck,← this]
          congr 1
          omega
        ·rw [if_neg hk1,if_neg (by omega)]
       rw [heq]
       exact he
      ·cases h1
   ·cases h1
  ·cases h1
 ·cases h1
end
end Go.Abs
