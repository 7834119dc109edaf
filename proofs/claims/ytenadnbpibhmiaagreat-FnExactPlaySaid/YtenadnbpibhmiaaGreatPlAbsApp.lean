/- Part of a proof of FnExactPlay: see the row. -/
import Derived.Test.YtenadnbpibhmiaaGreatPlAbsNew
set_option linter.unusedVariables false
set_option linter.unusedSimpArgs false
namespace Go.Abs
open Go.RowKit
section
variable {P:Program} {M:Nat→Prop} {w0:World} {σ:Hd→aS} {Imm:Nat→Prop} {st:St} {a:Act} {w:World} {o:Oper} {E:Env}
theorem QN {o:Hd} {n:Nat} {x:Leaf} {l u:Nat} (h:SS o n x=some (l,u)):x=.part o n l u:=by
 unfold SS at h
 split at h
 ·rename_i o' n' lo hi
  split at h
  ·rename_i h1 h2 h3
   have h1:=Nat.eq_of_beq_eq_true h1
   have h2:=Nat.eq_of_beq_eq_true h2
   have h3:=Nat.eq_of_beq_eq_true h3
   simp only [Option.some.injEq,Prod.mk.injEq] at h
   obtain ⟨rfl,rfl⟩:=h
   subst h3
   have:o=o':=Prod.ext h1 h2
   rw [this]
  ·cases h
 ·cases h
theorem Sc {α:Type} (xs:List α) {hi l u:Nat} (hlu:l≤u) (hu:u≤xs.length) (hfit:hi + (u - l)≤xs.length) (i:Nat) :
  (xs.take hi++(xs.take u).drop l++xs.drop (hi + (u - l)))[i]?=if hi≤i∧i < hi + (u - l) then xs[l + (i - hi)]? else xs[i]?:=by
 have e1:(xs.take hi).length=hi:=by simp;omega
 have e2:((xs.take u).drop l).length=u - l:=by simp;omega
 by_cases h1:i < hi
 ·rw [if_neg (by omega),List.append_assoc,List.getElem?_append_left (by omega),List.getElem?_take,if_pos h1]
 ·by_cases h2:i < hi + (u - l)
  ·rw [if_pos ⟨by omega,h2⟩,List.append_assoc,List.getElem?_append_right (by omega),List.getElem?_append_left (by omega),List.getElem?_drop,List.getElem?_take,if_pos (by omega),e1]
  ·rw [if_neg (by omega),List.getElem?_append_right (by simp;omega),List.getElem?_drop]
   congr 1
   simp only [List.length_append,e1,e2]
   omega
theorem Sd {α:Type} (xs:List α) {hi l u:Nat} (hlu:l≤u) (hu:u≤xs.length) (hfit:hi + (u - l)≤xs.length):(xs.take hi++(xs.take u).drop l++xs.drop (hi + (u - l))).length=xs.length:=by
 simp;omega
theorem Pc (R0:Rel P M w0 σ Imm st a w) (hd:∀ i,o.dst=some i→i < st.t.length) {T e:Nat} {i:TypeInfo} {t:Ty} (hu:P.underlying T=some (.slice e)) (hi:P.info? e=some i) (hs:i.size=t.n) (hf:t.flat=true) (hn:0 < t.n)
  {q:Hd} (hl:(aj st.h q).live=true) (hr:(aj st.h q).ro=false) {xs:List t.D} (hq:aj st.h q=.arr false t xs) {vs vx:Value} {hi' l u n:Nat}
  (hvs:LR P σ Imm w (.part q n 0 hi') vs) (hvx:LR P σ Imm w (.part q t.n l u) vx) (hlu:l≤u) (hfit:hi' + (u - l)≤xs.length) (hcq:aK st.h [q])
  (hrun:∀ w' v,(Builtin.append_ #[T,T] o.type #[vs,vx]).run P w=.ok v w'→(execOp a.eval o).run P w=.ok (.value v) w') :
  aU P M w0 o st a w σ Imm { v:=.leaf (.part q t.n 0 (hi' + (u - l))),rd:=[q],wr:=[(q,.arr false t (xs.take hi'++(xs.take u).drop l++xs.drop (hi' + (u - l))))] }:=by
 have hob:=R0.ob q
 rw [hq] at hob
 have hw:=(dF.nil st).cons (q:=q) (by simp [aq]) hl hr
 obtain ⟨ad,len,cap,ev,_,hlen,es⟩:=hvs
 obtain ⟨ad2,len2,cap2,ev2,hlo2,hlen2,ex⟩:=hvx
 rw [ev] at ev2
 simp only [Value.slice.injEq] at ev2
 obtain ⟨rfl,rfl,rfl⟩:=ev2
 have hz:(if cap=0 then ad else ad.map (·.add (0 * n)))=ad:=by
  split
  ·rfl
  ·cases ad <;> simp [Addr.add]
 rw [hz] at es
 simp only [Nat.sub_zero] at es
 rcases hob.1 with ⟨e1,e2,e3⟩ | ⟨g,cap',cur,ty',fps,e1,e2,e3,e4,e5,e6,e7,e8⟩
 ·simp only [List.cons.injEq,and_true] at e1
  rw [e1] at ev
  simp only [Value.slice.injEq] at ev
  obtain ⟨rfl,rfl,rfl⟩:=ev
  have h0:hi'=0:=by omega
  have h1:u=0:=by omega
  have h2:l=0:=by omega
  subst h0 h1 h2
  have hx0:xs.take 0++(xs.take 0).drop 0++xs.drop (0 + (0 - 0))=xs:=by simp
  have hr0:=wE (P:=P) (w:=w) T o.type e i hu hi none (if 0=0 then (none:Option Addr) else Option.map (fun x:Addr=>x.add (0 * t.n)) none) 0 0 0 (Nat.le_refl _)
  refine aU.writeV R0 hd hw hcq rfl (σ q).fp (.inl (hrun w _ (by rw [es,ex];exact hr0))) (bg.refl _ w) (fun σ' s1 s2 s3 _=>?_) (fun ro ls e=>by cases e) (R0.nd q hl).1 (fun b hb=>.inl hb) (fun σ' s1 s2=>?_) hcq
  ·rw [hx0]
   refine ⟨?_,fun a n c e=>?_⟩
   ·rw [s1,s3];exact hob.1
   ·rw [s1] at e;rw [s2];exact hob.2 a n c e
  ·exact ⟨none,0,0,by rw [s1,e1],by omega,by omega,by simp⟩
 ·simp only [List.cons.injEq,and_true] at e1
  rw [e1] at ev
  simp only [Value.slice.injEq] at ev
  obtain ⟨rfl,rfl,rfl⟩:=ev
  have hfps:∀ (i:Nat) (f:List Nat),fps[i]?=some f→f=[]:=by
   intro i f hfi
   have hlt:=(List.getElem?_eq_some_iff.1 hfi).1
   rw [e6] at hlt
   obtain ⟨cs,_,_,c3⟩:=e8 i _ f (List.getElem?_eq_getElem hlt) hfi
   exact (Own.flat (J:=Imm) (w':=w) hf c3).1
  have hfl:fps.flatten=[]:=by
   rw [List.flatten_eq_nil_iff]
   intro l hl2
   obtain ⟨i,hi3⟩:=List.mem_iff_getElem?.1 hl2
   exact hfps i l hi3
  rw [hfl] at e7
  let m:=u - l
  have hm:m=u - l:=rfl
  have hle2:hi' * t.n + m * t.n≤cap' * t.n:=by rw [← Nat.add_mul];exact Nat.mul_le_mul_right _ (by omega)
  have hle3:l * t.n + m * t.n≤cap' * t.n:=by rw [← Nat.add_mul];exact Nat.mul_le_mul_right _ (by omega)
  let news:=(cur.toList.drop (l * t.n)).take (m * t.n)
  have hnl:news.length=m * t.n:=by simp [news,e5];omega
  have hcell:∀ j,j < cap' * t.n→∀ v,cur.toList[j]?=some v→w.cell? ⟨g,j,none⟩=some v:=fun j _ v hv=>by
   rw [cell_of_row w g j cur ty' (0,0) e2];simpa using hv
  obtain ⟨ad,had,hnews⟩:∃ ad:Addr,(if cap'=l then some ⟨g,0,none⟩ else (some (⟨g,0,none⟩:Addr)).map (·.add (l * t.n)))=some ad∧∀ j v,news[j]?=some v→w.cell? (ad.add j)=some v:=by
   by_cases hcl:cap'=l
   ·refine ⟨_,if_pos hcl,fun j v hj=>?_⟩
    have h0:m=0:=by omega
    have h1:=(List.getElem?_eq_some_iff.1 hj).1
    rw [hnl,h0,Nat.zero_mul] at h1
    exact absurd h1 (Nat.not_lt_zero _)
   ·refine ⟨⟨g,l * t.n,none⟩,by rw [if_neg hcl];simp [fV],fun j v hj=>?_⟩
    have hjl:=(List.getElem?_eq_some_iff.1 hj).1
    rw [hnl] at hjl
    simp only [news,List.getElem?_take,hjl,if_true,List.getElem?_drop] at hj
    rw [fV]
    exact hcell _ (by omega) v hj
  have hones:∀ v∈news,v.oneCell'=true:=by
   intro v hv
   obtain ⟨j,hj⟩:=List.mem_iff_getElem?.1 hv
   have hjl:=(List.getElem?_eq_some_iff.1 hj).1
   rw [hnl] at hjl
   simp only [news,List.getElem?_take,hjl,if_true,List.getElem?_drop] at hj
   have hels:=(Own.els hob.1)
   rcases hels with ⟨h,_⟩ | ⟨g',cap2,cur2,ty2,fps2,f1,f2,f3,f4,f5,f6,f7⟩
   ·rw [e1] at h;cases h
   ·rw [e1] at f1
    simp only [Value.slice.injEq,Option.some.injEq,Addr.mk.injEq,and_true,true_and] at f1
    obtain ⟨rfl,rfl⟩:=f1
    rw [e2] at f2
    cases f2
    refine f7.ones v (List.mem_iff_getElem?.2 ⟨l * t.n + j,?_⟩)
    have:l * t.n + m * t.n≤xs.length * t.n:=by rw [← Nat.add_mul];exact Nat.mul_le_mul_right _ (by omega)
    rw [List.getElem?_take,if_pos (by omega)]
    exact hj
  have hrr:=nI (P:=P) (w:=w) T o.type e ty' i hu hi g hi' cap' cur e2 ad m (cap' - l) news (by rw [hs];exact hnl) hnews hones (by omega) (by rw [hs,hnl,e5];omega)
  rw [hs] at hrr
  let cur':=(cur.toList.take (hi' * t.n)++news++cur.toList.drop (hi' * t.n + news.length)).toArray
  have hset:=setRow_heap w g cur cur' ty' (0,0) e2
  have hcl:cur'.size=cap' * t.n:=by
   simp only [cur',List.size_toArray,List.length_append,List.length_take,List.length_drop,hnl,Array.length_toList,e5]
   omega
  have hcg:∀ j,cur'[j]?=if hi' * t.n≤j∧j < hi' * t.n + m * t.n then cur[l * t.n + (j - hi' * t.n)]? else cur[j]?:=by
   intro j
   have h1:(cur.toList.take (hi' * t.n)).length=hi' * t.n:=by rw [List.length_take,Array.length_toList,e5];omega
   simp only [cur',List.getElem?_toArray]
   by_cases c1:j < hi' * t.n
   ·rw [if_neg (by omega),List.append_assoc,List.getElem?_append_left (by omega),List.getElem?_take,if_pos c1];simp
   ·by_cases c2:j < hi' * t.n + m * t.n
    ·rw [if_pos ⟨by omega,c2⟩,List.append_assoc,List.getElem?_append_right (by omega),List.getElem?_append_left (by rw [h1,hnl];omega),h1]
     simp only [news]
     rw [List.getElem?_take,if_pos (by omega),List.getElem?_drop]
     simp
    ·rw [if_neg (by omega),List.getElem?_append_right (by rw [List.length_append,h1,hnl];omega),List.getElem?_drop]
     rw [← Array.getElem?_toList]
     congr 1
     simp only [List.length_append,h1,hnl]
     omega
  have hxl:=Sd xs hlu hlen2 hfit
  have hsrc:∀ i x,(xs.take hi'++(xs.take u).drop l++xs.drop (hi' + (u - l)))[i]?=some x→∃ s,xs[s]?=some x∧∀ k,k < t.n→cur'[i * t.n + k]?=cur[s * t.n + k]?:=by
   intro i x hx
   rw [Sc xs hlu hlen2 hfit] at hx
   split at hx
   ·rename_i hin
    refine ⟨_,hx,fun k hk=>?_⟩
    have a1:hi' * t.n≤i * t.n:=Nat.mul_le_mul_right _ hin.1
    have a2:i * t.n + t.n≤hi' * t.n + m * t.n:=by
     have:=Nat.mul_le_mul_right t.n (show i + 1≤hi' + m by omega)
     rw [Nat.add_mul,Nat.add_mul] at this
     omega
    rw [hcg,if_pos ⟨by omega,by omega⟩]
    congr 1
    rw [Nat.add_mul,Nat.sub_mul]
    omega
   ·rename_i hin
    refine ⟨_,hx,fun k hk=>?_⟩
    have hnot:¬ (hi' * t.n≤i * t.n + k∧i * t.n + k < hi' * t.n + m * t.n):=by
     rintro ⟨b1,b2⟩
     rcases Nat.lt_or_ge i hi' with c | c
     ·have:=Nat.mul_le_mul_right t.n (show i + 1≤hi' by omega)
      rw [Nat.add_mul] at this
      omega
     ·have:=Nat.mul_le_mul_right t.n (show hi' + m≤i by omega)
      rw [Nat.add_mul] at this
      omega
    rw [hcg,if_neg hnot]
  refine aU.writeV R0 hd hw hcq rfl [g] (.inl (hrun _ _ (by rw [es,ex,had];exact hrr))) (bg.setRow (by rw [e7];simp)) (fun σ' s1 s2 s3 _=>?_) (fun ro ls e=>by cases e) (by simp) (fun b hb=>.inl (by rw [e7];simp at hb;simp [hb])) (fun σ' s1 s2=>?_) hcq
  ·refine ⟨?_,fun a n c e=>?_⟩
   ·rw [s1,s3,e1]
    have hrow:=Pb (P:=P) (Imm:=Imm) (t:=t) hf (w:=w) (w':=w.setRow g cur') (g:=g) (xs:=xs.take hi'++(xs.take u).drop l++xs.drop (hi' + (u - l)))
     (f:=fun i=>(cur'.toList.drop (i * t.n)).take t.n) (cap:=cap') (fun i x hxi=>?_) hset (by rw [hxl];exact e3) e4 hcl (fun i x hxi k v hk=>?_)
    ·rw [hxl] at hrow;exact hrow
    ·obtain ⟨s,hs1,hs2⟩:=hsrc i x hxi
     have hil:i < xs.length:=by rw [← hxl];exact (List.getElem?_eq_some_iff.1 hxi).1
     have hsl:s < xs.length:=(List.getElem?_eq_some_iff.1 hs1).1
     have hle4:i * t.n + t.n≤cap' * t.n:=by
      have:=Nat.mul_le_mul_right t.n (show i + 1≤cap' by omega)
      rw [Nat.add_mul] at this
      omega
     have hfs:fps[s]?=some []:=by
      have hlt:s < fps.length:=by rw [e6];exact hsl
      rw [List.getElem?_eq_getElem hlt,hfps s _ (List.getElem?_eq_getElem hlt)]
     obtain ⟨cs,c1,c2,c3⟩:=e8 s x [] hs1 hfs
     have hcs:(cur'.toList.drop (i * t.n)).take t.n=cs:=by
      refine List.ext_getElem? fun k=>?_
      rw [List.getElem?_take,List.getElem?_drop]
      split
      ·rename_i hk
       have hk2:k < cs.length:=by omega
       have h1:=(b8 _ _).1 c2 k _ (List.getElem?_eq_getElem hk2)
       rw [cell_of_row w g _ cur ty' (0,0) e2] at h1
       have h2:=hs2 k hk
       rw [Array.getElem?_toList,h2,List.getElem?_eq_getElem hk2,h1]
      ·rw [List.getElem?_eq_none (by omega)]
     rw [hcs]
     exact ⟨c1,c3⟩
    ·rw [List.getElem?_take] at hk
     split at hk
     ·rw [List.getElem?_drop,Array.getElem?_toList] at hk
      exact hk
     ·cases hk
   ·rw [s1] at e;rw [s2];exact hob.2 a n c e
  ·refine ⟨some ⟨g,0,none⟩,xs.length,cap',by rw [s1,e1],by omega,hfit,?_⟩
   have hz':(if cap'=0 then some (⟨g,0,none⟩:Addr) else (some (⟨g,0,none⟩:Addr)).map (·.add (0 * t.n)))=some ⟨g,0,none⟩:=by
    split
    ·rfl
    ·simp [Addr.add]
   rw [hz']
   simp [m]
theorem Se {R:Type} {r:R} {T:Nat} {x y:Operand} {s u:Leaf} {c:Call} {κ:Dl→Option R} (R0:Rel P M w0 σ Imm st a w) (hd:∀ i,o.dst=some i→i < st.t.length) (hT:fU P E.T)
  (ho:o.op=.call c) (hcal:c.callee=.builtin .append) (hargs:c.args.toList=[x,y]) (htys:c.argTypes.toList=[T,T]) (hx:val st x=.leaf s) (hy:val st y=.leaf u)
  (h:oB E st o.dst T s u κ=some r):∃ δ,κ δ=some r∧aU P M w0 o st a w σ Imm δ:=by
 unfold oB at h
 split at h
 ·rename_i t d hel hdst
  obtain ⟨e,i,z,hu,hi,hs,hb,hn,hz,hzs⟩:=cw hT hel
  have ha:c.args=#[x,y]:=by rw [← Array.toArray_toList (xs:=c.args),hargs]
  have hty:c.argTypes=#[T,T]:=by rw [← Array.toArray_toList (xs:=c.argTypes),htys]
  have hvx:=R0.av x
  have hvy:=R0.av y
  have hcx:=R0.vc x
  have hcy:=R0.vc y
  rw [hx] at hvx hcx
  rw [hy] at hvy hcy
  have key:∀ {xs ys:List t.D} {fp:List Nat} {fps:List (List Nat)} {ws:List (Hd×aw)} {rd:List Hd},dF st ws→aK st.h rd→Own P Imm (.slice t) w [a.eval x] xs fp→fp.Nodup→Src P Imm t w (a.eval y) ys fps→(∀ b∈fp,b ∉ fps.flatten) →
    (∀ b∈fps.flatten,b < w.heap.size)→fps.flatten.Nodup→(∀ b,b∈fp∨b∈fps.flatten→∃ q∈aq ws,b∈(σ q).fp)→(xs.length + ys.length) * (24 * t.n)≤aC →
    κ { v:=.leaf (.own (d,0)),rd,wr:=ws,new:=[.arr false t (xs++ys)] }=some r→∃ δ,κ δ=some r∧aU P M w0 o st a w σ Imm δ:=by
   intro xs ys fp fps ws rd hw hrd hown hnd hsrc hg hlt hnd2 hk hroom hκ
   obtain ⟨v',w',fp',hrun,hK,ho',hn',hin⟩:=Io (ty:=o.type) hu hi hs hb hn hz hzs hown hnd hsrc (fun b hb hi=>by
    obtain ⟨q,hq,hbq⟩:=hk b (.inl hb)
    exact ((R0.nd q (hw.key hq).1).2 b hbq).1 hi) hg hlt hnd2 hroom
   refine ⟨_,hκ,aU.arr1 R0 hd hdst hw hrd ?_ (hK.mono fun b _ hb=>hk b (.inl hb)) ho' hn' (fun b hb=>?_)⟩
   ·simp [execOp,ho,resolve,hcal,ha,hty,invoke,builtin,hrun]
   ·rcases hin b hb with h | h | h
    ·exact .inl h
    ·exact .inr (hk b (.inl h))
    ·exact .inr (hk b (.inr h))
  have grow:∀ {xs:List t.D} {fp:List Nat} {ws:List (Hd×aw)},dF st ws→Own P Imm (.slice t) w [a.eval x] xs fp→fp.Nodup→(∀ b∈fp,∃ q∈aq ws,b∈(σ q).fp) →
    ui st d t u xs ws κ=some r →
    ∃ δ,κ δ=some r∧aU P M w0 o st a w σ Imm δ:=by
   intro xs fp ws hw hown hnd hk hh
   unfold ui at hh
   cases hf:t.flat with
   | true =>
    rw [hf] at hh
    obtain ⟨ys,us,h1,h2,h3,_⟩:=ya R0 hvy hcy hh
    split at h1
    ·rename_i hroom
     have hsrc:=Rd.src (J:=Imm) (Ty.flat_cop hf) (.inl hf) h2
     refine key hw (fun q hq=>?_) hown hnd hsrc (fun b _=>by rw [eq];simp) (fun b hb=>by rw [eq] at hb;cases hb) (by rw [eq];exact List.nodup_nil) (fun b hb=>?_) hroom h1
     ·rcases List.mem_append.1 hq with hq | hq
      ·exact h3 q hq
      ·exact (cT.wr hw).2 q hq
     ·rw [eq] at hb
      rcases hb with hb | hb
      ·exact hk b hb
      ·cases hb
    ·cases h1
   | false =>
    rw [hf] at hh
    cases hcp:t.cop with
    | true =>
     rw [hcp] at hh
     obtain ⟨ys,h1,h2⟩:=xZ hvy hh
     split at h1
     ·rename_i hroom
      have hsrc:=Rd.src (J:=Imm) hcp (.inr fun _ h=>h) (show Rd P (.slice t) Imm w [a.eval y] ys from h2)
      refine key hw (cT.wr hw).2 hown hnd hsrc (fun b _=>by rw [eq];simp) (fun b hb=>by rw [eq] at hb;cases hb) (by rw [eq];exact List.nodup_nil) (fun b hb=>?_) hroom h1
      rw [eq] at hb
      rcases hb with hb | hb
      ·exact hk b hb
      ·cases hb
     ·cases h1
    | false =>
    rw [hcp] at hh
    obtain ⟨ys,ws',fp2,h1,h2,h3⟩:=xY R0 hvy hw hh
    split at h1
    ·rename_i hroom
     obtain ⟨fps,hsrc,hfp⟩:=h2.src
     obtain ⟨ks,e1,e2⟩:=h3.ks
     have hsub:∀ b∈fps.flatten,b∈fp2:=by
      rcases hfp with rfl | ⟨g,rfl⟩
      ·exact fun b hb=>hb
      ·exact fun b hb=>by simp [hb]
     refine key h3.ok (cT.wr h3.ok).2 hown hnd hsrc (fun b hb hb2=>?_) (fun b hb=>h2.lt b (hsub b hb)) ?_ (fun b hb=>?_) hroom h1
     ·obtain ⟨q,hq,hbq⟩:=hk b hb
      obtain ⟨q',hq',hbq'⟩:=e2 b (hsub b hb2)
      have hnn:=h3.ok.nd
      rw [e1,List.nodup_append] at hnn
      exact R0.dj q q' (fun e=>hnn.2.2 q' hq' q hq e.symm) (h3.ok.key (by rw [e1];simp [hq])).1 (h3.ok.key (by rw [e1];simp [hq'])).1 b hbq hbq'
     ·rcases hfp with rfl | ⟨g,rfl⟩
      ·exact h3.nd
      ·exact (List.nodup_cons.1 h3.nd).2
     ·rcases hb with hb | hb
      ·obtain ⟨q,hq,hbq⟩:=hk b hb;exact ⟨q,by rw [e1];simp [hq],hbq⟩
      ·obtain ⟨q,hq,hbq⟩:=e2 b (hsub b hb);exact ⟨q,by rw [e1];simp [hq],hbq⟩
    ·cases h1
  split at h
  ·exact grow (fp:=[]) (dF.nil st) (.inl ⟨by rw [show a.eval x=_ from hvx],rfl,rfl⟩) List.nodup_nil (fun _ h=>by cases h) h
  ·rename_i q
   split at h
   ·rename_i t' xs hq
    obtain ⟨e,hk⟩:=d8 h
    subst e
    have hob:=R0.ob q
    rw [hq] at hob
    have hl:(aj st.h q).live=true:=by rw [hq];rfl
    have hr:(aj st.h q).ro=false:=by rw [hq];rfl
    refine grow (fp:=(σ q).fp) ((dF.nil st).cons (by simp [aq]) hl hr) ?_ (R0.nd q hl).1 (fun b hb=>⟨q,by simp [aq],hb⟩) hk
    rw [show a.eval x=_ from hvx.1]
    exact hob.1
   ·cases h
  ·rename_i q n hi'
   split at h
   ·rename_i t' xs hq
    obtain ⟨e,_⟩:=d8 h
    subst e
    have hk:=rz h
    have hl:(aj st.h q).live=true:=by rw [hq];rfl
    have hr:(aj st.h q).ro=false:=by rw [hq];rfl
    split at hk
    ·rename_i l' u' hsp hfn
     simp only [Bool.and_eq_true] at hfn
     obtain ⟨hf,hnn⟩:=hfn
     have hnn:=Nat.eq_of_beq_eq_true hnn
     subst hnn
     have hu':u=.part q t'.n l' u':=QN hsp
     split at hk
     ·rename_i hlu
      split at hk
      ·rename_i hfit
       refine ⟨_,hk,?_⟩
       refine Pc R0 hd hu hi hs hf hn hl hr hq hvx (by rw [hu'] at hvy;exact hvy) hlu hfit (by simpa [AV.hds,Leaf.hds] using hcx) fun w' v hrun=>?_
       simp [execOp,ho,resolve,hcal,ha,hty,invoke,builtin,hrun]
      ·cases hk
     ·cases hk
    ·cases hk
    ·have ht:rk st.h t' (.part q n 0 hi') [] (fun xs ws=>ui st d t' u xs ws κ)=some r:=by
      unfold rk
      simp only [hq,Bi]
      unfold fT
      rw [dif_pos rfl]
      exact hk
     obtain ⟨ys,ws',fp,h1,h2,h3⟩:=xY R0 (show LR P σ Imm w (.part q n 0 hi') (a.eval x) from hvx) (dF.nil st) ht
     obtain ⟨ks,e1,e2⟩:=h3.ks
     simp only [aq,List.append_nil] at e1
     exact grow (fp:=fp) h3.ok h2 h3.nd (fun b hb=>by rw [e1];exact e2 b hb) h1
   ·cases h
  ·cases h
 ·cases h
end
end Go.Abs
