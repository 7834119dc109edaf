/- Part of a proof of FnExactPlay: see the row. -/
import Derived.Test.YtenadnbpibhmiaaGreatPlAbsFrm2
set_option linter.unusedVariables false
set_option linter.unusedSimpArgs false
namespace Go.Abs
open Go.RowKit
theorem EJ {o:Oper} {st st':St} {c:Call} (ho:o.op=.call c) (hs:QT o st st'):c.args.toList.map (val st')=c.args.toList.map (val st):=by
 refine List.map_congr_left fun x hx=>hs x ?_
 rw [ho]
 simp only [iz,List.mem_append]
 exact .inr hx
theorem Uo {R:Type} {r:R} {E:Env} {o:Oper} {st:St} {κ:Dl→Option R} (h:dC E o st κ=some r):∃ δ,κ δ=some r∧Frm E o st δ:=by
 have one:∀ {x:Operand} {st'},QT o st st'→iz o.op=[x]→val st' x=val st x:=fun {x st'} hs e=>hs x (by rw [e];simp)
 unfold dC at h
 split at h
 ·rename_i x ho
  exact ⟨_,h,fun st' hs _ R' κ'=>by unfold dC;rw [ho];simp only [one hs (by rw [ho];rfl)]⟩
 ·rename_i x ho
  exact ⟨_,h,fun st' hs _ R' κ'=>by unfold dC;rw [ho];simp only [one hs (by rw [ho];rfl)]⟩
 ·rename_i c x y ho
  split at h
  ·rename_i b hc
   refine ⟨{ v:=cond b (val st x) (val st y) },by cases b <;> exact h,fun st' hs _ R' κ'=>?_⟩
   unfold dC;rw [ho]
   simp only [hs c (by rw [ho];simp [iz]),hs x (by rw [ho];simp [iz]),hs y (by rw [ho];simp [iz]),hc]
   cases b <;> rfl
  ·cases h
 ·rename_i e ho
  split at h
  ·rename_i ti d hti hdst
   exact ⟨_,h,fun st' hs _ R' κ'=>by unfold dC;rw [ho];simp only [hti,hdst]⟩
  ·cases h
 ·rename_i e x ho
  split at h
  ·rename_i d l hdst hx
   exact ⟨_,h,fun st' hs _ R' κ'=>by unfold dC;rw [ho];simp only [hdst,one hs (by rw [ho];rfl),hx]⟩
  ·rename_i d cs hdst hx
   exact ⟨_,h,fun st' hs _ R' κ'=>by unfold dC;rw [ho];simp only [hdst,one hs (by rw [ho];rfl),hx]⟩
  ·cases h
 ·rename_i t parts ho
  split at h
  ·rename_i ti hti
   split at h
   ·rename_i fs hk
    obtain ⟨x,h1,h2⟩:=Pe h
    exact ⟨_,h1,fun st' hs _ R' κ'=>by
     unfold dC;rw [ho];simp only [hti,hk]
     exact h2 st' (fun x hx=>hs x (by rw [ho];exact hx)) R' fun cs=>κ' { v:=.agg cs }⟩
   ·cases h
  ·cases h
 ·rename_i T len parts ho
  split at h
  ·rename_i t d hel hdst
   split at h
   ·rename_i hle
    split at h
    ·rename_i hv
     obtain ⟨x,h1,h2⟩:=MQ h
     exact ⟨_,h1,fun st' hs hsm R' κ'=>by
      unfold dC;rw [ho];simp only [hel,hdst,hle,hv]
      exact h2 st' (fun x hx=>hs x (by rw [ho];exact hx)) R' fun xs=>κ' { v:=.leaf (.view t xs) }⟩
    rename_i hv
    obtain ⟨x,us,h1,_,h2⟩:=MP h
    exact ⟨_,h1,fun st' hs hsm R' κ'=>by
     unfold dC;rw [ho];simp only [hel,hdst,hle,hv]
     exact h2 st' (fun x hx=>hs x (by rw [ho];exact hx)) hsm R' fun xs ws=>κ' { v:=.leaf (.own (d,0)),rd:=aq ws,wr:=ws,new:=[.arr false t xs] }⟩
   ·cases h
  ·cases h
 ·rename_i t x ho
  split at h
  ·rename_i ti hti
   obtain ⟨δ,h1,h2⟩:=Tm h
   exact ⟨δ,h1,fun st' hs hsm R' κ'=>by unfold dC;rw [ho];simp only [hti,one hs (by rw [ho];rfl)];exact h2 st' hsm R' κ'⟩
  ·cases h
 ·rename_i t x y ho
  split at h
  ·rename_i ti hti
   obtain ⟨ls,h1,h2⟩:=zM h
   split at h1
   ·rename_i hl
    obtain ⟨δ,h3,h4⟩:=Sh h1
    exact ⟨δ,h3,fun st' hs hsm R' κ'=>by
     unfold dC;rw [ho];simp only [hti,hs x (by rw [ho];simp [iz]),hs y (by rw [ho];simp [iz])]
     rw [h2]
     simp only [hl]
     exact h4 st' hsm R' κ'⟩
   ·cases h1
  ·cases h
 ·rename_i x ho
  split at h
  ·rename_i q off hx
   exact ⟨_,h,fun st' hs _ R' κ'=>by unfold dC;rw [ho];simp only [one hs (by rw [ho];rfl),hx]⟩
  ·rename_i hx
   exact ⟨_,h,fun st' hs _ R' κ'=>by unfold dC;rw [ho];simp only [one hs (by rw [ho];rfl),hx]⟩
  ·rename_i hx
   exact ⟨_,h,fun st' hs _ R' κ'=>by unfold dC;rw [ho];simp only [one hs (by rw [ho];rfl),hx]⟩
  ·cases h
 ·rename_i op t x y t' ho
  have hsx:∀ {st'},QT o st st'→val st' x=val st x∧val st' y=val st y:=fun hs=>⟨hs x (by rw [ho];simp [iz]),hs y (by rw [ho];simp [iz])⟩
  split at h
  ·rename_i k n k' m hx hy
   split at h
   ·split at h
    ·rename_i hm
     exact ⟨_,h,fun st' hs _ R' κ'=>by unfold dC;rw [ho];simp only [hsx hs,hx,hy];rw [if_pos hm]⟩
    ·cases h
   ·split at h
    ·rename_i hk
     split at h
     ·cases h
     ·rename_i hm
      exact ⟨_,h,fun st' hs _ R' κ'=>by unfold dC;rw [ho];simp only [hsx hs,hx,hy];rw [if_pos hk,if_neg hm]⟩
    ·cases h
   ·split at h
    ·rename_i hk
     split at h
     ·cases h
     ·rename_i hm
      exact ⟨_,h,fun st' hs _ R' κ'=>by unfold dC;rw [ho];simp only [hsx hs,hx,hy];rw [if_pos hk,if_neg hm]⟩
    ·cases h
   ·rename_i n1 n2 n3
    split at h
    ·rename_i hk
     split at h
     ·rename_i l hl
      refine ⟨_,h,fun st' hs _ R' κ'=>?_⟩
      unfold dC;rw [ho];simp only [hsx hs,hx,hy]
      cases op <;> first | exact absurd rfl n1 | exact absurd rfl n2 | exact absurd rfl n3 | (simp only [hk,if_true];subst hk;rw [hl]) | (simp [Id] at hl)
     ·cases h
    ·cases h
  ·rename_i n m hx hy
   split at h
   ·rename_i ti hti
    split at h
    ·rename_i l hk hl
     exact ⟨_,h,fun st' hs _ R' κ'=>by unfold dC;rw [ho];simp only [hsx hs,hx,hy,hti,hk,hl]⟩
    ·cases h
   ·cases h
  ·rename_i hx hy
   obtain ⟨δ,h1,h2⟩:=MR h
   exact ⟨δ,h1,fun st' hs _ R' κ'=>by unfold dC;rw [ho];simp only [hsx hs,hx,hy];exact h2 R' κ'⟩
  ·rename_i hx hy
   obtain ⟨δ,h1,h2⟩:=MR h
   exact ⟨δ,h1,fun st' hs _ R' κ'=>by unfold dC;rw [ho];simp only [hsx hs,hx,hy];exact h2 R' κ'⟩
  ·rename_i cs ds hx hy
   split at h
   ·rename_i ti hti
    split at h
    ·rename_i fs e hk he
     split at h
     ·exact ⟨_,h,fun st' hs _ R' κ'=>by unfold dC;rw [ho];simp only [hsx hs,hx,hy,hti,hk,he]⟩
     ·exact ⟨_,h,fun st' hs _ R' κ'=>by unfold dC;rw [ho];simp only [hsx hs,hx,hy,hti,hk,he]⟩
     ·cases h
    ·cases h
   ·cases h
  ·cases h
 ·rename_i t x ho
  split at h
  ·rename_i b hx
   exact ⟨_,h,fun st' hs _ R' κ'=>by unfold dC;rw [ho];simp only [one hs (by rw [ho];rfl),hx]⟩
  ·cases h
 ·rename_i s t x ho
  split at h
  ·rename_i k n ts ti hx hs' ht
   split at h
   ·rename_i k' hk
    exact ⟨_,h,fun st' hs _ R' κ'=>by unfold dC;rw [ho];simp only [one hs (by rw [ho];rfl),hx,hs',ht,hk]⟩
   ·cases h
  ·cases h
 ·rename_i s x f ho
  split at h
  ·rename_i ti hti
   split at h
   ·rename_i fs hk
    split at h
    ·rename_i off t hf
     split at h
     ·rename_i te cs hte hx
      obtain ⟨y,h1,h2⟩:=CH h
      obtain ⟨v,h3,h4⟩:=zN h1
      exact ⟨_,h3,fun st' hs _ R' κ'=>by unfold dC;rw [ho];simp only [hti,hk,hf,hte,one hs (by rw [ho];rfl),hx];rw [h2,h4]⟩
     ·cases h
    ·cases h
   ·cases h
  ·cases h
 ·rename_i s x f ho
  split at h
  ·rename_i ti hti
   split at h
   ·rename_i fs hk
    split at h
    ·rename_i off t hf
     split at h
     ·rename_i hx;exact ⟨_,h,fun st' hs _ R' κ'=>by unfold dC;rw [ho];simp only [hti,hk,hf,one hs (by rw [ho];rfl),hx]⟩
     ·rename_i hx;exact ⟨_,h,fun st' hs _ R' κ'=>by unfold dC;rw [ho];simp only [hti,hk,hf,one hs (by rw [ho];rfl),hx]⟩
     ·rename_i hx;exact ⟨_,h,fun st' hs _ R' κ'=>by unfold dC;rw [ho];simp only [hti,hk,hf,one hs (by rw [ho];rfl),hx]⟩
     ·cases h
    ·cases h
   ·cases h
  ·cases h
 ·rename_i T x i ho
  have hsx:∀ {st'},QT o st st'→val st' x=val st x∧val st' i=val st i:=fun hs=>⟨hs x (by rw [ho];simp [iz]),hs i (by rw [ho];simp [iz])⟩
  split at h
  ·rename_i t' t xs k n hel hx hi
   split at h
   ·rename_i ht
    obtain ⟨y,h1,h2⟩:=Tl h
    exact ⟨_,h1,fun st' hs _ R' κ'=>by unfold dC;rw [ho];simp only [hsx hs,hel,hx,hi];rw [if_pos ht,h2]⟩
   ·cases h
  ·rename_i t' q k n hel hx hi
   split at h
   ·rename_i ro t xs hq
    split at h
    ·rename_i ht
     obtain ⟨y,h1,h2⟩:=Tl h
     exact ⟨_,h1,fun st' hs hsm R' κ'=>by unfold dC;rw [ho];simp only [hsx hs,hel,hx,hi,hsm q (by simp),hq];rw [if_pos ht,h2]⟩
    ·cases h
   ·cases h
  ·cases h
 ·rename_i T x y ho
  obtain ⟨δ,h1,h2⟩:=Tn h
  exact ⟨δ,h1,fun st' hs _ R' κ'=>by unfold dC;rw [ho];simp only;exact h2 st' (hs x (by rw [ho];simp [iz])) R' κ'⟩
 ·rename_i T x lo hi mx ho
  obtain ⟨δ,h1,h2⟩:=Pg h
  exact ⟨δ,h1,fun st' hs hsm R' κ'=>by
   have e1:val st' x=val st x:=hs x (by rw [ho];simp [iz])
   have e2:∀ y:Option Operand,(∀ z,y=some z→z∈iz o.op)→y.map (val st')=y.map (val st):=by
    intro y hy
    cases y with
    | none=>rfl
    | some z=>simp only [Option.map_some];rw [hs z (hy z rfl)]
   unfold dC;rw [ho];simp only
   rw [e1,e2 lo (fun z hz=>by rw [ho];simp [iz,hz]),e2 hi (fun z hz=>by rw [ho];simp [iz,hz]),e2 mx (fun z hz=>by rw [ho];simp [iz,hz])]
   exact h2 st' hsm R' κ'⟩
 ·rename_i f first caps ho
  split at h
  ·rename_i hf
   obtain ⟨y,h1,h2⟩:=Pf h
   exact ⟨_,h1,fun st' hs _ R' κ'=>by unfold dC;rw [ho];simp only [hf];rw [h2 st' (fun x hx=>hs x (by rw [ho];exact hx))]⟩
  ·cases h
 ·rename_i t i ho
  split at h
  ·rename_i vs hx
   split at h
   ·rename_i cs hv;exact ⟨_,h,fun st' hs _ R' κ'=>by unfold dC;rw [ho];simp only [one hs (by rw [ho];rfl),hx,hv]⟩
   ·rename_i l hv;exact ⟨_,h,fun st' hs _ R' κ'=>by unfold dC;rw [ho];simp only [one hs (by rw [ho];rfl),hx,hv]⟩
   ·cases h
  ·cases h
 ·rename_i c ho
  split at h
  ·rename_i b hc
   obtain ⟨δ,h1,h2⟩:=Ph h
   exact ⟨δ,h1,fun st' hs hsm R' κ'=>by unfold dC;rw [ho];simp only [hc,EJ ho hs];exact h2 st' hsm R' κ'⟩
  ·rename_i f hc
   have hsf:∀ {st'},QT o st st'→val st' f=val st f:=fun hs=>hs f (by rw [ho];simp [iz,hc])
   split at h
   ·rename_i f' hf
    obtain ⟨δ,h1,h2⟩:=Tt h
    exact ⟨δ,h1,fun st' hs hsm R' κ'=>by unfold dC;rw [ho];simp only [hc,hsf hs,hf,EJ ho hs];exact h2 st' hsm R' κ'⟩
   ·rename_i t u p hf
    obtain ⟨x,us,h1,_,h2⟩:=iE h
    cases hp:p x with
    | none=>rw [hp] at h1;cases h1
    | some y =>
     rw [hp,Option.bind_some] at h1
     split at h1
     ·rename_i hfl
      rw [aP] at h1
      exact ⟨_,h1,fun st' hs hsm R' κ'=>by
       unfold dC;rw [ho];simp only [hc,hsf hs,hf,EJ ho hs]
       rw [h2 st'.h hsm,hp,Option.bind_some]
       simp only [hfl]
       rw [aP]⟩
     ·cases h1
   ·cases h
  ·cases h
 ·cases h
theorem Up {R:Type} {r:R} {E:Env} {o:Oper} {st:St} {κ:Dl→Option R} (h:dC E o st κ=some r):∃ δ,κ δ=some r∧dC E o st some=some δ∧Frm E o st δ:=by
 obtain ⟨δ,h1,h2⟩:=Uo h
 exact ⟨δ,h1,h2 st (fun _ _=>rfl) (fun _ _=>rfl) _ _,h2⟩
end Go.Abs
