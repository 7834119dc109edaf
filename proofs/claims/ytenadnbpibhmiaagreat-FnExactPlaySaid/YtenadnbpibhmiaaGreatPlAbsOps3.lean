/- Part of a proof of FnExactPlay: see the row. -/
import Derived.Test.YtenadnbpibhmiaaGreatPlAbsOps2
set_option linter.unusedVariables false
set_option linter.unusedSimpArgs false
namespace Go.Abs
open Go.RowKit
def aW {α:Type}:List α→Nat→List α→List α
 | m,_,[]=>m
 | m,o,c :: cs=>aW (m.set o c) (o + 1) cs
theorem jE {α:Type}:∀ (cs m:List α) (o:Nat),(aW m o cs).length=m.length
 | [],_,_=>rfl
 | _ :: cs,m,o=>by rw [aW,jE cs];simp
theorem xX {α:Type}:∀ (cs:List α) (a:α) (m:List α) (o:Nat),aW (a :: m) (o + 1) cs=a :: aW m o cs
 | [],_,_,_=>rfl
 | c :: cs,a,m,o=>by simp [aW,xX cs]
theorem vB {R:Type} {r:R}:∀ {o:Nat} {cs m:List Leaf} {κ:List Leaf→Option R},la o cs m κ=some r→o + cs.length≤m.length∧κ (aW m o cs)=some r
 | 0,[],m,κ,h=>⟨by simp,by simpa [la,aW] using h⟩
 | 0,c :: cs,[],κ,h=>by simp [la] at h
 | 0,c :: cs,a :: m,κ,h=>by
  obtain ⟨h1,h2⟩:=vB (o:=0) (cs:=cs) (m:=m) (by simpa [la] using h)
  refine ⟨by simp at h1 ⊢;omega,?_⟩
  rw [aW,List.set_cons_zero,xX]
  exact h2
 | o + 1,cs,[],κ,h=>by cases cs <;> simp [la] at h
 | o + 1,cs,a :: m,κ,h=>by
  obtain ⟨h1,h2⟩:=vB (o:=o) (cs:=cs) (m:=m) (by cases cs <;> simpa [la] using h)
  exact ⟨by simp at h1 ⊢;omega,by rw [xX];exact h2⟩
section
variable {P:Program} {σ:Hd→aS} {Imm:Nat→Prop} {w:World}
theorem LRs.set:∀ {ls:List Leaf} {vs:List Value} (i:Nat) {l:Leaf} {v:Value},LRs P σ Imm w ls vs→LR P σ Imm w l v→LRs P σ Imm w (ls.set i l) (vs.set i v)
 | [],_,_,_,_,h,_=>by cases h;rfl
 | _ :: _,_,0,_,_,⟨v,r,e,h1,h⟩,k=>by cases e;exact ⟨_,r,by simp,k,h⟩
 | _ :: _,_,i + 1,_,_,⟨v,r,e,h1,h⟩,k=>by cases e;exact ⟨v,r.set i _,by simp,h1,h.set i k⟩
theorem LRs.seg:∀ {cs:List Leaf} {us:List Value} {ls:List Leaf} {vs:List Value} (i:Nat),LRs P σ Imm w ls vs→LRs P σ Imm w cs us→LRs P σ Imm w (aW ls i cs) (aW vs i us)
 | [],_,_,_,_,h,k=>by cases k;exact h
 | _ :: _,_,_,_,i,h,⟨v,r,e,k1,k⟩=>by cases e;exact LRs.seg (i + 1) (h.set i k1) k
theorem LRs.get:∀ {ls:List Leaf} {vs:List Value} {i:Nat} {l:Leaf},LRs P σ Imm w ls vs→ls[i]?=some l→∃ v,vs[i]?=some v∧LR P σ Imm w l v
 | [],_,_,_,_,h=>by simp at h
 | _ :: _,_,0,_,⟨v,r,e,h1,_⟩,h=>by cases e;simp at h;subst h;exact ⟨v,rfl,h1⟩
 | _ :: _,_,i + 1,_,⟨v,r,e,_,k⟩,h=>by cases e;simpa using k.get (by simpa using h)
end
theorem Uj {ls:List Leaf} {i:Nat} {l:Leaf} {o:Hd} (h:o∈aN (ls.set i l)):o∈aN ls∨o∈l.hds:=by
 obtain ⟨x,hx,ho⟩:=nG.1 h
 rcases List.mem_or_eq_of_mem_set hx with hx | rfl
 ·exact .inl (nG.2 ⟨x,hx,ho⟩)
 ·exact .inr ho
theorem Nq:∀ {cs ls:List Leaf} {i:Nat} {o:Hd},o∈aN (aW ls i cs)→o∈aN ls∨o∈aN cs
 | [],_,_,_,h=>.inl h
 | c :: cs,ls,i,o,h=>by
  rcases Nq (cs:=cs) h with h | h
  ·rcases Uj h with h | h
   ·exact .inl h
   ·exact .inr (by simp [aN,h])
  ·exact .inr (by simp [aN,h])
section
variable {P:Program} {M:Nat→Prop} {w0:World} {σ:Hd→aS} {Imm:Nat→Prop} {st:St} {a:Act} {w:World} {o:Oper} {E:Env}
theorem U3 {t t':Nat} {x y:Operand} {k k':IntKind} {n m:Int} (R:Rel P M w0 σ Imm st a w) (hd:∀ i,o.dst=some i→i < st.t.length)
  (ho:o.op=.binOp .shr t x y t') (hx:val st x=.leaf (.int k n)) (hy:val st y=.leaf (.int k' m)) (hm:0≤m) :
  aU P M w0 o st a w σ Imm { v:=.leaf (.int k (n.fdiv (2 ^ min m.toNat k.bits))) }:=by
 have ex:=R.avI hx
 have ey:=R.avI hy
 refine aU.value R hd (v:=.int k (n.fdiv (2 ^ min m.toNat k.bits))) ?_ rfl (fun _ h=>by cases h) aA
 have hg:(eqGuard .shr t x y (.int k n) (.int k' m)).run P w=.ok () w:=rfl
 have:¬ m < 0:=by omega
 simp only [execOp,ho,ex,ey,Sem.run_bind,hg,Result.andThen_ok]
 simp [binOp,Op.shift,this]
theorem U4 {t t':Nat} {x y:Operand} {k:IntKind} {n m:Int} (R:Rel P M w0 σ Imm st a w) (hd:∀ i,o.dst=some i→i < st.t.length)
  (ho:o.op=.binOp .quo t x y t') (hx:val st x=.leaf (.int k n)) (hy:val st y=.leaf (.int k m)) (hm:m≠0) :
  aU P M w0 o st a w σ Imm { v:=.leaf (.int k (k.wrap (n.tdiv m))) }:=by
 have ex:=R.avI hx
 have ey:=R.avI hy
 refine aU.value R hd (v:=.int k (k.wrap (n.tdiv m))) ?_ rfl (fun _ h=>by cases h) aA
 have hg:(eqGuard .quo t x y (.int k n) (.int k m)).run P w=.ok () w:=rfl
 simp only [execOp,ho,ex,ey,Sem.run_bind,hg,Result.andThen_ok]
 simp [binOp,Op.intDiv,hm]
theorem U5 {t t':Nat} {x y:Operand} {k:IntKind} {n m:Int} (R:Rel P M w0 σ Imm st a w) (hd:∀ i,o.dst=some i→i < st.t.length)
  (ho:o.op=.binOp .rem t x y t') (hx:val st x=.leaf (.int k n)) (hy:val st y=.leaf (.int k m)) (hm:m≠0) :
  aU P M w0 o st a w σ Imm { v:=.leaf (.int k (n.tmod m)) }:=by
 have ex:=R.avI hx
 have ey:=R.avI hy
 refine aU.value R hd (v:=.int k (n.tmod m)) ?_ rfl (fun _ h=>by cases h) aA
 have hg:(eqGuard .rem t x y (.int k n) (.int k m)).run P w=.ok () w:=rfl
 simp only [execOp,ho,ex,ey,Sem.run_bind,hg,Result.andThen_ok]
 simp [binOp,Op.intDiv,hm]
theorem QG {op:BinOp} {t t':Nat} {x y:Operand} {n m:Bool} {l:Leaf} {ti:TI} (R:Rel P M w0 σ Imm st a w) (hd:∀ i,o.dst=some i→i < st.t.length)
  (ht:P.underlying t=some .bool)
  (ho:o.op=.binOp op t x y t') (hx:val st x=.leaf (.bool n)) (hy:val st y=.leaf (.bool m)) (hl:Nk op n m=some l):aU P M w0 o st a w σ Imm { v:=.leaf l }:=by
 have ex:=R.avB hx
 have ey:=R.avB hy
 have hg:(eqGuard op t x y (.bool n) (.bool m)).run P w=.ok () w:=by unfold eqGuard;cases op <;> rfl
 have he:=run_equalIn_bool' (P:=P) w 9999 t n m ht
 cases op <;> simp only [Nk,Option.some.injEq,reduceCtorEq] at hl <;> subst hl
 ·exact aU.value R hd (v:=.bool (n == m)) (by simp only [execOp,ho,ex,ey,Sem.run_bind,hg,Result.andThen_ok];simp only [binOp];simp [Op.equal,Op.maxDepth,he]) rfl (fun _ h=>by cases h) aA
 ·exact aU.value R hd (v:=.bool (n != m)) (by simp only [execOp,ho,ex,ey,Sem.run_bind,hg,Result.andThen_ok];simp only [binOp];simp [Op.equal,Op.maxDepth,he,bne]) rfl (fun _ h=>by cases h) aA
theorem U6 {t:Nat} {x:Operand} {b:Bool} (R:Rel P M w0 σ Imm st a w) (hd:∀ i,o.dst=some i→i < st.t.length)
  (ho:o.op=.unOp .not t x) (hx:val st x=.leaf (.bool b)):aU P M w0 o st a w σ Imm { v:=.leaf (.bool (!b)) }:=by
 have ex:=R.avB hx
 exact aU.value R hd (v:=.bool (!b)) (by simp [execOp,ho,ex,Op.unary]) rfl (fun _ h=>by cases h) aA
theorem QH {s t:Nat} {x:Operand} {k k':IntKind} {n:Int} {d:TypeDesc} (R:Rel P M w0 σ Imm st a w) (hd:∀ i,o.dst=some i→i < st.t.length)
  (ho:o.op=.convert s t x) (hx:val st x=.leaf (.int k n)) (hs:P.underlying s=some d) (ht:P.underlying t=some (.int k')):aU P M w0 o st a w σ Imm { v:=.leaf (.int k' (k'.wrap n)) }:=by
 have ex:=R.avI hx
 refine aU.value R hd (v:=.int k' (k'.wrap n)) ?_ rfl (fun _ h=>by cases h) aA
 simp [execOp,ho,ex,convert,run_underlying hs,run_underlying ht,Conv.intToInt]
theorem O2 {x:Operand} {q:Hd} {off:Nat} (R:Rel P M w0 σ Imm st a w) (hd:∀ i,o.dst=some i→i < st.t.length)
  (ho:o.op=.nilCheck x) (hx:val st x=.leaf (.box q off)):aU P M w0 o st a w σ Imm { v:=.leaf (.box q off) }:=by
 have hv:=R.av x
 have hc:=R.vc x
 rw [hx] at hv hc
 have hv':a.eval x=.pointer (some ⟨(σ q).b,off,none⟩):=hv
 exact aU.value R hd (v:=.pointer (some ⟨(σ q).b,off,none⟩)) (by simp [execOp,ho,hv']) rfl hc aA
theorem Nr {x:Operand} {q:Hd} {n i off:Nat} (R:Rel P M w0 σ Imm st a w) (hd:∀ i,o.dst=some i→i < st.t.length)
  (ho:o.op=.nilCheck x) (hx:val st x=.leaf (.elem q n i off)):aU P M w0 o st a w σ Imm { v:=.leaf (.elem q n i off) }:=by
 have hv:=R.av x
 have hc:=R.vc x
 rw [hx] at hv hc
 have hv':a.eval x=.pointer (some ⟨(σ q).b,i * n + off,none⟩):=hv
 exact aU.value R hd (v:=.pointer (some ⟨(σ q).b,i * n + off,none⟩)) (by simp [execOp,ho,hv']) rfl hc aA
theorem Ns {x:Operand} {t:Ty} {y:t.D} {off:Nat} (R:Rel P M w0 σ Imm st a w) (hd:∀ i,o.dst=some i→i < st.t.length)
  (ho:o.op=.nilCheck x) (hx:val st x=.leaf (.vis t y off)):aU P M w0 o st a w σ Imm { v:=.leaf (.vis t y off) }:=by
 have hv:=R.av x
 have hc:=R.vc x
 rw [hx] at hv hc
 have hv2:=hv
 obtain ⟨b,p,cs,e,_⟩:=hv2
 exact aU.value R hd (v:=a.eval x) (by simp [execOp,ho,e]) hv hc aA
theorem Lg.get {σ:Hd→aS} {Imm:Nat→Prop} {w:World}:∀ {ts:List (Bool×List Leaf)} {vs:List Value} {i:Nat} {ag:Bool} {ls:List Leaf},Lg P σ Imm w ts vs→ts[i]?=some (ag,ls) →
  ∃ v cs,vs[i]?=some v∧LRs P σ Imm w ls cs∧(match ag with | true=>v=.agg cs.toArray | false=>cs=[v])
 | [],_,_,_,_,_,h=>by simp at h
 | (_,_) :: _,_,0,_,_,⟨v,r,cs,e,h1,h2,_⟩,h=>by cases e;simp at h;obtain ⟨rfl,rfl⟩:=h;exact ⟨v,cs,rfl,h1,h2⟩
 | (_,_) :: _,_,i + 1,_,_,⟨v,r,cs,e,_,_,k⟩,h=>by cases e;simpa using Lg.get k (by simpa using h)
theorem QI {R:Type} {r:R} {t:Operand} {i:Nat} {κ:Dl→Option R} (R0:Rel P M w0 σ Imm st a w) (hd:∀ i,o.dst=some i→i < st.t.length)
  (ho:o.op=.extract t i) (h:(match val st t with
  | .tup vs=>match vs[i]? with
   | some (true,cs)=>κ { v:=.agg cs }
   | some (false,[l])=>κ { v:=.leaf l }
   | _=>none
  | _=>none)=some r):∃ δ,κ δ=some r∧aU P M w0 o st a w σ Imm δ:=by
 have hv:=R0.av t
 have hc:=R0.vc t
 generalize val st t=vt at *
 cases vt with
 | any=>simp at h
 | skip=>simp at h
 | leaf l=>simp at h
 | agg l=>simp at h
 | tup ts =>
  obtain ⟨vs,e,hr⟩:=hv
  simp only [] at h
  cases hi:ts[i]? with
  | none=>rw [hi] at h;simp at h
  | some x =>
   obtain ⟨ag,ls⟩:=x
   rw [hi] at h
   obtain ⟨v,cs,hvi,hl,hm⟩:=hr.get hi
   have hcl:aK st.h (aN ls):=fun q hq=>hc q (by simp only [AV.hds,List.mem_flatMap];exact ⟨(ag,ls),List.mem_of_getElem? hi,hq⟩)
   have hrun:(execOp a.eval o).run P w=.ok (.value v) w:=by simp [execOp,ho,e,Instr.extract,hvi]
   cases ag with
   | true =>
    simp only at hm
    subst hm
    exact ⟨_,h,aU.value R0 hd hrun ⟨cs,rfl,hl⟩ hcl aA⟩
   | false =>
    simp only at hm
    subst hm
    split at h
    ·rename_i l e1
     simp at e1
    ·rename_i l e1
     simp only [Option.some.injEq,Prod.mk.injEq,true_and] at e1
     subst e1
     obtain ⟨v',q,e2,hv',_⟩:=hl
     cases e2
     exact ⟨_,h,aU.value R0 hd hrun hv' (fun q hq=>hcl q (by have hq':q∈l.hds:=hq;simpa [aN] using hq')) aA⟩
    ·cases h
theorem KOk.field {t f off ft:Nat} {ty:Ty} {fs:List (Nat×Nat)} (h:KOk P t ty (.struct fs)) (hf:fs[f]?=some (off,ft)) :
  ∃ F fld i,P.underlying t=some (.struct F)∧F[f]?=some fld∧fld.offset=off∧fld.type=ft∧P.info? fld.type=some i∧i.size≠0:=by
 obtain ⟨F,h1,h2,h3,_⟩:=h
 rw [← h2,List.getElem?_map] at hf
 cases hx:F.toList[f]? with
 | none=>rw [hx] at hf;simp at hf
 | some fld =>
  rw [hx] at hf
  simp only [Option.map_some,Option.some.injEq,Prod.mk.injEq] at hf
  obtain ⟨i,hi,hs⟩:=h3 fld (List.mem_of_getElem? hx)
  exact ⟨F,fld,i,h1,by simpa using hx,hf.1,hf.2,hi,hs⟩
theorem Nt {R:Type} {r:R} {s f off ft:Nat} {x:Operand} {ti:TI} {fs:List (Nat×Nat)} {κ:Dl→Option R} (R0:Rel P M w0 σ Imm st a w) (hd:∀ i,o.dst=some i→i < st.t.length)
  (ho:o.op=.fieldAddr s x f) (ht:EA P s ti) (hk:ti.k=.struct fs) (hf:fs[f]?=some (off,ft)) (h:(match val st x with
     | .leaf (.box o o')=>κ { v:=.leaf (.box o (o' + off)) }
     | .leaf (.vis t y o')=>κ { v:=.leaf (.vis t y (o' + off)) }
     | .leaf (.elem o n i o')=>κ { v:=.leaf (.elem o n i (o' + off)) }
     | _=>none)=some r):∃ δ,κ δ=some r∧aU P M w0 o st a w σ Imm δ:=by
 have hkk:=ht.k
 rw [hk] at hkk
 obtain ⟨F,fld,i,hu,hF,e1,_,hi,hs⟩:=hkk.field hf
 have hv:=R0.av x
 have hc:=R0.vc x
 have hrun:∀ (b p:Nat),a.eval x=.pointer (some ⟨b,p,none⟩)→(execOp a.eval o).run P w=.ok (.value (.pointer (some ⟨b,p + off,none⟩))) w:=by
  intro b p he
  have hadd:=fV b p off
  simp [execOp,ho,he,Instr.fieldAt,run_underlying hu,hF,Instr.sureAddr,fieldPlace,sizeOf,typeInfo,hi,hs,e1,hadd]
 generalize val st x=vx at *
 split at h
 ·exact ⟨_,h,aU.value R0 hd (hrun _ _ hv) rfl hc aA⟩
 ·obtain ⟨b,p,cs,he,hb,hl,hlen,hcs,hr⟩:=hv
  refine ⟨_,h,aU.value R0 hd (hrun _ _ he) ⟨b,p,cs,?_,hb,hl,hlen,hcs,hr⟩ hc aA⟩
  simp [Nat.add_assoc]
 ·refine ⟨_,h,aU.value R0 hd (hrun _ _ hv) ?_ hc aA⟩
  show _=_
  simp [Nat.add_assoc]
 ·cases h
theorem SY {R:Type} {r:R} {s f off ft:Nat} {x:Operand} {ti te:TI} {fs:List (Nat×Nat)} {ls:List Leaf} {κ:Dl→Option R} (R0:Rel P M w0 σ Imm st a w) (hd:∀ i,o.dst=some i→i < st.t.length)
  (ho:o.op=.field s x f) (ht:EA P s ti) (hk:ti.k=.struct fs) (hf:fs[f]?=some (off,ft)) (hte:EA P ft te) (hx:val st x=.agg ls)
  (h:(nv te.n (wC off ls) fun cs'=>kM te.k cs' fun v=>κ { v })=some r):∃ δ,κ δ=some r∧aU P M w0 o st a w σ Imm δ:=by
 have hkk:=ht.k
 rw [hk] at hkk
 obtain ⟨F,fld,i,hu,hF,e1,e2,hi,hs⟩:=hkk.field hf
 subst e2
 have hv:=R0.av x
 have hc:=R0.vc x
 rw [hx] at hv hc
 obtain ⟨cs,he,hr⟩:=hv
 obtain ⟨h1,h2⟩:=nF h
 rw [ru] at h1 h2
 obtain ⟨i',z,hi',hn,_⟩:=hte.info
 obtain ⟨d,hd',hg⟩:=hte.k.agg
 obtain ⟨y,hy,hh⟩:=F4 h2
 have hlen:=hr.length
 have hrr:=(hr.drop off).take te.n
 have hcl:aK st.h (aN ((ls.drop off).take te.n)):=fun q hq=>hc q (uk (uj hq))
 have hag:=EB (P:=P) (w:=w) hd'
 rw [hi] at hi'
 cases hi'
 rcases hh with ⟨fs',hk',rfl⟩ | ⟨hk',l,hl,rfl⟩
 ·refine ⟨_,hy,aU.value R0 hd (v:=.agg ((cs.drop off).take te.n).toArray) ?_ ⟨_,rfl,hrr⟩ hcl aA⟩
  rw [hk'] at hg
  simp only [iB,Bool.not_true] at hg
  have:cs.toArray.extract off (off + te.n)=((cs.drop off).take te.n).toArray:=by
   simp [List.extract_toArray,List.extract_eq_take_drop]
  simp [execOp,ho,he,Instr.field,run_underlying hu,hF,asAgg,part,e1,hag,hg,sizeOf,typeInfo,hi,hn,this]
 ·rw [hl] at hrr hcl
  obtain ⟨v,q,e3,hv',hq⟩:=hrr
  cases hq
  refine ⟨_,hy,aU.value R0 hd (v:=v) ?_ hv' (fun q hq=>hcl q (by have hq':q∈l.hds:=hq;simpa [aN] using hq')) aA⟩
  have hg':Ij d=true:=by rw [hg];cases hk2:te.k <;> simp_all [iB]
  have hget:cs[off]?=some v:=by
   have:=congrArg (fun l=>l[0]?) e3
   simp only [List.getElem?_take,List.getElem?_drop,Nat.add_zero,List.getElem?_cons_zero] at this
   split at this
   ·exact this
   ·cases this
  simp [execOp,ho,he,Instr.field,run_underlying hu,hF,asAgg,part,e1,hag,hg',hget]
theorem cw {T:Tab} {t:Nat} {t':Ty} (hT:fU P T) (h:nx T t=some t') :
  ∃ e i z,P.underlying t=some (.slice e)∧P.info? e=some i∧i.size=t'.n∧i.bytes≤24 * t'.n∧0 < t'.n∧i.zero=some z∧z.cells.size=t'.n:=by
 unfold nx at h
 split at h
 ·rename_i ti hl
  have hk:=(hT t ti hl).k
  split at h
  ·rename_i e t'' hk1 hty
   cases h
   rw [hk1,hty] at hk
   obtain ⟨h1,t3,i,z,e1,h2,h3,h4,h5,h6,h7⟩:=hk
   cases e1
   exact ⟨e,i,z,h1,h2,h3,h4,h5,h6,h7⟩
  ·cases h
 ·cases h
theorem O3 {α R:Type} {xs:List α} {i:Int} {κ:α→Option R} {r:R} (h:idx xs i κ=some r):0≤i∧∃ x,xs[i.toNat]?=some x∧κ x=some r:=by
 unfold idx at h
 split at h
 ·rename_i h0
  obtain ⟨x,hx,hk⟩:=Option.bind_eq_some_iff.1 h
  exact ⟨h0,x,hx,hk⟩
 ·cases h
theorem Nu {R:Type} {r:R} {T:Nat} {x i:Operand} {κ:Dl→Option R} (R0:Rel P M w0 σ Imm st a w) (hd:∀ i,o.dst=some i→i < st.t.length) (hT:fU P E.T)
  (ho:o.op=.indexAddr T x i) (h:(match nx E.T T,val st x,val st i with
  | some t',.leaf (.view t xs),.leaf (.int _ i)=>if t'=t then idx xs i fun y=>κ { v:=.leaf (.vis t y 0) } else none
  | some t',.leaf (.own o),.leaf (.int _ i)=>match aj st.h o with
   | .arr _ t xs=>if t'=t then idx xs i fun _=>κ { v:=.leaf (.elem o t.n i.toNat 0),rd:=[o] } else none
   | _=>none
  | _,_,_=>none)=some r):∃ δ,κ δ=some r∧aU P M w0 o st a w σ Imm δ:=by
 have hv:=R0.av x
 have hc:=R0.vc x
 split at h
 ·rename_i t' t xs k n hel hvx hvi
  split at h
  ·rename_i et
   subst et
   obtain ⟨h0,y,hy,hk⟩:=O3 h
   obtain ⟨e,inf,z,hu,hi,hs,_⟩:=cw hT hel
   rw [hvx] at hv
   obtain ⟨ad,cap,e1,_,_,h4⟩:=hv
   obtain ⟨b,off,cs,e2,hb,hl,hlen,hcs,hr⟩:=h4 _ y hy
   subst e2
   simp only [List.cons.injEq,and_true] at e1
   have ei:=R0.avI hvi
   have hlt:n < (xs.length:Int):=by have:=(List.getElem?_eq_some_iff.1 hy).1;omega
   refine ⟨_,hk,aU.value R0 hd (v:=.pointer (some ⟨b,off + n.toNat * t'.n,none⟩)) ?_ ⟨b,_,cs,rfl,hb,hl,hlen,hcs,hr⟩ (fun _ h=>by cases h) aA⟩
   simp [execOp,ho,e1,ei,Instr.indexAt,asIntOf,run_underlying hu,h0,hlt,sizeOf,typeInfo,hi,hs,fV]
  ·cases h
 ·rename_i t' q k n hel hvx hvi
  split at h
  ·rename_i ro t xs hq
   split at h
   ·rename_i et
    subst et
    obtain ⟨h0,y,hy,hk⟩:=O3 h
    obtain ⟨e,inf,z,hu,hi,hs,_⟩:=cw hT hel
    rw [hvx] at hv hc
    have hob:=R0.ob q
    rw [hq] at hob
    obtain ⟨hown,hbv⟩:=hob
    have hlt0:=(List.getElem?_eq_some_iff.1 hy).1
    rcases hown with ⟨_,e,_⟩ | ⟨g,cap,cur,ty',fps,e1,e2,e3,e4,e5,e6,e7,e8⟩
    ·subst e;simp at hy
    ·simp only [List.cons.injEq,and_true] at e1
     have hg:=hbv _ _ _ e1
     simp only [Addr.mk.injEq,and_true] at hg
     have ei:=R0.avI hvi
     have hlt:n < (xs.length:Int):=by omega
     have hv':a.eval x=(σ q).v:=hv.1
     rw [e1] at hv'
     refine ⟨_,hk,aU.value R0 hd (v:=.pointer (some ⟨g,n.toNat * t'.n,none⟩)) ?_ ?_ hc (fun q' hq'=>hc q' (by simpa [AV.hds,Leaf.hds] using hq'))⟩
     ·simp [execOp,ho,hv',ei,Instr.indexAt,asIntOf,run_underlying hu,h0,hlt,sizeOf,typeInfo,hi,hs,fV]
     ·show _=_
      rw [← hg]
      rfl
   ·cases h
  ·cases h
 ·cases h
theorem Ik {R:Type} {r:R} (R0:Rel P M w0 σ Imm st a w):∀ {l:List Operand} {κ:List Hd→Option R},dC.capsK st l κ=some r →
  ∃ cs,κ cs=some r∧l.map a.eval=cs.map (fun o=>Value.pointer (some ⟨(σ o).b,0,none⟩))∧aK st.h cs
 | [],κ,h=>⟨[],h,rfl,aA⟩
 | x :: l,κ,h=>by
  unfold dC.capsK at h
  split at h
  ·rename_i q hq
   obtain ⟨cs,h1,h2,h3⟩:=Ik R0 h
   have hv:=R0.av x
   have hc:=R0.vc x
   rw [hq] at hv hc
   refine ⟨q :: cs,h1,by simp only [List.map_cons,h2];congr 1,fun p hp=>?_⟩
   rcases List.mem_cons.1 hp with rfl | hp
   ·exact hc p (by simp [AV.hds,Leaf.hds])
   ·exact h3 p hp
  ·cases h
theorem O4 {R:Type} {r:R} {f:FuncId} {first caps:Array Operand} {κ:Dl→Option R} (R0:Rel P M w0 σ Imm st a w) (hd:∀ i,o.dst=some i→i < st.t.length)
  (ho:o.op=.makeFunc (.func f) first caps) (h:(match first.toList with
  | []=>dC.capsK st caps.toList fun cs=>κ { v:=.leaf (.fn f cs) }
  | _=>none)=some r):∃ δ,κ δ=some r∧aU P M w0 o st a w σ Imm δ:=by
 split at h
 ·rename_i hf
  obtain ⟨cs,h1,h2,h3⟩:=Ik R0 h
  have hf':first=#[]:=by simpa using hf
  refine ⟨_,h1,aU.value R0 hd (v:=.func (.func f) #[] (caps.map a.eval)) (by simp [execOp,ho,Instr.makeFunc,hf']) ?_ h3 aA⟩
  show Value.func _ _ _=Value.func _ _ _
  congr 1
  apply Array.ext'
  simp [h2]
 ·cases h
theorem U7 {R:Type} {r:R} {T:Nat} {x:Operand} {l:Leaf} {t:Ty} {c:Call} {κ:Dl→Option R} (R0:Rel P M w0 σ Imm st a w) (hd:∀ i,o.dst=some i→i < st.t.length) (hT:fU P E.T)
  (ho:o.op=.call c) (hcal:c.callee=.builtin .len) (hargs:c.args.toList=[x]) {tys:List Nat} (htys:c.argTypes.toList=T :: tys) (hel:nx E.T T=some t) (hx:val st x=.leaf l) (h:(match (generalizing:=false) l with
    | .nil=>κ { v:=.leaf (.int .i64 0) }
    | .view _ xs=>κ { v:=.leaf (.int .i64 xs.length) }
    | .viewN _ xs=>κ { v:=.leaf (.int .i64 xs.length) }
    | .own o=>match aj st.h o with
     | .arr _ _ xs=>κ { v:=.leaf (.int .i64 xs.length),rd:=[o] }
     | _=>none
    | .part _ _ lo hi=>κ { v:=.leaf (.int .i64 ((hi - lo:Nat):Int)) }
    | _=>none)=some r):∃ δ,κ δ=some r∧aU P M w0 o st a w σ Imm δ:=by
 obtain ⟨e,i,z,hu,_⟩:=cw hT hel
 have hv:=R0.av x
 have hc:=R0.vc x
 rw [hx] at hv hc
 have ha:c.args=#[x]:=by rw [← Array.toArray_toList (xs:=c.args),hargs]
 have hty:c.argTypes[0]?=some T:=by rw [← Array.getElem?_toList,htys];rfl
 have hrun:∀ (ad:Option Addr) (n cap:Nat),a.eval x=.slice ad n cap→(execOp a.eval o).run P w=.ok (.value (.int .i64 n)) w:=by
  intro ad n cap he
  simp [execOp,ho,resolve,hcal,ha,invoke,builtin,Builtin.len_,hty,he,run_underlying hu,goInt]
 split at h
 ·exact ⟨_,h,aU.value R0 hd (hrun _ _ _ hv) rfl (fun _ h=>by cases h) aA⟩
 ·obtain ⟨ad,cap,e1,_⟩:=hv
  simp only [List.cons.injEq,and_true] at e1
  exact ⟨_,h,aU.value R0 hd (hrun _ _ _ e1) rfl (fun _ h=>by cases h) aA⟩
 ·obtain ⟨⟨ad,cap,e1,_⟩,_⟩:=hv
  simp only [List.cons.injEq,and_true] at e1
  exact ⟨_,h,aU.value R0 hd (hrun _ _ _ e1) rfl (fun _ h=>by cases h) aA⟩
 ·rename_i q
  split at h
  ·rename_i ro ty xs hq
   have hob:=R0.ob q
   rw [hq] at hob
   obtain ⟨hown,_⟩:=hob
   have hv':a.eval x=(σ q).v:=hv.1
   rcases hown with ⟨e1,e2,_⟩ | ⟨g,cap,cur,ty',fps,e1,_⟩
   ·subst e2
    simp only [List.cons.injEq,and_true] at e1
    exact ⟨_,h,aU.value R0 hd (hrun _ _ _ (hv'.trans e1)) rfl (fun _ h=>by cases h) hc⟩
   ·simp only [List.cons.injEq,and_true] at e1
    exact ⟨_,h,aU.value R0 hd (hrun _ _ _ (hv'.trans e1)) rfl (fun _ h=>by cases h) hc⟩
  ·cases h
 ·obtain ⟨ad,len,cap,_,_,_,e1⟩:=hv
  exact ⟨_,h,aU.value R0 hd (hrun _ _ _ e1) rfl (fun _ h=>by cases h) aA⟩
 ·cases h
theorem Sb {R:Type} {r:R} {T:Nat} {x:Operand} {t:Ty} {c:Call} {κ:Dl→Option R} (R0:Rel P M w0 σ Imm st a w) (hd:∀ i,o.dst=some i→i < st.t.length) (hT:fU P E.T)
  (ho:o.op=.call c) (hcal:c.callee=.builtin .cap) (hargs:c.args.toList=[x]) {tys:List Nat} (htys:c.argTypes.toList=T :: tys) (hel:nx E.T T=some t) (hx:val st x=.leaf .nil) (h:κ { v:=.leaf (.int .i64 0) }=some r):∃ δ,κ δ=some r∧aU P M w0 o st a w σ Imm δ:=by
 obtain ⟨e,i,z,hu,_⟩:=cw hT hel
 have hv:=R0.av x
 rw [hx] at hv
 have hv:a.eval x=.slice none 0 0:=hv
 have ha:c.args=#[x]:=by rw [← Array.toArray_toList (xs:=c.args),hargs]
 have hty:c.argTypes[0]?=some T:=by rw [← Array.getElem?_toList,htys];rfl
 have hrun:(execOp a.eval o).run P w=.ok (.value (.int .i64 0)) w:=by
  simp [execOp,ho,resolve,hcal,ha,invoke,builtin,Builtin.cap_,hty,hv,run_underlying hu,goInt]
 exact ⟨_,h,aU.value R0 hd hrun rfl (fun _ h=>by cases h) aA⟩
end
end Go.Abs
