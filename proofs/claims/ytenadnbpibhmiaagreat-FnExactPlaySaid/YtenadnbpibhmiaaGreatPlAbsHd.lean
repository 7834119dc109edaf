/- Part of a proof of FnExactPlay: see the row. -/
import Derived.Test.YtenadnbpibhmiaaGreatPlAbsTab
set_option linter.unusedVariables false
set_option linter.unusedSimpArgs false
namespace Go.Abs
open Go.RowKit
@[reducible] def Ty.hdT:Ty→Ty
 | .slice _=>.hd
 | .vw _=>.hd
 | .pair a b=>.pair a.hdT b.hdT
 | .int k=>.int k
 | .bool=>.bool
 | .unit=>.unit
 | .fn a r=>.fn a r
 | .hd=>.hd
theorem Ty.hdT_n:∀ t:Ty,t.hdT.n=t.n
 | .int _ | .bool | .unit | .fn _ _ | .slice _ | .vw _ | .hd=>rfl
 | .pair a b=>by simp only [Ty.hdT,Ty.n,Ty.hdT_n a,Ty.hdT_n b]
section
variable {P:Program} {I J:Nat→Prop}
theorem Own.toHd:∀ {t:Ty} {w:World} {vs:List Value} {x:t.D} {fp:List Nat},t.hdT.flat=true→Own P I t w vs x fp→∃ xh:t.hdT.D,∀ (J:Nat→Prop) (w':World),Own P J t.hdT w' vs xh []
 | .int _,_,_,x,_,_,h=>⟨x,fun _ _=>⟨h.1,rfl⟩⟩
 | .bool,_,_,x,_,_,h=>⟨x,fun _ _=>⟨h.1,rfl⟩⟩
 | .hd,_,_,x,_,_,h=>⟨x,fun _ _=>⟨h.1,rfl⟩⟩
 | .unit,_,_,x,_,_,h=>⟨x,fun _ _=>⟨h.1,rfl⟩⟩
 | .slice t,_,_,xs,_,_,h=>by
  rcases h with ⟨e,_⟩ | ⟨g,cap,cur,ty,fps,h1,_⟩
  ·exact ⟨(none,0,0),fun _ _=>⟨e,rfl⟩⟩
  ·exact ⟨(some ⟨g,0,none⟩,xs.length,cap),fun _ _=>⟨h1,rfl⟩⟩
 | .vw t,_,_,xs,_,_,h=>by
  obtain ⟨⟨a,cap,h1,_⟩,_⟩:=h
  exact ⟨(a,xs.length,cap),fun _ _=>⟨h1,rfl⟩⟩
 | .pair a b,_,_,_,_,hf,⟨v1,v2,f1,f2,h,h1,h2,h3,h4⟩=>by
  simp only [Ty.hdT,Ty.flat,Bool.and_eq_true] at hf
  obtain ⟨x1,k1⟩:=Own.toHd hf.1 h3
  obtain ⟨x2,k2⟩:=Own.toHd hf.2 h4
  exact ⟨(x1,x2),fun J w'=>⟨v1,v2,[],[],h,by rw [Ty.hdT_n];exact h1,rfl,k1 J w',k2 J w'⟩⟩
theorem Own.cells_eq:∀ {T:Ty} {w w':World} {vs vs':List Value} {x:T.D} {fp fp':List Nat},T.flat=true→Own P I T w vs x fp→Own P J T w' vs' x fp'→vs=vs'
 | .int _,_,_,_,_,_,_,_,_,h,k=>h.1.trans k.1.symm
 | .bool,_,_,_,_,_,_,_,_,h,k=>h.1.trans k.1.symm
 | .hd,_,_,_,_,_,_,_,_,h,k=>h.1.trans k.1.symm
 | .unit,_,_,_,_,_,_,_,_,h,k=>h.1.trans k.1.symm
 | .pair a b,_,_,_,_,_,_,_,hf,⟨v1,v2,_,_,h,_,_,h3,h4⟩,⟨u1,u2,_,_,k,_,_,k3,k4⟩=>by
  simp only [Ty.flat,Bool.and_eq_true] at hf
  rw [h,k,Own.cells_eq hf.1 h3 k3,Own.cells_eq hf.2 h4 k4]
theorem Gk {w:World} {b:Nat}:∀ {cs ds:List Value} {o:Nat},dD w b o cs→dD w b o ds→cs.length=ds.length→cs=ds
 | [],[],_,_,_,_=>rfl
 | [],_ :: _,_,_,_,h=>by cases h
 | _ :: _,[],_,_,_,h=>by cases h
 | c :: cs,d :: ds,o,⟨h1,h2⟩,⟨k1,k2⟩,h=>by
  rw [h1] at k1
  cases k1
  rw [Gk h2 k2 (by simpa using h)]
theorem Own.det:∀ {t:Ty} {w:World} {vs:List Value} {x y:t.D} {fp fq:List Nat},t.noVw=true→Own P I t w vs x fp→Own P J t w vs y fq→x=y
 | .int _,_,_,_,_,_,_,_,h,k=>by have:=h.1.symm.trans k.1;simpa using this
 | .bool,_,_,_,_,_,_,_,h,k=>by have:=h.1.symm.trans k.1;simpa using this
 | .hd,_,_,x,y,_,_,_,h,k=>by
  have:=h.1.symm.trans k.1
  obtain ⟨x1,x2,x3⟩:=x
  obtain ⟨y1,y2,y3⟩:=y
  simp only [hv,List.cons.injEq,Value.slice.injEq,and_true] at this
  obtain ⟨rfl,rfl,rfl⟩:=this
  rfl
 | .unit,_,_,_,_,_,_,_,_,_=>rfl
 | .slice t,w,_,xs,ys,_,_,hn,h,k=>by
  rcases h with ⟨e,h2,_⟩ | ⟨g,cap,cur,ty,fps,h1,_,_,_,_,h6,_,h8⟩
  ·rcases k with ⟨_,k2,_⟩ | ⟨_,_,_,_,_,k1,_⟩
   ·rw [h2,k2]
   ·rw [e] at k1;simp at k1
  ·rcases k with ⟨e,k2,_⟩ | ⟨g',cap',cur',ty',fps',k1,_,_,_,_,k6,_,k8⟩
   ·rw [e] at h1;simp at h1
   ·rw [h1] at k1
    simp only [List.cons.injEq,Value.slice.injEq,Option.some.injEq,Addr.mk.injEq,and_true] at k1
    obtain ⟨rfl,hl,_⟩:=k1
    refine List.ext_getElem hl fun i i1 i2=>?_
    obtain ⟨cs,c1,c2,c3⟩:=h8 i _ _ (List.getElem?_eq_getElem i1) (List.getElem?_eq_getElem (by rw [h6];exact i1))
    obtain ⟨ds,d1,d2,d3⟩:=k8 i _ _ (List.getElem?_eq_getElem i2) (List.getElem?_eq_getElem (by rw [k6];exact i2))
    have e:=Gk c2 d2 (c1.trans d1.symm)
    subst e
    exact Own.det (t:=t) hn c3 d3
 | .pair a b,_,_,_,_,_,_,hn,⟨v1,v2,_,_,h,h1,_,h3,h4⟩,⟨u1,u2,_,_,k,k1,_,k3,k4⟩=>by
  simp only [Ty.noVw,Bool.and_eq_true] at hn
  rw [h] at k
  obtain ⟨rfl,rfl⟩:=List.append_inj k (h1.trans k1.symm)
  exact Prod.ext (Own.det hn.1 h3 k3) (Own.det hn.2 h4 k4)
 | .fn _ _,_,_,_,_,_,_,_,h,_=>h.elim
theorem yo {α:Type} {Q:Nat→α→Prop}:∀ (n:Nat),(∀ i,i < n→∃ y,Q i y)→∃ l:List α,l.length=n∧∀ i y,l[i]?=some y→Q i y
 | 0,_=>⟨[],rfl,fun i y h=>by simp at h⟩
 | n + 1,h=>by
  obtain ⟨l,h1,h2⟩:=yo n fun i hi=>h i (by omega)
  obtain ⟨y,hy⟩:=h n (by omega)
  refine ⟨l++[y],by simp [h1],fun i z hz=>?_⟩
  rcases Nat.lt_or_ge i l.length with hi | hi
  ·rw [List.getElem?_append_left hi] at hz
   exact h2 i z hz
  ·rw [List.getElem?_append_right hi] at hz
   have:i - l.length=0:=by
    rcases Nat.eq_zero_or_pos (i - l.length) with h | h
    ·exact h
    ·rw [List.getElem?_eq_none (by simp;omega)] at hz;cases hz
   rw [this] at hz
   simp at hz
   subst hz
   rw [show i=n by omega]
   exact hy
def pV {α:Type} (pick:List Nat) (xs ys:List α):Prop:=ys.map some=pick.map fun i=>xs[i]?
theorem pV.get {α:Type} {pick:List Nat} {xs ys:List α} (h:pV pick xs ys) {j:Nat} {y:α} (hy:ys[j]?=some y):∃ i,pick[j]?=some i∧xs[i]?=some y:=by
 have:=congrArg (fun l=>l[j]?) h
 simp only [List.getElem?_map,hy,Option.map_some] at this
 cases hp:pick[j]? with
 | none=>rw [hp] at this;cases this
 | some i =>
  rw [hp] at this
  simp only [Option.map_some,Option.some.injEq] at this
  exact ⟨i,rfl,this.symm⟩
theorem pV.len {α:Type} {pick:List Nat} {xs ys:List α} (h:pV pick xs ys):ys.length=pick.length:=by
 have:=congrArg List.length h
 simpa using this
theorem pV.to {α β:Type} {pick:List Nat} {xs ys:List α} (h:pV pick xs ys) (zs:List β) (hl:zs.length=xs.length):∃ us,pV pick zs us:=by
 obtain ⟨l,h1,h2⟩:=yo (Q:=fun j u=>∃ i,pick[j]?=some i∧zs[i]?=some u) pick.length fun j hj=>by
  obtain ⟨y,hy⟩:∃ y,ys[j]?=some y:=⟨_,List.getElem?_eq_getElem (by rw [h.len];exact hj)⟩
  obtain ⟨i,e1,e2⟩:=h.get hy
  exact ⟨_,i,e1,List.getElem?_eq_getElem (by rw [hl];exact (List.getElem?_eq_some_iff.1 e2).1)⟩
 refine ⟨l,List.ext_getElem? fun j=>?_⟩
 simp only [List.getElem?_map]
 cases hu:l[j]? with
 | none =>
  have:pick.length≤j:=by rw [← h1];simpa using hu
  rw [List.getElem?_eq_none this];rfl
 | some u =>
  obtain ⟨i,e1,e2⟩:=h2 j u hu
  rw [e1]
  simp only [Option.map_some,e2]
theorem Gl:∀ {fps:List (List Nat)} {i j:Nat} {a b:List Nat},fps.flatten.Nodup→i≠j→fps[i]?=some a→fps[j]?=some b→∀ x∈a,x ∉ b
 | [],i,j,a,b,_,_,hi,_,_,_=>by simp at hi
 | f :: fps,0,0,_,_,_,h,_,_,_,_=>absurd rfl h
 | f :: fps,0,j + 1,a,b,hn,_,hi,hj,x,hx=>by
  rw [List.flatten_cons,List.nodup_append] at hn
  simp at hi hj
  subst hi
  exact fun hb=>hn.2.2 x hx x (List.mem_flatten.2 ⟨b,List.mem_of_getElem? hj,hb⟩) rfl
 | f :: fps,i + 1,0,a,b,hn,_,hi,hj,x,hx=>by
  rw [List.flatten_cons,List.nodup_append] at hn
  simp at hi hj
  subst hj
  exact fun hb=>hn.2.2 x hb x (List.mem_flatten.2 ⟨a,List.mem_of_getElem? hi,hx⟩) rfl
 | f :: fps,i + 1,j + 1,a,b,hn,h,hi,hj,x,hx=>by
  rw [List.flatten_cons,List.nodup_append] at hn
  exact Gl (i:=i) (j:=j) hn.2.1 (fun e=>h (by omega)) (by simpa using hi) (by simpa using hj) x hx
theorem PE {fps:List (List Nat)} {i:Nat} {a:List Nat} (hn:fps.flatten.Nodup) (hi:fps[i]?=some a):a.Nodup:=by
 induction fps generalizing i with
 | nil=>simp at hi
 | cons f fps ih =>
  rw [List.flatten_cons,List.nodup_append] at hn
  cases i with
  | zero=>simp at hi;subst hi;exact hn.1
  | succ i=>exact ih hn.2.1 (by simpa using hi)
theorem pV.flatten:∀ {pick:List Nat} {fps sel:List (List Nat)},pV pick fps sel→pick.Nodup→fps.flatten.Nodup→sel.flatten.Nodup∧∀ b∈sel.flatten,b∈fps.flatten
 | [],fps,sel,h,_,_=>by
  have:sel=[]:=by have:=h.len;exact List.eq_nil_of_length_eq_zero this
  subst this
  exact ⟨List.nodup_nil,fun b hb=>by cases hb⟩
 | i :: pick,fps,[],h,_,_=>by have:=h.len;simp at this
 | i :: pick,fps,s :: sel,h,hp,hn=>by
  obtain ⟨p1,p2⟩:=List.nodup_cons.1 hp
  unfold pV at h
  simp only [List.map_cons,List.cons.injEq] at h
  obtain ⟨h1,h2⟩:=h
  obtain ⟨k1,k2⟩:=pV.flatten (pick:=pick) (fps:=fps) (sel:=sel) h2 p2 hn
  have hs:=h1.symm
  refine ⟨?_,fun b hb=>?_⟩
  ·rw [List.flatten_cons,List.nodup_append]
   refine ⟨PE hn hs,k1,fun x hx y hy e=>?_⟩
   subst e
   obtain ⟨f,hf,hxf⟩:=List.mem_flatten.1 hy
   obtain ⟨j,hj⟩:=List.mem_iff_getElem?.1 hf
   obtain ⟨i',e1,e2⟩:=pV.get (show pV pick fps sel from h2) hj
   have hne:i≠i':=fun e=>p1 (by rw [e];exact List.mem_of_getElem? e1)
   exact Gl hn hne hs e2 x hx hxf
  ·rw [List.flatten_cons] at hb
   rcases List.mem_append.1 hb with hb | hb
   ·exact List.mem_flatten.2 ⟨s,List.mem_of_getElem? hs,hb⟩
   ·exact k2 b hb
def Rows (P:Program) (I:Nat→Prop) (t:Ty) (w:World) (xs:List t.D) (xsH:List t.hdT.D) (fps:List (List Nat)):Prop :=
 xsH.length=xs.length∧fps.length=xs.length∧∀ (i:Nat) x xh f,xs[i]?=some x→xsH[i]?=some xh→fps[i]?=some f→∃ cs,Own P I t w cs x f∧∀ (J:Nat→Prop) (w':World),Own P J t.hdT w' cs xh []
theorem M6 {t:Ty} {w:World} {v:Value} {xs:List t.D} {fp:List Nat} (hfl:t.hdT.flat=true) (h:Own P I (.slice t) w [v] xs fp) :
  ∃ xsH fp0 fps,Rows P I t w xs xsH fps∧fp=fp0++fps.flatten∧∀ J,Own P J (.slice t.hdT) w [v] xsH fp0:=by
 rcases h with ⟨h1,h2,h3⟩ | ⟨g,cap,cur,ty,fps,h1,h2,h3,h4,h5,h6,h7,h8⟩
 ·subst h2
  exact ⟨[],[],[],⟨rfl,rfl,fun i x xh f hx=>by simp at hx⟩,by rw [h3];rfl,fun J=>.inl ⟨h1,rfl,rfl⟩⟩
 ·obtain ⟨xsH,e1,e2⟩:=yo (Q:=fun i (xh:t.hdT.D)=>∃ x f cs,xs[i]?=some x∧fps[i]?=some f∧cs.length=t.n∧dD w g (i * t.n) cs∧Own P I t w cs x f∧∀ (J:Nat→Prop) (w':World),Own P J t.hdT w' cs xh []) xs.length fun i hi=>by
   have a1:xs[i]?=some xs[i]:=List.getElem?_eq_getElem hi
   have a2:fps[i]?=some (fps[i]'(by omega)):=List.getElem?_eq_getElem (by omega)
   obtain ⟨cs,c1,c2,c3⟩:=h8 i _ _ a1 a2
   obtain ⟨xh,hx⟩:=c3.toHd hfl
   exact ⟨xh,_,_,cs,a1,a2,c1,c2,c3,hx⟩
  refine ⟨xsH,[g],fps,⟨e1,h6,fun i x xh f hx hh hf=>?_⟩,h7,fun J=>.inr ⟨g,cap,cur,ty,List.replicate xsH.length [],by rw [e1];exact h1,h2,by rw [e1];exact h3,h4,by rw [Ty.hdT_n];exact h5,List.length_replicate,by rw [Gg],fun i xh fp' hh hf=>?_⟩⟩
  ·obtain ⟨x',f',cs,a1,a2,_,_,a5,a6⟩:=e2 i xh hh
   rw [hx] at a1
   rw [hf] at a2
   cases a1
   cases a2
   exact ⟨cs,a5,a6⟩
  ·obtain ⟨x',f',cs,a1,a2,a3,a4,a5,a6⟩:=e2 i xh hh
   have hfp:fp'=[]:=by
    rw [List.getElem?_replicate] at hf
    split at hf
    ·exact (Option.some.inj hf).symm
    ·cases hf
   subst hfp
   rw [Ty.hdT_n]
   exact ⟨cs,a3,a4,a6 J w⟩
theorem Ra {t:Ty} {w w':World} {v':Value} {xs ys:List t.D} {xsH ysH:List t.hdT.D} {fps:List (List Nat)} {fpr pick:List Nat} {K:Nat→Prop} (hfl:t.hdT.flat=true) (hr:Rows P I t w xs xsH fps) (h:Own P K (.slice t.hdT) w' [v'] ysH fpr)
  (p1:pV pick xs ys) (p2:pV pick xsH ysH) (hk:∀ b∈fps.flatten,w'.heap[b]?=w.heap[b]?) (hs:rq I J w w') :
  ∃ sel,pV pick fps sel∧Own P J (.slice t) w' [v'] ys (fpr++sel.flatten):=by
 obtain ⟨r1,r2,r3⟩:=hr
 obtain ⟨sel,hsel⟩:=p1.to fps r2
 refine ⟨sel,hsel,?_⟩
 have hlen:ysH.length=ys.length:=p2.len.trans p1.len.symm
 have hsl:sel.length=ys.length:=hsel.len.trans p1.len.symm
 rcases h with ⟨h1,h2,h3⟩ | ⟨g,cap,cur,ty,fpsH,h1,h2,h3,h4,h5,h6,h7,h8⟩
 ·subst h2
  have:ys=[]:=List.eq_nil_of_length_eq_zero (by rw [← hlen];rfl)
  subst this
  have:sel=[]:=List.eq_nil_of_length_eq_zero (by rw [hsl];rfl)
  subst this
  exact .inl ⟨h1,rfl,by rw [h3];rfl⟩
 ·have hnil:fpsH.flatten=[]:=by
   rw [List.flatten_eq_nil_iff]
   intro l hm
   obtain ⟨i,hi⟩:=List.mem_iff_getElem?.1 hm
   have hlt:i < ysH.length:=by rw [← h6];exact (List.getElem?_eq_some_iff.1 hi).1
   obtain ⟨cs,_,_,h⟩:=h8 i _ l (List.getElem?_eq_getElem hlt) hi
   exact Own.cop (Ty.flat_cop hfl) h
  rw [hnil] at h7
  subst h7
  refine .inr ⟨g,cap,cur,ty,sel,by rw [← hlen];exact h1,h2,by rw [← hlen];exact h3,h4,by rw [← Ty.hdT_n t];exact h5,hsl,rfl,fun j y fp' hy hf=>?_⟩
  obtain ⟨i,a1,a2⟩:=p1.get hy
  obtain ⟨i',b1,b2⟩:=hsel.get hf
  rw [a1] at b1
  cases b1
  have hjl:j < ysH.length:=by rw [hlen];exact (List.getElem?_eq_some_iff.1 hy).1
  have hyh:ysH[j]?=some ysH[j]:=List.getElem?_eq_getElem hjl
  obtain ⟨i'',c1,c2⟩:=p2.get hyh
  rw [a1] at c1
  cases c1
  obtain ⟨cs,d1,d2⟩:=r3 i y _ fp' a2 c2 b2
  obtain ⟨cs',e1,e2,e3⟩:=h8 j _ (fpsH[j]'(by rw [h6];exact hjl)) hyh (List.getElem?_eq_getElem _)
  have ec:=Own.cells_eq hfl e3 (d2 K w')
  subst ec
  rw [Ty.hdT_n] at e1 e2
  exact ⟨cs',e1,e2,d1.keep (fun b hb=>hk b (List.mem_flatten.2 ⟨fp',List.mem_of_getElem? b2,hb⟩)) hs⟩
theorem RX {f:FuncId} {t:Ty} {ms:List Md} {aH:Ty} {FH:(Ty.pair (.slice t.hdT) aH).D→Option ((Ty.slice t.hdT).D×(fS (.tk :: ms) (.pair (.slice t.hdT) aH)).D)} (hfl:t.hdT.flat=true)
  (hH:fC P f (.mut (.tk :: ms) true true (.pair (.slice t.hdT) aH) (.slice t.hdT) FH)) {Imm:Nat→Prop} {w:World} {v:Value} {rest:List Value} {xs ys:List t.D} {fp:List Nat} {yH:aH.D} {zH:(Ty.slice t.hdT).D×(fS (.tk :: ms) (.pair (.slice t.hdT) aH)).D} {pick:List Nat}
  (hown:Own P Imm (.slice t) w [v] xs fp) (hnI:∀ b∈fp,¬ Imm b) (hIl:∀ b,Imm b→b < w.heap.size) (hnd:fp.Nodup) {xsH:List t.hdT.D} {fp0:List Nat} {fps:List (List Nat)} (hr:Rows P Imm t w xs xsH fps) (hfp:fp=fp0++fps.flatten)
  (hoH:∀ J,Own P J (.slice t.hdT) w [v] xsH fp0) (hargs:oY P (fun b=>Imm b∨b∈fps.flatten) ms aH w rest yH []) (hF:FH (xsH,yH)=some zH) (pn:pick.Nodup) (p1:pV pick xs ys) (p2:pV pick xsH zH.1)
  (hout:∀ (I:Nat→Prop) (w:World) (vs:List Value) (z:(fS ms aH).D) (fp:List Nat),sH P I ms aH w vs z fp→fp=[]) :
  Calls P f (v :: rest).toArray w fun e w'=>bg (fun b=>b∈fp) w w'∧∃ v' fpr,e=.returned v'∧Own P (CD Imm w w' fpr) (.slice t) w' [v'] ys fpr∧fpr.Nodup∧∀ b∈fpr,b∈fp∨w.heap.size≤b:=by
 have hlt:=hown.lt
 have hnd':=hnd
 rw [hfp,List.nodup_append] at hnd'
 obtain ⟨n0,n1,n2⟩:=hnd'
 refine (hH.2 (fun b=>Imm b∨b∈fps.flatten) w (v :: rest) (xsH,yH) fp0 zH (fun b hb hi=>hi.elim (hnI b (by rw [hfp];exact List.mem_append_left _ hb)) (fun h=>n2 b hb b h rfl)) (fun b hb=>hb.elim (hIl b) (fun h=>hlt b (by rw [hfp];exact List.mem_append_right _ h))) n0 ⟨[v],rest,fp0,[],rfl,(List.append_nil _).symm,hoH _,hargs⟩ hF).mono ?_
 rintro e w' ⟨hk,cs',fpr,fpo,he,hres,ho,hno,hin⟩
 have hres:Own P (CD (fun b=>Imm b∨b∈fps.flatten) w w' (fpr++fpo)) (.slice t.hdT) w' cs' zH.1 fpr:=hres
 have hfpo:fpo=[]:=by
  obtain ⟨_,r,_,h⟩:=ho
  exact hout _ _ _ _ _ h
 subst hfpo
 rw [List.append_nil] at hno hin
 obtain ⟨v',rfl⟩:∃ v',cs'=[v']:=by
  have:=hres.length
  match cs',this with
  | [v'],_=>exact ⟨v',rfl⟩
 obtain ⟨sel,s1,s2⟩:=Ra (J:=Imm) hfl hr hres p1 p2 (fun b hb=>hk.block b (hlt b (by rw [hfp];exact List.mem_append_right _ hb)) fun h=>n2 b h b hb rfl)
  (hk.still fun b hb h=>hnI b (by rw [hfp];exact List.mem_append_left _ h) hb)
 obtain ⟨q1,q2⟩:=s1.flatten pn n1
 refine ⟨hk.mono fun k _ h=>by rw [hfp];exact List.mem_append_left _ h,v',fpr++sel.flatten,he,s2.imm fun b hb=>.inl hb,?_,fun b hb=>?_⟩
 ·rw [List.nodup_append]
  refine ⟨hno,q1,fun x hx y hy e=>?_⟩
  subst e
  have hy':=q2 x hy
  rcases hin x hx with h | h
  ·exact n2 x h x hy' rfl
  ·exact absurd (hlt x (by rw [hfp];exact List.mem_append_right _ hy')) (Nat.not_lt.2 h)
 ·rcases List.mem_append.1 hb with hb | hb
  ·exact (hin b hb).imp (fun h=>by rw [hfp];exact List.mem_append_left _ h) id
  ·exact .inl (by rw [hfp];exact List.mem_append_right _ (q2 b hb))
theorem Vl {f:FuncId} {t:Ty} {k1 k2:IntKind} {FH:(Ty.pair (.slice t.hdT) (.pair (.int k1) (.pair (.int k2) .unit))).D→Option (List t.hdT.D×Unit)} {F:(Ty.pair (.slice t) (.pair (.int k1) (.pair (.int k2) .unit))).D→Option (List t.D×Unit)} (hfl:t.hdT.flat=true)
  (hH:fC P f (.mut [.tk,.rd,.rd] true true (.pair (.slice t.hdT) (.pair (.int k1) (.pair (.int k2) .unit))) (.slice t.hdT) FH))
  (hF:∀ (xs:List t.D) (i j:Int) z,F (xs,i,j,())=some z→∃ pick:List Nat,pick.Nodup∧pV pick xs z.1∧∀ xsH:List t.hdT.D,xsH.length=xs.length→∃ zH,FH (xsH,i,j,())=some zH∧pV pick xsH zH.1) :
  fC P f (.mut [.tk,.rd,.rd] true true (.pair (.slice t) (.pair (.int k1) (.pair (.int k2) .unit))) (.slice t) F):=by
 refine ⟨hH.1,fun Imm w vs x fp z hnI hIl hnd hA hz=>?_⟩
 obtain ⟨xs,i,j,u⟩:=x
 obtain ⟨cs,r,f1,f2,rfl,rfl,ho,cs1,r1,rfl,hi,cs2,r2,rfl,hj,rfl,rfl⟩:=hA
 rw [List.append_nil] at hnd hnI ⊢
 obtain ⟨v,rfl⟩:∃ v,cs=[v]:=by
  have:=ho.length
  match cs,this with
  | [v],_=>exact ⟨v,rfl⟩
 obtain ⟨xsH,fp0,fps,hr,hfp,hoH⟩:=M6 hfl ho
 obtain ⟨pick,pn,p1,p2⟩:=hF xs i j z hz
 obtain ⟨zH,g1,g2⟩:=p2 xsH hr.1
 refine (RX (rest:=[valOf (.int k1) cs1,valOf (.int k2) cs2]) hfl hH ho hnI hIl hnd hr hfp hoH ⟨cs1,_,rfl,hi,cs2,_,rfl,hj,rfl,rfl⟩ g1 pn p1 g2 (fun I w vs z fp h=>?_)).mono ?_
 ·obtain ⟨_,_,_,_,_,_,h⟩:=h
  exact h.2
 ·rintro e w' ⟨hk,v',fpr,he,h1,h2,h3⟩
  refine ⟨hk,[v'],fpr,[],he,by rw [List.append_nil];exact h1,⟨_,_,rfl,_,_,rfl,_,_,rfl,rfl,rfl⟩,by rw [List.append_nil];exact h2,by rw [List.append_nil];exact h3⟩
open Classical in
theorem Vm {f:FuncId} {t:Ty} {FH:(Ty.pair (.slice t.hdT) (.pair (.fn (.pair t.hdT .unit) .bool) .unit)).D→Option (List t.hdT.D×Unit)} {F:(Ty.pair (.slice t) (.pair (.fn (.pair t .unit) .bool) .unit)).D→Option (List t.D×Unit)} (hfl:t.hdT.flat=true) (hnv:t.noVw=true)
  (hH:fC P f (.mut [.tk,.rd] true true (.pair (.slice t.hdT) (.pair (.fn (.pair t.hdT .unit) .bool) .unit)) (.slice t.hdT) FH))
  (hF:∀ (xs:List t.D) (p:(t.D×Unit)→Option Bool) z,F (xs,p,())=some z→∃ pick:List Nat,pick.Nodup∧pV pick xs z.1∧∀ (xsH:List t.hdT.D) (pH:(t.hdT.D×Unit)→Option Bool),xsH.length=xs.length →
   (∀ (i:Nat) x xh,xs[i]?=some x→xsH[i]?=some xh→pH (xh,())=p (x,()))→∃ zH,FH (xsH,pH,())=some zH∧pV pick xsH zH.1) :
  fC P f (.mut [.tk,.rd] true true (.pair (.slice t) (.pair (.fn (.pair t .unit) .bool) .unit)) (.slice t) F):=by
 refine ⟨hH.1,fun Imm w vs x fp z hnI hIl hnd hA hz=>?_⟩
 obtain ⟨xs,p,u⟩:=x
 obtain ⟨cs,r,f1,f2,rfl,rfl,ho,cs1,r1,rfl,hi,rfl,rfl⟩:=hA
 rw [List.append_nil] at hnd hnI ⊢
 obtain ⟨v,rfl⟩:∃ v,cs=[v]:=by
  have:=ho.length
  match cs,this with
  | [v],_=>exact ⟨v,rfl⟩
 obtain ⟨xsH,fp0,fps,hr,hfp,hoH⟩:=M6 hfl ho
 have hlt:=ho.lt
 obtain ⟨r1',r2',r3'⟩:=hr
 obtain ⟨pH,hpH⟩:∃ pH:(t.hdT.D×Unit)→Option Bool,pH=fun q=>if h:∃ x,∃ i:Nat,xs[i]?=some x∧xsH[i]?=some q.1 then p (h.choose,()) else none:=⟨_,rfl⟩
 have same:∀ (i j:Nat) x y xh,xs[i]?=some x→xs[j]?=some y→xsH[i]?=some xh→xsH[j]?=some xh→x=y:=fun i j x y xh hx hy h1 h2=>by
  obtain ⟨c1,k1,k1'⟩:=r3' i x xh (fps[i]'(by rw [r2'];exact (List.getElem?_eq_some_iff.1 hx).1)) hx h1 (List.getElem?_eq_getElem _)
  obtain ⟨c2,k2,k2'⟩:=r3' j y xh (fps[j]'(by rw [r2'];exact (List.getElem?_eq_some_iff.1 hy).1)) hy h2 (List.getElem?_eq_getElem _)
  have:=Own.cells_eq hfl (k1' Imm w) (k2' Imm w)
  subst this
  exact Own.det hnv k1 k2
 have hpe:∀ (i:Nat) x xh,xs[i]?=some x→xsH[i]?=some xh→pH (xh,())=p (x,()):=fun i x xh hx hh=>by
  have hex:∃ x,∃ i:Nat,xs[i]?=some x∧xsH[i]?=some xh:=⟨x,i,hx,hh⟩
  rw [hpH]
  simp only
  rw [dif_pos hex]
  obtain ⟨j,h1,h2⟩:=hex.choose_spec
  rw [same j i _ x xh h1 hx h2 hh]
 have hfn:Rd P (.fn (.pair t.hdT .unit) .bool) (fun b=>Imm b∨b∈fps.flatten) w cs1 pH:=by
  obtain ⟨g,caps,e1,e2,e3⟩:=hi
  refine ⟨g,caps,e1,e2,fun Imm' w' ds q b hw hq hb=>?_⟩
  obtain ⟨qh,qu⟩:=q
  obtain ⟨x,i,hx,hh⟩:∃ x,∃ i:Nat,xs[i]?=some x∧xsH[i]?=some qh:=by
   rw [hpH] at hb
   simp only at hb
   by_cases hex:∃ x,∃ i:Nat,xs[i]?=some x∧xsH[i]?=some qh
   ·exact hex
   ·rw [dif_neg hex] at hb;cases hb
  have hpx:p (x,())=some b:=(hpe i x qh hx hh).symm.trans hb
  have hil:i < fps.length:=by rw [r2'];exact (List.getElem?_eq_some_iff.1 hx).1
  obtain ⟨c,k1,k2⟩:=r3' i x qh fps[i] hx hh (List.getElem?_eq_getElem hil)
  obtain ⟨d1,d2,rfl,l1,q1,q2⟩:=hq
  have hc:d1=c:=Own.cells_eq (I:=Imm') (J:=Imm') hfl (Rd.own (Ty.flat_cop hfl) q1) (k2 Imm' w')
  subst hc
  have hin:∀ b∈fps[i],b∈fps.flatten:=fun b hb=>List.mem_flatten.2 ⟨_,List.getElem_mem hil,hb⟩
  have hrow:Own P (fun b=>b∈fps[i]) t w' d1 x fps[i]:=(Own.noVw (J:=fun _=>False) hnv k1).keep (fun b hb=>hw b (.inr (hin b hb)) (hlt b (by rw [hfp];exact List.mem_append_right _ (hin b hb)))) (fun b hb=>hb.elim)
  have hn:d1.length=t.n:=by rw [l1,Ty.hdT_n]
  have:=e3 (fun b=>b∈fps[i]) w' (d1++d2) (x,()) b (fun k hk hl=>hw k (.inl hk) hl) ⟨d1,d2,rfl,hn,hrow.rd (fun b hb=>hb) (fun b hb=>hb),q2⟩ hpx
  have ea:argsOf (.pair t.hdT .unit) (d1++d2)=argsOf (.pair t .unit) (d1++d2):=by
   simp only [argsOf,Ty.hdT_n]
   unfold valOf
   have:t.hdT.isStruct=t.isStruct:=by cases t <;> rfl
   rw [this]
  rw [ea]
  exact this
 obtain ⟨pick,pn,p1,p2⟩:=hF xs p z hz
 obtain ⟨zH,g1,g2⟩:=p2 xsH pH r1' hpe
 refine (RX (rest:=[valOf (.fn (.pair t .unit) .bool) cs1]) hfl hH ho hnI hIl hnd ⟨r1',r2',r3'⟩ hfp hoH ⟨cs1,_,rfl,hfn,rfl,rfl⟩ g1 pn p1 g2 (fun I w vs z fp h=>?_)).mono ?_
 ·obtain ⟨_,_,_,h⟩:=h
  exact h.2
 ·rintro e w' ⟨hk,v',fpr,he,h1,h2,h3⟩
  refine ⟨hk,[v'],fpr,[],he,by rw [List.append_nil];exact h1,⟨_,_,rfl,_,_,rfl,rfl,rfl⟩,by rw [List.append_nil];exact h2,by rw [List.append_nil];exact h3⟩
theorem PF {α:Type} (xs:List α) (i j:Nat) (hij:i≤j) (hj:j≤xs.length):pV (List.range i++List.range' j (xs.length - j)) xs (xs.take i++xs.drop j)∧(List.range i++List.range' j (xs.length - j)).Nodup:=by
 refine ⟨?_,?_⟩
 ·unfold pV
  rw [List.map_append,List.map_append]
  congr 1
  ·refine List.ext_getElem? fun k=>?_
   simp only [List.getElem?_map,List.getElem?_take]
   by_cases h:k < i
   ·rw [if_pos h,List.getElem?_range h]
    simp only [Option.map_some]
    rw [List.getElem?_eq_getElem (by omega)];rfl
   ·rw [if_neg h,List.getElem?_eq_none (by simpa using h)];rfl
  ·refine List.ext_getElem? fun k=>?_
   simp only [List.getElem?_map,List.getElem?_drop]
   by_cases h:k < xs.length - j
   ·rw [List.getElem?_range' h]
    simp only [Option.map_some,Nat.one_mul]
    rw [List.getElem?_eq_getElem (by omega)];rfl
   ·rw [List.getElem?_eq_none (by omega),List.getElem?_eq_none (by simpa using h)];rfl
 ·rw [List.nodup_append]
  refine ⟨List.nodup_range,List.nodup_range',fun a ha b hb e=>?_⟩
  rw [List.mem_range] at ha
  rw [List.mem_range'_1] at hb
  omega
def yp {α:Type} (keep:α→Bool):Nat→List α→List Nat
 | _,[]=>[]
 | k,x :: r=>if keep x=true then k :: yp keep (k + 1) r else yp keep (k + 1) r
theorem PG {α:Type} (keep:α→Bool):∀ (xs:List α) (k:Nat),(∀ i∈yp keep k xs,k≤i)∧(yp keep k xs).Nodup
 | [],k=>⟨fun i h=>(by cases h),List.nodup_nil⟩
 | x :: xs,k=>by
  obtain ⟨h1,h2⟩:=PG keep xs (k + 1)
  unfold yp
  split
  ·refine ⟨fun i hi=>?_,List.nodup_cons.2 ⟨fun hk=>?_,h2⟩⟩
   ·rcases List.mem_cons.1 hi with rfl | hi
    ·exact Nat.le_refl _
    ·have:=h1 i hi;omega
   ·have:=h1 k hk;omega
  ·exact ⟨fun i hi=>by have:=h1 i hi;omega,h2⟩
theorem IU {α:Type} (keep:α→Bool):∀ (xs pre:List α),(xs.filter keep).map some=(yp keep pre.length xs).map fun i=>(pre++xs)[i]?
 | [],pre=>rfl
 | x :: xs,pre=>by
  have ih:=IU keep xs (pre++[x])
  rw [List.length_append,List.append_assoc] at ih
  unfold yp
  by_cases h:keep x=true
  ·rw [if_pos h,List.filter_cons_of_pos h,List.map_cons,List.map_cons]
   congr 1
   simp
  ·rw [if_neg h,List.filter_cons_of_neg h]
   exact ih
theorem IV {α β:Type} (keep:α→Bool) (keep':β→Bool):∀ (xs:List α) (ys:List β) (k:Nat),ys.length=xs.length→(∀ (i:Nat) x y,xs[i]?=some x→ys[i]?=some y→keep' y=keep x)→yp keep' k ys=yp keep k xs
 | [],[],_,_,_=>rfl
 | [],_ :: _,_,h,_=>by cases h
 | _ :: _,[],_,h,_=>by cases h
 | x :: xs,y :: ys,k,h,he=>by
  unfold yp
  rw [he 0 x y rfl rfl,IV keep keep' xs ys (k + 1) (by simpa using h) fun i a b ha hb=>he (i + 1) a b (by simpa using ha) (by simpa using hb)]
theorem Gm {α:Type} (keep:α→Bool) (xs:List α):pV (yp keep 0 xs) xs (xs.filter keep):=by
 have:=IU keep xs []
 exact this
end
end Go.Abs
