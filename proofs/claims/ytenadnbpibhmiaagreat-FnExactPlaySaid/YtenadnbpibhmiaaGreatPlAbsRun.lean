/- Part of a proof of FnExactPlay: see the row. -/
import Derived.Test.YtenadnbpibhmiaaGreatPlAbsFrz
set_option linter.unusedVariables false
set_option linter.unusedSimpArgs false
namespace Go.Abs
open Go.RowKit
section
variable {P:Program} {M Fz:Nat→Prop} {w0:World} {E:Env} {σ:Hd→aS} {Imm:Nat→Prop} {st:St} {a:Act} {w:World}
theorem Vc {p q:Hd} (h:eqH p q=true):p=q:=by
 unfold eqH at h
 rw [Bool.and_eq_true] at h
 exact Prod.ext (Nat.eq_of_beq_eq_true h.1) (Nat.eq_of_beq_eq_true h.2)
theorem zT {q:Hd}:∀ {fs:List (FuncId×Bool)} {vs:List Value},LRs P σ Imm w (o0 q fs) vs→vs=Lj (σ q).b fs
 | [],_,h=>h
 | (f,true) :: r,_,⟨v,u,e,h1,h2⟩=>by
  rw [e,zT h2]
  have h1:v=.func (.func f) #[] #[.pointer (some ⟨(σ q).b,0,none⟩)]:=h1
  rw [h1];rfl
 | (f,false) :: r,_,⟨v,u,e,h1,h2⟩=>by
  rw [e,zT h2]
  have h1:v=.func (.func f) #[] #[]:=h1
  rw [h1];rfl
theorem CW {q:Hd}:∀ (fs:List (FuncId×Bool)),LRs P σ Imm w (o0 q fs) (Lj (σ q).b fs)
 | []=>rfl
 | (f,true) :: r=>⟨_,_,rfl,rfl,CW r⟩
 | (f,false) :: r=>⟨_,_,rfl,rfl,CW r⟩
theorem TN {o:Hd} (g:Hd→List Nat):∀ {ws:List (Hd×aw)},(aq ws).Nodup →
  (o∈aq ws→(ws.map fun p=>if p.1=o then g p.1 else []).flatten=g o∧tU ws (ws.map fun p=>if p.1=o then g p.1 else []) o=g o)∧(o ∉ aq ws→(ws.map fun p=>if p.1=o then g p.1 else []).flatten=[])
 | [],_=>⟨fun h=>(by cases h),fun _=>rfl⟩
 | (q,y) :: ws,hn=>by
  simp only [aq,List.nodup_cons] at hn
  obtain ⟨h1,h2⟩:=TN (o:=o) g hn.2
  simp only [aq,List.mem_cons,not_or,List.map_cons,List.flatten_cons,tU]
  constructor
  ·intro h
   by_cases e:q=o
   ·subst e
    rw [if_pos rfl,if_pos rfl,h2 hn.1]
    exact ⟨by simp,rfl⟩
   ·rw [if_neg e,if_neg e]
    have:=h1 (h.resolve_left fun h=>e h.symm)
    exact ⟨by simpa using this.1,this.2⟩
  ·rintro ⟨e,h⟩
   rw [if_neg (fun h=>e h.symm),h2 h]
   rfl
theorem RU {I:Nat→Prop} {o:Hd}:∀ {ws:List (Hd×aw)},(∀ q y,(q,y)∈ws→y=.dead)→WsR P σ I w ws (ws.map fun p=>if p.1=o then [(σ p.1).b] else [])
 | [],_=>rfl
 | (q,y) :: ws,h=>by
  refine ⟨_,_,rfl,?_,RU fun q y hq=>h q y (List.mem_cons_of_mem _ hq)⟩
  rw [h q y (by simp)]
  show _∨_
  simp only
  split
  ·exact .inr rfl
  ·exact .inl rfl
theorem dF.get {st:St} {ws:List (Hd×aw)} (h:dF st ws) (q:Hd):aj (bf ws st.h) q=if q∈aq ws then .dead else aj st.h q:=by
 obtain ⟨k1,k2⟩:=rt ws st.h h.nd (fun o x hm=>⟨cx (h.d o x hm).2.1,by rw [(h.d o x hm).1];rfl⟩) q
 split
 ·rename_i hq
  rw [dG] at hq
  obtain ⟨⟨q',y⟩,hm,rfl⟩:=List.mem_map.1 hq
  rw [k1 y hm,(h.d _ y hm).1]
 ·rename_i hq;exact k2 hq
def So (one:Bool) (r:Ty) (z:r.D):AV :=
 match one with
 | true=>cV r (iA r z)
 | false=>.tup (Aa r z id)
theorem IM {q:Hd} {b b':Nat}:∀ {fs:List (FuncId×Bool)},(q∈qj (o0 q fs)→b=b')→Lj b fs=Lj b' fs
 | [],_=>rfl
 | (f,true) :: r,h=>by
  have e:=h (by simp [o0,qj])
  rw [e]
 | (f,false) :: r,h=>by
  simp only [Lj]
  rw [IM fun hq=>h (by simpa [o0,qj] using hq)]
theorem Sp {R:Type} {x:R} {one:Bool} {d:Option Nat} {r:Ty} {z:r.D} {t:List AV} {κ:List AV→Option R} (h:Uw one d r z t κ=some x) :
  κ (Gw t d (So one r z))=some x:=by
 unfold Uw at h
 cases d with
 | none=>exact h
 | some d=>cases one with
  | true=>simp only [aP,oC] at h;exact h
  | false=>simp only at h;rw [lN,oC] at h;exact h
theorem Ux {R':Type} {r':R'} {ops:Array Oper} {Q:Exit→Act→World→Prop} {cl:Oper} {k:Nat} {tail:List Nat} {κ:St→Option R'} (hE:aE P E) (hF:∀ b,(w0.heap.size≤b∨M b)→Fz b)
  (R:Rel P M w0 σ Imm st a w) (h0:ops[k]?=some cl) (hd:∀ i,cl.dst=some i→i < st.t.length) (h:Vb E cl st κ=some r')
  (hq:∀ st' σ' Imm' a' w',κ st'=some r'→st'.t.length=st.t.length→Rel P M w0 σ' Imm' st' a' w'→nE Fz st st' σ σ' Imm Imm' w w'→(∀ t,cl.dst≠some t→a'.tmps.getD t undef=a.tmps.getD t undef)→wpOps P ops Q tail a' w') :
  wpOps P ops Q (k :: tail) a w:=by
 unfold Vb at h
 split at h
 rotate_left
 ·cases h
 rename_i c ho hg
 split at h
 rotate_left
 ·cases h
 rename_i fo hc
 split at h
 rotate_left
 ·cases h
 rename_i f caps hfo
 split at h
 rotate_left
 ·cases h
 rename_i t fs sf via one ta r F hct
 have hargs:∃ (o q:Hd) (vs:List AV) (us:List Value),rv P σ Imm w vs us∧(∀ v∈vs,aK st.h v.hds)∧a.eval fo=.func (.func f) #[] (cond via #[.pointer (some ⟨(σ q).b,0,none⟩)] #[]) ∧
   c.args.toList.map a.eval=cond via us (.pointer (some ⟨(σ o).b,0,none⟩) :: us) ∧
   (match !sf || CP st.h q o,r.flat with
     | true,true=>qk st (.boxO o.1 o.2 0 t (o0 q fs)) [] fun x ws=>aJ E st.h ta vs [] fun y os=>match Bj os,Bi ws q with
      | true,false=>(F x y).bind fun z=>FZ ws st.h fun h=>Uw one cl.dst r z.1 st.t fun t'=>sQ ⟨t',h⟩ [.boxO o.1 o.2 (Nm (bx h o.1)) t (o0 q fs)] z.2 κ
      | _,_=>none
     | _,_=>none)=some r':=by
  have hvc:∀ v∈c.args.toList.map (val st),aK st.h v.hds:=by
   intro v hv
   obtain ⟨x,_,rfl⟩:=List.mem_map.1 hv
   exact R.vc x
  have hav:=R.avs c.args.toList
  have hfv:=R.av fo
  rw [hfo] at hfv
  have hfv:a.eval fo=.func (.func f) #[] (caps.map fun o=>Value.pointer (some ⟨(σ o).b,0,none⟩)).toArray:=hfv
  generalize c.args.toList.map (val st)=avs at h hav hvc
  unfold RR at h
  split at h
  ·rename_i o vs _
   split at h
   ·rename_i cs hcs
    obtain ⟨u,us,e,h1,h2⟩:=hav
    have h1:u=.pointer (some ⟨(σ o).b,0,none⟩):=h1
    refine ⟨o,_,vs,us,h2,fun v hv=>hvc v (List.mem_cons_of_mem _ hv),hfv,?_,h⟩
    rw [e,h1];rfl
   ·cases h
  ·rename_i q vs
   split at h
   ·rename_i ro o hcs
    exact ⟨o,q,_,_,hav,hvc,hfv,rfl,h⟩
   ·cases h
  ·cases h
 clear h
 obtain ⟨o,q,vs,us,hav,hvc,hfv,hus,h⟩:=hargs
 split at h
 rotate_left
 ·cases h
 rename_i hsf hfl
 obtain ⟨x,ws,fp,h1,hp,htk⟩:=kQ R (dF.nil st) h
 obtain ⟨y,ps,cs,h2,hrd,husc,hsn⟩:=fD hE R hav hvc h1
 split at h2
 rotate_left
 ·cases h2
 rename_i hnh hhq
 have hps:ps=[]:=by cases ps with | nil=>rfl | cons _ _=>simp [Bj] at hnh
 subst hps
 have hrd:Rd P ta Imm w cs y:=hrd.imm fun b=>eT.nil
 have hbox:∃ ls,aj st.h o=.box false ls:=by
  simp only [qk] at h
  split at h
  ·rename_i ls hls _
   exact ⟨ls,hls⟩
  ·cases h
 obtain ⟨ls,hbox⟩:=hbox
 have hlive:(aj st.h o).live=true:=by rw [hbox];rfl
 have hwk:∀ b∈fp,∃ p∈aq ws,b∈(σ p).fp:=fun b hb=>by
  obtain ⟨ks,e,hk⟩:=htk.ks
  simp only [aq,List.append_nil] at e
  obtain ⟨p,h1,h2⟩:=hk b hb
  exact ⟨p,e ▸ h1,h2⟩
 obtain ⟨c',ty,f',us',fv,p1,p2,p3,p4,p5,p6⟩:=hp
 have p1:w.heap[(σ o).b]?=some (.cells c' ty (0,0)):=p1
 have p5:fp=(σ o).b :: f':=p5
 have p6:(σ o).fp=[(σ o).b]:=p6
 have how:o∈aq ws:=by
  obtain ⟨p,h1,h2⟩:=hwk (σ o).b (by rw [p5];simp)
  by_cases e:p=o
  ·exact e ▸ h1
  ·exact absurd (by rw [p6];simp) (R.dj p o e (htk.ok.key h1).1 hlive _ h2)
 have hself:sf=true→(∃ (c':Array Value) (ty':TypeId),w.heap[(σ q).b]?=some (.cells c' ty' (0,0))∧c'.toList=[.pointer (some ⟨(σ o).b,0,none⟩)])∧(σ q).b ∉ fp∧¬ Imm (σ q).b:=by
  intro hs
  rw [hs] at hsf
  have hsf:CP st.h q o=true:=hsf
  unfold CP at hsf
  split at hsf
  ·rename_i ro p hq
   have e:=Vc hsf
   subst e
   have hob:=R.ob q
   rw [hq] at hob
   obtain ⟨cc,ty',k1,k2,k3⟩:=hob
   have hlq:(aj st.h q).live=true:=by rw [hq];rfl
   refine ⟨⟨cc,ty',k1,?_⟩,fun hb=>?_,((R.nd q hlq).2 _ (by rw [k3];simp)).1⟩
   ·obtain ⟨v,r,e,h1,h2⟩:=k2
    have h1:v=.pointer (some ⟨(σ p).b,0,none⟩):=h1
    have h2:r=[]:=h2
    rw [e,h1,h2]
   ·obtain ⟨p',h1,h2⟩:=hwk _ hb
    exact R.dj q p' (fun e=>iC hhq (e ▸ h1)) hlq (htk.ok.key h1).1 _ (by rw [k3];simp) h2
  ·cases hsf
 obtain ⟨hb,hfr,hcall⟩:ff P f∧True∧_:=⟨(hE.2 f _ hct).1,trivial,(hE.2 f _ hct).2⟩
 cases hz:F x y with
 | none=>rw [hz] at h2;cases h2
 | some z =>
  rw [hz,Option.bind_some,Cz] at h2
  have h3:=Sp h2
  have hcall:=hcall Imm w cs y (σ o).b (σ q).b x fp z ⟨c',ty,f',us',p1,by rw [p2,zT p3],p4,p5,fun hs=>(hself hs).1⟩ htk.nd
   (fun k hk=>by obtain ⟨p,h1,h2⟩:=hwk k hk;exact ((R.nd p (htk.ok.key h1).1).2 k h2).1) (fun hs=>(hself hs).2) R.imm hrd hz
  rw [wpOps_cons]
  refine zQ h0 hg ?_
  refine zL ho hc hfv hus hb (Q0:=fun e w'=>bg (fun k=>k∈fp) w w' ∧
    ∃ cs' fp',e=.returned (jF one r cs')∧Rd P r aV w' cs' z.1∧S6 P (O7 Imm w w' fp fp') t fs sf w' (σ o).b (σ q).b z.2 fp'∧fp'.Nodup∧∀ k∈fp',k∈fp∨w.heap.size≤k) ?_ fun e w' hp=>?_
  ·subst husc
   cases via with
   | false=>simpa using hcall
   | true=>simpa using hcall
  obtain ⟨hK,cs',fp',rfl,hres,hrun,hnd',hsb⟩:=hp
  refine ⟨_,rfl,?_⟩
  have hs:jv cl.dst { v:=(So one r z.1),wr:=ws } st=some ⟨Gw st.t cl.dst (So one r z.1),bf ws st.h⟩:=by
   cases cl.dst <;> rfl
  have hfpI:∀ k∈fp,¬ Imm k:=fun k hk=>by obtain ⟨p,h1,h2⟩:=hwk k hk;exact ((R.nd p (htk.ok.key h1).1).2 k h2).1
  have hfpl:∀ k∈fp,k < w.heap.size:=fun k hk=>by obtain ⟨p,h1,h2⟩:=hwk k hk;exact R.lt p (htk.ok.key h1).1 k h2
  have hres':Rd P r (O7 Imm w w' fp fp') w' cs' z.1:=hres.imm fun _ h=>h.elim
  have hfp'I:∀ k∈fp',¬ O7 Imm w w' fp fp' k:=fun k hk hi=>by
   rcases hi with hi | ⟨_,_,hi⟩
   ·rcases hsb k hk with h | h
    ·exact hfpI k h hi
    ·have:=R.imm k hi;omega
   ·exact hi hk
  have hrun':=hrun
  obtain ⟨c2,ty2,f2,us2,r1,r2,r3,r4,r5⟩:=hrun'
  have hbm:(σ o).b∈fp':=by rw [r4];simp
  have hone:=TN (o:=o) (fun p=>[(σ p).b]) htk.ok.nd
  obtain ⟨hone1,hone2⟩:=hone.1 how
  obtain ⟨σ',R1,ev1,hσk,hσo⟩:=R.mutcF (Fz:=Fz) (d:=cl.dst) hd (rd:=[]) (new:=[]) hs (fun p hp=>htk.ok.key hp) htk.ok.nd (v:=jF one r cs') (w':=w') (Imm':=O7 Imm w w' fp fp') (φs:=[]) (fs:=ws.map fun p=>if p.1=o then [(σ p.1).b] else [])
   (hK.mono fun b _ hb=>hwk b hb) (fun _ h=>.inl h) (fun b hb=>hb.elim (fun h=>Nat.lt_of_lt_of_le (R.imm b h) hK.size) fun h=>h.1)
   (fun b hb hi=>hi.imp id fun h=>by
    rcases h.2.1 with h | h
    ·exact hwk b h
    ·omega)
   (fun p hp b hb _=>hF b ((R.nd p (htk.ok.key hp).1).2 b hb).2)
   (RU fun p y hy=>(htk.ok.d p y hy).1) rfl (by rw [hone1];simp)
   (fun b hb=>by
    rw [hone1] at hb
    have hb:b=(σ o).b:=by simpa using hb
    rw [hb]
    exact ⟨hfp'I _ hbm,.inr ⟨o,how,by rw [p6];simp⟩⟩)
   (fun σ' _=>by
    cases one with
    | true=>exact eI hres'.cells hres'.length
    | false=>exact ⟨_,rfl,CE hres'⟩)
   (fun p hp=>by
    cases one with
    | true=>rw [show (So true r z.1).hds=[] by show (cV r (iA r z.1)).hds=[];rw [eJ,cR]] at hp;cases hp
    | false=>rw [show (So false r z.1).hds=[] from CF _ _] at hp;cases hp)
  have hσo':σ' o=⟨(σ o).v,(σ o).b,[(σ o).b]⟩:=by rw [hσk o how,hone2]
  have hget:=fun p=>htk.ok.get p
  unfold sQ at h3
  have hth:oZ (bf ws st.h) (wG [.boxO o.1 o.2 (Nm (bx (bf ws st.h) o.1)) t (o0 q fs)])=true:=by
   cases hx:oZ (bf ws st.h) (wG [.boxO o.1 o.2 (Nm (bx (bf ws st.h) o.1)) t (o0 q fs)]) with
   | true=>rfl
   | false=>simp only [hx] at h3;cases h3
  simp only [hth] at h3
  have hnq:=iC hhq
  have hqq:q∈qj (o0 q fs)→(σ' q).b=(σ q).b:=fun hm=>by
   have ht:=oE hth q (by simpa [wG,Place.caps] using hm)
   rw [hget q,if_neg hnq] at ht
   rw [(hσo q ht hnq).1]
  have hfree:∀ b∈fp',IF M w0 σ' (O7 Imm w w' fp fp') ⟨Gw st.t cl.dst (So one r z.1),bf ws st.h⟩ b:=fun b hb=>by
   refine ⟨hfp'I b hb,?_,fun p hp hbp=>?_⟩
   ·rcases hsb b hb with h | h
    ·obtain ⟨p,h1,h2⟩:=hwk b h
     exact ((R.nd p (htk.ok.key h1).1).2 b h2).2
    ·exact .inl (Nat.le_trans R.keep.size h)
   ·have hp:(aj (bf ws st.h) p).live=true:=hp
    rw [hget p] at hp
    by_cases hm:p∈aq ws
    ·rw [if_pos hm] at hp;cases hp
    ·rw [if_neg hm] at hp
     rw [(hσo p (cx hp) hm).1] at hbp
     rcases hsb b hb with h | h
     ·obtain ⟨p',h1,h2⟩:=hwk b h
      exact R.dj p p' (fun e=>hm (e ▸ h1)) hp (htk.ok.key h1).1 b hbp h2
     ·have:=R.lt p hp b hbp;omega
  obtain ⟨T',σ2,hκ,htold⟩:=pa R1 (σb:=σ') (fun _ _=>rfl) (p:=.boxO o.1 o.2 (Nm (bx (bf ws st.h) o.1)) t (o0 q fs)) (x:=z.2) (fp:=fp')
   ⟨c2,ty2,f2,us2,Lj (σ q).b fs,by show w'.heap[(σ' o).b]?=_;rw [hσo'];exact r1,r2,by rw [← IM hqq];exact CW fs,r3,by show fp'=(σ' o).b :: f2;rw [hσo'];exact r4,by show (σ' o).fp=[(σ' o).b];rw [hσo']⟩
   hnd' hfree (fun p hp=>⟨oE hth p (by simpa [wG] using hp),rfl⟩) h3
  refine hq T' σ2 _ _ w' hκ (by rw [htold.len];cases cl.dst <;> simp [Gw]) htold.rel (ev1.trans (htold.evo R1).f) fun t ht=>?_
  cases hdst:cl.dst with
  | none=>simp [Act.put]
  | some d =>
   rw [hdst] at ht
   have hne:d≠t:=fun e=>ht (by rw [e])
   simp [Act.put,Array.getD_eq_getD_getElem?,Array.getElem?_setIfInBounds,hne]
theorem Vd {R':Type} {r:R'} {id:Nat} {ops:Array Oper} {k:Nat} {Q:Exit→Act→World→Prop} {κ:St→Option R'} (hE:aE P E) (hF:∀ b,(w0.heap.size≤b∨M b)→Fz b)
  (R:Rel P M w0 σ Imm st a w) (hd:∀ o∈ops.toList,∀ i,o.dst=some i→i < st.t.length) (h:TF E ops.toList k st κ=some r)
  (hq:∀ st' σ' Imm' a' w',κ st'=some r→st'.t.length=st.t.length→Rel P M w0 σ' Imm' st' a' w'→nE Fz st st' σ σ' Imm Imm' w w'→(∀ t,(∀ o∈ops.toList,o.dst≠some t)→a'.tmps.getD t undef=a.tmps.getD t undef)→Q .normal a' w'):(Code.region id ops false).wp P Q a w:=by
 unfold TF at h
 obtain ⟨ds,ss,st1,htr,hk⟩:=rB h
 split at hk
 rotate_left
 ·cases hk
 rename_i cl post hdrop
 have hall:ops.toList=ops.toList.take k++cl :: post:=by rw [← hdrop,List.take_append_drop]
 have hkl:(ops.toList.take k).length=k:=by
  have h1:(ops.toList.drop k).length=ops.toList.length - k:=List.length_drop
  rw [hdrop] at h1
  rw [List.length_take]
  simp only [List.length_cons] at h1
  omega
 have hsz:ops.size=k + 1 + post.length:=by
  have:=congrArg List.length hall
  simp only [Array.length_toList,List.length_append,List.length_cons,hkl] at this
  omega
 have hget:∀ j o,(cl :: post)[j]?=some o→ops[k + j]?=some o:=by
  intro j o hj
  rw [← Array.getElem?_toList,hall,List.getElem?_append_right (by omega),hkl,Nat.add_sub_cancel_left]
  exact hj
 have hmem:cl∈ops.toList:=by rw [hall];simp
 refine wp_region ?_
 have hrange:List.range ops.size=List.range' 0 (ops.toList.take k).length++(k :: List.range' (k + 1) post.length):=by
  rw [List.range_eq_range',hsz,hkl,show k + 1 + post.length=k + (1 + post.length) by omega,← List.range'_append_1,Nat.zero_add,← List.range'_append_1]
  rfl
 rw [hrange]
 refine NC hE htr (fun j o hj=>?_) R (fun o ho=>hd o (List.mem_of_mem_take ho)) fun σ1 I1 a1 w1 R1 ev1 hun1=>?_
 ·rw [Nat.zero_add,← Array.getElem?_toList,hall]
  rw [List.getElem?_append_left (List.getElem?_eq_some_iff.1 hj).1]
  exact hj
 have hl1:st1.t.length=st.t.length:=htr.len
 refine Ux hE hF R1 (hget 0 cl rfl) (fun i hi=>by rw [hl1];exact hd cl hmem i hi) hk fun st2 σ2 I2 a2 w2 hk2 hl2 R2 ev2 hun2=>?_
 obtain ⟨ds2,ss2,st3,htr2,hk3⟩:=rB hk2
 refine H4 hE (k:=k + 1) htr2 (fun j o hj=>by rw [Nat.add_assoc,Nat.add_comm 1 j];exact hget (j + 1) o (by simpa using hj)) R2 (fun o ho i hi=>by rw [hl2,hl1];exact hd o (by rw [hall];simp [ho]) i hi) fun σ3 I3 a3 w3 R3 ev3 hun3=>?_
 refine hq st3 σ3 I3 a3 w3 hk3 (by rw [htr2.len,hl2,hl1]) R3 ((ev1.f.trans ev2).trans ev3.f) fun t ht=>?_
 rw [hun3 t fun o ho=>ht o (by rw [hall];simp [ho]),hun2 t (ht cl hmem),hun1 t fun o ho=>ht o (List.mem_of_mem_take ho)]
end
end Go.Abs
