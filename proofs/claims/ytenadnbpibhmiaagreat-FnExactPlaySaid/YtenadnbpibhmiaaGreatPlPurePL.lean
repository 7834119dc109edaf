/- Part of a proof of FnExactPlay: see the row. -/
import Derived.Test.YtenadnbpibhmiaaGreatPlPurePLp1
set_option linter.unusedVariables false
set_option linter.unusedSimpArgs false
namespace Go.Abs
theorem zC (l:List Int) (a:Int) (h:l.length≤33554432):uE l a=some (l.any (fun x=>x == a)):=by
 unfold uE
 rw [dH l (body:=tj l a) (fun x=>x == a) (fun _=>true) (by omega) (fun i x hx=>?_) ?_]
 ·obtain ⟨h1,h2⟩:=eh (fun x=>x == a) l
  cases hf:bD (fun x=>x == a) l with
  | none =>
   have:l.any (fun x=>x == a)=false:=by rw [List.any_eq_false];exact fun x hx=>by simpa using h1 hf x hx
   rw [this];rfl
  | some k =>
   obtain ⟨x,g1,g2,_⟩:=h2 k hf
   have:l.any (fun x=>x == a)=true:=by rw [List.any_eq_true];exact ⟨x,List.mem_of_getElem? g1,g2⟩
   rw [this];rfl
 ·unfold tj
  simp
 ·unfold tj
  have hlt:=(List.getElem?_eq_some_iff.1 hx).1
  have:((i:Int) < (l.length:Int)):=by omega
  simp only [this,decide_true,cond_true,ay hx]
def m9 (cs:List Int) (n:Int):Int:=match cs with
 | []=>0
 | c :: _=>if n < 2 then 0 else if c.tmod n < 0 then c.tmod n + n else c.tmod n
def lB (cs:List Int) (n:Int):List Int:=match cs with
 | []=>[]
 | c :: r=>if n < 2 then c :: r else r
theorem Ep (cs:List Int) {n:Int} (h:1≤n):0≤m9 cs n∧m9 cs n < n:=by
 unfold m9
 split
 ·omega
 ·rename_i c r
  split
  ·omega
  ·have h1:=Int.tmod_lt_of_pos c (show 0 < n by omega)
   have h2:-n < c.tmod n:=by
    have:=Int.tmod_lt_of_pos (-c) (show 0 < n by omega)
    rw [Int.neg_tmod] at this
    omega
   split <;> omega
theorem rb (cs:List Int) (n:Int):lB cs n <:+ cs:=by
 unfold lB
 split
 ·exact List.suffix_refl _
 ·split
  ·exact List.suffix_refl _
  ·exact List.suffix_cons _ _
theorem eG (a:List Int) (h:a.length≤33554432):bl a=some a:=by
 unfold bl
 rw [if_pos (by simp only [aC,List.length_nil];omega),List.nil_append]
theorem Eq (cs:List Int) (n:Int) (h:cs.length≤33554432) (hn:n≤33554432):uQ cs n=some (m9 cs n,lB cs n,()):=by
 unfold uQ
 by_cases h2:n < 2
 ·rw [decide_eq_true h2]
  simp only [cond_true,Option.bind_some,eG cs h]
  unfold m9 lB
  cases cs <;> simp [h2]
 ·rw [decide_eq_false h2]
  cases cs with
  | nil=>simp [m9,lB,eG]
  | cons c r =>
   have h1:=Int.tmod_lt_of_pos c (show 0 < n by omega)
   have h3:-n < c.tmod n:=by
    have:=Int.tmod_lt_of_pos (-c) (show 0 < n by omega)
    rw [Int.neg_tmod] at this
    omega
   have hl:((c :: r).length:Int)=(r.length:Int) + 1:=by simp
   have e0:(((c :: r).length:Int) == 0)=false:=by rw [hl,beq_eq_false_iff_ne];omega
   have ei:∀ {R:Type} (κ:Int→Option R),idx (c :: r) 0 κ=κ c:=fun κ=>ay (i:=0) rfl
   simp only [cond_false,e0,Option.bind_some,ei]
   rw [if_neg (by omega)]
   simp only [List.length_cons] at h
   simp only [m9,lB,if_neg h2]
   by_cases hneg:c.tmod n < 0
   ·rw [decide_eq_true hneg,if_pos hneg]
    simp only [cond_true,Option.bind_some]
    rw [aB (by omega) (by omega),if_pos (by omega),if_pos (by omega),if_pos (by omega)]
    have:(((c :: r).take ((c :: r).length:Int).toNat).drop (1:Int).toNat)=r:=by simp
    rw [this,eG r (by omega)]
    rfl
   ·rw [decide_eq_false hneg,if_neg hneg]
    simp only [cond_false,Option.bind_some]
    rw [if_pos (by omega),if_pos (by omega),if_pos (by omega)]
    have:(((c :: r).take ((c :: r).length:Int).toNat).drop (1:Int).toNat)=r:=by simp
    rw [this,eG r (by omega)]
    rfl
theorem Er (cs:List Int) (n:Int) (h:cs.length≤33554432) (hn:n≤33554432):uH cs n=some (m9 cs n,lB cs n,()):=by
 unfold uH
 by_cases h2:n < 2
 ·rw [decide_eq_true h2]
  simp only [cond_true,Option.bind_some]
  rw [if_pos (by simp only [aC,List.length_nil];omega)]
  unfold m9 lB
  cases cs <;> simp [h2]
 ·rw [decide_eq_false h2]
  cases cs with
  | nil=>simp [m9,lB,aC]
  | cons c r =>
   have h1:=Int.tmod_lt_of_pos c (show 0 < n by omega)
   have h3:-n < c.tmod n:=by
    have:=Int.tmod_lt_of_pos (-c) (show 0 < n by omega)
    rw [Int.neg_tmod] at this
    omega
   have hl:((c :: r).length:Int)=(r.length:Int) + 1:=by simp
   have e0:(((c :: r).length:Int) == 0)=false:=by rw [hl,beq_eq_false_iff_ne];omega
   have ei:∀ {R:Type} (κ:Int→Option R),idx (c :: r) 0 κ=κ c:=fun κ=>ay (i:=0) rfl
   simp only [cond_false,e0,Option.bind_some,ei]
   rw [if_neg (by omega)]
   simp only [List.length_cons] at h
   simp only [m9,lB,if_neg h2]
   have hd:(((c :: r).take ((c :: r).length:Int).toNat).drop (1:Int).toNat)=r:=by simp
   by_cases hneg:c.tmod n < 0
   ·rw [decide_eq_true hneg,if_pos hneg]
    simp only [cond_true,Option.bind_some]
    rw [aB (by omega) (by omega),if_pos (by omega),if_pos (by omega),if_pos (by omega),hd,if_pos (by simp only [aC,List.length_nil];omega)]
    rfl
   ·rw [decide_eq_false hneg,if_neg hneg]
    simp only [cond_false,Option.bind_some]
    rw [if_pos (by omega),if_pos (by omega),if_pos (by omega),hd,if_pos (by simp only [aC,List.length_nil];omega)]
    rfl
theorem SK (xs:List af.D) (k:Nat) (h:k < xs.length) (hl:xs.length≤33554432):dm xs (k:Int) (IntKind.wrap .i64 ((k:Int) + 1))=some (xs.eraseIdx k,()):=by
 unfold dm
 rw [aB (by omega) (by omega)]
 have e0:((k:Int) == (k:Int) + 1)=false:=by rw [beq_eq_false_iff_ne];omega
 have t1:((k:Int) + 1).toNat=k + 1:=by omega
 have t2:(xs.length:Int).toNat=xs.length:=by omega
 have t3:k + (xs.length - (k + 1)) - 0=xs.length - 1:=by omega
 have t4:k + (xs.length - (k + 1))=xs.length - 1:=by omega
 simp only [e0,cond_false,t1,t2,Int.toNat_natCast,t3,t4]
 rw [if_pos (by omega),if_pos (by omega),if_pos (by omega),if_pos (by omega),if_pos (by omega),if_pos (by omega),if_pos (by omega),if_pos (by omega),if_pos (by omega),if_pos (by omega),if_pos (by omega),if_pos (by omega),if_pos (by omega),if_pos (by omega),if_pos (by omega)]
 have hlen:(xs.take k++(xs.take xs.length).drop (k + 1)++xs.drop (xs.length - 1)).length=xs.length:=by simp;omega
 rw [if_pos (by rw [hlen];omega)]
 rw [List.drop_zero,List.append_assoc,List.take_append_of_le_length (by rw [List.length_take,hlen];omega),List.take_take,show min (xs.length - 1) (xs.length - 1 - 0)=xs.length - 1 by omega,List.append_assoc,← List.append_assoc,List.take_append_of_le_length (by simp;omega),List.take_of_length_le (by simp;omega),List.take_length,List.eraseIdx_eq_take_drop_succ]
def em:Nat→List Int→List af.D→List Int×List af.D
 | 0,cs,_=>(cs,[])
 | n + 1,cs,own=>match own[(m9 cs own.length).toNat]? with
  | none=>(cs,[])
  | some x=>((em n (lB cs own.length) (own.eraseIdx (m9 cs own.length).toNat)).1,x :: (em n (lB cs own.length) (own.eraseIdx (m9 cs own.length).toNat)).2)
theorem Gs (n:Nat) (cs:List Int) (own:List af.D):em (n + 1) cs own=match own[(m9 cs own.length).toNat]? with
  | none=>(cs,[])
  | some x=>((em n (lB cs own.length) (own.eraseIdx (m9 cs own.length).toNat)).1,x :: (em n (lB cs own.length) (own.eraseIdx (m9 cs own.length).toNat)).2):=rfl
theorem Be {α:Type}:∀ (l:List α) (k:Nat) (x:α),l[k]?=some x→(x :: l.eraseIdx k).Perm l
 | [],k,x,h=>by simp at h
 | a :: l,0,x,h=>by simp at h;subst h;simp
 | a :: l,k + 1,x,h=>by
  simp only [List.getElem?_cons_succ] at h
  simp only [List.eraseIdx_cons_succ]
  exact (List.Perm.swap a x _).trans ((Be l k x h).cons a)
theorem zD:∀ (n:Nat) (cs:List Int) (own:List af.D),own.length=n→(em n cs own).2.Perm own∧(em n cs own).1 <:+ cs
 | 0,cs,own,h=>by
  have:own=[]:=List.eq_nil_of_length_eq_zero h
  subst this
  exact ⟨List.Perm.nil,List.suffix_refl _⟩
 | n + 1,cs,own,h=>by
  obtain ⟨h1,h2⟩:=Ep cs (n:=own.length) (by omega)
  have hk:(m9 cs own.length).toNat < own.length:=by omega
  have hx:=List.getElem?_eq_getElem hk
  obtain ⟨g1,g2⟩:=zD n (lB cs own.length) (own.eraseIdx (m9 cs own.length).toNat) (by rw [List.length_eraseIdx_of_lt hk];omega)
  unfold em
  rw [hx]
  exact ⟨(g1.cons _).trans (Be own _ _ hx),g2.trans (rb _ _)⟩
theorem Bf:∀ (n:Nat) (cs:List Int) (out own:List af.D),own.length=n→n≤33554432→out.length + n≤33554432→cs.length≤33554432 →
  al kD (cs,out,own)=some ((em n cs own).1,out++(em n cs own).2,[])
 | 0,cs,out,own,h,_,_,_=>by
  have:own=[]:=List.eq_nil_of_length_eq_zero h
  subst this
  refine aI ?_
  unfold kD em
  simp
 | n + 1,cs,out,own,h,hn,ho,hc=>by
  obtain ⟨h1,h2⟩:=Ep cs (n:=own.length) (by omega)
  obtain ⟨k,hk⟩:=Int.eq_ofNat_of_zero_le h1
  have hkl:k < own.length:=by omega
  have hx:=List.getElem?_eq_getElem hkl
  have hr:=(rb cs own.length).length_le
  have ih:=Bf n (lB cs own.length) (out++[own[k]]) (own.eraseIdx k) (by rw [List.length_eraseIdx_of_lt hkl];omega) (by omega) (by simp;omega) (by omega)
  refine aF (s':=(lB cs own.length,out++[own[k]],own.eraseIdx k)) ?_ ?_
  ·unfold kD
   have hp:(own.length:Int) > 0:=by omega
   simp only [hp,decide_true,cond_true,Eq cs own.length hc (by omega),Option.bind_some,hk,ay hx,Int.toNat_natCast,hx]
   rw [if_pos (by simp only [aC,List.length_cons,List.length_nil];omega),SK own k hkl (by omega),Option.bind_some]
  ·rw [ih]
   rw [Gs,hk,Int.toNat_natCast,hx]
   simp
theorem Bg:∀ (n:Nat) (cs:List Int) (out own:List af.D),own.length=n→n≤33554432→out.length + n≤33554432→cs.length≤33554432 →
  al kr (out,cs,own)=some (out++(em n cs own).2,(em n cs own).1,[])
 | 0,cs,out,own,h,_,_,_=>by
  have:own=[]:=List.eq_nil_of_length_eq_zero h
  subst this
  refine aI ?_
  unfold kr em
  simp
 | n + 1,cs,out,own,h,hn,ho,hc=>by
  obtain ⟨h1,h2⟩:=Ep cs (n:=own.length) (by omega)
  obtain ⟨k,hk⟩:=Int.eq_ofNat_of_zero_le h1
  have hkl:k < own.length:=by omega
  have hx:=List.getElem?_eq_getElem hkl
  have hr:=(rb cs own.length).length_le
  have ih:=Bg n (lB cs own.length) (out++[own[k]]) (own.eraseIdx k) (by rw [List.length_eraseIdx_of_lt hkl];omega) (by omega) (by simp;omega) (by omega)
  refine aF (s':=(out++[own[k]],lB cs own.length,own.eraseIdx k)) ?_ ?_
  ·unfold kr
   have hp:(own.length:Int) > 0:=by omega
   have t1:((k:Int) + 1).toNat=k + 1:=by omega
   have t2:(own.length:Int).toNat=own.length:=by omega
   simp only [hp,decide_true,cond_true,Er cs own.length hc (by omega),Option.bind_some,hk,ay hx,Int.toNat_natCast,hx]
   rw [aB (by omega) (by omega)]
   have l1:((own.take k).drop (0:Int).toNat).length=k:=by simp;omega
   have l2:((own.take own.length).drop ((k:Int) + 1).toNat).length=own.length - (k + 1):=by rw [t1];simp
   rw [if_pos (by simp only [aC,List.length_cons,List.length_nil];omega),if_pos (by omega),if_pos (by omega),if_pos (by omega),if_pos (by rw [l1];simp only [aC,List.length_nil];omega),if_pos (by omega),if_pos (by omega),if_pos (by omega),if_pos (by rw [List.nil_append,l1,l2];simp only [aC];omega)]
   simp [t1,List.eraseIdx_eq_take_drop_succ]
  ·rw [ih]
   rw [Gs,hk,Int.toNat_natCast,hx]
   simp
def nc (l:List af.D) (done:List Int):List af.D:=l.filter fun x=>!(done.any fun z=>z == x.2.1)
def vp (l:List af.D):List Int→List Int→List Int×List af.D
 | [],cs=>(cs,[])
 | s :: r,cs=>((vp l r (em (l.filter fun x=>x.2.1 == s).length cs (l.filter fun x=>x.2.1 == s)).1).1,(em (l.filter fun x=>x.2.1 == s).length cs (l.filter fun x=>x.2.1 == s)).2++(vp l r (em (l.filter fun x=>x.2.1 == s).length cs (l.filter fun x=>x.2.1 == s)).1).2)
theorem Qo (l:List af.D) (done:List Int) (s:Int) (h:s ∉ done):(nc l done).filter (fun x=>x.2.1 == s)=l.filter fun x=>x.2.1 == s:=by
 unfold nc
 rw [List.filter_filter]
 refine List.filter_congr fun x _=>?_
 cases hx:x.2.1 == s with
 | false=>rfl
 | true =>
  have hx:=eq_of_beq hx
  have:(done.any fun z=>z == x.2.1)=false:=by
   rw [List.any_eq_false]
   intro z hz hzs
   have:=eq_of_beq hzs
   rw [hx] at this
   exact h (this ▸ hz)
  rw [this];rfl
theorem Nf (l:List af.D) (done:List Int) (s:Int):(nc l done).filter (fun x=>!(x.2.1 == s))=nc l (done++[s]):=by
 unfold nc
 rw [List.filter_filter]
 refine List.filter_congr fun x _=>?_
 rw [List.any_append]
 simp only [List.any_cons,List.any_nil,Bool.or_false,Bool.not_or]
 rw [Bool.and_comm,show (x.2.1 == s)=(s == x.2.1) from Bool.eq_iff_iff.2 (by simp only [beq_iff_eq];exact eq_comm)]
theorem zE (l:List af.D) (sides:List Int) (hl:l.length≤33554432) (hs:sides.length≤33554432) (hn:sides.Nodup):∀ (rem done cs:List Int) (out:List af.D),sides=done++rem→cs.length≤33554432→out.length + (nc l done).length=l.length →
  al (kE sides) (cs,out,nc l done,(done.length:Int))=some ((vp l rem cs).1,out++(vp l rem cs).2,nc l sides,(sides.length:Int))∧(out++(vp l rem cs).2).length + (nc l sides).length=l.length∧(vp l rem cs).1 <:+ cs
 | [],done,cs,out,e,hc,ho=>by
  simp only [List.append_nil] at e
  subst e
  refine ⟨aI ?_,by simpa [vp] using ho,List.suffix_refl _⟩
  unfold kE vp
  simp
 | s :: rem,done,cs,out,e,hc,ho=>by
  have hnd:s ∉ done:=by
   rw [e,List.nodup_append] at hn
   exact fun hm=>hn.2.2 s hm s (by simp) rfl
  have hlt:done.length < sides.length:=by rw [e];simp
  have hx:sides[done.length]?=some s:=by rw [e];simp
  have hkl:(nc l done).length≤l.length:=List.length_filter_le _ _
  have hown:=Qo l done s hnd
  have hrest:=Nf l done s
  have hparts:=qZ (fun x:af.D=>x.2.1 == s) (nc l done)
  rw [hown,hrest] at hparts
  obtain ⟨p1,p2⟩:=zD _ cs (l.filter fun x=>x.2.1 == s) rfl
  have hpl:=p1.length_eq
  have hsl:=p2.length_le
  obtain ⟨i1,i2,i3⟩:=zE l sides hl hs hn rem (done++[s]) (em (l.filter fun x=>x.2.1 == s).length cs (l.filter fun x=>x.2.1 == s)).1 (out++(em (l.filter fun x=>x.2.1 == s).length cs (l.filter fun x=>x.2.1 == s)).2) (by rw [e];simp) (by omega) (by rw [List.length_append];omega)
  refine ⟨aF (s':=((em (l.filter fun x=>x.2.1 == s).length cs (l.filter fun x=>x.2.1 == s)).1,out++(em (l.filter fun x=>x.2.1 == s).length cs (l.filter fun x=>x.2.1 == s)).2,nc l (done++[s]),((done++[s]).length:Int))) ?_ ?_,?_,i3.trans p2⟩
  ·have hil:((done.length:Int) < (sides.length:Int)):=by omega
   unfold kE
   simp only [hil,decide_true,cond_true,ay hx,Int.toNat_natCast,hx,Option.bind_some]
   rw [Cl _ _ (by omega),hown,Option.bind_some,sD _ (by omega) (fun x=>x.2.1 == s) _ (fun x=>rfl),hrest,Option.bind_some,
    Bf _ cs out _ rfl (by omega) (by omega) hc,Option.bind_some,aB (by omega) (by omega)]
   simp
  ·rw [i1]
   simp [vp]
  ·simpa [vp,List.append_assoc] using i2
theorem zF (l:List af.D) (sides:List Int) (hl:l.length≤33554432) (hs:sides.length≤33554432) (hn:sides.Nodup):∀ (rem done cs:List Int) (out:List af.D),sides=done++rem→cs.length≤33554432→out.length + (nc l done).length=l.length →
  al (kt l sides) (out,cs,(done.length:Int))=some (out++(vp l rem cs).2,(vp l rem cs).1,(sides.length:Int))
 | [],done,cs,out,e,hc,ho=>by
  simp only [List.append_nil] at e
  subst e
  refine aI ?_
  unfold kt vp
  simp
 | s :: rem,done,cs,out,e,hc,ho=>by
  have hnd:s ∉ done:=by
   rw [e,List.nodup_append] at hn
   exact fun hm=>hn.2.2 s hm s (by simp) rfl
  have hlt:done.length < sides.length:=by rw [e];simp
  have hx:sides[done.length]?=some s:=by rw [e];simp
  have hkl:(nc l done).length≤l.length:=List.length_filter_le _ _
  have hown:=Qo l done s hnd
  have hrest:=Nf l done s
  have hparts:=qZ (fun x:af.D=>x.2.1 == s) (nc l done)
  rw [hown,hrest] at hparts
  obtain ⟨p1,p2⟩:=zD _ cs (l.filter fun x=>x.2.1 == s) rfl
  have hpl:=p1.length_eq
  have hsl:=p2.length_le
  have i1:=zF l sides hl hs hn rem (done++[s]) (em (l.filter fun x=>x.2.1 == s).length cs (l.filter fun x=>x.2.1 == s)).1 (out++(em (l.filter fun x=>x.2.1 == s).length cs (l.filter fun x=>x.2.1 == s)).2) (by rw [e];simp) (by omega) (by rw [List.length_append];omega)
  refine aF (s':=(out++(em (l.filter fun x=>x.2.1 == s).length cs (l.filter fun x=>x.2.1 == s)).2,(em (l.filter fun x=>x.2.1 == s).length cs (l.filter fun x=>x.2.1 == s)).1,((done++[s]).length:Int))) ?_ ?_
  ·have hil:((done.length:Int) < (sides.length:Int)):=by omega
   unfold kt
   simp only [hil,decide_true,cond_true,ay hx,Int.toNat_natCast,hx,Option.bind_some]
   rw [Ck _ _ (by omega),Option.bind_some,Bg _ cs out _ rfl (by omega) (by omega) hc,Option.bind_some,aB (by omega) (by omega)]
   simp
  ·rw [i1]
   simp [vp]
noncomputable def ne (s:ae.D) (l:List af.D) (cs:List Int):List af.D×List Int:=((vp l (dq s) cs).2++nc l (dq s),(vp l (dq s) cs).1)
theorem KZ (s:ae.D) (l:List af.D) (cs:List Int) (hs:s.2.1.length≤33554432) (hl:l.length≤33554432) (hc:cs.length≤33554432) :
  ml s l cs=some ((ne s l cs).1,(ne s l cs).2,())∧mJ s l cs=some ((ne s l cs).1,(ne s l cs).2,())∧(ne s l cs).1.length=l.length∧(ne s l cs).2 <:+ cs:=by
 have hol:=Rr s
 have hk0:nc l []=l:=by unfold nc;simp
 have hn:=OJ s hs
 obtain ⟨h1,h2,h3⟩:=zE l (dq s) hl (by omega) hn (dq s) [] cs [] rfl hc (by rw [hk0];simp)
 have h4:=zF l (dq s) hl (by omega) hn (dq s) [] cs [] rfl hc (by rw [hk0];simp)
 simp only [List.nil_append,List.length_nil,hk0,Int.natCast_zero] at h1 h2 h4
 refine ⟨?_,?_,by unfold ne;simp only [List.length_append];exact h2,h3⟩
 ·unfold ml
  rw [if_pos (by simp only [aC,List.length_nil];omega),tQ s hs,Option.bind_some,List.nil_append,h4,Option.bind_some]
  have key:al (gQ l (dq s)) ((vp l (dq s) cs).2,0)=some ((vp l (dq s) cs).2++nc l (dq s),(l.length:Int)):=by
   have:=(ER l (body:=gQ l (dq s)) (fun (t:List af.D) _ x=>t++(if (!((dq s).any fun z=>z == x.2.1)) then [x] else [])) (fun i t=>t.length≤(vp l (dq s) cs).2.length + i) (fun t=>t) (vp l (dq s) cs).2 (by omega) (by omega) (fun t i x hI hx=>⟨?_,?_⟩) (fun t hI=>?_)).1
   ·rw [this,rG (fun _ (x:af.D)=>if (!((dq s).any fun z=>z == x.2.1)) then [x] else []),iG]
    rfl
   ·have hlt:=(List.getElem?_eq_some_iff.1 hx).1
    have hil:((i:Int) < (l.length:Int)):=by omega
    unfold gQ
    simp only [hil,decide_true,cond_true,ay hx,Option.bind_some]
    rw [zC _ _ (by omega),Option.bind_some,if_pos (by simp only [aC,List.length_cons,List.length_nil];omega)]
    cases ((dq s).any fun z=>z == x.2.1) <;> simp
   ·rw [List.length_append]
    split <;> simp <;> omega
   ·unfold gQ;simp
  rw [key,Option.bind_some]
  rfl
 ·unfold mJ bv
  rw [if_pos (by simp only [aC,List.length_nil];omega),eG cs hc]
  simp only [Option.bind_some,List.nil_append,tR s hs,h1]
  rw [if_pos (by simp only [aC];omega)]
  rfl
theorem Qp (l:List Int) (a:Int) (h:l.length≤33554432):Dm l a=some (l.any (fun x=>a == x)):=by
 unfold Dm jz n8
 rw [dH l (body:=fO l a) (fun x=>a == x) (fun i=>i) (by omega) (fun i x hx=>?_) ?_]
 ·rw [← FU]
  cases bD (fun x=>a == x) l <;> rfl
 ·unfold fO
  simp
 ·unfold fO
  have hlt:=(List.getElem?_eq_some_iff.1 hx).1
  have:((i:Int) < (l.length:Int)):=by omega
  simp only [this,decide_true,cond_true,ay hx]
theorem Rs (n:Int) (h0:0≤n) (h1:n≤33554432):eE () n=some ([],()):=by
 unfold eE
 rw [bb h0]
 simp only [cond_false,Option.bind_some]
 have z:IntKind.wrap .i64 (0 - 0)=0:=aB (by omega) (by omega)
 rw [z,Int.sub_zero,aB (by omega) (by omega)]
 by_cases hn:n > 0
 ·rw [decide_eq_true hn]
  simp only [cond_true,Int.le_refl,if_true]
  rw [if_pos (by omega),if_pos hn,if_pos (by simp only [aC];omega),if_pos (by omega)]
  simp
 ·rw [decide_eq_false hn];rfl
theorem SL (n:Int) (h0:0≤n) (h1:n≤33554432):eR () n=some ([],()):=by
 unfold eR
 rw [bb h0]
 simp only [cond_false,Option.bind_some]
 have z:IntKind.wrap .i64 (0 - 0)=0:=aB (by omega) (by omega)
 rw [z,Int.sub_zero,aB (by omega) (by omega)]
 by_cases hn:n > 0
 ·rw [decide_eq_true hn]
  simp only [cond_true,Int.le_refl,if_true]
  rw [if_pos (by omega),if_pos hn,if_pos (by simp only [aC];omega),if_pos (by omega)]
  simp
 ·rw [decide_eq_false hn];rfl
theorem OK (a b:List ac.D) (h:a.length + b.length≤33554432):dP [a,b]=some (a++b):=by
 have i0:([a,b]:List (List ac.D))[0]?=some a:=rfl
 have i1:([a,b]:List (List ac.D))[1]?=some b:=rfl
 have e1:al (bX [a,b]) (0,0)=some ((a.length:Int) + (b.length:Int),2):=by
  refine aF (s':=((a.length:Int),1)) ?_ (aF (s':=((a.length:Int) + (b.length:Int),2)) ?_ (aI ?_))
  ·unfold bX
   rw [decide_eq_true (by simp)]
   simp only [cond_true]
   rw [show ((0:Int))=((0:Nat):Int) from rfl,ay i0]
   simp (disch:=omega) only [aB,bb,cond_false]
   first | (simp;done) | (simp;rw [bb (by omega)];rfl)
  ·unfold bX
   rw [decide_eq_true (by simp)]
   simp only [cond_true]
   rw [show ((1:Int))=((1:Nat):Int) from rfl,ay i1]
   simp (disch:=omega) only [aB,bb,cond_false]
   first | (simp;done) | (simp;rw [bb (by omega)];rfl)
  ·unfold bX
   simp
 have e2:al (bY [a,b]) ([],0)=some (a++b,2):=by
  refine aF (s':=(a,1)) ?_ (aF (s':=(a++b,2)) ?_ (aI ?_))
  ·unfold bY
   rw [decide_eq_true (by simp)]
   simp only [cond_true]
   rw [show ((0:Int))=((0:Nat):Int) from rfl,ay i0]
   rw [if_pos (by simp only [aC,List.length_nil];omega)]
   simp (disch:=omega) only [aB]
   simp
  ·unfold bY
   rw [decide_eq_true (by simp)]
   simp only [cond_true]
   rw [show ((1:Int))=((1:Nat):Int) from rfl,ay i1]
   rw [if_pos (by simp only [aC];omega)]
   simp (disch:=omega) only [aB]
   simp
  ·unfold bY
   simp
 unfold dP
 rw [e1,Option.bind_some]
 simp only
 rw [Rs _ (by omega) (by omega),Option.bind_some]
 simp only
 rw [e2,Option.bind_some]
theorem Qq (a b:List ar.D) (h:a.length + b.length≤33554432):dZ [a,b]=some (a++b):=by
 have i0:([a,b]:List (List dV.D))[0]?=some a:=rfl
 have i1:([a,b]:List (List dV.D))[1]?=some b:=rfl
 have e1:al (cf [a,b]) (0,0)=some ((a.length:Int) + (b.length:Int),2):=by
  refine aF (s':=((a.length:Int),1)) ?_ (aF (s':=((a.length:Int) + (b.length:Int),2)) ?_ (aI ?_))
  ·unfold cf
   rw [decide_eq_true (by simp)]
   simp only [cond_true]
   rw [show ((0:Int))=((0:Nat):Int) from rfl,ay i0]
   simp (disch:=omega) only [aB,bb,cond_false]
   first | (simp;done) | (simp;rw [bb (by omega)];rfl)
  ·unfold cf
   rw [decide_eq_true (by simp)]
   simp only [cond_true]
   rw [show ((1:Int))=((1:Nat):Int) from rfl,ay i1]
   simp (disch:=omega) only [aB,bb,cond_false]
   first | (simp;done) | (simp;rw [bb (by omega)];rfl)
  ·unfold cf
   simp
 have e2:al (cg [a,b]) ([],0)=some ((a++b:List ar.D),2):=by
  refine aF (s':=(a,1)) ?_ (aF (s':=((a++b:List ar.D),2)) ?_ (aI ?_))
  ·unfold cg
   rw [decide_eq_true (by simp)]
   simp only [cond_true]
   rw [show ((0:Int))=((0:Nat):Int) from rfl,ay i0]
   rw [if_pos (by simp only [aC,List.length_nil];omega)]
   simp (disch:=omega) only [aB]
   simp
  ·unfold cg
   rw [decide_eq_true (by simp)]
   simp only [cond_true]
   rw [show ((1:Int))=((1:Nat):Int) from rfl,ay i1]
   rw [if_pos (by simp only [aC];omega)]
   simp (disch:=omega) only [aB]
   simp
  ·unfold cg
   simp
 unfold dZ
 rw [e1,Option.bind_some]
 simp only
 rw [SL _ (by omega) (by omega),Option.bind_some]
 simp only
 rw [e2,Option.bind_some]
theorem qg (xs:List ar.D) (h:okD (.slice ar) xs):ga xs=some xs:=by
 have hl:xs.length≤33554432:=h.1
 unfold ga
 rw [cy xs (fun _ x=>[x]) (fun s=>s) (fun _ _=>by simp) (by omega) (fun t i x hI hx=>?_) (fun t=>?_)]
 ·rw [Option.bind_some,iY];simp
 ·have hlt:=(List.getElem?_eq_some_iff.1 hx).1
  have hil:((i:Int) < (xs.length:Int)):=by omega
  have hle:=(h.2 x (List.mem_of_getElem? hx)).2.2.2.2.2.1.1
  unfold mu bd
  simp only [hil,decide_true,cond_true,ay hx,List.nil_append]
  rw [if_pos (by simp only [aC,List.length_nil];omega)]
  simp only [Option.bind_some]
  rw [if_pos (by simp only [aC,List.length_cons,List.length_nil];omega)]
 ·unfold mu;simp
theorem w9 (xs:List ar.D) (h:okD (.slice ar) xs):jI xs=some xs:=by
 have hl:xs.length≤33554432:=h.1
 unfold jI
 rw [cy xs (fun _ x=>[x]) (fun s=>s) (fun _ _=>by simp) (by omega) (fun t i x hI hx=>?_) (fun t=>?_)]
 ·rw [Option.bind_some,iY];simp
 ·have hlt:=(List.getElem?_eq_some_iff.1 hx).1
  have hil:((i:Int) < (xs.length:Int)):=by omega
  have hle:=(h.2 x (List.mem_of_getElem? hx)).2.2.2.2.2.1.1
  unfold nN vV
  simp only [hil,decide_true,cond_true,ay hx,List.nil_append]
  rw [if_pos (by simp only [aC,List.length_nil];omega)]
  simp only [Option.bind_some]
  rw [if_pos (by simp only [aC,List.length_cons,List.length_nil];omega)]
 ·unfold nN;simp
theorem sE (f:ba.D) (h:okD ba f):ja f=some f:=by
 have h1:f.1.length≤33554432:=h.1.1
 have h3:f.2.2.1.length≤33554432:=h.2.2.1.1
 unfold ja
 rw [if_pos (by simp only [aC,List.length_nil];omega),cj _ h.2.1,Option.bind_some,if_pos (by simp only [aC,List.length_nil];omega),w9 _ h.2.2.2.1]
 rfl
theorem ug:∀ (xs ys:List Int),xs.Nodup→(∀ x∈xs,x∈ys)→xs.length≤ys.length
 | [],_,_,_=>Nat.zero_le _
 | x :: xs,ys,h,hs=>by
  have hx:x∈ys:=hs x (List.mem_cons_self ..)
  obtain ⟨h1,h2⟩:=List.nodup_cons.1 h
  have:=ug xs (ys.erase x) h2 (fun y hy=>by
   refine (List.mem_erase_of_ne ?_).2 (hs y (List.mem_cons_of_mem _ hy))
   intro e;subst e;exact h1 hy)
  rw [List.length_erase_of_mem hx] at this
  have:0 < ys.length:=List.length_pos_of_mem hx
  simp only [List.length_cons]
  omega
theorem Qr (out:List Int) (k:Nat) (x:Int):(out.take k++[x]++out.drop k).Perm (out++[x]):=by
 have h:(out.take k++([x]++out.drop k)).Perm (out.take k++(out.drop k++[x])):=List.Perm.append_left _ List.perm_append_comm
 have e:out.take k++(out.drop k++[x])=out++[x]:=by rw [← List.append_assoc,List.take_append_drop]
 rw [e] at h
 rw [List.append_assoc]
 exact h
theorem Cm (l:List Int) (a:Int):l.any (fun x=>x == a)=decide (a∈l):=by
 by_cases h:a∈l
 ·rw [decide_eq_true h,List.any_eq_true];exact ⟨a,h,by simp⟩
 ·rw [decide_eq_false h,List.any_eq_false]
  intro x hx e
  have:x=a:=by simpa using e
  subst this;exact h hx
theorem Qs (l:List Int) (a:Int):l.any (fun x=>a == x)=decide (a∈l):=by
 rw [← Cm]
 congr 1
 funext x
 exact Bool.beq_comm
theorem Ng (s:ae.D) (e:ac.D) (h:s.1.length≤33554432):∃ t,pm s e=some t∧pF s e=some t:=by
 unfold pm pF aQ
 simp only [gL,dp,eZ s _ h,fd s _ h,Option.bind_some]
 cases (e.2.2.1 == 0)
 ·simp only [cond_false]
  rcases jW s e.2.2.1 with h | ⟨k,x,h1,h2,_⟩
  ·rw [h];exact ⟨-1,rfl,rfl⟩
  ·rw [h1,bb (by omega)]
   simp only [cond_false,ay h2]
   exact ⟨_,rfl,rfl⟩
 ·generalize (decide (0≤e.2.2.2.1) && decide (e.2.2.2.1≤IntKind.wrap .i64 ((s.2.1.length:Int) - 1)))=b
  cases b <;> exact ⟨_,rfl,rfl⟩
theorem Rt (s:ae.D) (e:ac.D) (h:s.1.length≤33554432):∃ t,qF s e=some t∧qR s e=some t:=by
 obtain ⟨t,h1,h2⟩:=Ng s e h
 unfold qF qR
 rw [h1,h2]
 simp only [Option.bind_some,bne]
 cases (t == -1) <;> exact ⟨_,rfl,rfl⟩
def Qt {α:Type} (p:α→Bool) (n:Int) (_:Nat) (x:α):Int:=if p x then n + 1 else n
theorem K0 {α:Type} (p:α→Bool):∀ (xs:List α) (i:Nat) (n:Int),dI (Qt p) i xs n=n + ((xs.filter p).length:Int)
 | [],_,n=>by simp [dI]
 | x :: xs,i,n=>by
  unfold dI
  rw [K0 p xs]
  unfold Qt
  by_cases h:p x=true
  ·rw [if_pos h,List.filter_cons_of_pos h,List.length_cons];omega
  ·rw [if_neg h,List.filter_cons_of_neg h]
theorem K7 {α:Type} (xs:List α) (hl:xs.length≤33554432) (p:α→Bool) {body:(Int×Int)→Option ((Int×Int)⊕(Int×Int))}
  (hb:∀ (n:Int) (i:Nat) x,0≤n→n≤i→xs[i]?=some x→body (n,(i:Int))=some (.inl (Qt p n i x,IntKind.wrap .i64 ((i:Int) + 1))))
  (he:∀ n,body (n,(xs.length:Int))=some (.inr (n,(xs.length:Int)))) :
  al body (0,0)=some (((xs.filter p).length:Int),(xs.length:Int)):=by
 have:=(ER xs (body:=body) (Qt p) (fun i n=>0≤n∧n≤i) (fun s=>s) 0 (by simp) (by omega) (fun n i x hI hx=>⟨hb n i x hI.1 hI.2 hx,by
  unfold Qt;split <;> omega⟩) (fun n _=>he n)).1
 rw [this,K0]
 simp
def Nh (a:Int) (x:ah.D):Bool:=(x.2.2.2.1 == 2) && (x.2.2.1 == a) && x.2.2.2.2.2.2.2.2.2.2.2.2.1
def Gt (a:Int) (x:ah.D):Bool:=(x.2.2.2.1 == 2) && (x.2.2.1 == a)
theorem K8 (s:ae.D) (a:Int) (h:s.1.length≤33554432):tD s a=some ((s.1.filter (Nh a)).length:Int):=by
 unfold tD
 rw [K7 s.1 h (Nh a) (fun n i x h0 h1 hx=>?_) (fun n=>by unfold rT;simp)]
 ·rfl
 ·have hlt:=(List.getElem?_eq_some_iff.1 hx).1
  have hil:((i:Int) < (s.1.length:Int)):=by omega
  have hw:IntKind.wrap .i64 (n + 1)=n + 1:=aB (by omega) (by omega)
  unfold rT Qt Nh
  simp only [hil,decide_true,cond_true,ay hx,hw]
  cases (x.2.2.2.1 == 2) <;> cases (x.2.2.1 == a) <;> cases x.2.2.2.2.2.2.2.2.2.2.2.2.1 <;> rfl
theorem K9 (s:ae.D) (a:Int) (h:s.1.length≤33554432):tq s a=some ((s.1.filter (Nh a)).length:Int):=by
 unfold tq
 rw [K7 s.1 h (Nh a) (fun n i x h0 h1 hx=>?_) (fun n=>by unfold rK;simp)]
 ·rfl
 ·have hlt:=(List.getElem?_eq_some_iff.1 hx).1
  have hil:((i:Int) < (s.1.length:Int)):=by omega
  have hw:IntKind.wrap .i64 (n + 1)=n + 1:=aB (by omega) (by omega)
  unfold rK Qt Nh
  simp only [hil,decide_true,cond_true,ay hx,hw]
  cases (x.2.2.2.1 == 2) <;> cases (x.2.2.1 == a) <;> cases x.2.2.2.2.2.2.2.2.2.2.2.2.1 <;> rfl
theorem OL (s:ae.D) (a:Int) (h:s.1.length≤33554432):tp s a=some ((s.1.filter (Gt a)).length:Int):=by
 unfold tp
 rw [K7 s.1 h (Gt a) (fun n i x h0 h1 hx=>?_) (fun n=>by unfold rJ;simp)]
 ·rfl
 ·have hlt:=(List.getElem?_eq_some_iff.1 hx).1
  have hil:((i:Int) < (s.1.length:Int)):=by omega
  have hw:IntKind.wrap .i64 (n + 1)=n + 1:=aB (by omega) (by omega)
  unfold rJ Qt Gt
  simp only [hil,decide_true,cond_true,ay hx,hw]
  cases (x.2.2.2.1 == 2) <;> cases (x.2.2.1 == a) <;> rfl
theorem La (a:Int) (ha:0≤a):∀ (xs:List ah.D) (i:Nat),(bh (Cj a) i xs).length=(xs.filter (Gt a)).length
 | [],_=>rfl
 | x :: xs,i=>by
  unfold bh
  have h1:(a == -1)=false:=by rw [beq_eq_false_iff_ne];omega
  rw [List.length_append,La a ha xs]
  unfold Cj
  by_cases h:Gt a x=true
  ·rw [List.filter_cons_of_pos h]
   unfold Gt at h
   rw [h1,Bool.false_or,h]
   simp only [cond_true,List.length_cons,List.length_nil];omega
  ·rw [List.filter_cons_of_neg h]
   have h:Gt a x=false:=by simpa using h
   unfold Gt at h
   rw [h1,Bool.false_or,h]
   simp
theorem Ue (s:ae.D) (a:Int) (g:bc.D) (h1:s.1.length≤33554432) (h2:s.2.1.length≤33554432):∃ b,vW s a g=some b∧wa s a g=some b:=by
 obtain ⟨b,q1,q2⟩:=sv g
 unfold vW wa aQ
 simp only [q1,q2,gL,dp,Option.bind_some]
 cases b
 ·exact ⟨_,rfl,rfl⟩
 ·simp only [Bool.not_true,cond_false,Option.bind_some]
  rw [aB (by omega) (by omega)]
  by_cases hs:0≤a∧a≤(s.2.1.length:Int) - 1
  ·rw [decide_eq_true hs.1,decide_eq_true hs.2]
   obtain ⟨k,rfl⟩:=Int.eq_ofNat_of_zero_le hs.1
   have hx:s.2.1[k]?=some (s.2.1[k]'(by omega)):=List.getElem?_eq_getElem (by omega)
   simp only [Bool.and_self,Bool.not_true,cond_false,ay hx,OL s _ h1,HW s _ h1,K8 s _ h1,K9 s _ h1,Option.bind_some,La _ hs.1]
   cases (g.1 == 1) <;> cases (g.1 == 2) <;> cases (g.1 == 3) <;> cases (g.1 == 4) <;> exact ⟨_,rfl,rfl⟩
  ·have:(decide (0≤a) && decide (a≤(s.2.1.length:Int) - 1))=false:=by
    rw [Bool.and_eq_false_iff]
    rcases Int.lt_or_le a 0 with h | h
    ·exact .inl (decide_eq_false (by omega))
    ·exact .inr (decide_eq_false (by omega))
   rw [this]
   exact ⟨_,rfl,rfl⟩
theorem ME (s:ae.D) (a:Int) (p:cp.D) (e:ac.D) (h:s.1.length≤33554432):∃ b,kg s a p e=some b∧kx s a p e=some b:=by
 obtain ⟨t,h1,h2⟩:=Ng s e h
 unfold kg kx
 rw [h1,h2]
 simp only [Option.bind_some,bne]
 cases (t == -1) <;> cases (p.2.1 == 1) <;> cases (t == a) <;> cases (p.2.1 == 2) <;> cases (p.2.2.2.2.1 == 0) <;> exact ⟨_,rfl,rfl⟩
theorem MF (s:ae.D) (p:cp.D) (e:ac.D) (h:s.1.length≤33554432):∃ b,ki s p e=some b∧ky s p e=some b:=by
 unfold ki ky
 simp only [sw s e h,sy s e h,Option.bind_some]
 cases (p.2.2.1 == 0) <;> cases (p.2.2.1 == e.2.1) <;> exact ⟨_,rfl,rfl⟩
theorem Ru (s:ae.D) (a:Int) (p:cp.D) (e:ac.D) (h:s.1.length≤33554432):∃ b,qB s a p e=some b∧qM s a p e=some b:=by
 obtain ⟨b1,p1,q1⟩:=zA p
 obtain ⟨b2,p2,q2⟩:=ME s a p e h
 obtain ⟨b3,p3,q3⟩:=MF s p e h
 unfold qB qM
 simp only [p1,q1,p2,q2,p3,q3,bR,bB,Option.bind_some]
 cases b1 <;> cases aO e <;> cases (p.1 == e.1) <;> cases b2 <;> cases b3 <;> cases decide ((e.2.2.2.2.1:Int)≥p.2.2.2.2.2.1) <;> cases (p.2.2.2.2.2.2.1 == 0) <;> exact ⟨_,rfl,rfl⟩
theorem OM (s:ae.D) (x:aa.D) (e:ac.D) (h1:s.1.length≤33554432) (h2:s.2.1.length≤33554432) (hl:x.2.2.2.2.2.2.1.2.2.2.2.2.2.1.length≤33554432) :
  ∃ b,uF s x e=some b∧rh s x e=some b∧(b=true→aR x=true):=by
 obtain ⟨b1,p1,q1⟩:=Ue s x.2.1 x.2.2.2.2.2.1 h1 h2
 obtain ⟨b2,p2,q2⟩:=Ru s x.2.1 x.2.2.2.2.1 e h1
 unfold uF rh nQ n9 EZ Fb
 simp only [p1,q1,p2,q2,dK x hl,oz x hl,Option.bind_some]
 cases aR x
 ·exact ⟨false,rfl,rfl,fun h=>by cases h⟩
 ·cases ((x.2.2.2.2.2.2.2.2.1:Int) != 0) <;> cases ((x.2.2.2.2.2.2.2.1:Int) == -1) <;> cases decide ((x.2.2.2.2.2.2.2.1:Int)≥s.2.2.2.1) <;> cases ((x.2.2.2.1:Int) != 0) <;> cases ((x.2.2.1:Int) == e.2.1) <;> cases ((x.2.2.1:Int) == e.2.2.1) <;> cases b1 <;> exact ⟨_,rfl,rfl,fun _=>rfl⟩
noncomputable def Es (s:ae.D) (e:ac.D) (x:aa.D):Bool:=(rh s x e).getD false
theorem ON (s:ae.D) (x:aa.D) (e:ac.D) (h1:s.1.length≤33554432) (h2:s.2.1.length≤33554432) (hl:x.2.2.2.2.2.2.1.2.2.2.2.2.2.1.length≤33554432):rh s x e=some (Es s e x):=by
 obtain ⟨b,_,h,_⟩:=OM s x e h1 h2 hl
 unfold Es;rw [h];rfl
theorem OO (s:ae.D) (x:aa.D) (e:ac.D) (h1:s.1.length≤33554432) (h2:s.2.1.length≤33554432) (hl:x.2.2.2.2.2.2.1.2.2.2.2.2.2.1.length≤33554432):uF s x e=some (Es s e x):=by
 obtain ⟨b,h',h,_⟩:=OM s x e h1 h2 hl
 unfold Es;rw [h,h'];rfl
theorem Rv (s:ae.D) (x:aa.D) (e:ac.D) (h1:s.1.length≤33554432) (h2:s.2.1.length≤33554432) (hl:x.2.2.2.2.2.2.1.2.2.2.2.2.2.1.length≤33554432) (h:Es s e x=true):0≤x.2.2.2.1∧x.2.2.2.1≤4:=by
 obtain ⟨b,_,hb,ho⟩:=OM s x e h1 h2 hl
 unfold Es at h
 rw [hb] at h
 have h':=dK x hl
 rw [ho h] at h'
 obtain ⟨b1,p1,q1⟩:=zA x.2.2.2.2.1
 obtain ⟨b2,p2,q2⟩:=sv x.2.2.2.2.2.1
 obtain ⟨b3,p3,q3⟩:=Ed x.2.2.2.2.2.2.1 hl
 obtain ⟨b4,p4,q4⟩:=su x.2.2.2.2.2.2.1 x.2.2.2.2.1.1
 unfold cL dr bj at h'
 simp only [q1,q2,q3,q4,dp,Option.bind_some] at h'
 simp only [cond_eq_ite,ri,Option.bind_some] at h'
 have h':=Option.some.inj h'
 clear p1 p2 p3 p4 q1 q2 q3 q4 hl h hb ho
 generalize x.2.2.2.2.2.2.1.1=ak at *
 generalize x.1=i at *
 generalize x.2.1=ow at *
 generalize x.2.2.1=so at *
 generalize x.2.2.2.1=du at *
 generalize x.2.2.2.2.2.2.2.1=co at *
 generalize x.2.2.2.2.2.2.2.2.1=on at *
 simp at h'
 grind
theorem Lb {α σ S R:Type} (xs:List α) {body:S→Option (S⊕R)} (mk:σ→Int→S) (step:σ→Nat→α→σ) (I:Nat→σ→Prop) (r:σ→R) (s0:σ) (h0:I 0 s0) (hlen:xs.length≤9223372036854775806)
  (hb:∀ s (i:Nat) x,I i s→xs[i]?=some x→body (mk s (i:Int))=some (.inl (mk (step s i x) (IntKind.wrap .i64 ((i:Int) + 1))))∧I (i + 1) (step s i x))
  (he:∀ s,I xs.length s→body (mk s (xs.length:Int))=some (.inr (r s))) :
  al body (mk s0 0)=some (r (dI step 0 xs s0))∧I xs.length (dI step 0 xs s0):=by
 have main:∀ (l:List α) (k:Nat) (s:σ),xs.drop k=l→k≤xs.length→I k s→al body (mk s (k:Int))=some (r (dI step k l s))∧I xs.length (dI step k l s):=by
  intro l
  induction l with
  | nil =>
   intro k s h hk hI
   have:k=xs.length:=by
    have:=congrArg List.length h
    simp at this
    omega
   subst this
   exact ⟨aI (he s hI),hI⟩
  | cons x l ih =>
   intro k s h hk hI
   have hlt:k < xs.length:=by
    have:=congrArg List.length h
    simp at this
    omega
   have hx:xs[k]?=some x:=by
    have:=congrArg (fun l=>l[0]?) h
    simpa using this
   have hr:xs.drop (k + 1)=l:=by
    have:=congrArg List.tail h
    simpa using this
   obtain ⟨h1,h2⟩:=hb s k x hI hx
   rw [aB (by omega) (by omega)] at h1
   obtain ⟨h3,h4⟩:=ih (k + 1) (step s k x) hr hlt h2
   exact ⟨aF h1 h3,h4⟩
 have:=main xs 0 s0 rfl (by omega) h0
 simpa using this
theorem Gu {α σ:Type} (step:σ→Nat→α→σ) (P:σ→Prop):∀ (xs:List α) (i:Nat) (s:σ),P s→(∀ s i x,x∈xs→P s→P (step s i x))→P (dI step i xs s)
 | [],_,_,h,_=>h
 | x :: xs,i,s,h,hs=>Gu step P xs (i + 1) _ (hs s i x (List.mem_cons_self ..) h) (fun s i y hy=>hs s i y (List.mem_cons_of_mem _ hy))
theorem Lc {α σ τ:Type} (f:σ→Nat→α→σ) (g:τ→Nat→α→τ) (Q:σ→τ→Prop):∀ (xs:List α) (i:Nat) (s:σ) (t:τ),Q s t→(∀ s t i x,x∈xs→Q s t→Q (f s i x) (g t i x))→Q (dI f i xs s) (dI g i xs t)
 | [],_,_,_,h,_=>h
 | x :: xs,i,s,t,h,hs=>Lc f g Q xs (i + 1) _ _ (hs s t i x (List.mem_cons_self ..) h) (fun s t i y hy=>hs s t i y (List.mem_cons_of_mem _ hy))
def Et (b:Bool) (id c:Int) (s:List Int×Int):List Int×Int :=
 if b=true then (if c > s.2 then s else if c < s.2 then ([id],c) else (s.1++[id],s.2)) else s
def Gv (b:Bool) (id c:Int) (s:List Int×Int):List Int×Int :=
 if b=true then (if s.1.length=0∨c < s.2 then ([id],c) else if c=s.2 then (s.1++[id],s.2) else s) else s
theorem UQ (p:Bool) (id c:Int) (h0:p=true→0≤c∧c≤4) (a b:List Int×Int) (h:a.1=b.1∧(a.1.length=0→a.2=5)∧(a.1.length≠0→a.2=b.2)) :
  (Et p id c a).1=(Gv p id c b).1∧((Et p id c a).1.length=0→(Et p id c a).2=5)∧((Et p id c a).1.length≠0→(Et p id c a).2=(Gv p id c b).2):=by
 obtain ⟨a1,a2,a3⟩:=h
 unfold Et Gv
 by_cases hp:p=true
 ·obtain ⟨c1,c2⟩:=h0 hp
  rw [if_pos hp,if_pos hp,← a1]
  by_cases h0:a.1.length=0
  ·have:=a2 h0
   rw [if_neg (by omega),if_pos (by omega),if_pos (.inl h0)]
   exact ⟨rfl,fun h=>by simp at h,fun _=>rfl⟩
  ·have:=a3 h0
   by_cases h3:c < b.2
   ·rw [if_neg (by omega),if_pos (by omega),if_pos (.inr h3)]
    exact ⟨rfl,fun h=>by simp at h,fun _=>rfl⟩
   ·rw [if_neg (c:=a.1.length=0∨c < b.2) (by omega)]
    by_cases h4:c=b.2
    ·rw [if_neg (by omega),if_neg (by omega),if_pos h4]
     exact ⟨by rfl,fun h=>by simp at h,fun _=>this⟩
    ·rw [if_pos (by omega),if_neg h4]
     exact ⟨a1,a2,a3⟩
 ·rw [if_neg hp,if_neg hp]
  exact ⟨a1,a2,a3⟩
def UR (p:aa.D→Bool) (s:List Int×Int) (_:Nat) (x:aa.D):List Int×Int:=Et (p x) x.1 x.2.2.2.1 s
def Ld (p:aa.D→Bool) (s:List Int×Int) (_:Nat) (x:aa.D):List Int×Int:=Gv (p x) x.1 x.2.2.2.1 s
noncomputable def pO (s:ae.D) (e:ac.D) (u:List Int) (x:aa.D):Bool:=!decide (x.1∈u) && Es s e x
noncomputable def Qu (s:ae.D) (xs:List aa.D) (e:ac.D) (u:List Int):List Int:=(dI (Ld (pO s e u)) 0 xs ([],0)).1
theorem HX (s:ae.D) (xs:List aa.D) (e:ac.D) (u:List Int) (h1:s.1.length≤33554432) (h2:s.2.1.length≤33554432) (hx:okD (.slice aa) xs) (hu:u.length≤33554432) :
  qN s xs e u=some (Qu s xs e u):=by
 have hl:xs.length≤33554432:=hx.1
 have:=(Lb xs (body:=kz s xs e u) (fun (t:List Int×Int) i=>(t.1,t.2,i)) (Ld (pO s e u)) (fun i t=>t.1.length≤i) (fun t=>(t.1,t.2,(xs.length:Int))) ([],0) (by simp) (by omega) (fun t i x hI hi=>⟨?_,?_⟩) (fun t hI=>?_)).1
 ·unfold qN
  rw [this]
  rfl
 ·have hlt:=(List.getElem?_eq_some_iff.1 hi).1
  have hil:((i:Int) < (xs.length:Int)):=by omega
  have hok:=(hx.2 x (List.mem_of_getElem? hi)).2.2.2.2.2.2.1.2.2.2.2.2.2.1.1
  unfold kz Ld Gv pO
  simp only [hil,decide_true,cond_true,ay hi,Qp u _ hu,Qs,ON s x e h1 h2 hok,Option.bind_some]
  by_cases hm:x.1∈u
  ·simp only [hm,decide_true,cond_true,Option.bind_some,Bool.not_true,Bool.false_and,Bool.false_eq_true,if_false]
  ·cases hf:Es s e x
   ·simp only [hm,decide_false,cond_true,cond_false,Option.bind_some,Bool.not_false,Bool.and_false,Bool.false_eq_true,if_false]
   ·simp only [hm,decide_false,cond_false,Option.bind_some,Bool.not_false,Bool.not_true,Bool.and_self,if_true]
    have r1:∀ (l:List Int),l.length≤i→(l.length + [x.1].length) * (24 * 1)≤aC:=fun l h=>by simp only [aC,List.length_cons,List.length_nil];omega
    by_cases h0:t.1.length=0
    ·have:((t.1.length:Int) == 0)=true:=by rw [h0];rfl
     rw [if_pos (Or.inl h0)]
     simp only [this,cond_true,Option.bind_some,Int.le_refl,if_true,Int.natCast_nonneg,beq_self_eq_true]
     rw [if_pos (r1 _ (by simp))]
     simp
    ·have:((t.1.length:Int) == 0)=false:=by rw [beq_eq_false_iff_ne];omega
     simp only [this,cond_false,Option.bind_some]
     by_cases h3:x.2.2.2.1 < t.2
     ·simp only [h3,decide_true,cond_true,Int.le_refl,if_true,or_true]
      rw [if_pos (by omega)]
      simp only [Option.bind_some,beq_self_eq_true,cond_true]
      rw [if_pos (r1 _ (by simp))]
      simp
     ·simp only [h3,decide_false,cond_false,Option.bind_some,h0,or_self,if_false]
      by_cases h4:x.2.2.2.1=t.2
      ·have:((x.2.2.2.1:Int) == t.2)=true:=by rw [h4];simp
       simp only [this,cond_true]
       rw [if_pos h4,if_pos (r1 _ hI)]
      ·have:((x.2.2.2.1:Int) == t.2)=false:=by rw [beq_eq_false_iff_ne];exact h4
       simp only [this,cond_false,h4,if_false]
 ·unfold Ld Gv
  split
  ·split
   ·simp
   ·split
    ·simp only [List.length_append,List.length_cons,List.length_nil];omega
    ·omega
  ·omega
 ·unfold kz
  simp
theorem HY (s:ae.D) (xs:List aa.D) (e:ac.D) (u v:List Int) (h1:s.1.length≤33554432) (h2:s.2.1.length≤33554432) (hx:okD (.slice aa) xs) (hu:u.length≤33554432) (huv:∀ a,a∈u↔a∈v) :
  qC s xs e u=some (Qu s xs e v):=by
 have hl:xs.length≤33554432:=hx.1
 have hop:pO s e u=pO s e v:=by
  funext x
  unfold pO
  rw [show decide (x.1∈u)=decide (x.1∈v) from decide_eq_decide.2 (huv _)]
 have:=(Lb xs (body:=kj s xs e u) (fun (t:List Int×Int) i=>(t.1,t.2,i)) (UR (pO s e u)) (fun i t=>t.1.length≤i) (fun t=>(t.1,t.2,(xs.length:Int))) ([],5) (by simp) (by omega) (fun t i x hI hi=>⟨?_,?_⟩) (fun t hI=>?_)).1
 ·unfold qC
  rw [this,Option.bind_some]
  have hr:=Lc (UR (pO s e u)) (Ld (pO s e u)) (fun (a b:List Int×Int)=>a.1=b.1∧(a.1.length=0→a.2=5)∧(a.1.length≠0→a.2=b.2)) xs 0 ([],5) ([],0) ⟨rfl,fun _=>rfl,fun h=>absurd rfl h⟩ (fun a b i x hm hab=>?_)
  ·unfold Qu
   rw [← hop]
   simp only
   rw [hr.1]
  ·have hok:=(hx.2 x hm).2.2.2.2.2.2.1.2.2.2.2.2.2.1.1
   exact UQ (pO s e u x) x.1 x.2.2.2.1 (fun hp=>Rv s x e h1 h2 hok (by unfold pO at hp;simp at hp;exact hp.2)) a b hab
 ·have hlt:=(List.getElem?_eq_some_iff.1 hi).1
  have hil:((i:Int) < (xs.length:Int)):=by omega
  have hok:=(hx.2 x (List.mem_of_getElem? hi)).2.2.2.2.2.2.1.2.2.2.2.2.2.1.1
  unfold kj UR Et pO
  simp only [hil,decide_true,cond_true,ay hi,zC u _ hu,Cm,OO s x e h1 h2 hok,Option.bind_some]
  have r1:∀ (l:List Int),l.length≤i→(l.length + [x.1].length) * (24 * 1)≤aC:=fun l h=>by simp only [aC,List.length_cons,List.length_nil];omega
  by_cases hm:x.1∈u
  ·simp only [hm,decide_true,cond_true,Option.bind_some,Bool.not_true,Bool.false_and,Bool.false_eq_true,if_false]
  ·cases hf:Es s e x
   ·simp only [hm,decide_false,cond_true,cond_false,Option.bind_some,Bool.not_false,Bool.and_false,Bool.false_eq_true,if_false]
   ·simp only [hm,decide_false,cond_false,Option.bind_some,Bool.not_false,Bool.not_true,Bool.and_self,if_true]
    by_cases h3:x.2.2.2.1 > t.2
    ·simp only [h3,decide_true,cond_true,Option.bind_some,if_true]
    ·simp only [h3,decide_false,cond_false,Option.bind_some,if_false]
     by_cases h4:x.2.2.2.1 < t.2
     ·simp only [h4,decide_true,cond_true,Option.bind_some,if_true]
      rw [if_pos (r1 _ (by simp))]
      rfl
     ·simp only [h4,decide_false,cond_false,Option.bind_some,if_false]
      rw [if_pos (r1 _ hI)]
      rfl
 ·unfold UR Et
  split
  ·split
   ·omega
   ·split
    ·simp
    ·simp only [List.length_append,List.length_cons,List.length_nil];omega
  ·omega
 ·unfold kj
  simp
theorem Uf (s:ae.D) (xs:List aa.D) (e:ac.D) (u:List Int):∀ a∈Qu s xs e u,a∈xs.map (fun (x:aa.D)=>x.1)∧a ∉ u:=by
 unfold Qu
 refine Gu (Ld (pO s e u)) (fun t=>∀ a∈t.1,a∈xs.map (fun (x:aa.D)=>x.1)∧a ∉ u) xs 0 ([],0) (fun a h=>by cases h) (fun t i x hm ht=>?_)
 unfold Ld Gv
 split
 ·rename_i hp
  have hx:x.1∈xs.map (fun (x:aa.D)=>x.1)∧x.1 ∉ u:=⟨List.mem_map.2 ⟨x,hm,rfl⟩,by unfold pO at hp;simp at hp;exact hp.1⟩
  split
  ·intro a ha
   simp only [List.mem_singleton] at ha
   subst ha;exact hx
  ·split
   ·intro a ha
    rcases List.mem_append.1 ha with h | h
    ·exact ht a h
    ·simp only [List.mem_singleton] at h
     subst h;exact hx
   ·exact ht
 ·exact ht
theorem Ug (s:ae.D) (xs:List aa.D) (e:ac.D) (u:List Int) (h1:s.1.length≤33554432) (h2:s.2.1.length≤33554432) (hx:okD (.slice aa) xs):(Qu s xs e u).length≤xs.length:=by
 have:∀ (l:List aa.D) (i:Nat) (t:List Int×Int),(dI (Ld (pO s e u)) i l t).1.length≤t.1.length + l.length:=by
  intro l
  induction l with
  | nil=>intro i t;simp [dI]
  | cons x l ih =>
   intro i t
   unfold dI
   have:=ih (i + 1) (Ld (pO s e u) t i x)
   have h2:(Ld (pO s e u) t i x).1.length≤t.1.length + 1:=by
    unfold Ld Gv
    split
    ·split
     ·simp
     ·split
      ·simp
      ·omega
    ·omega
   simp only [List.length_cons]
   omega
 have:=this xs 0 ([],0)
 unfold Qu
 simpa using this
def zG (xs:List aa.D) (a:Int):Int:=match bD (fun (x:aa.D)=>x.1 == a) xs with | some k=>(k:Int) | none=>-1
theorem Eu (xs:List aa.D) (hl:xs.length≤33554432) (p:aa.D→Bool) (q:(aa.D×Unit)→Option Bool) (hq:∀ x∈xs,q (x,())=some (p x)) :
  bw xs q=some (match bD p xs with | some k=>(k:Int) | none=>-1):=by
 unfold bw
 rw [dH xs (body:=b7 xs q) p (fun i=>i) (by omega) (fun i x hx=>?_) ?_]
 ·cases bD p xs <;> rfl
 ·unfold b7
  simp
 ·unfold b7
  have hlt:=(List.getElem?_eq_some_iff.1 hx).1
  have:((i:Int) < (xs.length:Int)):=by omega
  simp only [this,decide_true,cond_true,ay hx,hq x (List.mem_of_getElem? hx),Option.bind_some]
theorem jq (xs:List aa.D) (a:Int) (hl:xs.length≤33554432):fL xs a=some (zG xs a):=by
 unfold fL zG
 rw [Eu xs hl (fun (x:aa.D)=>x.1 == a) _ (fun x _=>rfl)]
 rfl
theorem jr (xs:List aa.D) (a:Int) (hl:xs.length≤33554432):fK xs a=some (zG xs a):=by
 unfold fK zG
 rw [dH xs (body:=i8 xs a) (fun (x:aa.D)=>x.1 == a) (fun i=>i) (by omega) (fun i x hx=>?_) ?_]
 ·cases bD (fun (x:aa.D)=>x.1 == a) xs <;> rfl
 ·unfold i8
  simp
 ·unfold i8
  have hlt:=(List.getElem?_eq_some_iff.1 hx).1
  have:((i:Int) < (xs.length:Int)):=by omega
  simp only [this,decide_true,cond_true,ay hx]
theorem Ni (xs:List aa.D) (a:Int) (h:a∈xs.map (fun (x:aa.D)=>x.1)):∃ (k:Nat) (x:aa.D),zG xs a=k∧xs[k]?=some x∧x.1=a:=by
 unfold zG
 obtain ⟨h1,h2⟩:=eh (fun (x:aa.D)=>x.1 == a) xs
 cases hf:bD (fun (x:aa.D)=>x.1 == a) xs with
 | none =>
  obtain ⟨x,hx,rfl⟩:=List.mem_map.1 h
  have:=h1 hf x hx
  simp at this
 | some k =>
  obtain ⟨x,g1,g2,_⟩:=h2 k hf
  exact ⟨k,x,rfl,g1,by simpa using g2⟩
theorem Qv (y:aa.D) (h:y.2.2.2.2.2.2.1.2.2.2.2.2.2.1.length≤33554432):okD aa y :=
 ⟨trivial,trivial,trivial,trivial,fG _ rfl _,fG _ rfl _,⟨trivial,trivial,trivial,trivial,trivial,trivial,⟨h,fun x _=>fG _ rfl x⟩,trivial⟩,trivial,trivial,trivial⟩
theorem SM (xs:List aa.D) (y x:aa.D) (k:Nat) (hx:okD (.slice aa) xs) (hy:y.2.2.2.2.2.2.1.2.2.2.2.2.2.1.length≤33554432) (h1:zG xs y.1=k) (h2:xs[k]?=some x) (h3:x.1=y.1) :
  tx xs y=some (xs.set k y)∧tG xs y=some (xs.set k y)∧okD (.slice aa) (xs.set k y)∧(xs.set k y).map (fun (x:aa.D)=>x.1)=xs.map (fun (x:aa.D)=>x.1):=by
 have hl:xs.length≤33554432:=hx.1
 refine ⟨?_,?_,⟨by rw [List.length_set];exact hl,fun z hz=>?_⟩,?_⟩
 ·unfold tx
  rw [cj xs hx,Option.bind_some,jr xs _ hl,Option.bind_some,h1,decide_eq_true (by omega)]
  simp only [cond_true,eQ y hy,Option.bind_some,ay h2,Int.toNat_natCast,h2]
 ·unfold tG
  rw [dA xs hx,Option.bind_some,jq xs _ hl,Option.bind_some,h1,decide_eq_true (by omega)]
  simp only [cond_true,gN y hy,Option.bind_some,ay h2,Int.toNat_natCast,h2]
 ·rcases List.mem_or_eq_of_mem_set hz with h | rfl
  ·exact hx.2 z h
  ·exact Qv _ hy
 ·rw [List.map_set]
  refine List.ext_getElem? fun i=>?_
  rw [List.getElem?_set]
  split
  ·rename_i he
   subst he
   have hk:=(List.getElem?_eq_some_iff.1 h2).1
   rw [if_pos (by rw [List.length_map];exact hk),List.getElem?_map,h2,← h3]
   rfl
  ·rfl
theorem OP {l:List Int} (h:l.Nodup) {k:Nat} {x:Int} (hx:l[k]?=some x):x ∉ l.take k∧(l.take k++[x])=l.take (k + 1):=by
 have hk:=(List.getElem?_eq_some_iff.1 hx).1
 have he:=(List.getElem?_eq_some_iff.1 hx).2
 have h2:l.take (k + 1)=l.take k++[x]:=by rw [← he,List.take_succ_eq_append_getElem hk]
 refine ⟨fun hm=>?_,h2.symm⟩
 have hn:(l.take k++[x]).Nodup:=by rw [← h2];exact List.Sublist.nodup (List.take_sublist _ _) h
 rw [List.nodup_append] at hn
 exact hn.2.2 x hm x (by simp) rfl
theorem MG (l:List Int) (hl:l.length≤1000) (hn:l.Nodup):∃ r,vZ l=some r∧r.Perm l:=by
 obtain ⟨q,h1,h2⟩:=re (body:=t5 l) (fun s=>l.length - s.2.toNat) (fun s=>∃ k:Nat,s.2=k∧k≤l.length∧s.1.Perm (l.take k)) (fun s=>s.1.Perm l) (by
  rintro ⟨out,i⟩ ⟨k,rfl,hk,hp⟩
  simp only at hp ⊢
  have hol:out.length≤1000:=by rw [hp.length_eq,List.length_take];omega
  unfold t5
  by_cases hlt:((k:Int) < (l.length:Int))
  ·have hkl:k < l.length:=by omega
   obtain ⟨x,hx⟩:∃ x,l[k]?=some x:=⟨_,List.getElem?_eq_getElem hkl⟩
   obtain ⟨n1,n2⟩:=OP hn hx
   have hno:x ∉ out:=fun h=>n1 (hp.mem_iff.1 h)
   obtain ⟨o,w1,w2⟩:=re (body:=tZ l (out,(k:Int))) (fun s=>s.toNat) (fun s=>0≤s∧s≤out.length) (fun s=>0≤s∧s≤out.length) (by
    rintro j ⟨j0,j1⟩
    unfold tZ
    by_cases hj:j > 0
    ·obtain ⟨m,rfl⟩:∃ m:Nat,j=(m:Int) + 1:=⟨(j - 1).toNat,by omega⟩
     have hm:m < out.length:=by omega
     obtain ⟨y,hy⟩:∃ y,out[m]?=some y:=⟨_,List.getElem?_eq_getElem hm⟩
     have hw:IntKind.wrap .i64 ((m:Int) + 1 - 1)=(m:Int):=by rw [aB (by omega) (by omega)];omega
     simp only [hj,decide_true,cond_true,hw,ay hy,Int.toNat_natCast,hy,Option.bind_some,ay hx]
     by_cases hyx:y > x
     ·left
      simp only [hyx,decide_true,cond_true]
      exact ⟨_,rfl,⟨by omega,by omega⟩,by omega⟩
     ·right
      simp only [hyx,decide_false,cond_false]
      exact ⟨_,rfl,j0,j1⟩
    ·right
     simp only [hj,decide_false,cond_false,Option.bind_some]
     exact ⟨_,rfl,j0,j1⟩) (out.length:Int) ⟨by omega,by omega⟩
   obtain ⟨m,rfl⟩:=Int.eq_ofNat_of_zero_le w2.1
   have hm:m≤out.length:=by omega
   left
   have hh:out.any (fun y=>y == x)=false:=by rw [Cm,decide_eq_false hno]
   simp only [hlt,decide_true,cond_true,ay hx,zC out x (by omega),hh,Option.bind_some,cond_false,w1,Int.le_refl,if_true,w2.1,w2.2]
   rw [if_pos (by simp only [aC,List.length_append,List.length_take,List.length_drop,List.length_nil];omega),if_pos (by simp only [aC,List.length_append,List.length_take,List.length_drop,List.length_nil,List.length_cons];omega),if_pos (by simp only [aC,List.length_append,List.length_take,List.length_drop,List.length_nil,List.length_cons];omega)]
   refine ⟨_,rfl,⟨k + 1,by simp only;rw [aB (by omega) (by omega)];omega,by omega,?_⟩,?_⟩
   ·simp only [Int.toNat_natCast,List.nil_append]
    have e1:(List.drop (0:Int).toNat (List.take m out))=out.take m:=rfl
    have e2:List.take out.length out=out:=List.take_length
    rw [e1,e2]
    refine (Qr out m x).trans ?_
    rw [← n2]
    exact List.Perm.append_right _ hp
   ·simp only
    rw [aB (by omega) (by omega)]
    omega
  ·right
   simp only [hlt,decide_false,cond_false]
   have:k=l.length:=by omega
   subst this
   rw [List.take_length] at hp
   exact ⟨_,rfl,hp⟩) ([],0) ⟨0,rfl,Nat.zero_le _,by simp⟩
 unfold vZ
 rw [h1]
 exact ⟨_,rfl,h2⟩
theorem OQ (u:List Int) (a:Int) (hl:u.length≤900) (hn:(u++[a]).Nodup):∃ r,zX u a=some r∧r.Perm (u++[a]):=by
 obtain ⟨r,h1,h2⟩:=MG (u++[a]) (by simp;omega) hn
 unfold zX
 rw [if_pos (by simp only [aC,List.length_nil];omega),if_pos (by simp only [aC,List.nil_append,List.length_cons,List.length_nil];omega),List.nil_append,h1]
 exact ⟨r,rfl,h2⟩
def Vs (tb tb':List aa.D) (cs cs':List Int) (lf lf':List ac.D) (tn tn':List ar.D) (q:Nat):Prop :=
 okD (.slice aa) tb'∧tb'.map (fun (x:aa.D)=>x.1)=tb.map (fun (x:aa.D)=>x.1)∧cs'.length≤cs.length∧lf'.length≤lf.length + q∧tn'.length≤tn.length + q∧(∀ t∈tn',okD ar t)∧((∀ x∈tb,aR x=true)→∀ x∈tb',aR x=true)
theorem Vo (y:ar.D) (h:y.2.2.2.2.2.1.length≤33554432):okD ar y :=
 ⟨trivial,trivial,trivial,trivial,fG _ rfl _,⟨h,fun x _=>fG _ rfl x⟩,trivial,trivial,trivial⟩
def R6 (n:Nat):Prop:=∀ (s:ae.D) (tb:List aa.D) (cs:List Int) (lf:List ac.D) (tn:List ar.D) (e:ac.D) (uS uI:List Int),
 s.1.length≤33554432→s.2.1.length≤33554432→okD (.slice aa) tb→cs.length≤33554432→uS.Perm uI→uS.Nodup→(∀ a∈uS,a∈tb.map (fun (x:aa.D)=>x.1))→tb.length≤5→tb.length < n + uS.length →
 lf.length + 4 ^ n≤33554432→tn.length + 4 ^ n≤33554432→(∀ t∈tn,okD ar t) →
 ∃ tb' cs' lf' tn',iN n (s,tb,cs,lf,tn,()) e uS=some ((),(s,tb',cs',lf',tn',()))∧cE n (s,(lf,tb,cs,tn,()),()) e uI=some (true,(s,(lf',tb',cs',tn',()),()))∧Vs tb tb' cs cs' lf lf' tn tn' (4 ^ n)
theorem R7 (n:Nat) (IH:R6 n) (s:ae.D) (L:List ac.D) (m1:Int) (y1:aa.D) (m2:Int) (y2:aa.D) (wS v:List Int) (a:Int) (h1:s.1.length≤33554432) (h2:s.2.1.length≤33554432) (hw:wS.Perm (v++[a])) (hn:wS.Nodup) (hL:L.length≤3) :
  ∀ (m k:Nat) (tb:List aa.D) (cs:List Int) (lf:List ac.D) (tn:List ar.D),k + m=L.length→okD (.slice aa) tb→cs.length≤33554432→(∀ a∈wS,a∈tb.map (fun (x:aa.D)=>x.1))→tb.length≤5→tb.length < n + wS.length →
  lf.length + m * 4 ^ n≤33554432→tn.length + m * 4 ^ n≤33554432→(∀ t∈tn,okD ar t) →
  ∃ tb' cs' lf' tn',al (oK (iN n) (L,m1,y1,()) wS) ((k:Int),s,tb,cs,lf,tn,())=some ((L.length:Int),s,tb',cs',lf',tn',()) ∧
   al (fu (cE n) a (L,m2,y2,()) v) ((k:Int),s,(lf,tb,cs,tn,()),())=some (.inl ((L.length:Int),s,(lf',tb',cs',tn',()),()))∧Vs tb tb' cs cs' lf lf' tn tn' (m * 4 ^ n)
 | 0,k,tb,cs,lf,tn,hk,h3,h4,h5,h6,h7,h8,h9,h10=>by
  have:k=L.length:=by omega
  subst this
  refine ⟨tb,cs,lf,tn,aI ?_,aI ?_,h3,rfl,Nat.le_refl _,by omega,by omega,h10,id⟩
  ·unfold oK
   simp only [Int.lt_irrefl,decide_false,cond_false]
  ·unfold fu
   simp only [Int.lt_irrefl,decide_false,cond_false]
 | m + 1,k,tb,cs,lf,tn,hk,h3,h4,h5,h6,h7,h8,h9,h10=>by
  rw [Nat.succ_mul] at h8 h9
  obtain ⟨x,hx⟩:∃ x,L[k]?=some x:=⟨_,List.getElem?_eq_getElem (by omega)⟩
  have hil:((k:Int) < (L.length:Int)):=by omega
  obtain ⟨tb1,cs1,lf1,tn1,e1,e2,k1,k2,k3,k4,k5,k6,k7⟩:=IH s tb cs lf tn x wS (v++[a]) h1 h2 h3 h4 hw hn h5 h6 h7 (by omega) (by omega) h10
  have hlen:tb1.length=tb.length:=by have:=congrArg List.length k2;simpa using this
  obtain ⟨tb2,cs2,lf2,tn2,w1,w2,g1,g2,g3,g4,g5,g6,g7⟩:=R7 n IH s L m1 y1 m2 y2 wS v a h1 h2 hw hn hL m (k + 1) tb1 cs1 lf1 tn1 (by omega) k1 (by omega) (by rw [k2];exact h5) (by omega) (by omega) (by omega) (by omega) k6
  have hwr:IntKind.wrap .i64 ((k:Int) + 1)=((k + 1:Nat):Int):=by rw [aB (by omega) (by omega)];rfl
  refine ⟨tb2,cs2,lf2,tn2,aF ?_ w1,aF ?_ w2,g1,by rw [g2,k2],by omega,by rw [Nat.succ_mul];omega,by rw [Nat.succ_mul];omega,g6,fun h=>g7 (k7 h)⟩
  ·unfold oK
   simp only [hil,decide_true,cond_true,ay hx,Int.toNat_natCast,hx,Option.bind_some,e1,hwr]
  ·unfold fu
   simp only [hil,decide_true,cond_true,ay hx,Int.toNat_natCast,hx,Option.bind_some,e2,hwr,Bool.not_true,cond_false]
theorem Qw:∀ n,R6 n
 | 0,s,tb,cs,lf,tn,e,uS,uI,_,_,_,_,_,hn,hs,_,h7,_,_,_=>by
  have:=ug uS _ hn hs
  rw [List.length_map] at this
  omega
 | n + 1,s,tb,cs,lf,tn,e,uS,uI,h1,h2,h3,h4,hp,hn,hs,h6,h7,h8,h9,h10=>by
  have hq:1≤4 ^ n:=Nat.one_le_iff_ne_zero.2 (by exact Nat.pos_iff_ne_zero.1 (Nat.pow_pos (by omega)))
  rw [Nat.pow_succ] at h8 h9
  have hul:=ug uS _ hn hs
  rw [List.length_map] at hul
  have hui:=hp.length_eq
  have hl:tb.length≤33554432:=h3.1
  have o1:=HY s tb e uS uI h1 h2 h3 (by omega) (fun a=>hp.mem_iff)
  have o2:=HX s tb e uI h1 h2 h3 (by omega)
  have o3:=Uf s tb e uI
  have o4:=Ug s tb e uI h1 h2 h3
  show ∃ tb' cs' lf' tn',kl (iN n) (s,tb,cs,lf,tn,()) e uS=_∧eD (cE n) (s,(lf,tb,cs,tn,()),()) e uI=_∧_
  unfold kl eD
  simp only [o1,o2,Option.bind_some]
  generalize Qu s tb e uI=os at o3 o4
  by_cases h0:os.length=0
  ·have:((os.length:Int) == 0)=true:=by rw [h0];rfl
   simp only [this,cond_true,Eo,Em,Option.bind_some]
   cases El e
   ·simp only [Bool.not_false,cond_true]
    rw [if_pos (by simp only [aC,List.length_cons,List.length_nil];omega),if_pos (by simp only [aC,List.length_cons,List.length_nil];omega)]
    refine ⟨tb,cs,lf++[e],tn,rfl,rfl,h3,rfl,Nat.le_refl _,?_,?_,h10,id⟩
    ·rw [Nat.pow_succ,List.length_append,List.length_cons,List.length_nil];omega
    ·omega
   ·simp only [Bool.not_true,cond_false]
    exact ⟨tb,cs,lf,tn,rfl,rfl,h3,rfl,Nat.le_refl _,by omega,by omega,h10,id⟩
  ·have:((os.length:Int) == 0)=false:=by rw [beq_eq_false_iff_ne];omega
   obtain ⟨p1,p2⟩:=Ep cs (n:=(os.length:Int)) (by omega)
   have p3:=(rb cs (os.length:Int)).length_le
   obtain ⟨k,hk⟩:=Int.eq_ofNat_of_zero_le p1
   have hko:k < os.length:=by omega
   obtain ⟨a,ha⟩:∃ a,os[k]?=some a:=⟨_,List.getElem?_eq_getElem hko⟩
   obtain ⟨ha1,ha2⟩:=o3 a (List.mem_of_getElem? ha)
   obtain ⟨j,x,f1,f2,f3⟩:=Ni tb a ha1
   have hok:=(h3.2 x (List.mem_of_getElem? f2)).2.2.2.2.2.2.1.2.2.2.2.2.2.1.1
   obtain ⟨L,sn,y,d1,d2,⟨d3,d4,d5,d6⟩,_⟩:=Ud x e hok
   obtain ⟨u1,u2,u3,u4⟩:=SM tb y x j h3 d3 (by rw [d5,f3];exact f1) f2 d5.symm
   obtain ⟨ch,c1,c2⟩:=Rt s e h1
   have hnu:(uS++[a]).Nodup:=by
    rw [List.nodup_append]
    refine ⟨hn,by simp,fun b hb c hc=>?_⟩
    simp only [List.mem_singleton] at hc
    subst hc
    intro he;subst he
    exact ha2 (hp.mem_iff.1 hb)
   obtain ⟨wS,w1,w2⟩:=OQ uS a (by omega) hnu
   have hsub:∀ b∈wS,b∈tb.map (fun (x:aa.D)=>x.1):=fun b hb=>by
    rcases List.mem_append.1 (w2.mem_iff.1 hb) with h | h
    ·exact hs b h
    ·simp only [List.mem_singleton] at h;subst h;exact ha1
   have hwl:wS.length=uS.length + 1:=by rw [w2.length_eq,List.length_append];rfl
   have hut:(tb.set j y).length=tb.length:=List.length_set ..
   have tl:∀ t∈tn++[((x.1,ch,(k:Int),(os.length:Int),e,L,sn,(uS.length:Int),()):ar.D)],okD ar t:=fun t ht=>by
    rcases List.mem_append.1 ht with h | h
    ·exact h10 t h
    ·simp only [List.mem_singleton] at h
     subst h
     exact Vo _ (by show L.length≤33554432;omega)
   have hmq:L.length * 4 ^ n≤3 * 4 ^ n:=Nat.mul_le_mul_right _ d4
   obtain ⟨tb',cs',lf',tn',g1,g2,g3,g4,g5,g6,g7,g8,g9⟩:=R7 n (Qw n) s L sn y sn y wS uI a h1 h2 (w2.trans (List.Perm.append_right _ hp)) (w2.nodup_iff.2 hnu) d4 L.length 0 (tb.set j y) (lB cs (os.length:Int)) lf (tn++[(x.1,ch,(k:Int),(os.length:Int),e,L,sn,(uS.length:Int),())]) (by omega) u3 (by omega) (by rw [u4];exact hsub) (by omega) (by omega) (by omega) (by simp only [List.length_append,List.length_cons,List.length_nil];omega) tl
   refine ⟨tb',cs',lf',tn',?_,?_,g3,by rw [g4,u4],by omega,by rw [Nat.pow_succ];omega,by rw [Nat.pow_succ];simp only [List.length_append,List.length_cons,List.length_nil] at g7;omega,g8,fun h=>g9 fun z hz=>?_⟩
   rotate_right
   ·rcases List.mem_or_eq_of_mem_set hz with hz | rfl
    ·exact h z hz
    ·exact d6 (h x (List.mem_of_getElem? f2))
   ·simp only [this,cond_false,Er cs (os.length:Int) (by omega) (by omega),Option.bind_some,hk,ay ha,Int.toNat_natCast,ha,jr tb a hl,f1,ay f2,d2,u1,c1]
    rw [if_pos (by simp only [aC,List.length_nil];omega),if_pos (by simp only [aC,List.length_cons,List.length_nil];omega),f3,w1,Option.bind_some]
    rw [f3] at g1
    simp only [List.nil_append]
    rw [show ((0:Int))=((0:Nat):Int) from rfl,g1]
    rfl
   ·have hc:bl uI=some uI:=eG uI (by omega)
    simp only [this,cond_false,rW,rZ,Eq cs (os.length:Int) (by omega) (by omega),Option.bind_some,hk,ay ha,Int.toNat_natCast,ha,jq tb a hl,f1,ay f2,d1,u2,c2,Bool.not_true,hc]
    rw [if_pos (by simp only [aC,List.length_cons,List.length_nil];omega),if_pos (by simp only [aC,List.length_cons,List.length_nil];omega)]
    rw [f3,hui] at g2
    rw [show ((0:Int))=((0:Nat):Int) from rfl,g2]
    rfl
theorem Rw (s:ae.D) (tb:List aa.D) (e:ac.D) (cs:List Int) (h1:s.1.length≤33554432) (h2:s.2.1.length≤33554432) (h3:okD (.slice aa) tb) (h4:cs.length≤33554432) :
  ∃ r:ba.D,me s tb e cs=some r∧jg s tb e cs=some r∧okD ba r∧r.1.length≤65536∧r.2.2.1.length≤cs.length∧r.2.2.2.1.length≤65536∧r.2.1.map (fun (x:aa.D)=>x.1)=tb.map (fun (x:aa.D)=>x.1)∧((∀ x∈tb,aR x=true)→∀ x∈r.2.1,aR x=true):=by
 have hl:tb.length≤33554432:=h3.1
 have triv:okD ba ([],tb,cs,[],()):=⟨⟨by simp,fun x hx=>by cases hx⟩,h3,⟨h4,fun x _=>fG _ rfl x⟩,⟨by simp,fun x hx=>by cases hx⟩,trivial⟩
 obtain ⟨b3,hb3⟩:∃ b3,b3=(!zy (eY tb) 0 tb && decide ((tb.length:Int)≤5)):=⟨_,rfl⟩
 have g1:=kK tb h3
 have g2:=gS tb h3
 rw [← hb3] at g1 g2
 unfold me jg
 simp only [cj tb h3,dA tb h3,eG cs h4,dz s h1 h2,cQ s h1 h2,g1,g2,bB,bR,Option.bind_some,List.nil_append]
 rw [if_pos (by simp only [aC,List.length_nil];omega)]
 cases bk s
 ·exact ⟨_,rfl,rfl,triv,Nat.zero_le _,Nat.le_refl _,Nat.zero_le _,rfl,id⟩
 cases b3
 ·cases aO e <;> exact ⟨_,rfl,rfl,triv,Nat.zero_le _,Nat.le_refl _,Nat.zero_le _,rfl,id⟩
 cases aO e
 ·exact ⟨_,rfl,rfl,triv,Nat.zero_le _,Nat.le_refl _,Nat.zero_le _,rfl,id⟩
 have h5:tb.length≤5:=by
  have:=hb3.symm
  rw [Bool.and_eq_true] at this
  have:=of_decide_eq_true this.2
  omega
 obtain ⟨tb',cs',lf',tn',e1,e2,k1,k2,k3,k4,k5,k6,k7⟩:=Qw 8 s tb cs [] [] e [] [] h1 h2 h3 h4 (List.Perm.refl _) List.nodup_nil (fun a h=>by cases h) h5 (by simp;omega) (by simp) (by simp) (fun t h=>by cases h)
 simp only [List.length_nil,Nat.zero_add] at k4 k5
 have q:4 ^ 8=65536:=by decide
 rw [q] at k4 k5
 have q1:lf'.length≤33554432:=by omega
 have q2:cs'.length≤33554432:=by omega
 have q3:tn'.length≤33554432:=by omega
 have ok:okD ba (lf',tb',cs',tn',()):=⟨⟨q1,fun x _=>fG _ rfl x⟩,k1,⟨q2,fun x _=>fG _ rfl x⟩,⟨q3,k6⟩,trivial⟩
 simp only [e1,e2,cond_true,cond_false,Bool.not_true,Option.bind_some]
 rw [qg tn' ⟨by omega,k6⟩]
 exact ⟨_,rfl,rfl,ok,by simp only;omega,by simp only;omega,by simp only;omega,k2,k7⟩
def Le (a b:ba.D):ba.D:=(a.1++b.1,b.2.1,b.2.2.1,a.2.2.2.1++b.2.2.2.1,())
theorem US (f0 f1:ba.D) (ok0:okD ba f0) (ok1:okD ba f1) (s1:f0.1.length + f1.1.length≤33554432) (s2:f0.2.2.2.1.length + f1.2.2.2.1.length≤33554432) :
  uJ f0 f1=some (Le f0 f1)∧uV f0 f1=some (Le f0 f1)∧okD ba (Le f0 f1):=by
 have okt:okD (.slice ar) (f0.2.2.2.1++f1.2.2.2.1):=⟨by rw [List.length_append];exact s2,fun x hx=>by
  rcases List.mem_append.1 hx with h | h
  ·exact ok0.2.2.2.1.2 x h
  ·exact ok1.2.2.2.1.2 x h⟩
 have l3:f1.2.2.1.length≤33554432:=ok1.2.2.1.1
 refine ⟨?_,?_,⟨by show (f0.1++f1.1).length≤_;rw [List.length_append];exact s1,fun x hx=>?_⟩,ok1.2.1,ok1.2.2.1,okt,trivial⟩
 ·unfold uJ Le
  rw [sE f0 ok0,Option.bind_some,sE f1 ok1,Option.bind_some,if_pos (by simp only [aC];omega),if_pos (by simp only [aC];omega)]
 ·unfold uV bl Le
  rw [OK _ _ s1,Option.bind_some,dA _ ok1.2.1,Option.bind_some,if_pos (by simp only [aC,List.length_nil];omega),Option.bind_some,Qq _ _ s2,Option.bind_some,qg _ okt,Option.bind_some]
  rfl
 ·rcases List.mem_append.1 hx with h | h
  ·exact ok0.1.2 x h
  ·exact ok1.1.2 x h
noncomputable def wB (es:List ac.D):Bool:=decide ((es.length:Int)≤4) && !es.any (fun e=>!aO e)
theorem xe (es:List ac.D) (hl:es.length≤33554432):mC es=some (wB es):=by
 have hC:aM es (fun q=>mB q.1)=some (es.any (fun e=>!aO e)):=m7 es hl (fun e=>!aO e) _ (fun x=>by simp only [mB,bR,Option.bind_some])
 unfold mC wB
 rw [hC]
 cases decide ((es.length:Int)≤4) <;> rfl
theorem xf (es:List ac.D) (hl:es.length≤33554432):md es=some (wB es):=by
 unfold md wB
 rw [mZ es (body:=kc es) (fun _ e=>!aO e) false (by omega) (fun i x hx=>?_) (by unfold kc;simp),z6]
 ·cases es.any (fun e=>!aO e) <;> simp
 ·have hlt:=(List.getElem?_eq_some_iff.1 hx).1
  have hil:((i:Int) < (es.length:Int)):=by omega
  unfold kc
  simp only [hil,decide_true,cond_true,ay hx,bB,Option.bind_some]
noncomputable def HZ (s:ae.D) (f:ba.D) (e:ac.D):ba.D:=Le f ((jg s f.2.1 e f.2.2.1).getD ([],[],[],[],()))
noncomputable def nf (s:ae.D):List ac.D→ba.D→ba.D
 | [],f=>f
 | e :: es,f=>nf s es (HZ s f e)
theorem UT (s:ae.D) (f:ba.D) (e:ac.D) (h1:s.1.length≤33554432) (h2:s.2.1.length≤33554432) (hf:okD ba f) (s1:f.1.length + 65536≤33554432) (s2:f.2.2.2.1.length + 65536≤33554432) :
  okD ba (HZ s f e)∧(HZ s f e).1.length≤f.1.length + 65536∧(HZ s f e).2.2.2.1.length≤f.2.2.2.1.length + 65536∧(HZ s f e).2.2.1.length≤f.2.2.1.length∧(HZ s f e).2.1.map (fun (x:aa.D)=>x.1)=f.2.1.map (fun (x:aa.D)=>x.1)∧((∀ x∈f.2.1,aR x=true)→∀ x∈(HZ s f e).2.1,aR x=true)∧∃ r,me s f.2.1 e f.2.2.1=some r∧jg s f.2.1 e f.2.2.1=some r∧uJ f r=some (HZ s f e)∧uV f r=some (HZ s f e):=by
 obtain ⟨r,e1,e2,ok,q1,q2,q3,q4,q5⟩:=Rw s f.2.1 e f.2.2.1 h1 h2 hf.2.1 hf.2.2.1.1
 obtain ⟨j1,j2,j3⟩:=US f r hf ok (by omega) (by omega)
 have hv:HZ s f e=Le f r:=by unfold HZ;rw [e2];rfl
 rw [hv]
 refine ⟨j3,?_,?_,q2,q4,q5,r,e1,e2,j1,j2⟩
 ·show (f.1++r.1).length≤_
  rw [List.length_append];omega
 ·show (f.2.2.2.1++r.2.2.2.1).length≤_
  rw [List.length_append];omega
theorem Qx (s:ae.D) (es:List ac.D) (h1:s.1.length≤33554432) (h2:s.2.1.length≤33554432) (hl:es.length≤4) (Q:Nat) (hQ:Q=65536):∀ (m k:Nat) (f:ba.D),k + m=es.length→okD ba f→f.1.length + m * Q≤33554432→f.2.2.2.1.length + m * Q≤33554432 →
  al (gz s es) ((k:Int),f)=some ((es.length:Int),nf s (es.drop k) f)∧al (gE s es) ((k:Int),f)=some ((es.length:Int),nf s (es.drop k) f)∧okD ba (nf s (es.drop k) f)∧(nf s (es.drop k) f).1.length≤f.1.length + m * Q∧(nf s (es.drop k) f).2.2.2.1.length≤f.2.2.2.1.length + m * Q∧(nf s (es.drop k) f).2.2.1.length≤f.2.2.1.length∧(nf s (es.drop k) f).2.1.map (fun (x:aa.D)=>x.1)=f.2.1.map (fun (x:aa.D)=>x.1)∧((∀ x∈f.2.1,aR x=true)→∀ x∈(nf s (es.drop k) f).2.1,aR x=true)
 | 0,k,f,hk,h3,h4,h5=>by
  have:k=es.length:=by omega
  subst this
  rw [List.drop_length]
  refine ⟨aI ?_,aI ?_,h3,Nat.le_add_right _ _,Nat.le_add_right _ _,Nat.le_refl _,rfl,id⟩
  ·unfold gz
   simp only [Int.lt_irrefl,decide_false,cond_false,nf]
  ·unfold gE
   simp only [Int.lt_irrefl,decide_false,cond_false,nf]
 | m + 1,k,f,hk,h3,h4,h5=>by
  obtain ⟨q,hq⟩:∃ q:Nat,q=m * Q:=⟨_,rfl⟩
  have hq1:(m + 1) * Q=q + Q:=by rw [Nat.succ_mul,hq]
  rw [hq1] at h4 h5
  have hkl:k < es.length:=by omega
  obtain ⟨x,hx⟩:∃ x,es[k]?=some x:=⟨_,List.getElem?_eq_getElem hkl⟩
  have hd:es.drop k=x :: es.drop (k + 1):=by
   rw [List.drop_eq_getElem_cons hkl]
   rw [List.getElem?_eq_getElem hkl] at hx
   rw [Option.some.inj hx]
  have hil:((k:Int) < (es.length:Int)):=by omega
  obtain ⟨a1,a2,a3,a4,a5,a6,r,b1,b2,b3,b4⟩:=UT s f x h1 h2 h3 (by omega) (by omega)
  obtain ⟨c1,c2,c3,c4,c5,c6,c7,c8⟩:=Qx s es h1 h2 hl Q hQ m (k + 1) (HZ s f x) (by omega) a1 (by rw [← hq];omega) (by rw [← hq];omega)
  rw [← hq] at c4 c5
  have hwr:IntKind.wrap .i64 ((k:Int) + 1)=((k + 1:Nat):Int):=by rw [aB (by omega) (by omega)];rfl
  rw [hd]
  simp only [nf]
  refine ⟨aF ?_ c1,aF ?_ c2,c3,by rw [hq1];omega,by rw [hq1];omega,by omega,by rw [c7,a5],fun h=>c8 (a6 h)⟩
  ·unfold gz
   simp only [hil,decide_true,cond_true,ay hx,b1,b3,hwr,Option.bind_some]
  ·unfold gE
   simp only [hil,decide_true,cond_true,ay hx,b2,b4,hwr,Option.bind_some]
noncomputable def Lf (tb:List aa.D):Bool:=!zy (eY tb) 0 tb && decide ((tb.length:Int)≤5)
noncomputable def ir (s:ae.D) (tb:List aa.D) (es:List ac.D) (cs:List Int):ba.D :=
 bif (wB es && bk s) && Lf tb then nf s es ([],tb,cs,[],()) else ([],tb,cs,[],())
theorem MH (s:ae.D) (tb:List aa.D) (es:List ac.D) (cs:List Int) (h1:s.1.length≤33554432) (h2:s.2.1.length≤33554432) (h3:okD (.slice aa) tb) (h4:cs.length≤33554432) (h5:es.length≤33554432) :
  ko s tb es cs=some (ir s tb es cs)∧kA s tb es cs=some (ir s tb es cs)∧okD ba (ir s tb es cs)∧(ir s tb es cs).1.length≤262144∧(ir s tb es cs).2.2.2.1.length≤262144∧(ir s tb es cs).2.2.1.length≤cs.length∧(ir s tb es cs).2.1.map (fun (x:aa.D)=>x.1)=tb.map (fun (x:aa.D)=>x.1)∧((∀ x∈tb,aR x=true)→∀ x∈(ir s tb es cs).2.1,aR x=true):=by
 have triv:okD ba ([],tb,cs,[],()):=⟨⟨by simp,fun x hx=>by cases hx⟩,h3,⟨h4,fun x _=>fG _ rfl x⟩,⟨by simp,fun x hx=>by cases hx⟩,trivial⟩
 have g1:fh tb=some (Lf tb):=kK tb h3
 have g2:fi tb=some (Lf tb):=gS tb h3
 unfold ko kA
 simp only [sE _ triv,dA tb h3,eG cs h4,xf es h5,xe es h5,dz s h1 h2,cQ s h1 h2,g1,g2,Option.bind_some]
 by_cases hb:((wB es && bk s) && Lf tb)=true
 ·have hv:ir s tb es cs=nf s es ([],tb,cs,[],()):=by unfold ir;rw [hb];rfl
  rw [Bool.and_eq_true,Bool.and_eq_true] at hb
  obtain ⟨⟨b1,b2⟩,b3⟩:=hb
  have hl:es.length≤4:=by
   unfold wB at b1
   rw [Bool.and_eq_true] at b1
   have:=of_decide_eq_true b1.1
   omega
  obtain ⟨c1,c2,c3,c4,c5,c6,c7,c8⟩:=Qx s es h1 h2 hl 65536 rfl es.length 0 ([],tb,cs,[],()) (by omega) triv (by simp only [List.length_nil];omega) (by simp only [List.length_nil];omega)
  rw [List.drop_zero] at c1 c2 c3 c4 c5 c6 c7 c8
  rw [show (((0:Nat):Int))=(0:Int) from rfl] at c1 c2
  rw [hv]
  simp only [List.length_nil] at c4 c5
  simp only [b1,b2,b3,Bool.not_true,cond_false,Option.bind_some,c1,c2]
  exact ⟨trivial,trivial,c3,by omega,by omega,c6,c7,c8⟩
 ·have hv:ir s tb es cs=([],tb,cs,[],()):=by
   unfold ir
   rw [Bool.not_eq_true] at hb
   rw [hb];rfl
  rw [hv]
  refine ⟨?_,?_,triv,Nat.zero_le _,Nat.zero_le _,Nat.le_refl _,rfl,id⟩ <;> revert hb <;> cases wB es <;> cases bk s <;> cases Lf tb <;> intro hb <;> first | rfl | exact absurd rfl hb
def sF (c:Int) (x:aa.D):Bool:=(x.2.2.2.2.2.2.2.2.1 != 0) && ((x.2.2.2.2.2.2.2.1 == (-1)) || decide (x.2.2.2.2.2.2.2.1≥c))
theorem MI (x:aa.D) (c:Int):n9 x c=some (sF c x):=by
 unfold n9 sF
 cases ((x.2.2.2.2.2.2.2.2.1:Int) != 0) <;> cases ((x.2.2.2.2.2.2.2.1:Int) == -1) <;> rfl
theorem MJ (x:aa.D) (c:Int):nQ x c=some (sF c x):=by
 unfold nQ sF
 cases ((x.2.2.2.2.2.2.2.2.1:Int) != 0) <;> cases ((x.2.2.2.2.2.2.2.1:Int) == -1) <;> rfl
theorem Qy {xs ys:List aa.D} (h:okD (.slice aa) xs) (hl:ys.length≤xs.length) (hs:∀ y∈ys,y∈xs):okD (.slice aa) ys:=⟨Nat.le_trans hl h.1,fun y hy=>h.2 y (hs y hy)⟩
theorem Nj (xs:List aa.D) (c:Int) (h:okD (.slice aa) xs) (h5:xs.length≤1000):pu xs c=some (xs.filter (sF c))∧pI xs c=some (xs.filter (sF c)):=by
 refine ⟨?_,?_⟩
 ·unfold pu
  rw [cy xs (fun _ x=>if sF c x then [x] else []) (fun s=>s) (fun _ x=>by split <;> simp) (by omega) (fun t i x hI hx=>?_) (fun t=>?_)]
  ·rw [Option.bind_some,iG]
  ·have hlt:=(List.getElem?_eq_some_iff.1 hx).1
   have hil:((i:Int) < (xs.length:Int)):=by omega
   have hok:=(h.2 x (List.mem_of_getElem? hx)).2.2.2.2.2.2.1.2.2.2.2.2.2.1.1
   unfold rQ
   simp only [hil,decide_true,cond_true,ay hx,MJ,eQ x hok,Option.bind_some]
   cases sF c x
   ·simp only [cond_false,Option.bind_some,if_false,List.append_nil,Bool.false_eq_true]
   ·simp only [cond_true]
    rw [if_pos (by simp only [aC,List.length_cons,List.length_nil];omega)]
    rfl
  ·unfold rQ;simp
 ·unfold pI
  rw [dA xs h,Option.bind_some]
  unfold bK
  have hq:∀ x:aa.D,oP c x=some (!sF c x):=fun x=>by unfold oP;rw [MI];rfl
  simp only [hq]
  rw [if_pos ⟨by omega,by rw [List.all_eq_true];intro x _;rfl⟩,Option.bind_some]
  simp only [Option.getD_some,Bool.not_not]
theorem Qz (xs:List aa.D) (a:Int):zG xs a=-1∨∃ (k:Nat) (x:aa.D),zG xs a=k∧xs[k]?=some x∧x.1=a:=by
 by_cases h:a∈xs.map (fun (x:aa.D)=>x.1)
 ·exact .inr (Ni xs a h)
 ·refine .inl ?_
  unfold zG
  obtain ⟨_,h2⟩:=eh (fun (x:aa.D)=>x.1 == a) xs
  cases hf:bD (fun (x:aa.D)=>x.1 == a) xs with
  | none=>rfl
  | some k =>
   obtain ⟨x,g1,g2,_⟩:=h2 k hf
   exact absurd (List.mem_map.2 ⟨x,List.mem_of_getElem? g1,by simpa using g2⟩) h
theorem R8 {xs:List aa.D} (h:okD (.slice aa) xs) (i:Nat):okD (.slice aa) (xs.take i)∧okD (.slice aa) (xs.drop i) :=
 ⟨Qy h (by rw [List.length_take];omega) fun y hy=>List.mem_of_mem_take hy,Qy h (by rw [List.length_drop];omega) fun y hy=>List.mem_of_mem_drop hy⟩
theorem UU (xs:List aa.D) (a:Int) (h:okD (.slice aa) xs) (h5:xs.length≤1000):∃ r,zW xs a=some r∧zZ xs a=some r∧okD (.slice aa) r.1:=by
 have hl:xs.length≤33554432:=by omega
 unfold zW zZ
 rw [dA xs h,Option.bind_some,jq xs a hl,jr xs a hl,Option.bind_some,Option.bind_some]
 rcases Qz xs a with e | ⟨k,x,e,hx,_⟩
 ·rw [e,cj xs h]
  exact ⟨_,rfl,rfl,h⟩
 ·have hk:=(List.getElem?_eq_some_iff.1 hx).1
  rw [e,bb (by omega)]
  have hw:IntKind.wrap .i64 ((k:Int) + 1)=((k + 1:Nat):Int):=by rw [aB (by omega) (by omega)];rfl
  have e1:(List.drop (0:Int).toNat (List.take k xs))=xs.take k:=rfl
  have e2:(List.drop (k + 1) (List.take xs.length xs))=xs.drop (k + 1):=by rw [List.take_length]
  have e3:(xs.length:Int).toNat=xs.length:=by omega
  simp only [cond_false,hw,Int.toNat_natCast,e1,e2,e3]
  rw [if_pos (by omega),if_pos (by omega),if_pos (by omega),cj _ (R8 h k).1,Option.bind_some,if_pos (by omega),if_pos (by omega),if_pos (by omega),cj _ (R8 h (k + 1)).2,Option.bind_some]
  rw [if_pos (by simp only [aC,List.length_take,List.length_drop];omega)]
  unfold cr
  rw [if_pos ⟨by omega,by omega,by omega⟩,Option.bind_some]
  refine ⟨_,rfl,rfl,Qy h ?_ fun y hy=>?_⟩
  ·simp only [Int.toNat_natCast,List.length_append,List.length_take,List.length_drop];omega
  ·rcases List.mem_append.1 hy with hy | hy
   ·exact List.mem_of_mem_take hy
   ·exact List.mem_of_mem_drop hy
theorem SN {α:Type} (xs:List α) {body:Int→Option (Int⊕Int)} (p:α→Bool) (hlen:xs.length≤9223372036854775806)
  (hb:∀ (i:Nat) x,xs[i]?=some x→body i=bif p x then some (.inr (i:Int)) else some (.inl (IntKind.wrap .i64 ((i:Int) + 1))))
  (he:body xs.length=some (.inr (xs.length:Int))) :
  ∃ k:Nat,k≤xs.length∧al body 0=some (k:Int)∧(match bD p xs with | some j=>j | none=>xs.length)=k:=by
 have main:∀ (r:List α) (k:Nat),xs.drop k=r→k≤xs.length→al body k=some (match bD p r with | some j=>((k + j:Nat):Int) | none=>(xs.length:Int)):=by
  intro r
  induction r with
  | nil =>
   intro k h hk
   have:k=xs.length:=by
    have:=congrArg List.length h
    simp at this
    omega
   subst this
   exact aI he
  | cons x r ih =>
   intro k h hk
   have hlt:k < xs.length:=by
    have:=congrArg List.length h
    simp at this
    omega
   have hx:xs[k]?=some x:=by
    have:=congrArg (fun l=>l[0]?) h
    simpa using this
   have hr:xs.drop (k + 1)=r:=by
    have:=congrArg List.tail h
    simpa using this
   unfold bD
   by_cases hp:p x=true
   ·rw [if_pos hp]
    refine aI ?_
    rw [hb k x hx,hp]
    simp
   ·rw [if_neg hp]
    refine aF (s':=((k + 1:Nat):Int)) ?_ ?_
    ·rw [hb k x hx]
     have:p x=false:=by simpa using hp
     rw [this]
     simp only [cond_false]
     rw [aB (by omega) (by omega)]
     rfl
    ·rw [ih (k + 1) hr hlt]
     cases bD p r with
     | none=>rfl
     | some j =>
      simp only [Option.map_some]
      rw [show k + 1 + j=k + (j + 1) by omega]
 have h0:=main xs 0 rfl (by omega)
 obtain ⟨_,h2⟩:=eh p xs
 cases hf:bD p xs with
 | none =>
  rw [hf] at h0
  exact ⟨xs.length,Nat.le_refl _,h0,rfl⟩
 | some j =>
  rw [hf] at h0
  obtain ⟨x,g1,_⟩:=h2 j hf
  have:=(List.getElem?_eq_some_iff.1 g1).1
  refine ⟨j,by omega,?_,rfl⟩
  show al body ((0:Nat):Int)=_
  rw [h0]
  simp only [Nat.zero_add]
theorem Vt (a b:Int):decide (a≥b)=!decide (a < b):=by
 by_cases h:a < b
 ·rw [decide_eq_true h,decide_eq_false (by omega)];rfl
 ·rw [decide_eq_false h,decide_eq_true (by omega)];rfl
theorem Rx (xs:List aa.D) (e:aa.D) (h:okD (.slice aa) xs) (h5:xs.length≤1000) (he:e.2.2.2.2.2.2.1.2.2.2.2.2.2.1.length≤33554432):∃ r,qA xs e=some r∧qK xs e=some r∧okD (.slice aa) r.1:=by
 have hl:xs.length≤33554432:=by omega
 obtain ⟨k,hk,w1,w2⟩:=SN xs (body:=kb xs e) (fun x=>decide (x.1≥e.1)) (by omega) (fun i x hx=>by
  have hlt:=(List.getElem?_eq_some_iff.1 hx).1
  have hil:((i:Int) < (xs.length:Int)):=by omega
  unfold kb
  simp only [hil,decide_true,cond_true,ay hx,Option.bind_some]
  have hd:decide (x.1≥e.1)=!decide (x.1 < e.1):=Vt x.1 e.1
  rw [hd]
  cases decide (x.1 < e.1) <;> rfl) (by unfold kb;simp)
 have hi:bw xs (fun q=>rS e q.1)=some (match bD (fun x=>decide (x.1≥e.1)) xs with | some k=>(k:Int) | none=>-1):=Eu xs hl (fun x=>decide (x.1≥e.1)) _ (fun x _=>rfl)
 obtain ⟨ix,hix⟩:∃ ix:Int,ix=(match bD (fun (x:aa.D)=>decide (x.1≥e.1)) xs with | some k=>(k:Int) | none=>-1):=⟨_,rfl⟩
 rw [← hix] at hi
 have ho:((bif decide (ix < 0) then some (xs.length:Int) else some ix):Option Int)=some (k:Int):=by
  rw [hix,← w2]
  cases bD (fun (x:aa.D)=>decide (x.1≥e.1)) xs with
  | none=>rfl
  | some j=>simp only;rw [bb (by omega)];rfl
 have okn:okD (.slice aa) (xs.take k++[e]++xs.drop k):=by
  refine ⟨?_,fun y hy=>?_⟩
  ·simp only [List.length_append,List.length_take,List.length_drop,List.length_cons,List.length_nil];omega
  ·rcases List.mem_append.1 hy with hy | hy
   ·rcases List.mem_append.1 hy with hy | hy
    ·exact h.2 y (List.mem_of_mem_take hy)
    ·rw [List.mem_singleton.1 hy];exact Qv _ he
   ·exact h.2 y (List.mem_of_mem_drop hy)
 obtain ⟨tk,htk⟩:∃ tk,tk=(!zy (eY (xs.take k++[e]++xs.drop k)) 0 (xs.take k++[e]++xs.drop k) && decide (((xs.take k++[e]++xs.drop k).length:Int)≤5)):=⟨_,rfl⟩
 have t1:=kK _ okn
 have t2:=gS _ okn
 rw [← htk] at t1 t2
 have e1:(List.drop (0:Int).toNat (List.take k xs))=xs.take k:=rfl
 have e2:(List.drop k (List.take xs.length xs))=xs.drop k:=by rw [List.take_length]
 have e3:(xs.length:Int).toNat=xs.length:=by omega
 have hins:dE xs (k:Int) [e]=some (xs.take k++[e]++xs.drop k,()):=by
  unfold dE
  rw [if_pos ⟨by omega,by omega,rfl,by omega⟩,Int.toNat_natCast]
 unfold qA qK
 rw [w1,Option.bind_some,dA xs h,Option.bind_some,hi,Option.bind_some,ho,Option.bind_some,Option.bind_some,gN e he,Option.bind_some,hins,Option.bind_some]
 simp only [Int.toNat_natCast,e1,e2,e3]
 rw [if_pos (by omega),if_pos (by omega),if_pos (by omega),cj _ (R8 h k).1,Option.bind_some,eQ e he,Option.bind_some]
 rw [if_pos (by simp only [aC,List.length_take,List.length_cons,List.length_nil];omega),if_pos (by omega),if_pos (by omega),if_pos (by omega),cj _ (R8 h k).2,Option.bind_some]
 rw [if_pos (by simp only [aC,List.length_append,List.length_take,List.length_drop,List.length_cons,List.length_nil];omega)]
 simp only [jr xs _ hl,jq xs _ hl,t1,t2,Option.bind_some,cj xs h]
 cases decide (zG xs e.1≥0) <;> cases tk <;> first | exact ⟨_,rfl,rfl,h⟩ | exact ⟨_,rfl,rfl,okn⟩
theorem OR (n:Int) (h0:0≤n) (h1:n≤33554432):dQ () n=some ([],()):=by
 unfold dQ
 rw [bb h0]
 simp only [cond_false,Option.bind_some]
 have z:IntKind.wrap .i64 (0 - 0)=0:=aB (by omega) (by omega)
 rw [z,Int.sub_zero,aB (by omega) (by omega)]
 by_cases hn:n > 0
 ·rw [decide_eq_true hn]
  simp only [cond_true,Int.le_refl,if_true]
  rw [if_pos (by omega),if_pos hn,if_pos (by simp only [aC];omega),if_pos (by omega)]
  simp
 ·rw [decide_eq_false hn];rfl
theorem H0 (a b c:List af.D) (h:a.length + b.length + c.length≤33554432):dn [a,b,c]=some ((a++b)++c):=by
 have i0:([a,b,c]:List (List af.D))[0]?=some a:=rfl
 have i1:([a,b,c]:List (List af.D))[1]?=some b:=rfl
 have i2:([a,b,c]:List (List af.D))[2]?=some c:=rfl
 have e1:al (bo [a,b,c]) (0,0)=some ((a.length:Int) + (b.length:Int) + (c.length:Int),3):=by
  refine aF (s':=((a.length:Int),1)) ?_ (aF (s':=((a.length:Int) + (b.length:Int),2)) ?_ (aF (s':=((a.length:Int) + (b.length:Int) + (c.length:Int),3)) ?_ (aI ?_)))
  ·unfold bo
   rw [decide_eq_true (by simp)]
   simp only [cond_true]
   rw [show ((0:Int))=((0:Nat):Int) from rfl,ay i0]
   simp (disch:=omega) only [aB,bb,cond_false]
   first | (simp;done) | (simp;rw [bb (by omega)];rfl)
  ·unfold bo
   rw [decide_eq_true (by simp)]
   simp only [cond_true]
   rw [show ((1:Int))=((1:Nat):Int) from rfl,ay i1]
   simp (disch:=omega) only [aB,bb,cond_false]
   first | (simp;done) | (simp;rw [bb (by omega)];rfl)
  ·unfold bo
   rw [decide_eq_true (by simp)]
   simp only [cond_true]
   rw [show ((2:Int))=((2:Nat):Int) from rfl,ay i2]
   simp (disch:=omega) only [aB,bb,cond_false]
   first | (simp;done) | (simp;rw [bb (by omega)];rfl)
  ·unfold bo
   simp
 have e2:al (bp [a,b,c]) ([],0)=some ((a++b)++c,3):=by
  refine aF (s':=(a,1)) ?_ (aF (s':=(a++b,2)) ?_ (aF (s':=((a++b)++c,3)) ?_ (aI ?_)))
  ·unfold bp
   rw [decide_eq_true (by simp)]
   simp only [cond_true]
   rw [show ((0:Int))=((0:Nat):Int) from rfl,ay i0]
   rw [if_pos (by simp only [aC,List.length_append,List.length_nil];omega)]
   simp (disch:=omega) only [aB]
   simp
  ·unfold bp
   rw [decide_eq_true (by simp)]
   simp only [cond_true]
   rw [show ((1:Int))=((1:Nat):Int) from rfl,ay i1]
   rw [if_pos (by simp only [aC,List.length_append,List.length_nil];omega)]
   simp (disch:=omega) only [aB]
   simp
  ·unfold bp
   rw [decide_eq_true (by simp)]
   simp only [cond_true]
   rw [show ((2:Int))=((2:Nat):Int) from rfl,ay i2]
   rw [if_pos (by simp only [aC,List.length_append,List.length_nil];omega)]
   simp (disch:=omega) only [aB]
   simp
  ·unfold bp
   simp
 unfold dn
 rw [e1,Option.bind_some]
 simp only
 rw [OR _ (by omega) (by omega),Option.bind_some]
 simp only
 rw [e2,Option.bind_some]
theorem SO (n:Int) (h0:0≤n) (h1:n≤33554432):eS () n=some ([],()):=by
 unfold eS
 rw [bb h0]
 simp only [cond_false,Option.bind_some]
 have z:IntKind.wrap .i64 (0 - 0)=0:=aB (by omega) (by omega)
 rw [z,Int.sub_zero,aB (by omega) (by omega)]
 by_cases hn:n > 0
 ·rw [decide_eq_true hn]
  simp only [cond_true,Int.le_refl,if_true]
  rw [if_pos (by omega),if_pos hn,if_pos (by simp only [aC];omega),if_pos (by omega)]
  simp
 ·rw [decide_eq_false hn];rfl
theorem OS (a b c:List ai.D) (h:a.length + b.length + c.length≤33554432):d7 [a,b,c]=some ((a++b)++c):=by
 have i0:([a,b,c]:List (List ai.D))[0]?=some a:=rfl
 have i1:([a,b,c]:List (List ai.D))[1]?=some b:=rfl
 have i2:([a,b,c]:List (List ai.D))[2]?=some c:=rfl
 have e1:al (bH [a,b,c]) (0,0)=some ((a.length:Int) + (b.length:Int) + (c.length:Int),3):=by
  refine aF (s':=((a.length:Int),1)) ?_ (aF (s':=((a.length:Int) + (b.length:Int),2)) ?_ (aF (s':=((a.length:Int) + (b.length:Int) + (c.length:Int),3)) ?_ (aI ?_)))
  ·unfold bH
   rw [decide_eq_true (by simp)]
   simp only [cond_true]
   rw [show ((0:Int))=((0:Nat):Int) from rfl,ay i0]
   simp (disch:=omega) only [aB,bb,cond_false]
   first | (simp;done) | (simp;rw [bb (by omega)];rfl)
  ·unfold bH
   rw [decide_eq_true (by simp)]
   simp only [cond_true]
   rw [show ((1:Int))=((1:Nat):Int) from rfl,ay i1]
   simp (disch:=omega) only [aB,bb,cond_false]
   first | (simp;done) | (simp;rw [bb (by omega)];rfl)
  ·unfold bH
   rw [decide_eq_true (by simp)]
   simp only [cond_true]
   rw [show ((2:Int))=((2:Nat):Int) from rfl,ay i2]
   simp (disch:=omega) only [aB,bb,cond_false]
   first | (simp;done) | (simp;rw [bb (by omega)];rfl)
  ·unfold bH
   simp
 have e2:al (bI [a,b,c]) ([],0)=some ((a++b)++c,3):=by
  refine aF (s':=(a,1)) ?_ (aF (s':=(a++b,2)) ?_ (aF (s':=((a++b)++c,3)) ?_ (aI ?_)))
  ·unfold bI
   rw [decide_eq_true (by simp)]
   simp only [cond_true]
   rw [show ((0:Int))=((0:Nat):Int) from rfl,ay i0]
   rw [if_pos (by simp only [aC,List.length_append,List.length_nil];omega)]
   simp (disch:=omega) only [aB]
   simp
  ·unfold bI
   rw [decide_eq_true (by simp)]
   simp only [cond_true]
   rw [show ((1:Int))=((1:Nat):Int) from rfl,ay i1]
   rw [if_pos (by simp only [aC,List.length_append,List.length_nil];omega)]
   simp (disch:=omega) only [aB]
   simp
  ·unfold bI
   rw [decide_eq_true (by simp)]
   simp only [cond_true]
   rw [show ((2:Int))=((2:Nat):Int) from rfl,ay i2]
   rw [if_pos (by simp only [aC,List.length_append,List.length_nil];omega)]
   simp (disch:=omega) only [aB]
   simp
  ·unfold bI
   simp
 unfold d7
 rw [e1,Option.bind_some]
 simp only
 rw [SO _ (by omega) (by omega),Option.bind_some]
 simp only
 rw [e2,Option.bind_some]
theorem Ry (s:ae.D):(eW s).1.2.2=s.2.2:=by unfold eW;split <;> rfl
theorem Rz (s:ae.D) (hp:s.1.length≤33554432) (hs:s.2.1.length≤33554432):∃ r,pr s=some r∧ly s=some r∧gT r.1 s∧r.2.1.length≤19∧r.1.2.2=s.2.2:=by
 obtain ⟨r,h1,h2,_,_⟩:=SG s hp hs
 refine ⟨r,h1,h2,?_⟩
 obtain ⟨q,g1,g2⟩:∃ q,al bF ([],0,([],[],0,0,()),s)=some q∧(gT q.2.2 s∧q.1.length≤19∧q.2.2.2.2=s.2.2):=by
  cases hok:bk s with
  | false =>
   refine ⟨([],0,s),aI ?_,⟨rfl,rfl⟩,by simp,rfl⟩
   unfold bF
   simp only [hZ s hp hs,Option.bind_some]
   have:(eW s).2.1=[]:=by unfold eW;rw [hok];rfl
   rw [this];rfl
  | true =>
   obtain ⟨l1,l2⟩:=oV hok
   have hw:=Ne s
   exact re (body:=bF) (fun t=>sA t.2.2.2) (fun t=>gT t.2.2.2 s∧t.1.length + sA t.2.2.2≤sA s∧t.2.2.2.2.2=s.2.2) (fun r=>gT r.2.2 s∧r.1.length≤19∧r.2.2.2.2=s.2.2) (by
    rintro ⟨all,n,u,t⟩ ⟨⟨z1,z2⟩,z3,z4⟩
    simp only at z1 z2 z3 z4
    have hr:=Ek t
    have hz:=Ci t
    unfold bF
    simp only [hZ t (by omega) (by omega),Option.bind_some]
    by_cases hn:(eW t).2.1.length=0
    ·right
     have:(((eW t).2.1.length:Int) == 0)=true:=by rw [hn];rfl
     rw [this]
     exact ⟨_,rfl,⟨z1,z2⟩,by simp only;omega,z4⟩
    ·left
     have:(((eW t).2.1.length:Int) == 0)=false:=by rw [beq_eq_false_iff_ne];omega
     rw [this]
     simp only [cond_false]
     rw [if_pos (by simp only [aC];omega)]
     refine ⟨_,rfl,⟨⟨hz.1.trans z1,hz.2.trans z2⟩,?_,?_⟩,?_⟩
     ·simp only [List.length_append];omega
     ·exact (Ry t).trans z4
     ·simp only;omega) ([],0,([],[],0,0,()),s) ⟨⟨rfl,rfl⟩,by simp,rfl⟩
 unfold ly at h2
 simp only [fA s hp hs,Option.bind_some,g1] at h2
 have h2:=Option.some.inj h2
 rw [← h2]
 exact ⟨g2.1,g2.2.1,g2.2.2⟩
theorem SP (g:T_Game.D) (es:List ac.D) (ok:okD T_Game g) (hs:bk g.1=true) (ht:g.2.1.length≤5) (he:es.length≤33554432) (hq:g.2.2.2.1.length + 600000≤33554432) (hl:g.2.2.2.2.1.length + 600000≤33554432) (hn:g.2.2.2.2.2.1.length + 600000≤33554432) :
  ∃ r,oL g es=some ((),r)∧tJ g es=some (r,())∧okD T_Game r∧r.2.2.2.1.length≤g.2.2.2.1.length + 600000∧r.2.2.2.2.1.length≤g.2.2.2.2.1.length + 600000∧r.2.2.2.2.2.1.length≤g.2.2.2.2.2.1.length + 600000:=by
 obtain ⟨m1,m2⟩:=oV hs
 have k1:g.1.1.length≤33554432:=ok.1.1.1
 have k2:g.1.2.1.length≤33554432:=ok.1.2.1.1
 have k3:g.2.2.1.length≤33554432:=ok.2.2.1.1
 obtain ⟨a1,a2,fok,fl,ft,fc,fm,_⟩:=MH g.1 g.2.1 es g.2.2.1 k1 k2 ok.2.1 k3 he
 have ftl:(ir g.1 g.2.1 es g.2.2.1).2.1.length=g.2.1.length:=by have:=congrArg List.length fm;simpa using this
 generalize ir g.1 g.2.1 es g.2.2.1=f at a1 a2 fok fl ft fc ftl
 have c1:=KT g.1 f.1 k1 k2 (by omega)
 obtain ⟨c2,c3,c4,c5,c6⟩:=KS g.1 f.1 k1 k2 (by omega)
 rw [if_pos hs] at c1 c2
 generalize wy g.1 f.1=q at c1 c2 c3 c4 c5 c6
 obtain ⟨one,t⟩:=q
 simp only at c1 c2 c3 c4 c5 c6
 have t1:t.1.length≤33554432:=by rw [c5.1];exact k1
 have t2:t.2.1.length≤33554432:=by rw [c5.2];exact k2
 obtain ⟨⟨u,two,rn,un⟩,d1,d2,d3,d4,d5⟩:=Rz t t1 t2
 simp only at d3 d4 d5
 have u1:u.1.length≤33554432:=by rw [d3.1];exact t1
 have u2:u.2.1.length≤33554432:=by rw [d3.2];exact t2
 have s1:=Ei g.1 one k1 (by omega)
 have s2:=Eh g.1 one k1 (by omega)
 have s3:=li (w6 g.1) (z7 g.1) one 0
 generalize bh (w6 g.1) 0 one=sn1 at s1 s2 s3
 obtain ⟨r1,r2,r3,r4⟩:=KZ u sn1 f.2.2.1 u2 (by omega) (by omega)
 have r5:=r4.length_le
 generalize ne u sn1 f.2.2.1=ar1 at r1 r2 r3 r4 r5
 have s4:=Ei t two t1 (by omega)
 have s5:=Eh t two t1 (by omega)
 have s6:=li (w6 t) (z7 t) two 0
 generalize bh (w6 t) 0 two=sn2 at s4 s5 s6
 obtain ⟨r6,r7,r8,r9⟩:=KZ u sn2 ar1.2 u2 (by omega) (by omega)
 have r10:=r9.length_le
 generalize ne u sn2 ar1.2=ar2 at r6 r7 r8 r9 r10
 have hck:u.2.2.2.1=g.1.2.2.2.1:=by rw [d5,c6]
 obtain ⟨x1,x2⟩:=Nj f.2.1 g.1.2.2.2.1 fok.2.1 (by omega)
 refine ⟨(u,f.2.1.filter (sF g.1.2.2.2.1),ar2.2,(g.2.2.2.1++ar1.1)++ar2.1,(g.2.2.2.2.1++one)++two,g.2.2.2.2.2.1++f.2.2.2.1,()),?_,?_,⟨⟨⟨u1,fun x _=>fG _ rfl x⟩,⟨u2,fun x _=>fG _ rfl x⟩,fG _ rfl _⟩,Qy fok.2.1 (List.length_filter_le _ _) (fun y hy=>(List.mem_filter.1 hy).1),⟨?_,fun x _=>fG _ rfl x⟩,⟨?_,fun x _=>fG _ rfl x⟩,⟨?_,fun x _=>fG _ rfl x⟩,⟨?_,fun x hx=>?_⟩,trivial⟩,?_,?_,?_⟩
 ·unfold oL
  simp only [a1,c1,d1,s1,r1,s4,r6,x1,Option.bind_some]
  rw [if_pos (by simp only [aC];omega),if_pos (by simp only [aC,List.length_append];omega),if_pos (by simp only [aC];omega),if_pos (by simp only [aC,List.length_append];omega),if_pos (by simp only [aC];omega)]
 ·unfold tJ
  simp only [a2,c2,d2,s2,r2,s5,r7,hck,x2,Option.bind_some]
  rw [H0 _ _ _ (by omega),Option.bind_some,OS _ _ _ (by omega),Option.bind_some,if_pos (by simp only [aC];omega)]
 ·show ar2.2.length≤33554432;omega
 ·show ((g.2.2.2.1++ar1.1)++ar2.1).length≤33554432;simp only [List.length_append];omega
 ·show ((g.2.2.2.2.1++one)++two).length≤33554432;simp only [List.length_append];omega
 ·show (g.2.2.2.2.2.1++f.2.2.2.1).length≤33554432;simp only [List.length_append];omega
 ·rcases List.mem_append.1 hx with hx | hx
  ·exact ok.2.2.2.2.2.1.2 x hx
  ·exact fok.2.2.2.1.2 x hx
 ·show ((g.2.2.2.1++ar1.1)++ar2.1).length≤_;simp only [List.length_append];omega
 ·show ((g.2.2.2.2.1++one)++two).length≤_;simp only [List.length_append];omega
 ·show (g.2.2.2.2.2.1++f.2.2.2.1).length≤_;simp only [List.length_append];omega
theorem Bh (g:T_Game.D) (h:okD T_Game g):∃ n g',jS g 1=some (n,(g',()))∧(0≤n∧n≤1152921504606846976)∧jT ((g'.1.1,g'.1.2.1,g.1.2.2),g'.2) 1=some n:=by
 have p1:g.1.1.length≤33554432:=h.1.1.1
 have p2:g.1.2.1.length≤33554432:=h.1.2.1.1
 have l3:g.2.2.1.length≤33554432:=h.2.2.1.1
 have l4:g.2.2.2.1.length≤33554432:=h.2.2.2.1.1
 have l5:g.2.2.2.2.1.length≤33554432:=h.2.2.2.2.1.1
 have n2:∀ n∈g.2.1.map dt,n≤33554432:=fun n hn=>by obtain ⟨x,hx,rfl⟩:=List.mem_map.1 hn;exact (h.2.1.2 x hx).2.2.2.2.2.2.1.2.2.2.2.2.2.1.1
 have n6:∀ n∈g.2.2.2.2.2.1.map fR,n≤33554432:=fun n hn=>by obtain ⟨x,hx,rfl⟩:=List.mem_map.1 hn;exact (h.2.2.2.2.2.1.2 x hx).2.2.2.2.2.1.1
 have s2:(g.2.1.map dt).length≤33554432:=by rw [List.length_map];exact h.2.1.1
 have s6:(g.2.2.2.2.2.1.map fR).length≤33554432:=by rw [List.length_map];exact h.2.2.2.2.2.1.1
 obtain ⟨K1,k1⟩:∃ K:Int,K=1 + (13:Nat) * (g.1.1.length:Int) + (3:Nat) * (g.1.2.1.length:Int):=⟨_,rfl⟩
 have a1:=D3 g.1 1 (by omega) (by omega) p1 p2
 have b1:=Cf g.1 1 (by omega) (by omega) p1 p2
 rw [← k1] at a1 b1
 obtain ⟨a2,q2,r2⟩:=AM g.2.1 K1 h.2.1 (by omega) (by omega)
 have b2:=AN (g.2.1.map dt) K1 n2 s2 (by omega) (by omega)
 obtain ⟨K2,k2⟩:∃ K:Int,K=K1 + lK 21 (g.2.1.map dt):=⟨_,rfl⟩
 rw [← k2] at a2 b2
 have a3:=FS g.2.2.1 K2 (by omega) (by omega) (by omega)
 have b3:=FT K2 g.2.2.1.length (by omega) (by omega) (by omega)
 obtain ⟨K3,k3⟩:∃ K:Int,K=K2 + (1:Nat) * (g.2.2.1.length:Int):=⟨_,rfl⟩
 rw [← k3] at a3 b3
 have a4:=zv g.2.2.2.1 K3 (by omega) (by omega) (by omega)
 have b4:=zw K3 g.2.2.2.1.length (by omega) (by omega) (by omega)
 obtain ⟨K4,k4⟩:∃ K:Int,K=K3 + (16:Nat) * (g.2.2.2.1.length:Int):=⟨_,rfl⟩
 rw [← k4] at a4 b4
 have a5:=D2 g.2.2.2.2.1 K4 (by omega) (by omega) (by omega)
 have b5:=D5 K4 g.2.2.2.2.1.length (by omega) (by omega) (by omega)
 obtain ⟨K5,k5⟩:∃ K:Int,K=K4 + (23:Nat) * (g.2.2.2.2.1.length:Int):=⟨_,rfl⟩
 rw [← k5] at a5 b5
 obtain ⟨a6,q6,r6⟩:=D8 g.2.2.2.2.2.1 K5 h.2.2.2.2.2.1 (by omega) (by omega)
 have b6:=D9 (g.2.2.2.2.2.1.map fR) K5 n6 s6 (by omega) (by omega)
 obtain ⟨K6,k6⟩:∃ K:Int,K=K5 + lK 13 (g.2.2.2.2.2.1.map fR):=⟨_,rfl⟩
 rw [← k6] at a6 b6
 refine ⟨K6,(((KK g.1 1).1,(KK g.1 1).2.1,g.1.2.2),iW eP 21 K1 (g.2.1.map dt),bJ mY (1:Nat) K2 g.2.2.1.length,bJ dU (16:Nat) K3 g.2.2.2.1.length,bJ iV (23:Nat) K4 g.2.2.2.2.1.length,iW iX 13 K5 (g.2.2.2.2.2.1.map fR),()),?_,⟨by omega,by omega⟩,?_⟩
 ·unfold jS
  simp only [a1,a2,a3,a4,a5,a6,Option.bind_some]
 ·unfold jT
  simp (disch:=omega) only [b1,b2,b3,b4,b5,b6,Option.bind_some,bb,cond_false]
theorem zI (g:T_Game.D) (h:okD T_Game g):jM g=some g:=by
 have l4:g.2.2.2.1.length≤33554432:=h.2.2.2.1.1
 have l5:g.2.2.2.2.1.length≤33554432:=h.2.2.2.2.1.1
 unfold jM bv gB
 simp only [fA g.1 h.1.1.1 h.1.2.1.1,dA _ h.2.1,eG _ h.2.2.1.1,qg _ h.2.2.2.2.2.1,Option.bind_some,List.nil_append]
 rw [if_pos (by simp only [aC,List.length_nil];omega),Option.bind_some,if_pos (by simp only [aC,List.length_nil];omega)]
 rfl
theorem zJ (g:T_Game.D) (h:okD T_Game g):mb g=some g:=by
 have l3:g.2.2.1.length≤33554432:=h.2.2.1.1
 have l4:g.2.2.2.1.length≤33554432:=h.2.2.2.1.1
 have l5:g.2.2.2.2.1.length≤33554432:=h.2.2.2.2.1.1
 unfold mb
 simp only [gM g.1 h.1.1.1 h.1.2.1.1,cj _ h.2.1,w9 _ h.2.2.2.2.2.1,Option.bind_some,List.nil_append]
 rw [if_pos (by simp only [aC,List.length_nil];omega),if_pos (by simp only [aC,List.length_nil];omega),if_pos (by simp only [aC,List.length_nil];omega)]
theorem QA (g:T_Game.D) (h:okD T_Game g) (hb:lr g=some true):bk g.1=true∧g.2.1.length≤5:=by
 have hl:g.2.2.2.2.2.1.length≤33554432:=h.2.2.2.2.2.1.1
 unfold lr at hb
 simp only [cQ g.1 h.1.1.1 h.1.2.1.1,gS _ h.2.1,Option.bind_some] at hb
 cases hs:bk g.1 with
 | false=>rw [hs] at hb;cases hb
 | true =>
  refine ⟨rfl,?_⟩
  rw [hs] at hb
  cases ht:decide ((g.2.1.length:Int)≤5) with
  | true=>have:=of_decide_eq_true ht;omega
  | false=>rw [ht,Bool.and_false] at hb;cases hb
theorem SQ (s:ae.D) (h:bk s=true):∃ x,(dq s)[1]?=some x:=by
 have hs:=(oV h).2
 unfold bk at h
 simp only [Bool.and_eq_true] at h
 have h1:=of_decide_eq_true h.1.1.1.1.2.1
 have h2:=of_decide_eq_true h.1.1.1.2.1
 have h3:=of_decide_eq_true h.1.1.1.2.2
 unfold dq
 rw [aB (by omega) (by omega),decide_eq_true h2,decide_eq_true h3,Bool.true_and,if_pos rfl]
 match s.2.1,h1 with
 | x :: y :: r,_=>exact ⟨_,rfl⟩
 | [x],h=>simp at h
 | [],h=>simp at h
theorem RC (g:T_Game.D) (o:T_Order.D) (ok:okD T_Game g) (oko:okD T_Order o) (hq:g.2.2.2.1.length + 600000≤33554432) (hl:g.2.2.2.2.1.length + 600000≤33554432) (hn:g.2.2.2.2.2.1.length + 600000≤33554432) :
  ∃ r,qI g o=some r∧qS g o=some r∧okD T_Game r.1∧r.1.2.2.2.1.length≤g.2.2.2.1.length + 600000∧r.1.2.2.2.2.1.length≤g.2.2.2.2.1.length + 600000∧r.1.2.2.2.2.2.1.length≤g.2.2.2.2.2.1.length + 600000:=by
 obtain ⟨b,g1,g2⟩:=Sy g ok
 unfold qI qS
 rw [zJ g ok,zI g ok,Option.bind_some,Option.bind_some,g1,g2,Option.bind_some,Option.bind_some]
 cases b with
 | false=>exact ⟨(g,false,()),rfl,rfl,ok,Nat.le_add_right _ _,Nat.le_add_right _ _,Nat.le_add_right _ _⟩
 | true =>
  obtain ⟨hs,ht⟩:=QA g ok g2
  have he:o.2.1.2.2.2.2.2.2.1.2.2.2.2.2.2.1.length≤33554432:=oko.2.1.2.2.2.2.2.2.1.2.2.2.2.2.2.1.1
  have hv:o.2.2.2.1.length≤33554432:=oko.2.2.2.1.1
  have k2:g.1.2.1.length≤33554432:=ok.1.2.1.1
  generalize (o.1 == 1)=c1
  generalize (o.1 == 2)=c2
  generalize (o.1 == 3)=c3
  generalize (o.1 == 4)=c4
  cases c1 with
  | true =>
   obtain ⟨r,e1,e2,okr⟩:=Rx g.2.1 o.2.1 ok.2.1 (by omega) he
   rw [e1,e2]
   exact ⟨((g.1,r.1,g.2.2),r.2),rfl,rfl,⟨ok.1,okr,ok.2.2⟩,Nat.le_add_right _ _,Nat.le_add_right _ _,Nat.le_add_right _ _⟩
  | false =>
   cases c2 with
   | true =>
    obtain ⟨r,e1,e2,okr⟩:=UU g.2.1 o.2.2.1 ok.2.1 (by omega)
    rw [e1,e2]
    exact ⟨((g.1,r.1,g.2.2),r.2),rfl,rfl,⟨ok.1,okr,ok.2.2⟩,Nat.le_add_right _ _,Nat.le_add_right _ _,Nat.le_add_right _ _⟩
   | false =>
    cases c3 with
    | true =>
     rw [xf _ hv,xe _ hv]
     cases wB o.2.2.2.1 with
     | false=>exact ⟨(g,false,()),rfl,rfl,ok,Nat.le_add_right _ _,Nat.le_add_right _ _,Nat.le_add_right _ _⟩
     | true =>
      obtain ⟨r,e1,e2,okr,z1,z2,z3⟩:=SP g o.2.2.2.1 ok hs ht hv hq hl hn
      rw [e1,e2]
      exact ⟨(r,true,()),rfl,rfl,okr,z1,z2,z3⟩
    | false =>
     cases c4 with
     | false=>exact ⟨(g,false,()),rfl,rfl,ok,Nat.le_add_right _ _,Nat.le_add_right _ _,Nat.le_add_right _ _⟩
     | true =>
      generalize (g.1.2.2.2.1 == 9999)=c5
      cases c5 with
      | true=>exact ⟨(g,false,()),rfl,rfl,ok,Nat.le_add_right _ _,Nat.le_add_right _ _,Nat.le_add_right _ _⟩
      | false =>
       obtain ⟨x,hx⟩:=SQ g.1 hs
       obtain ⟨y1,y2⟩:=Nj g.2.1 (IntKind.wrap .i64 (g.1.2.2.2.1 + 1)) ok.2.1 (by omega)
       have hi:∀ {R:Type} (κ:Int→Option R),idx (dq g.1) 1 κ=κ x:=fun κ=>ay (i:=1) hx
       have hx':(dq g.1)[(1:Int).toNat]?=some x:=hx
       rw [tQ _ k2,tR _ k2]
       simp only [cond_false,cond_true,Option.bind_some,hi,hx',y1,y2]
       exact ⟨((((g.1.1,g.1.2.1,x,IntKind.wrap .i64 (g.1.2.2.2.1 + 1),()),g.2.1.filter (sF (IntKind.wrap .i64 (g.1.2.2.2.1 + 1))),g.2.2)),true,()),rfl,rfl,
        ⟨⟨ok.1.1,ok.1.2.1,trivial,trivial,trivial⟩,Qy ok.2.1 (List.length_filter_le _ _) (fun y hy=>(List.mem_filter.1 hy).1),ok.2.2⟩,Nat.le_add_right _ _,Nat.le_add_right _ _,Nat.le_add_right _ _⟩
theorem RD (a:T_Game.D) (l:Int) (h0:0≤l) (h1:l≤33554432) (w:T_Game.wf a):SzR (iI a l) l (okD T_Game a∧(a.2.2.2.1.length:Int)≤l∧(a.2.2.2.2.1.length:Int)≤l∧(a.2.2.2.2.2.1.length:Int)≤l):=by
 have list:∀ {r:Option Int} {n m:Int},0≤n→m≤l→r=some (if n≤m then m - n else -1)→SzR r m (n≤l):=fun {r n m} hn hm e=>by
  refine ⟨_,e,?_⟩
  split
  ·exact .inr ⟨by omega,by omega,by omega⟩
  ·exact .inl (by omega)
 have two:SzR (iI a l) l ((a.2.2.2.1.length:Int)≤l∧(a.2.2.2.2.1.length:Int)≤l∧(a.2.2.2.2.2.1.length:Int)≤l):=by
  unfold iI
  refine SzR.imp (SzR.bind (w5 a.1 l h0 h1 w.1) fun m1 k1 j1=>SzR.bind (tN a.2.1 m1 k1 (by omega) w.2.1) fun m2 k2 j2=>SzR.bind (zp a.2.2.1 m2 k2 (by omega) w.2.2.1) fun m3 k3 j3 =>
   SzR.bind (list (by omega) (by omega) (sl a.2.2.2.1 m3 k3 (by omega) w.2.2.2.1.1)) fun m4 k4 j4=>SzR.bind (list (by omega) (by omega) (w4 a.2.2.2.2.1 m4 k4 (by omega) w.2.2.2.2.1.1)) fun m5 k5 j5 =>
   SzR.bind (P:=(a.2.2.2.2.2.1.length:Int)≤l) ?_ fun m6 k6 j6=>SzR.done k6) (fun h=>⟨h.2.2.2.1,h.2.2.2.2.1,h.2.2.2.2.2.1⟩)
  have hw:=w.2.2.2.2.2.1
  unfold lY
  obtain ⟨m,e,hh⟩:=PH (t:=ar) a.2.2.2.2.2.1 lj (body:=pW a.2.2.2.2.2.1) hw.1 (fun x hx l h0 h1=>zq x l h0 h1 (hw.2 x hx)) (fun _=>rfl) k5 (by omega)
  exact ⟨m,e,hh.imp id fun h=>⟨h.1,by omega,by omega⟩⟩
 obtain ⟨m,e1,h1'⟩:=KI a l h0 h1 w
 obtain ⟨m',e2,h2⟩:=two
 rw [e1] at e2
 cases e2
 refine ⟨m,e1,?_⟩
 rcases h1' with h | ⟨p1,p2,p3⟩
 ·exact .inl h
 ·rcases h2 with h | ⟨q1,q2,q3⟩
  ·exact .inl h
  ·exact .inr ⟨p1,p2,p3,q3⟩
theorem RE (l:List T_Order.D) (okl:okD (.slice T_Order) l) (Q:Nat) (hQ:Q=600000):∀ (m k:Nat) (c:Int) (g:T_Game.D),m + k=min 12 l.length→okD T_Game g→0≤c→c≤k→g.2.2.2.1.length + m * Q≤33554432→g.2.2.2.2.1.length + m * Q≤33554432→g.2.2.2.2.2.1.length + m * Q≤33554432 →
  ∃ c' i' g',al (mn l) (c,(k:Int),g)=some (c',i',g')∧al (mN l) (c,(k:Int),g)=some (c',i',g')∧okD T_Game g':=by
 have hl:l.length≤33554432:=okl.1
 have hM:(if 12 < (l.length:Int) then 12 else (l.length:Int)).toNat=min 12 l.length:=by split <;> omega
 have hT:((l.take (if 12 < (l.length:Int) then 12 else (l.length:Int)).toNat).drop (0:Int).toNat)=l.take (min 12 l.length):=by rw [hM];rfl
 intro m
 induction m with
 | zero =>
  intro k c g hk ok _ _ _ _ _
  rw [Nat.zero_add] at hk
  refine ⟨c,k,g,aI ?_,aI ?_,ok⟩
  ·unfold mn
   simp only
   by_cases h:(k:Int) < (l.length:Int)
   ·rw [decide_eq_true h,decide_eq_false (by omega)];rfl
   ·rw [decide_eq_false h];rfl
  ·unfold mN
   simp only [hT]
   rw [decide_eq_false (by rw [List.length_take];omega)];rfl
 | succ m ih =>
  intro k c g hk ok c0 c1 q1 q2 q3
  rw [Nat.succ_mul] at q1 q2 q3
  have hlt:k < l.length:=by omega
  have hx:l[k]?=some l[k]:=List.getElem?_eq_getElem hlt
  have hx2:(l.take (min 12 l.length))[k]?=some l[k]:=by rw [List.getElem?_take,if_pos (by omega)];exact hx
  obtain ⟨r,e1,e2,okr,z1,z2,z3⟩:=RC g l[k] ok (okl.2 _ (List.getElem_mem hlt)) (by omega) (by omega) (by omega)
  obtain ⟨c2,i2,g2,s1,s2,s3⟩:=ih (k + 1) (bif r.2.1 then c + 1 else c) r.1 (by omega) okr (by cases r.2.1 <;> simp <;> omega) (by cases r.2.1 <;> simp <;> omega) (by omega) (by omega) (by omega)
  refine ⟨c2,i2,g2,aF ?_ s1,aF ?_ s2,s3⟩
  ·unfold mn
   simp only
   rw [decide_eq_true (show (k:Int) < (l.length:Int) by omega),decide_eq_true (show (k:Int) < 12 by omega)]
   simp only [cond_true,Option.bind_some,ay hx,e1]
   rw [aB (n:=(k:Int) + 1) (by omega) (by omega),aB (n:=c + 1) (by omega) (by omega)]
   cases r.2.1 <;> rfl
  ·unfold mN
   simp only [hT]
   rw [decide_eq_true (show (k:Int) < ((l.take (min 12 l.length)).length:Int) by rw [List.length_take];omega)]
   simp only [cond_true,ay hx2,e2,Option.bind_some]
   rw [aB (n:=(k:Int) + 1) (by omega) (by omega),aB (n:=c + 1) (by omega) (by omega)]
   cases r.2.1 <;> rfl
theorem UV (g:T_Game.D) (l:List T_Order.D) (ok:okD T_Game g) (okl:okD (.slice T_Order) l) (q1:g.2.2.2.1.length + 7200000≤33554432) (q2:g.2.2.2.2.1.length + 7200000≤33554432) (q3:g.2.2.2.2.2.1.length + 7200000≤33554432) :
  ∃ r,zY g l=some r∧ve g l=some r∧okD T_Game r.1:=by
 obtain ⟨c,i,g',s1,s2,s3⟩:=RE l okl 600000 rfl (min 12 l.length) 0 0 g (by omega) ok (by omega) (by omega) (by omega) (by omega) (by omega)
 refine ⟨(g',c,()),?_,?_,s3⟩
 ·unfold zY
  rw [zJ g ok,Option.bind_some]
  have s1:al (mn l) (0,0,g)=some (c,i,g'):=s1
  rw [s1];rfl
 ·unfold ve
  have s2:al (mN l) (0,0,g)=some (c,i,g'):=s2
  rw [zI g ok,Option.bind_some,if_pos (by omega),if_pos (by split <;> omega),if_pos (by split <;> omega),s2];rfl
set_option maxHeartbeats 1600000 in
theorem H1 (ys:List T_Order.D) (k:Int) (i:Nat) (x:T_Order.D) (hx:ys[i]?=some x) (hn:x.2.1.2.2.2.2.2.2.1.2.2.2.2.2.2.1.length≤33554432) (hn2:x.2.2.2.1.length≤33554432) (h0:0≤k) (hk:k≤2305843009213693952) (hi:(i:Int)≤2305843009213693952) :
  ∃ y k',dJ (ys,k,(i:Int))=some (.inl (ys.set i y,k',(i:Int) + 1))∧0≤k'∧k'≤k + (25 + 14 * 33554432):=by
 have hlt:=(List.getElem?_eq_some_iff.1 hx).1
 have hil:((i:Int) < (ys.length:Int)):=by omega
 generalize hL:x.2.1.2.2.2.2.2.2.1.2.2.2.2.2.2.1=L at hn
 generalize hL2:x.2.2.2.1=L2 at hn2
 have h3:¬ ((3:Int)=0):=by decide
 have hm:∀ q:Int,0≤q→q≤3305843009213693952→bQ L q=some (q + (7:Nat) * (L.length:Int),(bJ cI (7:Nat) q L.length,())):=fun q q0 q1=>gK L q (by omega) (by omega) (by omega)
 have hm2:∀ q:Int,0≤q→q≤3305843009213693952→bQ L2 q=some (q + (7:Nat) * (L2.length:Int),(bJ cI (7:Nat) q L2.length,())):=fun q q0 q1=>gK L2 q (by omega) (by omega) (by omega)
 unfold dJ
 simp (disch:=omega) only [hil,decide_true,cond_true,Int.toNat_natCast,ay hx,hx,Option.bind_some,ib hlt,ic hlt,List.set_set,aB,hL,hL2,hm,hm2,h3,if_false]
 refine ⟨_,_,rfl,?_,?_⟩ <;> omega
theorem MK (xs:List T_Order.D) (k:Int) (h:okD (.slice T_Order) xs) (h0:0≤k) (hk:k≤1152921504606846976):∃ n x,kH xs k=some (n,(x,()))∧0≤n:=by
 have hl:xs.length≤33554432:=h.1
 have main:∀ (m i:Nat) (ys:List T_Order.D) (k:Int),m + i=xs.length→ys.length=xs.length→(∀ j,i≤j→ys[j]?=xs[j]?)→0≤k→k + (25 + 14 * 33554432) * (m:Int)≤2305843009213693952 →
   ∃ ys' k' i',al dJ (ys,k,(i:Int))=some (ys',k',i')∧0≤k':=by
  intro m
  induction m with
  | zero =>
   intro i ys k hi hy _ h0 _
   refine ⟨ys,k,i,aI ?_,h0⟩
   unfold dJ
   simp only
   rw [decide_eq_false (by omega)];rfl
  | succ m ih =>
   intro i ys k hi hy hs h0 hk
   have hlt:i < xs.length:=by omega
   have hx:xs[i]?=some xs[i]:=List.getElem?_eq_getElem hlt
   have okx:=h.2 _ (List.getElem_mem hlt)
   obtain ⟨y,k',e,e0,e1⟩:=H1 ys k i xs[i] ((hs i (Nat.le_refl _)).trans hx) okx.2.1.2.2.2.2.2.2.1.2.2.2.2.2.2.1.1 okx.2.2.2.1.1 h0 (by omega) (by omega)
   obtain ⟨ys',k2,i2,g1,g2⟩:=ih (i + 1) (ys.set i y) k' (by omega) (by simpa using hy) (fun j hj=>by rw [List.getElem?_set,if_neg (by omega)];exact hs j (by omega)) e0 (by omega)
   exact ⟨ys',k2,i2,aF e g1,g2⟩
 obtain ⟨ys',k',i',e,e0⟩:=main xs.length 0 xs k (by omega) rfl (fun _ _=>rfl) h0 (by omega)
 have e:al dJ (xs,k,0)=some (ys',k',i'):=e
 unfold kH
 rw [e]
 exact ⟨_,_,rfl,e0⟩
theorem law_Play (g:T_Game.D) (l:List T_Order.D) (wg:T_Game.wf g) (wl:(Ty.slice T_Order).wf l):ot g l=some true:=by
 unfold ot
 obtain ⟨m1,e1,hh⟩:=RD g 1048576 (by omega) (by omega) wg
 rw [e1,Option.bind_some]
 rcases hh with hh | ⟨g0,g1,okg,q1,q2,q3⟩
 ·rw [decide_eq_true hh];rfl
 rw [bb g0];simp only [cond_false]
 obtain ⟨m2,e2,hh⟩:=FP l m1 g0 (by omega) wl
 rw [e2,Option.bind_some]
 rcases hh with hh | ⟨g2,g3,okl⟩
 ·rw [decide_eq_true hh];rfl
 rw [bb g2];simp only [cond_false]
 obtain ⟨r,r1,r2,okr⟩:=UV g l okg okl (by omega) (by omega) (by omega)
 obtain ⟨n1,x1,a1,a2,_⟩:=Bh g okg
 obtain ⟨n2,x2,b1,b2⟩:=MK l n1 okl a2.1 a2.2
 obtain ⟨n3,x3,c1,c2,c3⟩:=Bh r.1 okr
 simp (disch:=omega) only [KJ g okg,FQ l okl,r1,r2,zr _ _ okr,zr _ _ okg,FR _ _ okl,uu (t:=T_Game) rfl,uu (t:=.slice T_Order) rfl,a1,b1,c1,c3,Option.bind_some,bb,bne_self_eq_false,Bool.not_true,cond_false,cond_true]
end Go.Abs
