/- Part of a proof of FnExactDoOrder: see the row. -/
import Derived.Test.YtenadnbpibhmiaaGreatDoPureDOp1
set_option linter.unusedVariables false
set_option linter.unusedSimpArgs false
namespace Go.Abs
def mW (cs:List Int) (n:Int):Int:=match cs with
 | []=>0
 | c :: _=>if n < 2 then 0 else if c.tmod n < 0 then c.tmod n + n else c.tmod n
def lA (cs:List Int) (n:Int):List Int:=match cs with
 | []=>[]
 | c :: r=>if n < 2 then c :: r else r
theorem D8 (cs:List Int) {n:Int} (h:1≤n):0≤mW cs n∧mW cs n < n:=by
 unfold mW
 split
 ·omega
 ·rename_i c r
  split
  ·omega
  ·have h1:=Int.tmod_lt_of_pos c (show 0 < n by omega)
   have h2:-n < c.tmod n:=by
    have:=Int.tmod_lt_of_pos (-c) (show 0 < n by omega)
    rw [Int.neg_tmod] at this
    omega
   split <;> omega
theorem qU (cs:List Int) (n:Int):lA cs n <:+ cs:=by
 unfold lA
 split
 ·exact List.suffix_refl _
 ·split
  ·exact List.suffix_refl _
  ·exact List.suffix_cons _ _
theorem eF (a:List Int) (h:a.length≤33554432):bm a=some a:=by
 unfold bm
 rw [if_pos (by simp only [aC,List.length_nil];omega),List.nil_append]
theorem D9 (cs:List Int) (n:Int) (h:cs.length≤33554432) (hn:n≤33554432):uG cs n=some (mW cs n,lA cs n,()):=by
 unfold uG
 by_cases h2:n < 2
 ·rw [decide_eq_true h2]
  simp only [cond_true,Option.bind_some,eF cs h]
  unfold mW lA
  cases cs <;> simp [h2]
 ·rw [decide_eq_false h2]
  cases cs with
  | nil=>simp [mW,lA,eF]
  | cons c r =>
   have h1:=Int.tmod_lt_of_pos c (show 0 < n by omega)
   have h3:-n < c.tmod n:=by
    have:=Int.tmod_lt_of_pos (-c) (show 0 < n by omega)
    rw [Int.neg_tmod] at this
    omega
   have hl:((c :: r).length:Int)=(r.length:Int) + 1:=by simp
   have e0:(((c :: r).length:Int) == 0)=false:=by rw [hl,beq_eq_false_iff_ne];omega
   have ei:∀ {R:Type} (κ:Int→Option R),idx (c :: r) 0 κ=κ c:=fun κ=>ay (i:=0) rfl
   simp only [cond_false,e0,Option.bind_some,ei]
   rw [if_neg (by omega)]
   simp only [List.length_cons] at h
   simp only [mW,lA,if_neg h2]
   by_cases hneg:c.tmod n < 0
   ·rw [decide_eq_true hneg,if_pos hneg]
    simp only [cond_true,Option.bind_some]
    rw [aB (by omega) (by omega),if_pos (by omega),if_pos (by omega),if_pos (by omega)]
    have:(((c :: r).take ((c :: r).length:Int).toNat).drop (1:Int).toNat)=r:=by simp
    rw [this,eF r (by omega)]
    rfl
   ·rw [decide_eq_false hneg,if_neg hneg]
    simp only [cond_false,Option.bind_some]
    rw [if_pos (by omega),if_pos (by omega),if_pos (by omega)]
    have:(((c :: r).take ((c :: r).length:Int).toNat).drop (1:Int).toNat)=r:=by simp
    rw [this,eF r (by omega)]
    rfl
theorem Ea (cs:List Int) (n:Int) (h:cs.length≤33554432) (hn:n≤33554432):uy cs n=some (mW cs n,lA cs n,()):=by
 unfold uy
 by_cases h2:n < 2
 ·rw [decide_eq_true h2]
  simp only [cond_true,Option.bind_some]
  rw [if_pos (by simp only [aC,List.length_nil];omega)]
  unfold mW lA
  cases cs <;> simp [h2]
 ·rw [decide_eq_false h2]
  cases cs with
  | nil=>simp [mW,lA,aC]
  | cons c r =>
   have h1:=Int.tmod_lt_of_pos c (show 0 < n by omega)
   have h3:-n < c.tmod n:=by
    have:=Int.tmod_lt_of_pos (-c) (show 0 < n by omega)
    rw [Int.neg_tmod] at this
    omega
   have hl:((c :: r).length:Int)=(r.length:Int) + 1:=by simp
   have e0:(((c :: r).length:Int) == 0)=false:=by rw [hl,beq_eq_false_iff_ne];omega
   have ei:∀ {R:Type} (κ:Int→Option R),idx (c :: r) 0 κ=κ c:=fun κ=>ay (i:=0) rfl
   simp only [cond_false,e0,Option.bind_some,ei]
   rw [if_neg (by omega)]
   simp only [List.length_cons] at h
   simp only [mW,lA,if_neg h2]
   have hd:(((c :: r).take ((c :: r).length:Int).toNat).drop (1:Int).toNat)=r:=by simp
   by_cases hneg:c.tmod n < 0
   ·rw [decide_eq_true hneg,if_pos hneg]
    simp only [cond_true,Option.bind_some]
    rw [aB (by omega) (by omega),if_pos (by omega),if_pos (by omega),if_pos (by omega),hd,if_pos (by simp only [aC,List.length_nil];omega)]
    rfl
   ·rw [decide_eq_false hneg,if_neg hneg]
    simp only [cond_false,Option.bind_some]
    rw [if_pos (by omega),if_pos (by omega),if_pos (by omega),hd,if_pos (by simp only [aC,List.length_nil];omega)]
    rfl
theorem Sj (xs:List af.D) (k:Nat) (h:k < xs.length) (hl:xs.length≤33554432):dk xs (k:Int) (IntKind.wrap .i64 ((k:Int) + 1))=some (xs.eraseIdx k,()):=by
 unfold dk
 rw [aB (by omega) (by omega)]
 have e0:((k:Int) == (k:Int) + 1)=false:=by rw [beq_eq_false_iff_ne];omega
 have t1:((k:Int) + 1).toNat=k + 1:=by omega
 have t2:(xs.length:Int).toNat=xs.length:=by omega
 have t3:k + (xs.length - (k + 1)) - 0=xs.length - 1:=by omega
 have t4:k + (xs.length - (k + 1))=xs.length - 1:=by omega
 simp only [e0,cond_false,t1,t2,Int.toNat_natCast,t3,t4]
 rw [if_pos (by omega),if_pos (by omega),if_pos (by omega),if_pos (by omega),if_pos (by omega),if_pos (by omega),if_pos (by omega),if_pos (by omega),if_pos (by omega),if_pos (by omega),if_pos (by omega),if_pos (by omega),if_pos (by omega),if_pos (by omega),if_pos (by omega)]
 have hlen:(xs.take k++(xs.take xs.length).drop (k + 1)++xs.drop (xs.length - 1)).length=xs.length:=by simp;omega
 rw [if_pos (by rw [hlen];omega)]
 rw [List.drop_zero,List.append_assoc,List.take_append_of_le_length (by rw [List.length_take,hlen];omega),List.take_take,show min (xs.length - 1) (xs.length - 1 - 0)=xs.length - 1 by omega,List.append_assoc,← List.append_assoc,List.take_append_of_le_length (by simp;omega),List.take_of_length_le (by simp;omega),List.take_length,List.eraseIdx_eq_take_drop_succ]
def ej:Nat→List Int→List af.D→List Int×List af.D
 | 0,cs,_=>(cs,[])
 | n + 1,cs,own=>match own[(mW cs own.length).toNat]? with
  | none=>(cs,[])
  | some x=>((ej n (lA cs own.length) (own.eraseIdx (mW cs own.length).toNat)).1,x :: (ej n (lA cs own.length) (own.eraseIdx (mW cs own.length).toNat)).2)
theorem F7 (n:Nat) (cs:List Int) (own:List af.D):ej (n + 1) cs own=match own[(mW cs own.length).toNat]? with
  | none=>(cs,[])
  | some x=>((ej n (lA cs own.length) (own.eraseIdx (mW cs own.length).toNat)).1,x :: (ej n (lA cs own.length) (own.eraseIdx (mW cs own.length).toNat)).2):=rfl
theorem A4 {α:Type}:∀ (l:List α) (k:Nat) (x:α),l[k]?=some x→(x :: l.eraseIdx k).Perm l
 | [],k,x,h=>by simp at h
 | a :: l,0,x,h=>by simp at h;subst h;simp
 | a :: l,k + 1,x,h=>by
  simp only [List.getElem?_cons_succ] at h
  simp only [List.eraseIdx_cons_succ]
  exact (List.Perm.swap a x _).trans ((A4 l k x h).cons a)
theorem zw:∀ (n:Nat) (cs:List Int) (own:List af.D),own.length=n→(ej n cs own).2.Perm own∧(ej n cs own).1 <:+ cs
 | 0,cs,own,h=>by
  have:own=[]:=List.eq_nil_of_length_eq_zero h
  subst this
  exact ⟨List.Perm.nil,List.suffix_refl _⟩
 | n + 1,cs,own,h=>by
  obtain ⟨h1,h2⟩:=D8 cs (n:=own.length) (by omega)
  have hk:(mW cs own.length).toNat < own.length:=by omega
  have hx:=List.getElem?_eq_getElem hk
  obtain ⟨g1,g2⟩:=zw n (lA cs own.length) (own.eraseIdx (mW cs own.length).toNat) (by rw [List.length_eraseIdx_of_lt hk];omega)
  unfold ej
  rw [hx]
  exact ⟨(g1.cons _).trans (A4 own _ _ hx),g2.trans (qU _ _)⟩
theorem A5:∀ (n:Nat) (cs:List Int) (out own:List af.D),own.length=n→n≤33554432→out.length + n≤33554432→cs.length≤33554432 →
  al kC (cs,out,own)=some ((ej n cs own).1,out++(ej n cs own).2,[])
 | 0,cs,out,own,h,_,_,_=>by
  have:own=[]:=List.eq_nil_of_length_eq_zero h
  subst this
  refine aP ?_
  unfold kC ej
  simp
 | n + 1,cs,out,own,h,hn,ho,hc=>by
  obtain ⟨h1,h2⟩:=D8 cs (n:=own.length) (by omega)
  obtain ⟨k,hk⟩:=Int.eq_ofNat_of_zero_le h1
  have hkl:k < own.length:=by omega
  have hx:=List.getElem?_eq_getElem hkl
  have hr:=(qU cs own.length).length_le
  have ih:=A5 n (lA cs own.length) (out++[own[k]]) (own.eraseIdx k) (by rw [List.length_eraseIdx_of_lt hkl];omega) (by omega) (by simp;omega) (by omega)
  refine aG (s':=(lA cs own.length,out++[own[k]],own.eraseIdx k)) ?_ ?_
  ·unfold kC
   have hp:(own.length:Int) > 0:=by omega
   simp only [hp,decide_true,cond_true,D9 cs own.length hc (by omega),Option.bind_some,hk,ay hx,Int.toNat_natCast,hx]
   rw [if_pos (by simp only [aC,List.length_cons,List.length_nil];omega),Sj own k hkl (by omega),Option.bind_some]
  ·rw [ih]
   rw [F7,hk,Int.toNat_natCast,hx]
   simp
theorem A6:∀ (n:Nat) (cs:List Int) (out own:List af.D),own.length=n→n≤33554432→out.length + n≤33554432→cs.length≤33554432 →
  al kq (out,cs,own)=some (out++(ej n cs own).2,(ej n cs own).1,[])
 | 0,cs,out,own,h,_,_,_=>by
  have:own=[]:=List.eq_nil_of_length_eq_zero h
  subst this
  refine aP ?_
  unfold kq ej
  simp
 | n + 1,cs,out,own,h,hn,ho,hc=>by
  obtain ⟨h1,h2⟩:=D8 cs (n:=own.length) (by omega)
  obtain ⟨k,hk⟩:=Int.eq_ofNat_of_zero_le h1
  have hkl:k < own.length:=by omega
  have hx:=List.getElem?_eq_getElem hkl
  have hr:=(qU cs own.length).length_le
  have ih:=A6 n (lA cs own.length) (out++[own[k]]) (own.eraseIdx k) (by rw [List.length_eraseIdx_of_lt hkl];omega) (by omega) (by simp;omega) (by omega)
  refine aG (s':=(out++[own[k]],lA cs own.length,own.eraseIdx k)) ?_ ?_
  ·unfold kq
   have hp:(own.length:Int) > 0:=by omega
   have t1:((k:Int) + 1).toNat=k + 1:=by omega
   have t2:(own.length:Int).toNat=own.length:=by omega
   simp only [hp,decide_true,cond_true,Ea cs own.length hc (by omega),Option.bind_some,hk,ay hx,Int.toNat_natCast,hx]
   rw [aB (by omega) (by omega)]
   have l1:((own.take k).drop (0:Int).toNat).length=k:=by simp;omega
   have l2:((own.take own.length).drop ((k:Int) + 1).toNat).length=own.length - (k + 1):=by rw [t1];simp
   rw [if_pos (by simp only [aC,List.length_cons,List.length_nil];omega),if_pos (by omega),if_pos (by omega),if_pos (by omega),if_pos (by rw [l1];simp only [aC,List.length_nil];omega),if_pos (by omega),if_pos (by omega),if_pos (by omega),if_pos (by rw [List.nil_append,l1,l2];simp only [aC];omega)]
   simp [t1,List.eraseIdx_eq_take_drop_succ]
  ·rw [ih]
   rw [F7,hk,Int.toNat_natCast,hx]
   simp
def mX (l:List af.D) (done:List Int):List af.D:=l.filter fun x=>!(done.any fun z=>z == x.2.1)
def vf (l:List af.D):List Int→List Int→List Int×List af.D
 | [],cs=>(cs,[])
 | s :: r,cs=>((vf l r (ej (l.filter fun x=>x.2.1 == s).length cs (l.filter fun x=>x.2.1 == s)).1).1,(ej (l.filter fun x=>x.2.1 == s).length cs (l.filter fun x=>x.2.1 == s)).2++(vf l r (ej (l.filter fun x=>x.2.1 == s).length cs (l.filter fun x=>x.2.1 == s)).1).2)
theorem PY (l:List af.D) (done:List Int) (s:Int) (h:s ∉ done):(mX l done).filter (fun x=>x.2.1 == s)=l.filter fun x=>x.2.1 == s:=by
 unfold mX
 rw [List.filter_filter]
 refine List.filter_congr fun x _=>?_
 cases hx:x.2.1 == s with
 | false=>rfl
 | true =>
  have hx:=eq_of_beq hx
  have:(done.any fun z=>z == x.2.1)=false:=by
   rw [List.any_eq_false]
   intro z hz hzs
   have:=eq_of_beq hzs
   rw [hx] at this
   exact h (this ▸ hz)
  rw [this];rfl
theorem MS (l:List af.D) (done:List Int) (s:Int):(mX l done).filter (fun x=>!(x.2.1 == s))=mX l (done++[s]):=by
 unfold mX
 rw [List.filter_filter]
 refine List.filter_congr fun x _=>?_
 rw [List.any_append]
 simp only [List.any_cons,List.any_nil,Bool.or_false,Bool.not_or]
 rw [Bool.and_comm,show (x.2.1 == s)=(s == x.2.1) from Bool.eq_iff_iff.2 (by simp only [beq_iff_eq];exact eq_comm)]
theorem zx (l:List af.D) (sides:List Int) (hl:l.length≤33554432) (hs:sides.length≤33554432) (hn:sides.Nodup):∀ (rem done cs:List Int) (out:List af.D),sides=done++rem→cs.length≤33554432→out.length + (mX l done).length=l.length →
  al (kD sides) (cs,out,mX l done,(done.length:Int))=some ((vf l rem cs).1,out++(vf l rem cs).2,mX l sides,(sides.length:Int))∧(out++(vf l rem cs).2).length + (mX l sides).length=l.length∧(vf l rem cs).1 <:+ cs
 | [],done,cs,out,e,hc,ho=>by
  simp only [List.append_nil] at e
  subst e
  refine ⟨aP ?_,by simpa [vf] using ho,List.suffix_refl _⟩
  unfold kD vf
  simp
 | s :: rem,done,cs,out,e,hc,ho=>by
  have hnd:s ∉ done:=by
   rw [e,List.nodup_append] at hn
   exact fun hm=>hn.2.2 s hm s (by simp) rfl
  have hlt:done.length < sides.length:=by rw [e];simp
  have hx:sides[done.length]?=some s:=by rw [e];simp
  have hkl:(mX l done).length≤l.length:=List.length_filter_le _ _
  have hown:=PY l done s hnd
  have hrest:=MS l done s
  have hparts:=qS (fun x:af.D=>x.2.1 == s) (mX l done)
  rw [hown,hrest] at hparts
  obtain ⟨p1,p2⟩:=zw _ cs (l.filter fun x=>x.2.1 == s) rfl
  have hpl:=p1.length_eq
  have hsl:=p2.length_le
  obtain ⟨i1,i2,i3⟩:=zx l sides hl hs hn rem (done++[s]) (ej (l.filter fun x=>x.2.1 == s).length cs (l.filter fun x=>x.2.1 == s)).1 (out++(ej (l.filter fun x=>x.2.1 == s).length cs (l.filter fun x=>x.2.1 == s)).2) (by rw [e];simp) (by omega) (by rw [List.length_append];omega)
  refine ⟨aG (s':=((ej (l.filter fun x=>x.2.1 == s).length cs (l.filter fun x=>x.2.1 == s)).1,out++(ej (l.filter fun x=>x.2.1 == s).length cs (l.filter fun x=>x.2.1 == s)).2,mX l (done++[s]),((done++[s]).length:Int))) ?_ ?_,?_,i3.trans p2⟩
  ·have hil:((done.length:Int) < (sides.length:Int)):=by omega
   unfold kD
   simp only [hil,decide_true,cond_true,ay hx,Int.toNat_natCast,hx,Option.bind_some]
   rw [B7 _ _ (by omega),hown,Option.bind_some,su _ (by omega) (fun x=>x.2.1 == s) _ (fun x=>rfl),hrest,Option.bind_some,
    A5 _ cs out _ rfl (by omega) (by omega) hc,Option.bind_some,aB (by omega) (by omega)]
   simp
  ·rw [i1]
   simp [vf]
  ·simpa [vf,List.append_assoc] using i2
theorem zy (l:List af.D) (sides:List Int) (hl:l.length≤33554432) (hs:sides.length≤33554432) (hn:sides.Nodup):∀ (rem done cs:List Int) (out:List af.D),sides=done++rem→cs.length≤33554432→out.length + (mX l done).length=l.length →
  al (kr l sides) (out,cs,(done.length:Int))=some (out++(vf l rem cs).2,(vf l rem cs).1,(sides.length:Int))
 | [],done,cs,out,e,hc,ho=>by
  simp only [List.append_nil] at e
  subst e
  refine aP ?_
  unfold kr vf
  simp
 | s :: rem,done,cs,out,e,hc,ho=>by
  have hnd:s ∉ done:=by
   rw [e,List.nodup_append] at hn
   exact fun hm=>hn.2.2 s hm s (by simp) rfl
  have hlt:done.length < sides.length:=by rw [e];simp
  have hx:sides[done.length]?=some s:=by rw [e];simp
  have hkl:(mX l done).length≤l.length:=List.length_filter_le _ _
  have hown:=PY l done s hnd
  have hrest:=MS l done s
  have hparts:=qS (fun x:af.D=>x.2.1 == s) (mX l done)
  rw [hown,hrest] at hparts
  obtain ⟨p1,p2⟩:=zw _ cs (l.filter fun x=>x.2.1 == s) rfl
  have hpl:=p1.length_eq
  have hsl:=p2.length_le
  have i1:=zy l sides hl hs hn rem (done++[s]) (ej (l.filter fun x=>x.2.1 == s).length cs (l.filter fun x=>x.2.1 == s)).1 (out++(ej (l.filter fun x=>x.2.1 == s).length cs (l.filter fun x=>x.2.1 == s)).2) (by rw [e];simp) (by omega) (by rw [List.length_append];omega)
  refine aG (s':=(out++(ej (l.filter fun x=>x.2.1 == s).length cs (l.filter fun x=>x.2.1 == s)).2,(ej (l.filter fun x=>x.2.1 == s).length cs (l.filter fun x=>x.2.1 == s)).1,((done++[s]).length:Int))) ?_ ?_
  ·have hil:((done.length:Int) < (sides.length:Int)):=by omega
   unfold kr
   simp only [hil,decide_true,cond_true,ay hx,Int.toNat_natCast,hx,Option.bind_some]
   rw [B6 _ _ (by omega),Option.bind_some,A6 _ cs out _ rfl (by omega) (by omega) hc,Option.bind_some,aB (by omega) (by omega)]
   simp
  ·rw [i1]
   simp [vf]
noncomputable def mY (s:ae.D) (l:List af.D) (cs:List Int):List af.D×List Int:=((vf l (dp s) cs).2++mX l (dp s),(vf l (dp s) cs).1)
theorem KA (s:ae.D) (l:List af.D) (cs:List Int) (hs:s.2.1.length≤33554432) (hl:l.length≤33554432) (hc:cs.length≤33554432) :
  mf s l cs=some ((mY s l cs).1,(mY s l cs).2,())∧mD s l cs=some ((mY s l cs).1,(mY s l cs).2,())∧(mY s l cs).1.length=l.length∧(mY s l cs).2 <:+ cs:=by
 have hol:=QZ s
 have hk0:mX l []=l:=by unfold mX;simp
 have hn:=Oi s hs
 obtain ⟨h1,h2,h3⟩:=zx l (dp s) hl (by omega) hn (dp s) [] cs [] rfl hc (by rw [hk0];simp)
 have h4:=zy l (dp s) hl (by omega) hn (dp s) [] cs [] rfl hc (by rw [hk0];simp)
 simp only [List.nil_append,List.length_nil,hk0,Int.natCast_zero] at h1 h2 h4
 refine ⟨?_,?_,by unfold mY;simp only [List.length_append];exact h2,h3⟩
 ·unfold mf
  rw [if_pos (by simp only [aC,List.length_nil];omega),tJ s hs,Option.bind_some,List.nil_append,h4,Option.bind_some]
  have key:al (gQ l (dp s)) ((vf l (dp s) cs).2,0)=some ((vf l (dp s) cs).2++mX l (dp s),(l.length:Int)):=by
   have:=(ED l (body:=gQ l (dp s)) (fun (t:List af.D) _ x=>t++(if (!((dp s).any fun z=>z == x.2.1)) then [x] else [])) (fun i t=>t.length≤(vf l (dp s) cs).2.length + i) (fun t=>t) (vf l (dp s) cs).2 (by omega) (by omega) (fun t i x hI hx=>⟨?_,?_⟩) (fun t hI=>?_)).1
   ·rw [this,rz (fun _ (x:af.D)=>if (!((dp s).any fun z=>z == x.2.1)) then [x] else []),iE]
    rfl
   ·have hlt:=(List.getElem?_eq_some_iff.1 hx).1
    have hil:((i:Int) < (l.length:Int)):=by omega
    unfold gQ
    simp only [hil,decide_true,cond_true,ay hx,Option.bind_some]
    rw [zv _ _ (by omega),Option.bind_some,if_pos (by simp only [aC,List.length_cons,List.length_nil];omega)]
    cases ((dp s).any fun z=>z == x.2.1) <;> simp
   ·rw [List.length_append]
    split <;> simp <;> omega
   ·unfold gQ;simp
  rw [key,Option.bind_some]
  rfl
 ·unfold mD bv
  rw [if_pos (by simp only [aC,List.length_nil];omega),eF cs hc]
  simp only [Option.bind_some,List.nil_append,tK s hs,h1]
  rw [if_pos (by simp only [aC];omega)]
  rfl
theorem PZ (l:List Int) (a:Int) (h:l.length≤33554432):C7 l a=some (l.any (fun x=>a == x)):=by
 unfold C7 jy nT
 rw [dH l (body:=fM l a) (fun x=>a == x) (fun i=>i) (by omega) (fun i x hx=>?_) ?_]
 ·rw [← Fy]
  cases bD (fun x=>a == x) l <;> rfl
 ·unfold fM
  simp
 ·unfold fM
  have hlt:=(List.getElem?_eq_some_iff.1 hx).1
  have:((i:Int) < (l.length:Int)):=by omega
  simp only [this,decide_true,cond_true,ay hx]
theorem Q1 (n:Int) (h0:0≤n) (h1:n≤33554432):eD () n=some ([],()):=by
 unfold eD
 rw [bb h0]
 simp only [cond_false,Option.bind_some]
 have z:IntKind.wrap .i64 (0 - 0)=0:=aB (by omega) (by omega)
 rw [z,Int.sub_zero,aB (by omega) (by omega)]
 by_cases hn:n > 0
 ·rw [decide_eq_true hn]
  simp only [cond_true,Int.le_refl,if_true]
  rw [if_pos (by omega),if_pos hn,if_pos (by simp only [aC];omega),if_pos (by omega)]
  simp
 ·rw [decide_eq_false hn];rfl
theorem Sk (n:Int) (h0:0≤n) (h1:n≤33554432):eQ () n=some ([],()):=by
 unfold eQ
 rw [bb h0]
 simp only [cond_false,Option.bind_some]
 have z:IntKind.wrap .i64 (0 - 0)=0:=aB (by omega) (by omega)
 rw [z,Int.sub_zero,aB (by omega) (by omega)]
 by_cases hn:n > 0
 ·rw [decide_eq_true hn]
  simp only [cond_true,Int.le_refl,if_true]
  rw [if_pos (by omega),if_pos hn,if_pos (by simp only [aC];omega),if_pos (by omega)]
  simp
 ·rw [decide_eq_false hn];rfl
theorem Oj (a b:List ac.D) (h:a.length + b.length≤33554432):dO [a,b]=some (a++b):=by
 have i0:([a,b]:List (List ac.D))[0]?=some a:=rfl
 have i1:([a,b]:List (List ac.D))[1]?=some b:=rfl
 have e1:al (bW [a,b]) (0,0)=some ((a.length:Int) + (b.length:Int),2):=by
  refine aG (s':=((a.length:Int),1)) ?_ (aG (s':=((a.length:Int) + (b.length:Int),2)) ?_ (aP ?_))
  ·unfold bW
   rw [decide_eq_true (by simp)]
   simp only [cond_true]
   rw [show ((0:Int))=((0:Nat):Int) from rfl,ay i0]
   simp (disch:=omega) only [aB,bb,cond_false]
   first | (simp;done) | (simp;rw [bb (by omega)];rfl)
  ·unfold bW
   rw [decide_eq_true (by simp)]
   simp only [cond_true]
   rw [show ((1:Int))=((1:Nat):Int) from rfl,ay i1]
   simp (disch:=omega) only [aB,bb,cond_false]
   first | (simp;done) | (simp;rw [bb (by omega)];rfl)
  ·unfold bW
   simp
 have e2:al (bX [a,b]) ([],0)=some (a++b,2):=by
  refine aG (s':=(a,1)) ?_ (aG (s':=(a++b,2)) ?_ (aP ?_))
  ·unfold bX
   rw [decide_eq_true (by simp)]
   simp only [cond_true]
   rw [show ((0:Int))=((0:Nat):Int) from rfl,ay i0]
   rw [if_pos (by simp only [aC,List.length_nil];omega)]
   simp (disch:=omega) only [aB]
   simp
  ·unfold bX
   rw [decide_eq_true (by simp)]
   simp only [cond_true]
   rw [show ((1:Int))=((1:Nat):Int) from rfl,ay i1]
   rw [if_pos (by simp only [aC];omega)]
   simp (disch:=omega) only [aB]
   simp
  ·unfold bX
   simp
 unfold dO
 rw [e1,Option.bind_some]
 simp only
 rw [Q1 _ (by omega) (by omega),Option.bind_some]
 simp only
 rw [e2,Option.bind_some]
theorem P0 (a b:List au.D) (h:a.length + b.length≤33554432):dY [a,b]=some (a++b):=by
 have i0:([a,b]:List (List dU.D))[0]?=some a:=rfl
 have i1:([a,b]:List (List dU.D))[1]?=some b:=rfl
 have e1:al (ce [a,b]) (0,0)=some ((a.length:Int) + (b.length:Int),2):=by
  refine aG (s':=((a.length:Int),1)) ?_ (aG (s':=((a.length:Int) + (b.length:Int),2)) ?_ (aP ?_))
  ·unfold ce
   rw [decide_eq_true (by simp)]
   simp only [cond_true]
   rw [show ((0:Int))=((0:Nat):Int) from rfl,ay i0]
   simp (disch:=omega) only [aB,bb,cond_false]
   first | (simp;done) | (simp;rw [bb (by omega)];rfl)
  ·unfold ce
   rw [decide_eq_true (by simp)]
   simp only [cond_true]
   rw [show ((1:Int))=((1:Nat):Int) from rfl,ay i1]
   simp (disch:=omega) only [aB,bb,cond_false]
   first | (simp;done) | (simp;rw [bb (by omega)];rfl)
  ·unfold ce
   simp
 have e2:al (cf [a,b]) ([],0)=some ((a++b:List au.D),2):=by
  refine aG (s':=(a,1)) ?_ (aG (s':=((a++b:List au.D),2)) ?_ (aP ?_))
  ·unfold cf
   rw [decide_eq_true (by simp)]
   simp only [cond_true]
   rw [show ((0:Int))=((0:Nat):Int) from rfl,ay i0]
   rw [if_pos (by simp only [aC,List.length_nil];omega)]
   simp (disch:=omega) only [aB]
   simp
  ·unfold cf
   rw [decide_eq_true (by simp)]
   simp only [cond_true]
   rw [show ((1:Int))=((1:Nat):Int) from rfl,ay i1]
   rw [if_pos (by simp only [aC];omega)]
   simp (disch:=omega) only [aB]
   simp
  ·unfold cf
   simp
 unfold dY
 rw [e1,Option.bind_some]
 simp only
 rw [Sk _ (by omega) (by omega),Option.bind_some]
 simp only
 rw [e2,Option.bind_some]
theorem p7 (xs:List au.D) (h:okD (.slice au) xs):f8 xs=some xs:=by
 have hl:xs.length≤33554432:=h.1
 unfold f8
 rw [cx xs (fun _ x=>[x]) (fun s=>s) (fun _ _=>by simp) (by omega) (fun t i x hI hx=>?_) (fun t=>?_)]
 ·rw [Option.bind_some,iW];simp
 ·have hlt:=(List.getElem?_eq_some_iff.1 hx).1
  have hil:((i:Int) < (xs.length:Int)):=by omega
  have hle:=(h.2 x (List.mem_of_getElem? hx)).2.2.2.2.2.1.1
  unfold mj bd
  simp only [hil,decide_true,cond_true,ay hx,List.nil_append]
  rw [if_pos (by simp only [aC,List.length_nil];omega)]
  simp only [Option.bind_some]
  rw [if_pos (by simp only [aC,List.length_cons,List.length_nil];omega)]
 ·unfold mj;simp
theorem wW (xs:List au.D) (h:okD (.slice au) xs):jI xs=some xs:=by
 have hl:xs.length≤33554432:=h.1
 unfold jI
 rw [cx xs (fun _ x=>[x]) (fun s=>s) (fun _ _=>by simp) (by omega) (fun t i x hI hx=>?_) (fun t=>?_)]
 ·rw [Option.bind_some,iW];simp
 ·have hlt:=(List.getElem?_eq_some_iff.1 hx).1
  have hil:((i:Int) < (xs.length:Int)):=by omega
  have hle:=(h.2 x (List.mem_of_getElem? hx)).2.2.2.2.2.1.1
  unfold nG vK
  simp only [hil,decide_true,cond_true,ay hx,List.nil_append]
  rw [if_pos (by simp only [aC,List.length_nil];omega)]
  simp only [Option.bind_some]
  rw [if_pos (by simp only [aC,List.length_cons,List.length_nil];omega)]
 ·unfold nG;simp
theorem sv (f:ba.D) (h:okD ba f):i9 f=some f:=by
 have h1:f.1.length≤33554432:=h.1.1
 have h3:f.2.2.1.length≤33554432:=h.2.2.1.1
 unfold i9
 rw [if_pos (by simp only [aC,List.length_nil];omega),ci _ h.2.1,Option.bind_some,if_pos (by simp only [aC,List.length_nil];omega),wW _ h.2.2.2.1]
 rfl
theorem t9:∀ (xs ys:List Int),xs.Nodup→(∀ x∈xs,x∈ys)→xs.length≤ys.length
 | [],_,_,_=>Nat.zero_le _
 | x :: xs,ys,h,hs=>by
  have hx:x∈ys:=hs x (List.mem_cons_self ..)
  obtain ⟨h1,h2⟩:=List.nodup_cons.1 h
  have:=t9 xs (ys.erase x) h2 (fun y hy=>by
   refine (List.mem_erase_of_ne ?_).2 (hs y (List.mem_cons_of_mem _ hy))
   intro e;subst e;exact h1 hy)
  rw [List.length_erase_of_mem hx] at this
  have:0 < ys.length:=List.length_pos_of_mem hx
  simp only [List.length_cons]
  omega
theorem P1 (out:List Int) (k:Nat) (x:Int):(out.take k++[x]++out.drop k).Perm (out++[x]):=by
 have h:(out.take k++([x]++out.drop k)).Perm (out.take k++(out.drop k++[x])):=List.Perm.append_left _ List.perm_append_comm
 have e:out.take k++(out.drop k++[x])=out++[x]:=by rw [← List.append_assoc,List.take_append_drop]
 rw [e] at h
 rw [List.append_assoc]
 exact h
theorem B8 (l:List Int) (a:Int):l.any (fun x=>x == a)=decide (a∈l):=by
 by_cases h:a∈l
 ·rw [decide_eq_true h,List.any_eq_true];exact ⟨a,h,by simp⟩
 ·rw [decide_eq_false h,List.any_eq_false]
  intro x hx e
  have:x=a:=by simpa using e
  subst this;exact h hx
theorem P2 (l:List Int) (a:Int):l.any (fun x=>a == x)=decide (a∈l):=by
 rw [← B8]
 congr 1
 funext x
 exact Bool.beq_comm
theorem MT (s:ae.D) (e:ac.D) (h:s.1.length≤33554432):∃ t,pb s e=some t∧pv s e=some t:=by
 unfold pb pv aQ
 simp only [gL,dn,eY s _ h,eZ s _ h,Option.bind_some]
 cases (e.2.2.1 == 0)
 ·simp only [cond_false]
  rcases jV s e.2.2.1 with h | ⟨k,x,h1,h2,_⟩
  ·rw [h];exact ⟨-1,rfl,rfl⟩
  ·rw [h1,bb (by omega)]
   simp only [cond_false,ay h2]
   exact ⟨_,rfl,rfl⟩
 ·generalize (decide (0≤e.2.2.2.1) && decide (e.2.2.2.1≤IntKind.wrap .i64 ((s.2.1.length:Int) - 1)))=b
  cases b <;> exact ⟨_,rfl,rfl⟩
theorem Q2 (s:ae.D) (e:ac.D) (h:s.1.length≤33554432):∃ t,qy s e=some t∧qK s e=some t:=by
 obtain ⟨t,h1,h2⟩:=MT s e h
 unfold qy qK
 rw [h1,h2]
 simp only [Option.bind_some,bne]
 cases (t == -1) <;> exact ⟨_,rfl,rfl⟩
def P3 {α:Type} (p:α→Bool) (n:Int) (_:Nat) (x:α):Int:=if p x then n + 1 else n
theorem KB {α:Type} (p:α→Bool):∀ (xs:List α) (i:Nat) (n:Int),dI (P3 p) i xs n=n + ((xs.filter p).length:Int)
 | [],_,n=>by simp [dI]
 | x :: xs,i,n=>by
  unfold dI
  rw [KB p xs]
  unfold P3
  by_cases h:p x=true
  ·rw [if_pos h,List.filter_cons_of_pos h,List.length_cons];omega
  ·rw [if_neg h,List.filter_cons_of_neg h]
theorem KD {α:Type} (xs:List α) (hl:xs.length≤33554432) (p:α→Bool) {body:(Int×Int)→Option ((Int×Int)⊕(Int×Int))}
  (hb:∀ (n:Int) (i:Nat) x,0≤n→n≤i→xs[i]?=some x→body (n,(i:Int))=some (.inl (P3 p n i x,IntKind.wrap .i64 ((i:Int) + 1))))
  (he:∀ n,body (n,(xs.length:Int))=some (.inr (n,(xs.length:Int)))) :
  al body (0,0)=some (((xs.filter p).length:Int),(xs.length:Int)):=by
 have:=(ED xs (body:=body) (P3 p) (fun i n=>0≤n∧n≤i) (fun s=>s) 0 (by simp) (by omega) (fun n i x hI hx=>⟨hb n i x hI.1 hI.2 hx,by
  unfold P3;split <;> omega⟩) (fun n _=>he n)).1
 rw [this,KB]
 simp
def MU (a:Int) (x:ah.D):Bool:=(x.2.2.2.1 == 2) && (x.2.2.1 == a) && x.2.2.2.2.2.2.2.2.2.2.2.2.1
def F8 (a:Int) (x:ah.D):Bool:=(x.2.2.2.1 == 2) && (x.2.2.1 == a)
theorem KE (s:ae.D) (a:Int) (h:s.1.length≤33554432):tu s a=some ((s.1.filter (MU a)).length:Int):=by
 unfold tu
 rw [KD s.1 h (MU a) (fun n i x h0 h1 hx=>?_) (fun n=>by unfold rM;simp)]
 ·rfl
 ·have hlt:=(List.getElem?_eq_some_iff.1 hx).1
  have hil:((i:Int) < (s.1.length:Int)):=by omega
  have hw:IntKind.wrap .i64 (n + 1)=n + 1:=aB (by omega) (by omega)
  unfold rM P3 MU
  simp only [hil,decide_true,cond_true,ay hx,hw]
  cases (x.2.2.2.1 == 2) <;> cases (x.2.2.1 == a) <;> cases x.2.2.2.2.2.2.2.2.2.2.2.2.1 <;> rfl
theorem KF (s:ae.D) (a:Int) (h:s.1.length≤33554432):sY s a=some ((s.1.filter (MU a)).length:Int):=by
 unfold sY
 rw [KD s.1 h (MU a) (fun n i x h0 h1 hx=>?_) (fun n=>by unfold rD;simp)]
 ·rfl
 ·have hlt:=(List.getElem?_eq_some_iff.1 hx).1
  have hil:((i:Int) < (s.1.length:Int)):=by omega
  have hw:IntKind.wrap .i64 (n + 1)=n + 1:=aB (by omega) (by omega)
  unfold rD P3 MU
  simp only [hil,decide_true,cond_true,ay hx,hw]
  cases (x.2.2.2.1 == 2) <;> cases (x.2.2.1 == a) <;> cases x.2.2.2.2.2.2.2.2.2.2.2.2.1 <;> rfl
theorem Ok (s:ae.D) (a:Int) (h:s.1.length≤33554432):sX s a=some ((s.1.filter (F8 a)).length:Int):=by
 unfold sX
 rw [KD s.1 h (F8 a) (fun n i x h0 h1 hx=>?_) (fun n=>by unfold rC;simp)]
 ·rfl
 ·have hlt:=(List.getElem?_eq_some_iff.1 hx).1
  have hil:((i:Int) < (s.1.length:Int)):=by omega
  have hw:IntKind.wrap .i64 (n + 1)=n + 1:=aB (by omega) (by omega)
  unfold rC P3 F8
  simp only [hil,decide_true,cond_true,ay hx,hw]
  cases (x.2.2.2.1 == 2) <;> cases (x.2.2.1 == a) <;> rfl
theorem KG (a:Int) (ha:0≤a):∀ (xs:List ah.D) (i:Nat),(bi (B5 a) i xs).length=(xs.filter (F8 a)).length
 | [],_=>rfl
 | x :: xs,i=>by
  unfold bi
  have h1:(a == -1)=false:=by rw [beq_eq_false_iff_ne];omega
  rw [List.length_append,KG a ha xs]
  unfold B5
  by_cases h:F8 a x=true
  ·rw [List.filter_cons_of_pos h]
   unfold F8 at h
   rw [h1,Bool.false_or,h]
   simp only [cond_true,List.length_cons,List.length_nil];omega
  ·rw [List.filter_cons_of_neg h]
   have h:F8 a x=false:=by simpa using h
   unfold F8 at h
   rw [h1,Bool.false_or,h]
   simp
theorem TL (s:ae.D) (a:Int) (g:bc.D) (h1:s.1.length≤33554432) (h2:s.2.1.length≤33554432):∃ b,vL s a g=some b∧vV s a g=some b:=by
 obtain ⟨b,q1,q2⟩:=si g
 unfold vL vV aQ
 simp only [q1,q2,gL,dn,Option.bind_some]
 cases b
 ·exact ⟨_,rfl,rfl⟩
 ·simp only [Bool.not_true,cond_false,Option.bind_some]
  rw [aB (by omega) (by omega)]
  by_cases hs:0≤a∧a≤(s.2.1.length:Int) - 1
  ·rw [decide_eq_true hs.1,decide_eq_true hs.2]
   obtain ⟨k,rfl⟩:=Int.eq_ofNat_of_zero_le hs.1
   have hx:s.2.1[k]?=some (s.2.1[k]'(by omega)):=List.getElem?_eq_getElem (by omega)
   simp only [Bool.and_self,Bool.not_true,cond_false,ay hx,Ok s _ h1,Hy s _ h1,KE s _ h1,KF s _ h1,Option.bind_some,KG _ hs.1]
   cases (g.1 == 1) <;> cases (g.1 == 2) <;> cases (g.1 == 3) <;> cases (g.1 == 4) <;> exact ⟨_,rfl,rfl⟩
  ·have:(decide (0≤a) && decide (a≤(s.2.1.length:Int) - 1))=false:=by
    rw [Bool.and_eq_false_iff]
    rcases Int.lt_or_le a 0 with h | h
    ·exact .inl (decide_eq_false (by omega))
    ·exact .inr (decide_eq_false (by omega))
   rw [this]
   exact ⟨_,rfl,rfl⟩
theorem Mh (s:ae.D) (a:Int) (p:cn.D) (e:ac.D) (h:s.1.length≤33554432):∃ b,kd s a p e=some b∧kw s a p e=some b:=by
 obtain ⟨t,h1,h2⟩:=MT s e h
 unfold kd kw
 rw [h1,h2]
 simp only [Option.bind_some,bne]
 cases (t == -1) <;> cases (p.2.1 == 1) <;> cases (t == a) <;> cases (p.2.1 == 2) <;> cases (p.2.2.2.2.1 == 0) <;> exact ⟨_,rfl,rfl⟩
theorem Mi (s:ae.D) (p:cn.D) (e:ac.D) (h:s.1.length≤33554432):∃ b,kg s p e=some b∧kx s p e=some b:=by
 unfold kg kx
 simp only [sj s e h,sk s e h,Option.bind_some]
 cases (p.2.2.1 == 0) <;> cases (p.2.2.1 == e.2.1) <;> exact ⟨_,rfl,rfl⟩
theorem Q3 (s:ae.D) (a:Int) (p:cn.D) (e:ac.D) (h:s.1.length≤33554432):∃ b,qt s a p e=some b∧qF s a p e=some b:=by
 obtain ⟨b1,p1,q1⟩:=zt p
 obtain ⟨b2,p2,q2⟩:=Mh s a p e h
 obtain ⟨b3,p3,q3⟩:=Mi s p e h
 unfold qt qF
 simp only [p1,q1,p2,q2,p3,q3,bQ,bB,Option.bind_some]
 cases b1 <;> cases aN e <;> cases (p.1 == e.1) <;> cases b2 <;> cases b3 <;> cases decide ((e.2.2.2.2.1:Int)≥p.2.2.2.2.2.1) <;> cases (p.2.2.2.2.2.2.1 == 0) <;> exact ⟨_,rfl,rfl⟩
theorem Ol (s:ae.D) (x:aa.D) (e:ac.D) (h1:s.1.length≤33554432) (h2:s.2.1.length≤33554432) (hl:x.2.2.2.2.2.2.1.2.2.2.2.2.2.1.length≤33554432) :
  ∃ b,uw s x e=some b∧qZ s x e=some b∧(b=true→aR x=true):=by
 obtain ⟨b1,p1,q1⟩:=TL s x.2.1 x.2.2.2.2.2.1 h1 h2
 obtain ⟨b2,p2,q2⟩:=Q3 s x.2.1 x.2.2.2.2.1 e h1
 unfold uw qZ nJ nU EJ EV
 simp only [p1,q1,p2,q2,dJ x hl,oh x hl,Option.bind_some]
 cases aR x
 ·exact ⟨false,rfl,rfl,fun h=>by cases h⟩
 ·cases ((x.2.2.2.2.2.2.2.2.1:Int) != 0) <;> cases ((x.2.2.2.2.2.2.2.1:Int) == -1) <;> cases decide ((x.2.2.2.2.2.2.2.1:Int)≥s.2.2.2.1) <;> cases ((x.2.2.2.1:Int) != 0) <;> cases ((x.2.2.1:Int) == e.2.1) <;> cases ((x.2.2.1:Int) == e.2.2.1) <;> cases b1 <;> exact ⟨_,rfl,rfl,fun _=>rfl⟩
noncomputable def Eb (s:ae.D) (e:ac.D) (x:aa.D):Bool:=(qZ s x e).getD false
theorem Om (s:ae.D) (x:aa.D) (e:ac.D) (h1:s.1.length≤33554432) (h2:s.2.1.length≤33554432) (hl:x.2.2.2.2.2.2.1.2.2.2.2.2.2.1.length≤33554432):qZ s x e=some (Eb s e x):=by
 obtain ⟨b,_,h,_⟩:=Ol s x e h1 h2 hl
 unfold Eb;rw [h];rfl
theorem On (s:ae.D) (x:aa.D) (e:ac.D) (h1:s.1.length≤33554432) (h2:s.2.1.length≤33554432) (hl:x.2.2.2.2.2.2.1.2.2.2.2.2.2.1.length≤33554432):uw s x e=some (Eb s e x):=by
 obtain ⟨b,h',h,_⟩:=Ol s x e h1 h2 hl
 unfold Eb;rw [h,h'];rfl
theorem Q4 (s:ae.D) (x:aa.D) (e:ac.D) (h1:s.1.length≤33554432) (h2:s.2.1.length≤33554432) (hl:x.2.2.2.2.2.2.1.2.2.2.2.2.2.1.length≤33554432) (h:Eb s e x=true):0≤x.2.2.2.1∧x.2.2.2.1≤4:=by
 obtain ⟨b,_,hb,ho⟩:=Ol s x e h1 h2 hl
 unfold Eb at h
 rw [hb] at h
 have h':=dJ x hl
 rw [ho h] at h'
 obtain ⟨b1,p1,q1⟩:=zt x.2.2.2.2.1
 obtain ⟨b2,p2,q2⟩:=si x.2.2.2.2.2.1
 obtain ⟨b3,p3,q3⟩:=DX x.2.2.2.2.2.2.1 hl
 obtain ⟨b4,p4,q4⟩:=sh x.2.2.2.2.2.2.1 x.2.2.2.2.1.1
 unfold cJ dq bk at h'
 simp only [q1,q2,q3,q4,dn,Option.bind_some] at h'
 simp only [cond_eq_ite,ra,Option.bind_some] at h'
 have h':=Option.some.inj h'
 clear p1 p2 p3 p4 q1 q2 q3 q4 hl h hb ho
 generalize x.2.2.2.2.2.2.1.1=ak at *
 generalize x.1=i at *
 generalize x.2.1=ow at *
 generalize x.2.2.1=so at *
 generalize x.2.2.2.1=du at *
 generalize x.2.2.2.2.2.2.2.1=co at *
 generalize x.2.2.2.2.2.2.2.2.1=on at *
 simp at h'
 grind
theorem KH {α σ S R:Type} (xs:List α) {body:S→Option (S⊕R)} (mk:σ→Int→S) (step:σ→Nat→α→σ) (I:Nat→σ→Prop) (r:σ→R) (s0:σ) (h0:I 0 s0) (hlen:xs.length≤9223372036854775806)
  (hb:∀ s (i:Nat) x,I i s→xs[i]?=some x→body (mk s (i:Int))=some (.inl (mk (step s i x) (IntKind.wrap .i64 ((i:Int) + 1))))∧I (i + 1) (step s i x))
  (he:∀ s,I xs.length s→body (mk s (xs.length:Int))=some (.inr (r s))) :
  al body (mk s0 0)=some (r (dI step 0 xs s0))∧I xs.length (dI step 0 xs s0):=by
 have main:∀ (l:List α) (k:Nat) (s:σ),xs.drop k=l→k≤xs.length→I k s→al body (mk s (k:Int))=some (r (dI step k l s))∧I xs.length (dI step k l s):=by
  intro l
  induction l with
  | nil =>
   intro k s h hk hI
   have:k=xs.length:=by
    have:=congrArg List.length h
    simp at this
    omega
   subst this
   exact ⟨aP (he s hI),hI⟩
  | cons x l ih =>
   intro k s h hk hI
   have hlt:k < xs.length:=by
    have:=congrArg List.length h
    simp at this
    omega
   have hx:xs[k]?=some x:=by
    have:=congrArg (fun l=>l[0]?) h
    simpa using this
   have hr:xs.drop (k + 1)=l:=by
    have:=congrArg List.tail h
    simpa using this
   obtain ⟨h1,h2⟩:=hb s k x hI hx
   rw [aB (by omega) (by omega)] at h1
   obtain ⟨h3,h4⟩:=ih (k + 1) (step s k x) hr hlt h2
   exact ⟨aG h1 h3,h4⟩
 have:=main xs 0 s0 rfl (by omega) h0
 simpa using this
theorem F9 {α σ:Type} (step:σ→Nat→α→σ) (P:σ→Prop):∀ (xs:List α) (i:Nat) (s:σ),P s→(∀ s i x,x∈xs→P s→P (step s i x))→P (dI step i xs s)
 | [],_,_,h,_=>h
 | x :: xs,i,s,h,hs=>F9 step P xs (i + 1) _ (hs s i x (List.mem_cons_self ..) h) (fun s i y hy=>hs s i y (List.mem_cons_of_mem _ hy))
theorem KI {α σ τ:Type} (f:σ→Nat→α→σ) (g:τ→Nat→α→τ) (Q:σ→τ→Prop):∀ (xs:List α) (i:Nat) (s:σ) (t:τ),Q s t→(∀ s t i x,x∈xs→Q s t→Q (f s i x) (g t i x))→Q (dI f i xs s) (dI g i xs t)
 | [],_,_,_,h,_=>h
 | x :: xs,i,s,t,h,hs=>KI f g Q xs (i + 1) _ _ (hs s t i x (List.mem_cons_self ..) h) (fun s t i y hy=>hs s t i y (List.mem_cons_of_mem _ hy))
def Ed (b:Bool) (id c:Int) (s:List Int×Int):List Int×Int :=
 if b=true then (if c > s.2 then s else if c < s.2 then ([id],c) else (s.1++[id],s.2)) else s
def Ga (b:Bool) (id c:Int) (s:List Int×Int):List Int×Int :=
 if b=true then (if s.1.length=0∨c < s.2 then ([id],c) else if c=s.2 then (s.1++[id],s.2) else s) else s
theorem Uq (p:Bool) (id c:Int) (h0:p=true→0≤c∧c≤4) (a b:List Int×Int) (h:a.1=b.1∧(a.1.length=0→a.2=5)∧(a.1.length≠0→a.2=b.2)) :
  (Ed p id c a).1=(Ga p id c b).1∧((Ed p id c a).1.length=0→(Ed p id c a).2=5)∧((Ed p id c a).1.length≠0→(Ed p id c a).2=(Ga p id c b).2):=by
 obtain ⟨a1,a2,a3⟩:=h
 unfold Ed Ga
 by_cases hp:p=true
 ·obtain ⟨c1,c2⟩:=h0 hp
  rw [if_pos hp,if_pos hp,← a1]
  by_cases h0:a.1.length=0
  ·have:=a2 h0
   rw [if_neg (by omega),if_pos (by omega),if_pos (.inl h0)]
   exact ⟨rfl,fun h=>by simp at h,fun _=>rfl⟩
  ·have:=a3 h0
   by_cases h3:c < b.2
   ·rw [if_neg (by omega),if_pos (by omega),if_pos (.inr h3)]
    exact ⟨rfl,fun h=>by simp at h,fun _=>rfl⟩
   ·rw [if_neg (c:=a.1.length=0∨c < b.2) (by omega)]
    by_cases h4:c=b.2
    ·rw [if_neg (by omega),if_neg (by omega),if_pos h4]
     exact ⟨by rfl,fun h=>by simp at h,fun _=>this⟩
    ·rw [if_pos (by omega),if_neg h4]
     exact ⟨a1,a2,a3⟩
 ·rw [if_neg hp,if_neg hp]
  exact ⟨a1,a2,a3⟩
def Ur (p:aa.D→Bool) (s:List Int×Int) (_:Nat) (x:aa.D):List Int×Int:=Ed (p x) x.1 x.2.2.2.1 s
def KJ (p:aa.D→Bool) (s:List Int×Int) (_:Nat) (x:aa.D):List Int×Int:=Ga (p x) x.1 x.2.2.2.1 s
noncomputable def pE (s:ae.D) (e:ac.D) (u:List Int) (x:aa.D):Bool:=!decide (x.1∈u) && Eb s e x
noncomputable def P4 (s:ae.D) (xs:List aa.D) (e:ac.D) (u:List Int):List Int:=(dI (KJ (pE s e u)) 0 xs ([],0)).1
theorem Hz (s:ae.D) (xs:List aa.D) (e:ac.D) (u:List Int) (h1:s.1.length≤33554432) (h2:s.2.1.length≤33554432) (hx:okD (.slice aa) xs) (hu:u.length≤33554432) :
  qG s xs e u=some (P4 s xs e u):=by
 have hl:xs.length≤33554432:=hx.1
 have:=(KH xs (body:=ky s xs e u) (fun (t:List Int×Int) i=>(t.1,t.2,i)) (KJ (pE s e u)) (fun i t=>t.1.length≤i) (fun t=>(t.1,t.2,(xs.length:Int))) ([],0) (by simp) (by omega) (fun t i x hI hi=>⟨?_,?_⟩) (fun t hI=>?_)).1
 ·unfold qG
  rw [this]
  rfl
 ·have hlt:=(List.getElem?_eq_some_iff.1 hi).1
  have hil:((i:Int) < (xs.length:Int)):=by omega
  have hok:=(hx.2 x (List.mem_of_getElem? hi)).2.2.2.2.2.2.1.2.2.2.2.2.2.1.1
  unfold ky KJ Ga pE
  simp only [hil,decide_true,cond_true,ay hi,PZ u _ hu,P2,Om s x e h1 h2 hok,Option.bind_some]
  by_cases hm:x.1∈u
  ·simp only [hm,decide_true,cond_true,Option.bind_some,Bool.not_true,Bool.false_and,Bool.false_eq_true,if_false]
  ·cases hf:Eb s e x
   ·simp only [hm,decide_false,cond_true,cond_false,Option.bind_some,Bool.not_false,Bool.and_false,Bool.false_eq_true,if_false]
   ·simp only [hm,decide_false,cond_false,Option.bind_some,Bool.not_false,Bool.not_true,Bool.and_self,if_true]
    have r1:∀ (l:List Int),l.length≤i→(l.length + [x.1].length) * (24 * 1)≤aC:=fun l h=>by simp only [aC,List.length_cons,List.length_nil];omega
    by_cases h0:t.1.length=0
    ·have:((t.1.length:Int) == 0)=true:=by rw [h0];rfl
     rw [if_pos (Or.inl h0)]
     simp only [this,cond_true,Option.bind_some,Int.le_refl,if_true,Int.natCast_nonneg,beq_self_eq_true]
     rw [if_pos (r1 _ (by simp))]
     simp
    ·have:((t.1.length:Int) == 0)=false:=by rw [beq_eq_false_iff_ne];omega
     simp only [this,cond_false,Option.bind_some]
     by_cases h3:x.2.2.2.1 < t.2
     ·simp only [h3,decide_true,cond_true,Int.le_refl,if_true,or_true]
      rw [if_pos (by omega)]
      simp only [Option.bind_some,beq_self_eq_true,cond_true]
      rw [if_pos (r1 _ (by simp))]
      simp
     ·simp only [h3,decide_false,cond_false,Option.bind_some,h0,or_self,if_false]
      by_cases h4:x.2.2.2.1=t.2
      ·have:((x.2.2.2.1:Int) == t.2)=true:=by rw [h4];simp
       simp only [this,cond_true]
       rw [if_pos h4,if_pos (r1 _ hI)]
      ·have:((x.2.2.2.1:Int) == t.2)=false:=by rw [beq_eq_false_iff_ne];exact h4
       simp only [this,cond_false,h4,if_false]
 ·unfold KJ Ga
  split
  ·split
   ·simp
   ·split
    ·simp only [List.length_append,List.length_cons,List.length_nil];omega
    ·omega
  ·omega
 ·unfold ky
  simp
theorem HA (s:ae.D) (xs:List aa.D) (e:ac.D) (u v:List Int) (h1:s.1.length≤33554432) (h2:s.2.1.length≤33554432) (hx:okD (.slice aa) xs) (hu:u.length≤33554432) (huv:∀ a,a∈u↔a∈v) :
  qv s xs e u=some (P4 s xs e v):=by
 have hl:xs.length≤33554432:=hx.1
 have hop:pE s e u=pE s e v:=by
  funext x
  unfold pE
  rw [show decide (x.1∈u)=decide (x.1∈v) from decide_eq_decide.2 (huv _)]
 have:=(KH xs (body:=ki s xs e u) (fun (t:List Int×Int) i=>(t.1,t.2,i)) (Ur (pE s e u)) (fun i t=>t.1.length≤i) (fun t=>(t.1,t.2,(xs.length:Int))) ([],5) (by simp) (by omega) (fun t i x hI hi=>⟨?_,?_⟩) (fun t hI=>?_)).1
 ·unfold qv
  rw [this,Option.bind_some]
  have hr:=KI (Ur (pE s e u)) (KJ (pE s e u)) (fun (a b:List Int×Int)=>a.1=b.1∧(a.1.length=0→a.2=5)∧(a.1.length≠0→a.2=b.2)) xs 0 ([],5) ([],0) ⟨rfl,fun _=>rfl,fun h=>absurd rfl h⟩ (fun a b i x hm hab=>?_)
  ·unfold P4
   rw [← hop]
   simp only
   rw [hr.1]
  ·have hok:=(hx.2 x hm).2.2.2.2.2.2.1.2.2.2.2.2.2.1.1
   exact Uq (pE s e u x) x.1 x.2.2.2.1 (fun hp=>Q4 s x e h1 h2 hok (by unfold pE at hp;simp at hp;exact hp.2)) a b hab
 ·have hlt:=(List.getElem?_eq_some_iff.1 hi).1
  have hil:((i:Int) < (xs.length:Int)):=by omega
  have hok:=(hx.2 x (List.mem_of_getElem? hi)).2.2.2.2.2.2.1.2.2.2.2.2.2.1.1
  unfold ki Ur Ed pE
  simp only [hil,decide_true,cond_true,ay hi,zv u _ hu,B8,On s x e h1 h2 hok,Option.bind_some]
  have r1:∀ (l:List Int),l.length≤i→(l.length + [x.1].length) * (24 * 1)≤aC:=fun l h=>by simp only [aC,List.length_cons,List.length_nil];omega
  by_cases hm:x.1∈u
  ·simp only [hm,decide_true,cond_true,Option.bind_some,Bool.not_true,Bool.false_and,Bool.false_eq_true,if_false]
  ·cases hf:Eb s e x
   ·simp only [hm,decide_false,cond_true,cond_false,Option.bind_some,Bool.not_false,Bool.and_false,Bool.false_eq_true,if_false]
   ·simp only [hm,decide_false,cond_false,Option.bind_some,Bool.not_false,Bool.not_true,Bool.and_self,if_true]
    by_cases h3:x.2.2.2.1 > t.2
    ·simp only [h3,decide_true,cond_true,Option.bind_some,if_true]
    ·simp only [h3,decide_false,cond_false,Option.bind_some,if_false]
     by_cases h4:x.2.2.2.1 < t.2
     ·simp only [h4,decide_true,cond_true,Option.bind_some,if_true]
      rw [if_pos (r1 _ (by simp))]
      rfl
     ·simp only [h4,decide_false,cond_false,Option.bind_some,if_false]
      rw [if_pos (r1 _ hI)]
      rfl
 ·unfold Ur Ed
  split
  ·split
   ·omega
   ·split
    ·simp
    ·simp only [List.length_append,List.length_cons,List.length_nil];omega
  ·omega
 ·unfold ki
  simp
theorem TM (s:ae.D) (xs:List aa.D) (e:ac.D) (u:List Int):∀ a∈P4 s xs e u,a∈xs.map (fun (x:aa.D)=>x.1)∧a ∉ u:=by
 unfold P4
 refine F9 (KJ (pE s e u)) (fun t=>∀ a∈t.1,a∈xs.map (fun (x:aa.D)=>x.1)∧a ∉ u) xs 0 ([],0) (fun a h=>by cases h) (fun t i x hm ht=>?_)
 unfold KJ Ga
 split
 ·rename_i hp
  have hx:x.1∈xs.map (fun (x:aa.D)=>x.1)∧x.1 ∉ u:=⟨List.mem_map.2 ⟨x,hm,rfl⟩,by unfold pE at hp;simp at hp;exact hp.1⟩
  split
  ·intro a ha
   simp only [List.mem_singleton] at ha
   subst ha;exact hx
  ·split
   ·intro a ha
    rcases List.mem_append.1 ha with h | h
    ·exact ht a h
    ·simp only [List.mem_singleton] at h
     subst h;exact hx
   ·exact ht
 ·exact ht
theorem TN (s:ae.D) (xs:List aa.D) (e:ac.D) (u:List Int) (h1:s.1.length≤33554432) (h2:s.2.1.length≤33554432) (hx:okD (.slice aa) xs):(P4 s xs e u).length≤xs.length:=by
 have:∀ (l:List aa.D) (i:Nat) (t:List Int×Int),(dI (KJ (pE s e u)) i l t).1.length≤t.1.length + l.length:=by
  intro l
  induction l with
  | nil=>intro i t;simp [dI]
  | cons x l ih =>
   intro i t
   unfold dI
   have:=ih (i + 1) (KJ (pE s e u) t i x)
   have h2:(KJ (pE s e u) t i x).1.length≤t.1.length + 1:=by
    unfold KJ Ga
    split
    ·split
     ·simp
     ·split
      ·simp
      ·omega
    ·omega
   simp only [List.length_cons]
   omega
 have:=this xs 0 ([],0)
 unfold P4
 simpa using this
def zz (xs:List aa.D) (a:Int):Int:=match bD (fun (x:aa.D)=>x.1 == a) xs with | some k=>(k:Int) | none=>-1
theorem Ee (xs:List aa.D) (hl:xs.length≤33554432) (p:aa.D→Bool) (q:(aa.D×Unit)→Option Bool) (hq:∀ x∈xs,q (x,())=some (p x)) :
  bw xs q=some (match bD p xs with | some k=>(k:Int) | none=>-1):=by
 unfold bw
 rw [dH xs (body:=bZ xs q) p (fun i=>i) (by omega) (fun i x hx=>?_) ?_]
 ·cases bD p xs <;> rfl
 ·unfold bZ
  simp
 ·unfold bZ
  have hlt:=(List.getElem?_eq_some_iff.1 hx).1
  have:((i:Int) < (xs.length:Int)):=by omega
  simp only [this,decide_true,cond_true,ay hx,hq x (List.mem_of_getElem? hx),Option.bind_some]
theorem jp (xs:List aa.D) (a:Int) (hl:xs.length≤33554432):fJ xs a=some (zz xs a):=by
 unfold fJ zz
 rw [Ee xs hl (fun (x:aa.D)=>x.1 == a) _ (fun x _=>rfl)]
 rfl
theorem jq (xs:List aa.D) (a:Int) (hl:xs.length≤33554432):fI xs a=some (zz xs a):=by
 unfold fI zz
 rw [dH xs (body:=i7 xs a) (fun (x:aa.D)=>x.1 == a) (fun i=>i) (by omega) (fun i x hx=>?_) ?_]
 ·cases bD (fun (x:aa.D)=>x.1 == a) xs <;> rfl
 ·unfold i7
  simp
 ·unfold i7
  have hlt:=(List.getElem?_eq_some_iff.1 hx).1
  have:((i:Int) < (xs.length:Int)):=by omega
  simp only [this,decide_true,cond_true,ay hx]
theorem MV (xs:List aa.D) (a:Int) (h:a∈xs.map (fun (x:aa.D)=>x.1)):∃ (k:Nat) (x:aa.D),zz xs a=k∧xs[k]?=some x∧x.1=a:=by
 unfold zz
 obtain ⟨h1,h2⟩:=ee (fun (x:aa.D)=>x.1 == a) xs
 cases hf:bD (fun (x:aa.D)=>x.1 == a) xs with
 | none =>
  obtain ⟨x,hx,rfl⟩:=List.mem_map.1 h
  have:=h1 hf x hx
  simp at this
 | some k =>
  obtain ⟨x,g1,g2,_⟩:=h2 k hf
  exact ⟨k,x,rfl,g1,by simpa using g2⟩
theorem P5 (y:aa.D) (h:y.2.2.2.2.2.2.1.2.2.2.2.2.2.1.length≤33554432):okD aa y :=
 ⟨trivial,trivial,trivial,trivial,fF _ rfl _,fF _ rfl _,⟨trivial,trivial,trivial,trivial,trivial,trivial,⟨h,fun x _=>fF _ rfl x⟩,trivial⟩,trivial,trivial,trivial⟩
theorem Sl (xs:List aa.D) (y x:aa.D) (k:Nat) (hx:okD (.slice aa) xs) (hy:y.2.2.2.2.2.2.1.2.2.2.2.2.2.1.length≤33554432) (h1:zz xs y.1=k) (h2:xs[k]?=some x) (h3:x.1=y.1) :
  th xs y=some (xs.set k y)∧tz xs y=some (xs.set k y)∧okD (.slice aa) (xs.set k y)∧(xs.set k y).map (fun (x:aa.D)=>x.1)=xs.map (fun (x:aa.D)=>x.1):=by
 have hl:xs.length≤33554432:=hx.1
 refine ⟨?_,?_,⟨by rw [List.length_set];exact hl,fun z hz=>?_⟩,?_⟩
 ·unfold th
  rw [ci xs hx,Option.bind_some,jq xs _ hl,Option.bind_some,h1,decide_eq_true (by omega)]
  simp only [cond_true,eP y hy,Option.bind_some,ay h2,Int.toNat_natCast,h2]
 ·unfold tz
  rw [dA xs hx,Option.bind_some,jp xs _ hl,Option.bind_some,h1,decide_eq_true (by omega)]
  simp only [cond_true,gN y hy,Option.bind_some,ay h2,Int.toNat_natCast,h2]
 ·rcases List.mem_or_eq_of_mem_set hz with h | rfl
  ·exact hx.2 z h
  ·exact P5 _ hy
 ·rw [List.map_set]
  refine List.ext_getElem? fun i=>?_
  rw [List.getElem?_set]
  split
  ·rename_i he
   subst he
   have hk:=(List.getElem?_eq_some_iff.1 h2).1
   rw [if_pos (by rw [List.length_map];exact hk),List.getElem?_map,h2,← h3]
   rfl
  ·rfl
theorem Oo {l:List Int} (h:l.Nodup) {k:Nat} {x:Int} (hx:l[k]?=some x):x ∉ l.take k∧(l.take k++[x])=l.take (k + 1):=by
 have hk:=(List.getElem?_eq_some_iff.1 hx).1
 have he:=(List.getElem?_eq_some_iff.1 hx).2
 have h2:l.take (k + 1)=l.take k++[x]:=by rw [← he,List.take_succ_eq_append_getElem hk]
 refine ⟨fun hm=>?_,h2.symm⟩
 have hn:(l.take k++[x]).Nodup:=by rw [← h2];exact List.Sublist.nodup (List.take_sublist _ _) h
 rw [List.nodup_append] at hn
 exact hn.2.2 x hm x (by simp) rfl
theorem Mj (l:List Int) (hl:l.length≤1000) (hn:l.Nodup):∃ r,vO l=some r∧r.Perm l:=by
 obtain ⟨q,h1,h2⟩:=qW (body:=tT l) (fun s=>l.length - s.2.toNat) (fun s=>∃ k:Nat,s.2=k∧k≤l.length∧s.1.Perm (l.take k)) (fun s=>s.1.Perm l) (by
  rintro ⟨out,i⟩ ⟨k,rfl,hk,hp⟩
  simp only at hp ⊢
  have hol:out.length≤1000:=by rw [hp.length_eq,List.length_take];omega
  unfold tT
  by_cases hlt:((k:Int) < (l.length:Int))
  ·have hkl:k < l.length:=by omega
   obtain ⟨x,hx⟩:∃ x,l[k]?=some x:=⟨_,List.getElem?_eq_getElem hkl⟩
   obtain ⟨n1,n2⟩:=Oo hn hx
   have hno:x ∉ out:=fun h=>n1 (hp.mem_iff.1 h)
   obtain ⟨o,w1,w2⟩:=qW (body:=tS l (out,(k:Int))) (fun s=>s.toNat) (fun s=>0≤s∧s≤out.length) (fun s=>0≤s∧s≤out.length) (by
    rintro j ⟨j0,j1⟩
    unfold tS
    by_cases hj:j > 0
    ·obtain ⟨m,rfl⟩:∃ m:Nat,j=(m:Int) + 1:=⟨(j - 1).toNat,by omega⟩
     have hm:m < out.length:=by omega
     obtain ⟨y,hy⟩:∃ y,out[m]?=some y:=⟨_,List.getElem?_eq_getElem hm⟩
     have hw:IntKind.wrap .i64 ((m:Int) + 1 - 1)=(m:Int):=by rw [aB (by omega) (by omega)];omega
     simp only [hj,decide_true,cond_true,hw,ay hy,Int.toNat_natCast,hy,Option.bind_some,ay hx]
     by_cases hyx:y > x
     ·left
      simp only [hyx,decide_true,cond_true]
      exact ⟨_,rfl,⟨by omega,by omega⟩,by omega⟩
     ·right
      simp only [hyx,decide_false,cond_false]
      exact ⟨_,rfl,j0,j1⟩
    ·right
     simp only [hj,decide_false,cond_false,Option.bind_some]
     exact ⟨_,rfl,j0,j1⟩) (out.length:Int) ⟨by omega,by omega⟩
   obtain ⟨m,rfl⟩:=Int.eq_ofNat_of_zero_le w2.1
   have hm:m≤out.length:=by omega
   left
   have hh:out.any (fun y=>y == x)=false:=by rw [B8,decide_eq_false hno]
   simp only [hlt,decide_true,cond_true,ay hx,zv out x (by omega),hh,Option.bind_some,cond_false,w1,Int.le_refl,if_true,w2.1,w2.2]
   rw [if_pos (by simp only [aC,List.length_append,List.length_take,List.length_drop,List.length_nil];omega),if_pos (by simp only [aC,List.length_append,List.length_take,List.length_drop,List.length_nil,List.length_cons];omega),if_pos (by simp only [aC,List.length_append,List.length_take,List.length_drop,List.length_nil,List.length_cons];omega)]
   refine ⟨_,rfl,⟨k + 1,by simp only;rw [aB (by omega) (by omega)];omega,by omega,?_⟩,?_⟩
   ·simp only [Int.toNat_natCast,List.nil_append]
    have e1:(List.drop (0:Int).toNat (List.take m out))=out.take m:=rfl
    have e2:List.take out.length out=out:=List.take_length
    rw [e1,e2]
    refine (P1 out m x).trans ?_
    rw [← n2]
    exact List.Perm.append_right _ hp
   ·simp only
    rw [aB (by omega) (by omega)]
    omega
  ·right
   simp only [hlt,decide_false,cond_false]
   have:k=l.length:=by omega
   subst this
   rw [List.take_length] at hp
   exact ⟨_,rfl,hp⟩) ([],0) ⟨0,rfl,Nat.zero_le _,by simp⟩
 unfold vO
 rw [h1]
 exact ⟨_,rfl,h2⟩
theorem Oq (u:List Int) (a:Int) (hl:u.length≤900) (hn:(u++[a]).Nodup):∃ r,zO u a=some r∧r.Perm (u++[a]):=by
 obtain ⟨r,h1,h2⟩:=Mj (u++[a]) (by simp;omega) hn
 unfold zO
 rw [if_pos (by simp only [aC,List.length_nil];omega),if_pos (by simp only [aC,List.nil_append,List.length_cons,List.length_nil];omega),List.nil_append,h1]
 exact ⟨r,rfl,h2⟩
def U1 (tb tb':List aa.D) (cs cs':List Int) (lf lf':List ac.D) (tn tn':List au.D) (q:Nat):Prop :=
 okD (.slice aa) tb'∧tb'.map (fun (x:aa.D)=>x.1)=tb.map (fun (x:aa.D)=>x.1)∧cs'.length≤cs.length∧lf'.length≤lf.length + q∧tn'.length≤tn.length + q∧(∀ t∈tn',okD au t)∧((∀ x∈tb,aR x=true)→∀ x∈tb',aR x=true)
theorem UX (y:au.D) (h:y.2.2.2.2.2.1.length≤33554432):okD au y :=
 ⟨trivial,trivial,trivial,trivial,fF _ rfl _,⟨h,fun x _=>fF _ rfl x⟩,trivial,trivial,trivial⟩
def RC (n:Nat):Prop:=∀ (s:ae.D) (tb:List aa.D) (cs:List Int) (lf:List ac.D) (tn:List au.D) (e:ac.D) (uS uI:List Int),
 s.1.length≤33554432→s.2.1.length≤33554432→okD (.slice aa) tb→cs.length≤33554432→uS.Perm uI→uS.Nodup→(∀ a∈uS,a∈tb.map (fun (x:aa.D)=>x.1))→tb.length≤5→tb.length < n + uS.length →
 lf.length + 4 ^ n≤33554432→tn.length + 4 ^ n≤33554432→(∀ t∈tn,okD au t) →
 ∃ tb' cs' lf' tn',iL n (s,tb,cs,lf,tn,()) e uS=some ((),(s,tb',cs',lf',tn',()))∧cD n (s,(lf,tb,cs,tn,()),()) e uI=some (true,(s,(lf',tb',cs',tn',()),()))∧U1 tb tb' cs cs' lf lf' tn tn' (4 ^ n)
theorem RD (n:Nat) (IH:RC n) (s:ae.D) (L:List ac.D) (m1:Int) (y1:aa.D) (m2:Int) (y2:aa.D) (wS v:List Int) (a:Int) (h1:s.1.length≤33554432) (h2:s.2.1.length≤33554432) (hw:wS.Perm (v++[a])) (hn:wS.Nodup) (hL:L.length≤3) :
  ∀ (m k:Nat) (tb:List aa.D) (cs:List Int) (lf:List ac.D) (tn:List au.D),k + m=L.length→okD (.slice aa) tb→cs.length≤33554432→(∀ a∈wS,a∈tb.map (fun (x:aa.D)=>x.1))→tb.length≤5→tb.length < n + wS.length →
  lf.length + m * 4 ^ n≤33554432→tn.length + m * 4 ^ n≤33554432→(∀ t∈tn,okD au t) →
  ∃ tb' cs' lf' tn',al (oB (iL n) (L,m1,y1,()) wS) ((k:Int),s,tb,cs,lf,tn,())=some ((L.length:Int),s,tb',cs',lf',tn',()) ∧
   al (fk (cD n) a (L,m2,y2,()) v) ((k:Int),s,(lf,tb,cs,tn,()),())=some (.inl ((L.length:Int),s,(lf',tb',cs',tn',()),()))∧U1 tb tb' cs cs' lf lf' tn tn' (m * 4 ^ n)
 | 0,k,tb,cs,lf,tn,hk,h3,h4,h5,h6,h7,h8,h9,h10=>by
  have:k=L.length:=by omega
  subst this
  refine ⟨tb,cs,lf,tn,aP ?_,aP ?_,h3,rfl,Nat.le_refl _,by omega,by omega,h10,id⟩
  ·unfold oB
   simp only [Int.lt_irrefl,decide_false,cond_false]
  ·unfold fk
   simp only [Int.lt_irrefl,decide_false,cond_false]
 | m + 1,k,tb,cs,lf,tn,hk,h3,h4,h5,h6,h7,h8,h9,h10=>by
  rw [Nat.succ_mul] at h8 h9
  obtain ⟨x,hx⟩:∃ x,L[k]?=some x:=⟨_,List.getElem?_eq_getElem (by omega)⟩
  have hil:((k:Int) < (L.length:Int)):=by omega
  obtain ⟨tb1,cs1,lf1,tn1,e1,e2,k1,k2,k3,k4,k5,k6,k7⟩:=IH s tb cs lf tn x wS (v++[a]) h1 h2 h3 h4 hw hn h5 h6 h7 (by omega) (by omega) h10
  have hlen:tb1.length=tb.length:=by have:=congrArg List.length k2;simpa using this
  obtain ⟨tb2,cs2,lf2,tn2,w1,w2,g1,g2,g3,g4,g5,g6,g7⟩:=RD n IH s L m1 y1 m2 y2 wS v a h1 h2 hw hn hL m (k + 1) tb1 cs1 lf1 tn1 (by omega) k1 (by omega) (by rw [k2];exact h5) (by omega) (by omega) (by omega) (by omega) k6
  have hwr:IntKind.wrap .i64 ((k:Int) + 1)=((k + 1:Nat):Int):=by rw [aB (by omega) (by omega)];rfl
  refine ⟨tb2,cs2,lf2,tn2,aG ?_ w1,aG ?_ w2,g1,by rw [g2,k2],by omega,by rw [Nat.succ_mul];omega,by rw [Nat.succ_mul];omega,g6,fun h=>g7 (k7 h)⟩
  ·unfold oB
   simp only [hil,decide_true,cond_true,ay hx,Int.toNat_natCast,hx,Option.bind_some,e1,hwr]
  ·unfold fk
   simp only [hil,decide_true,cond_true,ay hx,Int.toNat_natCast,hx,Option.bind_some,e2,hwr,Bool.not_true,cond_false]
theorem P6:∀ n,RC n
 | 0,s,tb,cs,lf,tn,e,uS,uI,_,_,_,_,_,hn,hs,_,h7,_,_,_=>by
  have:=t9 uS _ hn hs
  rw [List.length_map] at this
  omega
 | n + 1,s,tb,cs,lf,tn,e,uS,uI,h1,h2,h3,h4,hp,hn,hs,h6,h7,h8,h9,h10=>by
  have hq:1≤4 ^ n:=Nat.one_le_iff_ne_zero.2 (by exact Nat.pos_iff_ne_zero.1 (Nat.pow_pos (by omega)))
  rw [Nat.pow_succ] at h8 h9
  have hul:=t9 uS _ hn hs
  rw [List.length_map] at hul
  have hui:=hp.length_eq
  have hl:tb.length≤33554432:=h3.1
  have o1:=HA s tb e uS uI h1 h2 h3 (by omega) (fun a=>hp.mem_iff)
  have o2:=Hz s tb e uI h1 h2 h3 (by omega)
  have o3:=TM s tb e uI
  have o4:=TN s tb e uI h1 h2 h3
  show ∃ tb' cs' lf' tn',kj (iL n) (s,tb,cs,lf,tn,()) e uS=_∧eC (cD n) (s,(lf,tb,cs,tn,()),()) e uI=_∧_
  unfold kj eC
  simp only [o1,o2,Option.bind_some]
  generalize P4 s tb e uI=os at o3 o4
  by_cases h0:os.length=0
  ·have:((os.length:Int) == 0)=true:=by rw [h0];rfl
   simp only [this,cond_true,D7,D6,Option.bind_some]
   cases D5 e
   ·simp only [Bool.not_false,cond_true]
    rw [if_pos (by simp only [aC,List.length_cons,List.length_nil];omega),if_pos (by simp only [aC,List.length_cons,List.length_nil];omega)]
    refine ⟨tb,cs,lf++[e],tn,rfl,rfl,h3,rfl,Nat.le_refl _,?_,?_,h10,id⟩
    ·rw [Nat.pow_succ,List.length_append,List.length_cons,List.length_nil];omega
    ·omega
   ·simp only [Bool.not_true,cond_false]
    exact ⟨tb,cs,lf,tn,rfl,rfl,h3,rfl,Nat.le_refl _,by omega,by omega,h10,id⟩
  ·have:((os.length:Int) == 0)=false:=by rw [beq_eq_false_iff_ne];omega
   obtain ⟨p1,p2⟩:=D8 cs (n:=(os.length:Int)) (by omega)
   have p3:=(qU cs (os.length:Int)).length_le
   obtain ⟨k,hk⟩:=Int.eq_ofNat_of_zero_le p1
   have hko:k < os.length:=by omega
   obtain ⟨a,ha⟩:∃ a,os[k]?=some a:=⟨_,List.getElem?_eq_getElem hko⟩
   obtain ⟨ha1,ha2⟩:=o3 a (List.mem_of_getElem? ha)
   obtain ⟨j,x,f1,f2,f3⟩:=MV tb a ha1
   have hok:=(h3.2 x (List.mem_of_getElem? f2)).2.2.2.2.2.2.1.2.2.2.2.2.2.1.1
   obtain ⟨L,sn,y,d1,d2,⟨d3,d4,d5,d6⟩,_⟩:=TJ x e hok
   obtain ⟨u1,u2,u3,u4⟩:=Sl tb y x j h3 d3 (by rw [d5,f3];exact f1) f2 d5.symm
   obtain ⟨ch,c1,c2⟩:=Q2 s e h1
   have hnu:(uS++[a]).Nodup:=by
    rw [List.nodup_append]
    refine ⟨hn,by simp,fun b hb c hc=>?_⟩
    simp only [List.mem_singleton] at hc
    subst hc
    intro he;subst he
    exact ha2 (hp.mem_iff.1 hb)
   obtain ⟨wS,w1,w2⟩:=Oq uS a (by omega) hnu
   have hsub:∀ b∈wS,b∈tb.map (fun (x:aa.D)=>x.1):=fun b hb=>by
    rcases List.mem_append.1 (w2.mem_iff.1 hb) with h | h
    ·exact hs b h
    ·simp only [List.mem_singleton] at h;subst h;exact ha1
   have hwl:wS.length=uS.length + 1:=by rw [w2.length_eq,List.length_append];rfl
   have hut:(tb.set j y).length=tb.length:=List.length_set ..
   have tl:∀ t∈tn++[((x.1,ch,(k:Int),(os.length:Int),e,L,sn,(uS.length:Int),()):au.D)],okD au t:=fun t ht=>by
    rcases List.mem_append.1 ht with h | h
    ·exact h10 t h
    ·simp only [List.mem_singleton] at h
     subst h
     exact UX _ (by show L.length≤33554432;omega)
   have hmq:L.length * 4 ^ n≤3 * 4 ^ n:=Nat.mul_le_mul_right _ d4
   obtain ⟨tb',cs',lf',tn',g1,g2,g3,g4,g5,g6,g7,g8,g9⟩:=RD n (P6 n) s L sn y sn y wS uI a h1 h2 (w2.trans (List.Perm.append_right _ hp)) (w2.nodup_iff.2 hnu) d4 L.length 0 (tb.set j y) (lA cs (os.length:Int)) lf (tn++[(x.1,ch,(k:Int),(os.length:Int),e,L,sn,(uS.length:Int),())]) (by omega) u3 (by omega) (by rw [u4];exact hsub) (by omega) (by omega) (by omega) (by simp only [List.length_append,List.length_cons,List.length_nil];omega) tl
   refine ⟨tb',cs',lf',tn',?_,?_,g3,by rw [g4,u4],by omega,by rw [Nat.pow_succ];omega,by rw [Nat.pow_succ];simp only [List.length_append,List.length_cons,List.length_nil] at g7;omega,g8,fun h=>g9 fun z hz=>?_⟩
   rotate_right
   ·rcases List.mem_or_eq_of_mem_set hz with hz | rfl
    ·exact h z hz
    ·exact d6 (h x (List.mem_of_getElem? f2))
   ·simp only [this,cond_false,Ea cs (os.length:Int) (by omega) (by omega),Option.bind_some,hk,ay ha,Int.toNat_natCast,ha,jq tb a hl,f1,ay f2,d2,u1,c1]
    rw [if_pos (by simp only [aC,List.length_nil];omega),if_pos (by simp only [aC,List.length_cons,List.length_nil];omega),f3,w1,Option.bind_some]
    rw [f3] at g1
    simp only [List.nil_append]
    rw [show ((0:Int))=((0:Nat):Int) from rfl,g1]
    rfl
   ·have hc:bm uI=some uI:=eF uI (by omega)
    simp only [this,cond_false,rP,rS,D9 cs (os.length:Int) (by omega) (by omega),Option.bind_some,hk,ay ha,Int.toNat_natCast,ha,jp tb a hl,f1,ay f2,d1,u2,c2,Bool.not_true,hc]
    rw [if_pos (by simp only [aC,List.length_cons,List.length_nil];omega),if_pos (by simp only [aC,List.length_cons,List.length_nil];omega)]
    rw [f3,hui] at g2
    rw [show ((0:Int))=((0:Nat):Int) from rfl,g2]
    rfl
theorem Q5 (s:ae.D) (tb:List aa.D) (e:ac.D) (cs:List Int) (h1:s.1.length≤33554432) (h2:s.2.1.length≤33554432) (h3:okD (.slice aa) tb) (h4:cs.length≤33554432) :
  ∃ r:ba.D,ma s tb e cs=some r∧jf s tb e cs=some r∧okD ba r∧r.1.length≤65536∧r.2.2.1.length≤cs.length∧r.2.2.2.1.length≤65536∧r.2.1.map (fun (x:aa.D)=>x.1)=tb.map (fun (x:aa.D)=>x.1)∧((∀ x∈tb,aR x=true)→∀ x∈r.2.1,aR x=true):=by
 have hl:tb.length≤33554432:=h3.1
 have triv:okD ba ([],tb,cs,[],()):=⟨⟨by simp,fun x hx=>by cases hx⟩,h3,⟨h4,fun x _=>fF _ rfl x⟩,⟨by simp,fun x hx=>by cases hx⟩,trivial⟩
 obtain ⟨b3,hb3⟩:∃ b3,b3=(!zq (eX tb) 0 tb && decide ((tb.length:Int)≤5)):=⟨_,rfl⟩
 have g1:=kJ tb h3
 have g2:=gS tb h3
 rw [← hb3] at g1 g2
 unfold ma jf
 simp only [ci tb h3,dA tb h3,eF cs h4,dz s h1 h2,cP s h1 h2,g1,g2,bB,bQ,Option.bind_some,List.nil_append]
 rw [if_pos (by simp only [aC,List.length_nil];omega)]
 cases bl s
 ·exact ⟨_,rfl,rfl,triv,Nat.zero_le _,Nat.le_refl _,Nat.zero_le _,rfl,id⟩
 cases b3
 ·cases aN e <;> exact ⟨_,rfl,rfl,triv,Nat.zero_le _,Nat.le_refl _,Nat.zero_le _,rfl,id⟩
 cases aN e
 ·exact ⟨_,rfl,rfl,triv,Nat.zero_le _,Nat.le_refl _,Nat.zero_le _,rfl,id⟩
 have h5:tb.length≤5:=by
  have:=hb3.symm
  rw [Bool.and_eq_true] at this
  have:=of_decide_eq_true this.2
  omega
 obtain ⟨tb',cs',lf',tn',e1,e2,k1,k2,k3,k4,k5,k6,k7⟩:=P6 8 s tb cs [] [] e [] [] h1 h2 h3 h4 (List.Perm.refl _) List.nodup_nil (fun a h=>by cases h) h5 (by simp;omega) (by simp) (by simp) (fun t h=>by cases h)
 simp only [List.length_nil,Nat.zero_add] at k4 k5
 have q:4 ^ 8=65536:=by decide
 rw [q] at k4 k5
 have q1:lf'.length≤33554432:=by omega
 have q2:cs'.length≤33554432:=by omega
 have q3:tn'.length≤33554432:=by omega
 have ok:okD ba (lf',tb',cs',tn',()):=⟨⟨q1,fun x _=>fF _ rfl x⟩,k1,⟨q2,fun x _=>fF _ rfl x⟩,⟨q3,k6⟩,trivial⟩
 simp only [e1,e2,cond_true,cond_false,Bool.not_true,Option.bind_some]
 rw [p7 tn' ⟨by omega,k6⟩]
 exact ⟨_,rfl,rfl,ok,by simp only;omega,by simp only;omega,by simp only;omega,k2,k7⟩
def KK (a b:ba.D):ba.D:=(a.1++b.1,b.2.1,b.2.2.1,a.2.2.2.1++b.2.2.2.1,())
theorem Us (f0 f1:ba.D) (ok0:okD ba f0) (ok1:okD ba f1) (s1:f0.1.length + f1.1.length≤33554432) (s2:f0.2.2.2.1.length + f1.2.2.2.1.length≤33554432) :
  uz f0 f1=some (KK f0 f1)∧uL f0 f1=some (KK f0 f1)∧okD ba (KK f0 f1):=by
 have okt:okD (.slice au) (f0.2.2.2.1++f1.2.2.2.1):=⟨by rw [List.length_append];exact s2,fun x hx=>by
  rcases List.mem_append.1 hx with h | h
  ·exact ok0.2.2.2.1.2 x h
  ·exact ok1.2.2.2.1.2 x h⟩
 have l3:f1.2.2.1.length≤33554432:=ok1.2.2.1.1
 refine ⟨?_,?_,⟨by show (f0.1++f1.1).length≤_;rw [List.length_append];exact s1,fun x hx=>?_⟩,ok1.2.1,ok1.2.2.1,okt,trivial⟩
 ·unfold uz KK
  rw [sv f0 ok0,Option.bind_some,sv f1 ok1,Option.bind_some,if_pos (by simp only [aC];omega),if_pos (by simp only [aC];omega)]
 ·unfold uL bm KK
  rw [Oj _ _ s1,Option.bind_some,dA _ ok1.2.1,Option.bind_some,if_pos (by simp only [aC,List.length_nil];omega),Option.bind_some,P0 _ _ s2,Option.bind_some,p7 _ okt,Option.bind_some]
  rfl
 ·rcases List.mem_append.1 hx with h | h
  ·exact ok0.1.2 x h
  ·exact ok1.1.2 x h
noncomputable def wq (es:List ac.D):Bool:=decide ((es.length:Int)≤4) && !es.any (fun e=>!aN e)
theorem wX (es:List ac.D) (hl:es.length≤33554432):mu es=some (wq es):=by
 have hC:aK es (fun q=>mt q.1)=some (es.any (fun e=>!aN e)):=mU es hl (fun e=>!aN e) _ (fun x=>by simp only [mt,bQ,Option.bind_some])
 unfold mu wq
 rw [hC]
 cases decide ((es.length:Int)≤4) <;> rfl
theorem wY (es:List ac.D) (hl:es.length≤33554432):l9 es=some (wq es):=by
 unfold l9 wq
 rw [mT es (body:=kb es) (fun _ e=>!aN e) false (by omega) (fun i x hx=>?_) (by unfold kb;simp),zR]
 ·cases es.any (fun e=>!aN e) <;> simp
 ·have hlt:=(List.getElem?_eq_some_iff.1 hx).1
  have hil:((i:Int) < (es.length:Int)):=by omega
  unfold kb
  simp only [hil,decide_true,cond_true,ay hx,bB,Option.bind_some]
noncomputable def HB (s:ae.D) (f:ba.D) (e:ac.D):ba.D:=KK f ((jf s f.2.1 e f.2.2.1).getD ([],[],[],[],()))
noncomputable def mZ (s:ae.D):List ac.D→ba.D→ba.D
 | [],f=>f
 | e :: es,f=>mZ s es (HB s f e)
theorem Ut (s:ae.D) (f:ba.D) (e:ac.D) (h1:s.1.length≤33554432) (h2:s.2.1.length≤33554432) (hf:okD ba f) (s1:f.1.length + 65536≤33554432) (s2:f.2.2.2.1.length + 65536≤33554432) :
  okD ba (HB s f e)∧(HB s f e).1.length≤f.1.length + 65536∧(HB s f e).2.2.2.1.length≤f.2.2.2.1.length + 65536∧(HB s f e).2.2.1.length≤f.2.2.1.length∧(HB s f e).2.1.map (fun (x:aa.D)=>x.1)=f.2.1.map (fun (x:aa.D)=>x.1)∧((∀ x∈f.2.1,aR x=true)→∀ x∈(HB s f e).2.1,aR x=true)∧∃ r,ma s f.2.1 e f.2.2.1=some r∧jf s f.2.1 e f.2.2.1=some r∧uz f r=some (HB s f e)∧uL f r=some (HB s f e):=by
 obtain ⟨r,e1,e2,ok,q1,q2,q3,q4,q5⟩:=Q5 s f.2.1 e f.2.2.1 h1 h2 hf.2.1 hf.2.2.1.1
 obtain ⟨j1,j2,j3⟩:=Us f r hf ok (by omega) (by omega)
 have hv:HB s f e=KK f r:=by unfold HB;rw [e2];rfl
 rw [hv]
 refine ⟨j3,?_,?_,q2,q4,q5,r,e1,e2,j1,j2⟩
 ·show (f.1++r.1).length≤_
  rw [List.length_append];omega
 ·show (f.2.2.2.1++r.2.2.2.1).length≤_
  rw [List.length_append];omega
theorem P7 (s:ae.D) (es:List ac.D) (h1:s.1.length≤33554432) (h2:s.2.1.length≤33554432) (hl:es.length≤4) (Q:Nat) (hQ:Q=65536):∀ (m k:Nat) (f:ba.D),k + m=es.length→okD ba f→f.1.length + m * Q≤33554432→f.2.2.2.1.length + m * Q≤33554432 →
  al (gy s es) ((k:Int),f)=some ((es.length:Int),mZ s (es.drop k) f)∧al (gD s es) ((k:Int),f)=some ((es.length:Int),mZ s (es.drop k) f)∧okD ba (mZ s (es.drop k) f)∧(mZ s (es.drop k) f).1.length≤f.1.length + m * Q∧(mZ s (es.drop k) f).2.2.2.1.length≤f.2.2.2.1.length + m * Q∧(mZ s (es.drop k) f).2.2.1.length≤f.2.2.1.length∧(mZ s (es.drop k) f).2.1.map (fun (x:aa.D)=>x.1)=f.2.1.map (fun (x:aa.D)=>x.1)∧((∀ x∈f.2.1,aR x=true)→∀ x∈(mZ s (es.drop k) f).2.1,aR x=true)
 | 0,k,f,hk,h3,h4,h5=>by
  have:k=es.length:=by omega
  subst this
  rw [List.drop_length]
  refine ⟨aP ?_,aP ?_,h3,Nat.le_add_right _ _,Nat.le_add_right _ _,Nat.le_refl _,rfl,id⟩
  ·unfold gy
   simp only [Int.lt_irrefl,decide_false,cond_false,mZ]
  ·unfold gD
   simp only [Int.lt_irrefl,decide_false,cond_false,mZ]
 | m + 1,k,f,hk,h3,h4,h5=>by
  obtain ⟨q,hq⟩:∃ q:Nat,q=m * Q:=⟨_,rfl⟩
  have hq1:(m + 1) * Q=q + Q:=by rw [Nat.succ_mul,hq]
  rw [hq1] at h4 h5
  have hkl:k < es.length:=by omega
  obtain ⟨x,hx⟩:∃ x,es[k]?=some x:=⟨_,List.getElem?_eq_getElem hkl⟩
  have hd:es.drop k=x :: es.drop (k + 1):=by
   rw [List.drop_eq_getElem_cons hkl]
   rw [List.getElem?_eq_getElem hkl] at hx
   rw [Option.some.inj hx]
  have hil:((k:Int) < (es.length:Int)):=by omega
  obtain ⟨a1,a2,a3,a4,a5,a6,r,b1,b2,b3,b4⟩:=Ut s f x h1 h2 h3 (by omega) (by omega)
  obtain ⟨c1,c2,c3,c4,c5,c6,c7,c8⟩:=P7 s es h1 h2 hl Q hQ m (k + 1) (HB s f x) (by omega) a1 (by rw [← hq];omega) (by rw [← hq];omega)
  rw [← hq] at c4 c5
  have hwr:IntKind.wrap .i64 ((k:Int) + 1)=((k + 1:Nat):Int):=by rw [aB (by omega) (by omega)];rfl
  rw [hd]
  simp only [mZ]
  refine ⟨aG ?_ c1,aG ?_ c2,c3,by rw [hq1];omega,by rw [hq1];omega,by omega,by rw [c7,a5],fun h=>c8 (a6 h)⟩
  ·unfold gy
   simp only [hil,decide_true,cond_true,ay hx,b1,b3,hwr,Option.bind_some]
  ·unfold gD
   simp only [hil,decide_true,cond_true,ay hx,b2,b4,hwr,Option.bind_some]
noncomputable def KL (tb:List aa.D):Bool:=!zq (eX tb) 0 tb && decide ((tb.length:Int)≤5)
noncomputable def ip (s:ae.D) (tb:List aa.D) (es:List ac.D) (cs:List Int):ba.D :=
 bif (wq es && bl s) && KL tb then mZ s es ([],tb,cs,[],()) else ([],tb,cs,[],())
theorem Mk (s:ae.D) (tb:List aa.D) (es:List ac.D) (cs:List Int) (h1:s.1.length≤33554432) (h2:s.2.1.length≤33554432) (h3:okD (.slice aa) tb) (h4:cs.length≤33554432) (h5:es.length≤33554432) :
  kl s tb es cs=some (ip s tb es cs)∧kz s tb es cs=some (ip s tb es cs)∧okD ba (ip s tb es cs)∧(ip s tb es cs).1.length≤262144∧(ip s tb es cs).2.2.2.1.length≤262144∧(ip s tb es cs).2.2.1.length≤cs.length∧(ip s tb es cs).2.1.map (fun (x:aa.D)=>x.1)=tb.map (fun (x:aa.D)=>x.1)∧((∀ x∈tb,aR x=true)→∀ x∈(ip s tb es cs).2.1,aR x=true):=by
 have triv:okD ba ([],tb,cs,[],()):=⟨⟨by simp,fun x hx=>by cases hx⟩,h3,⟨h4,fun x _=>fF _ rfl x⟩,⟨by simp,fun x hx=>by cases hx⟩,trivial⟩
 have g1:fg tb=some (KL tb):=kJ tb h3
 have g2:fh tb=some (KL tb):=gS tb h3
 unfold kl kz
 simp only [sv _ triv,dA tb h3,eF cs h4,wY es h5,wX es h5,dz s h1 h2,cP s h1 h2,g1,g2,Option.bind_some]
 by_cases hb:((wq es && bl s) && KL tb)=true
 ·have hv:ip s tb es cs=mZ s es ([],tb,cs,[],()):=by unfold ip;rw [hb];rfl
  rw [Bool.and_eq_true,Bool.and_eq_true] at hb
  obtain ⟨⟨b1,b2⟩,b3⟩:=hb
  have hl:es.length≤4:=by
   unfold wq at b1
   rw [Bool.and_eq_true] at b1
   have:=of_decide_eq_true b1.1
   omega
  obtain ⟨c1,c2,c3,c4,c5,c6,c7,c8⟩:=P7 s es h1 h2 hl 65536 rfl es.length 0 ([],tb,cs,[],()) (by omega) triv (by simp only [List.length_nil];omega) (by simp only [List.length_nil];omega)
  rw [List.drop_zero] at c1 c2 c3 c4 c5 c6 c7 c8
  rw [show (((0:Nat):Int))=(0:Int) from rfl] at c1 c2
  rw [hv]
  simp only [List.length_nil] at c4 c5
  simp only [b1,b2,b3,Bool.not_true,cond_false,Option.bind_some,c1,c2]
  exact ⟨trivial,trivial,c3,by omega,by omega,c6,c7,c8⟩
 ·have hv:ip s tb es cs=([],tb,cs,[],()):=by
   unfold ip
   rw [Bool.not_eq_true] at hb
   rw [hb];rfl
  rw [hv]
  refine ⟨?_,?_,triv,Nat.zero_le _,Nat.zero_le _,Nat.le_refl _,rfl,id⟩ <;> revert hb <;> cases wq es <;> cases bl s <;> cases KL tb <;> intro hb <;> first | rfl | exact absurd rfl hb
def sw (c:Int) (x:aa.D):Bool:=(x.2.2.2.2.2.2.2.2.1 != 0) && ((x.2.2.2.2.2.2.2.1 == (-1)) || decide (x.2.2.2.2.2.2.2.1≥c))
theorem Ml (x:aa.D) (c:Int):nU x c=some (sw c x):=by
 unfold nU sw
 cases ((x.2.2.2.2.2.2.2.2.1:Int) != 0) <;> cases ((x.2.2.2.2.2.2.2.1:Int) == -1) <;> rfl
theorem Mm (x:aa.D) (c:Int):nJ x c=some (sw c x):=by
 unfold nJ sw
 cases ((x.2.2.2.2.2.2.2.2.1:Int) != 0) <;> cases ((x.2.2.2.2.2.2.2.1:Int) == -1) <;> rfl
theorem P8 {xs ys:List aa.D} (h:okD (.slice aa) xs) (hl:ys.length≤xs.length) (hs:∀ y∈ys,y∈xs):okD (.slice aa) ys:=⟨Nat.le_trans hl h.1,fun y hy=>h.2 y (hs y hy)⟩
theorem MW (xs:List aa.D) (c:Int) (h:okD (.slice aa) xs) (h5:xs.length≤1000):ph xs c=some (xs.filter (sw c))∧py xs c=some (xs.filter (sw c)):=by
 refine ⟨?_,?_⟩
 ·unfold ph
  rw [cx xs (fun _ x=>if sw c x then [x] else []) (fun s=>s) (fun _ x=>by split <;> simp) (by omega) (fun t i x hI hx=>?_) (fun t=>?_)]
  ·rw [Option.bind_some,iE]
  ·have hlt:=(List.getElem?_eq_some_iff.1 hx).1
   have hil:((i:Int) < (xs.length:Int)):=by omega
   have hok:=(h.2 x (List.mem_of_getElem? hx)).2.2.2.2.2.2.1.2.2.2.2.2.2.1.1
   unfold rJ
   simp only [hil,decide_true,cond_true,ay hx,Mm,eP x hok,Option.bind_some]
   cases sw c x
   ·simp only [cond_false,Option.bind_some,if_false,List.append_nil,Bool.false_eq_true]
   ·simp only [cond_true]
    rw [if_pos (by simp only [aC,List.length_cons,List.length_nil];omega)]
    rfl
  ·unfold rJ;simp
 ·unfold py
  rw [dA xs h,Option.bind_some]
  unfold bJ
  have hq:∀ x:aa.D,oH c x=some (!sw c x):=fun x=>by unfold oH;rw [Ml];rfl
  simp only [hq]
  rw [if_pos ⟨by omega,by rw [List.all_eq_true];intro x _;rfl⟩,Option.bind_some]
  simp only [Option.getD_some,Bool.not_not]
theorem P9 (xs:List aa.D) (a:Int):zz xs a=-1∨∃ (k:Nat) (x:aa.D),zz xs a=k∧xs[k]?=some x∧x.1=a:=by
 by_cases h:a∈xs.map (fun (x:aa.D)=>x.1)
 ·exact .inr (MV xs a h)
 ·refine .inl ?_
  unfold zz
  obtain ⟨_,h2⟩:=ee (fun (x:aa.D)=>x.1 == a) xs
  cases hf:bD (fun (x:aa.D)=>x.1 == a) xs with
  | none=>rfl
  | some k =>
   obtain ⟨x,g1,g2,_⟩:=h2 k hf
   exact absurd (List.mem_map.2 ⟨x,List.mem_of_getElem? g1,by simpa using g2⟩) h
theorem RE {xs:List aa.D} (h:okD (.slice aa) xs) (i:Nat):okD (.slice aa) (xs.take i)∧okD (.slice aa) (xs.drop i) :=
 ⟨P8 h (by rw [List.length_take];omega) fun y hy=>List.mem_of_mem_take hy,P8 h (by rw [List.length_drop];omega) fun y hy=>List.mem_of_mem_drop hy⟩
theorem Uu (xs:List aa.D) (a:Int) (h:okD (.slice aa) xs) (h5:xs.length≤1000):∃ r,zN xs a=some r∧zP xs a=some r∧okD (.slice aa) r.1:=by
 have hl:xs.length≤33554432:=by omega
 unfold zN zP
 rw [dA xs h,Option.bind_some,jp xs a hl,jq xs a hl,Option.bind_some,Option.bind_some]
 rcases P9 xs a with e | ⟨k,x,e,hx,_⟩
 ·rw [e,ci xs h]
  exact ⟨_,rfl,rfl,h⟩
 ·have hk:=(List.getElem?_eq_some_iff.1 hx).1
  rw [e,bb (by omega)]
  have hw:IntKind.wrap .i64 ((k:Int) + 1)=((k + 1:Nat):Int):=by rw [aB (by omega) (by omega)];rfl
  have e1:(List.drop (0:Int).toNat (List.take k xs))=xs.take k:=rfl
  have e2:(List.drop (k + 1) (List.take xs.length xs))=xs.drop (k + 1):=by rw [List.take_length]
  have e3:(xs.length:Int).toNat=xs.length:=by omega
  simp only [cond_false,hw,Int.toNat_natCast,e1,e2,e3]
  rw [if_pos (by omega),if_pos (by omega),if_pos (by omega),ci _ (RE h k).1,Option.bind_some,if_pos (by omega),if_pos (by omega),if_pos (by omega),ci _ (RE h (k + 1)).2,Option.bind_some]
  rw [if_pos (by simp only [aC,List.length_take,List.length_drop];omega)]
  unfold cp
  rw [if_pos ⟨by omega,by omega,by omega⟩,Option.bind_some]
  refine ⟨_,rfl,rfl,P8 h ?_ fun y hy=>?_⟩
  ·simp only [Int.toNat_natCast,List.length_append,List.length_take,List.length_drop];omega
  ·rcases List.mem_append.1 hy with hy | hy
   ·exact List.mem_of_mem_take hy
   ·exact List.mem_of_mem_drop hy
theorem Sm {α:Type} (xs:List α) {body:Int→Option (Int⊕Int)} (p:α→Bool) (hlen:xs.length≤9223372036854775806)
  (hb:∀ (i:Nat) x,xs[i]?=some x→body i=bif p x then some (.inr (i:Int)) else some (.inl (IntKind.wrap .i64 ((i:Int) + 1))))
  (he:body xs.length=some (.inr (xs.length:Int))) :
  ∃ k:Nat,k≤xs.length∧al body 0=some (k:Int)∧(match bD p xs with | some j=>j | none=>xs.length)=k:=by
 have main:∀ (r:List α) (k:Nat),xs.drop k=r→k≤xs.length→al body k=some (match bD p r with | some j=>((k + j:Nat):Int) | none=>(xs.length:Int)):=by
  intro r
  induction r with
  | nil =>
   intro k h hk
   have:k=xs.length:=by
    have:=congrArg List.length h
    simp at this
    omega
   subst this
   exact aP he
  | cons x r ih =>
   intro k h hk
   have hlt:k < xs.length:=by
    have:=congrArg List.length h
    simp at this
    omega
   have hx:xs[k]?=some x:=by
    have:=congrArg (fun l=>l[0]?) h
    simpa using this
   have hr:xs.drop (k + 1)=r:=by
    have:=congrArg List.tail h
    simpa using this
   unfold bD
   by_cases hp:p x=true
   ·rw [if_pos hp]
    refine aP ?_
    rw [hb k x hx,hp]
    simp
   ·rw [if_neg hp]
    refine aG (s':=((k + 1:Nat):Int)) ?_ ?_
    ·rw [hb k x hx]
     have:p x=false:=by simpa using hp
     rw [this]
     simp only [cond_false]
     rw [aB (by omega) (by omega)]
     rfl
    ·rw [ih (k + 1) hr hlt]
     cases bD p r with
     | none=>rfl
     | some j =>
      simp only [Option.map_some]
      rw [show k + 1 + j=k + (j + 1) by omega]
 have h0:=main xs 0 rfl (by omega)
 obtain ⟨_,h2⟩:=ee p xs
 cases hf:bD p xs with
 | none =>
  rw [hf] at h0
  exact ⟨xs.length,Nat.le_refl _,h0,rfl⟩
 | some j =>
  rw [hf] at h0
  obtain ⟨x,g1,_⟩:=h2 j hf
  have:=(List.getElem?_eq_some_iff.1 g1).1
  refine ⟨j,by omega,?_,rfl⟩
  show al body ((0:Nat):Int)=_
  rw [h0]
  simp only [Nat.zero_add]
theorem U2 (a b:Int):decide (a≥b)=!decide (a < b):=by
 by_cases h:a < b
 ·rw [decide_eq_true h,decide_eq_false (by omega)];rfl
 ·rw [decide_eq_false h,decide_eq_true (by omega)];rfl
theorem Q6 (xs:List aa.D) (e:aa.D) (h:okD (.slice aa) xs) (h5:xs.length≤1000) (he:e.2.2.2.2.2.2.1.2.2.2.2.2.2.1.length≤33554432):∃ r,qs xs e=some r∧qD xs e=some r∧okD (.slice aa) r.1:=by
 have hl:xs.length≤33554432:=by omega
 obtain ⟨k,hk,w1,w2⟩:=Sm xs (body:=ka xs e) (fun x=>decide (x.1≥e.1)) (by omega) (fun i x hx=>by
  have hlt:=(List.getElem?_eq_some_iff.1 hx).1
  have hil:((i:Int) < (xs.length:Int)):=by omega
  unfold ka
  simp only [hil,decide_true,cond_true,ay hx,Option.bind_some]
  have hd:decide (x.1≥e.1)=!decide (x.1 < e.1):=U2 x.1 e.1
  rw [hd]
  cases decide (x.1 < e.1) <;> rfl) (by unfold ka;simp)
 have hi:bw xs (fun q=>rL e q.1)=some (match bD (fun x=>decide (x.1≥e.1)) xs with | some k=>(k:Int) | none=>-1):=Ee xs hl (fun x=>decide (x.1≥e.1)) _ (fun x _=>rfl)
 obtain ⟨ix,hix⟩:∃ ix:Int,ix=(match bD (fun (x:aa.D)=>decide (x.1≥e.1)) xs with | some k=>(k:Int) | none=>-1):=⟨_,rfl⟩
 rw [← hix] at hi
 have ho:((bif decide (ix < 0) then some (xs.length:Int) else some ix):Option Int)=some (k:Int):=by
  rw [hix,← w2]
  cases bD (fun (x:aa.D)=>decide (x.1≥e.1)) xs with
  | none=>rfl
  | some j=>simp only;rw [bb (by omega)];rfl
 have okn:okD (.slice aa) (xs.take k++[e]++xs.drop k):=by
  refine ⟨?_,fun y hy=>?_⟩
  ·simp only [List.length_append,List.length_take,List.length_drop,List.length_cons,List.length_nil];omega
  ·rcases List.mem_append.1 hy with hy | hy
   ·rcases List.mem_append.1 hy with hy | hy
    ·exact h.2 y (List.mem_of_mem_take hy)
    ·rw [List.mem_singleton.1 hy];exact P5 _ he
   ·exact h.2 y (List.mem_of_mem_drop hy)
 obtain ⟨tk,htk⟩:∃ tk,tk=(!zq (eX (xs.take k++[e]++xs.drop k)) 0 (xs.take k++[e]++xs.drop k) && decide (((xs.take k++[e]++xs.drop k).length:Int)≤5)):=⟨_,rfl⟩
 have t1:=kJ _ okn
 have t2:=gS _ okn
 rw [← htk] at t1 t2
 have e1:(List.drop (0:Int).toNat (List.take k xs))=xs.take k:=rfl
 have e2:(List.drop k (List.take xs.length xs))=xs.drop k:=by rw [List.take_length]
 have e3:(xs.length:Int).toNat=xs.length:=by omega
 have hins:dE xs (k:Int) [e]=some (xs.take k++[e]++xs.drop k,()):=by
  unfold dE
  rw [if_pos ⟨by omega,by omega,rfl,by omega⟩,Int.toNat_natCast]
 unfold qs qD
 rw [w1,Option.bind_some,dA xs h,Option.bind_some,hi,Option.bind_some,ho,Option.bind_some,Option.bind_some,gN e he,Option.bind_some,hins,Option.bind_some]
 simp only [Int.toNat_natCast,e1,e2,e3]
 rw [if_pos (by omega),if_pos (by omega),if_pos (by omega),ci _ (RE h k).1,Option.bind_some,eP e he,Option.bind_some]
 rw [if_pos (by simp only [aC,List.length_take,List.length_cons,List.length_nil];omega),if_pos (by omega),if_pos (by omega),if_pos (by omega),ci _ (RE h k).2,Option.bind_some]
 rw [if_pos (by simp only [aC,List.length_append,List.length_take,List.length_drop,List.length_cons,List.length_nil];omega)]
 simp only [jq xs _ hl,jp xs _ hl,t1,t2,Option.bind_some,ci xs h]
 cases decide (zz xs e.1≥0) <;> cases tk <;> first | exact ⟨_,rfl,rfl,h⟩ | exact ⟨_,rfl,rfl,okn⟩
theorem Ot (n:Int) (h0:0≤n) (h1:n≤33554432):dP () n=some ([],()):=by
 unfold dP
 rw [bb h0]
 simp only [cond_false,Option.bind_some]
 have z:IntKind.wrap .i64 (0 - 0)=0:=aB (by omega) (by omega)
 rw [z,Int.sub_zero,aB (by omega) (by omega)]
 by_cases hn:n > 0
 ·rw [decide_eq_true hn]
  simp only [cond_true,Int.le_refl,if_true]
  rw [if_pos (by omega),if_pos hn,if_pos (by simp only [aC];omega),if_pos (by omega)]
  simp
 ·rw [decide_eq_false hn];rfl
theorem HC (a b c:List af.D) (h:a.length + b.length + c.length≤33554432):dm [a,b,c]=some ((a++b)++c):=by
 have i0:([a,b,c]:List (List af.D))[0]?=some a:=rfl
 have i1:([a,b,c]:List (List af.D))[1]?=some b:=rfl
 have i2:([a,b,c]:List (List af.D))[2]?=some c:=rfl
 have e1:al (bo [a,b,c]) (0,0)=some ((a.length:Int) + (b.length:Int) + (c.length:Int),3):=by
  refine aG (s':=((a.length:Int),1)) ?_ (aG (s':=((a.length:Int) + (b.length:Int),2)) ?_ (aG (s':=((a.length:Int) + (b.length:Int) + (c.length:Int),3)) ?_ (aP ?_)))
  ·unfold bo
   rw [decide_eq_true (by simp)]
   simp only [cond_true]
   rw [show ((0:Int))=((0:Nat):Int) from rfl,ay i0]
   simp (disch:=omega) only [aB,bb,cond_false]
   first | (simp;done) | (simp;rw [bb (by omega)];rfl)
  ·unfold bo
   rw [decide_eq_true (by simp)]
   simp only [cond_true]
   rw [show ((1:Int))=((1:Nat):Int) from rfl,ay i1]
   simp (disch:=omega) only [aB,bb,cond_false]
   first | (simp;done) | (simp;rw [bb (by omega)];rfl)
  ·unfold bo
   rw [decide_eq_true (by simp)]
   simp only [cond_true]
   rw [show ((2:Int))=((2:Nat):Int) from rfl,ay i2]
   simp (disch:=omega) only [aB,bb,cond_false]
   first | (simp;done) | (simp;rw [bb (by omega)];rfl)
  ·unfold bo
   simp
 have e2:al (bp [a,b,c]) ([],0)=some ((a++b)++c,3):=by
  refine aG (s':=(a,1)) ?_ (aG (s':=(a++b,2)) ?_ (aG (s':=((a++b)++c,3)) ?_ (aP ?_)))
  ·unfold bp
   rw [decide_eq_true (by simp)]
   simp only [cond_true]
   rw [show ((0:Int))=((0:Nat):Int) from rfl,ay i0]
   rw [if_pos (by simp only [aC,List.length_append,List.length_nil];omega)]
   simp (disch:=omega) only [aB]
   simp
  ·unfold bp
   rw [decide_eq_true (by simp)]
   simp only [cond_true]
   rw [show ((1:Int))=((1:Nat):Int) from rfl,ay i1]
   rw [if_pos (by simp only [aC,List.length_append,List.length_nil];omega)]
   simp (disch:=omega) only [aB]
   simp
  ·unfold bp
   rw [decide_eq_true (by simp)]
   simp only [cond_true]
   rw [show ((2:Int))=((2:Nat):Int) from rfl,ay i2]
   rw [if_pos (by simp only [aC,List.length_append,List.length_nil];omega)]
   simp (disch:=omega) only [aB]
   simp
  ·unfold bp
   simp
 unfold dm
 rw [e1,Option.bind_some]
 simp only
 rw [Ot _ (by omega) (by omega),Option.bind_some]
 simp only
 rw [e2,Option.bind_some]
theorem Sn (n:Int) (h0:0≤n) (h1:n≤33554432):eR () n=some ([],()):=by
 unfold eR
 rw [bb h0]
 simp only [cond_false,Option.bind_some]
 have z:IntKind.wrap .i64 (0 - 0)=0:=aB (by omega) (by omega)
 rw [z,Int.sub_zero,aB (by omega) (by omega)]
 by_cases hn:n > 0
 ·rw [decide_eq_true hn]
  simp only [cond_true,Int.le_refl,if_true]
  rw [if_pos (by omega),if_pos hn,if_pos (by simp only [aC];omega),if_pos (by omega)]
  simp
 ·rw [decide_eq_false hn];rfl
theorem Ou (a b c:List ai.D) (h:a.length + b.length + c.length≤33554432):dZ [a,b,c]=some ((a++b)++c):=by
 have i0:([a,b,c]:List (List ai.D))[0]?=some a:=rfl
 have i1:([a,b,c]:List (List ai.D))[1]?=some b:=rfl
 have i2:([a,b,c]:List (List ai.D))[2]?=some c:=rfl
 have e1:al (bH [a,b,c]) (0,0)=some ((a.length:Int) + (b.length:Int) + (c.length:Int),3):=by
  refine aG (s':=((a.length:Int),1)) ?_ (aG (s':=((a.length:Int) + (b.length:Int),2)) ?_ (aG (s':=((a.length:Int) + (b.length:Int) + (c.length:Int),3)) ?_ (aP ?_)))
  ·unfold bH
   rw [decide_eq_true (by simp)]
   simp only [cond_true]
   rw [show ((0:Int))=((0:Nat):Int) from rfl,ay i0]
   simp (disch:=omega) only [aB,bb,cond_false]
   first | (simp;done) | (simp;rw [bb (by omega)];rfl)
  ·unfold bH
   rw [decide_eq_true (by simp)]
   simp only [cond_true]
   rw [show ((1:Int))=((1:Nat):Int) from rfl,ay i1]
   simp (disch:=omega) only [aB,bb,cond_false]
   first | (simp;done) | (simp;rw [bb (by omega)];rfl)
  ·unfold bH
   rw [decide_eq_true (by simp)]
   simp only [cond_true]
   rw [show ((2:Int))=((2:Nat):Int) from rfl,ay i2]
   simp (disch:=omega) only [aB,bb,cond_false]
   first | (simp;done) | (simp;rw [bb (by omega)];rfl)
  ·unfold bH
   simp
 have e2:al (bI [a,b,c]) ([],0)=some ((a++b)++c,3):=by
  refine aG (s':=(a,1)) ?_ (aG (s':=(a++b,2)) ?_ (aG (s':=((a++b)++c,3)) ?_ (aP ?_)))
  ·unfold bI
   rw [decide_eq_true (by simp)]
   simp only [cond_true]
   rw [show ((0:Int))=((0:Nat):Int) from rfl,ay i0]
   rw [if_pos (by simp only [aC,List.length_append,List.length_nil];omega)]
   simp (disch:=omega) only [aB]
   simp
  ·unfold bI
   rw [decide_eq_true (by simp)]
   simp only [cond_true]
   rw [show ((1:Int))=((1:Nat):Int) from rfl,ay i1]
   rw [if_pos (by simp only [aC,List.length_append,List.length_nil];omega)]
   simp (disch:=omega) only [aB]
   simp
  ·unfold bI
   rw [decide_eq_true (by simp)]
   simp only [cond_true]
   rw [show ((2:Int))=((2:Nat):Int) from rfl,ay i2]
   rw [if_pos (by simp only [aC,List.length_append,List.length_nil];omega)]
   simp (disch:=omega) only [aB]
   simp
  ·unfold bI
   simp
 unfold dZ
 rw [e1,Option.bind_some]
 simp only
 rw [Sn _ (by omega) (by omega),Option.bind_some]
 simp only
 rw [e2,Option.bind_some]
theorem Q7 (s:ae.D):(eV s).1.2.2=s.2.2:=by unfold eV;split <;> rfl
theorem Q8 (s:ae.D) (hp:s.1.length≤33554432) (hs:s.2.1.length≤33554432):∃ r,pf s=some r∧lx s=some r∧gT r.1 s∧r.2.1.length≤19∧r.1.2.2=s.2.2:=by
 obtain ⟨r,h1,h2,_,_⟩:=Sf s hp hs
 refine ⟨r,h1,h2,?_⟩
 obtain ⟨q,g1,g2⟩:∃ q,al bF ([],0,([],[],0,0,()),s)=some q∧(gT q.2.2 s∧q.1.length≤19∧q.2.2.2.2=s.2.2):=by
  cases hok:bl s with
  | false =>
   refine ⟨([],0,s),aP ?_,⟨rfl,rfl⟩,by simp,rfl⟩
   unfold bF
   simp only [hZ s hp hs,Option.bind_some]
   have:(eV s).2.1=[]:=by unfold eV;rw [hok];rfl
   rw [this];rfl
  | true =>
   obtain ⟨l1,l2⟩:=oM hok
   have hw:=MR s
   exact qW (body:=bF) (fun t=>sl t.2.2.2) (fun t=>gT t.2.2.2 s∧t.1.length + sl t.2.2.2≤sl s∧t.2.2.2.2.2=s.2.2) (fun r=>gT r.2.2 s∧r.1.length≤19∧r.2.2.2.2=s.2.2) (by
    rintro ⟨all,n,u,t⟩ ⟨⟨z1,z2⟩,z3,z4⟩
    simp only at z1 z2 z3 z4
    have hr:=D4 t
    have hz:=B4 t
    unfold bF
    simp only [hZ t (by omega) (by omega),Option.bind_some]
    by_cases hn:(eV t).2.1.length=0
    ·right
     have:(((eV t).2.1.length:Int) == 0)=true:=by rw [hn];rfl
     rw [this]
     exact ⟨_,rfl,⟨z1,z2⟩,by simp only;omega,z4⟩
    ·left
     have:(((eV t).2.1.length:Int) == 0)=false:=by rw [beq_eq_false_iff_ne];omega
     rw [this]
     simp only [cond_false]
     rw [if_pos (by simp only [aC];omega)]
     refine ⟨_,rfl,⟨⟨hz.1.trans z1,hz.2.trans z2⟩,?_,?_⟩,?_⟩
     ·simp only [List.length_append];omega
     ·exact (Q7 t).trans z4
     ·simp only;omega) ([],0,([],[],0,0,()),s) ⟨⟨rfl,rfl⟩,by simp,rfl⟩
 unfold lx at h2
 simp only [fz s hp hs,Option.bind_some,g1] at h2
 have h2:=Option.some.inj h2
 rw [← h2]
 exact ⟨g2.1,g2.2.1,g2.2.2⟩
theorem So (g:T_Game.D) (es:List ac.D) (ok:okD T_Game g) (hs:bl g.1=true) (ht:g.2.1.length≤5) (he:es.length≤33554432) (hq:g.2.2.2.1.length + 600000≤33554432) (hl:g.2.2.2.2.1.length + 600000≤33554432) (hn:g.2.2.2.2.2.1.length + 600000≤33554432) :
  ∃ r,oC g es=some ((),r)∧tC g es=some (r,())∧okD T_Game r∧r.2.2.2.1.length≤g.2.2.2.1.length + 600000∧r.2.2.2.2.1.length≤g.2.2.2.2.1.length + 600000∧r.2.2.2.2.2.1.length≤g.2.2.2.2.2.1.length + 600000:=by
 obtain ⟨m1,m2⟩:=oM hs
 have k1:g.1.1.length≤33554432:=ok.1.1.1
 have k2:g.1.2.1.length≤33554432:=ok.1.2.1.1
 have k3:g.2.2.1.length≤33554432:=ok.2.2.1.1
 obtain ⟨a1,a2,fok,fl,ft,fc,fm,_⟩:=Mk g.1 g.2.1 es g.2.2.1 k1 k2 ok.2.1 k3 he
 have ftl:(ip g.1 g.2.1 es g.2.2.1).2.1.length=g.2.1.length:=by have:=congrArg List.length fm;simpa using this
 generalize ip g.1 g.2.1 es g.2.2.1=f at a1 a2 fok fl ft fc ftl
 have c1:=Ku g.1 f.1 k1 k2 (by omega)
 obtain ⟨c2,c3,c4,c5,c6⟩:=Kt g.1 f.1 k1 k2 (by omega)
 rw [if_pos hs] at c1 c2
 generalize wl g.1 f.1=q at c1 c2 c3 c4 c5 c6
 obtain ⟨one,t⟩:=q
 simp only at c1 c2 c3 c4 c5 c6
 have t1:t.1.length≤33554432:=by rw [c5.1];exact k1
 have t2:t.2.1.length≤33554432:=by rw [c5.2];exact k2
 obtain ⟨⟨u,two,rn,un⟩,d1,d2,d3,d4,d5⟩:=Q8 t t1 t2
 simp only at d3 d4 d5
 have u1:u.1.length≤33554432:=by rw [d3.1];exact t1
 have u2:u.2.1.length≤33554432:=by rw [d3.2];exact t2
 have s1:=D2 g.1 one k1 (by omega)
 have s2:=D1 g.1 one k1 (by omega)
 have s3:=lh (wT g.1) (zS g.1) one 0
 generalize bi (wT g.1) 0 one=sn1 at s1 s2 s3
 obtain ⟨r1,r2,r3,r4⟩:=KA u sn1 f.2.2.1 u2 (by omega) (by omega)
 have r5:=r4.length_le
 generalize mY u sn1 f.2.2.1=ar1 at r1 r2 r3 r4 r5
 have s4:=D2 t two t1 (by omega)
 have s5:=D1 t two t1 (by omega)
 have s6:=lh (wT t) (zS t) two 0
 generalize bi (wT t) 0 two=sn2 at s4 s5 s6
 obtain ⟨r6,r7,r8,r9⟩:=KA u sn2 ar1.2 u2 (by omega) (by omega)
 have r10:=r9.length_le
 generalize mY u sn2 ar1.2=ar2 at r6 r7 r8 r9 r10
 have hck:u.2.2.2.1=g.1.2.2.2.1:=by rw [d5,c6]
 obtain ⟨x1,x2⟩:=MW f.2.1 g.1.2.2.2.1 fok.2.1 (by omega)
 refine ⟨(u,f.2.1.filter (sw g.1.2.2.2.1),ar2.2,(g.2.2.2.1++ar1.1)++ar2.1,(g.2.2.2.2.1++one)++two,g.2.2.2.2.2.1++f.2.2.2.1,()),?_,?_,⟨⟨⟨u1,fun x _=>fF _ rfl x⟩,⟨u2,fun x _=>fF _ rfl x⟩,fF _ rfl _⟩,P8 fok.2.1 (List.length_filter_le _ _) (fun y hy=>(List.mem_filter.1 hy).1),⟨?_,fun x _=>fF _ rfl x⟩,⟨?_,fun x _=>fF _ rfl x⟩,⟨?_,fun x _=>fF _ rfl x⟩,⟨?_,fun x hx=>?_⟩,trivial⟩,?_,?_,?_⟩
 ·unfold oC
  simp only [a1,c1,d1,s1,r1,s4,r6,x1,Option.bind_some]
  rw [if_pos (by simp only [aC];omega),if_pos (by simp only [aC,List.length_append];omega),if_pos (by simp only [aC];omega),if_pos (by simp only [aC,List.length_append];omega),if_pos (by simp only [aC];omega)]
 ·unfold tC
  simp only [a2,c2,d2,s2,r2,s5,r7,hck,x2,Option.bind_some]
  rw [HC _ _ _ (by omega),Option.bind_some,Ou _ _ _ (by omega),Option.bind_some,if_pos (by simp only [aC];omega)]
 ·show ar2.2.length≤33554432;omega
 ·show ((g.2.2.2.1++ar1.1)++ar2.1).length≤33554432;simp only [List.length_append];omega
 ·show ((g.2.2.2.2.1++one)++two).length≤33554432;simp only [List.length_append];omega
 ·show (g.2.2.2.2.2.1++f.2.2.2.1).length≤33554432;simp only [List.length_append];omega
 ·rcases List.mem_append.1 hx with hx | hx
  ·exact ok.2.2.2.2.2.1.2 x hx
  ·exact fok.2.2.2.1.2 x hx
 ·show ((g.2.2.2.1++ar1.1)++ar2.1).length≤_;simp only [List.length_append];omega
 ·show ((g.2.2.2.2.1++one)++two).length≤_;simp only [List.length_append];omega
 ·show (g.2.2.2.2.2.1++f.2.2.2.1).length≤_;simp only [List.length_append];omega
theorem A7 (g:T_Game.D) (h:okD T_Game g):∃ n g',jR g 1=some (n,(g',()))∧(0≤n∧n≤1152921504606846976)∧jS ((g'.1.1,g'.1.2.1,g.1.2.2),g'.2) 1=some n:=by
 have p1:g.1.1.length≤33554432:=h.1.1.1
 have p2:g.1.2.1.length≤33554432:=h.1.2.1.1
 have l3:g.2.2.1.length≤33554432:=h.2.2.1.1
 have l4:g.2.2.2.1.length≤33554432:=h.2.2.2.1.1
 have l5:g.2.2.2.2.1.length≤33554432:=h.2.2.2.2.1.1
 have n2:∀ n∈g.2.1.map dt,n≤33554432:=fun n hn=>by obtain ⟨x,hx,rfl⟩:=List.mem_map.1 hn;exact (h.2.1.2 x hx).2.2.2.2.2.2.1.2.2.2.2.2.2.1.1
 have n6:∀ n∈g.2.2.2.2.2.1.map fP,n≤33554432:=fun n hn=>by obtain ⟨x,hx,rfl⟩:=List.mem_map.1 hn;exact (h.2.2.2.2.2.1.2 x hx).2.2.2.2.2.1.1
 have s2:(g.2.1.map dt).length≤33554432:=by rw [List.length_map];exact h.2.1.1
 have s6:(g.2.2.2.2.2.1.map fP).length≤33554432:=by rw [List.length_map];exact h.2.2.2.2.2.1.1
 obtain ⟨K1,k1⟩:∃ K:Int,K=1 + (13:Nat) * (g.1.1.length:Int) + (3:Nat) * (g.1.2.1.length:Int):=⟨_,rfl⟩
 have a1:=DO g.1 1 (by omega) (by omega) p1 p2
 have b1:=B1 g.1 1 (by omega) (by omega) p1 p2
 rw [← k1] at a1 b1
 obtain ⟨a2,q2,r2⟩:=AC g.2.1 K1 h.2.1 (by omega) (by omega)
 have b2:=AD (g.2.1.map dt) K1 n2 s2 (by omega) (by omega)
 obtain ⟨K2,k2⟩:∃ K:Int,K=K1 + lJ 21 (g.2.1.map dt):=⟨_,rfl⟩
 rw [← k2] at a2 b2
 have a3:=Fw g.2.2.1 K2 (by omega) (by omega) (by omega)
 have b3:=Fx K2 g.2.2.1.length (by omega) (by omega) (by omega)
 obtain ⟨K3,k3⟩:∃ K:Int,K=K2 + (1:Nat) * (g.2.2.1.length:Int):=⟨_,rfl⟩
 rw [← k3] at a3 b3
 have a4:=zn g.2.2.2.1 K3 (by omega) (by omega) (by omega)
 have b4:=zo K3 g.2.2.2.1.length (by omega) (by omega) (by omega)
 obtain ⟨K4,k4⟩:∃ K:Int,K=K3 + (16:Nat) * (g.2.2.2.1.length:Int):=⟨_,rfl⟩
 rw [← k4] at a4 b4
 have a5:=DN g.2.2.2.2.1 K4 (by omega) (by omega) (by omega)
 have b5:=DQ K4 g.2.2.2.2.1.length (by omega) (by omega) (by omega)
 obtain ⟨K5,k5⟩:∃ K:Int,K=K4 + (23:Nat) * (g.2.2.2.2.1.length:Int):=⟨_,rfl⟩
 rw [← k5] at a5 b5
 obtain ⟨a6,q6,r6⟩:=DT g.2.2.2.2.2.1 K5 h.2.2.2.2.2.1 (by omega) (by omega)
 have b6:=DU (g.2.2.2.2.2.1.map fP) K5 n6 s6 (by omega) (by omega)
 obtain ⟨K6,k6⟩:∃ K:Int,K=K5 + lJ 13 (g.2.2.2.2.2.1.map fP):=⟨_,rfl⟩
 rw [← k6] at a6 b6
 refine ⟨K6,(((Kl g.1 1).1,(Kl g.1 1).2.1,g.1.2.2),iU eO 21 K1 (g.2.1.map dt),bM mS (1:Nat) K2 g.2.2.1.length,bM dS (16:Nat) K3 g.2.2.2.1.length,bM iT (23:Nat) K4 g.2.2.2.2.1.length,iU iV 13 K5 (g.2.2.2.2.2.1.map fP),()),?_,⟨by omega,by omega⟩,?_⟩
 ·unfold jR
  simp only [a1,a2,a3,a4,a5,a6,Option.bind_some]
 ·unfold jS
  simp (disch:=omega) only [b1,b2,b3,b4,b5,b6,Option.bind_some,bb,cond_false]
theorem KM (g:T_Game.D) (h:okD T_Game g):oD g=some g:=by
 have l4:g.2.2.2.1.length≤33554432:=h.2.2.2.1.1
 have l5:g.2.2.2.2.1.length≤33554432:=h.2.2.2.2.1.1
 unfold oD bv gA
 simp only [fz g.1 h.1.1.1 h.1.2.1.1,dA _ h.2.1,eF _ h.2.2.1.1,p7 _ h.2.2.2.2.2.1,Option.bind_some,List.nil_append]
 rw [if_pos (by simp only [aC,List.length_nil];omega),Option.bind_some,if_pos (by simp only [aC,List.length_nil];omega)]
 rfl
theorem KN (g:T_Game.D) (h:okD T_Game g):qp g=some g:=by
 have l3:g.2.2.1.length≤33554432:=h.2.2.1.1
 have l4:g.2.2.2.1.length≤33554432:=h.2.2.2.1.1
 have l5:g.2.2.2.2.1.length≤33554432:=h.2.2.2.2.1.1
 unfold qp
 simp only [gM g.1 h.1.1.1 h.1.2.1.1,ci _ h.2.1,wW _ h.2.2.2.2.2.1,Option.bind_some,List.nil_append]
 rw [if_pos (by simp only [aC,List.length_nil];omega),if_pos (by simp only [aC,List.length_nil];omega),if_pos (by simp only [aC,List.length_nil];omega)]
theorem Qa (g:T_Game.D) (h:okD T_Game g) (hb:lq g=some true):bl g.1=true∧g.2.1.length≤5:=by
 have hl:g.2.2.2.2.2.1.length≤33554432:=h.2.2.2.2.2.1.1
 unfold lq at hb
 simp only [cP g.1 h.1.1.1 h.1.2.1.1,gS _ h.2.1,Option.bind_some] at hb
 cases hs:bl g.1 with
 | false=>rw [hs] at hb;cases hb
 | true =>
  refine ⟨rfl,?_⟩
  rw [hs] at hb
  cases ht:decide ((g.2.1.length:Int)≤5) with
  | true=>have:=of_decide_eq_true ht;omega
  | false=>rw [ht,Bool.and_false] at hb;cases hb
theorem Sp (s:ae.D) (h:bl s=true):∃ x,(dp s)[1]?=some x:=by
 have hs:=(oM h).2
 unfold bl at h
 simp only [Bool.and_eq_true] at h
 have h1:=of_decide_eq_true h.1.1.1.1.2.1
 have h2:=of_decide_eq_true h.1.1.1.2.1
 have h3:=of_decide_eq_true h.1.1.1.2.2
 unfold dp
 rw [aB (by omega) (by omega),decide_eq_true h2,decide_eq_true h3,Bool.true_and,if_pos rfl]
 match s.2.1,h1 with
 | x :: y :: r,_=>exact ⟨_,rfl⟩
 | [x],h=>simp at h
 | [],h=>simp at h
theorem Q9 (g:T_Game.D) (o:T_Order.D) (ok:okD T_Game g) (oko:okD T_Order o) (hq:g.2.2.2.1.length + 600000≤33554432) (hl:g.2.2.2.2.1.length + 600000≤33554432) (hn:g.2.2.2.2.2.1.length + 600000≤33554432) :
  ∃ r,qB g o=some r∧mH g o=some r∧okD T_Game r.1∧r.1.2.2.2.1.length≤g.2.2.2.1.length + 600000∧r.1.2.2.2.2.1.length≤g.2.2.2.2.1.length + 600000∧r.1.2.2.2.2.2.1.length≤g.2.2.2.2.2.1.length + 600000:=by
 obtain ⟨b,g1,g2⟩:=R7 g ok
 unfold qB mH
 rw [KN g ok,KM g ok,Option.bind_some,Option.bind_some,g1,g2,Option.bind_some,Option.bind_some]
 cases b with
 | false=>exact ⟨(g,false,()),rfl,rfl,ok,Nat.le_add_right _ _,Nat.le_add_right _ _,Nat.le_add_right _ _⟩
 | true =>
  obtain ⟨hs,ht⟩:=Qa g ok g2
  have he:o.2.1.2.2.2.2.2.2.1.2.2.2.2.2.2.1.length≤33554432:=oko.2.1.2.2.2.2.2.2.1.2.2.2.2.2.2.1.1
  have hv:o.2.2.2.1.length≤33554432:=oko.2.2.2.1.1
  have k2:g.1.2.1.length≤33554432:=ok.1.2.1.1
  generalize (o.1 == 1)=c1
  generalize (o.1 == 2)=c2
  generalize (o.1 == 3)=c3
  generalize (o.1 == 4)=c4
  cases c1 with
  | true =>
   obtain ⟨r,e1,e2,okr⟩:=Q6 g.2.1 o.2.1 ok.2.1 (by omega) he
   rw [e1,e2]
   exact ⟨((g.1,r.1,g.2.2),r.2),rfl,rfl,⟨ok.1,okr,ok.2.2⟩,Nat.le_add_right _ _,Nat.le_add_right _ _,Nat.le_add_right _ _⟩
  | false =>
   cases c2 with
   | true =>
    obtain ⟨r,e1,e2,okr⟩:=Uu g.2.1 o.2.2.1 ok.2.1 (by omega)
    rw [e1,e2]
    exact ⟨((g.1,r.1,g.2.2),r.2),rfl,rfl,⟨ok.1,okr,ok.2.2⟩,Nat.le_add_right _ _,Nat.le_add_right _ _,Nat.le_add_right _ _⟩
   | false =>
    cases c3 with
    | true =>
     rw [wY _ hv,wX _ hv]
     cases wq o.2.2.2.1 with
     | false=>exact ⟨(g,false,()),rfl,rfl,ok,Nat.le_add_right _ _,Nat.le_add_right _ _,Nat.le_add_right _ _⟩
     | true =>
      obtain ⟨r,e1,e2,okr,z1,z2,z3⟩:=So g o.2.2.2.1 ok hs ht hv hq hl hn
      rw [e1,e2]
      exact ⟨(r,true,()),rfl,rfl,okr,z1,z2,z3⟩
    | false =>
     cases c4 with
     | false=>exact ⟨(g,false,()),rfl,rfl,ok,Nat.le_add_right _ _,Nat.le_add_right _ _,Nat.le_add_right _ _⟩
     | true =>
      generalize (g.1.2.2.2.1 == 9999)=c5
      cases c5 with
      | true=>exact ⟨(g,false,()),rfl,rfl,ok,Nat.le_add_right _ _,Nat.le_add_right _ _,Nat.le_add_right _ _⟩
      | false =>
       obtain ⟨x,hx⟩:=Sp g.1 hs
       obtain ⟨y1,y2⟩:=MW g.2.1 (IntKind.wrap .i64 (g.1.2.2.2.1 + 1)) ok.2.1 (by omega)
       have hi:∀ {R:Type} (κ:Int→Option R),idx (dp g.1) 1 κ=κ x:=fun κ=>ay (i:=1) hx
       have hx':(dp g.1)[(1:Int).toNat]?=some x:=hx
       rw [tJ _ k2,tK _ k2]
       simp only [cond_false,cond_true,Option.bind_some,hi,hx',y1,y2]
       exact ⟨((((g.1.1,g.1.2.1,x,IntKind.wrap .i64 (g.1.2.2.2.1 + 1),()),g.2.1.filter (sw (IntKind.wrap .i64 (g.1.2.2.2.1 + 1))),g.2.2)),true,()),rfl,rfl,
        ⟨⟨ok.1.1,ok.1.2.1,trivial,trivial,trivial⟩,P8 ok.2.1 (List.length_filter_le _ _) (fun y hy=>(List.mem_filter.1 hy).1),ok.2.2⟩,Nat.le_add_right _ _,Nat.le_add_right _ _,Nat.le_add_right _ _⟩
theorem Ra (a:T_Game.D) (l:Int) (h0:0≤l) (h1:l≤33554432) (w:T_Game.wf a):SzR (iG a l) l (okD T_Game a∧(a.2.2.2.1.length:Int)≤l∧(a.2.2.2.2.1.length:Int)≤l∧(a.2.2.2.2.2.1.length:Int)≤l):=by
 have list:∀ {r:Option Int} {n m:Int},0≤n→m≤l→r=some (if n≤m then m - n else -1)→SzR r m (n≤l):=fun {r n m} hn hm e=>by
  refine ⟨_,e,?_⟩
  split
  ·exact .inr ⟨by omega,by omega,by omega⟩
  ·exact .inl (by omega)
 have two:SzR (iG a l) l ((a.2.2.2.1.length:Int)≤l∧(a.2.2.2.2.1.length:Int)≤l∧(a.2.2.2.2.2.1.length:Int)≤l):=by
  unfold iG
  refine SzR.imp (SzR.bind (wR a.1 l h0 h1 w.1) fun m1 k1 j1=>SzR.bind (tG a.2.1 m1 k1 (by omega) w.2.1) fun m2 k2 j2=>SzR.bind (zi a.2.2.1 m2 k2 (by omega) w.2.2.1) fun m3 k3 j3 =>
   SzR.bind (list (by omega) (by omega) (rZ a.2.2.2.1 m3 k3 (by omega) w.2.2.2.1.1)) fun m4 k4 j4=>SzR.bind (list (by omega) (by omega) (wQ a.2.2.2.2.1 m4 k4 (by omega) w.2.2.2.2.1.1)) fun m5 k5 j5 =>
   SzR.bind (P:=(a.2.2.2.2.2.1.length:Int)≤l) ?_ fun m6 k6 j6=>SzR.done k6) (fun h=>⟨h.2.2.2.1,h.2.2.2.2.1,h.2.2.2.2.2.1⟩)
  have hw:=w.2.2.2.2.2.1
  unfold lX
  obtain ⟨m,e,hh⟩:=Pj (t:=au) a.2.2.2.2.2.1 li (body:=pN a.2.2.2.2.2.1) hw.1 (fun x hx l h0 h1=>zj x l h0 h1 (hw.2 x hx)) (fun _=>rfl) k5 (by omega)
  exact ⟨m,e,hh.imp id fun h=>⟨h.1,by omega,by omega⟩⟩
 obtain ⟨m,e1,h1'⟩:=Kj a l h0 h1 w
 obtain ⟨m',e2,h2⟩:=two
 rw [e1] at e2
 cases e2
 refine ⟨m,e1,?_⟩
 rcases h1' with h | ⟨p1,p2,p3⟩
 ·exact .inl h
 ·rcases h2 with h | ⟨q1,q2,q3⟩
  ·exact .inl h
  ·exact .inr ⟨p1,p2,p3,q3⟩
theorem B9 (a:aa.D) (k:Int) (h:okD aa a) (h0:0≤k) (hk:k≤1152921504606846976):∃ n x,kG a k=some (n,(x,()))∧0≤n∧n≤k + 36028797018963968:=by
 have hl:a.2.2.2.2.2.2.1.2.2.2.2.2.2.1.length≤33554432:=h.2.2.2.2.2.2.1.2.2.2.2.2.2.1.1
 unfold kG wc
 rw [gK _ k h0 (by omega) (by omega)]
 exact ⟨_,_,rfl,by omega,by omega⟩
theorem Ef (a:T_Order.D) (k:Int) (h:okD T_Order a) (h0:0≤k) (hk:k≤1152921504606846976):∃ n x,mO a k=some (n,(x,()))∧0≤n∧n≤k + 2 * 36028797018963968:=by
 have hl:a.2.2.2.1.length≤33554432:=h.2.2.2.1.1
 obtain ⟨n,x,e,n0,n1⟩:=B9 a.2.1 k h.2.1 h0 hk
 unfold mO
 rw [e,Option.bind_some,gK _ n n0 (by omega) (by omega)]
 exact ⟨_,_,rfl,by show 0≤n + (7:Nat) * (a.2.2.2.1.length:Int);omega,by show n + (7:Nat) * (a.2.2.2.1.length:Int)≤_;omega⟩
theorem law_DoOrder (g:T_Game.D) (o:T_Order.D) (wg:T_Game.wf g) (wo:T_Order.wf o):jB g o=some true:=by
 unfold jB
 obtain ⟨m1,e1,hh⟩:=Ra g 1048576 (by omega) (by omega) wg
 rw [e1,Option.bind_some]
 rcases hh with hh | ⟨g0,g1,okg,q1,q2,q3⟩
 ·rw [decide_eq_true hh];rfl
 rw [bb g0];simp only [cond_false]
 obtain ⟨m2,e2,hh⟩:=Ht o m1 g0 (by omega) wo
 rw [e2,Option.bind_some]
 rcases hh with hh | ⟨g2,g3,oko⟩
 ·rw [decide_eq_true hh];rfl
 rw [bb g2];simp only [cond_false]
 obtain ⟨r,r1,r2,okr,_⟩:=Q9 g o okg oko (by omega) (by omega) (by omega)
 obtain ⟨n1,x1,a1,a2,_⟩:=A7 g okg
 obtain ⟨n2,x2,b1,b2,_⟩:=Ef o n1 oko a2.1 a2.2
 obtain ⟨n3,x3,c1,c2,c3⟩:=A7 r.1 okr
 simp (disch:=omega) only [Kk g okg,Hu o oko,r1,r2,zk _ _ okr,zk _ _ okg,Hv _ _ oko,uk (t:=T_Game) rfl,uk (t:=T_Order) rfl,a1,b1,c1,c3,Option.bind_some,bb,bne_self_eq_false,Bool.not_true,cond_false,cond_true]
end Go.Abs
