/- Part of a proof of FnExactDoOrder: see the row. -/
import Derived.Test.YtenadnbpibhmiaaGreatDoGenDO2
import Derived.Test.YtenadnbpibhmiaaGreatDoAbsDeep
import Derived.Test.YtenadnbpibhmiaaGreatDoAbsDraw
set_option linter.unusedVariables false
set_option linter.unusedSimpArgs false
namespace Go.Abs
theorem L2 (a:cn.D):vH a=some a:=by
 first | rfl | (unfold vH;simp only [dx,cN,Option.bind_some];rfl)
theorem L3 (a b:cn.D):wa a b=some (eqD cn a b):=by
 unfold wa
 first | (simp only [le];rfl) | (simp only [cO,dy,Option.bind_some,le,ul];rfl)
theorem Hf (a:bc.D):qm a=some a:=by
 first | rfl | (unfold qm;simp only [dx,cN,Option.bind_some];rfl)
theorem Hg (a b:bc.D):qN a b=some (eqD bc a b):=by
 unfold qN
 first | (simp only [le];rfl) | (simp only [cO,dy,Option.bind_some,le,ul];rfl)
theorem Fr (a:List ac.D) (l:Int) (h0:0≤l) (h1:l≤33554432) (hn:a.length≤maxLen):fG a l=some (if (a.length:Int)≤l then l - a.length else -1):=by
 unfold fG;exact zL h0 h1 (by simpa [maxLen] using hn)
theorem cN (a:ac.D):gu a=some a:=by
 first | rfl | (unfold gu;simp only [dx,cN,Option.bind_some];rfl)
theorem od (a:List ac.D) (h:a.length≤33554432):gX a=some a:=by
 unfold gX
 rw [if_pos (by omega),if_pos (by simp only [aC];omega),Int.toNat_natCast,lg a _ (body:=ur a) gu (fun x _=>cN x) (by omega) (fun _=>rfl)]
 rfl
theorem cO (a b:ac.D):ji a b=some (eqD ac a b):=by
 unfold ji
 first | (simp only [le];rfl) | (simp only [cO,dy,Option.bind_some,le,ul];rfl)
theorem oe (a b:List ac.D) (h:a.length≤33554432):hU a b=some (eqD (.slice ac) a b):=by
 unfold hU
 exact um (t:=ac) rfl a b (e:=eqD ac) (fun _ _=>rfl) (by omega) (fun i=>by unfold uU;simp only [cO,Option.bind_some])
theorem Fs (a:List ah.D) (l:Int) (h0:0≤l) (h1:l≤33554432) (hn:a.length≤maxLen):jH a l=some (if (a.length:Int)≤l then l - a.length else -1):=by
 unfold jH;exact zL h0 h1 (by simpa [maxLen] using hn)
theorem dx (a:ah.D):gr a=some a:=by
 first | rfl | (unfold gr;simp only [dx,cN,Option.bind_some];rfl)
theorem Ft (a:List ah.D) (h:a.length≤33554432):oy a=some a:=by
 unfold oy
 rw [if_pos (by omega),if_pos (by simp only [aC];omega),Int.toNat_natCast,lg a _ (body:=uq a) gr (fun x _=>dx x) (by omega) (fun _=>rfl)]
 rfl
theorem dy (a b:ah.D):jh a b=some (eqD ah a b):=by
 unfold jh
 first | (simp only [le];rfl) | (simp only [cO,dy,Option.bind_some,le,ul];rfl)
theorem Fu (a b:List ah.D) (h:a.length≤33554432):oI a b=some (eqD (.slice ah) a b):=by
 unfold oI
 exact um (t:=ah) rfl a b (e:=eqD ah) (fun _ _=>rfl) (by omega) (fun i=>by unfold uT;simp only [dy,Option.bind_some])
theorem Hh (a:List ar.D) (l:Int) (h0:0≤l) (h1:l≤33554432) (hn:a.length≤maxLen):lU a l=some (if (a.length:Int)≤l then l - a.length else -1):=by
 unfold lU;exact zL h0 h1 (by simpa [maxLen] using hn)
theorem Ka (a:ar.D):oV a=some a:=by
 first | rfl | (unfold oV;simp only [dx,cN,Option.bind_some];rfl)
theorem Hi (a:List ar.D) (h:a.length≤33554432):qk a=some a:=by
 unfold qk
 rw [if_pos (by omega),if_pos (by simp only [aC];omega),Int.toNat_natCast,lg a _ (body:=wz a) oV (fun x _=>Ka x) (by omega) (fun _=>rfl)]
 rfl
theorem Kb (a b:ar.D):tD a b=some (eqD ar a b):=by
 unfold tD
 first | (simp only [le];rfl) | (simp only [cO,dy,Option.bind_some,le,ul];rfl)
theorem Hj (a b:List ar.D) (h:a.length≤33554432):qL a b=some (eqD (.slice ar) a b):=by
 unfold qL
 exact um (t:=ar) rfl a b (e:=eqD ar) (fun _ _=>rfl) (by omega) (fun i=>by unfold wN;simp only [Kb,Option.bind_some])
theorem rZ (a:List af.D) (l:Int) (h0:0≤l) (h1:l≤33554432) (hn:a.length≤maxLen):gP a l=some (if (a.length:Int)≤l then l - a.length else -1):=by
 unfold gP;exact zL h0 h1 (by simpa [maxLen] using hn)
theorem DI (a:af.D):iH a=some a:=by
 first | rfl | (unfold iH;simp only [dx,cN,Option.bind_some];rfl)
theorem BV (a:List af.D) (h:a.length≤33554432):jY a=some a:=by
 unfold jY
 rw [if_pos (by omega),if_pos (by simp only [aC];omega),Int.toNat_natCast,lg a _ (body:=rA a) iH (fun x _=>DI x) (by omega) (fun _=>rfl)]
 rfl
theorem DJ (a b:af.D):mJ a b=some (eqD af a b):=by
 unfold mJ
 first | (simp only [le];rfl) | (simp only [cO,dy,Option.bind_some,le,ul];rfl)
theorem BW (a b:List af.D) (h:a.length≤33554432):kE a b=some (eqD (.slice af) a b):=by
 unfold kE
 exact um (t:=af) rfl a b (e:=eqD af) (fun _ _=>rfl) (by omega) (fun i=>by unfold rX;simp only [DJ,Option.bind_some])
theorem wQ (a:List ai.D) (l:Int) (h0:0≤l) (h1:l≤33554432) (hn:a.length≤maxLen):lW a l=some (if (a.length:Int)≤l then l - a.length else -1):=by
 unfold lW;exact zL h0 h1 (by simpa [maxLen] using hn)
theorem Kc (a:ai.D):oW a=some a:=by
 first | rfl | (unfold oW;simp only [dx,cN,Option.bind_some];rfl)
theorem Hk (a:List ai.D) (h:a.length≤33554432):qn a=some a:=by
 unfold qn
 rw [if_pos (by omega),if_pos (by simp only [aC];omega),Int.toNat_natCast,lg a _ (body:=wA a) oW (fun x _=>Kc x) (by omega) (fun _=>rfl)]
 rfl
theorem Kd (a b:ai.D):tF a b=some (eqD ai a b):=by
 unfold tF
 first | (simp only [le];rfl) | (simp only [cO,dy,Option.bind_some,le,ul];rfl)
theorem Hl (a b:List ai.D) (h:a.length≤33554432):qO a b=some (eqD (.slice ai) a b):=by
 unfold qO
 exact um (t:=ai) rfl a b (e:=eqD ai) (fun _ _=>rfl) (by omega) (fun i=>by unfold wO;simp only [Kd,Option.bind_some])
theorem Ke (a:List Int) (h:a.length≤33554432):sP a=some a:=by
 unfold sP
 rw [if_pos (by omega),if_pos (by simp only [aC];omega),Int.toNat_natCast,lg a _ (body:=yl a) some (fun x _=>rfl) (by omega) (fun _=>rfl)]
 rfl
theorem Kf (a b:List Int) (h:a.length≤33554432):tE a b=some (eqD (.slice (.int .i64)) a b):=by
 unfold tE
 exact um (t:=.int .i64) rfl a b (e:=fun (x y:Int)=>x == y) (fun _ _=>rfl) (by omega) (fun i=>rfl)
theorem Hm (s:ae.D) (hp:s.1.length≤33554432) (hs:s.2.1.length≤33554432):ql s=some s:=by
 unfold ql
 simp only [Ft _ hp,Hi _ hs,Option.bind_some]
theorem Hn (a b:ae.D) (hp:a.1.length≤33554432) (hs:a.2.1.length≤33554432):qM a b=some (eqD ae a b):=by
 unfold qM
 simp only [Fu _ _ hp,Hj _ _ hs,Option.bind_some,le,ul]
 rfl
theorem og (a:List ac.D) (l:Int) (h0:0≤l) (h1:l≤33554432) (w:(Ty.slice ac).wf a):SzR (fG a l) l (okD (.slice ac) a) :=
 zM (t:=ac) rfl (Fr a l h0 h1 w.1) h1
theorem Fv (a:List ah.D) (l:Int) (h0:0≤l) (h1:l≤33554432) (w:(Ty.slice ah).wf a):SzR (jH a l) l (okD (.slice ah) a) :=
 zM (t:=ah) rfl (Fs a l h0 h1 w.1) h1
theorem Ho (a:List ar.D) (l:Int) (h0:0≤l) (h1:l≤33554432) (w:(Ty.slice ar).wf a):SzR (lU a l) l (okD (.slice ar) a) :=
 zM (t:=ar) rfl (Hh a l h0 h1 w.1) h1
theorem BX (a:List af.D) (l:Int) (h0:0≤l) (h1:l≤33554432) (w:(Ty.slice af).wf a):SzR (gP a l) l (okD (.slice af) a) :=
 zM (t:=af) rfl (rZ a l h0 h1 w.1) h1
theorem Hp (a:List ai.D) (l:Int) (h0:0≤l) (h1:l≤33554432) (w:(Ty.slice ai).wf a):SzR (lW a l) l (okD (.slice ai) a) :=
 zM (t:=ai) rfl (wQ a l h0 h1 w.1) h1
theorem Kg (a:List Int) (l:Int) (h0:0≤l) (h1:l≤33554432) (hn:a.length≤maxLen):oU a l=some (if (a.length:Int)≤l then l - a.length else -1):=by
 unfold oU;exact zL h0 h1 (by simpa [maxLen] using hn)
theorem zi (a:List Int) (l:Int) (h0:0≤l) (h1:l≤33554432) (w:(Ty.slice (.int .i64)).wf a):SzR (oU a l) l (okD (.slice (.int .i64)) a) :=
 zM (t:=(.int .i64)) rfl (Kg a l h0 h1 w.1) h1
theorem wR (a:ae.D) (l:Int) (h0:0≤l) (h1:l≤33554432) (w:ae.wf a):SzR (qi a l) l (okD ae a):=by
 unfold qi
 exact SzR.imp (SzR.bind (Fv a.1 l h0 h1 w.1) fun m1 k1 j1=>SzR.bind (Ho a.2.1 m1 k1 (by omega) w.2.1) fun m2 k2 j2=>SzR.done k2) (fun h=>⟨h.1,h.2.1,trivial,trivial,trivial⟩)
theorem L4 (a:bg.D) (l:Int) (h0:0≤l) (h1:l≤33554432) (w:bg.wf a):SzR (vF a l) l (okD bg a):=by
 unfold vF
 exact SzR.imp (SzR.bind (og a.2.2.2.2.2.2.1 l h0 h1 w.2.2.2.2.2.2.1) fun m1 k1 j1=>SzR.done k1) (fun h=>⟨trivial,trivial,trivial,trivial,trivial,trivial,h.1,trivial⟩)
theorem L5 (a:bg.D) (h:okD bg a):vI a=some a:=by
 unfold vI
 simp only [od a.2.2.2.2.2.2.1 h.2.2.2.2.2.2.1.1,Option.bind_some]
theorem L6 (a b:bg.D) (h:okD bg a):wb a b=some (eqD bg a b):=by
 unfold wb
 simp only [oe a.2.2.2.2.2.2.1 b.2.2.2.2.2.2.1 h.2.2.2.2.2.2.1.1,Option.bind_some,le,ul]
 rfl
theorem uW (a:aa.D) (l:Int) (h0:0≤l) (h1:l≤33554432) (w:aa.wf a):SzR (gW a l) l (okD aa a):=by
 unfold gW
 exact SzR.imp (SzR.bind (L4 a.2.2.2.2.2.2.1 l h0 h1 w.2.2.2.2.2.2.1) fun m1 k1 j1=>SzR.done k1) (fun h=>⟨trivial,trivial,trivial,trivial,fF cn rfl _,fF bc rfl _,h.1,trivial,trivial,trivial⟩)
theorem uX (a:aa.D) (h:okD aa a):gY a=some a:=by
 unfold gY
 simp only [L2,Hf,L5 a.2.2.2.2.2.2.1 h.2.2.2.2.2.2.1,Option.bind_some]
theorem uY (a b:aa.D) (h:okD aa a):hY a b=some (eqD aa a b):=by
 unfold hY
 simp only [L3,Hg,L6 a.2.2.2.2.2.2.1 b.2.2.2.2.2.2.1 h.2.2.2.2.2.2.1,Option.bind_some,le,ul]
 rfl
theorem tG (a:List aa.D) (l:Int) (h0:0≤l) (h1:l≤33554432) (w:(Ty.slice aa).wf a):SzR (lV a l) l (okD (.slice aa) a):=by
 unfold lV
 exact Rv (t:=aa) a gW (body:=sN a) w.1 (fun x hx l h0 h1=>uW x l h0 h1 (w.2 x hx)) (fun _=>rfl) h0 h1
theorem DK (a:List aa.D) (h:okD (.slice aa) a):lZ a=some a:=by
 have hl:a.length≤33554432:=h.1
 unfold lZ
 rw [if_pos (by omega),if_pos (by simp only [aC];omega),Int.toNat_natCast,lg a _ (body:=sO a) gY (fun x hx=>uX x (h.2 x hx)) (by omega) (fun _=>rfl)]
 rfl
theorem DL (a b:List aa.D) (h:okD (.slice aa) a):mI a b=some (eqD (.slice aa) a b):=by
 have hl:a.length≤33554432:=h.1
 unfold mI
 exact ML (t:=aa) rfl a b (e:=hY) (fun x hx y=>uY x y (h.2 x hx)) (by omega) (fun _=>rfl)
theorem zj (a:au.D) (l:Int) (h0:0≤l) (h1:l≤33554432) (w:au.wf a):SzR (li a l) l (okD au a):=by
 unfold li
 exact SzR.imp (SzR.bind (og a.2.2.2.2.2.1 l h0 h1 w.2.2.2.2.2.1) fun m1 k1 j1=>SzR.done k1) (fun h=>⟨trivial,trivial,trivial,trivial,fF ac rfl _,h.1,trivial,trivial,trivial⟩)
theorem Kh (a:au.D) (h:okD au a):oX a=some a:=by
 unfold oX
 simp only [cN,od a.2.2.2.2.2.1 h.2.2.2.2.2.1.1,Option.bind_some]
theorem Ki (a b:au.D) (h:okD au a):pB a b=some (eqD au a b):=by
 unfold pB
 simp only [cO,oe a.2.2.2.2.2.1 b.2.2.2.2.2.1 h.2.2.2.2.2.1.1,Option.bind_some,le,ul]
 rfl
theorem Hq (a:List au.D) (l:Int) (h0:0≤l) (h1:l≤33554432) (w:(Ty.slice au).wf a):SzR (lX a l) l (okD (.slice au) a):=by
 unfold lX
 exact Rv (t:=au) a li (body:=pN a) w.1 (fun x hx l h0 h1=>zj x l h0 h1 (w.2 x hx)) (fun _=>rfl) h0 h1
theorem Hr (a:List au.D) (h:okD (.slice au) a):qo a=some a:=by
 have hl:a.length≤33554432:=h.1
 unfold qo
 rw [if_pos (by omega),if_pos (by simp only [aC];omega),Int.toNat_natCast,lg a _ (body:=wB a) oX (fun x hx=>Kh x (h.2 x hx)) (by omega) (fun _=>rfl)]
 rfl
theorem Hs (a b:List au.D) (h:okD (.slice au) a):qP a b=some (eqD (.slice au) a b):=by
 have hl:a.length≤33554432:=h.1
 unfold qP
 exact ML (t:=au) rfl a b (e:=pB) (fun x hx y=>Ki x y (h.2 x hx)) (by omega) (fun _=>rfl)
theorem Kj (a:T_Game.D) (l:Int) (h0:0≤l) (h1:l≤33554432) (w:T_Game.wf a):SzR (iG a l) l (okD T_Game a):=by
 unfold iG
 exact SzR.imp (SzR.bind (wR a.1 l h0 h1 w.1) fun m1 k1 j1=>SzR.bind (tG a.2.1 m1 k1 (by omega) w.2.1) fun m2 k2 j2=>SzR.bind (zi a.2.2.1 m2 k2 (by omega) w.2.2.1) fun m3 k3 j3=>SzR.bind (BX a.2.2.2.1 m3 k3 (by omega) w.2.2.2.1) fun m4 k4 j4=>SzR.bind (Hp a.2.2.2.2.1 m4 k4 (by omega) w.2.2.2.2.1) fun m5 k5 j5=>SzR.bind (Hq a.2.2.2.2.2.1 m5 k5 (by omega) w.2.2.2.2.2.1) fun m6 k6 j6=>SzR.done k6) (fun h=>⟨h.1,h.2.1,h.2.2.1,h.2.2.2.1,h.2.2.2.2.1,h.2.2.2.2.2.1,trivial⟩)
theorem Kk (a:T_Game.D) (h:okD T_Game a):iI a=some a:=by
 unfold iI
 simp only [Hm a.1 h.1.1.1 h.1.2.1.1,DK a.2.1 h.2.1,Ke a.2.2.1 h.2.2.1.1,BV a.2.2.2.1 h.2.2.2.1.1,Hk a.2.2.2.2.1 h.2.2.2.2.1.1,Hr a.2.2.2.2.2.1 h.2.2.2.2.2.1,Option.bind_some]
theorem zk (a b:T_Game.D) (h:okD T_Game a):iQ a b=some (eqD T_Game a b):=by
 unfold iQ
 simp only [Hn a.1 b.1 h.1.1.1 h.1.2.1.1,DL a.2.1 b.2.1 h.2.1,Kf a.2.2.1 b.2.2.1 h.2.2.1.1,BW a.2.2.2.1 b.2.2.2.1 h.2.2.2.1.1,Hl a.2.2.2.2.1 b.2.2.2.2.1 h.2.2.2.2.1.1,Hs a.2.2.2.2.2.1 b.2.2.2.2.2.1 h.2.2.2.2.2.1,Option.bind_some,le,ul]
 rfl
theorem Ht (a:T_Order.D) (l:Int) (h0:0≤l) (h1:l≤33554432) (w:T_Order.wf a):SzR (qj a l) l (okD T_Order a):=by
 unfold qj
 exact SzR.imp (SzR.bind (uW a.2.1 l h0 h1 w.2.1) fun m1 k1 j1=>SzR.bind (og a.2.2.2.1 m1 k1 (by omega) w.2.2.2.1) fun m2 k2 j2=>SzR.done k2) (fun h=>⟨trivial,h.1,trivial,h.2.1,trivial⟩)
theorem Hu (a:T_Order.D) (h:okD T_Order a):gw a=some a:=by
 unfold gw
 simp only [uX a.2.1 h.2.1,od a.2.2.2.1 h.2.2.2.1.1,Option.bind_some]
theorem Hv (a b:T_Order.D) (h:okD T_Order a):qQ a b=some (eqD T_Order a b):=by
 unfold qQ
 simp only [uY a.2.1 b.2.1 h.2.1,oe a.2.2.2.1 b.2.2.2.1 h.2.2.2.1.1,Option.bind_some,le,ul]
 rfl
def dr (k:Int):ac.D:=(k,k + 1,k + 1 + 1,k + 1 + 1 + 1,k + 1 + 1 + 1 + 1,k + 1 + 1 + 1 + 1 + 1,((k + 1 + 1 + 1 + 1 + 1 + 1).tmod 3 == 0),())
theorem zl (ys:List ac.D) (k:Int) (i:Nat) (hlt:i < ys.length) (h0:0≤k) (hk:k≤4611686018427387904) (hi:(i:Int)≤4611686018427387904):gG (ys,k,(i:Int))=some (.inl (ys.set i (dr k),k + (7:Nat),(i:Int) + 1)):=by
 obtain ⟨x,hx⟩:∃ x,ys[i]?=some x:=⟨_,List.getElem?_eq_getElem hlt⟩
 have hil:((i:Int) < (ys.length:Int)):=by omega
 have hc:k + ((7:Nat):Int)=k + 1 + 1 + 1 + 1 + 1 + 1 + 1:=by omega
 unfold gG dr
 simp (disch:=omega) only [hil,decide_true,cond_true,Int.toNat_natCast,ay hx,hx,Option.bind_some,i4 hlt,i5 hlt,List.set_set,aB,hc]
 first | done | rfl
theorem gK (xs:List ac.D) (k:Int) (h0:0≤k) (hk:k + (7:Nat) * (xs.length:Int)≤4611686018427387904) (hlen:(xs.length:Int)≤4611686018427387904):cM xs k=some (k + (7:Nat) * (xs.length:Int),(bM dr (7:Nat) k xs.length,())):=by
 unfold cM
 rw [qX dr 7 zl (fun ys k=>by unfold gG;simp) xs k h0 hk hlen]
 rfl
def iS (k:Int):ar.D:=(k,k + 1,((k + 1 + 1).tmod 3 == 0),())
theorem AA (ys:List ar.D) (k:Int) (i:Nat) (hlt:i < ys.length) (h0:0≤k) (hk:k≤4611686018427387904) (hi:(i:Int)≤4611686018427387904):ic (ys,k,(i:Int))=some (.inl (ys.set i (iS k),k + (3:Nat),(i:Int) + 1)):=by
 obtain ⟨x,hx⟩:∃ x,ys[i]?=some x:=⟨_,List.getElem?_eq_getElem hlt⟩
 have hil:((i:Int) < (ys.length:Int)):=by omega
 have hc:k + ((3:Nat):Int)=k + 1 + 1 + 1:=by omega
 unfold ic iS
 simp (disch:=omega) only [hil,decide_true,cond_true,Int.toNat_natCast,ay hx,hx,Option.bind_some,i4 hlt,i5 hlt,List.set_set,aB,hc]
 first | done | rfl
theorem DM (xs:List ar.D) (k:Int) (h0:0≤k) (hk:k + (3:Nat) * (xs.length:Int)≤4611686018427387904) (hlen:(xs.length:Int)≤4611686018427387904):mK xs k=some (k + (3:Nat) * (xs.length:Int),(bM iS (3:Nat) k xs.length,())):=by
 unfold mK
 rw [qX iS 3 AA (fun ys k=>by unfold ic;simp) xs k h0 hk hlen]
 rfl
def gi (k:Int):ah.D:=(k,k + 1,k + 1 + 1,k + 1 + 1 + 1,k + 1 + 1 + 1 + 1,k + 1 + 1 + 1 + 1 + 1,k + 1 + 1 + 1 + 1 + 1 + 1,k + 1 + 1 + 1 + 1 + 1 + 1 + 1,k + 1 + 1 + 1 + 1 + 1 + 1 + 1 + 1,k + 1 + 1 + 1 + 1 + 1 + 1 + 1 + 1 + 1,k + 1 + 1 + 1 + 1 + 1 + 1 + 1 + 1 + 1 + 1,((k + 1 + 1 + 1 + 1 + 1 + 1 + 1 + 1 + 1 + 1 + 1).tmod 3 == 0),((k + 1 + 1 + 1 + 1 + 1 + 1 + 1 + 1 + 1 + 1 + 1 + 1).tmod 3 == 0),())
theorem zm (ys:List ah.D) (k:Int) (i:Nat) (hlt:i < ys.length) (h0:0≤k) (hk:k≤4611686018427387904) (hi:(i:Int)≤4611686018427387904):gF (ys,k,(i:Int))=some (.inl (ys.set i (gi k),k + (13:Nat),(i:Int) + 1)):=by
 obtain ⟨x,hx⟩:∃ x,ys[i]?=some x:=⟨_,List.getElem?_eq_getElem hlt⟩
 have hil:((i:Int) < (ys.length:Int)):=by omega
 have hc:k + ((13:Nat):Int)=k + 1 + 1 + 1 + 1 + 1 + 1 + 1 + 1 + 1 + 1 + 1 + 1 + 1:=by omega
 unfold gF gi
 simp (disch:=omega) only [hil,decide_true,cond_true,Int.toNat_natCast,ay hx,hx,Option.bind_some,i4 hlt,i5 hlt,List.set_set,aB,hc]
 first | done | rfl
theorem BY (xs:List ah.D) (k:Int) (h0:0≤k) (hk:k + (13:Nat) * (xs.length:Int)≤4611686018427387904) (hlen:(xs.length:Int)≤4611686018427387904):kF xs k=some (k + (13:Nat) * (xs.length:Int),(bM gi (13:Nat) k xs.length,())):=by
 unfold kF
 rw [qX gi 13 zm (fun ys k=>by unfold gF;simp) xs k h0 hk hlen]
 rfl
def iT (k:Int):ai.D:=(k,(k + 1,k + 1 + 1,k + 1 + 1 + 1,k + 1 + 1 + 1 + 1,k + 1 + 1 + 1 + 1 + 1,k + 1 + 1 + 1 + 1 + 1 + 1,((k + 1 + 1 + 1 + 1 + 1 + 1 + 1).tmod 3 == 0),()),k + 1 + 1 + 1 + 1 + 1 + 1 + 1 + 1,k + 1 + 1 + 1 + 1 + 1 + 1 + 1 + 1 + 1,(k + 1 + 1 + 1 + 1 + 1 + 1 + 1 + 1 + 1 + 1,k + 1 + 1 + 1 + 1 + 1 + 1 + 1 + 1 + 1 + 1 + 1,k + 1 + 1 + 1 + 1 + 1 + 1 + 1 + 1 + 1 + 1 + 1 + 1,k + 1 + 1 + 1 + 1 + 1 + 1 + 1 + 1 + 1 + 1 + 1 + 1 + 1,k + 1 + 1 + 1 + 1 + 1 + 1 + 1 + 1 + 1 + 1 + 1 + 1 + 1 + 1,k + 1 + 1 + 1 + 1 + 1 + 1 + 1 + 1 + 1 + 1 + 1 + 1 + 1 + 1 + 1,k + 1 + 1 + 1 + 1 + 1 + 1 + 1 + 1 + 1 + 1 + 1 + 1 + 1 + 1 + 1 + 1,k + 1 + 1 + 1 + 1 + 1 + 1 + 1 + 1 + 1 + 1 + 1 + 1 + 1 + 1 + 1 + 1 + 1,k + 1 + 1 + 1 + 1 + 1 + 1 + 1 + 1 + 1 + 1 + 1 + 1 + 1 + 1 + 1 + 1 + 1 + 1,k + 1 + 1 + 1 + 1 + 1 + 1 + 1 + 1 + 1 + 1 + 1 + 1 + 1 + 1 + 1 + 1 + 1 + 1 + 1,k + 1 + 1 + 1 + 1 + 1 + 1 + 1 + 1 + 1 + 1 + 1 + 1 + 1 + 1 + 1 + 1 + 1 + 1 + 1 + 1,((k + 1 + 1 + 1 + 1 + 1 + 1 + 1 + 1 + 1 + 1 + 1 + 1 + 1 + 1 + 1 + 1 + 1 + 1 + 1 + 1 + 1).tmod 3 == 0),((k + 1 + 1 + 1 + 1 + 1 + 1 + 1 + 1 + 1 + 1 + 1 + 1 + 1 + 1 + 1 + 1 + 1 + 1 + 1 + 1 + 1 + 1).tmod 3 == 0),()),())
theorem AB (ys:List ai.D) (k:Int) (i:Nat) (hlt:i < ys.length) (h0:0≤k) (hk:k≤4611686018427387904) (hi:(i:Int)≤4611686018427387904):ig (ys,k,(i:Int))=some (.inl (ys.set i (iT k),k + (23:Nat),(i:Int) + 1)):=by
 obtain ⟨x,hx⟩:∃ x,ys[i]?=some x:=⟨_,List.getElem?_eq_getElem hlt⟩
 have hil:((i:Int) < (ys.length:Int)):=by omega
 have hc:k + ((23:Nat):Int)=k + 1 + 1 + 1 + 1 + 1 + 1 + 1 + 1 + 1 + 1 + 1 + 1 + 1 + 1 + 1 + 1 + 1 + 1 + 1 + 1 + 1 + 1 + 1:=by omega
 unfold ig iT
 simp (disch:=omega) only [hil,decide_true,cond_true,Int.toNat_natCast,ay hx,hx,Option.bind_some,i4 hlt,i5 hlt,List.set_set,aB,hc]
 first | done | rfl
theorem DN (xs:List ai.D) (k:Int) (h0:0≤k) (hk:k + (23:Nat) * (xs.length:Int)≤4611686018427387904) (hlen:(xs.length:Int)≤4611686018427387904):mM xs k=some (k + (23:Nat) * (xs.length:Int),(bM iT (23:Nat) k xs.length,())):=by
 unfold mM
 rw [qX iT 23 AB (fun ys k=>by unfold ig;simp) xs k h0 hk hlen]
 rfl
def dS (k:Int):af.D:=(k,k + 1,k + 1 + 1,(k + 1 + 1 + 1,k + 1 + 1 + 1 + 1,k + 1 + 1 + 1 + 1 + 1,k + 1 + 1 + 1 + 1 + 1 + 1,k + 1 + 1 + 1 + 1 + 1 + 1 + 1,k + 1 + 1 + 1 + 1 + 1 + 1 + 1 + 1,k + 1 + 1 + 1 + 1 + 1 + 1 + 1 + 1 + 1,k + 1 + 1 + 1 + 1 + 1 + 1 + 1 + 1 + 1 + 1,k + 1 + 1 + 1 + 1 + 1 + 1 + 1 + 1 + 1 + 1 + 1,k + 1 + 1 + 1 + 1 + 1 + 1 + 1 + 1 + 1 + 1 + 1 + 1,k + 1 + 1 + 1 + 1 + 1 + 1 + 1 + 1 + 1 + 1 + 1 + 1 + 1,((k + 1 + 1 + 1 + 1 + 1 + 1 + 1 + 1 + 1 + 1 + 1 + 1 + 1 + 1).tmod 3 == 0),((k + 1 + 1 + 1 + 1 + 1 + 1 + 1 + 1 + 1 + 1 + 1 + 1 + 1 + 1 + 1).tmod 3 == 0),()),())
theorem wd (ys:List af.D) (k:Int) (i:Nat) (hlt:i < ys.length) (h0:0≤k) (hk:k≤4611686018427387904) (hi:(i:Int)≤4611686018427387904):fx (ys,k,(i:Int))=some (.inl (ys.set i (dS k),k + (16:Nat),(i:Int) + 1)):=by
 obtain ⟨x,hx⟩:∃ x,ys[i]?=some x:=⟨_,List.getElem?_eq_getElem hlt⟩
 have hil:((i:Int) < (ys.length:Int)):=by omega
 have hc:k + ((16:Nat):Int)=k + 1 + 1 + 1 + 1 + 1 + 1 + 1 + 1 + 1 + 1 + 1 + 1 + 1 + 1 + 1 + 1:=by omega
 unfold fx dS
 simp (disch:=omega) only [hil,decide_true,cond_true,Int.toNat_natCast,ay hx,hx,Option.bind_some,i4 hlt,i5 hlt,List.set_set,aB,hc]
 first | done | rfl
theorem zn (xs:List af.D) (k:Int) (h0:0≤k) (hk:k + (16:Nat) * (xs.length:Int)≤4611686018427387904) (hlen:(xs.length:Int)≤4611686018427387904):ie xs k=some (k + (16:Nat) * (xs.length:Int),(bM dS (16:Nat) k xs.length,())):=by
 unfold ie
 rw [qX dS 16 wd (fun ys k=>by unfold fx;simp) xs k h0 hk hlen]
 rfl
def mS (k:Int):Int:=k
theorem BZ (ys:List Int) (k:Int) (i:Nat) (hlt:i < ys.length) (h0:0≤k) (hk:k≤4611686018427387904) (hi:(i:Int)≤4611686018427387904):jk (ys,k,(i:Int))=some (.inl (ys.set i (mS k),k + (1:Nat),(i:Int) + 1)):=by
 obtain ⟨x,hx⟩:∃ x,ys[i]?=some x:=⟨_,List.getElem?_eq_getElem hlt⟩
 have hil:((i:Int) < (ys.length:Int)):=by omega
 have hc:k + ((1:Nat):Int)=k + 1:=by omega
 unfold jk mS
 simp (disch:=omega) only [hil,decide_true,cond_true,Int.toNat_natCast,ay hx,hx,Option.bind_some,i4 hlt,i5 hlt,List.set_set,aB,hc]
 first | done | rfl
theorem Fw (xs:List Int) (k:Int) (h0:0≤k) (hk:k + (1:Nat) * (xs.length:Int)≤4611686018427387904) (hlen:(xs.length:Int)≤4611686018427387904):oJ xs k=some (k + (1:Nat) * (xs.length:Int),(bM mS (1:Nat) k xs.length,())):=by
 unfold oJ
 rw [qX mS 1 BZ (fun ys k=>by unfold jk;simp) xs k h0 hk hlen]
 rfl
def Kl (s:ae.D) (k:Int):ae.D:=(bM gi (13:Nat) k s.1.length,bM iS (3:Nat) (k + (13:Nat) * (s.1.length:Int)) s.2.1.length,s.2.2)
theorem DO (s:ae.D) (k:Int) (h0:0≤k) (h1:k≤4294967296) (hp:s.1.length≤33554432) (hs:s.2.1.length≤33554432):mL s k=some (k + (13:Nat) * (s.1.length:Int) + (3:Nat) * (s.2.1.length:Int),(Kl s k,())):=by
 unfold mL
 rw [BY _ k h0 (by omega) (by omega),Option.bind_some,DM _ _ (by omega) (by omega) (by omega)]
 rfl
theorem sa (k0:Int) (n:Nat) (h0:0≤k0) (hk:k0 + (7:Nat) * (n:Int)≤4611686018427387904) (hlen:(n:Int)≤4611686018427387904):eh (bM dr (7:Nat) k0 n) k0=some (k0 + (7:Nat) * (n:Int)):=by
 unfold eh
 rw [qY dr 7 (bM dr (7:Nat) k0 n) k0 n rfl (body:=gJ (bM dr (7:Nat) k0 n)) ?_ ?_ h0 hk hlen]
 ·rfl
 ·intro k i hx h0 hk hi
  have hlt:=(List.getElem?_eq_some_iff.1 hx).1
  have hil:((i:Int) < ((bM dr (7:Nat) k0 n).length:Int)):=by omega
  have hc:k + ((7:Nat):Int)=k + 1 + 1 + 1 + 1 + 1 + 1 + 1:=by omega
  unfold gJ
  simp (disch:=omega) only [hil,decide_true,cond_true,ay hx,dr,aB,bne_self_eq_false,cond_false,hc]
  first | done | rfl
 ·intro k
  unfold gJ
  simp
theorem DP (k0:Int) (n:Nat) (h0:0≤k0) (hk:k0 + (3:Nat) * (n:Int)≤4611686018427387904) (hlen:(n:Int)≤4611686018427387904):mP (bM iS (3:Nat) k0 n) k0=some (k0 + (3:Nat) * (n:Int)):=by
 unfold mP
 rw [qY iS 3 (bM iS (3:Nat) k0 n) k0 n rfl (body:=ij (bM iS (3:Nat) k0 n)) ?_ ?_ h0 hk hlen]
 ·rfl
 ·intro k i hx h0 hk hi
  have hlt:=(List.getElem?_eq_some_iff.1 hx).1
  have hil:((i:Int) < ((bM iS (3:Nat) k0 n).length:Int)):=by omega
  have hc:k + ((3:Nat):Int)=k + 1 + 1 + 1:=by omega
  unfold ij
  simp (disch:=omega) only [hil,decide_true,cond_true,ay hx,iS,aB,bne_self_eq_false,cond_false,hc]
  first | done | rfl
 ·intro k
  unfold ij
  simp
theorem B0 (k0:Int) (n:Nat) (h0:0≤k0) (hk:k0 + (13:Nat) * (n:Int)≤4611686018427387904) (hlen:(n:Int)≤4611686018427387904):kH (bM gi (13:Nat) k0 n) k0=some (k0 + (13:Nat) * (n:Int)):=by
 unfold kH
 rw [qY gi 13 (bM gi (13:Nat) k0 n) k0 n rfl (body:=gI (bM gi (13:Nat) k0 n)) ?_ ?_ h0 hk hlen]
 ·rfl
 ·intro k i hx h0 hk hi
  have hlt:=(List.getElem?_eq_some_iff.1 hx).1
  have hil:((i:Int) < ((bM gi (13:Nat) k0 n).length:Int)):=by omega
  have hc:k + ((13:Nat):Int)=k + 1 + 1 + 1 + 1 + 1 + 1 + 1 + 1 + 1 + 1 + 1 + 1 + 1:=by omega
  unfold gI
  simp (disch:=omega) only [hil,decide_true,cond_true,ay hx,gi,aB,bne_self_eq_false,cond_false,hc]
  first | done | rfl
 ·intro k
  unfold gI
  simp
theorem DQ (k0:Int) (n:Nat) (h0:0≤k0) (hk:k0 + (23:Nat) * (n:Int)≤4611686018427387904) (hlen:(n:Int)≤4611686018427387904):mQ (bM iT (23:Nat) k0 n) k0=some (k0 + (23:Nat) * (n:Int)):=by
 unfold mQ
 rw [qY iT 23 (bM iT (23:Nat) k0 n) k0 n rfl (body:=il (bM iT (23:Nat) k0 n)) ?_ ?_ h0 hk hlen]
 ·rfl
 ·intro k i hx h0 hk hi
  have hlt:=(List.getElem?_eq_some_iff.1 hx).1
  have hil:((i:Int) < ((bM iT (23:Nat) k0 n).length:Int)):=by omega
  have hc:k + ((23:Nat):Int)=k + 1 + 1 + 1 + 1 + 1 + 1 + 1 + 1 + 1 + 1 + 1 + 1 + 1 + 1 + 1 + 1 + 1 + 1 + 1 + 1 + 1 + 1 + 1:=by omega
  unfold il
  simp (disch:=omega) only [hil,decide_true,cond_true,ay hx,iT,aB,bne_self_eq_false,cond_false,hc]
  first | done | rfl
 ·intro k
  unfold il
  simp
theorem zo (k0:Int) (n:Nat) (h0:0≤k0) (hk:k0 + (16:Nat) * (n:Int)≤4611686018427387904) (hlen:(n:Int)≤4611686018427387904):ik (bM dS (16:Nat) k0 n) k0=some (k0 + (16:Nat) * (n:Int)):=by
 unfold ik
 rw [qY dS 16 (bM dS (16:Nat) k0 n) k0 n rfl (body:=fy (bM dS (16:Nat) k0 n)) ?_ ?_ h0 hk hlen]
 ·rfl
 ·intro k i hx h0 hk hi
  have hlt:=(List.getElem?_eq_some_iff.1 hx).1
  have hil:((i:Int) < ((bM dS (16:Nat) k0 n).length:Int)):=by omega
  have hc:k + ((16:Nat):Int)=k + 1 + 1 + 1 + 1 + 1 + 1 + 1 + 1 + 1 + 1 + 1 + 1 + 1 + 1 + 1 + 1:=by omega
  unfold fy
  simp (disch:=omega) only [hil,decide_true,cond_true,ay hx,dS,aB,bne_self_eq_false,cond_false,hc]
  first | done | rfl
 ·intro k
  unfold fy
  simp
theorem Fx (k0:Int) (n:Nat) (h0:0≤k0) (hk:k0 + (1:Nat) * (n:Int)≤4611686018427387904) (hlen:(n:Int)≤4611686018427387904):oK (bM mS (1:Nat) k0 n) k0=some (k0 + (1:Nat) * (n:Int)):=by
 unfold oK
 rw [qY mS 1 (bM mS (1:Nat) k0 n) k0 n rfl (body:=jm (bM mS (1:Nat) k0 n)) ?_ ?_ h0 hk hlen]
 ·rfl
 ·intro k i hx h0 hk hi
  have hlt:=(List.getElem?_eq_some_iff.1 hx).1
  have hil:((i:Int) < ((bM mS (1:Nat) k0 n).length:Int)):=by omega
  have hc:k + ((1:Nat):Int)=k + 1:=by omega
  unfold jm
  simp (disch:=omega) only [hil,decide_true,cond_true,ay hx,mS,aB,bne_self_eq_false,cond_false,hc]
  first | done | rfl
 ·intro k
  unfold jm
  simp
theorem DR (s:ae.D) (k:Int) (h0:0≤k) (h1:k≤4294967296) (hp:s.1.length≤33554432) (hs:s.2.1.length≤33554432):iR (Kl s k) k=some (k + (13:Nat) * (s.1.length:Int) + (3:Nat) * (s.2.1.length:Int)):=by
 unfold iR Kl
 rw [B0 k _ h0 (by omega) (by omega),Option.bind_some,bb (by omega)]
 simp only [cond_false]
 rw [DP _ _ (by omega) (by omega) (by omega),Option.bind_some,bb (by omega)]
 rfl
theorem B1 (s:ae.D) (k:Int) (h0:0≤k) (h1:k≤4294967296) (hp:s.1.length≤33554432) (hs:s.2.1.length≤33554432):iR ((Kl s k).1,(Kl s k).2.1,s.2.2) k=some (k + (13:Nat) * (s.1.length:Int) + (3:Nat) * (s.2.1.length:Int)) :=
 DR s k h0 h1 hp hs
def iU {α:Type} (fill:Int→Nat→α) (c:Nat):Int→List Nat→List α
 | _,[]=>[]
 | k,n :: ns=>fill k n :: iU fill c (k + ((c + 7 * n:Nat):Int)) ns
def lJ (c:Nat):List Nat→Int
 | []=>0
 | n :: ns=>((c + 7 * n:Nat):Int) + lJ c ns
theorem pC (c:Nat):∀ ns:List Nat,0≤lJ c ns
 | []=>Int.le_refl _
 | n :: ns=>by have:=pC c ns;simp only [lJ];omega
theorem DS (c:Nat) (hc:c≤30):∀ ns:List Nat,(∀ n∈ns,n≤33554432)→lJ c ns≤234881054 * (ns.length:Int)
 | [],_=>by simp [lJ]
 | n :: ns,h=>by
  have h1:=DS c hc ns (fun m hm=>h m (List.mem_cons_of_mem _ hm))
  have h2:=h n (List.mem_cons_self ..)
  simp only [lJ,List.length_cons]
  omega
theorem MM {α:Type} (fill:Int→Nat→α) (c:Nat):∀ (ns:List Nat) (k:Int),(iU fill c k ns).length=ns.length
 | [],_=>rfl
 | n :: ns,k=>by simp only [iU,List.length_cons,MM fill c ns]
theorem Km {α:Type} (fill:Int→Nat→α) (c:Nat) (len:α→Nat) {body:(List α×(Int×Int))→Option ((List α×(Int×Int))⊕(List α×(Int×Int)))}
  (hb:∀ (ys:List α) (k:Int) (i:Nat) (x:α),ys[i]?=some x→len x≤33554432→0≤k→k≤2305843009213693952→(i:Int)≤2305843009213693952→body (ys,k,(i:Int))=some (.inl (ys.set i (fill k (len x)),k + ((c + 7 * len x:Nat):Int),(i:Int) + 1)))
  (he:∀ (ys:List α) (k:Int),body (ys,k,(ys.length:Int))=some (.inr (ys,k,(ys.length:Int)))) (xs:List α) (k:Int) (h:∀ x∈xs,len x≤33554432) (h0:0≤k) (hk:k + lJ c (xs.map len)≤2305843009213693952) (hlen:(xs.length:Int)≤2305843009213693952) :
  al body (xs,k,0)=some (iU fill c k (xs.map len),k + lJ c (xs.map len),(xs.length:Int)):=by
 have main:∀ (r p:List α) (k:Int),(∀ x∈r,len x≤33554432)→0≤k→k + lJ c (r.map len)≤2305843009213693952→((p.length + r.length:Nat):Int)≤2305843009213693952 →
   al body (p++r,k,(p.length:Int))=some (p++iU fill c k (r.map len),k + lJ c (r.map len),((p.length + r.length:Nat):Int)):=by
  intro r
  induction r with
  | nil =>
   intro p k _ h0 hk hl
   refine aP ?_
   have:=he p k
   simpa [iU,lJ] using this
  | cons x r ih =>
   intro p k hx h0 hk hl
   have hn:=pC c (r.map len)
   simp only [List.map_cons,lJ] at hk
   simp only [List.length_cons] at hl
   refine aG (hb (p++x :: r) k p.length x (by simp) (hx x (List.mem_cons_self ..)) h0 (by omega) (by omega)) ?_
   have:=ih (p++[fill k (len x)]) (k + ((c + 7 * len x:Nat):Int)) (fun y hy=>hx y (List.mem_cons_of_mem _ hy)) (by omega) (by omega) (by simp;omega)
   have e1:(p++x :: r).set p.length (fill k (len x))=p++[fill k (len x)]++r:=by simp
   rw [e1]
   have e2:((p++[fill k (len x)]).length:Int)=(p.length:Int) + 1:=by simp
   rw [e2] at this
   rw [this]
   simp only [iU,lJ,List.map_cons,List.length_cons,List.append_assoc,List.singleton_append,Option.some.injEq,Prod.mk.injEq,true_and]
   refine ⟨by omega,?_⟩
   simp;omega
 have:=main xs [] k h h0 hk (by simpa using hlen)
 simpa using this
theorem Kn {α:Type} (fill:Int→Nat→α) (c:Nat) (ys:List α) {β:Type} {body:(Int×Int)→Option ((Int×Int)⊕((Int×Int)⊕β))} (k:Int) (ns:List Nat) (hy:ys=iU fill c k ns)
  (hb:∀ (k:Int) (n i:Nat),ys[i]?=some (fill k n)→n≤33554432→0≤k→k≤2305843009213693952→(i:Int)≤2305843009213693952→body (k,(i:Int))=some (.inl (k + ((c + 7 * n:Nat):Int),(i:Int) + 1)))
  (he:∀ (k:Int),body (k,(ys.length:Int))=some (.inr (.inl (k,(ys.length:Int))))) (h:∀ n∈ns,n≤33554432) (h0:0≤k) (hk:k + lJ c ns≤2305843009213693952) (hlen:(ns.length:Int)≤2305843009213693952) :
  al body (k,0)=some (.inl (k + lJ c ns,(ns.length:Int))):=by
 have hyl:ys.length=ns.length:=by rw [hy,MM]
 have main:∀ (r:List Nat) (p:List α) (k:Int),ys=p++iU fill c k r→p.length + r.length=ns.length→(∀ n∈r,n≤33554432)→0≤k→k + lJ c r≤2305843009213693952→al body (k,(p.length:Int))=some (.inl (k + lJ c r,(ns.length:Int))):=by
  intro r
  induction r with
  | nil =>
   intro p k e hl _ h0 hk
   refine aP ?_
   have:=he k
   rw [hyl] at this
   simp only [List.length_nil,Nat.add_zero] at hl
   rw [hl]
   simpa [lJ] using this
  | cons n r ih =>
   intro p k e hl hn h0 hk
   have hnn:=pC c r
   simp only [lJ] at hk
   simp only [List.length_cons] at hl
   refine aG (hb k n p.length (by rw [e];simp [iU]) (hn n (List.mem_cons_self ..)) h0 (by omega) (by omega)) ?_
   have:=ih (p++[fill k n]) (k + ((c + 7 * n:Nat):Int)) (by rw [e];simp [iU]) (by simp;omega) (fun m hm=>hn m (List.mem_cons_of_mem _ hm)) (by omega) (by omega)
   rw [show ((p++[fill k n]).length:Int)=(p.length:Int) + 1 by simp] at this
   rw [this]
   simp only [lJ]
   congr 2
   rw [Int.add_assoc]
 have:=main ns [] k hy (by simp) h h0 hk
 simpa using this
def eO (k:Int) (n:Nat):aa.D:=(k,k + 1,k + 1 + 1,k + 1 + 1 + 1,(k + 1 + 1 + 1 + 1,k + 1 + 1 + 1 + 1 + 1,k + 1 + 1 + 1 + 1 + 1 + 1,k + 1 + 1 + 1 + 1 + 1 + 1 + 1,k + 1 + 1 + 1 + 1 + 1 + 1 + 1 + 1,k + 1 + 1 + 1 + 1 + 1 + 1 + 1 + 1 + 1,k + 1 + 1 + 1 + 1 + 1 + 1 + 1 + 1 + 1 + 1,()),(k + 1 + 1 + 1 + 1 + 1 + 1 + 1 + 1 + 1 + 1 + 1,k + 1 + 1 + 1 + 1 + 1 + 1 + 1 + 1 + 1 + 1 + 1 + 1,()),(k + 1 + 1 + 1 + 1 + 1 + 1 + 1 + 1 + 1 + 1 + 1 + 1 + 1,k + 1 + 1 + 1 + 1 + 1 + 1 + 1 + 1 + 1 + 1 + 1 + 1 + 1 + 1,k + 1 + 1 + 1 + 1 + 1 + 1 + 1 + 1 + 1 + 1 + 1 + 1 + 1 + 1 + 1,k + 1 + 1 + 1 + 1 + 1 + 1 + 1 + 1 + 1 + 1 + 1 + 1 + 1 + 1 + 1 + 1,k + 1 + 1 + 1 + 1 + 1 + 1 + 1 + 1 + 1 + 1 + 1 + 1 + 1 + 1 + 1 + 1 + 1,((k + 1 + 1 + 1 + 1 + 1 + 1 + 1 + 1 + 1 + 1 + 1 + 1 + 1 + 1 + 1 + 1 + 1 + 1).tmod 3 == 0),bM dr (7:Nat) (k + 1 + 1 + 1 + 1 + 1 + 1 + 1 + 1 + 1 + 1 + 1 + 1 + 1 + 1 + 1 + 1 + 1 + 1 + 1) n,()),k + 1 + 1 + 1 + 1 + 1 + 1 + 1 + 1 + 1 + 1 + 1 + 1 + 1 + 1 + 1 + 1 + 1 + 1 + 1 + (7:Nat) * (n:Int),k + 1 + 1 + 1 + 1 + 1 + 1 + 1 + 1 + 1 + 1 + 1 + 1 + 1 + 1 + 1 + 1 + 1 + 1 + 1 + (7:Nat) * (n:Int) + 1,())
def dt (x:aa.D):Nat:=x.2.2.2.2.2.2.1.2.2.2.2.2.2.1.length
theorem xK (ys:List aa.D) (k:Int) (i:Nat) (x:aa.D) (hx:ys[i]?=some x) (hn:dt x≤33554432) (h0:0≤k) (hk:k≤2305843009213693952) (hi:(i:Int)≤2305843009213693952):fN (ys,k,(i:Int))=some (.inl (ys.set i (eO k (dt x)),k + ((21 + 7 * dt x:Nat):Int),(i:Int) + 1)):=by
 have hlt:=(List.getElem?_eq_some_iff.1 hx).1
 have hil:((i:Int) < (ys.length:Int)):=by omega
 unfold dt at hn ⊢
 generalize hL:x.2.2.2.2.2.2.1.2.2.2.2.2.2.1=L at hn ⊢
 have hc:k + ((21 + 7 * L.length:Nat):Int)=k + 1 + 1 + 1 + 1 + 1 + 1 + 1 + 1 + 1 + 1 + 1 + 1 + 1 + 1 + 1 + 1 + 1 + 1 + 1 + (7:Nat) * (L.length:Int) + 1 + 1:=by omega
 have hm:∀ q:Int,q=k + 1 + 1 + 1 + 1 + 1 + 1 + 1 + 1 + 1 + 1 + 1 + 1 + 1 + 1 + 1 + 1 + 1 + 1 + 1→cM L q=some (q + (7:Nat) * (L.length:Int),(bM dr (7:Nat) q L.length,())):=fun q hq=>gK L q (by omega) (by omega) (by omega)
 have h3:¬ ((3:Int)=0):=by decide
 unfold fN eO
 simp (disch:=omega) only [hil,decide_true,cond_true,Int.toNat_natCast,ay hx,hx,Option.bind_some,i4 hlt,i5 hlt,List.set_set,aB,hc,hL,hm,h3,if_false]
 first | done | rfl
theorem AC (xs:List aa.D) (k:Int) (h:okD (.slice aa) xs) (h0:0≤k) (hk:k≤1152921504606846976):jj xs k=some (k + lJ 21 (xs.map dt),(iU eO 21 k (xs.map dt),()))∧0≤lJ 21 (xs.map dt)∧lJ 21 (xs.map dt)≤7881300354600000:=by
 have hl:xs.length≤33554432:=h.1
 have hx:∀ x∈xs,dt x≤33554432:=fun x hx=>(h.2 x hx).2.2.2.2.2.2.1.2.2.2.2.2.2.1.1
 have hb:=DS 21 (by decide) (xs.map dt) (fun m hm=>by obtain ⟨x,hx',rfl⟩:=List.mem_map.1 hm;exact hx x hx')
 rw [List.length_map] at hb
 refine ⟨?_,pC _ _,by omega⟩
 unfold jj
 rw [Km eO 21 dt xK (fun ys k=>by unfold fN;simp) xs k hx h0 (by omega) (by omega)]
 rfl
theorem AD (ns:List Nat) (k:Int) (h:∀ n∈ns,n≤33554432) (hl:ns.length≤33554432) (h0:0≤k) (hk:k≤1152921504606846976):jl (iU eO 21 k ns) k=some (k + lJ 21 ns):=by
 have hb:=DS 21 (by decide) ns h
 unfold jl
 rw [Kn eO 21 (iU eO 21 k ns) k ns rfl (body:=fO (iU eO 21 k ns)) ?_ ?_ h h0 (by omega) (by omega)]
 ·rfl
 ·intro k n i hx hn h0 hk hi
  have hlt:=(List.getElem?_eq_some_iff.1 hx).1
  have hil:((i:Int) < ((iU eO 21 _ ns).length:Int)):=Int.ofNat_lt.2 hlt
  have hc:k + ((21 + 7 * n:Nat):Int)=k + 1 + 1 + 1 + 1 + 1 + 1 + 1 + 1 + 1 + 1 + 1 + 1 + 1 + 1 + 1 + 1 + 1 + 1 + 1 + (7:Nat) * (n:Int) + 1 + 1:=by omega
  have hm:eh (bM dr (7:Nat) (k + 1 + 1 + 1 + 1 + 1 + 1 + 1 + 1 + 1 + 1 + 1 + 1 + 1 + 1 + 1 + 1 + 1 + 1 + 1) n) (k + 1 + 1 + 1 + 1 + 1 + 1 + 1 + 1 + 1 + 1 + 1 + 1 + 1 + 1 + 1 + 1 + 1 + 1 + 1)=some (k + 1 + 1 + 1 + 1 + 1 + 1 + 1 + 1 + 1 + 1 + 1 + 1 + 1 + 1 + 1 + 1 + 1 + 1 + 1 + (7:Nat) * (n:Int)):=sa _ n (by omega) (by omega) (by omega)
  have h3:¬ ((3:Int)=0):=by decide
  unfold fO
  simp (disch:=omega) only [hil,decide_true,cond_true,ay hx,eO,aB,bne_self_eq_false,cond_false,hc,hm,Option.bind_some,bb,h3,if_false]
  first | done | rfl
 ·intro k
  unfold fO
  simp
def iV (k:Int) (n:Nat):au.D:=(k,k + 1,k + 1 + 1,k + 1 + 1 + 1,(k + 1 + 1 + 1 + 1,k + 1 + 1 + 1 + 1 + 1,k + 1 + 1 + 1 + 1 + 1 + 1,k + 1 + 1 + 1 + 1 + 1 + 1 + 1,k + 1 + 1 + 1 + 1 + 1 + 1 + 1 + 1,k + 1 + 1 + 1 + 1 + 1 + 1 + 1 + 1 + 1,((k + 1 + 1 + 1 + 1 + 1 + 1 + 1 + 1 + 1 + 1).tmod 3 == 0),()),bM dr (7:Nat) (k + 1 + 1 + 1 + 1 + 1 + 1 + 1 + 1 + 1 + 1 + 1) n,k + 1 + 1 + 1 + 1 + 1 + 1 + 1 + 1 + 1 + 1 + 1 + (7:Nat) * (n:Int),k + 1 + 1 + 1 + 1 + 1 + 1 + 1 + 1 + 1 + 1 + 1 + (7:Nat) * (n:Int) + 1,())
def fP (x:au.D):Nat:=x.2.2.2.2.2.1.length
theorem AE (ys:List au.D) (k:Int) (i:Nat) (x:au.D) (hx:ys[i]?=some x) (hn:fP x≤33554432) (h0:0≤k) (hk:k≤2305843009213693952) (hi:(i:Int)≤2305843009213693952):ii (ys,k,(i:Int))=some (.inl (ys.set i (iV k (fP x)),k + ((13 + 7 * fP x:Nat):Int),(i:Int) + 1)):=by
 have hlt:=(List.getElem?_eq_some_iff.1 hx).1
 have hil:((i:Int) < (ys.length:Int)):=by omega
 unfold fP at hn ⊢
 generalize hL:x.2.2.2.2.2.1=L at hn ⊢
 have hc:k + ((13 + 7 * L.length:Nat):Int)=k + 1 + 1 + 1 + 1 + 1 + 1 + 1 + 1 + 1 + 1 + 1 + (7:Nat) * (L.length:Int) + 1 + 1:=by omega
 have hm:∀ q:Int,q=k + 1 + 1 + 1 + 1 + 1 + 1 + 1 + 1 + 1 + 1 + 1→cM L q=some (q + (7:Nat) * (L.length:Int),(bM dr (7:Nat) q L.length,())):=fun q hq=>gK L q (by omega) (by omega) (by omega)
 have h3:¬ ((3:Int)=0):=by decide
 unfold ii iV
 simp (disch:=omega) only [hil,decide_true,cond_true,Int.toNat_natCast,ay hx,hx,Option.bind_some,i4 hlt,i5 hlt,List.set_set,aB,hc,hL,hm,h3,if_false]
 first | done | rfl
theorem DT (xs:List au.D) (k:Int) (h:okD (.slice au) xs) (h0:0≤k) (hk:k≤1152921504606846976):mN xs k=some (k + lJ 13 (xs.map fP),(iU iV 13 k (xs.map fP),()))∧0≤lJ 13 (xs.map fP)∧lJ 13 (xs.map fP)≤7881300354600000:=by
 have hl:xs.length≤33554432:=h.1
 have hx:∀ x∈xs,fP x≤33554432:=fun x hx=>(h.2 x hx).2.2.2.2.2.1.1
 have hb:=DS 13 (by decide) (xs.map fP) (fun m hm=>by obtain ⟨x,hx',rfl⟩:=List.mem_map.1 hm;exact hx x hx')
 rw [List.length_map] at hb
 refine ⟨?_,pC _ _,by omega⟩
 unfold mN
 rw [Km iV 13 fP AE (fun ys k=>by unfold ii;simp) xs k hx h0 (by omega) (by omega)]
 rfl
theorem DU (ns:List Nat) (k:Int) (h:∀ n∈ns,n≤33554432) (hl:ns.length≤33554432) (h0:0≤k) (hk:k≤1152921504606846976):mR (iU iV 13 k ns) k=some (k + lJ 13 ns):=by
 have hb:=DS 13 (by decide) ns h
 unfold mR
 rw [Kn iV 13 (iU iV 13 k ns) k ns rfl (body:=io (iU iV 13 k ns)) ?_ ?_ h h0 (by omega) (by omega)]
 ·rfl
 ·intro k n i hx hn h0 hk hi
  have hlt:=(List.getElem?_eq_some_iff.1 hx).1
  have hil:((i:Int) < ((iU iV 13 _ ns).length:Int)):=Int.ofNat_lt.2 hlt
  have hc:k + ((13 + 7 * n:Nat):Int)=k + 1 + 1 + 1 + 1 + 1 + 1 + 1 + 1 + 1 + 1 + 1 + (7:Nat) * (n:Int) + 1 + 1:=by omega
  have hm:eh (bM dr (7:Nat) (k + 1 + 1 + 1 + 1 + 1 + 1 + 1 + 1 + 1 + 1 + 1) n) (k + 1 + 1 + 1 + 1 + 1 + 1 + 1 + 1 + 1 + 1 + 1)=some (k + 1 + 1 + 1 + 1 + 1 + 1 + 1 + 1 + 1 + 1 + 1 + (7:Nat) * (n:Int)):=sa _ n (by omega) (by omega) (by omega)
  have h3:¬ ((3:Int)=0):=by decide
  unfold io
  simp (disch:=omega) only [hil,decide_true,cond_true,ay hx,iV,aB,bne_self_eq_false,cond_false,hc,hm,Option.bind_some,bb,h3,if_false]
  first | done | rfl
 ·intro k
  unfold io
  simp
theorem gL (a b c:Int):aD a b c=some (decide (b≤a) && decide (a≤c)):=by
 unfold aD
 have:decide (a≥b)=decide (b≤a):=rfl
 simp only [this]
 cases decide (b≤a) <;> rfl
theorem dn (a b c:Int):aX a b c=some (decide (b≤a) && decide (a≤c)):=by
 unfold aX
 have:decide (a≥b)=decide (b≤a):=rfl
 simp only [this]
 cases decide (b≤a) <;> rfl
def ia (n:Int):Int:=if n > 2147483647 then 2147483647 else if n < -2147483647 then -2147483647 else n
theorem t6 (n:Int):db n=some (ia n):=by
 unfold db ia
 simp only [cond_eq_ite,decide_eq_true_eq]
 split <;> (try split) <;> rfl
theorem jT (n:Int):cd n=some (ia n):=by
 unfold cd ia
 congr 1
 split <;> split <;> (try split) <;> (try split) <;> omega
def zp (a b:Int):Int:=ia (IntKind.wrap .i64 (ia a + ia b))
def AX (a b:Int):Int:=ia (IntKind.wrap .i64 (ia a - ia b))
theorem DV {c:Prop} [Decidable c] (a b:Bool):(if c then some a else some b)=some (if c then a else b):=by split <;> rfl
def jU (p:ah.D):Bool :=
 decide (1≤p.1) && decide (p.1≤99) && decide (0≤p.2.1) && decide (p.2.1≤2) && decide (0≤p.2.2.1) && decide (p.2.2.1≤2) && decide (1≤p.2.2.2.1) && decide (p.2.2.2.1≤4) && decide (0≤p.2.2.2.2.1) && decide (p.2.2.2.2.1≤9999) &&
 decide (0≤p.2.2.2.2.2.1) && decide (p.2.2.2.2.2.1≤999) && decide (0≤p.2.2.2.2.2.2.1) && decide (p.2.2.2.2.2.2.1≤999) && decide (0≤p.2.2.2.2.2.2.2.1) && decide (p.2.2.2.2.2.2.2.1≤63) && (
  if p.2.2.2.1=2 then decide (0≤p.2.2.2.2.2.2.2.2.1) && decide (p.2.2.2.2.2.2.2.2.1≤2147483647) && decide (0≤p.2.2.2.2.2.2.2.2.2.1) && decide (p.2.2.2.2.2.2.2.2.2.1≤2147483647) && decide (0≤p.2.2.2.2.2.2.2.2.2.2.1) && decide (p.2.2.2.2.2.2.2.2.2.2.1≤2147483647)
  else (p.2.2.1 == p.2.1) && (p.2.2.2.2.2.2.2.2.1 == 0) && (p.2.2.2.2.2.2.2.2.2.1 == 0) && (p.2.2.2.2.2.2.2.2.2.2.1 == 0) && !p.2.2.2.2.2.2.2.2.2.2.2.1 && !p.2.2.2.2.2.2.2.2.2.2.2.2.1)
theorem Hw (p:ah.D):qq p=some (jU p):=by
 obtain ⟨i,o,sd,z,t,pw,tg,tr,pl,mi,mk,dl,bt,u⟩:=p
 unfold qq jU
 simp only [gL,Option.bind_some,cond_eq_ite,DV]
 congr 1
 rw [Bool.eq_iff_iff]
 by_cases h1:z=2
 ·subst h1;simp;grind
 ·simp [h1];grind
theorem Hx (p:ah.D):qC p=some (jU p):=by
 obtain ⟨i,o,sd,z,t,pw,tg,tr,pl,mi,mk,dl,bt,u⟩:=p
 unfold qC jU dq bk iM pj jM bR
 simp only [dn,Option.bind_some,cond_eq_ite,DV,bne]
 congr 1
 rw [Bool.eq_iff_iff]
 by_cases h1:z=2
 ·subst h1;simp;grind
 ·simp [h1];grind
def oL (x:ar.D):Bool:=decide (-2147483647≤x.1) && decide (x.1≤2147483647) && (decide (0≤x.2.1) && decide (x.2.1≤2147483647))
theorem Ko (x:ar.D):sR x=some (oL x):=by
 unfold sR oL
 simp only [gL,Option.bind_some]
 cases (decide (-2147483647≤x.1) && decide (x.1≤2147483647)) <;> rfl
theorem DW (x:ar.D):iN x=some (!oL x):=by
 unfold iN oL bR
 simp only [jT,dn,Option.bind_some]
 have:(ia x.1 != x.1)=!(decide (-2147483647≤x.1) && decide (x.1≤2147483647)):=by
  rw [Bool.eq_iff_iff];unfold ia;simp;grind
 rw [this]
 cases (decide (-2147483647≤x.1) && decide (x.1≤2147483647)) <;> rfl
def zq {α:Type} (p:Nat→α→Bool):Nat→List α→Bool
 | _,[]=>false
 | i,x :: r=>p i x || zq p (i + 1) r
theorem mT {α β:Type} (xs:List α) {body:Int→Option (Int⊕(Int⊕β))} (p:Nat→α→Bool) (v:β) (hlen:xs.length≤9223372036854775806)
  (hb:∀ (i:Nat) x,xs[i]?=some x→body i=bif p i x then some (.inr (.inr v)) else some (.inl (IntKind.wrap .i64 ((i:Int) + 1))))
  (he:body xs.length=some (.inr (.inl xs.length))) :
  al body 0=some (bif zq p 0 xs then .inr v else .inl xs.length):=by
 have main:∀ (r:List α) (k:Nat),xs.drop k=r→k≤xs.length→al body k=some (bif zq p k r then .inr v else .inl xs.length):=by
  intro r
  induction r with
  | nil =>
   intro k h hk
   have:k=xs.length:=by
    have:=congrArg List.length h
    simp at this
    omega
   subst this
   exact aP he
  | cons x r ih =>
   intro k h hk
   have hlt:k < xs.length:=by
    have:=congrArg List.length h
    simp at this
    omega
   have hx:xs[k]?=some x:=by
    have:=congrArg (fun l=>l[0]?) h
    simpa using this
   have hr:xs.drop (k + 1)=r:=by
    have:=congrArg List.tail h
    simpa using this
   unfold zq
   cases hp:p k x with
   | true =>
    refine aP ?_
    rw [hb k x hx,hp]
    rfl
   | false =>
    refine aG (s':=((k + 1:Nat):Int)) ?_ (ih (k + 1) hr hlt)
    rw [hb k x hx,hp]
    simp only [cond_false]
    rw [aB (by omega) (by omega)]
    rfl
 have:=main xs 0 rfl (by omega)
 simpa using this
theorem zR {α:Type} (p:α→Bool):∀ (xs:List α) (k:Nat),zq (fun _ x=>p x) k xs=xs.any p
 | [],_=>rfl
 | x :: xs,k=>by simp [zq,zR p xs]
theorem Fy {α:Type} (p:α→Bool) (xs:List α):decide ((match bD p xs with | some k=>(k:Int) | none=>-1)≥0)=xs.any p:=by
 obtain ⟨h1,h2⟩:=ee p xs
 cases hf:bD p xs with
 | none =>
  have:xs.any p=false:=by rw [List.any_eq_false];exact fun x hx=>by simp [h1 hf x hx]
  rw [this];rfl
 | some k =>
  obtain ⟨x,g1,g2,_⟩:=h2 k hf
  have:xs.any p=true:=by rw [List.any_eq_true];exact ⟨x,List.mem_of_getElem? g1,g2⟩
  rw [this]
  simp
def se (s:ae.D) (i:Nat) (x:ah.D):Bool :=
 !jU x || decide (x.2.1≥(s.2.1.length:Int)) || decide (x.2.2.1≥(s.2.1.length:Int)) || decide (x.2.2.2.2.1 > s.2.2.2.1) || (decide (0 < i) && (s.1[i - 1]?).any (fun y=>decide (y.1≥x.1)))
def bl (s:ae.D):Bool :=
 decide ((s.1.length:Int)≤8) && (decide (2≤(s.2.1.length:Int)) && decide ((s.2.1.length:Int)≤3)) && (decide (0≤s.2.2.1) && decide (s.2.2.1≤(s.2.1.length:Int) - 1)) && (decide (0≤s.2.2.2.1) && decide (s.2.2.2.1≤9999)) && !zq (se s) 0 s.1 && !s.2.1.any (fun x=>!oL x)
theorem Kp {s:ae.D} {i:Nat} {x:ah.D} (hx:s.1[i]?=some x) (hl:s.1.length≤33554432) {R:Type} (κ:ah.D→Option R) (h:0 < i):∃ y,s.1[i - 1]?=some y∧idx s.1 (IntKind.wrap .i64 ((i:Int) - 1)) κ=κ y:=by
 have hlt:=(List.getElem?_eq_some_iff.1 hx).1
 have hy:s.1[i - 1]?=some (s.1[i - 1]'(by omega)):=List.getElem?_eq_getElem (by omega)
 refine ⟨_,hy,?_⟩
 rw [aB (by omega) (by omega),show ((i:Int) - 1)=((i - 1:Nat):Int) by omega]
 exact ay hy
theorem L7 {x:ah.D} (h:jU x=true):0≤x.2.1∧0≤x.2.2.1:=by
 unfold jU at h
 simp only [Bool.and_eq_true,decide_eq_true_eq] at h
 exact ⟨h.1.1.1.1.1.1.1.1.1.1.1.1.1.1.2,h.1.1.1.1.1.1.1.1.1.1.1.1.2⟩
theorem Rw {a n:Int} (h:0≤a):(decide (0≤a) && decide (a≤n - 1))=!decide (a≥n):=by
 by_cases hh:a≥n
 ·rw [decide_eq_true hh,decide_eq_false (p:=a≤n - 1) (by omega),Bool.and_false];rfl
 ·rw [decide_eq_false hh,decide_eq_true (p:=a≤n - 1) (by omega),decide_eq_true h];rfl
theorem QP (xs:List ar.D) (hl:xs.length≤33554432) (p:ar.D→Bool) (q:(ar.D×Unit)→Option Bool) (hq:∀ x,q (x,())=some (p x)) :
  de xs q=some (match bD p xs with | some k=>(k:Int) | none=>-1):=by
 unfold de
 rw [dH xs (body:=cz xs q) p (fun i=>i) (by omega) (fun i x hx=>?_) ?_]
 ·cases bD p xs <;> rfl
 ·unfold cz
  simp
 ·unfold cz
  have hlt:=(List.getElem?_eq_some_iff.1 hx).1
  have:((i:Int) < (xs.length:Int)):=by omega
  simp only [this,decide_true,cond_true,ay hx,hq,Option.bind_some]
theorem dz (s:ae.D) (hp:s.1.length≤33554432) (hs:s.2.1.length≤33554432):da s=some (bl s):=by
 unfold da bl
 simp only [gL,Option.bind_some]
 rw [aB (by omega) (by omega)]
 have hd:decide ((s.1.length:Int) > 8)=!decide ((s.1.length:Int)≤8):=by rw [Bool.eq_iff_iff];simp
 rw [hd]
 cases decide ((s.1.length:Int)≤8)
 ·rfl
 cases (decide (2≤(s.2.1.length:Int)) && decide ((s.2.1.length:Int)≤3))
 ·rfl
 cases (decide (0≤s.2.2.1) && decide (s.2.2.1≤(s.2.1.length:Int) - 1))
 ·rfl
 cases (decide (0≤s.2.2.2.1) && decide (s.2.2.2.1≤9999))
 ·rfl
 simp only [Bool.not_true,cond_false,Option.bind_some,Bool.true_and]
 rw [mT s.1 (body:=jZ s) (se s) false (by omega) (fun i x hx=>?_) (by unfold jZ;simp)]
 ·rw [mT s.2.1 (body:=j7 s) (fun _ x=>!oL x) false (by omega) (fun i x hx=>?_) (by unfold j7;simp),zR]
  ·cases zq (se s) 0 s.1 <;> cases s.2.1.any (fun x=>!oL x) <;> rfl
  ·have hlt:=(List.getElem?_eq_some_iff.1 hx).1
   have hil:((i:Int) < (s.2.1.length:Int)):=by omega
   unfold j7
   simp only [hil,decide_true,cond_true,ay hx,Ko,Option.bind_some]
 ·have hlt:=(List.getElem?_eq_some_iff.1 hx).1
  have hil:((i:Int) < (s.1.length:Int)):=by omega
  unfold jZ se
  simp only [hil,decide_true,cond_true,ay hx,Hw,Option.bind_some]
  by_cases hi:0 < i
  ·obtain ⟨y,hy,hk⟩:=Kp hx hp (fun x8=>bif decide (x8.1≥x.1) then some true else bif decide (x.2.1≥(s.2.1.length:Int)) then some true else bif decide (x.2.2.1≥(s.2.1.length:Int)) then some true else some (decide (x.2.2.2.2.1 > s.2.2.2.1))) hi
   have h1:decide ((i:Int) > 0)=true:=by simp;omega
   have h2:decide (0 < i)=true:=by simpa using hi
   rw [h1,h2,hy]
   simp only [cond_true,hk,Option.any_some]
   cases jU x <;> cases decide (y.1≥x.1) <;> cases decide (x.2.1≥(s.2.1.length:Int)) <;> cases decide (x.2.2.1≥(s.2.1.length:Int)) <;> cases decide (x.2.2.2.2.1 > s.2.2.2.1) <;> rfl
  ·have h1:decide ((i:Int) > 0)=false:=by simp;omega
   have h2:decide (0 < i)=false:=by simpa using hi
   rw [h1,h2]
   simp only [cond_false]
   cases jU x <;> cases decide (x.2.1≥(s.2.1.length:Int)) <;> cases decide (x.2.2.1≥(s.2.1.length:Int)) <;> cases decide (x.2.2.2.2.1 > s.2.2.2.1) <;> rfl
theorem cP (s:ae.D) (hp:s.1.length≤33554432) (hs:s.2.1.length≤33554432):df s=some (bl s):=by
 unfold df bl aQ pj
 simp only [dn,Option.bind_some]
 rw [aB (by omega) (by omega)]
 have hd:decide ((s.1.length:Int) > 8)=!decide ((s.1.length:Int)≤8):=by rw [Bool.eq_iff_iff];simp
 rw [hd]
 cases decide ((s.1.length:Int)≤8)
 ·rfl
 cases (decide (2≤(s.2.1.length:Int)) && decide ((s.2.1.length:Int)≤3))
 ·rfl
 cases (decide (0≤s.2.2.1) && decide (s.2.2.1≤(s.2.1.length:Int) - 1))
 ·rfl
 cases (decide (0≤s.2.2.2.1) && decide (s.2.2.2.1≤9999))
 ·rfl
 simp only [Bool.not_true,cond_false,Option.bind_some,Bool.true_and]
 have hc:cA s.2.1 (fun q=>iN q.1)=some (s.2.1.any (fun x=>!oL x)):=by
  unfold cA
  rw [QP s.2.1 hs (fun x=>!oL x) _ (fun x=>DW x),Option.bind_some,Fy]
 rw [mT s.1 (body:=kt s) (se s) false (by omega) (fun i x hx=>?_) (by unfold kt;simp)]
 ·rw [hc]
  cases zq (se s) 0 s.1 <;> cases s.2.1.any (fun x=>!oL x) <;> rfl
 ·have hlt:=(List.getElem?_eq_some_iff.1 hx).1
  have hil:((i:Int) < (s.1.length:Int)):=by omega
  unfold kt se aQ
  simp only [hil,decide_true,cond_true,ay hx,Hx,dn,Option.bind_some]
  rw [aB (n:=(s.2.1.length:Int) - 1) (by omega) (by omega)]
  cases hok:jU x
  ·rfl
  obtain ⟨g1,g2⟩:=L7 hok
  have e1:(decide (0≤x.2.1) && decide (x.2.1≤(s.2.1.length:Int) - 1))=!decide (x.2.1≥(s.2.1.length:Int)):=Rw g1
  have e2:(decide (0≤x.2.2.1) && decide (x.2.2.1≤(s.2.1.length:Int) - 1))=!decide (x.2.2.1≥(s.2.1.length:Int)):=Rw g2
  rw [e1,e2]
  by_cases hi:0 < i
  ·obtain ⟨y,hy,hk⟩:=Kp hx hp (fun x10=>some (decide (x10.1≥x.1))) hi
   have h1:decide ((i:Int) > 0)=true:=by simp;omega
   have h2:decide (0 < i)=true:=by simpa using hi
   rw [h1,h2,hy]
   simp only [cond_true,hk,Option.any_some]
   cases decide (y.1≥x.1) <;> cases decide (x.2.1≥(s.2.1.length:Int)) <;> cases decide (x.2.2.1≥(s.2.1.length:Int)) <;> cases decide (x.2.2.2.2.1 > s.2.2.2.1) <;> rfl
  ·have h1:decide ((i:Int) > 0)=false:=by simp;omega
   have h2:decide (0 < i)=false:=by simpa using hi
   rw [h1,h2]
   simp only [cond_false]
   cases decide (x.2.1≥(s.2.1.length:Int)) <;> cases decide (x.2.2.1≥(s.2.1.length:Int)) <;> cases decide (x.2.2.2.2.1 > s.2.2.2.1) <;> rfl
def aN (e:ac.D):Bool :=
 let piece:=decide (1≤e.2.2.1) && decide (e.2.2.1≤99) && (e.2.2.2.1 == -1)
 let side:=(e.2.2.1 == 0) && decide (0≤e.2.2.2.1) && decide (e.2.2.2.1≤2)
 decide (0≤e.2.2.2.2.1) && decide (e.2.2.2.2.1≤2147483647) && (
  if e.1=1 then decide (1≤e.2.1) && decide (e.2.1≤99) && (piece || side) && (e.2.2.2.2.2.1 == 0) && !e.2.2.2.2.2.2.1
  else if e.1=2 then (e.2.1 == 0) && piece && decide (1≤e.2.2.2.2.2.1) && decide (e.2.2.2.2.2.1≤4) && decide (e.2.2.2.2.1≤99) && ((e.2.2.2.2.2.1 == 2) || (e.2.2.2.2.1 == 0) && !e.2.2.2.2.2.2.1)
  else if e.1=3∨e.1=4 then (e.2.1 == 0) && side && (e.2.2.2.2.2.1 == 0) && !e.2.2.2.2.2.2.1
  else if e.1=5∨e.1=6 then (e.2.1 == 0) && piece && (e.2.2.2.2.2.1 == 0) && !e.2.2.2.2.2.2.1
  else false)
theorem bB (e:ac.D):bV e=some (aN e):=by
 obtain ⟨k,s,p,d,n,z,bt,u⟩:=e
 unfold bV aN
 simp only [gL,Option.bind_some,cond_eq_ite,DV]
 congr 1
 rw [Bool.eq_iff_iff]
 by_cases h1:k=1
 ·subst h1;simp;grind
 by_cases h2:k=2
 ·subst h2;simp;grind
 by_cases h3:k=3
 ·subst h3;simp;grind
 by_cases h4:k=4
 ·subst h4;simp;grind
 by_cases h5:k=5
 ·subst h5;simp;grind
 by_cases h6:k=6
 ·subst h6;simp;grind
 simp [h1,h2,h3,h4,h5,h6]
theorem bQ (e:ac.D):bL e=some (aN e):=by
 obtain ⟨k,s,p,d,n,z,bt,u⟩:=e
 unfold bL aN bR jc oE dq iM bk
 simp only [dn,Option.bind_some,cond_eq_ite,DV,bne]
 congr 1
 rw [Bool.eq_iff_iff]
 by_cases h1:k=1
 ·subst h1;simp;grind
 by_cases h2:k=2
 ·subst h2;simp;grind
 by_cases h3:k=3
 ·subst h3;simp;grind
 by_cases h4:k=4
 ·subst h4;simp;grind
 by_cases h5:k=5
 ·subst h5;simp;grind
 by_cases h6:k=6
 ·subst h6;simp;grind
 simp [h1,h2,h3,h4,h5,h6]
theorem AY {k s p d n z:Int} {bt:Bool} {u:Unit} (h:aN (k,s,p,d,n,z,bt,u)=true) :
  (k=1∧(1≤p∨p=0∧0≤d))∨(k=2∧1≤p)∨((k=3∨k=4)∧p=0∧0≤d)∨((k=5∨k=6)∧1≤p):=by
 unfold aN at h
 by_cases h1:k=1
 ·subst h1;simp at h;grind
 by_cases h2:k=2
 ·subst h2;simp at h;grind
 by_cases h3:k=3
 ·subst h3;simp at h;grind
 by_cases h4:k=4
 ·subst h4;simp at h;grind
 by_cases h5:k=5
 ·subst h5;simp at h;grind
 by_cases h6:k=6
 ·subst h6;simp at h;grind
 simp [h1,h2,h3,h4,h5,h6] at h
theorem PJ (xs:List ac.D) (hl:xs.length≤33554432) (p:ac.D→Bool) (q:(ac.D×Unit)→Option Bool) (hq:∀ x,q (x,())=some (p x)) :
  bj xs q=some (match bD p xs with | some k=>(k:Int) | none=>-1):=by
 unfold bj
 rw [dH xs (body:=aY xs q) p (fun i=>i) (by omega) (fun i x hx=>?_) ?_]
 ·cases bD p xs <;> rfl
 ·unfold aY
  simp
 ·unfold aY
  have hlt:=(List.getElem?_eq_some_iff.1 hx).1
  have:((i:Int) < (xs.length:Int)):=by omega
  simp only [this,decide_true,cond_true,ay hx,hq,Option.bind_some]
theorem mU (xs:List ac.D) (hl:xs.length≤33554432) (p:ac.D→Bool) (q:(ac.D×Unit)→Option Bool) (hq:∀ x,q (x,())=some (p x)) :
  aK xs q=some (xs.any p):=by
 unfold aK
 rw [PJ xs hl p q hq,Option.bind_some]
 obtain ⟨h1,h2⟩:=ee p xs
 cases hf:bD p xs with
 | none =>
  have:xs.any p=false:=by rw [List.any_eq_false];exact fun x hx=>by simp [h1 hf x hx]
  rw [this];rfl
 | some k =>
  obtain ⟨x,g1,g2,_⟩:=h2 k hf
  have:xs.any p=true:=by rw [List.any_eq_true];exact ⟨x,List.mem_of_getElem? g1,g2⟩
  rw [this]
  simp
theorem ra {α:Type} {c:Prop} [Decidable c] (a b:α):(if c then some a else some b)=some (if c then a else b):=by split <;> rfl
def kI (e:ac.D):Bool:=aN e || ((e.1 != 2) && (e.2.2.2.2.1 == -1) && aN (e.1,e.2.1,e.2.2.1,e.2.2.2.1,0,e.2.2.2.2.2))
theorem zr (e:ac.D):tt e=some (kI e):=by
 unfold tt kI
 simp only [bQ,Option.bind_some]
 cases aN e <;> cases (e.1 != 2) <;> cases (e.2.2.2.2.1 == -1) <;> rfl
theorem Oc (e:ac.D):sS e=some (kI e):=by
 unfold sS kI
 simp only [bB,Option.bind_some]
 cases h:(e.2.2.2.2.1 == -1)
 ·simp
 ·have:aN e=false:=by
   unfold aN
   have h1:e.2.2.2.2.1=-1:=by simpa using h
   have:decide (0≤e.2.2.2.2.1)=false:=by rw [h1];rfl
   rw [this];rfl
  rw [this]
  cases hk:(e.1 != 2) <;> simp [this,bB]
theorem Tx (a:bg.D) (hl:a.2.2.2.2.2.2.1.length≤33554432):al (jJ a) 0=some (bif a.2.2.2.2.2.2.1.any (fun e=>!kI e) then .inr false else .inl (a.2.2.2.2.2.2.1.length:Int)):=by
 rw [mT a.2.2.2.2.2.2.1 (body:=jJ a) (fun _ e=>!kI e) false (by omega) (fun i x hx=>?_) (by unfold jJ;simp),zR]
 have hlt:=(List.getElem?_eq_some_iff.1 hx).1
 have hil:((i:Int) < (a.2.2.2.2.2.2.1.length:Int)):=by omega
 unfold jJ
 simp only [hil,decide_true,cond_true,ay hx,Oc,Option.bind_some]
theorem R4 (k n p s z:Int) (bt:Bool) (L:List ac.D) (u:Unit) (hl:L.length≤33554432):∃ b,rB (k,n,p,s,z,bt,L,u)=some b∧eN (k,n,p,s,z,bt,L,u)=some b:=by
 have hW:=Tx (k,n,p,s,z,bt,L,u) hl
 have hC:aK L (fun q=>jd q.1)=some (L.any (fun e=>!kI e)):=mU L hl (fun e=>!kI e) _ (fun x=>by simp only [jd,zr,Option.bind_some])
 simp only at hW
 unfold rB eN qr dq bk iM
 simp only [hW,hC,gL,dn,Option.bind_some]
 have hz:((L.length:Int) == 0)=!decide ((L.length:Int) > 0):=by
  by_cases h:(L.length:Int) > 0
  ·rw [decide_eq_true h];simp only [Bool.not_true];rw [beq_eq_false_iff_ne];omega
  ·rw [decide_eq_false h];simp only [Bool.not_false];rw [beq_iff_eq];omega
 simp only [hz,bne]
 clear hW hC hz
 generalize L.any (fun e=>!kI e)=q
 generalize hM:(decide (1≤(L.length:Int)) && decide ((L.length:Int)≤3))=m3
 generalize decide ((L.length:Int) > 0)=m0
 by_cases h1:k=1
 ·subst h1
  simp only [Int.reduceBEq,beq_self_eq_true,cond_true,cond_false,Option.bind_some,Bool.not_true,Bool.not_false]
  cases (n == 0) <;> cases (p == 0) <;> cases (s == -1) <;> cases (z == 0) <;> cases bt <;> cases m0 <;> exact ⟨_,rfl,rfl⟩
 by_cases h2:k=2
 ·subst h2
  simp only [Int.reduceBEq,beq_self_eq_true,cond_true,cond_false,Option.bind_some,Bool.not_true,Bool.not_false]
  cases (n == 0) <;> cases (p == 0) <;> cases (s == -1) <;> cases (z == 0) <;> cases bt <;> cases m0 <;> exact ⟨_,rfl,rfl⟩
 by_cases h3:k=3
 ·subst h3
  simp only [Int.reduceBEq,beq_self_eq_true,cond_true,cond_false,Option.bind_some,Bool.not_true,Bool.not_false]
  cases (decide (1≤n) && decide (n≤2147483647)) <;> cases (p == 0) <;> cases (s == -1) <;> cases (z == 0) <;> cases bt <;> cases m0 <;> exact ⟨_,rfl,rfl⟩
 by_cases h4:k=4
 ·subst h4
  simp only [Int.reduceBEq,beq_self_eq_true,cond_true,cond_false,Option.bind_some,Bool.not_true,Bool.not_false]
  cases (n == 0) <;> cases (p == 0) <;> cases (s == -1) <;> cases (z == 0) <;> cases bt <;> cases m0 <;> exact ⟨_,rfl,rfl⟩
 by_cases h5:k=5
 ·subst h5
  simp only [Int.reduceBEq,beq_self_eq_true,cond_true,cond_false,Option.bind_some,Bool.not_true,Bool.not_false]
  cases (n == 0) <;> cases (p == 0) <;> cases (s == -1) <;> cases (z == 0) <;> cases bt <;> cases m0 <;> exact ⟨_,rfl,rfl⟩
 by_cases h6:k=6
 ·subst h6
  simp only [Int.reduceBEq,beq_self_eq_true,cond_true,cond_false,Option.bind_some,Bool.not_true,Bool.not_false]
  cases (n == 0) <;> cases (p == 0) <;> cases (s == -1) <;> cases (z == 0) <;> cases bt <;> cases m0 <;> cases (decide (1≤p) && decide (p≤99)) <;> cases (decide (0≤s) && decide (s≤2)) <;> exact ⟨_,rfl,rfl⟩
 by_cases h7:k=7
 ·subst h7
  simp only [Int.reduceBEq,beq_self_eq_true,cond_true,cond_false,Option.bind_some,Bool.not_true,Bool.not_false]
  cases (n == 0) <;> cases (p == 0) <;> cases (s == -1) <;> cases bt <;> cases m0 <;> cases (decide (1≤z) && decide (z≤4)) <;> exact ⟨_,rfl,rfl⟩
 by_cases h8:k=8
 ·subst h8
  simp only [Int.reduceBEq,beq_self_eq_true,cond_true,cond_false,Option.bind_some,Bool.not_true,Bool.not_false]
  cases (decide (0≤n) && decide (n≤99)) <;> cases (p == 0) <;> cases (s == -1) <;> cases (z == 0) <;> cases m0 <;> exact ⟨_,rfl,rfl⟩
 by_cases h9:k=9
 ·subst h9
  simp only [Int.reduceBEq,beq_self_eq_true,cond_true,cond_false,Option.bind_some,Bool.not_true,Bool.not_false]
  cases (n == 0) <;> cases (p == 0) <;> cases (s == -1) <;> cases (z == 0) <;> cases bt <;> cases m3 <;> cases q <;> exact ⟨_,rfl,rfl⟩
 have e1:(k == 1)=false:=by rw [beq_eq_false_iff_ne];exact h1
 have e2:(k == 2)=false:=by rw [beq_eq_false_iff_ne];exact h2
 have e3:(k == 3)=false:=by rw [beq_eq_false_iff_ne];exact h3
 have e4:(k == 4)=false:=by rw [beq_eq_false_iff_ne];exact h4
 have e5:(k == 5)=false:=by rw [beq_eq_false_iff_ne];exact h5
 have e6:(k == 6)=false:=by rw [beq_eq_false_iff_ne];exact h6
 have e7:(k == 7)=false:=by rw [beq_eq_false_iff_ne];exact h7
 have e8:(k == 8)=false:=by rw [beq_eq_false_iff_ne];exact h8
 have e9:(k == 9)=false:=by rw [beq_eq_false_iff_ne];exact h9
 simp only [e1,e2,e3,e4,e5,e6,e7,e8,e9,cond_true,cond_false,Option.bind_some,Bool.not_true,Bool.not_false]
 cases (n == 0) <;> cases (p == 0) <;> cases (s == -1) <;> cases (z == 0) <;> cases bt <;> cases m0 <;> exact ⟨_,rfl,rfl⟩
theorem DX (a:bg.D) (hl:a.2.2.2.2.2.2.1.length≤33554432):∃ b,rB a=some b∧eN a=some b :=
 R4 a.1 a.2.1 a.2.2.1 a.2.2.2.1 a.2.2.2.2.1 a.2.2.2.2.2.1 a.2.2.2.2.2.2.1 a.2.2.2.2.2.2.2 hl
theorem jC {a b:Int} (h:¬ a=b):(a == b)=false:=by rw [beq_eq_false_iff_ne];exact h
theorem sh (a:bg.D) (k:Int):∃ b,l8 a k=some b∧dg a k=some b:=by
 unfold l8 dg lm
 simp only [gL,dn,Option.bind_some]
 generalize (decide (1≤k) && decide (k≤6))=m
 cases m
 ·exact ⟨_,rfl,rfl⟩
 by_cases h1:a.1=1
 ·rw [h1];exact ⟨_,rfl,rfl⟩
 by_cases h2:a.1=2
 ·rw [h2];exact ⟨_,rfl,rfl⟩
 by_cases h3:a.1=3
 ·rw [h3];exact ⟨_,rfl,rfl⟩
 by_cases h4:a.1=4
 ·rw [h4];exact ⟨_,rfl,rfl⟩
 by_cases h5:a.1=5
 ·rw [h5];exact ⟨_,rfl,rfl⟩
 by_cases h6:a.1=6
 ·rw [h6];exact ⟨_,rfl,rfl⟩
 by_cases h7:a.1=7
 ·rw [h7];exact ⟨_,rfl,rfl⟩
 by_cases h8:a.1=8
 ·rw [h8];exact ⟨_,rfl,rfl⟩
 by_cases h9:a.1=9
 ·rw [h9];exact ⟨_,rfl,rfl⟩
 refine ⟨false,?_,?_⟩ <;> simp only [jC h1,jC h2,jC h3,jC h4,jC h5,jC h6,jC h7,jC h8,jC h9,cond_true,cond_false,Option.bind_some,Bool.not_true,Bool.not_false]
theorem R5 (k c so tr pc am z:Int) (u:Unit):∃ b,nH (k,c,so,tr,pc,am,z,u)=some b∧kT (k,c,so,tr,pc,am,z,u)=some b:=by
 unfold nH kT lm jM bR
 simp only [gL,dn,Option.bind_some,cond_eq_ite,ra]
 refine ⟨_,rfl,?_⟩
 congr 1
 rw [Bool.eq_iff_iff]
 simp
 grind
theorem zt (p:cn.D):∃ b,nH p=some b∧kT p=some b:=R5 p.1 p.2.1 p.2.2.1 p.2.2.2.1 p.2.2.2.2.1 p.2.2.2.2.2.1 p.2.2.2.2.2.2.1 p.2.2.2.2.2.2.2
theorem PK (k n:Int) (u:Unit):∃ b,i6 (k,n,u)=some b∧gC (k,n,u)=some b:=by
 unfold i6 gC
 simp only [gL,dn,jT,Option.bind_some,cond_eq_ite,ra]
 refine ⟨_,rfl,?_⟩
 congr 1
 rw [Bool.eq_iff_iff]
 unfold ia
 simp
 grind
theorem si (p:bc.D):∃ b,i6 p=some b∧gC p=some b:=PK p.1 p.2.1 p.2.2
theorem F6 (x:aa.D) (hl:x.2.2.2.2.2.2.1.2.2.2.2.2.2.1.length≤33554432):∃ b,fH x=some b∧cJ x=some b:=by
 obtain ⟨b1,p1,q1⟩:=zt x.2.2.2.2.1
 obtain ⟨b2,p2,q2⟩:=si x.2.2.2.2.2.1
 obtain ⟨b3,p3,q3⟩:=DX x.2.2.2.2.2.2.1 hl
 obtain ⟨b4,p4,q4⟩:=sh x.2.2.2.2.2.2.1 x.2.2.2.2.1.1
 unfold fH cJ dq bk
 simp only [p1,p2,p3,p4,q1,q2,q3,q4,gL,dn,Option.bind_some]
 simp only [cond_eq_ite,ra,Option.bind_some]
 refine ⟨_,rfl,?_⟩
 congr 1
 rw [Bool.eq_iff_iff]
 generalize x.2.2.2.2.2.2.1.1=ak
 generalize x.1=i
 generalize x.2.1=ow
 generalize x.2.2.1=so
 generalize x.2.2.2.1=du
 generalize x.2.2.2.2.2.2.2.1=co
 generalize x.2.2.2.2.2.2.2.2.1=on
 clear p1 p2 p3 p4 q1 q2 q3 q4 hl
 simp
 grind
noncomputable def aR (x:aa.D):Bool:=(cJ x).getD false
theorem dJ (x:aa.D) (hl:x.2.2.2.2.2.2.1.2.2.2.2.2.2.1.length≤33554432):cJ x=some (aR x):=by
 obtain ⟨b,_,h⟩:=F6 x hl
 unfold aR;rw [h];rfl
theorem oh (x:aa.D) (hl:x.2.2.2.2.2.2.1.2.2.2.2.2.2.1.length≤33554432):fH x=some (aR x):=by
 obtain ⟨b,h1,h⟩:=F6 x hl
 unfold aR;rw [h,h1];rfl
noncomputable def eX (xs:List aa.D) (i:Nat) (x:aa.D):Bool:=!aR x || (decide (0 < i) && (xs[i - 1]?).any (fun y=>decide (y.1≥x.1)))
theorem Rx {α R:Type} {xs:List α} {i:Nat} {x:α} (hx:xs[i]?=some x) (hl:xs.length≤33554432) (κ:α→Option R) (h:0 < i):∃ y,xs[i - 1]?=some y∧idx xs (IntKind.wrap .i64 ((i:Int) - 1)) κ=κ y:=by
 have hlt:=(List.getElem?_eq_some_iff.1 hx).1
 have hy:xs[i - 1]?=some (xs[i - 1]'(by omega)):=List.getElem?_eq_getElem (by omega)
 refine ⟨_,hy,?_⟩
 rw [aB (by omega) (by omega),show ((i:Int) - 1)=((i - 1:Nat):Int) by omega]
 exact ay hy
theorem kJ (xs:List aa.D) (h:okD (.slice aa) xs):fg xs=some (!zq (eX xs) 0 xs && decide ((xs.length:Int)≤5)):=by
 have hl:xs.length≤33554432:=h.1
 unfold fg
 rw [mT xs (body:=j8 xs) (eX xs) false (by omega) (fun i x hx=>?_) (by unfold j8;simp)]
 ·cases zq (eX xs) 0 xs <;> rfl
 ·have hlt:=(List.getElem?_eq_some_iff.1 hx).1
  have hil:((i:Int) < (xs.length:Int)):=by omega
  have hok:=(h.2 x (List.mem_of_getElem? hx)).2.2.2.2.2.2.1.2.2.2.2.2.2.1.1
  unfold j8 eX
  simp only [hil,decide_true,cond_true,ay hx,oh x hok,Option.bind_some]
  by_cases hi:0 < i
  ·obtain ⟨y,hy,hk⟩:=Rx hx hl (fun x4=>some (decide (x4.1≥x.1))) hi
   rw [decide_eq_true (p:=(i:Int) > 0) (by omega),decide_eq_true hi,hy]
   simp only [cond_true,hk,Option.any_some]
   cases aR x <;> cases decide (y.1≥x.1) <;> rfl
  ·rw [decide_eq_false (p:=(i:Int) > 0) (by omega),decide_eq_false hi]
   cases aR x <;> rfl
theorem gS (xs:List aa.D) (h:okD (.slice aa) xs):fh xs=some (!zq (eX xs) 0 xs && decide ((xs.length:Int)≤5)):=by
 have hl:xs.length≤33554432:=h.1
 unfold fh
 rw [mT xs (body:=ku xs) (eX xs) false (by omega) (fun i x hx=>?_) (by unfold ku;simp)]
 ·cases zq (eX xs) 0 xs <;> rfl
 ·have hlt:=(List.getElem?_eq_some_iff.1 hx).1
  have hil:((i:Int) < (xs.length:Int)):=by omega
  have hok:=(h.2 x (List.mem_of_getElem? hx)).2.2.2.2.2.2.1.2.2.2.2.2.2.1.1
  unfold ku eX
  simp only [hil,decide_true,cond_true,ay hx,dJ x hok,Option.bind_some]
  by_cases hi:0 < i
  ·obtain ⟨y,hy,hk⟩:=Rx hx hl (fun x4=>some (decide (x4.1≥x.1))) hi
   rw [decide_eq_true (p:=(i:Int) > 0) (by omega),decide_eq_true hi,hy]
   simp only [cond_true,hk,Option.any_some]
   cases aR x <;> cases decide (y.1≥x.1) <;> rfl
  ·rw [decide_eq_false (p:=(i:Int) > 0) (by omega),decide_eq_false hi]
   cases aR x <;> rfl
theorem R6 (x:au.D) (hl:x.2.2.2.2.2.1.length≤33554432):al (iJ x) 0=some (bif x.2.2.2.2.2.1.any (fun e=>!aN e) then .inr false else .inl (x.2.2.2.2.2.1.length:Int)):=by
 rw [mT x.2.2.2.2.2.1 (body:=iJ x) (fun _ e=>!aN e) false (by omega) (fun i y hx=>?_) (by unfold iJ;simp),zR]
 have hlt:=(List.getElem?_eq_some_iff.1 hx).1
 have hil:((i:Int) < (x.2.2.2.2.2.1.length:Int)):=by omega
 unfold iJ
 simp only [hil,decide_true,cond_true,ay hx,bB,Option.bind_some]
theorem MN (x:au.D) (hl:x.2.2.2.2.2.1.length≤33554432):∃ b,o0 x=some b∧ln x=some b:=by
 have hW:=R6 x hl
 have hC:aK x.2.2.2.2.2.1 (fun q=>oF q.1)=some (x.2.2.2.2.2.1.any (fun e=>!aN e)):=mU x.2.2.2.2.2.1 hl (fun e=>!aN e) _ (fun x=>by simp only [oF,bQ,Option.bind_some])
 unfold o0 ln dq bk bR
 simp only [hW,hC,gL,dn,bB,bQ,Option.bind_some]
 have hd:decide ((x.2.2.2.2.2.1.length:Int) > 3)=!decide ((x.2.2.2.2.2.1.length:Int)≤3):=by
  by_cases h:(x.2.2.2.2.2.1.length:Int)≤3
  ·rw [decide_eq_true h,decide_eq_false (by omega)];rfl
  ·rw [decide_eq_false h,decide_eq_true (by omega)];rfl
 rw [hd]
 clear hW hC hd
 generalize (decide (1≤x.1) && decide (x.1≤99))=c1
 generalize (decide (0≤x.2.1) && decide (x.2.1≤2))=c2
 generalize (decide (1≤x.2.2.2.1) && decide (x.2.2.2.1≤5))=c3
 generalize (decide (0≤x.2.2.1) && decide (x.2.2.1≤IntKind.wrap .i64 (x.2.2.2.1 - 1)))=c4
 generalize aN x.2.2.2.2.1=c5
 generalize decide ((x.2.2.2.2.2.1.length:Int)≤3)=c6
 generalize (decide (0≤x.2.2.2.2.2.2.1) && decide (x.2.2.2.2.2.2.1≤2147483647))=c7
 generalize (decide (0≤x.2.2.2.2.2.2.2.1) && decide (x.2.2.2.2.2.2.2.1≤4))=c8
 generalize x.2.2.2.2.2.1.any (fun e=>!aN e)=c9
 cases c1 <;> cases c2 <;> cases c3 <;> cases c4 <;> cases c5 <;> cases c6 <;> cases c7 <;> cases c8 <;> cases c9 <;> exact ⟨_,rfl,rfl⟩
noncomputable def qR (x:au.D):Bool:=(ln x).getD false
theorem Kq (x:au.D) (hl:x.2.2.2.2.2.1.length≤33554432):ln x=some (qR x):=by
 obtain ⟨b,_,h⟩:=MN x hl
 unfold qR;rw [h];rfl
theorem Kr (x:au.D) (hl:x.2.2.2.2.2.1.length≤33554432):o0 x=some (qR x):=by
 obtain ⟨b,h1,h⟩:=MN x hl
 unfold qR;rw [h,h1];rfl
theorem QQ (xs:List au.D) (hl:xs.length≤33554432) (p:au.D→Bool) (q:(au.D×Unit)→Option Bool) (hq:∀ x∈xs,q (x,())=some (p x)) :
  dh xs q=some (match bD p xs with | some k=>(k:Int) | none=>-1):=by
 unfold dh
 rw [dH xs (body:=cB xs q) p (fun i=>i) (by omega) (fun i x hx=>?_) ?_]
 ·cases bD p xs <;> rfl
 ·unfold cB
  simp
 ·unfold cB
  have hlt:=(List.getElem?_eq_some_iff.1 hx).1
  have:((i:Int) < (xs.length:Int)):=by omega
  simp only [this,decide_true,cond_true,ay hx,hq x (List.mem_of_getElem? hx),Option.bind_some]
theorem R7 (g:T_Game.D) (h:okD T_Game g):∃ b,sU g=some b∧lq g=some b:=by
 have hl:g.2.2.2.2.2.1.length≤33554432:=h.2.2.2.2.2.1.1
 have hT:∀ x∈g.2.2.2.2.2.1,x.2.2.2.2.2.1.length≤33554432:=fun x hx=>(h.2.2.2.2.2.1.2 x hx).2.2.2.2.2.1.1
 have hW:al (iK g) 0=some (bif g.2.2.2.2.2.1.any (fun e=>!qR e) then .inr false else .inl (g.2.2.2.2.2.1.length:Int)):=by
  rw [mT g.2.2.2.2.2.1 (body:=iK g) (fun _ e=>!qR e) false (by omega) (fun i y hx=>?_) (by unfold iK;simp),zR]
  have hlt:=(List.getElem?_eq_some_iff.1 hx).1
  have hil:((i:Int) < (g.2.2.2.2.2.1.length:Int)):=by omega
  unfold iK
  simp only [hil,decide_true,cond_true,ay hx,Kr y (hT y (List.mem_of_getElem? hx)),Option.bind_some]
 have hC:cC g.2.2.2.2.2.1 (fun q=>oG q.1)=some (g.2.2.2.2.2.1.any (fun e=>!qR e)):=by
  unfold cC
  rw [QQ g.2.2.2.2.2.1 hl (fun e=>!qR e) _ (fun x hx=>by simp only [oG,Kq x (hT x hx),Option.bind_some]),Option.bind_some,Fy]
 unfold sU lq
 simp only [hW,hC,dz g.1 h.1.1.1 h.1.2.1.1,cP g.1 h.1.1.1 h.1.2.1.1,kJ _ h.2.1,gS _ h.2.1,Option.bind_some]
 generalize g.2.2.2.2.2.1.any (fun e=>!qR e)=c1
 generalize bl g.1=c2
 generalize (!zq (eX g.2.1) 0 g.2.1 && decide ((g.2.1.length:Int)≤5))=c3
 cases c1 <;> cases c2 <;> cases c3 <;> exact ⟨_,rfl,rfl⟩
def eE (s:ae.D) (a:Int):Int:=match bD (fun (x:ah.D)=>x.1 == a) s.1 with | some k=>(k:Int) | none=>-1
theorem jV (s:ae.D) (a:Int):eE s a=-1∨∃ (k:Nat) (x:ah.D),eE s a=k∧s.1[k]?=some x∧x.1=a:=by
 unfold eE
 obtain ⟨h1,h2⟩:=ee (fun (x:ah.D)=>x.1 == a) s.1
 cases hf:bD (fun (x:ah.D)=>x.1 == a) s.1 with
 | none=>exact .inl rfl
 | some k =>
  obtain ⟨x,g1,g2,_⟩:=h2 k hf
  exact .inr ⟨k,x,rfl,g1,by simpa using g2⟩
theorem eY (s:ae.D) (a:Int) (h:s.1.length≤33554432):eq s a=some (eE s a):=by
 unfold eq eE
 rw [dH s.1 (body:=kc s a) (fun (x:ah.D)=>x.1 == a) (fun i=>i) (by omega) (fun i x hx=>?_) ?_]
 ·cases bD (fun (x:ah.D)=>x.1 == a) s.1 <;> rfl
 ·unfold kc
  simp
 ·unfold kc
  have hlt:=(List.getElem?_eq_some_iff.1 hx).1
  have:((i:Int) < (s.1.length:Int)):=by omega
  simp only [this,decide_true,cond_true,ay hx]
theorem PL (xs:List ah.D) (hl:xs.length≤33554432) (p:ah.D→Bool) (q:(ah.D×Unit)→Option Bool) (hq:∀ x,q (x,())=some (p x)) :
  cV xs q=some (match bD p xs with | some k=>(k:Int) | none=>-1):=by
 unfold cV
 rw [dH xs (body:=cm xs q) p (fun i=>i) (by omega) (fun i x hx=>?_) ?_]
 ·cases bD p xs <;> rfl
 ·unfold cm
  simp
 ·unfold cm
  have hlt:=(List.getElem?_eq_some_iff.1 hx).1
  have:((i:Int) < (xs.length:Int)):=by omega
  simp only [this,decide_true,cond_true,ay hx,hq,Option.bind_some]
theorem eZ (s:ae.D) (a:Int) (h:s.1.length≤33554432):fi s a=some (eE s a):=by
 unfold fi eE
 rw [PL s.1 h (fun (x:ah.D)=>x.1 == a) _ (fun x=>rfl)]
 rfl
theorem lz (p:ah.D) (t:Int):cg p t=aF p t:=by
 unfold cg aF
 cases h1:t == 1 <;> cases h2:t == 2 <;> cases h4:t == 4 <;> cases h8:t == 8 <;> cases h16:t == 16 <;> cases h32:t == 32 <;> simp only [cond_true,cond_false,Option.bind_some]
theorem jW (p:ah.D) (t:Int):∃ b,cg p t=some b:=by
 unfold cg
 simp only [cond_eq_ite]
 repeat' split
 all_goals exact ⟨_,rfl⟩
theorem we (a b:Int):dV a b=some (zp a b):=by unfold dV;simp only [t6,Option.bind_some];rfl
theorem wh (a b:Int):aZ a b=some (zp a b):=by unfold aZ;simp only [jT,Option.bind_some];rfl
theorem wi (a b:Int):ja a b=some (AX a b):=by unfold ja;simp only [t6,Option.bind_some];rfl
theorem wj (a b:Int):gg a b=some (AX a b):=by unfold gg;simp only [jT,Option.bind_some];rfl
theorem L8 (xs:List ah.D) (h:xs.length≤33554432):dW xs=some xs:=by
 unfold dW
 rw [if_pos (by simp only [aC,List.length_nil];omega)]
 rfl
theorem Od (xs:List ar.D) (h:xs.length≤33554432):ew xs=some xs:=by
 unfold ew
 rw [if_pos (by simp only [aC,List.length_nil];omega)]
 rfl
theorem fz (s:ae.D) (hp:s.1.length≤33554432) (hs:s.2.1.length≤33554432):cH s=some s:=by
 unfold cH
 simp only [L8 _ hp,Od _ hs,Option.bind_some]
theorem gM (s:ae.D) (hp:s.1.length≤33554432) (hs:s.2.1.length≤33554432):eJ s=some s:=by
 unfold eJ
 rw [if_pos (by simp only [aC,List.length_nil];omega),if_pos (by simp only [aC,List.length_nil];omega)]
 rfl
def gT (a b:ae.D):Prop:=a.1.length=b.1.length∧a.2.1.length=b.2.1.length
def Ks (x:ah.D) (v:ac.D) (c:Int):ah.D :=
 bif v.2.2.2.2.2.1 == 2 then (x.1,x.2.1,x.2.1,v.2.2.2.2.2.1,c,x.2.2.2.2.2.1,x.2.2.2.2.2.2.1,x.2.2.2.2.2.2.2.1,v.2.2.2.2.1,0,0,false,v.2.2.2.2.2.2)
 else (x.1,x.2.1,x.2.1,v.2.2.2.2.2.1,c,x.2.2.2.2.2.1,x.2.2.2.2.2.2.1,x.2.2.2.2.2.2.2.1,0,0,0,false,false,())
def Tz (s:ae.D) (v:ac.D) (r:ae.D×(Bool×Unit)):Prop :=
 (r.2.1=false∧r.1=s)∨(r.2.1=true∧bl s=true∧aN v=true∧v.1=2∧∃ (k:Nat) (x:ah.D),eE s v.2.2.1=k∧s.1[k]?=some x∧x.1=v.2.2.1∧(x.2.2.2.1 == v.2.2.2.2.2.1)=false∧r.1=(s.1.set k (Ks x v s.2.2.2.1),s.2))
theorem R8 (s:ae.D) (v:ac.D) (hp:s.1.length≤33554432) (hs:s.2.1.length≤33554432):∃ r,nN s v=some r∧v5 s v=some r∧Tz s v r:=by
 unfold nN v5
 simp only [gM s hp hs,fz s hp hs,eY s _ hp,eZ s _ hp,dz s hp hs,cP s hp hs,bB,bQ,Option.bind_some]
 cases h1:bl s
 ·exact ⟨_,rfl,rfl,.inl ⟨rfl,rfl⟩⟩
 cases h2:aN v
 ·exact ⟨_,rfl,rfl,.inl ⟨rfl,rfl⟩⟩
 cases h3:(v.1 != 2)
 case true=>exact ⟨_,rfl,rfl,.inl ⟨rfl,rfl⟩⟩
 have h3:v.1=2:=by simpa using h3
 rcases jV s v.2.2.1 with h | ⟨k,x,g1,g2,g3⟩
 ·rw [h];exact ⟨_,rfl,rfl,.inl ⟨rfl,rfl⟩⟩
 ·rw [g1,bb (by omega)]
  simp only [cond_false,Bool.not_true,Option.bind_some,ay g2,Int.toNat_natCast,g2]
  cases h4:(x.2.2.2.1 == v.2.2.2.2.2.1)
  ·simp only [cond_false]
   have e1:∀ a b,rI x a b=some (x.1,x.2.1,x.2.1,a,b,x.2.2.2.2.2.1,x.2.2.2.2.2.2.1,x.2.2.2.2.2.2.2.1,0,0,0,false,false,()):=fun a b=>rfl
   have e2:∀ a b,rV x a b=some (x.1,x.2.1,x.2.1,a,b,x.2.2.2.2.2.1,x.2.2.2.2.2.2.1,x.2.2.2.2.2.2.2.1,0,0,0,false,false,()):=fun a b=>rfl
   simp only [e1,e2,Option.bind_some]
   refine ⟨((s.1.set k (Ks x v s.2.2.2.1),s.2),true,()),?_,?_,.inr ⟨rfl,h1,h2,h3,k,x,g1,g2,g3,h4,rfl⟩⟩ <;> unfold Ks <;> cases (v.2.2.2.2.2.1 == 2) <;> rfl
  ·exact ⟨_,rfl,rfl,.inl ⟨rfl,rfl⟩⟩
theorem Oe {s:ae.D} {d:Int} (h0:0≤d) (h:d < (s.2.1.length:Int)):∃ (j:Nat) (x:ar.D),d=j∧s.2.1[j]?=some x:=by
 obtain ⟨j,rfl⟩:=Int.eq_ofNat_of_zero_le h0
 exact ⟨j,s.2.1[j]'(by omega),rfl,List.getElem?_eq_getElem (by omega)⟩
def UA (s:ae.D) (k p d n:Int) (ev:Bool) (r:ae.D×(Bool×Unit)):Prop :=
 (r.2.1=false∧r.1=s)∨(r.2.1=true∧bl s=true∧ev=true ∧
  ((∃ (j:Nat) (x:ar.D),(p=0∧d=j∧s.2.1[j]?=some x)∧((k=3∧r.1=(s.1,s.2.1.set j (zp x.1 n,x.2),s.2.2))∨(k=4∧r.1=(s.1,s.2.1.set j (AX x.1 n,x.2),s.2.2)))) ∨
   (∃ (i:Nat) (x:ah.D),(eE s p=i∧s.1[i]?=some x∧(x.2.2.2.1 == 2)=true) ∧
   ((k=5∧r.1=(s.1.set i (x.1,x.2.1,x.2.2.1,x.2.2.2.1,x.2.2.2.2.1,x.2.2.2.2.2.1,x.2.2.2.2.2.2.1,x.2.2.2.2.2.2.2.1,zp x.2.2.2.2.2.2.2.2.1 n,x.2.2.2.2.2.2.2.2.2),s.2)) ∨
    (k=6∧r.1=(s.1.set i (x.1,x.2.1,x.2.2.1,x.2.2.2.1,x.2.2.2.2.1,x.2.2.2.2.2.1,x.2.2.2.2.2.2.1,x.2.2.2.2.2.2.2.1,x.2.2.2.2.2.2.2.2.1,zp x.2.2.2.2.2.2.2.2.2.1 n,x.2.2.2.2.2.2.2.2.2.2),s.2))))))
theorem R9 (s:ae.D) (k sr p d n z:Int) (bt:Bool) (u:Unit) (hp:s.1.length≤33554432) (hs:s.2.1.length≤33554432):∃ r,uA s (k,sr,p,d,n,z,bt,u)=some r∧uN s (k,sr,p,d,n,z,bt,u)=some r∧UA s k p d n (aN (k,sr,p,d,n,z,bt,u)) r:=by
 unfold uA uN
 simp only [gM s hp hs,fz s hp hs,dz s hp hs,cP s hp hs,bB,bQ,Option.bind_some]
 cases hs0:bl s
 ·exact ⟨_,rfl,rfl,.inl ⟨rfl,rfl⟩⟩
 cases hv:aN (k,sr,p,d,n,z,bt,u)
 ·exact ⟨_,rfl,rfl,.inl ⟨rfl,rfl⟩⟩
 unfold my aQ fw
 simp only [dn,eY s _ hp,eZ s _ hp,we,wh,wi,wj,Option.bind_some,Bool.not_true,cond_false]
 rw [aB (n:=(s.2.1.length:Int) - 1) (by omega) (by omega)]
 rcases AY hv with ⟨rfl,_⟩ | ⟨rfl,_⟩ | ⟨hk,rfl,hd⟩ | ⟨hk,h1⟩
 ·exact ⟨_,rfl,rfl,.inl ⟨rfl,rfl⟩⟩
 ·exact ⟨_,rfl,rfl,.inl ⟨rfl,rfl⟩⟩
 ·by_cases hlt:d < (s.2.1.length:Int)
  ·obtain ⟨j,x,rfl,hx⟩:=Oe hd hlt
   have c1:decide ((j:Int)≥(s.2.1.length:Int))=false:=decide_eq_false (by omega)
   have c2:(decide (0≤(j:Int)) && decide ((j:Int)≤(s.2.1.length:Int) - 1))=true:=by rw [decide_eq_true (by omega),decide_eq_true (by omega)];rfl
   rcases hk with rfl | rfl <;> simp only [Int.reduceBEq,Int.reduceBNe,beq_self_eq_true,c1,c2,cond_true,cond_false,Option.bind_some,ay hx,Int.toNat_natCast,hx,Bool.not_true] <;> first | exact ⟨_,rfl,rfl,.inr ⟨rfl,hs0,rfl,.inl ⟨j,x,⟨rfl,rfl,hx⟩,.inl ⟨rfl,rfl⟩⟩⟩⟩ | exact ⟨_,rfl,rfl,.inr ⟨rfl,hs0,rfl,.inl ⟨j,x,⟨rfl,rfl,hx⟩,.inr ⟨rfl,rfl⟩⟩⟩⟩
  ·have c1:decide (d≥(s.2.1.length:Int))=true:=decide_eq_true (by omega)
   have c2:(decide (0≤d) && decide (d≤(s.2.1.length:Int) - 1))=false:=by rw [decide_eq_false (p:=d≤(s.2.1.length:Int) - 1) (by omega),Bool.and_false]
   rcases hk with rfl | rfl <;> simp only [Int.reduceBEq,Int.reduceBNe,beq_self_eq_true,c1,c2,cond_true,cond_false,Option.bind_some,Bool.not_false] <;> exact ⟨_,rfl,rfl,.inl ⟨rfl,rfl⟩⟩
 ·have p0:(p == 0)=false:=by rw [beq_eq_false_iff_ne];omega
  rcases jV s p with h | ⟨i,x,e1,hx,_⟩
  ·rcases hk with rfl | rfl <;> simp only [h,Int.reduceBEq,Int.reduceBNe,p0,cond_true,cond_false,Option.bind_some] <;> exact ⟨_,rfl,rfl,.inl ⟨rfl,rfl⟩⟩
  ·have c1:decide ((i:Int)≥0)=true:=by simp
   have c2:decide ((i:Int) < 0)=false:=bb (by omega)
   have hzz:(x.2.2.2.1 != 2)=false→(x.2.2.2.1 == 2)=true:=fun h=>by unfold bne at h;cases hq:(x.2.2.2.1 == 2) <;> rw [hq] at h <;> first | rfl | cases h
   rcases hk with rfl | rfl <;> simp only [e1,c1,c2,Int.reduceBEq,Int.reduceBNe,p0,cond_true,cond_false,Option.bind_some,ay hx,Int.toNat_natCast,hx] <;> cases hq:(x.2.2.2.1 != 2) <;> simp only [c1,cond_true,cond_false,Option.bind_some,ay hx,Int.toNat_natCast,hx,Bool.not_true] <;> first | exact ⟨_,rfl,rfl,.inl ⟨rfl,rfl⟩⟩ | exact ⟨_,rfl,rfl,.inr ⟨rfl,hs0,rfl,.inr ⟨i,x,⟨e1,hx,hzz hq⟩,.inl ⟨rfl,rfl⟩⟩⟩⟩ | exact ⟨_,rfl,rfl,.inr ⟨rfl,hs0,rfl,.inr ⟨i,x,⟨e1,hx,hzz hq⟩,.inr ⟨rfl,rfl⟩⟩⟩⟩
theorem Sa (n:Int):-2147483647≤ia n∧ia n≤2147483647:=by unfold ia;split <;> (try split) <;> omega
theorem rb {n:Int} (h1:-2147483647≤n) (h2:n≤2147483647):ia n=n:=by unfold ia;split <;> (try split) <;> omega
theorem uZ (a b:Int):-2147483647≤zp a b∧zp a b≤2147483647:=Sa _
theorem Ry {α:Type} {xs:List α} (j:Nat) (w:α) {i:Nat} {x:α} (h:xs[i]?=some x):∃ y,(xs.set j w)[i]?=some y :=
 ⟨_,List.getElem?_eq_getElem (by have:=(List.getElem?_eq_some_iff.1 h).1;simpa using this)⟩
theorem QR (s:ae.D) (d:Int):(decide (0≤d) && decide (d≤(s.2.1.length:Int) - 1))=false∨∃ (j:Nat) (y:ar.D),(decide (0≤(j:Int)) && decide ((j:Int)≤(s.2.1.length:Int) - 1))=true∧d=j∧s.2.1[j]?=some y:=by
 by_cases h:0≤d∧d < (s.2.1.length:Int)
 ·obtain ⟨j,y,e,hy⟩:=Oe (s:=s) h.1 h.2
  have:=(List.getElem?_eq_some_iff.1 hy).1
  exact .inr ⟨j,y,by rw [decide_eq_true (by omega),decide_eq_true (by omega)];rfl,e,hy⟩
 ·left
  by_cases h0:0≤d
  ·rw [decide_eq_false (p:=d≤(s.2.1.length:Int) - 1) (by omega),Bool.and_false]
  ·rw [decide_eq_false h0];rfl
def TA (ss ss':List ar.D):Prop:=ss'=ss∨∃ (j:Nat) (z:ar.D) (a:Int),ss[j]?=some z∧ss'=ss.set j (a,z.2)∧-2147483647≤a∧a≤2147483647
def Uk (b2:Bool) (n:Int) (x:ar.D):ar.D:=bif b2 then (x.1,zp x.2.1 n,x.2.2) else (AX x.1 n,x.2)
def Ul (b2 b4 c:Bool) (n:Int) (x:ah.D):ah.D :=
 (x.1,x.2.1,x.2.2.1,x.2.2.2.1,x.2.2.2.2.1,x.2.2.2.2.2.1,x.2.2.2.2.2.2.1,x.2.2.2.2.2.2.2.1,x.2.2.2.2.2.2.2.2.1,(bif b2 then zp x.2.2.2.2.2.2.2.2.2.1 n else x.2.2.2.2.2.2.2.2.2.1),(bif b2 then x.2.2.2.2.2.2.2.2.2.2.1 else zp x.2.2.2.2.2.2.2.2.2.2.1 n),(x.2.2.2.2.2.2.2.2.2.2.2.1 || (b4 && c)),x.2.2.2.2.2.2.2.2.2.2.2.2)
def Of (s:ae.D) (k sr p d n z:Int) (bt:Bool) (u:Unit) (b2 b4 c:Bool) (r:ae.D×(Int×Unit)):Prop :=
 (r.2.1=0∧r.1=s∧(bl s=false∨aN (k,sr,p,d,n,z,bt,u)=false∨(k != 1)=true∨(p=0∧(decide (0≤d) && decide (d≤(s.2.1.length:Int) - 1))=false)∨((p == 0)=false∧(eE s p=-1∨∃ (i:Nat) (x:ah.D),eE s p=i∧s.1[i]?=some x∧(x.2.2.2.1 != 2)=true)))) ∨
 (r.2.1=n∧r.1.2.2=s.2.2∧bl s=true∧aN (k,sr,p,d,n,z,bt,u)=true ∧
  ((p=0∧r.1.1=s.1∧∃ (j:Nat) (x:ar.D),d=j∧s.2.1[j]?=some x∧TA (s.2.1.set j (Uk b2 n x)) r.1.2.1) ∨
   ((p == 0)=false∧∃ (i:Nat) (x:ah.D),eE s p=i∧s.1[i]?=some x∧(x.2.2.2.1 == 2)=true∧r.1.1=s.1.set i (Ul b2 b4 c n x)∧TA s.2.1 r.1.2.1)))
theorem PM (s:ae.D) (q:ah.D) (k sr p d n z:Int) (bt:Bool) (u:Unit) (hp:s.1.length≤33554432) (hs:s.2.1.length≤33554432) :
  ∃ r,lk s q (k,sr,p,d,n,z,bt,u)=some r∧lu s q (k,sr,p,d,n,z,bt,u)=some r∧∃ b2 b4,aF q 2=some b2∧aF q 4=some b4∧Of s k sr p d n z bt u b2 b4 (decide (n≥1)) r:=by
 obtain ⟨b1,hb1⟩:=jW q 1
 obtain ⟨b2,hb2⟩:=jW q 2
 obtain ⟨b4,hb4⟩:=jW q 4
 have hc1:aF q 1=some b1:=by rw [← lz];exact hb1
 have hc2:aF q 2=some b2:=by rw [← lz];exact hb2
 have hc4:aF q 4=some b4:=by rw [← lz];exact hb4
 suffices h:∃ r,lk s q (k,sr,p,d,n,z,bt,u)=some r∧lu s q (k,sr,p,d,n,z,bt,u)=some r∧Of s k sr p d n z bt u b2 b4 (decide (n≥1)) r by
  obtain ⟨r,g1,g2,g3⟩:=h
  exact ⟨r,g1,g2,b2,b4,hc2,hc4,g3⟩
 unfold lk lu
 simp only [gM s hp hs,fz s hp hs,dz s hp hs,cP s hp hs,bB,bQ,Option.bind_some]
 cases hs0:bl s
 ·exact ⟨_,rfl,rfl,.inl ⟨rfl,rfl,.inl hs0⟩⟩
 cases hv:aN (k,sr,p,d,n,z,bt,u)
 ·exact ⟨_,rfl,rfl,.inl ⟨rfl,rfl,.inr (.inl hv)⟩⟩
 by_cases k1:k=1
 case neg =>
  have:(k != 1)=true:=by simp [k1]
  refine ⟨(s,0,()),?_,?_,.inl ⟨rfl,rfl,.inr (.inr (.inl this))⟩⟩ <;> simp only [this] <;> rfl
 subst k1
 have hw:IntKind.wrap .i64 ((s.2.1.length:Int) - 1)=(s.2.1.length:Int) - 1:=aB (by omega) (by omega)
 unfold my aQ fw
 simp only [hb1,hb2,hb4,hc1,hc2,hc4,dn,gL,hw,eY s _ hp,eZ s _ hp,we,wh,wi,wj,Option.bind_some,Bool.not_true,cond_false,bne_self_eq_false,List.length_set]
 have hq:=QR s q.2.2.1
 have hf:(1≤p∨p=0∧0≤d):=by rcases AY hv with ⟨_,h⟩ | ⟨h,_⟩ | ⟨h,_⟩ | ⟨h,_⟩ <;> first | exact h | omega
 rcases hf with h1 | ⟨rfl,hd⟩
 ·have p0:(p == 0)=false:=by rw [beq_eq_false_iff_ne];omega
  rcases jV s p with h | ⟨i,x,e1,hx,_⟩
  ·refine ⟨(s,0,()),?_,?_,.inl ⟨rfl,rfl,.inr (.inr (.inr (.inr ⟨p0,.inl h⟩)))⟩⟩ <;> simp only [h,p0,cond_true,cond_false,Option.bind_some] <;> rfl
  ·have c1:decide ((i:Int)≥0)=true:=by simp
   have c2:decide ((i:Int) < 0)=false:=bb (by omega)
   have hil:=(List.getElem?_eq_some_iff.1 hx).1
   obtain ⟨xi,xo,xs,xz,xt,xp,xg,xr,xl,xm,xk,xd,xb,xu⟩:=x
   simp only [e1,c1,c2,p0,cond_true,cond_false,Option.bind_some,ay hx]
   cases hz:(xz != 2)
   case true=>exact ⟨_,rfl,rfl,.inl ⟨rfl,rfl,.inr (.inr (.inr (.inr ⟨p0,.inr ⟨i,_,e1,hx,hz⟩⟩)))⟩⟩
   have hz2:(xz == 2)=true:=by unfold bne at hz;cases h:(xz == 2) <;> simp [h] at hz ⊢
   simp only [c1,cond_true,cond_false,Option.bind_some,ay hx,Int.toNat_natCast,hx,Bool.not_true,i4 hil,i5 hil,List.set_set]
   rcases hq with hq | ⟨j,y,hq,hj,hy⟩
   ·simp only [hq]
    cases b2 <;> cases b4 <;> cases xd <;> cases decide (n≥1) <;> cases b1 <;> simp only [cond_true,cond_false,Option.bind_some,i4 hil,i5 hil,List.set_set] <;> exact ⟨_,rfl,rfl,.inr ⟨rfl,rfl,hs0,hv,.inr ⟨p0,i,_,e1,hx,hz2,rfl,.inl rfl⟩⟩⟩
   ·simp only [hj,hq]
    cases b2 <;> cases b4 <;> cases xd <;> cases decide (n≥1) <;> cases b1 <;> simp only [cond_true,cond_false,Option.bind_some,i4 hil,i5 hil,List.set_set,ay hy,Int.toNat_natCast,hy] <;> first | exact ⟨_,rfl,rfl,.inr ⟨rfl,rfl,hs0,hv,.inr ⟨p0,i,_,e1,hx,hz2,rfl,.inl rfl⟩⟩⟩ | exact ⟨_,rfl,rfl,.inr ⟨rfl,rfl,hs0,hv,.inr ⟨p0,i,_,e1,hx,hz2,rfl,.inr ⟨j,y,_,hy,rfl,(uZ _ _).1,(uZ _ _).2⟩⟩⟩⟩
 ·have p0:((0:Int) == 0)=true:=rfl
  by_cases hlt:d < (s.2.1.length:Int)
  ·obtain ⟨j,x,rfl,hx⟩:=Oe hd hlt
   have c1:decide ((j:Int)≥(s.2.1.length:Int))=false:=decide_eq_false (by omega)
   have c2:(decide (0≤(j:Int)) && decide ((j:Int)≤(s.2.1.length:Int) - 1))=true:=by rw [decide_eq_true (by omega),decide_eq_true (by omega)];rfl
   simp only [p0,c1,c2,cond_true,cond_false,Option.bind_some,ay hx,Int.toNat_natCast,hx,Bool.not_true]
   rcases hq with hq | ⟨i,y,hq,hj,hy⟩
   ·simp only [hq]
    cases b2 <;> cases b1 <;> simp only [cond_true,cond_false,Option.bind_some,ay hx,Int.toNat_natCast,hx] <;> exact ⟨_,rfl,rfl,.inr ⟨rfl,rfl,hs0,hv,.inl ⟨rfl,rfl,j,x,rfl,hx,.inl rfl⟩⟩⟩
   ·simp only [hj,hq]
    obtain ⟨y1,hy1⟩:=Ry j (x.1,zp x.2.1 n,x.2.2) hy
    obtain ⟨y2,hy2⟩:=Ry j (AX x.1 n,x.2) hy
    cases b2 <;> cases b1 <;> simp only [cond_true,cond_false,Option.bind_some,ay hx,Int.toNat_natCast,hx,ay hy1,hy1,ay hy2,hy2] <;> first | exact ⟨_,rfl,rfl,.inr ⟨rfl,rfl,hs0,hv,.inl ⟨rfl,rfl,j,x,rfl,hx,.inl rfl⟩⟩⟩ | exact ⟨_,rfl,rfl,.inr ⟨rfl,rfl,hs0,hv,.inl ⟨rfl,rfl,j,x,rfl,hx,.inr ⟨i,_,_,hy1,rfl,(uZ _ _).1,(uZ _ _).2⟩⟩⟩⟩ | exact ⟨_,rfl,rfl,.inr ⟨rfl,rfl,hs0,hv,.inl ⟨rfl,rfl,j,x,rfl,hx,.inr ⟨i,_,_,hy2,rfl,(uZ _ _).1,(uZ _ _).2⟩⟩⟩⟩
  ·have c1:decide (d≥(s.2.1.length:Int))=true:=decide_eq_true (by omega)
   have c2:(decide (0≤d) && decide (d≤(s.2.1.length:Int) - 1))=false:=by rw [decide_eq_false (p:=d≤(s.2.1.length:Int) - 1) (by omega),Bool.and_false]
   refine ⟨(s,0,()),?_,?_,.inl ⟨rfl,rfl,.inr (.inr (.inr (.inl ⟨rfl,c2⟩)))⟩⟩ <;> simp only [p0,c1,c2,cond_true,cond_false,Option.bind_some,Bool.not_false]
theorem PN {ss ss':List ar.D} (h:TA ss ss'):ss'.length=ss.length:=by
 rcases h with rfl | ⟨j,z,a,_,rfl,_⟩
 ·rfl
 ·simp
theorem va {α:Type}:∀ {ys:List α} {i:Nat} {x:α},ys[i]?=some x→ys.set i x=ys
 | [],_,_,_=>by simp
 | y :: ys,0,x,h=>by simp at h;simp [h]
 | y :: ys,i + 1,x,h=>by simp only [List.set_cons_succ];rw [va (by simpa using h)]
theorem MO {α β:Type} (f:α→β) (p:β→Bool):∀ (xs:List α),bD (fun x=>p (f x)) xs=bD p (xs.map f)
 | []=>rfl
 | x :: xs=>by simp only [bD,List.map_cons,MO f p xs]
theorem PO (s t:ae.D) (a:Int) (h:s.1.map (fun (x:ah.D)=>x.1)=t.1.map (fun (x:ah.D)=>x.1)):eE s a=eE t a:=by
 have e:∀ (r:ae.D),bD (fun (x:ah.D)=>x.1 == a) r.1=bD (fun i=>i == a) (r.1.map (fun (x:ah.D)=>x.1)):=fun r=>MO (fun (x:ah.D)=>x.1) (fun i=>i == a) r.1
 unfold eE
 rw [e s,e t,h]
theorem MP (s:ae.D) (e:ac.D) (h:s.1.length≤33554432):∃ p,gn s e=some p∧fj s e=some p:=by
 unfold gn fj
 simp only [eY s _ h,eZ s _ h,Option.bind_some]
 rcases jV s e.2.1 with h | ⟨k,x,h1,h2,_⟩
 ·rw [h]
  cases (e.1 != 1) <;> exact ⟨_,rfl,rfl⟩
 ·rw [h1,bb (by omega)]
  cases (e.1 != 1)
  ·simp only [cond_false,Option.bind_some,ay h2];exact ⟨_,rfl,rfl⟩
  ·exact ⟨_,rfl,rfl⟩
noncomputable def jn (s:ae.D) (e:ac.D):ah.D:=(fj s e).getD (0,0,0,0,0,0,0,0,0,0,0,false,false,())
theorem sj (s:ae.D) (e:ac.D) (h:s.1.length≤33554432):fj s e=some (jn s e):=by
 obtain ⟨p,_,h2⟩:=MP s e h
 unfold jn;rw [h2];rfl
theorem sk (s:ae.D) (e:ac.D) (h:s.1.length≤33554432):gn s e=some (jn s e):=by
 obtain ⟨p,h1,h2⟩:=MP s e h
 unfold jn;rw [h2,h1];rfl
theorem PP (xs:List ac.D) (hl:xs.length≤33554432) (p:ac.D→Bool) (q:(ac.D×Unit)→Option Bool) (hq:∀ x,q (x,())=some (p x)) :
  bj xs q=some (match bD p xs with | some k=>(k:Int) | none=>-1):=by
 unfold bj
 rw [dH xs (body:=aY xs q) p (fun i=>i) (by omega) (fun i x hx=>?_) ?_]
 ·cases bD p xs <;> rfl
 ·unfold aY
  simp
 ·unfold aY
  have hlt:=(List.getElem?_eq_some_iff.1 hx).1
  have:((i:Int) < (xs.length:Int)):=by omega
  simp only [this,decide_true,cond_true,ay hx,hq,Option.bind_some]
theorem ol (xs:List ac.D) (hl:xs.length≤33554432) (p:ac.D→Bool) (q:(ac.D×Unit)→Option Bool) (hq:∀ x,q (x,())=some (p x)) :
  be xs q=some (xs.filter (fun x=>!p x),()):=by
 unfold be
 rw [PP xs hl p q hq,Option.bind_some]
 obtain ⟨h1,h2⟩:=ee p xs
 cases hf:bD p xs with
 | none =>
  have:xs.filter (fun x=>!p x)=xs:=by rw [List.filter_eq_self];intro x hx;simp [h1 hf x hx]
  rw [this];rfl
 | some k =>
  obtain ⟨x,g1,g2,g3⟩:=h2 k hf
  have hk:=(List.getElem?_eq_some_iff.1 g1).1
  have n1:((k:Int) == -1)=false:=by simp
  simp only [n1,cond_false]
  rw [aB (by omega) (by omega)]
  obtain ⟨ys,m,e1,e2,e3,e4⟩:∃ (ys:List ac.D) (m:Nat),al (bA q) (xs,(k:Int),(k:Int) + 1)=some (ys,(m:Int),(xs.length:Int))∧ys.length=xs.length∧m≤xs.length∧ys.take m=xs.filter (fun x=>!p x):=by
   refine F3 xs (body:=bA q) p (fun s=>s) (by omega) (fun ys i j x hx hij hl'=>?_) (fun ys i hl'=>?_) k x g1 g2 g3
   ·have hlt:=(List.getElem?_eq_some_iff.1 hx).1
    have hil:((j:Int) < (ys.length:Int)):=by omega
    obtain ⟨y,hy⟩:∃ y,ys[i]?=some y:=⟨_,List.getElem?_eq_getElem (by omega)⟩
    unfold bA
    simp (disch:=omega) only [hil,decide_true,cond_true,Int.toNat_natCast,ay hx,hx,hq,Option.bind_some,ay hy,hy,aB]
    cases p x <;> rfl
   ·unfold bA
    have:¬ ((xs.length:Int) < (ys.length:Int)):=by omega
    simp only [this,decide_false,cond_false]
  rw [e1,Option.bind_some]
  have t1:0≤(m:Int):=by omega
  have t2:(m:Int)≤(ys.length:Int):=by omega
  simp only [t1,t2,if_true,Int.le_refl,Int.toNat_natCast]
  have z1:m≤ys.length:=by omega
  rw [if_pos (by simp only [List.length_append,List.length_take,List.length_replicate,List.length_drop];omega)]
  have:∀ (zs:List ac.D),(ys.take m++zs).take m=ys.take m:=fun zs=>by rw [List.take_append_of_le_length (by simp;omega),List.take_take,Nat.min_self]
  rw [List.append_assoc,this,e4]
  simp
theorem qS {α:Type} (p:α→Bool):∀ (l:List α),(l.filter p).length + (l.filter fun x=>!p x).length=l.length
 | []=>rfl
 | a :: l=>by
  have:=qS p l
  cases h:p a <;> simp [h] <;> omega
theorem B2 {α σ S R:Type} (xs:List α) {body:S→Option (S⊕R)} (mk:σ→Int→S) (step:σ→Nat→α→σ) (I:Nat→σ→Prop) (r:S→R) (s0:σ) (h0:I 0 s0) (hlen:xs.length≤9223372036854775806)
  (hb:∀ s (i:Nat) x,I i s→xs[i]?=some x→body (mk s (i:Int))=some (.inl (mk (step s i x) (IntKind.wrap .i64 ((i:Int) + 1))))∧I (i + 1) (step s i x))
  (he:∀ s,I xs.length s→body (mk s (xs.length:Int))=some (.inr (r (mk s (xs.length:Int))))) :
  al body (mk s0 0)=some (r (mk (dI step 0 xs s0) (xs.length:Int)))∧I xs.length (dI step 0 xs s0):=by
 have main:∀ (l:List α) (k:Nat) (s:σ),xs.drop k=l→k≤xs.length→I k s→al body (mk s (k:Int))=some (r (mk (dI step k l s) (xs.length:Int)))∧I xs.length (dI step k l s):=by
  intro l
  induction l with
  | nil =>
   intro k s h hk hI
   have:k=xs.length:=by
    have:=congrArg List.length h
    simp at this
    omega
   subst this
   exact ⟨aP (he s hI),hI⟩
  | cons x l ih =>
   intro k s h hk hI
   have hlt:k < xs.length:=by
    have:=congrArg List.length h
    simp at this
    omega
   have hx:xs[k]?=some x:=by
    have:=congrArg (fun l=>l[0]?) h
    simpa using this
   have hr:xs.drop (k + 1)=l:=by
    have:=congrArg List.tail h
    simpa using this
   obtain ⟨h1,h2⟩:=hb s k x hI hx
   rw [aB (by omega) (by omega)] at h1
   obtain ⟨h3,h4⟩:=ih (k + 1) (step s k x) hr hlt h2
   exact ⟨aG h1 h3,h4⟩
 have:=main xs 0 s0 rfl (by omega) h0
 simpa using this
theorem qT {α σ:Type} (f:σ→α→σ):∀ (xs:List α) (i:Nat) (s:σ),dI (fun s _ x=>f s x) i xs s=xs.foldl f s
 | [],_,_=>rfl
 | x :: xs,i,s=>qT f xs (i + 1) (f s x)
def ids (t:ae.D):List Int:=t.1.map (fun (x:ah.D)=>x.1)
def DY:ah.D:=(0,0,0,0,0,0,0,0,0,0,0,false,false,())
def TB (s t:ae.D) (v:ac.D) (y:ae.D×(ai.D×Unit)):Prop :=
 (v.1=1∧∃ b2 b4 r,Of t v.1 v.2.1 v.2.2.1 v.2.2.2.1 v.2.2.2.2.1 v.2.2.2.2.2.1 v.2.2.2.2.2.2.1 v.2.2.2.2.2.2.2 b2 b4 (decide (v.2.2.2.2.1≥1)) r∧y=(r.1,(if r.2.1≥1 then (1,v,r.2.1,0,DY,()) else (4,v,0,0,DY,())),())) ∨
 (v.1=2∧∃ r,Tz t v r∧((r.2.1=false∧y=(t,(4,v,0,0,DY,()),()))∨(r.2.1=true∧∃ (k:Nat) (x:ah.D),eE s v.2.2.1=k∧s.1[k]?=some x∧y=(r.1,(3,v,0,0,x,()),())))) ∨
 (v.1≠1∧v.1≠2∧∃ r,UA t v.1 v.2.2.1 v.2.2.2.1 v.2.2.2.2.1 (aN v) r∧y=(r.1,(if r.2.1=true then (2,v,0,0,DY,()) else (4,v,0,0,DY,())),()))
theorem QS (s t:ae.D) (v:ac.D) (hs:s.1.length≤33554432) (ht:t.1.length≤33554432) (ht2:t.2.1.length≤33554432) (hid:ids t=ids s) :
  ∃ y,di t s v=some (y,())∧(v.1≠2→nM s t v=some y)∧(v.1=2→∃ r,nN t v=some r∧((r.2.1=false∧y=(t,(4,v,0,0,DY,()),()))∨(r.2.1=true∧∃ (k:Nat) (x:ah.D),eE s v.2.2.1=k∧s.1[k]?=some x∧y=(r.1,(3,v,0,0,x,()),()))))∧TB s t v y:=by
 by_cases h1:v.1=1
 ·have e1:(v.1 == 1)=true:=by rw [h1];rfl
  obtain ⟨r,g1,g2,b2,b4,t2,t4,hr⟩:=PM t (jn s v) v.1 v.2.1 v.2.2.1 v.2.2.2.1 v.2.2.2.2.1 v.2.2.2.2.2.1 v.2.2.2.2.2.2.1 v.2.2.2.2.2.2.2 ht ht2
  have g1:lk t (jn s v) v=some r:=g1
  have g2:lu t (jn s v) v=some r:=g2
  refine ⟨_,?_,fun _=>?_,fun h=>by rw [h1] at h;exact absurd h (by decide),.inl ⟨h1,b2,b4,r,hr,rfl⟩⟩
  ·unfold di
   simp only [e1,cond_true,sj s v hs,Option.bind_some,g2]
   by_cases hn:r.2.1≥1
   ·rw [decide_eq_true hn,if_pos hn];rfl
   ·rw [decide_eq_false hn,if_neg hn];rfl
  ·unfold nM
   simp only [e1,cond_true,sk s v hs,Option.bind_some,g1]
   by_cases hn:r.2.1≥1
   ·rw [decide_eq_true hn,if_pos hn];rfl
   ·rw [decide_eq_false hn,if_neg hn];rfl
 ·have e1:(v.1 == 1)=false:=by rw [beq_eq_false_iff_ne];exact h1
  by_cases h2:v.1=2
  ·have e2:(v.1 == 2)=true:=by rw [h2];rfl
   obtain ⟨r,g1,g2,hr⟩:=R8 t v ht ht2
   rcases hr0:hr with ⟨q1,q2⟩ | ⟨q1,q2,q3,q4,k,x,q5,q6,q7,q8,q9⟩
   ·refine ⟨(t,(4,v,0,0,DY,()),()),?_,fun h=>absurd h2 h,fun _=>⟨r,g1,.inl ⟨q1,rfl⟩⟩,.inr (.inl ⟨h2,r,hr,.inl ⟨q1,rfl⟩⟩)⟩
    unfold di
    simp only [e1,e2,cond_false,cond_true,Option.bind_some,g2,q1]
    rfl
   ·have hk:eE s v.2.2.1=k:=by rw [← PO t s v.2.2.1 hid];exact q5
    obtain ⟨x',hx'⟩:∃ x',s.1[k]?=some x':=by
     have h3:=congrArg List.length hid
     simp only [ids,List.length_map] at h3
     exact ⟨_,List.getElem?_eq_getElem (by rw [← h3];exact (List.getElem?_eq_some_iff.1 q6).1)⟩
    refine ⟨(r.1,(3,v,0,0,x',()),()),?_,fun h=>absurd h2 h,fun _=>⟨r,g1,.inr ⟨q1,k,x',hk,hx',rfl⟩⟩,.inr (.inl ⟨h2,r,hr,.inr ⟨q1,k,x',hk,hx',rfl⟩⟩)⟩
    unfold di
    simp only [e1,e2,cond_false,cond_true,Option.bind_some,g2,q1,eZ s _ hs,hk,ay hx']
  ·have e2:(v.1 == 2)=false:=by rw [beq_eq_false_iff_ne];exact h2
   obtain ⟨r,g1,g2,hr⟩:=R9 t v.1 v.2.1 v.2.2.1 v.2.2.2.1 v.2.2.2.2.1 v.2.2.2.2.2.1 v.2.2.2.2.2.2.1 v.2.2.2.2.2.2.2 ht ht2
   have g1:uA t v=some r:=g1
   have g2:uN t v=some r:=g2
   refine ⟨_,?_,fun _=>?_,fun h=>absurd h h2,.inr (.inr ⟨h1,h2,r,hr,rfl⟩)⟩
   ·unfold di
    simp only [e1,e2,cond_false,Option.bind_some,g2]
    rcases hr with ⟨q1,q2⟩ | ⟨q1,_⟩
    ·rw [q1,q2];rfl
    ·rw [q1];rfl
   ·unfold nM
    simp only [e1,cond_false,Option.bind_some,g1]
    rcases hr with ⟨q1,q2⟩ | ⟨q1,_⟩
    ·rw [q1];rfl
    ·rw [q1];rfl
theorem HK {ps:List ah.D} {k:Nat} {x y:ah.D} (hx:ps[k]?=some x) (he:y.1=x.1):(ps.set k y).map (fun (x:ah.D)=>x.1)=ps.map (fun (x:ah.D)=>x.1):=by
 simp only [List.map_set,he]
 exact va (by rw [List.getElem?_map,hx];rfl)
theorem Sb (x:ah.D) (v:ac.D) (c:Int):(Ks x v c).1=x.1:=by
 unfold Ks
 cases (v.2.2.2.2.2.1 == 2) <;> rfl
theorem Sc {s t:ae.D} {v:ac.D} {y:ae.D×(ai.D×Unit)} (h:TB s t v y):ids y.1=ids t∧gT y.1 t∧y.1.2.2=t.2.2:=by
 rcases h with ⟨_,b2,b4,r,hr,rfl⟩ | ⟨_,r,hr,hy⟩ | ⟨_,_,r,hr,rfl⟩
 ·rcases hr with ⟨_,h,_⟩ | ⟨_,h0,_,_,⟨_,h1,j,x,_,_,h2⟩ | ⟨_,i,x,_,hx,_,h1,h2⟩⟩
  ·simp only [h];exact ⟨by trivial,⟨by trivial,by trivial⟩,by trivial⟩
  ·exact ⟨by unfold ids;simp only [h1],⟨by simp only [h1],by have:=PN h2;simp only [this];simp⟩,h0⟩
  ·exact ⟨by unfold ids;simp only [h1];exact HK hx rfl,⟨by simp only [h1];simp,PN h2⟩,h0⟩
 ·rcases hy with ⟨_,rfl⟩ | ⟨hb,k,x,_,_,rfl⟩
  ·exact ⟨by trivial,⟨by trivial,by trivial⟩,by trivial⟩
  ·rcases hr with ⟨q1,_⟩ | ⟨_,_,_,_,k,x,_,q6,_,_,q9⟩
   ·rw [q1] at hb;cases hb
   ·simp only [q9]
    exact ⟨HK q6 (Sb _ _ _),⟨by simp,by trivial⟩,by trivial⟩
 ·rcases hr with ⟨_,h⟩ | ⟨_,_,_,⟨j,x,⟨_,_,_⟩,⟨_,h⟩ | ⟨_,h⟩⟩ | ⟨i,x,⟨_,hx,_⟩,⟨_,h⟩ | ⟨_,h⟩⟩⟩
  ·simp only [h];exact ⟨by trivial,⟨by trivial,by trivial⟩,by trivial⟩
  ·simp only [h];exact ⟨by trivial,⟨by trivial,by simp⟩,by trivial⟩
  ·simp only [h];exact ⟨by trivial,⟨by trivial,by simp⟩,by trivial⟩
  ·simp only [h];exact ⟨HK hx rfl,⟨by simp,by trivial⟩,by trivial⟩
  ·simp only [h];exact ⟨HK hx rfl,⟨by simp,by trivial⟩,by trivial⟩
noncomputable def DZ (s t:ae.D) (v:ac.D):ae.D×(ai.D×Unit):=((di t s v).map (fun y=>y.1)).getD (t,(0,(0,0,0,0,0,0,false,()),0,0,DY,()),())
theorem D0 (s t:ae.D) (v:ac.D) (hs:s.1.length≤33554432) (ht:t.1.length≤33554432) (ht2:t.2.1.length≤33554432) (hid:ids t=ids s) :
  di t s v=some (DZ s t v,())∧(v.1≠2→nM s t v=some (DZ s t v))∧(v.1=2→∃ r,nN t v=some r∧((r.2.1=false∧DZ s t v=(t,(4,v,0,0,DY,()),()))∨(r.2.1=true∧∃ (k:Nat) (x:ah.D),eE s v.2.2.1=k∧s.1[k]?=some x∧DZ s t v=(r.1,(3,v,0,0,x,()),()))))∧TB s t v (DZ s t v):=by
 obtain ⟨y,h1,h2,h3,h4⟩:=QS s t v hs ht ht2 hid
 have e:DZ s t v=y:=by unfold DZ;rw [h1];rfl
 rw [e]
 exact ⟨h1,h2,h3,h4⟩
noncomputable def vd (s:ae.D) (q:List ai.D×ae.D) (v:ac.D):List ai.D×ae.D:=(q.1++[(DZ s q.2 v).2.1],(DZ s q.2 v).1)
def tH (es:List ac.D):List ac.D:=es.filter (fun v=>v.1 != 2)
def wk (es:List ac.D):List ac.D:=es.filter (fun v=>v.1 == 2)
noncomputable def wl (s:ae.D) (es:List ac.D):List ai.D×ae.D:=(tH es++wk es).foldl (vd s) ([],s)
def CI (s:ae.D) (q:List ai.D×ae.D):Prop:=ids q.2=ids s∧gT q.2 s∧q.2.2.2=s.2.2
theorem CI.step {s:ae.D} {q:List ai.D×ae.D} (h:CI s q) (v:ac.D) (hs:s.1.length≤33554432) (hs2:s.2.1.length≤33554432):CI s (vd s q v):=by
 obtain ⟨h1,h2,h3⟩:=h
 obtain ⟨k1,k2,k3⟩:=Sc (D0 s q.2 v hs (by rw [h2.1];exact hs) (by rw [h2.2];exact hs2) h1).2.2.2
 exact ⟨k1.trans h1,⟨k2.1.trans h2.1,k2.2.trans h2.2⟩,k3.trans h3⟩
theorem FA (es:List ac.D):(tH es).length + (wk es).length=es.length:=by
 have:=qS (fun v:ac.D=>v.1 == 2) es
 unfold tH wk bne
 omega
theorem Kt (s:ae.D) (es:List ac.D) (hp:s.1.length≤33554432) (hs:s.2.1.length≤33554432) (he:es.length≤33554432) :
  tA s es=some (if bl s then ((wl s es).2,(wl s es).1,()) else (s,[],()))∧((wl s es).1.length=es.length∧CI s (wl s es)):=by
 have hom:=FA es
 have hlm:(tH es++wk es).length=es.length:=by rw [List.length_append];exact hom
 have key:=B2 (tH es++wk es) (body:=mz s (tH es,()) (wk es,())) (fun (q:List ai.D×ae.D) i=>(q.1,i,q.2)) (fun q _ v=>vd s q v) (fun i q=>q.1.length=i∧CI s q) (fun x=>x) ([],s) ⟨rfl,rfl,⟨rfl,rfl⟩,rfl⟩ (by omega) (fun q i v hI hx=>?_) (fun q hI=>?_)
 ·obtain ⟨k1,k2,k3⟩:=key
  rw [qT (vd s)] at k1 k2 k3
  refine ⟨?_,by rw [← hlm];exact k2,k3⟩
  unfold tA
  rw [fz s hp hs,Option.bind_some,cP s hp hs,Option.bind_some]
  cases hso:bl s
  ·rfl
  ·simp only [Bool.not_true,cond_false,if_true]
   unfold bd
   rw [if_pos (by simp only [aC,List.length_nil];omega)]
   simp only [Option.bind_some,List.nil_append]
   rw [ol es he (fun v=>v.1 == 2) _ (fun x=>rfl),Option.bind_some,ol es he (fun v=>v.1 != 2) _ (fun x=>rfl),Option.bind_some]
   have e1:(es.filter fun v=>!(v.1 == 2))=tH es:=rfl
   have e2:(es.filter fun v=>!(v.1 != 2))=wk es:=by
    unfold wk bne
    simp only [Bool.not_not]
   rw [e1,e2,if_pos (by simp only [aC];omega)]
   rw [show (([],0,s):List ai.D×(Int×ae.D))=((([],s):List ai.D×ae.D).1,0,(([],s):List ai.D×ae.D).2) from rfl,k1]
   rfl
 ·obtain ⟨h1,h2⟩:=hI
  have hlt:=(List.getElem?_eq_some_iff.1 hx).1
  refine ⟨?_,by unfold vd;simp only [List.length_append,List.length_cons,List.length_nil];omega,h2.step v hp hs⟩
  obtain ⟨g1,g2,g3⟩:=h2
  have:=(D0 s q.2 v hp (by rw [g2.1];exact hp) (by rw [g2.2];exact hs) g1).1
  have hil:((i:Int) < ((tH es++wk es).length:Int)):=by omega
  unfold mz
  simp only [hil,decide_true,cond_true,ay hx,Int.toNat_natCast,hx,Option.bind_some,this]
  rw [if_pos (by simp only [aC,List.length_cons,List.length_nil];omega)]
  rfl
 ·unfold mz
  simp
theorem Ku (s:ae.D) (es:List ac.D) (hp:s.1.length≤33554432) (hs:s.2.1.length≤33554432) (he:es.length≤33554432) :
  tp s es=some (if bl s then ((wl s es).2,(wl s es).1,()) else (s,[],())):=by
 have k1:=B2 es (body:=mb s es) (fun (q:List ai.D×ae.D) i=>(q.1,i,q.2)) (fun q _ v=>if (v.1 != 2)=true then vd s q v else q) (fun i q=>q.1.length≤i∧CI s q) (fun x=>x) ([],s) ⟨Nat.le_refl _,rfl,⟨rfl,rfl⟩,rfl⟩ (by omega) (fun q i v hI hx=>?_) (fun q hI=>?_)
 ·obtain ⟨k1,k2,k3⟩:=k1
  rw [qT (fun q v=>if (v.1 != 2)=true then vd s q v else q),← List.foldl_filter] at k1 k2 k3
  have k4:=B2 es (body:=mc s es) (fun (q:List ai.D×ae.D) i=>(q.1,i,q.2)) (fun q _ v=>if (v.1 == 2)=true then vd s q v else q) (fun i q=>q.1.length≤es.length + i∧CI s q) (fun x=>x) _ ⟨k2,k3⟩ (by omega) (fun q i v hI hx=>?_) (fun q hI=>?_)
  ·obtain ⟨k4,_⟩:=k4
   rw [qT (fun q v=>if (v.1 == 2)=true then vd s q v else q),← List.foldl_filter,← List.foldl_append] at k4
   unfold tp
   rw [gM s hp hs,Option.bind_some,dz s hp hs,Option.bind_some]
   cases hso:bl s
   ·rfl
   ·simp only [Bool.not_true,cond_false,if_true]
    rw [show (([],0,s):List ai.D×(Int×ae.D))=((([],s):List ai.D×ae.D).1,0,(([],s):List ai.D×ae.D).2) from rfl,k1,Option.bind_some]
    simp only
    rw [k4]
    rfl
  ·obtain ⟨h1,h2⟩:=hI
   have hlt:=(List.getElem?_eq_some_iff.1 hx).1
   have hil:((i:Int) < (es.length:Int)):=by omega
   have hst:=h2.step v hp hs
   obtain ⟨g1,g2,g3⟩:=h2
   have hpf:=(D0 s q.2 v hp (by rw [g2.1];exact hp) (by rw [g2.2];exact hs) g1).2.2.1
   unfold mc
   simp only [hil,decide_true,cond_true,ay hx]
   by_cases h2':v.1=2
   ·have e2:(v.1 == 2)=true:=by rw [h2'];rfl
    have e3:(v.1 != 2)=false:=by unfold bne;rw [e2];rfl
    simp only [e2,e3,cond_false,if_true]
    refine ⟨?_,by unfold vd;simp only [List.length_append,List.length_cons,List.length_nil];omega,hst⟩
    obtain ⟨r,p1,⟨p2,p3⟩ | ⟨p2,k,x,p3,p4,p5⟩⟩:=hpf h2'
    ·simp only [p1,Option.bind_some,p2,Bool.not_false,cond_true]
     rw [if_pos (by simp only [aC,List.length_cons,List.length_nil];omega)]
     unfold vd
     rw [p3]
     rfl
    ·simp only [p1,Option.bind_some,p2,Bool.not_true,cond_false,eY s _ hp,p3,ay p4]
     rw [if_pos (by simp only [aC,List.length_cons,List.length_nil];omega)]
     unfold vd
     rw [p5]
     rfl
   ·have e2:(v.1 == 2)=false:=by rw [beq_eq_false_iff_ne];exact h2'
    have e3:(v.1 != 2)=true:=by unfold bne;rw [e2];rfl
    simp only [e2,e3,cond_true,Option.bind_some]
    exact ⟨rfl,by simp only [Bool.false_eq_true,if_false];omega,by simp only [Bool.false_eq_true,if_false];exact ⟨g1,g2,g3⟩⟩
  ·unfold mc
   simp
 ·obtain ⟨h1,h2⟩:=hI
  have hlt:=(List.getElem?_eq_some_iff.1 hx).1
  have hil:((i:Int) < (es.length:Int)):=by omega
  have hst:=h2.step v hp hs
  obtain ⟨g1,g2,g3⟩:=h2
  have hpf:=(D0 s q.2 v hp (by rw [g2.1];exact hp) (by rw [g2.2];exact hs) g1).2.1
  unfold mb
  simp only [hil,decide_true,cond_true,ay hx]
  by_cases h2':v.1=2
  ·have e2:(v.1 == 2)=true:=by rw [h2'];rfl
   have e3:(v.1 != 2)=false:=by unfold bne;rw [e2];rfl
   simp only [e3,cond_false,Option.bind_some]
   exact ⟨rfl,by simp only [Bool.false_eq_true,if_false];omega,by simp only [Bool.false_eq_true,if_false];exact ⟨g1,g2,g3⟩⟩
  ·have e2:(v.1 == 2)=false:=by rw [beq_eq_false_iff_ne];exact h2'
   have e3:(v.1 != 2)=true:=by unfold bne;rw [e2];rfl
   simp only [e3,cond_true,if_true,hpf h2',Option.bind_some]
   refine ⟨?_,by unfold vd;simp only [List.length_append,List.length_cons,List.length_nil];omega,hst⟩
   rw [if_pos (by simp only [aC,List.length_cons,List.length_nil];omega)]
   rfl
 ·unfold mb
  simp
def AZ (x:ai.D):Bool:=(x.1 == 6) || ((x.1 == 3) && ((x.2.2.2.2.1.2.2.2.1 == 2) && (x.2.1.2.2.2.2.2.1 != 2)))
theorem Og (x:ai.D):zQ x=some (AZ x):=by
 unfold zQ AZ
 cases (x.1 == 6) <;> cases (x.1 == 3) <;> cases (x.2.2.2.2.1.2.2.2.1 == 2) <;> rfl
theorem Oh (x:ai.D):qA x=some (AZ x):=by
 unfold qA AZ
 cases (x.1 == 6) <;> cases (x.1 == 3) <;> cases (x.2.2.2.2.1.2.2.2.1 == 2) <;> rfl
def gj (p:ah.D) (t:Int):Bool:=(aF p t).getD false
theorem ve (p:ah.D) (t:Int):aF p t=some (gj p t):=by
 obtain ⟨b,h⟩:=jW p t
 rw [lz] at h
 unfold gj
 rw [h];rfl
theorem FB (p:ah.D) (t:Int):cg p t=some (gj p t):=by rw [lz,ve]
noncomputable def wT (s:ae.D) (_:Nat) (x:ai.D):List af.D :=
 bif AZ x && gj x.2.2.2.2.1 16 then [(1,x.2.2.2.2.1.2.2.1,0,x.2.2.2.2)]
 else bif (x.1 == 1) && (decide (x.2.2.1≥1) && gj (jn s x.2.1) 32) then [(2,(jn s x.2.1).2.2.1,x.2.2.1,jn s x.2.1,())] else []
theorem zS (s:ae.D) (i:Nat) (x:ai.D):(wT s i x).length≤1:=by
 unfold wT
 cases (AZ x && gj x.2.2.2.2.1 16) <;> cases ((x.1 == 1) && (decide (x.2.2.1≥1) && gj (jn s x.2.1) 32)) <;> simp
theorem TC (x:ai.D) (h:AZ x=true):(x.1 == 1)=false:=by
 unfold AZ at h
 rw [beq_eq_false_iff_ne]
 intro e
 rw [e] at h
 simp at h
theorem D1 (s:ae.D) (xs:List ai.D) (hs:s.1.length≤33554432) (h:xs.length≤33554432):uP s xs=some (bi (wT s) 0 xs):=by
 unfold uP
 rw [cx xs (wT s) (fun s=>s) (zS s) (by omega) (fun t i x hI hx=>?_) (fun t=>?_)]
 ·rfl
 ·have hlt:=(List.getElem?_eq_some_iff.1 hx).1
  have hil:((i:Int) < (xs.length:Int)):=by omega
  unfold v8 wT
  simp only [hil,decide_true,cond_true,ay hx,Og,ve,sj s _ hs,Option.bind_some]
  have hr:∀ (y:af.D),(t.length + ([y]:List af.D).length) * (24 * 16)≤aC:=fun y=>by simp only [aC,List.length_cons,List.length_nil];omega
  simp only [hr,if_true]
  cases AZ x <;> cases gj x.2.2.2.2.1 16 <;> cases (x.1 == 1) <;> cases decide (x.2.2.1≥1) <;> cases gj (jn s x.2.1) 32 <;> simp
 ·unfold v8;simp
theorem D2 (s:ae.D) (xs:List ai.D) (hs:s.1.length≤33554432) (h:xs.length≤33554432):uB s xs=some (bi (wT s) 0 xs):=by
 unfold uB
 rw [cx xs (wT s) (fun s=>s) (zS s) (by omega) (fun t i x hI hx=>?_) (fun t=>?_)]
 ·rfl
 ·have hlt:=(List.getElem?_eq_some_iff.1 hx).1
  have hil:((i:Int) < (xs.length:Int)):=by omega
  unfold vR wT
  simp only [hil,decide_true,cond_true,ay hx,Oh,FB,sk s _ hs,Option.bind_some]
  have hr:∀ (y:af.D),(t.length + ([y]:List af.D).length) * (24 * 16)≤aC:=fun y=>by simp only [aC,List.length_cons,List.length_nil];omega
  simp only [hr,if_true]
  have h1:=TC x
  cases hl:AZ x
  ·simp only [cond_false,Option.bind_some,hr,if_true,Bool.false_and]
   cases (x.1 == 1) <;> cases decide (x.2.2.1≥1) <;> cases gj (jn s x.2.1) 32 <;> simp only [cond_true,cond_false,Option.bind_some,hr,if_true,Bool.and_true,Bool.and_false,Bool.false_and,List.append_nil]
  ·rw [h1 hl]
   cases gj x.2.2.2.2.1 16 <;> simp
 ·unfold vR;simp
theorem PQ (n:Int):db n=cd n:=by
 unfold db cd
 simp only [cond_eq_ite,decide_eq_true_eq]
 split <;> split <;> (try split) <;> (try split) <;> first | rfl | (congr 1;omega) | omega
theorem Um (a b:Int):dV a b=aZ a b:=by unfold dV aZ;simp only [PQ]
theorem Un (a b:Int):ja a b=gg a b:=by unfold ja gg;simp only [PQ]
theorem TD (p:ah.D):qz p=gE p:=by unfold qz gE;simp only [Um,Un]
theorem QT (p:ah.D):∃ m,gE p=some m:=by simp [gE,aZ,gg,cd]
theorem FC (p:ah.D):∃ b,pe p=some b∧lw p=some b∧(b=true→(p.2.2.2.1 == 2)=true):=by
 unfold pe lw
 obtain ⟨m,hm⟩:=QT p
 obtain ⟨b,hb⟩:=jW p 8
 simp only [TD,hm,← lz,hb,Option.bind_some]
 unfold bne
 cases h:p.2.2.2.1 == 2 <;> simp only [Bool.not_true,Bool.not_false,cond_true,cond_false]
 ·exact ⟨_,rfl,rfl,by simp⟩
 ·cases decide (m≤0) <;> cases b <;> cases p.2.2.2.2.2.2.2.2.2.2.2.1 <;> exact ⟨_,rfl,rfl,by simp⟩
def kK (p:ah.D):Bool:=(lw p).getD false
theorem Kv (p:ah.D):lw p=some (kK p):=by
 obtain ⟨b,_,h,_⟩:=FC p
 unfold kK
 rw [h];rfl
theorem Kw (p:ah.D):pe p=some (kK p):=by
 obtain ⟨b,h1,h,_⟩:=FC p
 unfold kK
 rw [h,h1];rfl
theorem PR (p:ah.D) (h:kK p=true):(p.2.2.2.1 == 2)=true:=by
 obtain ⟨b,_,h2,h3⟩:=FC p
 unfold kK at h
 rw [h2] at h
 exact h3 h
theorem D3 {α β T R:Type} (xs:List α) (f:α→α) (g:Nat→α→List β) (mk:List β→List α→Int→T) (r:T→R) {body:T→Option (T⊕R)} (n0:List β) (hg:∀ i x,(g i x).length≤1) (hlen:xs.length≤33554432)
  (hb:∀ (ns:List β) (ys:List α) (i:Nat) x,ns.length≤n0.length + i→i < 33554432→ys.length=xs.length→xs[i]?=some x→ys[i]?=some x→body (mk ns ys (i:Int))=some (.inl (mk (ns++g i x) (ys.set i (f x)) (IntKind.wrap .i64 ((i:Int) + 1)))))
  (he:∀ (ns:List β) (ys:List α),body (mk ns ys (xs.length:Int))=some (.inr (r (mk ns ys (xs.length:Int))))) :
  al body (mk n0 xs 0)=some (r (mk (n0++bi g 0 xs) (xs.map f) (xs.length:Int))):=by
 have main:∀ (l p q:List α) (ns:List β),xs=p++l→q.length=p.length→ns.length≤n0.length + p.length→al body (mk ns (q++l) (p.length:Int))=some (r (mk (ns++bi g p.length l) (q++l.map f) (xs.length:Int))):=by
  intro l
  induction l with
  | nil =>
   intro p q ns e hq hn
   refine aP ?_
   have:p.length=xs.length:=by rw [e];simp
   rw [this,he]
   simp [bi]
  | cons x l ih =>
   intro p q ns e hq hn
   have hlt:p.length < xs.length:=by rw [e];simp
   have hx:xs[p.length]?=some x:=by rw [e];simp
   have hy:(q++x :: l)[p.length]?=some x:=by rw [← hq];simp
   have h1:=hb ns (q++x :: l) p.length x hn (by omega) (by rw [e];simp [hq]) hx hy
   rw [aB (by omega) (by omega)] at h1
   have h2:=ih (p++[x]) (q++[f x]) (ns++g p.length x) (by rw [e];simp) (by simp [hq]) (by have:=hg p.length x;simp only [List.length_append,List.length_cons,List.length_nil];omega)
   refine aG h1 ?_
   have e1:(q++x :: l).set p.length (f x)=q++[f x]++l:=by rw [← hq];simp
   rw [e1]
   have e2:((p++[x]).length:Int)=(p.length:Int) + 1:=by simp
   rw [e2] at h2
   rw [h2]
   simp [bi,List.append_assoc]
 have:=main xs [] [] n0 rfl rfl (by simp)
 simpa using this
def B3 (x:ar.D):Bool:=!x.2.2.1 && (decide (x.1≤0) || decide (x.2.1≥10))
def A0 (x:ar.D):ar.D:=bif B3 x then (x.1,x.2.1,true,()) else x
def tI (i:Nat) (x:ar.D):List ai.D:=bif B3 x then [(5,(0,0,0,0,0,0,false,()),0,(i:Int),(0,0,0,0,0,0,0,0,0,0,0,false,false,()),())] else []
def wU (p:ah.D):Int:=if p.2.2.2.2.2.2.2.2.2.1 < p.2.2.2.2.2.2.2.2.1 then p.2.2.2.2.2.2.2.2.2.1 else p.2.2.2.2.2.2.2.2.1
def wm (p:ah.D):Bool:=(p.2.2.2.1 == 2) && decide (wU p > 0)
def t7 (c:Int) (p:ah.D):ah.D :=
 bif kK p then (p.1,p.2.1,p.2.1,3,c,p.2.2.2.2.2.1,p.2.2.2.2.2.2.1,p.2.2.2.2.2.2.2.1,0,0,0,false,false,())
 else bif wm p then (p.1,p.2.1,p.2.2.1,p.2.2.2.1,p.2.2.2.2.1,p.2.2.2.2.2.1,p.2.2.2.2.2.2.1,p.2.2.2.2.2.2.2.1,IntKind.wrap .i64 (p.2.2.2.2.2.2.2.2.1 - wU p),IntKind.wrap .i64 (p.2.2.2.2.2.2.2.2.2.1 - wU p),p.2.2.2.2.2.2.2.2.2.2)
 else p
def wV (_:Nat) (p:ah.D):List ai.D :=
 bif kK p then [(6,(0,0,0,0,0,0,false,()),0,0,p,())] else bif wm p then [(7,(0,0,0,0,0,0,false,()),wU p,0,p,())] else []
theorem zT (i:Nat) (x:ar.D):(tI i x).length≤1:=by unfold tI;cases B3 x <;> simp
theorem MQ (i:Nat) (x:ah.D):(wV i x).length≤1:=by unfold wV;cases kK x <;> cases wm x <;> simp
theorem L9 (a b:Int):∃ m,eK a b=some m∧(if (if b < a then b else a) > 0 then m=(if b < a then b else a) else ¬ m > 0):=by
 unfold eK
 simp only [cond_eq_ite,decide_eq_true_eq]
 split <;> simp only [Option.bind_some] <;> split <;> refine ⟨_,rfl,?_⟩ <;> split <;> omega
theorem Sd (s:ae.D) (hs:s.2.1.length≤33554432):al (jN s) ([],0,s)=some (bi tI 0 s.2.1,(s.2.1.length:Int),(s.1,s.2.1.map A0,s.2.2)):=by
 have:=D3 s.2.1 A0 tI (fun ns ys i=>(ns,i,(s.1,ys,s.2.2))) (fun t=>t) (body:=jN s) [] zT hs (fun ns ys i x hn hi hl hx hy=>?_) (fun ns ys=>?_)
 ·simpa using this
 ·have hlt:=(List.getElem?_eq_some_iff.1 hx).1
  have hil:((i:Int) < (s.2.1.length:Int)):=by omega
  unfold jN A0 tI B3
  simp only [hil,decide_true,cond_true,ay hx,Int.toNat_natCast,ay hy,hy,Option.bind_some]
  rw [if_pos (by simp only [aC,List.length_cons,List.length_nil] at *;omega)]
  have:=va hy
  cases x.2.2.1 <;> cases decide (x.1≤0) <;> cases decide (x.2.1≥10) <;> simp [this]
 ·unfold jN;simp
theorem QU (s:ae.D) (hs:s.2.1.length≤33554432):al (jK s) ([],0,s)=some (bi tI 0 s.2.1,(s.2.1.length:Int),(s.1,s.2.1.map A0,s.2.2)):=by
 have:=D3 s.2.1 A0 tI (fun ns ys i=>(ns,i,(s.1,ys,s.2.2))) (fun t=>t) (body:=jK s) [] zT hs (fun ns ys i x hn hi hl hx hy=>?_) (fun ns ys=>?_)
 ·simpa using this
 ·have hlt:=(List.getElem?_eq_some_iff.1 hx).1
  have hil:((i:Int) < (s.2.1.length:Int)):=by omega
  unfold jK A0 tI B3
  simp only [hil,decide_true,cond_true,ay hx,Int.toNat_natCast,ay hy,hy,Option.bind_some]
  rw [if_pos (by simp only [aC,List.length_cons,List.length_nil] at *;omega)]
  have:=va hy
  cases x.2.2.1 <;> cases decide (x.1≤0) <;> cases decide (x.2.1≥10) <;> simp [this]
 ·unfold jK;simp
theorem QV (s:ae.D) (n0:List ai.D) (t:(List ar.D)×(Int×(Int×Unit))) (hn0:n0.length≤33554432) (hp:s.1.length≤33554432) :
  al (jO s) (n0,0,(s.1,t))=some (n0++bi wV 0 s.1,(s.1.length:Int),(s.1.map (t7 s.2.2.2.1),t)):=by
 refine D3 s.1 (t7 s.2.2.2.1) wV (fun ns ys i=>(ns,i,(ys,t))) (fun t=>t) (body:=jO s) n0 MQ hp (fun ns ys i x hn hi hl hx hy=>?_) (fun ns ys=>?_)
 ·have hlt:=(List.getElem?_eq_some_iff.1 hx).1
  have hil:((i:Int) < (s.1.length:Int)):=by omega
  have hly:i < ys.length:=by omega
  have hm:∀ a b,rV x a b=some (x.1,x.2.1,x.2.1,a,b,x.2.2.2.2.2.1,x.2.2.2.2.2.2.1,x.2.2.2.2.2.2.2.1,0,0,0,false,false,()):=fun a b=>rfl
  have hself:=va hy
  unfold jO t7 wV
  simp only [hil,decide_true,cond_true,ay hx,Kv,Option.bind_some,Int.toNat_natCast,ay hy,hy,hm,i4 hly,i5 hly,List.set_set]
  cases kK x
  ·simp only [cond_false]
   change ((bif x.2.2.2.1 == 2 then some (decide (wU x > 0)) else some false).bind fun o17=>_)=_
   unfold wm
   cases (x.2.2.2.1 == 2) <;> cases decide (wU x > 0) <;> simp only [cond_true,cond_false,Option.bind_some,Bool.and_true,Bool.and_false,Bool.true_and,Bool.false_and,hself,List.append_nil]
   rw [if_pos (by simp only [aC,List.length_cons,List.length_nil] at *;omega)]
   rfl
  ·simp only [cond_true]
   rw [if_pos (by simp only [aC,List.length_cons,List.length_nil] at *;omega)]
 ·unfold jO;simp
theorem PT (s:ae.D) (n0:List ai.D) (t:(List ar.D)×(Int×(Int×Unit))) (hn0:n0.length≤33554432) (hp:s.1.length≤33554432) :
  al (jL s) (n0,0,(s.1,t))=some (n0++bi wV 0 s.1,(s.1.length:Int),(s.1.map (t7 s.2.2.2.1),t)):=by
 refine D3 s.1 (t7 s.2.2.2.1) wV (fun ns ys i=>(ns,i,(ys,t))) (fun t=>t) (body:=jL s) n0 MQ hp (fun ns ys i x hn hi hl hx hy=>?_) (fun ns ys=>?_)
 ·have hlt:=(List.getElem?_eq_some_iff.1 hx).1
  have hil:((i:Int) < (s.1.length:Int)):=by omega
  have hly:i < ys.length:=by omega
  have hm:∀ a b,rI x a b=some (x.1,x.2.1,x.2.1,a,b,x.2.2.2.2.2.1,x.2.2.2.2.2.2.1,x.2.2.2.2.2.2.2.1,0,0,0,false,false,()):=fun a b=>rfl
  have hself:=va hy
  obtain ⟨m,hm1,hm2⟩:=L9 x.2.2.2.2.2.2.2.2.1 x.2.2.2.2.2.2.2.2.2.1
  change (if wU x > 0 then m=wU x else ¬ m > 0) at hm2
  unfold jL t7 wV
  simp only [hil,decide_true,cond_true,ay hx,Kw,Option.bind_some,Int.toNat_natCast,ay hy,hy,hm,hm1,i4 hly,i5 hly,List.set_set]
  cases kK x
  ·simp only [cond_false]
   unfold wm
   by_cases hpos:wU x > 0
   ·rw [if_pos hpos] at hm2
    subst hm2
    rw [decide_eq_true hpos]
    cases (x.2.2.2.1 == 2) <;> simp only [cond_true,cond_false,Option.bind_some,Bool.and_true,Bool.and_false,Bool.true_and,Bool.false_and,hself,List.append_nil]
    rw [if_pos (by simp only [aC,List.length_cons,List.length_nil] at *;omega)]
    rfl
   ·rw [if_neg hpos] at hm2
    rw [decide_eq_false hpos,decide_eq_false hm2]
    cases (x.2.2.2.1 == 2) <;> simp only [cond_true,cond_false,Option.bind_some,Bool.and_true,Bool.and_false,Bool.true_and,Bool.false_and,hself,List.append_nil]
  ·simp only [cond_true]
   rw [if_pos (by simp only [aC,List.length_cons,List.length_nil] at *;omega)]
   rfl
 ·unfold jL;simp
def eV (s:ae.D):ae.D×((List ai.D)×Unit) :=
 if bl s then ((s.1.map (t7 s.2.2.2.1),s.2.1.map A0,s.2.2),bi tI 0 s.2.1++bi wV 0 s.1,()) else (s,[],())
theorem hZ (s:ae.D) (hp:s.1.length≤33554432) (hs:s.2.1.length≤33554432):v7 s=some (eV s):=by
 unfold v7 eV
 simp only [fz s hp hs,cP s hp hs,Option.bind_some]
 cases bl s
 ·rfl
 ·simp only [Bool.not_true,cond_false,if_true,Sd s hs,Option.bind_some]
  rw [QV s _ _ (by have:=lh tI zT s.2.1 0;omega) hp]
  rfl
theorem Ma (s:ae.D) (hp:s.1.length≤33554432) (hs:s.2.1.length≤33554432):vQ s=some (eV s):=by
 unfold vQ eV
 simp only [gM s hp hs,dz s hp hs,Option.bind_some]
 cases bl s
 ·rfl
 ·simp only [Bool.not_true,cond_false,if_true,QU s hs,Option.bind_some]
  rw [PT s _ _ (by have:=lh tI zT s.2.1 0;omega) hp]
  rfl
theorem B4 (s:ae.D):gT (eV s).1 s:=by
 unfold eV gT
 split <;> simp
def wS (x:ar.D):Nat:=bif x.2.2.1 then 0 else 1
def wP (p:ah.D):Nat:=bif p.2.2.2.1 == 2 then (if wU p > 0 then 2 else 1) else 0
def sl (s:ae.D):Nat:=(s.2.1.map wS).sum + (s.1.map wP).sum
theorem Uo (i:Nat) (x:ar.D):(tI i x).length + wS (A0 x)≤wS x:=by
 unfold tI A0
 cases h:B3 x
 ·simp
 ·have:x.2.2.1=false:=by unfold B3 at h;cases hx:x.2.2.1 <;> simp [hx] at h ⊢
  simp [wS,this]
theorem Se (a b:Int):(if IntKind.wrap .i64 (b - (if b < a then b else a)) < IntKind.wrap .i64 (a - (if b < a then b else a)) then IntKind.wrap .i64 (b - (if b < a then b else a)) else IntKind.wrap .i64 (a - (if b < a then b else a)))≤0:=by
 have h0:IntKind.wrap .i64 0=0:=by decide
 by_cases h:b < a
 ·rw [if_pos h,Int.sub_self,h0];split <;> omega
 ·rw [if_neg h,Int.sub_self,h0];split <;> omega
theorem Up (c:Int) (i:Nat) (p:ah.D):(wV i p).length + wP (t7 c p)≤wP p:=by
 unfold wV t7
 cases h:kK p
 ·cases h2:wm p
  ·simp
  ·unfold wm at h2
   rw [Bool.and_eq_true,decide_eq_true_eq] at h2
   have e1:wP p=2:=by unfold wP;rw [h2.1];simp only [cond_true];rw [if_pos h2.2]
   rw [e1]
   simp only [cond_true,cond_false,List.length_cons,List.length_nil]
   have:=Se p.2.2.2.2.2.2.2.2.1 p.2.2.2.2.2.2.2.2.2.1
   unfold wP
   simp only [h2.1,cond_true]
   rw [if_neg]
   ·omega
   ·unfold wU;simp only;unfold wU at *;omega
 ·have hz:=PR p h
  simp only [cond_true,List.length_cons,List.length_nil]
  unfold wP
  rw [hz]
  simp only [cond_true]
  have:((3:Int) == 2)=false:=rfl
  simp only [this,cond_false]
  split <;> omega
theorem sm {α β:Type} (g:Nat→α→List β) (f:α→α) (w:α→Nat) (h:∀ i x,(g i x).length + w (f x)≤w x):∀ (xs:List α) (i:Nat),(bi g i xs).length + ((xs.map f).map w).sum≤(xs.map w).sum
 | [],_=>by simp [bi]
 | x :: xs,i=>by
  have h1:=sm g f w h xs (i + 1)
  have h2:=h i x
  simp only [bi,List.length_append,List.map_cons,List.sum_cons]
  omega
theorem D4 (s:ae.D):(eV s).2.1.length + sl (eV s).1≤sl s:=by
 unfold eV
 split
 ·have h1:=sm tI A0 wS Uo s.2.1 0
  have h2:=sm wV (t7 s.2.2.2.1) wP (Up _) s.1 0
  simp only [sl,List.length_append]
  omega
 ·simp
theorem QW {α:Type} (w:α→Nat) (k:Nat) (h:∀ x,w x≤k):∀ (xs:List α),(xs.map w).sum≤k * xs.length
 | []=>by simp
 | x :: xs=>by have h1:=QW w k h xs;have h2:=h x;simp only [List.map_cons,List.sum_cons,List.length_cons,Nat.mul_add];omega
theorem MR (s:ae.D):sl s≤s.2.1.length + 2 * s.1.length:=by
 have h1:=QW wS 1 (fun x=>by unfold wS;cases x.2.2.1 <;> simp) s.2.1
 have h2:=QW wP 2 (fun p=>by unfold wP;cases p.2.2.2.1 == 2 <;> simp only [cond_true,cond_false] <;> (try split) <;> omega) s.1
 unfold sl
 omega
theorem oM {s:ae.D} (h:bl s=true):s.1.length≤8∧s.2.1.length≤3:=by
 unfold bl at h
 simp only [Bool.and_eq_true] at h
 have h1:=of_decide_eq_true h.1.1.1.1.1
 have h2:=of_decide_eq_true h.1.1.1.1.2.2
 exact ⟨by omega,by omega⟩
theorem PU (s:ae.D) (hp:s.1.length≤33554432) (hs:s.2.1.length≤33554432) (u:ae.D) :
  ∃ r,al bF ([],0,u,s)=some r∧gT r.2.2 s∧r.1.length≤33554432:=by
 cases hok:bl s with
 | false =>
  refine ⟨([],0,s),aP ?_,⟨rfl,rfl⟩,by simp⟩
  unfold bF
  simp only [hZ s hp hs,Option.bind_some]
  have:(eV s).2.1=[]:=by unfold eV;rw [hok];rfl
  rw [this];rfl
 | true =>
  obtain ⟨l1,l2⟩:=oM hok
  have hw:=MR s
  obtain ⟨r,h1,h2⟩:=qW (body:=bF) (fun t=>sl t.2.2.2) (fun t=>gT t.2.2.2 s∧t.1.length + sl t.2.2.2≤sl s) (fun r=>gT r.2.2 s∧r.1.length≤33554432) (by
   rintro ⟨all,n,u,t⟩ ⟨⟨z1,z2⟩,z3⟩
   simp only at z1 z2 z3
   have hr:=D4 t
   have hz:=B4 t
   unfold bF
   simp only [hZ t (by omega) (by omega),Option.bind_some]
   by_cases hn:(eV t).2.1.length=0
   ·right
    have:(((eV t).2.1.length:Int) == 0)=true:=by rw [hn];rfl
    rw [this]
    exact ⟨_,rfl,⟨z1,z2⟩,by simp only;omega⟩
   ·left
    have:(((eV t).2.1.length:Int) == 0)=false:=by rw [beq_eq_false_iff_ne];omega
    rw [this]
    simp only [cond_false]
    rw [if_pos (by simp only [aC];omega)]
    refine ⟨_,rfl,⟨⟨hz.1.trans z1,hz.2.trans z2⟩,?_⟩,?_⟩
    ·simp only [List.length_append];omega
    ·simp only;omega) ([],0,u,s) ⟨⟨rfl,rfl⟩,by simp⟩
  exact ⟨r,h1,h2⟩
theorem PV (t:_) (hp:t.2.2.2.1.length≤33554432) (hs:t.2.2.2.2.1.length≤33554432):md t=bF t:=by
 unfold md bF
 rw [Ma _ hp hs,hZ _ hp hs]
theorem QX {S R:Type} {b1 b2:S→Option (S⊕R)} (I:S→Prop) (h:∀ s,I s→b1 s=b2 s) (hk:∀ s s',I s→b2 s=some (.inl s')→I s') {s:S} {r:R} (hI:I s) (hr:al b2 s=some r):al b1 s=some r:=by
 obtain ⟨n,hn⟩:=Bf hr
 refine tP (n:=n) ?_
 clear hr
 induction n generalizing s with
 | zero=>simp [al.iter] at hn
 | succ n ih =>
  simp only [al.iter] at hn ⊢
  rw [h s hI]
  cases hb:b2 s with
  | none=>rw [hb] at hn;cases hn
  | some x =>
   rw [hb,Option.bind_some] at hn
   rw [Option.bind_some]
   cases x with
   | inl s'=>exact ih (hk s s' hI hb) hn
   | inr q=>exact hn
theorem Sf (s:ae.D) (hp:s.1.length≤33554432) (hs:s.2.1.length≤33554432):∃ r,pf s=some r∧lx s=some r∧gT r.1 s∧r.2.1.length≤33554432:=by
 obtain ⟨r,h1,h2,h3⟩:=PU s hp hs ([],[],0,0,())
 have h4:al md ([],0,([],[],0,0,()),s)=some r:=by
  refine QX (b2:=bF) (fun t=>t.2.2.2.1.length≤33554432∧t.2.2.2.2.1.length≤33554432) (fun t h=>PV t h.1 h.2) ?_ ⟨hp,hs⟩ h1
  rintro ⟨all,n,u,t⟩ t' ⟨g1,g2⟩ hb
  simp only at g1 g2
  have hz:=B4 t
  unfold bF at hb
  simp only [hZ t g1 g2,Option.bind_some] at hb
  cases hc:(((eV t).2.1.length:Int) == 0) with
  | true=>rw [hc] at hb;simp at hb
  | false =>
   rw [hc] at hb
   simp only [cond_false] at hb
   split at hb
   ·simp only [Option.some.injEq,Sum.inl.injEq] at hb
    subst hb
    exact ⟨by simp only;rw [hz.1];exact g1,by simp only;rw [hz.2];exact g2⟩
   ·cases hb
 refine ⟨(r.2.2,r.1,r.2.1,()),?_,?_,h2,h3⟩
 ·unfold pf
  simp only [gM s hp hs,Option.bind_some,h4]
 ·unfold lx
  simp only [fz s hp hs,Option.bind_some,h1]
def B5 (a:Int) (_:Nat) (x:ah.D):List Int:=bif (x.2.2.2.1 == 2) && ((a == -1) || (x.2.2.1 == a)) then [x.1] else []
theorem QY (a:Int) (i:Nat) (x:ah.D):(B5 a i x).length≤1:=by unfold B5;cases ((x.2.2.2.1 == 2) && ((a == -1) || (x.2.2.1 == a))) <;> simp
theorem Hy (s:ae.D) (a:Int) (h:s.1.length≤33554432):qE s a=some (bi (B5 a) 0 s.1):=by
 unfold qE
 rw [cx s.1 (B5 a) (fun s=>s) (QY a) (by omega) (fun t i x hI hx=>?_) (fun t=>?_)]
 ·rfl
 ·have hlt:=(List.getElem?_eq_some_iff.1 hx).1
  have hil:((i:Int) < (s.1.length:Int)):=by omega
  unfold pV B5
  simp only [hil,decide_true,cond_true,ay hx]
  rw [if_pos (by simp only [aC,List.length_cons,List.length_nil];omega)]
  cases (x.2.2.2.1 == 2) <;> cases (a == -1) <;> cases (x.2.2.1 == a) <;> simp
 ·unfold pV;simp
def up (a b:Int):Int:=if (if b < a then b else a) > 0 then (if b < a then b else a) else 0
theorem mV (a b:Int):lr a b=some (up a b):=rfl
theorem jo (a b:Int) (hb:0≤b):eK a b=some (up a b):=by
 unfold eK up
 simp only [cond_eq_ite,decide_eq_true_eq]
 split <;> simp only [Option.bind_some] <;> (try split) <;> (try split) <;> (try split) <;> first | rfl | (congr 1;omega) | omega
theorem HL {a:Int} (h0:0≤a) (h1:a≤2147483647):up a 2147483647=a:=by unfold up;split <;> (try split) <;> omega
theorem t8 {v:ac.D} (h:aN v=true):0≤v.2.2.2.2.1∧v.2.2.2.2.1≤2147483647:=by
 unfold aN at h
 rw [Bool.and_eq_true,Bool.and_eq_true] at h
 exact ⟨of_decide_eq_true h.1.1,of_decide_eq_true h.1.2⟩
def Kx (v:ac.D):Int:=if v.1=1 then up v.2.2.2.2.1 2147483647 else 0
theorem iW {α β:Type} (f:α→β):∀ (xs:List α) (i:Nat),bi (fun _ x=>[f x]) i xs=xs.map f
 | [],_=>rfl
 | x :: xs,i=>by simp only [bi,List.map_cons,iW f xs (i + 1)];rfl
theorem ci (xs:List aa.D) (h:okD (.slice aa) xs):ck xs=some xs:=by
 have hl:xs.length≤33554432:=h.1
 unfold ck
 rw [cx xs (fun _ x=>[x]) (fun s=>s) (fun _ _=>by simp) (by omega) (fun t i x hI hx=>?_) (fun t=>?_)]
 ·rw [Option.bind_some,iW];simp
 ·have hlt:=(List.getElem?_eq_some_iff.1 hx).1
  have hil:((i:Int) < (xs.length:Int)):=by omega
  have hle:=(h.2 x (List.mem_of_getElem? hx)).2.2.2.2.2.2.1.2.2.2.2.2.2.1.1
  unfold pQ dM sQ
  simp only [hil,decide_true,cond_true,ay hx,List.nil_append]
  rw [if_pos (by simp only [aC,List.length_nil];omega)]
  simp only [Option.bind_some]
  rw [if_pos (by simp only [aC,List.length_cons,List.length_nil];omega)]
 ·unfold pQ;simp
theorem dA (xs:List aa.D) (h:okD (.slice aa) xs):bO xs=some xs:=by
 have hl:xs.length≤33554432:=h.1
 unfold bO
 rw [cx xs (fun _ x=>[x]) (fun s=>s) (fun _ _=>by simp) (by omega) (fun t i x hI hx=>?_) (fun t=>?_)]
 ·rw [Option.bind_some,iW];simp
 ·have hlt:=(List.getElem?_eq_some_iff.1 hx).1
  have hil:((i:Int) < (xs.length:Int)):=by omega
  have hle:=(h.2 x (List.mem_of_getElem? hx)).2.2.2.2.2.2.1.2.2.2.2.2.2.1.1
  unfold mh cL bd
  simp only [hil,decide_true,cond_true,ay hx,List.nil_append]
  rw [if_pos (by simp only [aC,List.length_nil];omega)]
  simp only [Option.bind_some]
  rw [if_pos (by simp only [aC,List.length_cons,List.length_nil];omega)]
 ·unfold mh;simp
def Ky (n:Int) (x:ac.D):ac.D:=bif (x.2.2.2.2.1 == (-1)) then (x.1,x.2.1,x.2.2.1,x.2.2.2.1,up n 2147483647,x.2.2.2.2.2) else x
theorem Mb (a:bg.D) (e:ac.D) (hk:a.1=9) (hl:a.2.2.2.2.2.2.1.length≤33554432):vX a e=some (a.2.2.2.2.2.2.1.map (Ky e.2.2.2.2.1)):=by
 unfold vX
 have:(a.1 != 9)=false:=by rw [hk];rfl
 rw [this,cond_false]
 rw [cx a.2.2.2.2.2.2.1 (fun _ x=>[Ky e.2.2.2.2.1 x]) (fun s=>s) (fun _ _=>by simp) (by omega) (fun t i x hI hx=>?_) (fun t=>?_)]
 ·rw [iW];rfl
 ·have hlt:=(List.getElem?_eq_some_iff.1 hx).1
  have hil:((i:Int) < (a.2.2.2.2.2.2.1.length:Int)):=by omega
  unfold tW Ky
  simp only [hil,decide_true,cond_true,ay hx,mV,Option.bind_some]
  cases (x.2.2.2.2.1 == -1)
  ·simp only [cond_false,Option.bind_some]
   rw [if_pos (by simp only [aC,List.length_cons,List.length_nil];omega)]
  ·simp only [cond_true,Option.bind_some]
   rw [if_pos (by simp only [aC,List.length_cons,List.length_nil];omega)]
 ·unfold tW;simp
theorem Mc (a:bg.D) (e:ac.D) (hk:a.1=9) (hl:a.2.2.2.2.2.2.1.length≤33554432):rG a e=some (a.2.2.2.2.2.2.1.map (Ky e.2.2.2.2.1)):=by
 unfold rG
 rw [cx a.2.2.2.2.2.2.1 (fun _ x=>[Ky e.2.2.2.2.1 x]) (fun s=>s) (fun _ _=>by simp) (by omega) (fun t i x hI hx=>?_) (fun t=>?_)]
 ·rw [iW];rfl
 ·have hlt:=(List.getElem?_eq_some_iff.1 hx).1
  have hil:((i:Int) < (a.2.2.2.2.2.2.1.length:Int)):=by omega
  have h9:(a.1 == 9)=true:=by rw [hk];rfl
  unfold tR Ky
  simp only [hil,decide_true,cond_true,h9,ay hx,jo _ 2147483647 (by decide),Option.bind_some]
  cases (x.2.2.2.2.1 == -1)
  ·simp only [cond_false,Option.bind_some]
   rw [if_pos (by simp only [aC,List.length_cons,List.length_nil];omega)]
  ·simp only [cond_true,Option.bind_some]
   rw [if_pos (by simp only [aC,List.length_cons,List.length_nil];omega)]
 ·unfold tR;simp
def D5 (e:ac.D):Bool:=(e.2.2.2.2.1 == 0) && (e.1 != 2)
theorem D6 (e:ac.D):uF e=some (D5 e):=by unfold uF D5;cases (e.2.2.2.2.1 == 0) <;> rfl
theorem D7 (e:ac.D):ux e=some (D5 e):=by unfold ux D5;cases (e.2.2.2.2.1 == 0) <;> rfl
def pD (e:ac.D):Bool:=aN e && !D5 e
theorem TE (L:List ac.D) (hl:L.length≤33554432):be L (fun q=>qI q.1)=some (L.filter pD,()):=by
 rw [ol L hl (fun e=>!pD e) _ (fun x=>by
  unfold qI pD
  simp only [bQ,D6,Option.bind_some]
  cases aN x <;> cases D5 x <;> rfl)]
 simp only [Bool.not_not]
theorem TF (o:(List ac.D)×Int) (hl:o.1.length≤33554432):al (oA o) ([],0)=some (o.1.filter pD,(o.1.length:Int)):=by
 rw [cx o.1 (fun _ x=>if pD x then [x] else []) (fun s=>s) (fun _ x=>by split <;> simp) (by omega) (fun t i x hI hx=>?_) (fun t=>?_)]
 ·rw [iE]
 ·have hlt:=(List.getElem?_eq_some_iff.1 hx).1
  have hil:((i:Int) < (o.1.length:Int)):=by omega
  unfold oA pD
  simp only [hil,decide_true,cond_true,ay hx,Int.toNat_natCast,hx,bB,D7,Option.bind_some]
  cases aN x <;> cases D5 x <;> simp only [cond_true,cond_false,Option.bind_some,Bool.not_true,Bool.not_false,Bool.and_true,Bool.and_false,Bool.false_and,Bool.true_and,if_true,if_false,List.append_nil,Bool.false_eq_true]
  rw [if_pos (by simp only [aC,List.length_cons,List.length_nil];omega)]
  rfl
 ·unfold oA;simp
theorem gN (x:aa.D) (hl:x.2.2.2.2.2.2.1.2.2.2.2.2.2.1.length≤33554432):cL x=some x:=by
 unfold cL bd
 rw [if_pos (by simp only [aC,List.length_nil];omega)]
 rfl
theorem eP (x:aa.D) (hl:x.2.2.2.2.2.2.1.2.2.2.2.2.2.1.length≤33554432):dM x=some x:=by
 unfold dM sQ
 rw [if_pos (by simp only [aC,List.length_nil];omega)]
 rfl
theorem A1 (e:ac.D) (n:Int):vW e n=some (e.1,e.2.1,e.2.2.1,e.2.2.2.1,up n 2147483647,e.2.2.2.2.2):=rfl
theorem A2 (e:ac.D) (n:Int):nK e n=some (e.1,e.2.1,e.2.2.1,e.2.2.2.1,up n 2147483647,e.2.2.2.2.2):=by
 unfold nK;rw [jo _ _ (by decide)];rfl
theorem Sg (a:bg.D) (n:Int):∃ m,tc a n=some m∧tx a n=some m:=by
 unfold tc tx Bo BE EK EX
 simp only [jo _ 2147483647 (by decide),mV,we,wh,t6,jT,Option.bind_some]
 cases (a.1 == 1) <;> cases (a.1 == 3) <;> cases (a.1 == 4) <;> cases (a.1 == 5) <;> exact ⟨_,rfl,rfl⟩
def sq (x:aa.D) (n:Int):aa.D :=
 bif x.2.2.2.2.2.2.1.1 == 2 then (x.1,x.2.1,x.2.2.1,x.2.2.2.1,x.2.2.2.2.1,x.2.2.2.2.2.1,x.2.2.2.2.2.2.1,x.2.2.2.2.2.2.2.1,up (AX x.2.2.2.2.2.2.2.2.1 n) 2147483647,())
 else bif decide (x.2.2.2.2.2.2.2.2.1 > 0) then (x.1,x.2.1,x.2.2.1,x.2.2.2.1,x.2.2.2.2.1,x.2.2.2.2.2.1,x.2.2.2.2.2.2.1,x.2.2.2.2.2.2.2.1,IntKind.wrap .i64 (x.2.2.2.2.2.2.2.2.1 - 1),())
 else x
theorem Me (x:aa.D) (n:Int) (hl:x.2.2.2.2.2.2.1.2.2.2.2.2.2.1.length≤33554432):vY x n=some (sq x n):=by
 unfold vY sq
 rw [gN x hl]
 simp only [wj,mV,Option.bind_some]
 cases (x.2.2.2.2.2.2.1.1 == 2) <;> cases decide (x.2.2.2.2.2.2.2.2.1 > 0) <;> rfl
theorem Mf (x:aa.D) (n:Int) (hl:x.2.2.2.2.2.2.1.2.2.2.2.2.2.1.length≤33554432):vM x n=some (sq x n):=by
 unfold vM sq
 rw [eP x hl]
 simp only [wi,jo _ 2147483647 (by decide),Option.bind_some]
 cases (x.2.2.2.2.2.2.1.1 == 2) <;> cases decide (x.2.2.2.2.2.2.2.2.1 > 0) <;> rfl
theorem wn (x:aa.D) (hl:x.2.2.2.2.2.2.1.2.2.2.2.2.2.1.length≤33554432) (h:aR x=true) :
  eN x.2.2.2.2.2.2.1=some true∧(x.2.2.2.2.2.2.1.1=2→0≤x.2.2.2.2.2.2.2.2.1)∧x.2.2.2.2.2.2.2.2.1≤2147483647:=by
 have h':=dJ x hl
 rw [h] at h'
 obtain ⟨b1,p1,q1⟩:=zt x.2.2.2.2.1
 obtain ⟨b2,p2,q2⟩:=si x.2.2.2.2.2.1
 obtain ⟨b3,p3,q3⟩:=DX x.2.2.2.2.2.2.1 hl
 obtain ⟨b4,p4,q4⟩:=sh x.2.2.2.2.2.2.1 x.2.2.2.2.1.1
 unfold cJ dq bk at h'
 simp only [q1,q2,q3,q4,dn,Option.bind_some] at h'
 simp only [cond_eq_ite,ra,Option.bind_some] at h'
 have h':=Option.some.inj h'
 rw [q3]
 clear p1 p2 p3 p4 q1 q2 q3 q4 hl h
 generalize x.2.2.2.2.2.2.1.1=ak at *
 generalize x.1=i at *
 generalize x.2.1=ow at *
 generalize x.2.2.1=so at *
 generalize x.2.2.2.1=du at *
 generalize x.2.2.2.2.2.2.2.1=co at *
 generalize x.2.2.2.2.2.2.2.2.1=on at *
 simp at h'
 grind
theorem U3 (n p s z:Int) (bt:Bool) (L:List ac.D) (u:Unit) (h:eN (6,n,p,s,z,bt,L,u)=some true):(1≤p∧p≤99∧s=-1)∨(p=0∧0≤s∧s≤2):=by
 unfold eN dq bk at h
 simp only [dn,Option.bind_some,bne] at h
 simp only [Int.reduceBEq,beq_self_eq_true,cond_true,cond_false,Option.bind_some,Bool.not_true,Bool.not_false] at h
 have key:((decide (1≤p) && decide (p≤99)) && (s == -1) || (p == 0) && (decide (0≤s) && decide (s≤2)))=true:=by
  revert h
  generalize (decide (1≤p) && decide (p≤99))=c1
  generalize (s == -1)=c2
  generalize (p == 0)=c3
  generalize (decide (0≤s) && decide (s≤2))=c4
  generalize (n == 0)=c5
  generalize (z == 0)=c6
  generalize decide ((L.length:Int) > 0)=c7
  cases c1 <;> cases c2 <;> cases c3 <;> cases c4 <;> cases c5 <;> cases c6 <;> cases c7 <;> cases bt <;> decide
 simp at key
 omega
theorem U4 (n p s z:Int) (bt:Bool) (L:List ac.D) (u:Unit) (hl:L.length≤33554432) (h:eN (9,n,p,s,z,bt,L,u)=some true):L.length≤3:=by
 have hC:aK L (fun q=>jd q.1)=some (L.any (fun e=>!kI e)):=mU L hl (fun e=>!kI e) _ (fun x=>by simp only [jd,zr,Option.bind_some])
 unfold eN at h
 simp only [hC,dn,Option.bind_some,bne] at h
 simp only [Int.reduceBEq,beq_self_eq_true,cond_true,cond_false,Option.bind_some,Bool.not_true,Bool.not_false] at h
 have key:(decide (1≤(L.length:Int)) && decide ((L.length:Int)≤3))=true:=by
  revert h
  generalize (decide (1≤(L.length:Int)) && decide ((L.length:Int)≤3))=c1
  generalize (s == -1)=c2
  generalize (p == 0)=c3
  generalize L.any (fun e=>!kI e)=c4
  generalize (n == 0)=c5
  generalize (z == 0)=c6
  generalize decide ((L.length:Int) > 0)=c7
  cases c1 <;> cases c2 <;> cases c3 <;> cases c4 <;> cases c5 <;> cases c6 <;> cases c7 <;> cases bt <;> decide
 simp at key
 omega
theorem UB (a:bg.D) (k:Int) (hk:a.1=2∨a.1=6) (h:dg a k=some true):k=1:=by
 unfold dg lm at h
 simp only [dn,Option.bind_some] at h
 rcases hk with hk | hk <;> rw [hk] at h <;> revert h <;> generalize (decide (1≤k) && decide (k≤6))=m <;> cases m <;> simp
theorem Rz (e:ac.D) (hk:e.1=1) (he:aN e=true):(([e].filter pD).map Kx).sum=e.2.2.2.2.1:=by
 have hn:=t8 he
 have hk2:(e.1 != 2)=true:=by rw [hk];rfl
 unfold pD D5
 by_cases h0:e.2.2.2.2.1=0
 ·simp [List.filter,he,h0,hk2]
 ·have:(e.2.2.2.2.1 == 0)=false:=by rw [beq_eq_false_iff_ne];exact h0
  simp only [List.filter,he,this,Bool.false_and,Bool.not_false,Bool.and_self,List.map_cons,List.map_nil,List.sum_cons,List.sum_nil]
  unfold Kx
  rw [if_pos hk,HL hn.1 hn.2]
  omega
theorem UW {a b:Int} (h0:0≤a) (h1:0≤b):0≤up a b∧up a b≤a∧up a b≤b:=by unfold up;split <;> (try split) <;> omega
noncomputable def zU (x:aa.D) (e:ac.D):Option ((List ac.D)×Int):=((bif (x.2.2.2.2.2.2.1.1 == 1) then (
((bif (e.1 == 1) then (
 some e.2.2.2.2.1)
 else (
 some 0)):Option Int).bind fun o6 =>
 some ([],o6))
 else (
((bif (x.2.2.2.2.2.2.1.1 == 2) then (
(eK e.2.2.2.2.1 x.2.2.2.2.2.2.2.2.1).bind fun y7 =>
(nK e (IntKind.wrap .i64 (e.2.2.2.2.1 - y7))).bind fun y8 =>
 if (([]:List ac.D).length + [y8].length) * (24 * 7)≤aC then (
 some (([]++[y8]),y7)) else none)
 else (
((bif (x.2.2.2.2.2.2.1.1 == 9) then (
(rG x.2.2.2.2.2.2.1 e).bind fun y9 =>
 some y9)
 else (
(td x.2.2.2.2.2.2.1 e).bind fun y10 =>
 if (([]:List ac.D).length + [y10].length) * (24 * 7)≤aC then (
 some ([]++[y10])) else none)):Option (List ac.D)).bind fun o11 =>
 some (o11,0))):Option ((List ac.D)×Int)).bind fun o12 =>
 some o12)):Option ((List ac.D)×Int))
theorem Sh (i ow so du:Int) (pat:cn.D) (gd:bc.D) (k an ap asd az:Int) (ab:Bool) (aL:List ac.D) (u1:Unit) (co lf:Int) (u2:Unit) (ek es ep ed en ez:Int) (eb:Bool) (eu:Unit) (hl:aL.length≤33554432) (hok:aR (i,ow,so,du,pat,gd,(k,an,ap,asd,az,ab,aL,u1),co,lf,u2)=true) (hev:aN (ek,es,ep,ed,en,ez,eb,eu)=true) (hft:dg (k,an,ap,asd,az,ab,aL,u1) ek=some true) :
  ∃ L n,rQ (i,ow,so,du,pat,gd,(k,an,ap,asd,az,ab,aL,u1),co,lf,u2) (ek,es,ep,ed,en,ez,eb,eu)=some (L,n,())∧zU (i,ow,so,du,pat,gd,(k,an,ap,asd,az,ab,aL,u1),co,lf,u2) (ek,es,ep,ed,en,ez,eb,eu)=some (L,n)∧L.length≤3∧0≤n∧n≤en ∧
   (k=1→L=[])∧(k=2→n≤lf∧((L.filter pD).map Kx).sum=en - n)∧(k=6→((L.filter pD).map Kx).sum=en):=by
 obtain ⟨f1,f2,f3⟩:=wn (i,ow,so,du,pat,gd,(k,an,ap,asd,az,ab,aL,u1),co,lf,u2) hl hok
 have f2:k=2→0≤lf:=f2
 have f3:lf≤2147483647:=f3
 have hn:0≤en∧en≤2147483647:=t8 hev
 have rm:(([]:List ac.D).length + 1) * (24 * 7)≤aC:=by simp only [aC,List.length_nil];omega
 unfold rQ zU
 by_cases h1:k=1
 ·subst h1
  by_cases he:ek=1
  ·subst he
   exact ⟨[],en,rfl,rfl,by simp,hn.1,Int.le_refl _,fun _=>rfl,fun h=>absurd h (by decide),fun h=>absurd h (by decide)⟩
  ·have he':(ek == 1)=false:=by rw [beq_eq_false_iff_ne];exact he
   refine ⟨[],0,by simp only [he'];rfl,by simp only [he'];rfl,by simp,Int.le_refl _,hn.1,fun _=>rfl,fun h=>absurd h (by decide),fun h=>absurd h (by decide)⟩
 by_cases h2:k=2
 ·subst h2
  have hk:=UB _ ek (.inl rfl) hft
  subst hk
  have f2:=f2 rfl
  obtain ⟨v1,v2,v3⟩:=UW hn.1 f2
  have hw:IntKind.wrap .i64 (en - up en lf)=en - up en lf:=aB (by omega) (by omega)
  have hup:up (en - up en lf) 2147483647=en - up en lf:=HL (by omega) (by omega)
  refine ⟨[(1,es,ep,ed,en - up en lf,ez,eb,eu)],up en lf,?_,?_,by simp,v1,v2,fun h=>absurd h (by decide),fun _=>⟨v3,?_⟩,fun h=>absurd h (by decide)⟩
  ·simp only [mV,A1,Option.bind_some,hw,hup];rfl
  ·simp only [jo _ _ f2,A2,Option.bind_some,hw,hup]
   rw [if_pos (by simp only [aC,List.length_cons,List.length_nil];omega)]
   rfl
  ·rw [Rz _ rfl]
   unfold aN at hev ⊢
   simp at hev ⊢
   grind
 have hend:∀ L n,(∃ y,L=[y]∧n=(0:Int)∧(k=6→(([y].filter pD).map Kx).sum=en))→L.length≤3∧0≤n∧n≤en∧(k=1→L=[])∧(k=2→n≤lf∧((L.filter pD).map Kx).sum=en - n)∧(k=6→((L.filter pD).map Kx).sum=en):=by
  rintro L n ⟨y,rfl,rfl,hy⟩
  exact ⟨by simp,Int.le_refl _,hn.1,fun h=>absurd h h1,fun h=>absurd h h2,hy⟩
 by_cases h9:k=9
 ·subst h9
  have hL:=U4 an ap asd az ab aL u1 hl f1
  refine ⟨aL.map (Ky en),0,?_,?_,by rw [List.length_map];exact hL,Int.le_refl _,hn.1,fun h=>absurd h (by decide),fun h=>absurd h (by decide),fun h=>absurd h (by decide)⟩
  ·rw [Mb _ _ rfl hl];rfl
  ·rw [Mc _ _ rfl hl];rfl
 unfold td
 have e1:=jC h1
 have e2:=jC h2
 have e9:=jC h9
 have rm1:∀ y:ac.D,(([]:List ac.D).length + [y].length) * (24 * 7)≤aC:=fun y=>by simp only [aC,List.length_cons,List.length_nil];omega
 simp only [e1,e2,e9,cond_false,rm1,if_true]
 by_cases h345:k=3∨k=4∨k=5
 ·obtain ⟨m,m1,m2⟩:=Sg (k,an,ap,asd,az,ab,aL,u1) en
  have hd:=hend [(ek,es,ep,ed,up m 2147483647,ez,eb,eu)] 0 ⟨_,rfl,rfl,fun h=>by omega⟩
  refine ⟨[(ek,es,ep,ed,up m 2147483647,ez,eb,eu)],0,?_,?_,hd⟩
  ·rcases h345 with rfl | rfl | rfl <;> (simp only [m2,A1,Option.bind_some];rfl)
  ·rcases h345 with rfl | rfl | rfl <;> (simp only [m1,A2,Option.bind_some];rfl)
 have e3:=jC (show ¬ k=3 by omega)
 have e4:=jC (show ¬ k=4 by omega)
 have e5:=jC (show ¬ k=5 by omega)
 simp only [e3,e4,e5,cond_false,Option.bind_some]
 by_cases h6:k=6
 ·subst h6
  have hk:=UB _ ek (.inr rfl) hft
  subst hk
  have ha:=U3 an ap asd az ab aL u1 f1
  have hd:=hend [(1,es,ap,asd,en,ez,eb,eu)] 0 ⟨_,rfl,rfl,fun _=>by
   rw [Rz _ rfl]
   unfold aN at hev ⊢
   simp at hev ⊢
   grind⟩
  exact ⟨_,_,rfl,rfl,hd⟩
 have e6:=jC h6
 simp only [e6,cond_false]
 have hd:∀ y:ac.D,_:=fun y=>hend [y] 0 ⟨y,rfl,rfl,fun h=>absurd h h6⟩
 cases e7:(k == 7) with
 | true =>
  cases e72:(az != 2) with
  | true=>exact ⟨_,_,rfl,rfl,hd _⟩
  | false=>exact ⟨_,_,rfl,rfl,hd _⟩
 | false =>
  simp only [cond_false]
  cases e8:(k == 8) with
  | true =>
   simp only [jo _ 99 (by decide),mV,Option.bind_some]
   cases (ez == 2) with
   | true =>
    cases eb with
    | true=>exact ⟨_,_,rfl,rfl,hd _⟩
    | false=>exact ⟨_,_,rfl,rfl,hd _⟩
   | false=>exact ⟨_,_,rfl,rfl,hd _⟩
  | false=>exact ⟨_,_,rfl,rfl,hd _⟩
theorem TG (x:aa.D) (e:ac.D) (hl:x.2.2.2.2.2.2.1.2.2.2.2.2.2.1.length≤33554432) (hok:aR x=true) (hev:aN e=true) (hft:dg x.2.2.2.2.2.2.1 e.1=some true) :
  ∃ L n,rQ x e=some (L,n,())∧zU x e=some (L,n)∧L.length≤3∧0≤n∧n≤(e.2.2.2.2.1:Int) ∧
   ((x.2.2.2.2.2.2.1.1:Int)=1→L=[])∧((x.2.2.2.2.2.2.1.1:Int)=2→n≤(x.2.2.2.2.2.2.2.2.1:Int)∧((L.filter pD).map Kx).sum=(e.2.2.2.2.1:Int) - n)∧((x.2.2.2.2.2.2.1.1:Int)=6→((L.filter pD).map Kx).sum=(e.2.2.2.2.1:Int)) :=
 Sh x.1 x.2.1 x.2.2.1 x.2.2.2.1 x.2.2.2.2.1 x.2.2.2.2.2.1 x.2.2.2.2.2.2.1.1 x.2.2.2.2.2.2.1.2.1 x.2.2.2.2.2.2.1.2.2.1 x.2.2.2.2.2.2.1.2.2.2.1 x.2.2.2.2.2.2.1.2.2.2.2.1 x.2.2.2.2.2.2.1.2.2.2.2.2.1 x.2.2.2.2.2.2.1.2.2.2.2.2.2.1 x.2.2.2.2.2.2.1.2.2.2.2.2.2.2 x.2.2.2.2.2.2.2.1 x.2.2.2.2.2.2.2.2.1 x.2.2.2.2.2.2.2.2.2 e.1 e.2.1 e.2.2.1 e.2.2.2.1 e.2.2.2.2.1 e.2.2.2.2.2.1 e.2.2.2.2.2.2.1 e.2.2.2.2.2.2.2 hl hok hev hft
theorem A3 (i ow so du:Int) (pat:cn.D) (gd:bc.D) (act:bg.D) (co lf lf':Int) (u:Unit) (hl:act.2.2.2.2.2.2.1.length≤33554432) (h:aR (i,ow,so,du,pat,gd,act,co,lf,u)=true) (h2:act.1=2→0≤lf') (h3:-1≤lf') (h4:lf'≤2147483647):aR (i,ow,so,du,pat,gd,act,co,lf',u)=true:=by
 have h':=dJ (i,ow,so,du,pat,gd,act,co,lf,u) hl
 have g:=dJ (i,ow,so,du,pat,gd,act,co,lf',u) hl
 rw [h] at h'
 obtain ⟨b1,p1,q1⟩:=zt pat
 obtain ⟨b2,p2,q2⟩:=si gd
 obtain ⟨b3,p3,q3⟩:=DX act hl
 obtain ⟨b4,p4,q4⟩:=sh act pat.1
 unfold cJ dq bk at h' g
 simp only [q1,q2,q3,q4,dn,Option.bind_some] at h' g
 simp only [cond_eq_ite,ra,Option.bind_some] at h' g
 have h':=Option.some.inj h'
 have g:=Option.some.inj g
 rw [← g]
 clear g p1 p2 p3 p4 q1 q2 q3 q4 hl h
 generalize act.1=ak at *
 simp at h' ⊢
 grind
theorem Si (i ow so du:Int) (pat:cn.D) (gd:bc.D) (act:bg.D) (co lf:Int) (u:Unit) (n k:Int) (hk0:act.1=k) (hl:act.2.2.2.2.2.2.1.length≤33554432) (h:aR (i,ow,so,du,pat,gd,act,co,lf,u)=true) (h0:0≤n) (h2:k=2→n≤lf):aR (sq (i,ow,so,du,pat,gd,act,co,lf,u) n)=true:=by
 obtain ⟨f1,f2,f3⟩:=wn (i,ow,so,du,pat,gd,act,co,lf,u) hl h
 have f2:k=2→0≤lf:=fun h=>f2 (hk0.trans h)
 have f3:lf≤2147483647:=f3
 unfold sq
 simp only [hk0]
 by_cases hk:k=2
 ·have e2:(k == 2)=true:=by rw [hk];rfl
  have f2:=f2 hk
  have h2:=h2 hk
  have e:AX lf n=lf - n:=by
   unfold AX
   rw [rb (n:=n) (by omega) (by omega),rb (n:=lf) (by omega) (by omega),aB (by omega) (by omega),rb (by omega) (by omega)]
  rw [e2,e,HL (by omega) (by omega)]
  exact A3 i ow so du pat gd act co lf (lf - n) () hl h (fun _=>by omega) (by omega) (by omega)
 ·have e2:(k == 2)=false:=by rw [beq_eq_false_iff_ne];exact hk
  rw [e2]
  by_cases hp:lf > 0
  ·have hp':decide (lf > 0)=true:=decide_eq_true hp
   rw [hp',aB (by omega) (by omega)]
   exact A3 i ow so du pat gd act co lf (lf - 1) () hl h (fun h=>absurd (hk0.symm.trans h) hk) (by omega) (by omega)
  ·have hp':decide (lf > 0)=false:=decide_eq_false hp
   rw [hp']
   exact h
theorem TH (x:aa.D) (n:Int) (hl:x.2.2.2.2.2.2.1.2.2.2.2.2.2.1.length≤33554432) (h:aR x=true) (h0:0≤n) (h2:(x.2.2.2.2.2.2.1.1:Int)=2→n≤(x.2.2.2.2.2.2.2.2.1:Int)):aR (sq x n)=true :=
 Si x.1 x.2.1 x.2.2.1 x.2.2.2.1 x.2.2.2.2.1 x.2.2.2.2.2.1 x.2.2.2.2.2.2.1 x.2.2.2.2.2.2.2.1 x.2.2.2.2.2.2.2.2.1 x.2.2.2.2.2.2.2.2.2 n x.2.2.2.2.2.2.1.1 rfl hl h h0 h2
theorem TJ (x:aa.D) (e:ac.D) (hl:x.2.2.2.2.2.2.1.2.2.2.2.2.2.1.length≤33554432) :
  ∃ L n y,vZ x e=some (L,n,y,())∧vN x e=some (L,n,y,())∧(y.2.2.2.2.2.2.1.2.2.2.2.2.2.1.length≤33554432∧L.length≤3∧y.1=x.1∧(aR x=true→aR y=true))∧∃ b,dg x.2.2.2.2.2.2.1 e.1=some b ∧
   (((!aR x || !aN e) || !b)=true→L=[e]∧n=0)∧(((!aR x || !aN e) || !b)=false →
    (∀ v∈L,pD v=true)∧0≤n∧n≤e.2.2.2.2.1∧(x.2.2.2.2.2.2.1.1=1→L=[])∧(x.2.2.2.2.2.2.1.1=2→y.2.2.2.2.2.2.2.2.1=x.2.2.2.2.2.2.2.2.1 - n∧(-2147483647≤x.2.2.2.2.2.2.2.2.1 - n∧x.2.2.2.2.2.2.2.2.1 - n≤2147483647)∧(L.map Kx).sum=e.2.2.2.2.1 - n)∧(x.2.2.2.2.2.2.1.1=6→(L.map Kx).sum=e.2.2.2.2.1)∧e.2.2.2.2.1≤2147483647):=by
 obtain ⟨b,p4,q4⟩:=sh x.2.2.2.2.2.2.1 e.1
 unfold vZ vN
 simp only [dJ x hl,oh x hl,bQ,bB,p4,q4,Option.bind_some]
 by_cases hb:((!aR x || !aN e) || !b)=true
 ·refine ⟨[e],0,x,?_,?_,⟨hl,by simp,rfl,id⟩,b,rfl,fun _=>⟨rfl,rfl⟩,fun h=>?_⟩
  ·revert hb;cases aR x <;> cases aN e <;> cases b <;> intro hb <;> first | (simp at hb;done) | (simp only [gN x hl,cond_true,cond_false,Option.bind_some,Bool.not_true,Bool.not_false])
  ·revert hb;cases aR x <;> cases aN e <;> cases b <;> intro hb <;> first | (simp at hb;done) | (simp only [eP x hl,cond_true,cond_false,Option.bind_some,Bool.not_true,Bool.not_false])
  ·rw [hb] at h;cases h
 ·have hb':((!aR x || !aN e) || !b)=false:=by simpa using hb
  rw [Bool.or_eq_false_iff,Bool.or_eq_false_iff] at hb'
  obtain ⟨⟨g1,g2⟩,g3⟩:=hb'
  have g1:aR x=true:=by simpa using g1
  have g2:aN e=true:=by simpa using g2
  have g3:b=true:=by simpa using g3
  subst g3
  obtain ⟨f1,f2,f3⟩:=wn x hl g1
  obtain ⟨L,n,a1,a2,a3,a4,a5,a6,a7,a8⟩:=TG x e hl g1 g2 q4
  have hn:=t8 g2
  have hL:L.length≤33554432:=by omega
  refine ⟨L.filter pD,n,sq x n,?_,?_,⟨?_,Nat.le_trans (List.length_filter_le _ _) a3,by unfold sq;cases (x.2.2.2.2.2.2.1.1 == 2) <;> cases decide (x.2.2.2.2.2.2.2.2.1 > 0) <;> rfl,fun _=>TH x n hl g1 a4 fun h=>(a7 h).1⟩,true,rfl,fun h=>absurd h hb,fun _=>⟨fun v hv=>(List.mem_filter.1 hv).2,a4,a5,fun h=>by rw [a6 h];rfl,fun h=>?_,a8,hn.2⟩⟩
  ·simp only [g1,g2,a1,TE L hL,Me x n hl,cond_true,cond_false,Option.bind_some,Bool.not_true]
  ·simp only [g1,g2,cond_true,cond_false,Option.bind_some,Bool.not_true]
   have a2':=a2
   unfold zU at a2'
   rw [a2',Option.bind_some,TF (L,n) hL,Option.bind_some,Mf x n hl]
   rfl
  ·unfold sq
   cases (x.2.2.2.2.2.2.1.1 == 2) <;> cases decide (x.2.2.2.2.2.2.2.2.1 > 0) <;> exact hl
  ·obtain ⟨a7,a9⟩:=a7 h
   obtain ⟨lf,hlf⟩:∃ lf:Int,lf=x.2.2.2.2.2.2.2.2.1:=⟨_,rfl⟩
   have f2:0≤lf:=by rw [hlf];exact f2 h
   have f3:lf≤2147483647:=by rw [hlf];exact f3
   have a7:n≤lf:=by rw [hlf];exact a7
   rw [← hlf]
   have h2:(x.2.2.2.2.2.2.1.1 == 2)=true:=by rw [h];rfl
   refine ⟨?_,⟨(by show (-2147483647:Int)≤lf - n;omega),(by show lf - n≤(2147483647:Int);omega)⟩,a9⟩
   unfold sq
   rw [h2]
   simp only [cond_true]
   have:AX lf n=lf - n:=by
    unfold AX
    rw [rb (n:=n) (by omega) (by omega),rb (n:=lf) (by omega) (by omega),aB (by omega) (by omega),rb (by omega) (by omega)]
   rw [← hlf,this,HL (by omega) (by omega)]
def zu (a n:Int) (i:Nat) (_:ar.D):List Int:=[(IntKind.wrap .i64 (a + (i:Int))).tmod n]
theorem FD (a n:Int) (i:Nat) (x:ar.D):(zu a n i x).length≤1:=by simp [zu]
def dp (s:ae.D):List Int:=if (decide (0≤s.2.2.1) && decide (s.2.2.1≤IntKind.wrap .i64 ((s.2.1.length:Int) - 1)))=true then bi (zu s.2.2.1 s.2.1.length) 0 s.2.1 else []
theorem QZ (s:ae.D):(dp s).length≤s.2.1.length:=by
 unfold dp
 split
 ·exact lh _ (FD _ _) _ _
 ·simp
theorem tJ (s:ae.D) (h:s.2.1.length≤33554432):fZ s=some (dp s):=by
 unfold dp
 by_cases hin:(decide (0≤s.2.2.1) && decide (s.2.2.1≤IntKind.wrap .i64 ((s.2.1.length:Int) - 1)))=true
 ·rw [if_pos hin]
  unfold fZ
  rw [cx s.2.1 (zu s.2.2.1 s.2.1.length) (fun s=>s) (FD _ _) (by omega) (fun t i x hI hx=>?_) (fun t=>?_)]
  ·rfl
  ·have hlt:=(List.getElem?_eq_some_iff.1 hx).1
   have hil:((i:Int) < (s.2.1.length:Int)):=by omega
   unfold ib zu
   simp only [hil,decide_true,cond_true,gL,hin,Option.bind_some]
   rw [if_neg (by omega),if_pos (by simp only [aC,List.length_cons,List.length_nil];omega)]
  ·unfold ib;simp
 ·rw [if_neg hin]
  have hin:(decide (0≤s.2.2.1) && decide (s.2.2.1≤IntKind.wrap .i64 ((s.2.1.length:Int) - 1)))=false:=by simpa using hin
  unfold fZ
  rw [aP (r:=([],0)) (by unfold ib;simp only [gL,hin,Option.bind_some];cases decide ((0:Int) < (s.2.1.length:Int)) <;> rfl)]
  rfl
theorem tK (s:ae.D) (h:s.2.1.length≤33554432):gh s=some (dp s):=by
 unfold dp
 by_cases hin:(decide (0≤s.2.2.1) && decide (s.2.2.1≤IntKind.wrap .i64 ((s.2.1.length:Int) - 1)))=true
 ·rw [if_pos hin]
  unfold gh aQ
  simp only [dn,hin,Option.bind_some,Bool.not_true,cond_false]
  rw [cx s.2.1 (zu s.2.2.1 s.2.1.length) (fun s=>s) (FD _ _) (by omega) (fun t i x hI hx=>?_) (fun t=>?_)]
  ·rfl
  ·have hlt:=(List.getElem?_eq_some_iff.1 hx).1
   have hil:((i:Int) < (s.2.1.length:Int)):=by omega
   unfold mA zu
   simp only [hil,decide_true,cond_true]
   rw [if_neg (by omega),if_pos (by simp only [aC,List.length_cons,List.length_nil];omega)]
  ·unfold mA;simp
 ·rw [if_neg hin]
  have hin:(decide (0≤s.2.2.1) && decide (s.2.2.1≤IntKind.wrap .i64 ((s.2.1.length:Int) - 1)))=false:=by simpa using hin
  unfold gh aQ
  simp only [dn,hin,Option.bind_some,Bool.not_false,cond_true]
theorem PW {m n:Int} (h0:0≤m) (h1:m < 2 * n):m.tmod n=if m < n then m else m - n:=by
 split
 ·exact Int.tmod_eq_of_lt h0 (by assumption)
 ·rename_i h
  rw [Int.tmod_eq_emod_of_nonneg h0,← Int.sub_emod_right,Int.emod_eq_of_lt (by omega) (by omega)]
theorem PX {a n:Int}:∀ (xs:List ar.D) (i:Nat) (x:Int),x∈bi (zu a n) i xs→∃ j:Nat,i≤j∧j < i + xs.length∧x=(IntKind.wrap .i64 (a + (j:Int))).tmod n
 | [],i,x,h=>by simp [bi] at h
 | y :: xs,i,x,h=>by
  simp only [bi,zu,List.mem_append,List.mem_singleton] at h
  rcases h with rfl | h
  ·exact ⟨i,Nat.le_refl _,by simp,rfl⟩
  ·obtain ⟨j,h1,h2,h3⟩:=PX xs (i + 1) x h
   exact ⟨j,by omega,by simp;omega,h3⟩
theorem Kz {a:Int} {n:Nat} (h0:0≤a) (h1:a < n) (hn:n≤33554432):∀ (xs:List ar.D) (i:Nat),i + xs.length≤n→(bi (zu a n) i xs).Nodup
 | [],i,_=>by simp [bi]
 | y :: xs,i,h=>by
  simp only [List.length_cons] at h
  simp only [bi,zu,List.singleton_append,List.nodup_cons]
  refine ⟨fun hm=>?_,Kz h0 h1 hn xs (i + 1) (by omega)⟩
  obtain ⟨j,g1,g2,g3⟩:=PX xs (i + 1) _ hm
  rw [aB (by omega) (by omega),aB (by omega) (by omega),PW (by omega) (by omega),PW (by omega) (by omega)] at g3
  split at g3 <;> split at g3 <;> omega
theorem Oi (s:ae.D) (h:s.2.1.length≤33554432):(dp s).Nodup:=by
 unfold dp
 split
 ·rename_i hin
  simp only [Bool.and_eq_true,decide_eq_true_eq] at hin
  rw [aB (by omega) (by omega)] at hin
  have key:∀ a:Int,a≤(s.2.1.length:Int) - 1→a < s.2.1.length:=fun a h=>by omega
  exact Kz hin.1 (key _ hin.2) h _ _ (by omega)
 ·simp
theorem Mg (xs:List af.D) (hl:xs.length≤33554432) (p:af.D→Bool) (q:(af.D×Unit)→Option Bool) (hq:∀ x,q (x,())=some (p x)) :
  cE xs q=some (match bD p xs with | some k=>(k:Int) | none=>-1):=by
 unfold cE
 rw [dH xs (body:=bY xs q) p (fun i=>i) (by omega) (fun i x hx=>?_) ?_]
 ·cases bD p xs <;> rfl
 ·unfold bY
  simp
 ·unfold bY
  have hlt:=(List.getElem?_eq_some_iff.1 hx).1
  have:((i:Int) < (xs.length:Int)):=by omega
  simp only [this,decide_true,cond_true,ay hx,hq,Option.bind_some]
theorem su (xs:List af.D) (hl:xs.length≤33554432) (p:af.D→Bool) (q:(af.D×Unit)→Option Bool) (hq:∀ x,q (x,())=some (p x)) :
  bG xs q=some (xs.filter (fun x=>!p x),()):=by
 unfold bG
 rw [Mg xs hl p q hq,Option.bind_some]
 obtain ⟨h1,h2⟩:=ee p xs
 cases hf:bD p xs with
 | none =>
  have:xs.filter (fun x=>!p x)=xs:=by rw [List.filter_eq_self];intro x hx;simp [h1 hf x hx]
  rw [this];rfl
 | some k =>
  obtain ⟨x,g1,g2,g3⟩:=h2 k hf
  have hk:=(List.getElem?_eq_some_iff.1 g1).1
  have n1:((k:Int) == -1)=false:=by simp
  simp only [n1,cond_false]
  rw [aB (by omega) (by omega)]
  obtain ⟨ys,m,e1,e2,e3,e4⟩:∃ (ys:List af.D) (m:Nat),al (br q) (xs,(k:Int),(k:Int) + 1)=some (ys,(m:Int),(xs.length:Int))∧ys.length=xs.length∧m≤xs.length∧ys.take m=xs.filter (fun x=>!p x):=by
   refine F3 xs (body:=br q) p (fun s=>s) (by omega) (fun ys i j x hx hij hl'=>?_) (fun ys i hl'=>?_) k x g1 g2 g3
   ·have hlt:=(List.getElem?_eq_some_iff.1 hx).1
    have hil:((j:Int) < (ys.length:Int)):=by omega
    obtain ⟨y,hy⟩:∃ y,ys[i]?=some y:=⟨_,List.getElem?_eq_getElem (by omega)⟩
    unfold br
    simp (disch:=omega) only [hil,decide_true,cond_true,Int.toNat_natCast,ay hx,hx,hq,Option.bind_some,ay hy,hy,aB]
    cases p x <;> rfl
   ·unfold br
    have:¬ ((xs.length:Int) < (ys.length:Int)):=by omega
    simp only [this,decide_false,cond_false]
  rw [e1,Option.bind_some]
  have t1:0≤(m:Int):=by omega
  have t2:(m:Int)≤(ys.length:Int):=by omega
  simp only [t1,t2,if_true,Int.le_refl,Int.toNat_natCast]
  have z1:m≤ys.length:=by omega
  rw [if_pos (by simp only [List.length_append,List.length_take,List.length_replicate,List.length_drop];omega)]
  have:∀ (zs:List af.D),(ys.take m++zs).take m=ys.take m:=fun zs=>by rw [List.take_append_of_le_length (by simp;omega),List.take_take,Nat.min_self]
  rw [List.append_assoc,this,e4]
  simp
theorem B6 (xs:List af.D) (a:Int) (h:xs.length≤33554432):ko xs a=some (xs.filter fun x=>x.2.1 == a):=by
 unfold ko
 rw [cx xs (fun _ x=>if x.2.1 == a then [x] else []) (fun s=>s) (fun _ x=>by split <;> simp) (by omega) (fun t i x hI hx=>?_) (fun t=>?_)]
 ·rw [Option.bind_some,iE]
 ·have hlt:=(List.getElem?_eq_some_iff.1 hx).1
  have hil:((i:Int) < (xs.length:Int)):=by omega
  unfold kS
  simp only [hil,decide_true,cond_true,ay hx]
  rw [if_pos (by simp only [aC,List.length_cons,List.length_nil];omega)]
  cases (x.2.1 == a) <;> simp
 ·unfold kS;simp
theorem B7 (xs:List af.D) (a:Int) (h:xs.length≤33554432):kA xs a=some (xs.filter fun x=>x.2.1 == a):=by
 unfold kA bv
 rw [if_pos (by simp only [aC,List.length_nil];omega)]
 simp only [Option.bind_some,List.nil_append]
 rw [su xs h (fun x=>x.2.1 != a) _ (fun x=>rfl)]
 simp [bne]
theorem zv (l:List Int) (a:Int) (h:l.length≤33554432):uv l a=some (l.any (fun x=>x == a)):=by
 unfold uv
 rw [dH l (body:=sW l a) (fun x=>x == a) (fun _=>true) (by omega) (fun i x hx=>?_) ?_]
 ·obtain ⟨h1,h2⟩:=ee (fun x=>x == a) l
  cases hf:bD (fun x=>x == a) l with
  | none =>
   have:l.any (fun x=>x == a)=false:=by rw [List.any_eq_false];exact fun x hx=>by simpa using h1 hf x hx
   rw [this];rfl
  | some k =>
   obtain ⟨x,g1,g2,_⟩:=h2 k hf
   have:l.any (fun x=>x == a)=true:=by rw [List.any_eq_true];exact ⟨x,List.mem_of_getElem? g1,g2⟩
   rw [this];rfl
 ·unfold sW
  simp
 ·unfold sW
  have hlt:=(List.getElem?_eq_some_iff.1 hx).1
  have:((i:Int) < (l.length:Int)):=by omega
  simp only [this,decide_true,cond_true,ay hx]
end Go.Abs
