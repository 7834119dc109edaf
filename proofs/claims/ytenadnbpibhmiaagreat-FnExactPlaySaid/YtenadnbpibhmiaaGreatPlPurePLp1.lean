/- Part of a proof of FnExactPlay: see the row. -/
import Derived.Test.YtenadnbpibhmiaaGreatPlGenPL2
import Derived.Test.YtenadnbpibhmiaaGreatPlAbsDeep
import Derived.Test.YtenadnbpibhmiaaGreatPlAbsDraw
set_option linter.unusedVariables false
set_option linter.unusedSimpArgs false
namespace Go.Abs
theorem Mq (a:cp.D):vR a=some a:=by
 first | rfl | (unfold vR;simp only [dx,cO,Option.bind_some];rfl)
theorem Mr (a b:cp.D):wn a b=some (eqD cp a b):=by
 unfold wn
 first | (simp only [lh];rfl) | (simp only [cP,dy,Option.bind_some,lh,uv];rfl)
theorem HD (a:bc.D):qv a=some a:=by
 first | rfl | (unfold qv;simp only [dx,cO,Option.bind_some];rfl)
theorem HE (a b:bc.D):qV a b=some (eqD bc a b):=by
 unfold qV
 first | (simp only [lh];rfl) | (simp only [cP,dy,Option.bind_some,lh,uv];rfl)
theorem FK (a:List ac.D) (l:Int) (h0:0≤l) (h1:l≤33554432) (hn:a.length≤maxLen):fH a l=some (if (a.length:Int)≤l then l - a.length else -1):=by
 unfold fH;exact zU h0 h1 (by simpa [maxLen] using hn)
theorem cO (a:ac.D):gw a=some a:=by
 first | rfl | (unfold gw;simp only [dx,cO,Option.bind_some];rfl)
theorem ou (a:List ac.D) (h:a.length≤33554432):gX a=some a:=by
 unfold gX
 rw [if_pos (by omega),if_pos (by simp only [aC];omega),Int.toNat_natCast,i6 a _ (body:=uA a) gw (fun x _=>cO x) (by omega) (fun _=>rfl)]
 rfl
theorem cP (a b:ac.D):jj a b=some (eqD ac a b):=by
 unfold jj
 first | (simp only [lh];rfl) | (simp only [cP,dy,Option.bind_some,lh,uv];rfl)
theorem ox (a b:List ac.D) (h:a.length≤33554432):hU a b=some (eqD (.slice ac) a b):=by
 unfold hU
 exact uw (t:=ac) rfl a b (e:=eqD ac) (fun _ _=>rfl) (by omega) (fun i=>by unfold vg;simp only [cP,Option.bind_some])
theorem FL (a:List ah.D) (l:Int) (h0:0≤l) (h1:l≤33554432) (hn:a.length≤maxLen):jH a l=some (if (a.length:Int)≤l then l - a.length else -1):=by
 unfold jH;exact zU h0 h1 (by simpa [maxLen] using hn)
theorem dx (a:ah.D):gv a=some a:=by
 first | rfl | (unfold gv;simp only [dx,cO,Option.bind_some];rfl)
theorem FM (a:List ah.D) (h:a.length≤33554432):oH a=some a:=by
 unfold oH
 rw [if_pos (by omega),if_pos (by simp only [aC];omega),Int.toNat_natCast,i6 a _ (body:=uz a) gv (fun x _=>dx x) (by omega) (fun _=>rfl)]
 rfl
theorem dy (a b:ah.D):ji a b=some (eqD ah a b):=by
 unfold ji
 first | (simp only [lh];rfl) | (simp only [cP,dy,Option.bind_some,lh,uv];rfl)
theorem FN (a b:List ah.D) (h:a.length≤33554432):oQ a b=some (eqD (.slice ah) a b):=by
 unfold oQ
 exact uw (t:=ah) rfl a b (e:=eqD ah) (fun _ _=>rfl) (by omega) (fun i=>by unfold vf;simp only [dy,Option.bind_some])
theorem HF (a:List au.D) (l:Int) (h0:0≤l) (h1:l≤33554432) (hn:a.length≤maxLen):lV a l=some (if (a.length:Int)≤l then l - a.length else -1):=by
 unfold lV;exact zU h0 h1 (by simpa [maxLen] using hn)
theorem Ky (a:au.D):pe a=some a:=by
 first | rfl | (unfold pe;simp only [dx,cO,Option.bind_some];rfl)
theorem HG (a:List au.D) (h:a.length≤33554432):qs a=some a:=by
 unfold qs
 rw [if_pos (by omega),if_pos (by simp only [aC];omega),Int.toNat_natCast,i6 a _ (body:=wI a) pe (fun x _=>Ky x) (by omega) (fun _=>rfl)]
 rfl
theorem Kz (a b:au.D):tK a b=some (eqD au a b):=by
 unfold tK
 first | (simp only [lh];rfl) | (simp only [cP,dy,Option.bind_some,lh,uv];rfl)
theorem HH (a b:List au.D) (h:a.length≤33554432):qT a b=some (eqD (.slice au) a b):=by
 unfold qT
 exact uw (t:=au) rfl a b (e:=eqD au) (fun _ _=>rfl) (by omega) (fun i=>by unfold wY;simp only [Kz,Option.bind_some])
theorem sl (a:List af.D) (l:Int) (h0:0≤l) (h1:l≤33554432) (hn:a.length≤maxLen):gP a l=some (if (a.length:Int)≤l then l - a.length else -1):=by
 unfold gP;exact zU h0 h1 (by simpa [maxLen] using hn)
theorem DX (a:af.D):iJ a=some a:=by
 first | rfl | (unfold iJ;simp only [dx,cO,Option.bind_some];rfl)
theorem B9 (a:List af.D) (h:a.length≤33554432):jZ a=some a:=by
 unfold jZ
 rw [if_pos (by omega),if_pos (by simp only [aC];omega),Int.toNat_natCast,i6 a _ (body:=rH a) iJ (fun x _=>DX x) (by omega) (fun _=>rfl)]
 rfl
theorem DY (a b:af.D):mP a b=some (eqD af a b):=by
 unfold mP
 first | (simp only [lh];rfl) | (simp only [cP,dy,Option.bind_some,lh,uv];rfl)
theorem Ca (a b:List af.D) (h:a.length≤33554432):kF a b=some (eqD (.slice af) a b):=by
 unfold kF
 exact uw (t:=af) rfl a b (e:=eqD af) (fun _ _=>rfl) (by omega) (fun i=>by unfold sj;simp only [DY,Option.bind_some])
theorem w4 (a:List ai.D) (l:Int) (h0:0≤l) (h1:l≤33554432) (hn:a.length≤maxLen):lX a l=some (if (a.length:Int)≤l then l - a.length else -1):=by
 unfold lX;exact zU h0 h1 (by simpa [maxLen] using hn)
theorem KA (a:ai.D):pf a=some a:=by
 first | rfl | (unfold pf;simp only [dx,cO,Option.bind_some];rfl)
theorem HI (a:List ai.D) (h:a.length≤33554432):qw a=some a:=by
 unfold qw
 rw [if_pos (by omega),if_pos (by simp only [aC];omega),Int.toNat_natCast,i6 a _ (body:=wJ a) pf (fun x _=>KA x) (by omega) (fun _=>rfl)]
 rfl
theorem KB (a b:ai.D):tM a b=some (eqD ai a b):=by
 unfold tM
 first | (simp only [lh];rfl) | (simp only [cP,dy,Option.bind_some,lh,uv];rfl)
theorem HJ (a b:List ai.D) (h:a.length≤33554432):qW a b=some (eqD (.slice ai) a b):=by
 unfold qW
 exact uw (t:=ai) rfl a b (e:=eqD ai) (fun _ _=>rfl) (by omega) (fun i=>by unfold wZ;simp only [KB,Option.bind_some])
theorem KD (a:List Int) (h:a.length≤33554432):sX a=some a:=by
 unfold sX
 rw [if_pos (by omega),if_pos (by simp only [aC];omega),Int.toNat_natCast,i6 a _ (body:=yt a) some (fun x _=>rfl) (by omega) (fun _=>rfl)]
 rfl
theorem KE (a b:List Int) (h:a.length≤33554432):tL a b=some (eqD (.slice (.int .i64)) a b):=by
 unfold tL
 exact uw (t:=.int .i64) rfl a b (e:=fun (x y:Int)=>x == y) (fun _ _=>rfl) (by omega) (fun i=>rfl)
theorem HK (s:ae.D) (hp:s.1.length≤33554432) (hs:s.2.1.length≤33554432):qt s=some s:=by
 unfold qt
 simp only [FM _ hp,HG _ hs,Option.bind_some]
theorem HL (a b:ae.D) (hp:a.1.length≤33554432) (hs:a.2.1.length≤33554432):qU a b=some (eqD ae a b):=by
 unfold qU
 simp only [FN _ _ hp,HH _ _ hs,Option.bind_some,lh,uv]
 rfl
theorem oy (a:List ac.D) (l:Int) (h0:0≤l) (h1:l≤33554432) (w:(Ty.slice ac).wf a):SzR (fH a l) l (okD (.slice ac) a) :=
 zV (t:=ac) rfl (FK a l h0 h1 w.1) h1
theorem FO (a:List ah.D) (l:Int) (h0:0≤l) (h1:l≤33554432) (w:(Ty.slice ah).wf a):SzR (jH a l) l (okD (.slice ah) a) :=
 zV (t:=ah) rfl (FL a l h0 h1 w.1) h1
theorem HM (a:List au.D) (l:Int) (h0:0≤l) (h1:l≤33554432) (w:(Ty.slice au).wf a):SzR (lV a l) l (okD (.slice au) a) :=
 zV (t:=au) rfl (HF a l h0 h1 w.1) h1
theorem Cb (a:List af.D) (l:Int) (h0:0≤l) (h1:l≤33554432) (w:(Ty.slice af).wf a):SzR (gP a l) l (okD (.slice af) a) :=
 zV (t:=af) rfl (sl a l h0 h1 w.1) h1
theorem HN (a:List ai.D) (l:Int) (h0:0≤l) (h1:l≤33554432) (w:(Ty.slice ai).wf a):SzR (lX a l) l (okD (.slice ai) a) :=
 zV (t:=ai) rfl (w4 a l h0 h1 w.1) h1
theorem KF (a:List Int) (l:Int) (h0:0≤l) (h1:l≤33554432) (hn:a.length≤maxLen):pd a l=some (if (a.length:Int)≤l then l - a.length else -1):=by
 unfold pd;exact zU h0 h1 (by simpa [maxLen] using hn)
theorem zp (a:List Int) (l:Int) (h0:0≤l) (h1:l≤33554432) (w:(Ty.slice (.int .i64)).wf a):SzR (pd a l) l (okD (.slice (.int .i64)) a) :=
 zV (t:=(.int .i64)) rfl (KF a l h0 h1 w.1) h1
theorem w5 (a:ae.D) (l:Int) (h0:0≤l) (h1:l≤33554432) (w:ae.wf a):SzR (qr a l) l (okD ae a):=by
 unfold qr
 exact SzR.imp (SzR.bind (FO a.1 l h0 h1 w.1) fun m1 k1 j1=>SzR.bind (HM a.2.1 m1 k1 (by omega) w.2.1) fun m2 k2 j2=>SzR.done k2) (fun h=>⟨h.1,h.2.1,trivial,trivial,trivial⟩)
theorem Ms (a:bm.D) (l:Int) (h0:0≤l) (h1:l≤33554432) (w:bm.wf a):SzR (vP a l) l (okD bm a):=by
 unfold vP
 exact SzR.imp (SzR.bind (oy a.2.2.2.2.2.2.1 l h0 h1 w.2.2.2.2.2.2.1) fun m1 k1 j1=>SzR.done k1) (fun h=>⟨trivial,trivial,trivial,trivial,trivial,trivial,h.1,trivial⟩)
theorem Mt (a:bm.D) (h:okD bm a):vS a=some a:=by
 unfold vS
 simp only [ou a.2.2.2.2.2.2.1 h.2.2.2.2.2.2.1.1,Option.bind_some]
theorem Mu (a b:bm.D) (h:okD bm a):wo a b=some (eqD bm a b):=by
 unfold wo
 simp only [ox a.2.2.2.2.2.2.1 b.2.2.2.2.2.2.1 h.2.2.2.2.2.2.1.1,Option.bind_some,lh,uv]
 rfl
theorem vi (a:aa.D) (l:Int) (h0:0≤l) (h1:l≤33554432) (w:aa.wf a):SzR (gW a l) l (okD aa a):=by
 unfold gW
 exact SzR.imp (SzR.bind (Ms a.2.2.2.2.2.2.1 l h0 h1 w.2.2.2.2.2.2.1) fun m1 k1 j1=>SzR.done k1) (fun h=>⟨trivial,trivial,trivial,trivial,fG cp rfl _,fG bc rfl _,h.1,trivial,trivial,trivial⟩)
theorem vj (a:aa.D) (h:okD aa a):gY a=some a:=by
 unfold gY
 simp only [Mq,HD,Mt a.2.2.2.2.2.2.1 h.2.2.2.2.2.2.1,Option.bind_some]
theorem vk (a b:aa.D) (h:okD aa a):hY a b=some (eqD aa a b):=by
 unfold hY
 simp only [Mr,HE,Mu a.2.2.2.2.2.2.1 b.2.2.2.2.2.2.1 h.2.2.2.2.2.2.1,Option.bind_some,lh,uv]
 rfl
theorem tN (a:List aa.D) (l:Int) (h0:0≤l) (h1:l≤33554432) (w:(Ty.slice aa).wf a):SzR (lW a l) l (okD (.slice aa) a):=by
 unfold lW
 exact NP (t:=aa) a gW (body:=sV a) w.1 (fun x hx l h0 h1=>vi x l h0 h1 (w.2 x hx)) (fun _=>rfl) h0 h1
theorem DZ (a:List aa.D) (h:okD (.slice aa) a):l8 a=some a:=by
 have hl:a.length≤33554432:=h.1
 unfold l8
 rw [if_pos (by omega),if_pos (by simp only [aC];omega),Int.toNat_natCast,i6 a _ (body:=sW a) gY (fun x hx=>vj x (h.2 x hx)) (by omega) (fun _=>rfl)]
 rfl
theorem D0 (a b:List aa.D) (h:okD (.slice aa) a):mO a b=some (eqD (.slice aa) a b):=by
 have hl:a.length≤33554432:=h.1
 unfold mO
 exact ES (t:=aa) rfl a b (e:=hY) (fun x hx y=>vk x y (h.2 x hx)) (by omega) (fun _=>rfl)
theorem zq (a:ar.D) (l:Int) (h0:0≤l) (h1:l≤33554432) (w:ar.wf a):SzR (lj a l) l (okD ar a):=by
 unfold lj
 exact SzR.imp (SzR.bind (oy a.2.2.2.2.2.1 l h0 h1 w.2.2.2.2.2.1) fun m1 k1 j1=>SzR.done k1) (fun h=>⟨trivial,trivial,trivial,trivial,fG ac rfl _,h.1,trivial,trivial,trivial⟩)
theorem KG (a:ar.D) (h:okD ar a):pg a=some a:=by
 unfold pg
 simp only [cO,ou a.2.2.2.2.2.1 h.2.2.2.2.2.1.1,Option.bind_some]
theorem KH (a b:ar.D) (h:okD ar a):pL a b=some (eqD ar a b):=by
 unfold pL
 simp only [cP,ox a.2.2.2.2.2.1 b.2.2.2.2.2.1 h.2.2.2.2.2.1.1,Option.bind_some,lh,uv]
 rfl
theorem HO (a:List ar.D) (l:Int) (h0:0≤l) (h1:l≤33554432) (w:(Ty.slice ar).wf a):SzR (lY a l) l (okD (.slice ar) a):=by
 unfold lY
 exact NP (t:=ar) a lj (body:=pW a) w.1 (fun x hx l h0 h1=>zq x l h0 h1 (w.2 x hx)) (fun _=>rfl) h0 h1
theorem HP (a:List ar.D) (h:okD (.slice ar) a):qx a=some a:=by
 have hl:a.length≤33554432:=h.1
 unfold qx
 rw [if_pos (by omega),if_pos (by simp only [aC];omega),Int.toNat_natCast,i6 a _ (body:=wK a) pg (fun x hx=>KG x (h.2 x hx)) (by omega) (fun _=>rfl)]
 rfl
theorem HQ (a b:List ar.D) (h:okD (.slice ar) a):qX a b=some (eqD (.slice ar) a b):=by
 have hl:a.length≤33554432:=h.1
 unfold qX
 exact ES (t:=ar) rfl a b (e:=pL) (fun x hx y=>KH x y (h.2 x hx)) (by omega) (fun _=>rfl)
theorem KI (a:T_Game.D) (l:Int) (h0:0≤l) (h1:l≤33554432) (w:T_Game.wf a):SzR (iI a l) l (okD T_Game a):=by
 unfold iI
 exact SzR.imp (SzR.bind (w5 a.1 l h0 h1 w.1) fun m1 k1 j1=>SzR.bind (tN a.2.1 m1 k1 (by omega) w.2.1) fun m2 k2 j2=>SzR.bind (zp a.2.2.1 m2 k2 (by omega) w.2.2.1) fun m3 k3 j3=>SzR.bind (Cb a.2.2.2.1 m3 k3 (by omega) w.2.2.2.1) fun m4 k4 j4=>SzR.bind (HN a.2.2.2.2.1 m4 k4 (by omega) w.2.2.2.2.1) fun m5 k5 j5=>SzR.bind (HO a.2.2.2.2.2.1 m5 k5 (by omega) w.2.2.2.2.2.1) fun m6 k6 j6=>SzR.done k6) (fun h=>⟨h.1,h.2.1,h.2.2.1,h.2.2.2.1,h.2.2.2.2.1,h.2.2.2.2.2.1,trivial⟩)
theorem KJ (a:T_Game.D) (h:okD T_Game a):iK a=some a:=by
 unfold iK
 simp only [HK a.1 h.1.1.1 h.1.2.1.1,DZ a.2.1 h.2.1,KD a.2.2.1 h.2.2.1.1,B9 a.2.2.2.1 h.2.2.2.1.1,HI a.2.2.2.2.1 h.2.2.2.2.1.1,HP a.2.2.2.2.2.1 h.2.2.2.2.2.1,Option.bind_some]
theorem zr (a b:T_Game.D) (h:okD T_Game a):iS a b=some (eqD T_Game a b):=by
 unfold iS
 simp only [HL a.1 b.1 h.1.1.1 h.1.2.1.1,D0 a.2.1 b.2.1 h.2.1,KE a.2.2.1 b.2.2.1 h.2.2.1.1,Ca a.2.2.2.1 b.2.2.2.1 h.2.2.2.1.1,HJ a.2.2.2.2.1 b.2.2.2.2.1 h.2.2.2.2.1.1,HQ a.2.2.2.2.2.1 b.2.2.2.2.2.1 h.2.2.2.2.2.1,Option.bind_some,lh,uv]
 rfl
theorem HR (a:T_Order.D) (l:Int) (h0:0≤l) (h1:l≤33554432) (w:T_Order.wf a):SzR (lZ a l) l (okD T_Order a):=by
 unfold lZ
 exact SzR.imp (SzR.bind (vi a.2.1 l h0 h1 w.2.1) fun m1 k1 j1=>SzR.bind (oy a.2.2.2.1 m1 k1 (by omega) w.2.2.2.1) fun m2 k2 j2=>SzR.done k2) (fun h=>⟨trivial,h.1,trivial,h.2.1,trivial⟩)
theorem HS (a:T_Order.D) (h:okD T_Order a):l9 a=some a:=by
 unfold l9
 simp only [vj a.2.1 h.2.1,ou a.2.2.2.1 h.2.2.2.1.1,Option.bind_some]
theorem HT (a b:T_Order.D) (h:okD T_Order a):mQ a b=some (eqD T_Order a b):=by
 unfold mQ
 simp only [vk a.2.1 b.2.1 h.2.1,ox a.2.2.2.1 b.2.2.2.1 h.2.2.2.1.1,Option.bind_some,lh,uv]
 rfl
theorem FP (a:List T_Order.D) (l:Int) (h0:0≤l) (h1:l≤33554432) (w:(Ty.slice T_Order).wf a):SzR (oG a l) l (okD (.slice T_Order) a):=by
 unfold oG
 exact NP (t:=T_Order) a lZ (body:=uy a) w.1 (fun x hx l h0 h1=>HR x l h0 h1 (w.2 x hx)) (fun _=>rfl) h0 h1
theorem FQ (a:List T_Order.D) (h:okD (.slice T_Order) a):fI a=some a:=by
 have hl:a.length≤33554432:=h.1
 unfold fI
 rw [if_pos (by omega),if_pos (by simp only [aC];omega),Int.toNat_natCast,i6 a _ (body:=uD a) l9 (fun x hx=>HS x (h.2 x hx)) (by omega) (fun _=>rfl)]
 rfl
theorem FR (a b:List T_Order.D) (h:okD (.slice T_Order) a):oR a b=some (eqD (.slice T_Order) a b):=by
 have hl:a.length≤33554432:=h.1
 unfold oR
 exact ES (t:=T_Order) rfl a b (e:=mQ) (fun x hx y=>HT x y (h.2 x hx)) (by omega) (fun _=>rfl)
def cI (k:Int):ac.D:=(k,k + 1,k + 1 + 1,k + 1 + 1 + 1,k + 1 + 1 + 1 + 1,k + 1 + 1 + 1 + 1 + 1,((k + 1 + 1 + 1 + 1 + 1 + 1).tmod 3 == 0),())
theorem zt (ys:List ac.D) (k:Int) (i:Nat) (hlt:i < ys.length) (h0:0≤k) (hk:k≤4611686018427387904) (hi:(i:Int)≤4611686018427387904):gH (ys,k,(i:Int))=some (.inl (ys.set i (cI k),k + (7:Nat),(i:Int) + 1)):=by
 obtain ⟨x,hx⟩:∃ x,ys[i]?=some x:=⟨_,List.getElem?_eq_getElem hlt⟩
 have hil:((i:Int) < (ys.length:Int)):=by omega
 have hc:k + ((7:Nat):Int)=k + 1 + 1 + 1 + 1 + 1 + 1 + 1:=by omega
 unfold gH cI
 simp (disch:=omega) only [hil,decide_true,cond_true,Int.toNat_natCast,ay hx,hx,Option.bind_some,ib hlt,ic hlt,List.set_set,aB,hc]
 first | done | rfl
theorem gK (xs:List ac.D) (k:Int) (h0:0≤k) (hk:k + (7:Nat) * (xs.length:Int)≤4611686018427387904) (hlen:(xs.length:Int)≤4611686018427387904):bQ xs k=some (k + (7:Nat) * (xs.length:Int),(bJ cI (7:Nat) k xs.length,())):=by
 unfold bQ
 rw [rf cI 7 zt (fun ys k=>by unfold gH;simp) xs k h0 hk hlen]
 rfl
def iU (k:Int):au.D:=(k,k + 1,((k + 1 + 1).tmod 3 == 0),())
theorem AK (ys:List au.D) (k:Int) (i:Nat) (hlt:i < ys.length) (h0:0≤k) (hk:k≤4611686018427387904) (hi:(i:Int)≤4611686018427387904):ig (ys,k,(i:Int))=some (.inl (ys.set i (iU k),k + (3:Nat),(i:Int) + 1)):=by
 obtain ⟨x,hx⟩:∃ x,ys[i]?=some x:=⟨_,List.getElem?_eq_getElem hlt⟩
 have hil:((i:Int) < (ys.length:Int)):=by omega
 have hc:k + ((3:Nat):Int)=k + 1 + 1 + 1:=by omega
 unfold ig iU
 simp (disch:=omega) only [hil,decide_true,cond_true,Int.toNat_natCast,ay hx,hx,Option.bind_some,ib hlt,ic hlt,List.set_set,aB,hc]
 first | done | rfl
theorem D1 (xs:List au.D) (k:Int) (h0:0≤k) (hk:k + (3:Nat) * (xs.length:Int)≤4611686018427387904) (hlen:(xs.length:Int)≤4611686018427387904):mR xs k=some (k + (3:Nat) * (xs.length:Int),(bJ iU (3:Nat) k xs.length,())):=by
 unfold mR
 rw [rf iU 3 AK (fun ys k=>by unfold ig;simp) xs k h0 hk hlen]
 rfl
def gk (k:Int):ah.D:=(k,k + 1,k + 1 + 1,k + 1 + 1 + 1,k + 1 + 1 + 1 + 1,k + 1 + 1 + 1 + 1 + 1,k + 1 + 1 + 1 + 1 + 1 + 1,k + 1 + 1 + 1 + 1 + 1 + 1 + 1,k + 1 + 1 + 1 + 1 + 1 + 1 + 1 + 1,k + 1 + 1 + 1 + 1 + 1 + 1 + 1 + 1 + 1,k + 1 + 1 + 1 + 1 + 1 + 1 + 1 + 1 + 1 + 1,((k + 1 + 1 + 1 + 1 + 1 + 1 + 1 + 1 + 1 + 1 + 1).tmod 3 == 0),((k + 1 + 1 + 1 + 1 + 1 + 1 + 1 + 1 + 1 + 1 + 1 + 1).tmod 3 == 0),())
theorem zu (ys:List ah.D) (k:Int) (i:Nat) (hlt:i < ys.length) (h0:0≤k) (hk:k≤4611686018427387904) (hi:(i:Int)≤4611686018427387904):gG (ys,k,(i:Int))=some (.inl (ys.set i (gk k),k + (13:Nat),(i:Int) + 1)):=by
 obtain ⟨x,hx⟩:∃ x,ys[i]?=some x:=⟨_,List.getElem?_eq_getElem hlt⟩
 have hil:((i:Int) < (ys.length:Int)):=by omega
 have hc:k + ((13:Nat):Int)=k + 1 + 1 + 1 + 1 + 1 + 1 + 1 + 1 + 1 + 1 + 1 + 1 + 1:=by omega
 unfold gG gk
 simp (disch:=omega) only [hil,decide_true,cond_true,Int.toNat_natCast,ay hx,hx,Option.bind_some,ib hlt,ic hlt,List.set_set,aB,hc]
 first | done | rfl
theorem Cc (xs:List ah.D) (k:Int) (h0:0≤k) (hk:k + (13:Nat) * (xs.length:Int)≤4611686018427387904) (hlen:(xs.length:Int)≤4611686018427387904):kG xs k=some (k + (13:Nat) * (xs.length:Int),(bJ gk (13:Nat) k xs.length,())):=by
 unfold kG
 rw [rf gk 13 zu (fun ys k=>by unfold gG;simp) xs k h0 hk hlen]
 rfl
def iV (k:Int):ai.D:=(k,(k + 1,k + 1 + 1,k + 1 + 1 + 1,k + 1 + 1 + 1 + 1,k + 1 + 1 + 1 + 1 + 1,k + 1 + 1 + 1 + 1 + 1 + 1,((k + 1 + 1 + 1 + 1 + 1 + 1 + 1).tmod 3 == 0),()),k + 1 + 1 + 1 + 1 + 1 + 1 + 1 + 1,k + 1 + 1 + 1 + 1 + 1 + 1 + 1 + 1 + 1,(k + 1 + 1 + 1 + 1 + 1 + 1 + 1 + 1 + 1 + 1,k + 1 + 1 + 1 + 1 + 1 + 1 + 1 + 1 + 1 + 1 + 1,k + 1 + 1 + 1 + 1 + 1 + 1 + 1 + 1 + 1 + 1 + 1 + 1,k + 1 + 1 + 1 + 1 + 1 + 1 + 1 + 1 + 1 + 1 + 1 + 1 + 1,k + 1 + 1 + 1 + 1 + 1 + 1 + 1 + 1 + 1 + 1 + 1 + 1 + 1 + 1,k + 1 + 1 + 1 + 1 + 1 + 1 + 1 + 1 + 1 + 1 + 1 + 1 + 1 + 1 + 1,k + 1 + 1 + 1 + 1 + 1 + 1 + 1 + 1 + 1 + 1 + 1 + 1 + 1 + 1 + 1 + 1,k + 1 + 1 + 1 + 1 + 1 + 1 + 1 + 1 + 1 + 1 + 1 + 1 + 1 + 1 + 1 + 1 + 1,k + 1 + 1 + 1 + 1 + 1 + 1 + 1 + 1 + 1 + 1 + 1 + 1 + 1 + 1 + 1 + 1 + 1 + 1,k + 1 + 1 + 1 + 1 + 1 + 1 + 1 + 1 + 1 + 1 + 1 + 1 + 1 + 1 + 1 + 1 + 1 + 1 + 1,k + 1 + 1 + 1 + 1 + 1 + 1 + 1 + 1 + 1 + 1 + 1 + 1 + 1 + 1 + 1 + 1 + 1 + 1 + 1 + 1,((k + 1 + 1 + 1 + 1 + 1 + 1 + 1 + 1 + 1 + 1 + 1 + 1 + 1 + 1 + 1 + 1 + 1 + 1 + 1 + 1 + 1).tmod 3 == 0),((k + 1 + 1 + 1 + 1 + 1 + 1 + 1 + 1 + 1 + 1 + 1 + 1 + 1 + 1 + 1 + 1 + 1 + 1 + 1 + 1 + 1 + 1).tmod 3 == 0),()),())
theorem AL (ys:List ai.D) (k:Int) (i:Nat) (hlt:i < ys.length) (h0:0≤k) (hk:k≤4611686018427387904) (hi:(i:Int)≤4611686018427387904):ij (ys,k,(i:Int))=some (.inl (ys.set i (iV k),k + (23:Nat),(i:Int) + 1)):=by
 obtain ⟨x,hx⟩:∃ x,ys[i]?=some x:=⟨_,List.getElem?_eq_getElem hlt⟩
 have hil:((i:Int) < (ys.length:Int)):=by omega
 have hc:k + ((23:Nat):Int)=k + 1 + 1 + 1 + 1 + 1 + 1 + 1 + 1 + 1 + 1 + 1 + 1 + 1 + 1 + 1 + 1 + 1 + 1 + 1 + 1 + 1 + 1 + 1:=by omega
 unfold ij iV
 simp (disch:=omega) only [hil,decide_true,cond_true,Int.toNat_natCast,ay hx,hx,Option.bind_some,ib hlt,ic hlt,List.set_set,aB,hc]
 first | done | rfl
theorem D2 (xs:List ai.D) (k:Int) (h0:0≤k) (hk:k + (23:Nat) * (xs.length:Int)≤4611686018427387904) (hlen:(xs.length:Int)≤4611686018427387904):mT xs k=some (k + (23:Nat) * (xs.length:Int),(bJ iV (23:Nat) k xs.length,())):=by
 unfold mT
 rw [rf iV 23 AL (fun ys k=>by unfold ij;simp) xs k h0 hk hlen]
 rfl
def dU (k:Int):af.D:=(k,k + 1,k + 1 + 1,(k + 1 + 1 + 1,k + 1 + 1 + 1 + 1,k + 1 + 1 + 1 + 1 + 1,k + 1 + 1 + 1 + 1 + 1 + 1,k + 1 + 1 + 1 + 1 + 1 + 1 + 1,k + 1 + 1 + 1 + 1 + 1 + 1 + 1 + 1,k + 1 + 1 + 1 + 1 + 1 + 1 + 1 + 1 + 1,k + 1 + 1 + 1 + 1 + 1 + 1 + 1 + 1 + 1 + 1,k + 1 + 1 + 1 + 1 + 1 + 1 + 1 + 1 + 1 + 1 + 1,k + 1 + 1 + 1 + 1 + 1 + 1 + 1 + 1 + 1 + 1 + 1 + 1,k + 1 + 1 + 1 + 1 + 1 + 1 + 1 + 1 + 1 + 1 + 1 + 1 + 1,((k + 1 + 1 + 1 + 1 + 1 + 1 + 1 + 1 + 1 + 1 + 1 + 1 + 1 + 1).tmod 3 == 0),((k + 1 + 1 + 1 + 1 + 1 + 1 + 1 + 1 + 1 + 1 + 1 + 1 + 1 + 1 + 1).tmod 3 == 0),()),())
theorem wq (ys:List af.D) (k:Int) (i:Nat) (hlt:i < ys.length) (h0:0≤k) (hk:k≤4611686018427387904) (hi:(i:Int)≤4611686018427387904):fy (ys,k,(i:Int))=some (.inl (ys.set i (dU k),k + (16:Nat),(i:Int) + 1)):=by
 obtain ⟨x,hx⟩:∃ x,ys[i]?=some x:=⟨_,List.getElem?_eq_getElem hlt⟩
 have hil:((i:Int) < (ys.length:Int)):=by omega
 have hc:k + ((16:Nat):Int)=k + 1 + 1 + 1 + 1 + 1 + 1 + 1 + 1 + 1 + 1 + 1 + 1 + 1 + 1 + 1 + 1:=by omega
 unfold fy dU
 simp (disch:=omega) only [hil,decide_true,cond_true,Int.toNat_natCast,ay hx,hx,Option.bind_some,ib hlt,ic hlt,List.set_set,aB,hc]
 first | done | rfl
theorem zv (xs:List af.D) (k:Int) (h0:0≤k) (hk:k + (16:Nat) * (xs.length:Int)≤4611686018427387904) (hlen:(xs.length:Int)≤4611686018427387904):ii xs k=some (k + (16:Nat) * (xs.length:Int),(bJ dU (16:Nat) k xs.length,())):=by
 unfold ii
 rw [rf dU 16 wq (fun ys k=>by unfold fy;simp) xs k h0 hk hlen]
 rfl
def mY (k:Int):Int:=k
theorem Cd (ys:List Int) (k:Int) (i:Nat) (hlt:i < ys.length) (h0:0≤k) (hk:k≤4611686018427387904) (hi:(i:Int)≤4611686018427387904):jl (ys,k,(i:Int))=some (.inl (ys.set i (mY k),k + (1:Nat),(i:Int) + 1)):=by
 obtain ⟨x,hx⟩:∃ x,ys[i]?=some x:=⟨_,List.getElem?_eq_getElem hlt⟩
 have hil:((i:Int) < (ys.length:Int)):=by omega
 have hc:k + ((1:Nat):Int)=k + 1:=by omega
 unfold jl mY
 simp (disch:=omega) only [hil,decide_true,cond_true,Int.toNat_natCast,ay hx,hx,Option.bind_some,ib hlt,ic hlt,List.set_set,aB,hc]
 first | done | rfl
theorem FS (xs:List Int) (k:Int) (h0:0≤k) (hk:k + (1:Nat) * (xs.length:Int)≤4611686018427387904) (hlen:(xs.length:Int)≤4611686018427387904):oS xs k=some (k + (1:Nat) * (xs.length:Int),(bJ mY (1:Nat) k xs.length,())):=by
 unfold oS
 rw [rf mY 1 Cd (fun ys k=>by unfold jl;simp) xs k h0 hk hlen]
 rfl
def KK (s:ae.D) (k:Int):ae.D:=(bJ gk (13:Nat) k s.1.length,bJ iU (3:Nat) (k + (13:Nat) * (s.1.length:Int)) s.2.1.length,s.2.2)
theorem D3 (s:ae.D) (k:Int) (h0:0≤k) (h1:k≤4294967296) (hp:s.1.length≤33554432) (hs:s.2.1.length≤33554432):mS s k=some (k + (13:Nat) * (s.1.length:Int) + (3:Nat) * (s.2.1.length:Int),(KK s k,())):=by
 unfold mS
 rw [Cc _ k h0 (by omega) (by omega),Option.bind_some,D1 _ _ (by omega) (by omega) (by omega)]
 rfl
theorem sm (k0:Int) (n:Nat) (h0:0≤k0) (hk:k0 + (7:Nat) * (n:Int)≤4611686018427387904) (hlen:(n:Int)≤4611686018427387904):ej (bJ cI (7:Nat) k0 n) k0=some (k0 + (7:Nat) * (n:Int)):=by
 unfold ej
 rw [rg cI 7 (bJ cI (7:Nat) k0 n) k0 n rfl (body:=gJ (bJ cI (7:Nat) k0 n)) ?_ ?_ h0 hk hlen]
 ·rfl
 ·intro k i hx h0 hk hi
  have hlt:=(List.getElem?_eq_some_iff.1 hx).1
  have hil:((i:Int) < ((bJ cI (7:Nat) k0 n).length:Int)):=by omega
  have hc:k + ((7:Nat):Int)=k + 1 + 1 + 1 + 1 + 1 + 1 + 1:=by omega
  unfold gJ
  simp (disch:=omega) only [hil,decide_true,cond_true,ay hx,cI,aB,bne_self_eq_false,cond_false,hc]
  first | done | rfl
 ·intro k
  unfold gJ
  simp
theorem D4 (k0:Int) (n:Nat) (h0:0≤k0) (hk:k0 + (3:Nat) * (n:Int)≤4611686018427387904) (hlen:(n:Int)≤4611686018427387904):mV (bJ iU (3:Nat) k0 n) k0=some (k0 + (3:Nat) * (n:Int)):=by
 unfold mV
 rw [rg iU 3 (bJ iU (3:Nat) k0 n) k0 n rfl (body:=il (bJ iU (3:Nat) k0 n)) ?_ ?_ h0 hk hlen]
 ·rfl
 ·intro k i hx h0 hk hi
  have hlt:=(List.getElem?_eq_some_iff.1 hx).1
  have hil:((i:Int) < ((bJ iU (3:Nat) k0 n).length:Int)):=by omega
  have hc:k + ((3:Nat):Int)=k + 1 + 1 + 1:=by omega
  unfold il
  simp (disch:=omega) only [hil,decide_true,cond_true,ay hx,iU,aB,bne_self_eq_false,cond_false,hc]
  first | done | rfl
 ·intro k
  unfold il
  simp
theorem Ce (k0:Int) (n:Nat) (h0:0≤k0) (hk:k0 + (13:Nat) * (n:Int)≤4611686018427387904) (hlen:(n:Int)≤4611686018427387904):kI (bJ gk (13:Nat) k0 n) k0=some (k0 + (13:Nat) * (n:Int)):=by
 unfold kI
 rw [rg gk 13 (bJ gk (13:Nat) k0 n) k0 n rfl (body:=gI (bJ gk (13:Nat) k0 n)) ?_ ?_ h0 hk hlen]
 ·rfl
 ·intro k i hx h0 hk hi
  have hlt:=(List.getElem?_eq_some_iff.1 hx).1
  have hil:((i:Int) < ((bJ gk (13:Nat) k0 n).length:Int)):=by omega
  have hc:k + ((13:Nat):Int)=k + 1 + 1 + 1 + 1 + 1 + 1 + 1 + 1 + 1 + 1 + 1 + 1 + 1:=by omega
  unfold gI
  simp (disch:=omega) only [hil,decide_true,cond_true,ay hx,gk,aB,bne_self_eq_false,cond_false,hc]
  first | done | rfl
 ·intro k
  unfold gI
  simp
theorem D5 (k0:Int) (n:Nat) (h0:0≤k0) (hk:k0 + (23:Nat) * (n:Int)≤4611686018427387904) (hlen:(n:Int)≤4611686018427387904):mW (bJ iV (23:Nat) k0 n) k0=some (k0 + (23:Nat) * (n:Int)):=by
 unfold mW
 rw [rg iV 23 (bJ iV (23:Nat) k0 n) k0 n rfl (body:=ip (bJ iV (23:Nat) k0 n)) ?_ ?_ h0 hk hlen]
 ·rfl
 ·intro k i hx h0 hk hi
  have hlt:=(List.getElem?_eq_some_iff.1 hx).1
  have hil:((i:Int) < ((bJ iV (23:Nat) k0 n).length:Int)):=by omega
  have hc:k + ((23:Nat):Int)=k + 1 + 1 + 1 + 1 + 1 + 1 + 1 + 1 + 1 + 1 + 1 + 1 + 1 + 1 + 1 + 1 + 1 + 1 + 1 + 1 + 1 + 1 + 1:=by omega
  unfold ip
  simp (disch:=omega) only [hil,decide_true,cond_true,ay hx,iV,aB,bne_self_eq_false,cond_false,hc]
  first | done | rfl
 ·intro k
  unfold ip
  simp
theorem zw (k0:Int) (n:Nat) (h0:0≤k0) (hk:k0 + (16:Nat) * (n:Int)≤4611686018427387904) (hlen:(n:Int)≤4611686018427387904):io (bJ dU (16:Nat) k0 n) k0=some (k0 + (16:Nat) * (n:Int)):=by
 unfold io
 rw [rg dU 16 (bJ dU (16:Nat) k0 n) k0 n rfl (body:=fz (bJ dU (16:Nat) k0 n)) ?_ ?_ h0 hk hlen]
 ·rfl
 ·intro k i hx h0 hk hi
  have hlt:=(List.getElem?_eq_some_iff.1 hx).1
  have hil:((i:Int) < ((bJ dU (16:Nat) k0 n).length:Int)):=by omega
  have hc:k + ((16:Nat):Int)=k + 1 + 1 + 1 + 1 + 1 + 1 + 1 + 1 + 1 + 1 + 1 + 1 + 1 + 1 + 1 + 1:=by omega
  unfold fz
  simp (disch:=omega) only [hil,decide_true,cond_true,ay hx,dU,aB,bne_self_eq_false,cond_false,hc]
  first | done | rfl
 ·intro k
  unfold fz
  simp
theorem FT (k0:Int) (n:Nat) (h0:0≤k0) (hk:k0 + (1:Nat) * (n:Int)≤4611686018427387904) (hlen:(n:Int)≤4611686018427387904):oT (bJ mY (1:Nat) k0 n) k0=some (k0 + (1:Nat) * (n:Int)):=by
 unfold oT
 rw [rg mY 1 (bJ mY (1:Nat) k0 n) k0 n rfl (body:=jn (bJ mY (1:Nat) k0 n)) ?_ ?_ h0 hk hlen]
 ·rfl
 ·intro k i hx h0 hk hi
  have hlt:=(List.getElem?_eq_some_iff.1 hx).1
  have hil:((i:Int) < ((bJ mY (1:Nat) k0 n).length:Int)):=by omega
  have hc:k + ((1:Nat):Int)=k + 1:=by omega
  unfold jn
  simp (disch:=omega) only [hil,decide_true,cond_true,ay hx,mY,aB,bne_self_eq_false,cond_false,hc]
  first | done | rfl
 ·intro k
  unfold jn
  simp
theorem D6 (s:ae.D) (k:Int) (h0:0≤k) (h1:k≤4294967296) (hp:s.1.length≤33554432) (hs:s.2.1.length≤33554432):iT (KK s k) k=some (k + (13:Nat) * (s.1.length:Int) + (3:Nat) * (s.2.1.length:Int)):=by
 unfold iT KK
 rw [Ce k _ h0 (by omega) (by omega),Option.bind_some,bb (by omega)]
 simp only [cond_false]
 rw [D4 _ _ (by omega) (by omega) (by omega),Option.bind_some,bb (by omega)]
 rfl
theorem Cf (s:ae.D) (k:Int) (h0:0≤k) (h1:k≤4294967296) (hp:s.1.length≤33554432) (hs:s.2.1.length≤33554432):iT ((KK s k).1,(KK s k).2.1,s.2.2) k=some (k + (13:Nat) * (s.1.length:Int) + (3:Nat) * (s.2.1.length:Int)) :=
 D6 s k h0 h1 hp hs
def iW {α:Type} (fill:Int→Nat→α) (c:Nat):Int→List Nat→List α
 | _,[]=>[]
 | k,n :: ns=>fill k n :: iW fill c (k + ((c + 7 * n:Nat):Int)) ns
def lK (c:Nat):List Nat→Int
 | []=>0
 | n :: ns=>((c + 7 * n:Nat):Int) + lK c ns
theorem pM (c:Nat):∀ ns:List Nat,0≤lK c ns
 | []=>Int.le_refl _
 | n :: ns=>by have:=pM c ns;simp only [lK];omega
theorem D7 (c:Nat) (hc:c≤30):∀ ns:List Nat,(∀ n∈ns,n≤33554432)→lK c ns≤234881054 * (ns.length:Int)
 | [],_=>by simp [lK]
 | n :: ns,h=>by
  have h1:=D7 c hc ns (fun m hm=>h m (List.mem_cons_of_mem _ hm))
  have h2:=h n (List.mem_cons_self ..)
  simp only [lK,List.length_cons]
  omega
theorem M9 {α:Type} (fill:Int→Nat→α) (c:Nat):∀ (ns:List Nat) (k:Int),(iW fill c k ns).length=ns.length
 | [],_=>rfl
 | n :: ns,k=>by simp only [iW,List.length_cons,M9 fill c ns]
theorem KL {α:Type} (fill:Int→Nat→α) (c:Nat) (len:α→Nat) {body:(List α×(Int×Int))→Option ((List α×(Int×Int))⊕(List α×(Int×Int)))}
  (hb:∀ (ys:List α) (k:Int) (i:Nat) (x:α),ys[i]?=some x→len x≤33554432→0≤k→k≤2305843009213693952→(i:Int)≤2305843009213693952→body (ys,k,(i:Int))=some (.inl (ys.set i (fill k (len x)),k + ((c + 7 * len x:Nat):Int),(i:Int) + 1)))
  (he:∀ (ys:List α) (k:Int),body (ys,k,(ys.length:Int))=some (.inr (ys,k,(ys.length:Int)))) (xs:List α) (k:Int) (h:∀ x∈xs,len x≤33554432) (h0:0≤k) (hk:k + lK c (xs.map len)≤2305843009213693952) (hlen:(xs.length:Int)≤2305843009213693952) :
  al body (xs,k,0)=some (iW fill c k (xs.map len),k + lK c (xs.map len),(xs.length:Int)):=by
 have main:∀ (r p:List α) (k:Int),(∀ x∈r,len x≤33554432)→0≤k→k + lK c (r.map len)≤2305843009213693952→((p.length + r.length:Nat):Int)≤2305843009213693952 →
   al body (p++r,k,(p.length:Int))=some (p++iW fill c k (r.map len),k + lK c (r.map len),((p.length + r.length:Nat):Int)):=by
  intro r
  induction r with
  | nil =>
   intro p k _ h0 hk hl
   refine aI ?_
   have:=he p k
   simpa [iW,lK] using this
  | cons x r ih =>
   intro p k hx h0 hk hl
   have hn:=pM c (r.map len)
   simp only [List.map_cons,lK] at hk
   simp only [List.length_cons] at hl
   refine aF (hb (p++x :: r) k p.length x (by simp) (hx x (List.mem_cons_self ..)) h0 (by omega) (by omega)) ?_
   have:=ih (p++[fill k (len x)]) (k + ((c + 7 * len x:Nat):Int)) (fun y hy=>hx y (List.mem_cons_of_mem _ hy)) (by omega) (by omega) (by simp;omega)
   have e1:(p++x :: r).set p.length (fill k (len x))=p++[fill k (len x)]++r:=by simp
   rw [e1]
   have e2:((p++[fill k (len x)]).length:Int)=(p.length:Int) + 1:=by simp
   rw [e2] at this
   rw [this]
   simp only [iW,lK,List.map_cons,List.length_cons,List.append_assoc,List.singleton_append,Option.some.injEq,Prod.mk.injEq,true_and]
   refine ⟨by omega,?_⟩
   simp;omega
 have:=main xs [] k h h0 hk (by simpa using hlen)
 simpa using this
theorem KM {α:Type} (fill:Int→Nat→α) (c:Nat) (ys:List α) {β:Type} {body:(Int×Int)→Option ((Int×Int)⊕((Int×Int)⊕β))} (k:Int) (ns:List Nat) (hy:ys=iW fill c k ns)
  (hb:∀ (k:Int) (n i:Nat),ys[i]?=some (fill k n)→n≤33554432→0≤k→k≤2305843009213693952→(i:Int)≤2305843009213693952→body (k,(i:Int))=some (.inl (k + ((c + 7 * n:Nat):Int),(i:Int) + 1)))
  (he:∀ (k:Int),body (k,(ys.length:Int))=some (.inr (.inl (k,(ys.length:Int))))) (h:∀ n∈ns,n≤33554432) (h0:0≤k) (hk:k + lK c ns≤2305843009213693952) (hlen:(ns.length:Int)≤2305843009213693952) :
  al body (k,0)=some (.inl (k + lK c ns,(ns.length:Int))):=by
 have hyl:ys.length=ns.length:=by rw [hy,M9]
 have main:∀ (r:List Nat) (p:List α) (k:Int),ys=p++iW fill c k r→p.length + r.length=ns.length→(∀ n∈r,n≤33554432)→0≤k→k + lK c r≤2305843009213693952→al body (k,(p.length:Int))=some (.inl (k + lK c r,(ns.length:Int))):=by
  intro r
  induction r with
  | nil =>
   intro p k e hl _ h0 hk
   refine aI ?_
   have:=he k
   rw [hyl] at this
   simp only [List.length_nil,Nat.add_zero] at hl
   rw [hl]
   simpa [lK] using this
  | cons n r ih =>
   intro p k e hl hn h0 hk
   have hnn:=pM c r
   simp only [lK] at hk
   simp only [List.length_cons] at hl
   refine aF (hb k n p.length (by rw [e];simp [iW]) (hn n (List.mem_cons_self ..)) h0 (by omega) (by omega)) ?_
   have:=ih (p++[fill k n]) (k + ((c + 7 * n:Nat):Int)) (by rw [e];simp [iW]) (by simp;omega) (fun m hm=>hn m (List.mem_cons_of_mem _ hm)) (by omega) (by omega)
   rw [show ((p++[fill k n]).length:Int)=(p.length:Int) + 1 by simp] at this
   rw [this]
   simp only [lK]
   congr 2
   rw [Int.add_assoc]
 have:=main ns [] k hy (by simp) h h0 hk
 simpa using this
def eP (k:Int) (n:Nat):aa.D:=(k,k + 1,k + 1 + 1,k + 1 + 1 + 1,(k + 1 + 1 + 1 + 1,k + 1 + 1 + 1 + 1 + 1,k + 1 + 1 + 1 + 1 + 1 + 1,k + 1 + 1 + 1 + 1 + 1 + 1 + 1,k + 1 + 1 + 1 + 1 + 1 + 1 + 1 + 1,k + 1 + 1 + 1 + 1 + 1 + 1 + 1 + 1 + 1,k + 1 + 1 + 1 + 1 + 1 + 1 + 1 + 1 + 1 + 1,()),(k + 1 + 1 + 1 + 1 + 1 + 1 + 1 + 1 + 1 + 1 + 1,k + 1 + 1 + 1 + 1 + 1 + 1 + 1 + 1 + 1 + 1 + 1 + 1,()),(k + 1 + 1 + 1 + 1 + 1 + 1 + 1 + 1 + 1 + 1 + 1 + 1 + 1,k + 1 + 1 + 1 + 1 + 1 + 1 + 1 + 1 + 1 + 1 + 1 + 1 + 1 + 1,k + 1 + 1 + 1 + 1 + 1 + 1 + 1 + 1 + 1 + 1 + 1 + 1 + 1 + 1 + 1,k + 1 + 1 + 1 + 1 + 1 + 1 + 1 + 1 + 1 + 1 + 1 + 1 + 1 + 1 + 1 + 1,k + 1 + 1 + 1 + 1 + 1 + 1 + 1 + 1 + 1 + 1 + 1 + 1 + 1 + 1 + 1 + 1 + 1,((k + 1 + 1 + 1 + 1 + 1 + 1 + 1 + 1 + 1 + 1 + 1 + 1 + 1 + 1 + 1 + 1 + 1 + 1).tmod 3 == 0),bJ cI (7:Nat) (k + 1 + 1 + 1 + 1 + 1 + 1 + 1 + 1 + 1 + 1 + 1 + 1 + 1 + 1 + 1 + 1 + 1 + 1 + 1) n,()),k + 1 + 1 + 1 + 1 + 1 + 1 + 1 + 1 + 1 + 1 + 1 + 1 + 1 + 1 + 1 + 1 + 1 + 1 + 1 + (7:Nat) * (n:Int),k + 1 + 1 + 1 + 1 + 1 + 1 + 1 + 1 + 1 + 1 + 1 + 1 + 1 + 1 + 1 + 1 + 1 + 1 + 1 + (7:Nat) * (n:Int) + 1,())
def dt (x:aa.D):Nat:=x.2.2.2.2.2.2.1.2.2.2.2.2.2.1.length
theorem xR (ys:List aa.D) (k:Int) (i:Nat) (x:aa.D) (hx:ys[i]?=some x) (hn:dt x≤33554432) (h0:0≤k) (hk:k≤2305843009213693952) (hi:(i:Int)≤2305843009213693952):fP (ys,k,(i:Int))=some (.inl (ys.set i (eP k (dt x)),k + ((21 + 7 * dt x:Nat):Int),(i:Int) + 1)):=by
 have hlt:=(List.getElem?_eq_some_iff.1 hx).1
 have hil:((i:Int) < (ys.length:Int)):=by omega
 unfold dt at hn ⊢
 generalize hL:x.2.2.2.2.2.2.1.2.2.2.2.2.2.1=L at hn ⊢
 have hc:k + ((21 + 7 * L.length:Nat):Int)=k + 1 + 1 + 1 + 1 + 1 + 1 + 1 + 1 + 1 + 1 + 1 + 1 + 1 + 1 + 1 + 1 + 1 + 1 + 1 + (7:Nat) * (L.length:Int) + 1 + 1:=by omega
 have hm:∀ q:Int,q=k + 1 + 1 + 1 + 1 + 1 + 1 + 1 + 1 + 1 + 1 + 1 + 1 + 1 + 1 + 1 + 1 + 1 + 1 + 1→bQ L q=some (q + (7:Nat) * (L.length:Int),(bJ cI (7:Nat) q L.length,())):=fun q hq=>gK L q (by omega) (by omega) (by omega)
 have h3:¬ ((3:Int)=0):=by decide
 unfold fP eP
 simp (disch:=omega) only [hil,decide_true,cond_true,Int.toNat_natCast,ay hx,hx,Option.bind_some,ib hlt,ic hlt,List.set_set,aB,hc,hL,hm,h3,if_false]
 first | done | rfl
theorem AM (xs:List aa.D) (k:Int) (h:okD (.slice aa) xs) (h0:0≤k) (hk:k≤1152921504606846976):jk xs k=some (k + lK 21 (xs.map dt),(iW eP 21 k (xs.map dt),()))∧0≤lK 21 (xs.map dt)∧lK 21 (xs.map dt)≤7881300354600000:=by
 have hl:xs.length≤33554432:=h.1
 have hx:∀ x∈xs,dt x≤33554432:=fun x hx=>(h.2 x hx).2.2.2.2.2.2.1.2.2.2.2.2.2.1.1
 have hb:=D7 21 (by decide) (xs.map dt) (fun m hm=>by obtain ⟨x,hx',rfl⟩:=List.mem_map.1 hm;exact hx x hx')
 rw [List.length_map] at hb
 refine ⟨?_,pM _ _,by omega⟩
 unfold jk
 rw [KL eP 21 dt xR (fun ys k=>by unfold fP;simp) xs k hx h0 (by omega) (by omega)]
 rfl
theorem AN (ns:List Nat) (k:Int) (h:∀ n∈ns,n≤33554432) (hl:ns.length≤33554432) (h0:0≤k) (hk:k≤1152921504606846976):jm (iW eP 21 k ns) k=some (k + lK 21 ns):=by
 have hb:=D7 21 (by decide) ns h
 unfold jm
 rw [KM eP 21 (iW eP 21 k ns) k ns rfl (body:=fQ (iW eP 21 k ns)) ?_ ?_ h h0 (by omega) (by omega)]
 ·rfl
 ·intro k n i hx hn h0 hk hi
  have hlt:=(List.getElem?_eq_some_iff.1 hx).1
  have hil:((i:Int) < ((iW eP 21 _ ns).length:Int)):=Int.ofNat_lt.2 hlt
  have hc:k + ((21 + 7 * n:Nat):Int)=k + 1 + 1 + 1 + 1 + 1 + 1 + 1 + 1 + 1 + 1 + 1 + 1 + 1 + 1 + 1 + 1 + 1 + 1 + 1 + (7:Nat) * (n:Int) + 1 + 1:=by omega
  have hm:ej (bJ cI (7:Nat) (k + 1 + 1 + 1 + 1 + 1 + 1 + 1 + 1 + 1 + 1 + 1 + 1 + 1 + 1 + 1 + 1 + 1 + 1 + 1) n) (k + 1 + 1 + 1 + 1 + 1 + 1 + 1 + 1 + 1 + 1 + 1 + 1 + 1 + 1 + 1 + 1 + 1 + 1 + 1)=some (k + 1 + 1 + 1 + 1 + 1 + 1 + 1 + 1 + 1 + 1 + 1 + 1 + 1 + 1 + 1 + 1 + 1 + 1 + 1 + (7:Nat) * (n:Int)):=sm _ n (by omega) (by omega) (by omega)
  have h3:¬ ((3:Int)=0):=by decide
  unfold fQ
  simp (disch:=omega) only [hil,decide_true,cond_true,ay hx,eP,aB,bne_self_eq_false,cond_false,hc,hm,Option.bind_some,bb,h3,if_false]
  first | done | rfl
 ·intro k
  unfold fQ
  simp
def iX (k:Int) (n:Nat):ar.D:=(k,k + 1,k + 1 + 1,k + 1 + 1 + 1,(k + 1 + 1 + 1 + 1,k + 1 + 1 + 1 + 1 + 1,k + 1 + 1 + 1 + 1 + 1 + 1,k + 1 + 1 + 1 + 1 + 1 + 1 + 1,k + 1 + 1 + 1 + 1 + 1 + 1 + 1 + 1,k + 1 + 1 + 1 + 1 + 1 + 1 + 1 + 1 + 1,((k + 1 + 1 + 1 + 1 + 1 + 1 + 1 + 1 + 1 + 1).tmod 3 == 0),()),bJ cI (7:Nat) (k + 1 + 1 + 1 + 1 + 1 + 1 + 1 + 1 + 1 + 1 + 1) n,k + 1 + 1 + 1 + 1 + 1 + 1 + 1 + 1 + 1 + 1 + 1 + (7:Nat) * (n:Int),k + 1 + 1 + 1 + 1 + 1 + 1 + 1 + 1 + 1 + 1 + 1 + (7:Nat) * (n:Int) + 1,())
def fR (x:ar.D):Nat:=x.2.2.2.2.2.1.length
theorem AO (ys:List ar.D) (k:Int) (i:Nat) (x:ar.D) (hx:ys[i]?=some x) (hn:fR x≤33554432) (h0:0≤k) (hk:k≤2305843009213693952) (hi:(i:Int)≤2305843009213693952):ik (ys,k,(i:Int))=some (.inl (ys.set i (iX k (fR x)),k + ((13 + 7 * fR x:Nat):Int),(i:Int) + 1)):=by
 have hlt:=(List.getElem?_eq_some_iff.1 hx).1
 have hil:((i:Int) < (ys.length:Int)):=by omega
 unfold fR at hn ⊢
 generalize hL:x.2.2.2.2.2.1=L at hn ⊢
 have hc:k + ((13 + 7 * L.length:Nat):Int)=k + 1 + 1 + 1 + 1 + 1 + 1 + 1 + 1 + 1 + 1 + 1 + (7:Nat) * (L.length:Int) + 1 + 1:=by omega
 have hm:∀ q:Int,q=k + 1 + 1 + 1 + 1 + 1 + 1 + 1 + 1 + 1 + 1 + 1→bQ L q=some (q + (7:Nat) * (L.length:Int),(bJ cI (7:Nat) q L.length,())):=fun q hq=>gK L q (by omega) (by omega) (by omega)
 have h3:¬ ((3:Int)=0):=by decide
 unfold ik iX
 simp (disch:=omega) only [hil,decide_true,cond_true,Int.toNat_natCast,ay hx,hx,Option.bind_some,ib hlt,ic hlt,List.set_set,aB,hc,hL,hm,h3,if_false]
 first | done | rfl
theorem D8 (xs:List ar.D) (k:Int) (h:okD (.slice ar) xs) (h0:0≤k) (hk:k≤1152921504606846976):mU xs k=some (k + lK 13 (xs.map fR),(iW iX 13 k (xs.map fR),()))∧0≤lK 13 (xs.map fR)∧lK 13 (xs.map fR)≤7881300354600000:=by
 have hl:xs.length≤33554432:=h.1
 have hx:∀ x∈xs,fR x≤33554432:=fun x hx=>(h.2 x hx).2.2.2.2.2.1.1
 have hb:=D7 13 (by decide) (xs.map fR) (fun m hm=>by obtain ⟨x,hx',rfl⟩:=List.mem_map.1 hm;exact hx x hx')
 rw [List.length_map] at hb
 refine ⟨?_,pM _ _,by omega⟩
 unfold mU
 rw [KL iX 13 fR AO (fun ys k=>by unfold ik;simp) xs k hx h0 (by omega) (by omega)]
 rfl
theorem D9 (ns:List Nat) (k:Int) (h:∀ n∈ns,n≤33554432) (hl:ns.length≤33554432) (h0:0≤k) (hk:k≤1152921504606846976):mX (iW iX 13 k ns) k=some (k + lK 13 ns):=by
 have hb:=D7 13 (by decide) ns h
 unfold mX
 rw [KM iX 13 (iW iX 13 k ns) k ns rfl (body:=iq (iW iX 13 k ns)) ?_ ?_ h h0 (by omega) (by omega)]
 ·rfl
 ·intro k n i hx hn h0 hk hi
  have hlt:=(List.getElem?_eq_some_iff.1 hx).1
  have hil:((i:Int) < ((iW iX 13 _ ns).length:Int)):=Int.ofNat_lt.2 hlt
  have hc:k + ((13 + 7 * n:Nat):Int)=k + 1 + 1 + 1 + 1 + 1 + 1 + 1 + 1 + 1 + 1 + 1 + (7:Nat) * (n:Int) + 1 + 1:=by omega
  have hm:ej (bJ cI (7:Nat) (k + 1 + 1 + 1 + 1 + 1 + 1 + 1 + 1 + 1 + 1 + 1) n) (k + 1 + 1 + 1 + 1 + 1 + 1 + 1 + 1 + 1 + 1 + 1)=some (k + 1 + 1 + 1 + 1 + 1 + 1 + 1 + 1 + 1 + 1 + 1 + (7:Nat) * (n:Int)):=sm _ n (by omega) (by omega) (by omega)
  have h3:¬ ((3:Int)=0):=by decide
  unfold iq
  simp (disch:=omega) only [hil,decide_true,cond_true,ay hx,iX,aB,bne_self_eq_false,cond_false,hc,hm,Option.bind_some,bb,h3,if_false]
  first | done | rfl
 ·intro k
  unfold iq
  simp
theorem gL (a b c:Int):aD a b c=some (decide (b≤a) && decide (a≤c)):=by
 unfold aD
 have:decide (a≥b)=decide (b≤a):=rfl
 simp only [this]
 cases decide (b≤a) <;> rfl
theorem dp (a b c:Int):aX a b c=some (decide (b≤a) && decide (a≤c)):=by
 unfold aX
 have:decide (a≥b)=decide (b≤a):=rfl
 simp only [this]
 cases decide (b≤a) <;> rfl
def ia (n:Int):Int:=if n > 2147483647 then 2147483647 else if n < -2147483647 then -2147483647 else n
theorem ud (n:Int):dd n=some (ia n):=by
 unfold dd ia
 simp only [cond_eq_ite,decide_eq_true_eq]
 split <;> (try split) <;> rfl
theorem jU (n:Int):ce n=some (ia n):=by
 unfold ce ia
 congr 1
 split <;> split <;> (try split) <;> (try split) <;> omega
def zx (a b:Int):Int:=ia (IntKind.wrap .i64 (ia a + ia b))
def A7 (a b:Int):Int:=ia (IntKind.wrap .i64 (ia a - ia b))
theorem Ea {c:Prop} [Decidable c] (a b:Bool):(if c then some a else some b)=some (if c then a else b):=by split <;> rfl
def jV (p:ah.D):Bool :=
 decide (1≤p.1) && decide (p.1≤99) && decide (0≤p.2.1) && decide (p.2.1≤2) && decide (0≤p.2.2.1) && decide (p.2.2.1≤2) && decide (1≤p.2.2.2.1) && decide (p.2.2.2.1≤4) && decide (0≤p.2.2.2.2.1) && decide (p.2.2.2.2.1≤9999) &&
 decide (0≤p.2.2.2.2.2.1) && decide (p.2.2.2.2.2.1≤999) && decide (0≤p.2.2.2.2.2.2.1) && decide (p.2.2.2.2.2.2.1≤999) && decide (0≤p.2.2.2.2.2.2.2.1) && decide (p.2.2.2.2.2.2.2.1≤63) && (
  if p.2.2.2.1=2 then decide (0≤p.2.2.2.2.2.2.2.2.1) && decide (p.2.2.2.2.2.2.2.2.1≤2147483647) && decide (0≤p.2.2.2.2.2.2.2.2.2.1) && decide (p.2.2.2.2.2.2.2.2.2.1≤2147483647) && decide (0≤p.2.2.2.2.2.2.2.2.2.2.1) && decide (p.2.2.2.2.2.2.2.2.2.2.1≤2147483647)
  else (p.2.2.1 == p.2.1) && (p.2.2.2.2.2.2.2.2.1 == 0) && (p.2.2.2.2.2.2.2.2.2.1 == 0) && (p.2.2.2.2.2.2.2.2.2.2.1 == 0) && !p.2.2.2.2.2.2.2.2.2.2.2.1 && !p.2.2.2.2.2.2.2.2.2.2.2.2.1)
theorem HU (p:ah.D):qy p=some (jV p):=by
 obtain ⟨i,o,sd,z,t,pw,tg,tr,pl,mi,mk,dl,bt,u⟩:=p
 unfold qy jV
 simp only [gL,Option.bind_some,cond_eq_ite,Ea]
 congr 1
 rw [Bool.eq_iff_iff]
 by_cases h1:z=2
 ·subst h1;simp;grind
 ·simp [h1];grind
theorem HV (p:ah.D):qJ p=some (jV p):=by
 obtain ⟨i,o,sd,z,t,pw,tg,tr,pl,mi,mk,dl,bt,u⟩:=p
 unfold qJ jV dr bj iO px jN bS
 simp only [dp,Option.bind_some,cond_eq_ite,Ea,bne]
 congr 1
 rw [Bool.eq_iff_iff]
 by_cases h1:z=2
 ·subst h1;simp;grind
 ·simp [h1];grind
def oU (x:au.D):Bool:=decide (-2147483647≤x.1) && decide (x.1≤2147483647) && (decide (0≤x.2.1) && decide (x.2.1≤2147483647))
theorem KN (x:au.D):sZ x=some (oU x):=by
 unfold sZ oU
 simp only [gL,Option.bind_some]
 cases (decide (-2147483647≤x.1) && decide (x.1≤2147483647)) <;> rfl
theorem Eb (x:au.D):iP x=some (!oU x):=by
 unfold iP oU bS
 simp only [jU,dp,Option.bind_some]
 have:(ia x.1 != x.1)=!(decide (-2147483647≤x.1) && decide (x.1≤2147483647)):=by
  rw [Bool.eq_iff_iff];unfold ia;simp;grind
 rw [this]
 cases (decide (-2147483647≤x.1) && decide (x.1≤2147483647)) <;> rfl
def zy {α:Type} (p:Nat→α→Bool):Nat→List α→Bool
 | _,[]=>false
 | i,x :: r=>p i x || zy p (i + 1) r
theorem mZ {α β:Type} (xs:List α) {body:Int→Option (Int⊕(Int⊕β))} (p:Nat→α→Bool) (v:β) (hlen:xs.length≤9223372036854775806)
  (hb:∀ (i:Nat) x,xs[i]?=some x→body i=bif p i x then some (.inr (.inr v)) else some (.inl (IntKind.wrap .i64 ((i:Int) + 1))))
  (he:body xs.length=some (.inr (.inl xs.length))) :
  al body 0=some (bif zy p 0 xs then .inr v else .inl xs.length):=by
 have main:∀ (r:List α) (k:Nat),xs.drop k=r→k≤xs.length→al body k=some (bif zy p k r then .inr v else .inl xs.length):=by
  intro r
  induction r with
  | nil =>
   intro k h hk
   have:k=xs.length:=by
    have:=congrArg List.length h
    simp at this
    omega
   subst this
   exact aI he
  | cons x r ih =>
   intro k h hk
   have hlt:k < xs.length:=by
    have:=congrArg List.length h
    simp at this
    omega
   have hx:xs[k]?=some x:=by
    have:=congrArg (fun l=>l[0]?) h
    simpa using this
   have hr:xs.drop (k + 1)=r:=by
    have:=congrArg List.tail h
    simpa using this
   unfold zy
   cases hp:p k x with
   | true =>
    refine aI ?_
    rw [hb k x hx,hp]
    rfl
   | false =>
    refine aF (s':=((k + 1:Nat):Int)) ?_ (ih (k + 1) hr hlt)
    rw [hb k x hx,hp]
    simp only [cond_false]
    rw [aB (by omega) (by omega)]
    rfl
 have:=main xs 0 rfl (by omega)
 simpa using this
theorem z6 {α:Type} (p:α→Bool):∀ (xs:List α) (k:Nat),zy (fun _ x=>p x) k xs=xs.any p
 | [],_=>rfl
 | x :: xs,k=>by simp [zy,z6 p xs]
theorem FU {α:Type} (p:α→Bool) (xs:List α):decide ((match bD p xs with | some k=>(k:Int) | none=>-1)≥0)=xs.any p:=by
 obtain ⟨h1,h2⟩:=eh p xs
 cases hf:bD p xs with
 | none =>
  have:xs.any p=false:=by rw [List.any_eq_false];exact fun x hx=>by simp [h1 hf x hx]
  rw [this];rfl
 | some k =>
  obtain ⟨x,g1,g2,_⟩:=h2 k hf
  have:xs.any p=true:=by rw [List.any_eq_true];exact ⟨x,List.mem_of_getElem? g1,g2⟩
  rw [this]
  simp
def sq (s:ae.D) (i:Nat) (x:ah.D):Bool :=
 !jV x || decide (x.2.1≥(s.2.1.length:Int)) || decide (x.2.2.1≥(s.2.1.length:Int)) || decide (x.2.2.2.2.1 > s.2.2.2.1) || (decide (0 < i) && (s.1[i - 1]?).any (fun y=>decide (y.1≥x.1)))
def bk (s:ae.D):Bool :=
 decide ((s.1.length:Int)≤8) && (decide (2≤(s.2.1.length:Int)) && decide ((s.2.1.length:Int)≤3)) && (decide (0≤s.2.2.1) && decide (s.2.2.1≤(s.2.1.length:Int) - 1)) && (decide (0≤s.2.2.2.1) && decide (s.2.2.2.1≤9999)) && !zy (sq s) 0 s.1 && !s.2.1.any (fun x=>!oU x)
theorem KO {s:ae.D} {i:Nat} {x:ah.D} (hx:s.1[i]?=some x) (hl:s.1.length≤33554432) {R:Type} (κ:ah.D→Option R) (h:0 < i):∃ y,s.1[i - 1]?=some y∧idx s.1 (IntKind.wrap .i64 ((i:Int) - 1)) κ=κ y:=by
 have hlt:=(List.getElem?_eq_some_iff.1 hx).1
 have hy:s.1[i - 1]?=some (s.1[i - 1]'(by omega)):=List.getElem?_eq_getElem (by omega)
 refine ⟨_,hy,?_⟩
 rw [aB (by omega) (by omega),show ((i:Int) - 1)=((i - 1:Nat):Int) by omega]
 exact ay hy
theorem Mv {x:ah.D} (h:jV x=true):0≤x.2.1∧0≤x.2.2.1:=by
 unfold jV at h
 simp only [Bool.and_eq_true,decide_eq_true_eq] at h
 exact ⟨h.1.1.1.1.1.1.1.1.1.1.1.1.1.1.2,h.1.1.1.1.1.1.1.1.1.1.1.1.2⟩
theorem RY {a n:Int} (h:0≤a):(decide (0≤a) && decide (a≤n - 1))=!decide (a≥n):=by
 by_cases hh:a≥n
 ·rw [decide_eq_true hh,decide_eq_false (p:=a≤n - 1) (by omega),Bool.and_false];rfl
 ·rw [decide_eq_false hh,decide_eq_true (p:=a≤n - 1) (by omega),decide_eq_true h];rfl
theorem Rh (xs:List au.D) (hl:xs.length≤33554432) (p:au.D→Bool) (q:(au.D×Unit)→Option Bool) (hq:∀ x,q (x,())=some (p x)) :
  df xs q=some (match bD p xs with | some k=>(k:Int) | none=>-1):=by
 unfold df
 rw [dH xs (body:=cA xs q) p (fun i=>i) (by omega) (fun i x hx=>?_) ?_]
 ·cases bD p xs <;> rfl
 ·unfold cA
  simp
 ·unfold cA
  have hlt:=(List.getElem?_eq_some_iff.1 hx).1
  have:((i:Int) < (xs.length:Int)):=by omega
  simp only [this,decide_true,cond_true,ay hx,hq,Option.bind_some]
theorem dz (s:ae.D) (hp:s.1.length≤33554432) (hs:s.2.1.length≤33554432):db s=some (bk s):=by
 unfold db bk
 simp only [gL,Option.bind_some]
 rw [aB (by omega) (by omega)]
 have hd:decide ((s.1.length:Int) > 8)=!decide ((s.1.length:Int)≤8):=by rw [Bool.eq_iff_iff];simp
 rw [hd]
 cases decide ((s.1.length:Int)≤8)
 ·rfl
 cases (decide (2≤(s.2.1.length:Int)) && decide ((s.2.1.length:Int)≤3))
 ·rfl
 cases (decide (0≤s.2.2.1) && decide (s.2.2.1≤(s.2.1.length:Int) - 1))
 ·rfl
 cases (decide (0≤s.2.2.2.1) && decide (s.2.2.2.1≤9999))
 ·rfl
 simp only [Bool.not_true,cond_false,Option.bind_some,Bool.true_and]
 rw [mZ s.1 (body:=j7 s) (sq s) false (by omega) (fun i x hx=>?_) (by unfold j7;simp)]
 ·rw [mZ s.2.1 (body:=j8 s) (fun _ x=>!oU x) false (by omega) (fun i x hx=>?_) (by unfold j8;simp),z6]
  ·cases zy (sq s) 0 s.1 <;> cases s.2.1.any (fun x=>!oU x) <;> rfl
  ·have hlt:=(List.getElem?_eq_some_iff.1 hx).1
   have hil:((i:Int) < (s.2.1.length:Int)):=by omega
   unfold j8
   simp only [hil,decide_true,cond_true,ay hx,KN,Option.bind_some]
 ·have hlt:=(List.getElem?_eq_some_iff.1 hx).1
  have hil:((i:Int) < (s.1.length:Int)):=by omega
  unfold j7 sq
  simp only [hil,decide_true,cond_true,ay hx,HU,Option.bind_some]
  by_cases hi:0 < i
  ·obtain ⟨y,hy,hk⟩:=KO hx hp (fun x8=>bif decide (x8.1≥x.1) then some true else bif decide (x.2.1≥(s.2.1.length:Int)) then some true else bif decide (x.2.2.1≥(s.2.1.length:Int)) then some true else some (decide (x.2.2.2.2.1 > s.2.2.2.1))) hi
   have h1:decide ((i:Int) > 0)=true:=by simp;omega
   have h2:decide (0 < i)=true:=by simpa using hi
   rw [h1,h2,hy]
   simp only [cond_true,hk,Option.any_some]
   cases jV x <;> cases decide (y.1≥x.1) <;> cases decide (x.2.1≥(s.2.1.length:Int)) <;> cases decide (x.2.2.1≥(s.2.1.length:Int)) <;> cases decide (x.2.2.2.2.1 > s.2.2.2.1) <;> rfl
  ·have h1:decide ((i:Int) > 0)=false:=by simp;omega
   have h2:decide (0 < i)=false:=by simpa using hi
   rw [h1,h2]
   simp only [cond_false]
   cases jV x <;> cases decide (x.2.1≥(s.2.1.length:Int)) <;> cases decide (x.2.2.1≥(s.2.1.length:Int)) <;> cases decide (x.2.2.2.2.1 > s.2.2.2.1) <;> rfl
theorem cQ (s:ae.D) (hp:s.1.length≤33554432) (hs:s.2.1.length≤33554432):dg s=some (bk s):=by
 unfold dg bk aQ px
 simp only [dp,Option.bind_some]
 rw [aB (by omega) (by omega)]
 have hd:decide ((s.1.length:Int) > 8)=!decide ((s.1.length:Int)≤8):=by rw [Bool.eq_iff_iff];simp
 rw [hd]
 cases decide ((s.1.length:Int)≤8)
 ·rfl
 cases (decide (2≤(s.2.1.length:Int)) && decide ((s.2.1.length:Int)≤3))
 ·rfl
 cases (decide (0≤s.2.2.1) && decide (s.2.2.1≤(s.2.1.length:Int) - 1))
 ·rfl
 cases (decide (0≤s.2.2.2.1) && decide (s.2.2.2.1≤9999))
 ·rfl
 simp only [Bool.not_true,cond_false,Option.bind_some,Bool.true_and]
 have hc:cB s.2.1 (fun q=>iP q.1)=some (s.2.1.any (fun x=>!oU x)):=by
  unfold cB
  rw [Rh s.2.1 hs (fun x=>!oU x) _ (fun x=>Eb x),Option.bind_some,FU]
 rw [mZ s.1 (body:=ku s) (sq s) false (by omega) (fun i x hx=>?_) (by unfold ku;simp)]
 ·rw [hc]
  cases zy (sq s) 0 s.1 <;> cases s.2.1.any (fun x=>!oU x) <;> rfl
 ·have hlt:=(List.getElem?_eq_some_iff.1 hx).1
  have hil:((i:Int) < (s.1.length:Int)):=by omega
  unfold ku sq aQ
  simp only [hil,decide_true,cond_true,ay hx,HV,dp,Option.bind_some]
  rw [aB (n:=(s.2.1.length:Int) - 1) (by omega) (by omega)]
  cases hok:jV x
  ·rfl
  obtain ⟨g1,g2⟩:=Mv hok
  have e1:(decide (0≤x.2.1) && decide (x.2.1≤(s.2.1.length:Int) - 1))=!decide (x.2.1≥(s.2.1.length:Int)):=RY g1
  have e2:(decide (0≤x.2.2.1) && decide (x.2.2.1≤(s.2.1.length:Int) - 1))=!decide (x.2.2.1≥(s.2.1.length:Int)):=RY g2
  rw [e1,e2]
  by_cases hi:0 < i
  ·obtain ⟨y,hy,hk⟩:=KO hx hp (fun x10=>some (decide (x10.1≥x.1))) hi
   have h1:decide ((i:Int) > 0)=true:=by simp;omega
   have h2:decide (0 < i)=true:=by simpa using hi
   rw [h1,h2,hy]
   simp only [cond_true,hk,Option.any_some]
   cases decide (y.1≥x.1) <;> cases decide (x.2.1≥(s.2.1.length:Int)) <;> cases decide (x.2.2.1≥(s.2.1.length:Int)) <;> cases decide (x.2.2.2.2.1 > s.2.2.2.1) <;> rfl
  ·have h1:decide ((i:Int) > 0)=false:=by simp;omega
   have h2:decide (0 < i)=false:=by simpa using hi
   rw [h1,h2]
   simp only [cond_false]
   cases decide (x.2.1≥(s.2.1.length:Int)) <;> cases decide (x.2.2.1≥(s.2.1.length:Int)) <;> cases decide (x.2.2.2.2.1 > s.2.2.2.1) <;> rfl
def aO (e:ac.D):Bool :=
 let piece:=decide (1≤e.2.2.1) && decide (e.2.2.1≤99) && (e.2.2.2.1 == -1)
 let side:=(e.2.2.1 == 0) && decide (0≤e.2.2.2.1) && decide (e.2.2.2.1≤2)
 decide (0≤e.2.2.2.2.1) && decide (e.2.2.2.2.1≤2147483647) && (
  if e.1=1 then decide (1≤e.2.1) && decide (e.2.1≤99) && (piece || side) && (e.2.2.2.2.2.1 == 0) && !e.2.2.2.2.2.2.1
  else if e.1=2 then (e.2.1 == 0) && piece && decide (1≤e.2.2.2.2.2.1) && decide (e.2.2.2.2.2.1≤4) && decide (e.2.2.2.2.1≤99) && ((e.2.2.2.2.2.1 == 2) || (e.2.2.2.2.1 == 0) && !e.2.2.2.2.2.2.1)
  else if e.1=3∨e.1=4 then (e.2.1 == 0) && side && (e.2.2.2.2.2.1 == 0) && !e.2.2.2.2.2.2.1
  else if e.1=5∨e.1=6 then (e.2.1 == 0) && piece && (e.2.2.2.2.2.1 == 0) && !e.2.2.2.2.2.2.1
  else false)
theorem bB (e:ac.D):bW e=some (aO e):=by
 obtain ⟨k,s,p,d,n,z,bt,u⟩:=e
 unfold bW aO
 simp only [gL,Option.bind_some,cond_eq_ite,Ea]
 congr 1
 rw [Bool.eq_iff_iff]
 by_cases h1:k=1
 ·subst h1;simp;grind
 by_cases h2:k=2
 ·subst h2;simp;grind
 by_cases h3:k=3
 ·subst h3;simp;grind
 by_cases h4:k=4
 ·subst h4;simp;grind
 by_cases h5:k=5
 ·subst h5;simp;grind
 by_cases h6:k=6
 ·subst h6;simp;grind
 simp [h1,h2,h3,h4,h5,h6]
theorem bR (e:ac.D):bM e=some (aO e):=by
 obtain ⟨k,s,p,d,n,z,bt,u⟩:=e
 unfold bM aO bS jd oM dr iO bj
 simp only [dp,Option.bind_some,cond_eq_ite,Ea,bne]
 congr 1
 rw [Bool.eq_iff_iff]
 by_cases h1:k=1
 ·subst h1;simp;grind
 by_cases h2:k=2
 ·subst h2;simp;grind
 by_cases h3:k=3
 ·subst h3;simp;grind
 by_cases h4:k=4
 ·subst h4;simp;grind
 by_cases h5:k=5
 ·subst h5;simp;grind
 by_cases h6:k=6
 ·subst h6;simp;grind
 simp [h1,h2,h3,h4,h5,h6]
theorem A8 {k s p d n z:Int} {bt:Bool} {u:Unit} (h:aO (k,s,p,d,n,z,bt,u)=true) :
  (k=1∧(1≤p∨p=0∧0≤d))∨(k=2∧1≤p)∨((k=3∨k=4)∧p=0∧0≤d)∨((k=5∨k=6)∧1≤p):=by
 unfold aO at h
 by_cases h1:k=1
 ·subst h1;simp at h;grind
 by_cases h2:k=2
 ·subst h2;simp at h;grind
 by_cases h3:k=3
 ·subst h3;simp at h;grind
 by_cases h4:k=4
 ·subst h4;simp at h;grind
 by_cases h5:k=5
 ·subst h5;simp at h;grind
 by_cases h6:k=6
 ·subst h6;simp at h;grind
 simp [h1,h2,h3,h4,h5,h6] at h
theorem Qa (xs:List ac.D) (hl:xs.length≤33554432) (p:ac.D→Bool) (q:(ac.D×Unit)→Option Bool) (hq:∀ x,q (x,())=some (p x)) :
  bi xs q=some (match bD p xs with | some k=>(k:Int) | none=>-1):=by
 unfold bi
 rw [dH xs (body:=aY xs q) p (fun i=>i) (by omega) (fun i x hx=>?_) ?_]
 ·cases bD p xs <;> rfl
 ·unfold aY
  simp
 ·unfold aY
  have hlt:=(List.getElem?_eq_some_iff.1 hx).1
  have:((i:Int) < (xs.length:Int)):=by omega
  simp only [this,decide_true,cond_true,ay hx,hq,Option.bind_some]
theorem m7 (xs:List ac.D) (hl:xs.length≤33554432) (p:ac.D→Bool) (q:(ac.D×Unit)→Option Bool) (hq:∀ x,q (x,())=some (p x)) :
  aM xs q=some (xs.any p):=by
 unfold aM
 rw [Qa xs hl p q hq,Option.bind_some]
 obtain ⟨h1,h2⟩:=eh p xs
 cases hf:bD p xs with
 | none =>
  have:xs.any p=false:=by rw [List.any_eq_false];exact fun x hx=>by simp [h1 hf x hx]
  rw [this];rfl
 | some k =>
  obtain ⟨x,g1,g2,_⟩:=h2 k hf
  have:xs.any p=true:=by rw [List.any_eq_true];exact ⟨x,List.mem_of_getElem? g1,g2⟩
  rw [this]
  simp
theorem ri {α:Type} {c:Prop} [Decidable c] (a b:α):(if c then some a else some b)=some (if c then a else b):=by split <;> rfl
def kJ (e:ac.D):Bool:=aO e || ((e.1 != 2) && (e.2.2.2.2.1 == -1) && aO (e.1,e.2.1,e.2.2.1,e.2.2.2.1,0,e.2.2.2.2.2))
theorem zz (e:ac.D):tC e=some (kJ e):=by
 unfold tC kJ
 simp only [bR,Option.bind_some]
 cases aO e <;> cases (e.1 != 2) <;> cases (e.2.2.2.2.1 == -1) <;> rfl
theorem OD (e:ac.D):tc e=some (kJ e):=by
 unfold tc kJ
 simp only [bB,Option.bind_some]
 cases h:(e.2.2.2.2.1 == -1)
 ·simp
 ·have:aO e=false:=by
   unfold aO
   have h1:e.2.2.2.2.1=-1:=by simpa using h
   have:decide (0≤e.2.2.2.2.1)=false:=by rw [h1];rfl
   rw [this];rfl
  rw [this]
  cases hk:(e.1 != 2) <;> simp [this,bB]
theorem T0 (a:bm.D) (hl:a.2.2.2.2.2.2.1.length≤33554432):al (jJ a) 0=some (bif a.2.2.2.2.2.2.1.any (fun e=>!kJ e) then .inr false else .inl (a.2.2.2.2.2.2.1.length:Int)):=by
 rw [mZ a.2.2.2.2.2.2.1 (body:=jJ a) (fun _ e=>!kJ e) false (by omega) (fun i x hx=>?_) (by unfold jJ;simp),z6]
 have hlt:=(List.getElem?_eq_some_iff.1 hx).1
 have hil:((i:Int) < (a.2.2.2.2.2.2.1.length:Int)):=by omega
 unfold jJ
 simp only [hil,decide_true,cond_true,ay hx,OD,Option.bind_some]
theorem Sv (k n p s z:Int) (bt:Bool) (L:List ac.D) (u:Unit) (hl:L.length≤33554432):∃ b,rI (k,n,p,s,z,bt,L,u)=some b∧eO (k,n,p,s,z,bt,L,u)=some b:=by
 have hW:=T0 (k,n,p,s,z,bt,L,u) hl
 have hC:aM L (fun q=>je q.1)=some (L.any (fun e=>!kJ e)):=m7 L hl (fun e=>!kJ e) _ (fun x=>by simp only [je,zz,Option.bind_some])
 simp only at hW
 unfold rI eO qz dr bj iO
 simp only [hW,hC,gL,dp,Option.bind_some]
 have hz:((L.length:Int) == 0)=!decide ((L.length:Int) > 0):=by
  by_cases h:(L.length:Int) > 0
  ·rw [decide_eq_true h];simp only [Bool.not_true];rw [beq_eq_false_iff_ne];omega
  ·rw [decide_eq_false h];simp only [Bool.not_false];rw [beq_iff_eq];omega
 simp only [hz,bne]
 clear hW hC hz
 generalize L.any (fun e=>!kJ e)=q
 generalize hM:(decide (1≤(L.length:Int)) && decide ((L.length:Int)≤3))=m3
 generalize decide ((L.length:Int) > 0)=m0
 by_cases h1:k=1
 ·subst h1
  simp only [Int.reduceBEq,beq_self_eq_true,cond_true,cond_false,Option.bind_some,Bool.not_true,Bool.not_false]
  cases (n == 0) <;> cases (p == 0) <;> cases (s == -1) <;> cases (z == 0) <;> cases bt <;> cases m0 <;> exact ⟨_,rfl,rfl⟩
 by_cases h2:k=2
 ·subst h2
  simp only [Int.reduceBEq,beq_self_eq_true,cond_true,cond_false,Option.bind_some,Bool.not_true,Bool.not_false]
  cases (n == 0) <;> cases (p == 0) <;> cases (s == -1) <;> cases (z == 0) <;> cases bt <;> cases m0 <;> exact ⟨_,rfl,rfl⟩
 by_cases h3:k=3
 ·subst h3
  simp only [Int.reduceBEq,beq_self_eq_true,cond_true,cond_false,Option.bind_some,Bool.not_true,Bool.not_false]
  cases (decide (1≤n) && decide (n≤2147483647)) <;> cases (p == 0) <;> cases (s == -1) <;> cases (z == 0) <;> cases bt <;> cases m0 <;> exact ⟨_,rfl,rfl⟩
 by_cases h4:k=4
 ·subst h4
  simp only [Int.reduceBEq,beq_self_eq_true,cond_true,cond_false,Option.bind_some,Bool.not_true,Bool.not_false]
  cases (n == 0) <;> cases (p == 0) <;> cases (s == -1) <;> cases (z == 0) <;> cases bt <;> cases m0 <;> exact ⟨_,rfl,rfl⟩
 by_cases h5:k=5
 ·subst h5
  simp only [Int.reduceBEq,beq_self_eq_true,cond_true,cond_false,Option.bind_some,Bool.not_true,Bool.not_false]
  cases (n == 0) <;> cases (p == 0) <;> cases (s == -1) <;> cases (z == 0) <;> cases bt <;> cases m0 <;> exact ⟨_,rfl,rfl⟩
 by_cases h6:k=6
 ·subst h6
  simp only [Int.reduceBEq,beq_self_eq_true,cond_true,cond_false,Option.bind_some,Bool.not_true,Bool.not_false]
  cases (n == 0) <;> cases (p == 0) <;> cases (s == -1) <;> cases (z == 0) <;> cases bt <;> cases m0 <;> cases (decide (1≤p) && decide (p≤99)) <;> cases (decide (0≤s) && decide (s≤2)) <;> exact ⟨_,rfl,rfl⟩
 by_cases h7:k=7
 ·subst h7
  simp only [Int.reduceBEq,beq_self_eq_true,cond_true,cond_false,Option.bind_some,Bool.not_true,Bool.not_false]
  cases (n == 0) <;> cases (p == 0) <;> cases (s == -1) <;> cases bt <;> cases m0 <;> cases (decide (1≤z) && decide (z≤4)) <;> exact ⟨_,rfl,rfl⟩
 by_cases h8:k=8
 ·subst h8
  simp only [Int.reduceBEq,beq_self_eq_true,cond_true,cond_false,Option.bind_some,Bool.not_true,Bool.not_false]
  cases (decide (0≤n) && decide (n≤99)) <;> cases (p == 0) <;> cases (s == -1) <;> cases (z == 0) <;> cases m0 <;> exact ⟨_,rfl,rfl⟩
 by_cases h9:k=9
 ·subst h9
  simp only [Int.reduceBEq,beq_self_eq_true,cond_true,cond_false,Option.bind_some,Bool.not_true,Bool.not_false]
  cases (n == 0) <;> cases (p == 0) <;> cases (s == -1) <;> cases (z == 0) <;> cases bt <;> cases m3 <;> cases q <;> exact ⟨_,rfl,rfl⟩
 have e1:(k == 1)=false:=by rw [beq_eq_false_iff_ne];exact h1
 have e2:(k == 2)=false:=by rw [beq_eq_false_iff_ne];exact h2
 have e3:(k == 3)=false:=by rw [beq_eq_false_iff_ne];exact h3
 have e4:(k == 4)=false:=by rw [beq_eq_false_iff_ne];exact h4
 have e5:(k == 5)=false:=by rw [beq_eq_false_iff_ne];exact h5
 have e6:(k == 6)=false:=by rw [beq_eq_false_iff_ne];exact h6
 have e7:(k == 7)=false:=by rw [beq_eq_false_iff_ne];exact h7
 have e8:(k == 8)=false:=by rw [beq_eq_false_iff_ne];exact h8
 have e9:(k == 9)=false:=by rw [beq_eq_false_iff_ne];exact h9
 simp only [e1,e2,e3,e4,e5,e6,e7,e8,e9,cond_true,cond_false,Option.bind_some,Bool.not_true,Bool.not_false]
 cases (n == 0) <;> cases (p == 0) <;> cases (s == -1) <;> cases (z == 0) <;> cases bt <;> cases m0 <;> exact ⟨_,rfl,rfl⟩
theorem Ed (a:bm.D) (hl:a.2.2.2.2.2.2.1.length≤33554432):∃ b,rI a=some b∧eO a=some b :=
 Sv a.1 a.2.1 a.2.2.1 a.2.2.2.1 a.2.2.2.2.1 a.2.2.2.2.2.1 a.2.2.2.2.2.2.1 a.2.2.2.2.2.2.2 hl
theorem jC {a b:Int} (h:¬ a=b):(a == b)=false:=by rw [beq_eq_false_iff_ne];exact h
theorem su (a:bm.D) (k:Int):∃ b,mc a k=some b∧dh a k=some b:=by
 unfold mc dh ln
 simp only [gL,dp,Option.bind_some]
 generalize (decide (1≤k) && decide (k≤6))=m
 cases m
 ·exact ⟨_,rfl,rfl⟩
 by_cases h1:a.1=1
 ·rw [h1];exact ⟨_,rfl,rfl⟩
 by_cases h2:a.1=2
 ·rw [h2];exact ⟨_,rfl,rfl⟩
 by_cases h3:a.1=3
 ·rw [h3];exact ⟨_,rfl,rfl⟩
 by_cases h4:a.1=4
 ·rw [h4];exact ⟨_,rfl,rfl⟩
 by_cases h5:a.1=5
 ·rw [h5];exact ⟨_,rfl,rfl⟩
 by_cases h6:a.1=6
 ·rw [h6];exact ⟨_,rfl,rfl⟩
 by_cases h7:a.1=7
 ·rw [h7];exact ⟨_,rfl,rfl⟩
 by_cases h8:a.1=8
 ·rw [h8];exact ⟨_,rfl,rfl⟩
 by_cases h9:a.1=9
 ·rw [h9];exact ⟨_,rfl,rfl⟩
 refine ⟨false,?_,?_⟩ <;> simp only [jC h1,jC h2,jC h3,jC h4,jC h5,jC h6,jC h7,jC h8,jC h9,cond_true,cond_false,Option.bind_some,Bool.not_true,Bool.not_false]
theorem Sw (k c so tr pc am z:Int) (u:Unit):∃ b,nO (k,c,so,tr,pc,am,z,u)=some b∧kU (k,c,so,tr,pc,am,z,u)=some b:=by
 unfold nO kU ln jN bS
 simp only [gL,dp,Option.bind_some,cond_eq_ite,ri]
 refine ⟨_,rfl,?_⟩
 congr 1
 rw [Bool.eq_iff_iff]
 simp
 grind
theorem zA (p:cp.D):∃ b,nO p=some b∧kU p=some b:=Sw p.1 p.2.1 p.2.2.1 p.2.2.2.1 p.2.2.2.2.1 p.2.2.2.2.2.1 p.2.2.2.2.2.2.1 p.2.2.2.2.2.2.2
theorem Qb (k n:Int) (u:Unit):∃ b,i7 (k,n,u)=some b∧gD (k,n,u)=some b:=by
 unfold i7 gD
 simp only [gL,dp,jU,Option.bind_some,cond_eq_ite,ri]
 refine ⟨_,rfl,?_⟩
 congr 1
 rw [Bool.eq_iff_iff]
 unfold ia
 simp
 grind
theorem sv (p:bc.D):∃ b,i7 p=some b∧gD p=some b:=Qb p.1 p.2.1 p.2.2
theorem Gr (x:aa.D) (hl:x.2.2.2.2.2.2.1.2.2.2.2.2.2.1.length≤33554432):∃ b,fJ x=some b∧cL x=some b:=by
 obtain ⟨b1,p1,q1⟩:=zA x.2.2.2.2.1
 obtain ⟨b2,p2,q2⟩:=sv x.2.2.2.2.2.1
 obtain ⟨b3,p3,q3⟩:=Ed x.2.2.2.2.2.2.1 hl
 obtain ⟨b4,p4,q4⟩:=su x.2.2.2.2.2.2.1 x.2.2.2.2.1.1
 unfold fJ cL dr bj
 simp only [p1,p2,p3,p4,q1,q2,q3,q4,gL,dp,Option.bind_some]
 simp only [cond_eq_ite,ri,Option.bind_some]
 refine ⟨_,rfl,?_⟩
 congr 1
 rw [Bool.eq_iff_iff]
 generalize x.2.2.2.2.2.2.1.1=ak
 generalize x.1=i
 generalize x.2.1=ow
 generalize x.2.2.1=so
 generalize x.2.2.2.1=du
 generalize x.2.2.2.2.2.2.2.1=co
 generalize x.2.2.2.2.2.2.2.2.1=on
 clear p1 p2 p3 p4 q1 q2 q3 q4 hl
 simp
 grind
noncomputable def aR (x:aa.D):Bool:=(cL x).getD false
theorem dK (x:aa.D) (hl:x.2.2.2.2.2.2.1.2.2.2.2.2.2.1.length≤33554432):cL x=some (aR x):=by
 obtain ⟨b,_,h⟩:=Gr x hl
 unfold aR;rw [h];rfl
theorem oz (x:aa.D) (hl:x.2.2.2.2.2.2.1.2.2.2.2.2.2.1.length≤33554432):fJ x=some (aR x):=by
 obtain ⟨b,h1,h⟩:=Gr x hl
 unfold aR;rw [h,h1];rfl
noncomputable def eY (xs:List aa.D) (i:Nat) (x:aa.D):Bool:=!aR x || (decide (0 < i) && (xs[i - 1]?).any (fun y=>decide (y.1≥x.1)))
theorem RZ {α R:Type} {xs:List α} {i:Nat} {x:α} (hx:xs[i]?=some x) (hl:xs.length≤33554432) (κ:α→Option R) (h:0 < i):∃ y,xs[i - 1]?=some y∧idx xs (IntKind.wrap .i64 ((i:Int) - 1)) κ=κ y:=by
 have hlt:=(List.getElem?_eq_some_iff.1 hx).1
 have hy:xs[i - 1]?=some (xs[i - 1]'(by omega)):=List.getElem?_eq_getElem (by omega)
 refine ⟨_,hy,?_⟩
 rw [aB (by omega) (by omega),show ((i:Int) - 1)=((i - 1:Nat):Int) by omega]
 exact ay hy
theorem kK (xs:List aa.D) (h:okD (.slice aa) xs):fh xs=some (!zy (eY xs) 0 xs && decide ((xs.length:Int)≤5)):=by
 have hl:xs.length≤33554432:=h.1
 unfold fh
 rw [mZ xs (body:=j9 xs) (eY xs) false (by omega) (fun i x hx=>?_) (by unfold j9;simp)]
 ·cases zy (eY xs) 0 xs <;> rfl
 ·have hlt:=(List.getElem?_eq_some_iff.1 hx).1
  have hil:((i:Int) < (xs.length:Int)):=by omega
  have hok:=(h.2 x (List.mem_of_getElem? hx)).2.2.2.2.2.2.1.2.2.2.2.2.2.1.1
  unfold j9 eY
  simp only [hil,decide_true,cond_true,ay hx,oz x hok,Option.bind_some]
  by_cases hi:0 < i
  ·obtain ⟨y,hy,hk⟩:=RZ hx hl (fun x4=>some (decide (x4.1≥x.1))) hi
   rw [decide_eq_true (p:=(i:Int) > 0) (by omega),decide_eq_true hi,hy]
   simp only [cond_true,hk,Option.any_some]
   cases aR x <;> cases decide (y.1≥x.1) <;> rfl
  ·rw [decide_eq_false (p:=(i:Int) > 0) (by omega),decide_eq_false hi]
   cases aR x <;> rfl
theorem gS (xs:List aa.D) (h:okD (.slice aa) xs):fi xs=some (!zy (eY xs) 0 xs && decide ((xs.length:Int)≤5)):=by
 have hl:xs.length≤33554432:=h.1
 unfold fi
 rw [mZ xs (body:=kv xs) (eY xs) false (by omega) (fun i x hx=>?_) (by unfold kv;simp)]
 ·cases zy (eY xs) 0 xs <;> rfl
 ·have hlt:=(List.getElem?_eq_some_iff.1 hx).1
  have hil:((i:Int) < (xs.length:Int)):=by omega
  have hok:=(h.2 x (List.mem_of_getElem? hx)).2.2.2.2.2.2.1.2.2.2.2.2.2.1.1
  unfold kv eY
  simp only [hil,decide_true,cond_true,ay hx,dK x hok,Option.bind_some]
  by_cases hi:0 < i
  ·obtain ⟨y,hy,hk⟩:=RZ hx hl (fun x4=>some (decide (x4.1≥x.1))) hi
   rw [decide_eq_true (p:=(i:Int) > 0) (by omega),decide_eq_true hi,hy]
   simp only [cond_true,hk,Option.any_some]
   cases aR x <;> cases decide (y.1≥x.1) <;> rfl
  ·rw [decide_eq_false (p:=(i:Int) > 0) (by omega),decide_eq_false hi]
   cases aR x <;> rfl
theorem Sx (x:ar.D) (hl:x.2.2.2.2.2.1.length≤33554432):al (iL x) 0=some (bif x.2.2.2.2.2.1.any (fun e=>!aO e) then .inr false else .inl (x.2.2.2.2.2.1.length:Int)):=by
 rw [mZ x.2.2.2.2.2.1 (body:=iL x) (fun _ e=>!aO e) false (by omega) (fun i y hx=>?_) (by unfold iL;simp),z6]
 have hlt:=(List.getElem?_eq_some_iff.1 hx).1
 have hil:((i:Int) < (x.2.2.2.2.2.1.length:Int)):=by omega
 unfold iL
 simp only [hil,decide_true,cond_true,ay hx,bB,Option.bind_some]
theorem Na (x:ar.D) (hl:x.2.2.2.2.2.1.length≤33554432):∃ b,pj x=some b∧lq x=some b:=by
 have hW:=Sx x hl
 have hC:aM x.2.2.2.2.2.1 (fun q=>oN q.1)=some (x.2.2.2.2.2.1.any (fun e=>!aO e)):=m7 x.2.2.2.2.2.1 hl (fun e=>!aO e) _ (fun x=>by simp only [oN,bR,Option.bind_some])
 unfold pj lq dr bj bS
 simp only [hW,hC,gL,dp,bB,bR,Option.bind_some]
 have hd:decide ((x.2.2.2.2.2.1.length:Int) > 3)=!decide ((x.2.2.2.2.2.1.length:Int)≤3):=by
  by_cases h:(x.2.2.2.2.2.1.length:Int)≤3
  ·rw [decide_eq_true h,decide_eq_false (by omega)];rfl
  ·rw [decide_eq_false h,decide_eq_true (by omega)];rfl
 rw [hd]
 clear hW hC hd
 generalize (decide (1≤x.1) && decide (x.1≤99))=c1
 generalize (decide (0≤x.2.1) && decide (x.2.1≤2))=c2
 generalize (decide (1≤x.2.2.2.1) && decide (x.2.2.2.1≤5))=c3
 generalize (decide (0≤x.2.2.1) && decide (x.2.2.1≤IntKind.wrap .i64 (x.2.2.2.1 - 1)))=c4
 generalize aO x.2.2.2.2.1=c5
 generalize decide ((x.2.2.2.2.2.1.length:Int)≤3)=c6
 generalize (decide (0≤x.2.2.2.2.2.2.1) && decide (x.2.2.2.2.2.2.1≤2147483647))=c7
 generalize (decide (0≤x.2.2.2.2.2.2.2.1) && decide (x.2.2.2.2.2.2.2.1≤4))=c8
 generalize x.2.2.2.2.2.1.any (fun e=>!aO e)=c9
 cases c1 <;> cases c2 <;> cases c3 <;> cases c4 <;> cases c5 <;> cases c6 <;> cases c7 <;> cases c8 <;> cases c9 <;> exact ⟨_,rfl,rfl⟩
noncomputable def qY (x:ar.D):Bool:=(lq x).getD false
theorem KP (x:ar.D) (hl:x.2.2.2.2.2.1.length≤33554432):lq x=some (qY x):=by
 obtain ⟨b,_,h⟩:=Na x hl
 unfold qY;rw [h];rfl
theorem KQ (x:ar.D) (hl:x.2.2.2.2.2.1.length≤33554432):pj x=some (qY x):=by
 obtain ⟨b,h1,h⟩:=Na x hl
 unfold qY;rw [h,h1];rfl
theorem Ri (xs:List ar.D) (hl:xs.length≤33554432) (p:ar.D→Bool) (q:(ar.D×Unit)→Option Bool) (hq:∀ x∈xs,q (x,())=some (p x)) :
  di xs q=some (match bD p xs with | some k=>(k:Int) | none=>-1):=by
 unfold di
 rw [dH xs (body:=cC xs q) p (fun i=>i) (by omega) (fun i x hx=>?_) ?_]
 ·cases bD p xs <;> rfl
 ·unfold cC
  simp
 ·unfold cC
  have hlt:=(List.getElem?_eq_some_iff.1 hx).1
  have:((i:Int) < (xs.length:Int)):=by omega
  simp only [this,decide_true,cond_true,ay hx,hq x (List.mem_of_getElem? hx),Option.bind_some]
theorem Sy (g:T_Game.D) (h:okD T_Game g):∃ b,td g=some b∧lr g=some b:=by
 have hl:g.2.2.2.2.2.1.length≤33554432:=h.2.2.2.2.2.1.1
 have hT:∀ x∈g.2.2.2.2.2.1,x.2.2.2.2.2.1.length≤33554432:=fun x hx=>(h.2.2.2.2.2.1.2 x hx).2.2.2.2.2.1.1
 have hW:al (iM g) 0=some (bif g.2.2.2.2.2.1.any (fun e=>!qY e) then .inr false else .inl (g.2.2.2.2.2.1.length:Int)):=by
  rw [mZ g.2.2.2.2.2.1 (body:=iM g) (fun _ e=>!qY e) false (by omega) (fun i y hx=>?_) (by unfold iM;simp),z6]
  have hlt:=(List.getElem?_eq_some_iff.1 hx).1
  have hil:((i:Int) < (g.2.2.2.2.2.1.length:Int)):=by omega
  unfold iM
  simp only [hil,decide_true,cond_true,ay hx,KQ y (hT y (List.mem_of_getElem? hx)),Option.bind_some]
 have hC:cD g.2.2.2.2.2.1 (fun q=>oO q.1)=some (g.2.2.2.2.2.1.any (fun e=>!qY e)):=by
  unfold cD
  rw [Ri g.2.2.2.2.2.1 hl (fun e=>!qY e) _ (fun x hx=>by simp only [oO,KP x (hT x hx),Option.bind_some]),Option.bind_some,FU]
 unfold td lr
 simp only [hW,hC,dz g.1 h.1.1.1 h.1.2.1.1,cQ g.1 h.1.1.1 h.1.2.1.1,kK _ h.2.1,gS _ h.2.1,Option.bind_some]
 generalize g.2.2.2.2.2.1.any (fun e=>!qY e)=c1
 generalize bk g.1=c2
 generalize (!zy (eY g.2.1) 0 g.2.1 && decide ((g.2.1.length:Int)≤5))=c3
 cases c1 <;> cases c2 <;> cases c3 <;> exact ⟨_,rfl,rfl⟩
def eF (s:ae.D) (a:Int):Int:=match bD (fun (x:ah.D)=>x.1 == a) s.1 with | some k=>(k:Int) | none=>-1
theorem jW (s:ae.D) (a:Int):eF s a=-1∨∃ (k:Nat) (x:ah.D),eF s a=k∧s.1[k]?=some x∧x.1=a:=by
 unfold eF
 obtain ⟨h1,h2⟩:=eh (fun (x:ah.D)=>x.1 == a) s.1
 cases hf:bD (fun (x:ah.D)=>x.1 == a) s.1 with
 | none=>exact .inl rfl
 | some k =>
  obtain ⟨x,g1,g2,_⟩:=h2 k hf
  exact .inr ⟨k,x,rfl,g1,by simpa using g2⟩
theorem eZ (s:ae.D) (a:Int) (h:s.1.length≤33554432):ew s a=some (eF s a):=by
 unfold ew eF
 rw [dH s.1 (body:=kd s a) (fun (x:ah.D)=>x.1 == a) (fun i=>i) (by omega) (fun i x hx=>?_) ?_]
 ·cases bD (fun (x:ah.D)=>x.1 == a) s.1 <;> rfl
 ·unfold kd
  simp
 ·unfold kd
  have hlt:=(List.getElem?_eq_some_iff.1 hx).1
  have:((i:Int) < (s.1.length:Int)):=by omega
  simp only [this,decide_true,cond_true,ay hx]
theorem Qc (xs:List ah.D) (hl:xs.length≤33554432) (p:ah.D→Bool) (q:(ah.D×Unit)→Option Bool) (hq:∀ x,q (x,())=some (p x)) :
  cW xs q=some (match bD p xs with | some k=>(k:Int) | none=>-1):=by
 unfold cW
 rw [dH xs (body:=cn xs q) p (fun i=>i) (by omega) (fun i x hx=>?_) ?_]
 ·cases bD p xs <;> rfl
 ·unfold cn
  simp
 ·unfold cn
  have hlt:=(List.getElem?_eq_some_iff.1 hx).1
  have:((i:Int) < (xs.length:Int)):=by omega
  simp only [this,decide_true,cond_true,ay hx,hq,Option.bind_some]
theorem fd (s:ae.D) (a:Int) (h:s.1.length≤33554432):fj s a=some (eF s a):=by
 unfold fj eF
 rw [Qc s.1 h (fun (x:ah.D)=>x.1 == a) _ (fun x=>rfl)]
 rfl
theorem lA (p:ah.D) (t:Int):ci p t=aG p t:=by
 unfold ci aG
 cases h1:t == 1 <;> cases h2:t == 2 <;> cases h4:t == 4 <;> cases h8:t == 8 <;> cases h16:t == 16 <;> cases h32:t == 32 <;> simp only [cond_true,cond_false,Option.bind_some]
theorem jX (p:ah.D) (t:Int):∃ b,ci p t=some b:=by
 unfold ci
 simp only [cond_eq_ite]
 repeat' split
 all_goals exact ⟨_,rfl⟩
theorem wt (a b:Int):dW a b=some (zx a b):=by unfold dW;simp only [ud,Option.bind_some];rfl
theorem wu (a b:Int):aZ a b=some (zx a b):=by unfold aZ;simp only [jU,Option.bind_some];rfl
theorem wv (a b:Int):jb a b=some (A7 a b):=by unfold jb;simp only [ud,Option.bind_some];rfl
theorem ww (a b:Int):gi a b=some (A7 a b):=by unfold gi;simp only [jU,Option.bind_some];rfl
theorem Mw (xs:List ah.D) (h:xs.length≤33554432):dX xs=some xs:=by
 unfold dX
 rw [if_pos (by simp only [aC,List.length_nil];omega)]
 rfl
theorem OE (xs:List au.D) (h:xs.length≤33554432):eC xs=some xs:=by
 unfold eC
 rw [if_pos (by simp only [aC,List.length_nil];omega)]
 rfl
theorem fA (s:ae.D) (hp:s.1.length≤33554432) (hs:s.2.1.length≤33554432):cJ s=some s:=by
 unfold cJ
 simp only [Mw _ hp,OE _ hs,Option.bind_some]
theorem gM (s:ae.D) (hp:s.1.length≤33554432) (hs:s.2.1.length≤33554432):eK s=some s:=by
 unfold eK
 rw [if_pos (by simp only [aC,List.length_nil];omega),if_pos (by simp only [aC,List.length_nil];omega)]
 rfl
def gT (a b:ae.D):Prop:=a.1.length=b.1.length∧a.2.1.length=b.2.1.length
def KR (x:ah.D) (v:ac.D) (c:Int):ah.D :=
 bif v.2.2.2.2.2.1 == 2 then (x.1,x.2.1,x.2.1,v.2.2.2.2.2.1,c,x.2.2.2.2.2.1,x.2.2.2.2.2.2.1,x.2.2.2.2.2.2.2.1,v.2.2.2.2.1,0,0,false,v.2.2.2.2.2.2)
 else (x.1,x.2.1,x.2.1,v.2.2.2.2.2.1,c,x.2.2.2.2.2.1,x.2.2.2.2.2.2.1,x.2.2.2.2.2.2.2.1,0,0,0,false,false,())
def T4 (s:ae.D) (v:ac.D) (r:ae.D×(Bool×Unit)):Prop :=
 (r.2.1=false∧r.1=s)∨(r.2.1=true∧bk s=true∧aO v=true∧v.1=2∧∃ (k:Nat) (x:ah.D),eF s v.2.2.1=k∧s.1[k]?=some x∧x.1=v.2.2.1∧(x.2.2.2.1 == v.2.2.2.2.2.1)=false∧r.1=(s.1.set k (KR x v s.2.2.2.1),s.2))
theorem Sz (s:ae.D) (v:ac.D) (hp:s.1.length≤33554432) (hs:s.2.1.length≤33554432):∃ r,nU s v=some r∧wh s v=some r∧T4 s v r:=by
 unfold nU wh
 simp only [gM s hp hs,fA s hp hs,eZ s _ hp,fd s _ hp,dz s hp hs,cQ s hp hs,bB,bR,Option.bind_some]
 cases h1:bk s
 ·exact ⟨_,rfl,rfl,.inl ⟨rfl,rfl⟩⟩
 cases h2:aO v
 ·exact ⟨_,rfl,rfl,.inl ⟨rfl,rfl⟩⟩
 cases h3:(v.1 != 2)
 case true=>exact ⟨_,rfl,rfl,.inl ⟨rfl,rfl⟩⟩
 have h3:v.1=2:=by simpa using h3
 rcases jW s v.2.2.1 with h | ⟨k,x,g1,g2,g3⟩
 ·rw [h];exact ⟨_,rfl,rfl,.inl ⟨rfl,rfl⟩⟩
 ·rw [g1,bb (by omega)]
  simp only [cond_false,Bool.not_true,Option.bind_some,ay g2,Int.toNat_natCast,g2]
  cases h4:(x.2.2.2.1 == v.2.2.2.2.2.1)
  ·simp only [cond_false]
   have e1:∀ a b,rP x a b=some (x.1,x.2.1,x.2.1,a,b,x.2.2.2.2.2.1,x.2.2.2.2.2.2.1,x.2.2.2.2.2.2.2.1,0,0,0,false,false,()):=fun a b=>rfl
   have e2:∀ a b,sh x a b=some (x.1,x.2.1,x.2.1,a,b,x.2.2.2.2.2.1,x.2.2.2.2.2.2.1,x.2.2.2.2.2.2.2.1,0,0,0,false,false,()):=fun a b=>rfl
   simp only [e1,e2,Option.bind_some]
   refine ⟨((s.1.set k (KR x v s.2.2.2.1),s.2),true,()),?_,?_,.inr ⟨rfl,h1,h2,h3,k,x,g1,g2,g3,h4,rfl⟩⟩ <;> unfold KR <;> cases (v.2.2.2.2.2.1 == 2) <;> rfl
  ·exact ⟨_,rfl,rfl,.inl ⟨rfl,rfl⟩⟩
theorem OF {s:ae.D} {d:Int} (h0:0≤d) (h:d < (s.2.1.length:Int)):∃ (j:Nat) (x:au.D),d=j∧s.2.1[j]?=some x:=by
 obtain ⟨j,rfl⟩:=Int.eq_ofNat_of_zero_le h0
 exact ⟨j,s.2.1[j]'(by omega),rfl,List.getElem?_eq_getElem (by omega)⟩
def U1 (s:ae.D) (k p d n:Int) (ev:Bool) (r:ae.D×(Bool×Unit)):Prop :=
 (r.2.1=false∧r.1=s)∨(r.2.1=true∧bk s=true∧ev=true ∧
  ((∃ (j:Nat) (x:au.D),(p=0∧d=j∧s.2.1[j]?=some x)∧((k=3∧r.1=(s.1,s.2.1.set j (zx x.1 n,x.2),s.2.2))∨(k=4∧r.1=(s.1,s.2.1.set j (A7 x.1 n,x.2),s.2.2)))) ∨
   (∃ (i:Nat) (x:ah.D),(eF s p=i∧s.1[i]?=some x∧(x.2.2.2.1 == 2)=true) ∧
   ((k=5∧r.1=(s.1.set i (x.1,x.2.1,x.2.2.1,x.2.2.2.1,x.2.2.2.2.1,x.2.2.2.2.2.1,x.2.2.2.2.2.2.1,x.2.2.2.2.2.2.2.1,zx x.2.2.2.2.2.2.2.2.1 n,x.2.2.2.2.2.2.2.2.2),s.2)) ∨
    (k=6∧r.1=(s.1.set i (x.1,x.2.1,x.2.2.1,x.2.2.2.1,x.2.2.2.2.1,x.2.2.2.2.2.1,x.2.2.2.2.2.2.1,x.2.2.2.2.2.2.2.1,x.2.2.2.2.2.2.2.2.1,zx x.2.2.2.2.2.2.2.2.2.1 n,x.2.2.2.2.2.2.2.2.2.2),s.2))))))
theorem SA (s:ae.D) (k sr p d n z:Int) (bt:Bool) (u:Unit) (hp:s.1.length≤33554432) (hs:s.2.1.length≤33554432):∃ r,uK s (k,sr,p,d,n,z,bt,u)=some r∧uX s (k,sr,p,d,n,z,bt,u)=some r∧U1 s k p d n (aO (k,sr,p,d,n,z,bt,u)) r:=by
 unfold uK uX
 simp only [gM s hp hs,fA s hp hs,dz s hp hs,cQ s hp hs,bB,bR,Option.bind_some]
 cases hs0:bk s
 ·exact ⟨_,rfl,rfl,.inl ⟨rfl,rfl⟩⟩
 cases hv:aO (k,sr,p,d,n,z,bt,u)
 ·exact ⟨_,rfl,rfl,.inl ⟨rfl,rfl⟩⟩
 unfold mE aQ fx
 simp only [dp,eZ s _ hp,fd s _ hp,wt,wu,wv,ww,Option.bind_some,Bool.not_true,cond_false]
 rw [aB (n:=(s.2.1.length:Int) - 1) (by omega) (by omega)]
 rcases A8 hv with ⟨rfl,_⟩ | ⟨rfl,_⟩ | ⟨hk,rfl,hd⟩ | ⟨hk,h1⟩
 ·exact ⟨_,rfl,rfl,.inl ⟨rfl,rfl⟩⟩
 ·exact ⟨_,rfl,rfl,.inl ⟨rfl,rfl⟩⟩
 ·by_cases hlt:d < (s.2.1.length:Int)
  ·obtain ⟨j,x,rfl,hx⟩:=OF hd hlt
   have c1:decide ((j:Int)≥(s.2.1.length:Int))=false:=decide_eq_false (by omega)
   have c2:(decide (0≤(j:Int)) && decide ((j:Int)≤(s.2.1.length:Int) - 1))=true:=by rw [decide_eq_true (by omega),decide_eq_true (by omega)];rfl
   rcases hk with rfl | rfl <;> simp only [Int.reduceBEq,Int.reduceBNe,beq_self_eq_true,c1,c2,cond_true,cond_false,Option.bind_some,ay hx,Int.toNat_natCast,hx,Bool.not_true] <;> first | exact ⟨_,rfl,rfl,.inr ⟨rfl,hs0,rfl,.inl ⟨j,x,⟨rfl,rfl,hx⟩,.inl ⟨rfl,rfl⟩⟩⟩⟩ | exact ⟨_,rfl,rfl,.inr ⟨rfl,hs0,rfl,.inl ⟨j,x,⟨rfl,rfl,hx⟩,.inr ⟨rfl,rfl⟩⟩⟩⟩
  ·have c1:decide (d≥(s.2.1.length:Int))=true:=decide_eq_true (by omega)
   have c2:(decide (0≤d) && decide (d≤(s.2.1.length:Int) - 1))=false:=by rw [decide_eq_false (p:=d≤(s.2.1.length:Int) - 1) (by omega),Bool.and_false]
   rcases hk with rfl | rfl <;> simp only [Int.reduceBEq,Int.reduceBNe,beq_self_eq_true,c1,c2,cond_true,cond_false,Option.bind_some,Bool.not_false] <;> exact ⟨_,rfl,rfl,.inl ⟨rfl,rfl⟩⟩
 ·have p0:(p == 0)=false:=by rw [beq_eq_false_iff_ne];omega
  rcases jW s p with h | ⟨i,x,e1,hx,_⟩
  ·rcases hk with rfl | rfl <;> simp only [h,Int.reduceBEq,Int.reduceBNe,p0,cond_true,cond_false,Option.bind_some] <;> exact ⟨_,rfl,rfl,.inl ⟨rfl,rfl⟩⟩
  ·have c1:decide ((i:Int)≥0)=true:=by simp
   have c2:decide ((i:Int) < 0)=false:=bb (by omega)
   have hzz:(x.2.2.2.1 != 2)=false→(x.2.2.2.1 == 2)=true:=fun h=>by unfold bne at h;cases hq:(x.2.2.2.1 == 2) <;> rw [hq] at h <;> first | rfl | cases h
   rcases hk with rfl | rfl <;> simp only [e1,c1,c2,Int.reduceBEq,Int.reduceBNe,p0,cond_true,cond_false,Option.bind_some,ay hx,Int.toNat_natCast,hx] <;> cases hq:(x.2.2.2.1 != 2) <;> simp only [c1,cond_true,cond_false,Option.bind_some,ay hx,Int.toNat_natCast,hx,Bool.not_true] <;> first | exact ⟨_,rfl,rfl,.inl ⟨rfl,rfl⟩⟩ | exact ⟨_,rfl,rfl,.inr ⟨rfl,hs0,rfl,.inr ⟨i,x,⟨e1,hx,hzz hq⟩,.inl ⟨rfl,rfl⟩⟩⟩⟩ | exact ⟨_,rfl,rfl,.inr ⟨rfl,hs0,rfl,.inr ⟨i,x,⟨e1,hx,hzz hq⟩,.inr ⟨rfl,rfl⟩⟩⟩⟩
theorem SB (n:Int):-2147483647≤ia n∧ia n≤2147483647:=by unfold ia;split <;> (try split) <;> omega
theorem rj {n:Int} (h1:-2147483647≤n) (h2:n≤2147483647):ia n=n:=by unfold ia;split <;> (try split) <;> omega
theorem vl (a b:Int):-2147483647≤zx a b∧zx a b≤2147483647:=SB _
theorem R4 {α:Type} {xs:List α} (j:Nat) (w:α) {i:Nat} {x:α} (h:xs[i]?=some x):∃ y,(xs.set j w)[i]?=some y :=
 ⟨_,List.getElem?_eq_getElem (by have:=(List.getElem?_eq_some_iff.1 h).1;simpa using this)⟩
theorem Rj (s:ae.D) (d:Int):(decide (0≤d) && decide (d≤(s.2.1.length:Int) - 1))=false∨∃ (j:Nat) (y:au.D),(decide (0≤(j:Int)) && decide ((j:Int)≤(s.2.1.length:Int) - 1))=true∧d=j∧s.2.1[j]?=some y:=by
 by_cases h:0≤d∧d < (s.2.1.length:Int)
 ·obtain ⟨j,y,e,hy⟩:=OF (s:=s) h.1 h.2
  have:=(List.getElem?_eq_some_iff.1 hy).1
  exact .inr ⟨j,y,by rw [decide_eq_true (by omega),decide_eq_true (by omega)];rfl,e,hy⟩
 ·left
  by_cases h0:0≤d
  ·rw [decide_eq_false (p:=d≤(s.2.1.length:Int) - 1) (by omega),Bool.and_false]
  ·rw [decide_eq_false h0];rfl
def T5 (ss ss':List au.D):Prop:=ss'=ss∨∃ (j:Nat) (z:au.D) (a:Int),ss[j]?=some z∧ss'=ss.set j (a,z.2)∧-2147483647≤a∧a≤2147483647
def UK (b2:Bool) (n:Int) (x:au.D):au.D:=bif b2 then (x.1,zx x.2.1 n,x.2.2) else (A7 x.1 n,x.2)
def UL (b2 b4 c:Bool) (n:Int) (x:ah.D):ah.D :=
 (x.1,x.2.1,x.2.2.1,x.2.2.2.1,x.2.2.2.2.1,x.2.2.2.2.2.1,x.2.2.2.2.2.2.1,x.2.2.2.2.2.2.2.1,x.2.2.2.2.2.2.2.2.1,(bif b2 then zx x.2.2.2.2.2.2.2.2.2.1 n else x.2.2.2.2.2.2.2.2.2.1),(bif b2 then x.2.2.2.2.2.2.2.2.2.2.1 else zx x.2.2.2.2.2.2.2.2.2.2.1 n),(x.2.2.2.2.2.2.2.2.2.2.2.1 || (b4 && c)),x.2.2.2.2.2.2.2.2.2.2.2.2)
def OG (s:ae.D) (k sr p d n z:Int) (bt:Bool) (u:Unit) (b2 b4 c:Bool) (r:ae.D×(Int×Unit)):Prop :=
 (r.2.1=0∧r.1=s∧(bk s=false∨aO (k,sr,p,d,n,z,bt,u)=false∨(k != 1)=true∨(p=0∧(decide (0≤d) && decide (d≤(s.2.1.length:Int) - 1))=false)∨((p == 0)=false∧(eF s p=-1∨∃ (i:Nat) (x:ah.D),eF s p=i∧s.1[i]?=some x∧(x.2.2.2.1 != 2)=true)))) ∨
 (r.2.1=n∧r.1.2.2=s.2.2∧bk s=true∧aO (k,sr,p,d,n,z,bt,u)=true ∧
  ((p=0∧r.1.1=s.1∧∃ (j:Nat) (x:au.D),d=j∧s.2.1[j]?=some x∧T5 (s.2.1.set j (UK b2 n x)) r.1.2.1) ∨
   ((p == 0)=false∧∃ (i:Nat) (x:ah.D),eF s p=i∧s.1[i]?=some x∧(x.2.2.2.1 == 2)=true∧r.1.1=s.1.set i (UL b2 b4 c n x)∧T5 s.2.1 r.1.2.1)))
theorem Qd (s:ae.D) (q:ah.D) (k sr p d n z:Int) (bt:Bool) (u:Unit) (hp:s.1.length≤33554432) (hs:s.2.1.length≤33554432) :
  ∃ r,ll s q (k,sr,p,d,n,z,bt,u)=some r∧lw s q (k,sr,p,d,n,z,bt,u)=some r∧∃ b2 b4,aG q 2=some b2∧aG q 4=some b4∧OG s k sr p d n z bt u b2 b4 (decide (n≥1)) r:=by
 obtain ⟨b1,hb1⟩:=jX q 1
 obtain ⟨b2,hb2⟩:=jX q 2
 obtain ⟨b4,hb4⟩:=jX q 4
 have hc1:aG q 1=some b1:=by rw [← lA];exact hb1
 have hc2:aG q 2=some b2:=by rw [← lA];exact hb2
 have hc4:aG q 4=some b4:=by rw [← lA];exact hb4
 suffices h:∃ r,ll s q (k,sr,p,d,n,z,bt,u)=some r∧lw s q (k,sr,p,d,n,z,bt,u)=some r∧OG s k sr p d n z bt u b2 b4 (decide (n≥1)) r by
  obtain ⟨r,g1,g2,g3⟩:=h
  exact ⟨r,g1,g2,b2,b4,hc2,hc4,g3⟩
 unfold ll lw
 simp only [gM s hp hs,fA s hp hs,dz s hp hs,cQ s hp hs,bB,bR,Option.bind_some]
 cases hs0:bk s
 ·exact ⟨_,rfl,rfl,.inl ⟨rfl,rfl,.inl hs0⟩⟩
 cases hv:aO (k,sr,p,d,n,z,bt,u)
 ·exact ⟨_,rfl,rfl,.inl ⟨rfl,rfl,.inr (.inl hv)⟩⟩
 by_cases k1:k=1
 case neg =>
  have:(k != 1)=true:=by simp [k1]
  refine ⟨(s,0,()),?_,?_,.inl ⟨rfl,rfl,.inr (.inr (.inl this))⟩⟩ <;> simp only [this] <;> rfl
 subst k1
 have hw:IntKind.wrap .i64 ((s.2.1.length:Int) - 1)=(s.2.1.length:Int) - 1:=aB (by omega) (by omega)
 unfold mE aQ fx
 simp only [hb1,hb2,hb4,hc1,hc2,hc4,dp,gL,hw,eZ s _ hp,fd s _ hp,wt,wu,wv,ww,Option.bind_some,Bool.not_true,cond_false,bne_self_eq_false,List.length_set]
 have hq:=Rj s q.2.2.1
 have hf:(1≤p∨p=0∧0≤d):=by rcases A8 hv with ⟨_,h⟩ | ⟨h,_⟩ | ⟨h,_⟩ | ⟨h,_⟩ <;> first | exact h | omega
 rcases hf with h1 | ⟨rfl,hd⟩
 ·have p0:(p == 0)=false:=by rw [beq_eq_false_iff_ne];omega
  rcases jW s p with h | ⟨i,x,e1,hx,_⟩
  ·refine ⟨(s,0,()),?_,?_,.inl ⟨rfl,rfl,.inr (.inr (.inr (.inr ⟨p0,.inl h⟩)))⟩⟩ <;> simp only [h,p0,cond_true,cond_false,Option.bind_some] <;> rfl
  ·have c1:decide ((i:Int)≥0)=true:=by simp
   have c2:decide ((i:Int) < 0)=false:=bb (by omega)
   have hil:=(List.getElem?_eq_some_iff.1 hx).1
   obtain ⟨xi,xo,xs,xz,xt,xp,xg,xr,xl,xm,xk,xd,xb,xu⟩:=x
   simp only [e1,c1,c2,p0,cond_true,cond_false,Option.bind_some,ay hx]
   cases hz:(xz != 2)
   case true=>exact ⟨_,rfl,rfl,.inl ⟨rfl,rfl,.inr (.inr (.inr (.inr ⟨p0,.inr ⟨i,_,e1,hx,hz⟩⟩)))⟩⟩
   have hz2:(xz == 2)=true:=by unfold bne at hz;cases h:(xz == 2) <;> simp [h] at hz ⊢
   simp only [c1,cond_true,cond_false,Option.bind_some,ay hx,Int.toNat_natCast,hx,Bool.not_true,ib hil,ic hil,List.set_set]
   rcases hq with hq | ⟨j,y,hq,hj,hy⟩
   ·simp only [hq]
    cases b2 <;> cases b4 <;> cases xd <;> cases decide (n≥1) <;> cases b1 <;> simp only [cond_true,cond_false,Option.bind_some,ib hil,ic hil,List.set_set] <;> exact ⟨_,rfl,rfl,.inr ⟨rfl,rfl,hs0,hv,.inr ⟨p0,i,_,e1,hx,hz2,rfl,.inl rfl⟩⟩⟩
   ·simp only [hj,hq]
    cases b2 <;> cases b4 <;> cases xd <;> cases decide (n≥1) <;> cases b1 <;> simp only [cond_true,cond_false,Option.bind_some,ib hil,ic hil,List.set_set,ay hy,Int.toNat_natCast,hy] <;> first | exact ⟨_,rfl,rfl,.inr ⟨rfl,rfl,hs0,hv,.inr ⟨p0,i,_,e1,hx,hz2,rfl,.inl rfl⟩⟩⟩ | exact ⟨_,rfl,rfl,.inr ⟨rfl,rfl,hs0,hv,.inr ⟨p0,i,_,e1,hx,hz2,rfl,.inr ⟨j,y,_,hy,rfl,(vl _ _).1,(vl _ _).2⟩⟩⟩⟩
 ·have p0:((0:Int) == 0)=true:=rfl
  by_cases hlt:d < (s.2.1.length:Int)
  ·obtain ⟨j,x,rfl,hx⟩:=OF hd hlt
   have c1:decide ((j:Int)≥(s.2.1.length:Int))=false:=decide_eq_false (by omega)
   have c2:(decide (0≤(j:Int)) && decide ((j:Int)≤(s.2.1.length:Int) - 1))=true:=by rw [decide_eq_true (by omega),decide_eq_true (by omega)];rfl
   simp only [p0,c1,c2,cond_true,cond_false,Option.bind_some,ay hx,Int.toNat_natCast,hx,Bool.not_true]
   rcases hq with hq | ⟨i,y,hq,hj,hy⟩
   ·simp only [hq]
    cases b2 <;> cases b1 <;> simp only [cond_true,cond_false,Option.bind_some,ay hx,Int.toNat_natCast,hx] <;> exact ⟨_,rfl,rfl,.inr ⟨rfl,rfl,hs0,hv,.inl ⟨rfl,rfl,j,x,rfl,hx,.inl rfl⟩⟩⟩
   ·simp only [hj,hq]
    obtain ⟨y1,hy1⟩:=R4 j (x.1,zx x.2.1 n,x.2.2) hy
    obtain ⟨y2,hy2⟩:=R4 j (A7 x.1 n,x.2) hy
    cases b2 <;> cases b1 <;> simp only [cond_true,cond_false,Option.bind_some,ay hx,Int.toNat_natCast,hx,ay hy1,hy1,ay hy2,hy2] <;> first | exact ⟨_,rfl,rfl,.inr ⟨rfl,rfl,hs0,hv,.inl ⟨rfl,rfl,j,x,rfl,hx,.inl rfl⟩⟩⟩ | exact ⟨_,rfl,rfl,.inr ⟨rfl,rfl,hs0,hv,.inl ⟨rfl,rfl,j,x,rfl,hx,.inr ⟨i,_,_,hy1,rfl,(vl _ _).1,(vl _ _).2⟩⟩⟩⟩ | exact ⟨_,rfl,rfl,.inr ⟨rfl,rfl,hs0,hv,.inl ⟨rfl,rfl,j,x,rfl,hx,.inr ⟨i,_,_,hy2,rfl,(vl _ _).1,(vl _ _).2⟩⟩⟩⟩
  ·have c1:decide (d≥(s.2.1.length:Int))=true:=decide_eq_true (by omega)
   have c2:(decide (0≤d) && decide (d≤(s.2.1.length:Int) - 1))=false:=by rw [decide_eq_false (p:=d≤(s.2.1.length:Int) - 1) (by omega),Bool.and_false]
   refine ⟨(s,0,()),?_,?_,.inl ⟨rfl,rfl,.inr (.inr (.inr (.inl ⟨rfl,c2⟩)))⟩⟩ <;> simp only [p0,c1,c2,cond_true,cond_false,Option.bind_some,Bool.not_false]
theorem Qe {ss ss':List au.D} (h:T5 ss ss'):ss'.length=ss.length:=by
 rcases h with rfl | ⟨j,z,a,_,rfl,_⟩
 ·rfl
 ·simp
theorem vm {α:Type}:∀ {ys:List α} {i:Nat} {x:α},ys[i]?=some x→ys.set i x=ys
 | [],_,_,_=>by simp
 | y :: ys,0,x,h=>by simp at h;simp [h]
 | y :: ys,i + 1,x,h=>by simp only [List.set_cons_succ];rw [vm (by simpa using h)]
theorem Nb {α β:Type} (f:α→β) (p:β→Bool):∀ (xs:List α),bD (fun x=>p (f x)) xs=bD p (xs.map f)
 | []=>rfl
 | x :: xs=>by simp only [bD,List.map_cons,Nb f p xs]
theorem Qf (s t:ae.D) (a:Int) (h:s.1.map (fun (x:ah.D)=>x.1)=t.1.map (fun (x:ah.D)=>x.1)):eF s a=eF t a:=by
 have e:∀ (r:ae.D),bD (fun (x:ah.D)=>x.1 == a) r.1=bD (fun i=>i == a) (r.1.map (fun (x:ah.D)=>x.1)):=fun r=>Nb (fun (x:ah.D)=>x.1) (fun i=>i == a) r.1
 unfold eF
 rw [e s,e t,h]
theorem Nc (s:ae.D) (e:ac.D) (h:s.1.length≤33554432):∃ p,gp s e=some p∧fk s e=some p:=by
 unfold gp fk
 simp only [eZ s _ h,fd s _ h,Option.bind_some]
 rcases jW s e.2.1 with h | ⟨k,x,h1,h2,_⟩
 ·rw [h]
  cases (e.1 != 1) <;> exact ⟨_,rfl,rfl⟩
 ·rw [h1,bb (by omega)]
  cases (e.1 != 1)
  ·simp only [cond_false,Option.bind_some,ay h2];exact ⟨_,rfl,rfl⟩
  ·exact ⟨_,rfl,rfl⟩
noncomputable def jo (s:ae.D) (e:ac.D):ah.D:=(fk s e).getD (0,0,0,0,0,0,0,0,0,0,0,false,false,())
theorem sw (s:ae.D) (e:ac.D) (h:s.1.length≤33554432):fk s e=some (jo s e):=by
 obtain ⟨p,_,h2⟩:=Nc s e h
 unfold jo;rw [h2];rfl
theorem sy (s:ae.D) (e:ac.D) (h:s.1.length≤33554432):gp s e=some (jo s e):=by
 obtain ⟨p,h1,h2⟩:=Nc s e h
 unfold jo;rw [h2,h1];rfl
theorem Qg (xs:List ac.D) (hl:xs.length≤33554432) (p:ac.D→Bool) (q:(ac.D×Unit)→Option Bool) (hq:∀ x,q (x,())=some (p x)) :
  bi xs q=some (match bD p xs with | some k=>(k:Int) | none=>-1):=by
 unfold bi
 rw [dH xs (body:=aY xs q) p (fun i=>i) (by omega) (fun i x hx=>?_) ?_]
 ·cases bD p xs <;> rfl
 ·unfold aY
  simp
 ·unfold aY
  have hlt:=(List.getElem?_eq_some_iff.1 hx).1
  have:((i:Int) < (xs.length:Int)):=by omega
  simp only [this,decide_true,cond_true,ay hx,hq,Option.bind_some]
theorem oA (xs:List ac.D) (hl:xs.length≤33554432) (p:ac.D→Bool) (q:(ac.D×Unit)→Option Bool) (hq:∀ x,q (x,())=some (p x)) :
  be xs q=some (xs.filter (fun x=>!p x),()):=by
 unfold be
 rw [Qg xs hl p q hq,Option.bind_some]
 obtain ⟨h1,h2⟩:=eh p xs
 cases hf:bD p xs with
 | none =>
  have:xs.filter (fun x=>!p x)=xs:=by rw [List.filter_eq_self];intro x hx;simp [h1 hf x hx]
  rw [this];rfl
 | some k =>
  obtain ⟨x,g1,g2,g3⟩:=h2 k hf
  have hk:=(List.getElem?_eq_some_iff.1 g1).1
  have n1:((k:Int) == -1)=false:=by simp
  simp only [n1,cond_false]
  rw [aB (by omega) (by omega)]
  obtain ⟨ys,m,e1,e2,e3,e4⟩:∃ (ys:List ac.D) (m:Nat),al (bA q) (xs,(k:Int),(k:Int) + 1)=some (ys,(m:Int),(xs.length:Int))∧ys.length=xs.length∧m≤xs.length∧ys.take m=xs.filter (fun x=>!p x):=by
   refine Gn xs (body:=bA q) p (fun s=>s) (by omega) (fun ys i j x hx hij hl'=>?_) (fun ys i hl'=>?_) k x g1 g2 g3
   ·have hlt:=(List.getElem?_eq_some_iff.1 hx).1
    have hil:((j:Int) < (ys.length:Int)):=by omega
    obtain ⟨y,hy⟩:∃ y,ys[i]?=some y:=⟨_,List.getElem?_eq_getElem (by omega)⟩
    unfold bA
    simp (disch:=omega) only [hil,decide_true,cond_true,Int.toNat_natCast,ay hx,hx,hq,Option.bind_some,ay hy,hy,aB]
    cases p x <;> rfl
   ·unfold bA
    have:¬ ((xs.length:Int) < (ys.length:Int)):=by omega
    simp only [this,decide_false,cond_false]
  rw [e1,Option.bind_some]
  have t1:0≤(m:Int):=by omega
  have t2:(m:Int)≤(ys.length:Int):=by omega
  simp only [t1,t2,if_true,Int.le_refl,Int.toNat_natCast]
  have z1:m≤ys.length:=by omega
  rw [if_pos (by simp only [List.length_append,List.length_take,List.length_replicate,List.length_drop];omega)]
  have:∀ (zs:List ac.D),(ys.take m++zs).take m=ys.take m:=fun zs=>by rw [List.take_append_of_le_length (by simp;omega),List.take_take,Nat.min_self]
  rw [List.append_assoc,this,e4]
  simp
theorem qZ {α:Type} (p:α→Bool):∀ (l:List α),(l.filter p).length + (l.filter fun x=>!p x).length=l.length
 | []=>rfl
 | a :: l=>by
  have:=qZ p l
  cases h:p a <;> simp [h] <;> omega
theorem Cg {α σ S R:Type} (xs:List α) {body:S→Option (S⊕R)} (mk:σ→Int→S) (step:σ→Nat→α→σ) (I:Nat→σ→Prop) (r:S→R) (s0:σ) (h0:I 0 s0) (hlen:xs.length≤9223372036854775806)
  (hb:∀ s (i:Nat) x,I i s→xs[i]?=some x→body (mk s (i:Int))=some (.inl (mk (step s i x) (IntKind.wrap .i64 ((i:Int) + 1))))∧I (i + 1) (step s i x))
  (he:∀ s,I xs.length s→body (mk s (xs.length:Int))=some (.inr (r (mk s (xs.length:Int))))) :
  al body (mk s0 0)=some (r (mk (dI step 0 xs s0) (xs.length:Int)))∧I xs.length (dI step 0 xs s0):=by
 have main:∀ (l:List α) (k:Nat) (s:σ),xs.drop k=l→k≤xs.length→I k s→al body (mk s (k:Int))=some (r (mk (dI step k l s) (xs.length:Int)))∧I xs.length (dI step k l s):=by
  intro l
  induction l with
  | nil =>
   intro k s h hk hI
   have:k=xs.length:=by
    have:=congrArg List.length h
    simp at this
    omega
   subst this
   exact ⟨aI (he s hI),hI⟩
  | cons x l ih =>
   intro k s h hk hI
   have hlt:k < xs.length:=by
    have:=congrArg List.length h
    simp at this
    omega
   have hx:xs[k]?=some x:=by
    have:=congrArg (fun l=>l[0]?) h
    simpa using this
   have hr:xs.drop (k + 1)=l:=by
    have:=congrArg List.tail h
    simpa using this
   obtain ⟨h1,h2⟩:=hb s k x hI hx
   rw [aB (by omega) (by omega)] at h1
   obtain ⟨h3,h4⟩:=ih (k + 1) (step s k x) hr hlt h2
   exact ⟨aF h1 h3,h4⟩
 have:=main xs 0 s0 rfl (by omega) h0
 simpa using this
theorem ra {α σ:Type} (f:σ→α→σ):∀ (xs:List α) (i:Nat) (s:σ),dI (fun s _ x=>f s x) i xs s=xs.foldl f s
 | [],_,_=>rfl
 | x :: xs,i,s=>ra f xs (i + 1) (f s x)
def ids (t:ae.D):List Int:=t.1.map (fun (x:ah.D)=>x.1)
def Ee:ah.D:=(0,0,0,0,0,0,0,0,0,0,0,false,false,())
def T6 (s t:ae.D) (v:ac.D) (y:ae.D×(ai.D×Unit)):Prop :=
 (v.1=1∧∃ b2 b4 r,OG t v.1 v.2.1 v.2.2.1 v.2.2.2.1 v.2.2.2.2.1 v.2.2.2.2.2.1 v.2.2.2.2.2.2.1 v.2.2.2.2.2.2.2 b2 b4 (decide (v.2.2.2.2.1≥1)) r∧y=(r.1,(if r.2.1≥1 then (1,v,r.2.1,0,Ee,()) else (4,v,0,0,Ee,())),())) ∨
 (v.1=2∧∃ r,T4 t v r∧((r.2.1=false∧y=(t,(4,v,0,0,Ee,()),()))∨(r.2.1=true∧∃ (k:Nat) (x:ah.D),eF s v.2.2.1=k∧s.1[k]?=some x∧y=(r.1,(3,v,0,0,x,()),())))) ∨
 (v.1≠1∧v.1≠2∧∃ r,U1 t v.1 v.2.2.1 v.2.2.2.1 v.2.2.2.2.1 (aO v) r∧y=(r.1,(if r.2.1=true then (2,v,0,0,Ee,()) else (4,v,0,0,Ee,())),()))
theorem Rk (s t:ae.D) (v:ac.D) (hs:s.1.length≤33554432) (ht:t.1.length≤33554432) (ht2:t.2.1.length≤33554432) (hid:ids t=ids s) :
  ∃ y,dk t s v=some (y,())∧(v.1≠2→nT s t v=some y)∧(v.1=2→∃ r,nU t v=some r∧((r.2.1=false∧y=(t,(4,v,0,0,Ee,()),()))∨(r.2.1=true∧∃ (k:Nat) (x:ah.D),eF s v.2.2.1=k∧s.1[k]?=some x∧y=(r.1,(3,v,0,0,x,()),()))))∧T6 s t v y:=by
 by_cases h1:v.1=1
 ·have e1:(v.1 == 1)=true:=by rw [h1];rfl
  obtain ⟨r,g1,g2,b2,b4,t2,t4,hr⟩:=Qd t (jo s v) v.1 v.2.1 v.2.2.1 v.2.2.2.1 v.2.2.2.2.1 v.2.2.2.2.2.1 v.2.2.2.2.2.2.1 v.2.2.2.2.2.2.2 ht ht2
  have g1:ll t (jo s v) v=some r:=g1
  have g2:lw t (jo s v) v=some r:=g2
  refine ⟨_,?_,fun _=>?_,fun h=>by rw [h1] at h;exact absurd h (by decide),.inl ⟨h1,b2,b4,r,hr,rfl⟩⟩
  ·unfold dk
   simp only [e1,cond_true,sw s v hs,Option.bind_some,g2]
   by_cases hn:r.2.1≥1
   ·rw [decide_eq_true hn,if_pos hn];rfl
   ·rw [decide_eq_false hn,if_neg hn];rfl
  ·unfold nT
   simp only [e1,cond_true,sy s v hs,Option.bind_some,g1]
   by_cases hn:r.2.1≥1
   ·rw [decide_eq_true hn,if_pos hn];rfl
   ·rw [decide_eq_false hn,if_neg hn];rfl
 ·have e1:(v.1 == 1)=false:=by rw [beq_eq_false_iff_ne];exact h1
  by_cases h2:v.1=2
  ·have e2:(v.1 == 2)=true:=by rw [h2];rfl
   obtain ⟨r,g1,g2,hr⟩:=Sz t v ht ht2
   rcases hr0:hr with ⟨q1,q2⟩ | ⟨q1,q2,q3,q4,k,x,q5,q6,q7,q8,q9⟩
   ·refine ⟨(t,(4,v,0,0,Ee,()),()),?_,fun h=>absurd h2 h,fun _=>⟨r,g1,.inl ⟨q1,rfl⟩⟩,.inr (.inl ⟨h2,r,hr,.inl ⟨q1,rfl⟩⟩)⟩
    unfold dk
    simp only [e1,e2,cond_false,cond_true,Option.bind_some,g2,q1]
    rfl
   ·have hk:eF s v.2.2.1=k:=by rw [← Qf t s v.2.2.1 hid];exact q5
    obtain ⟨x',hx'⟩:∃ x',s.1[k]?=some x':=by
     have h3:=congrArg List.length hid
     simp only [ids,List.length_map] at h3
     exact ⟨_,List.getElem?_eq_getElem (by rw [← h3];exact (List.getElem?_eq_some_iff.1 q6).1)⟩
    refine ⟨(r.1,(3,v,0,0,x',()),()),?_,fun h=>absurd h2 h,fun _=>⟨r,g1,.inr ⟨q1,k,x',hk,hx',rfl⟩⟩,.inr (.inl ⟨h2,r,hr,.inr ⟨q1,k,x',hk,hx',rfl⟩⟩)⟩
    unfold dk
    simp only [e1,e2,cond_false,cond_true,Option.bind_some,g2,q1,fd s _ hs,hk,ay hx']
  ·have e2:(v.1 == 2)=false:=by rw [beq_eq_false_iff_ne];exact h2
   obtain ⟨r,g1,g2,hr⟩:=SA t v.1 v.2.1 v.2.2.1 v.2.2.2.1 v.2.2.2.2.1 v.2.2.2.2.2.1 v.2.2.2.2.2.2.1 v.2.2.2.2.2.2.2 ht ht2
   have g1:uK t v=some r:=g1
   have g2:uX t v=some r:=g2
   refine ⟨_,?_,fun _=>?_,fun h=>absurd h h2,.inr (.inr ⟨h1,h2,r,hr,rfl⟩)⟩
   ·unfold dk
    simp only [e1,e2,cond_false,Option.bind_some,g2]
    rcases hr with ⟨q1,q2⟩ | ⟨q1,_⟩
    ·rw [q1,q2];rfl
    ·rw [q1];rfl
   ·unfold nT
    simp only [e1,cond_false,Option.bind_some,g1]
    rcases hr with ⟨q1,q2⟩ | ⟨q1,_⟩
    ·rw [q1];rfl
    ·rw [q1];rfl
theorem H9 {ps:List ah.D} {k:Nat} {x y:ah.D} (hx:ps[k]?=some x) (he:y.1=x.1):(ps.set k y).map (fun (x:ah.D)=>x.1)=ps.map (fun (x:ah.D)=>x.1):=by
 simp only [List.map_set,he]
 exact vm (by rw [List.getElem?_map,hx];rfl)
theorem SC (x:ah.D) (v:ac.D) (c:Int):(KR x v c).1=x.1:=by
 unfold KR
 cases (v.2.2.2.2.2.1 == 2) <;> rfl
theorem SD {s t:ae.D} {v:ac.D} {y:ae.D×(ai.D×Unit)} (h:T6 s t v y):ids y.1=ids t∧gT y.1 t∧y.1.2.2=t.2.2:=by
 rcases h with ⟨_,b2,b4,r,hr,rfl⟩ | ⟨_,r,hr,hy⟩ | ⟨_,_,r,hr,rfl⟩
 ·rcases hr with ⟨_,h,_⟩ | ⟨_,h0,_,_,⟨_,h1,j,x,_,_,h2⟩ | ⟨_,i,x,_,hx,_,h1,h2⟩⟩
  ·simp only [h];exact ⟨by trivial,⟨by trivial,by trivial⟩,by trivial⟩
  ·exact ⟨by unfold ids;simp only [h1],⟨by simp only [h1],by have:=Qe h2;simp only [this];simp⟩,h0⟩
  ·exact ⟨by unfold ids;simp only [h1];exact H9 hx rfl,⟨by simp only [h1];simp,Qe h2⟩,h0⟩
 ·rcases hy with ⟨_,rfl⟩ | ⟨hb,k,x,_,_,rfl⟩
  ·exact ⟨by trivial,⟨by trivial,by trivial⟩,by trivial⟩
  ·rcases hr with ⟨q1,_⟩ | ⟨_,_,_,_,k,x,_,q6,_,_,q9⟩
   ·rw [q1] at hb;cases hb
   ·simp only [q9]
    exact ⟨H9 q6 (SC _ _ _),⟨by simp,by trivial⟩,by trivial⟩
 ·rcases hr with ⟨_,h⟩ | ⟨_,_,_,⟨j,x,⟨_,_,_⟩,⟨_,h⟩ | ⟨_,h⟩⟩ | ⟨i,x,⟨_,hx,_⟩,⟨_,h⟩ | ⟨_,h⟩⟩⟩
  ·simp only [h];exact ⟨by trivial,⟨by trivial,by trivial⟩,by trivial⟩
  ·simp only [h];exact ⟨by trivial,⟨by trivial,by simp⟩,by trivial⟩
  ·simp only [h];exact ⟨by trivial,⟨by trivial,by simp⟩,by trivial⟩
  ·simp only [h];exact ⟨H9 hx rfl,⟨by simp,by trivial⟩,by trivial⟩
  ·simp only [h];exact ⟨H9 hx rfl,⟨by simp,by trivial⟩,by trivial⟩
noncomputable def Ef (s t:ae.D) (v:ac.D):ae.D×(ai.D×Unit):=((dk t s v).map (fun y=>y.1)).getD (t,(0,(0,0,0,0,0,0,false,()),0,0,Ee,()),())
theorem Eg (s t:ae.D) (v:ac.D) (hs:s.1.length≤33554432) (ht:t.1.length≤33554432) (ht2:t.2.1.length≤33554432) (hid:ids t=ids s) :
  dk t s v=some (Ef s t v,())∧(v.1≠2→nT s t v=some (Ef s t v))∧(v.1=2→∃ r,nU t v=some r∧((r.2.1=false∧Ef s t v=(t,(4,v,0,0,Ee,()),()))∨(r.2.1=true∧∃ (k:Nat) (x:ah.D),eF s v.2.2.1=k∧s.1[k]?=some x∧Ef s t v=(r.1,(3,v,0,0,x,()),()))))∧T6 s t v (Ef s t v):=by
 obtain ⟨y,h1,h2,h3,h4⟩:=Rk s t v hs ht ht2 hid
 have e:Ef s t v=y:=by unfold Ef;rw [h1];rfl
 rw [e]
 exact ⟨h1,h2,h3,h4⟩
noncomputable def vn (s:ae.D) (q:List ai.D×ae.D) (v:ac.D):List ai.D×ae.D:=(q.1++[(Ef s q.2 v).2.1],(Ef s q.2 v).1)
def tO (es:List ac.D):List ac.D:=es.filter (fun v=>v.1 != 2)
def wx (es:List ac.D):List ac.D:=es.filter (fun v=>v.1 == 2)
noncomputable def wy (s:ae.D) (es:List ac.D):List ai.D×ae.D:=(tO es++wx es).foldl (vn s) ([],s)
def CI (s:ae.D) (q:List ai.D×ae.D):Prop:=ids q.2=ids s∧gT q.2 s∧q.2.2.2=s.2.2
theorem CI.step {s:ae.D} {q:List ai.D×ae.D} (h:CI s q) (v:ac.D) (hs:s.1.length≤33554432) (hs2:s.2.1.length≤33554432):CI s (vn s q v):=by
 obtain ⟨h1,h2,h3⟩:=h
 obtain ⟨k1,k2,k3⟩:=SD (Eg s q.2 v hs (by rw [h2.1];exact hs) (by rw [h2.2];exact hs2) h1).2.2.2
 exact ⟨k1.trans h1,⟨k2.1.trans h2.1,k2.2.trans h2.2⟩,k3.trans h3⟩
theorem FV (es:List ac.D):(tO es).length + (wx es).length=es.length:=by
 have:=qZ (fun v:ac.D=>v.1 == 2) es
 unfold tO wx bne
 omega
theorem KS (s:ae.D) (es:List ac.D) (hp:s.1.length≤33554432) (hs:s.2.1.length≤33554432) (he:es.length≤33554432) :
  tH s es=some (if bk s then ((wy s es).2,(wy s es).1,()) else (s,[],()))∧((wy s es).1.length=es.length∧CI s (wy s es)):=by
 have hom:=FV es
 have hlm:(tO es++wx es).length=es.length:=by rw [List.length_append];exact hom
 have key:=Cg (tO es++wx es) (body:=mF s (tO es,()) (wx es,())) (fun (q:List ai.D×ae.D) i=>(q.1,i,q.2)) (fun q _ v=>vn s q v) (fun i q=>q.1.length=i∧CI s q) (fun x=>x) ([],s) ⟨rfl,rfl,⟨rfl,rfl⟩,rfl⟩ (by omega) (fun q i v hI hx=>?_) (fun q hI=>?_)
 ·obtain ⟨k1,k2,k3⟩:=key
  rw [ra (vn s)] at k1 k2 k3
  refine ⟨?_,by rw [← hlm];exact k2,k3⟩
  unfold tH
  rw [fA s hp hs,Option.bind_some,cQ s hp hs,Option.bind_some]
  cases hso:bk s
  ·rfl
  ·simp only [Bool.not_true,cond_false,if_true]
   unfold bd
   rw [if_pos (by simp only [aC,List.length_nil];omega)]
   simp only [Option.bind_some,List.nil_append]
   rw [oA es he (fun v=>v.1 == 2) _ (fun x=>rfl),Option.bind_some,oA es he (fun v=>v.1 != 2) _ (fun x=>rfl),Option.bind_some]
   have e1:(es.filter fun v=>!(v.1 == 2))=tO es:=rfl
   have e2:(es.filter fun v=>!(v.1 != 2))=wx es:=by
    unfold wx bne
    simp only [Bool.not_not]
   rw [e1,e2,if_pos (by simp only [aC];omega)]
   rw [show (([],0,s):List ai.D×(Int×ae.D))=((([],s):List ai.D×ae.D).1,0,(([],s):List ai.D×ae.D).2) from rfl,k1]
   rfl
 ·obtain ⟨h1,h2⟩:=hI
  have hlt:=(List.getElem?_eq_some_iff.1 hx).1
  refine ⟨?_,by unfold vn;simp only [List.length_append,List.length_cons,List.length_nil];omega,h2.step v hp hs⟩
  obtain ⟨g1,g2,g3⟩:=h2
  have:=(Eg s q.2 v hp (by rw [g2.1];exact hp) (by rw [g2.2];exact hs) g1).1
  have hil:((i:Int) < ((tO es++wx es).length:Int)):=by omega
  unfold mF
  simp only [hil,decide_true,cond_true,ay hx,Int.toNat_natCast,hx,Option.bind_some,this]
  rw [if_pos (by simp only [aC,List.length_cons,List.length_nil];omega)]
  rfl
 ·unfold mF
  simp
theorem KT (s:ae.D) (es:List ac.D) (hp:s.1.length≤33554432) (hs:s.2.1.length≤33554432) (he:es.length≤33554432) :
  tA s es=some (if bk s then ((wy s es).2,(wy s es).1,()) else (s,[],())):=by
 have k1:=Cg es (body:=mf s es) (fun (q:List ai.D×ae.D) i=>(q.1,i,q.2)) (fun q _ v=>if (v.1 != 2)=true then vn s q v else q) (fun i q=>q.1.length≤i∧CI s q) (fun x=>x) ([],s) ⟨Nat.le_refl _,rfl,⟨rfl,rfl⟩,rfl⟩ (by omega) (fun q i v hI hx=>?_) (fun q hI=>?_)
 ·obtain ⟨k1,k2,k3⟩:=k1
  rw [ra (fun q v=>if (v.1 != 2)=true then vn s q v else q),← List.foldl_filter] at k1 k2 k3
  have k4:=Cg es (body:=mg s es) (fun (q:List ai.D×ae.D) i=>(q.1,i,q.2)) (fun q _ v=>if (v.1 == 2)=true then vn s q v else q) (fun i q=>q.1.length≤es.length + i∧CI s q) (fun x=>x) _ ⟨k2,k3⟩ (by omega) (fun q i v hI hx=>?_) (fun q hI=>?_)
  ·obtain ⟨k4,_⟩:=k4
   rw [ra (fun q v=>if (v.1 == 2)=true then vn s q v else q),← List.foldl_filter,← List.foldl_append] at k4
   unfold tA
   rw [gM s hp hs,Option.bind_some,dz s hp hs,Option.bind_some]
   cases hso:bk s
   ·rfl
   ·simp only [Bool.not_true,cond_false,if_true]
    rw [show (([],0,s):List ai.D×(Int×ae.D))=((([],s):List ai.D×ae.D).1,0,(([],s):List ai.D×ae.D).2) from rfl,k1,Option.bind_some]
    simp only
    rw [k4]
    rfl
  ·obtain ⟨h1,h2⟩:=hI
   have hlt:=(List.getElem?_eq_some_iff.1 hx).1
   have hil:((i:Int) < (es.length:Int)):=by omega
   have hst:=h2.step v hp hs
   obtain ⟨g1,g2,g3⟩:=h2
   have hpf:=(Eg s q.2 v hp (by rw [g2.1];exact hp) (by rw [g2.2];exact hs) g1).2.2.1
   unfold mg
   simp only [hil,decide_true,cond_true,ay hx]
   by_cases h2':v.1=2
   ·have e2:(v.1 == 2)=true:=by rw [h2'];rfl
    have e3:(v.1 != 2)=false:=by unfold bne;rw [e2];rfl
    simp only [e2,e3,cond_false,if_true]
    refine ⟨?_,by unfold vn;simp only [List.length_append,List.length_cons,List.length_nil];omega,hst⟩
    obtain ⟨r,p1,⟨p2,p3⟩ | ⟨p2,k,x,p3,p4,p5⟩⟩:=hpf h2'
    ·simp only [p1,Option.bind_some,p2,Bool.not_false,cond_true]
     rw [if_pos (by simp only [aC,List.length_cons,List.length_nil];omega)]
     unfold vn
     rw [p3]
     rfl
    ·simp only [p1,Option.bind_some,p2,Bool.not_true,cond_false,eZ s _ hp,p3,ay p4]
     rw [if_pos (by simp only [aC,List.length_cons,List.length_nil];omega)]
     unfold vn
     rw [p5]
     rfl
   ·have e2:(v.1 == 2)=false:=by rw [beq_eq_false_iff_ne];exact h2'
    have e3:(v.1 != 2)=true:=by unfold bne;rw [e2];rfl
    simp only [e2,e3,cond_true,Option.bind_some]
    exact ⟨rfl,by simp only [Bool.false_eq_true,if_false];omega,by simp only [Bool.false_eq_true,if_false];exact ⟨g1,g2,g3⟩⟩
  ·unfold mg
   simp
 ·obtain ⟨h1,h2⟩:=hI
  have hlt:=(List.getElem?_eq_some_iff.1 hx).1
  have hil:((i:Int) < (es.length:Int)):=by omega
  have hst:=h2.step v hp hs
  obtain ⟨g1,g2,g3⟩:=h2
  have hpf:=(Eg s q.2 v hp (by rw [g2.1];exact hp) (by rw [g2.2];exact hs) g1).2.1
  unfold mf
  simp only [hil,decide_true,cond_true,ay hx]
  by_cases h2':v.1=2
  ·have e2:(v.1 == 2)=true:=by rw [h2'];rfl
   have e3:(v.1 != 2)=false:=by unfold bne;rw [e2];rfl
   simp only [e3,cond_false,Option.bind_some]
   exact ⟨rfl,by simp only [Bool.false_eq_true,if_false];omega,by simp only [Bool.false_eq_true,if_false];exact ⟨g1,g2,g3⟩⟩
  ·have e2:(v.1 == 2)=false:=by rw [beq_eq_false_iff_ne];exact h2'
   have e3:(v.1 != 2)=true:=by unfold bne;rw [e2];rfl
   simp only [e3,cond_true,if_true,hpf h2',Option.bind_some]
   refine ⟨?_,by unfold vn;simp only [List.length_append,List.length_cons,List.length_nil];omega,hst⟩
   rw [if_pos (by simp only [aC,List.length_cons,List.length_nil];omega)]
   rfl
 ·unfold mf
  simp
def A9 (x:ai.D):Bool:=(x.1 == 6) || ((x.1 == 3) && ((x.2.2.2.2.1.2.2.2.1 == 2) && (x.2.1.2.2.2.2.2.1 != 2)))
theorem OH (x:ai.D):z5 x=some (A9 x):=by
 unfold z5 A9
 cases (x.1 == 6) <;> cases (x.1 == 3) <;> cases (x.2.2.2.2.1.2.2.2.1 == 2) <;> rfl
theorem OI (x:ai.D):qH x=some (A9 x):=by
 unfold qH A9
 cases (x.1 == 6) <;> cases (x.1 == 3) <;> cases (x.2.2.2.2.1.2.2.2.1 == 2) <;> rfl
def gm (p:ah.D) (t:Int):Bool:=(aG p t).getD false
theorem vo (p:ah.D) (t:Int):aG p t=some (gm p t):=by
 obtain ⟨b,h⟩:=jX p t
 rw [lA] at h
 unfold gm
 rw [h];rfl
theorem FW (p:ah.D) (t:Int):ci p t=some (gm p t):=by rw [lA,vo]
noncomputable def w6 (s:ae.D) (_:Nat) (x:ai.D):List af.D :=
 bif A9 x && gm x.2.2.2.2.1 16 then [(1,x.2.2.2.2.1.2.2.1,0,x.2.2.2.2)]
 else bif (x.1 == 1) && (decide (x.2.2.1≥1) && gm (jo s x.2.1) 32) then [(2,(jo s x.2.1).2.2.1,x.2.2.1,jo s x.2.1,())] else []
theorem z7 (s:ae.D) (i:Nat) (x:ai.D):(w6 s i x).length≤1:=by
 unfold w6
 cases (A9 x && gm x.2.2.2.2.1 16) <;> cases ((x.1 == 1) && (decide (x.2.2.1≥1) && gm (jo s x.2.1) 32)) <;> simp
theorem T7 (x:ai.D) (h:A9 x=true):(x.1 == 1)=false:=by
 unfold A9 at h
 rw [beq_eq_false_iff_ne]
 intro e
 rw [e] at h
 simp at h
theorem Eh (s:ae.D) (xs:List ai.D) (hs:s.1.length≤33554432) (h:xs.length≤33554432):uZ s xs=some (bh (w6 s) 0 xs):=by
 unfold uZ
 rw [cy xs (w6 s) (fun s=>s) (z7 s) (by omega) (fun t i x hI hx=>?_) (fun t=>?_)]
 ·rfl
 ·have hlt:=(List.getElem?_eq_some_iff.1 hx).1
  have hil:((i:Int) < (xs.length:Int)):=by omega
  unfold wk w6
  simp only [hil,decide_true,cond_true,ay hx,OH,vo,sw s _ hs,Option.bind_some]
  have hr:∀ (y:af.D),(t.length + ([y]:List af.D).length) * (24 * 16)≤aC:=fun y=>by simp only [aC,List.length_cons,List.length_nil];omega
  simp only [hr,if_true]
  cases A9 x <;> cases gm x.2.2.2.2.1 16 <;> cases (x.1 == 1) <;> cases decide (x.2.2.1≥1) <;> cases gm (jo s x.2.1) 32 <;> simp
 ·unfold wk;simp
theorem Ei (s:ae.D) (xs:List ai.D) (hs:s.1.length≤33554432) (h:xs.length≤33554432):uL s xs=some (bh (w6 s) 0 xs):=by
 unfold uL
 rw [cy xs (w6 s) (fun s=>s) (z7 s) (by omega) (fun t i x hI hx=>?_) (fun t=>?_)]
 ·rfl
 ·have hlt:=(List.getElem?_eq_some_iff.1 hx).1
  have hil:((i:Int) < (xs.length:Int)):=by omega
  unfold v7 w6
  simp only [hil,decide_true,cond_true,ay hx,OI,FW,sy s _ hs,Option.bind_some]
  have hr:∀ (y:af.D),(t.length + ([y]:List af.D).length) * (24 * 16)≤aC:=fun y=>by simp only [aC,List.length_cons,List.length_nil];omega
  simp only [hr,if_true]
  have h1:=T7 x
  cases hl:A9 x
  ·simp only [cond_false,Option.bind_some,hr,if_true,Bool.false_and]
   cases (x.1 == 1) <;> cases decide (x.2.2.1≥1) <;> cases gm (jo s x.2.1) 32 <;> simp only [cond_true,cond_false,Option.bind_some,hr,if_true,Bool.and_true,Bool.and_false,Bool.false_and,List.append_nil]
  ·rw [h1 hl]
   cases gm x.2.2.2.2.1 16 <;> simp
 ·unfold v7;simp
theorem Qh (n:Int):dd n=ce n:=by
 unfold dd ce
 simp only [cond_eq_ite,decide_eq_true_eq]
 split <;> split <;> (try split) <;> (try split) <;> first | rfl | (congr 1;omega) | omega
theorem UM (a b:Int):dW a b=aZ a b:=by unfold dW aZ;simp only [Qh]
theorem UN (a b:Int):jb a b=gi a b:=by unfold jb gi;simp only [Qh]
theorem T8 (p:ah.D):qG p=gF p:=by unfold qG gF;simp only [UM,UN]
theorem Rl (p:ah.D):∃ m,gF p=some m:=by simp [gF,aZ,gi,ce]
theorem FX (p:ah.D):∃ b,pp p=some b∧lx p=some b∧(b=true→(p.2.2.2.1 == 2)=true):=by
 unfold pp lx
 obtain ⟨m,hm⟩:=Rl p
 obtain ⟨b,hb⟩:=jX p 8
 simp only [T8,hm,← lA,hb,Option.bind_some]
 unfold bne
 cases h:p.2.2.2.1 == 2 <;> simp only [Bool.not_true,Bool.not_false,cond_true,cond_false]
 ·exact ⟨_,rfl,rfl,by simp⟩
 ·cases decide (m≤0) <;> cases b <;> cases p.2.2.2.2.2.2.2.2.2.2.2.1 <;> exact ⟨_,rfl,rfl,by simp⟩
def kL (p:ah.D):Bool:=(lx p).getD false
theorem KU (p:ah.D):lx p=some (kL p):=by
 obtain ⟨b,_,h,_⟩:=FX p
 unfold kL
 rw [h];rfl
theorem KV (p:ah.D):pp p=some (kL p):=by
 obtain ⟨b,h1,h,_⟩:=FX p
 unfold kL
 rw [h,h1];rfl
theorem Qi (p:ah.D) (h:kL p=true):(p.2.2.2.1 == 2)=true:=by
 obtain ⟨b,_,h2,h3⟩:=FX p
 unfold kL at h
 rw [h2] at h
 exact h3 h
theorem Ej {α β T R:Type} (xs:List α) (f:α→α) (g:Nat→α→List β) (mk:List β→List α→Int→T) (r:T→R) {body:T→Option (T⊕R)} (n0:List β) (hg:∀ i x,(g i x).length≤1) (hlen:xs.length≤33554432)
  (hb:∀ (ns:List β) (ys:List α) (i:Nat) x,ns.length≤n0.length + i→i < 33554432→ys.length=xs.length→xs[i]?=some x→ys[i]?=some x→body (mk ns ys (i:Int))=some (.inl (mk (ns++g i x) (ys.set i (f x)) (IntKind.wrap .i64 ((i:Int) + 1)))))
  (he:∀ (ns:List β) (ys:List α),body (mk ns ys (xs.length:Int))=some (.inr (r (mk ns ys (xs.length:Int))))) :
  al body (mk n0 xs 0)=some (r (mk (n0++bh g 0 xs) (xs.map f) (xs.length:Int))):=by
 have main:∀ (l p q:List α) (ns:List β),xs=p++l→q.length=p.length→ns.length≤n0.length + p.length→al body (mk ns (q++l) (p.length:Int))=some (r (mk (ns++bh g p.length l) (q++l.map f) (xs.length:Int))):=by
  intro l
  induction l with
  | nil =>
   intro p q ns e hq hn
   refine aI ?_
   have:p.length=xs.length:=by rw [e];simp
   rw [this,he]
   simp [bh]
  | cons x l ih =>
   intro p q ns e hq hn
   have hlt:p.length < xs.length:=by rw [e];simp
   have hx:xs[p.length]?=some x:=by rw [e];simp
   have hy:(q++x :: l)[p.length]?=some x:=by rw [← hq];simp
   have h1:=hb ns (q++x :: l) p.length x hn (by omega) (by rw [e];simp [hq]) hx hy
   rw [aB (by omega) (by omega)] at h1
   have h2:=ih (p++[x]) (q++[f x]) (ns++g p.length x) (by rw [e];simp) (by simp [hq]) (by have:=hg p.length x;simp only [List.length_append,List.length_cons,List.length_nil];omega)
   refine aF h1 ?_
   have e1:(q++x :: l).set p.length (f x)=q++[f x]++l:=by rw [← hq];simp
   rw [e1]
   have e2:((p++[x]).length:Int)=(p.length:Int) + 1:=by simp
   rw [e2] at h2
   rw [h2]
   simp [bh,List.append_assoc]
 have:=main xs [] [] n0 rfl rfl (by simp)
 simpa using this
def Ch (x:au.D):Bool:=!x.2.2.1 && (decide (x.1≤0) || decide (x.2.1≥10))
def Ba (x:au.D):au.D:=bif Ch x then (x.1,x.2.1,true,()) else x
def tP (i:Nat) (x:au.D):List ai.D:=bif Ch x then [(5,(0,0,0,0,0,0,false,()),0,(i:Int),(0,0,0,0,0,0,0,0,0,0,0,false,false,()),())] else []
def w7 (p:ah.D):Int:=if p.2.2.2.2.2.2.2.2.2.1 < p.2.2.2.2.2.2.2.2.1 then p.2.2.2.2.2.2.2.2.2.1 else p.2.2.2.2.2.2.2.2.1
def wz (p:ah.D):Bool:=(p.2.2.2.1 == 2) && decide (w7 p > 0)
def ue (c:Int) (p:ah.D):ah.D :=
 bif kL p then (p.1,p.2.1,p.2.1,3,c,p.2.2.2.2.2.1,p.2.2.2.2.2.2.1,p.2.2.2.2.2.2.2.1,0,0,0,false,false,())
 else bif wz p then (p.1,p.2.1,p.2.2.1,p.2.2.2.1,p.2.2.2.2.1,p.2.2.2.2.2.1,p.2.2.2.2.2.2.1,p.2.2.2.2.2.2.2.1,IntKind.wrap .i64 (p.2.2.2.2.2.2.2.2.1 - w7 p),IntKind.wrap .i64 (p.2.2.2.2.2.2.2.2.2.1 - w7 p),p.2.2.2.2.2.2.2.2.2.2)
 else p
def w8 (_:Nat) (p:ah.D):List ai.D :=
 bif kL p then [(6,(0,0,0,0,0,0,false,()),0,0,p,())] else bif wz p then [(7,(0,0,0,0,0,0,false,()),w7 p,0,p,())] else []
theorem z8 (i:Nat) (x:au.D):(tP i x).length≤1:=by unfold tP;cases Ch x <;> simp
theorem Nd (i:Nat) (x:ah.D):(w8 i x).length≤1:=by unfold w8;cases kL x <;> cases wz x <;> simp
theorem Mx (a b:Int):∃ m,eL a b=some m∧(if (if b < a then b else a) > 0 then m=(if b < a then b else a) else ¬ m > 0):=by
 unfold eL
 simp only [cond_eq_ite,decide_eq_true_eq]
 split <;> simp only [Option.bind_some] <;> split <;> refine ⟨_,rfl,?_⟩ <;> split <;> omega
theorem SE (s:ae.D) (hs:s.2.1.length≤33554432):al (jO s) ([],0,s)=some (bh tP 0 s.2.1,(s.2.1.length:Int),(s.1,s.2.1.map Ba,s.2.2)):=by
 have:=Ej s.2.1 Ba tP (fun ns ys i=>(ns,i,(s.1,ys,s.2.2))) (fun t=>t) (body:=jO s) [] z8 hs (fun ns ys i x hn hi hl hx hy=>?_) (fun ns ys=>?_)
 ·simpa using this
 ·have hlt:=(List.getElem?_eq_some_iff.1 hx).1
  have hil:((i:Int) < (s.2.1.length:Int)):=by omega
  unfold jO Ba tP Ch
  simp only [hil,decide_true,cond_true,ay hx,Int.toNat_natCast,ay hy,hy,Option.bind_some]
  rw [if_pos (by simp only [aC,List.length_cons,List.length_nil] at *;omega)]
  have:=vm hy
  cases x.2.2.1 <;> cases decide (x.1≤0) <;> cases decide (x.2.1≥10) <;> simp [this]
 ·unfold jO;simp
theorem Rm (s:ae.D) (hs:s.2.1.length≤33554432):al (jK s) ([],0,s)=some (bh tP 0 s.2.1,(s.2.1.length:Int),(s.1,s.2.1.map Ba,s.2.2)):=by
 have:=Ej s.2.1 Ba tP (fun ns ys i=>(ns,i,(s.1,ys,s.2.2))) (fun t=>t) (body:=jK s) [] z8 hs (fun ns ys i x hn hi hl hx hy=>?_) (fun ns ys=>?_)
 ·simpa using this
 ·have hlt:=(List.getElem?_eq_some_iff.1 hx).1
  have hil:((i:Int) < (s.2.1.length:Int)):=by omega
  unfold jK Ba tP Ch
  simp only [hil,decide_true,cond_true,ay hx,Int.toNat_natCast,ay hy,hy,Option.bind_some]
  rw [if_pos (by simp only [aC,List.length_cons,List.length_nil] at *;omega)]
  have:=vm hy
  cases x.2.2.1 <;> cases decide (x.1≤0) <;> cases decide (x.2.1≥10) <;> simp [this]
 ·unfold jK;simp
theorem Rn (s:ae.D) (n0:List ai.D) (t:(List au.D)×(Int×(Int×Unit))) (hn0:n0.length≤33554432) (hp:s.1.length≤33554432) :
  al (jP s) (n0,0,(s.1,t))=some (n0++bh w8 0 s.1,(s.1.length:Int),(s.1.map (ue s.2.2.2.1),t)):=by
 refine Ej s.1 (ue s.2.2.2.1) w8 (fun ns ys i=>(ns,i,(ys,t))) (fun t=>t) (body:=jP s) n0 Nd hp (fun ns ys i x hn hi hl hx hy=>?_) (fun ns ys=>?_)
 ·have hlt:=(List.getElem?_eq_some_iff.1 hx).1
  have hil:((i:Int) < (s.1.length:Int)):=by omega
  have hly:i < ys.length:=by omega
  have hm:∀ a b,sh x a b=some (x.1,x.2.1,x.2.1,a,b,x.2.2.2.2.2.1,x.2.2.2.2.2.2.1,x.2.2.2.2.2.2.2.1,0,0,0,false,false,()):=fun a b=>rfl
  have hself:=vm hy
  unfold jP ue w8
  simp only [hil,decide_true,cond_true,ay hx,KU,Option.bind_some,Int.toNat_natCast,ay hy,hy,hm,ib hly,ic hly,List.set_set]
  cases kL x
  ·simp only [cond_false]
   change ((bif x.2.2.2.1 == 2 then some (decide (w7 x > 0)) else some false).bind fun o17=>_)=_
   unfold wz
   cases (x.2.2.2.1 == 2) <;> cases decide (w7 x > 0) <;> simp only [cond_true,cond_false,Option.bind_some,Bool.and_true,Bool.and_false,Bool.true_and,Bool.false_and,hself,List.append_nil]
   rw [if_pos (by simp only [aC,List.length_cons,List.length_nil] at *;omega)]
   rfl
  ·simp only [cond_true]
   rw [if_pos (by simp only [aC,List.length_cons,List.length_nil] at *;omega)]
 ·unfold jP;simp
theorem Qj (s:ae.D) (n0:List ai.D) (t:(List au.D)×(Int×(Int×Unit))) (hn0:n0.length≤33554432) (hp:s.1.length≤33554432) :
  al (jL s) (n0,0,(s.1,t))=some (n0++bh w8 0 s.1,(s.1.length:Int),(s.1.map (ue s.2.2.2.1),t)):=by
 refine Ej s.1 (ue s.2.2.2.1) w8 (fun ns ys i=>(ns,i,(ys,t))) (fun t=>t) (body:=jL s) n0 Nd hp (fun ns ys i x hn hi hl hx hy=>?_) (fun ns ys=>?_)
 ·have hlt:=(List.getElem?_eq_some_iff.1 hx).1
  have hil:((i:Int) < (s.1.length:Int)):=by omega
  have hly:i < ys.length:=by omega
  have hm:∀ a b,rP x a b=some (x.1,x.2.1,x.2.1,a,b,x.2.2.2.2.2.1,x.2.2.2.2.2.2.1,x.2.2.2.2.2.2.2.1,0,0,0,false,false,()):=fun a b=>rfl
  have hself:=vm hy
  obtain ⟨m,hm1,hm2⟩:=Mx x.2.2.2.2.2.2.2.2.1 x.2.2.2.2.2.2.2.2.2.1
  change (if w7 x > 0 then m=w7 x else ¬ m > 0) at hm2
  unfold jL ue w8
  simp only [hil,decide_true,cond_true,ay hx,KV,Option.bind_some,Int.toNat_natCast,ay hy,hy,hm,hm1,ib hly,ic hly,List.set_set]
  cases kL x
  ·simp only [cond_false]
   unfold wz
   by_cases hpos:w7 x > 0
   ·rw [if_pos hpos] at hm2
    subst hm2
    rw [decide_eq_true hpos]
    cases (x.2.2.2.1 == 2) <;> simp only [cond_true,cond_false,Option.bind_some,Bool.and_true,Bool.and_false,Bool.true_and,Bool.false_and,hself,List.append_nil]
    rw [if_pos (by simp only [aC,List.length_cons,List.length_nil] at *;omega)]
    rfl
   ·rw [if_neg hpos] at hm2
    rw [decide_eq_false hpos,decide_eq_false hm2]
    cases (x.2.2.2.1 == 2) <;> simp only [cond_true,cond_false,Option.bind_some,Bool.and_true,Bool.and_false,Bool.true_and,Bool.false_and,hself,List.append_nil]
  ·simp only [cond_true]
   rw [if_pos (by simp only [aC,List.length_cons,List.length_nil] at *;omega)]
   rfl
 ·unfold jL;simp
def eW (s:ae.D):ae.D×((List ai.D)×Unit) :=
 if bk s then ((s.1.map (ue s.2.2.2.1),s.2.1.map Ba,s.2.2),bh tP 0 s.2.1++bh w8 0 s.1,()) else (s,[],())
theorem hZ (s:ae.D) (hp:s.1.length≤33554432) (hs:s.2.1.length≤33554432):wj s=some (eW s):=by
 unfold wj eW
 simp only [fA s hp hs,cQ s hp hs,Option.bind_some]
 cases bk s
 ·rfl
 ·simp only [Bool.not_true,cond_false,if_true,SE s hs,Option.bind_some]
  rw [Rn s _ _ (by have:=li tP z8 s.2.1 0;omega) hp]
  rfl
theorem My (s:ae.D) (hp:s.1.length≤33554432) (hs:s.2.1.length≤33554432):v6 s=some (eW s):=by
 unfold v6 eW
 simp only [gM s hp hs,dz s hp hs,Option.bind_some]
 cases bk s
 ·rfl
 ·simp only [Bool.not_true,cond_false,if_true,Rm s hs,Option.bind_some]
  rw [Qj s _ _ (by have:=li tP z8 s.2.1 0;omega) hp]
  rfl
theorem Ci (s:ae.D):gT (eW s).1 s:=by
 unfold eW gT
 split <;> simp
def wS (x:au.D):Nat:=bif x.2.2.1 then 0 else 1
def wP (p:ah.D):Nat:=bif p.2.2.2.1 == 2 then (if w7 p > 0 then 2 else 1) else 0
def sA (s:ae.D):Nat:=(s.2.1.map wS).sum + (s.1.map wP).sum
theorem UO (i:Nat) (x:au.D):(tP i x).length + wS (Ba x)≤wS x:=by
 unfold tP Ba
 cases h:Ch x
 ·simp
 ·have:x.2.2.1=false:=by unfold Ch at h;cases hx:x.2.2.1 <;> simp [hx] at h ⊢
  simp [wS,this]
theorem SF (a b:Int):(if IntKind.wrap .i64 (b - (if b < a then b else a)) < IntKind.wrap .i64 (a - (if b < a then b else a)) then IntKind.wrap .i64 (b - (if b < a then b else a)) else IntKind.wrap .i64 (a - (if b < a then b else a)))≤0:=by
 have h0:IntKind.wrap .i64 0=0:=by decide
 by_cases h:b < a
 ·rw [if_pos h,Int.sub_self,h0];split <;> omega
 ·rw [if_neg h,Int.sub_self,h0];split <;> omega
theorem UP (c:Int) (i:Nat) (p:ah.D):(w8 i p).length + wP (ue c p)≤wP p:=by
 unfold w8 ue
 cases h:kL p
 ·cases h2:wz p
  ·simp
  ·unfold wz at h2
   rw [Bool.and_eq_true,decide_eq_true_eq] at h2
   have e1:wP p=2:=by unfold wP;rw [h2.1];simp only [cond_true];rw [if_pos h2.2]
   rw [e1]
   simp only [cond_true,cond_false,List.length_cons,List.length_nil]
   have:=SF p.2.2.2.2.2.2.2.2.1 p.2.2.2.2.2.2.2.2.2.1
   unfold wP
   simp only [h2.1,cond_true]
   rw [if_neg]
   ·omega
   ·unfold w7;simp only;unfold w7 at *;omega
 ·have hz:=Qi p h
  simp only [cond_true,List.length_cons,List.length_nil]
  unfold wP
  rw [hz]
  simp only [cond_true]
  have:((3:Int) == 2)=false:=rfl
  simp only [this,cond_false]
  split <;> omega
theorem sB {α β:Type} (g:Nat→α→List β) (f:α→α) (w:α→Nat) (h:∀ i x,(g i x).length + w (f x)≤w x):∀ (xs:List α) (i:Nat),(bh g i xs).length + ((xs.map f).map w).sum≤(xs.map w).sum
 | [],_=>by simp [bh]
 | x :: xs,i=>by
  have h1:=sB g f w h xs (i + 1)
  have h2:=h i x
  simp only [bh,List.length_append,List.map_cons,List.sum_cons]
  omega
theorem Ek (s:ae.D):(eW s).2.1.length + sA (eW s).1≤sA s:=by
 unfold eW
 split
 ·have h1:=sB tP Ba wS UO s.2.1 0
  have h2:=sB w8 (ue s.2.2.2.1) wP (UP _) s.1 0
  simp only [sA,List.length_append]
  omega
 ·simp
theorem Ro {α:Type} (w:α→Nat) (k:Nat) (h:∀ x,w x≤k):∀ (xs:List α),(xs.map w).sum≤k * xs.length
 | []=>by simp
 | x :: xs=>by have h1:=Ro w k h xs;have h2:=h x;simp only [List.map_cons,List.sum_cons,List.length_cons,Nat.mul_add];omega
theorem Ne (s:ae.D):sA s≤s.2.1.length + 2 * s.1.length:=by
 have h1:=Ro wS 1 (fun x=>by unfold wS;cases x.2.2.1 <;> simp) s.2.1
 have h2:=Ro wP 2 (fun p=>by unfold wP;cases p.2.2.2.1 == 2 <;> simp only [cond_true,cond_false] <;> (try split) <;> omega) s.1
 unfold sA
 omega
theorem oV {s:ae.D} (h:bk s=true):s.1.length≤8∧s.2.1.length≤3:=by
 unfold bk at h
 simp only [Bool.and_eq_true] at h
 have h1:=of_decide_eq_true h.1.1.1.1.1
 have h2:=of_decide_eq_true h.1.1.1.1.2.2
 exact ⟨by omega,by omega⟩
theorem Qk (s:ae.D) (hp:s.1.length≤33554432) (hs:s.2.1.length≤33554432) (u:ae.D) :
  ∃ r,al bF ([],0,u,s)=some r∧gT r.2.2 s∧r.1.length≤33554432:=by
 cases hok:bk s with
 | false =>
  refine ⟨([],0,s),aI ?_,⟨rfl,rfl⟩,by simp⟩
  unfold bF
  simp only [hZ s hp hs,Option.bind_some]
  have:(eW s).2.1=[]:=by unfold eW;rw [hok];rfl
  rw [this];rfl
 | true =>
  obtain ⟨l1,l2⟩:=oV hok
  have hw:=Ne s
  obtain ⟨r,h1,h2⟩:=re (body:=bF) (fun t=>sA t.2.2.2) (fun t=>gT t.2.2.2 s∧t.1.length + sA t.2.2.2≤sA s) (fun r=>gT r.2.2 s∧r.1.length≤33554432) (by
   rintro ⟨all,n,u,t⟩ ⟨⟨z1,z2⟩,z3⟩
   simp only at z1 z2 z3
   have hr:=Ek t
   have hz:=Ci t
   unfold bF
   simp only [hZ t (by omega) (by omega),Option.bind_some]
   by_cases hn:(eW t).2.1.length=0
   ·right
    have:(((eW t).2.1.length:Int) == 0)=true:=by rw [hn];rfl
    rw [this]
    exact ⟨_,rfl,⟨z1,z2⟩,by simp only;omega⟩
   ·left
    have:(((eW t).2.1.length:Int) == 0)=false:=by rw [beq_eq_false_iff_ne];omega
    rw [this]
    simp only [cond_false]
    rw [if_pos (by simp only [aC];omega)]
    refine ⟨_,rfl,⟨⟨hz.1.trans z1,hz.2.trans z2⟩,?_⟩,?_⟩
    ·simp only [List.length_append];omega
    ·simp only;omega) ([],0,u,s) ⟨⟨rfl,rfl⟩,by simp⟩
  exact ⟨r,h1,h2⟩
theorem Ql (t:_) (hp:t.2.2.2.1.length≤33554432) (hs:t.2.2.2.2.1.length≤33554432):mh t=bF t:=by
 unfold mh bF
 rw [My _ hp hs,hZ _ hp hs]
theorem Rp {S R:Type} {b1 b2:S→Option (S⊕R)} (I:S→Prop) (h:∀ s,I s→b1 s=b2 s) (hk:∀ s s',I s→b2 s=some (.inl s')→I s') {s:S} {r:R} (hI:I s) (hr:al b2 s=some r):al b1 s=some r:=by
 obtain ⟨n,hn⟩:=Bp hr
 refine tW (n:=n) ?_
 clear hr
 induction n generalizing s with
 | zero=>simp [al.iter] at hn
 | succ n ih =>
  simp only [al.iter] at hn ⊢
  rw [h s hI]
  cases hb:b2 s with
  | none=>rw [hb] at hn;cases hn
  | some x =>
   rw [hb,Option.bind_some] at hn
   rw [Option.bind_some]
   cases x with
   | inl s'=>exact ih (hk s s' hI hb) hn
   | inr q=>exact hn
theorem SG (s:ae.D) (hp:s.1.length≤33554432) (hs:s.2.1.length≤33554432):∃ r,pr s=some r∧ly s=some r∧gT r.1 s∧r.2.1.length≤33554432:=by
 obtain ⟨r,h1,h2,h3⟩:=Qk s hp hs ([],[],0,0,())
 have h4:al mh ([],0,([],[],0,0,()),s)=some r:=by
  refine Rp (b2:=bF) (fun t=>t.2.2.2.1.length≤33554432∧t.2.2.2.2.1.length≤33554432) (fun t h=>Ql t h.1 h.2) ?_ ⟨hp,hs⟩ h1
  rintro ⟨all,n,u,t⟩ t' ⟨g1,g2⟩ hb
  simp only at g1 g2
  have hz:=Ci t
  unfold bF at hb
  simp only [hZ t g1 g2,Option.bind_some] at hb
  cases hc:(((eW t).2.1.length:Int) == 0) with
  | true=>rw [hc] at hb;simp at hb
  | false =>
   rw [hc] at hb
   simp only [cond_false] at hb
   split at hb
   ·simp only [Option.some.injEq,Sum.inl.injEq] at hb
    subst hb
    exact ⟨by simp only;rw [hz.1];exact g1,by simp only;rw [hz.2];exact g2⟩
   ·cases hb
 refine ⟨(r.2.2,r.1,r.2.1,()),?_,?_,h2,h3⟩
 ·unfold pr
  simp only [gM s hp hs,Option.bind_some,h4]
 ·unfold ly
  simp only [fA s hp hs,Option.bind_some,h1]
def Cj (a:Int) (_:Nat) (x:ah.D):List Int:=bif (x.2.2.2.1 == 2) && ((a == -1) || (x.2.2.1 == a)) then [x.1] else []
theorem Rq (a:Int) (i:Nat) (x:ah.D):(Cj a i x).length≤1:=by unfold Cj;cases ((x.2.2.2.1 == 2) && ((a == -1) || (x.2.2.1 == a))) <;> simp
theorem HW (s:ae.D) (a:Int) (h:s.1.length≤33554432):qL s a=some (bh (Cj a) 0 s.1):=by
 unfold qL
 rw [cy s.1 (Cj a) (fun s=>s) (Rq a) (by omega) (fun t i x hI hx=>?_) (fun t=>?_)]
 ·rfl
 ·have hlt:=(List.getElem?_eq_some_iff.1 hx).1
  have hil:((i:Int) < (s.1.length:Int)):=by omega
  unfold qb Cj
  simp only [hil,decide_true,cond_true,ay hx]
  rw [if_pos (by simp only [aC,List.length_cons,List.length_nil];omega)]
  cases (x.2.2.2.1 == 2) <;> cases (a == -1) <;> cases (x.2.2.1 == a) <;> simp
 ·unfold qb;simp
def up (a b:Int):Int:=if (if b < a then b else a) > 0 then (if b < a then b else a) else 0
theorem m8 (a b:Int):lu a b=some (up a b):=rfl
theorem jp (a b:Int) (hb:0≤b):eL a b=some (up a b):=by
 unfold eL up
 simp only [cond_eq_ite,decide_eq_true_eq]
 split <;> simp only [Option.bind_some] <;> (try split) <;> (try split) <;> (try split) <;> first | rfl | (congr 1;omega) | omega
theorem Ia {a:Int} (h0:0≤a) (h1:a≤2147483647):up a 2147483647=a:=by unfold up;split <;> (try split) <;> omega
theorem uf {v:ac.D} (h:aO v=true):0≤v.2.2.2.2.1∧v.2.2.2.2.1≤2147483647:=by
 unfold aO at h
 rw [Bool.and_eq_true,Bool.and_eq_true] at h
 exact ⟨of_decide_eq_true h.1.1,of_decide_eq_true h.1.2⟩
def KW (v:ac.D):Int:=if v.1=1 then up v.2.2.2.2.1 2147483647 else 0
theorem iY {α β:Type} (f:α→β):∀ (xs:List α) (i:Nat),bh (fun _ x=>[f x]) i xs=xs.map f
 | [],_=>rfl
 | x :: xs,i=>by simp only [bh,List.map_cons,iY f xs (i + 1)];rfl
theorem cj (xs:List aa.D) (h:okD (.slice aa) xs):cm xs=some xs:=by
 have hl:xs.length≤33554432:=h.1
 unfold cm
 rw [cy xs (fun _ x=>[x]) (fun s=>s) (fun _ _=>by simp) (by omega) (fun t i x hI hx=>?_) (fun t=>?_)]
 ·rw [Option.bind_some,iY];simp
 ·have hlt:=(List.getElem?_eq_some_iff.1 hx).1
  have hil:((i:Int) < (xs.length:Int)):=by omega
  have hle:=(h.2 x (List.mem_of_getElem? hx)).2.2.2.2.2.2.1.2.2.2.2.2.2.1.1
  unfold pZ dN sY
  simp only [hil,decide_true,cond_true,ay hx,List.nil_append]
  rw [if_pos (by simp only [aC,List.length_nil];omega)]
  simp only [Option.bind_some]
  rw [if_pos (by simp only [aC,List.length_cons,List.length_nil];omega)]
 ·unfold pZ;simp
theorem dA (xs:List aa.D) (h:okD (.slice aa) xs):bO xs=some xs:=by
 have hl:xs.length≤33554432:=h.1
 unfold bO
 rw [cy xs (fun _ x=>[x]) (fun s=>s) (fun _ _=>by simp) (by omega) (fun t i x hI hx=>?_) (fun t=>?_)]
 ·rw [Option.bind_some,iY];simp
 ·have hlt:=(List.getElem?_eq_some_iff.1 hx).1
  have hil:((i:Int) < (xs.length:Int)):=by omega
  have hle:=(h.2 x (List.mem_of_getElem? hx)).2.2.2.2.2.2.1.2.2.2.2.2.2.1.1
  unfold mt cN bd
  simp only [hil,decide_true,cond_true,ay hx,List.nil_append]
  rw [if_pos (by simp only [aC,List.length_nil];omega)]
  simp only [Option.bind_some]
  rw [if_pos (by simp only [aC,List.length_cons,List.length_nil];omega)]
 ·unfold mt;simp
def KX (n:Int) (x:ac.D):ac.D:=bif (x.2.2.2.2.1 == (-1)) then (x.1,x.2.1,x.2.2.1,x.2.2.2.1,up n 2147483647,x.2.2.2.2.2) else x
theorem Mz (a:bm.D) (e:ac.D) (hk:a.1=9) (hl:a.2.2.2.2.2.2.1.length≤33554432):wc a e=some (a.2.2.2.2.2.2.1.map (KX e.2.2.2.2.1)):=by
 unfold wc
 have:(a.1 != 9)=false:=by rw [hk];rfl
 rw [this,cond_false]
 rw [cy a.2.2.2.2.2.2.1 (fun _ x=>[KX e.2.2.2.2.1 x]) (fun s=>s) (fun _ _=>by simp) (by omega) (fun t i x hI hx=>?_) (fun t=>?_)]
 ·rw [iY];rfl
 ·have hlt:=(List.getElem?_eq_some_iff.1 hx).1
  have hil:((i:Int) < (a.2.2.2.2.2.2.1.length:Int)):=by omega
  unfold t8 KX
  simp only [hil,decide_true,cond_true,ay hx,m8,Option.bind_some]
  cases (x.2.2.2.2.1 == -1)
  ·simp only [cond_false,Option.bind_some]
   rw [if_pos (by simp only [aC,List.length_cons,List.length_nil];omega)]
  ·simp only [cond_true,Option.bind_some]
   rw [if_pos (by simp only [aC,List.length_cons,List.length_nil];omega)]
 ·unfold t8;simp
theorem MA (a:bm.D) (e:ac.D) (hk:a.1=9) (hl:a.2.2.2.2.2.2.1.length≤33554432):rN a e=some (a.2.2.2.2.2.2.1.map (KX e.2.2.2.2.1)):=by
 unfold rN
 rw [cy a.2.2.2.2.2.2.1 (fun _ x=>[KX e.2.2.2.2.1 x]) (fun s=>s) (fun _ _=>by simp) (by omega) (fun t i x hI hx=>?_) (fun t=>?_)]
 ·rw [iY];rfl
 ·have hlt:=(List.getElem?_eq_some_iff.1 hx).1
  have hil:((i:Int) < (a.2.2.2.2.2.2.1.length:Int)):=by omega
  have h9:(a.1 == 9)=true:=by rw [hk];rfl
  unfold tY KX
  simp only [hil,decide_true,cond_true,h9,ay hx,jp _ 2147483647 (by decide),Option.bind_some]
  cases (x.2.2.2.2.1 == -1)
  ·simp only [cond_false,Option.bind_some]
   rw [if_pos (by simp only [aC,List.length_cons,List.length_nil];omega)]
  ·simp only [cond_true,Option.bind_some]
   rw [if_pos (by simp only [aC,List.length_cons,List.length_nil];omega)]
 ·unfold tY;simp
def El (e:ac.D):Bool:=(e.2.2.2.2.1 == 0) && (e.1 != 2)
theorem Em (e:ac.D):uP e=some (El e):=by unfold uP El;cases (e.2.2.2.2.1 == 0) <;> rfl
theorem Eo (e:ac.D):uG e=some (El e):=by unfold uG El;cases (e.2.2.2.2.1 == 0) <;> rfl
def pN (e:ac.D):Bool:=aO e && !El e
theorem T9 (L:List ac.D) (hl:L.length≤33554432):be L (fun q=>qP q.1)=some (L.filter pN,()):=by
 rw [oA L hl (fun e=>!pN e) _ (fun x=>by
  unfold qP pN
  simp only [bR,Em,Option.bind_some]
  cases aO x <;> cases El x <;> rfl)]
 simp only [Bool.not_not]
theorem Ua (o:(List ac.D)×Int) (hl:o.1.length≤33554432):al (oJ o) ([],0)=some (o.1.filter pN,(o.1.length:Int)):=by
 rw [cy o.1 (fun _ x=>if pN x then [x] else []) (fun s=>s) (fun _ x=>by split <;> simp) (by omega) (fun t i x hI hx=>?_) (fun t=>?_)]
 ·rw [iG]
 ·have hlt:=(List.getElem?_eq_some_iff.1 hx).1
  have hil:((i:Int) < (o.1.length:Int)):=by omega
  unfold oJ pN
  simp only [hil,decide_true,cond_true,ay hx,Int.toNat_natCast,hx,bB,Eo,Option.bind_some]
  cases aO x <;> cases El x <;> simp only [cond_true,cond_false,Option.bind_some,Bool.not_true,Bool.not_false,Bool.and_true,Bool.and_false,Bool.false_and,Bool.true_and,if_true,if_false,List.append_nil,Bool.false_eq_true]
  rw [if_pos (by simp only [aC,List.length_cons,List.length_nil];omega)]
  rfl
 ·unfold oJ;simp
theorem gN (x:aa.D) (hl:x.2.2.2.2.2.2.1.2.2.2.2.2.2.1.length≤33554432):cN x=some x:=by
 unfold cN bd
 rw [if_pos (by simp only [aC,List.length_nil];omega)]
 rfl
theorem eQ (x:aa.D) (hl:x.2.2.2.2.2.2.1.2.2.2.2.2.2.1.length≤33554432):dN x=some x:=by
 unfold dN sY
 rw [if_pos (by simp only [aC,List.length_nil];omega)]
 rfl
theorem Bb (e:ac.D) (n:Int):wb e n=some (e.1,e.2.1,e.2.2.1,e.2.2.2.1,up n 2147483647,e.2.2.2.2.2):=rfl
theorem Bc (e:ac.D) (n:Int):nR e n=some (e.1,e.2.1,e.2.2.1,e.2.2.2.1,up n 2147483647,e.2.2.2.2.2):=by
 unfold nR;rw [jp _ _ (by decide)];rfl
theorem SH (a:bm.D) (n:Int):∃ m,tu a n=some m∧tF a n=some m:=by
 unfold tu tF By BP E0 Fd
 simp only [jp _ 2147483647 (by decide),m8,wt,wu,ud,jU,Option.bind_some]
 cases (a.1 == 1) <;> cases (a.1 == 3) <;> cases (a.1 == 4) <;> cases (a.1 == 5) <;> exact ⟨_,rfl,rfl⟩
def sC (x:aa.D) (n:Int):aa.D :=
 bif x.2.2.2.2.2.2.1.1 == 2 then (x.1,x.2.1,x.2.2.1,x.2.2.2.1,x.2.2.2.2.1,x.2.2.2.2.2.1,x.2.2.2.2.2.2.1,x.2.2.2.2.2.2.2.1,up (A7 x.2.2.2.2.2.2.2.2.1 n) 2147483647,())
 else bif decide (x.2.2.2.2.2.2.2.2.1 > 0) then (x.1,x.2.1,x.2.2.1,x.2.2.2.1,x.2.2.2.2.1,x.2.2.2.2.2.1,x.2.2.2.2.2.2.1,x.2.2.2.2.2.2.2.1,IntKind.wrap .i64 (x.2.2.2.2.2.2.2.2.1 - 1),())
 else x
theorem MB (x:aa.D) (n:Int) (hl:x.2.2.2.2.2.2.1.2.2.2.2.2.2.1.length≤33554432):wd x n=some (sC x n):=by
 unfold wd sC
 rw [gN x hl]
 simp only [ww,m8,Option.bind_some]
 cases (x.2.2.2.2.2.2.1.1 == 2) <;> cases decide (x.2.2.2.2.2.2.2.2.1 > 0) <;> rfl
theorem MC (x:aa.D) (n:Int) (hl:x.2.2.2.2.2.2.1.2.2.2.2.2.2.1.length≤33554432):vX x n=some (sC x n):=by
 unfold vX sC
 rw [eQ x hl]
 simp only [wv,jp _ 2147483647 (by decide),Option.bind_some]
 cases (x.2.2.2.2.2.2.1.1 == 2) <;> cases decide (x.2.2.2.2.2.2.2.2.1 > 0) <;> rfl
theorem wA (x:aa.D) (hl:x.2.2.2.2.2.2.1.2.2.2.2.2.2.1.length≤33554432) (h:aR x=true) :
  eO x.2.2.2.2.2.2.1=some true∧(x.2.2.2.2.2.2.1.1=2→0≤x.2.2.2.2.2.2.2.2.1)∧x.2.2.2.2.2.2.2.2.1≤2147483647:=by
 have h':=dK x hl
 rw [h] at h'
 obtain ⟨b1,p1,q1⟩:=zA x.2.2.2.2.1
 obtain ⟨b2,p2,q2⟩:=sv x.2.2.2.2.2.1
 obtain ⟨b3,p3,q3⟩:=Ed x.2.2.2.2.2.2.1 hl
 obtain ⟨b4,p4,q4⟩:=su x.2.2.2.2.2.2.1 x.2.2.2.2.1.1
 unfold cL dr bj at h'
 simp only [q1,q2,q3,q4,dp,Option.bind_some] at h'
 simp only [cond_eq_ite,ri,Option.bind_some] at h'
 have h':=Option.some.inj h'
 rw [q3]
 clear p1 p2 p3 p4 q1 q2 q3 q4 hl h
 generalize x.2.2.2.2.2.2.1.1=ak at *
 generalize x.1=i at *
 generalize x.2.1=ow at *
 generalize x.2.2.1=so at *
 generalize x.2.2.2.1=du at *
 generalize x.2.2.2.2.2.2.2.1=co at *
 generalize x.2.2.2.2.2.2.2.2.1=on at *
 simp at h'
 grind
theorem Vu (n p s z:Int) (bt:Bool) (L:List ac.D) (u:Unit) (h:eO (6,n,p,s,z,bt,L,u)=some true):(1≤p∧p≤99∧s=-1)∨(p=0∧0≤s∧s≤2):=by
 unfold eO dr bj at h
 simp only [dp,Option.bind_some,bne] at h
 simp only [Int.reduceBEq,beq_self_eq_true,cond_true,cond_false,Option.bind_some,Bool.not_true,Bool.not_false] at h
 have key:((decide (1≤p) && decide (p≤99)) && (s == -1) || (p == 0) && (decide (0≤s) && decide (s≤2)))=true:=by
  revert h
  generalize (decide (1≤p) && decide (p≤99))=c1
  generalize (s == -1)=c2
  generalize (p == 0)=c3
  generalize (decide (0≤s) && decide (s≤2))=c4
  generalize (n == 0)=c5
  generalize (z == 0)=c6
  generalize decide ((L.length:Int) > 0)=c7
  cases c1 <;> cases c2 <;> cases c3 <;> cases c4 <;> cases c5 <;> cases c6 <;> cases c7 <;> cases bt <;> decide
 simp at key
 omega
theorem Vv (n p s z:Int) (bt:Bool) (L:List ac.D) (u:Unit) (hl:L.length≤33554432) (h:eO (9,n,p,s,z,bt,L,u)=some true):L.length≤3:=by
 have hC:aM L (fun q=>je q.1)=some (L.any (fun e=>!kJ e)):=m7 L hl (fun e=>!kJ e) _ (fun x=>by simp only [je,zz,Option.bind_some])
 unfold eO at h
 simp only [hC,dp,Option.bind_some,bne] at h
 simp only [Int.reduceBEq,beq_self_eq_true,cond_true,cond_false,Option.bind_some,Bool.not_true,Bool.not_false] at h
 have key:(decide (1≤(L.length:Int)) && decide ((L.length:Int)≤3))=true:=by
  revert h
  generalize (decide (1≤(L.length:Int)) && decide ((L.length:Int)≤3))=c1
  generalize (s == -1)=c2
  generalize (p == 0)=c3
  generalize L.any (fun e=>!kJ e)=c4
  generalize (n == 0)=c5
  generalize (z == 0)=c6
  generalize decide ((L.length:Int) > 0)=c7
  cases c1 <;> cases c2 <;> cases c3 <;> cases c4 <;> cases c5 <;> cases c6 <;> cases c7 <;> cases bt <;> decide
 simp at key
 omega
theorem U2 (a:bm.D) (k:Int) (hk:a.1=2∨a.1=6) (h:dh a k=some true):k=1:=by
 unfold dh ln at h
 simp only [dp,Option.bind_some] at h
 rcases hk with hk | hk <;> rw [hk] at h <;> revert h <;> generalize (decide (1≤k) && decide (k≤6))=m <;> cases m <;> simp
theorem R5 (e:ac.D) (hk:e.1=1) (he:aO e=true):(([e].filter pN).map KW).sum=e.2.2.2.2.1:=by
 have hn:=uf he
 have hk2:(e.1 != 2)=true:=by rw [hk];rfl
 unfold pN El
 by_cases h0:e.2.2.2.2.1=0
 ·simp [List.filter,he,h0,hk2]
 ·have:(e.2.2.2.2.1 == 0)=false:=by rw [beq_eq_false_iff_ne];exact h0
  simp only [List.filter,he,this,Bool.false_and,Bool.not_false,Bool.and_self,List.map_cons,List.map_nil,List.sum_cons,List.sum_nil]
  unfold KW
  rw [if_pos hk,Ia hn.1 hn.2]
  omega
theorem Vn {a b:Int} (h0:0≤a) (h1:0≤b):0≤up a b∧up a b≤a∧up a b≤b:=by unfold up;split <;> (try split) <;> omega
noncomputable def z9 (x:aa.D) (e:ac.D):Option ((List ac.D)×Int):=((bif (x.2.2.2.2.2.2.1.1 == 1) then (
((bif (e.1 == 1) then (
 some e.2.2.2.2.1)
 else (
 some 0)):Option Int).bind fun o6 =>
 some ([],o6))
 else (
((bif (x.2.2.2.2.2.2.1.1 == 2) then (
(eL e.2.2.2.2.1 x.2.2.2.2.2.2.2.2.1).bind fun y7 =>
(nR e (IntKind.wrap .i64 (e.2.2.2.2.1 - y7))).bind fun y8 =>
 if (([]:List ac.D).length + [y8].length) * (24 * 7)≤aC then (
 some (([]++[y8]),y7)) else none)
 else (
((bif (x.2.2.2.2.2.2.1.1 == 9) then (
(rN x.2.2.2.2.2.2.1 e).bind fun y9 =>
 some y9)
 else (
(tw x.2.2.2.2.2.2.1 e).bind fun y10 =>
 if (([]:List ac.D).length + [y10].length) * (24 * 7)≤aC then (
 some ([]++[y10])) else none)):Option (List ac.D)).bind fun o11 =>
 some (o11,0))):Option ((List ac.D)×Int)).bind fun o12 =>
 some o12)):Option ((List ac.D)×Int))
theorem SI (i ow so du:Int) (pat:cp.D) (gd:bc.D) (k an ap asd az:Int) (ab:Bool) (aL:List ac.D) (u1:Unit) (co lf:Int) (u2:Unit) (ek es ep ed en ez:Int) (eb:Bool) (eu:Unit) (hl:aL.length≤33554432) (hok:aR (i,ow,so,du,pat,gd,(k,an,ap,asd,az,ab,aL,u1),co,lf,u2)=true) (hev:aO (ek,es,ep,ed,en,ez,eb,eu)=true) (hft:dh (k,an,ap,asd,az,ab,aL,u1) ek=some true) :
  ∃ L n,rX (i,ow,so,du,pat,gd,(k,an,ap,asd,az,ab,aL,u1),co,lf,u2) (ek,es,ep,ed,en,ez,eb,eu)=some (L,n,())∧z9 (i,ow,so,du,pat,gd,(k,an,ap,asd,az,ab,aL,u1),co,lf,u2) (ek,es,ep,ed,en,ez,eb,eu)=some (L,n)∧L.length≤3∧0≤n∧n≤en ∧
   (k=1→L=[])∧(k=2→n≤lf∧((L.filter pN).map KW).sum=en - n)∧(k=6→((L.filter pN).map KW).sum=en):=by
 obtain ⟨f1,f2,f3⟩:=wA (i,ow,so,du,pat,gd,(k,an,ap,asd,az,ab,aL,u1),co,lf,u2) hl hok
 have f2:k=2→0≤lf:=f2
 have f3:lf≤2147483647:=f3
 have hn:0≤en∧en≤2147483647:=uf hev
 have rm:(([]:List ac.D).length + 1) * (24 * 7)≤aC:=by simp only [aC,List.length_nil];omega
 unfold rX z9
 by_cases h1:k=1
 ·subst h1
  by_cases he:ek=1
  ·subst he
   exact ⟨[],en,rfl,rfl,by simp,hn.1,Int.le_refl _,fun _=>rfl,fun h=>absurd h (by decide),fun h=>absurd h (by decide)⟩
  ·have he':(ek == 1)=false:=by rw [beq_eq_false_iff_ne];exact he
   refine ⟨[],0,by simp only [he'];rfl,by simp only [he'];rfl,by simp,Int.le_refl _,hn.1,fun _=>rfl,fun h=>absurd h (by decide),fun h=>absurd h (by decide)⟩
 by_cases h2:k=2
 ·subst h2
  have hk:=U2 _ ek (.inl rfl) hft
  subst hk
  have f2:=f2 rfl
  obtain ⟨v1,v2,v3⟩:=Vn hn.1 f2
  have hw:IntKind.wrap .i64 (en - up en lf)=en - up en lf:=aB (by omega) (by omega)
  have hup:up (en - up en lf) 2147483647=en - up en lf:=Ia (by omega) (by omega)
  refine ⟨[(1,es,ep,ed,en - up en lf,ez,eb,eu)],up en lf,?_,?_,by simp,v1,v2,fun h=>absurd h (by decide),fun _=>⟨v3,?_⟩,fun h=>absurd h (by decide)⟩
  ·simp only [m8,Bb,Option.bind_some,hw,hup];rfl
  ·simp only [jp _ _ f2,Bc,Option.bind_some,hw,hup]
   rw [if_pos (by simp only [aC,List.length_cons,List.length_nil];omega)]
   rfl
  ·rw [R5 _ rfl]
   unfold aO at hev ⊢
   simp at hev ⊢
   grind
 have hend:∀ L n,(∃ y,L=[y]∧n=(0:Int)∧(k=6→(([y].filter pN).map KW).sum=en))→L.length≤3∧0≤n∧n≤en∧(k=1→L=[])∧(k=2→n≤lf∧((L.filter pN).map KW).sum=en - n)∧(k=6→((L.filter pN).map KW).sum=en):=by
  rintro L n ⟨y,rfl,rfl,hy⟩
  exact ⟨by simp,Int.le_refl _,hn.1,fun h=>absurd h h1,fun h=>absurd h h2,hy⟩
 by_cases h9:k=9
 ·subst h9
  have hL:=Vv an ap asd az ab aL u1 hl f1
  refine ⟨aL.map (KX en),0,?_,?_,by rw [List.length_map];exact hL,Int.le_refl _,hn.1,fun h=>absurd h (by decide),fun h=>absurd h (by decide),fun h=>absurd h (by decide)⟩
  ·rw [Mz _ _ rfl hl];rfl
  ·rw [MA _ _ rfl hl];rfl
 unfold tw
 have e1:=jC h1
 have e2:=jC h2
 have e9:=jC h9
 have rm1:∀ y:ac.D,(([]:List ac.D).length + [y].length) * (24 * 7)≤aC:=fun y=>by simp only [aC,List.length_cons,List.length_nil];omega
 simp only [e1,e2,e9,cond_false,rm1,if_true]
 by_cases h345:k=3∨k=4∨k=5
 ·obtain ⟨m,m1,m2⟩:=SH (k,an,ap,asd,az,ab,aL,u1) en
  have hd:=hend [(ek,es,ep,ed,up m 2147483647,ez,eb,eu)] 0 ⟨_,rfl,rfl,fun h=>by omega⟩
  refine ⟨[(ek,es,ep,ed,up m 2147483647,ez,eb,eu)],0,?_,?_,hd⟩
  ·rcases h345 with rfl | rfl | rfl <;> (simp only [m2,Bb,Option.bind_some];rfl)
  ·rcases h345 with rfl | rfl | rfl <;> (simp only [m1,Bc,Option.bind_some];rfl)
 have e3:=jC (show ¬ k=3 by omega)
 have e4:=jC (show ¬ k=4 by omega)
 have e5:=jC (show ¬ k=5 by omega)
 simp only [e3,e4,e5,cond_false,Option.bind_some]
 by_cases h6:k=6
 ·subst h6
  have hk:=U2 _ ek (.inr rfl) hft
  subst hk
  have ha:=Vu an ap asd az ab aL u1 f1
  have hd:=hend [(1,es,ap,asd,en,ez,eb,eu)] 0 ⟨_,rfl,rfl,fun _=>by
   rw [R5 _ rfl]
   unfold aO at hev ⊢
   simp at hev ⊢
   grind⟩
  exact ⟨_,_,rfl,rfl,hd⟩
 have e6:=jC h6
 simp only [e6,cond_false]
 have hd:∀ y:ac.D,_:=fun y=>hend [y] 0 ⟨y,rfl,rfl,fun h=>absurd h h6⟩
 cases e7:(k == 7) with
 | true =>
  cases e72:(az != 2) with
  | true=>exact ⟨_,_,rfl,rfl,hd _⟩
  | false=>exact ⟨_,_,rfl,rfl,hd _⟩
 | false =>
  simp only [cond_false]
  cases e8:(k == 8) with
  | true =>
   simp only [jp _ 99 (by decide),m8,Option.bind_some]
   cases (ez == 2) with
   | true =>
    cases eb with
    | true=>exact ⟨_,_,rfl,rfl,hd _⟩
    | false=>exact ⟨_,_,rfl,rfl,hd _⟩
   | false=>exact ⟨_,_,rfl,rfl,hd _⟩
  | false=>exact ⟨_,_,rfl,rfl,hd _⟩
theorem Ub (x:aa.D) (e:ac.D) (hl:x.2.2.2.2.2.2.1.2.2.2.2.2.2.1.length≤33554432) (hok:aR x=true) (hev:aO e=true) (hft:dh x.2.2.2.2.2.2.1 e.1=some true) :
  ∃ L n,rX x e=some (L,n,())∧z9 x e=some (L,n)∧L.length≤3∧0≤n∧n≤(e.2.2.2.2.1:Int) ∧
   ((x.2.2.2.2.2.2.1.1:Int)=1→L=[])∧((x.2.2.2.2.2.2.1.1:Int)=2→n≤(x.2.2.2.2.2.2.2.2.1:Int)∧((L.filter pN).map KW).sum=(e.2.2.2.2.1:Int) - n)∧((x.2.2.2.2.2.2.1.1:Int)=6→((L.filter pN).map KW).sum=(e.2.2.2.2.1:Int)) :=
 SI x.1 x.2.1 x.2.2.1 x.2.2.2.1 x.2.2.2.2.1 x.2.2.2.2.2.1 x.2.2.2.2.2.2.1.1 x.2.2.2.2.2.2.1.2.1 x.2.2.2.2.2.2.1.2.2.1 x.2.2.2.2.2.2.1.2.2.2.1 x.2.2.2.2.2.2.1.2.2.2.2.1 x.2.2.2.2.2.2.1.2.2.2.2.2.1 x.2.2.2.2.2.2.1.2.2.2.2.2.2.1 x.2.2.2.2.2.2.1.2.2.2.2.2.2.2 x.2.2.2.2.2.2.2.1 x.2.2.2.2.2.2.2.2.1 x.2.2.2.2.2.2.2.2.2 e.1 e.2.1 e.2.2.1 e.2.2.2.1 e.2.2.2.2.1 e.2.2.2.2.2.1 e.2.2.2.2.2.2.1 e.2.2.2.2.2.2.2 hl hok hev hft
theorem Bd (i ow so du:Int) (pat:cp.D) (gd:bc.D) (act:bm.D) (co lf lf':Int) (u:Unit) (hl:act.2.2.2.2.2.2.1.length≤33554432) (h:aR (i,ow,so,du,pat,gd,act,co,lf,u)=true) (h2:act.1=2→0≤lf') (h3:-1≤lf') (h4:lf'≤2147483647):aR (i,ow,so,du,pat,gd,act,co,lf',u)=true:=by
 have h':=dK (i,ow,so,du,pat,gd,act,co,lf,u) hl
 have g:=dK (i,ow,so,du,pat,gd,act,co,lf',u) hl
 rw [h] at h'
 obtain ⟨b1,p1,q1⟩:=zA pat
 obtain ⟨b2,p2,q2⟩:=sv gd
 obtain ⟨b3,p3,q3⟩:=Ed act hl
 obtain ⟨b4,p4,q4⟩:=su act pat.1
 unfold cL dr bj at h' g
 simp only [q1,q2,q3,q4,dp,Option.bind_some] at h' g
 simp only [cond_eq_ite,ri,Option.bind_some] at h' g
 have h':=Option.some.inj h'
 have g:=Option.some.inj g
 rw [← g]
 clear g p1 p2 p3 p4 q1 q2 q3 q4 hl h
 generalize act.1=ak at *
 simp at h' ⊢
 grind
theorem SJ (i ow so du:Int) (pat:cp.D) (gd:bc.D) (act:bm.D) (co lf:Int) (u:Unit) (n k:Int) (hk0:act.1=k) (hl:act.2.2.2.2.2.2.1.length≤33554432) (h:aR (i,ow,so,du,pat,gd,act,co,lf,u)=true) (h0:0≤n) (h2:k=2→n≤lf):aR (sC (i,ow,so,du,pat,gd,act,co,lf,u) n)=true:=by
 obtain ⟨f1,f2,f3⟩:=wA (i,ow,so,du,pat,gd,act,co,lf,u) hl h
 have f2:k=2→0≤lf:=fun h=>f2 (hk0.trans h)
 have f3:lf≤2147483647:=f3
 unfold sC
 simp only [hk0]
 by_cases hk:k=2
 ·have e2:(k == 2)=true:=by rw [hk];rfl
  have f2:=f2 hk
  have h2:=h2 hk
  have e:A7 lf n=lf - n:=by
   unfold A7
   rw [rj (n:=n) (by omega) (by omega),rj (n:=lf) (by omega) (by omega),aB (by omega) (by omega),rj (by omega) (by omega)]
  rw [e2,e,Ia (by omega) (by omega)]
  exact Bd i ow so du pat gd act co lf (lf - n) () hl h (fun _=>by omega) (by omega) (by omega)
 ·have e2:(k == 2)=false:=by rw [beq_eq_false_iff_ne];exact hk
  rw [e2]
  by_cases hp:lf > 0
  ·have hp':decide (lf > 0)=true:=decide_eq_true hp
   rw [hp',aB (by omega) (by omega)]
   exact Bd i ow so du pat gd act co lf (lf - 1) () hl h (fun h=>absurd (hk0.symm.trans h) hk) (by omega) (by omega)
  ·have hp':decide (lf > 0)=false:=decide_eq_false hp
   rw [hp']
   exact h
theorem Uc (x:aa.D) (n:Int) (hl:x.2.2.2.2.2.2.1.2.2.2.2.2.2.1.length≤33554432) (h:aR x=true) (h0:0≤n) (h2:(x.2.2.2.2.2.2.1.1:Int)=2→n≤(x.2.2.2.2.2.2.2.2.1:Int)):aR (sC x n)=true :=
 SJ x.1 x.2.1 x.2.2.1 x.2.2.2.1 x.2.2.2.2.1 x.2.2.2.2.2.1 x.2.2.2.2.2.2.1 x.2.2.2.2.2.2.2.1 x.2.2.2.2.2.2.2.2.1 x.2.2.2.2.2.2.2.2.2 n x.2.2.2.2.2.2.1.1 rfl hl h h0 h2
theorem Ud (x:aa.D) (e:ac.D) (hl:x.2.2.2.2.2.2.1.2.2.2.2.2.2.1.length≤33554432) :
  ∃ L n y,we x e=some (L,n,y,())∧vY x e=some (L,n,y,())∧(y.2.2.2.2.2.2.1.2.2.2.2.2.2.1.length≤33554432∧L.length≤3∧y.1=x.1∧(aR x=true→aR y=true))∧∃ b,dh x.2.2.2.2.2.2.1 e.1=some b ∧
   (((!aR x || !aO e) || !b)=true→L=[e]∧n=0)∧(((!aR x || !aO e) || !b)=false →
    (∀ v∈L,pN v=true)∧0≤n∧n≤e.2.2.2.2.1∧(x.2.2.2.2.2.2.1.1=1→L=[])∧(x.2.2.2.2.2.2.1.1=2→y.2.2.2.2.2.2.2.2.1=x.2.2.2.2.2.2.2.2.1 - n∧(-2147483647≤x.2.2.2.2.2.2.2.2.1 - n∧x.2.2.2.2.2.2.2.2.1 - n≤2147483647)∧(L.map KW).sum=e.2.2.2.2.1 - n)∧(x.2.2.2.2.2.2.1.1=6→(L.map KW).sum=e.2.2.2.2.1)∧e.2.2.2.2.1≤2147483647):=by
 obtain ⟨b,p4,q4⟩:=su x.2.2.2.2.2.2.1 e.1
 unfold we vY
 simp only [dK x hl,oz x hl,bR,bB,p4,q4,Option.bind_some]
 by_cases hb:((!aR x || !aO e) || !b)=true
 ·refine ⟨[e],0,x,?_,?_,⟨hl,by simp,rfl,id⟩,b,rfl,fun _=>⟨rfl,rfl⟩,fun h=>?_⟩
  ·revert hb;cases aR x <;> cases aO e <;> cases b <;> intro hb <;> first | (simp at hb;done) | (simp only [gN x hl,cond_true,cond_false,Option.bind_some,Bool.not_true,Bool.not_false])
  ·revert hb;cases aR x <;> cases aO e <;> cases b <;> intro hb <;> first | (simp at hb;done) | (simp only [eQ x hl,cond_true,cond_false,Option.bind_some,Bool.not_true,Bool.not_false])
  ·rw [hb] at h;cases h
 ·have hb':((!aR x || !aO e) || !b)=false:=by simpa using hb
  rw [Bool.or_eq_false_iff,Bool.or_eq_false_iff] at hb'
  obtain ⟨⟨g1,g2⟩,g3⟩:=hb'
  have g1:aR x=true:=by simpa using g1
  have g2:aO e=true:=by simpa using g2
  have g3:b=true:=by simpa using g3
  subst g3
  obtain ⟨f1,f2,f3⟩:=wA x hl g1
  obtain ⟨L,n,a1,a2,a3,a4,a5,a6,a7,a8⟩:=Ub x e hl g1 g2 q4
  have hn:=uf g2
  have hL:L.length≤33554432:=by omega
  refine ⟨L.filter pN,n,sC x n,?_,?_,⟨?_,Nat.le_trans (List.length_filter_le _ _) a3,by unfold sC;cases (x.2.2.2.2.2.2.1.1 == 2) <;> cases decide (x.2.2.2.2.2.2.2.2.1 > 0) <;> rfl,fun _=>Uc x n hl g1 a4 fun h=>(a7 h).1⟩,true,rfl,fun h=>absurd h hb,fun _=>⟨fun v hv=>(List.mem_filter.1 hv).2,a4,a5,fun h=>by rw [a6 h];rfl,fun h=>?_,a8,hn.2⟩⟩
  ·simp only [g1,g2,a1,T9 L hL,MB x n hl,cond_true,cond_false,Option.bind_some,Bool.not_true]
  ·simp only [g1,g2,cond_true,cond_false,Option.bind_some,Bool.not_true]
   have a2':=a2
   unfold z9 at a2'
   rw [a2',Option.bind_some,Ua (L,n) hL,Option.bind_some,MC x n hl]
   rfl
  ·unfold sC
   cases (x.2.2.2.2.2.2.1.1 == 2) <;> cases decide (x.2.2.2.2.2.2.2.2.1 > 0) <;> exact hl
  ·obtain ⟨a7,a9⟩:=a7 h
   obtain ⟨lf,hlf⟩:∃ lf:Int,lf=x.2.2.2.2.2.2.2.2.1:=⟨_,rfl⟩
   have f2:0≤lf:=by rw [hlf];exact f2 h
   have f3:lf≤2147483647:=by rw [hlf];exact f3
   have a7:n≤lf:=by rw [hlf];exact a7
   rw [← hlf]
   have h2:(x.2.2.2.2.2.2.1.1 == 2)=true:=by rw [h];rfl
   refine ⟨?_,⟨(by show (-2147483647:Int)≤lf - n;omega),(by show lf - n≤(2147483647:Int);omega)⟩,a9⟩
   unfold sC
   rw [h2]
   simp only [cond_true]
   have:A7 lf n=lf - n:=by
    unfold A7
    rw [rj (n:=n) (by omega) (by omega),rj (n:=lf) (by omega) (by omega),aB (by omega) (by omega),rj (by omega) (by omega)]
   rw [← hlf,this,Ia (by omega) (by omega)]
def zB (a n:Int) (i:Nat) (_:au.D):List Int:=[(IntKind.wrap .i64 (a + (i:Int))).tmod n]
theorem FY (a n:Int) (i:Nat) (x:au.D):(zB a n i x).length≤1:=by simp [zB]
def dq (s:ae.D):List Int:=if (decide (0≤s.2.2.1) && decide (s.2.2.1≤IntKind.wrap .i64 ((s.2.1.length:Int) - 1)))=true then bh (zB s.2.2.1 s.2.1.length) 0 s.2.1 else []
theorem Rr (s:ae.D):(dq s).length≤s.2.1.length:=by
 unfold dq
 split
 ·exact li _ (FY _ _) _ _
 ·simp
theorem tQ (s:ae.D) (h:s.2.1.length≤33554432):f9 s=some (dq s):=by
 unfold dq
 by_cases hin:(decide (0≤s.2.2.1) && decide (s.2.2.1≤IntKind.wrap .i64 ((s.2.1.length:Int) - 1)))=true
 ·rw [if_pos hin]
  unfold f9
  rw [cy s.2.1 (zB s.2.2.1 s.2.1.length) (fun s=>s) (FY _ _) (by omega) (fun t i x hI hx=>?_) (fun t=>?_)]
  ·rfl
  ·have hlt:=(List.getElem?_eq_some_iff.1 hx).1
   have hil:((i:Int) < (s.2.1.length:Int)):=by omega
   unfold ie zB
   simp only [hil,decide_true,cond_true,gL,hin,Option.bind_some]
   rw [if_neg (by omega),if_pos (by simp only [aC,List.length_cons,List.length_nil];omega)]
  ·unfold ie;simp
 ·rw [if_neg hin]
  have hin:(decide (0≤s.2.2.1) && decide (s.2.2.1≤IntKind.wrap .i64 ((s.2.1.length:Int) - 1)))=false:=by simpa using hin
  unfold f9
  rw [aI (r:=([],0)) (by unfold ie;simp only [gL,hin,Option.bind_some];cases decide ((0:Int) < (s.2.1.length:Int)) <;> rfl)]
  rfl
theorem tR (s:ae.D) (h:s.2.1.length≤33554432):gj s=some (dq s):=by
 unfold dq
 by_cases hin:(decide (0≤s.2.2.1) && decide (s.2.2.1≤IntKind.wrap .i64 ((s.2.1.length:Int) - 1)))=true
 ·rw [if_pos hin]
  unfold gj aQ
  simp only [dp,hin,Option.bind_some,Bool.not_true,cond_false]
  rw [cy s.2.1 (zB s.2.2.1 s.2.1.length) (fun s=>s) (FY _ _) (by omega) (fun t i x hI hx=>?_) (fun t=>?_)]
  ·rfl
  ·have hlt:=(List.getElem?_eq_some_iff.1 hx).1
   have hil:((i:Int) < (s.2.1.length:Int)):=by omega
   unfold mG zB
   simp only [hil,decide_true,cond_true]
   rw [if_neg (by omega),if_pos (by simp only [aC,List.length_cons,List.length_nil];omega)]
  ·unfold mG;simp
 ·rw [if_neg hin]
  have hin:(decide (0≤s.2.2.1) && decide (s.2.2.1≤IntKind.wrap .i64 ((s.2.1.length:Int) - 1)))=false:=by simpa using hin
  unfold gj aQ
  simp only [dp,hin,Option.bind_some,Bool.not_false,cond_true]
theorem Qm {m n:Int} (h0:0≤m) (h1:m < 2 * n):m.tmod n=if m < n then m else m - n:=by
 split
 ·exact Int.tmod_eq_of_lt h0 (by assumption)
 ·rename_i h
  rw [Int.tmod_eq_emod_of_nonneg h0,← Int.sub_emod_right,Int.emod_eq_of_lt (by omega) (by omega)]
theorem Qn {a n:Int}:∀ (xs:List au.D) (i:Nat) (x:Int),x∈bh (zB a n) i xs→∃ j:Nat,i≤j∧j < i + xs.length∧x=(IntKind.wrap .i64 (a + (j:Int))).tmod n
 | [],i,x,h=>by simp [bh] at h
 | y :: xs,i,x,h=>by
  simp only [bh,zB,List.mem_append,List.mem_singleton] at h
  rcases h with rfl | h
  ·exact ⟨i,Nat.le_refl _,by simp,rfl⟩
  ·obtain ⟨j,h1,h2,h3⟩:=Qn xs (i + 1) x h
   exact ⟨j,by omega,by simp;omega,h3⟩
theorem KY {a:Int} {n:Nat} (h0:0≤a) (h1:a < n) (hn:n≤33554432):∀ (xs:List au.D) (i:Nat),i + xs.length≤n→(bh (zB a n) i xs).Nodup
 | [],i,_=>by simp [bh]
 | y :: xs,i,h=>by
  simp only [List.length_cons] at h
  simp only [bh,zB,List.singleton_append,List.nodup_cons]
  refine ⟨fun hm=>?_,KY h0 h1 hn xs (i + 1) (by omega)⟩
  obtain ⟨j,g1,g2,g3⟩:=Qn xs (i + 1) _ hm
  rw [aB (by omega) (by omega),aB (by omega) (by omega),Qm (by omega) (by omega),Qm (by omega) (by omega)] at g3
  split at g3 <;> split at g3 <;> omega
theorem OJ (s:ae.D) (h:s.2.1.length≤33554432):(dq s).Nodup:=by
 unfold dq
 split
 ·rename_i hin
  simp only [Bool.and_eq_true,decide_eq_true_eq] at hin
  rw [aB (by omega) (by omega)] at hin
  have key:∀ a:Int,a≤(s.2.1.length:Int) - 1→a < s.2.1.length:=fun a h=>by omega
  exact KY hin.1 (key _ hin.2) h _ _ (by omega)
 ·simp
theorem MD (xs:List af.D) (hl:xs.length≤33554432) (p:af.D→Bool) (q:(af.D×Unit)→Option Bool) (hq:∀ x,q (x,())=some (p x)) :
  cF xs q=some (match bD p xs with | some k=>(k:Int) | none=>-1):=by
 unfold cF
 rw [dH xs (body:=bZ xs q) p (fun i=>i) (by omega) (fun i x hx=>?_) ?_]
 ·cases bD p xs <;> rfl
 ·unfold bZ
  simp
 ·unfold bZ
  have hlt:=(List.getElem?_eq_some_iff.1 hx).1
  have:((i:Int) < (xs.length:Int)):=by omega
  simp only [this,decide_true,cond_true,ay hx,hq,Option.bind_some]
theorem sD (xs:List af.D) (hl:xs.length≤33554432) (p:af.D→Bool) (q:(af.D×Unit)→Option Bool) (hq:∀ x,q (x,())=some (p x)) :
  bG xs q=some (xs.filter (fun x=>!p x),()):=by
 unfold bG
 rw [MD xs hl p q hq,Option.bind_some]
 obtain ⟨h1,h2⟩:=eh p xs
 cases hf:bD p xs with
 | none =>
  have:xs.filter (fun x=>!p x)=xs:=by rw [List.filter_eq_self];intro x hx;simp [h1 hf x hx]
  rw [this];rfl
 | some k =>
  obtain ⟨x,g1,g2,g3⟩:=h2 k hf
  have hk:=(List.getElem?_eq_some_iff.1 g1).1
  have n1:((k:Int) == -1)=false:=by simp
  simp only [n1,cond_false]
  rw [aB (by omega) (by omega)]
  obtain ⟨ys,m,e1,e2,e3,e4⟩:∃ (ys:List af.D) (m:Nat),al (br q) (xs,(k:Int),(k:Int) + 1)=some (ys,(m:Int),(xs.length:Int))∧ys.length=xs.length∧m≤xs.length∧ys.take m=xs.filter (fun x=>!p x):=by
   refine Gn xs (body:=br q) p (fun s=>s) (by omega) (fun ys i j x hx hij hl'=>?_) (fun ys i hl'=>?_) k x g1 g2 g3
   ·have hlt:=(List.getElem?_eq_some_iff.1 hx).1
    have hil:((j:Int) < (ys.length:Int)):=by omega
    obtain ⟨y,hy⟩:∃ y,ys[i]?=some y:=⟨_,List.getElem?_eq_getElem (by omega)⟩
    unfold br
    simp (disch:=omega) only [hil,decide_true,cond_true,Int.toNat_natCast,ay hx,hx,hq,Option.bind_some,ay hy,hy,aB]
    cases p x <;> rfl
   ·unfold br
    have:¬ ((xs.length:Int) < (ys.length:Int)):=by omega
    simp only [this,decide_false,cond_false]
  rw [e1,Option.bind_some]
  have t1:0≤(m:Int):=by omega
  have t2:(m:Int)≤(ys.length:Int):=by omega
  simp only [t1,t2,if_true,Int.le_refl,Int.toNat_natCast]
  have z1:m≤ys.length:=by omega
  rw [if_pos (by simp only [List.length_append,List.length_take,List.length_replicate,List.length_drop];omega)]
  have:∀ (zs:List af.D),(ys.take m++zs).take m=ys.take m:=fun zs=>by rw [List.take_append_of_le_length (by simp;omega),List.take_take,Nat.min_self]
  rw [List.append_assoc,this,e4]
  simp
theorem Ck (xs:List af.D) (a:Int) (h:xs.length≤33554432):kq xs a=some (xs.filter fun x=>x.2.1 == a):=by
 unfold kq
 rw [cy xs (fun _ x=>if x.2.1 == a then [x] else []) (fun s=>s) (fun _ x=>by split <;> simp) (by omega) (fun t i x hI hx=>?_) (fun t=>?_)]
 ·rw [Option.bind_some,iG]
 ·have hlt:=(List.getElem?_eq_some_iff.1 hx).1
  have hil:((i:Int) < (xs.length:Int)):=by omega
  unfold kT
  simp only [hil,decide_true,cond_true,ay hx]
  rw [if_pos (by simp only [aC,List.length_cons,List.length_nil];omega)]
  cases (x.2.1 == a) <;> simp
 ·unfold kT;simp
theorem Cl (xs:List af.D) (a:Int) (h:xs.length≤33554432):kC xs a=some (xs.filter fun x=>x.2.1 == a):=by
 unfold kC bv
 rw [if_pos (by simp only [aC,List.length_nil];omega)]
 simp only [Option.bind_some,List.nil_append]
 rw [sD xs h (fun x=>x.2.1 != a) _ (fun x=>rfl)]
 simp [bne]
end Go.Abs
