/- Part of a proof of FnExactPlay: see the row. -/
import Derived.Test.YtenadnbpibhmiaaGreatPlAbsFrm
set_option linter.unusedVariables false
set_option linter.unusedSimpArgs false
namespace Go.Abs
open Go.RowKit
def QT (o:Oper) (st st':St):Prop:=∀ x∈iz o.op,val st' x=val st x
theorem zM {R:Type} {r:R} {v:AV} {κ:List Leaf→Option R} (h:vq v κ=some r):∃ ls,κ ls=some r∧∀ (R':Type) (κ':List Leaf→Option R'),vq v κ'=κ' ls:=by
 unfold vq at h
 split at h
 ·exact ⟨_,h,fun R' κ'=>rfl⟩
 ·exact ⟨_,h,fun R' κ'=>rfl⟩
 ·cases h
theorem CH {R:Type} {r:R} {n:Nat} {l:List Leaf} {κ:List Leaf→Option R} (h:nv n l κ=some r):∃ x,κ x=some r∧∀ (R':Type) (κ':List Leaf→Option R'),nv n l κ'=κ' x:=by
 induction n generalizing l κ with
 | zero=>exact ⟨_,by simpa [nv] using h,fun R' κ'=>by simp only [nv]⟩
 | succ n ih=>cases l with
  | nil=>simp [nv] at h
  | cons a l =>
   simp only [nv] at h
   obtain ⟨x,h1,h2⟩:=ih h
   exact ⟨a :: x,h1,fun R' κ'=>by simp only [nv];exact h2 R' fun r'=>κ' (a :: r')⟩
theorem CJ {R:Type} {r:R}:∀ {n:Nat} {cs l:List Leaf} {κ:List Leaf→Option R},la n cs l κ=some r→∃ x,κ x=some r∧∀ (R':Type) (κ':List Leaf→Option R'),la n cs l κ'=κ' x
 | 0,[],l,κ,h=>⟨l,by simpa [la] using h,fun R' κ'=>by simp only [la]⟩
 | 0,_ :: _,[],κ,h=>by simp [la] at h
 | 0,c :: cs,_ :: l,κ,h=>by
  simp only [la] at h
  obtain ⟨x,h1,h2⟩:=CJ h
  exact ⟨c :: x,h1,fun R' κ'=>by simp only [la];exact h2 R' fun r'=>κ' (c :: r')⟩
 | n + 1,cs,[],κ,h=>by simp [la] at h
 | n + 1,cs,a :: l,κ,h=>by
  simp only [la] at h
  obtain ⟨x,h1,h2⟩:=CJ h
  exact ⟨a :: x,h1,fun R' κ'=>by simp only [la];exact h2 R' fun r'=>κ' (a :: r')⟩
theorem zN {R:Type} {r:R} {k:TK} {cs:List Leaf} {κ:AV→Option R} (h:kM k cs κ=some r):∃ x,κ x=some r∧∀ (R':Type) (κ':AV→Option R'),kM k cs κ'=κ' x:=by
 unfold kM at h
 split at h
 ·exact ⟨_,h,fun R' κ'=>rfl⟩
 ·split at h
  ·rename_i hk _ l
   exact ⟨_,h,fun R' κ'=>by unfold kM;cases k <;> first | rfl | exact absurd rfl (hk _)⟩
  ·cases h
theorem Tl {α R:Type} {r:R} {xs:List α} {i:Int} {κ:α→Option R} (h:idx xs i κ=some r):∃ x,κ x=some r∧∀ (R':Type) (κ':α→Option R'),idx xs i κ'=κ' x:=by
 unfold idx at h
 split at h
 ·rename_i h0
  cases hx:xs[i.toNat]? with
  | none=>rw [hx] at h;cases h
  | some x=>rw [hx] at h;exact ⟨x,h,fun R' κ'=>by unfold idx;rw [if_pos h0,hx];rfl⟩
 ·cases h
theorem Ny {R:Type} {r:R}:∀ {t:Ty} {x:t.D} {n:Nat} {l:Leaf} {κ:t.D→Option R},iv t x n l κ=some r→∃ y,κ y=some r∧∀ (R':Type) (κ':t.D→Option R'),iv t x n l κ'=κ' y
 | .int k,x,n,l,κ,h=>by
  cases n with
  | zero =>
   cases l <;> simp only [iv,reduceCtorEq] at h
   split at h
   ·rename_i e;exact ⟨_,h,fun R' κ'=>by simp only [iv];rw [if_pos e]⟩
   ·cases h
  | succ n=>simp [iv] at h
 | .bool,x,n,l,κ,h=>by
  cases n with
  | zero =>
   cases l <;> simp only [iv,reduceCtorEq] at h
   exact ⟨_,h,fun R' κ'=>by simp only [iv]⟩
  | succ n=>simp [iv] at h
 | .hd,x,n,l,κ,h=>by
  cases n with
  | zero =>
   cases l <;> simp only [iv,reduceCtorEq] at h
   exact ⟨_,h,fun R' κ'=>by simp only [iv]⟩
  | succ n=>simp [iv] at h
 | .slice _,x,n,l,κ,h=>by simp [iv] at h
 | .unit,x,n,l,κ,h=>by simp [iv] at h
 | .fn _ _,x,n,l,κ,h=>by simp [iv] at h
 | .pair a b,x,n,l,κ,h=>by
  simp only [iv] at h
  split at h
  ·rename_i hb
   obtain ⟨y,h1,h2⟩:=Ny (t:=b) h
   exact ⟨(x.1,y),h1,fun R' κ'=>by simp only [iv,hb];exact h2 R' fun y=>κ' (x.1,y)⟩
  ·rename_i hb
   obtain ⟨y,h1,h2⟩:=Ny (t:=a) h
   exact ⟨(y,x.2),h1,fun R' κ'=>by simp only [iv,hb];exact h2 R' fun y=>κ' (y,x.2)⟩
theorem Pd {R:Type} {r:R} {t:Ty}:∀ {ls:List Leaf} {x:t.D} {n:Nat} {κ:t.D→Option R},F0 t x n ls κ=some r→∃ y,κ y=some r∧∀ (R':Type) (κ':t.D→Option R'),F0 t x n ls κ'=κ' y
 | [],x,n,κ,h=>⟨x,h,fun R' κ'=>rfl⟩
 | l :: ls,x,n,κ,h=>by
  unfold F0 at h
  obtain ⟨y,h1,h2⟩:=Ny h
  obtain ⟨z,k1,k2⟩:=Pd h1
  exact ⟨z,k1,fun R' κ'=>by unfold F0;rw [h2 R' _];exact k2 R' κ'⟩
theorem Pe {R:Type} {r:R} {T:Tab} {fs:List (Nat×Nat)} {st:St}:∀ {parts:List (Nat×Operand)} {cs:List Leaf} {κ:List Leaf→Option R},Cr T fs st parts cs κ=some r →
  ∃ x,κ x=some r∧∀ st',(∀ x∈parts.map (·.2),val st' x=val st x)→∀ (R':Type) (κ':List Leaf→Option R'),Cr T fs st' parts cs κ'=κ' x
 | [],cs,κ,h=>⟨cs,h,fun st' _ R' κ'=>rfl⟩
 | (i,x) :: parts,cs,κ,h=>by
  unfold Cr at h
  split at h
  ·rename_i off t hf
   split at h
   ·rename_i te hte
    obtain ⟨ls,h1,h2⟩:=zM h
    split at h1
    ·rename_i hn
     obtain ⟨y,h3,h4⟩:=CJ h1
     obtain ⟨z,h5,h6⟩:=Pe h3
     refine ⟨z,h5,fun st' hs R' κ'=>?_⟩
     unfold Cr
     simp only [hf,hte,hs x (by simp)]
     rw [h2]
     simp only [hn]
     rw [h4]
     exact h6 st' (fun x hx=>hs x (by simp at hx ⊢;right;exact hx)) R' κ'
    ·cases h1
   ·cases h
  ·cases h
theorem MP {R:Type} {r:R} {t:Ty} {st:St}:∀ {parts:List (Nat×Operand)} {i n:Nat} {ws:List (Hd×aw)} {κ:List t.D→List (Hd×aw)→Option R},pS t st parts i n ws κ=some r →
  ∃ x us,κ x us=some r∧(∀ q∈aq ws,q∈aq us)∧∀ st',(∀ x∈parts.map (·.2),val st' x=val st x)→lD st.h st'.h (aq us)→∀ (R':Type) (κ':List t.D→List (Hd×aw)→Option R'),pS t st' parts i n ws κ'=κ' x us
 | [],i,n,ws,κ,h=>by
  unfold pS at h
  split at h
  ·rename_i hb;exact ⟨[],ws,h,fun _ h=>h,fun st' _ _ R' κ'=>by unfold pS;rw [hb]⟩
  ·cases h
 | (j,x) :: parts,i,n,ws,κ,h=>by
  unfold pS at h
  split at h
  ·rename_i hb
   obtain ⟨ls,h1,h2⟩:=zM h
   obtain ⟨y,rest,us,h3,h4,h5⟩:=rA h1
   split at h3
   ·obtain ⟨z,us2,k1,k2,k3⟩:=MP h3
    refine ⟨y :: z,us2,k1,fun q hq=>k2 q (h4 q hq),fun st' hs hsm R' κ'=>?_⟩
    unfold pS
    simp only [hb,hs x (by simp)]
    rw [h2,h5 st'.h (hsm.mono k2)]
    exact k3 st' (fun x hx=>hs x (by simp at hx ⊢;right;exact hx)) hsm R' fun xs ws=>κ' (y :: xs) ws
   ·cases h3
  ·cases h
theorem MQ {R:Type} {r:R} {t:Ty} {st:St}:∀ {parts:List (Nat×Operand)} {i n:Nat} {κ:List t.D→Option R},pT t st parts i n κ=some r →
  ∃ xs,κ xs=some r∧∀ st',(∀ x∈parts.map (·.2),val st' x=val st x)→∀ (R':Type) (κ':List t.D→Option R'),pT t st' parts i n κ'=κ' xs
 | [],i,n,κ,h=>by
  unfold pT at h
  split at h
  ·rename_i e;exact ⟨[],h,fun st' _ R' κ'=>by unfold pT;simp only [e]⟩
  ·cases h
 | (j,x) :: parts,i,n,κ,h=>by
  unfold pT at h
  split at h
  ·rename_i e
   obtain ⟨ls,h1,h2⟩:=zM h
   obtain ⟨y,rest,us,k1,_,k3⟩:=uq h1
   split at k1
   ·obtain ⟨xs,m1,m2⟩:=MQ k1
    exact ⟨y :: xs,m1,fun st' hs R' κ'=>by
     unfold pT
     simp only [e]
     rw [hs x (by simp),h2,k3 st'.h (by intro q hq;cases hq)]
     simp only
     exact m2 st' (fun z hz=>hs z (by simp only [List.map_cons,List.mem_cons];exact .inr hz)) R' fun xs=>κ' (y :: xs)⟩
   ·cases k1
  ·cases h
theorem Pf {R:Type} {r:R} {st:St}:∀ {xs:List Operand} {κ:List Hd→Option R},dC.capsK st xs κ=some r→∃ x,κ x=some r∧∀ st',(∀ x∈xs,val st' x=val st x)→∀ (R':Type) (κ':List Hd→Option R'),dC.capsK st' xs κ'=κ' x
 | [],κ,h=>⟨[],h,fun st' _ R' κ'=>rfl⟩
 | x :: xs,κ,h=>by
  unfold dC.capsK at h
  split at h
  ·rename_i o hx
   obtain ⟨y,h1,h2⟩:=Pf h
   exact ⟨o :: y,h1,fun st' hs R' κ'=>by
    unfold dC.capsK
    rw [hs x (by simp),hx]
    exact h2 st' (fun x hx=>hs x (by simp [hx])) R' fun cs=>κ' (o :: cs)⟩
  ·cases h
def Frm (E:Env) (o:Oper) (st:St) (δ:Dl):Prop:=∀ st',QT o st st'→lD st.h st'.h δ.rd→∀ (R':Type) (κ':Dl→Option R'),dC E o st' κ'=κ' δ
theorem Tm {R:Type} {r:R} {st:St} {ti:TI} {p:AV} {κ:Dl→Option R} (h:Co st ti p κ=some r) :
  ∃ δ,κ δ=some r∧∀ st',lD st.h st'.h δ.rd→∀ (R':Type) (κ':Dl→Option R'),Co st' ti p κ'=κ' δ:=by
 unfold Co at h
 split at h
 ·rename_i o off
  split at h
  ·rename_i ro cs ho
   obtain ⟨x,h1,h2⟩:=CH h
   obtain ⟨v,h3,h4⟩:=zN h1
   exact ⟨_,h3,fun st' hs R' κ'=>by unfold Co;simp only [hs o (by simp),ho];rw [h2,h4]⟩
  ·cases h
 ·rename_i t x off
  rw [aP] at h
  obtain ⟨y,h1,h2⟩:=CH h
  obtain ⟨v,h3,h4⟩:=zN h1
  exact ⟨_,h3,fun st' hs R' κ'=>by unfold Co;simp only;rw [aP,h2,h4]⟩
 ·rename_i o n i off
  split at h
  ·rename_i ro t xs ho
   cases hx:xs[i]? with
   | none=>rw [hx] at h;cases h
   | some x =>
    rw [hx,Option.bind_some,aP] at h
    obtain ⟨y,h1,h2⟩:=CH h
    split at h1
    ·rename_i hf hn
     obtain ⟨v,h3,h4⟩:=zN h1
     exact ⟨_,h3,fun st' hs R' κ'=>by unfold Co;simp only [hs o (by simp),ho,hx,Option.bind_some];rw [aP,h2];simp only [hf,hn];rw [h4]⟩
    ·cases h1
  ·cases h
 ·cases h
theorem Sh {R:Type} {r:R} {st:St} {p:AV} {v:List Leaf} {κ:Dl→Option R} (h:vr st p v κ=some r) :
  ∃ δ,κ δ=some r∧∀ st',lD st.h st'.h δ.rd→∀ (R':Type) (κ':Dl→Option R'),vr st' p v κ'=κ' δ:=by
 unfold vr at h
 split at h
 ·rename_i o off
  split at h
  ·rename_i cs ho
   obtain ⟨x,h1,h2⟩:=CJ h
   exact ⟨_,h1,fun st' hs R' κ'=>by unfold vr;simp only [hs o (by simp),ho];rw [h2]⟩
  ·cases h
 ·rename_i o n i off
  split at h
  ·rename_i t xs ho hn
   have hn:Nat.beq n t.n=true:=by rw [ho] at hn;exact hn
   cases hx:xs[i]? with
   | none=>rw [hx] at h;cases h
   | some x =>
    rw [hx,Option.bind_some] at h
    split at h
    ·rename_i hl
     obtain ⟨y,rest,us,h1,h2,h3⟩:=rA h
     split at h1
     ·rename_i hh
      exact ⟨_,h1,fun st' hs R' κ'=>by
       unfold vr
       simp only [hs o (by simp),ho,hn,hx,Option.bind_some,hl]
       rw [h3 st'.h (hs.mono (by simp +contextual))]
       simp only [hh]⟩
     ·cases h1
    ·rename_i l v0 hnz hl
     obtain ⟨y,h1,h2⟩:=Pd h
     exact ⟨_,h1,fun st' hs R' κ'=>by
      unfold vr
      simp only [hs o (by simp),ho,hn,hx,Option.bind_some,hl]
      rw [h2]⟩
    ·cases h
  ·cases h
 ·cases h
theorem Is {R:Type} {r:R} {st:St} {d:Nat} {t:Ty} {x:Leaf} {xs:List t.D} {ws:List (Hd×aw)} {κ:Dl→Option R} (h:ui st d t x xs ws κ=some r) :
  ∃ δ,κ δ=some r∧(∀ q∈aq ws,q∈δ.rd)∧∀ st',lD st.h st'.h δ.rd→∀ (R':Type) (κ':Dl→Option R'),ui st' d t x xs ws κ'=κ' δ:=by
 unfold ui at h
 split at h
 ·rename_i hf
  obtain ⟨ys,us,h1,h2⟩:=EI h
  split at h1
  ·rename_i hr
   exact ⟨_,h1,fun q hq=>by simp [hq],fun st' hs R' κ'=>by
    unfold ui;simp only [hf];rw [h2 st'.h (hs.mono (by simp +contextual)),if_pos hr]⟩
  ·cases h1
 ·rename_i hf
  split at h
  ·rename_i hc
   obtain ⟨ys,h1,h2⟩:=EH h
   split at h1
   ·rename_i hr
    exact ⟨_,h1,fun q hq=>hq,fun st' hs R' κ'=>by
     unfold ui;simp only [hf,hc];rw [h2,if_pos hr]⟩
   ·cases h1
  ·rename_i hc
   obtain ⟨ys,us,h1,h0,h2⟩:=MO h
   split at h1
   ·rename_i hr
    exact ⟨_,h1,h0,fun st' hs R' κ'=>by
     unfold ui;simp only [hf,hc];rw [h2 st'.h hs,if_pos hr]⟩
   ·cases h1
theorem QU {R:Type} {r:R} {E:Env} {st:St} {d:Option Nat} {T:Nat} {s x:Leaf} {κ:Dl→Option R} (h:oB E st d T s x κ=some r) :
  ∃ δ,κ δ=some r∧∀ st',lD st.h st'.h δ.rd→∀ (R':Type) (κ':Dl→Option R'),oB E st' d T s x κ'=κ' δ:=by
 unfold oB at h
 split at h
 ·rename_i t d hel
  split at h
  ·obtain ⟨δ,h1,_,h2⟩:=Is h
   exact ⟨δ,h1,fun st' hs R' κ'=>by unfold oB;simp only [hel];rw [h2 st' hs]⟩
  ·rename_i o
   split at h
   ·rename_i t' xs ho
    obtain ⟨y,h1,h2⟩:=fW (t':=.slice t) h
    obtain ⟨δ,h3,h4,h5⟩:=Is h1
    exact ⟨δ,h3,fun st' hs R' κ'=>by unfold oB;simp only [hel,hs o (h4 o (by simp [aq])),ho];rw [h2 R' fun xs=>ui st' d t x xs [(o,.dead)] κ',h5 st' hs]⟩
   ·cases h
  ·rename_i o n hi
   split at h
   ·rename_i t' xs ho
    obtain ⟨y,h1,h2⟩:=fW (t':=.slice t) h
    split at h1
    ·rename_i l u hsp hfn
     split at h1
     ·rename_i hlu
      split at h1
      ·rename_i hfit
       exact ⟨_,h1,fun st' hs R' κ'=>by
        unfold oB;simp only [hel,hs o (by simp),ho]
        refine (h2 R' _).trans ?_
        simp only [hsp,hfn]
        rw [if_pos hlu,if_pos hfit]⟩
      ·cases h1
     ·cases h1
    ·cases h1
    ·rename_i hsp
     obtain ⟨δ,h3,h4,h5⟩:=Is h1
     exact ⟨δ,h3,fun st' hs R' κ'=>by
      unfold oB;simp only [hel,hs o (h4 o (by simp [aq])),ho]
      refine (h2 R' _).trans ?_
      simp only [hsp]
      exact h5 st' hs R' κ'⟩
   ·cases h
  ·cases h
 ·cases h
theorem qp {R:Type} {r:R} {v:Option AV} {d:Int} {κ:Int→Option R} (h:sG v d κ=some r):∃ n,κ n=some r∧∀ (R':Type) (κ':Int→Option R'),sG v d κ'=κ' n:=by
 unfold sG at h
 split at h
 ·exact ⟨_,h,fun R' κ'=>rfl⟩
 ·exact ⟨_,h,fun R' κ'=>rfl⟩
 ·cases h
theorem CK {R:Type} {r:R} {l h:Int} {n:Nat} {κ:Nat→Nat→Option R} (hk:Cs l h n κ=some r):κ l.toNat h.toNat=some r∧∀ (R':Type) (κ':Nat→Nat→Option R'),Cs l h n κ'=κ' l.toNat h.toNat:=by
 obtain ⟨h1,h2,h3,h4⟩:=rc hk
 exact ⟨h4,fun R' κ'=>by unfold Cs;rw [if_pos h1,if_pos h2,if_pos h3]⟩
theorem Tn {R:Type} {r:R} {E:Env} {st:St} {d:Option Nat} {T:Nat} {x y:Operand} {κ:Dl→Option R} (h:If E st d T x y κ=some r) :
  ∃ δ,κ δ=some r∧∀ st',val st' x=val st x→∀ (R':Type) (κ':Dl→Option R'),If E st' d T x y κ'=κ' δ:=by
 unfold If at h
 split at h
 ·rename_i t te d k n hel hte hxy hx
  obtain ⟨z,rest,us,h1,h2,h3⟩:=rA h
  split at h1
  ·split at h1
   ·rename_i h0
    split at h1
    ·rename_i hr
     exact ⟨_,h1,fun st' hs R' κ'=>by unfold If;rw [hs];simp only [hel,hte,hxy,hx];rw [h3 st'.h (by intro q hq;cases hq)];simp only;rw [if_pos h0,if_pos hr]⟩
    ·cases h1
   ·cases h1
  ·cases h1
 ·cases h
theorem Pg {R:Type} {r:R} {E:Env} {st:St} {T:Nat} {x:AV} {lo hi mx:Option AV} {κ:Dl→Option R} (h:iy E st T x lo hi mx κ=some r) :
  ∃ δ,κ δ=some r∧∀ st',lD st.h st'.h δ.rd→∀ (R':Type) (κ':Dl→Option R'),iy E st' T x lo hi mx κ'=κ' δ:=by
 unfold iy at h
 split at h
 ·rename_i t hel
  split at h
  ·obtain ⟨l,h1,h2⟩:=qp h
   obtain ⟨u,h3,h4⟩:=qp h1
   obtain ⟨h5,h6⟩:=CK h3
   exact ⟨_,h5,fun st' hs R' κ'=>by unfold iy;simp only [hel];rw [h2,h4,h6]⟩
  ·cases h
 ·rename_i t t' xs hel
  split at h
  ·obtain ⟨y,h7,h8⟩:=fW (t':=.slice t) h
   obtain ⟨l,h1,h2⟩:=qp h7
   obtain ⟨u,h3,h4⟩:=qp h1
   obtain ⟨h5,h6⟩:=CK h3
   exact ⟨_,h5,fun st' hs R' κ'=>by
    unfold iy;simp only [hel]
    rw [h8 R' fun xs=>sG lo 0 fun l=>sG hi xs.length fun h=>Cs l h xs.length fun l h=>κ' { v:=.leaf (.view t ((xs.take h).drop l)) },h2,h4,h6]⟩
  ·cases h
 ·rename_i t o hel
  split at h
  ·rename_i ro t' xs ho
   obtain ⟨y,h7,h8⟩:=fW (t':=.slice t) h
   obtain ⟨l,h1,h2⟩:=qp h7
   obtain ⟨u,h3,h4⟩:=qp h1
   split at h3
   ·obtain ⟨h5,h6⟩:=CK h3
    exact ⟨_,h5,fun st' hs R' κ'=>by
     unfold iy;simp only [hel,hs o (by simp),ho]
     rw [h8 R' fun xs=>sG lo 0 fun l=>sG hi xs.length fun h=>Cs l h xs.length fun l h=>κ' { v:=.leaf (.part o t.n l h),rd:=[o] },h2,h4,h6]⟩
   ·rename_i m
    split at h3
    ·obtain ⟨mm,k1,k2⟩:=qp h3
     obtain ⟨h5,h6⟩:=CK k1
     split at h5
     ·rename_i g1
      split at h5
      ·rename_i g2
       exact ⟨_,h5,fun st' hs R' κ'=>by
        unfold iy;simp only [hel,hs o (by simp),ho]
        rw [h8 R' fun xs=>sG lo 0 fun l=>sG (some _) xs.length fun h=>sG (some m) 0 fun m=>Cs l h xs.length fun _ _=>if h≤m then (if m≤xs.length then κ' { v:=.any,rd:=[o] } else none) else none,h2,h4,k2,h6,if_pos g1,if_pos g2]⟩
      ·cases h5
     ·cases h5
    ·cases h3
  ·cases h
 ·rename_i t o n hi0 hel
  split at h
  ·rename_i ro t' xs ho
   obtain ⟨y,h7,h8⟩:=fW (t':=.slice t) h
   split at h7
   ·rename_i hn
    obtain ⟨l,h1,h2⟩:=qp h7
    obtain ⟨u,h3,h4⟩:=qp h1
    obtain ⟨h5,h6⟩:=CK h3
    exact ⟨_,h5,fun st' hs R' κ'=>by
     unfold iy;simp only [hel,hs o (by simp),ho]
     refine (h8 R' _).trans ?_
     simp only [hn]
     rw [h2,h4,h6]⟩
   ·cases h7
  ·cases h
 ·cases h
theorem MR {R:Type} {r:R} {E:Env} {op:BinOp} {t:Nat} {b:Bool} {κ:Dl→Option R} (h:vy E op t b κ=some r):∃ δ,κ δ=some r∧∀ (R':Type) (κ':Dl→Option R'),vy E op t b κ'=κ' δ:=by
 unfold vy at h
 split at h
 ·rename_i hel;exact ⟨_,h,fun R' κ'=>by unfold vy;simp only [hel]⟩
 ·rename_i hel;exact ⟨_,h,fun R' κ'=>by unfold vy;simp only [hel]⟩
 ·cases h
theorem Nz {R:Type} {r:R} {h:iD}:∀ {t:Ty} {ls:List Leaf} {κ:t.D→List Leaf→Option R},fe h t ls κ=some r →
  ∃ x rest us,κ x rest=some r∧(∃ l1,ls=l1++rest∧us=dB l1)∧∀ h',lD h h' us→∀ (R':Type) (κ':t.D→List Leaf→Option R'),fe h' t ls κ'=κ' x rest
 | .int k,ls,κ,hk=>by
  cases ls with
  | nil=>simp [fe] at hk
  | cons l ls =>
   cases l <;> simp only [fe,reduceCtorEq] at hk
   split at hk
   ·rename_i e
    exact ⟨_,ls,[],hk,⟨[.int _ _],rfl,rfl⟩,fun h' _ R' κ'=>by simp only [fe];rw [if_pos e]⟩
   ·cases hk
 | .bool,ls,κ,hk=>by
  cases ls with
  | nil=>simp [fe] at hk
  | cons l ls =>
   cases l <;> simp only [fe,reduceCtorEq] at hk
   exact ⟨_,ls,[],hk,⟨[.bool _],rfl,rfl⟩,fun h' _ R' κ'=>by simp only [fe]⟩
 | .hd,ls,κ,hk=>by
  cases ls with
  | nil=>simp [fe] at hk
  | cons l ls =>
   cases l <;> simp only [fe,reduceCtorEq] at hk
   exact ⟨_,ls,[],hk,⟨[.hd _],rfl,rfl⟩,fun h' _ R' κ'=>by simp only [fe]⟩
 | .slice t,ls,κ,hk=>by
  cases ls with
  | nil=>simp [fe] at hk
  | cons l ls =>
   cases l <;> simp only [fe,reduceCtorEq] at hk
   ·exact ⟨_,ls,[],hk,⟨[.nil],rfl,rfl⟩,fun h' _ R' κ'=>by simp only [fe]⟩
   ·rename_i o
    split at hk
    ·rename_i t' xs ho
     obtain ⟨y,h1,h2⟩:=fW (t':=.slice t) hk
     exact ⟨y,ls,[o],h1,⟨[.own o],rfl,rfl⟩,fun h' hs R' κ'=>by simp only [fe,hs o (by simp),ho];exact h2 R' fun x=>κ' x ls⟩
    ·cases hk
 | .unit,ls,κ,hk=>by
  simp only [fe] at hk
  exact ⟨(),ls,[],hk,⟨[],rfl,rfl⟩,fun h' _ R' κ'=>by simp only [fe]⟩
 | .pair a b,ls,κ,hk=>by
  simp only [fe] at hk
  obtain ⟨x,r1,us,h1,⟨l1,e1,e2⟩,h3⟩:=Nz (t:=a) hk
  obtain ⟨y,r2,us2,k1,⟨l2,e3,e4⟩,k3⟩:=Nz (t:=b) h1
  exact ⟨(x,y),r2,us++us2,k1,⟨l1++l2,by rw [e1,e3,List.append_assoc],by rw [e2,e4,oD]⟩,fun h' hs R' κ'=>by
   simp only [fe]
   rw [h3 h' (hs.mono (by simp +contextual)) R' _,k3 h' (hs.mono (by simp +contextual)) R' _]⟩
 | .fn a b,ls,κ,hk=>by cases ls <;> simp [fe] at hk
 | .vw t,ls,κ,hk=>by
  cases ls with
  | nil=>simp [fe] at hk
  | cons l ls =>
   simp only [fe] at hk
   have hl:dB [l]=[]:=by
    unfold pQ at hk
    split at hk <;> first | rfl | (cases hk)
   obtain ⟨y,h1,h2⟩:=EH hk
   exact ⟨y,ls,[],h1,⟨[l],rfl,hl.symm⟩,fun h' hs R' κ'=>by simp only [fe];exact h2 R' fun x=>κ' x ls⟩
theorem Un {α R:Type} {r:R} {l:List α} {k:Option R} (h:jD l k=some r):l=[]∧k=some r:=by
 unfold jD at h
 split at h
 ·exact ⟨rfl,h⟩
 ·cases h
theorem To {R:Type} {r:R} {E:Env} {h:iD}:∀ (ms:List Md) (c:Ty) {vs:List AV} {os ks:List Hd} {κ:c.D→List Hd→List Hd→Option R},cY E h ms c vs os ks κ=some r →
  ∃ x ps cks,κ x ps (ks++cks)=some r∧(∀ q∈os,q∈ps)∧∀ h',lD h h' (ps++cks)→∀ (R':Type) (κ':c.D→List Hd→List Hd→Option R'),cY E h' ms c vs os ks κ'=κ' x ps (ks++cks):=by
 intro ms
 induction ms with
 | nil =>
  intro c vs os ks κ hk
  cases c <;> cases vs <;> simp only [cY,reduceCtorEq] at hk
  exact ⟨(),os,[],by simpa using hk,fun _ h=>h,fun h' _ R' κ'=>by simp only [cY,List.append_nil]⟩
 | cons m ms ih =>
  intro c vs os ks κ hk
  cases c with
  | pair t u =>
   cases vs with
   | nil=>cases m <;> simp [cY] at hk
   | cons v vs =>
    have own:(gO t v fun cs=>fe h t cs fun x r=>jD r (cY E h ms u vs os (ks++dB cs) fun y os ks=>κ (x,y) os ks))=some r →
      ∃ x ps cks,κ x ps (ks++cks)=some r∧(∀ q∈os,q∈ps)∧∀ h',lD h h' (ps++cks)→∀ (R':Type) (κ':(Ty.pair t u).D→List Hd→List Hd→Option R'),(gO t v fun cs=>fe h' t cs fun x r=>jD r (cY E h' ms u vs os (ks++dB cs) fun y os ks=>κ' (x,y) os ks))=κ' x ps (ks++cks):=by
     intro hk
     obtain ⟨ls,h1,h2⟩:=H3 hk
     obtain ⟨x,rest,us,h3,⟨l1,e1,e2⟩,h5⟩:=Nz h1
     obtain ⟨e,h3⟩:=Un h3
     subst e
     simp only [List.append_nil] at e1
     subst e1
     obtain ⟨y,ps,cks,k1,k2,k3⟩:=ih u h3
     refine ⟨(x,y),ps,dB ls++cks,by rw [← List.append_assoc];exact k1,k2,fun h' hs R' κ'=>?_⟩
     rw [h2,h5 h' (hs.mono (by rw [e2];simp +contextual))]
     simp only [jD]
     rw [k3 h' (hs.mono (by simp only [List.mem_append];rintro q (h | h);exact .inl h;exact .inr (.inr h))),List.append_assoc]
    cases m with
    | rd =>
     simp only [cY] at hk
     obtain ⟨x,us,h1,h2,h3⟩:=iE hk
     obtain ⟨y,ps,cks,k1,k2,k3⟩:=ih u h1
     exact ⟨(x.1,y),ps,cks,k1,fun q hq=>k2 q (h2 q hq),fun h' hs R' κ'=>by
      simp only [cY]
      rw [h3 h' (hs.mono fun q hq=>by simp [k2 q hq]),k3 h' hs]⟩
    | nil =>
     cases t <;> try (simp [cY] at hk)
     cases v <;> try (simp [cY] at hk)
     rename_i l
     cases l <;> simp only [cY,reduceCtorEq] at hk
     obtain ⟨y,ps,cks,k1,k2,k3⟩:=ih u hk
     exact ⟨((),y),ps,cks,k1,k2,fun h' hs R' κ'=>by simp only [cY];rw [k3 h' hs]⟩
    | lent=>simp only [cY] at hk ⊢;exact own hk
    | tk=>simp only [cY] at hk ⊢;exact own hk
    | ptr =>
     cases v <;> try (simp [cY] at hk)
     rename_i l
     cases l <;> try (simp [cY] at hk)
     rename_i q off
     cases off <;> simp only [cY,reduceCtorEq] at hk
     split at hk
     ·rename_i ls hq
      obtain ⟨x,rest,us,h1,h2,h3⟩:=uq hk
      split at h1
      ·obtain ⟨y,ps,cks,k1,k2,k3⟩:=ih u h1
       refine ⟨(x,y),ps,q :: cks,by simpa using k1,k2,fun h' hs R' κ'=>?_⟩
       simp only [cY,hs q (by simp),hq]
       rw [h3 h' (by intro p hp;cases hp)]
       simp only
       rw [k3 h' (hs.mono (by simp only [List.mem_append,List.mem_cons];rintro q (h | h);exact .inl h;exact .inr (.inr h)))]
       simp
      ·cases h1
     ·cases hk
  | _=>cases m <;> cases vs <;> simp [cY] at hk
theorem CL {R:Type}:∀ (t:Ty) (z:t.D) (ls:List Leaf) (κ:List Leaf→List (Hd×aw)→R),rl t z ls κ=κ (rl t z ls fun r _=>r) (rl t z ls fun _ w=>w)
 | .int _,z,ls,κ=>by cases ls <;> rfl
 | .bool,z,ls,κ=>by cases ls <;> rfl
 | .hd,z,ls,κ=>by cases ls <;> rfl
 | .slice _,z,ls,κ=>by
  cases ls with
  | nil=>rfl
  | cons l ls=>cases l <;> rfl
 | .unit,z,ls,κ=>by cases ls <;> rfl
 | .pair a b,z,ls,κ=>by
  have key:∀ (R':Type) (κ':List Leaf→List (Hd×aw)→R'),rl (.pair a b) z ls κ'=κ' (rl b z.2 (rl a z.1 ls fun r _=>r) fun r _=>r) ((rl a z.1 ls fun _ w=>w)++rl b z.2 (rl a z.1 ls fun r _=>r) fun _ w=>w):=by
   intro R' κ'
   simp only [rl]
   rw [CL a,CL b]
  rw [key _ κ,key _ (fun r _=>r),key _ (fun _ w=>w)]
 | .fn _ _,z,ls,κ=>by cases ls <;> rfl
 | .vw _,z,ls,κ=>by cases ls <;> rfl
theorem Tp {R:Type} {r:R}:∀ (ms:List Md) (c:Ty) {vs:List AV} {z:(fS ms c).D} {κ:List (Hd×aw)→Option R},eH ms c vs z κ=some r →
  ∃ ws,κ ws=some r∧∀ (R':Type) (κ':List (Hd×aw)→Option R'),eH ms c vs z κ'=κ' ws:=by
 intro ms
 induction ms with
 | nil =>
  intro c vs z κ hk
  cases c <;> cases vs <;> simp only [eH,reduceCtorEq] at hk
  exact ⟨_,hk,fun R' κ'=>by simp only [eH]⟩
 | cons m ms ih =>
  intro c vs z κ hk
  cases c with
  | pair t u =>
   cases vs with
   | nil=>cases m <;> simp [eH] at hk
   | cons v vs =>
    cases m with
    | rd =>
     simp only [eH] at hk
     obtain ⟨ws,h1,h2⟩:=ih u hk
     exact ⟨ws,h1,fun R' κ'=>by simp only [eH];exact h2 R' κ'⟩
    | nil =>
     simp only [eH] at hk
     obtain ⟨ws,h1,h2⟩:=ih u hk
     exact ⟨ws,h1,fun R' κ'=>by simp only [eH];exact h2 R' κ'⟩
    | lent =>
     unfold eH at hk
     obtain ⟨ls,h1,h2⟩:=H3 hk
     rw [CL] at h1
     obtain ⟨ws,h3,h4⟩:=ih u h1
     exact ⟨_,h3,fun R' κ'=>by unfold eH;rw [h2,CL,h4]⟩
    | tk =>
     simp only [eH] at hk
     obtain ⟨ls,h1,h2⟩:=H3 hk
     obtain ⟨ws,h3,h4⟩:=ih u h1
     exact ⟨_,h3,fun R' κ'=>by simp only [eH];rw [h2,h4]⟩
    | ptr =>
     cases v with
     | leaf l =>
      cases l with
      | box q off =>
       unfold eH at hk
       rw [aP] at hk
       obtain ⟨ws,h3,h4⟩:=ih u hk
       exact ⟨_,h3,fun R' κ'=>by unfold eH;rw [aP,h4]⟩
      | _=>simp [eH] at hk
     | _=>simp [eH] at hk
  | _=>cases m <;> cases vs <;> simp [eH] at hk
theorem Ts {R:Type} {r:R} {E:Env} {st:St} {d:Option Nat} {ms:List Md} {one fr:Bool} {t u:Ty} {F:t.D→Option (u.D×(fS ms t).D)} {args:List AV} {κ:Dl→Option R} (h:F2 E st d ms one fr t u F args κ=some r) :
  ∃ δ,κ δ=some r∧∀ st',lD st.h st'.h δ.rd→∀ (R':Type) (κ':Dl→Option R'),F2 E st' d ms one fr t u F args κ'=κ' δ:=by
 unfold F2 at h
 obtain ⟨x,ps,ks,h1,h2,h3⟩:=To ms t h
 rw [List.nil_append] at h1 h3
 split at h1
 rotate_left
 ·cases h1
 rename_i hchk
 cases hF:F x with
 | none=>rw [hF] at h1;cases h1
 | some y =>
  rw [hF,Option.bind_some] at h1
  obtain ⟨ws,k1,k2⟩:=Tp ms t h1
  have fin:∀ {δ:Dl},δ.rd=ps++ks→κ δ=some r→(∀ (R':Type) (κ':Dl→Option R'),Ie d one fr u y.1 (ps++ks) ws κ'=κ' δ) →
    ∃ δ,κ δ=some r∧∀ st',lD st.h st'.h δ.rd→∀ (R':Type) (κ':Dl→Option R'),F2 E st' d ms one fr t u F args κ'=κ' δ:=by
   intro δ hr hκ heq
   refine ⟨δ,hκ,fun st' hs R' κ'=>?_⟩
   unfold F2
   rw [h3 st'.h (by rw [← hr];exact hs)]
   rw [hchk]
   simp only
   rw [hF,Option.bind_some,k2]
   exact heq R' κ'
  cases fr with
  | false =>
   cases one with
   | true=>simp only [Ie] at k1;rw [aP] at k1;exact fin rfl k1 fun R' κ'=>by simp only [Ie];rw [aP]
   | false=>simp only [Ie] at k1;rw [lN] at k1;exact fin rfl k1 fun R' κ'=>by simp only [Ie];rw [lN]
  | true =>
   cases d with
   | none =>
    cases one with
    | true=>cases k1
    | false=>cases u <;> first | exact fin rfl k1 fun R' κ'=>rfl | cases k1
   | some d =>
    cases one with
    | true =>
     obtain ⟨ls,objs,e1,_⟩:=fg (P:=default) d u y.1 []
     simp only [Ie] at k1
     rw [e1] at k1
     exact fin rfl k1 fun R' κ'=>by simp only [Ie];rw [e1]
    | false =>
     obtain ⟨ts,objs,e1,_⟩:=um (P:=default) d u y.1 []
     simp only [Ie] at k1
     rw [e1] at k1
     exact fin rfl k1 fun R' κ'=>by simp only [Ie];rw [e1]
theorem Tt {R:Type} {r:R} {E:Env} {st:St} {d:Option Nat} {f:Nat} {args:List AV} {κ:Dl→Option R} (h:wD E st d f args κ=some r) :
  ∃ δ,κ δ=some r∧∀ st',lD st.h st'.h δ.rd→∀ (R':Type) (κ':Dl→Option R'),wD E st' d f args κ'=κ' δ:=by
 unfold wD at h
 split at h
 ·rename_i ms one fr t u F hg
  obtain ⟨δ,h1,h2⟩:=Ts h
  exact ⟨δ,h1,fun st' hs R' κ'=>by unfold wD;simp only [hg];exact h2 st' hs R' κ'⟩
 ·rename_i t u F hg
  obtain ⟨x,us,h1,_,h2⟩:=iE h
  split at h1
  ·rename_i d hnh
   have:us=[]:=by cases us with | nil=>rfl | cons _ _=>simp [Bj] at hnh
   subst this
   cases hF:F x with
   | none=>rw [hF] at h1;cases h1
   | some y =>
    rw [hF,Option.bind_some,aP] at h1
    exact ⟨_,h1,fun st' hs R' κ'=>by unfold wD;simp only [hg];rw [h2 st'.h (by intro q hq;cases hq)];simp only [Bj];rw [hF,Option.bind_some,aP]⟩
  ·cases h1
 ·rename_i one fr a u F hg
  obtain ⟨x,os,h1,_,h2⟩:=iE h
  cases hF:F x with
  | none=>rw [hF] at h1;cases h1
  | some y =>
   rw [hF,Option.bind_some] at h1
   split at h1
   ·split at h1
    ·rename_i hfl
     rw [aP] at h1
     exact ⟨_,h1,fun st' hs R' κ'=>by unfold wD;simp only [hg];rw [h2 st'.h hs,hF,Option.bind_some];simp only [hfl];rw [aP]⟩
    ·cases h1
   ·split at h1
    ·rename_i hfl
     rw [lN] at h1
     exact ⟨_,h1,fun st' hs R' κ'=>by unfold wD;simp only [hg];rw [h2 st'.h hs,hF,Option.bind_some];simp only [hfl];rw [lN]⟩
    ·cases h1
   ·rename_i d'
    obtain ⟨cs,objs,e1,_⟩:=fg (P:=default) d' u y []
    rw [e1] at h1
    split at h1
    ·cases h1
    ·rename_i n0 ns hn
     exact ⟨_,h1,fun st' hs R' κ'=>by unfold wD;simp only [hg];rw [h2 st'.h hs,hF,Option.bind_some];simp only [e1];rw [hn]⟩
   ·rename_i d'
    obtain ⟨cs,objs,e1,_⟩:=um (P:=default) d' u y []
    rw [e1] at h1
    split at h1
    ·cases h1
    ·rename_i n0 ns hn
     exact ⟨_,h1,fun st' hs R' κ'=>by unfold wD;simp only [hg];rw [h2 st'.h hs,hF,Option.bind_some];simp only [e1];rw [hn]⟩
   ·cases h1
 ·cases h
theorem Si {R:Type} {r:R} {E:Env} {st:St} {d:Option Nat} {T T':Nat} {s x:Leaf} {κ:Dl→Option R} (h:Bk E st d T T' s x κ=some r) :
  ∃ δ,κ δ=some r∧∀ st',lD st.h st'.h δ.rd→∀ (R':Type) (κ':Dl→Option R'),Bk E st' d T T' s x κ'=κ' δ:=by
 unfold Bk at h
 split at h
 ·rename_i k n t te ti d hel hte hti
  split at h
  ·rename_i kn hk
   obtain ⟨z,rest,us,k1,_,k3⟩:=rA h
   split at k1
   ·split at k1
    ·rename_i h0
     split at k1
     ·rename_i hr
      exact ⟨_,k1,fun st' hs R' κ'=>by
       unfold Bk;simp only [hel,hte,hti,hk]
       refine (k3 st'.h (by intro q hq;cases hq) R' _).trans ?_
       simp only [if_pos h0,if_pos hr]⟩
     ·cases k1
    ·cases k1
   ·cases k1
  ·cases h
 ·cases h
theorem Ph {R:Type} {r:R} {E:Env} {st:St} {d:Option Nat} {b:Builtin} {args:List AV} {tys:List Nat} {κ:Dl→Option R} (h:dR E st d b args tys κ=some r) :
  ∃ δ,κ δ=some r∧∀ st',lD st.h st'.h δ.rd→∀ (R':Type) (κ':Dl→Option R'),dR E st' d b args tys κ'=κ' δ:=by
 unfold dR at h
 split at h
 ·rename_i l
  split at h
  ·rename_i T tys
   split at h
   ·rename_i t hel
    split at h
    ·exact ⟨_,h,fun st' hs R' κ'=>by unfold dR;simp only [hel]⟩
    ·exact ⟨_,h,fun st' hs R' κ'=>by unfold dR;simp only [hel]⟩
    ·exact ⟨_,h,fun st' hs R' κ'=>by unfold dR;simp only [hel]⟩
    ·rename_i o
     split at h
     ·rename_i ro t' xs ho
      exact ⟨_,h,fun st' hs R' κ'=>by unfold dR;simp only [hel,hs o (by simp),ho]⟩
     ·cases h
    ·exact ⟨_,h,fun st' hs R' κ'=>by unfold dR;simp only [hel]⟩
    ·cases h
   ·cases h
  ·cases h
 ·split at h
  ·rename_i T tys
   split at h
   ·rename_i t hel
    exact ⟨_,h,fun st' hs R' κ'=>by unfold dR;simp only [hel]⟩
   ·cases h
  ·cases h
 ·split at h
  ·rename_i T T'
   split at h
   ·rename_i hT
    obtain ⟨δ,h1,h2⟩:=QU h
    exact ⟨δ,h1,fun st' hs R' κ'=>by unfold dR;simp only [hT];rw [h2 st' hs]⟩
   ·rename_i hT
    obtain ⟨δ,h1,h2⟩:=Si h
    exact ⟨δ,h1,fun st' hs R' κ'=>by unfold dR;simp only [hT];rw [h2 st' hs]⟩
  ·cases h
 ·rename_i o n lo hi
  split at h
  ·rename_i T
   split at h
   ·rename_i t te t' xs hel hte ho
    obtain ⟨y,h1,h2⟩:=fW (t':=.slice t) h
    obtain ⟨z,rest,us,k1,_,k3⟩:=rA h1
    split at k1
    ·rename_i hf hn _
     exact ⟨_,k1,fun st' hs R' κ'=>by
      unfold dR;simp only [hel,hte,hs o (by simp),ho]
      refine (h2 R' _).trans ?_
      refine (k3 st'.h (by intro q hq;cases hq) R' _).trans ?_
      simp only [hf,hn]⟩
    ·cases k1
   ·cases h
  ·cases h
 ·exact ⟨_,h,fun st' hs R' κ'=>by unfold dR;rfl⟩
 ·exact ⟨_,h,fun st' hs R' κ'=>by unfold dR;rfl⟩
 ·cases h
end Go.Abs
