/- Part of a proof of FnExactDoOrder: see the row. -/
import Derived.Test.YtenadnbpibhmiaaGreatDoAbsFrm
set_option linter.unusedVariables false
set_option linter.unusedSimpArgs false
namespace Go.Abs
open Go.RowKit
def Qt (o:Oper) (st st':St):Prop:=∀ x∈iw o.op,val st' x=val st x
theorem zC {R:Type} {r:R} {v:AV} {κ:List Leaf→Option R} (h:vg v κ=some r):∃ ls,κ ls=some r∧∀ (R':Type) (κ':List Leaf→Option R'),vg v κ'=κ' ls:=by
 unfold vg at h
 split at h
 ·exact ⟨_,h,fun R' κ'=>rfl⟩
 ·exact ⟨_,h,fun R' κ'=>rfl⟩
 ·cases h
theorem Cu {R:Type} {r:R} {n:Nat} {l:List Leaf} {κ:List Leaf→Option R} (h:nl n l κ=some r):∃ x,κ x=some r∧∀ (R':Type) (κ':List Leaf→Option R'),nl n l κ'=κ' x:=by
 induction n generalizing l κ with
 | zero=>exact ⟨_,by simpa [nl] using h,fun R' κ'=>by simp only [nl]⟩
 | succ n ih=>cases l with
  | nil=>simp [nl] at h
  | cons a l =>
   simp only [nl] at h
   obtain ⟨x,h1,h2⟩:=ih h
   exact ⟨a :: x,h1,fun R' κ'=>by simp only [nl];exact h2 R' fun r'=>κ' (a :: r')⟩
theorem Cv {R:Type} {r:R}:∀ {n:Nat} {cs l:List Leaf} {κ:List Leaf→Option R},kY n cs l κ=some r→∃ x,κ x=some r∧∀ (R':Type) (κ':List Leaf→Option R'),kY n cs l κ'=κ' x
 | 0,[],l,κ,h=>⟨l,by simpa [kY] using h,fun R' κ'=>by simp only [kY]⟩
 | 0,_ :: _,[],κ,h=>by simp [kY] at h
 | 0,c :: cs,_ :: l,κ,h=>by
  simp only [kY] at h
  obtain ⟨x,h1,h2⟩:=Cv h
  exact ⟨c :: x,h1,fun R' κ'=>by simp only [kY];exact h2 R' fun r'=>κ' (c :: r')⟩
 | n + 1,cs,[],κ,h=>by simp [kY] at h
 | n + 1,cs,a :: l,κ,h=>by
  simp only [kY] at h
  obtain ⟨x,h1,h2⟩:=Cv h
  exact ⟨a :: x,h1,fun R' κ'=>by simp only [kY];exact h2 R' fun r'=>κ' (a :: r')⟩
theorem zD {R:Type} {r:R} {k:TK} {cs:List Leaf} {κ:AV→Option R} (h:kL k cs κ=some r):∃ x,κ x=some r∧∀ (R':Type) (κ':AV→Option R'),kL k cs κ'=κ' x:=by
 unfold kL at h
 split at h
 ·exact ⟨_,h,fun R' κ'=>rfl⟩
 ·split at h
  ·rename_i hk _ l
   exact ⟨_,h,fun R' κ'=>by unfold kL;cases k <;> first | rfl | exact absurd rfl (hk _)⟩
  ·cases h
theorem SV {α R:Type} {r:R} {xs:List α} {i:Int} {κ:α→Option R} (h:idx xs i κ=some r):∃ x,κ x=some r∧∀ (R':Type) (κ':α→Option R'),idx xs i κ'=κ' x:=by
 unfold idx at h
 split at h
 ·rename_i h0
  cases hx:xs[i.toNat]? with
  | none=>rw [hx] at h;cases h
  | some x=>rw [hx] at h;exact ⟨x,h,fun R' κ'=>by unfold idx;rw [if_pos h0,hx];rfl⟩
 ·cases h
theorem Nb {R:Type} {r:R}:∀ {t:Ty} {x:t.D} {n:Nat} {l:Leaf} {κ:t.D→Option R},it t x n l κ=some r→∃ y,κ y=some r∧∀ (R':Type) (κ':t.D→Option R'),it t x n l κ'=κ' y
 | .int k,x,n,l,κ,h=>by
  cases n with
  | zero =>
   cases l <;> simp only [it,reduceCtorEq] at h
   split at h
   ·rename_i e;exact ⟨_,h,fun R' κ'=>by simp only [it];rw [if_pos e]⟩
   ·cases h
  | succ n=>simp [it] at h
 | .bool,x,n,l,κ,h=>by
  cases n with
  | zero =>
   cases l <;> simp only [it,reduceCtorEq] at h
   exact ⟨_,h,fun R' κ'=>by simp only [it]⟩
  | succ n=>simp [it] at h
 | .hd,x,n,l,κ,h=>by
  cases n with
  | zero =>
   cases l <;> simp only [it,reduceCtorEq] at h
   exact ⟨_,h,fun R' κ'=>by simp only [it]⟩
  | succ n=>simp [it] at h
 | .slice _,x,n,l,κ,h=>by simp [it] at h
 | .unit,x,n,l,κ,h=>by simp [it] at h
 | .fn _ _,x,n,l,κ,h=>by simp [it] at h
 | .pair a b,x,n,l,κ,h=>by
  simp only [it] at h
  split at h
  ·rename_i hb
   obtain ⟨y,h1,h2⟩:=Nb (t:=b) h
   exact ⟨(x.1,y),h1,fun R' κ'=>by simp only [it,hb];exact h2 R' fun y=>κ' (x.1,y)⟩
  ·rename_i hb
   obtain ⟨y,h1,h2⟩:=Nb (t:=a) h
   exact ⟨(y,x.2),h1,fun R' κ'=>by simp only [it,hb];exact h2 R' fun y=>κ' (y,x.2)⟩
theorem OP {R:Type} {r:R} {t:Ty}:∀ {ls:List Leaf} {x:t.D} {n:Nat} {κ:t.D→Option R},FF t x n ls κ=some r→∃ y,κ y=some r∧∀ (R':Type) (κ':t.D→Option R'),FF t x n ls κ'=κ' y
 | [],x,n,κ,h=>⟨x,h,fun R' κ'=>rfl⟩
 | l :: ls,x,n,κ,h=>by
  unfold FF at h
  obtain ⟨y,h1,h2⟩:=Nb h
  obtain ⟨z,k1,k2⟩:=OP h1
  exact ⟨z,k1,fun R' κ'=>by unfold FF;rw [h2 R' _];exact k2 R' κ'⟩
theorem OQ {R:Type} {r:R} {T:Tab} {fs:List (Nat×Nat)} {st:St}:∀ {parts:List (Nat×Operand)} {cs:List Leaf} {κ:List Leaf→Option R},Ce T fs st parts cs κ=some r →
  ∃ x,κ x=some r∧∀ st',(∀ x∈parts.map (·.2),val st' x=val st x)→∀ (R':Type) (κ':List Leaf→Option R'),Ce T fs st' parts cs κ'=κ' x
 | [],cs,κ,h=>⟨cs,h,fun st' _ R' κ'=>rfl⟩
 | (i,x) :: parts,cs,κ,h=>by
  unfold Ce at h
  split at h
  ·rename_i off t hf
   split at h
   ·rename_i te hte
    obtain ⟨ls,h1,h2⟩:=zC h
    split at h1
    ·rename_i hn
     obtain ⟨y,h3,h4⟩:=Cv h1
     obtain ⟨z,h5,h6⟩:=OQ h3
     refine ⟨z,h5,fun st' hs R' κ'=>?_⟩
     unfold Ce
     simp only [hf,hte,hs x (by simp)]
     rw [h2]
     simp only [hn]
     rw [h4]
     exact h6 st' (fun x hx=>hs x (by simp at hx ⊢;right;exact hx)) R' κ'
    ·cases h1
   ·cases h
  ·cases h
theorem Mr {R:Type} {r:R} {t:Ty} {st:St}:∀ {parts:List (Nat×Operand)} {i n:Nat} {ws:List (Hd×aw)} {κ:List t.D→List (Hd×aw)→Option R},pJ t st parts i n ws κ=some r →
  ∃ x us,κ x us=some r∧(∀ q∈aq ws,q∈aq us)∧∀ st',(∀ x∈parts.map (·.2),val st' x=val st x)→lC st.h st'.h (aq us)→∀ (R':Type) (κ':List t.D→List (Hd×aw)→Option R'),pJ t st' parts i n ws κ'=κ' x us
 | [],i,n,ws,κ,h=>by
  unfold pJ at h
  split at h
  ·rename_i hb;exact ⟨[],ws,h,fun _ h=>h,fun st' _ _ R' κ'=>by unfold pJ;rw [hb]⟩
  ·cases h
 | (j,x) :: parts,i,n,ws,κ,h=>by
  unfold pJ at h
  split at h
  ·rename_i hb
   obtain ⟨ls,h1,h2⟩:=zC h
   obtain ⟨y,rest,us,h3,h4,h5⟩:=rl h1
   split at h3
   ·obtain ⟨z,us2,k1,k2,k3⟩:=Mr h3
    refine ⟨y :: z,us2,k1,fun q hq=>k2 q (h4 q hq),fun st' hs hsm R' κ'=>?_⟩
    unfold pJ
    simp only [hb,hs x (by simp)]
    rw [h2,h5 st'.h (hsm.mono k2)]
    exact k3 st' (fun x hx=>hs x (by simp at hx ⊢;right;exact hx)) hsm R' fun xs ws=>κ' (y :: xs) ws
   ·cases h3
  ·cases h
theorem Ms {R:Type} {r:R} {t:Ty} {st:St}:∀ {parts:List (Nat×Operand)} {i n:Nat} {κ:List t.D→Option R},pK t st parts i n κ=some r →
  ∃ xs,κ xs=some r∧∀ st',(∀ x∈parts.map (·.2),val st' x=val st x)→∀ (R':Type) (κ':List t.D→Option R'),pK t st' parts i n κ'=κ' xs
 | [],i,n,κ,h=>by
  unfold pK at h
  split at h
  ·rename_i e;exact ⟨[],h,fun st' _ R' κ'=>by unfold pK;simp only [e]⟩
  ·cases h
 | (j,x) :: parts,i,n,κ,h=>by
  unfold pK at h
  split at h
  ·rename_i e
   obtain ⟨ls,h1,h2⟩:=zC h
   obtain ⟨y,rest,us,k1,_,k3⟩:=uh h1
   split at k1
   ·obtain ⟨xs,m1,m2⟩:=Ms k1
    exact ⟨y :: xs,m1,fun st' hs R' κ'=>by
     unfold pK
     simp only [e]
     rw [hs x (by simp),h2,k3 st'.h (by intro q hq;cases hq)]
     simp only
     exact m2 st' (fun z hz=>hs z (by simp only [List.map_cons,List.mem_cons];exact .inr hz)) R' fun xs=>κ' (y :: xs)⟩
   ·cases k1
  ·cases h
theorem OR {R:Type} {r:R} {st:St}:∀ {xs:List Operand} {κ:List Hd→Option R},dC.capsK st xs κ=some r→∃ x,κ x=some r∧∀ st',(∀ x∈xs,val st' x=val st x)→∀ (R':Type) (κ':List Hd→Option R'),dC.capsK st' xs κ'=κ' x
 | [],κ,h=>⟨[],h,fun st' _ R' κ'=>rfl⟩
 | x :: xs,κ,h=>by
  unfold dC.capsK at h
  split at h
  ·rename_i o hx
   obtain ⟨y,h1,h2⟩:=OR h
   exact ⟨o :: y,h1,fun st' hs R' κ'=>by
    unfold dC.capsK
    rw [hs x (by simp),hx]
    exact h2 st' (fun x hx=>hs x (by simp [hx])) R' fun cs=>κ' (o :: cs)⟩
  ·cases h
def Frm (E:Env) (o:Oper) (st:St) (δ:Dl):Prop:=∀ st',Qt o st st'→lC st.h st'.h δ.rd→∀ (R':Type) (κ':Dl→Option R'),dC E o st' κ'=κ' δ
theorem SW {R:Type} {r:R} {st:St} {ti:TI} {p:AV} {κ:Dl→Option R} (h:Cb st ti p κ=some r) :
  ∃ δ,κ δ=some r∧∀ st',lC st.h st'.h δ.rd→∀ (R':Type) (κ':Dl→Option R'),Cb st' ti p κ'=κ' δ:=by
 unfold Cb at h
 split at h
 ·rename_i o off
  split at h
  ·rename_i ro cs ho
   obtain ⟨x,h1,h2⟩:=Cu h
   obtain ⟨v,h3,h4⟩:=zD h1
   exact ⟨_,h3,fun st' hs R' κ'=>by unfold Cb;simp only [hs o (by simp),ho];rw [h2,h4]⟩
  ·cases h
 ·rename_i t x off
  rw [aO] at h
  obtain ⟨y,h1,h2⟩:=Cu h
  obtain ⟨v,h3,h4⟩:=zD h1
  exact ⟨_,h3,fun st' hs R' κ'=>by unfold Cb;simp only;rw [aO,h2,h4]⟩
 ·rename_i o n i off
  split at h
  ·rename_i ro t xs ho
   cases hx:xs[i]? with
   | none=>rw [hx] at h;cases h
   | some x =>
    rw [hx,Option.bind_some,aO] at h
    obtain ⟨y,h1,h2⟩:=Cu h
    split at h1
    ·rename_i hf hn
     obtain ⟨v,h3,h4⟩:=zD h1
     exact ⟨_,h3,fun st' hs R' κ'=>by unfold Cb;simp only [hs o (by simp),ho,hx,Option.bind_some];rw [aO,h2];simp only [hf,hn];rw [h4]⟩
    ·cases h1
  ·cases h
 ·cases h
theorem RN {R:Type} {r:R} {st:St} {p:AV} {v:List Leaf} {κ:Dl→Option R} (h:vh st p v κ=some r) :
  ∃ δ,κ δ=some r∧∀ st',lC st.h st'.h δ.rd→∀ (R':Type) (κ':Dl→Option R'),vh st' p v κ'=κ' δ:=by
 unfold vh at h
 split at h
 ·rename_i o off
  split at h
  ·rename_i cs ho
   obtain ⟨x,h1,h2⟩:=Cv h
   exact ⟨_,h1,fun st' hs R' κ'=>by unfold vh;simp only [hs o (by simp),ho];rw [h2]⟩
  ·cases h
 ·rename_i o n i off
  split at h
  ·rename_i t xs ho hn
   have hn:Nat.beq n t.n=true:=by rw [ho] at hn;exact hn
   cases hx:xs[i]? with
   | none=>rw [hx] at h;cases h
   | some x =>
    rw [hx,Option.bind_some] at h
    split at h
    ·rename_i hl
     obtain ⟨y,rest,us,h1,h2,h3⟩:=rl h
     split at h1
     ·rename_i hh
      exact ⟨_,h1,fun st' hs R' κ'=>by
       unfold vh
       simp only [hs o (by simp),ho,hn,hx,Option.bind_some,hl]
       rw [h3 st'.h (hs.mono (by simp +contextual))]
       simp only [hh]⟩
     ·cases h1
    ·rename_i l v0 hnz hl
     obtain ⟨y,h1,h2⟩:=OP h
     exact ⟨_,h1,fun st' hs R' κ'=>by
      unfold vh
      simp only [hs o (by simp),ho,hn,hx,Option.bind_some,hl]
      rw [h2]⟩
    ·cases h
  ·cases h
 ·cases h
theorem H2 {R:Type} {r:R} {st:St} {d:Nat} {t:Ty} {x:Leaf} {xs:List t.D} {ws:List (Hd×aw)} {κ:Dl→Option R} (h:ub st d t x xs ws κ=some r) :
  ∃ δ,κ δ=some r∧(∀ q∈aq ws,q∈δ.rd)∧∀ st',lC st.h st'.h δ.rd→∀ (R':Type) (κ':Dl→Option R'),ub st' d t x xs ws κ'=κ' δ:=by
 unfold ub at h
 split at h
 ·rename_i hf
  obtain ⟨ys,us,h1,h2⟩:=Et h
  split at h1
  ·rename_i hr
   exact ⟨_,h1,fun q hq=>by simp [hq],fun st' hs R' κ'=>by
    unfold ub;simp only [hf];rw [h2 st'.h (hs.mono (by simp +contextual)),if_pos hr]⟩
  ·cases h1
 ·rename_i hf
  split at h
  ·rename_i hc
   obtain ⟨ys,h1,h2⟩:=Es h
   split at h1
   ·rename_i hr
    exact ⟨_,h1,fun q hq=>hq,fun st' hs R' κ'=>by
     unfold ub;simp only [hf,hc];rw [h2,if_pos hr]⟩
   ·cases h1
  ·rename_i hc
   obtain ⟨ys,us,h1,h0,h2⟩:=Mq h
   split at h1
   ·rename_i hr
    exact ⟨_,h1,h0,fun st' hs R' κ'=>by
     unfold ub;simp only [hf,hc];rw [h2 st'.h hs,if_pos hr]⟩
   ·cases h1
theorem Qu {R:Type} {r:R} {E:Env} {st:St} {d:Option Nat} {T:Nat} {s x:Leaf} {κ:Dl→Option R} (h:oo E st d T s x κ=some r) :
  ∃ δ,κ δ=some r∧∀ st',lC st.h st'.h δ.rd→∀ (R':Type) (κ':Dl→Option R'),oo E st' d T s x κ'=κ' δ:=by
 unfold oo at h
 split at h
 ·rename_i t d hel
  split at h
  ·obtain ⟨δ,h1,_,h2⟩:=H2 h
   exact ⟨δ,h1,fun st' hs R' κ'=>by unfold oo;simp only [hel];rw [h2 st' hs]⟩
  ·rename_i o
   split at h
   ·rename_i t' xs ho
    obtain ⟨y,h1,h2⟩:=fU (t':=.slice t) h
    obtain ⟨δ,h3,h4,h5⟩:=H2 h1
    exact ⟨δ,h3,fun st' hs R' κ'=>by unfold oo;simp only [hel,hs o (h4 o (by simp [aq])),ho];rw [h2 R' fun xs=>ub st' d t x xs [(o,.dead)] κ',h5 st' hs]⟩
   ·cases h
  ·rename_i o n hi
   split at h
   ·rename_i t' xs ho
    obtain ⟨y,h1,h2⟩:=fU (t':=.slice t) h
    split at h1
    ·rename_i l u hsp hfn
     split at h1
     ·rename_i hlu
      split at h1
      ·rename_i hfit
       exact ⟨_,h1,fun st' hs R' κ'=>by
        unfold oo;simp only [hel,hs o (by simp),ho]
        refine (h2 R' _).trans ?_
        simp only [hsp,hfn]
        rw [if_pos hlu,if_pos hfit]⟩
      ·cases h1
     ·cases h1
    ·cases h1
    ·rename_i hsp
     obtain ⟨δ,h3,h4,h5⟩:=H2 h1
     exact ⟨δ,h3,fun st' hs R' κ'=>by
      unfold oo;simp only [hel,hs o (h4 o (by simp [aq])),ho]
      refine (h2 R' _).trans ?_
      simp only [hsp]
      exact h5 st' hs R' κ'⟩
   ·cases h
  ·cases h
 ·cases h
theorem qf {R:Type} {r:R} {v:Option AV} {d:Int} {κ:Int→Option R} (h:sy v d κ=some r):∃ n,κ n=some r∧∀ (R':Type) (κ':Int→Option R'),sy v d κ'=κ' n:=by
 unfold sy at h
 split at h
 ·exact ⟨_,h,fun R' κ'=>rfl⟩
 ·exact ⟨_,h,fun R' κ'=>rfl⟩
 ·cases h
theorem Cw {R:Type} {r:R} {l h:Int} {n:Nat} {κ:Nat→Nat→Option R} (hk:Cf l h n κ=some r):κ l.toNat h.toNat=some r∧∀ (R':Type) (κ':Nat→Nat→Option R'),Cf l h n κ'=κ' l.toNat h.toNat:=by
 obtain ⟨h1,h2,h3,h4⟩:=qV hk
 exact ⟨h4,fun R' κ'=>by unfold Cf;rw [if_pos h1,if_pos h2,if_pos h3]⟩
theorem SX {R:Type} {r:R} {E:Env} {st:St} {d:Option Nat} {T:Nat} {x y:Operand} {κ:Dl→Option R} (h:HP E st d T x y κ=some r) :
  ∃ δ,κ δ=some r∧∀ st',val st' x=val st x→∀ (R':Type) (κ':Dl→Option R'),HP E st' d T x y κ'=κ' δ:=by
 unfold HP at h
 split at h
 ·rename_i t te d k n hel hte hxy hx
  obtain ⟨z,rest,us,h1,h2,h3⟩:=rl h
  split at h1
  ·split at h1
   ·rename_i h0
    split at h1
    ·rename_i hr
     exact ⟨_,h1,fun st' hs R' κ'=>by unfold HP;rw [hs];simp only [hel,hte,hxy,hx];rw [h3 st'.h (by intro q hq;cases hq)];simp only;rw [if_pos h0,if_pos hr]⟩
    ·cases h1
   ·cases h1
  ·cases h1
 ·cases h
theorem OS {R:Type} {r:R} {E:Env} {st:St} {T:Nat} {x:AV} {lo hi mx:Option AV} {κ:Dl→Option R} (h:iv E st T x lo hi mx κ=some r) :
  ∃ δ,κ δ=some r∧∀ st',lC st.h st'.h δ.rd→∀ (R':Type) (κ':Dl→Option R'),iv E st' T x lo hi mx κ'=κ' δ:=by
 unfold iv at h
 split at h
 ·rename_i t hel
  split at h
  ·obtain ⟨l,h1,h2⟩:=qf h
   obtain ⟨u,h3,h4⟩:=qf h1
   obtain ⟨h5,h6⟩:=Cw h3
   exact ⟨_,h5,fun st' hs R' κ'=>by unfold iv;simp only [hel];rw [h2,h4,h6]⟩
  ·cases h
 ·rename_i t t' xs hel
  split at h
  ·obtain ⟨y,h7,h8⟩:=fU (t':=.slice t) h
   obtain ⟨l,h1,h2⟩:=qf h7
   obtain ⟨u,h3,h4⟩:=qf h1
   obtain ⟨h5,h6⟩:=Cw h3
   exact ⟨_,h5,fun st' hs R' κ'=>by
    unfold iv;simp only [hel]
    rw [h8 R' fun xs=>sy lo 0 fun l=>sy hi xs.length fun h=>Cf l h xs.length fun l h=>κ' { v:=.leaf (.view t ((xs.take h).drop l)) },h2,h4,h6]⟩
  ·cases h
 ·rename_i t o hel
  split at h
  ·rename_i ro t' xs ho
   obtain ⟨y,h7,h8⟩:=fU (t':=.slice t) h
   obtain ⟨l,h1,h2⟩:=qf h7
   obtain ⟨u,h3,h4⟩:=qf h1
   split at h3
   ·obtain ⟨h5,h6⟩:=Cw h3
    exact ⟨_,h5,fun st' hs R' κ'=>by
     unfold iv;simp only [hel,hs o (by simp),ho]
     rw [h8 R' fun xs=>sy lo 0 fun l=>sy hi xs.length fun h=>Cf l h xs.length fun l h=>κ' { v:=.leaf (.part o t.n l h),rd:=[o] },h2,h4,h6]⟩
   ·rename_i m
    split at h3
    ·obtain ⟨mm,k1,k2⟩:=qf h3
     obtain ⟨h5,h6⟩:=Cw k1
     split at h5
     ·rename_i g1
      split at h5
      ·rename_i g2
       exact ⟨_,h5,fun st' hs R' κ'=>by
        unfold iv;simp only [hel,hs o (by simp),ho]
        rw [h8 R' fun xs=>sy lo 0 fun l=>sy (some _) xs.length fun h=>sy (some m) 0 fun m=>Cf l h xs.length fun _ _=>if h≤m then (if m≤xs.length then κ' { v:=.any,rd:=[o] } else none) else none,h2,h4,k2,h6,if_pos g1,if_pos g2]⟩
      ·cases h5
     ·cases h5
    ·cases h3
  ·cases h
 ·rename_i t o n hi0 hel
  split at h
  ·rename_i ro t' xs ho
   obtain ⟨y,h7,h8⟩:=fU (t':=.slice t) h
   split at h7
   ·rename_i hn
    obtain ⟨l,h1,h2⟩:=qf h7
    obtain ⟨u,h3,h4⟩:=qf h1
    obtain ⟨h5,h6⟩:=Cw h3
    exact ⟨_,h5,fun st' hs R' κ'=>by
     unfold iv;simp only [hel,hs o (by simp),ho]
     refine (h8 R' _).trans ?_
     simp only [hn]
     rw [h2,h4,h6]⟩
   ·cases h7
  ·cases h
 ·cases h
theorem Mt {R:Type} {r:R} {E:Env} {op:BinOp} {t:Nat} {b:Bool} {κ:Dl→Option R} (h:vj E op t b κ=some r):∃ δ,κ δ=some r∧∀ (R':Type) (κ':Dl→Option R'),vj E op t b κ'=κ' δ:=by
 unfold vj at h
 split at h
 ·rename_i hel;exact ⟨_,h,fun R' κ'=>by unfold vj;simp only [hel]⟩
 ·rename_i hel;exact ⟨_,h,fun R' κ'=>by unfold vj;simp only [hel]⟩
 ·cases h
theorem Nc {R:Type} {r:R} {h:iB}:∀ {t:Ty} {ls:List Leaf} {κ:t.D→List Leaf→Option R},fd h t ls κ=some r →
  ∃ x rest us,κ x rest=some r∧(∃ l1,ls=l1++rest∧us=dB l1)∧∀ h',lC h h' us→∀ (R':Type) (κ':t.D→List Leaf→Option R'),fd h' t ls κ'=κ' x rest
 | .int k,ls,κ,hk=>by
  cases ls with
  | nil=>simp [fd] at hk
  | cons l ls =>
   cases l <;> simp only [fd,reduceCtorEq] at hk
   split at hk
   ·rename_i e
    exact ⟨_,ls,[],hk,⟨[.int _ _],rfl,rfl⟩,fun h' _ R' κ'=>by simp only [fd];rw [if_pos e]⟩
   ·cases hk
 | .bool,ls,κ,hk=>by
  cases ls with
  | nil=>simp [fd] at hk
  | cons l ls =>
   cases l <;> simp only [fd,reduceCtorEq] at hk
   exact ⟨_,ls,[],hk,⟨[.bool _],rfl,rfl⟩,fun h' _ R' κ'=>by simp only [fd]⟩
 | .hd,ls,κ,hk=>by
  cases ls with
  | nil=>simp [fd] at hk
  | cons l ls =>
   cases l <;> simp only [fd,reduceCtorEq] at hk
   exact ⟨_,ls,[],hk,⟨[.hd _],rfl,rfl⟩,fun h' _ R' κ'=>by simp only [fd]⟩
 | .slice t,ls,κ,hk=>by
  cases ls with
  | nil=>simp [fd] at hk
  | cons l ls =>
   cases l <;> simp only [fd,reduceCtorEq] at hk
   ·exact ⟨_,ls,[],hk,⟨[.nil],rfl,rfl⟩,fun h' _ R' κ'=>by simp only [fd]⟩
   ·rename_i o
    split at hk
    ·rename_i t' xs ho
     obtain ⟨y,h1,h2⟩:=fU (t':=.slice t) hk
     exact ⟨y,ls,[o],h1,⟨[.own o],rfl,rfl⟩,fun h' hs R' κ'=>by simp only [fd,hs o (by simp),ho];exact h2 R' fun x=>κ' x ls⟩
    ·cases hk
 | .unit,ls,κ,hk=>by
  simp only [fd] at hk
  exact ⟨(),ls,[],hk,⟨[],rfl,rfl⟩,fun h' _ R' κ'=>by simp only [fd]⟩
 | .pair a b,ls,κ,hk=>by
  simp only [fd] at hk
  obtain ⟨x,r1,us,h1,⟨l1,e1,e2⟩,h3⟩:=Nc (t:=a) hk
  obtain ⟨y,r2,us2,k1,⟨l2,e3,e4⟩,k3⟩:=Nc (t:=b) h1
  exact ⟨(x,y),r2,us++us2,k1,⟨l1++l2,by rw [e1,e3,List.append_assoc],by rw [e2,e4,ot]⟩,fun h' hs R' κ'=>by
   simp only [fd]
   rw [h3 h' (hs.mono (by simp +contextual)) R' _,k3 h' (hs.mono (by simp +contextual)) R' _]⟩
 | .fn a b,ls,κ,hk=>by cases ls <;> simp [fd] at hk
 | .vw t,ls,κ,hk=>by
  cases ls with
  | nil=>simp [fd] at hk
  | cons l ls =>
   simp only [fd] at hk
   have hl:dB [l]=[]:=by
    unfold pG at hk
    split at hk <;> first | rfl | (cases hk)
   obtain ⟨y,h1,h2⟩:=Es hk
   exact ⟨y,ls,[],h1,⟨[l],rfl,hl.symm⟩,fun h' hs R' κ'=>by simp only [fd];exact h2 R' fun x=>κ' x ls⟩
theorem TU {α R:Type} {r:R} {l:List α} {k:Option R} (h:jD l k=some r):l=[]∧k=some r:=by
 unfold jD at h
 split at h
 ·exact ⟨rfl,h⟩
 ·cases h
theorem SY {R:Type} {r:R} {E:Env} {h:iB}:∀ (ms:List Md) (c:Ty) {vs:List AV} {os ks:List Hd} {κ:c.D→List Hd→List Hd→Option R},cX E h ms c vs os ks κ=some r →
  ∃ x ps cks,κ x ps (ks++cks)=some r∧(∀ q∈os,q∈ps)∧∀ h',lC h h' (ps++cks)→∀ (R':Type) (κ':c.D→List Hd→List Hd→Option R'),cX E h' ms c vs os ks κ'=κ' x ps (ks++cks):=by
 intro ms
 induction ms with
 | nil =>
  intro c vs os ks κ hk
  cases c <;> cases vs <;> simp only [cX,reduceCtorEq] at hk
  exact ⟨(),os,[],by simpa using hk,fun _ h=>h,fun h' _ R' κ'=>by simp only [cX,List.append_nil]⟩
 | cons m ms ih =>
  intro c vs os ks κ hk
  cases c with
  | pair t u =>
   cases vs with
   | nil=>cases m <;> simp [cX] at hk
   | cons v vs =>
    have own:(gO t v fun cs=>fd h t cs fun x r=>jD r (cX E h ms u vs os (ks++dB cs) fun y os ks=>κ (x,y) os ks))=some r →
      ∃ x ps cks,κ x ps (ks++cks)=some r∧(∀ q∈os,q∈ps)∧∀ h',lC h h' (ps++cks)→∀ (R':Type) (κ':(Ty.pair t u).D→List Hd→List Hd→Option R'),(gO t v fun cs=>fd h' t cs fun x r=>jD r (cX E h' ms u vs os (ks++dB cs) fun y os ks=>κ' (x,y) os ks))=κ' x ps (ks++cks):=by
     intro hk
     obtain ⟨ls,h1,h2⟩:=HE hk
     obtain ⟨x,rest,us,h3,⟨l1,e1,e2⟩,h5⟩:=Nc h1
     obtain ⟨e,h3⟩:=TU h3
     subst e
     simp only [List.append_nil] at e1
     subst e1
     obtain ⟨y,ps,cks,k1,k2,k3⟩:=ih u h3
     refine ⟨(x,y),ps,dB ls++cks,by rw [← List.append_assoc];exact k1,k2,fun h' hs R' κ'=>?_⟩
     rw [h2,h5 h' (hs.mono (by rw [e2];simp +contextual))]
     simp only [jD]
     rw [k3 h' (hs.mono (by simp only [List.mem_append];rintro q (h | h);exact .inl h;exact .inr (.inr h))),List.append_assoc]
    cases m with
    | rd =>
     simp only [cX] at hk
     obtain ⟨x,us,h1,h2,h3⟩:=iC hk
     obtain ⟨y,ps,cks,k1,k2,k3⟩:=ih u h1
     exact ⟨(x.1,y),ps,cks,k1,fun q hq=>k2 q (h2 q hq),fun h' hs R' κ'=>by
      simp only [cX]
      rw [h3 h' (hs.mono fun q hq=>by simp [k2 q hq]),k3 h' hs]⟩
    | nil =>
     cases t <;> try (simp [cX] at hk)
     cases v <;> try (simp [cX] at hk)
     rename_i l
     cases l <;> simp only [cX,reduceCtorEq] at hk
     obtain ⟨y,ps,cks,k1,k2,k3⟩:=ih u hk
     exact ⟨((),y),ps,cks,k1,k2,fun h' hs R' κ'=>by simp only [cX];rw [k3 h' hs]⟩
    | lent=>simp only [cX] at hk ⊢;exact own hk
    | tk=>simp only [cX] at hk ⊢;exact own hk
    | ptr =>
     cases v <;> try (simp [cX] at hk)
     rename_i l
     cases l <;> try (simp [cX] at hk)
     rename_i q off
     cases off <;> simp only [cX,reduceCtorEq] at hk
     split at hk
     ·rename_i ls hq
      obtain ⟨x,rest,us,h1,h2,h3⟩:=uh hk
      split at h1
      ·obtain ⟨y,ps,cks,k1,k2,k3⟩:=ih u h1
       refine ⟨(x,y),ps,q :: cks,by simpa using k1,k2,fun h' hs R' κ'=>?_⟩
       simp only [cX,hs q (by simp),hq]
       rw [h3 h' (by intro p hp;cases hp)]
       simp only
       rw [k3 h' (hs.mono (by simp only [List.mem_append,List.mem_cons];rintro q (h | h);exact .inl h;exact .inr (.inr h)))]
       simp
      ·cases h1
     ·cases hk
  | _=>cases m <;> cases vs <;> simp [cX] at hk
theorem Cx {R:Type}:∀ (t:Ty) (z:t.D) (ls:List Leaf) (κ:List Leaf→List (Hd×aw)→R),re t z ls κ=κ (re t z ls fun r _=>r) (re t z ls fun _ w=>w)
 | .int _,z,ls,κ=>by cases ls <;> rfl
 | .bool,z,ls,κ=>by cases ls <;> rfl
 | .hd,z,ls,κ=>by cases ls <;> rfl
 | .slice _,z,ls,κ=>by
  cases ls with
  | nil=>rfl
  | cons l ls=>cases l <;> rfl
 | .unit,z,ls,κ=>by cases ls <;> rfl
 | .pair a b,z,ls,κ=>by
  have key:∀ (R':Type) (κ':List Leaf→List (Hd×aw)→R'),re (.pair a b) z ls κ'=κ' (re b z.2 (re a z.1 ls fun r _=>r) fun r _=>r) ((re a z.1 ls fun _ w=>w)++re b z.2 (re a z.1 ls fun r _=>r) fun _ w=>w):=by
   intro R' κ'
   simp only [re]
   rw [Cx a,Cx b]
  rw [key _ κ,key _ (fun r _=>r),key _ (fun _ w=>w)]
 | .fn _ _,z,ls,κ=>by cases ls <;> rfl
 | .vw _,z,ls,κ=>by cases ls <;> rfl
theorem SZ {R:Type} {r:R}:∀ (ms:List Md) (c:Ty) {vs:List AV} {z:(fQ ms c).D} {κ:List (Hd×aw)→Option R},eG ms c vs z κ=some r →
  ∃ ws,κ ws=some r∧∀ (R':Type) (κ':List (Hd×aw)→Option R'),eG ms c vs z κ'=κ' ws:=by
 intro ms
 induction ms with
 | nil =>
  intro c vs z κ hk
  cases c <;> cases vs <;> simp only [eG,reduceCtorEq] at hk
  exact ⟨_,hk,fun R' κ'=>by simp only [eG]⟩
 | cons m ms ih =>
  intro c vs z κ hk
  cases c with
  | pair t u =>
   cases vs with
   | nil=>cases m <;> simp [eG] at hk
   | cons v vs =>
    cases m with
    | rd =>
     simp only [eG] at hk
     obtain ⟨ws,h1,h2⟩:=ih u hk
     exact ⟨ws,h1,fun R' κ'=>by simp only [eG];exact h2 R' κ'⟩
    | nil =>
     simp only [eG] at hk
     obtain ⟨ws,h1,h2⟩:=ih u hk
     exact ⟨ws,h1,fun R' κ'=>by simp only [eG];exact h2 R' κ'⟩
    | lent =>
     unfold eG at hk
     obtain ⟨ls,h1,h2⟩:=HE hk
     rw [Cx] at h1
     obtain ⟨ws,h3,h4⟩:=ih u h1
     exact ⟨_,h3,fun R' κ'=>by unfold eG;rw [h2,Cx,h4]⟩
    | tk =>
     simp only [eG] at hk
     obtain ⟨ls,h1,h2⟩:=HE hk
     obtain ⟨ws,h3,h4⟩:=ih u h1
     exact ⟨_,h3,fun R' κ'=>by simp only [eG];rw [h2,h4]⟩
    | ptr =>
     cases v with
     | leaf l =>
      cases l with
      | box q off =>
       unfold eG at hk
       rw [aO] at hk
       obtain ⟨ws,h3,h4⟩:=ih u hk
       exact ⟨_,h3,fun R' κ'=>by unfold eG;rw [aO,h4]⟩
      | _=>simp [eG] at hk
     | _=>simp [eG] at hk
  | _=>cases m <;> cases vs <;> simp [eG] at hk
theorem S0 {R:Type} {r:R} {E:Env} {st:St} {d:Option Nat} {ms:List Md} {one fr:Bool} {t u:Ty} {F:t.D→Option (u.D×(fQ ms t).D)} {args:List AV} {κ:Dl→Option R} (h:FI E st d ms one fr t u F args κ=some r) :
  ∃ δ,κ δ=some r∧∀ st',lC st.h st'.h δ.rd→∀ (R':Type) (κ':Dl→Option R'),FI E st' d ms one fr t u F args κ'=κ' δ:=by
 unfold FI at h
 obtain ⟨x,ps,ks,h1,h2,h3⟩:=SY ms t h
 rw [List.nil_append] at h1 h3
 split at h1
 rotate_left
 ·cases h1
 rename_i hchk
 cases hF:F x with
 | none=>rw [hF] at h1;cases h1
 | some y =>
  rw [hF,Option.bind_some] at h1
  obtain ⟨ws,k1,k2⟩:=SZ ms t h1
  have fin:∀ {δ:Dl},δ.rd=ps++ks→κ δ=some r→(∀ (R':Type) (κ':Dl→Option R'),HO d one fr u y.1 (ps++ks) ws κ'=κ' δ) →
    ∃ δ,κ δ=some r∧∀ st',lC st.h st'.h δ.rd→∀ (R':Type) (κ':Dl→Option R'),FI E st' d ms one fr t u F args κ'=κ' δ:=by
   intro δ hr hκ heq
   refine ⟨δ,hκ,fun st' hs R' κ'=>?_⟩
   unfold FI
   rw [h3 st'.h (by rw [← hr];exact hs)]
   rw [hchk]
   simp only
   rw [hF,Option.bind_some,k2]
   exact heq R' κ'
  cases fr with
  | false =>
   cases one with
   | true=>simp only [HO] at k1;rw [aO] at k1;exact fin rfl k1 fun R' κ'=>by simp only [HO];rw [aO]
   | false=>simp only [HO] at k1;rw [lM] at k1;exact fin rfl k1 fun R' κ'=>by simp only [HO];rw [lM]
  | true =>
   cases d with
   | none =>
    cases one with
    | true=>cases k1
    | false=>cases u <;> first | exact fin rfl k1 fun R' κ'=>rfl | cases k1
   | some d =>
    cases one with
    | true =>
     obtain ⟨ls,objs,e1,_⟩:=ff (P:=default) d u y.1 []
     simp only [HO] at k1
     rw [e1] at k1
     exact fin rfl k1 fun R' κ'=>by simp only [HO];rw [e1]
    | false =>
     obtain ⟨ts,objs,e1,_⟩:=uf (P:=default) d u y.1 []
     simp only [HO] at k1
     rw [e1] at k1
     exact fin rfl k1 fun R' κ'=>by simp only [HO];rw [e1]
theorem S1 {R:Type} {r:R} {E:Env} {st:St} {d:Option Nat} {f:Nat} {args:List AV} {κ:Dl→Option R} (h:wu E st d f args κ=some r) :
  ∃ δ,κ δ=some r∧∀ st',lC st.h st'.h δ.rd→∀ (R':Type) (κ':Dl→Option R'),wu E st' d f args κ'=κ' δ:=by
 unfold wu at h
 split at h
 ·rename_i ms one fr t u F hg
  obtain ⟨δ,h1,h2⟩:=S0 h
  exact ⟨δ,h1,fun st' hs R' κ'=>by unfold wu;simp only [hg];exact h2 st' hs R' κ'⟩
 ·rename_i t u F hg
  obtain ⟨x,us,h1,_,h2⟩:=iC h
  split at h1
  ·rename_i d hnh
   have:us=[]:=by cases us with | nil=>rfl | cons _ _=>simp [A9] at hnh
   subst this
   cases hF:F x with
   | none=>rw [hF] at h1;cases h1
   | some y =>
    rw [hF,Option.bind_some,aO] at h1
    exact ⟨_,h1,fun st' hs R' κ'=>by unfold wu;simp only [hg];rw [h2 st'.h (by intro q hq;cases hq)];simp only [A9];rw [hF,Option.bind_some,aO]⟩
  ·cases h1
 ·rename_i one fr a u F hg
  obtain ⟨x,os,h1,_,h2⟩:=iC h
  cases hF:F x with
  | none=>rw [hF] at h1;cases h1
  | some y =>
   rw [hF,Option.bind_some] at h1
   split at h1
   ·split at h1
    ·rename_i hfl
     rw [aO] at h1
     exact ⟨_,h1,fun st' hs R' κ'=>by unfold wu;simp only [hg];rw [h2 st'.h hs,hF,Option.bind_some];simp only [hfl];rw [aO]⟩
    ·cases h1
   ·split at h1
    ·rename_i hfl
     rw [lM] at h1
     exact ⟨_,h1,fun st' hs R' κ'=>by unfold wu;simp only [hg];rw [h2 st'.h hs,hF,Option.bind_some];simp only [hfl];rw [lM]⟩
    ·cases h1
   ·rename_i d'
    obtain ⟨cs,objs,e1,_⟩:=ff (P:=default) d' u y []
    rw [e1] at h1
    split at h1
    ·cases h1
    ·rename_i n0 ns hn
     exact ⟨_,h1,fun st' hs R' κ'=>by unfold wu;simp only [hg];rw [h2 st'.h hs,hF,Option.bind_some];simp only [e1];rw [hn]⟩
   ·rename_i d'
    obtain ⟨cs,objs,e1,_⟩:=uf (P:=default) d' u y []
    rw [e1] at h1
    split at h1
    ·cases h1
    ·rename_i n0 ns hn
     exact ⟨_,h1,fun st' hs R' κ'=>by unfold wu;simp only [hg];rw [h2 st'.h hs,hF,Option.bind_some];simp only [e1];rw [hn]⟩
   ·cases h1
 ·cases h
theorem RO {R:Type} {r:R} {E:Env} {st:St} {d:Option Nat} {T T':Nat} {s x:Leaf} {κ:Dl→Option R} (h:Ba E st d T T' s x κ=some r) :
  ∃ δ,κ δ=some r∧∀ st',lC st.h st'.h δ.rd→∀ (R':Type) (κ':Dl→Option R'),Ba E st' d T T' s x κ'=κ' δ:=by
 unfold Ba at h
 split at h
 ·rename_i k n t te ti d hel hte hti
  split at h
  ·rename_i kn hk
   obtain ⟨z,rest,us,k1,_,k3⟩:=rl h
   split at k1
   ·split at k1
    ·rename_i h0
     split at k1
     ·rename_i hr
      exact ⟨_,k1,fun st' hs R' κ'=>by
       unfold Ba;simp only [hel,hte,hti,hk]
       refine (k3 st'.h (by intro q hq;cases hq) R' _).trans ?_
       simp only [if_pos h0,if_pos hr]⟩
     ·cases k1
    ·cases k1
   ·cases k1
  ·cases h
 ·cases h
theorem OT {R:Type} {r:R} {E:Env} {st:St} {d:Option Nat} {b:Builtin} {args:List AV} {tys:List Nat} {κ:Dl→Option R} (h:dQ E st d b args tys κ=some r) :
  ∃ δ,κ δ=some r∧∀ st',lC st.h st'.h δ.rd→∀ (R':Type) (κ':Dl→Option R'),dQ E st' d b args tys κ'=κ' δ:=by
 unfold dQ at h
 split at h
 ·rename_i l
  split at h
  ·rename_i T tys
   split at h
   ·rename_i t hel
    split at h
    ·exact ⟨_,h,fun st' hs R' κ'=>by unfold dQ;simp only [hel]⟩
    ·exact ⟨_,h,fun st' hs R' κ'=>by unfold dQ;simp only [hel]⟩
    ·exact ⟨_,h,fun st' hs R' κ'=>by unfold dQ;simp only [hel]⟩
    ·rename_i o
     split at h
     ·rename_i ro t' xs ho
      exact ⟨_,h,fun st' hs R' κ'=>by unfold dQ;simp only [hel,hs o (by simp),ho]⟩
     ·cases h
    ·exact ⟨_,h,fun st' hs R' κ'=>by unfold dQ;simp only [hel]⟩
    ·cases h
   ·cases h
  ·cases h
 ·split at h
  ·rename_i T tys
   split at h
   ·rename_i t hel
    exact ⟨_,h,fun st' hs R' κ'=>by unfold dQ;simp only [hel]⟩
   ·cases h
  ·cases h
 ·split at h
  ·rename_i T T'
   split at h
   ·rename_i hT
    obtain ⟨δ,h1,h2⟩:=Qu h
    exact ⟨δ,h1,fun st' hs R' κ'=>by unfold dQ;simp only [hT];rw [h2 st' hs]⟩
   ·rename_i hT
    obtain ⟨δ,h1,h2⟩:=RO h
    exact ⟨δ,h1,fun st' hs R' κ'=>by unfold dQ;simp only [hT];rw [h2 st' hs]⟩
  ·cases h
 ·rename_i o n lo hi
  split at h
  ·rename_i T
   split at h
   ·rename_i t te t' xs hel hte ho
    obtain ⟨y,h1,h2⟩:=fU (t':=.slice t) h
    obtain ⟨z,rest,us,k1,_,k3⟩:=rl h1
    split at k1
    ·rename_i hf hn _
     exact ⟨_,k1,fun st' hs R' κ'=>by
      unfold dQ;simp only [hel,hte,hs o (by simp),ho]
      refine (h2 R' _).trans ?_
      refine (k3 st'.h (by intro q hq;cases hq) R' _).trans ?_
      simp only [hf,hn]⟩
    ·cases k1
   ·cases h
  ·cases h
 ·exact ⟨_,h,fun st' hs R' κ'=>by unfold dQ;rfl⟩
 ·exact ⟨_,h,fun st' hs R' κ'=>by unfold dQ;rfl⟩
 ·cases h
end Go.Abs
