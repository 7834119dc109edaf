/- Part of a proof of FnOrders: see the row. -/
import Derived.Test.YtenadnbpibhmiaaGreatOrAbsFrm
set_option linter.unusedVariables false
set_option linter.unusedSimpArgs false
namespace Go.Abs
open Go.RowKit
def PD (o:Oper) (st st':St):Prop:=∀ x∈iW o.op,val st' x=val st x
theorem z9 {R:Type} {r:R} {v:AV} {κ:List Leaf→Option R} (h:wa v κ=some r):∃ ls,κ ls=some r∧∀ (R':Type) (κ':List Leaf→Option R'),wa v κ'=κ' ls:=by
 unfold wa at h
 split at h
 ·exact ⟨_,h,fun R' κ'=>rfl⟩
 ·exact ⟨_,h,fun R' κ'=>rfl⟩
 ·cases h
theorem C3 {R:Type} {r:R} {n:Nat} {l:List Leaf} {κ:List Leaf→Option R} (h:nP n l κ=some r):∃ x,κ x=some r∧∀ (R':Type) (κ':List Leaf→Option R'),nP n l κ'=κ' x:=by
 induction n generalizing l κ with
 | zero=>exact ⟨_,by simpa [nP] using h,fun R' κ'=>by simp only [nP]⟩
 | succ n ih=>cases l with
  | nil=>simp [nP] at h
  | cons a l =>
   simp only [nP] at h
   obtain ⟨x,h1,h2⟩:=ih h
   exact ⟨a :: x,h1,fun R' κ'=>by simp only [nP];exact h2 R' fun r'=>κ' (a :: r')⟩
theorem C4 {R:Type} {r:R}:∀ {n:Nat} {cs l:List Leaf} {κ:List Leaf→Option R},lC n cs l κ=some r→∃ x,κ x=some r∧∀ (R':Type) (κ':List Leaf→Option R'),lC n cs l κ'=κ' x
 | 0,[],l,κ,h=>⟨l,by simpa [lC] using h,fun R' κ'=>by simp only [lC]⟩
 | 0,_ :: _,[],κ,h=>by simp [lC] at h
 | 0,c :: cs,_ :: l,κ,h=>by
  simp only [lC] at h
  obtain ⟨x,h1,h2⟩:=C4 h
  exact ⟨c :: x,h1,fun R' κ'=>by simp only [lC];exact h2 R' fun r'=>κ' (c :: r')⟩
 | n + 1,cs,[],κ,h=>by simp [lC] at h
 | n + 1,cs,a :: l,κ,h=>by
  simp only [lC] at h
  obtain ⟨x,h1,h2⟩:=C4 h
  exact ⟨a :: x,h1,fun R' κ'=>by simp only [lC];exact h2 R' fun r'=>κ' (a :: r')⟩
theorem Aa {R:Type} {r:R} {k:TK} {cs:List Leaf} {κ:AV→Option R} (h:lh k cs κ=some r):∃ x,κ x=some r∧∀ (R':Type) (κ':AV→Option R'),lh k cs κ'=κ' x:=by
 unfold lh at h
 split at h
 ·exact ⟨_,h,fun R' κ'=>rfl⟩
 ·split at h
  ·rename_i hk _ l
   exact ⟨_,h,fun R' κ'=>by unfold lh;cases k <;> first | rfl | exact absurd rfl (hk _)⟩
  ·cases h
theorem Sh {α R:Type} {r:R} {xs:List α} {i:Int} {κ:α→Option R} (h:idx xs i κ=some r):∃ x,κ x=some r∧∀ (R':Type) (κ':α→Option R'),idx xs i κ'=κ' x:=by
 unfold idx at h
 split at h
 ·rename_i h0
  cases hx:xs[i.toNat]? with
  | none=>rw [hx] at h;cases h
  | some x=>rw [hx] at h;exact ⟨x,h,fun R' κ'=>by unfold idx;rw [if_pos h0,hx];rfl⟩
 ·cases h
theorem L6 {R:Type} {r:R}:∀ {t:Ty} {x:t.D} {n:Nat} {l:Leaf} {κ:t.D→Option R},iT t x n l κ=some r→∃ y,κ y=some r∧∀ (R':Type) (κ':t.D→Option R'),iT t x n l κ'=κ' y
 | .int k,x,n,l,κ,h=>by
  cases n with
  | zero =>
   cases l <;> simp only [iT,reduceCtorEq] at h
   split at h
   ·rename_i e;exact ⟨_,h,fun R' κ'=>by simp only [iT];rw [if_pos e]⟩
   ·cases h
  | succ n=>simp [iT] at h
 | .bool,x,n,l,κ,h=>by
  cases n with
  | zero =>
   cases l <;> simp only [iT,reduceCtorEq] at h
   exact ⟨_,h,fun R' κ'=>by simp only [iT]⟩
  | succ n=>simp [iT] at h
 | .hd,x,n,l,κ,h=>by
  cases n with
  | zero =>
   cases l <;> simp only [iT,reduceCtorEq] at h
   exact ⟨_,h,fun R' κ'=>by simp only [iT]⟩
  | succ n=>simp [iT] at h
 | .slice _,x,n,l,κ,h=>by simp [iT] at h
 | .unit,x,n,l,κ,h=>by simp [iT] at h
 | .fn _ _,x,n,l,κ,h=>by simp [iT] at h
 | .pair a b,x,n,l,κ,h=>by
  simp only [iT] at h
  split at h
  ·rename_i hb
   obtain ⟨y,h1,h2⟩:=L6 (t:=b) h
   exact ⟨(x.1,y),h1,fun R' κ'=>by simp only [iT,hb];exact h2 R' fun y=>κ' (x.1,y)⟩
  ·rename_i hb
   obtain ⟨y,h1,h2⟩:=L6 (t:=a) h
   exact ⟨(y,x.2),h1,fun R' κ'=>by simp only [iT,hb];exact h2 R' fun y=>κ' (y,x.2)⟩
theorem NK {R:Type} {r:R} {t:Ty}:∀ {ls:List Leaf} {x:t.D} {n:Nat} {κ:t.D→Option R},FU t x n ls κ=some r→∃ y,κ y=some r∧∀ (R':Type) (κ':t.D→Option R'),FU t x n ls κ'=κ' y
 | [],x,n,κ,h=>⟨x,h,fun R' κ'=>rfl⟩
 | l :: ls,x,n,κ,h=>by
  unfold FU at h
  obtain ⟨y,h1,h2⟩:=L6 h
  obtain ⟨z,k1,k2⟩:=NK h1
  exact ⟨z,k1,fun R' κ'=>by unfold FU;rw [h2 R' _];exact k2 R' κ'⟩
theorem NL {R:Type} {r:R} {T:Tab} {fs:List (Nat×Nat)} {st:St}:∀ {parts:List (Nat×Operand)} {cs:List Leaf} {κ:List Leaf→Option R},CO T fs st parts cs κ=some r →
  ∃ x,κ x=some r∧∀ st',(∀ x∈parts.map (·.2),val st' x=val st x)→∀ (R':Type) (κ':List Leaf→Option R'),CO T fs st' parts cs κ'=κ' x
 | [],cs,κ,h=>⟨cs,h,fun st' _ R' κ'=>rfl⟩
 | (i,x) :: parts,cs,κ,h=>by
  unfold CO at h
  split at h
  ·rename_i off t hf
   split at h
   ·rename_i te hte
    obtain ⟨ls,h1,h2⟩:=z9 h
    split at h1
    ·rename_i hn
     obtain ⟨y,h3,h4⟩:=C4 h1
     obtain ⟨z,h5,h6⟩:=NL h3
     refine ⟨z,h5,fun st' hs R' κ'=>?_⟩
     unfold CO
     simp only [hf,hte,hs x (by simp)]
     rw [h2]
     simp only [hn]
     rw [h4]
     exact h6 st' (fun x hx=>hs x (by simp at hx ⊢;right;exact hx)) R' κ'
    ·cases h1
   ·cases h
  ·cases h
theorem Li {R:Type} {r:R} {t:Ty} {st:St}:∀ {parts:List (Nat×Operand)} {i n:Nat} {ws:List (Hd×aB)} {κ:List t.D→List (Hd×aB)→Option R},qr t st parts i n ws κ=some r →
  ∃ x us,κ x us=some r∧(∀ q∈au ws,q∈au us)∧∀ st',(∀ x∈parts.map (·.2),val st' x=val st x)→lZ st.h st'.h (au us)→∀ (R':Type) (κ':List t.D→List (Hd×aB)→Option R'),qr t st' parts i n ws κ'=κ' x us
 | [],i,n,ws,κ,h=>by
  unfold qr at h
  split at h
  ·rename_i hb;exact ⟨[],ws,h,fun _ h=>h,fun st' _ _ R' κ'=>by unfold qr;rw [hb]⟩
  ·cases h
 | (j,x) :: parts,i,n,ws,κ,h=>by
  unfold qr at h
  split at h
  ·rename_i hb
   obtain ⟨ls,h1,h2⟩:=z9 h
   obtain ⟨y,rest,us,h3,h4,h5⟩:=rW h1
   split at h3
   ·obtain ⟨z,us2,k1,k2,k3⟩:=Li h3
    refine ⟨y :: z,us2,k1,fun q hq=>k2 q (h4 q hq),fun st' hs hsm R' κ'=>?_⟩
    unfold qr
    simp only [hb,hs x (by simp)]
    rw [h2,h5 st'.h (hsm.mono k2)]
    exact k3 st' (fun x hx=>hs x (by simp at hx ⊢;right;exact hx)) hsm R' fun xs ws=>κ' (y :: xs) ws
   ·cases h3
  ·cases h
theorem Lj {R:Type} {r:R} {t:Ty} {st:St}:∀ {parts:List (Nat×Operand)} {i n:Nat} {κ:List t.D→Option R},qs t st parts i n κ=some r →
  ∃ xs,κ xs=some r∧∀ st',(∀ x∈parts.map (·.2),val st' x=val st x)→∀ (R':Type) (κ':List t.D→Option R'),qs t st' parts i n κ'=κ' xs
 | [],i,n,κ,h=>by
  unfold qs at h
  split at h
  ·rename_i e;exact ⟨[],h,fun st' _ R' κ'=>by unfold qs;simp only [e]⟩
  ·cases h
 | (j,x) :: parts,i,n,κ,h=>by
  unfold qs at h
  split at h
  ·rename_i e
   obtain ⟨ls,h1,h2⟩:=z9 h
   obtain ⟨y,rest,us,k1,_,k3⟩:=vq h1
   split at k1
   ·obtain ⟨xs,m1,m2⟩:=Lj k1
    exact ⟨y :: xs,m1,fun st' hs R' κ'=>by
     unfold qs
     simp only [e]
     rw [hs x (by simp),h2,k3 st'.h (by intro q hq;cases hq)]
     simp only
     exact m2 st' (fun z hz=>hs z (by simp only [List.map_cons,List.mem_cons];exact .inr hz)) R' fun xs=>κ' (y :: xs)⟩
   ·cases k1
  ·cases h
theorem NM {R:Type} {r:R} {st:St}:∀ {xs:List Operand} {κ:List Hd→Option R},dS.capsK st xs κ=some r→∃ x,κ x=some r∧∀ st',(∀ x∈xs,val st' x=val st x)→∀ (R':Type) (κ':List Hd→Option R'),dS.capsK st' xs κ'=κ' x
 | [],κ,h=>⟨[],h,fun st' _ R' κ'=>rfl⟩
 | x :: xs,κ,h=>by
  unfold dS.capsK at h
  split at h
  ·rename_i o hx
   obtain ⟨y,h1,h2⟩:=NM h
   exact ⟨o :: y,h1,fun st' hs R' κ'=>by
    unfold dS.capsK
    rw [hs x (by simp),hx]
    exact h2 st' (fun x hx=>hs x (by simp [hx])) R' fun cs=>κ' (o :: cs)⟩
  ·cases h
def Frm (E:Env) (o:Oper) (st:St) (δ:Dl):Prop:=∀ st',PD o st st'→lZ st.h st'.h δ.rd→∀ (R':Type) (κ':Dl→Option R'),dS E o st' κ'=κ' δ
theorem Si {R:Type} {r:R} {st:St} {ti:TI} {p:AV} {κ:Dl→Option R} (h:CL st ti p κ=some r) :
  ∃ δ,κ δ=some r∧∀ st',lZ st.h st'.h δ.rd→∀ (R':Type) (κ':Dl→Option R'),CL st' ti p κ'=κ' δ:=by
 unfold CL at h
 split at h
 ·rename_i o off
  split at h
  ·rename_i ro cs ho
   obtain ⟨x,h1,h2⟩:=C3 h
   obtain ⟨v,h3,h4⟩:=Aa h1
   exact ⟨_,h3,fun st' hs R' κ'=>by unfold CL;simp only [hs o (by simp),ho];rw [h2,h4]⟩
  ·cases h
 ·rename_i t x off
  rw [aX] at h
  obtain ⟨y,h1,h2⟩:=C3 h
  obtain ⟨v,h3,h4⟩:=Aa h1
  exact ⟨_,h3,fun st' hs R' κ'=>by unfold CL;simp only;rw [aX,h2,h4]⟩
 ·rename_i o n i off
  split at h
  ·rename_i ro t xs ho
   cases hx:xs[i]? with
   | none=>rw [hx] at h;cases h
   | some x =>
    rw [hx,Option.bind_some,aX] at h
    obtain ⟨y,h1,h2⟩:=C3 h
    split at h1
    ·rename_i hf hn
     obtain ⟨v,h3,h4⟩:=Aa h1
     exact ⟨_,h3,fun st' hs R' κ'=>by unfold CL;simp only [hs o (by simp),ho,hx,Option.bind_some];rw [aX,h2];simp only [hf,hn];rw [h4]⟩
    ·cases h1
  ·cases h
 ·cases h
theorem Q4 {R:Type} {r:R} {st:St} {p:AV} {v:List Leaf} {κ:Dl→Option R} (h:wb st p v κ=some r) :
  ∃ δ,κ δ=some r∧∀ st',lZ st.h st'.h δ.rd→∀ (R':Type) (κ':Dl→Option R'),wb st' p v κ'=κ' δ:=by
 unfold wb at h
 split at h
 ·rename_i o off
  split at h
  ·rename_i cs ho
   obtain ⟨x,h1,h2⟩:=C4 h
   exact ⟨_,h1,fun st' hs R' κ'=>by unfold wb;simp only [hs o (by simp),ho];rw [h2]⟩
  ·cases h
 ·rename_i o n i off
  split at h
  ·rename_i t xs ho hn
   have hn:Nat.beq n t.n=true:=by rw [ho] at hn;exact hn
   cases hx:xs[i]? with
   | none=>rw [hx] at h;cases h
   | some x =>
    rw [hx,Option.bind_some] at h
    split at h
    ·rename_i hl
     obtain ⟨y,rest,us,h1,h2,h3⟩:=rW h
     split at h1
     ·rename_i hh
      exact ⟨_,h1,fun st' hs R' κ'=>by
       unfold wb
       simp only [hs o (by simp),ho,hn,hx,Option.bind_some,hl]
       rw [h3 st'.h (hs.mono (by simp +contextual))]
       simp only [hh]⟩
     ·cases h1
    ·rename_i l v0 hnz hl
     obtain ⟨y,h1,h2⟩:=NK h
     exact ⟨_,h1,fun st' hs R' κ'=>by
      unfold wb
      simp only [hs o (by simp),ho,hn,hx,Option.bind_some,hl]
      rw [h2]⟩
    ·cases h
  ·cases h
 ·cases h
theorem HO {R:Type} {r:R} {st:St} {d:Nat} {t:Ty} {x:Leaf} {xs:List t.D} {ws:List (Hd×aB)} {κ:Dl→Option R} (h:vk st d t x xs ws κ=some r) :
  ∃ δ,κ δ=some r∧(∀ q∈au ws,q∈δ.rd)∧∀ st',lZ st.h st'.h δ.rd→∀ (R':Type) (κ':Dl→Option R'),vk st' d t x xs ws κ'=κ' δ:=by
 unfold vk at h
 split at h
 ·rename_i hf
  obtain ⟨ys,us,h1,h2⟩:=ER h
  split at h1
  ·rename_i hr
   exact ⟨_,h1,fun q hq=>by simp [hq],fun st' hs R' κ'=>by
    unfold vk;simp only [hf];rw [h2 st'.h (hs.mono (by simp +contextual)),if_pos hr]⟩
  ·cases h1
 ·rename_i hf
  split at h
  ·rename_i hc
   obtain ⟨ys,h1,h2⟩:=EQ h
   split at h1
   ·rename_i hr
    exact ⟨_,h1,fun q hq=>hq,fun st' hs R' κ'=>by
     unfold vk;simp only [hf,hc];rw [h2,if_pos hr]⟩
   ·cases h1
  ·rename_i hc
   obtain ⟨ys,us,h1,h0,h2⟩:=Lh h
   split at h1
   ·rename_i hr
    exact ⟨_,h1,h0,fun st' hs R' κ'=>by
     unfold vk;simp only [hf,hc];rw [h2 st'.h hs,if_pos hr]⟩
   ·cases h1
theorem PE {R:Type} {r:R} {E:Env} {st:St} {d:Option Nat} {T:Nat} {s x:Leaf} {κ:Dl→Option R} (h:oZ E st d T s x κ=some r) :
  ∃ δ,κ δ=some r∧∀ st',lZ st.h st'.h δ.rd→∀ (R':Type) (κ':Dl→Option R'),oZ E st' d T s x κ'=κ' δ:=by
 unfold oZ at h
 split at h
 ·rename_i t d hel
  split at h
  ·obtain ⟨δ,h1,_,h2⟩:=HO h
   exact ⟨δ,h1,fun st' hs R' κ'=>by unfold oZ;simp only [hel];rw [h2 st' hs]⟩
  ·rename_i o
   split at h
   ·rename_i t' xs ho
    obtain ⟨y,h1,h2⟩:=gD (t':=.slice t) h
    obtain ⟨δ,h3,h4,h5⟩:=HO h1
    exact ⟨δ,h3,fun st' hs R' κ'=>by unfold oZ;simp only [hel,hs o (h4 o (by simp [au])),ho];rw [h2 R' fun xs=>vk st' d t x xs [(o,.dead)] κ',h5 st' hs]⟩
   ·cases h
  ·rename_i o n hi
   split at h
   ·rename_i t' xs ho
    obtain ⟨y,h1,h2⟩:=gD (t':=.slice t) h
    split at h1
    ·rename_i l u hsp hfn
     split at h1
     ·rename_i hlu
      split at h1
      ·rename_i hfit
       exact ⟨_,h1,fun st' hs R' κ'=>by
        unfold oZ;simp only [hel,hs o (by simp),ho]
        refine (h2 R' _).trans ?_
        simp only [hsp,hfn]
        rw [if_pos hlu,if_pos hfit]⟩
      ·cases h1
     ·cases h1
    ·cases h1
    ·rename_i hsp
     obtain ⟨δ,h3,h4,h5⟩:=HO h1
     exact ⟨δ,h3,fun st' hs R' κ'=>by
      unfold oZ;simp only [hel,hs o (h4 o (by simp [au])),ho]
      refine (h2 R' _).trans ?_
      simp only [hsp]
      exact h5 st' hs R' κ'⟩
   ·cases h
  ·cases h
 ·cases h
theorem qY {R:Type} {r:R} {v:Option AV} {d:Int} {κ:Int→Option R} (h:tC v d κ=some r):∃ n,κ n=some r∧∀ (R':Type) (κ':Int→Option R'),tC v d κ'=κ' n:=by
 unfold tC at h
 split at h
 ·exact ⟨_,h,fun R' κ'=>rfl⟩
 ·exact ⟨_,h,fun R' κ'=>rfl⟩
 ·cases h
theorem C5 {R:Type} {r:R} {l h:Int} {n:Nat} {κ:Nat→Nat→Option R} (hk:CP l h n κ=some r):κ l.toNat h.toNat=some r∧∀ (R':Type) (κ':Nat→Nat→Option R'),CP l h n κ'=κ' l.toNat h.toNat:=by
 obtain ⟨h1,h2,h3,h4⟩:=rI hk
 exact ⟨h4,fun R' κ'=>by unfold CP;rw [if_pos h1,if_pos h2,if_pos h3]⟩
theorem Sj {R:Type} {r:R} {E:Env} {st:St} {d:Option Nat} {T:Nat} {x y:Operand} {κ:Dl→Option R} (h:HB E st d T x y κ=some r) :
  ∃ δ,κ δ=some r∧∀ st',val st' x=val st x→∀ (R':Type) (κ':Dl→Option R'),HB E st' d T x y κ'=κ' δ:=by
 unfold HB at h
 split at h
 ·rename_i t te d k n hel hte hxy hx
  obtain ⟨z,rest,us,h1,h2,h3⟩:=rW h
  split at h1
  ·split at h1
   ·rename_i h0
    split at h1
    ·rename_i hr
     exact ⟨_,h1,fun st' hs R' κ'=>by unfold HB;rw [hs];simp only [hel,hte,hxy,hx];rw [h3 st'.h (by intro q hq;cases hq)];simp only;rw [if_pos h0,if_pos hr]⟩
    ·cases h1
   ·cases h1
  ·cases h1
 ·cases h
theorem NN {R:Type} {r:R} {E:Env} {st:St} {T:Nat} {x:AV} {lo hi mx:Option AV} {κ:Dl→Option R} (h:iV E st T x lo hi mx κ=some r) :
  ∃ δ,κ δ=some r∧∀ st',lZ st.h st'.h δ.rd→∀ (R':Type) (κ':Dl→Option R'),iV E st' T x lo hi mx κ'=κ' δ:=by
 unfold iV at h
 split at h
 ·rename_i t hel
  split at h
  ·obtain ⟨l,h1,h2⟩:=qY h
   obtain ⟨u,h3,h4⟩:=qY h1
   obtain ⟨h5,h6⟩:=C5 h3
   exact ⟨_,h5,fun st' hs R' κ'=>by unfold iV;simp only [hel];rw [h2,h4,h6]⟩
  ·cases h
 ·rename_i t t' xs hel
  split at h
  ·obtain ⟨y,h7,h8⟩:=gD (t':=.slice t) h
   obtain ⟨l,h1,h2⟩:=qY h7
   obtain ⟨u,h3,h4⟩:=qY h1
   obtain ⟨h5,h6⟩:=C5 h3
   exact ⟨_,h5,fun st' hs R' κ'=>by
    unfold iV;simp only [hel]
    rw [h8 R' fun xs=>tC lo 0 fun l=>tC hi xs.length fun h=>CP l h xs.length fun l h=>κ' { v:=.leaf (.view t ((xs.take h).drop l)) },h2,h4,h6]⟩
  ·cases h
 ·rename_i t o hel
  split at h
  ·rename_i ro t' xs ho
   obtain ⟨y,h7,h8⟩:=gD (t':=.slice t) h
   obtain ⟨l,h1,h2⟩:=qY h7
   obtain ⟨u,h3,h4⟩:=qY h1
   split at h3
   ·obtain ⟨h5,h6⟩:=C5 h3
    exact ⟨_,h5,fun st' hs R' κ'=>by
     unfold iV;simp only [hel,hs o (by simp),ho]
     rw [h8 R' fun xs=>tC lo 0 fun l=>tC hi xs.length fun h=>CP l h xs.length fun l h=>κ' { v:=.leaf (.part o t.n l h),rd:=[o] },h2,h4,h6]⟩
   ·rename_i m
    split at h3
    ·obtain ⟨mm,k1,k2⟩:=qY h3
     obtain ⟨h5,h6⟩:=C5 k1
     split at h5
     ·rename_i g1
      split at h5
      ·rename_i g2
       exact ⟨_,h5,fun st' hs R' κ'=>by
        unfold iV;simp only [hel,hs o (by simp),ho]
        rw [h8 R' fun xs=>tC lo 0 fun l=>tC (some _) xs.length fun h=>tC (some m) 0 fun m=>CP l h xs.length fun _ _=>if h≤m then (if m≤xs.length then κ' { v:=.any,rd:=[o] } else none) else none,h2,h4,k2,h6,if_pos g1,if_pos g2]⟩
      ·cases h5
     ·cases h5
    ·cases h3
  ·cases h
 ·rename_i t o n hi0 hel
  split at h
  ·rename_i ro t' xs ho
   obtain ⟨y,h7,h8⟩:=gD (t':=.slice t) h
   split at h7
   ·rename_i hn
    obtain ⟨l,h1,h2⟩:=qY h7
    obtain ⟨u,h3,h4⟩:=qY h1
    obtain ⟨h5,h6⟩:=C5 h3
    exact ⟨_,h5,fun st' hs R' κ'=>by
     unfold iV;simp only [hel,hs o (by simp),ho]
     refine (h8 R' _).trans ?_
     simp only [hn]
     rw [h2,h4,h6]⟩
   ·cases h7
  ·cases h
 ·cases h
theorem Lk {R:Type} {r:R} {E:Env} {op:BinOp} {t:Nat} {b:Bool} {κ:Dl→Option R} (h:wd E op t b κ=some r):∃ δ,κ δ=some r∧∀ (R':Type) (κ':Dl→Option R'),wd E op t b κ'=κ' δ:=by
 unfold wd at h
 split at h
 ·rename_i hel;exact ⟨_,h,fun R' κ'=>by unfold wd;simp only [hel]⟩
 ·rename_i hel;exact ⟨_,h,fun R' κ'=>by unfold wd;simp only [hel]⟩
 ·cases h
theorem L7 {R:Type} {r:R} {h:i4}:∀ {t:Ty} {ls:List Leaf} {κ:t.D→List Leaf→Option R},fQ h t ls κ=some r →
  ∃ x rest us,κ x rest=some r∧(∃ l1,ls=l1++rest∧us=dR l1)∧∀ h',lZ h h' us→∀ (R':Type) (κ':t.D→List Leaf→Option R'),fQ h' t ls κ'=κ' x rest
 | .int k,ls,κ,hk=>by
  cases ls with
  | nil=>simp [fQ] at hk
  | cons l ls =>
   cases l <;> simp only [fQ,reduceCtorEq] at hk
   split at hk
   ·rename_i e
    exact ⟨_,ls,[],hk,⟨[.int _ _],rfl,rfl⟩,fun h' _ R' κ'=>by simp only [fQ];rw [if_pos e]⟩
   ·cases hk
 | .bool,ls,κ,hk=>by
  cases ls with
  | nil=>simp [fQ] at hk
  | cons l ls =>
   cases l <;> simp only [fQ,reduceCtorEq] at hk
   exact ⟨_,ls,[],hk,⟨[.bool _],rfl,rfl⟩,fun h' _ R' κ'=>by simp only [fQ]⟩
 | .hd,ls,κ,hk=>by
  cases ls with
  | nil=>simp [fQ] at hk
  | cons l ls =>
   cases l <;> simp only [fQ,reduceCtorEq] at hk
   exact ⟨_,ls,[],hk,⟨[.hd _],rfl,rfl⟩,fun h' _ R' κ'=>by simp only [fQ]⟩
 | .slice t,ls,κ,hk=>by
  cases ls with
  | nil=>simp [fQ] at hk
  | cons l ls =>
   cases l <;> simp only [fQ,reduceCtorEq] at hk
   ·exact ⟨_,ls,[],hk,⟨[.nil],rfl,rfl⟩,fun h' _ R' κ'=>by simp only [fQ]⟩
   ·rename_i o
    split at hk
    ·rename_i t' xs ho
     obtain ⟨y,h1,h2⟩:=gD (t':=.slice t) hk
     exact ⟨y,ls,[o],h1,⟨[.own o],rfl,rfl⟩,fun h' hs R' κ'=>by simp only [fQ,hs o (by simp),ho];exact h2 R' fun x=>κ' x ls⟩
    ·cases hk
 | .unit,ls,κ,hk=>by
  simp only [fQ] at hk
  exact ⟨(),ls,[],hk,⟨[],rfl,rfl⟩,fun h' _ R' κ'=>by simp only [fQ]⟩
 | .pair a b,ls,κ,hk=>by
  simp only [fQ] at hk
  obtain ⟨x,r1,us,h1,⟨l1,e1,e2⟩,h3⟩:=L7 (t:=a) hk
  obtain ⟨y,r2,us2,k1,⟨l2,e3,e4⟩,k3⟩:=L7 (t:=b) h1
  exact ⟨(x,y),r2,us++us2,k1,⟨l1++l2,by rw [e1,e3,List.append_assoc],by rw [e2,e4,pa]⟩,fun h' hs R' κ'=>by
   simp only [fQ]
   rw [h3 h' (hs.mono (by simp +contextual)) R' _,k3 h' (hs.mono (by simp +contextual)) R' _]⟩
 | .fn a b,ls,κ,hk=>by cases ls <;> simp [fQ] at hk
 | .vw t,ls,κ,hk=>by
  cases ls with
  | nil=>simp [fQ] at hk
  | cons l ls =>
   simp only [fQ] at hk
   have hl:dR [l]=[]:=by
    unfold qp at hk
    split at hk <;> first | rfl | (cases hk)
   obtain ⟨y,h1,h2⟩:=EQ hk
   exact ⟨y,ls,[],h1,⟨[l],rfl,hl.symm⟩,fun h' hs R' κ'=>by simp only [fQ];exact h2 R' fun x=>κ' x ls⟩
theorem Ti {α R:Type} {r:R} {l:List α} {k:Option R} (h:jW l k=some r):l=[]∧k=some r:=by
 unfold jW at h
 split at h
 ·exact ⟨rfl,h⟩
 ·cases h
theorem Sk {R:Type} {r:R} {E:Env} {h:i4}:∀ (ms:List Md) (c:Ty) {vs:List AV} {os ks:List Hd} {κ:c.D→List Hd→List Hd→Option R},dw E h ms c vs os ks κ=some r →
  ∃ x ps cks,κ x ps (ks++cks)=some r∧(∀ q∈os,q∈ps)∧∀ h',lZ h h' (ps++cks)→∀ (R':Type) (κ':c.D→List Hd→List Hd→Option R'),dw E h' ms c vs os ks κ'=κ' x ps (ks++cks):=by
 intro ms
 induction ms with
 | nil =>
  intro c vs os ks κ hk
  cases c <;> cases vs <;> simp only [dw,reduceCtorEq] at hk
  exact ⟨(),os,[],by simpa using hk,fun _ h=>h,fun h' _ R' κ'=>by simp only [dw,List.append_nil]⟩
 | cons m ms ih =>
  intro c vs os ks κ hk
  cases c with
  | pair t u =>
   cases vs with
   | nil=>cases m <;> simp [dw] at hk
   | cons v vs =>
    have own:(it t v fun cs=>fQ h t cs fun x r=>jW r (dw E h ms u vs os (ks++dR cs) fun y os ks=>κ (x,y) os ks))=some r →
      ∃ x ps cks,κ x ps (ks++cks)=some r∧(∀ q∈os,q∈ps)∧∀ h',lZ h h' (ps++cks)→∀ (R':Type) (κ':(Ty.pair t u).D→List Hd→List Hd→Option R'),(it t v fun cs=>fQ h' t cs fun x r=>jW r (dw E h' ms u vs os (ks++dR cs) fun y os ks=>κ' (x,y) os ks))=κ' x ps (ks++cks):=by
     intro hk
     obtain ⟨ls,h1,h2⟩:=Hp hk
     obtain ⟨x,rest,us,h3,⟨l1,e1,e2⟩,h5⟩:=L7 h1
     obtain ⟨e,h3⟩:=Ti h3
     subst e
     simp only [List.append_nil] at e1
     subst e1
     obtain ⟨y,ps,cks,k1,k2,k3⟩:=ih u h3
     refine ⟨(x,y),ps,dR ls++cks,by rw [← List.append_assoc];exact k1,k2,fun h' hs R' κ'=>?_⟩
     rw [h2,h5 h' (hs.mono (by rw [e2];simp +contextual))]
     simp only [jW]
     rw [k3 h' (hs.mono (by simp only [List.mem_append];rintro q (h | h);exact .inl h;exact .inr (.inr h))),List.append_assoc]
    cases m with
    | rd =>
     simp only [dw] at hk
     obtain ⟨x,us,h1,h2,h3⟩:=i5 hk
     obtain ⟨y,ps,cks,k1,k2,k3⟩:=ih u h1
     exact ⟨(x.1,y),ps,cks,k1,fun q hq=>k2 q (h2 q hq),fun h' hs R' κ'=>by
      simp only [dw]
      rw [h3 h' (hs.mono fun q hq=>by simp [k2 q hq]),k3 h' hs]⟩
    | nil =>
     cases t <;> try (simp [dw] at hk)
     cases v <;> try (simp [dw] at hk)
     rename_i l
     cases l <;> simp only [dw,reduceCtorEq] at hk
     obtain ⟨y,ps,cks,k1,k2,k3⟩:=ih u hk
     exact ⟨((),y),ps,cks,k1,k2,fun h' hs R' κ'=>by simp only [dw];rw [k3 h' hs]⟩
    | lent=>simp only [dw] at hk ⊢;exact own hk
    | tk=>simp only [dw] at hk ⊢;exact own hk
    | ptr =>
     cases v <;> try (simp [dw] at hk)
     rename_i l
     cases l <;> try (simp [dw] at hk)
     rename_i q off
     cases off <;> simp only [dw,reduceCtorEq] at hk
     split at hk
     ·rename_i ls hq
      obtain ⟨x,rest,us,h1,h2,h3⟩:=vq hk
      split at h1
      ·obtain ⟨y,ps,cks,k1,k2,k3⟩:=ih u h1
       refine ⟨(x,y),ps,q :: cks,by simpa using k1,k2,fun h' hs R' κ'=>?_⟩
       simp only [dw,hs q (by simp),hq]
       rw [h3 h' (by intro p hp;cases hp)]
       simp only
       rw [k3 h' (hs.mono (by simp only [List.mem_append,List.mem_cons];rintro q (h | h);exact .inl h;exact .inr (.inr h)))]
       simp
      ·cases h1
     ·cases hk
  | _=>cases m <;> cases vs <;> simp [dw] at hk
theorem C6 {R:Type}:∀ (t:Ty) (z:t.D) (ls:List Leaf) (κ:List Leaf→List (Hd×aB)→R),rP t z ls κ=κ (rP t z ls fun r _=>r) (rP t z ls fun _ w=>w)
 | .int _,z,ls,κ=>by cases ls <;> rfl
 | .bool,z,ls,κ=>by cases ls <;> rfl
 | .hd,z,ls,κ=>by cases ls <;> rfl
 | .slice _,z,ls,κ=>by
  cases ls with
  | nil=>rfl
  | cons l ls=>cases l <;> rfl
 | .unit,z,ls,κ=>by cases ls <;> rfl
 | .pair a b,z,ls,κ=>by
  have key:∀ (R':Type) (κ':List Leaf→List (Hd×aB)→R'),rP (.pair a b) z ls κ'=κ' (rP b z.2 (rP a z.1 ls fun r _=>r) fun r _=>r) ((rP a z.1 ls fun _ w=>w)++rP b z.2 (rP a z.1 ls fun r _=>r) fun _ w=>w):=by
   intro R' κ'
   simp only [rP]
   rw [C6 a,C6 b]
  rw [key _ κ,key _ (fun r _=>r),key _ (fun _ w=>w)]
 | .fn _ _,z,ls,κ=>by cases ls <;> rfl
 | .vw _,z,ls,κ=>by cases ls <;> rfl
theorem Sl {R:Type} {r:R}:∀ (ms:List Md) (c:Ty) {vs:List AV} {z:(gz ms c).D} {κ:List (Hd×aB)→Option R},fj ms c vs z κ=some r →
  ∃ ws,κ ws=some r∧∀ (R':Type) (κ':List (Hd×aB)→Option R'),fj ms c vs z κ'=κ' ws:=by
 intro ms
 induction ms with
 | nil =>
  intro c vs z κ hk
  cases c <;> cases vs <;> simp only [fj,reduceCtorEq] at hk
  exact ⟨_,hk,fun R' κ'=>by simp only [fj]⟩
 | cons m ms ih =>
  intro c vs z κ hk
  cases c with
  | pair t u =>
   cases vs with
   | nil=>cases m <;> simp [fj] at hk
   | cons v vs =>
    cases m with
    | rd =>
     simp only [fj] at hk
     obtain ⟨ws,h1,h2⟩:=ih u hk
     exact ⟨ws,h1,fun R' κ'=>by simp only [fj];exact h2 R' κ'⟩
    | nil =>
     simp only [fj] at hk
     obtain ⟨ws,h1,h2⟩:=ih u hk
     exact ⟨ws,h1,fun R' κ'=>by simp only [fj];exact h2 R' κ'⟩
    | lent =>
     unfold fj at hk
     obtain ⟨ls,h1,h2⟩:=Hp hk
     rw [C6] at h1
     obtain ⟨ws,h3,h4⟩:=ih u h1
     exact ⟨_,h3,fun R' κ'=>by unfold fj;rw [h2,C6,h4]⟩
    | tk =>
     simp only [fj] at hk
     obtain ⟨ls,h1,h2⟩:=Hp hk
     obtain ⟨ws,h3,h4⟩:=ih u h1
     exact ⟨_,h3,fun R' κ'=>by simp only [fj];rw [h2,h4]⟩
    | ptr =>
     cases v with
     | leaf l =>
      cases l with
      | box q off =>
       unfold fj at hk
       rw [aX] at hk
       obtain ⟨ws,h3,h4⟩:=ih u hk
       exact ⟨_,h3,fun R' κ'=>by unfold fj;rw [aX,h4]⟩
      | _=>simp [fj] at hk
     | _=>simp [fj] at hk
  | _=>cases m <;> cases vs <;> simp [fj] at hk
theorem Sm {R:Type} {r:R} {E:Env} {st:St} {d:Option Nat} {ms:List Md} {one fr:Bool} {t u:Ty} {F:t.D→Option (u.D×(gz ms t).D)} {args:List AV} {κ:Dl→Option R} (h:FW E st d ms one fr t u F args κ=some r) :
  ∃ δ,κ δ=some r∧∀ st',lZ st.h st'.h δ.rd→∀ (R':Type) (κ':Dl→Option R'),FW E st' d ms one fr t u F args κ'=κ' δ:=by
 unfold FW at h
 obtain ⟨x,ps,ks,h1,h2,h3⟩:=Sk ms t h
 rw [List.nil_append] at h1 h3
 split at h1
 rotate_left
 ·cases h1
 rename_i hchk
 cases hF:F x with
 | none=>rw [hF] at h1;cases h1
 | some y =>
  rw [hF,Option.bind_some] at h1
  obtain ⟨ws,k1,k2⟩:=Sl ms t h1
  have fin:∀ {δ:Dl},δ.rd=ps++ks→κ δ=some r→(∀ (R':Type) (κ':Dl→Option R'),HA d one fr u y.1 (ps++ks) ws κ'=κ' δ) →
    ∃ δ,κ δ=some r∧∀ st',lZ st.h st'.h δ.rd→∀ (R':Type) (κ':Dl→Option R'),FW E st' d ms one fr t u F args κ'=κ' δ:=by
   intro δ hr hκ heq
   refine ⟨δ,hκ,fun st' hs R' κ'=>?_⟩
   unfold FW
   rw [h3 st'.h (by rw [← hr];exact hs)]
   rw [hchk]
   simp only
   rw [hF,Option.bind_some,k2]
   exact heq R' κ'
  cases fr with
  | false =>
   cases one with
   | true=>simp only [HA] at k1;rw [aX] at k1;exact fin rfl k1 fun R' κ'=>by simp only [HA];rw [aX]
   | false=>simp only [HA] at k1;rw [mf] at k1;exact fin rfl k1 fun R' κ'=>by simp only [HA];rw [mf]
  | true =>
   cases d with
   | none =>
    cases one with
    | true=>cases k1
    | false=>cases u <;> first | exact fin rfl k1 fun R' κ'=>rfl | cases k1
   | some d =>
    cases one with
    | true =>
     obtain ⟨ls,objs,e1,_⟩:=fS (P:=default) d u y.1 []
     simp only [HA] at k1
     rw [e1] at k1
     exact fin rfl k1 fun R' κ'=>by simp only [HA];rw [e1]
    | false =>
     obtain ⟨ts,objs,e1,_⟩:=vo (P:=default) d u y.1 []
     simp only [HA] at k1
     rw [e1] at k1
     exact fin rfl k1 fun R' κ'=>by simp only [HA];rw [e1]
theorem Sn {R:Type} {r:R} {E:Env} {st:St} {d:Option Nat} {f:Nat} {args:List AV} {κ:Dl→Option R} (h:xq E st d f args κ=some r) :
  ∃ δ,κ δ=some r∧∀ st',lZ st.h st'.h δ.rd→∀ (R':Type) (κ':Dl→Option R'),xq E st' d f args κ'=κ' δ:=by
 unfold xq at h
 split at h
 ·rename_i ms one fr t u F hg
  obtain ⟨δ,h1,h2⟩:=Sm h
  exact ⟨δ,h1,fun st' hs R' κ'=>by unfold xq;simp only [hg];exact h2 st' hs R' κ'⟩
 ·rename_i t u F hg
  obtain ⟨x,us,h1,_,h2⟩:=i5 h
  split at h1
  ·rename_i d hnh
   have:us=[]:=by cases us with | nil=>rfl | cons _ _=>simp [BK] at hnh
   subst this
   cases hF:F x with
   | none=>rw [hF] at h1;cases h1
   | some y =>
    rw [hF,Option.bind_some,aX] at h1
    exact ⟨_,h1,fun st' hs R' κ'=>by unfold xq;simp only [hg];rw [h2 st'.h (by intro q hq;cases hq)];simp only [BK];rw [hF,Option.bind_some,aX]⟩
  ·cases h1
 ·rename_i one fr a u F hg
  obtain ⟨x,os,h1,_,h2⟩:=i5 h
  cases hF:F x with
  | none=>rw [hF] at h1;cases h1
  | some y =>
   rw [hF,Option.bind_some] at h1
   split at h1
   ·split at h1
    ·rename_i hfl
     rw [aX] at h1
     exact ⟨_,h1,fun st' hs R' κ'=>by unfold xq;simp only [hg];rw [h2 st'.h hs,hF,Option.bind_some];simp only [hfl];rw [aX]⟩
    ·cases h1
   ·split at h1
    ·rename_i hfl
     rw [mf] at h1
     exact ⟨_,h1,fun st' hs R' κ'=>by unfold xq;simp only [hg];rw [h2 st'.h hs,hF,Option.bind_some];simp only [hfl];rw [mf]⟩
    ·cases h1
   ·rename_i d'
    obtain ⟨cs,objs,e1,_⟩:=fS (P:=default) d' u y []
    rw [e1] at h1
    split at h1
    ·cases h1
    ·rename_i n0 ns hn
     exact ⟨_,h1,fun st' hs R' κ'=>by unfold xq;simp only [hg];rw [h2 st'.h hs,hF,Option.bind_some];simp only [e1];rw [hn]⟩
   ·rename_i d'
    obtain ⟨cs,objs,e1,_⟩:=vo (P:=default) d' u y []
    rw [e1] at h1
    split at h1
    ·cases h1
    ·rename_i n0 ns hn
     exact ⟨_,h1,fun st' hs R' κ'=>by unfold xq;simp only [hg];rw [h2 st'.h hs,hF,Option.bind_some];simp only [e1];rw [hn]⟩
   ·cases h1
 ·cases h
theorem Q5 {R:Type} {r:R} {E:Env} {st:St} {d:Option Nat} {T T':Nat} {s x:Leaf} {κ:Dl→Option R} (h:BL E st d T T' s x κ=some r) :
  ∃ δ,κ δ=some r∧∀ st',lZ st.h st'.h δ.rd→∀ (R':Type) (κ':Dl→Option R'),BL E st' d T T' s x κ'=κ' δ:=by
 unfold BL at h
 split at h
 ·rename_i k n t te ti d hel hte hti
  split at h
  ·rename_i kn hk
   obtain ⟨z,rest,us,k1,_,k3⟩:=rW h
   split at k1
   ·split at k1
    ·rename_i h0
     split at k1
     ·rename_i hr
      exact ⟨_,k1,fun st' hs R' κ'=>by
       unfold BL;simp only [hel,hte,hti,hk]
       refine (k3 st'.h (by intro q hq;cases hq) R' _).trans ?_
       simp only [if_pos h0,if_pos hr]⟩
     ·cases k1
    ·cases k1
   ·cases k1
  ·cases h
 ·cases h
theorem NO {R:Type} {r:R} {E:Env} {st:St} {d:Option Nat} {b:Builtin} {args:List AV} {tys:List Nat} {κ:Dl→Option R} (h:eF E st d b args tys κ=some r) :
  ∃ δ,κ δ=some r∧∀ st',lZ st.h st'.h δ.rd→∀ (R':Type) (κ':Dl→Option R'),eF E st' d b args tys κ'=κ' δ:=by
 unfold eF at h
 split at h
 ·rename_i l
  split at h
  ·rename_i T tys
   split at h
   ·rename_i t hel
    split at h
    ·exact ⟨_,h,fun st' hs R' κ'=>by unfold eF;simp only [hel]⟩
    ·exact ⟨_,h,fun st' hs R' κ'=>by unfold eF;simp only [hel]⟩
    ·exact ⟨_,h,fun st' hs R' κ'=>by unfold eF;simp only [hel]⟩
    ·rename_i o
     split at h
     ·rename_i ro t' xs ho
      exact ⟨_,h,fun st' hs R' κ'=>by unfold eF;simp only [hel,hs o (by simp),ho]⟩
     ·cases h
    ·exact ⟨_,h,fun st' hs R' κ'=>by unfold eF;simp only [hel]⟩
    ·cases h
   ·cases h
  ·cases h
 ·split at h
  ·rename_i T tys
   split at h
   ·rename_i t hel
    exact ⟨_,h,fun st' hs R' κ'=>by unfold eF;simp only [hel]⟩
   ·cases h
  ·cases h
 ·split at h
  ·rename_i T T'
   split at h
   ·rename_i hT
    obtain ⟨δ,h1,h2⟩:=PE h
    exact ⟨δ,h1,fun st' hs R' κ'=>by unfold eF;simp only [hT];rw [h2 st' hs]⟩
   ·rename_i hT
    obtain ⟨δ,h1,h2⟩:=Q5 h
    exact ⟨δ,h1,fun st' hs R' κ'=>by unfold eF;simp only [hT];rw [h2 st' hs]⟩
  ·cases h
 ·rename_i o n lo hi
  split at h
  ·rename_i T
   split at h
   ·rename_i t te t' xs hel hte ho
    obtain ⟨y,h1,h2⟩:=gD (t':=.slice t) h
    obtain ⟨z,rest,us,k1,_,k3⟩:=rW h1
    split at k1
    ·rename_i hf hn _
     exact ⟨_,k1,fun st' hs R' κ'=>by
      unfold eF;simp only [hel,hte,hs o (by simp),ho]
      refine (h2 R' _).trans ?_
      refine (k3 st'.h (by intro q hq;cases hq) R' _).trans ?_
      simp only [hf,hn]⟩
    ·cases k1
   ·cases h
  ·cases h
 ·exact ⟨_,h,fun st' hs R' κ'=>by unfold eF;rfl⟩
 ·exact ⟨_,h,fun st' hs R' κ'=>by unfold eF;rfl⟩
 ·cases h
end Go.Abs
