/- Part of a proof of FnGames: see the row. -/
import Derived.Test.YtenadnbpibhmiaaGreatGmAbsFrm
set_option linter.unusedVariables false
set_option linter.unusedSimpArgs false
namespace Go.Abs
open Go.RowKit
def Pm (o:Oper) (st st':St):Prop:=∀ x∈jo o.op,val st' x=val st x
theorem Aj {R:Type} {r:R} {v:AV} {κ:List Leaf→Option R} (h:wt v κ=some r):∃ ls,κ ls=some r∧∀ (R':Type) (κ':List Leaf→Option R'),wt v κ'=κ' ls:=by
 unfold wt at h
 split at h
 ·exact ⟨_,h,fun R' κ'=>rfl⟩
 ·exact ⟨_,h,fun R' κ'=>rfl⟩
 ·cases h
theorem CX {R:Type} {r:R} {n:Nat} {l:List Leaf} {κ:List Leaf→Option R} (h:nY n l κ=some r):∃ x,κ x=some r∧∀ (R':Type) (κ':List Leaf→Option R'),nY n l κ'=κ' x:=by
 induction n generalizing l κ with
 | zero=>exact ⟨_,by simpa [nY] using h,fun R' κ'=>by simp only [nY]⟩
 | succ n ih=>cases l with
  | nil=>simp [nY] at h
  | cons a l =>
   simp only [nY] at h
   obtain ⟨x,h1,h2⟩:=ih h
   exact ⟨a :: x,h1,fun R' κ'=>by simp only [nY];exact h2 R' fun r'=>κ' (a :: r')⟩
theorem CY {R:Type} {r:R}:∀ {n:Nat} {cs l:List Leaf} {κ:List Leaf→Option R},lU n cs l κ=some r→∃ x,κ x=some r∧∀ (R':Type) (κ':List Leaf→Option R'),lU n cs l κ'=κ' x
 | 0,[],l,κ,h=>⟨l,by simpa [lU] using h,fun R' κ'=>by simp only [lU]⟩
 | 0,_ :: _,[],κ,h=>by simp [lU] at h
 | 0,c :: cs,_ :: l,κ,h=>by
  simp only [lU] at h
  obtain ⟨x,h1,h2⟩:=CY h
  exact ⟨c :: x,h1,fun R' κ'=>by simp only [lU];exact h2 R' fun r'=>κ' (c :: r')⟩
 | n + 1,cs,[],κ,h=>by simp [lU] at h
 | n + 1,cs,a :: l,κ,h=>by
  simp only [lU] at h
  obtain ⟨x,h1,h2⟩:=CY h
  exact ⟨a :: x,h1,fun R' κ'=>by simp only [lU];exact h2 R' fun r'=>κ' (a :: r')⟩
theorem Ak {R:Type} {r:R} {k:TK} {cs:List Leaf} {κ:AV→Option R} (h:lF k cs κ=some r):∃ x,κ x=some r∧∀ (R':Type) (κ':AV→Option R'),lF k cs κ'=κ' x:=by
 unfold lF at h
 split at h
 ·exact ⟨_,h,fun R' κ'=>rfl⟩
 ·split at h
  ·rename_i hk _ l
   exact ⟨_,h,fun R' κ'=>by unfold lF;cases k <;> first | rfl | exact absurd rfl (hk _)⟩
  ·cases h
theorem Sg {α R:Type} {r:R} {xs:List α} {i:Int} {κ:α→Option R} (h:idx xs i κ=some r):∃ x,κ x=some r∧∀ (R':Type) (κ':α→Option R'),idx xs i κ'=κ' x:=by
 unfold idx at h
 split at h
 ·rename_i h0
  cases hx:xs[i.toNat]? with
  | none=>rw [hx] at h;cases h
  | some x=>rw [hx] at h;exact ⟨x,h,fun R' κ'=>by unfold idx;rw [if_pos h0,hx];rfl⟩
 ·cases h
theorem LL {R:Type} {r:R}:∀ {t:Ty} {x:t.D} {n:Nat} {l:Leaf} {κ:t.D→Option R},jl t x n l κ=some r→∃ y,κ y=some r∧∀ (R':Type) (κ':t.D→Option R'),jl t x n l κ'=κ' y
 | .int k,x,n,l,κ,h=>by
  cases n with
  | zero =>
   cases l <;> simp only [jl,reduceCtorEq] at h
   split at h
   ·rename_i e;exact ⟨_,h,fun R' κ'=>by simp only [jl];rw [if_pos e]⟩
   ·cases h
  | succ n=>simp [jl] at h
 | .bool,x,n,l,κ,h=>by
  cases n with
  | zero =>
   cases l <;> simp only [jl,reduceCtorEq] at h
   exact ⟨_,h,fun R' κ'=>by simp only [jl]⟩
  | succ n=>simp [jl] at h
 | .hd,x,n,l,κ,h=>by
  cases n with
  | zero =>
   cases l <;> simp only [jl,reduceCtorEq] at h
   exact ⟨_,h,fun R' κ'=>by simp only [jl]⟩
  | succ n=>simp [jl] at h
 | .slice _,x,n,l,κ,h=>by simp [jl] at h
 | .unit,x,n,l,κ,h=>by simp [jl] at h
 | .fn _ _,x,n,l,κ,h=>by simp [jl] at h
 | .pair a b,x,n,l,κ,h=>by
  simp only [jl] at h
  split at h
  ·rename_i hb
   obtain ⟨y,h1,h2⟩:=LL (t:=b) h
   exact ⟨(x.1,y),h1,fun R' κ'=>by simp only [jl,hb];exact h2 R' fun y=>κ' (x.1,y)⟩
  ·rename_i hb
   obtain ⟨y,h1,h2⟩:=LL (t:=a) h
   exact ⟨(y,x.2),h1,fun R' κ'=>by simp only [jl,hb];exact h2 R' fun y=>κ' (y,x.2)⟩
theorem Np {R:Type} {r:R} {t:Ty}:∀ {ls:List Leaf} {x:t.D} {n:Nat} {κ:t.D→Option R},Fs t x n ls κ=some r→∃ y,κ y=some r∧∀ (R':Type) (κ':t.D→Option R'),Fs t x n ls κ'=κ' y
 | [],x,n,κ,h=>⟨x,h,fun R' κ'=>rfl⟩
 | l :: ls,x,n,κ,h=>by
  unfold Fs at h
  obtain ⟨y,h1,h2⟩:=LL h
  obtain ⟨z,k1,k2⟩:=Np h1
  exact ⟨z,k1,fun R' κ'=>by unfold Fs;rw [h2 R' _];exact k2 R' κ'⟩
theorem Nq {R:Type} {r:R} {T:Tab} {fs:List (Nat×Nat)} {st:St}:∀ {parts:List (Nat×Operand)} {cs:List Leaf} {κ:List Leaf→Option R},CH T fs st parts cs κ=some r →
  ∃ x,κ x=some r∧∀ st',(∀ x∈parts.map (·.2),val st' x=val st x)→∀ (R':Type) (κ':List Leaf→Option R'),CH T fs st' parts cs κ'=κ' x
 | [],cs,κ,h=>⟨cs,h,fun st' _ R' κ'=>rfl⟩
 | (i,x) :: parts,cs,κ,h=>by
  unfold CH at h
  split at h
  ·rename_i off t hf
   split at h
   ·rename_i te hte
    obtain ⟨ls,h1,h2⟩:=Aj h
    split at h1
    ·rename_i hn
     obtain ⟨y,h3,h4⟩:=CY h1
     obtain ⟨z,h5,h6⟩:=Nq h3
     refine ⟨z,h5,fun st' hs R' κ'=>?_⟩
     unfold CH
     simp only [hf,hte,hs x (by simp)]
     rw [h2]
     simp only [hn]
     rw [h4]
     exact h6 st' (fun x hx=>hs x (by simp at hx ⊢;right;exact hx)) R' κ'
    ·cases h1
   ·cases h
  ·cases h
theorem KV {R:Type} {r:R} {t:Ty} {st:St}:∀ {parts:List (Nat×Operand)} {i n:Nat} {ws:List (Hd×aC)} {κ:List t.D→List (Hd×aC)→Option R},qH t st parts i n ws κ=some r →
  ∃ x us,κ x us=some r∧(∀ q∈aw ws,q∈aw us)∧∀ st',(∀ x∈parts.map (·.2),val st' x=val st x)→mj st.h st'.h (aw us)→∀ (R':Type) (κ':List t.D→List (Hd×aC)→Option R'),qH t st' parts i n ws κ'=κ' x us
 | [],i,n,ws,κ,h=>by
  unfold qH at h
  split at h
  ·rename_i hb;exact ⟨[],ws,h,fun _ h=>h,fun st' _ _ R' κ'=>by unfold qH;rw [hb]⟩
  ·cases h
 | (j,x) :: parts,i,n,ws,κ,h=>by
  unfold qH at h
  split at h
  ·rename_i hb
   obtain ⟨ls,h1,h2⟩:=Aj h
   obtain ⟨y,rest,us,h3,h4,h5⟩:=sw h1
   split at h3
   ·obtain ⟨z,us2,k1,k2,k3⟩:=KV h3
    refine ⟨y :: z,us2,k1,fun q hq=>k2 q (h4 q hq),fun st' hs hsm R' κ'=>?_⟩
    unfold qH
    simp only [hb,hs x (by simp)]
    rw [h2,h5 st'.h (hsm.mono k2)]
    exact k3 st' (fun x hx=>hs x (by simp at hx ⊢;right;exact hx)) hsm R' fun xs ws=>κ' (y :: xs) ws
   ·cases h3
  ·cases h
theorem KW {R:Type} {r:R} {t:Ty} {st:St}:∀ {parts:List (Nat×Operand)} {i n:Nat} {κ:List t.D→Option R},qI t st parts i n κ=some r →
  ∃ xs,κ xs=some r∧∀ st',(∀ x∈parts.map (·.2),val st' x=val st x)→∀ (R':Type) (κ':List t.D→Option R'),qI t st' parts i n κ'=κ' xs
 | [],i,n,κ,h=>by
  unfold qI at h
  split at h
  ·rename_i e;exact ⟨[],h,fun st' _ R' κ'=>by unfold qI;simp only [e]⟩
  ·cases h
 | (j,x) :: parts,i,n,κ,h=>by
  unfold qI at h
  split at h
  ·rename_i e
   obtain ⟨ls,h1,h2⟩:=Aj h
   obtain ⟨y,rest,us,k1,_,k3⟩:=vM h1
   split at k1
   ·obtain ⟨xs,m1,m2⟩:=KW k1
    exact ⟨y :: xs,m1,fun st' hs R' κ'=>by
     unfold qI
     simp only [e]
     rw [hs x (by simp),h2,k3 st'.h (by intro q hq;cases hq)]
     simp only
     exact m2 st' (fun z hz=>hs z (by simp only [List.map_cons,List.mem_cons];exact .inr hz)) R' fun xs=>κ' (y :: xs)⟩
   ·cases k1
  ·cases h
theorem Nr {R:Type} {r:R} {st:St}:∀ {xs:List Operand} {κ:List Hd→Option R},eo.capsK st xs κ=some r→∃ x,κ x=some r∧∀ st',(∀ x∈xs,val st' x=val st x)→∀ (R':Type) (κ':List Hd→Option R'),eo.capsK st' xs κ'=κ' x
 | [],κ,h=>⟨[],h,fun st' _ R' κ'=>rfl⟩
 | x :: xs,κ,h=>by
  unfold eo.capsK at h
  split at h
  ·rename_i o hx
   obtain ⟨y,h1,h2⟩:=Nr h
   exact ⟨o :: y,h1,fun st' hs R' κ'=>by
    unfold eo.capsK
    rw [hs x (by simp),hx]
    exact h2 st' (fun x hx=>hs x (by simp [hx])) R' fun cs=>κ' (o :: cs)⟩
  ·cases h
def Frm (E:Env) (o:Oper) (st:St) (δ:Dl):Prop:=∀ st',Pm o st st'→mj st.h st'.h δ.rd→∀ (R':Type) (κ':Dl→Option R'),eo E o st' κ'=κ' δ
theorem Sh {R:Type} {r:R} {st:St} {ti:TI} {p:AV} {κ:Dl→Option R} (h:CE st ti p κ=some r) :
  ∃ δ,κ δ=some r∧∀ st',mj st.h st'.h δ.rd→∀ (R':Type) (κ':Dl→Option R'),CE st' ti p κ'=κ' δ:=by
 unfold CE at h
 split at h
 ·rename_i o off
  split at h
  ·rename_i ro cs ho
   obtain ⟨x,h1,h2⟩:=CX h
   obtain ⟨v,h3,h4⟩:=Ak h1
   exact ⟨_,h3,fun st' hs R' κ'=>by unfold CE;simp only [hs o (by simp),ho];rw [h2,h4]⟩
  ·cases h
 ·rename_i t x off
  rw [ba] at h
  obtain ⟨y,h1,h2⟩:=CX h
  obtain ⟨v,h3,h4⟩:=Ak h1
  exact ⟨_,h3,fun st' hs R' κ'=>by unfold CE;simp only;rw [ba,h2,h4]⟩
 ·rename_i o n i off
  split at h
  ·rename_i ro t xs ho
   cases hx:xs[i]? with
   | none=>rw [hx] at h;cases h
   | some x =>
    rw [hx,Option.bind_some,ba] at h
    obtain ⟨y,h1,h2⟩:=CX h
    split at h1
    ·rename_i hf hn
     obtain ⟨v,h3,h4⟩:=Ak h1
     exact ⟨_,h3,fun st' hs R' κ'=>by unfold CE;simp only [hs o (by simp),ho,hx,Option.bind_some];rw [ba,h2];simp only [hf,hn];rw [h4]⟩
    ·cases h1
  ·cases h
 ·cases h
theorem QR {R:Type} {r:R} {st:St} {p:AV} {v:List Leaf} {κ:Dl→Option R} (h:wu st p v κ=some r) :
  ∃ δ,κ δ=some r∧∀ st',mj st.h st'.h δ.rd→∀ (R':Type) (κ':Dl→Option R'),wu st' p v κ'=κ' δ:=by
 unfold wu at h
 split at h
 ·rename_i o off
  split at h
  ·rename_i cs ho
   obtain ⟨x,h1,h2⟩:=CY h
   exact ⟨_,h1,fun st' hs R' κ'=>by unfold wu;simp only [hs o (by simp),ho];rw [h2]⟩
  ·cases h
 ·rename_i o n i off
  split at h
  ·rename_i t xs ho hn
   have hn:Nat.beq n t.n=true:=by rw [ho] at hn;exact hn
   cases hx:xs[i]? with
   | none=>rw [hx] at h;cases h
   | some x =>
    rw [hx,Option.bind_some] at h
    split at h
    ·rename_i hl
     obtain ⟨y,rest,us,h1,h2,h3⟩:=sw h
     split at h1
     ·rename_i hh
      exact ⟨_,h1,fun st' hs R' κ'=>by
       unfold wu
       simp only [hs o (by simp),ho,hn,hx,Option.bind_some,hl]
       rw [h3 st'.h (hs.mono (by simp +contextual))]
       simp only [hh]⟩
     ·cases h1
    ·rename_i l v0 hnz hl
     obtain ⟨y,h1,h2⟩:=Np h
     exact ⟨_,h1,fun st' hs R' κ'=>by
      unfold wu
      simp only [hs o (by simp),ho,hn,hx,Option.bind_some,hl]
      rw [h2]⟩
    ·cases h
  ·cases h
 ·cases h
theorem Hj {R:Type} {r:R} {st:St} {d:Nat} {t:Ty} {x:Leaf} {xs:List t.D} {ws:List (Hd×aC)} {κ:Dl→Option R} (h:vG st d t x xs ws κ=some r) :
  ∃ δ,κ δ=some r∧(∀ q∈aw ws,q∈δ.rd)∧∀ st',mj st.h st'.h δ.rd→∀ (R':Type) (κ':Dl→Option R'),vG st' d t x xs ws κ'=κ' δ:=by
 unfold vG at h
 split at h
 ·rename_i hf
  obtain ⟨ys,us,h1,h2⟩:=EE h
  split at h1
  ·rename_i hr
   exact ⟨_,h1,fun q hq=>by simp [hq],fun st' hs R' κ'=>by
    unfold vG;simp only [hf];rw [h2 st'.h (hs.mono (by simp +contextual)),if_pos hr]⟩
  ·cases h1
 ·rename_i hf
  split at h
  ·rename_i hc
   obtain ⟨ys,h1,h2⟩:=ED h
   split at h1
   ·rename_i hr
    exact ⟨_,h1,fun q hq=>hq,fun st' hs R' κ'=>by
     unfold vG;simp only [hf,hc];rw [h2,if_pos hr]⟩
   ·cases h1
  ·rename_i hc
   obtain ⟨ys,us,h1,h0,h2⟩:=KU h
   split at h1
   ·rename_i hr
    exact ⟨_,h1,h0,fun st' hs R' κ'=>by
     unfold vG;simp only [hf,hc];rw [h2 st'.h hs,if_pos hr]⟩
   ·cases h1
theorem Pn {R:Type} {r:R} {E:Env} {st:St} {d:Option Nat} {T:Nat} {s x:Leaf} {κ:Dl→Option R} (h:pt E st d T s x κ=some r) :
  ∃ δ,κ δ=some r∧∀ st',mj st.h st'.h δ.rd→∀ (R':Type) (κ':Dl→Option R'),pt E st' d T s x κ'=κ' δ:=by
 unfold pt at h
 split at h
 ·rename_i t d hel
  split at h
  ·obtain ⟨δ,h1,_,h2⟩:=Hj h
   exact ⟨δ,h1,fun st' hs R' κ'=>by unfold pt;simp only [hel];rw [h2 st' hs]⟩
  ·rename_i o
   split at h
   ·rename_i t' xs ho
    obtain ⟨y,h1,h2⟩:=gQ (t':=.slice t) h
    obtain ⟨δ,h3,h4,h5⟩:=Hj h1
    exact ⟨δ,h3,fun st' hs R' κ'=>by unfold pt;simp only [hel,hs o (h4 o (by simp [aw])),ho];rw [h2 R' fun xs=>vG st' d t x xs [(o,.dead)] κ',h5 st' hs]⟩
   ·cases h
  ·rename_i o n hi
   split at h
   ·rename_i t' xs ho
    obtain ⟨y,h1,h2⟩:=gQ (t':=.slice t) h
    split at h1
    ·rename_i l u hsp hfn
     split at h1
     ·rename_i hlu
      split at h1
      ·rename_i hfit
       exact ⟨_,h1,fun st' hs R' κ'=>by
        unfold pt;simp only [hel,hs o (by simp),ho]
        refine (h2 R' _).trans ?_
        simp only [hsp,hfn]
        rw [if_pos hlu,if_pos hfit]⟩
      ·cases h1
     ·cases h1
    ·cases h1
    ·rename_i hsp
     obtain ⟨δ,h3,h4,h5⟩:=Hj h1
     exact ⟨δ,h3,fun st' hs R' κ'=>by
      unfold pt;simp only [hel,hs o (h4 o (by simp [aw])),ho]
      refine (h2 R' _).trans ?_
      simp only [hsp]
      exact h5 st' hs R' κ'⟩
   ·cases h
  ·cases h
 ·cases h
theorem rq {R:Type} {r:R} {v:Option AV} {d:Int} {κ:Int→Option R} (h:tV v d κ=some r):∃ n,κ n=some r∧∀ (R':Type) (κ':Int→Option R'),tV v d κ'=κ' n:=by
 unfold tV at h
 split at h
 ·exact ⟨_,h,fun R' κ'=>rfl⟩
 ·exact ⟨_,h,fun R' κ'=>rfl⟩
 ·cases h
theorem CZ {R:Type} {r:R} {l h:Int} {n:Nat} {κ:Nat→Nat→Option R} (hk:CJ l h n κ=some r):κ l.toNat h.toNat=some r∧∀ (R':Type) (κ':Nat→Nat→Option R'),CJ l h n κ'=κ' l.toNat h.toNat:=by
 obtain ⟨h1,h2,h3,h4⟩:=rW hk
 exact ⟨h4,fun R' κ'=>by unfold CJ;rw [if_pos h1,if_pos h2,if_pos h3]⟩
theorem Si {R:Type} {r:R} {E:Env} {st:St} {d:Option Nat} {T:Nat} {x y:Operand} {κ:Dl→Option R} (h:G5 E st d T x y κ=some r) :
  ∃ δ,κ δ=some r∧∀ st',val st' x=val st x→∀ (R':Type) (κ':Dl→Option R'),G5 E st' d T x y κ'=κ' δ:=by
 unfold G5 at h
 split at h
 ·rename_i t te d k n hel hte hxy hx
  obtain ⟨z,rest,us,h1,h2,h3⟩:=sw h
  split at h1
  ·split at h1
   ·rename_i h0
    split at h1
    ·rename_i hr
     exact ⟨_,h1,fun st' hs R' κ'=>by unfold G5;rw [hs];simp only [hel,hte,hxy,hx];rw [h3 st'.h (by intro q hq;cases hq)];simp only;rw [if_pos h0,if_pos hr]⟩
    ·cases h1
   ·cases h1
  ·cases h1
 ·cases h
theorem Ns {R:Type} {r:R} {E:Env} {st:St} {T:Nat} {x:AV} {lo hi mx:Option AV} {κ:Dl→Option R} (h:jn E st T x lo hi mx κ=some r) :
  ∃ δ,κ δ=some r∧∀ st',mj st.h st'.h δ.rd→∀ (R':Type) (κ':Dl→Option R'),jn E st' T x lo hi mx κ'=κ' δ:=by
 unfold jn at h
 split at h
 ·rename_i t hel
  split at h
  ·obtain ⟨l,h1,h2⟩:=rq h
   obtain ⟨u,h3,h4⟩:=rq h1
   obtain ⟨h5,h6⟩:=CZ h3
   exact ⟨_,h5,fun st' hs R' κ'=>by unfold jn;simp only [hel];rw [h2,h4,h6]⟩
  ·cases h
 ·rename_i t t' xs hel
  split at h
  ·obtain ⟨y,h7,h8⟩:=gQ (t':=.slice t) h
   obtain ⟨l,h1,h2⟩:=rq h7
   obtain ⟨u,h3,h4⟩:=rq h1
   obtain ⟨h5,h6⟩:=CZ h3
   exact ⟨_,h5,fun st' hs R' κ'=>by
    unfold jn;simp only [hel]
    rw [h8 R' fun xs=>tV lo 0 fun l=>tV hi xs.length fun h=>CJ l h xs.length fun l h=>κ' { v:=.leaf (.view t ((xs.take h).drop l)) },h2,h4,h6]⟩
  ·cases h
 ·rename_i t o hel
  split at h
  ·rename_i ro t' xs ho
   obtain ⟨y,h7,h8⟩:=gQ (t':=.slice t) h
   obtain ⟨l,h1,h2⟩:=rq h7
   obtain ⟨u,h3,h4⟩:=rq h1
   split at h3
   ·obtain ⟨h5,h6⟩:=CZ h3
    exact ⟨_,h5,fun st' hs R' κ'=>by
     unfold jn;simp only [hel,hs o (by simp),ho]
     rw [h8 R' fun xs=>tV lo 0 fun l=>tV hi xs.length fun h=>CJ l h xs.length fun l h=>κ' { v:=.leaf (.part o t.n l h),rd:=[o] },h2,h4,h6]⟩
   ·rename_i m
    split at h3
    ·obtain ⟨mm,k1,k2⟩:=rq h3
     obtain ⟨h5,h6⟩:=CZ k1
     split at h5
     ·rename_i g1
      split at h5
      ·rename_i g2
       exact ⟨_,h5,fun st' hs R' κ'=>by
        unfold jn;simp only [hel,hs o (by simp),ho]
        rw [h8 R' fun xs=>tV lo 0 fun l=>tV (some _) xs.length fun h=>tV (some m) 0 fun m=>CJ l h xs.length fun _ _=>if h≤m then (if m≤xs.length then κ' { v:=.any,rd:=[o] } else none) else none,h2,h4,k2,h6,if_pos g1,if_pos g2]⟩
      ·cases h5
     ·cases h5
    ·cases h3
  ·cases h
 ·rename_i t o n hi0 hel
  split at h
  ·rename_i ro t' xs ho
   obtain ⟨y,h7,h8⟩:=gQ (t':=.slice t) h
   split at h7
   ·rename_i hn
    obtain ⟨l,h1,h2⟩:=rq h7
    obtain ⟨u,h3,h4⟩:=rq h1
    obtain ⟨h5,h6⟩:=CZ h3
    exact ⟨_,h5,fun st' hs R' κ'=>by
     unfold jn;simp only [hel,hs o (by simp),ho]
     refine (h8 R' _).trans ?_
     simp only [hn]
     rw [h2,h4,h6]⟩
   ·cases h7
  ·cases h
 ·cases h
theorem KX {R:Type} {r:R} {E:Env} {op:BinOp} {t:Nat} {b:Bool} {κ:Dl→Option R} (h:ww E op t b κ=some r):∃ δ,κ δ=some r∧∀ (R':Type) (κ':Dl→Option R'),ww E op t b κ'=κ' δ:=by
 unfold ww at h
 split at h
 ·rename_i hel;exact ⟨_,h,fun R' κ'=>by unfold ww;simp only [hel]⟩
 ·rename_i hel;exact ⟨_,h,fun R' κ'=>by unfold ww;simp only [hel]⟩
 ·cases h
theorem LM {R:Type} {r:R} {h:jt}:∀ {t:Ty} {ls:List Leaf} {κ:t.D→List Leaf→Option R},gg h t ls κ=some r →
  ∃ x rest us,κ x rest=some r∧(∃ l1,ls=l1++rest∧us=em l1)∧∀ h',mj h h' us→∀ (R':Type) (κ':t.D→List Leaf→Option R'),gg h' t ls κ'=κ' x rest
 | .int k,ls,κ,hk=>by
  cases ls with
  | nil=>simp [gg] at hk
  | cons l ls =>
   cases l <;> simp only [gg,reduceCtorEq] at hk
   split at hk
   ·rename_i e
    exact ⟨_,ls,[],hk,⟨[.int _ _],rfl,rfl⟩,fun h' _ R' κ'=>by simp only [gg];rw [if_pos e]⟩
   ·cases hk
 | .bool,ls,κ,hk=>by
  cases ls with
  | nil=>simp [gg] at hk
  | cons l ls =>
   cases l <;> simp only [gg,reduceCtorEq] at hk
   exact ⟨_,ls,[],hk,⟨[.bool _],rfl,rfl⟩,fun h' _ R' κ'=>by simp only [gg]⟩
 | .hd,ls,κ,hk=>by
  cases ls with
  | nil=>simp [gg] at hk
  | cons l ls =>
   cases l <;> simp only [gg,reduceCtorEq] at hk
   exact ⟨_,ls,[],hk,⟨[.hd _],rfl,rfl⟩,fun h' _ R' κ'=>by simp only [gg]⟩
 | .slice t,ls,κ,hk=>by
  cases ls with
  | nil=>simp [gg] at hk
  | cons l ls =>
   cases l <;> simp only [gg,reduceCtorEq] at hk
   ·exact ⟨_,ls,[],hk,⟨[.nil],rfl,rfl⟩,fun h' _ R' κ'=>by simp only [gg]⟩
   ·rename_i o
    split at hk
    ·rename_i t' xs ho
     obtain ⟨y,h1,h2⟩:=gQ (t':=.slice t) hk
     exact ⟨y,ls,[o],h1,⟨[.own o],rfl,rfl⟩,fun h' hs R' κ'=>by simp only [gg,hs o (by simp),ho];exact h2 R' fun x=>κ' x ls⟩
    ·cases hk
 | .unit,ls,κ,hk=>by
  simp only [gg] at hk
  exact ⟨(),ls,[],hk,⟨[],rfl,rfl⟩,fun h' _ R' κ'=>by simp only [gg]⟩
 | .pair a b,ls,κ,hk=>by
  simp only [gg] at hk
  obtain ⟨x,r1,us,h1,⟨l1,e1,e2⟩,h3⟩:=LM (t:=a) hk
  obtain ⟨y,r2,us2,k1,⟨l2,e3,e4⟩,k3⟩:=LM (t:=b) h1
  exact ⟨(x,y),r2,us++us2,k1,⟨l1++l2,by rw [e1,e3,List.append_assoc],by rw [e2,e4,pv]⟩,fun h' hs R' κ'=>by
   simp only [gg]
   rw [h3 h' (hs.mono (by simp +contextual)) R' _,k3 h' (hs.mono (by simp +contextual)) R' _]⟩
 | .fn a b,ls,κ,hk=>by cases ls <;> simp [gg] at hk
 | .vw t,ls,κ,hk=>by
  cases ls with
  | nil=>simp [gg] at hk
  | cons l ls =>
   simp only [gg] at hk
   have hl:em [l]=[]:=by
    unfold qF at hk
    split at hk <;> first | rfl | (cases hk)
   obtain ⟨y,h1,h2⟩:=ED hk
   exact ⟨y,ls,[],h1,⟨[l],rfl,hl.symm⟩,fun h' hs R' κ'=>by simp only [gg];exact h2 R' fun x=>κ' x ls⟩
theorem Tl {α R:Type} {r:R} {l:List α} {k:Option R} (h:kw l k=some r):l=[]∧k=some r:=by
 unfold kw at h
 split at h
 ·exact ⟨rfl,h⟩
 ·cases h
theorem Sj {R:Type} {r:R} {E:Env} {h:jt}:∀ (ms:List Md) (c:Ty) {vs:List AV} {os ks:List Hd} {κ:c.D→List Hd→List Hd→Option R},dI E h ms c vs os ks κ=some r →
  ∃ x ps cks,κ x ps (ks++cks)=some r∧(∀ q∈os,q∈ps)∧∀ h',mj h h' (ps++cks)→∀ (R':Type) (κ':c.D→List Hd→List Hd→Option R'),dI E h' ms c vs os ks κ'=κ' x ps (ks++cks):=by
 intro ms
 induction ms with
 | nil =>
  intro c vs os ks κ hk
  cases c <;> cases vs <;> simp only [dI,reduceCtorEq] at hk
  exact ⟨(),os,[],by simpa using hk,fun _ h=>h,fun h' _ R' κ'=>by simp only [dI,List.append_nil]⟩
 | cons m ms ih =>
  intro c vs os ks κ hk
  cases c with
  | pair t u =>
   cases vs with
   | nil=>cases m <;> simp [dI] at hk
   | cons v vs =>
    have own:(iO t v fun cs=>gg h t cs fun x r=>kw r (dI E h ms u vs os (ks++em cs) fun y os ks=>κ (x,y) os ks))=some r →
      ∃ x ps cks,κ x ps (ks++cks)=some r∧(∀ q∈os,q∈ps)∧∀ h',mj h h' (ps++cks)→∀ (R':Type) (κ':(Ty.pair t u).D→List Hd→List Hd→Option R'),(iO t v fun cs=>gg h' t cs fun x r=>kw r (dI E h' ms u vs os (ks++em cs) fun y os ks=>κ' (x,y) os ks))=κ' x ps (ks++cks):=by
     intro hk
     obtain ⟨ls,h1,h2⟩:=GR hk
     obtain ⟨x,rest,us,h3,⟨l1,e1,e2⟩,h5⟩:=LM h1
     obtain ⟨e,h3⟩:=Tl h3
     subst e
     simp only [List.append_nil] at e1
     subst e1
     obtain ⟨y,ps,cks,k1,k2,k3⟩:=ih u h3
     refine ⟨(x,y),ps,em ls++cks,by rw [← List.append_assoc];exact k1,k2,fun h' hs R' κ'=>?_⟩
     rw [h2,h5 h' (hs.mono (by rw [e2];simp +contextual))]
     simp only [kw]
     rw [k3 h' (hs.mono (by simp only [List.mem_append];rintro q (h | h);exact .inl h;exact .inr (.inr h))),List.append_assoc]
    cases m with
    | rd =>
     simp only [dI] at hk
     obtain ⟨x,us,h1,h2,h3⟩:=ju hk
     obtain ⟨y,ps,cks,k1,k2,k3⟩:=ih u h1
     exact ⟨(x.1,y),ps,cks,k1,fun q hq=>k2 q (h2 q hq),fun h' hs R' κ'=>by
      simp only [dI]
      rw [h3 h' (hs.mono fun q hq=>by simp [k2 q hq]),k3 h' hs]⟩
    | nil =>
     cases t <;> try (simp [dI] at hk)
     cases v <;> try (simp [dI] at hk)
     rename_i l
     cases l <;> simp only [dI,reduceCtorEq] at hk
     obtain ⟨y,ps,cks,k1,k2,k3⟩:=ih u hk
     exact ⟨((),y),ps,cks,k1,k2,fun h' hs R' κ'=>by simp only [dI];rw [k3 h' hs]⟩
    | lent=>simp only [dI] at hk ⊢;exact own hk
    | tk=>simp only [dI] at hk ⊢;exact own hk
    | ptr =>
     cases v <;> try (simp [dI] at hk)
     rename_i l
     cases l <;> try (simp [dI] at hk)
     rename_i q off
     cases off <;> simp only [dI,reduceCtorEq] at hk
     split at hk
     ·rename_i ls hq
      obtain ⟨x,rest,us,h1,h2,h3⟩:=vM hk
      split at h1
      ·obtain ⟨y,ps,cks,k1,k2,k3⟩:=ih u h1
       refine ⟨(x,y),ps,q :: cks,by simpa using k1,k2,fun h' hs R' κ'=>?_⟩
       simp only [dI,hs q (by simp),hq]
       rw [h3 h' (by intro p hp;cases hp)]
       simp only
       rw [k3 h' (hs.mono (by simp only [List.mem_append,List.mem_cons];rintro q (h | h);exact .inl h;exact .inr (.inr h)))]
       simp
      ·cases h1
     ·cases hk
  | _=>cases m <;> cases vs <;> simp [dI] at hk
theorem C0 {R:Type}:∀ (t:Ty) (z:t.D) (ls:List Leaf) (κ:List Leaf→List (Hd×aC)→R),sj t z ls κ=κ (sj t z ls fun r _=>r) (sj t z ls fun _ w=>w)
 | .int _,z,ls,κ=>by cases ls <;> rfl
 | .bool,z,ls,κ=>by cases ls <;> rfl
 | .hd,z,ls,κ=>by cases ls <;> rfl
 | .slice _,z,ls,κ=>by
  cases ls with
  | nil=>rfl
  | cons l ls=>cases l <;> rfl
 | .unit,z,ls,κ=>by cases ls <;> rfl
 | .pair a b,z,ls,κ=>by
  have key:∀ (R':Type) (κ':List Leaf→List (Hd×aC)→R'),sj (.pair a b) z ls κ'=κ' (sj b z.2 (sj a z.1 ls fun r _=>r) fun r _=>r) ((sj a z.1 ls fun _ w=>w)++sj b z.2 (sj a z.1 ls fun r _=>r) fun _ w=>w):=by
   intro R' κ'
   simp only [sj]
   rw [C0 a,C0 b]
  rw [key _ κ,key _ (fun r _=>r),key _ (fun _ w=>w)]
 | .fn _ _,z,ls,κ=>by cases ls <;> rfl
 | .vw _,z,ls,κ=>by cases ls <;> rfl
theorem Sk {R:Type} {r:R}:∀ (ms:List Md) (c:Ty) {vs:List AV} {z:(gM ms c).D} {κ:List (Hd×aC)→Option R},fJ ms c vs z κ=some r →
  ∃ ws,κ ws=some r∧∀ (R':Type) (κ':List (Hd×aC)→Option R'),fJ ms c vs z κ'=κ' ws:=by
 intro ms
 induction ms with
 | nil =>
  intro c vs z κ hk
  cases c <;> cases vs <;> simp only [fJ,reduceCtorEq] at hk
  exact ⟨_,hk,fun R' κ'=>by simp only [fJ]⟩
 | cons m ms ih =>
  intro c vs z κ hk
  cases c with
  | pair t u =>
   cases vs with
   | nil=>cases m <;> simp [fJ] at hk
   | cons v vs =>
    cases m with
    | rd =>
     simp only [fJ] at hk
     obtain ⟨ws,h1,h2⟩:=ih u hk
     exact ⟨ws,h1,fun R' κ'=>by simp only [fJ];exact h2 R' κ'⟩
    | nil =>
     simp only [fJ] at hk
     obtain ⟨ws,h1,h2⟩:=ih u hk
     exact ⟨ws,h1,fun R' κ'=>by simp only [fJ];exact h2 R' κ'⟩
    | lent =>
     unfold fJ at hk
     obtain ⟨ls,h1,h2⟩:=GR hk
     rw [C0] at h1
     obtain ⟨ws,h3,h4⟩:=ih u h1
     exact ⟨_,h3,fun R' κ'=>by unfold fJ;rw [h2,C0,h4]⟩
    | tk =>
     simp only [fJ] at hk
     obtain ⟨ls,h1,h2⟩:=GR hk
     obtain ⟨ws,h3,h4⟩:=ih u h1
     exact ⟨_,h3,fun R' κ'=>by simp only [fJ];rw [h2,h4]⟩
    | ptr =>
     cases v with
     | leaf l =>
      cases l with
      | box q off =>
       unfold fJ at hk
       rw [ba] at hk
       obtain ⟨ws,h3,h4⟩:=ih u hk
       exact ⟨_,h3,fun R' κ'=>by unfold fJ;rw [ba,h4]⟩
      | _=>simp [fJ] at hk
     | _=>simp [fJ] at hk
  | _=>cases m <;> cases vs <;> simp [fJ] at hk
theorem Sl {R:Type} {r:R} {E:Env} {st:St} {d:Option Nat} {ms:List Md} {one fr:Bool} {t u:Ty} {F:t.D→Option (u.D×(gM ms t).D)} {args:List AV} {κ:Dl→Option R} (h:Fu E st d ms one fr t u F args κ=some r) :
  ∃ δ,κ δ=some r∧∀ st',mj st.h st'.h δ.rd→∀ (R':Type) (κ':Dl→Option R'),Fu E st' d ms one fr t u F args κ'=κ' δ:=by
 unfold Fu at h
 obtain ⟨x,ps,ks,h1,h2,h3⟩:=Sj ms t h
 rw [List.nil_append] at h1 h3
 split at h1
 rotate_left
 ·cases h1
 rename_i hchk
 cases hF:F x with
 | none=>rw [hF] at h1;cases h1
 | some y =>
  rw [hF,Option.bind_some] at h1
  obtain ⟨ws,k1,k2⟩:=Sk ms t h1
  have fin:∀ {δ:Dl},δ.rd=ps++ks→κ δ=some r→(∀ (R':Type) (κ':Dl→Option R'),G4 d one fr u y.1 (ps++ks) ws κ'=κ' δ) →
    ∃ δ,κ δ=some r∧∀ st',mj st.h st'.h δ.rd→∀ (R':Type) (κ':Dl→Option R'),Fu E st' d ms one fr t u F args κ'=κ' δ:=by
   intro δ hr hκ heq
   refine ⟨δ,hκ,fun st' hs R' κ'=>?_⟩
   unfold Fu
   rw [h3 st'.h (by rw [← hr];exact hs)]
   rw [hchk]
   simp only
   rw [hF,Option.bind_some,k2]
   exact heq R' κ'
  cases fr with
  | false =>
   cases one with
   | true=>simp only [G4] at k1;rw [ba] at k1;exact fin rfl k1 fun R' κ'=>by simp only [G4];rw [ba]
   | false=>simp only [G4] at k1;rw [mA] at k1;exact fin rfl k1 fun R' κ'=>by simp only [G4];rw [mA]
  | true =>
   cases d with
   | none =>
    cases one with
    | true=>cases k1
    | false=>cases u <;> first | exact fin rfl k1 fun R' κ'=>rfl | cases k1
   | some d =>
    cases one with
    | true =>
     obtain ⟨ls,objs,e1,_⟩:=gi (P:=default) d u y.1 []
     simp only [G4] at k1
     rw [e1] at k1
     exact fin rfl k1 fun R' κ'=>by simp only [G4];rw [e1]
    | false =>
     obtain ⟨ts,objs,e1,_⟩:=vK (P:=default) d u y.1 []
     simp only [G4] at k1
     rw [e1] at k1
     exact fin rfl k1 fun R' κ'=>by simp only [G4];rw [e1]
theorem Sm {R:Type} {r:R} {E:Env} {st:St} {d:Option Nat} {f:Nat} {args:List AV} {κ:Dl→Option R} (h:xO E st d f args κ=some r) :
  ∃ δ,κ δ=some r∧∀ st',mj st.h st'.h δ.rd→∀ (R':Type) (κ':Dl→Option R'),xO E st' d f args κ'=κ' δ:=by
 unfold xO at h
 split at h
 ·rename_i ms one fr t u F hg
  obtain ⟨δ,h1,h2⟩:=Sl h
  exact ⟨δ,h1,fun st' hs R' κ'=>by unfold xO;simp only [hg];exact h2 st' hs R' κ'⟩
 ·rename_i t u F hg
  obtain ⟨x,us,h1,_,h2⟩:=ju h
  split at h1
  ·rename_i d hnh
   have:us=[]:=by cases us with | nil=>rfl | cons _ _=>simp [BK] at hnh
   subst this
   cases hF:F x with
   | none=>rw [hF] at h1;cases h1
   | some y =>
    rw [hF,Option.bind_some,ba] at h1
    exact ⟨_,h1,fun st' hs R' κ'=>by unfold xO;simp only [hg];rw [h2 st'.h (by intro q hq;cases hq)];simp only [BK];rw [hF,Option.bind_some,ba]⟩
  ·cases h1
 ·rename_i one fr a u F hg
  obtain ⟨x,os,h1,_,h2⟩:=ju h
  cases hF:F x with
  | none=>rw [hF] at h1;cases h1
  | some y =>
   rw [hF,Option.bind_some] at h1
   split at h1
   ·split at h1
    ·rename_i hfl
     rw [ba] at h1
     exact ⟨_,h1,fun st' hs R' κ'=>by unfold xO;simp only [hg];rw [h2 st'.h hs,hF,Option.bind_some];simp only [hfl];rw [ba]⟩
    ·cases h1
   ·split at h1
    ·rename_i hfl
     rw [mA] at h1
     exact ⟨_,h1,fun st' hs R' κ'=>by unfold xO;simp only [hg];rw [h2 st'.h hs,hF,Option.bind_some];simp only [hfl];rw [mA]⟩
    ·cases h1
   ·rename_i d'
    obtain ⟨cs,objs,e1,_⟩:=gi (P:=default) d' u y []
    rw [e1] at h1
    split at h1
    ·cases h1
    ·rename_i n0 ns hn
     exact ⟨_,h1,fun st' hs R' κ'=>by unfold xO;simp only [hg];rw [h2 st'.h hs,hF,Option.bind_some];simp only [e1];rw [hn]⟩
   ·rename_i d'
    obtain ⟨cs,objs,e1,_⟩:=vK (P:=default) d' u y []
    rw [e1] at h1
    split at h1
    ·cases h1
    ·rename_i n0 ns hn
     exact ⟨_,h1,fun st' hs R' κ'=>by unfold xO;simp only [hg];rw [h2 st'.h hs,hF,Option.bind_some];simp only [e1];rw [hn]⟩
   ·cases h1
 ·cases h
theorem QS {R:Type} {r:R} {E:Env} {st:St} {d:Option Nat} {T T':Nat} {s x:Leaf} {κ:Dl→Option R} (h:BL E st d T T' s x κ=some r) :
  ∃ δ,κ δ=some r∧∀ st',mj st.h st'.h δ.rd→∀ (R':Type) (κ':Dl→Option R'),BL E st' d T T' s x κ'=κ' δ:=by
 unfold BL at h
 split at h
 ·rename_i k n t te ti d hel hte hti
  split at h
  ·rename_i kn hk
   obtain ⟨z,rest,us,k1,_,k3⟩:=sw h
   split at k1
   ·split at k1
    ·rename_i h0
     split at k1
     ·rename_i hr
      exact ⟨_,k1,fun st' hs R' κ'=>by
       unfold BL;simp only [hel,hte,hti,hk]
       refine (k3 st'.h (by intro q hq;cases hq) R' _).trans ?_
       simp only [if_pos h0,if_pos hr]⟩
     ·cases k1
    ·cases k1
   ·cases k1
  ·cases h
 ·cases h
theorem Nt {R:Type} {r:R} {E:Env} {st:St} {d:Option Nat} {b:Builtin} {args:List AV} {tys:List Nat} {κ:Dl→Option R} (h:eS E st d b args tys κ=some r) :
  ∃ δ,κ δ=some r∧∀ st',mj st.h st'.h δ.rd→∀ (R':Type) (κ':Dl→Option R'),eS E st' d b args tys κ'=κ' δ:=by
 unfold eS at h
 split at h
 ·rename_i l
  split at h
  ·rename_i T tys
   split at h
   ·rename_i t hel
    split at h
    ·exact ⟨_,h,fun st' hs R' κ'=>by unfold eS;simp only [hel]⟩
    ·exact ⟨_,h,fun st' hs R' κ'=>by unfold eS;simp only [hel]⟩
    ·exact ⟨_,h,fun st' hs R' κ'=>by unfold eS;simp only [hel]⟩
    ·rename_i o
     split at h
     ·rename_i ro t' xs ho
      exact ⟨_,h,fun st' hs R' κ'=>by unfold eS;simp only [hel,hs o (by simp),ho]⟩
     ·cases h
    ·exact ⟨_,h,fun st' hs R' κ'=>by unfold eS;simp only [hel]⟩
    ·cases h
   ·cases h
  ·cases h
 ·split at h
  ·rename_i T tys
   split at h
   ·rename_i t hel
    exact ⟨_,h,fun st' hs R' κ'=>by unfold eS;simp only [hel]⟩
   ·cases h
  ·cases h
 ·split at h
  ·rename_i T T'
   split at h
   ·rename_i hT
    obtain ⟨δ,h1,h2⟩:=Pn h
    exact ⟨δ,h1,fun st' hs R' κ'=>by unfold eS;simp only [hT];rw [h2 st' hs]⟩
   ·rename_i hT
    obtain ⟨δ,h1,h2⟩:=QS h
    exact ⟨δ,h1,fun st' hs R' κ'=>by unfold eS;simp only [hT];rw [h2 st' hs]⟩
  ·cases h
 ·rename_i o n lo hi
  split at h
  ·rename_i T
   split at h
   ·rename_i t te t' xs hel hte ho
    obtain ⟨y,h1,h2⟩:=gQ (t':=.slice t) h
    obtain ⟨z,rest,us,k1,_,k3⟩:=sw h1
    split at k1
    ·rename_i hf hn _
     exact ⟨_,k1,fun st' hs R' κ'=>by
      unfold eS;simp only [hel,hte,hs o (by simp),ho]
      refine (h2 R' _).trans ?_
      refine (k3 st'.h (by intro q hq;cases hq) R' _).trans ?_
      simp only [hf,hn]⟩
    ·cases k1
   ·cases h
  ·cases h
 ·exact ⟨_,h,fun st' hs R' κ'=>by unfold eS;rfl⟩
 ·exact ⟨_,h,fun st' hs R' κ'=>by unfold eS;rfl⟩
 ·cases h
end Go.Abs
