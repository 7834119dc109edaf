/- Part of a proof of FnExactDoOrder: see the row. -/
import Derived.Test.YtenadnbpibhmiaaGreatDoAbsRun2
import Derived.Test.YtenadnbpibhmiaaGreatDoAbsMut3
set_option linter.unusedVariables false
set_option linter.unusedSimpArgs false
namespace Go.Abs
open Go.RowKit
def Tp:Leaf→Leaf→Bool
 | .int k n,.int k' n'=>decide (k=k') && decide (n=n')
 | .bool b,.bool b'=>b == b'
 | .nil,.nil=>true
 | .undef,.undef=>true
 | _,_=>false
def No:List Leaf→List Leaf→Bool
 | [],[]=>true
 | a :: l,b :: m=>Tp a b && No l m
 | _,_=>false
theorem Ts {a b:Leaf} (h:Tp a b=true):a=b:=by
 cases a <;> cases b <;> simp_all [Tp]
theorem MG:∀ {l m:List Leaf},No l m=true→l=m
 | [],[],_=>rfl
 | [],_ :: _,h=>by cases h
 | _ :: _,[],h=>by cases h
 | a :: l,b :: m,h=>by
  simp only [No,Bool.and_eq_true] at h
  rw [Ts h.1,MG h.2]
def Np:List (Nat×Nat)→List (Nat×Nat)→Bool
 | [],[]=>true
 | (a,b) :: l,(c,d) :: m=>Nat.beq a c && Nat.beq b d && Np l m
 | _,_=>false
theorem MH:∀ {l m:List (Nat×Nat)},Np l m=true→l=m
 | [],[],_=>rfl
 | [],_ :: _,h=>by cases h
 | _ :: _,[],h=>by cases h
 | (a,b) :: l,(c,d) :: m,h=>by
  simp only [Np,Bool.and_eq_true] at h
  rw [Nat.eq_of_beq_eq_true h.1.1,Nat.eq_of_beq_eq_true h.1.2,MH h.2]
def HI (P:Program):List Field→Bool
 | []=>true
 | f :: r=>(match P.info? f.type with
  | some i=>!Nat.beq i.size 0
  | none=>false) && f.name != "_" && HI P r
theorem CN {P:Program}:∀ {l:List Field},HI P l=true→∀ f∈l,(∃ i,P.info? f.type=some i∧i.size≠0)∧f.name ≠ "_"
 | [],_,_,h=>by cases h
 | f :: r,h,g,hg=>by
  simp only [HI,Bool.and_eq_true] at h
  obtain ⟨⟨h1,h2⟩,h3⟩:=h
  rcases List.mem_cons.1 hg with rfl | hg
  ·refine ⟨?_,by simpa using h2⟩
   split at h1
   ·rename_i i hi
    refine ⟨i,hi,fun e=>?_⟩
    rw [e] at h1;simp at h1
   ·cases h1
  ·exact CN h3 g hg
def kB (P:Program) (t:Nat) (ty:Ty):TK→Bool
 | .int k=>match P.underlying t with
  | some (.int k')=>decide (k'=k)
  | _=>false
 | .bool=>match P.underlying t with
  | some .bool=>true
  | _=>false
 | .slice e=>match P.underlying t,ty,P.info? e with
  | some (.slice e'),.slice t',some i=>Nat.beq e' e && Nat.beq i.size t'.n && Nat.ble i.bytes (24 * t'.n) && Nat.blt 0 t'.n && (match i.zero with
   | some z=>Nat.beq z.cells.size t'.n
   | none=>false)
  | _,_,_=>false
 | .struct fs=>match P.underlying t with
  | some (.struct F)=>Np (F.toList.map fun f=>(f.offset,f.type)) fs && HI P F.toList && !P.stoodInHeld t && !P.eqGuardType P.depth t
  | _=>false
 | .other=>match P.underlying t with
  | some d=>HT d
  | none=>false
theorem U0 {P:Program} {t:Nat} {ty:Ty} {k:TK} (h:kB P t ty k=true):KOk P t ty k:=by
 cases k with
 | int k =>
  simp only [kB] at h
  split at h
  ·rename_i k' hu
   have h:k'=k:=by simpa using h
   subst h;exact hu
  ·cases h
 | bool =>
  simp only [kB] at h
  split at h
  ·rename_i hu;exact hu
  ·cases h
 | slice e =>
  simp only [kB] at h
  split at h
  ·rename_i e' t' i hu hi
   simp only [Bool.and_eq_true] at h
   obtain ⟨⟨⟨⟨h1,h2⟩,h3⟩,h4⟩,h5⟩:=h
   have h1:=Nat.eq_of_beq_eq_true h1
   subst h1
   split at h5
   ·rename_i z hz
    exact ⟨hu,t',i,z,rfl,hi,Nat.eq_of_beq_eq_true h2,Nat.le_of_ble_eq_true h3,Nat.le_of_ble_eq_true h4,hz,Nat.eq_of_beq_eq_true h5⟩
   ·cases h5
  ·cases h
 | struct fs =>
  simp only [kB] at h
  split at h
  ·rename_i F hu
   simp only [Bool.and_eq_true,Bool.not_eq_true'] at h
   obtain ⟨⟨⟨h1,h2⟩,h3⟩,h4⟩:=h
   have h2:=CN h2
   exact ⟨F,hu,MH h1,fun f hf=>(h2 f hf).1,h3,h4,fun f hf=>(h2 f hf).2⟩
  ·cases h
 | other =>
  simp only [kB] at h
  split at h
  ·rename_i d hu;exact ⟨d,hu,h⟩
  ·cases h
def tiB (P:Program) (t:Nat) (ti:TI):Bool :=
 (match P.info? t with
 | some i=>match i.zero with
  | some z=>Nat.beq i.size ti.n && No (z.cells.toList.map gU) ti.zero && ua z.cells.toList
  | none=>false
 | none=>false) && kB P t ti.ty ti.k
theorem UR {P:Program} {t:Nat} {ti:TI} (h:tiB P t ti=true):Ek P t ti:=by
 simp only [tiB,Bool.and_eq_true] at h
 obtain ⟨h1,h2⟩:=h
 refine ⟨?_,U0 h2⟩
 split at h1
 ·rename_i i hi
  split at h1
  ·rename_i z hz
   simp only [Bool.and_eq_true] at h1
   exact ⟨i,z,hi,Nat.eq_of_beq_eq_true h1.1.1,hz,MG h1.1.2,h1.2⟩
  ·cases h1
 ·cases h1
def US (P:Program):Tab→Bool
 | []=>true
 | (t,ti) :: r=>tiB P t ti && US P r
theorem HJ {P:Program}:∀ {T:Tab},US P T=true→fS P T
 | [],_,t,ti,h=>by cases h
 | (t',ti') :: r,hT,t,ti,h=>by
  simp only [US,Bool.and_eq_true] at hT
  unfold ir at h
  split at h
  ·rename_i hb
   have:=Nat.eq_of_beq_eq_true hb
   subst this
   cases h
   exact UR hT.1
  ·exact HJ hT.2 t ti h
theorem aE.nil {P:Program} {T:Tab} (h:fS P T):aE P { T,G:=[] }:=⟨h,fun f ct h=>by cases h⟩
theorem aE.cons {P:Program} {T:Tab} {G:List (Nat×Ct)} {f:Nat} {ct:Ct} (h:fB P f ct) (hE:aE P { T,G }):aE P { T,G:=(f,ct) :: G }:=by
 refine ⟨hE.1,fun f' ct' hl=>?_⟩
 unfold ir at hl
 split at hl
 ·rename_i hb
  have:=Nat.eq_of_beq_eq_true hb
  subst this
  cases hl
  exact h
 ·exact hE.2 f' ct' hl
theorem aE.frz {P:Program} {T:Tab} {G:List (Nat×Ct)} {V:List Nat} (h:aE P { T,G,V }):aE P { T,G,V,Z:=true }:=h
theorem aE.views {P:Program} {T:Tab} {G:List (Nat×Ct)} {V:List Nat} (h:aE P { T,G }):aE P { T,G,V }:=h
def fY (fn:Func):Code:=fn.body.getD .skip
theorem vD {P:Program} {E:Env} (hE:aE P E) (hm:P.follows .mixedOrders=true) {f:FuncId} {fn:Func} (one fr:Bool) (a r:Ty) (F:a.D→Option r.D) (hs:Hints) (hf:P.funcs[f]?=some fn)
  (hok:yf fn one (gm a)=true) (hev:∀ x,ev E (fY fn) hs (iD (kO a x) fn.ntmps) (Gc E.T one fr fn.results.toList r)=F x):fB P f (.pure one fr a r F):=by
 have hb:fn.body=some (fY fn):=by
  unfold fY
  cases hx:fn.body with
  | none=>unfold yf at hok;rw [hx] at hok;cases hok
  | some c=>rfl
 exact Ua hE hm hs hf hb hok hev
theorem UT {P:Program} {E:Env} (hE:aE P E) (hm:P.follows .mixedOrders=true) {f:FuncId} {fn:Func} (a c r:Ty) (F:c.D→a.D→Option r.D) (hs:Hints) (hf:P.funcs[f]?=some fn)
  (hok:(yf fn true (gm a + gm c) && r.flat)=true) (hev:∀ z x,ev E (fY fn) hs (iD (kO a x++vq c z) fn.ntmps) (Gc E.T true false fn.results.toList r)=F z x):fB P f (.clo a c r F):=by
 simp only [Bool.and_eq_true] at hok
 have hb:fn.body=some (fY fn):=by
  unfold fY
  cases hx:fn.body with
  | none=>have:=hok.1;unfold yf at this;rw [hx] at this;cases this
  | some c=>rfl
 exact UP hE hm hs hf hb hok.1 hok.2 hev
theorem Nq {P:Program} {E:Env} (hE:aE P E) (hm:P.follows .mixedOrders=true) {f:FuncId} {fn:Func} (ms:List Md) (one fr:Bool) (a r:Ty) (F:a.D→Option (r.D×(fQ ms a).D)) (hs:Hints) (hf:P.funcs[f]?=some fn)
  (hok:(ME fn one ms && (fr || xN ms))=true) (hev:∀ x,(jw ms a x 0 (fE ms a x fn.ntmps) fun st=>ev E (fY fn) hs st (Ub E.T ms a one fr fn.results.toList r))=F x) (hz:(!E.Z || xN ms)=true:=by rfl):fB P f (.mut ms one fr a r F):=by
 rw [Bool.and_eq_true] at hok
 have hb:fn.body=some (fY fn):=by
  unfold fY
  cases hx:fn.body with
  | none=>have:=hok.1;unfold ME at this;rw [hx] at this;cases this
  | some c=>rfl
 exact Ud hE hm hz hs hf hb hok.1 hok.2 hev
theorem FZ {fn:Func} {one:Bool} {k:Nat} (hok:yf fn one k=true):fn.body=some (fY fn):=by
 unfold fY
 cases hx:fn.body with
 | none=>unfold yf at hok;rw [hx] at hok;cases hok
 | some c=>rfl
theorem Nr {P:Program} {E:Env} (hE:aE P E) (hm:P.follows .mixedOrders=true) {f:FuncId} {fn:Func} (t:Ty) (fs:List (FuncId×Bool)) (sf via one:Bool) (a r:Ty) (F:t.D→a.D→Option (r.D×t.D)) (hs:Hints) (hf:P.funcs[f]?=some fn)
  (hok:(yf fn one (gm a + 1) && r.flat)=true) (hev:∀ x y,(nC (fX via sf a y fn.ntmps) (.boxO (em via a) 0 2 t (oR (em via a,1) fs)) x fun st=>ev E (fY fn) hs st (UQ E.T (em via a) t (oR (em via a,1) fs) one fn.results.toList r))=F x y):fB P f (.run t fs sf via one a r F):=by
 rw [Bool.and_eq_true] at hok
 exact Ue hE hm hs hf (FZ hok.1) hok.1 hok.2 hev
theorem Pf {P:Program} {f:FuncId} {fn:Func} (t:Ty) (fs:List (FuncId×Bool)) (sf via one:Bool) (a r:Ty) (hf:P.funcs[f]?=some fn) (hok:yf fn one (gm a + 1)=true):fB P f (.run t fs sf via one a r fun _ _=>none) :=
 ⟨(ui hf (FZ hok) hok).1,fun _ _ _ _ _ _ _ _ _ _ _ _ _ _ _ h=>by cases h⟩
theorem EC {P:Program} {E:Env} (hE:aE P E) (hm:P.follows .mixedOrders=true) {f:FuncId} {fn:Func} (one fr:Bool) (t r:Ty) (F:(Ty.pair (.slice t) .unit).D→Option r.D) (hs1 hs2:Hints) (hf:P.funcs[f]?=some fn)
  (hok:yf fn one 1=true) (h1:ev E (fY fn) hs1 (iD [.leaf .nil] fn.ntmps) (Gc E.T one fr fn.results.toList r)=F ([],()))
  (h2:∀ xs,ev E (fY fn) hs2 (iD [.leaf (.viewN t xs)] fn.ntmps) (Gc E.T one fr fn.results.toList r)=F (xs,())):fB P f (.pure one fr (.pair (.slice t) .unit) r F):=by
 have hb:fn.body=some (fY fn):=by
  unfold fY
  cases hx:fn.body with
  | none=>unfold yf at hok;rw [hx] at hok;cases hok
  | some c=>rfl
 obtain ⟨g1,g2,g3,g4⟩:=ui hf hb hok
 refine ⟨g1,fun Imm w cs x y hx hy=>?_⟩
 have hx':Rd P (.pair (.slice t) .unit) (fun b=>Imm b∧b < w.heap.size) w cs x:=hx.keep fun b hb hl=>⟨⟨hb,hl⟩,hl,rfl⟩
 obtain ⟨c1,c2,e1,e2,e3,e4⟩:=hx'
 have e4:c2=[]:=e4
 subst e4
 rw [List.append_nil] at e1
 subst e1
 obtain ⟨v,rfl⟩:∃ v,cs=[v]:=by
  match cs,e2 with
  | [v],_=>exact ⟨v,rfl⟩
 have hus:argsOf (.pair (.slice t) .unit) [v]=[v]:=rfl
 rw [hus]
 obtain ⟨xs,u⟩:=x
 cases u
 have fin:∀ {avs:List AV} {hs:Hints},rj P (fun _=>⟨undef,0,[]⟩) (fun b=>Imm b∧b < w.heap.size) w avs [v]→(∀ v∈avs,v.hds=[])→avs.length≤fn.ntmps→ev E (fY fn) hs (iD avs fn.ntmps) (Gc E.T one fr fn.results.toList r)=some y →
   Calls P f [v].toArray w fun e w'=>bh aV w w'∧∃ cs',e=.returned (jF one r cs')∧Tl P fr r Imm w w' cs' y:=by
  intro avs hs hav hh hn hev
  refine (Nm hE hm hf hb g2 g4 hav hh hn (fun b hb=>hb.2) hev).mono fun e w' hq=>?_
  obtain ⟨k1,cs',k2,k3⟩:=hq
  refine ⟨k1,cs',k2,?_⟩
  cases fr with
  | false=>exact k3.imm fun b hb=>hb.imp (·.1) id
  | true=>exact k3
 by_cases hnil:v=.slice none 0 0
 ·subst hnil
  obtain ⟨ad,cap,e5,_,_,_⟩:=e3
  simp only [List.cons.injEq,Value.slice.injEq,and_true] at e5
  have:xs=[]:=List.eq_nil_of_length_eq_zero e5.2.1.symm
  subst this
  refine (fin (avs:=[.leaf .nil]) ⟨_,[],rfl,rfl,rfl⟩ (by simp [AV.hds,Leaf.hds]) (by simpa using g3) (h1.trans hy)).mono fun e w' hq=>?_
  obtain ⟨k1,cs',k2,k3⟩:=hq
  refine ⟨k1,cs',k2,?_⟩
  cases fr <;> exact k3
 ·refine (fin (avs:=[.leaf (.viewN t xs)]) ⟨_,[],rfl,⟨e3,hnil⟩,rfl⟩ (by simp [AV.hds,Leaf.hds]) (by simpa using g3) ((h2 xs).trans hy)).mono fun e w' hq=>?_
  obtain ⟨k1,cs',k2,k3⟩:=hq
  refine ⟨k1,cs',k2,?_⟩
  cases fr <;> exact k3
end Go.Abs
