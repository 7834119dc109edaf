/- Part of a proof of FnExactPlay: see the row. -/
import Derived.Test.YtenadnbpibhmiaaGreatPlAbsRun2
import Derived.Test.YtenadnbpibhmiaaGreatPlAbsMut3
set_option linter.unusedVariables false
set_option linter.unusedSimpArgs false
namespace Go.Abs
open Go.RowKit
def TU:Leaf→Leaf→Bool
 | .int k n,.int k' n'=>decide (k=k') && decide (n=n')
 | .bool b,.bool b'=>b == b'
 | .nil,.nil=>true
 | .undef,.undef=>true
 | _,_=>false
def NL:List Leaf→List Leaf→Bool
 | [],[]=>true
 | a :: l,b :: m=>TU a b && NL l m
 | _,_=>false
theorem TV {a b:Leaf} (h:TU a b=true):a=b:=by
 cases a <;> cases b <;> simp_all [TU]
theorem M4:∀ {l m:List Leaf},NL l m=true→l=m
 | [],[],_=>rfl
 | [],_ :: _,h=>by cases h
 | _ :: _,[],h=>by cases h
 | a :: l,b :: m,h=>by
  simp only [NL,Bool.and_eq_true] at h
  rw [TV h.1,M4 h.2]
def NM:List (Nat×Nat)→List (Nat×Nat)→Bool
 | [],[]=>true
 | (a,b) :: l,(c,d) :: m=>Nat.beq a c && Nat.beq b d && NM l m
 | _,_=>false
theorem M5:∀ {l m:List (Nat×Nat)},NM l m=true→l=m
 | [],[],_=>rfl
 | [],_ :: _,h=>by cases h
 | _ :: _,[],h=>by cases h
 | (a,b) :: l,(c,d) :: m,h=>by
  simp only [NM,Bool.and_eq_true] at h
  rw [Nat.eq_of_beq_eq_true h.1.1,Nat.eq_of_beq_eq_true h.1.2,M5 h.2]
def H7 (P:Program):List Field→Bool
 | []=>true
 | f :: r=>(match P.info? f.type with
  | some i=>!Nat.beq i.size 0
  | none=>false) && f.name != "_" && H7 P r
theorem C0 {P:Program}:∀ {l:List Field},H7 P l=true→∀ f∈l,(∃ i,P.info? f.type=some i∧i.size≠0)∧f.name ≠ "_"
 | [],_,_,h=>by cases h
 | f :: r,h,g,hg=>by
  simp only [H7,Bool.and_eq_true] at h
  obtain ⟨⟨h1,h2⟩,h3⟩:=h
  rcases List.mem_cons.1 hg with rfl | hg
  ·refine ⟨?_,by simpa using h2⟩
   split at h1
   ·rename_i i hi
    refine ⟨i,hi,fun e=>?_⟩
    rw [e] at h1;simp at h1
   ·cases h1
  ·exact C0 h3 g hg
def kB (P:Program) (t:Nat) (ty:Ty):TK→Bool
 | .int k=>match P.underlying t with
  | some (.int k')=>decide (k'=k)
  | _=>false
 | .bool=>match P.underlying t with
  | some .bool=>true
  | _=>false
 | .slice e=>match P.underlying t,ty,P.info? e with
  | some (.slice e'),.slice t',some i=>Nat.beq e' e && Nat.beq i.size t'.n && Nat.ble i.bytes (24 * t'.n) && Nat.blt 0 t'.n && (match i.zero with
   | some z=>Nat.beq z.cells.size t'.n
   | none=>false)
  | _,_,_=>false
 | .struct fs=>match P.underlying t with
  | some (.struct F)=>NM (F.toList.map fun f=>(f.offset,f.type)) fs && H7 P F.toList && !P.stoodInHeld t && !P.eqGuardType P.depth t
  | _=>false
 | .other=>match P.underlying t with
  | some d=>Ij d
  | none=>false
theorem Vr {P:Program} {t:Nat} {ty:Ty} {k:TK} (h:kB P t ty k=true):KOk P t ty k:=by
 cases k with
 | int k =>
  simp only [kB] at h
  split at h
  ·rename_i k' hu
   have h:k'=k:=by simpa using h
   subst h;exact hu
  ·cases h
 | bool =>
  simp only [kB] at h
  split at h
  ·rename_i hu;exact hu
  ·cases h
 | slice e =>
  simp only [kB] at h
  split at h
  ·rename_i e' t' i hu hi
   simp only [Bool.and_eq_true] at h
   obtain ⟨⟨⟨⟨h1,h2⟩,h3⟩,h4⟩,h5⟩:=h
   have h1:=Nat.eq_of_beq_eq_true h1
   subst h1
   split at h5
   ·rename_i z hz
    exact ⟨hu,t',i,z,rfl,hi,Nat.eq_of_beq_eq_true h2,Nat.le_of_ble_eq_true h3,Nat.le_of_ble_eq_true h4,hz,Nat.eq_of_beq_eq_true h5⟩
   ·cases h5
  ·cases h
 | struct fs =>
  simp only [kB] at h
  split at h
  ·rename_i F hu
   simp only [Bool.and_eq_true,Bool.not_eq_true'] at h
   obtain ⟨⟨⟨h1,h2⟩,h3⟩,h4⟩:=h
   have h2:=C0 h2
   exact ⟨F,hu,M5 h1,fun f hf=>(h2 f hf).1,h3,h4,fun f hf=>(h2 f hf).2⟩
  ·cases h
 | other =>
  simp only [kB] at h
  split at h
  ·rename_i d hu;exact ⟨d,hu,h⟩
  ·cases h
def tiB (P:Program) (t:Nat) (ti:TI):Bool :=
 (match P.info? t with
 | some i=>match i.zero with
  | some z=>Nat.beq i.size ti.n && NL (z.cells.toList.map gU) ti.zero && uh z.cells.toList
  | none=>false
 | none=>false) && kB P t ti.ty ti.k
theorem Vi {P:Program} {t:Nat} {ti:TI} (h:tiB P t ti=true):EA P t ti:=by
 simp only [tiB,Bool.and_eq_true] at h
 obtain ⟨h1,h2⟩:=h
 refine ⟨?_,Vr h2⟩
 split at h1
 ·rename_i i hi
  split at h1
  ·rename_i z hz
   simp only [Bool.and_eq_true] at h1
   exact ⟨i,z,hi,Nat.eq_of_beq_eq_true h1.1.1,hz,M4 h1.1.2,h1.2⟩
  ·cases h1
 ·cases h1
def Vj (P:Program):Tab→Bool
 | []=>true
 | (t,ti) :: r=>tiB P t ti && Vj P r
theorem H8 {P:Program}:∀ {T:Tab},Vj P T=true→fU P T
 | [],_,t,ti,h=>by cases h
 | (t',ti') :: r,hT,t,ti,h=>by
  simp only [Vj,Bool.and_eq_true] at hT
  unfold iu at h
  split at h
  ·rename_i hb
   have:=Nat.eq_of_beq_eq_true hb
   subst this
   cases h
   exact Vi hT.1
  ·exact H8 hT.2 t ti h
theorem aE.nil {P:Program} {T:Tab} (h:fU P T):aE P { T,G:=[] }:=⟨h,fun f ct h=>by cases h⟩
theorem aE.cons {P:Program} {T:Tab} {G:List (Nat×Ct)} {f:Nat} {ct:Ct} (h:fC P f ct) (hE:aE P { T,G }):aE P { T,G:=(f,ct) :: G }:=by
 refine ⟨hE.1,fun f' ct' hl=>?_⟩
 unfold iu at hl
 split at hl
 ·rename_i hb
  have:=Nat.eq_of_beq_eq_true hb
  subst this
  cases hl
  exact h
 ·exact hE.2 f' ct' hl
theorem aE.frz {P:Program} {T:Tab} {G:List (Nat×Ct)} {V:List Nat} (h:aE P { T,G,V }):aE P { T,G,V,Z:=true }:=h
theorem aE.views {P:Program} {T:Tab} {G:List (Nat×Ct)} {V:List Nat} (h:aE P { T,G }):aE P { T,G,V }:=h
def f8 (fn:Func):Code:=fn.body.getD .skip
theorem vN {P:Program} {E:Env} (hE:aE P E) (hm:P.follows .mixedOrders=true) {f:FuncId} {fn:Func} (one fr:Bool) (a r:Ty) (F:a.D→Option r.D) (hs:Hints) (hf:P.funcs[f]?=some fn)
  (hok:ym fn one (go a)=true) (hev:∀ x,ev E (f8 fn) hs (iF (kP a x) fn.ntmps) (Gx E.T one fr fn.results.toList r)=F x):fC P f (.pure one fr a r F):=by
 have hb:fn.body=some (f8 fn):=by
  unfold f8
  cases hx:fn.body with
  | none=>unfold ym at hok;rw [hx] at hok;cases hok
  | some c=>rfl
 exact UA hE hm hs hf hb hok hev
theorem Vk {P:Program} {E:Env} (hE:aE P E) (hm:P.follows .mixedOrders=true) {f:FuncId} {fn:Func} (a c r:Ty) (F:c.D→a.D→Option r.D) (hs:Hints) (hf:P.funcs[f]?=some fn)
  (hok:(ym fn true (go a + go c) && r.flat)=true) (hev:∀ z x,ev E (f8 fn) hs (iF (kP a x++vF c z) fn.ntmps) (Gx E.T true false fn.results.toList r)=F z x):fC P f (.clo a c r F):=by
 simp only [Bool.and_eq_true] at hok
 have hb:fn.body=some (f8 fn):=by
  unfold f8
  cases hx:fn.body with
  | none=>have:=hok.1;unfold ym at this;rw [hx] at this;cases this
  | some c=>rfl
 exact Vg hE hm hs hf hb hok.1 hok.2 hev
theorem NN {P:Program} {E:Env} (hE:aE P E) (hm:P.follows .mixedOrders=true) {f:FuncId} {fn:Func} (ms:List Md) (one fr:Bool) (a r:Ty) (F:a.D→Option (r.D×(fS ms a).D)) (hs:Hints) (hf:P.funcs[f]?=some fn)
  (hok:(M2 fn one ms && (fr || xU ms))=true) (hev:∀ x,(jx ms a x 0 (fF ms a x fn.ntmps) fun st=>ev E (f8 fn) hs st (UB E.T ms a one fr fn.results.toList r))=F x) (hz:(!E.Z || xU ms)=true:=by rfl):fC P f (.mut ms one fr a r F):=by
 rw [Bool.and_eq_true] at hok
 have hb:fn.body=some (f8 fn):=by
  unfold f8
  cases hx:fn.body with
  | none=>have:=hok.1;unfold M2 at this;rw [hx] at this;cases this
  | some c=>rfl
 exact UD hE hm hz hs hf hb hok.1 hok.2 hev
theorem Gj {fn:Func} {one:Bool} {k:Nat} (hok:ym fn one k=true):fn.body=some (f8 fn):=by
 unfold f8
 cases hx:fn.body with
 | none=>unfold ym at hok;rw [hx] at hok;cases hok
 | some c=>rfl
theorem NO {P:Program} {E:Env} (hE:aE P E) (hm:P.follows .mixedOrders=true) {f:FuncId} {fn:Func} (t:Ty) (fs:List (FuncId×Bool)) (sf via one:Bool) (a r:Ty) (F:t.D→a.D→Option (r.D×t.D)) (hs:Hints) (hf:P.funcs[f]?=some fn)
  (hok:(ym fn one (go a + 1) && r.flat)=true) (hev:∀ x y,(nJ (fZ via sf a y fn.ntmps) (.boxO (eo via a) 0 2 t (o0 (eo via a,1) fs)) x fun st=>ev E (f8 fn) hs st (Vh E.T (eo via a) t (o0 (eo via a,1) fs) one fn.results.toList r))=F x y):fC P f (.run t fs sf via one a r F):=by
 rw [Bool.and_eq_true] at hok
 exact UE hE hm hs hf (Gj hok.1) hok.1 hok.2 hev
theorem PD {P:Program} {f:FuncId} {fn:Func} (t:Ty) (fs:List (FuncId×Bool)) (sf via one:Bool) (a r:Ty) (hf:P.funcs[f]?=some fn) (hok:ym fn one (go a + 1)=true):fC P f (.run t fs sf via one a r fun _ _=>none) :=
 ⟨(ur hf (Gj hok) hok).1,fun _ _ _ _ _ _ _ _ _ _ _ _ _ _ _ h=>by cases h⟩
theorem EQ {P:Program} {E:Env} (hE:aE P E) (hm:P.follows .mixedOrders=true) {f:FuncId} {fn:Func} (one fr:Bool) (t r:Ty) (F:(Ty.pair (.slice t) .unit).D→Option r.D) (hs1 hs2:Hints) (hf:P.funcs[f]?=some fn)
  (hok:ym fn one 1=true) (h1:ev E (f8 fn) hs1 (iF [.leaf .nil] fn.ntmps) (Gx E.T one fr fn.results.toList r)=F ([],()))
  (h2:∀ xs,ev E (f8 fn) hs2 (iF [.leaf (.viewN t xs)] fn.ntmps) (Gx E.T one fr fn.results.toList r)=F (xs,())):fC P f (.pure one fr (.pair (.slice t) .unit) r F):=by
 have hb:fn.body=some (f8 fn):=by
  unfold f8
  cases hx:fn.body with
  | none=>unfold ym at hok;rw [hx] at hok;cases hok
  | some c=>rfl
 obtain ⟨g1,g2,g3,g4⟩:=ur hf hb hok
 refine ⟨g1,fun Imm w cs x y hx hy=>?_⟩
 have hx':Rd P (.pair (.slice t) .unit) (fun b=>Imm b∧b < w.heap.size) w cs x:=hx.keep fun b hb hl=>⟨⟨hb,hl⟩,hl,rfl⟩
 obtain ⟨c1,c2,e1,e2,e3,e4⟩:=hx'
 have e4:c2=[]:=e4
 subst e4
 rw [List.append_nil] at e1
 subst e1
 obtain ⟨v,rfl⟩:∃ v,cs=[v]:=by
  match cs,e2 with
  | [v],_=>exact ⟨v,rfl⟩
 have hus:argsOf (.pair (.slice t) .unit) [v]=[v]:=rfl
 rw [hus]
 obtain ⟨xs,u⟩:=x
 cases u
 have fin:∀ {avs:List AV} {hs:Hints},rv P (fun _=>⟨undef,0,[]⟩) (fun b=>Imm b∧b < w.heap.size) w avs [v]→(∀ v∈avs,v.hds=[])→avs.length≤fn.ntmps→ev E (f8 fn) hs (iF avs fn.ntmps) (Gx E.T one fr fn.results.toList r)=some y →
   Calls P f [v].toArray w fun e w'=>bg aV w w'∧∃ cs',e=.returned (jF one r cs')∧TQ P fr r Imm w w' cs' y:=by
  intro avs hs hav hh hn hev
  refine (NJ hE hm hf hb g2 g4 hav hh hn (fun b hb=>hb.2) hev).mono fun e w' hq=>?_
  obtain ⟨k1,cs',k2,k3⟩:=hq
  refine ⟨k1,cs',k2,?_⟩
  cases fr with
  | false=>exact k3.imm fun b hb=>hb.imp (·.1) id
  | true=>exact k3
 by_cases hnil:v=.slice none 0 0
 ·subst hnil
  obtain ⟨ad,cap,e5,_,_,_⟩:=e3
  simp only [List.cons.injEq,Value.slice.injEq,and_true] at e5
  have:xs=[]:=List.eq_nil_of_length_eq_zero e5.2.1.symm
  subst this
  refine (fin (avs:=[.leaf .nil]) ⟨_,[],rfl,rfl,rfl⟩ (by simp [AV.hds,Leaf.hds]) (by simpa using g3) (h1.trans hy)).mono fun e w' hq=>?_
  obtain ⟨k1,cs',k2,k3⟩:=hq
  refine ⟨k1,cs',k2,?_⟩
  cases fr <;> exact k3
 ·refine (fin (avs:=[.leaf (.viewN t xs)]) ⟨_,[],rfl,⟨e3,hnil⟩,rfl⟩ (by simp [AV.hds,Leaf.hds]) (by simpa using g3) ((h2 xs).trans hy)).mono fun e w' hq=>?_
  obtain ⟨k1,cs',k2,k3⟩:=hq
  refine ⟨k1,cs',k2,?_⟩
  cases fr <;> exact k3
end Go.Abs
