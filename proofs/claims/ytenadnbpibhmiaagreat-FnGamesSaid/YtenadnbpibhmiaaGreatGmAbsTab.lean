/- Part of a proof of FnGames: see the row. -/
import Derived.Test.YtenadnbpibhmiaaGreatGmAbsRun2
import Derived.Test.YtenadnbpibhmiaaGreatGmAbsMut3
set_option linter.unusedVariables false
set_option linter.unusedSimpArgs false
namespace Go.Abs
open Go.RowKit
def SM:Leaf→Leaf→Bool
 | .int k n,.int k' n'=>decide (k=k') && decide (n=n')
 | .bool b,.bool b'=>b == b'
 | .nil,.nil=>true
 | .undef,.undef=>true
 | _,_=>false
def LZ:List Leaf→List Leaf→Bool
 | [],[]=>true
 | a :: l,b :: m=>SM a b && LZ l m
 | _,_=>false
theorem SN {a b:Leaf} (h:SM a b=true):a=b:=by
 cases a <;> cases b <;> simp_all [SM]
theorem Lc:∀ {l m:List Leaf},LZ l m=true→l=m
 | [],[],_=>rfl
 | [],_ :: _,h=>by cases h
 | _ :: _,[],h=>by cases h
 | a :: l,b :: m,h=>by
  simp only [LZ,Bool.and_eq_true] at h
  rw [SN h.1,Lc h.2]
def L0:List (Nat×Nat)→List (Nat×Nat)→Bool
 | [],[]=>true
 | (a,b) :: l,(c,d) :: m=>Nat.beq a c && Nat.beq b d && L0 l m
 | _,_=>false
theorem Ld:∀ {l m:List (Nat×Nat)},L0 l m=true→l=m
 | [],[],_=>rfl
 | [],_ :: _,h=>by cases h
 | _ :: _,[],h=>by cases h
 | (a,b) :: l,(c,d) :: m,h=>by
  simp only [L0,Bool.and_eq_true] at h
  rw [Nat.eq_of_beq_eq_true h.1.1,Nat.eq_of_beq_eq_true h.1.2,Ld h.2]
def GV (P:Program):List Field→Bool
 | []=>true
 | f :: r=>(match P.info? f.type with
  | some i=>!Nat.beq i.size 0
  | none=>false) && f.name != "_" && GV P r
theorem De {P:Program}:∀ {l:List Field},GV P l=true→∀ f∈l,(∃ i,P.info? f.type=some i∧i.size≠0)∧f.name ≠ "_"
 | [],_,_,h=>by cases h
 | f :: r,h,g,hg=>by
  simp only [GV,Bool.and_eq_true] at h
  obtain ⟨⟨h1,h2⟩,h3⟩:=h
  rcases List.mem_cons.1 hg with rfl | hg
  ·refine ⟨?_,by simpa using h2⟩
   split at h1
   ·rename_i i hi
    refine ⟨i,hi,fun e=>?_⟩
    rw [e] at h1;simp at h1
   ·cases h1
  ·exact De h3 g hg
def kB (P:Program) (t:Nat) (ty:Ty):TK→Bool
 | .int k=>match P.underlying t with
  | some (.int k')=>decide (k'=k)
  | _=>false
 | .bool=>match P.underlying t with
  | some .bool=>true
  | _=>false
 | .slice e=>match P.underlying t,ty,P.info? e with
  | some (.slice e'),.slice t',some i=>Nat.beq e' e && Nat.beq i.size t'.n && Nat.ble i.bytes (24 * t'.n) && Nat.blt 0 t'.n && (match i.zero with
   | some z=>Nat.beq z.cells.size t'.n
   | none=>false)
  | _,_,_=>false
 | .struct fs=>match P.underlying t with
  | some (.struct F)=>L0 (F.toList.map fun f=>(f.offset,f.type)) fs && GV P F.toList && !P.stoodInHeld t && !P.eqGuardType P.depth t
  | _=>false
 | .other=>match P.underlying t with
  | some d=>G9 d
  | none=>false
theorem UC {P:Program} {t:Nat} {ty:Ty} {k:TK} (h:kB P t ty k=true):KOk P t ty k:=by
 cases k with
 | int k =>
  simp only [kB] at h
  split at h
  ·rename_i k' hu
   have h:k'=k:=by simpa using h
   subst h;exact hu
  ·cases h
 | bool =>
  simp only [kB] at h
  split at h
  ·rename_i hu;exact hu
  ·cases h
 | slice e =>
  simp only [kB] at h
  split at h
  ·rename_i e' t' i hu hi
   simp only [Bool.and_eq_true] at h
   obtain ⟨⟨⟨⟨h1,h2⟩,h3⟩,h4⟩,h5⟩:=h
   have h1:=Nat.eq_of_beq_eq_true h1
   subst h1
   split at h5
   ·rename_i z hz
    exact ⟨hu,t',i,z,rfl,hi,Nat.eq_of_beq_eq_true h2,Nat.le_of_ble_eq_true h3,Nat.le_of_ble_eq_true h4,hz,Nat.eq_of_beq_eq_true h5⟩
   ·cases h5
  ·cases h
 | struct fs =>
  simp only [kB] at h
  split at h
  ·rename_i F hu
   simp only [Bool.and_eq_true,Bool.not_eq_true'] at h
   obtain ⟨⟨⟨h1,h2⟩,h3⟩,h4⟩:=h
   have h2:=De h2
   exact ⟨F,hu,Ld h1,fun f hf=>(h2 f hf).1,h3,h4,fun f hf=>(h2 f hf).2⟩
  ·cases h
 | other =>
  simp only [kB] at h
  split at h
  ·rename_i d hu;exact ⟨d,hu,h⟩
  ·cases h
def tiB (P:Program) (t:Nat) (ti:TI):Bool :=
 (match P.info? t with
 | some i=>match i.zero with
  | some z=>Nat.beq i.size ti.n && LZ (z.cells.toList.map iT) ti.zero && vF z.cells.toList
  | none=>false
 | none=>false) && kB P t ti.ty ti.k
theorem Ur {P:Program} {t:Nat} {ti:TI} (h:tiB P t ti=true):Ev P t ti:=by
 simp only [tiB,Bool.and_eq_true] at h
 obtain ⟨h1,h2⟩:=h
 refine ⟨?_,UC h2⟩
 split at h1
 ·rename_i i hi
  split at h1
  ·rename_i z hz
   simp only [Bool.and_eq_true] at h1
   exact ⟨i,z,hi,Nat.eq_of_beq_eq_true h1.1.1,hz,Lc h1.1.2,h1.2⟩
  ·cases h1
 ·cases h1
def Us (P:Program):Tab→Bool
 | []=>true
 | (t,ti) :: r=>tiB P t ti && Us P r
theorem GW {P:Program}:∀ {T:Tab},Us P T=true→gO P T
 | [],_,t,ti,h=>by cases h
 | (t',ti') :: r,hT,t,ti,h=>by
  simp only [Us,Bool.and_eq_true] at hT
  unfold jk at h
  split at h
  ·rename_i hb
   have:=Nat.eq_of_beq_eq_true hb
   subst this
   cases h
   exact Ur hT.1
  ·exact GW hT.2 t ti h
theorem ar.nil {P:Program} {T:Tab} (h:gO P T):ar P { T,G:=[] }:=⟨h,fun f ct h=>by cases h⟩
theorem ar.cons {P:Program} {T:Tab} {G:List (Nat×Ct)} {f:Nat} {ct:Ct} (h:cS P f ct) (hE:ar P { T,G }):ar P { T,G:=(f,ct) :: G }:=by
 refine ⟨hE.1,fun f' ct' hl=>?_⟩
 unfold jk at hl
 split at hl
 ·rename_i hb
  have:=Nat.eq_of_beq_eq_true hb
  subst this
  cases hl
  exact h
 ·exact hE.2 f' ct' hl
theorem ar.frz {P:Program} {T:Tab} {G:List (Nat×Ct)} {V:List Nat} (h:ar P { T,G,V }):ar P { T,G,V,Z:=true }:=h
theorem ar.views {P:Program} {T:Tab} {G:List (Nat×Ct)} {V:List Nat} (h:ar P { T,G }):ar P { T,G,V }:=h
def fA (fn:Func):Code:=fn.body.getD .skip
theorem wK {P:Program} {E:Env} (hE:ar P E) (hm:P.follows .mixedOrders=true) {f:FuncId} {fn:Func} (one fr:Bool) (a r:Ty) (F:a.D→Option r.D) (hs:Hints) (hf:P.funcs[f]?=some fn)
  (hok:wH fn one (gT a)=true) (hev:∀ x,ev E (fA fn) hs (ik (jb a x) fn.ntmps) (F5 E.T one fr fn.results.toList r)=F x):cS P f (.pure one fr a r F):=by
 have hb:fn.body=some (fA fn):=by
  unfold fA
  cases hx:fn.body with
  | none=>unfold wH at hok;rw [hx] at hok;cases hok
  | some c=>rfl
 exact TB hE hm hs hf hb hok hev
theorem Ut {P:Program} {E:Env} (hE:ar P E) (hm:P.follows .mixedOrders=true) {f:FuncId} {fn:Func} (a c r:Ty) (F:c.D→a.D→Option r.D) (hs:Hints) (hf:P.funcs[f]?=some fn)
  (hok:(wH fn true (gT a + gT c) && r.flat)=true) (hev:∀ z x,ev E (fA fn) hs (ik (jb a x++wD c z) fn.ntmps) (F5 E.T true false fn.results.toList r)=F z x):cS P f (.clo a c r F):=by
 simp only [Bool.and_eq_true] at hok
 have hb:fn.body=some (fA fn):=by
  unfold fA
  cases hx:fn.body with
  | none=>have:=hok.1;unfold wH at this;rw [hx] at this;cases this
  | some c=>rfl
 exact Up hE hm hs hf hb hok.1 hok.2 hev
theorem dL {P:Program} {E:Env} (hE:ar P E) (hm:P.follows .mixedOrders=true) {f:FuncId} {fn:Func} (ms:List Md) (one fr:Bool) (a r:Ty) (F:a.D→Option (r.D×(gM ms a).D)) (hs:Hints) (hf:P.funcs[f]?=some fn)
  (hok:(La fn one ms && (fr || yE ms))=true) (hev:∀ x,(kj ms a x 0 (gC ms a x fn.ntmps) fun st=>ev E (fA fn) hs st (TC E.T ms a one fr fn.results.toList r))=F x) (hz:(!E.Z || yE ms)=true:=by rfl):cS P f (.mut ms one fr a r F):=by
 rw [Bool.and_eq_true] at hok
 have hb:fn.body=some (fA fn):=by
  unfold fA
  cases hx:fn.body with
  | none=>have:=hok.1;unfold La at this;rw [hx] at this;cases this
  | some c=>rfl
 exact TE hE hm hz hs hf hb hok.1 hok.2 hev
theorem FN {fn:Func} {one:Bool} {k:Nat} (hok:wH fn one k=true):fn.body=some (fA fn):=by
 unfold fA
 cases hx:fn.body with
 | none=>unfold wH at hok;rw [hx] at hok;cases hok
 | some c=>rfl
theorem L1 {P:Program} {E:Env} (hE:ar P E) (hm:P.follows .mixedOrders=true) {f:FuncId} {fn:Func} (t:Ty) (fs:List (FuncId×Bool)) (sf via one:Bool) (a r:Ty) (F:t.D→a.D→Option (r.D×t.D)) (hs:Hints) (hf:P.funcs[f]?=some fn)
  (hok:(wH fn one (gT a + 1) && r.flat)=true) (hev:∀ x y,(oD (gU via sf a y fn.ntmps) (.boxO (fy via a) 0 2 t (pT (fy via a,1) fs)) x fun st=>ev E (fA fn) hs st (Uq E.T (fy via a) t (pT (fy via a,1) fs) one fn.results.toList r))=F x y):cS P f (.run t fs sf via one a r F):=by
 rw [Bool.and_eq_true] at hok
 exact TF hE hm hs hf (FN hok.1) hok.1 hok.2 hev
theorem NP {P:Program} {f:FuncId} {fn:Func} (t:Ty) (fs:List (FuncId×Bool)) (sf via one:Bool) (a r:Ty) (hf:P.funcs[f]?=some fn) (hok:wH fn one (gT a + 1)=true):cS P f (.run t fs sf via one a r fun _ _=>none) :=
 ⟨(rX hf (FN hok) hok).1,fun _ _ _ _ _ _ _ _ _ _ _ _ _ _ _ h=>by cases h⟩
theorem EM {P:Program} {E:Env} (hE:ar P E) (hm:P.follows .mixedOrders=true) {f:FuncId} {fn:Func} (one fr:Bool) (t r:Ty) (F:(Ty.pair (.slice t) .unit).D→Option r.D) (hs1 hs2:Hints) (hf:P.funcs[f]?=some fn)
  (hok:wH fn one 1=true) (h1:ev E (fA fn) hs1 (ik [.leaf .nil] fn.ntmps) (F5 E.T one fr fn.results.toList r)=F ([],()))
  (h2:∀ xs,ev E (fA fn) hs2 (ik [.leaf (.viewN t xs)] fn.ntmps) (F5 E.T one fr fn.results.toList r)=F (xs,())):cS P f (.pure one fr (.pair (.slice t) .unit) r F):=by
 have hb:fn.body=some (fA fn):=by
  unfold fA
  cases hx:fn.body with
  | none=>unfold wH at hok;rw [hx] at hok;cases hok
  | some c=>rfl
 obtain ⟨g1,g2,g3,g4⟩:=rX hf hb hok
 refine ⟨g1,fun Imm w cs x y hx hy=>?_⟩
 have hx':Rd P (.pair (.slice t) .unit) (fun b=>Imm b∧b < w.heap.size) w cs x:=hx.keep fun b hb hl=>⟨⟨hb,hl⟩,hl,rfl⟩
 obtain ⟨c1,c2,e1,e2,e3,e4⟩:=hx'
 have e4:c2=[]:=e4
 subst e4
 rw [List.append_nil] at e1
 subst e1
 obtain ⟨v,rfl⟩:∃ v,cs=[v]:=by
  match cs,e2 with
  | [v],_=>exact ⟨v,rfl⟩
 have hus:argsOf (.pair (.slice t) .unit) [v]=[v]:=rfl
 rw [hus]
 obtain ⟨xs,u⟩:=x
 cases u
 have fin:∀ {avs:List AV} {hs:Hints},su P (fun _=>⟨undef,0,[]⟩) (fun b=>Imm b∧b < w.heap.size) w avs [v]→(∀ v∈avs,v.hds=[])→avs.length≤fn.ntmps→ev E (fA fn) hs (ik avs fn.ntmps) (F5 E.T one fr fn.results.toList r)=some y →
   Calls P f [v].toArray w fun e w'=>bB bj w w'∧∃ cs',e=.returned (ky one r cs')∧SI P fr r Imm w w' cs' y:=by
  intro avs hs hav hh hn hev
  refine (LX hE hm hf hb g2 g4 hav hh hn (fun b hb=>hb.2) hev).mono fun e w' hq=>?_
  obtain ⟨k1,cs',k2,k3⟩:=hq
  refine ⟨k1,cs',k2,?_⟩
  cases fr with
  | false=>exact k3.imm fun b hb=>hb.imp (·.1) id
  | true=>exact k3
 by_cases hnil:v=.slice none 0 0
 ·subst hnil
  obtain ⟨ad,cap,e5,_,_,_⟩:=e3
  simp only [List.cons.injEq,Value.slice.injEq,and_true] at e5
  have:xs=[]:=List.eq_nil_of_length_eq_zero e5.2.1.symm
  subst this
  refine (fin (avs:=[.leaf .nil]) ⟨_,[],rfl,rfl,rfl⟩ (by simp [AV.hds,Leaf.hds]) (by simpa using g3) (h1.trans hy)).mono fun e w' hq=>?_
  obtain ⟨k1,cs',k2,k3⟩:=hq
  refine ⟨k1,cs',k2,?_⟩
  cases fr <;> exact k3
 ·refine (fin (avs:=[.leaf (.viewN t xs)]) ⟨_,[],rfl,⟨e3,hnil⟩,rfl⟩ (by simp [AV.hds,Leaf.hds]) (by simpa using g3) ((h2 xs).trans hy)).mono fun e w' hq=>?_
  obtain ⟨k1,cs',k2,k3⟩:=hq
  refine ⟨k1,cs',k2,?_⟩
  cases fr <;> exact k3
def Uu (T:Tab) (rvs:List ResultVar) (t:Ty) (e:Ex) (st:St):Option t.D :=
 match e with
 | .exit _=>none
 | _=>vN T st rvs fun vs=>match vs with
  | [.leaf (.box o 0)]=>match aq st.h o with
   | .box _ cs=>bP st.h t cs [] fun x r os=>K2 r os (some x)
   | _=>none
  | _=>none
theorem Uv {P:Program} {E:Env} (hE:ar P E) (hm:P.follows .mixedOrders=true) {f:FuncId} {fn:Func} (a t:Ty) (F:a.D→Option t.D) (hs:Hints) (hf:P.funcs[f]?=some fn)
  (hok:wH fn true (gT a)=true) (hev:∀ x,ev E (fA fn) hs (ik (jb a x) fn.ntmps) (Uu E.T fn.results.toList t)=F x):cS P f (.box a t F):=by
 have hb:fn.body=some (fA fn):=by
  unfold fA
  cases hx:fn.body with
  | none=>unfold wH at hok;rw [hx] at hok;cases hok
  | some c=>rfl
 obtain ⟨h1,h2,h3,h4⟩:=rX hf hb hok
 refine ⟨h1,fun Imm w cs x y hx hI hy=>?_⟩
 have hav:=sC (σ:=fun _=>⟨undef,0,[]⟩) hx
 have hn:(jb a x).length≤fn.ntmps:=by rw [lK];exact h3
 refine calls_of_wp hf hb ?_
 have R0:=K9 (n:=fn.ntmps) hav (sD a x) hn hI
 have hlen:(ik (jb a x) fn.ntmps).t.length=fn.ntmps:=by simp [ik];omega
 refine wp_mono ((Bi (M:=bj) (Fz:=fun b=>w.heap.size≤b) (w0:=w) hE hm (fun _ b hb=>hb.elim id fun h=>h.elim) (fA fn) hs).use R0 (fun d hdm=>by rw [hlen];exact SH h2 d hdm) ((hev x).trans hy)) fun ex a' w' hp=>?_
 obtain ⟨e,st',σ',Imm',rfl,k2,R',ev',hl,hun⟩:=hp
 have hex:e=.normal∨e=.ret:=by unfold Uu at k2;cases e with | exit _=>cases k2 | normal=>exact .inl rfl | ret=>exact .inr rfl
 have k3:(vN E.T st' fn.results.toList fun vs=>match vs with
  | [.leaf (.box o 0)]=>match aq st'.h o with
   | .box _ cs=>bP st'.h t cs [] fun x r os=>K2 r os (some x)
   | _=>none
  | _=>none)=some y:=by
  unfold Uu at k2
  rcases hex with rfl | rfl <;> exact k2
 obtain ⟨rvs,us,g1,g2,g3,g4,g5⟩:=oF hE.1 R' k3
 have hru:=ur (fn:=fn) g4
 split at g1
 ·rename_i q
  split at g1
  ·rename_i ro ls hq
   have hob:=R'.ob q
   rw [hq] at hob
   obtain ⟨cv,ty,o1,o2,o3⟩:=hob
   obtain ⟨x',rest,os,w1,w2,n1,n2,n3,n4,n5,n6⟩:=eF R' o2 (R'.cb _ _ _ hq) g1
   obtain ⟨e1,e2,n1⟩:=BN n1
   subst e1 e2
   cases n1
   cases n3
   simp only [List.append_nil] at n2
   obtain ⟨u,r',eu,hu,hr'⟩:=g2
   cases (hr':r'=[])
   subst eu
   have hu:u=.pointer (some ⟨(σ' q).b,0,none⟩):=hu
   have hlv:(aq st'.h q).live=true:=by rw [hq];rfl
   have hnd:=(R'.nd q hlv).2 (σ' q).b (by rw [o3];simp)
   have main:a'.defers=[]∧∃ v,(results fn a'.tmps).run P w'=.ok v w'∧(bB bj w w'∧∃ b c ty,Ending.returned v=.returned (.pointer (some ⟨b,0,none⟩))∧w.heap.size≤b∧w'.heap[b]?=some (.cells c ty (0,0)) ∧
     Rd P t (fun k=>Imm k∨(w.heap.size≤k∧k < w'.heap.size∧k≠b)) w' c.toList y):=by
    refine ⟨R'.defers,u,by rw [hru];simp,R'.keep,(σ' q).b,cv,ty,by rw [hu],?_,o1,?_⟩
    ·rcases hnd.2 with h | h
     ·exact h
     ·exact h.elim
    ·rw [n2]
     refine n5.imm fun b hb=>?_
     have hb:=fQ.nil hb
     rcases Nat.lt_or_ge b w.heap.size with h | h
     ·exact .inl ((ev'.nw b h hb).elim id fun h'=>absurd h' (Nat.not_le.2 h))
     ·exact .inr ⟨h,R'.imm b hb,fun e=>hnd.1 (e ▸ hb)⟩
   rcases hex with rfl | rfl <;> exact main
  ·cases g1
 ·cases g1
end Go.Abs
