/- Part of a proof of FnExactPlay: see the row. -/
import Derived.Test.YtenadnbpibhmiaaGreatPlAbsEv
import Derived.Below
import Derived.Laws.AppendOwn
set_option linter.unusedVariables false
set_option linter.unusedSimpArgs false
namespace Go.Abs
open Go.RowKit
structure bg (M:Nat→Prop) (w w':World):Prop where
 os:w'.os=w.os
 tape:w'.tape=w.tape
 output:w'.output=w.output
 size:w.heap.size≤w'.heap.size
 block:∀ k,k < w.heap.size→¬ M k→w'.heap[k]?=w.heap[k]?
def aV:Nat→Prop:=fun _=>False
theorem bg.refl (M:Nat→Prop) (w:World):bg M w w:=⟨rfl,rfl,rfl,Nat.le_refl _,fun _ _ _=>rfl⟩
theorem bg.trans {M:Nat→Prop} {a b c:World} (h:bg M a b) (k:bg M b c):bg M a c :=
 ⟨k.os.trans h.os,k.tape.trans h.tape,k.output.trans h.output,Nat.le_trans h.size k.size,fun i hi hm=>(k.block i (Nat.lt_of_lt_of_le hi h.size) hm).trans (h.block i hi hm)⟩
theorem bg.mono {M M':Nat→Prop} {w w':World} (h:bg M w w') (hm:∀ k,k < w.heap.size→M k→M' k):bg M' w w' :=
 ⟨h.os,h.tape,h.output,h.size,fun k hk hn=>h.block k hk fun m=>hn (hm k hk m)⟩
theorem bg.below {w w':World} (h:bg aV w w'):Below w.heap.size w w':=⟨h.os,h.tape,h.output,h.size,fun k hk=>h.block k hk id⟩
theorem bg.alloc (w:World) (o:Obj):bg aV w (w.alloc o):=⟨rfl,rfl,rfl,by simp,fun k hk _=>Below.heap_alloc w o k hk⟩
theorem bg.drew (w:World):bg aV w w.drew:=⟨rfl,rfl,rfl,Nat.le_refl _,fun _ _ _=>rfl⟩
def dD (w:World) (b:Nat):Nat→List Value→Prop
 | _,[]=>True
 | o,v :: vs=>w.cell? ⟨b,o,none⟩=some v∧dD w b (o + 1) vs
theorem fB {w w':World} {b:Nat} (h:w'.heap[b]?=w.heap[b]?):∀ (vs:List Value) (o:Nat),dD w b o vs→dD w' b o vs
 | [],_,_=>trivial
 | v :: vs,o,⟨h1,h2⟩=>⟨(World.cell?_of_block (w:=w) (a:=⟨b,o,none⟩) h).trans h1,fB h vs (o + 1) h2⟩
theorem b8 {w:World} {b:Nat}:∀ (vs:List Value) (o:Nat),dD w b o vs↔∀ j v,vs[j]?=some v→w.cell? ⟨b,o + j,none⟩=some v
 | [],o=>by simp [dD]
 | u :: us,o=>by
  have ih:=b8 (w:=w) (b:=b) us (o + 1)
  simp only [dD,ih]
  constructor
  ·rintro ⟨h1,h2⟩ j v hj
   cases j with
   | zero=>simp only [List.getElem?_cons_zero,Option.some.injEq] at hj;subst hj;exact h1
   | succ j=>have:=h2 j v (by simpa using hj);rwa [show o + 1 + j=o + (j + 1) by omega] at this
  ·intro h
   exact ⟨h 0 u rfl,fun j v hj=>by have:=h (j + 1) v (by simpa using hj);rwa [show o + (j + 1)=o + 1 + j by omega] at this⟩
def valOf (t:Ty) (cs:List Value):Value :=
 match t.isStruct with
 | true=>.agg cs.toArray
 | false=>cs.headD undef
def argsOf:Ty→List Value→List Value
 | .pair t r,cs=>valOf t (cs.take t.n) :: argsOf r (cs.drop t.n)
 | _,_=>[]
def Rd (P:Program):(t:Ty)→(Nat→Prop)→World→List Value→t.D→Prop
 | .int k,_,_,vs,n=>vs=[.int k n]
 | .bool,_,_,vs,b=>vs=[.bool b]
 | .hd,_,_,vs,b=>vs=[hv b]
 | .slice t,Imm,w,vs,xs=>∃ a cap,vs=[.slice a xs.length cap]∧xs.length≤cap∧(a=none→cap=0) ∧
   ∀ i x,xs[i]?=some x→∃ b off cs,a=some ⟨b,off,none⟩∧Imm b∧b < w.heap.size∧cs.length=t.n∧dD w b (off + i * t.n) cs∧Rd P t Imm w cs x
 | .unit,_,_,vs,_=>vs=[]
 | .pair a b,Imm,w,vs,x=>∃ v1 v2,vs=v1++v2∧v1.length=a.n∧Rd P a Imm w v1 x.1∧Rd P b Imm w v2 x.2
 | .fn a r,Imm,w,vs,p=>∃ (f:FuncId) (caps:Array Value),vs=[.func (.func f) #[] caps]∧(P.funcs[f]?).any (fun fn=>fn.body.isSome && fn.name != "runtime.NumGoroutine")=true ∧
   ∀ Imm' w' cs x y,(∀ b,Imm b→b < w.heap.size→w'.heap[b]?=w.heap[b]?)→Rd P a Imm' w' cs x→p x=some y →
    Calls P f ((argsOf a cs).toArray++caps) w' fun e w''=>bg aV w' w''∧∃ cs',e=.returned (valOf r cs')∧Rd P r aV w'' cs' y
 | .vw t,Imm,w,vs,xs=>∃ a cap,vs=[.slice a xs.length cap]∧xs.length≤cap∧(a=none→cap=0) ∧
   ∀ i x,xs[i]?=some x→∃ b off cs,a=some ⟨b,off,none⟩∧Imm b∧b < w.heap.size∧cs.length=t.n∧dD w b (off + i * t.n) cs∧Rd P t Imm w cs x
theorem Rd.length {P:Program}:∀ {t:Ty} {Imm:Nat→Prop} {w:World} {vs:List Value} {x:t.D},Rd P t Imm w vs x→vs.length=t.n
 | .int _,_,_,_,_,h=>by cases h;rfl
 | .bool,_,_,_,_,h=>by cases h;rfl
 | .hd,_,_,_,_,h=>by cases h;rfl
 | .slice _,_,_,_,_,⟨_,_,h,_⟩=>by cases h;rfl
 | .unit,_,_,_,_,h=>by cases h;rfl
 | .pair a b,_,_,_,_,⟨v1,v2,h,h1,_,h2⟩=>by cases h;simp [h1,h2.length,Ty.n]
 | .fn _ _,_,_,_,_,⟨_,_,h,_⟩=>by cases h;rfl
 | .vw _,_,_,_,_,⟨_,_,h,_⟩=>by cases h;rfl
theorem Rd.keep {P:Program}:∀ {t:Ty} {Imm Imm':Nat→Prop} {w w':World} {vs:List Value} {x:t.D},Rd P t Imm w vs x→(∀ b,Imm b→b < w.heap.size→Imm' b∧b < w'.heap.size∧w'.heap[b]?=w.heap[b]?)→Rd P t Imm' w' vs x
 | .int _,_,_,_,_,_,_,h,_=>h
 | .bool,_,_,_,_,_,_,h,_=>h
 | .hd,_,_,_,_,_,_,h,_=>h
 | .slice t,_,_,_,_,_,_,⟨a,cap,h1,h2,h3,h4⟩,hk=>⟨a,cap,h1,h2,h3,fun i x hx=>by
   obtain ⟨b,off,cs,e,hb,hl,hc,hcs,hr⟩:=h4 i x hx
   obtain ⟨k1,k2,k3⟩:=hk b hb hl
   exact ⟨b,off,cs,e,k1,k2,hc,fB k3 _ _ hcs,hr.keep hk⟩⟩
 | .unit,_,_,_,_,_,_,h,_=>h
 | .pair a b,_,_,_,_,_,_,⟨v1,v2,h,h1,h2,h3⟩,hk=>⟨v1,v2,h,h1,h2.keep hk,h3.keep hk⟩
 | .fn a r,_,_,_,_,_,_,⟨f,caps,h1,h2,h3⟩,hk=>⟨f,caps,h1,h2,fun I v cs x y hv hr hp =>
   h3 I v cs x y (fun b hb hl=>by obtain ⟨k1,k2,k3⟩:=hk b hb hl;exact (hv b k1 k2).trans k3) hr hp⟩
 | .vw t,_,_,_,_,_,_,⟨a,cap,h1,h2,h3,h4⟩,hk=>⟨a,cap,h1,h2,h3,fun i x hx=>by
   obtain ⟨b,off,cs,e,hb,hl,hc,hcs,hr⟩:=h4 i x hx
   obtain ⟨k1,k2,k3⟩:=hk b hb hl
   exact ⟨b,off,cs,e,k1,k2,hc,fB k3 _ _ hcs,hr.keep hk⟩⟩
def rq (I I':Nat→Prop) (w w':World):Prop:=∀ b,I b→b < w.heap.size→I' b∧b < w'.heap.size∧w'.heap[b]?=w.heap[b]?
theorem rq.refl (I:Nat→Prop) (w:World):rq I I w w:=fun _ h k=>⟨h,k,rfl⟩
theorem rq.mono {I J:Nat→Prop} (w:World) (h:∀ b,I b→J b):rq I J w w:=fun b k l=>⟨h b k,l,rfl⟩
theorem bg.still {M:Nat→Prop} {I:Nat→Prop} {w w':World} (h:bg M w w') (hm:∀ b,I b→¬ M b):rq I I w w':=fun b hb hl=>⟨hb,Nat.lt_of_lt_of_le hl h.size,h.block b hl (hm b hb)⟩
theorem bg.still0 {I:Nat→Prop} {w w':World} (h:bg aV w w'):rq I I w w':=h.still fun _ _=>id
theorem Ty.er_n:∀ t:Ty,t.er.n=t.n
 | .int _ | .bool | .unit | .fn _ _ | .slice _ | .vw _ | .hd=>rfl
 | .pair a b=>by simp only [Ty.er,Ty.n,Ty.er_n a,Ty.er_n b]
theorem xV {α β:Type} (h:α=β) (xs:List α) (i:Nat):(cast (congrArg List h) xs)[i]?=(xs[i]?).map (cast h):=by cases h;show xs[i]?=_;cases xs[i]? <;> rfl
theorem oW {α β:Type} (h:α=β) (xs:List α):(cast (congrArg List h) xs).length=xs.length:=by cases h;rfl
theorem OX {α β γ δ:Type} (h:α=γ) (k:β=δ) (e:(α×β)=(γ×δ)) (x:α×β):(cast e x).1=cast h x.1∧(cast e x).2=cast k x.2:=by cases h;cases k;exact ⟨rfl,rfl⟩
theorem Rd.toEr {P:Program} {I:Nat→Prop} {w:World}:∀ {t:Ty} {vs:List Value} {x:t.D},Rd P t I w vs x→Rd P t.er I w vs (cast (Ty.erD t).symm x)
 | .int _,_,_,h=>h
 | .bool,_,_,h=>h
 | .hd,_,_,h=>h
 | .unit,_,_,h=>h
 | .fn _ _,_,_,h=>h
 | .slice t,_,xs,⟨a,cap,h1,h2,h3,h4⟩=>by
  have e:=oW (Ty.erD t).symm xs
  refine ⟨a,cap,by rw [h1];show _=[Value.slice a (cast (congrArg List (Ty.erD t).symm) xs).length cap];rw [e],by show (cast (congrArg List (Ty.erD t).symm) xs).length≤cap;rw [e];exact h2,h3,fun i x hx=>?_⟩
  have hx:(cast (congrArg List (Ty.erD t).symm) xs)[i]?=some x:=hx
  rw [xV (Ty.erD t).symm] at hx
  obtain ⟨y,hy,rfl⟩:=Option.map_eq_some_iff.1 hx
  obtain ⟨b,off,cs,g1,g2,g3,g4,g5,g6⟩:=h4 i y hy
  exact ⟨b,off,cs,g1,g2,g3,by rw [Ty.er_n];exact g4,by rw [Ty.er_n];exact g5,g6.toEr⟩
 | .vw t,_,xs,⟨a,cap,h1,h2,h3,h4⟩=>by
  have e:=oW (Ty.erD t).symm xs
  refine ⟨a,cap,by rw [h1];show _=[Value.slice a (cast (congrArg List (Ty.erD t).symm) xs).length cap];rw [e],by show (cast (congrArg List (Ty.erD t).symm) xs).length≤cap;rw [e];exact h2,h3,fun i x hx=>?_⟩
  have hx:(cast (congrArg List (Ty.erD t).symm) xs)[i]?=some x:=hx
  rw [xV (Ty.erD t).symm] at hx
  obtain ⟨y,hy,rfl⟩:=Option.map_eq_some_iff.1 hx
  obtain ⟨b,off,cs,g1,g2,g3,g4,g5,g6⟩:=h4 i y hy
  exact ⟨b,off,cs,g1,g2,g3,by rw [Ty.er_n];exact g4,by rw [Ty.er_n];exact g5,g6.toEr⟩
 | .pair a b,_,x,⟨v1,v2,h1,h2,h3,h4⟩=>by
  obtain ⟨e1,e2⟩:=OX (Ty.erD a).symm (Ty.erD b).symm (Ty.erD (.pair a b)).symm x
  refine ⟨v1,v2,h1,by rw [Ty.er_n];exact h2,?_,?_⟩
  ·exact (congrArg (Rd P a.er I w v1) e1).mpr h3.toEr
  ·exact (congrArg (Rd P b.er I w v2) e2).mpr h4.toEr
theorem Rd.ofEr {P:Program} {I:Nat→Prop} {w:World}:∀ {t:Ty} {vs:List Value} {x:t.D},Rd P t.er I w vs (cast (Ty.erD t).symm x)→Rd P t I w vs x
 | .int _,_,_,h=>h
 | .bool,_,_,h=>h
 | .hd,_,_,h=>h
 | .unit,_,_,h=>h
 | .fn _ _,_,_,h=>h
 | .slice t,_,xs,⟨a,cap,h1,h2,h3,h4⟩=>by
  have e:=oW (Ty.erD t).symm xs
  have h1:_=[Value.slice a (cast (congrArg List (Ty.erD t).symm) xs).length cap]:=h1
  have h2:(cast (congrArg List (Ty.erD t).symm) xs).length≤cap:=h2
  rw [e] at h1 h2
  refine ⟨a,cap,h1,h2,h3,fun i x hx=>?_⟩
  have hy:(cast (congrArg List (Ty.erD t).symm) xs)[i]?=some (cast (Ty.erD t).symm x):=by rw [xV (Ty.erD t).symm,hx];rfl
  obtain ⟨b,off,cs,g1,g2,g3,g4,g5,g6⟩:=h4 i _ hy
  rw [Ty.er_n] at g4 g5
  exact ⟨b,off,cs,g1,g2,g3,g4,g5,g6.ofEr⟩
 | .vw t,_,xs,⟨a,cap,h1,h2,h3,h4⟩=>by
  have e:=oW (Ty.erD t).symm xs
  have h1:_=[Value.slice a (cast (congrArg List (Ty.erD t).symm) xs).length cap]:=h1
  have h2:(cast (congrArg List (Ty.erD t).symm) xs).length≤cap:=h2
  rw [e] at h1 h2
  refine ⟨a,cap,h1,h2,h3,fun i x hx=>?_⟩
  have hy:(cast (congrArg List (Ty.erD t).symm) xs)[i]?=some (cast (Ty.erD t).symm x):=by rw [xV (Ty.erD t).symm,hx];rfl
  obtain ⟨b,off,cs,g1,g2,g3,g4,g5,g6⟩:=h4 i _ hy
  rw [Ty.er_n] at g4 g5
  exact ⟨b,off,cs,g1,g2,g3,g4,g5,g6.ofEr⟩
 | .pair a b,_,x,⟨v1,v2,h1,h2,h3,h4⟩=>by
  obtain ⟨e1,e2⟩:=OX (Ty.erD a).symm (Ty.erD b).symm (Ty.erD (.pair a b)).symm x
  rw [Ty.er_n] at h2
  have h3:=(congrArg (Rd P a.er I w v1) e1).mp h3
  have h4:=(congrArg (Rd P b.er I w v2) e2).mp h4
  exact ⟨v1,v2,h1,h2,h3.ofEr,h4.ofEr⟩
theorem nD {R:Type} {r:R} {P:Program} {I:Nat→Prop} {w:World} {t t':Ty} {xs:List t.D} {κ:List t'.D→Option R} (h:qi t t' xs κ=some r) :
  ∃ ys,κ ys=some r∧t.n=t'.n∧∀ v,Rd P (.slice t) I w v xs→Rd P (.slice t') I w v ys:=by
 unfold qi at h
 split at h
 ·rename_i e;cases e;exact ⟨xs,h,rfl,fun _ h=>h⟩
 ·split at h
  ·rename_i e
   refine ⟨_,h,by rw [← Ty.er_n t,e,Ty.er_n],fun v hr=>Rd.ofEr (t:=.slice t') ?_⟩
   have h1:=Rd.toEr hr
   have key:∀ {u:Ty} (hu:t.er=u) (q:List t.D=List u.D),Rd P (.slice u) I w v (cast q xs):=by
    intro u hu q
    subst hu
    exact h1
   have h2:=key e ((congrArg List ((Ty.erD t).symm.trans (congrArg Ty.D e))))
   simp only [cast_cast] at h2 ⊢
   exact h2
  ·cases h
def Own (P:Program) (I:Nat→Prop):(t:Ty)→World→List Value→t.D→List Nat→Prop
 | .int k,_,vs,n,fp=>vs=[.int k n]∧fp=[]
 | .bool,_,vs,b,fp=>vs=[.bool b]∧fp=[]
 | .hd,_,vs,b,fp=>vs=[hv b]∧fp=[]
 | .slice t,w,vs,xs,fp=>(vs=[.slice none 0 0]∧xs=[]∧fp=[]) ∨
   ∃ (g cap:Nat) (cur:Array Value) (ty:TypeId) (fps:List (List Nat)),vs=[.slice (some ⟨g,0,none⟩) xs.length cap]∧w.heap[g]?=some (.cells cur ty (0,0))∧xs.length≤cap∧cap≤maxLen∧cur.size=cap * t.n ∧
    fps.length=xs.length∧fp=g :: fps.flatten ∧
    ∀ i x fp',xs[i]?=some x→fps[i]?=some fp'→∃ cs,cs.length=t.n∧dD w g (i * t.n) cs∧Own P I t w cs x fp'
 | .unit,_,vs,_,fp=>vs=[]∧fp=[]
 | .pair a b,w,vs,x,fp=>∃ v1 v2 f1 f2,vs=v1++v2∧v1.length=a.n∧fp=f1++f2∧Own P I a w v1 x.1 f1∧Own P I b w v2 x.2 f2
 | .fn _ _,_,_,_,_=>False
 | .vw t,w,vs,xs,fp=>Rd P (.vw t) I w vs xs∧fp=[]
section
variable {P:Program} {I J:Nat→Prop}
theorem Own.length:∀ {t:Ty} {w:World} {vs:List Value} {x:t.D} {fp:List Nat},Own P I t w vs x fp→vs.length=t.n
 | .int _,_,_,_,_,h=>by cases h.1;rfl
 | .bool,_,_,_,_,h=>by cases h.1;rfl
 | .hd,_,_,_,_,h=>by cases h.1;rfl
 | .slice _,_,_,_,_,h=>by
  rcases h with ⟨h,_⟩ | ⟨_,_,_,_,_,h,_⟩ <;> (cases h;rfl)
 | .unit,_,_,_,_,h=>by cases h.1;rfl
 | .pair a b,_,_,_,_,⟨v1,v2,_,_,h,h1,_,_,h2⟩=>by cases h;simp [h1,h2.length,Ty.n]
 | .vw _,_,_,_,_,h=>h.1.length
theorem Own.keep:∀ {t:Ty} {w w':World} {vs:List Value} {x:t.D} {fp:List Nat},Own P I t w vs x fp→(∀ b∈fp,w'.heap[b]?=w.heap[b]?)→rq I J w w'→Own P J t w' vs x fp
 | .int _,_,_,_,_,_,h,_,_=>h
 | .bool,_,_,_,_,_,h,_,_=>h
 | .hd,_,_,_,_,_,h,_,_=>h
 | .slice t,_,_,_,_,_,h,hk,hs=>by
  rcases h with h | ⟨g,cap,cur,ty,fps,h1,h2,h3,h4,h5,h6,h7,h8⟩
  ·exact .inl h
  ·subst h7
   refine .inr ⟨g,cap,cur,ty,fps,h1,(hk g (by simp)).trans h2,h3,h4,h5,h6,rfl,fun i x fp' hx hf=>?_⟩
   obtain ⟨cs,hc,hcs,hr⟩:=h8 i x fp' hx hf
   exact ⟨cs,hc,fB (hk g (by simp)) _ _ hcs,hr.keep (fun b hb=>hk b (List.mem_cons_of_mem _ (List.mem_flatten.2 ⟨fp',List.mem_of_getElem? hf,hb⟩))) hs⟩
 | .unit,_,_,_,_,_,h,_,_=>h
 | .pair a b,_,_,_,_,_,⟨v1,v2,f1,f2,h,h1,h2,h3,h4⟩,hk,hs=>by
  subst h2
  exact ⟨v1,v2,f1,f2,h,h1,rfl,h3.keep (fun b hb=>hk b (by simp [hb])) hs,h4.keep (fun b hb=>hk b (by simp [hb])) hs⟩
 | .vw _,_,_,_,_,_,h,_,hs=>⟨h.1.keep hs,h.2⟩
theorem Own.imm {t:Ty} {w:World} {vs:List Value} {x:t.D} {fp:List Nat} (h:Own P I t w vs x fp) (hi:∀ b,I b→J b):Own P J t w vs x fp:=h.keep (fun _ _=>rfl) (rq.mono w hi)
theorem Own.lt:∀ {t:Ty} {w:World} {vs:List Value} {x:t.D} {fp:List Nat},Own P I t w vs x fp→∀ b∈fp,b < w.heap.size
 | .int _,_,_,_,_,h,_,hb=>by rw [h.2] at hb;cases hb
 | .bool,_,_,_,_,h,_,hb=>by rw [h.2] at hb;cases hb
 | .hd,_,_,_,_,h,_,hb=>by rw [h.2] at hb;cases hb
 | .slice t,w,_,xs,_,h,b,hb=>by
  rcases h with h | ⟨g,cap,cur,ty,fps,h1,h2,h3,h4,h5,h6,h7,h8⟩
  ·rw [h.2.2] at hb;cases hb
  ·subst h7
   rcases List.mem_cons.1 hb with rfl | hb
   ·exact (Array.getElem?_eq_some_iff.1 h2).1
   ·obtain ⟨fp',hf,hb⟩:=List.mem_flatten.1 hb
    obtain ⟨i,hi⟩:=List.mem_iff_getElem?.1 hf
    have hlt:i < xs.length:=by rw [← h6];exact (List.getElem?_eq_some_iff.1 hi).1
    obtain ⟨cs,_,_,hr⟩:=h8 i xs[i] fp' (List.getElem?_eq_getElem hlt) hi
    exact hr.lt b hb
 | .unit,_,_,_,_,h,_,hb=>by rw [h.2] at hb;cases hb
 | .pair a b,_,_,_,_,⟨v1,v2,f1,f2,h,h1,h2,h3,h4⟩,_,hb=>by
  subst h2
  rcases List.mem_append.1 hb with hb | hb
  ·exact h3.lt _ hb
  ·exact h4.lt _ hb
 | .vw _,_,_,_,_,h,_,hb=>by rw [h.2] at hb;cases hb
theorem Own.rd:∀ {t:Ty} {w:World} {vs:List Value} {x:t.D} {fp:List Nat},Own P I t w vs x fp→(∀ b∈fp,J b)→(∀ b,I b→J b)→Rd P t J w vs x
 | .int _,_,_,_,_,h,_,_=>h.1
 | .bool,_,_,_,_,h,_,_=>h.1
 | .hd,_,_,_,_,h,_,_=>h.1
 | .slice t,w,_,xs,_,h,hI,hJ=>by
  rcases h with ⟨h1,h2,h3⟩ | ⟨g,cap,cur,ty,fps,h1,h2,h3,h4,h5,h6,h7,h8⟩
  ·subst h2;exact ⟨none,0,h1,Nat.le_refl _,fun _=>rfl,fun i x hx=>by simp at hx⟩
  ·subst h7
   refine ⟨_,cap,h1,h3,fun h=>by simp at h,fun i x hx=>?_⟩
   have hlt:i < fps.length:=by rw [h6];exact (List.getElem?_eq_some_iff.1 hx).1
   obtain ⟨cs,hc,hcs,hr⟩:=h8 i x fps[i] hx (List.getElem?_eq_getElem hlt)
   exact ⟨g,0,cs,rfl,hI g (by simp),(Array.getElem?_eq_some_iff.1 h2).1,hc,by simpa using hcs,hr.rd (fun b hb=>hI b (List.mem_cons_of_mem _ (List.mem_flatten.2 ⟨_,List.getElem_mem hlt,hb⟩))) hJ⟩
 | .unit,_,_,_,_,h,_,_=>h.1
 | .pair a b,_,_,_,_,⟨v1,v2,f1,f2,h,h1,h2,h3,h4⟩,hI,hJ=>by
  subst h2
  exact ⟨v1,v2,h,h1,h3.rd (fun b hb=>hI b (by simp [hb])) hJ,h4.rd (fun b hb=>hI b (by simp [hb])) hJ⟩
 | .vw _,w,_,_,_,h,_,hJ=>h.1.keep (rq.mono w hJ)
theorem Rd.own:∀ {t:Ty} {w:World} {vs:List Value} {x:t.D},t.cop=true→Rd P t I w vs x→Own P I t w vs x []
 | .int _,_,_,_,_,h=>⟨h,rfl⟩
 | .bool,_,_,_,_,h=>⟨h,rfl⟩
 | .hd,_,_,_,_,h=>⟨h,rfl⟩
 | .unit,_,_,_,_,h=>⟨h,rfl⟩
 | .pair a b,_,_,_,hf,⟨v1,v2,h,h1,h3,h4⟩=>by
  simp only [Ty.cop,Bool.and_eq_true] at hf
  exact ⟨v1,v2,[],[],h,h1,rfl,Rd.own hf.1 h3,Rd.own hf.2 h4⟩
 | .vw _,_,_,_,_,h=>⟨h,rfl⟩
theorem Ty.flat_cop:∀ {t:Ty},t.flat=true→t.cop=true
 | .int _,_ | .bool,_ | .unit,_ | .hd,_=>rfl
 | .pair a b,h=>by
  simp only [Ty.flat,Bool.and_eq_true] at h
  simp only [Ty.cop,Bool.and_eq_true]
  exact ⟨Ty.flat_cop h.1,Ty.flat_cop h.2⟩
theorem Own.flat:∀ {t:Ty} {w w':World} {vs:List Value} {x:t.D} {fp:List Nat},t.flat=true→Own P I t w vs x fp→fp=[]∧Own P J t w' vs x []
 | .int _,_,_,_,_,_,_,h=>⟨h.2,h.1,rfl⟩
 | .bool,_,_,_,_,_,_,h=>⟨h.2,h.1,rfl⟩
 | .hd,_,_,_,_,_,_,h=>⟨h.2,h.1,rfl⟩
 | .unit,_,_,_,_,_,_,h=>⟨h.2,h.1,rfl⟩
 | .pair a b,_,_,_,_,_,hf,⟨v1,v2,f1,f2,h,h1,h2,h3,h4⟩=>by
  simp only [Ty.flat,Bool.and_eq_true] at hf
  obtain ⟨e1,k1⟩:=Own.flat (w':=_) hf.1 h3
  obtain ⟨e2,k2⟩:=Own.flat (w':=_) hf.2 h4
  exact ⟨by rw [h2,e1,e2];rfl,v1,v2,[],[],h,h1,rfl,k1,k2⟩
theorem Own.noVw:∀ {t:Ty} {w:World} {vs:List Value} {x:t.D} {fp:List Nat},t.noVw=true→Own P I t w vs x fp→Own P J t w vs x fp
 | .int _,_,_,_,_,_,h=>h
 | .bool,_,_,_,_,_,h=>h
 | .hd,_,_,_,_,_,h=>h
 | .unit,_,_,_,_,_,h=>h
 | .slice t,_,_,_,_,hn,h=>by
  rcases h with h | ⟨g,cap,cur,ty,fps,h1,h2,h3,h4,h5,h6,h7,h8⟩
  ·exact .inl h
  ·refine .inr ⟨g,cap,cur,ty,fps,h1,h2,h3,h4,h5,h6,h7,fun i x fp' hx hf=>?_⟩
   obtain ⟨cs,hc,hcs,hr⟩:=h8 i x fp' hx hf
   exact ⟨cs,hc,hcs,Own.noVw (t:=t) hn hr⟩
 | .pair a b,_,_,_,_,hn,⟨v1,v2,f1,f2,h,h1,h2,h3,h4⟩=>by
  simp only [Ty.noVw,Bool.and_eq_true] at hn
  exact ⟨v1,v2,f1,f2,h,h1,h2,Own.noVw hn.1 h3,Own.noVw hn.2 h4⟩
 | .fn _ _,_,_,_,_,_,h=>h
theorem Own.cop:∀ {t:Ty} {w:World} {vs:List Value} {x:t.D} {fp:List Nat},t.cop=true→Own P I t w vs x fp→fp=[]
 | .int _,_,_,_,_,_,h=>h.2
 | .bool,_,_,_,_,_,h=>h.2
 | .hd,_,_,_,_,_,h=>h.2
 | .unit,_,_,_,_,_,h=>h.2
 | .vw _,_,_,_,_,_,h=>h.2
 | .pair a b,_,_,_,_,hf,⟨v1,v2,f1,f2,h,h1,h2,h3,h4⟩=>by
  simp only [Ty.cop,Bool.and_eq_true] at hf
  rw [h2,Own.cop hf.1 h3,Own.cop hf.2 h4];rfl
end
structure aS where
 v:Value
 b:Nat
 fp:List Nat
section
variable (P:Program) (σ:Hd→aS) (Imm:Nat→Prop) (w:World)
def LR:Leaf→Value→Prop
 | .undef,v=>v.oneCell'=true
 | .int k n,v=>v=.int k n
 | .bool b,v=>v=.bool b
 | .hd h,v=>v=hv h
 | .nil,v=>v=.slice none 0 0
 | .view t xs,v=>Rd P (.slice t) Imm w [v] xs
 | .viewN t xs,v=>Rd P (.slice t) Imm w [v] xs∧v≠.slice none 0 0
 | .own o,v=>v=(σ o).v∧v.oneCell'=true
 | .part o n lo hi,v=>∃ a len cap,(σ o).v=.slice a len cap∧lo≤hi∧hi≤len∧v=.slice (if cap=lo then a else a.map (·.add (lo * n))) (hi - lo) (cap - lo)
 | .box o off,v=>v=.pointer (some ⟨(σ o).b,off,none⟩)
 | .elem o n i off,v=>v=.pointer (some ⟨(σ o).b,i * n + off,none⟩)
 | .vis t x off,v=>∃ b o cs,v=.pointer (some ⟨b,o + off,none⟩)∧Imm b∧b < w.heap.size∧cs.length=t.n∧dD w b o cs∧Rd P t Imm w cs x
 | .fn f caps,v=>v=.func (.func f) #[] (caps.map fun o=>Value.pointer (some ⟨(σ o).b,0,none⟩)).toArray
 | .fnd a r p,v=>Rd P (.fn a r) Imm w [v] p
def LRs:List Leaf→List Value→Prop
 | [],vs=>vs=[]
 | l :: ls,vs=>∃ v r,vs=v :: r∧LR P σ Imm w l v∧LRs ls r
def Lg:List (Bool×List Leaf)→List Value→Prop
 | [],vs=>vs=[]
 | (ag,ls) :: t,vs=>∃ v r cs,vs=v :: r∧LRs P σ Imm w ls cs∧(match ag with | true=>v=.agg cs.toArray | false=>cs=[v])∧Lg t r
def AVR:AV→Value→Prop
 | .any,_=>True
 | .skip,v=>v=undef
 | .leaf l,v=>LR P σ Imm w l v
 | .agg ls,v=>∃ cs,v=.agg cs.toArray∧LRs P σ Imm w ls cs
 | .tup ts,v=>∃ vs,v=.tuple vs.toArray∧Lg P σ Imm w ts vs
def ObR (o:Hd):aw→Prop
 | .none=>True
 | .dead=>True
 | .box _ ls=>∃ (c:Array Value) (ty:TypeId),w.heap[(σ o).b]?=some (.cells c ty (0,0))∧LRs P σ Imm w ls c.toList∧(σ o).fp=[(σ o).b]
 | .arr _ t xs=>Own P Imm (.slice t) w [(σ o).v] xs (σ o).fp∧(∀ a n c,(σ o).v=.slice (some a) n c→a=⟨(σ o).b,0,none⟩)
end
def aw.live:aw→Bool
 | .box _ _ | .arr _ _ _=>true
 | _=>false
def aw.there:aw→Bool
 | .none=>false
 | _=>true
def Leaf.hds:Leaf→List Hd
 | .own o | .part o _ _ _ | .box o _ | .elem o _ _ _=>[o]
 | .fn _ caps=>caps
 | _=>[]
def aN:List Leaf→List Hd
 | []=>[]
 | l :: r=>l.hds++aN r
def AV.hds:AV→List Hd
 | .any | .skip=>[]
 | .leaf l=>l.hds
 | .agg ls=>aN ls
 | .tup ts=>ts.flatMap fun x=>aN x.2
def aK (h:List (List aw)) (l:List Hd):Prop:=∀ o∈l,(aj h o).there=true
structure Rel (P:Program) (M:Nat→Prop) (w0:World) (σ:Hd→aS) (Imm:Nat→Prop) (st:St) (a:Act) (w:World):Prop where
 len:st.t.length=a.tmps.size
 hlen:st.h.length=st.t.length
 defers:a.defers=[]
 tm:∀ i,AVR P σ Imm w (cZ st.t i) (a.tmps.getD i undef)
 ob:∀ o,ObR P σ Imm w o (aj st.h o)
 ct:∀ i,aK st.h (cZ st.t i).hds
 cb:∀ o ro ls,aj st.h o=.box ro ls→aK st.h (aN ls)
 nd:∀ o,(aj st.h o).live=true→(σ o).fp.Nodup∧∀ b∈(σ o).fp,¬ Imm b∧(w0.heap.size≤b∨M b)
 dj:∀ o o',o≠o'→(aj st.h o).live=true→(aj st.h o').live=true→∀ b∈(σ o).fp,b ∉ (σ o').fp
 imm:∀ b,Imm b→b < w.heap.size
 keep:bg M w0 w
end Go.Abs
