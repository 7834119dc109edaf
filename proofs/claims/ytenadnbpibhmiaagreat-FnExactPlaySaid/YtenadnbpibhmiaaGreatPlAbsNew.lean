/- Part of a proof of FnExactPlay: see the row. -/
import Derived.Test.YtenadnbpibhmiaaGreatPlAbsOps13
import Derived.Laws.MakeOwn
import Derived.Lib.AppendZeros
set_option linter.unusedVariables false
set_option linter.unusedSimpArgs false
namespace Go.Abs
open Go.RowKit
section
variable {P:Program} {M:Nat→Prop} {w0:World} {σ:Hd→aS} {Imm:Nat→Prop} {st:St} {a:Act} {w:World} {o:Oper} {E:Env}
theorem yc {T:Tab} {t:Nat} {te:TI} (hT:fU P T) (h:Ew T t=some te) :
  ∃ e,P.underlying t=some (.slice e)∧EA P e te:=by
 unfold Ew at h
 split at h
 ·rename_i ti hl
  have hk:=(hT t ti hl).k
  split at h
  ·rename_i e hk1
   rw [hk1] at hk
   exact ⟨e,hk.1,hT e te h⟩
  ·cases h
 ·cases h
theorem S9 {x y:Operand} (h:ST x y=true):x=y:=by
 cases x <;> cases y <;> simp [ST] at h
 rw [h]
theorem tT {z:List Value} {n t:Nat} (hz:z.length=t) (ht:0 < t) {i k:Nat} (hi:i < n) {v:Value} (hk:z[k]?=some v):(madeCells z.toArray (n * t)).toList[i * t + k]?=some v:=by
 have hkt:k < t:=by rw [← hz];exact (List.getElem?_eq_some_iff.1 hk).1
 have hlt:i * t + k < n * t:=by
  have:=Nat.mul_le_mul_right t (show i + 1≤n by omega)
  rw [Nat.add_mul] at this
  omega
 have hm:(i * t + k) % t=k:=by rw [Nat.mul_comm,Nat.mul_add_mod,Nat.mod_eq_of_lt hkt]
 simp [madeCells,hlt,hz,hm,hk]
theorem Ul {R:Type} {r:R} {T:Nat} {x y:Operand} {κ:Dl→Option R} (R0:Rel P M w0 σ Imm st a w) (hd:∀ i,o.dst=some i→i < st.t.length) (hT:fU P E.T)
  (ho:o.op=.makeSlice T x y) (h:If E st o.dst T x y κ=some r):∃ δ,κ δ=some r∧aU P M w0 o st a w σ Imm δ:=by
 unfold If at h
 split at h
 ·rename_i t te d k n hel hte hdst hxy hx
  have hxy:=S9 hxy
  subst hxy
  obtain ⟨e,i,z,hu,hi,hs,hb,hn,hz,hzs⟩:=cw hT hel
  obtain ⟨e',hu',hti⟩:=yc hT hte
  rw [hu] at hu'
  cases hu'
  obtain ⟨i',z',hi',hs',hz',hz2,hz3⟩:=hti.info
  rw [hi] at hi'
  cases hi'
  rw [hz] at hz'
  cases hz'
  have hzr:LRs P σ Imm w te.zero z.cells.toList:=by rw [← hz2];exact eM _ hz3
  obtain ⟨y,rest,ws,fp,v1,v2,k1,k2,k3,k4,k5⟩:=d9 R0 hzr (dF.nil st) h
  split at k1
  ·cases k3
   simp only [List.append_nil] at k2
   subst k2
   split at k1
   ·rename_i h0
    split at k1
    ·rename_i hroom
     have hfp:fp=[]:=by
      obtain ⟨ks,e1,e2⟩:=k5.ks
      simp only [aq,List.append_nil] at e1
      subst e1
      cases fp with
      | nil=>rfl
      | cons b fp=>obtain ⟨q,hq,_⟩:=e2 b (by simp);cases hq
     subst hfp
     have ex:=R0.avI hx
     have hmul:n.toNat * i.bytes≤1099511627776:=by
      refine Nat.le_trans (Nat.mul_le_mul_left _ hb) (Nat.le_trans hroom (by simp [aC]))
     have hn24:n.toNat≤1099511627776:=by
      have h24:1≤24 * t.n:=by omega
      have h2:=Nat.mul_le_mul_left n.toNat h24
      rw [Nat.mul_one] at h2
      exact Nat.le_trans h2 (Nat.le_trans hroom (by simp [aC]))
     have hnn:(n.toNat:Int)=n:=Int.toNat_of_nonneg h0
     have hbytes:(i.bytes:Int) * n≤281474976710656:=by
      have:((n.toNat * i.bytes:Nat):Int)≤1099511627776:=Int.ofNat_le.2 hmul
      rw [Int.natCast_mul,hnn,Int.mul_comm] at this
      omega
     have hrun:=run_make (P:=P) w T e i z hu hi hz k k n n h0 (Int.le_refl _) hbytes (by omega)
     rw [hs] at hrun
     refine ⟨_,k1,aU.arr1 R0 hd hdst (dF.nil st) aA (v:=.slice (some ⟨w.heap.size,0,none⟩) n.toNat n.toNat) (fp:=w.heap.size :: (List.replicate n.toNat ([]:List Nat)).flatten) ?_ ((bg.alloc w (.cells (madeCells z.cells (n.toNat * t.n)) e)).mono fun _ _ h=>h.elim) ?_ ?_ ?_⟩
     ·simp only [execOp,ho,ex,Sem.run_bind,hrun,Result.andThen_ok]
      rfl
     ·have hg:(w.alloc (.cells (madeCells z.cells (n.toNat * t.n)) e)).heap[w.heap.size]?=some (.cells (madeCells z.cells (n.toNat * t.n)) e (0,0)):=heap_alloc_new w _
      have hels:Els P Imm t (w.alloc (.cells (madeCells z.cells (n.toNat * t.n)) e)) (madeCells z.cells (n.toNat * t.n)).toList (List.replicate n.toNat y) (List.replicate n.toNat []):=by
       refine ⟨by simp,by simp [madeCells],fun j u f hu hf=>?_⟩
       obtain ⟨hj,rfl⟩:j < n.toNat∧y=u:=by
        rw [List.getElem?_replicate] at hu
        split at hu
        ·rename_i hj;exact ⟨hj,by simpa using hu⟩
        ·cases hu
       have hf:f=[]:=by
        rw [List.getElem?_replicate,if_pos hj] at hf
        simpa using hf.symm
       subst hf
       refine ⟨z.cells.toList,by simpa using hzs,fun m v hv=>?_,k4.keep (by simp) (bg.alloc w _).still0⟩
       have:=tT (z:=z.cells.toList) (t:=t.n) (by simpa using hzs) hn hj hv
       simpa using this
      have hown:=hels.own (cap:=n.toNat) hg (by simp) (by simp only [maxLen];omega) (by simp [madeCells]) (by rw [List.take_of_length_le];simp [madeCells])
      simpa using hown
     ·simp
     ·intro b hb
      simp at hb
      exact .inl (by omega)
    ·cases k1
   ·cases k1
  ·cases k1
 ·cases h
theorem Ta {R:Type} {r:R} {T T':Nat} {x y:Operand} {s u:Leaf} {c:Call} {κ:Dl→Option R} (R0:Rel P M w0 σ Imm st a w) (hd:∀ i,o.dst=some i→i < st.t.length) (hT:fU P E.T)
  (ho:o.op=.call c) (hcal:c.callee=.builtin .append) (hargs:c.args.toList=[x,y]) (htys:c.argTypes.toList=[T,T']) (hx:val st x=.leaf s) (hy:val st y=.leaf u)
  (h:Bk E st o.dst T T' s u κ=some r):∃ δ,κ δ=some r∧aU P M w0 o st a w σ Imm δ:=by
 unfold Bk at h
 split at h
 ·rename_i k n t te ti d hel hte hti hdst
  split at h
  ·rename_i kn hk
   obtain ⟨e,i,z,hu,hi,hs,hb,hn,hz,hzs⟩:=cw hT hel
   obtain ⟨e',hu',hti2⟩:=yc hT hte
   rw [hu] at hu'
   cases hu'
   obtain ⟨i',z',hi',hs',hz',hz2,hz3⟩:=hti2.info
   rw [hi] at hi'
   cases hi'
   rw [hz] at hz'
   cases hz'
   have hkk:KOk P T' ti.ty ti.k:=(hT _ _ hti).k
   have htn:P.underlying T'=some (.int kn):=by
    rw [hk] at hkk
    exact hkk
   have hzr:LRs P σ Imm w te.zero z.cells.toList:=by rw [← hz2];exact eM _ hz3
   obtain ⟨q,rest,ws,fp,v1,v2,k1,k2,k3,k4,k5⟩:=d9 R0 hzr (dF.nil st) h
   split at k1
   ·cases k3
    simp only [List.append_nil] at k2
    subst k2
    split at k1
    ·rename_i h0
     split at k1
     ·rename_i hroom
      have hfp:fp=[]:=by
       obtain ⟨ks,e1,e2⟩:=k5.ks
       simp only [aq,List.append_nil] at e1
       subst e1
       cases fp with
       | nil=>rfl
       | cons b fp=>obtain ⟨q,hq,_⟩:=e2 b (by simp);cases hq
      subst hfp
      have ex:a.eval x=.slice none 0 0:=by have:=R0.av x;rw [hx] at this;exact this
      have ey:=R0.avI hy
      have ha:c.args=#[x,y]:=by rw [← Array.toArray_toList (xs:=c.args),hargs]
      have hty:c.argTypes=#[T,T']:=by rw [← Array.toArray_toList (xs:=c.argTypes),htys]
      have hmul:n.toNat * i.bytes≤1099511627776:=by
       refine Nat.le_trans (Nat.mul_le_mul_left _ hb) (Nat.le_trans hroom (by simp [aC]))
      have hn24:n.toNat≤1099511627776:=by
       have h24:1≤24 * t.n:=by omega
       have h2:=Nat.mul_le_mul_left n.toNat h24
       rw [Nat.mul_one] at h2
       exact Nat.le_trans h2 (Nat.le_trans hroom (by simp [aC]))
      have hnn:(n.toNat:Int)=n:=Int.toNat_of_nonneg (by omega)
      have hrun:=Lib.run_append_nil_zeros (P:=P) w T T' o.type e i z k kn hu htn hi hz n.toNat (by omega) (by rw [hs];exact hn) (by omega) (by omega)
      rw [hnn] at hrun
      have hge:=grownCap_ge w n.toNat 0 e
      have hcm:grownCap w n.toNat 0 e≤maxLen:=grownCap_le_maxLen w n.toNat 0 e (by simp only [maxLen];omega)
      have hK:bg aV w (w.drew.alloc (.cells (Builtin.zeroCells z.cells n.toNat++Builtin.zeroCells z.cells (grownCap w n.toNat 0 e - n.toNat)) e)):=(bg.drew w).trans (bg.alloc w.drew _)
      have hzc:∀ m:Nat,Builtin.zeroCells z.cells m=madeCells z.cells (m * t.n):=fun m=>by simp [Builtin.zeroCells,madeCells,hzs]
      refine ⟨_,k1,aU.arr1 R0 hd hdst (dF.nil st) aA (v:=.slice (some ⟨w.heap.size,0,none⟩) n.toNat (grownCap w n.toNat 0 e)) (fp:=w.heap.size :: (List.replicate n.toNat ([]:List Nat)).flatten) (w':=w.drew.alloc (.cells (Builtin.zeroCells z.cells n.toNat++Builtin.zeroCells z.cells (grownCap w n.toNat 0 e - n.toNat)) e)) ?_ (hK.mono fun _ _ h=>h.elim) ?_ ?_ ?_⟩
      ·simp [execOp,ho,resolve,hcal,ha,hty,invoke,builtin,ex,ey,hrun]
      ·have hg:(w.drew.alloc (.cells (Builtin.zeroCells z.cells n.toNat++Builtin.zeroCells z.cells (grownCap w n.toNat 0 e - n.toNat)) e)).heap[w.heap.size]?=some (.cells (Builtin.zeroCells z.cells n.toNat++Builtin.zeroCells z.cells (grownCap w n.toNat 0 e - n.toNat)) e (0,0)):=heap_alloc_new w.drew _
       have hels:Els P Imm t (w.drew.alloc (.cells (Builtin.zeroCells z.cells n.toNat++Builtin.zeroCells z.cells (grownCap w n.toNat 0 e - n.toNat)) e)) (madeCells z.cells (n.toNat * t.n)).toList (List.replicate n.toNat q) (List.replicate n.toNat []):=by
        refine ⟨by simp,by simp [madeCells],fun j u f hu hf=>?_⟩
        obtain ⟨hj,rfl⟩:j < n.toNat∧q=u:=by
         rw [List.getElem?_replicate] at hu
         split at hu
         ·rename_i hj;exact ⟨hj,by simpa using hu⟩
         ·cases hu
        have hf:f=[]:=by
         rw [List.getElem?_replicate,if_pos hj] at hf
         simpa using hf.symm
        subst hf
        refine ⟨z.cells.toList,by simpa using hzs,fun m v hv=>?_,k4.keep (by simp) hK.still0⟩
        have:=tT (z:=z.cells.toList) (t:=t.n) (by simpa using hzs) hn hj hv
        simpa using this
       have hown:=hels.own (cap:=grownCap w n.toNat 0 e) hg (by simpa using hge) hcm (by
        rw [hzc,hzc]
        simp only [Array.size_append,madeCells,Array.size_map,Array.size_range,← Nat.add_mul]
        congr 1;omega) (by
        rw [hzc n.toNat,Array.toList_append,List.take_append_of_le_length (by simp [madeCells])]
        rw [List.take_of_length_le];simp [madeCells])
       simpa using hown
      ·simp
      ·intro b hb
       simp at hb
       exact .inl (by omega)
     ·cases k1
    ·cases k1
   ·cases k1
  ·cases h
 ·cases h
theorem i5 {R:Type} {r:R} {x:Option Operand} {d:Int} {κ:Int→Option R} (R0:Rel P M w0 σ Imm st a w) (h:sG (x.map (val st)) d κ=some r) :
  ∃ n,κ n=some r∧((x=none∧n=d)∨∃ k,(x.map a.eval)=some (.int k n)):=by
 cases x with
 | none=>exact ⟨d,h,.inl ⟨rfl,rfl⟩⟩
 | some x =>
  simp only [Option.map_some] at h
  unfold sG at h
  split at h
  ·rename_i e;cases e
  ·rename_i k n e
   simp only [Option.some.injEq] at e
   exact ⟨n,h,.inr ⟨k,by simp [R0.avI e]⟩⟩
  ·cases h
theorem rc {R:Type} {r:R} {l h:Int} {n:Nat} {κ:Nat→Nat→Option R} (hk:Cs l h n κ=some r):0≤l∧l≤h∧h≤n∧κ l.toNat h.toNat=some r:=by
 unfold Cs at hk
 split at hk
 ·split at hk
  ·split at hk
   ·rename_i h1 h2 h3;exact ⟨h1,h2,h3,hk⟩
   ·cases hk
  ·cases hk
 ·cases hk
theorem rz {R:Type} {r:R} {t:Ty} {x:List t.D} {κ:List t.D→Option R} (h:fT (.slice t) (.slice t) x κ=some r):κ x=some r:=by
 unfold fT at h
 rwa [dif_pos rfl] at h
theorem Nw {T e:Nat} {i:TypeInfo} (hu:P.underlying T=some (.slice e)) (hi:P.info? e=some i) {ad:Option Addr} {len cap:Nat} (hlc:len≤cap) {lo hi':Option Value} {l h:Int}
  (hlo:(lo=none∧l=0)∨∃ k,lo=some (.int k l)) (hhi:(hi'=none∧h=len)∨∃ k,hi'=some (.int k h)) (h0:0≤l) (h1:l≤h) (h2:h≤len) :
  (Instr.sliceAt T (.slice ad len cap) lo hi' none).run P w=.ok (.slice (if cap=l.toNat then ad else ad.map (·.add (l.toNat * i.size))) (h.toNat - l.toNat) (cap - l.toNat)) w:=by
 have hh:(h.toNat:Int)=h:=Int.toNat_of_nonneg (by omega)
 have e0:0≤h:=by omega
 have e1:h≤(cap:Int):=by omega
 have e2:l≤(len:Int):=by omega
 rcases hlo with ⟨rfl,rfl⟩ | ⟨k,rfl⟩ <;> rcases hhi with ⟨rfl,rfl⟩ | ⟨k',rfl⟩ <;>
  simp [Instr.sliceAt,Instr.slice,run_underlying hu,Instr.sliceBounds,run_sliceBound,sizeOf,typeInfo,hi,h0,h1,h2,hh,e0,e1,e2]
theorem Tb {T e:Nat} {i:TypeInfo} (hu:P.underlying T=some (.slice e)) (hi:P.info? e=some i) {ad:Option Addr} {len cap:Nat} {lo hi':Option Value} {l h:Int}
  (hlo:∃ k,lo=some (.int k l)) (hhi:∃ k,hi'=some (.int k h)) (h0:0≤l) (h1:l≤h) (h2:h≤cap) :
  (Instr.sliceAt T (.slice ad len cap) lo hi' none).run P w=.ok (.slice (if cap=l.toNat then ad else ad.map (·.add (l.toNat * i.size))) (h.toNat - l.toNat) (cap - l.toNat)) w:=by
 have hh:(h.toNat:Int)=h:=Int.toNat_of_nonneg (by omega)
 have e0:0≤h:=by omega
 obtain ⟨k,rfl⟩:=hlo
 obtain ⟨k',rfl⟩:=hhi
 simp [Instr.sliceAt,Instr.slice,run_underlying hu,Instr.sliceBounds,run_sliceBound,sizeOf,typeInfo,hi,h0,h1,h2,hh,e0]
theorem Tc {T e:Nat} {i:TypeInfo} (hu:P.underlying T=some (.slice e)) (hi:P.info? e=some i) {ad:Option Addr} {len cap:Nat} (hlc:len≤cap) {lo hi':Option Value} {l h m:Int} {k'':IntKind}
  (hlo:(lo=none∧l=0)∨∃ k,lo=some (.int k l)) (hhi:∃ k,hi'=some (.int k h)) (h0:0≤l) (h1:l≤h) (h2:h≤m) (h3:m≤len) :
  ∃ v,(Instr.sliceAt T (.slice ad len cap) lo hi' (some (.int k'' m))).run P w=.ok v w:=by
 have hh:(h.toNat:Int)=h:=Int.toNat_of_nonneg (by omega)
 have hm:(m.toNat:Int)=m:=Int.toNat_of_nonneg (by omega)
 have e0:0≤h:=by omega
 have e1:m≤(cap:Int):=by omega
 have e2:0≤m:=by omega
 obtain ⟨k',rfl⟩:=hhi
 rcases hlo with ⟨rfl,rfl⟩ | ⟨k,rfl⟩ <;>
  simp [Instr.sliceAt,Instr.slice,run_underlying hu,Instr.sliceBounds,run_sliceBound,sizeOf,typeInfo,hi,h0,h1,h2,h3,hh,hm,e0,e1,e2]
theorem Rd.cut {t:Ty} {v:Value} {xs:List t.D} (h:Rd P (.slice t) Imm w [v] xs) {lo hi:Nat} (hlo:lo≤hi) (hlen:hi≤xs.length) :
  ∃ ad cap,v=.slice ad xs.length cap∧xs.length≤cap∧Rd P (.slice t) Imm w [.slice (if cap=lo then ad else ad.map (·.add (lo * t.n))) (hi - lo) (cap - lo)] ((xs.take hi).drop lo):=by
 obtain ⟨ad,cap,e1,h1,h2,h3⟩:=h
 simp only [List.cons.injEq,and_true] at e1
 refine ⟨ad,cap,e1,h1,?_⟩
 have hl2:((xs.take hi).drop lo).length=hi - lo:=by simp;omega
 refine ⟨if cap=lo then ad else ad.map (·.add (lo * t.n)),cap - lo,by rw [hl2],by rw [hl2];omega,fun hnone=>?_,fun i x hx=>?_⟩
 ·split at hnone
  ·omega
  ·have:ad=none:=by cases ad <;> simp_all
   have:=h2 this
   omega
 ·rw [List.getElem?_drop,List.getElem?_take] at hx
  split at hx
  ·rename_i hlt
   obtain ⟨b,off,cs,e,hb,hl,hlc,hcs,hr⟩:=h3 (lo + i) x hx
   subst e
   have hne:¬ cap=lo:=by omega
   refine ⟨b,off + lo * t.n,cs,?_,hb,hl,hlc,?_,hr⟩
   ·rw [if_neg hne]
    simp [fV]
   ·rwa [Nat.add_assoc,← Nat.add_mul]
  ·cases hx
theorem QM {R:Type} {r:R} {T:Nat} {x:Operand} {lo hi mx:Option Operand} {κ:Dl→Option R} (R0:Rel P M w0 σ Imm st a w) (hd:∀ i,o.dst=some i→i < st.t.length) (hT:fU P E.T)
  (ho:o.op=.slice T x lo hi mx) (h:iy E st T (val st x) (lo.map (val st)) (hi.map (val st)) (mx.map (val st)) κ=some r):∃ δ,κ δ=some r∧aU P M w0 o st a w σ Imm δ:=by
 have hv:=R0.av x
 have hc:=R0.vc x
 have hexec:∀ v,(Instr.sliceAt T (a.eval x) (lo.map a.eval) (hi.map a.eval) (mx.map a.eval)).run P w=.ok v w→(execOp a.eval o).run P w=.ok (.value v) w:=by
  intro v hr
  simp only [execOp,ho,Sem.run_bind,hr,Result.andThen_ok]
  rfl
 unfold iy at h
 split at h
 ·rename_i t hel hvx
  rw [hvx] at hv hc
  obtain ⟨e,i,z,hu,hi',hs,_⟩:=cw hT hel
  split at h
  ·rename_i hmx
   have hmx:mx=none:=by cases mx <;> simp_all
   subst hmx
   obtain ⟨l,h1,hl⟩:=i5 R0 h
   obtain ⟨h',h2,hh⟩:=i5 R0 h1
   obtain ⟨g1,g2,g3,g4⟩:=rc h2
   have hv:a.eval x=.slice none 0 0:=hv
   have hr:=Nw (P:=P) (w:=w) hu hi' (ad:=none) (len:=0) (cap:=0) (Nat.le_refl _) (lo:=lo.map a.eval) (hi':=hi.map a.eval) (l:=l) (h:=h')
    (by rcases hl with ⟨rfl,rfl⟩ | hl;exact .inl ⟨rfl,rfl⟩;exact .inr hl) (by rcases hh with ⟨rfl,rfl⟩ | hh;exact .inl ⟨rfl,rfl⟩;exact .inr hh) g1 g2 g3
   have e1:l=0:=by omega
   have e2:h'=0:=by omega
   subst e1 e2
   refine ⟨_,g4,aU.value R0 hd (v:=.slice none 0 0) (hexec _ ?_) rfl (fun _ h=>by cases h) aA⟩
   rw [hv]
   simpa using hr
  ·cases h
 ·rename_i t t' xs hel hvx
  rw [hvx] at hv hc
  obtain ⟨e,i,z,hu,hi',hs,_⟩:=cw hT hel
  split at h
  ·rename_i hmx
   have hmx:mx=none:=by cases mx <;> simp_all
   subst hmx
   obtain ⟨et,_⟩:=d8 h
   subst et
   have h:=rz h
   obtain ⟨l,h1,hl⟩:=i5 R0 h
   obtain ⟨h',h2,hh⟩:=i5 R0 h1
   obtain ⟨g1,g2,g3,g4⟩:=rc h2
   obtain ⟨ad,cap,ev,hcap,hrd⟩:=Rd.cut (lo:=l.toNat) (hi:=h'.toNat) (show Rd P (.slice t') Imm w [a.eval x] xs from hv) (by omega) (by omega)
   have hr:=Nw (P:=P) (w:=w) hu hi' (ad:=ad) (len:=xs.length) (cap:=cap) hcap (lo:=lo.map a.eval) (hi':=hi.map a.eval) (l:=l) (h:=h')
    (by rcases hl with ⟨rfl,rfl⟩ | hl;exact .inl ⟨rfl,rfl⟩;exact .inr hl) (by rcases hh with ⟨rfl,rfl⟩ | hh;exact .inl ⟨rfl,rfl⟩;exact .inr hh) g1 g2 g3
   rw [hs] at hr
   exact ⟨_,g4,aU.value R0 hd (hexec _ (by rw [ev];exact hr)) hrd (fun _ h=>by cases h) aA⟩
  ·cases h
 ·rename_i t q hel hvx
  rw [hvx] at hv hc
  obtain ⟨e,i,z,hu,hi',hs,_⟩:=cw hT hel
  split at h
  ·rename_i ro t' xs hq
   obtain ⟨et,_⟩:=d8 h
   subst et
   have h:=rz h
   have hob:=R0.ob q
   rw [hq] at hob
   have hv':a.eval x=(σ q).v:=hv.1
   obtain ⟨ad,cap,ev,hcap⟩:∃ ad cap,(σ q).v=.slice ad xs.length cap∧xs.length≤cap:=by
    rcases hob.1 with ⟨e1,e2,_⟩ | ⟨g,cap,cur,ty',fps,e1,_,e3,_⟩
    ·simp only [List.cons.injEq,and_true] at e1
     subst e2
     exact ⟨none,0,e1,Nat.le_refl _⟩
    ·simp only [List.cons.injEq,and_true] at e1
     exact ⟨_,cap,e1,e3⟩
   obtain ⟨l,h1,hl⟩:=i5 R0 h
   obtain ⟨h',h2,hh⟩:=i5 R0 h1
   have hl':(lo.map a.eval=none∧l=0)∨∃ k,lo.map a.eval=some (.int k l):=by
    rcases hl with ⟨rfl,rfl⟩ | hl
    ·exact .inl ⟨rfl,rfl⟩
    ·exact .inr hl
   split at h2
   ·rename_i hmx
    have hmx:mx=none:=by cases mx <;> simp_all
    subst hmx
    obtain ⟨g1,g2,g3,g4⟩:=rc h2
    have hr:=Nw (P:=P) (w:=w) hu hi' (ad:=ad) (len:=xs.length) (cap:=cap) hcap (lo:=lo.map a.eval) (hi':=hi.map a.eval) (l:=l) (h:=h')
     hl' (by rcases hh with ⟨rfl,rfl⟩ | hh;exact .inl ⟨rfl,rfl⟩;exact .inr hh) g1 g2 g3
    rw [hs] at hr
    refine ⟨_,g4,aU.value R0 hd (hexec _ (by rw [hv',ev];exact hr)) ⟨ad,xs.length,cap,ev,by omega,by omega,rfl⟩ (by simpa [AV.hds,Leaf.hds] using hc) hc⟩
   ·rename_i m hmx
    cases hm:mx with
    | none=>rw [hm] at hmx;cases hmx
    | some mo =>
     rw [hm] at hmx
     simp only [Option.map_some,Option.some.injEq] at hmx
     split at h2
     ·rename_i hv2 hhi
      have h2':sG ((some mo).map (val st)) 0 (fun m=>Cs l h' xs.length fun _ _=>if h'≤m then (if m≤xs.length then κ { v:=.any,rd:=[q] } else none) else none)=some r:=by
       simpa [hmx] using h2
      obtain ⟨n,k1,k2⟩:=i5 R0 h2'
      obtain ⟨g1,g2,g3,g4⟩:=rc k1
      split at g4
      ·rename_i g5
       split at g4
       ·rename_i g6
        obtain ⟨km,hkm⟩:∃ k,(some mo).map a.eval=some (.int k n):=by
         rcases k2 with ⟨e,_⟩ | h
         ·cases e
         ·exact h
        rcases hh with ⟨rfl,hh⟩ | ⟨kh,hh⟩
        ·cases hhi
        ·obtain ⟨v,hr⟩:=Tc (P:=P) (w:=w) hu hi' (ad:=ad) (len:=xs.length) (cap:=cap) (k'':=km) hcap (lo:=lo.map a.eval) (hi':=hi.map a.eval) (l:=l) (h:=h') (m:=n) hl' ⟨kh,hh⟩ g1 g2 g5 g6
         refine ⟨_,g4,aU.value R0 hd (v:=v) (hexec _ (by rw [hv',ev,hm,hkm];exact hr)) trivial aA hc⟩
       ·cases g4
      ·cases g4
     ·cases h2
  ·cases h
 ·rename_i t q n hi0 hel hvx
  rw [hvx] at hv hc
  obtain ⟨e,i,z,hu,hi',hs,_⟩:=cw hT hel
  split at h
  ·rename_i ro t' xs hq
   obtain ⟨et,_⟩:=d8 h
   subst et
   have hk:=rz h
   clear h
   split at hk
   ·rename_i x1 x2 hlo hhi hmx hn
    have hn:=Nat.eq_of_beq_eq_true hn
    subst hn
    have hmx:mx=none:=by cases mx <;> simp_all
    subst hmx
    obtain ⟨l,h1,hl⟩:=i5 R0 hk
    obtain ⟨h',h2,hh⟩:=i5 R0 h1
    obtain ⟨g1,g2,g3,g4⟩:=rc h2
    obtain ⟨ad,len,cap,ev,hlo',hlen,ex⟩:=hv
    have hob:=R0.ob q
    rw [hq] at hob
    obtain ⟨ad',cap',ev',hcap⟩:∃ ad cap,(σ q).v=.slice ad xs.length cap∧xs.length≤cap:=by
     rcases hob.1 with ⟨e1,e2,_⟩ | ⟨g,cap,cur,ty',fps,e1,_,e3,_⟩
     ·simp only [List.cons.injEq,and_true] at e1
      subst e2
      exact ⟨none,0,e1,Nat.le_refl _⟩
     ·simp only [List.cons.injEq,and_true] at e1
      exact ⟨_,cap,e1,e3⟩
    rw [ev'] at ev
    simp only [Value.slice.injEq] at ev
    obtain ⟨rfl,rfl,rfl⟩:=ev
    have hz:(if cap'=0 then ad' else ad'.map (·.add (0 * t'.n)))=ad':=by
     split
     ·rfl
     ·cases ad' <;> simp [Addr.add]
    rw [hz] at ex
    simp only [Nat.sub_zero] at ex
    have hl':∃ k,lo.map a.eval=some (.int k l):=by
     rcases hl with ⟨rfl,_⟩ | hl
     ·cases hlo
     ·exact hl
    have hh':∃ k,hi.map a.eval=some (.int k h'):=by
     rcases hh with ⟨rfl,_⟩ | hh
     ·cases hhi
     ·exact hh
    have hr:=Tb (P:=P) (w:=w) hu hi' (ad:=ad') (len:=hi0) (cap:=cap') hl' hh' g1 g2 (by omega)
    rw [hs] at hr
    refine ⟨_,g4,aU.value R0 hd (hexec _ (by rw [ex];exact hr)) ⟨ad',xs.length,cap',ev',by omega,by omega,rfl⟩ (by simpa [AV.hds,Leaf.hds] using hc) hc⟩
   ·cases hk
  ·cases h
 ·cases h
theorem wF {t e:Nat} (hu:P.underlying t=some (.slice e)) (d:Nat) (ad:Option Addr) (n cap:Nat):(Op.equalIn (d + 1) t (.slice ad n cap) (.slice none 0 0)).run P w=.ok ad.isNone w:=by
 cases ad <;> simp [Op.equalIn,run_underlying hu]
theorem Pa {R:Type} {r:R} {op:BinOp} {t t':Nat} {x y:Operand} {l:Leaf} {b:Bool} {κ:Dl→Option R} (R0:Rel P M w0 σ Imm st a w) (hd:∀ i,o.dst=some i→i < st.t.length) (hT:fU P E.T)
  (ho:o.op=.binOp op t x y t') (hx:val st x=.leaf l) (hy:val st y=.leaf .nil) (hl:(l=.nil∧b=true)∨(∃ u xs,l=.viewN u xs∧b=false)) (h:vy E op t b κ=some r):∃ δ,κ δ=some r∧aU P M w0 o st a w σ Imm δ:=by
 have hvx:=R0.av x
 have hvy:=R0.av y
 rw [hx] at hvx
 rw [hy] at hvy
 have ey:a.eval y=.slice none 0 0:=hvy
 obtain ⟨ad,n,cap,ex,hb⟩:∃ ad n cap,a.eval x=.slice ad n cap∧b=ad.isNone:=by
  rcases hl with ⟨rfl,rfl⟩ | ⟨u,xs,rfl,rfl⟩
  ·exact ⟨none,0,0,hvx,rfl⟩
  ·obtain ⟨⟨ad,cap,e,h1,h2,_⟩,hne⟩:=hvx
   simp only [List.cons.injEq,and_true] at e
   refine ⟨ad,xs.length,cap,e,?_⟩
   cases ad with
   | none =>
    have:=h2 rfl
    subst this
    have:xs.length=0:=by omega
    rw [this] at e
    exact absurd e hne
   | some ad=>rfl
 unfold vy at h
 split at h
 ·rename_i u hel
  obtain ⟨e,i,z,hu,_⟩:=cw hT hel
  have hg:(eqGuard .eql t x y (.slice ad n cap) (.slice none 0 0)).run P w=.ok () w:=rfl
  refine ⟨_,h,aU.value R0 hd (v:=.bool b) ?_ rfl (fun _ h=>by cases h) aA⟩
  have he:=wF (w:=w) hu 9999 ad n cap
  simp only [execOp,ho,ex,ey,Sem.run_bind,hg,Result.andThen_ok]
  simp only [binOp]
  simp [Op.equal,Op.maxDepth,he,hb]
 ·rename_i u hel
  obtain ⟨e,i,z,hu,_⟩:=cw hT hel
  have hg:(eqGuard .neq t x y (.slice ad n cap) (.slice none 0 0)).run P w=.ok () w:=rfl
  refine ⟨_,h,aU.value R0 hd (v:=.bool (!b)) ?_ rfl (fun _ h=>by cases h) aA⟩
  have he:=wF (w:=w) hu 9999 ad n cap
  simp only [execOp,ho,ex,ey,Sem.run_bind,hg,Result.andThen_ok]
  simp only [binOp]
  simp [Op.equal,Op.maxDepth,he,hb]
 ·cases h
theorem F7 {R:Type} {r:R} (R0:Rel P M w0 σ Imm st a w) {t:Ty} {n:Nat}:∀ {parts:List (Nat×Operand)} {i:Nat} {κ:List t.D→Option R},
  pT t st parts i n κ=some r→∃ xs all,κ xs=some r∧i + xs.length=n∧all.length=xs.length * t.n ∧
   (∀ k x,xs[k]?=some x→∃ cs,cs.length=t.n∧(∀ j v,cs[j]?=some v→all[k * t.n + j]?=some v)∧Rd P t Imm w cs x) ∧
   ∀ (done rest:List Value),done.length=i * t.n→rest.length=xs.length * t.n→Instr.fill (fun j=>some (j * t.n,t.n)) (done++rest).toArray (parts.map fun p=>(p.1,a.eval p.2))=some (done++all).toArray
 | [],i,κ,h=>by
  unfold pT at h
  split at h
  ·rename_i e
   exact ⟨[],[],h,by simpa using Nat.eq_of_beq_eq_true e,by simp,fun k x hx=>by simp at hx,fun done rest _ hr=>by
    have:rest=[]:=List.eq_nil_of_length_eq_zero (by simpa using hr)
    subst this
    rfl⟩
  ·cases h
 | (j,x) :: parts,i,κ,h=>by
  unfold pT at h
  split at h
  ·rename_i e
   have e:=Nat.eq_of_beq_eq_true e
   subst e
   obtain ⟨ls,us,h1,h2,h3,h4⟩:=sN (R0.av x) h
   obtain ⟨y,rest,os,v1,v2,k1,k2,k3,k4,k5,k6⟩:=ee R0 h3 (by rw [h4];exact R0.vc x) h1
   split at k1
   ·cases k3
    simp only [List.append_nil] at k2
    subst k2
    obtain ⟨xs,all,m1,m2,m3,m4,m5⟩:=F7 R0 k1
    have hlen:=k5.length
    refine ⟨y :: xs,us++all,m1,by simp;omega,by simp [m3,hlen,Nat.add_mul,Nat.add_comm],fun k z hz=>?_,fun done rest hd hr=>?_⟩
    ·cases k with
     | zero =>
      simp only [List.getElem?_cons_zero,Option.some.injEq] at hz
      subst hz
      refine ⟨us,hlen,fun j v hj=>?_,k5.imm fun b=>eT.nil⟩
      rw [Nat.zero_mul,Nat.zero_add,List.getElem?_append_left (List.getElem?_eq_some_iff.1 hj).1]
      exact hj
     | succ k =>
      obtain ⟨cs,c1,c2,c3⟩:=m4 k z (by simpa using hz)
      refine ⟨cs,c1,fun j v hj=>?_,c3⟩
      have:=c2 j v hj
      rw [List.getElem?_append_right (by rw [hlen,Nat.add_mul];omega),hlen]
      rwa [show (k + 1) * t.n + j - t.n=k * t.n + j by rw [Nat.add_mul];omega]
    ·have hr':rest.length=t.n + xs.length * t.n:=by rw [hr];simp [Nat.add_mul,Nat.add_comm]
     have hsz:(a.eval x).cells.size=t.n:=by rw [h2];simpa using hlen
     have hle:¬ (i * t.n + t.n > (done++rest).length):=by rw [List.length_append,hd,hr'];omega
     have hfold:(a.eval x).cells.zipIdx.foldl (fun (cs:Array Value) (x:Value×Nat)=>cs.setIfInBounds (i * t.n + x.2) x.1) (done++rest).toArray=((done++us)++rest.drop t.n).toArray:=by
      rw [h2,← Array.foldl_toList]
      have:=Il us (i * t.n) 0 (done++rest).toArray
      simp only [Nat.add_zero] at this
      have e2:aW (done++rest) (i * t.n) us=(done++us)++rest.drop t.n:=yb.seg_mid us done rest (by rw [hd]) (by rw [hlen];omega) |>.trans (by rw [hlen])
      have h3:((us.toArray.zipIdx.toList).foldl (fun (cs:Array Value) (x:Value×Nat)=>cs.setIfInBounds (i * t.n + x.2) x.1) (done++rest).toArray)=(aW (done++rest) (i * t.n) us).toArray:=by simpa using this
      rw [h3,e2]
     simp only [List.map_cons,Instr.fill,hsz]
     simp only [ne_eq,not_true_eq_false,decide_false,List.size_toArray,Bool.false_or,decide_eq_true_eq,hle,if_false]
     have m6:=m5 (done++us) (rest.drop t.n) (by simp [hd,hlen,Nat.add_mul]) (by simp [hr'])
     rw [List.append_assoc done us all] at m6
     exact hfold ▸ m6
   ·cases k1
  ·cases h
theorem Nx {R:Type} {r:R} {T len d:Nat} {parts:Array (Nat×Operand)} {t:Ty} {κ:Dl→Option R} (R0:Rel P M w0 σ Imm st a w) (hd:∀ i,o.dst=some i→i < st.t.length) (hT:fU P E.T)
  (ho:o.op=.buildSlice T len parts) (hel:nx E.T T=some t) (hdst:o.dst=some d) (hlen:len * t.n≤10000000)
  (h:(pT t st parts.toList 0 len fun xs=>κ { v:=.leaf (.view t xs) })=some r):∃ δ,κ δ=some r∧aU P M w0 o st a w σ Imm δ:=by
 obtain ⟨e,i,z,hu,hi,hs,hb,hn,hz,hzs⟩:=cw hT hel
 obtain ⟨xs,all,h1,h2,h3,h4,h5⟩:=F7 R0 h
 simp only [Nat.zero_add] at h2
 subst h2
 have hfill:=h5 [] ((Array.range (xs.length * t.n)).map (z.cells[· % z.cells.size]!)).toList (by simp) (by simp)
 have hrun:(execOp a.eval o).run P w=.ok (.value (.slice (some ⟨w.heap.size,0,none⟩) xs.length xs.length)) (w.alloc (.cells all.toArray e)):=by
  have h24:¬ (16777216 < xs.length * t.n):=by omega
  have hf2:Instr.fill (fun i=>some (i * t.n,t.n)) ((Array.range (xs.length * t.n)).map (z.cells[· % z.cells.size]!)) ((parts.map fun (i,x)=>(i,a.eval x)).toList)=some all.toArray:=by
   rw [List.nil_append,List.nil_append,Array.toArray_toList] at hfill
   rw [Array.toList_map]
   exact hfill
  by_cases h0:xs.length * t.n=0
  ·have hx0:xs.length=0:=by rcases Nat.mul_eq_zero.1 h0 with h | h <;> omega
   have:(Array.range (xs.length * t.n)).map (z.cells[· % z.cells.size]!)=(Array.range (xs.length * t.n)).map ((#[]:Array Value)[· % (#[]:Array Value).size]!):=by
    rw [h0];simp
   rw [this] at hf2
   simp [execOp,ho,Instr.buildSlice,run_underlying hu,sizeOf,typeInfo,hi,hs,h24,h0,newRow]
   rw [h0] at hf2
   simp at hf2
   rw [hf2]
   simp [newRow]
  ·simp only [execOp,ho,Instr.buildSlice,Sem.run_bind,run_underlying hu,sizeOf,typeInfo,Result.andThen_ok]
   simp [hi,hs,h24,h0,zeroValue,typeInfo,hz]
   simp at hf2
   rw [hf2]
   simp [newRow]
 refine ⟨_,h1,⟨aA,fun _ _ h=>(by cases h),List.nodup_nil⟩,fun st' hap next Q hnx=>?_⟩
 unfold Oper.wp
 rw [hrun]
 have hk:bg aV w (w.alloc (.cells all.toArray e)):=bg.alloc w _
 have hsz:(w.alloc (.cells all.toArray e)).heap.size=w.heap.size + 1:=by simp
 have hcell:(w.alloc (.cells all.toArray e)).heap[w.heap.size]?=some (.cells all.toArray e (0,0)):=heap_alloc_new w _
 have hrd:Rd P (.slice t) (fun b=>Imm b∨b=w.heap.size) (w.alloc (.cells all.toArray e)) [.slice (some ⟨w.heap.size,0,none⟩) xs.length xs.length] xs:=by
  refine ⟨_,_,rfl,Nat.le_refl _,fun h=>(by cases h),fun k x hx=>?_⟩
  obtain ⟨cs,c1,c2,c3⟩:=h4 k x hx
  refine ⟨w.heap.size,0,cs,rfl,.inr rfl,by omega,c1,(b8 _ _).2 fun j v hj=>?_,c3.keep fun b hb hl=>⟨.inl hb,by omega,hk.block b hl id⟩⟩
  rw [Nat.zero_add,cell_of_row _ _ _ _ _ _ hcell]
  simpa using c2 j v hj
 obtain ⟨r1,e1⟩:=R0.plain hd hap (v:=.slice (some ⟨w.heap.size,0,none⟩) xs.length xs.length) (Imm':=fun b=>Imm b∨b=w.heap.size) hk (fun b h=>.inl h) (fun b h=>by
   rcases h with h | h
   ·have:=R0.imm b h;omega
   ·omega) (fun b hb h=>by
   rcases h with h | h
   ·exact h
   ·omega) hrd aA
 exact hnx _ _ _ _ r1 e1
theorem Pb {t:Ty} (hf:t.flat=true) {w w':World} {g:Nat} {xs:List t.D} {f:Nat→List Value} (hx:∀ i x,xs[i]?=some x→(f i).length=t.n∧Own P Imm t w (f i) x []) {cur:Array Value} {ty:TypeId} {cap:Nat}
  (hg:w'.heap[g]?=some (.cells cur ty (0,0))) (hc:xs.length≤cap) (hm:cap≤maxLen) (hs:cur.size=cap * t.n) (hcells:∀ i x,xs[i]?=some x→∀ k v,(f i)[k]?=some v→cur[i * t.n + k]?=some v) :
  Own P Imm (.slice t) w' [.slice (some ⟨g,0,none⟩) xs.length cap] xs [g]:=by
 refine .inr ⟨g,cap,cur,ty,List.replicate xs.length [],rfl,hg,hc,hm,hs,by simp,by simp,fun i x fp hxi hfi=>?_⟩
 have hi:=(List.getElem?_eq_some_iff.1 hxi).1
 have hfp:fp=[]:=by
  rw [List.getElem?_replicate,if_pos hi] at hfi
  simpa using hfi.symm
 subst hfp
 obtain ⟨h1,h2⟩:=hx i x hxi
 refine ⟨f i,h1,(b8 _ _).2 fun k v hk=>?_,(Own.flat hf h2).2⟩
 rw [cell_of_row w' g _ cur ty (0,0) hg]
 exact hcells i x hxi k v hk
theorem Td {R:Type} {r:R} {T:Nat} {x:Operand} {q:Hd} {n lo hi:Nat} {t:Ty} {te:TI} {xs:List t.D} {c:Call} {κ:Dl→Option R} (R0:Rel P M w0 σ Imm st a w) (hd:∀ i,o.dst=some i→i < st.t.length) (hT:fU P E.T)
  (ho:o.op=.call c) (hcal:c.callee=.builtin .clear) (hargs:c.args.toList=[x]) (htys:c.argTypes.toList=[T]) (hel:nx E.T T=some t) (hte:Ew E.T T=some te) (hq:aj st.h q=.arr false t xs) (hx:val st x=.leaf (.part q n lo hi))
  (h:(bN st.h t te.zero [] fun z r ws=>match (generalizing:=false) r,ws,t.flat,Nat.beq n t.n with
    | [],[],true,true=>κ { v:=.any,rd:=[q],wr:=[(q,.arr false t (xs.take lo++List.replicate (hi - lo) z++xs.drop hi))] }
    | _,_,_,_=>none)=some r):∃ δ,κ δ=some r∧aU P M w0 o st a w σ Imm δ:=by
 obtain ⟨e,i,z,hu,hi',hs,hb,hn,hz,hzs⟩:=cw hT hel
 obtain ⟨e',hu',hti⟩:=yc hT hte
 rw [hu] at hu'
 cases hu'
 obtain ⟨i',z',hi2,hs',hz',hz2,hz3⟩:=hti.info
 rw [hi'] at hi2
 cases hi2
 rw [hz] at hz'
 cases hz'
 have hzr:LRs P σ Imm w te.zero z.cells.toList:=by rw [← hz2];exact eM _ hz3
 obtain ⟨y,rest,ws,fp,v1,v2,k1,k2,k3,k4,k5⟩:=d9 R0 hzr (dF.nil st) h
 split at k1
 ·rename_i hf hnn
  have hnn:=Nat.eq_of_beq_eq_true hnn
  subst hnn
  cases k3
  simp only [List.append_nil] at k2
  subst k2
  have hfp:fp=[]:=(Own.flat (J:=Imm) (w':=w) hf k4).1
  subst hfp
  have hv:=R0.av x
  have hc:=R0.vc x
  rw [hx] at hv hc
  have ha:c.args=#[x]:=by rw [← Array.toArray_toList (xs:=c.args),hargs]
  have hty:c.argTypes=#[T]:=by rw [← Array.toArray_toList (xs:=c.argTypes),htys]
  obtain ⟨ad,len,cap,ev,hlo,hhi,ex⟩:=hv
  have hob:=R0.ob q
  rw [hq] at hob
  have hl:(aj st.h q).live=true:=by rw [hq];rfl
  have hr:(aj st.h q).ro=false:=by rw [hq];rfl
  have hw:=(dF.nil st).cons (q:=q) (by simp [aq]) hl hr
  have hcq:aK st.h [q]:=fun p hp=>by simp at hp;subst hp;exact cx hl
  have hrun:∀ w',(Builtin.clear_ #[T] o.type #[a.eval x]).run P w=.ok (.tuple #[]) w'→(execOp a.eval o).run P w=.ok (.value (.tuple #[])) w':=by
   intro w' hrr
   simp [execOp,ho,resolve,hcal,ha,hty,invoke,builtin,hrr]
  have hlen2:(xs.take lo++List.replicate (hi - lo) y++xs.drop hi).length=xs.length:=by
   rcases hob.1 with ⟨e1,e2,_⟩ | ⟨g,cap',cur,ty',fps,e1,_⟩
   ·simp only [List.cons.injEq,and_true] at e1
    rw [e1] at ev
    simp only [Value.slice.injEq] at ev
    simp [e2];omega
   ·simp only [List.cons.injEq,and_true] at e1
    rw [e1] at ev
    simp only [Value.slice.injEq] at ev
    simp;omega
  by_cases h0:lo=hi
  ·subst h0
   have hsame:xs.take lo++List.replicate (lo - lo) y++xs.drop lo=xs:=by simp
   refine ⟨_,k1,aU.write1 R0 hd hw hcq rfl (v:=.tuple #[]) (w':=w) (σ q).fp (.inl (hrun w ?_)) (bg.refl _ w) (fun σ' e1 e2 e3 _=>?_) (fun ro ls e=>by cases e) (R0.nd q hl).1 (fun b hb=>.inl hb)⟩
   ·rw [ex]
    have:lo - lo=0:=Nat.sub_self lo
    rw [this]
    by_cases hcl:cap=lo
    ·rw [if_pos hcl];cases ad <;> simp [Builtin.clear_,run_underlying hu]
    ·rw [if_neg hcl];cases ad <;> simp [Builtin.clear_,run_underlying hu]
   ·rw [hsame]
    refine ⟨?_,fun a n c e=>?_⟩
    ·rw [e1,e3];exact hob.1
    ·rw [e1] at e;rw [e2];exact hob.2 a n c e
  ·rcases hob.1 with ⟨e1,e2,_⟩ | ⟨g,cap',cur,ty',fps,e1,e2,e3,e4,e5,e6,e7,e8⟩
   ·exfalso
    simp only [List.cons.injEq,and_true] at e1
    rw [e1] at ev
    simp only [Value.slice.injEq] at ev
    omega
   ·have ev0:=ev
    simp only [List.cons.injEq,and_true] at e1
    rw [e1] at ev
    simp only [Value.slice.injEq] at ev
    obtain ⟨rfl,rfl,rfl⟩:=ev
    have hne:¬ cap'=lo:=by omega
    rw [if_neg hne] at ex
    have hfps:∀ (i:Nat) (f:List Nat),fps[i]?=some f→f=[]:=by
     intro i f hfi
     have hlt:=(List.getElem?_eq_some_iff.1 hfi).1
     rw [e6] at hlt
     obtain ⟨cs,_,_,c3⟩:=e8 i _ f (List.getElem?_eq_getElem hlt) hfi
     exact (Own.flat (J:=Imm) (w':=w) hf c3).1
    have hfl:fps.flatten=[]:=by
     rw [List.flatten_eq_nil_iff]
     intro l hl2
     obtain ⟨i,hi3⟩:=List.mem_iff_getElem?.1 hl2
     exact hfps i l hi3
    have hzl:z.cells.toList.length=t.n:=by simpa using hzs
    have hzc:(Builtin.zeroCells z.cells (hi - lo)).toList=(madeCells z.cells ((hi - lo) * t.n)).toList:=by
     simp [Builtin.zeroCells,madeCells,hzs]
    have hzn:(Builtin.zeroCells z.cells (hi - lo)).toList.length=(hi - lo) * t.n:=by rw [hzc];simp [madeCells]
    have hle:lo * t.n + (hi - lo) * t.n≤cap' * t.n:=by rw [← Nat.add_mul];exact Nat.mul_le_mul_right _ (by omega)
    have hones:∀ u∈(Builtin.zeroCells z.cells (hi - lo)).toList,u.oneCell'=true:=by
     intro u hu2
     rw [hzc] at hu2
     simp only [madeCells,Array.toList_map,List.mem_map] at hu2
     obtain ⟨j,_,rfl⟩:=hu2
     have hjl:j % z.cells.size < z.cells.size:=Nat.mod_lt _ (by omega)
     have:=k4.ones (z.cells[j % z.cells.size]) (by simp)
     rw [getElem!_pos z.cells _ hjl]
     exact this
    have hst:=run_storeCells_at P g (lo * t.n) ty' (Builtin.zeroCells z.cells (hi - lo)).toList 0 cur w e2 (by rw [hzn,e5];simpa using hle) hones
    simp only [Nat.add_zero] at hst
    rw [CC _ cur.toList (lo * t.n) (by rw [hzn];simpa [e5] using hle)] at hst
    have hset:=setRow_heap w g cur (aW cur.toList (lo * t.n) (Builtin.zeroCells z.cells (hi - lo)).toList).toArray ty' (0,0) e2
    refine ⟨_,k1,aU.write1 R0 hd hw hcq rfl (v:=.tuple #[]) (w':=w.setRow g (aW cur.toList (lo * t.n) (Builtin.zeroCells z.cells (hi - lo)).toList).toArray) [g] (.inl (hrun _ ?_)) (bg.setRow (by rw [e7];simp)) (fun σ' d1 d2 d3 _=>?_) (fun ro ls e=>by cases e) (by simp) (fun b hb=>.inl (by rw [e7];simp at hb;simp [hb]))⟩
    ·rw [ex]
     obtain ⟨m,hm⟩:∃ m,hi - lo=m + 1:=⟨hi - lo - 1,by omega⟩
     have hst':=hst
     rw [hm] at hst' ⊢
     simp [Builtin.clear_,run_underlying hu,zeroValue,typeInfo,hi',hz,fV,hst']
    ·refine ⟨?_,fun a n c e=>?_⟩
     ·rw [d1,d3,e1]
      have hxl:=hlen2
      have hrow:=Pb (P:=P) (Imm:=Imm) (t:=t) hf (w:=w) (w':=w.setRow g (aW cur.toList (lo * t.n) (Builtin.zeroCells z.cells (hi - lo)).toList).toArray) (g:=g) (xs:=xs.take lo++List.replicate (hi - lo) y++xs.drop hi)
       (f:=fun i=>if lo≤i∧i < hi then z.cells.toList else (cur.toList.drop (i * t.n)).take t.n) (cap:=cap') (fun i x hxi=>?_) hset (by rw [hxl];exact e3) e4 (by simp [jE,e5]) (fun i x hxi k v hk=>?_)
      ·rw [hxl] at hrow;exact hrow
      ·have hil:i < xs.length:=by rw [← hxl];exact (List.getElem?_eq_some_iff.1 hxi).1
       by_cases hin:lo≤i∧i < hi
       ·rw [if_pos hin]
        refine ⟨hzl,?_⟩
        have:x=y:=by
         rw [List.append_assoc,List.getElem?_append_right (by simp;omega),List.getElem?_append_left (by simp;omega),List.getElem?_replicate] at hxi
         split at hxi
         ·simpa using hxi.symm
         ·cases hxi
        subst this
        exact k4
       ·rw [if_neg hin]
        have hxi2:xs[i]?=some x:=by
         rcases Nat.lt_or_ge i lo with h1 | h1
         ·rw [List.append_assoc,List.getElem?_append_left (by simp;omega),List.getElem?_take,if_pos h1] at hxi
          exact hxi
         ·rw [List.getElem?_append_right (by simp;omega),List.getElem?_drop] at hxi
          have:hi + (i - (xs.take lo++List.replicate (hi - lo) y).length)=i:=by simp;omega
          rwa [this] at hxi
        have hfi:fps[i]?=some []:=by
         have hlt:i < fps.length:=by rw [e6];exact hil
         rw [List.getElem?_eq_getElem hlt,hfps i _ (List.getElem?_eq_getElem hlt)]
        obtain ⟨cs,c1,c2,c3⟩:=e8 i x [] hxi2 hfi
        have hle2:i * t.n + t.n≤cap' * t.n:=by
         have:=Nat.mul_le_mul_right t.n (show i + 1≤cap' by omega)
         rw [Nat.add_mul] at this
         omega
        have hcs:(cur.toList.drop (i * t.n)).take t.n=cs:=by
         refine List.ext_getElem? fun k=>?_
         rw [List.getElem?_take,List.getElem?_drop]
         split
         ·rename_i hk
          have hk2:k < cs.length:=by omega
          have:=(b8 _ _).1 c2 k _ (List.getElem?_eq_getElem hk2)
          rw [cell_of_row w g _ cur ty' (0,0) e2] at this
          rw [List.getElem?_eq_getElem hk2,← this]
          simp
         ·rw [List.getElem?_eq_none (by omega)]
        rw [hcs]
        exact ⟨c1,c3⟩
      ·have hil:i < xs.length:=by rw [← hxl];exact (List.getElem?_eq_some_iff.1 hxi).1
       have hk2:k < t.n:=by
        by_cases hin:lo≤i∧i < hi
        ·rw [if_pos hin] at hk
         have:=(List.getElem?_eq_some_iff.1 hk).1
         omega
        ·rw [if_neg hin,List.getElem?_take] at hk
         split at hk
         ·assumption
         ·cases hk
       have hseg:=i4 (m:=cur.toList) (cs:=(Builtin.zeroCells z.cells (hi - lo)).toList) (o:=lo * t.n) (by rw [hzn];simpa [e5] using hle) (i * t.n + k)
       have hgoal:(aW cur.toList (lo * t.n) (Builtin.zeroCells z.cells (hi - lo)).toList)[i * t.n + k]?=some v:=by
        rw [hseg,hzn]
        by_cases hin:lo≤i∧i < hi
        ·rw [if_pos hin] at hk
         have a1:lo * t.n≤i * t.n:=Nat.mul_le_mul_right _ hin.1
         have a2:i * t.n + t.n≤hi * t.n:=by
          have:=Nat.mul_le_mul_right t.n (show i + 1≤hi by omega)
          rw [Nat.add_mul] at this
          omega
         have a3:lo * t.n + (hi - lo) * t.n=hi * t.n:=by rw [← Nat.add_mul];congr 1;omega
         rw [if_pos ⟨by omega,by omega⟩,hzc]
         have:=tT (z:=z.cells.toList) (n:=hi - lo) hzl hn (i:=i - lo) (by omega) hk
         rw [show i * t.n + k - lo * t.n=(i - lo) * t.n + k by rw [Nat.sub_mul];omega]
         simpa using this
        ·rw [if_neg hin] at hk
         have hnot:¬ (lo * t.n≤i * t.n + k∧i * t.n + k < lo * t.n + (hi - lo) * t.n):=by
          rintro ⟨b1,b2⟩
          have a3:lo * t.n + (hi - lo) * t.n=hi * t.n:=by rw [← Nat.add_mul];congr 1;omega
          rw [a3] at b2
          rcases Nat.lt_or_ge i lo with h1 | h1
          ·have:=Nat.mul_le_mul_right t.n (show i + 1≤lo by omega)
           rw [Nat.add_mul] at this
           omega
          ·have h2:hi≤i:=by omega
           have:=Nat.mul_le_mul_right t.n h2
           omega
         rw [if_neg hnot]
         rw [List.getElem?_take,if_pos hk2,List.getElem?_drop] at hk
         exact hk
       simpa using hgoal
     ·rw [d1] at e;rw [d2];exact hob.2 a n c e
 ·cases k1
end
end Go.Abs
