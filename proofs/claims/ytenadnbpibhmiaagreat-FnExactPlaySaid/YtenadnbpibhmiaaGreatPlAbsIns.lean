/- Part of a proof of FnExactPlay: see the row. -/
import Derived.Test.YtenadnbpibhmiaaGreatPlAbsHd
import Derived.Shelf.Spec.SlicesInsert
import Derived.Lib.AppendZerosOnto
set_option linter.unusedVariables false
set_option linter.unusedSimpArgs false
namespace Go.Abs
open Go.Proofs Go.RowKit Go.Lib
section
variable {P:Program}
theorem oF (w:World) (dT sT ty elem:TypeId) (i:TypeInfo) (g o dLen dCap:Nat) (a:Addr) (sLen sCap:Nat) (cur:Array Value) (t:TypeId) (cs:List Value)
  (hu:P.underlying dT=some (.slice elem)) (hi:P.info? elem=some i)
  (hg:w.heap[g]?=some (.cells cur t (0,0))) (m:Nat) (hm:m=Nat.min sLen dLen) (hn:cs.length=m * i.size)
  (hsrc:∀ j v,cs[j]?=some v→w.cell? (a.add j)=some v) (hfit:o + cs.length≤cur.size) (h1:∀ v∈cs,v.oneCell'=true) :
  (Builtin.copy_ #[dT,sT] ty #[.slice (some ⟨g,o,none⟩) dLen dCap,.slice (some a) sLen sCap]).run P w =
   .ok (goInt m) (w.setRow g (cur.toList.take o++cs++cur.toList.drop (o + cs.length)).toArray):=by
 have hl:=run_firstCells_some (P:=P) w i.size m a sLen sCap cs hn hsrc
 have hst:=run_storeCells_at P g o t cs 0 cur w hg (by simpa using hfit) h1
 simp only [Nat.add_zero] at hst
 have hm':sLen.min dLen=m:=hm.symm
 simp [Builtin.copy_,run_underlying hu,Builtin.lenOf,sizeOf,typeInfo,hi,hm',hl,hst]
end
theorem Els.cut {P:Program} {Imm:Nat→Prop} {t:Ty} {w:World} {all:List Value} {xs:List t.D} {fps:List (List Nat)} (h:Els P Imm t w all xs fps) (k:Nat) (hk:k≤xs.length) :
  Els P Imm t w (all.take (k * t.n)) (xs.take k) (fps.take k)∧Els P Imm t w (all.drop (k * t.n)) (xs.drop k) (fps.drop k):=by
 obtain ⟨h1,h2,h3⟩:=h
 have hm:k * t.n≤xs.length * t.n:=Nat.mul_le_mul_right _ hk
 refine ⟨⟨by simp;omega,by simp only [List.length_take,h2];rw [Nat.min_eq_left hm,Nat.min_eq_left hk],fun i x f hx hf=>?_⟩,⟨by simp;omega,by simp only [List.length_drop,h2];rw [Nat.sub_mul],fun i x f hx hf=>?_⟩⟩
 ·rw [List.getElem?_take] at hx hf
  split at hx
  ·rename_i hik
   rw [if_pos hik] at hf
   obtain ⟨cs,c1,c2,c3⟩:=h3 i x f hx hf
   refine ⟨cs,c1,fun j v hj=>?_,c3⟩
   have hj2:j < t.n:=by rw [← c1];exact (List.getElem?_eq_some_iff.1 hj).1
   have:(i + 1) * t.n≤k * t.n:=Nat.mul_le_mul_right _ hik
   rw [Nat.add_mul,Nat.one_mul] at this
   rw [List.getElem?_take,if_pos (by omega)]
   exact c2 j v hj
  ·cases hx
 ·rw [List.getElem?_drop] at hx hf
  obtain ⟨cs,c1,c2,c3⟩:=h3 (k + i) x f hx hf
  refine ⟨cs,c1,fun j v hj=>?_,c3⟩
  rw [List.getElem?_drop,← Nat.add_assoc,← Nat.add_mul]
  exact c2 j v hj
theorem TW {α:Type} (fps gps:List (List α)) (k:Nat):((fps.take k++gps++fps.drop k).flatten).Perm (fps.flatten++gps.flatten):=by
 rw [← List.flatten_append]
 refine List.Perm.flatten ?_
 rw [List.append_assoc]
 refine (List.Perm.append_left _ List.perm_append_comm).trans ?_
 rw [← List.append_assoc,List.take_append_drop]
theorem UF {P:Program} {I:Nat→Prop} {t:Ty} {w w':World} {A vs:List Value} {xs ys:List t.D} {fps gps:List (List Nat)} (hA:Els P I t w A xs fps) (hV:Els P I t w vs ys gps) {k:Nat} (hk:k≤xs.length) (hy:ys.length=1)
  {G cap:Nat} {cur:Array Value} {ty:TypeId} (hb:∀ b∈fps.flatten++gps.flatten,w'.heap[b]?=w.heap[b]?) (hst:rq I I w w') (hG:w'.heap[G]?=some (.cells cur ty (0,0))) (hc:xs.length + 1≤cap) (hm:cap≤maxLen) (hs:cur.size=cap * t.n)
  (ht:cur.toList.take ((xs.length + 1) * t.n)=A.take (k * t.n)++vs++A.drop (k * t.n)) (hGn:G ∉ fps.flatten++gps.flatten) (hnd:(fps.flatten++gps.flatten).Nodup) :
  ∃ fpr,Own P I (.slice t) w' [.slice (some ⟨G,0,none⟩) (xs.length + 1) cap] (xs.take k++ys++xs.drop k) fpr∧fpr.Nodup∧∀ b∈fpr,b=G∨b∈fps.flatten++gps.flatten:=by
 have hl:(xs.take k++ys++xs.drop k).length=xs.length + 1:=by simp;omega
 have hp:=TW fps gps k
 have he:Els P I t w (A.take (k * t.n)++vs++A.drop (k * t.n)) (xs.take k++ys++xs.drop k) (fps.take k++gps++fps.drop k):=((hA.cut k hk).1.append hV).append (hA.cut k hk).2
 have ho:=(he.keep (w':=w') (fun b h=>hb b (hp.mem_iff.1 h)) hst).own hG (cap:=cap) (by rw [hl];exact hc) hm hs (by rw [hl];exact ht)
 rw [hl] at ho
 refine ⟨_,ho,?_,fun b hb=>?_⟩
 ·rw [List.nodup_cons]
  exact ⟨fun h=>hGn (hp.mem_iff.1 h),hp.nodup_iff.2 hnd⟩
 ·rcases List.mem_cons.1 hb with h | h
  ·exact .inl h
  ·exact .inr (hp.mem_iff.1 h)
end Go.Abs
