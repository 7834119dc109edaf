/- Part of a proof of FnExactPlay: see the row. -/
import Derived.Test.YtenadnbpibhmiaaGreatPlAbsOps6
set_option linter.unusedVariables false
set_option linter.unusedSimpArgs false
namespace Go.Abs
open Go.RowKit
def Els (P:Program) (Imm:Nat→Prop) (t:Ty) (w:World) (all:List Value) (xs:List t.D) (fps:List (List Nat)):Prop :=
 fps.length=xs.length∧all.length=xs.length * t.n ∧
  ∀ i x f,xs[i]?=some x→fps[i]?=some f→∃ cs,cs.length=t.n∧(∀ k v,cs[k]?=some v→all[i * t.n + k]?=some v)∧Own P Imm t w cs x f
section
variable {P:Program} {Imm:Nat→Prop}
theorem Els.nil (t:Ty) (w:World):Els P Imm t w [] [] []:=⟨rfl,by simp,fun i x f h=>by simp at h⟩
theorem Els.append {t:Ty} {w:World} {a b:List Value} {xs ys:List t.D} {f g:List (List Nat)} (h:Els P Imm t w a xs f) (k:Els P Imm t w b ys g):Els P Imm t w (a++b) (xs++ys) (f++g):=by
 obtain ⟨h1,h2,h3⟩:=h
 obtain ⟨k1,k2,k3⟩:=k
 refine ⟨by simp [h1,k1],by simp [h2,k2,Nat.add_mul],fun i x fp hx hf=>?_⟩
 rw [List.getElem?_append] at hx hf
 split at hx
 ·rename_i hlt
  rw [if_pos (by omega)] at hf
  obtain ⟨cs,c1,c2,c3⟩:=h3 i x fp hx hf
  refine ⟨cs,c1,fun j v hj=>?_,c3⟩
  have:=c2 j v hj
  rw [List.getElem?_append_left]
  ·exact this
  ·exact (List.getElem?_eq_some_iff.1 this).1
 ·rename_i hge
  rw [if_neg (by omega)] at hf
  rw [h1] at hf
  obtain ⟨cs,c1,c2,c3⟩:=k3 (i - xs.length) x fp hx hf
  refine ⟨cs,c1,fun j v hj=>?_,c3⟩
  have:=c2 j v hj
  have hle:xs.length * t.n≤i * t.n:=Nat.mul_le_mul_right _ (by omega)
  rw [List.getElem?_append_right (by rw [h2];omega),h2]
  rw [Nat.sub_mul] at this
  rwa [show i * t.n + j - xs.length * t.n=i * t.n - xs.length * t.n + j by omega]
theorem Els.keep {t:Ty} {w w':World} {a:List Value} {xs:List t.D} {fps:List (List Nat)} (h:Els P Imm t w a xs fps) (hk:∀ b∈fps.flatten,w'.heap[b]?=w.heap[b]?) (hs:rq Imm Imm w w'):Els P Imm t w' a xs fps :=
 ⟨h.1,h.2.1,fun i x f hx hf=>by
  obtain ⟨cs,c1,c2,c3⟩:=h.2.2 i x f hx hf
  exact ⟨cs,c1,c2,c3.keep (fun b hb=>hk b (List.mem_flatten.2 ⟨f,List.mem_of_getElem? hf,hb⟩)) hs⟩⟩
theorem Els.own {t:Ty} {w:World} {all:List Value} {xs:List t.D} {fps:List (List Nat)} (h:Els P Imm t w all xs fps) {g cap:Nat} {cur:Array Value} {ty:TypeId} (hg:w.heap[g]?=some (.cells cur ty (0,0)))
  (hc:xs.length≤cap) (hm:cap≤maxLen) (hs:cur.size=cap * t.n) (ht:cur.toList.take (xs.length * t.n)=all):Own P Imm (.slice t) w [.slice (some ⟨g,0,none⟩) xs.length cap] xs (g :: fps.flatten):=by
 refine .inr ⟨g,cap,cur,ty,fps,rfl,hg,hc,hm,hs,h.1,rfl,fun i x f hx hf=>?_⟩
 obtain ⟨cs,c1,c2,c3⟩:=h.2.2 i x f hx hf
 refine ⟨cs,c1,(b8 cs _).2 fun j v hj=>?_,c3⟩
 rw [cell_of_row w g _ cur ty (0,0) hg]
 have:=c2 j v hj
 rw [← ht,List.getElem?_take] at this
 split at this
 ·simpa using this
 ·cases this
theorem Own.els {t:Ty} {w:World} {v:Value} {xs:List t.D} {fp:List Nat} (h:Own P Imm (.slice t) w [v] xs fp) :
  (v=.slice none 0 0∧xs=[]∧fp=[])∨∃ (g cap:Nat) (cur:Array Value) (ty:TypeId) (fps:List (List Nat)),v=.slice (some ⟨g,0,none⟩) xs.length cap∧w.heap[g]?=some (.cells cur ty (0,0))∧xs.length≤cap∧cap≤maxLen∧cur.size=cap * t.n ∧
   fp=g :: fps.flatten∧Els P Imm t w (cur.toList.take (xs.length * t.n)) xs fps:=by
 rcases h with ⟨h1,h2,h3⟩ | ⟨g,cap,cur,ty,fps,e1,e2,e3,e4,e5,e6,e7,e8⟩
 ·simp only [List.cons.injEq,and_true] at h1
  exact .inl ⟨h1,h2,h3⟩
 ·simp only [List.cons.injEq,and_true] at e1
  have hle:xs.length * t.n≤cap * t.n:=Nat.mul_le_mul_right _ e3
  refine .inr ⟨g,cap,cur,ty,fps,e1,e2,e3,e4,e5,e7,e6,by simp;omega,fun i x f hx hf=>?_⟩
  obtain ⟨cs,c1,c2,c3⟩:=e8 i x f hx hf
  refine ⟨cs,c1,fun k u hk=>?_,c3⟩
  have h1:=(b8 cs _).1 c2 k u hk
  rw [cell_of_row w g _ cur ty (0,0) e2] at h1
  have hi:i < xs.length:=(List.getElem?_eq_some_iff.1 hx).1
  have hk2:k < t.n:=by rw [← c1];exact (List.getElem?_eq_some_iff.1 hk).1
  have:i * t.n + k < xs.length * t.n:=by
   have:=Nat.mul_le_mul_right t.n (show i + 1≤xs.length by omega)
   rw [Nat.add_mul] at this
   omega
  rw [List.getElem?_take,if_pos this]
  simpa using h1
end
def Src (P:Program) (Imm:Nat→Prop) (t:Ty) (w:World) (u:Value) (ys:List t.D) (fps:List (List Nat)):Prop :=
 ∃ (ax:Option Addr) (cap:Nat) (news:List Value),u=.slice ax ys.length cap∧Els P Imm t w news ys fps∧(∀ v∈news,v.oneCell'=true)∧(ax=none→cap=0∧ys=[])∧∀ ad,ax=some ad→∀ j v,news[j]?=some v→w.cell? (ad.add j)=some v
section
variable {P:Program} {σ:Hd→aS} {Imm:Nat→Prop} {w:World}
theorem Own.ones:∀ {t:Ty} {vs:List Value} {x:t.D} {fp:List Nat},Own P Imm t w vs x fp→∀ v∈vs,v.oneCell'=true
 | .int _,_,_,_,h,v,hv=>by rw [h.1] at hv;simp at hv;subst hv;rfl
 | .bool,_,_,_,h,v,hv=>by rw [h.1] at hv;simp at hv;subst hv;rfl
 | .hd,_,_,_,h,v,hv=>by rw [h.1] at hv;simp at hv;subst hv;rfl
 | .slice _,_,_,_,h,v,hv=>by
  rcases h with ⟨h,_⟩ | ⟨g,cap,cur,ty,fps,h,_⟩ <;> (rw [h] at hv;simp at hv;subst hv;rfl)
 | .unit,_,_,_,h,v,hv=>by rw [h.1] at hv;cases hv
 | .pair a b,_,_,_,⟨v1,v2,f1,f2,h,_,_,h3,h4⟩,v,hv=>by
  rw [h] at hv
  rcases List.mem_append.1 hv with hv | hv
  ·exact h3.ones v hv
  ·exact h4.ones v hv
 | .vw _,_,_,_,h,v,hv=>by
  obtain ⟨a,cap,e,_⟩:=h.1
  rw [e] at hv;simp at hv;subst hv;rfl
theorem Els.ones {t:Ty} {all:List Value} {xs:List t.D} {fps:List (List Nat)} (h:Els P Imm t w all xs fps):∀ v∈all,v.oneCell'=true:=by
 intro v hv
 obtain ⟨j,hj⟩:=List.mem_iff_getElem?.1 hv
 have hlt:=(List.getElem?_eq_some_iff.1 hj).1
 rw [h.2.1] at hlt
 have hn:0 < t.n:=by
  rcases Nat.eq_zero_or_pos t.n with h0 | h0
  ·rw [h0] at hlt;simp at hlt
  ·exact h0
 have hi:j / t.n < xs.length:=(Nat.div_lt_iff_lt_mul hn).2 hlt
 obtain ⟨cs,c1,c2,c3⟩:=h.2.2 (j / t.n) xs[j / t.n] _ (List.getElem?_eq_getElem hi) (List.getElem?_eq_getElem (by rw [h.1];exact hi))
 have hk:j % t.n < cs.length:=by rw [c1];exact Nat.mod_lt _ hn
 have:=c2 (j % t.n) cs[j % t.n] (List.getElem?_eq_getElem hk)
 rw [Nat.div_add_mod' j t.n,hj] at this
 simp only [Option.some.injEq] at this
 rw [this]
 exact c3.ones _ (List.getElem_mem hk)
theorem Own.src {t:Ty} {v:Value} {xs:List t.D} {fp:List Nat} (h:Own P Imm (.slice t) w [v] xs fp):∃ fps,Src P Imm t w v xs fps∧(fp=fps.flatten∨∃ g,fp=g :: fps.flatten):=by
 rcases h.els with ⟨rfl,rfl,rfl⟩ | ⟨g,cap,cur,ty,fps,rfl,e2,e3,e4,e5,rfl,e7⟩
 ·exact ⟨[],⟨none,0,[],rfl,Els.nil t w,by simp,by simp,by simp⟩,.inl rfl⟩
 ·refine ⟨fps,⟨some ⟨g,0,none⟩,cap,_,rfl,e7,e7.ones,by simp,fun ad had j u hj=>?_⟩,.inr ⟨g,rfl⟩⟩
  cases had
  rw [fV,Nat.zero_add,cell_of_row w g j cur ty (0,0) e2]
  rw [List.getElem?_take] at hj
  split at hj
  ·simpa using hj
  ·cases hj
theorem Rd.src {J:Nat→Prop} {t:Ty} (hf:t.cop=true) (hJ:t.flat=true∨∀ b,Imm b→J b) {v:Value} {xs:List t.D} (h:Rd P (.slice t) Imm w [v] xs):Src P J t w v xs (xs.map fun _=>[]):=by
 obtain ⟨a,cap,e,h1,h2,h3⟩:=h
 simp only [List.cons.injEq,and_true] at e
 subst e
 have hcell:∀ j,j < xs.length * t.n→∃ b off,a=some ⟨b,off,none⟩∧∃ u,w.cell? ⟨b,off + j,none⟩=some u:=by
  intro j hj
  have hn:0 < t.n:=by
   rcases Nat.eq_zero_or_pos t.n with h0 | h0
   ·rw [h0] at hj;simp at hj
   ·exact h0
  have hi:j / t.n < xs.length:=(Nat.div_lt_iff_lt_mul hn).2 hj
  obtain ⟨b,off,cs,e,hb,hl,hlen,hcs,hr⟩:=h3 (j / t.n) xs[j / t.n] (List.getElem?_eq_getElem hi)
  have hk:j % t.n < cs.length:=by rw [hlen];exact Nat.mod_lt _ hn
  refine ⟨b,off,e,cs[j % t.n],?_⟩
  have:=(b8 cs _).1 hcs (j % t.n) _ (List.getElem?_eq_getElem hk)
  rwa [Nat.add_assoc,Nat.div_add_mod' j t.n] at this
 let news:List Value:=(List.range (xs.length * t.n)).map fun j=>match a with
  | some ad=>(w.cell? (ad.add j)).getD undef
  | none=>undef
 have hnl:news.length=xs.length * t.n:=by simp [news]
 have hnews:∀ ad,a=some ad→∀ j v,news[j]?=some v→w.cell? (ad.add j)=some v:=by
  intro ad had j u hj
  have hlt:=(List.getElem?_eq_some_iff.1 hj).1
  rw [hnl] at hlt
  obtain ⟨b,off,e,u',hu⟩:=hcell j hlt
  rw [e] at had
  cases had
  simp only [news,List.getElem?_map,List.getElem?_range hlt,Option.map_some,Option.some.injEq,e] at hj
  rw [fV] at hj ⊢
  rw [hu] at hj ⊢
  simpa using hj
 have hels:Els P J t w news xs (xs.map fun _=>[]):=by
  refine ⟨by simp,hnl,fun i x f hx hf'=>?_⟩
  obtain ⟨b,off,cs,e,hb,hl,hlen,hcs,hr⟩:=h3 i x hx
  have hf0:f=[]:=by rw [List.getElem?_map,hx] at hf';simpa using hf'.symm
  subst hf0
  refine ⟨cs,hlen,fun k u hk=>?_,by
   have ho:=Rd.own hf hr
   rcases hJ with hfl | hJ
   ·exact (Own.flat (w':=w) hfl ho).2
   ·exact ho.imm hJ⟩
  have h1:=(b8 cs _).1 hcs k u hk
  have hi:i < xs.length:=(List.getElem?_eq_some_iff.1 hx).1
  have hk2:k < t.n:=by rw [← hlen];exact (List.getElem?_eq_some_iff.1 hk).1
  have hlt:i * t.n + k < xs.length * t.n:=by
   have:=Nat.mul_le_mul_right t.n (show i + 1≤xs.length by omega)
   rw [Nat.add_mul] at this
   omega
  simp only [news,List.getElem?_map,List.getElem?_range hlt,Option.map_some,Option.some.injEq,e]
  rw [fV,← Nat.add_assoc,h1]
  rfl
 refine ⟨a,cap,news,rfl,hels,hels.ones,fun ha=>⟨h2 ha,?_⟩,hnews⟩
 rw [h2 ha] at h1
 exact List.eq_nil_of_length_eq_zero (by omega)
theorem nI (t ty e e':TypeId) (i:TypeInfo) (ht:P.underlying t=some (.slice e)) (hi:P.info? e=some i)
  (g sLen sCap:Nat) (cur:Array Value) (hg:w.heap[g]?=some (.cells cur e' (0,0)))
  (a:Addr) (m c:Nat) (news:List Value) (hl:news.length=m * i.size) (hnews:∀ j u,news[j]?=some u→w.cell? (a.add j)=some u) (h1:∀ u∈news,u.oneCell'=true)
  (hroom:sLen + m≤sCap) (hfit:sLen * i.size + news.length≤cur.size) :
  (Builtin.append_ #[t,t] ty #[.slice (some ⟨g,0,none⟩) sLen sCap,.slice (some a) m c]).run P w =
   .ok (.slice (some ⟨g,0,none⟩) (sLen + m) sCap) (w.setRow g (cur.toList.take (sLen * i.size)++news++cur.toList.drop (sLen * i.size + news.length)).toArray):=by
 have hf:=run_firstCells_some (P:=P) w i.size m a m c news hl hnews
 have hst:=run_storeCells_at P g (sLen * i.size) e' news 0 cur w hg (by simpa using hfit) h1
 simp only [Nat.add_zero] at hst
 simp [Builtin.append_,run_underlying ht,sizeOf,typeInfo,hi,Builtin.lenOf,hroom,hf,Addr.add_lit,hst]
theorem wE (t ty e:TypeId) (i:TypeInfo) (ht:P.underlying t=some (.slice e)) (hi:P.info? e=some i) (s x:Option Addr) (n sc xc:Nat) (hn:n≤sc) :
  (Builtin.append_ #[t,t] ty #[.slice s n sc,.slice x 0 xc]).run P w=.ok (.slice s n sc) w:=by
 have h0:∀ xa:Addr,(Builtin.firstCells i.size 0 (.slice (some xa) 0 xc)).run P w=.ok #[] w:=fun xa=>by
  simpa using run_firstCells_some (P:=P) w i.size 0 xa 0 xc [] (by simp) (by simp)
 cases x <;> cases s <;> simp [Builtin.append_,run_underlying ht,sizeOf,typeInfo,hi,Builtin.lenOf,hn,run_firstCells_none,h0,storeCells]
end
theorem bg.setRow {w:World} {g:Nat} {cs:Array Value} {M:Nat→Prop} (hm:M g):bg M w (w.setRow g cs) :=
 ⟨rfl,rfl,rfl,by simp,fun k _ hk=>setRow_other w g k cs fun e=>hk (e ▸ hm)⟩
theorem Io {P:Program} {Imm:Nat→Prop} {w:World} {t:Ty} {T e ty:TypeId} {i:TypeInfo} {z:Value} (hu:P.underlying T=some (.slice e)) (hi:P.info? e=some i) (hs:i.size=t.n) (hb:i.bytes≤24 * t.n) (hn:0 < t.n)
  (hz:i.zero=some z) (hzs:z.cells.size=t.n) {v u:Value} {xs ys:List t.D} {fp:List Nat} {fps:List (List Nat)} (hown:Own P Imm (.slice t) w [v] xs fp) (hnd:fp.Nodup) (hsrc:Src P Imm t w u ys fps)
  (hI:∀ b∈fp,¬ Imm b) (hg:∀ b∈fp,b ∉ fps.flatten) (hlt:∀ b∈fps.flatten,b < w.heap.size) (hnd2:fps.flatten.Nodup)
  (hroom:(xs.length + ys.length) * (24 * t.n)≤aC) :
  ∃ v' w' fp',(Builtin.append_ #[T,T] ty #[v,u]).run P w=.ok v' w'∧bg (fun b=>b∈fp) w w'∧Own P Imm (.slice t) w' [v'] (xs++ys) fp'∧fp'.Nodup ∧
   (∀ b∈fp',w.heap.size≤b∨b∈fp∨b∈fps.flatten):=by
 obtain ⟨ax,capx,news,rfl,hels,hone,hnone,hcells⟩:=hsrc
 have hmb:(xs.length + ys.length) * i.bytes≤140737488355328:=by
  refine Nat.le_trans (Nat.mul_le_mul_left _ hb) (Nat.le_trans hroom ?_)
  simp [aC]
 have hmx:xs.length + ys.length≤1099511627776:=by
  have h24:1≤24 * t.n:=by omega
  have h2:=Nat.mul_le_mul_left (xs.length + ys.length) h24
  rw [Nat.mul_one] at h2
  exact Nat.le_trans h2 (Nat.le_trans hroom (by simp [aC]))
 have hmm:xs.length + ys.length≤maxLen:=by simp only [maxLen];omega
 have grow:∀ (olds:List Value) (fo:List (List Nat)) (old:Nat) (w':World),Els P Imm t w olds xs fo→(∀ b∈fo.flatten,b∈fp)→fo.flatten.Nodup→old < xs.length + ys.length →
   w'=w.drew.alloc (.cells (olds.toArray++news.toArray++Builtin.zeroCells z.cells (grownCap w (xs.length + ys.length) old e - (xs.length + ys.length))) e) →
   ∃ fp',bg (fun b=>b∈fp) w w'∧Own P Imm (.slice t) w' [.slice (some ⟨w.heap.size,0,none⟩) (xs.length + ys.length) (grownCap w (xs.length + ys.length) old e)] (xs++ys) fp'∧fp'.Nodup ∧
    (∀ b∈fp',w.heap.size≤b∨b∈fp∨b∈fps.flatten):=by
  intro olds fo old w' he hfo hfn ho hw'
  have hge:=grownCap_ge w (xs.length + ys.length) old e
  have hcm:grownCap w (xs.length + ys.length) old e≤maxLen:=grownCap_le_maxLen w (xs.length + ys.length) old e hmm
  have hk:bg aV w w':=by rw [hw'];exact (bg.drew w).trans (bg.alloc w.drew _)
  have hb:∀ b,b < w.heap.size→w'.heap[b]?=w.heap[b]?:=fun b hb=>hk.block b hb id
  have hfol:∀ b∈fo.flatten,b < w.heap.size:=fun b hb=>hown.lt b (hfo b hb)
  have he2:Els P Imm t w' (olds++news) (xs++ys) (fo++fps):=(he.append hels).keep (fun b hbm=>by
   rw [List.flatten_append,List.mem_append] at hbm
   rcases hbm with h | h
   ·exact hb b (hfol b h)
   ·exact hb b (hlt b h)) hk.still0
  have hgh:w'.heap[w.heap.size]?=some (.cells (olds.toArray++news.toArray++Builtin.zeroCells z.cells (grownCap w (xs.length + ys.length) old e - (xs.length + ys.length))) e (0,0)):=by
   rw [hw'];exact heap_alloc_new w.drew _
  refine ⟨w.heap.size :: (fo++fps).flatten,hk.mono fun _ _ h=>h.elim,?_,?_,?_⟩
  ·have:=he2.own (cap:=grownCap w (xs.length + ys.length) old e) hgh (by simpa using hge) hcm ?_ ?_
   ·simpa using this
   ·have e1:=he.2.1
    have e2:=hels.2.1
    simp only [Array.size_append,List.size_toArray,size_zeroCells,hzs,e1,e2,← Nat.add_mul]
    congr 1
    omega
   ·have:=he2.2.1
    simp only [Array.toList_append,← this,← List.append_assoc]
    rw [List.take_append_of_le_length (by simp)]
    exact List.take_of_length_le (by simp)
  ·rw [List.nodup_cons,List.flatten_append]
   refine ⟨fun h=>?_,?_⟩
   ·rcases List.mem_append.1 h with h | h
    ·have:=hfol _ h;omega
    ·have:=hlt _ h;omega
   ·rw [List.nodup_append]
    exact ⟨hfn,hnd2,fun b hb c hc e=>hg b (hfo b hb) (e ▸ hc)⟩
  ·intro b hb
   rcases List.mem_cons.1 hb with rfl | hb
   ·exact .inl (Nat.le_refl _)
   ·rw [List.flatten_append,List.mem_append] at hb
    rcases hb with hb | hb
    ·exact .inr (.inl (hfo b hb))
    ·exact .inr (.inr hb)
 rcases Nat.eq_zero_or_pos ys.length with hy0 | hypos
 ·have hys:ys=[]:=List.eq_nil_of_length_eq_zero hy0
  subst hys
  have hc:∃ s n sc,v=.slice s n sc∧n≤sc:=by
   rcases hown.els with ⟨rfl,_⟩ | ⟨g,cap,cur,ty',fps',rfl,_,h3,_⟩
   ·exact ⟨none,0,0,rfl,Nat.le_refl _⟩
   ·exact ⟨_,_,_,rfl,h3⟩
  obtain ⟨s,n,sc,rfl,hle⟩:=hc
  exact ⟨_,w,fp,wE T ty e i hu hi s ax n sc capx hle,bg.refl _ w,by simpa using hown,hnd,fun b hb=>.inr (.inl hb)⟩
 ·obtain ⟨ad,rfl⟩:∃ ad,ax=some ad:=by
   cases ax with
   | none=>have:=(hnone rfl).2;rw [this] at hypos;simp at hypos
   | some ad=>exact ⟨ad,rfl⟩
  have hnl:=hels.2.1
  rcases hown.els with ⟨rfl,rfl,rfl⟩ | ⟨g,cap,cur,ty',fo,rfl,e2,e3,e4,e5,rfl,e7⟩
  ·have hr:=run_append_nil (P:=P) w T ty e i z hu hi hz ad ys.length capx news (by rw [hs];exact hnl) (hcells ad rfl) hypos (by simp at hmx;omega) (by simp at hmb;omega)
   obtain ⟨fp',k1,k2,k3,k4⟩:=grow [] [] 0 _ (Els.nil t w) (by simp) (by simp) (by simp;omega) rfl
   refine ⟨_,_,fp',hr,?_,?_,k3,k4⟩
   ·simpa using k1
   ·simpa using k2
  ·by_cases hcap:xs.length + ys.length≤cap
   ·have hfit:xs.length * t.n + news.length≤cur.size:=by rw [hnl,e5,← Nat.add_mul];exact Nat.mul_le_mul_right _ hcap
    have hr:=nI (P:=P) (w:=w) T ty e ty' i hu hi g xs.length cap cur e2 ad ys.length capx news (by rw [hs];exact hnl) (hcells ad rfl) hone hcap (by rw [hs];exact hfit)
    rw [hs] at hr
    have hgn:g ∉ fo.flatten:=(List.nodup_cons.1 hnd).1
    have hset:=setRow_heap w g cur (cur.toList.take (xs.length * t.n)++news++cur.toList.drop (xs.length * t.n + news.length)).toArray ty' (0,0) e2
    have hoth:∀ b,b≠g→(w.setRow g (cur.toList.take (xs.length * t.n)++news++cur.toList.drop (xs.length * t.n + news.length)).toArray).heap[b]?=w.heap[b]?:=fun b hb=>setRow_other w g b _ hb
    have he2:=(e7.append hels).keep (w':=w.setRow g (cur.toList.take (xs.length * t.n)++news++cur.toList.drop (xs.length * t.n + news.length)).toArray) (fun b hbm=>by
     rw [List.flatten_append,List.mem_append] at hbm
     refine hoth b fun e=>?_
     rcases hbm with h | h
     ·exact hgn (e ▸ h)
     ·exact hg g (by simp) (e ▸ h)) ((bg.setRow (M:=fun b=>b=g) rfl).still fun b hb e=>hI g (by simp) (e ▸ hb))
    refine ⟨_,_,g :: (fo++fps).flatten,hr,bg.setRow (by simp),?_,?_,?_⟩
    ·have:=he2.own (cap:=cap) hset (by simpa using hcap) e4 ?_ ?_
     ·simpa using this
     ·have:xs.length * t.n≤cap * t.n:=Nat.mul_le_mul_right _ e3
      simp only [List.size_toArray,List.length_append,List.length_take,List.length_drop,Array.length_toList]
      omega
     ·have hl2:(xs++ys).length * t.n=(cur.toList.take (xs.length * t.n)++news).length:=he2.2.1.symm
      rw [hl2]
      have e1:(cur.toList.take (xs.length * t.n)++news++cur.toList.drop (xs.length * t.n + news.length)).toArray.toList=(cur.toList.take (xs.length * t.n)++news)++cur.toList.drop (xs.length * t.n + news.length):=rfl
      rw [e1,List.take_left]
    ·rw [List.nodup_cons,List.flatten_append] at *
     refine ⟨fun h=>?_,?_⟩
     ·rcases List.mem_append.1 h with h | h
      ·exact hgn h
      ·exact hg g (by simp) h
     ·rw [List.nodup_append]
      exact ⟨hnd.2,hnd2,fun b hb c hc e=>hg b (by simp [hb]) (e ▸ hc)⟩
    ·intro b hb
     rcases List.mem_cons.1 hb with rfl | hb
     ·exact .inr (.inl (by simp))
     ·rw [List.flatten_append,List.mem_append] at hb
      rcases hb with hb | hb
      ·exact .inr (.inl (by simp [hb]))
      ·exact .inr (.inr hb)
   ·have holds:∀ j v,(cur.toList.take (xs.length * t.n))[j]?=some v→w.cell? ((⟨g,0,none⟩:Addr).add j)=some v:=by
     intro j v hj
     rw [fV,Nat.zero_add,cell_of_row w g j cur ty' (0,0) e2]
     rw [List.getElem?_take] at hj
     split at hj
     ·simpa using hj
     ·cases hj
    have hr:=run_append_grow (P:=P) w T ty e i z hu hi hz ⟨g,0,none⟩ xs.length cap (cur.toList.take (xs.length * t.n)) (by rw [hs];exact e7.2.1) holds ad ys.length capx news (by rw [hs];exact hnl) (hcells ad rfl) (by omega) (by omega) (growslice_fits (by omega) hmb)
    obtain ⟨fp',k1,k2,k3,k4⟩:=grow _ fo cap _ e7 (fun b hb=>by simp [hb]) (List.nodup_cons.1 hnd).2 (by omega) rfl
    exact ⟨_,_,fp',hr,k1,k2,k3,k4⟩
end Go.Abs
