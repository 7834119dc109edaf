/- Part of a proof of FnExactPlay: see the row. -/
import Derived.Test.YtenadnbpibhmiaaGreatProg
import Derived.Test.YtenadnbpibhmiaaGreatPlAbsIns
set_option linter.unusedVariables false
set_option linter.unusedSimpArgs false
namespace Go.Abs
open Go.Proofs Go.RowKit Go.Lib
theorem Tq.nt:Tryz.f209.ntmps=95:=rfl
theorem Tq.u28:Tryz.prog.underlying 28=some (.slice 43):=by kernel_rfl
theorem Tq.u3:Tryz.prog.underlying 3=some (.int .i64):=by kernel_rfl
theorem Tq.u4:Tryz.prog.underlying 4=some .bool:=by kernel_rfl
theorem Tq.mixed:Tryz.prog.follows .mixedOrders=true:=by kernel_rfl
theorem Tq.a28:∀ w,(isAgg 28).run Tryz.prog w=.ok false w:=fun w=>by kernel_rfl
theorem Tq.i43:∃ i z,Tryz.prog.info? 43=some i∧i.zero=some z∧i.size=22∧i.bytes≤24 * 22∧z.cells.size=22:=by
 have h:(Tryz.prog.info? 43).map (fun i=>(i.zero.map (·.cells.size),i.size,Nat.ble i.bytes 528))=some (some 22,22,true):=by kernel_rfl
 cases hi:Tryz.prog.info? 43 with
 | none=>rw [hi] at h;cases h
 | some i =>
  rw [hi] at h
  simp only [Option.map_some,Option.some.injEq,Prod.mk.injEq] at h
  obtain ⟨h1,h2,h3⟩:=h
  cases hz:i.zero with
  | none=>rw [hz] at h1;cases h1
  | some z =>
   rw [hz] at h1
   simp only [Option.map_some,Option.some.injEq] at h1
   exact ⟨i,z,rfl,hz,h2,Nat.le_of_ble_eq_true h3,h1⟩
set_option maxHeartbeats 4000000 in
set_option maxRecDepth 100000 in
theorem NQ (g n c:Nat) (cur:Array Value) (ty:TypeId) (vb vc:Nat) (vs:List Value) (w:World) (hg:w.heap[g]?=some (.cells cur ty (0,0))) (hs:cur.size=c * 22) (hroom:n + 1≤c) (hc:c≤maxLen)
  (hvl:vs.length=22) (hvs:∀ j v,vs[j]?=some v→w.cell? ⟨vb,j,none⟩=some v) (h1v:∀ v∈vs,v.oneCell'=true) :
  Calls Tryz.prog 209 #[.slice (some ⟨g,0,none⟩) n c,.int .i64 n,.slice (some ⟨vb,0,none⟩) 1 vc] w fun e w' =>
   e=.returned (.slice (some ⟨g,0,none⟩) (n + 1) c)∧w'=w.setRow g (cur.toList.take (n * 22)++vs++cur.toList.drop (n * 22 + 22)).toArray:=by
 have u28:=Tq.u28;have u3:=Tq.u3;have u4:=Tq.u4;have a28:=Tq.a28
 have r28:=run_underlying Tq.u28;have r3:=run_underlying Tq.u3;have r4:=run_underlying Tq.u4
 obtain ⟨i,z,hi,hz,hsz,hb,hzs⟩:=Tq.i43
 unfold maxLen at hc
 have hz1:¬ ((1:Int)=0):=by omega
 have hrun:∀ ty',(Builtin.append_ #[28,28] ty' #[.slice (some ⟨g,0,none⟩) n c,.slice (some ⟨vb,0,none⟩) 1 vc]).run Tryz.prog w=.ok (.slice (some ⟨g,0,none⟩) (n + 1) c) (w.setRow g (cur.toList.take (n * 22)++vs++cur.toList.drop (n * 22 + 22)).toArray):=fun ty'=>by
  have:=nI (P:=Tryz.prog) (w:=w) 28 ty' 43 ty i Tq.u28 hi g n c cur hg ⟨vb,0,none⟩ 1 vc vs (by rw [hsz];exact hvl) (fun j u hu=>by rw [Addr.add_lit,Nat.zero_add];exact hvs j u hu) h1v hroom (by rw [hsz,hvl,hs];omega)
  rw [hsz,hvl] at this
  exact this
 clear hi hz hsz hb hzs
 go_enter Tryz.func209,Tq.nt
 go_wp2_with (at_builtin;refine Lib.wpList_append_run _ rfl _ _ _ _ rfl _ _ rfl rfl _ _ (hrun _) ?_)
 go_ret
 exact ⟨rfl,by rw [List.append_assoc]⟩
set_option maxHeartbeats 4000000 in
set_option maxRecDepth 100000 in
theorem C2 (base:Option Addr) (n c:Nat) (vb vc:Nat) (cs vs:List Value) (w:World) (hnc:n≤c) (hroom:c < n + 1) (hbig:(n + 1) * 528≤aC)
  (hcl:cs.length=n * 22) (hvl:vs.length=22) (hnil:base=none→n=0)
  (hcs:∀ a,base=some a→∀ j v,cs[j]?=some v→w.cell? (a.add j)=some v)
  (hvs:∀ j v,vs[j]?=some v→w.cell? ⟨vb,j,none⟩=some v) (h1v:∀ v∈vs,v.oneCell'=true) :
  Calls Tryz.prog 209 #[.slice base n c,.int .i64 n,.slice (some ⟨vb,0,none⟩) 1 vc] w fun e w'=>∃ zs:Array Value,zs.size=(grownCap w (n + 1) c 43 - (n + 1)) * 22 ∧
   e=.returned (.slice (some ⟨w.heap.size,0,none⟩) (n + 1) (grownCap w (n + 1) c 43)) ∧
   w'=w.drew.alloc (.cells ((cs++vs).toArray++zs) 43):=by
 have u28:=Tq.u28;have u3:=Tq.u3;have u4:=Tq.u4;have a28:=Tq.a28
 have r28:=run_underlying Tq.u28;have r3:=run_underlying Tq.u3;have r4:=run_underlying Tq.u4
 obtain ⟨i,z,hi,hz,hsz,hb,hzs⟩:=Tq.i43
 unfold aC at hbig
 have hz1:¬ ((1:Int)=0):=by omega
 have hsrc:Go.Src Tryz.prog i.size 28 (.slice (some ⟨vb,0,none⟩) 1 vc) 1 vs w:=by
  rw [hsz]
  exact Src.ofSlice w Tq.u28 ⟨vb,0,none⟩ 1 vc vs (by omega) (fun j u hj=>by rw [Addr.add_lit,Nat.zero_add];exact hvs j u hj) h1v
 have hold:(Builtin.firstCells i.size n (.slice base n c)).run Tryz.prog w.drew=.ok cs.toArray w.drew:=by
  rw [hsz]
  cases base with
  | none =>
   have h0:=hnil rfl
   subst h0
   rw [List.length_eq_zero_iff.1 (show cs.length=0 by omega)]
   exact run_firstCells_none w.drew 22 0 0 c
  | some a=>exact run_firstCells_some w.drew 22 n a n c cs (by omega) (fun j v hj=>hcs a rfl j v hj)
 have hmb:(n + 1) * i.bytes≤140737488355328:=Nat.le_trans (Nat.mul_le_mul_left (n + 1) hb) (by omega)
 have hrun:=fun ty'=>run_append_grow_src w 28 28 ty' 43 i z Tq.u28 hi hz base n c cs hold _ 1 vs hsrc hroom (by omega) (growslice_fits hroom hmb)
 obtain ⟨zs,hzse⟩:∃ zs,zs=Builtin.zeroCells z.cells (grownCap w (n + 1) c 43 - (n + 1)):=⟨_,rfl⟩
 have hzl:zs.size=(grownCap w (n + 1) c 43 - (n + 1)) * 22:=by rw [hzse,size_zeroCells,hzs]
 rw [← hzse] at hrun
 have hh:Hid (zs.size=(grownCap w (n + 1) c 43 - (n + 1)) * 22):=hzl
 clear hi hz hsz hb hzs hsrc hold hzse hzl hmb hbig
 go_enter Tryz.func209,Tq.nt
 cases base with
 | none =>
  have h0:=hnil rfl
  subst h0
  go_wp2_with (at_builtin;refine Lib.wpList_append_run _ rfl _ _ _ _ rfl _ _ rfl rfl _ _ (hrun _) ?_)
  go_ret
  exact ⟨_,hh.out,rfl,rfl⟩
 | some a =>
  obtain ⟨ab,ao,asp⟩:=a
  go_wp2_with (at_builtin;refine Lib.wpList_append_run _ rfl _ _ _ _ rfl _ _ rfl rfl _ _ (hrun _) ?_)
  all_goals (go_ret;exact ⟨_,hh.out,rfl,rfl⟩)
set_option maxHeartbeats 4000000 in
set_option maxRecDepth 100000 in
theorem Su (g n c k:Nat) (cur:Array Value) (ty:TypeId) (vb vc:Nat) (vs:List Value) (w:World) (hk:k < n) (hg:w.heap[g]?=some (.cells cur ty (0,0))) (hs:cur.size=c * 22) (hroom:n + 1≤c) (hc:c≤maxLen) (hvb:vb≠g)
  (hcn:∀ v∈cur.toList.take (n * 22),v.oneCell'=true)
  (vcur:Array Value) (tv:TypeId) (hvh:w.heap[vb]?=some (.cells vcur tv (0,0)))
  (hvl:vs.length=22) (hvs:∀ j v,vs[j]?=some v→w.cell? ⟨vb,j,none⟩=some v) (h1v:∀ v∈vs,v.oneCell'=true) :
  Calls Tryz.prog 209 #[.slice (some ⟨g,0,none⟩) n c,.int .i64 k,.slice (some ⟨vb,0,none⟩) 1 vc] w fun e w'=>∃ cur':Array Value,cur'.size=cur.size∧cur'.toList.take ((n + 1) * 22)=cur.toList.take (k * 22)++vs++(cur.toList.take (n * 22)).drop (k * 22) ∧
   e=.returned (.slice (some ⟨g,0,none⟩) (n + 1) c)∧w'=w.drew.setRow g cur':=by
 have u28:=Tq.u28;have u3:=Tq.u3;have u4:=Tq.u4;have a28:=Tq.a28;have mixed:=Tq.mixed
 have r28:=run_underlying Tq.u28;have r3:=run_underlying Tq.u3;have r4:=run_underlying Tq.u4
 obtain ⟨i,z,hi,hz,hsz,hb,hzs⟩:=Tq.i43
 unfold maxLen at hc
 have hz1:¬ ((1:Int)=0):=by omega
 have hz2:¬ ((k:Int)=(n:Int)):=by omega
 have hov:∀ lb cb,(callFunc 302 #[.slice (some ⟨vb,0,none⟩) 1 vc,.slice (some ⟨g,(k + 1) * 22,none⟩) lb cb]).run Tryz.prog w=.ok (.value (.bool false)) w:=fun lb cb=>by
  rw [run_callFunc_extern Tryz.func302 (by kernel_rfl) (by kernel_rfl) (by kernel_rfl) (e:=Extern.SlicesOverlaps.overlaps #[28,28] #[4]) (by kernel_rfl),
   Lib.run_overlaps_apart w 28 4 43 Tq.u28 22 (fun w=>by kernel_rfl) ⟨vb,0,none⟩ ⟨g,(k + 1) * 22,none⟩ 1 vc lb cb hvb tv ty vcur.size cur.size (by simp [World.shape?,hvh]) (by simp [World.shape?,hg]) (by omega) (by simp [World.frozen?,hvh]) (by simp [World.frozen?,hvh])]
  rfl
 let news:=(cur.toList.take (n * 22)).drop (k * 22)
 have hnl:news.length=(n - k) * 22:=by simp [news];omega
 let cur1:=(cur.toList.take ((k + 1) * 22)++news++cur.toList.drop ((k + 1) * 22 + news.length)).toArray
 let cur2:=(cur1.toList.take (k * 22)++vs++cur1.toList.drop (k * 22 + vs.length)).toArray
 have hs1:cur1.size=c * 22:=by simp [cur1,hnl];omega
 have hcp1:∀ W:World,W.heap=w.heap→∀ ty' dc sc,(Builtin.copy_ #[28,28] ty' #[.slice (some ⟨g,(k + 1) * 22,none⟩) (n - k) dc,.slice (some ⟨g,k * 22,none⟩) (n + 1 - k) sc]).run Tryz.prog W=.ok (goInt (n - k:Nat)) (W.setRow g cur1):=fun W hW ty' dc sc=>by
  refine oF W 28 28 ty' 43 i g ((k + 1) * 22) _ dc _ _ sc cur ty news Tq.u28 hi (by rw [hW];exact hg) (n - k) (by simp only [Nat.min_def];split <;> omega) (by rw [hsz];exact hnl) (fun j v hj=>?_) (by rw [hnl,hs];omega) (fun v hv=>hcn v (List.mem_of_mem_drop hv))
  rw [Addr.add_lit,cell_of_row W g _ cur ty (0,0) (by rw [hW];exact hg)]
  simp only [news,List.getElem?_drop,List.getElem?_take] at hj
  split at hj
  ·simpa using hj
  ·cases hj
 have hcp2:∀ W:World,W.heap=(w.setRow g cur1).heap→∀ ty' dc,(Builtin.copy_ #[28,28] ty' #[.slice (some ⟨g,k * 22,none⟩) (n + 1 - k) dc,.slice (some ⟨vb,0,none⟩) 1 vc]).run Tryz.prog W=.ok (goInt (1:Nat)) (W.setRow g cur2):=fun W hW ty' dc=>by
  refine oF W 28 28 ty' 43 i g (k * 22) _ dc _ _ vc cur1 ty vs Tq.u28 hi (by rw [hW];exact setRow_heap w g cur _ ty _ hg) 1 (by simp only [Nat.min_def];split <;> omega) (by rw [hsz];exact hvl) (fun j v hj=>?_) (by rw [hvl,hs1];omega) h1v
  rw [Addr.add_lit,Nat.zero_add]
  rw [World.cell?_of_block (w:=w) (a:=⟨vb,j,none⟩) (by rw [hW];exact setRow_other w g vb _ hvb)]
  exact hvs j v hj
 have hres:cur2.size=cur.size∧cur2.toList.take ((n + 1) * 22)=cur.toList.take (k * 22)++vs++(cur.toList.take (n * 22)).drop (k * 22):=by
  have hal:cur.toList.length=c * 22:=by simpa using hs
  refine ⟨by simp [cur2,hs1,hvl,hs];omega,?_⟩
  have e1:cur1.toList.take (k * 22)=cur.toList.take (k * 22):=by
   show (cur.toList.take ((k + 1) * 22)++news++cur.toList.drop ((k + 1) * 22 + news.length)).take (k * 22)=_
   rw [List.append_assoc,List.take_append_of_le_length (by rw [List.length_take,hal];omega),List.take_take,Nat.min_eq_left (by omega)]
  have e2:cur1.toList.drop (k * 22 + vs.length)=news++cur.toList.drop ((k + 1) * 22 + news.length):=by
   show (cur.toList.take ((k + 1) * 22)++news++cur.toList.drop ((k + 1) * 22 + news.length)).drop (k * 22 + vs.length)=_
   rw [List.append_assoc,List.drop_append_of_le_length (by rw [List.length_take,hal];omega),List.drop_of_length_le (by rw [List.length_take,hal];omega),List.nil_append]
  show (cur1.toList.take (k * 22)++vs++cur1.toList.drop (k * 22 + vs.length)).take ((n + 1) * 22)=_
  rw [e1,e2,← List.append_assoc,List.take_append_of_le_length (by simp only [List.length_append,List.length_take,hal,hvl,hnl];omega)]
  exact List.take_of_length_le (by simp only [List.length_append,List.length_take,hal,hvl,hnl];omega)
 have hR:Hid (cur2.size=cur.size∧cur2.toList.take ((n + 1) * 22)=cur.toList.take (k * 22)++vs++(cur.toList.take (n * 22)).drop (k * 22)):=hres
 obtain ⟨curA,hA⟩:∃ x,x=cur1:=⟨_,rfl⟩
 obtain ⟨curB,hB⟩:∃ x,x=cur2:=⟨_,rfl⟩
 rw [← hA] at hcp1 hcp2
 rw [← hB] at hcp2 hR
 clear hres hB hA hi hz hsz hb hzs hs1 hnl hcn hvl h1v hvs hvh hs hg
 clear_value news
 have hw1:IntKind.i64.wrap ((k:Int) + 1)=(k:Int) + 1:=by rw [IntKind.wrap_i64];omega
 have hb1:(0:Int)≤(k:Int) + 1:=by omega
 have hin:k≤n:=by omega
 have htn:((k:Int) + 1).toNat=k + 1:=by omega
 have hb2:¬ (c=k + 1):=by omega
 have hb3:(k:Int)≤(n:Int) + 1:=by omega
 have hb4:¬ (c=k):=by omega
 have hcpA:=hcp1 w.drew rfl
 have hcpB:=hcp2 (w.setRow g curA).drew rfl
 have hcpB2:=hcp2 (w.drew.setRow g curA) rfl
 clear hcp1 hcp2
 go_enter Tryz.func209,Tq.nt
 go_wp2_with (simp only [hov])
 go_region_law_o (refine step_copy_runI rfl _ _ 28 28 rfl _ _ (by simp [Act.eval,Act.put]) (by simp [Act.eval,Act.put]) (hcpA _ _ _) ?_)
 go_wp2_with (at_builtin;refine wpList_copy_runI _ rfl _ _ 28 28 rfl _ _ rfl rfl (hcpB2 _ _) ?_)
 go_ret
 exact ⟨curB,hR.out.1,hR.out.2,rfl,by rw [setRow_setRow]⟩
set_option maxHeartbeats 4000000 in
set_option maxRecDepth 100000 in
theorem NR (g n k:Nat) (cur:Array Value) (ty:TypeId) (vb vc:Nat) (vs:List Value) (w:World) (hk:k < n) (hg:w.heap[g]?=some (.cells cur ty (0,0))) (hs:cur.size=n * 22) (hbig:(n + 1) * 528≤aC) (hvb:vb < w.heap.size)
  (hcn:∀ v∈cur.toList.take (n * 22),v.oneCell'=true)
  (hvl:vs.length=22) (hvs:∀ j v,vs[j]?=some v→w.cell? ⟨vb,j,none⟩=some v) (h1v:∀ v∈vs,v.oneCell'=true) :
  Calls Tryz.prog 209 #[.slice (some ⟨g,0,none⟩) n n,.int .i64 k,.slice (some ⟨vb,0,none⟩) 1 vc] w fun e w'=>∃ cur':Array Value,cur'.size=grownCap w (n + 1) n 43 * 22∧cur'.toList.take ((n + 1) * 22)=cur.toList.take (k * 22)++vs++(cur.toList.take (n * 22)).drop (k * 22) ∧
   e=.returned (.slice (some ⟨w.heap.size,0,none⟩) (n + 1) (grownCap w (n + 1) n 43))∧bg aV w w'∧w'.heap[w.heap.size]?=some (.cells cur' 43 (0,0)):=by
 have u28:=Tq.u28;have u3:=Tq.u3;have u4:=Tq.u4;have a28:=Tq.a28;have mixed:=Tq.mixed
 have r28:=run_underlying Tq.u28;have r3:=run_underlying Tq.u3;have r4:=run_underlying Tq.u4
 obtain ⟨i,z,hi,hz,hsz,hb,hzs⟩:=Tq.i43
 unfold aC at hbig
 have hgl:g < w.heap.size:=(Array.getElem?_eq_some_iff.1 hg).1
 have hz1:¬ ((1:Int)=0):=by omega
 have hz2:¬ ((k:Int)=(n:Int)):=by omega
 let head:=cur.toList.take (k * 22)
 let news:=(cur.toList.take (n * 22)).drop (k * 22)
 have hal:cur.toList.length=n * 22:=by simpa using hs
 have hnl:news.length=(n - k) * 22:=by simp [news];omega
 have hhl:head.length=k * 22:=by simp [head];omega
 have hcc:∀ (W:World),W.heap[g]?=w.heap[g]?→∀ j v,cur.toList[j]?=some v→W.cell? ⟨g,j,none⟩=some v:=fun W hW j v hj=>by
  rw [cell_of_row W g _ cur ty (0,0) (by rw [hW];exact hg)]
  simpa using hj
 have hold:(Builtin.firstCells i.size k (.slice (some ⟨g,0,none⟩) k n)).run Tryz.prog w.drew=.ok head.toArray w.drew:=by
  rw [hsz]
  exact run_firstCells_some w.drew 22 k ⟨g,0,none⟩ k n head hhl (fun j v hj=>by
   rw [Addr.add_lit,Nat.zero_add]
   simp only [head,List.getElem?_take] at hj
   split at hj
   ·exact hcc w.drew rfl j v hj
   ·cases hj)
 have hmb:(n + 1) * i.bytes≤140737488355328:=Nat.le_trans (Nat.mul_le_mul_left (n + 1) hb) (by omega)
 have hkk:(n:Int) + 1 - (k:Int)=((n + 1 - k:Nat):Int):=by omega
 have hik:k + (n + 1 - k)=n + 1:=by omega
 have hrz:∀ ty',(Builtin.append_ #[28,3] ty' #[.slice (some ⟨g,0,none⟩) k n,.int .i64 ((n:Int) + 1 - (k:Int))]).run Tryz.prog w =
   .ok (.slice (some ⟨w.heap.size,0,none⟩) (n + 1) (grownCap w (n + 1) n 43)) (w.drew.alloc (.cells (head.toArray++Builtin.zeroCells z.cells (n + 1 - k)++Builtin.zeroCells z.cells (grownCap w (n + 1) n 43 - (n + 1))) 43)):=fun ty'=>by
  have h:=Lib.run_append_grow_zeros w 28 3 ty' 43 i z .i64 .i64 Tq.u28 Tq.u3 hi hz (some ⟨g,0,none⟩) k n head hold (n + 1 - k) (by omega) (by omega) (by omega) (by omega)
   (Nat.le_trans (Nat.mul_le_mul_right _ (show n + 1 - k≤n + 1 by omega)) (by omega)) (by rw [hik];exact growslice_fits (by omega) hmb)
  rw [hik] at h
  rw [hkk]
  exact h
 have hGn:n + 1≤grownCap w (n + 1) n 43:=grownCap_ge w _ _ _
 have hG63:grownCap w (n + 1) n 43≤9223372036854775807:=grownCap_le_maxLen w (n + 1) n 43 (by unfold maxLen;omega)
 obtain ⟨G,hG⟩:∃ G,G=grownCap w (n + 1) n 43:=⟨_,rfl⟩
 rw [← hG] at hrz hGn hG63 ⊢
 obtain ⟨ROW,hROW⟩:∃ ROW:Array Value,ROW=head.toArray++Builtin.zeroCells z.cells (n + 1 - k)++Builtin.zeroCells z.cells (G - (n + 1)):=⟨_,rfl⟩
 rw [← hROW] at hrz
 have hRs:ROW.size=G * 22:=by
  rw [hROW]
  simp only [Array.size_append,List.size_toArray,size_zeroCells,hzs,hhl]
  omega
 have hRh:ROW.toList.take (k * 22)=head:=by
  rw [hROW]
  simp only [Array.toList_append]
  rw [List.append_assoc,List.take_append_of_le_length (by rw [hhl];exact Nat.le_refl _)]
  exact List.take_of_length_le (by rw [hhl];exact Nat.le_refl _)
 let W1:=w.drew.alloc (.cells ROW 43)
 have hW1:W1.heap[w.heap.size]?=some (.cells ROW 43 (0,0)):=heap_alloc_new w.drew _
 have hW1o:∀ b,b < w.heap.size→W1.heap[b]?=w.heap[b]?:=fun b hb=>(bg.alloc w.drew _).block b hb id
 let cur1:=(ROW.toList.take (k * 22)++vs++ROW.toList.drop (k * 22 + vs.length)).toArray
 have hs1:cur1.size=G * 22:=by simp [cur1,hvl];omega
 let cur2:=(cur1.toList.take ((k + 1) * 22)++news++cur1.toList.drop ((k + 1) * 22 + news.length)).toArray
 have hcpA:∀ W:World,W.heap=W1.heap→∀ ty' dc,(Builtin.copy_ #[28,28] ty' #[.slice (some ⟨w.heap.size,k * 22,none⟩) (n + 1 - k) dc,.slice (some ⟨vb,0,none⟩) 1 vc]).run Tryz.prog W=.ok (goInt (1:Nat)) (W.setRow w.heap.size cur1):=fun W hW ty' dc=>by
  refine oF W 28 28 ty' 43 i w.heap.size (k * 22) _ dc _ _ vc ROW 43 vs Tq.u28 hi (by rw [hW];exact hW1) 1 (by simp only [Nat.min_def];split <;> omega) (by rw [hsz];exact hvl) (fun j v hj=>?_) (by rw [hvl,hRs];omega) h1v
  rw [Addr.add_lit,Nat.zero_add]
  rw [World.cell?_of_block (w:=w) (a:=⟨vb,j,none⟩) (by rw [hW];exact hW1o vb hvb)]
  exact hvs j v hj
 have hcpB:∀ W:World,W.heap=(W1.setRow w.heap.size cur1).heap→∀ ty' dc sc,(Builtin.copy_ #[28,28] ty' #[.slice (some ⟨w.heap.size,(k + 1) * 22,none⟩) (n - k) dc,.slice (some ⟨g,k * 22,none⟩) (n - k) sc]).run Tryz.prog W=.ok (goInt (n - k:Nat)) (W.setRow w.heap.size cur2):=fun W hW ty' dc sc=>by
  refine oF W 28 28 ty' 43 i w.heap.size ((k + 1) * 22) _ dc _ _ sc cur1 43 news Tq.u28 hi (by rw [hW];exact setRow_heap W1 _ ROW _ 43 _ hW1) (n - k) (by simp only [Nat.min_def];split <;> omega) (by rw [hsz];exact hnl) (fun j v hj=>?_) (by rw [hnl,hs1];omega) (fun v hv=>hcn v (List.mem_of_mem_drop hv))
  rw [Addr.add_lit]
  simp only [news,List.getElem?_drop,List.getElem?_take] at hj
  split at hj
  ·exact hcc W (by rw [hW];rw [setRow_other W1 w.heap.size g _ (by omega)];exact hW1o g hgl) _ v hj
  ·cases hj
 have hres:cur2.size=G * 22∧cur2.toList.take ((n + 1) * 22)=cur.toList.take (k * 22)++vs++(cur.toList.take (n * 22)).drop (k * 22):=by
  refine ⟨by simp [cur2,hs1,hnl];omega,?_⟩
  have hRl:ROW.toList.length=G * 22:=by simpa using hRs
  have e1:cur1.toList.take ((k + 1) * 22)=head++vs:=by
   show (ROW.toList.take (k * 22)++vs++ROW.toList.drop (k * 22 + vs.length)).take ((k + 1) * 22)=_
   rw [hRh,List.take_append_of_le_length (by simp only [List.length_append,hhl,hvl];omega)]
   exact List.take_of_length_le (by simp only [List.length_append,hhl,hvl];omega)
  show (cur1.toList.take ((k + 1) * 22)++news++cur1.toList.drop ((k + 1) * 22 + news.length)).take ((n + 1) * 22)=_
  rw [e1,List.take_append_of_le_length (by simp only [List.length_append,hhl,hvl,hnl];omega)]
  exact List.take_of_length_le (by simp only [List.length_append,hhl,hvl,hnl];omega)
 have hfin:∀ W:World,W.heap=((W1.setRow w.heap.size cur1).setRow w.heap.size cur2).heap→W.os=w.os→W.tape=w.tape→W.output=w.output→bg aV w W∧W.heap[w.heap.size]?=some (.cells cur2 43 (0,0)):=fun W hW h1 h2 h3=>by
  refine ⟨⟨h1,h2,h3,by rw [hW];simp [W1],fun b hb _=>?_⟩,?_⟩
  ·rw [hW,setRow_other _ _ b _ (by omega),setRow_other _ _ b _ (by omega)]
   exact hW1o b hb
  ·rw [hW]
   exact setRow_heap _ _ cur1 _ 43 _ (setRow_heap W1 _ ROW _ 43 _ hW1)
 have hR:Hid (cur2.size=G * 22∧cur2.toList.take ((n + 1) * 22)=cur.toList.take (k * 22)++vs++(cur.toList.take (n * 22)).drop (k * 22)):=hres
 have hF:Hid (∀ W:World,W.heap=((W1.setRow w.heap.size cur1).setRow w.heap.size cur2).heap→W.os=w.os→W.tape=w.tape→W.output=w.output→bg aV w W∧W.heap[w.heap.size]?=some (.cells cur2 43 (0,0))):=hfin
 obtain ⟨curA,hA⟩:∃ x,x=cur1:=⟨_,rfl⟩
 obtain ⟨curB,hB⟩:∃ x,x=cur2:=⟨_,rfl⟩
 rw [← hA] at hcpA hcpB hF
 rw [← hB] at hcpB hR hF
 have hcA:=hcpA ((w.alloc (.cells ROW 43)).drew) rfl
 have hcB:=hcpB (((w.alloc (.cells ROW 43)).drew.setRow w.heap.size curA).drew) rfl
 clear hcpA hcpB hres hB hA hi hz hsz hb hzs hs1 hnl hcn hvl h1v hvs hs hg hfin hRs hRh hROW hcc hold hkk hik hhl hal hbig hW1 hW1o hG
 clear_value news head
 have hw1:IntKind.i64.wrap ((k:Int) + 1)=(k:Int) + 1:=by rw [IntKind.wrap_i64];omega
 have hb1:(0:Int)≤(k:Int) + 1:=by omega
 have hin:k≤n:=by omega
 have htn:((k:Int) + 1).toNat=k + 1:=by omega
 have hb2:¬ (G=k + 1):=by omega
 have hb3:(k:Int)≤(n:Int):=by omega
 have hb4:¬ (G=k):=by omega
 have hb5:¬ (n=k):=by omega
 go_enter Tryz.func209,Tq.nt
 go_wp2_with (first
  | (at_builtin;refine Lib.wpList_append_run _ rfl _ _ _ _ rfl _ _ rfl rfl _ _ (hrz _) ?_)
  | (at_builtin;refine wpList_copy_runI _ rfl _ _ 28 28 rfl _ _ rfl rfl (hcA _ _) ?_))
 go_region_law_o (refine step_copy_runI rfl _ _ 28 28 rfl _ _ (by simp [Act.eval,Act.put]) (by simp [Act.eval,Act.put]) (hcB _ _ _) ?_)
 go_wp2
 go_ret
 have hf:=hF.out (((w.alloc (.cells ROW 43)).drew.setRow w.heap.size curA).drew.setRow w.heap.size curB) rfl rfl rfl rfl
 exact ⟨curB,hR.out.1,hR.out.2,rfl,hf.1,hf.2⟩
theorem TX {t:Ty} (hn:t.n=22):fC Tryz.prog 209 (.mut [.tk,.rd,.tk] true true (.pair (.slice t) (.pair (.int .i64) (.pair (.slice t) .unit))) (.slice t)
  (fun x=>if 0≤x.2.1∧x.2.1≤(x.1.length:Int)∧x.2.2.1.length=1∧x.1.length≤1048576 then some (x.1.take x.2.1.toNat++x.2.2.1++x.1.drop x.2.1.toNat,()) else none)):=by
 refine ⟨by unfold ff;kernel_rfl,fun Imm w vs x fp z hnI hIl hnd hA hz=>?_⟩
 obtain ⟨xs,i,ys,u⟩:=x
 obtain ⟨cs,r,f1,f2,rfl,rfl,ho,cs1,r1,rfl,hi,cs2,r2,f3,f4,rfl,rfl,ho2,rfl,rfl⟩:=hA
 rw [List.append_nil] at hnd hnI ⊢
 dsimp only at hz ho ho2 hi
 split at hz
 ·rename_i hc
  obtain ⟨c1,c2,c3,c4⟩:=hc
  cases hz
  obtain ⟨v,rfl⟩:∃ v,cs=[v]:=by
   have:=ho.length
   match cs,this with
   | [v],_=>exact ⟨v,rfl⟩
  obtain ⟨u,rfl⟩:∃ v,cs2=[v]:=by
   have:=ho2.length
   match cs2,this with
   | [v],_=>exact ⟨v,rfl⟩
  obtain ⟨k,rfl⟩:=Int.eq_ofNat_of_zero_le c1
  have hi:cs1=[.int .i64 (k:Int)]:=hi
  subst hi
  have hk:k≤xs.length:=Int.ofNat_le.1 c2
  have hlt:=ho.lt
  have hlt2:=ho2.lt
  rw [List.nodup_append] at hnd
  obtain ⟨n1,n2,n3⟩:=hnd
  have hbig:(xs.length + 1) * 528≤aC:=by unfold aC;omega
  rcases ho2.els with ⟨_,e,_⟩ | ⟨vb,vc,vcur,vty,gps,rfl,hvh,hvc,hvm,hvs,rfl,hV⟩
  ·rw [e] at c3;cases c3
  rw [c3,Nat.one_mul,hn] at hV
  have hvl:(vcur.toList.take 22).length=22:=by rw [hV.2.1,c3,hn]
  have hvcell:∀ j v,(vcur.toList.take 22)[j]?=some v→w.cell? ⟨vb,j,none⟩=some v:=fun j v hj=>by
   rw [cell_of_row w vb _ vcur vty (0,0) hvh]
   rw [List.getElem?_take] at hj
   split at hj
   ·simpa using hj
   ·cases hj
  rw [c3]
  have n2':=n2
  rw [List.nodup_cons] at n2'
  have fin:∀ (A:List Value) (fps:List (List Nat)) (e:Ending) (w':World) (G cap:Nat) (cur:Array Value) (ty:TypeId),Els Tryz.prog Imm t w A xs fps→(∀ b∈fps.flatten,b∈f1)→fps.flatten.Nodup→bg (fun b=>b∈f1∧b ∉ fps.flatten) w w'→(w.heap.size≤G∨G∈f1∧G ∉ fps.flatten) →
    e=.returned (.slice (some ⟨G,0,none⟩) (xs.length + 1) cap)→w'.heap[G]?=some (.cells cur ty (0,0))→xs.length + 1≤cap→cap≤maxLen→cur.size=cap * 22 →
    cur.toList.take ((xs.length + 1) * 22)=A.take (k * 22)++vcur.toList.take 22++A.drop (k * 22) →
    bg (fun b=>b∈f1++vb :: gps.flatten) w w'∧∃ cs' fpr fpo,e=Ending.returned (jF true (.slice t) cs')∧QJ Tryz.prog true (.slice t) (CD Imm w w' (fpr++fpo)) w' cs' (List.take (Int.toNat k) xs++ys++List.drop (Int.toNat k) xs) fpr ∧
     sH Tryz.prog (CD Imm w w' (fpr++fpo)) [.tk,.rd,.tk] (.pair (.slice t) (.pair (.int .i64) (.pair (.slice t) .unit))) w' [valOf (.slice t) [v],valOf (.int .i64) [.int .i64 (k:Int)],valOf (.slice t) [.slice (some ⟨vb,0,none⟩) 1 vc]] () fpo∧(fpr++fpo).Nodup∧∀ b∈fpr++fpo,b∈f1++vb :: gps.flatten∨w.heap.size≤b:=by
   intro A fps e w' G cap cur ty hA hfi hfn hK hG he hGh hc hm hs ht
   have hgf:∀ b∈gps.flatten,b∈vb :: gps.flatten:=fun b hb=>List.mem_cons_of_mem _ hb
   have p1:∀ b∈fps.flatten++gps.flatten,w'.heap[b]?=w.heap[b]?:=fun b hb=>by
    rcases List.mem_append.1 hb with h | h
    ·exact hK.block b (hlt b (hfi b h)) fun h'=>h'.2 h
    ·exact hK.block b (hlt2 b (hgf b h)) fun h'=>n3 b h'.1 b (hgf b h) rfl
   have p2:G ∉ fps.flatten++gps.flatten:=fun h=>by
    rcases List.mem_append.1 h with h | h
    ·rcases hG with h' | h'
     ·exact absurd (hlt G (hfi G h)) (Nat.not_lt.2 h')
     ·exact h'.2 h
    ·rcases hG with h' | h'
     ·exact absurd (hlt2 G (hgf G h)) (Nat.not_lt.2 h')
     ·exact n3 G h'.1 G (hgf G h) rfl
   have p3:(fps.flatten++gps.flatten).Nodup:=by
    rw [List.nodup_append]
    exact ⟨hfn,n2'.2,fun x hx y hy=>n3 x (hfi x hx) y (hgf y hy)⟩
   obtain ⟨fpr,q1,q2,q3⟩:=UF (w':=w') hA hV hk c3 p1 (hK.still fun b hb h=>hnI b (List.mem_append_left _ h.1) hb) hGh hc hm (by rw [hn];exact hs) (by rw [hn];exact ht) p2 p3
   refine ⟨hK.mono fun _ _ h=>List.mem_append_left _ h.1,[_],fpr,[],he,?_,⟨_,_,rfl,_,_,rfl,_,_,rfl,rfl,rfl⟩,by rw [List.append_nil];exact q2,fun b hb=>?_⟩
   ·exact q1.imm fun b hb=>.inl hb
   ·rw [List.append_nil] at hb
    rcases q3 b hb with rfl | h
    ·exact hG.elim .inr fun h=>.inl (List.mem_append_left _ h.1)
    ·rcases List.mem_append.1 h with h | h
     ·exact .inl (List.mem_append_left _ (hfi b h))
     ·exact .inl (List.mem_append_right _ (hgf b h))
  have hmm:xs.length + 1≤maxLen:=by unfold maxLen;omega
  rcases ho.els with ⟨rfl,rfl,rfl⟩ | ⟨g,cap,cur,ty,fps,rfl,hg,hcl,hcm,hcs,rfl,hA⟩
  ·have:k=0:=by simpa using hk
   subst this
   refine (C2 none 0 0 vb vc [] (vcur.toList.take 22) w (Nat.le_refl _) (by omega) hbig rfl hvl (fun _=>rfl) (fun a h=>by cases h) hvcell hV.ones).mono ?_
   rintro e w' ⟨zs,z1,rfl,rfl⟩
   refine fin [] [] _ _ w.heap.size _ _ 43 (Els.nil t w) (fun b hb=>by cases hb) List.nodup_nil ?_ (.inl (Nat.le_refl _)) rfl (heap_alloc_new w.drew _) (grownCap_ge w 1 0 43) (grownCap_le_maxLen w 1 0 43 hmm) ?_ ?_
   ·exact ((bg.drew w).trans (bg.alloc w.drew _)).mono fun _ _ h=>h.elim
   ·have:=grownCap_ge w (0 + 1) 0 43
    rw [Array.size_append,List.size_toArray,List.nil_append,hvl,z1]
    omega
   ·show List.take 22 ((vcur.toList.take 22).toArray++zs).toList=List.take 0 []++List.take 22 vcur.toList++List.drop 0 []
    rw [Array.toList_append,List.take_append_of_le_length (by show 22≤(vcur.toList.take 22).length;rw [hvl];exact Nat.le_refl _)]
    rw [List.take_of_length_le (by show (vcur.toList.take 22).length≤22;rw [hvl];exact Nat.le_refl _)]
    simp
  ·rw [hn] at hcs
   rw [hn] at hA
   have hal:cur.toList.length=cap * 22:=by simpa using hcs
   have hnd1:=List.nodup_cons.1 n1
   have hgl:g < w.heap.size:=hlt g (List.mem_cons_self ..)
   have hvbl:vb < w.heap.size:=hlt2 vb (List.mem_cons_self ..)
   have hne:vb≠g:=fun e=>n3 g (List.mem_cons_self ..) vb (List.mem_cons_self ..) e.symm
   have hfi:∀ b∈fps.flatten,b∈g :: fps.flatten:=fun b hb=>List.mem_cons_of_mem _ hb
   have hAc:∀ j v,(cur.toList.take (xs.length * 22))[j]?=some v→w.cell? ⟨g,j,none⟩=some v:=fun j v hj=>by
    rw [cell_of_row w g _ cur ty (0,0) hg]
    rw [List.getElem?_take] at hj
    split at hj
    ·simpa using hj
    ·cases hj
   have hAl:(cur.toList.take (xs.length * 22)).length=xs.length * 22:=by rw [hA.2.1,hn]
   have kp:∀ (W:World) (cur':Array Value),bg (fun b=>b∈g :: fps.flatten∧b ∉ fps.flatten) W (W.setRow g cur'):=fun W cur'=>bg.setRow ⟨List.mem_cons_self ..,hnd1.1⟩
   by_cases hkn:k=xs.length
   ·subst hkn
    by_cases hroom:xs.length + 1≤cap
    ·refine (NQ g xs.length cap cur ty vb vc _ w hg hcs hroom hcm hvl hvcell hV.ones).mono ?_
     rintro e w' ⟨rfl,rfl⟩
     refine fin _ fps _ _ g cap _ ty hA hfi hnd1.2 (kp _ _) (.inr ⟨List.mem_cons_self ..,hnd1.1⟩) rfl (setRow_heap w g cur _ ty _ hg) hroom hcm ?_ ?_
     ·simp only [List.size_toArray,List.length_append,List.length_take,List.length_drop,hal,hvl]
      omega
     ·rw [List.take_append_of_le_length (by simp only [List.length_append,List.length_take,hal,hvl];omega),List.take_of_length_le (by simp only [List.length_append,List.length_take,hal,hvl];omega)]
      rw [List.take_take,Nat.min_self,List.drop_of_length_le (by rw [hAl];exact Nat.le_refl _),List.append_nil]
    ·refine (C2 (some ⟨g,0,none⟩) xs.length cap vb vc _ _ w hcl (by omega) hbig hAl hvl (fun h=>by cases h) (fun a h j v hj=>?_) hvcell hV.ones).mono ?_
     ·cases h
      rw [Addr.add_lit,Nat.zero_add]
      exact hAc j v hj
     ·rintro e w' ⟨zs,z1,rfl,rfl⟩
      refine fin _ fps _ _ w.heap.size _ _ 43 hA hfi hnd1.2 (((bg.drew w).trans (bg.alloc w.drew _)).mono fun _ _ h=>h.elim) (.inl (Nat.le_refl _)) rfl (heap_alloc_new w.drew _) (grownCap_ge w _ _ 43) (grownCap_le_maxLen w _ _ 43 hmm) ?_ ?_
      ·have:=grownCap_ge w (xs.length + 1) cap 43
       rw [Array.size_append,List.size_toArray,List.length_append,hAl,hvl,z1]
       omega
      ·rw [Array.toList_append,List.take_append_of_le_length (by rw [List.length_append,hAl,hvl];omega),List.take_of_length_le (by rw [List.length_append,hAl,hvl];omega)]
       rw [List.take_take,Nat.min_self,List.drop_of_length_le (by rw [hAl];exact Nat.le_refl _),List.append_nil]
   ·by_cases hroom:xs.length + 1≤cap
    ·refine (Su g xs.length cap k cur ty vb vc _ w (by omega) hg hcs hroom hcm hne hA.ones vcur vty hvh hvl hvcell hV.ones).mono ?_
     rintro e w' ⟨cur',z1,z2,rfl,rfl⟩
     refine fin _ fps _ _ g cap cur' ty hA hfi hnd1.2 ((bg.drew w).mono (fun _ _ h=>h.elim) |>.trans (kp _ _)) (.inr ⟨List.mem_cons_self ..,hnd1.1⟩) rfl (setRow_heap w.drew g cur _ ty _ hg) hroom hcm (by rw [z1,hcs]) ?_
     rw [z2,List.take_take,Nat.min_eq_left (by omega)]
    ·have:cap=xs.length:=by omega
     subst this
     refine (NR g xs.length k cur ty vb vc _ w (by omega) hg hcs hbig hvbl hA.ones hvl hvcell hV.ones).mono ?_
     rintro e w' ⟨cur',z1,z2,rfl,z3,z4⟩
     refine fin _ fps _ _ w.heap.size _ cur' 43 hA hfi hnd1.2 (z3.mono fun _ _ h=>h.elim) (.inl (Nat.le_refl _)) rfl z4 (grownCap_ge w _ _ 43) (grownCap_le_maxLen w _ _ 43 hmm) z1 ?_
     rw [z2,List.take_take,Nat.min_eq_left (by omega)]
 ·cases hz
end Go.Abs
