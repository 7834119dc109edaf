/- Part of a proof of FnGames: see the row. -/
import Derived.Test.YtenadnbpibhmiaaGreatGmAbsPure
set_option linter.unusedVariables false
set_option linter.unusedSimpArgs false
namespace Go.Abs
def Tot {ρ:Type} (r:Option ρ) (Q:ρ→Prop):Prop:=∃ x,r=some x∧Q x
theorem Tot.bind {ρ τ:Type} {r:Option ρ} {k:ρ→Option τ} {P:ρ→Prop} {Q:τ→Prop} (h:Tot r P) (hk:∀ x,P x→Tot (k x) Q):Tot (r.bind k) Q:=by
 obtain ⟨x,rfl,hx⟩:=h
 exact hk x hx
theorem Tot.pure {ρ:Type} {x:ρ} {Q:ρ→Prop} (h:Q x):Tot (some x) Q:=⟨x,rfl,h⟩
theorem Tot.bif {ρ:Type} {b:Bool} {x y:Option ρ} {Q:ρ→Prop} (h1:b=true→Tot x Q) (h2:b=false→Tot y Q):Tot (bif b then x else y) Q:=by
 cases b
 ·exact h2 rfl
 ·exact h1 rfl
theorem Tot.imp {ρ:Type} {r:Option ρ} {P Q:ρ→Prop} (h:Tot r P) (hi:∀ x,P x→Q x):Tot r Q:=by
 obtain ⟨x,e,hx⟩:=h
 exact ⟨x,e,hi x hx⟩
theorem Tot.idx {α ρ:Type} {xs:List α} {i:Int} {κ:α→Option ρ} {Q:ρ→Prop} (h0:0≤i) (h1:i < (xs.length:Int)) (hk:∀ (n:Nat) x,i=n→xs[n]?=some x→Tot (κ x) Q):Tot (Abs.idx xs i κ) Q:=by
 obtain ⟨n,rfl⟩:=Int.eq_ofNat_of_zero_le h0
 have hn:xs[n]?=some (xs[n]'(by omega)):=List.getElem?_eq_getElem (by omega)
 rw [aJ hn]
 exact hk n _ rfl hn
theorem Tot.while {S R:Type} {body:S→Option (S⊕R)} {Q:R→Prop} (I:S→Prop) (m:S→Nat) (hstep:∀ s,I s→Tot (body s) (fun o=>match o with | .inl s'=>I s'∧m s' < m s | .inr r=>Q r)) {s:S} (hI:I s):Tot (ay body s) Q:=by
 obtain ⟨r,h1,h2⟩:=rY m I Q (fun s hs=>by
  obtain ⟨o,e,ho⟩:=hstep s hs
  cases o with
  | inl s'=>exact .inl ⟨s',e,ho.1,ho.2⟩
  | inr r=>exact .inr ⟨r,e,ho⟩) s hI
 exact ⟨r,h1,h2⟩
theorem Tot.some {ρ:Type} {r:Option ρ} {Q:ρ→Prop} (h:Tot r Q):∃ x,r=Option.some x∧Q x:=h
theorem SP {n:Nat} (h:n≤4294967296):IntKind.wrap .i64 (n:Int)=n:=aA (by omega) (by omega)
theorem TL (a b:BitVec 64):(a &&& b).toNat≤b.toNat:=by rw [BitVec.toNat_and];exact Nat.and_le_right
theorem Lg (a:Int):∃ n:Nat,IntKind.wrap .i64 (BitVec.ofInt (IntKind.bits .i64) a &&& BitVec.ofInt (IntKind.bits .i64) 255).toNat=n∧n≤255:=by
 have e:(BitVec.ofInt (IntKind.bits .i64) 255).toNat=255:=by decide
 have h:(BitVec.ofInt (IntKind.bits .i64) a &&& BitVec.ofInt (IntKind.bits .i64) 255).toNat≤255:=by
  rw [← e]
  exact TL _ _
 exact ⟨_,SP (by omega),h⟩
end Go.Abs
