/- Part of a proof of FnExactPlay: see the row. -/
import Derived.Test.YtenadnbpibhmiaaGreatPlAbsPure
set_option linter.unusedVariables false
set_option linter.unusedSimpArgs false
namespace Go.Abs
def Tot {ρ:Type} (r:Option ρ) (Q:ρ→Prop):Prop:=∃ x,r=some x∧Q x
theorem Tot.bind {ρ τ:Type} {r:Option ρ} {k:ρ→Option τ} {P:ρ→Prop} {Q:τ→Prop} (h:Tot r P) (hk:∀ x,P x→Tot (k x) Q):Tot (r.bind k) Q:=by
 obtain ⟨x,rfl,hx⟩:=h
 exact hk x hx
theorem Tot.pure {ρ:Type} {x:ρ} {Q:ρ→Prop} (h:Q x):Tot (some x) Q:=⟨x,rfl,h⟩
theorem Tot.imp {ρ:Type} {r:Option ρ} {P Q:ρ→Prop} (h:Tot r P) (hi:∀ x,P x→Q x):Tot r Q:=by
 obtain ⟨x,e,hx⟩:=h
 exact ⟨x,e,hi x hx⟩
theorem Tot.some {ρ:Type} {r:Option ρ} {Q:ρ→Prop} (h:Tot r Q):∃ x,r=Option.some x∧Q x:=h
end Go.Abs
