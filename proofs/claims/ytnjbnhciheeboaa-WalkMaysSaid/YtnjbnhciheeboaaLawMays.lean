/- An access may be, or not, as the page says. -/
import Derived.Test.YtnjbnhciheeboaaLay
import Derived.Test.YtnjbnhciheeboaaDnO
namespace Go.Dn
theorem WalkMays_A {p0 p1 p2 p3 p4 p5 : Bool} {A : AH} {l : List SP} {Q : Bool → AH → Prop} (h : Own l A) (hk : ∀ A', Own l A' → Q true A') : demesnelaw04_WalkMays_A p0 p1 p2 p3 p4 p5 Q A := by
  unfold demesnelaw04_WalkMays_A
  refine ⟨fun _ => True, True.intro, ?_⟩
  refine awake_spec h fun A' h => ⟨True.intro, bsel_t rfl ?_⟩
  refine ⟨True.intro, fun _ _ => rfl, True.intro, fun _ _ => rfl, True.intro, fun _ _ => rfl, True.intro, fun _ _ => rfl, True.intro, fun _ _ => rfl, True.intro, fun _ _ => rfl, ?_⟩
  refine May_spec ⟨True.intro, ?_⟩
  refine rMay_spec ⟨True.intro, ?_⟩
  have : (mayZ p0 p1 p2 p3 p4 p5 == mayZ p0 p1 p2 p3 p4 p5) = true := by simp
  rw [this]
  exact hk _ h
end Go.Dn
