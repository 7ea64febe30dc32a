/- What the slices of the laws on boot maps hold. -/
import Derived.Test.YthplpkndhmhahaaAwake
import Derived.Test.YthplpkndhmhahaaFlat
namespace Go.Dn

theorem open_rg {cs : List Value} (h : AllOK [.i .i64, .i .i64] cs) : ∃ x : Rg, cs = rgE x ∧ True := by
  obtain ⟨w0, ⟨a, rfl, _⟩, w1, ⟨b, rfl, _⟩, rfl⟩ := allOK_2 h
  exact ⟨(a, b), rfl, trivial⟩
def byC (x : Int) : List Value := [byV x]
theorem open_by {cs : List Value} (h : AllOK [.i .u8] cs) : ∃ x : Int, cs = byC x ∧ (0 ≤ x ∧ x < 256) := by
  obtain ⟨w0, ⟨a, rfl, hw⟩, rfl⟩ := allOK_1 h
  refine ⟨a, rfl, ?_⟩
  have h1 : 0 ≤ a ∧ a ≤ 255 := by simpa [Lit.wf, IntKind.min, IntKind.max, IntKind.bits, IntKind.signed] using hw
  omega
theorem flat_by (l : List Int) : l.flatMap byC = l.map byV := by
  induction l with
  | nil => rfl
  | cons x l ih => rw [List.flatMap_cons, ih]; rfl
end Go.Dn
