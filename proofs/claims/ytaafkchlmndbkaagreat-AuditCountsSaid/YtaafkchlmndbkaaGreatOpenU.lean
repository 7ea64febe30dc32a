/- What a slice of uses holds. -/
import Derived.Test.YtaafkchlmndbkaaGreatFlat
import Derived.Test.YtaafkchlmndbkaaGreatLawCounts
namespace Go.Dn
theorem open_use {cs : List Value} (h : AllOK [.i .i64,.i .i64,.i .i64] cs) : ∃ x : Us,cs = useE x ∧ True := by
 obtain ⟨w0,⟨a,rfl,_⟩,w1,⟨b,rfl,_⟩,w2,⟨c,rfl,_⟩,rfl⟩ := allOK_3 h
 exact ⟨(a,b,c),rfl,trivial⟩
end Go.Dn
