/- What the slices of the laws on tables hold. -/
import Derived.Test.YtcdcmffcajlolaaLawWhole
import Derived.Test.YtcdcmffcajlolaaFlat
namespace Go.Dn

instance : Inhabited ActZ := ⟨⟨0, 0, 0, false, false, false⟩⟩
theorem actCell_len (x : ActZ) : (actCell x).length = 6 := rfl
theorem open_act {cs : List Value} (h : AllOK [.i .i64, .i .i64, .i .i64, .b, .b, .b] cs) : ∃ x, cs = actCell x ∧ True := by
  obtain ⟨w0, ⟨a, rfl, _⟩, w1, ⟨b, rfl, _⟩, w2, ⟨c, rfl, _⟩, w3, ⟨d, rfl⟩, w4, ⟨e, rfl⟩, w5, ⟨f, rfl⟩, rfl⟩ := allOK_6 h
  exact ⟨⟨a, b, c, d, e, f⟩, rfl, trivial⟩
theorem open_one {cs : List Value} (h : AllOK [.i .i64] cs) : ∃ x, cs = oneCell x ∧ True := by
  obtain ⟨w0, ⟨a, rfl, _⟩, rfl⟩ := allOK_1 h
  exact ⟨a, rfl, trivial⟩
end Go.Dn
