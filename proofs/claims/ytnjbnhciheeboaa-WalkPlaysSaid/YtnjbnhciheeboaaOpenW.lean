/- The elements of the walks' arguments. -/
import Derived.Test.YtnjbnhciheeboaaLawPlays
import Derived.Test.YtnjbnhciheeboaaFlat
namespace Go.Dn
instance : Inhabited Stp := ⟨⟨0, 0, false, false, false⟩⟩
def putC (p : Put) : List Value := [.int .i64 p.f, .int .i64 p.at_, .int .u64 p.x]
def putQ (p : Put) : Prop := U64 p.x
def stpC (p : Stp) : List Value := [.int .i64 p.root, .int .u64 p.a, .bool p.aw, .bool p.au, .bool p.af]
def stpQ (p : Stp) : Prop := U64 p.a
theorem open_put1 {cs : List Value} (h : AllOK [.i .i64, .i .i64, .i .u64] cs) : ∃ p, cs = putC p ∧ putQ p := by
  obtain ⟨_, ⟨a, rfl, _⟩, _, ⟨b, rfl, _⟩, _, ⟨c, rfl, hc⟩, rfl⟩ := allOK_3 h
  exact ⟨⟨a, b, c⟩, rfl, u64_wf hc⟩
theorem open_stp1 {cs : List Value} (h : AllOK [.i .i64, .i .u64, .b, .b, .b] cs) : ∃ p, cs = stpC p ∧ stpQ p := by
  obtain ⟨_, ⟨a, rfl, _⟩, _, ⟨b, rfl, hb⟩, _, ⟨x, rfl⟩, _, ⟨y, rfl⟩, _, ⟨z, rfl⟩, rfl⟩ := allOK_5 h
  exact ⟨⟨a, b, x, y, z⟩, rfl, u64_wf hb⟩
end Go.Dn
