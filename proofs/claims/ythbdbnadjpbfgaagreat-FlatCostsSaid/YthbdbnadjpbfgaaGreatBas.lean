/- Small words on slices and lists. -/
import Derived.Test.YthbdbnadjpbfgaaGreatSlices
namespace Go.Dn

theorem reads_slo {s : Sl} {sz : Nat} {cs : List Value} : Reads (SlO s sz cs) s sz cs := fun B A h u => reads_slat B A h.look u
theorem take_succ {α : Type} {L : List α} {v : Nat} {z : α} (h : L[v]? = some z) : L.take (v + 1) = L.take v ++ [z] := by rw [List.take_add_one, h]; rfl
end Go.Dn
