/- What the slices of the law on the order of areas hold. -/
import Derived.Test.YthplpkndhmhahaaLawOrder
import Derived.Test.YthplpkndhmhahaaOpenB
namespace Go.Dn

theorem u64_rng {a : Int} (h : (Lit.int .u64 a).wf = true) : 0 ≤ a ∧ a < 18446744073709551616 := by
  have h1 : 0 ≤ a ∧ a ≤ 18446744073709551615 := by simpa [Lit.wf, IntKind.min, IntKind.max, IntKind.bits, IntKind.signed] using h
  omega
theorem u32_rng {a : Int} (h : (Lit.int .u32 a).wf = true) : 0 ≤ a ∧ a < 4294967296 := by
  have h1 : 0 ≤ a ∧ a ≤ 4294967295 := by simpa [Lit.wf, IntKind.min, IntKind.max, IntKind.bits, IntKind.signed] using h
  omega
theorem open_ar {cs : List Value} (h : AllOK [.i .u64, .i .u64, .i .u32] cs) : ∃ x : Ar, cs = areaC x ∧ ArW x := by
  obtain ⟨w0, ⟨a, rfl, ha⟩, w1, ⟨b, rfl, hb⟩, w2, ⟨c, rfl, hc⟩, rfl⟩ := allOK_3 h
  exact ⟨(a, b, c), rfl, u64_rng ha, u64_rng hb, u32_rng hc⟩
end Go.Dn
