/- Four registers' numbers. -/
import Derived.Test.YtmfmhmipcdgikaaGreatOpenC
import Derived.Test.YtmfmhmipcdgikaaGreatLawUps
namespace Go.Dn
theorem four_u {a b c d:Int} (h0:U64 a) (h1:U64 b) (h2:U64 c) (h3:U64 d):∀ x ∈ [a,b,c,d],0≤x∧x<18446744073709551616:=fun x hx=>by
 simp at hx
 rcases hx with rfl | rfl | rfl | rfl
 ·exact h0
 ·exact h1
 ·exact h2
 ·exact h3
end Go.Dn
