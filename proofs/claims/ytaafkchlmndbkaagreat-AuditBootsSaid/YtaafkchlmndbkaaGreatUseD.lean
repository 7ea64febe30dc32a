/- Uses of frames, put in order. -/
import Derived.Test.YtaafkchlmndbkaaGreatDnZ
namespace Go.Dn
open Go.Proofs Go.Sort
abbrev Us := Int × Int × Int
def useE (x : Us) : List Value := [.int .i64 x.1,.int .i64 x.2.1,.int .i64 x.2.2]
def useCf (x y : Us) : Int := if Lib.compareInt x.1 y.1 ≠ 0 then Lib.compareInt x.1 y.1 else if Lib.compareInt x.2.1 y.2.1 ≠ 0 then Lib.compareInt x.2.1 y.2.1 else Lib.compareInt x.2.2 y.2.2
theorem cmp_lt (a b : Int) : (Lib.compareInt a b < 0 ↔ a < b) ∧ (Lib.compareInt a b ≠ 0 ↔ a ≠ b) := by
 unfold Lib.compareInt
 by_cases h1 : a < b
 ·simp [h1];omega
 ·by_cases h2 : b < a
  ·simp [h1,h2];omega
  ·simp [h1,h2];omega
theorem useLt (x y : Us) : ltOf useCf x y = decide (x.1 < y.1 ∨ (x.1 = y.1 ∧ (x.2.1 < y.2.1 ∨ (x.2.1 = y.2.1 ∧ x.2.2 < y.2.2)))) := by
 unfold ltOf useCf
 obtain ⟨a1,a2⟩ := cmp_lt x.1 y.1
 obtain ⟨b1,b2⟩ := cmp_lt x.2.1 y.2.1
 obtain ⟨c1,c2⟩ := cmp_lt x.2.2 y.2.2
 rw [Bool.eq_iff_iff]
 simp only [decide_eq_true_eq]
 split
 ·rename_i h
  have := a2.1 h
  omega
 ·rename_i h
  have : x.1 = y.1 := by
   rcases Decidable.em (x.1 = y.1) with q | q
   ·exact q
   ·exact absurd (a2.2 q) h
  split
  ·rename_i h2
   have := b2.1 h2
   omega
  ·rename_i h2
   have : x.2.1 = y.2.1 := by
    rcases Decidable.em (x.2.1 = y.2.1) with q | q
    ·exact q
    ·exact absurd (b2.2 q) h2
   omega
theorem useSwo : SWO (ltOf useCf) where
 irrefl x := by rw [useLt];simp
 trans x y z h1 h2 := by rw [useLt] at *;simp at *;omega
 ntrans x y z h1 h2 := by rw [useLt] at *;simp at *;omega
end Go.Dn
