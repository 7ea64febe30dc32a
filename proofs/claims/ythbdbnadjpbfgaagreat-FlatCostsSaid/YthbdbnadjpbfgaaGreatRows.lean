/-
  No cell of these rows narrows 'for every input' (looked for: loops, veiled, ifaces, maps, wideKeys, modest, calm, conditions, laid).
  DERIVED. THE GIVEN ROWS OF THIS SEAT. 5 by the template 'for every input the law returns true; each argument reads behind the call as it read before'; 0 by the template 'total and deterministic' (their statements: YthbdbnadjpbfgaaGreatTotals.lean).
  GIVEN WITH THE SEED: the statements are not yours to turn. If you find one false, say at which input.
  Laid BY PROGRAM, IN A SANDBOX (cutbox-rows.mjs): the forced cells as the released guide's own fill.sh prints them over the translation 3f6846b42c3bf098… (all of the seat's roots in one cut). By AI agents, Wed Nov 11 2026. No macro, syntax, notation, axiom, sorry.
-/
import Derived.Test.YthbdbnadjpbfgaaGreatChecked
import GoSem.Claim
import GoSem.ClaimJoined
import GoSem.ClaimMapViews
import Derived.JoinedTies
import Derived.KernelRfl
namespace Go.Proofs.YthbdbnadjpbfgaaGreat
/- THE CELL 'sum', in the pinned program and in every row, IS THE sha256 OF THE DUMP (.gsa) THAT YthbdbnadjpbfgaaGreatProg.lean LOADS. Nothing in Lean hashes anything: it is a label: what it is worth is what the hold of that sum in a sandbox is worth. -/
noncomputable def Tryz.pinned : Pinned := { name := "ythbdbnadjpbfgaagreat", sum := "3f6846b42c3bf098978d71b72c4b86f694f674aad727696973a8b93e18d1d657", checked := Tryz.checked }
namespace Rows
def none {H : Type} : Left H := { results := [], args := [] }

/-- 'demesnelaw19.FlatCosts': WHATEVER THE INPUT: true; the input reads as it did. -/
def flatCostsSpec : ChangeSpec := { name := "flatCosts", fn := fun _ => fun
  | [d] => { results := [.lit (.bool true)], args := [d] }
  | _ => none }
def flatCostsRow : OpenClaim := { program := "ythbdbnadjpbfgaagreat", sum := "3f6846b42c3bf098978d71b72c4b86f694f674aad727696973a8b93e18d1d657", func := "demesne/demesnelaw19.FlatCosts", spec := "flatCosts", inPlace := ["slices.overlaps[demesne/region.Region]", "math.Float64frombits", "math.Float64bits"], unfollowed := true, recurses := true, apart := false }
def FlatCostsSaid : Prop := flatCostsRow.holds Tryz.pinned (OpenSpec.ofChange flatCostsSpec)

/-- ITS FALSE NEIGHBOUR: 'it returns false'. Refute it at one input. -/
def flatCostsWrong : ChangeSpec := { name := "flatCosts", fn := fun _ => fun
  | [d] => { results := [.lit (.bool false)], args := [d] }
  | _ => none }
def FlatCostsWrongFalsely : Prop := flatCostsRow.holds Tryz.pinned (OpenSpec.ofChange flatCostsWrong)

/-- 'demesnelaw19.FlatPlays': WHATEVER THE INPUT: true; the input reads as it did. -/
def flatPlaysSpec : ChangeSpec := { name := "flatPlays", fn := fun _ => fun
  | [d1, d2, d3, d4, d5] => { results := [.lit (.bool true)], args := [d1, d2, d3, d4, d5] }
  | _ => none }
def flatPlaysRow : OpenClaim := { program := "ythbdbnadjpbfgaagreat", sum := "3f6846b42c3bf098978d71b72c4b86f694f674aad727696973a8b93e18d1d657", func := "demesne/demesnelaw19.FlatPlays", spec := "flatPlays", inPlace := ["slices.overlaps[demesne/region.Region]", "math.Float64frombits", "math.Float64bits"], unfollowed := true, recurses := true, apart := false }
def FlatPlaysSaid : Prop := flatPlaysRow.holds Tryz.pinned (OpenSpec.ofChange flatPlaysSpec)

/-- ITS FALSE NEIGHBOUR: 'it returns false'. Refute it at one input. -/
def flatPlaysWrong : ChangeSpec := { name := "flatPlays", fn := fun _ => fun
  | [d1, d2, d3, d4, d5] => { results := [.lit (.bool false)], args := [d1, d2, d3, d4, d5] }
  | _ => none }
def FlatPlaysWrongFalsely : Prop := flatPlaysRow.holds Tryz.pinned (OpenSpec.ofChange flatPlaysWrong)

/-- 'demesnelaw19.FlatNone': WHATEVER THE INPUT: true; the input reads as it did. -/
def flatNoneSpec : ChangeSpec := { name := "flatNone", fn := fun _ => fun
  | [d1, d2] => { results := [.lit (.bool true)], args := [d1, d2] }
  | _ => none }
def flatNoneRow : OpenClaim := { program := "ythbdbnadjpbfgaagreat", sum := "3f6846b42c3bf098978d71b72c4b86f694f674aad727696973a8b93e18d1d657", func := "demesne/demesnelaw19.FlatNone", spec := "flatNone", inPlace := ["slices.overlaps[demesne/region.Region]", "math.Float64frombits", "math.Float64bits"], unfollowed := true, recurses := true, apart := false }
def FlatNoneSaid : Prop := flatNoneRow.holds Tryz.pinned (OpenSpec.ofChange flatNoneSpec)

/-- ITS FALSE NEIGHBOUR: 'it returns false'. Refute it at one input. -/
def flatNoneWrong : ChangeSpec := { name := "flatNone", fn := fun _ => fun
  | [d1, d2] => { results := [.lit (.bool false)], args := [d1, d2] }
  | _ => none }
def FlatNoneWrongFalsely : Prop := flatNoneRow.holds Tryz.pinned (OpenSpec.ofChange flatNoneWrong)

/-- 'demesnelaw19.FlatApart': WHATEVER THE INPUT: true; the input reads as it did. -/
def flatApartSpec : ChangeSpec := { name := "flatApart", fn := fun _ => fun
  | [d1, d2, d3] => { results := [.lit (.bool true)], args := [d1, d2, d3] }
  | _ => none }
def flatApartRow : OpenClaim := { program := "ythbdbnadjpbfgaagreat", sum := "3f6846b42c3bf098978d71b72c4b86f694f674aad727696973a8b93e18d1d657", func := "demesne/demesnelaw19.FlatApart", spec := "flatApart", inPlace := ["slices.overlaps[demesne/region.Region]", "math.Float64frombits", "math.Float64bits"], unfollowed := true, recurses := true, apart := false }
def FlatApartSaid : Prop := flatApartRow.holds Tryz.pinned (OpenSpec.ofChange flatApartSpec)

/-- ITS FALSE NEIGHBOUR: 'it returns false'. Refute it at one input. -/
def flatApartWrong : ChangeSpec := { name := "flatApart", fn := fun _ => fun
  | [d1, d2, d3] => { results := [.lit (.bool false)], args := [d1, d2, d3] }
  | _ => none }
def FlatApartWrongFalsely : Prop := flatApartRow.holds Tryz.pinned (OpenSpec.ofChange flatApartWrong)

/-- 'demesnelaw19.FlatEnds': WHATEVER THE INPUT: true; the input reads as it did. -/
def flatEndsSpec : ChangeSpec := { name := "flatEnds", fn := fun _ => fun
  | [d1, d2] => { results := [.lit (.bool true)], args := [d1, d2] }
  | _ => none }
def flatEndsRow : OpenClaim := { program := "ythbdbnadjpbfgaagreat", sum := "3f6846b42c3bf098978d71b72c4b86f694f674aad727696973a8b93e18d1d657", func := "demesne/demesnelaw19.FlatEnds", spec := "flatEnds", inPlace := ["slices.overlaps[demesne/region.Region]", "math.Float64frombits", "math.Float64bits"], unfollowed := true, recurses := true, apart := false }
def FlatEndsSaid : Prop := flatEndsRow.holds Tryz.pinned (OpenSpec.ofChange flatEndsSpec)

/-- ITS FALSE NEIGHBOUR: 'it returns false'. Refute it at one input. -/
def flatEndsWrong : ChangeSpec := { name := "flatEnds", fn := fun _ => fun
  | [d1, d2] => { results := [.lit (.bool false)], args := [d1, d2] }
  | _ => none }
def FlatEndsWrongFalsely : Prop := flatEndsRow.holds Tryz.pinned (OpenSpec.ofChange flatEndsWrong)

/- THE SECOND FORM. 'bulk': how many values and letters a reading holds, each counted each time it is reached (what is shared counts as often as it is met; a slice's spare places count too). A statement '..UptoSaid' is the law's where the arguments, and the package variables that the reading takes, are together of bulk at most 1048576: NARROWER than '..Said'. Prove '..Said' where nothing that the law and all that it calls make is longer than what came in: it says more and counts as full. Else prove '..UptoSaid'. A law counts once. -/
mutual
def uptoBulk {H : Type} : DataW H → Nat
  | .lit (.string bytes) => bytes.length + 1
  | .lit _ => 1
  | .nil => 1
  | .ptr d => uptoBulk d + 1
  | .slice elems spare => uptoBulkAll elems + uptoBulkAll spare + 1
  | .agg parts => uptoBulkAll parts + 1
  | .iface _ d => uptoBulk d + 1
  | .map entries => uptoBulkEntries entries + 1
  | .held _ => 1
def uptoBulkAll {H : Type} : List (DataW H) → Nat
  | [] => 0
  | d :: r => uptoBulk d + uptoBulkAll r
def uptoBulkEntries {H : Type} : List (Lit × DataW H) → Nat
  | [] => 0
  | x :: r => uptoBulkEntry x + uptoBulkEntries r
def uptoBulkEntry {H : Type} : Lit × DataW H → Nat
  | (.string bytes, d) => bytes.length + uptoBulk d + 1
  | (_, d) => uptoBulk d + 1
 end
def uptoSmall : (H : Type) → List (DataW H) → Bool := fun _ ds => decide (uptoBulkAll ds ≤ 1048576)
def OpenSpec.upto (s : _root_.Go.ChangeSpec) : _root_.Go.OpenSpec := { _root_.Go.OpenSpec.ofChange s with cond := some uptoSmall }

/-- 'demesnelaw19.FlatCosts', WHERE WHAT IT READS IS OF BULK AT MOST 1048576: true; the input reads as it did. -/
def flatCostsUptoRow : OpenClaim := { program := "ythbdbnadjpbfgaagreat", sum := "3f6846b42c3bf098978d71b72c4b86f694f674aad727696973a8b93e18d1d657", func := "demesne/demesnelaw19.FlatCosts", spec := "flatCosts", inPlace := ["slices.overlaps[demesne/region.Region]", "math.Float64frombits", "math.Float64bits"], unfollowed := true, recurses := true, apart := false, narrowed := true }
def FlatCostsUptoSaid : Prop := flatCostsUptoRow.holds Tryz.pinned (OpenSpec.upto flatCostsSpec)

/-- 'demesnelaw19.FlatPlays', WHERE WHAT IT READS IS OF BULK AT MOST 1048576: true; the input reads as it did. -/
def flatPlaysUptoRow : OpenClaim := { program := "ythbdbnadjpbfgaagreat", sum := "3f6846b42c3bf098978d71b72c4b86f694f674aad727696973a8b93e18d1d657", func := "demesne/demesnelaw19.FlatPlays", spec := "flatPlays", inPlace := ["slices.overlaps[demesne/region.Region]", "math.Float64frombits", "math.Float64bits"], unfollowed := true, recurses := true, apart := false, narrowed := true }
def FlatPlaysUptoSaid : Prop := flatPlaysUptoRow.holds Tryz.pinned (OpenSpec.upto flatPlaysSpec)

/-- 'demesnelaw19.FlatNone', WHERE WHAT IT READS IS OF BULK AT MOST 1048576: true; the input reads as it did. -/
def flatNoneUptoRow : OpenClaim := { program := "ythbdbnadjpbfgaagreat", sum := "3f6846b42c3bf098978d71b72c4b86f694f674aad727696973a8b93e18d1d657", func := "demesne/demesnelaw19.FlatNone", spec := "flatNone", inPlace := ["slices.overlaps[demesne/region.Region]", "math.Float64frombits", "math.Float64bits"], unfollowed := true, recurses := true, apart := false, narrowed := true }
def FlatNoneUptoSaid : Prop := flatNoneUptoRow.holds Tryz.pinned (OpenSpec.upto flatNoneSpec)

/-- 'demesnelaw19.FlatApart', WHERE WHAT IT READS IS OF BULK AT MOST 1048576: true; the input reads as it did. -/
def flatApartUptoRow : OpenClaim := { program := "ythbdbnadjpbfgaagreat", sum := "3f6846b42c3bf098978d71b72c4b86f694f674aad727696973a8b93e18d1d657", func := "demesne/demesnelaw19.FlatApart", spec := "flatApart", inPlace := ["slices.overlaps[demesne/region.Region]", "math.Float64frombits", "math.Float64bits"], unfollowed := true, recurses := true, apart := false, narrowed := true }
def FlatApartUptoSaid : Prop := flatApartUptoRow.holds Tryz.pinned (OpenSpec.upto flatApartSpec)

/-- 'demesnelaw19.FlatEnds', WHERE WHAT IT READS IS OF BULK AT MOST 1048576: true; the input reads as it did. -/
def flatEndsUptoRow : OpenClaim := { program := "ythbdbnadjpbfgaagreat", sum := "3f6846b42c3bf098978d71b72c4b86f694f674aad727696973a8b93e18d1d657", func := "demesne/demesnelaw19.FlatEnds", spec := "flatEnds", inPlace := ["slices.overlaps[demesne/region.Region]", "math.Float64frombits", "math.Float64bits"], unfollowed := true, recurses := true, apart := false, narrowed := true }
def FlatEndsUptoSaid : Prop := flatEndsUptoRow.holds Tryz.pinned (OpenSpec.upto flatEndsSpec)

end Rows
end Go.Proofs.YthbdbnadjpbfgaaGreat
