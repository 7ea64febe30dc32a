/-
  No cell of these rows narrows 'for every input' (looked for: loops, veiled, ifaces, maps, wideKeys, modest, calm, conditions, laid).
  DERIVED. THE GIVEN ROWS OF THIS SEAT. 5 by the template 'for every input the law returns true; each argument reads behind the call as it read before'; 0 by the template 'total and deterministic' (their statements: YtbmolaogibmbiaaGreatTotals.lean).
  GIVEN WITH THE SEED: the statements are not yours to turn. If you find one false, say at which input.
  Laid BY PROGRAM, IN A SANDBOX (cutbox-rows.mjs): the forced cells as the released guide's own fill.sh prints them over the translation 4568a0fa8bb9889d… (all of the seat's roots in one cut). By AI agents, Wed Nov 11 2026. No macro, syntax, notation, axiom, sorry.
-/
import Derived.Test.YtbmolaogibmbiaaGreatChecked
import GoSem.Claim
import GoSem.ClaimJoined
import GoSem.ClaimMapViews
import Derived.JoinedTies
import Derived.KernelRfl
namespace Go.Proofs.YtbmolaogibmbiaaGreat
/- THE CELL 'sum', in the pinned program and in every row, IS THE sha256 OF THE DUMP (.gsa) THAT YtbmolaogibmbiaaGreatProg.lean LOADS. Nothing in Lean hashes anything: it is a label: what it is worth is what the hold of that sum in a sandbox is worth. -/
noncomputable def Tryz.pinned : Pinned := { name := "ytbmolaogibmbiaagreat", sum := "4568a0fa8bb9889de363c2fe8afbf394f3bfdd1d1f5bf8f4fab95e86d2319d0f", checked := Tryz.checked }
namespace Rows
def none {H : Type} : Left H := { results := [], args := [] }

/-- 'demesnelaw13.CpuSizes': WHATEVER THE INPUT: true; the input reads as it did. -/
def cpuSizesSpec : ChangeSpec := { name := "cpuSizes", fn := fun _ => fun
  | [d1, d2, d3, d4, d5] => { results := [.lit (.bool true)], args := [d1, d2, d3, d4, d5] }
  | _ => none }
def cpuSizesRow : OpenClaim := { program := "ytbmolaogibmbiaagreat", sum := "4568a0fa8bb9889de363c2fe8afbf394f3bfdd1d1f5bf8f4fab95e86d2319d0f", func := "demesne/demesnelaw13.CpuSizes", spec := "cpuSizes", inPlace := ["slices.overlaps[demesne/region.Region]"], unfollowed := true, recurses := true, apart := false }
def CpuSizesSaid : Prop := cpuSizesRow.holds Tryz.pinned (OpenSpec.ofChange cpuSizesSpec)

/-- ITS FALSE NEIGHBOUR: 'it returns false'. Refute it at one input. -/
def cpuSizesWrong : ChangeSpec := { name := "cpuSizes", fn := fun _ => fun
  | [d1, d2, d3, d4, d5] => { results := [.lit (.bool false)], args := [d1, d2, d3, d4, d5] }
  | _ => none }
def CpuSizesWrongFalsely : Prop := cpuSizesRow.holds Tryz.pinned (OpenSpec.ofChange cpuSizesWrong)

/-- 'demesnelaw13.CpuShares': WHATEVER THE INPUT: true; the input reads as it did. -/
def cpuSharesSpec : ChangeSpec := { name := "cpuShares", fn := fun _ => fun
  | [d1, d2, d3, d4, d5] => { results := [.lit (.bool true)], args := [d1, d2, d3, d4, d5] }
  | _ => none }
def cpuSharesRow : OpenClaim := { program := "ytbmolaogibmbiaagreat", sum := "4568a0fa8bb9889de363c2fe8afbf394f3bfdd1d1f5bf8f4fab95e86d2319d0f", func := "demesne/demesnelaw13.CpuShares", spec := "cpuShares", inPlace := ["slices.overlaps[demesne/region.Region]"], unfollowed := true, recurses := true, apart := false }
def CpuSharesSaid : Prop := cpuSharesRow.holds Tryz.pinned (OpenSpec.ofChange cpuSharesSpec)

/-- ITS FALSE NEIGHBOUR: 'it returns false'. Refute it at one input. -/
def cpuSharesWrong : ChangeSpec := { name := "cpuShares", fn := fun _ => fun
  | [d1, d2, d3, d4, d5] => { results := [.lit (.bool false)], args := [d1, d2, d3, d4, d5] }
  | _ => none }
def CpuSharesWrongFalsely : Prop := cpuSharesRow.holds Tryz.pinned (OpenSpec.ofChange cpuSharesWrong)

/-- 'demesnelaw13.CpuChoices': WHATEVER THE INPUT: true; the input reads as it did. -/
def cpuChoicesSpec : ChangeSpec := { name := "cpuChoices", fn := fun _ => fun
  | [d1, d2, d3, d4, d5, d6] => { results := [.lit (.bool true)], args := [d1, d2, d3, d4, d5, d6] }
  | _ => none }
def cpuChoicesRow : OpenClaim := { program := "ytbmolaogibmbiaagreat", sum := "4568a0fa8bb9889de363c2fe8afbf394f3bfdd1d1f5bf8f4fab95e86d2319d0f", func := "demesne/demesnelaw13.CpuChoices", spec := "cpuChoices", inPlace := ["slices.overlaps[demesne/region.Region]"], unfollowed := true, recurses := true, apart := false }
def CpuChoicesSaid : Prop := cpuChoicesRow.holds Tryz.pinned (OpenSpec.ofChange cpuChoicesSpec)

/-- ITS FALSE NEIGHBOUR: 'it returns false'. Refute it at one input. -/
def cpuChoicesWrong : ChangeSpec := { name := "cpuChoices", fn := fun _ => fun
  | [d1, d2, d3, d4, d5, d6] => { results := [.lit (.bool false)], args := [d1, d2, d3, d4, d5, d6] }
  | _ => none }
def CpuChoicesWrongFalsely : Prop := cpuChoicesRow.holds Tryz.pinned (OpenSpec.ofChange cpuChoicesWrong)

/-- 'demesnelaw13.CpuMany': WHATEVER THE INPUT: true; the input reads as it did. -/
def cpuManySpec : ChangeSpec := { name := "cpuMany", fn := fun _ => fun
  | [d1, d2, d3, d4] => { results := [.lit (.bool true)], args := [d1, d2, d3, d4] }
  | _ => none }
def cpuManyRow : OpenClaim := { program := "ytbmolaogibmbiaagreat", sum := "4568a0fa8bb9889de363c2fe8afbf394f3bfdd1d1f5bf8f4fab95e86d2319d0f", func := "demesne/demesnelaw13.CpuMany", spec := "cpuMany", inPlace := ["slices.overlaps[demesne/region.Region]"], unfollowed := true, recurses := true, apart := false }
def CpuManySaid : Prop := cpuManyRow.holds Tryz.pinned (OpenSpec.ofChange cpuManySpec)

/-- ITS FALSE NEIGHBOUR: 'it returns false'. Refute it at one input. -/
def cpuManyWrong : ChangeSpec := { name := "cpuMany", fn := fun _ => fun
  | [d1, d2, d3, d4] => { results := [.lit (.bool false)], args := [d1, d2, d3, d4] }
  | _ => none }
def CpuManyWrongFalsely : Prop := cpuManyRow.holds Tryz.pinned (OpenSpec.ofChange cpuManyWrong)

/-- 'demesnelaw13.CpuPlays': WHATEVER THE INPUT: true; the input reads as it did. -/
def cpuPlaysSpec : ChangeSpec := { name := "cpuPlays", fn := fun _ => fun
  | [d1, d2, d3, d4] => { results := [.lit (.bool true)], args := [d1, d2, d3, d4] }
  | _ => none }
def cpuPlaysRow : OpenClaim := { program := "ytbmolaogibmbiaagreat", sum := "4568a0fa8bb9889de363c2fe8afbf394f3bfdd1d1f5bf8f4fab95e86d2319d0f", func := "demesne/demesnelaw13.CpuPlays", spec := "cpuPlays", inPlace := ["slices.overlaps[demesne/region.Region]"], unfollowed := true, recurses := true, apart := false }
def CpuPlaysSaid : Prop := cpuPlaysRow.holds Tryz.pinned (OpenSpec.ofChange cpuPlaysSpec)

/-- ITS FALSE NEIGHBOUR: 'it returns false'. Refute it at one input. -/
def cpuPlaysWrong : ChangeSpec := { name := "cpuPlays", fn := fun _ => fun
  | [d1, d2, d3, d4] => { results := [.lit (.bool false)], args := [d1, d2, d3, d4] }
  | _ => none }
def CpuPlaysWrongFalsely : Prop := cpuPlaysRow.holds Tryz.pinned (OpenSpec.ofChange cpuPlaysWrong)

/- THE SECOND FORM. 'bulk': how many values and letters a reading holds, each counted each time it is reached (what is shared counts as often as it is met; a slice's spare places count too). A statement '..UptoSaid' is the law's where the arguments, and the package variables that the reading takes, are together of bulk at most 1048576: NARROWER than '..Said'. Prove '..Said' where nothing that the law and all that it calls make is longer than what came in: it says more and counts as full. Else prove '..UptoSaid'. A law counts once. -/
mutual
def uptoBulk {H : Type} : DataW H → Nat
  | .lit (.string bytes) => bytes.length + 1
  | .lit _ => 1
  | .nil => 1
  | .ptr d => uptoBulk d + 1
  | .slice elems spare => uptoBulkAll elems + uptoBulkAll spare + 1
  | .agg parts => uptoBulkAll parts + 1
  | .iface _ d => uptoBulk d + 1
  | .map entries => uptoBulkEntries entries + 1
  | .held _ => 1
def uptoBulkAll {H : Type} : List (DataW H) → Nat
  | [] => 0
  | d :: r => uptoBulk d + uptoBulkAll r
def uptoBulkEntries {H : Type} : List (Lit × DataW H) → Nat
  | [] => 0
  | x :: r => uptoBulkEntry x + uptoBulkEntries r
def uptoBulkEntry {H : Type} : Lit × DataW H → Nat
  | (.string bytes, d) => bytes.length + uptoBulk d + 1
  | (_, d) => uptoBulk d + 1
 end
def uptoSmall : (H : Type) → List (DataW H) → Bool := fun _ ds => decide (uptoBulkAll ds ≤ 1048576)
def OpenSpec.upto (s : _root_.Go.ChangeSpec) : _root_.Go.OpenSpec := { _root_.Go.OpenSpec.ofChange s with cond := some uptoSmall }

/-- 'demesnelaw13.CpuSizes', WHERE WHAT IT READS IS OF BULK AT MOST 1048576: true; the input reads as it did. -/
def cpuSizesUptoRow : OpenClaim := { program := "ytbmolaogibmbiaagreat", sum := "4568a0fa8bb9889de363c2fe8afbf394f3bfdd1d1f5bf8f4fab95e86d2319d0f", func := "demesne/demesnelaw13.CpuSizes", spec := "cpuSizes", inPlace := ["slices.overlaps[demesne/region.Region]"], unfollowed := true, recurses := true, apart := false, narrowed := true }
def CpuSizesUptoSaid : Prop := cpuSizesUptoRow.holds Tryz.pinned (OpenSpec.upto cpuSizesSpec)

/-- 'demesnelaw13.CpuShares', WHERE WHAT IT READS IS OF BULK AT MOST 1048576: true; the input reads as it did. -/
def cpuSharesUptoRow : OpenClaim := { program := "ytbmolaogibmbiaagreat", sum := "4568a0fa8bb9889de363c2fe8afbf394f3bfdd1d1f5bf8f4fab95e86d2319d0f", func := "demesne/demesnelaw13.CpuShares", spec := "cpuShares", inPlace := ["slices.overlaps[demesne/region.Region]"], unfollowed := true, recurses := true, apart := false, narrowed := true }
def CpuSharesUptoSaid : Prop := cpuSharesUptoRow.holds Tryz.pinned (OpenSpec.upto cpuSharesSpec)

/-- 'demesnelaw13.CpuChoices', WHERE WHAT IT READS IS OF BULK AT MOST 1048576: true; the input reads as it did. -/
def cpuChoicesUptoRow : OpenClaim := { program := "ytbmolaogibmbiaagreat", sum := "4568a0fa8bb9889de363c2fe8afbf394f3bfdd1d1f5bf8f4fab95e86d2319d0f", func := "demesne/demesnelaw13.CpuChoices", spec := "cpuChoices", inPlace := ["slices.overlaps[demesne/region.Region]"], unfollowed := true, recurses := true, apart := false, narrowed := true }
def CpuChoicesUptoSaid : Prop := cpuChoicesUptoRow.holds Tryz.pinned (OpenSpec.upto cpuChoicesSpec)

/-- 'demesnelaw13.CpuMany', WHERE WHAT IT READS IS OF BULK AT MOST 1048576: true; the input reads as it did. -/
def cpuManyUptoRow : OpenClaim := { program := "ytbmolaogibmbiaagreat", sum := "4568a0fa8bb9889de363c2fe8afbf394f3bfdd1d1f5bf8f4fab95e86d2319d0f", func := "demesne/demesnelaw13.CpuMany", spec := "cpuMany", inPlace := ["slices.overlaps[demesne/region.Region]"], unfollowed := true, recurses := true, apart := false, narrowed := true }
def CpuManyUptoSaid : Prop := cpuManyUptoRow.holds Tryz.pinned (OpenSpec.upto cpuManySpec)

/-- 'demesnelaw13.CpuPlays', WHERE WHAT IT READS IS OF BULK AT MOST 1048576: true; the input reads as it did. -/
def cpuPlaysUptoRow : OpenClaim := { program := "ytbmolaogibmbiaagreat", sum := "4568a0fa8bb9889de363c2fe8afbf394f3bfdd1d1f5bf8f4fab95e86d2319d0f", func := "demesne/demesnelaw13.CpuPlays", spec := "cpuPlays", inPlace := ["slices.overlaps[demesne/region.Region]"], unfollowed := true, recurses := true, apart := false, narrowed := true }
def CpuPlaysUptoSaid : Prop := cpuPlaysUptoRow.holds Tryz.pinned (OpenSpec.upto cpuPlaysSpec)

end Rows
end Go.Proofs.YtbmolaogibmbiaaGreat
