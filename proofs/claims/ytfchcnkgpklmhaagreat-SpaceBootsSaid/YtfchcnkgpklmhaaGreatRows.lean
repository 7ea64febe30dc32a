/-
  No cell of these rows narrows 'for every input' (looked for: loops, veiled, ifaces, maps, wideKeys, modest, calm, conditions, laid).
  DERIVED. THE GIVEN ROWS OF THIS SEAT. 7 by the template 'for every input the law returns true; each argument reads behind the call as it read before'; 0 by the template 'total and deterministic' (their statements: YtfchcnkgpklmhaaGreatTotals.lean).
  GIVEN WITH THE SEED: the statements are not yours to turn. If you find one false, say at which input.
  Laid BY PROGRAM, IN A SANDBOX (cutbox-rows.mjs): the forced cells as the released guide's own fill.sh prints them over the translation 431cc027202b1aa8… (all of the seat's roots in one cut). By AI agents, Wed Nov 11 2026. No macro, syntax, notation, axiom, sorry.
-/
import Derived.Test.YtfchcnkgpklmhaaGreatChecked
import GoSem.Claim
import GoSem.ClaimJoined
import GoSem.ClaimMapViews
import Derived.JoinedTies
import Derived.KernelRfl
namespace Go.Proofs.YtfchcnkgpklmhaaGreat
/- THE CELL 'sum', in the pinned program and in every row, IS THE sha256 OF THE DUMP (.gsa) THAT YtfchcnkgpklmhaaGreatProg.lean LOADS. Nothing in Lean hashes anything: it is a label: what it is worth is what the hold of that sum in a sandbox is worth. -/
noncomputable def Tryz.pinned : Pinned := { name := "ytfchcnkgpklmhaagreat", sum := "431cc027202b1aa80325988a5fa75fbeb6b08a08ca6694f57676245c6ea574cf", checked := Tryz.checked }
namespace Rows
def none {H : Type} : Left H := { results := [], args := [] }

/-- 'demesnelaw12.SpaceTags': WHATEVER THE INPUT: true; the input reads as it did. -/
def spaceTagsSpec : ChangeSpec := { name := "spaceTags", fn := fun _ => fun
  | [d1, d2] => { results := [.lit (.bool true)], args := [d1, d2] }
  | _ => none }
def spaceTagsRow : OpenClaim := { program := "ytfchcnkgpklmhaagreat", sum := "431cc027202b1aa80325988a5fa75fbeb6b08a08ca6694f57676245c6ea574cf", func := "demesne/demesnelaw12.SpaceTags", spec := "spaceTags", inPlace := ["slices.overlaps[demesne/region.Region]"], unfollowed := true, recurses := true, apart := false }
def SpaceTagsSaid : Prop := spaceTagsRow.holds Tryz.pinned (OpenSpec.ofChange spaceTagsSpec)

/-- ITS FALSE NEIGHBOUR: 'it returns false'. Refute it at one input. -/
def spaceTagsWrong : ChangeSpec := { name := "spaceTags", fn := fun _ => fun
  | [d1, d2] => { results := [.lit (.bool false)], args := [d1, d2] }
  | _ => none }
def SpaceTagsWrongFalsely : Prop := spaceTagsRow.holds Tryz.pinned (OpenSpec.ofChange spaceTagsWrong)

/-- 'demesnelaw12.SpaceMaps': WHATEVER THE INPUT: true; the input reads as it did. -/
def spaceMapsSpec : ChangeSpec := { name := "spaceMaps", fn := fun _ => fun
  | [d1, d2, d3, d4] => { results := [.lit (.bool true)], args := [d1, d2, d3, d4] }
  | _ => none }
def spaceMapsRow : OpenClaim := { program := "ytfchcnkgpklmhaagreat", sum := "431cc027202b1aa80325988a5fa75fbeb6b08a08ca6694f57676245c6ea574cf", func := "demesne/demesnelaw12.SpaceMaps", spec := "spaceMaps", inPlace := ["slices.overlaps[demesne/region.Region]"], unfollowed := true, recurses := true, apart := false }
def SpaceMapsSaid : Prop := spaceMapsRow.holds Tryz.pinned (OpenSpec.ofChange spaceMapsSpec)

/-- ITS FALSE NEIGHBOUR: 'it returns false'. Refute it at one input. -/
def spaceMapsWrong : ChangeSpec := { name := "spaceMaps", fn := fun _ => fun
  | [d1, d2, d3, d4] => { results := [.lit (.bool false)], args := [d1, d2, d3, d4] }
  | _ => none }
def SpaceMapsWrongFalsely : Prop := spaceMapsRow.holds Tryz.pinned (OpenSpec.ofChange spaceMapsWrong)

/-- 'demesnelaw12.SpaceLends': WHATEVER THE INPUT: true; the input reads as it did. -/
def spaceLendsSpec : ChangeSpec := { name := "spaceLends", fn := fun _ => fun
  | [d1, d2, d3, d4, d5] => { results := [.lit (.bool true)], args := [d1, d2, d3, d4, d5] }
  | _ => none }
def spaceLendsRow : OpenClaim := { program := "ytfchcnkgpklmhaagreat", sum := "431cc027202b1aa80325988a5fa75fbeb6b08a08ca6694f57676245c6ea574cf", func := "demesne/demesnelaw12.SpaceLends", spec := "spaceLends", inPlace := ["slices.overlaps[demesne/region.Region]"], unfollowed := true, recurses := true, apart := false }
def SpaceLendsSaid : Prop := spaceLendsRow.holds Tryz.pinned (OpenSpec.ofChange spaceLendsSpec)

/-- ITS FALSE NEIGHBOUR: 'it returns false'. Refute it at one input. -/
def spaceLendsWrong : ChangeSpec := { name := "spaceLends", fn := fun _ => fun
  | [d1, d2, d3, d4, d5] => { results := [.lit (.bool false)], args := [d1, d2, d3, d4, d5] }
  | _ => none }
def SpaceLendsWrongFalsely : Prop := spaceLendsRow.holds Tryz.pinned (OpenSpec.ofChange spaceLendsWrong)

/-- 'demesnelaw12.SpaceBoots': WHATEVER THE INPUT: true; the input reads as it did. -/
def spaceBootsSpec : ChangeSpec := { name := "spaceBoots", fn := fun _ => fun
  | [d] => { results := [.lit (.bool true)], args := [d] }
  | _ => none }
def spaceBootsRow : OpenClaim := { program := "ytfchcnkgpklmhaagreat", sum := "431cc027202b1aa80325988a5fa75fbeb6b08a08ca6694f57676245c6ea574cf", func := "demesne/demesnelaw12.SpaceBoots", spec := "spaceBoots", inPlace := ["slices.overlaps[demesne/region.Region]"], unfollowed := true, recurses := true, apart := false }
def SpaceBootsSaid : Prop := spaceBootsRow.holds Tryz.pinned (OpenSpec.ofChange spaceBootsSpec)

/-- ITS FALSE NEIGHBOUR: 'it returns false'. Refute it at one input. -/
def spaceBootsWrong : ChangeSpec := { name := "spaceBoots", fn := fun _ => fun
  | [d] => { results := [.lit (.bool false)], args := [d] }
  | _ => none }
def SpaceBootsWrongFalsely : Prop := spaceBootsRow.holds Tryz.pinned (OpenSpec.ofChange spaceBootsWrong)

/-- 'demesnelaw12.SpaceBack': WHATEVER THE INPUT: true; the input reads as it did. -/
def spaceBackSpec : ChangeSpec := { name := "spaceBack", fn := fun _ => fun
  | [d1, d2] => { results := [.lit (.bool true)], args := [d1, d2] }
  | _ => none }
def spaceBackRow : OpenClaim := { program := "ytfchcnkgpklmhaagreat", sum := "431cc027202b1aa80325988a5fa75fbeb6b08a08ca6694f57676245c6ea574cf", func := "demesne/demesnelaw12.SpaceBack", spec := "spaceBack", inPlace := ["slices.overlaps[demesne/region.Region]"], unfollowed := true, recurses := true, apart := false }
def SpaceBackSaid : Prop := spaceBackRow.holds Tryz.pinned (OpenSpec.ofChange spaceBackSpec)

/-- ITS FALSE NEIGHBOUR: 'it returns false'. Refute it at one input. -/
def spaceBackWrong : ChangeSpec := { name := "spaceBack", fn := fun _ => fun
  | [d1, d2] => { results := [.lit (.bool false)], args := [d1, d2] }
  | _ => none }
def SpaceBackWrongFalsely : Prop := spaceBackRow.holds Tryz.pinned (OpenSpec.ofChange spaceBackWrong)

/-- 'demesnelaw12.SpaceWhole': WHATEVER THE INPUT: true; the input reads as it did. -/
def spaceWholeSpec : ChangeSpec := { name := "spaceWhole", fn := fun _ => fun
  | [d1, d2, d3, d4, d5] => { results := [.lit (.bool true)], args := [d1, d2, d3, d4, d5] }
  | _ => none }
def spaceWholeRow : OpenClaim := { program := "ytfchcnkgpklmhaagreat", sum := "431cc027202b1aa80325988a5fa75fbeb6b08a08ca6694f57676245c6ea574cf", func := "demesne/demesnelaw12.SpaceWhole", spec := "spaceWhole", inPlace := ["slices.overlaps[demesne/region.Region]"], unfollowed := true, recurses := true, apart := false }
def SpaceWholeSaid : Prop := spaceWholeRow.holds Tryz.pinned (OpenSpec.ofChange spaceWholeSpec)

/-- ITS FALSE NEIGHBOUR: 'it returns false'. Refute it at one input. -/
def spaceWholeWrong : ChangeSpec := { name := "spaceWhole", fn := fun _ => fun
  | [d1, d2, d3, d4, d5] => { results := [.lit (.bool false)], args := [d1, d2, d3, d4, d5] }
  | _ => none }
def SpaceWholeWrongFalsely : Prop := spaceWholeRow.holds Tryz.pinned (OpenSpec.ofChange spaceWholeWrong)

/-- 'demesnelaw12.SpaceFaults': WHATEVER THE INPUT: true; the input reads as it did. -/
def spaceFaultsSpec : ChangeSpec := { name := "spaceFaults", fn := fun _ => fun
  | [d1, d2, d3, d4, d5] => { results := [.lit (.bool true)], args := [d1, d2, d3, d4, d5] }
  | _ => none }
def spaceFaultsRow : OpenClaim := { program := "ytfchcnkgpklmhaagreat", sum := "431cc027202b1aa80325988a5fa75fbeb6b08a08ca6694f57676245c6ea574cf", func := "demesne/demesnelaw12.SpaceFaults", spec := "spaceFaults", inPlace := ["slices.overlaps[demesne/region.Region]"], unfollowed := true, recurses := true, apart := false }
def SpaceFaultsSaid : Prop := spaceFaultsRow.holds Tryz.pinned (OpenSpec.ofChange spaceFaultsSpec)

/-- ITS FALSE NEIGHBOUR: 'it returns false'. Refute it at one input. -/
def spaceFaultsWrong : ChangeSpec := { name := "spaceFaults", fn := fun _ => fun
  | [d1, d2, d3, d4, d5] => { results := [.lit (.bool false)], args := [d1, d2, d3, d4, d5] }
  | _ => none }
def SpaceFaultsWrongFalsely : Prop := spaceFaultsRow.holds Tryz.pinned (OpenSpec.ofChange spaceFaultsWrong)

/- THE SECOND FORM. 'bulk': how many values and letters a reading holds, each counted each time it is reached (what is shared counts as often as it is met; a slice's spare places count too). A statement '..UptoSaid' is the law's where the arguments, and the package variables that the reading takes, are together of bulk at most 1048576: NARROWER than '..Said'. Prove '..Said' where nothing that the law and all that it calls make is longer than what came in: it says more and counts as full. Else prove '..UptoSaid'. A law counts once. -/
mutual
def uptoBulk {H : Type} : DataW H → Nat
  | .lit (.string bytes) => bytes.length + 1
  | .lit _ => 1
  | .nil => 1
  | .ptr d => uptoBulk d + 1
  | .slice elems spare => uptoBulkAll elems + uptoBulkAll spare + 1
  | .agg parts => uptoBulkAll parts + 1
  | .iface _ d => uptoBulk d + 1
  | .map entries => uptoBulkEntries entries + 1
  | .held _ => 1
def uptoBulkAll {H : Type} : List (DataW H) → Nat
  | [] => 0
  | d :: r => uptoBulk d + uptoBulkAll r
def uptoBulkEntries {H : Type} : List (Lit × DataW H) → Nat
  | [] => 0
  | x :: r => uptoBulkEntry x + uptoBulkEntries r
def uptoBulkEntry {H : Type} : Lit × DataW H → Nat
  | (.string bytes, d) => bytes.length + uptoBulk d + 1
  | (_, d) => uptoBulk d + 1
 end
def uptoSmall : (H : Type) → List (DataW H) → Bool := fun _ ds => decide (uptoBulkAll ds ≤ 1048576)
def OpenSpec.upto (s : _root_.Go.ChangeSpec) : _root_.Go.OpenSpec := { _root_.Go.OpenSpec.ofChange s with cond := some uptoSmall }

/-- 'demesnelaw12.SpaceTags', WHERE WHAT IT READS IS OF BULK AT MOST 1048576: true; the input reads as it did. -/
def spaceTagsUptoRow : OpenClaim := { program := "ytfchcnkgpklmhaagreat", sum := "431cc027202b1aa80325988a5fa75fbeb6b08a08ca6694f57676245c6ea574cf", func := "demesne/demesnelaw12.SpaceTags", spec := "spaceTags", inPlace := ["slices.overlaps[demesne/region.Region]"], unfollowed := true, recurses := true, apart := false, narrowed := true }
def SpaceTagsUptoSaid : Prop := spaceTagsUptoRow.holds Tryz.pinned (OpenSpec.upto spaceTagsSpec)

/-- 'demesnelaw12.SpaceMaps', WHERE WHAT IT READS IS OF BULK AT MOST 1048576: true; the input reads as it did. -/
def spaceMapsUptoRow : OpenClaim := { program := "ytfchcnkgpklmhaagreat", sum := "431cc027202b1aa80325988a5fa75fbeb6b08a08ca6694f57676245c6ea574cf", func := "demesne/demesnelaw12.SpaceMaps", spec := "spaceMaps", inPlace := ["slices.overlaps[demesne/region.Region]"], unfollowed := true, recurses := true, apart := false, narrowed := true }
def SpaceMapsUptoSaid : Prop := spaceMapsUptoRow.holds Tryz.pinned (OpenSpec.upto spaceMapsSpec)

/-- 'demesnelaw12.SpaceLends', WHERE WHAT IT READS IS OF BULK AT MOST 1048576: true; the input reads as it did. -/
def spaceLendsUptoRow : OpenClaim := { program := "ytfchcnkgpklmhaagreat", sum := "431cc027202b1aa80325988a5fa75fbeb6b08a08ca6694f57676245c6ea574cf", func := "demesne/demesnelaw12.SpaceLends", spec := "spaceLends", inPlace := ["slices.overlaps[demesne/region.Region]"], unfollowed := true, recurses := true, apart := false, narrowed := true }
def SpaceLendsUptoSaid : Prop := spaceLendsUptoRow.holds Tryz.pinned (OpenSpec.upto spaceLendsSpec)

/-- 'demesnelaw12.SpaceBoots', WHERE WHAT IT READS IS OF BULK AT MOST 1048576: true; the input reads as it did. -/
def spaceBootsUptoRow : OpenClaim := { program := "ytfchcnkgpklmhaagreat", sum := "431cc027202b1aa80325988a5fa75fbeb6b08a08ca6694f57676245c6ea574cf", func := "demesne/demesnelaw12.SpaceBoots", spec := "spaceBoots", inPlace := ["slices.overlaps[demesne/region.Region]"], unfollowed := true, recurses := true, apart := false, narrowed := true }
def SpaceBootsUptoSaid : Prop := spaceBootsUptoRow.holds Tryz.pinned (OpenSpec.upto spaceBootsSpec)

/-- 'demesnelaw12.SpaceBack', WHERE WHAT IT READS IS OF BULK AT MOST 1048576: true; the input reads as it did. -/
def spaceBackUptoRow : OpenClaim := { program := "ytfchcnkgpklmhaagreat", sum := "431cc027202b1aa80325988a5fa75fbeb6b08a08ca6694f57676245c6ea574cf", func := "demesne/demesnelaw12.SpaceBack", spec := "spaceBack", inPlace := ["slices.overlaps[demesne/region.Region]"], unfollowed := true, recurses := true, apart := false, narrowed := true }
def SpaceBackUptoSaid : Prop := spaceBackUptoRow.holds Tryz.pinned (OpenSpec.upto spaceBackSpec)

/-- 'demesnelaw12.SpaceWhole', WHERE WHAT IT READS IS OF BULK AT MOST 1048576: true; the input reads as it did. -/
def spaceWholeUptoRow : OpenClaim := { program := "ytfchcnkgpklmhaagreat", sum := "431cc027202b1aa80325988a5fa75fbeb6b08a08ca6694f57676245c6ea574cf", func := "demesne/demesnelaw12.SpaceWhole", spec := "spaceWhole", inPlace := ["slices.overlaps[demesne/region.Region]"], unfollowed := true, recurses := true, apart := false, narrowed := true }
def SpaceWholeUptoSaid : Prop := spaceWholeUptoRow.holds Tryz.pinned (OpenSpec.upto spaceWholeSpec)

/-- 'demesnelaw12.SpaceFaults', WHERE WHAT IT READS IS OF BULK AT MOST 1048576: true; the input reads as it did. -/
def spaceFaultsUptoRow : OpenClaim := { program := "ytfchcnkgpklmhaagreat", sum := "431cc027202b1aa80325988a5fa75fbeb6b08a08ca6694f57676245c6ea574cf", func := "demesne/demesnelaw12.SpaceFaults", spec := "spaceFaults", inPlace := ["slices.overlaps[demesne/region.Region]"], unfollowed := true, recurses := true, apart := false, narrowed := true }
def SpaceFaultsUptoSaid : Prop := spaceFaultsUptoRow.holds Tryz.pinned (OpenSpec.upto spaceFaultsSpec)

end Rows
end Go.Proofs.YtfchcnkgpklmhaaGreat
