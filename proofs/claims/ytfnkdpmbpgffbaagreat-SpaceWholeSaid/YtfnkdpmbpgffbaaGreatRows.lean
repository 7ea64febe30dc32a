/-
  No cell of these rows narrows 'for every input' (looked for: loops, veiled, ifaces, maps, wideKeys, modest, calm, conditions, laid).
  DERIVED. THE GIVEN ROWS OF THIS SEAT. 3 by the template 'for every input the law returns true; each argument reads behind the call as it read before'; 0 by the template 'total and deterministic' (their statements: YtfnkdpmbpgffbaaGreatTotals.lean).
  GIVEN WITH THE SEED: the statements are not yours to turn. If you find one false, say at which input.
  Laid BY PROGRAM, IN A SANDBOX (cutbox-rows.mjs): the forced cells as the released guide's own fill.sh prints them over the translation 130fb0eab1e254a8… (all of the seat's roots in one cut). By AI agents, Wed Nov 11 2026. No macro, syntax, notation, axiom, sorry.
-/
import Derived.Test.YtfnkdpmbpgffbaaGreatChecked
import GoSem.Claim
import GoSem.ClaimJoined
import GoSem.ClaimMapViews
import Derived.JoinedTies
import Derived.KernelRfl
namespace Go.Proofs.YtfnkdpmbpgffbaaGreat
/- THE CELL 'sum', in the pinned program and in every row, IS THE sha256 OF THE DUMP (.gsa) THAT YtfnkdpmbpgffbaaGreatProg.lean LOADS. Nothing in Lean hashes anything: it is a label: what it is worth is what the hold of that sum in a sandbox is worth. -/
noncomputable def Tryz.pinned : Pinned := { name := "ytfnkdpmbpgffbaagreat", sum := "130fb0eab1e254a85388744cedd14962e1b5b68df5d9ee39df7a1e43e5c7be10", checked := Tryz.checked }
namespace Rows
def none {H : Type} : Left H := { results := [], args := [] }

/-- 'demesnetop.DemesneFresh': WHATEVER THE INPUT: true; the input reads as it did. -/
def demesneFreshSpec : ChangeSpec := { name := "demesneFresh", fn := fun _ => fun
  | [d1, d2, d3, d4] => { results := [.lit (.bool true)], args := [d1, d2, d3, d4] }
  | _ => none }
def demesneFreshRow : OpenClaim := { program := "ytfnkdpmbpgffbaagreat", sum := "130fb0eab1e254a85388744cedd14962e1b5b68df5d9ee39df7a1e43e5c7be10", func := "demesne/demesnetop.DemesneFresh", spec := "demesneFresh", inPlace := ["slices.overlaps[demesne/region.Region]"], unfollowed := true, recurses := true, apart := false }
def DemesneFreshSaid : Prop := demesneFreshRow.holds Tryz.pinned (OpenSpec.ofChange demesneFreshSpec)

/-- ITS FALSE NEIGHBOUR: 'it returns false'. Refute it at one input. -/
def demesneFreshWrong : ChangeSpec := { name := "demesneFresh", fn := fun _ => fun
  | [d1, d2, d3, d4] => { results := [.lit (.bool false)], args := [d1, d2, d3, d4] }
  | _ => none }
def DemesneFreshWrongFalsely : Prop := demesneFreshRow.holds Tryz.pinned (OpenSpec.ofChange demesneFreshWrong)

/-- 'demesnelaw12.SpaceWhole': WHATEVER THE INPUT: true; the input reads as it did. -/
def spaceWholeSpec : ChangeSpec := { name := "spaceWhole", fn := fun _ => fun
  | [d1, d2, d3, d4, d5] => { results := [.lit (.bool true)], args := [d1, d2, d3, d4, d5] }
  | _ => none }
def spaceWholeRow : OpenClaim := { program := "ytfnkdpmbpgffbaagreat", sum := "130fb0eab1e254a85388744cedd14962e1b5b68df5d9ee39df7a1e43e5c7be10", func := "demesne/demesnelaw12.SpaceWhole", spec := "spaceWhole", inPlace := ["slices.overlaps[demesne/region.Region]"], unfollowed := true, recurses := true, apart := false }
def SpaceWholeSaid : Prop := spaceWholeRow.holds Tryz.pinned (OpenSpec.ofChange spaceWholeSpec)

/-- ITS FALSE NEIGHBOUR: 'it returns false'. Refute it at one input. -/
def spaceWholeWrong : ChangeSpec := { name := "spaceWhole", fn := fun _ => fun
  | [d1, d2, d3, d4, d5] => { results := [.lit (.bool false)], args := [d1, d2, d3, d4, d5] }
  | _ => none }
def SpaceWholeWrongFalsely : Prop := spaceWholeRow.holds Tryz.pinned (OpenSpec.ofChange spaceWholeWrong)

/-- 'demesnelaw12.SpaceFaults': WHATEVER THE INPUT: true; the input reads as it did. -/
def spaceFaultsSpec : ChangeSpec := { name := "spaceFaults", fn := fun _ => fun
  | [d1, d2, d3, d4, d5] => { results := [.lit (.bool true)], args := [d1, d2, d3, d4, d5] }
  | _ => none }
def spaceFaultsRow : OpenClaim := { program := "ytfnkdpmbpgffbaagreat", sum := "130fb0eab1e254a85388744cedd14962e1b5b68df5d9ee39df7a1e43e5c7be10", func := "demesne/demesnelaw12.SpaceFaults", spec := "spaceFaults", inPlace := ["slices.overlaps[demesne/region.Region]"], unfollowed := true, recurses := true, apart := false }
def SpaceFaultsSaid : Prop := spaceFaultsRow.holds Tryz.pinned (OpenSpec.ofChange spaceFaultsSpec)

/-- ITS FALSE NEIGHBOUR: 'it returns false'. Refute it at one input. -/
def spaceFaultsWrong : ChangeSpec := { name := "spaceFaults", fn := fun _ => fun
  | [d1, d2, d3, d4, d5] => { results := [.lit (.bool false)], args := [d1, d2, d3, d4, d5] }
  | _ => none }
def SpaceFaultsWrongFalsely : Prop := spaceFaultsRow.holds Tryz.pinned (OpenSpec.ofChange spaceFaultsWrong)

/- THE SECOND FORM. 'bulk': how many values and letters a reading holds, each counted each time it is reached (what is shared counts as often as it is met; a slice's spare places count too). A statement '..UptoSaid' is the law's where the arguments, and the package variables that the reading takes, are together of bulk at most 1048576: NARROWER than '..Said'. Prove '..Said' where nothing that the law and all that it calls make is longer than what came in: it says more and counts as full. Else prove '..UptoSaid'. A law counts once. -/
mutual
def uptoBulk {H : Type} : DataW H → Nat
  | .lit (.string bytes) => bytes.length + 1
  | .lit _ => 1
  | .nil => 1
  | .ptr d => uptoBulk d + 1
  | .slice elems spare => uptoBulkAll elems + uptoBulkAll spare + 1
  | .agg parts => uptoBulkAll parts + 1
  | .iface _ d => uptoBulk d + 1
  | .map entries => uptoBulkEntries entries + 1
  | .held _ => 1
def uptoBulkAll {H : Type} : List (DataW H) → Nat
  | [] => 0
  | d :: r => uptoBulk d + uptoBulkAll r
def uptoBulkEntries {H : Type} : List (Lit × DataW H) → Nat
  | [] => 0
  | x :: r => uptoBulkEntry x + uptoBulkEntries r
def uptoBulkEntry {H : Type} : Lit × DataW H → Nat
  | (.string bytes, d) => bytes.length + uptoBulk d + 1
  | (_, d) => uptoBulk d + 1
 end
def uptoSmall : (H : Type) → List (DataW H) → Bool := fun _ ds => decide (uptoBulkAll ds ≤ 1048576)
def OpenSpec.upto (s : _root_.Go.ChangeSpec) : _root_.Go.OpenSpec := { _root_.Go.OpenSpec.ofChange s with cond := some uptoSmall }

/-- 'demesnetop.DemesneFresh', WHERE WHAT IT READS IS OF BULK AT MOST 1048576: true; the input reads as it did. -/
def demesneFreshUptoRow : OpenClaim := { program := "ytfnkdpmbpgffbaagreat", sum := "130fb0eab1e254a85388744cedd14962e1b5b68df5d9ee39df7a1e43e5c7be10", func := "demesne/demesnetop.DemesneFresh", spec := "demesneFresh", inPlace := ["slices.overlaps[demesne/region.Region]"], unfollowed := true, recurses := true, apart := false, narrowed := true }
def DemesneFreshUptoSaid : Prop := demesneFreshUptoRow.holds Tryz.pinned (OpenSpec.upto demesneFreshSpec)

/-- 'demesnelaw12.SpaceWhole', WHERE WHAT IT READS IS OF BULK AT MOST 1048576: true; the input reads as it did. -/
def spaceWholeUptoRow : OpenClaim := { program := "ytfnkdpmbpgffbaagreat", sum := "130fb0eab1e254a85388744cedd14962e1b5b68df5d9ee39df7a1e43e5c7be10", func := "demesne/demesnelaw12.SpaceWhole", spec := "spaceWhole", inPlace := ["slices.overlaps[demesne/region.Region]"], unfollowed := true, recurses := true, apart := false, narrowed := true }
def SpaceWholeUptoSaid : Prop := spaceWholeUptoRow.holds Tryz.pinned (OpenSpec.upto spaceWholeSpec)

/-- 'demesnelaw12.SpaceFaults', WHERE WHAT IT READS IS OF BULK AT MOST 1048576: true; the input reads as it did. -/
def spaceFaultsUptoRow : OpenClaim := { program := "ytfnkdpmbpgffbaagreat", sum := "130fb0eab1e254a85388744cedd14962e1b5b68df5d9ee39df7a1e43e5c7be10", func := "demesne/demesnelaw12.SpaceFaults", spec := "spaceFaults", inPlace := ["slices.overlaps[demesne/region.Region]"], unfollowed := true, recurses := true, apart := false, narrowed := true }
def SpaceFaultsUptoSaid : Prop := spaceFaultsUptoRow.holds Tryz.pinned (OpenSpec.upto spaceFaultsSpec)

end Rows
end Go.Proofs.YtfnkdpmbpgffbaaGreat
