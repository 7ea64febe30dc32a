/-
  No cell of these rows narrows 'for every input' (looked for: loops, veiled, ifaces, maps, wideKeys, modest, calm, conditions, laid).
  DERIVED. THE GIVEN ROWS OF THIS SEAT. 7 by the template 'for every input the law returns true; each argument reads behind the call as it read before'; 0 by the template 'total and deterministic' (their statements: YtnjbnhciheeboaaTotals.lean).
  GIVEN WITH THE SEED: the statements are not yours to turn. If you find one false, say at which input.
  Laid BY PROGRAM, IN A SANDBOX (cutbox-rows.mjs): the forced cells as the released guide's own fill.sh prints them over the translation d3703ce7359abcad… (all of the seat's roots in one cut). By AI agents, Wed Nov 11 2026. No macro, syntax, notation, axiom, sorry.
-/
import Derived.Test.YtnjbnhciheeboaaChecked
import GoSem.Claim
import GoSem.ClaimJoined
import GoSem.ClaimMapViews
import Derived.JoinedTies
import Derived.KernelRfl
namespace Go.Proofs.Ytnjbnhciheeboaa
/- THE CELL 'sum', in the pinned program and in every row, IS THE sha256 OF THE DUMP (.gsa) THAT YtnjbnhciheeboaaProg.lean LOADS. Nothing in Lean hashes anything: it is a label: what it is worth is what the hold of that sum in a sandbox is worth. -/
noncomputable def Try.pinned : Pinned := { name := "ytnjbnhciheeboaa", sum := "d3703ce7359abcad089ecded085a9164accacebf23c83612ccc4d5a9fa89fe4e", checked := Try.checked }
namespace Rows
def none {H : Type} : Left H := { results := [], args := [] }

/-- 'demesnelaw04.WalkPlays': WHATEVER THE INPUT: true; the input reads as it did. -/
def walkPlaysSpec : ChangeSpec := { name := "walkPlays", fn := fun _ => fun
  | [d1, d2] => { results := [.lit (.bool true)], args := [d1, d2] }
  | _ => none }
def walkPlaysRow : OpenClaim := { program := "ytnjbnhciheeboaa", sum := "d3703ce7359abcad089ecded085a9164accacebf23c83612ccc4d5a9fa89fe4e", func := "demesne/demesnelaw04.WalkPlays", spec := "walkPlays", unfollowed := true, recurses := true, apart := false }
def WalkPlaysSaid : Prop := walkPlaysRow.holds Try.pinned (OpenSpec.ofChange walkPlaysSpec)

/-- ITS FALSE NEIGHBOUR: 'it returns false'. Refute it at one input. -/
def walkPlaysWrong : ChangeSpec := { name := "walkPlays", fn := fun _ => fun
  | [d1, d2] => { results := [.lit (.bool false)], args := [d1, d2] }
  | _ => none }
def WalkPlaysWrongFalsely : Prop := walkPlaysRow.holds Try.pinned (OpenSpec.ofChange walkPlaysWrong)

/-- 'demesnelaw04.WalkMays': WHATEVER THE INPUT: true; the input reads as it did. -/
def walkMaysSpec : ChangeSpec := { name := "walkMays", fn := fun _ => fun
  | [d1, d2] => { results := [.lit (.bool true)], args := [d1, d2] }
  | _ => none }
def walkMaysRow : OpenClaim := { program := "ytnjbnhciheeboaa", sum := "d3703ce7359abcad089ecded085a9164accacebf23c83612ccc4d5a9fa89fe4e", func := "demesne/demesnelaw04.WalkMays", spec := "walkMays", unfollowed := true, recurses := true, apart := false }
def WalkMaysSaid : Prop := walkMaysRow.holds Try.pinned (OpenSpec.ofChange walkMaysSpec)

/-- ITS FALSE NEIGHBOUR: 'it returns false'. Refute it at one input. -/
def walkMaysWrong : ChangeSpec := { name := "walkMays", fn := fun _ => fun
  | [d1, d2] => { results := [.lit (.bool false)], args := [d1, d2] }
  | _ => none }
def WalkMaysWrongFalsely : Prop := walkMaysRow.holds Try.pinned (OpenSpec.ofChange walkMaysWrong)

/-- 'demesnelaw04.WalkAgain': WHATEVER THE INPUT: true; the input reads as it did. -/
def walkAgainSpec : ChangeSpec := { name := "walkAgain", fn := fun _ => fun
  | [d1, d2, d3] => { results := [.lit (.bool true)], args := [d1, d2, d3] }
  | _ => none }
def walkAgainRow : OpenClaim := { program := "ytnjbnhciheeboaa", sum := "d3703ce7359abcad089ecded085a9164accacebf23c83612ccc4d5a9fa89fe4e", func := "demesne/demesnelaw04.WalkAgain", spec := "walkAgain", unfollowed := true, recurses := true, apart := false }
def WalkAgainSaid : Prop := walkAgainRow.holds Try.pinned (OpenSpec.ofChange walkAgainSpec)

/-- ITS FALSE NEIGHBOUR: 'it returns false'. Refute it at one input. -/
def walkAgainWrong : ChangeSpec := { name := "walkAgain", fn := fun _ => fun
  | [d1, d2, d3] => { results := [.lit (.bool false)], args := [d1, d2, d3] }
  | _ => none }
def WalkAgainWrongFalsely : Prop := walkAgainRow.holds Try.pinned (OpenSpec.ofChange walkAgainWrong)

/-- 'demesnelaw04.WalkMarks': WHATEVER THE INPUT: true; the input reads as it did. -/
def walkMarksSpec : ChangeSpec := { name := "walkMarks", fn := fun _ => fun
  | [d1, d2] => { results := [.lit (.bool true)], args := [d1, d2] }
  | _ => none }
def walkMarksRow : OpenClaim := { program := "ytnjbnhciheeboaa", sum := "d3703ce7359abcad089ecded085a9164accacebf23c83612ccc4d5a9fa89fe4e", func := "demesne/demesnelaw04.WalkMarks", spec := "walkMarks", unfollowed := true, recurses := true, apart := false }
def WalkMarksSaid : Prop := walkMarksRow.holds Try.pinned (OpenSpec.ofChange walkMarksSpec)

/-- ITS FALSE NEIGHBOUR: 'it returns false'. Refute it at one input. -/
def walkMarksWrong : ChangeSpec := { name := "walkMarks", fn := fun _ => fun
  | [d1, d2] => { results := [.lit (.bool false)], args := [d1, d2] }
  | _ => none }
def WalkMarksWrongFalsely : Prop := walkMarksRow.holds Try.pinned (OpenSpec.ofChange walkMarksWrong)

/-- 'demesnelaw04.WalkNarrow': WHATEVER THE INPUT: true; the input reads as it did. -/
def walkNarrowSpec : ChangeSpec := { name := "walkNarrow", fn := fun _ => fun
  | [d1, d2, d3] => { results := [.lit (.bool true)], args := [d1, d2, d3] }
  | _ => none }
def walkNarrowRow : OpenClaim := { program := "ytnjbnhciheeboaa", sum := "d3703ce7359abcad089ecded085a9164accacebf23c83612ccc4d5a9fa89fe4e", func := "demesne/demesnelaw04.WalkNarrow", spec := "walkNarrow", unfollowed := true, recurses := true, apart := false }
def WalkNarrowSaid : Prop := walkNarrowRow.holds Try.pinned (OpenSpec.ofChange walkNarrowSpec)

/-- ITS FALSE NEIGHBOUR: 'it returns false'. Refute it at one input. -/
def walkNarrowWrong : ChangeSpec := { name := "walkNarrow", fn := fun _ => fun
  | [d1, d2, d3] => { results := [.lit (.bool false)], args := [d1, d2, d3] }
  | _ => none }
def WalkNarrowWrongFalsely : Prop := walkNarrowRow.holds Try.pinned (OpenSpec.ofChange walkNarrowWrong)

/-- 'demesnelaw04.WalkPages': WHATEVER THE INPUT: true; the input reads as it did. -/
def walkPagesSpec : ChangeSpec := { name := "walkPages", fn := fun _ => fun
  | [d1, d2, d3] => { results := [.lit (.bool true)], args := [d1, d2, d3] }
  | _ => none }
def walkPagesRow : OpenClaim := { program := "ytnjbnhciheeboaa", sum := "d3703ce7359abcad089ecded085a9164accacebf23c83612ccc4d5a9fa89fe4e", func := "demesne/demesnelaw04.WalkPages", spec := "walkPages", unfollowed := true, recurses := true, apart := false }
def WalkPagesSaid : Prop := walkPagesRow.holds Try.pinned (OpenSpec.ofChange walkPagesSpec)

/-- ITS FALSE NEIGHBOUR: 'it returns false'. Refute it at one input. -/
def walkPagesWrong : ChangeSpec := { name := "walkPages", fn := fun _ => fun
  | [d1, d2, d3] => { results := [.lit (.bool false)], args := [d1, d2, d3] }
  | _ => none }
def WalkPagesWrongFalsely : Prop := walkPagesRow.holds Try.pinned (OpenSpec.ofChange walkPagesWrong)

/-- 'demesnelaw04.WalkLarge': WHATEVER THE INPUT: true; the input reads as it did. -/
def walkLargeSpec : ChangeSpec := { name := "walkLarge", fn := fun _ => fun
  | [d1, d2, d3, d4] => { results := [.lit (.bool true)], args := [d1, d2, d3, d4] }
  | _ => none }
def walkLargeRow : OpenClaim := { program := "ytnjbnhciheeboaa", sum := "d3703ce7359abcad089ecded085a9164accacebf23c83612ccc4d5a9fa89fe4e", func := "demesne/demesnelaw04.WalkLarge", spec := "walkLarge", unfollowed := true, recurses := true, apart := false }
def WalkLargeSaid : Prop := walkLargeRow.holds Try.pinned (OpenSpec.ofChange walkLargeSpec)

/-- ITS FALSE NEIGHBOUR: 'it returns false'. Refute it at one input. -/
def walkLargeWrong : ChangeSpec := { name := "walkLarge", fn := fun _ => fun
  | [d1, d2, d3, d4] => { results := [.lit (.bool false)], args := [d1, d2, d3, d4] }
  | _ => none }
def WalkLargeWrongFalsely : Prop := walkLargeRow.holds Try.pinned (OpenSpec.ofChange walkLargeWrong)

/- THE SECOND FORM. 'bulk': how many values and letters a reading holds, each counted each time it is reached (what is shared counts as often as it is met; a slice's spare places count too). A statement '..UptoSaid' is the law's where the arguments, and the package variables that the reading takes, are together of bulk at most 1048576: NARROWER than '..Said'. Prove '..Said' where nothing that the law and all that it calls make is longer than what came in: it says more and counts as full. Else prove '..UptoSaid'. A law counts once. -/
mutual
def uptoBulk {H : Type} : DataW H → Nat
  | .lit (.string bytes) => bytes.length + 1
  | .lit _ => 1
  | .nil => 1
  | .ptr d => uptoBulk d + 1
  | .slice elems spare => uptoBulkAll elems + uptoBulkAll spare + 1
  | .agg parts => uptoBulkAll parts + 1
  | .iface _ d => uptoBulk d + 1
  | .map entries => uptoBulkEntries entries + 1
  | .held _ => 1
def uptoBulkAll {H : Type} : List (DataW H) → Nat
  | [] => 0
  | d :: r => uptoBulk d + uptoBulkAll r
def uptoBulkEntries {H : Type} : List (Lit × DataW H) → Nat
  | [] => 0
  | x :: r => uptoBulkEntry x + uptoBulkEntries r
def uptoBulkEntry {H : Type} : Lit × DataW H → Nat
  | (.string bytes, d) => bytes.length + uptoBulk d + 1
  | (_, d) => uptoBulk d + 1
 end
def uptoSmall : (H : Type) → List (DataW H) → Bool := fun _ ds => decide (uptoBulkAll ds ≤ 1048576)
def OpenSpec.upto (s : _root_.Go.ChangeSpec) : _root_.Go.OpenSpec := { _root_.Go.OpenSpec.ofChange s with cond := some uptoSmall }

/-- 'demesnelaw04.WalkPlays', WHERE WHAT IT READS IS OF BULK AT MOST 1048576: true; the input reads as it did. -/
def walkPlaysUptoRow : OpenClaim := { program := "ytnjbnhciheeboaa", sum := "d3703ce7359abcad089ecded085a9164accacebf23c83612ccc4d5a9fa89fe4e", func := "demesne/demesnelaw04.WalkPlays", spec := "walkPlays", unfollowed := true, recurses := true, apart := false, narrowed := true }
def WalkPlaysUptoSaid : Prop := walkPlaysUptoRow.holds Try.pinned (OpenSpec.upto walkPlaysSpec)

/-- 'demesnelaw04.WalkMays', WHERE WHAT IT READS IS OF BULK AT MOST 1048576: true; the input reads as it did. -/
def walkMaysUptoRow : OpenClaim := { program := "ytnjbnhciheeboaa", sum := "d3703ce7359abcad089ecded085a9164accacebf23c83612ccc4d5a9fa89fe4e", func := "demesne/demesnelaw04.WalkMays", spec := "walkMays", unfollowed := true, recurses := true, apart := false, narrowed := true }
def WalkMaysUptoSaid : Prop := walkMaysUptoRow.holds Try.pinned (OpenSpec.upto walkMaysSpec)

/-- 'demesnelaw04.WalkAgain', WHERE WHAT IT READS IS OF BULK AT MOST 1048576: true; the input reads as it did. -/
def walkAgainUptoRow : OpenClaim := { program := "ytnjbnhciheeboaa", sum := "d3703ce7359abcad089ecded085a9164accacebf23c83612ccc4d5a9fa89fe4e", func := "demesne/demesnelaw04.WalkAgain", spec := "walkAgain", unfollowed := true, recurses := true, apart := false, narrowed := true }
def WalkAgainUptoSaid : Prop := walkAgainUptoRow.holds Try.pinned (OpenSpec.upto walkAgainSpec)

/-- 'demesnelaw04.WalkMarks', WHERE WHAT IT READS IS OF BULK AT MOST 1048576: true; the input reads as it did. -/
def walkMarksUptoRow : OpenClaim := { program := "ytnjbnhciheeboaa", sum := "d3703ce7359abcad089ecded085a9164accacebf23c83612ccc4d5a9fa89fe4e", func := "demesne/demesnelaw04.WalkMarks", spec := "walkMarks", unfollowed := true, recurses := true, apart := false, narrowed := true }
def WalkMarksUptoSaid : Prop := walkMarksUptoRow.holds Try.pinned (OpenSpec.upto walkMarksSpec)

/-- 'demesnelaw04.WalkNarrow', WHERE WHAT IT READS IS OF BULK AT MOST 1048576: true; the input reads as it did. -/
def walkNarrowUptoRow : OpenClaim := { program := "ytnjbnhciheeboaa", sum := "d3703ce7359abcad089ecded085a9164accacebf23c83612ccc4d5a9fa89fe4e", func := "demesne/demesnelaw04.WalkNarrow", spec := "walkNarrow", unfollowed := true, recurses := true, apart := false, narrowed := true }
def WalkNarrowUptoSaid : Prop := walkNarrowUptoRow.holds Try.pinned (OpenSpec.upto walkNarrowSpec)

/-- 'demesnelaw04.WalkPages', WHERE WHAT IT READS IS OF BULK AT MOST 1048576: true; the input reads as it did. -/
def walkPagesUptoRow : OpenClaim := { program := "ytnjbnhciheeboaa", sum := "d3703ce7359abcad089ecded085a9164accacebf23c83612ccc4d5a9fa89fe4e", func := "demesne/demesnelaw04.WalkPages", spec := "walkPages", unfollowed := true, recurses := true, apart := false, narrowed := true }
def WalkPagesUptoSaid : Prop := walkPagesUptoRow.holds Try.pinned (OpenSpec.upto walkPagesSpec)

/-- 'demesnelaw04.WalkLarge', WHERE WHAT IT READS IS OF BULK AT MOST 1048576: true; the input reads as it did. -/
def walkLargeUptoRow : OpenClaim := { program := "ytnjbnhciheeboaa", sum := "d3703ce7359abcad089ecded085a9164accacebf23c83612ccc4d5a9fa89fe4e", func := "demesne/demesnelaw04.WalkLarge", spec := "walkLarge", unfollowed := true, recurses := true, apart := false, narrowed := true }
def WalkLargeUptoSaid : Prop := walkLargeUptoRow.holds Try.pinned (OpenSpec.upto walkLargeSpec)

end Rows
end Go.Proofs.Ytnjbnhciheeboaa
