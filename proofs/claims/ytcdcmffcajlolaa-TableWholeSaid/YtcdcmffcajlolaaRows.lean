/-
  No cell of these rows narrows 'for every input' (looked for: loops, veiled, ifaces, maps, wideKeys, modest, calm, conditions, laid).
  DERIVED. THE GIVEN ROWS OF THIS SEAT. 8 by the template 'for every input the law returns true; each argument reads behind the call as it read before'; 0 by the template 'total and deterministic' (their statements: YtcdcmffcajlolaaTotals.lean).
  GIVEN WITH THE SEED: the statements are not yours to turn. If you find one false, say at which input.
  Laid BY PROGRAM, IN A SANDBOX (cutbox-rows.mjs): the forced cells as the released guide's own fill.sh prints them over the translation 0c314efc0e27a1da… (all of the seat's roots in one cut). By AI agents, Wed Nov 11 2026. No macro, syntax, notation, axiom, sorry.
-/
import Derived.Test.YtcdcmffcajlolaaChecked
import GoSem.Claim
import GoSem.ClaimJoined
import GoSem.ClaimMapViews
import Derived.JoinedTies
import Derived.KernelRfl
namespace Go.Proofs.Ytcdcmffcajlolaa
/- THE CELL 'sum', in the pinned program and in every row, IS THE sha256 OF THE DUMP (.gsa) THAT YtcdcmffcajlolaaProg.lean LOADS. Nothing in Lean hashes anything: it is a label: what it is worth is what the hold of that sum in a sandbox is worth. -/
noncomputable def Try.pinned : Pinned := { name := "ytcdcmffcajlolaa", sum := "0c314efc0e27a1dad1ec1b0cd12ccdf1dfc9ab52d094b6531fc27f5b9e102b24", checked := Try.checked }
namespace Rows
def none {H : Type} : Left H := { results := [], args := [] }

/-- 'demesnelaw09.TableKernel': WHATEVER THE INPUT: true; the input reads as it did. -/
def tableKernelSpec : ChangeSpec := { name := "tableKernel", fn := fun _ => fun
  | [d1, d2] => { results := [.lit (.bool true)], args := [d1, d2] }
  | _ => none }
def tableKernelRow : OpenClaim := { program := "ytcdcmffcajlolaa", sum := "0c314efc0e27a1dad1ec1b0cd12ccdf1dfc9ab52d094b6531fc27f5b9e102b24", func := "demesne/demesnelaw09.TableKernel", spec := "tableKernel", unfollowed := true, recurses := true, apart := false }
def TableKernelSaid : Prop := tableKernelRow.holds Try.pinned (OpenSpec.ofChange tableKernelSpec)

/-- ITS FALSE NEIGHBOUR: 'it returns false'. Refute it at one input. -/
def tableKernelWrong : ChangeSpec := { name := "tableKernel", fn := fun _ => fun
  | [d1, d2] => { results := [.lit (.bool false)], args := [d1, d2] }
  | _ => none }
def TableKernelWrongFalsely : Prop := tableKernelRow.holds Try.pinned (OpenSpec.ofChange tableKernelWrong)

/-- 'demesnelaw09.TableUses': WHATEVER THE INPUT: true; the input reads as it did. -/
def tableUsesSpec : ChangeSpec := { name := "tableUses", fn := fun _ => fun
  | [d1, d2, d3] => { results := [.lit (.bool true)], args := [d1, d2, d3] }
  | _ => none }
def tableUsesRow : OpenClaim := { program := "ytcdcmffcajlolaa", sum := "0c314efc0e27a1dad1ec1b0cd12ccdf1dfc9ab52d094b6531fc27f5b9e102b24", func := "demesne/demesnelaw09.TableUses", spec := "tableUses", unfollowed := true, recurses := true, apart := false }
def TableUsesSaid : Prop := tableUsesRow.holds Try.pinned (OpenSpec.ofChange tableUsesSpec)

/-- ITS FALSE NEIGHBOUR: 'it returns false'. Refute it at one input. -/
def tableUsesWrong : ChangeSpec := { name := "tableUses", fn := fun _ => fun
  | [d1, d2, d3] => { results := [.lit (.bool false)], args := [d1, d2, d3] }
  | _ => none }
def TableUsesWrongFalsely : Prop := tableUsesRow.holds Try.pinned (OpenSpec.ofChange tableUsesWrong)

/-- 'demesnelaw09.TableNear': WHATEVER THE INPUT: true; the input reads as it did. -/
def tableNearSpec : ChangeSpec := { name := "tableNear", fn := fun _ => fun
  | [d1, d2, d3] => { results := [.lit (.bool true)], args := [d1, d2, d3] }
  | _ => none }
def tableNearRow : OpenClaim := { program := "ytcdcmffcajlolaa", sum := "0c314efc0e27a1dad1ec1b0cd12ccdf1dfc9ab52d094b6531fc27f5b9e102b24", func := "demesne/demesnelaw09.TableNear", spec := "tableNear", unfollowed := true, recurses := true, apart := false }
def TableNearSaid : Prop := tableNearRow.holds Try.pinned (OpenSpec.ofChange tableNearSpec)

/-- ITS FALSE NEIGHBOUR: 'it returns false'. Refute it at one input. -/
def tableNearWrong : ChangeSpec := { name := "tableNear", fn := fun _ => fun
  | [d1, d2, d3] => { results := [.lit (.bool false)], args := [d1, d2, d3] }
  | _ => none }
def TableNearWrongFalsely : Prop := tableNearRow.holds Try.pinned (OpenSpec.ofChange tableNearWrong)

/-- 'demesnelaw09.TableBack': WHATEVER THE INPUT: true; the input reads as it did. -/
def tableBackSpec : ChangeSpec := { name := "tableBack", fn := fun _ => fun
  | [d1, d2] => { results := [.lit (.bool true)], args := [d1, d2] }
  | _ => none }
def tableBackRow : OpenClaim := { program := "ytcdcmffcajlolaa", sum := "0c314efc0e27a1dad1ec1b0cd12ccdf1dfc9ab52d094b6531fc27f5b9e102b24", func := "demesne/demesnelaw09.TableBack", spec := "tableBack", unfollowed := true, recurses := true, apart := false }
def TableBackSaid : Prop := tableBackRow.holds Try.pinned (OpenSpec.ofChange tableBackSpec)

/-- ITS FALSE NEIGHBOUR: 'it returns false'. Refute it at one input. -/
def tableBackWrong : ChangeSpec := { name := "tableBack", fn := fun _ => fun
  | [d1, d2] => { results := [.lit (.bool false)], args := [d1, d2] }
  | _ => none }
def TableBackWrongFalsely : Prop := tableBackRow.holds Try.pinned (OpenSpec.ofChange tableBackWrong)

/-- 'demesnelaw09.TableApart': WHATEVER THE INPUT: true; the input reads as it did. -/
def tableApartSpec : ChangeSpec := { name := "tableApart", fn := fun _ => fun
  | [d1, d2] => { results := [.lit (.bool true)], args := [d1, d2] }
  | _ => none }
def tableApartRow : OpenClaim := { program := "ytcdcmffcajlolaa", sum := "0c314efc0e27a1dad1ec1b0cd12ccdf1dfc9ab52d094b6531fc27f5b9e102b24", func := "demesne/demesnelaw09.TableApart", spec := "tableApart", unfollowed := true, recurses := true, apart := false }
def TableApartSaid : Prop := tableApartRow.holds Try.pinned (OpenSpec.ofChange tableApartSpec)

/-- ITS FALSE NEIGHBOUR: 'it returns false'. Refute it at one input. -/
def tableApartWrong : ChangeSpec := { name := "tableApart", fn := fun _ => fun
  | [d1, d2] => { results := [.lit (.bool false)], args := [d1, d2] }
  | _ => none }
def TableApartWrongFalsely : Prop := tableApartRow.holds Try.pinned (OpenSpec.ofChange tableApartWrong)

/-- 'demesnelaw09.TableWhole': WHATEVER THE INPUT: true; the input reads as it did. -/
def tableWholeSpec : ChangeSpec := { name := "tableWhole", fn := fun _ => fun
  | [d1, d2, d3] => { results := [.lit (.bool true)], args := [d1, d2, d3] }
  | _ => none }
def tableWholeRow : OpenClaim := { program := "ytcdcmffcajlolaa", sum := "0c314efc0e27a1dad1ec1b0cd12ccdf1dfc9ab52d094b6531fc27f5b9e102b24", func := "demesne/demesnelaw09.TableWhole", spec := "tableWhole", unfollowed := true, recurses := true, apart := false }
def TableWholeSaid : Prop := tableWholeRow.holds Try.pinned (OpenSpec.ofChange tableWholeSpec)

/-- ITS FALSE NEIGHBOUR: 'it returns false'. Refute it at one input. -/
def tableWholeWrong : ChangeSpec := { name := "tableWhole", fn := fun _ => fun
  | [d1, d2, d3] => { results := [.lit (.bool false)], args := [d1, d2, d3] }
  | _ => none }
def TableWholeWrongFalsely : Prop := tableWholeRow.holds Try.pinned (OpenSpec.ofChange tableWholeWrong)

/-- 'demesnelaw09.TablePlays': WHATEVER THE INPUT: true; the input reads as it did. -/
def tablePlaysSpec : ChangeSpec := { name := "tablePlays", fn := fun _ => fun
  | [d1, d2] => { results := [.lit (.bool true)], args := [d1, d2] }
  | _ => none }
def tablePlaysRow : OpenClaim := { program := "ytcdcmffcajlolaa", sum := "0c314efc0e27a1dad1ec1b0cd12ccdf1dfc9ab52d094b6531fc27f5b9e102b24", func := "demesne/demesnelaw09.TablePlays", spec := "tablePlays", unfollowed := true, recurses := true, apart := false }
def TablePlaysSaid : Prop := tablePlaysRow.holds Try.pinned (OpenSpec.ofChange tablePlaysSpec)

/-- ITS FALSE NEIGHBOUR: 'it returns false'. Refute it at one input. -/
def tablePlaysWrong : ChangeSpec := { name := "tablePlays", fn := fun _ => fun
  | [d1, d2] => { results := [.lit (.bool false)], args := [d1, d2] }
  | _ => none }
def TablePlaysWrongFalsely : Prop := tablePlaysRow.holds Try.pinned (OpenSpec.ofChange tablePlaysWrong)

/-- 'demesnelaw09.TableWalks': WHATEVER THE INPUT: true; the input reads as it did. -/
def tableWalksSpec : ChangeSpec := { name := "tableWalks", fn := fun _ => fun
  | [d1, d2, d3] => { results := [.lit (.bool true)], args := [d1, d2, d3] }
  | _ => none }
def tableWalksRow : OpenClaim := { program := "ytcdcmffcajlolaa", sum := "0c314efc0e27a1dad1ec1b0cd12ccdf1dfc9ab52d094b6531fc27f5b9e102b24", func := "demesne/demesnelaw09.TableWalks", spec := "tableWalks", unfollowed := true, recurses := true, apart := false }
def TableWalksSaid : Prop := tableWalksRow.holds Try.pinned (OpenSpec.ofChange tableWalksSpec)

/-- ITS FALSE NEIGHBOUR: 'it returns false'. Refute it at one input. -/
def tableWalksWrong : ChangeSpec := { name := "tableWalks", fn := fun _ => fun
  | [d1, d2, d3] => { results := [.lit (.bool false)], args := [d1, d2, d3] }
  | _ => none }
def TableWalksWrongFalsely : Prop := tableWalksRow.holds Try.pinned (OpenSpec.ofChange tableWalksWrong)

/- THE SECOND FORM. 'bulk': how many values and letters a reading holds, each counted each time it is reached (what is shared counts as often as it is met; a slice's spare places count too). A statement '..UptoSaid' is the law's where the arguments, and the package variables that the reading takes, are together of bulk at most 1048576: NARROWER than '..Said'. Prove '..Said' where nothing that the law and all that it calls make is longer than what came in: it says more and counts as full. Else prove '..UptoSaid'. A law counts once. -/
mutual
def uptoBulk {H : Type} : DataW H → Nat
  | .lit (.string bytes) => bytes.length + 1
  | .lit _ => 1
  | .nil => 1
  | .ptr d => uptoBulk d + 1
  | .slice elems spare => uptoBulkAll elems + uptoBulkAll spare + 1
  | .agg parts => uptoBulkAll parts + 1
  | .iface _ d => uptoBulk d + 1
  | .map entries => uptoBulkEntries entries + 1
  | .held _ => 1
def uptoBulkAll {H : Type} : List (DataW H) → Nat
  | [] => 0
  | d :: r => uptoBulk d + uptoBulkAll r
def uptoBulkEntries {H : Type} : List (Lit × DataW H) → Nat
  | [] => 0
  | x :: r => uptoBulkEntry x + uptoBulkEntries r
def uptoBulkEntry {H : Type} : Lit × DataW H → Nat
  | (.string bytes, d) => bytes.length + uptoBulk d + 1
  | (_, d) => uptoBulk d + 1
 end
def uptoSmall : (H : Type) → List (DataW H) → Bool := fun _ ds => decide (uptoBulkAll ds ≤ 1048576)
def OpenSpec.upto (s : _root_.Go.ChangeSpec) : _root_.Go.OpenSpec := { _root_.Go.OpenSpec.ofChange s with cond := some uptoSmall }

/-- 'demesnelaw09.TableKernel', WHERE WHAT IT READS IS OF BULK AT MOST 1048576: true; the input reads as it did. -/
def tableKernelUptoRow : OpenClaim := { program := "ytcdcmffcajlolaa", sum := "0c314efc0e27a1dad1ec1b0cd12ccdf1dfc9ab52d094b6531fc27f5b9e102b24", func := "demesne/demesnelaw09.TableKernel", spec := "tableKernel", unfollowed := true, recurses := true, apart := false, narrowed := true }
def TableKernelUptoSaid : Prop := tableKernelUptoRow.holds Try.pinned (OpenSpec.upto tableKernelSpec)

/-- 'demesnelaw09.TableUses', WHERE WHAT IT READS IS OF BULK AT MOST 1048576: true; the input reads as it did. -/
def tableUsesUptoRow : OpenClaim := { program := "ytcdcmffcajlolaa", sum := "0c314efc0e27a1dad1ec1b0cd12ccdf1dfc9ab52d094b6531fc27f5b9e102b24", func := "demesne/demesnelaw09.TableUses", spec := "tableUses", unfollowed := true, recurses := true, apart := false, narrowed := true }
def TableUsesUptoSaid : Prop := tableUsesUptoRow.holds Try.pinned (OpenSpec.upto tableUsesSpec)

/-- 'demesnelaw09.TableNear', WHERE WHAT IT READS IS OF BULK AT MOST 1048576: true; the input reads as it did. -/
def tableNearUptoRow : OpenClaim := { program := "ytcdcmffcajlolaa", sum := "0c314efc0e27a1dad1ec1b0cd12ccdf1dfc9ab52d094b6531fc27f5b9e102b24", func := "demesne/demesnelaw09.TableNear", spec := "tableNear", unfollowed := true, recurses := true, apart := false, narrowed := true }
def TableNearUptoSaid : Prop := tableNearUptoRow.holds Try.pinned (OpenSpec.upto tableNearSpec)

/-- 'demesnelaw09.TableBack', WHERE WHAT IT READS IS OF BULK AT MOST 1048576: true; the input reads as it did. -/
def tableBackUptoRow : OpenClaim := { program := "ytcdcmffcajlolaa", sum := "0c314efc0e27a1dad1ec1b0cd12ccdf1dfc9ab52d094b6531fc27f5b9e102b24", func := "demesne/demesnelaw09.TableBack", spec := "tableBack", unfollowed := true, recurses := true, apart := false, narrowed := true }
def TableBackUptoSaid : Prop := tableBackUptoRow.holds Try.pinned (OpenSpec.upto tableBackSpec)

/-- 'demesnelaw09.TableApart', WHERE WHAT IT READS IS OF BULK AT MOST 1048576: true; the input reads as it did. -/
def tableApartUptoRow : OpenClaim := { program := "ytcdcmffcajlolaa", sum := "0c314efc0e27a1dad1ec1b0cd12ccdf1dfc9ab52d094b6531fc27f5b9e102b24", func := "demesne/demesnelaw09.TableApart", spec := "tableApart", unfollowed := true, recurses := true, apart := false, narrowed := true }
def TableApartUptoSaid : Prop := tableApartUptoRow.holds Try.pinned (OpenSpec.upto tableApartSpec)

/-- 'demesnelaw09.TableWhole', WHERE WHAT IT READS IS OF BULK AT MOST 1048576: true; the input reads as it did. -/
def tableWholeUptoRow : OpenClaim := { program := "ytcdcmffcajlolaa", sum := "0c314efc0e27a1dad1ec1b0cd12ccdf1dfc9ab52d094b6531fc27f5b9e102b24", func := "demesne/demesnelaw09.TableWhole", spec := "tableWhole", unfollowed := true, recurses := true, apart := false, narrowed := true }
def TableWholeUptoSaid : Prop := tableWholeUptoRow.holds Try.pinned (OpenSpec.upto tableWholeSpec)

/-- 'demesnelaw09.TablePlays', WHERE WHAT IT READS IS OF BULK AT MOST 1048576: true; the input reads as it did. -/
def tablePlaysUptoRow : OpenClaim := { program := "ytcdcmffcajlolaa", sum := "0c314efc0e27a1dad1ec1b0cd12ccdf1dfc9ab52d094b6531fc27f5b9e102b24", func := "demesne/demesnelaw09.TablePlays", spec := "tablePlays", unfollowed := true, recurses := true, apart := false, narrowed := true }
def TablePlaysUptoSaid : Prop := tablePlaysUptoRow.holds Try.pinned (OpenSpec.upto tablePlaysSpec)

/-- 'demesnelaw09.TableWalks', WHERE WHAT IT READS IS OF BULK AT MOST 1048576: true; the input reads as it did. -/
def tableWalksUptoRow : OpenClaim := { program := "ytcdcmffcajlolaa", sum := "0c314efc0e27a1dad1ec1b0cd12ccdf1dfc9ab52d094b6531fc27f5b9e102b24", func := "demesne/demesnelaw09.TableWalks", spec := "tableWalks", unfollowed := true, recurses := true, apart := false, narrowed := true }
def TableWalksUptoSaid : Prop := tableWalksUptoRow.holds Try.pinned (OpenSpec.upto tableWalksSpec)

end Rows
end Go.Proofs.Ytcdcmffcajlolaa
