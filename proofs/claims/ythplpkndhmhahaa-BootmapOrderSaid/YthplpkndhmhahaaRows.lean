/-
  No cell of these rows narrows 'for every input' (looked for: loops, veiled, ifaces, maps, wideKeys, modest, calm, conditions, laid).
  DERIVED. THE GIVEN ROWS OF THIS SEAT. 7 by the template 'for every input the law returns true; each argument reads behind the call as it read before'; 0 by the template 'total and deterministic' (their statements: YthplpkndhmhahaaTotals.lean).
  GIVEN WITH THE SEED: the statements are not yours to turn. If you find one false, say at which input.
  Laid BY PROGRAM, IN A SANDBOX (cutbox-rows.mjs): the forced cells as the released guide's own fill.sh prints them over the translation 729d8cda0a7b70fc… (all of the seat's roots in one cut). By AI agents, Wed Nov 11 2026. No macro, syntax, notation, axiom, sorry.
-/
import Derived.Test.YthplpkndhmhahaaChecked
import GoSem.Claim
import GoSem.ClaimJoined
import GoSem.ClaimMapViews
import Derived.JoinedTies
import Derived.KernelRfl
namespace Go.Proofs.Ythplpkndhmhahaa
/- THE CELL 'sum', in the pinned program and in every row, IS THE sha256 OF THE DUMP (.gsa) THAT YthplpkndhmhahaaProg.lean LOADS. Nothing in Lean hashes anything: it is a label: what it is worth is what the hold of that sum in a sandbox is worth. -/
noncomputable def Try.pinned : Pinned := { name := "ythplpkndhmhahaa", sum := "729d8cda0a7b70fc44e682184ec8e35e6688e1d023d5c939533a447567219de3", checked := Try.checked }
namespace Rows
def none {H : Type} : Left H := { results := [], args := [] }

/-- 'demesnelaw06.BootmapParses': WHATEVER THE INPUT: true; the input reads as it did. -/
def bootmapParsesSpec : ChangeSpec := { name := "bootmapParses", fn := fun _ => fun
  | [d] => { results := [.lit (.bool true)], args := [d] }
  | _ => none }
def bootmapParsesRow : OpenClaim := { program := "ythplpkndhmhahaa", sum := "729d8cda0a7b70fc44e682184ec8e35e6688e1d023d5c939533a447567219de3", func := "demesne/demesnelaw06.BootmapParses", spec := "bootmapParses", unfollowed := true, recurses := true, apart := false }
def BootmapParsesSaid : Prop := bootmapParsesRow.holds Try.pinned (OpenSpec.ofChange bootmapParsesSpec)

/-- ITS FALSE NEIGHBOUR: 'it returns false'. Refute it at one input. -/
def bootmapParsesWrong : ChangeSpec := { name := "bootmapParses", fn := fun _ => fun
  | [d] => { results := [.lit (.bool false)], args := [d] }
  | _ => none }
def BootmapParsesWrongFalsely : Prop := bootmapParsesRow.holds Try.pinned (OpenSpec.ofChange bootmapParsesWrong)

/-- 'demesnelaw06.BootmapRanges': WHATEVER THE INPUT: true; the input reads as it did. -/
def bootmapRangesSpec : ChangeSpec := { name := "bootmapRanges", fn := fun _ => fun
  | [d1, d2] => { results := [.lit (.bool true)], args := [d1, d2] }
  | _ => none }
def bootmapRangesRow : OpenClaim := { program := "ythplpkndhmhahaa", sum := "729d8cda0a7b70fc44e682184ec8e35e6688e1d023d5c939533a447567219de3", func := "demesne/demesnelaw06.BootmapRanges", spec := "bootmapRanges", unfollowed := true, recurses := true, apart := false }
def BootmapRangesSaid : Prop := bootmapRangesRow.holds Try.pinned (OpenSpec.ofChange bootmapRangesSpec)

/-- ITS FALSE NEIGHBOUR: 'it returns false'. Refute it at one input. -/
def bootmapRangesWrong : ChangeSpec := { name := "bootmapRanges", fn := fun _ => fun
  | [d1, d2] => { results := [.lit (.bool false)], args := [d1, d2] }
  | _ => none }
def BootmapRangesWrongFalsely : Prop := bootmapRangesRow.holds Try.pinned (OpenSpec.ofChange bootmapRangesWrong)

/-- 'demesnelaw06.BootmapFrames': WHATEVER THE INPUT: true; the input reads as it did. -/
def bootmapFramesSpec : ChangeSpec := { name := "bootmapFrames", fn := fun _ => fun
  | [d1, d2, d3] => { results := [.lit (.bool true)], args := [d1, d2, d3] }
  | _ => none }
def bootmapFramesRow : OpenClaim := { program := "ythplpkndhmhahaa", sum := "729d8cda0a7b70fc44e682184ec8e35e6688e1d023d5c939533a447567219de3", func := "demesne/demesnelaw06.BootmapFrames", spec := "bootmapFrames", unfollowed := true, recurses := true, apart := false }
def BootmapFramesSaid : Prop := bootmapFramesRow.holds Try.pinned (OpenSpec.ofChange bootmapFramesSpec)

/-- ITS FALSE NEIGHBOUR: 'it returns false'. Refute it at one input. -/
def bootmapFramesWrong : ChangeSpec := { name := "bootmapFrames", fn := fun _ => fun
  | [d1, d2, d3] => { results := [.lit (.bool false)], args := [d1, d2, d3] }
  | _ => none }
def BootmapFramesWrongFalsely : Prop := bootmapFramesRow.holds Try.pinned (OpenSpec.ofChange bootmapFramesWrong)

/-- 'demesnelaw06.BootmapJust': WHATEVER THE INPUT: true; the input reads as it did. -/
def bootmapJustSpec : ChangeSpec := { name := "bootmapJust", fn := fun _ => fun
  | [d1, d2, d3] => { results := [.lit (.bool true)], args := [d1, d2, d3] }
  | _ => none }
def bootmapJustRow : OpenClaim := { program := "ythplpkndhmhahaa", sum := "729d8cda0a7b70fc44e682184ec8e35e6688e1d023d5c939533a447567219de3", func := "demesne/demesnelaw06.BootmapJust", spec := "bootmapJust", unfollowed := true, recurses := true, apart := false }
def BootmapJustSaid : Prop := bootmapJustRow.holds Try.pinned (OpenSpec.ofChange bootmapJustSpec)

/-- ITS FALSE NEIGHBOUR: 'it returns false'. Refute it at one input. -/
def bootmapJustWrong : ChangeSpec := { name := "bootmapJust", fn := fun _ => fun
  | [d1, d2, d3] => { results := [.lit (.bool false)], args := [d1, d2, d3] }
  | _ => none }
def BootmapJustWrongFalsely : Prop := bootmapJustRow.holds Try.pinned (OpenSpec.ofChange bootmapJustWrong)

/-- 'demesnelaw06.BootmapOrder': WHATEVER THE INPUT: true; the input reads as it did. -/
def bootmapOrderSpec : ChangeSpec := { name := "bootmapOrder", fn := fun _ => fun
  | [d1, d2, d3] => { results := [.lit (.bool true)], args := [d1, d2, d3] }
  | _ => none }
def bootmapOrderRow : OpenClaim := { program := "ythplpkndhmhahaa", sum := "729d8cda0a7b70fc44e682184ec8e35e6688e1d023d5c939533a447567219de3", func := "demesne/demesnelaw06.BootmapOrder", spec := "bootmapOrder", unfollowed := true, recurses := true, apart := false }
def BootmapOrderSaid : Prop := bootmapOrderRow.holds Try.pinned (OpenSpec.ofChange bootmapOrderSpec)

/-- ITS FALSE NEIGHBOUR: 'it returns false'. Refute it at one input. -/
def bootmapOrderWrong : ChangeSpec := { name := "bootmapOrder", fn := fun _ => fun
  | [d1, d2, d3] => { results := [.lit (.bool false)], args := [d1, d2, d3] }
  | _ => none }
def BootmapOrderWrongFalsely : Prop := bootmapOrderRow.holds Try.pinned (OpenSpec.ofChange bootmapOrderWrong)

/-- 'demesnelaw06.BootmapKernel': WHATEVER THE INPUT: true; the input reads as it did. -/
def bootmapKernelSpec : ChangeSpec := { name := "bootmapKernel", fn := fun _ => fun
  | [d1, d2, d3] => { results := [.lit (.bool true)], args := [d1, d2, d3] }
  | _ => none }
def bootmapKernelRow : OpenClaim := { program := "ythplpkndhmhahaa", sum := "729d8cda0a7b70fc44e682184ec8e35e6688e1d023d5c939533a447567219de3", func := "demesne/demesnelaw06.BootmapKernel", spec := "bootmapKernel", unfollowed := true, recurses := true, apart := false }
def BootmapKernelSaid : Prop := bootmapKernelRow.holds Try.pinned (OpenSpec.ofChange bootmapKernelSpec)

/-- ITS FALSE NEIGHBOUR: 'it returns false'. Refute it at one input. -/
def bootmapKernelWrong : ChangeSpec := { name := "bootmapKernel", fn := fun _ => fun
  | [d1, d2, d3] => { results := [.lit (.bool false)], args := [d1, d2, d3] }
  | _ => none }
def BootmapKernelWrongFalsely : Prop := bootmapKernelRow.holds Try.pinned (OpenSpec.ofChange bootmapKernelWrong)

/-- 'demesnelaw06.BootmapLonger': WHATEVER THE INPUT: true; the input reads as it did. -/
def bootmapLongerSpec : ChangeSpec := { name := "bootmapLonger", fn := fun _ => fun
  | [d1, d2, d3] => { results := [.lit (.bool true)], args := [d1, d2, d3] }
  | _ => none }
def bootmapLongerRow : OpenClaim := { program := "ythplpkndhmhahaa", sum := "729d8cda0a7b70fc44e682184ec8e35e6688e1d023d5c939533a447567219de3", func := "demesne/demesnelaw06.BootmapLonger", spec := "bootmapLonger", unfollowed := true, recurses := true, apart := false }
def BootmapLongerSaid : Prop := bootmapLongerRow.holds Try.pinned (OpenSpec.ofChange bootmapLongerSpec)

/-- ITS FALSE NEIGHBOUR: 'it returns false'. Refute it at one input. -/
def bootmapLongerWrong : ChangeSpec := { name := "bootmapLonger", fn := fun _ => fun
  | [d1, d2, d3] => { results := [.lit (.bool false)], args := [d1, d2, d3] }
  | _ => none }
def BootmapLongerWrongFalsely : Prop := bootmapLongerRow.holds Try.pinned (OpenSpec.ofChange bootmapLongerWrong)

/- THE SECOND FORM. 'bulk': how many values and letters a reading holds, each counted each time it is reached (what is shared counts as often as it is met; a slice's spare places count too). A statement '..UptoSaid' is the law's where the arguments, and the package variables that the reading takes, are together of bulk at most 1048576: NARROWER than '..Said'. Prove '..Said' where nothing that the law and all that it calls make is longer than what came in: it says more and counts as full. Else prove '..UptoSaid'. A law counts once. -/
mutual
def uptoBulk {H : Type} : DataW H → Nat
  | .lit (.string bytes) => bytes.length + 1
  | .lit _ => 1
  | .nil => 1
  | .ptr d => uptoBulk d + 1
  | .slice elems spare => uptoBulkAll elems + uptoBulkAll spare + 1
  | .agg parts => uptoBulkAll parts + 1
  | .iface _ d => uptoBulk d + 1
  | .map entries => uptoBulkEntries entries + 1
  | .held _ => 1
def uptoBulkAll {H : Type} : List (DataW H) → Nat
  | [] => 0
  | d :: r => uptoBulk d + uptoBulkAll r
def uptoBulkEntries {H : Type} : List (Lit × DataW H) → Nat
  | [] => 0
  | x :: r => uptoBulkEntry x + uptoBulkEntries r
def uptoBulkEntry {H : Type} : Lit × DataW H → Nat
  | (.string bytes, d) => bytes.length + uptoBulk d + 1
  | (_, d) => uptoBulk d + 1
 end
def uptoSmall : (H : Type) → List (DataW H) → Bool := fun _ ds => decide (uptoBulkAll ds ≤ 1048576)
def OpenSpec.upto (s : _root_.Go.ChangeSpec) : _root_.Go.OpenSpec := { _root_.Go.OpenSpec.ofChange s with cond := some uptoSmall }

/-- 'demesnelaw06.BootmapParses', WHERE WHAT IT READS IS OF BULK AT MOST 1048576: true; the input reads as it did. -/
def bootmapParsesUptoRow : OpenClaim := { program := "ythplpkndhmhahaa", sum := "729d8cda0a7b70fc44e682184ec8e35e6688e1d023d5c939533a447567219de3", func := "demesne/demesnelaw06.BootmapParses", spec := "bootmapParses", unfollowed := true, recurses := true, apart := false, narrowed := true }
def BootmapParsesUptoSaid : Prop := bootmapParsesUptoRow.holds Try.pinned (OpenSpec.upto bootmapParsesSpec)

/-- 'demesnelaw06.BootmapRanges', WHERE WHAT IT READS IS OF BULK AT MOST 1048576: true; the input reads as it did. -/
def bootmapRangesUptoRow : OpenClaim := { program := "ythplpkndhmhahaa", sum := "729d8cda0a7b70fc44e682184ec8e35e6688e1d023d5c939533a447567219de3", func := "demesne/demesnelaw06.BootmapRanges", spec := "bootmapRanges", unfollowed := true, recurses := true, apart := false, narrowed := true }
def BootmapRangesUptoSaid : Prop := bootmapRangesUptoRow.holds Try.pinned (OpenSpec.upto bootmapRangesSpec)

/-- 'demesnelaw06.BootmapFrames', WHERE WHAT IT READS IS OF BULK AT MOST 1048576: true; the input reads as it did. -/
def bootmapFramesUptoRow : OpenClaim := { program := "ythplpkndhmhahaa", sum := "729d8cda0a7b70fc44e682184ec8e35e6688e1d023d5c939533a447567219de3", func := "demesne/demesnelaw06.BootmapFrames", spec := "bootmapFrames", unfollowed := true, recurses := true, apart := false, narrowed := true }
def BootmapFramesUptoSaid : Prop := bootmapFramesUptoRow.holds Try.pinned (OpenSpec.upto bootmapFramesSpec)

/-- 'demesnelaw06.BootmapJust', WHERE WHAT IT READS IS OF BULK AT MOST 1048576: true; the input reads as it did. -/
def bootmapJustUptoRow : OpenClaim := { program := "ythplpkndhmhahaa", sum := "729d8cda0a7b70fc44e682184ec8e35e6688e1d023d5c939533a447567219de3", func := "demesne/demesnelaw06.BootmapJust", spec := "bootmapJust", unfollowed := true, recurses := true, apart := false, narrowed := true }
def BootmapJustUptoSaid : Prop := bootmapJustUptoRow.holds Try.pinned (OpenSpec.upto bootmapJustSpec)

/-- 'demesnelaw06.BootmapOrder', WHERE WHAT IT READS IS OF BULK AT MOST 1048576: true; the input reads as it did. -/
def bootmapOrderUptoRow : OpenClaim := { program := "ythplpkndhmhahaa", sum := "729d8cda0a7b70fc44e682184ec8e35e6688e1d023d5c939533a447567219de3", func := "demesne/demesnelaw06.BootmapOrder", spec := "bootmapOrder", unfollowed := true, recurses := true, apart := false, narrowed := true }
def BootmapOrderUptoSaid : Prop := bootmapOrderUptoRow.holds Try.pinned (OpenSpec.upto bootmapOrderSpec)

/-- 'demesnelaw06.BootmapKernel', WHERE WHAT IT READS IS OF BULK AT MOST 1048576: true; the input reads as it did. -/
def bootmapKernelUptoRow : OpenClaim := { program := "ythplpkndhmhahaa", sum := "729d8cda0a7b70fc44e682184ec8e35e6688e1d023d5c939533a447567219de3", func := "demesne/demesnelaw06.BootmapKernel", spec := "bootmapKernel", unfollowed := true, recurses := true, apart := false, narrowed := true }
def BootmapKernelUptoSaid : Prop := bootmapKernelUptoRow.holds Try.pinned (OpenSpec.upto bootmapKernelSpec)

/-- 'demesnelaw06.BootmapLonger', WHERE WHAT IT READS IS OF BULK AT MOST 1048576: true; the input reads as it did. -/
def bootmapLongerUptoRow : OpenClaim := { program := "ythplpkndhmhahaa", sum := "729d8cda0a7b70fc44e682184ec8e35e6688e1d023d5c939533a447567219de3", func := "demesne/demesnelaw06.BootmapLonger", spec := "bootmapLonger", unfollowed := true, recurses := true, apart := false, narrowed := true }
def BootmapLongerUptoSaid : Prop := bootmapLongerUptoRow.holds Try.pinned (OpenSpec.upto bootmapLongerSpec)

end Rows
end Go.Proofs.Ythplpkndhmhahaa
