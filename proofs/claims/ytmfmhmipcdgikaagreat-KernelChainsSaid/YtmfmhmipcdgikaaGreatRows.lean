/-
  No cell of these rows narrows 'for every input' (looked for: loops, veiled, ifaces, maps, wideKeys, modest, calm, conditions, laid).
  DERIVED. THE GIVEN ROWS OF THIS SEAT. 5 by the template 'for every input the law returns true; each argument reads behind the call as it read before'; 0 by the template 'total and deterministic' (their statements: YtmfmhmipcdgikaaGreatTotals.lean).
  GIVEN WITH THE SEED: the statements are not yours to turn. If you find one false, say at which input.
  Laid BY PROGRAM, IN A SANDBOX (cutbox-rows.mjs): the forced cells as the released guide's own fill.sh prints them over the translation 82d7a9331f2bde45… (all of the seat's roots in one cut). By AI agents, Wed Nov 11 2026. No macro, syntax, notation, axiom, sorry.
-/
import Derived.Test.YtmfmhmipcdgikaaGreatChecked
import GoSem.Claim
import GoSem.ClaimJoined
import GoSem.ClaimMapViews
import Derived.JoinedTies
import Derived.KernelRfl
namespace Go.Proofs.YtmfmhmipcdgikaaGreat
/- THE CELL 'sum', in the pinned program and in every row, IS THE sha256 OF THE DUMP (.gsa) THAT YtmfmhmipcdgikaaGreatProg.lean LOADS. Nothing in Lean hashes anything: it is a label: what it is worth is what the hold of that sum in a sandbox is worth. -/
noncomputable def Tryz.pinned : Pinned := { name := "ytmfmhmipcdgikaagreat", sum := "82d7a9331f2bde4532deb075254b6d3e981ede601804b57db3014c06a4d7e6d3", checked := Tryz.checked }
namespace Rows
def none {H : Type} : Left H := { results := [], args := [] }

/-- 'demesnelaw18.KernelUps': WHATEVER THE INPUT: true; the input reads as it did. -/
def kernelUpsSpec : ChangeSpec := { name := "kernelUps", fn := fun _ => fun
  | [d1, d2, d3, d4] => { results := [.lit (.bool true)], args := [d1, d2, d3, d4] }
  | _ => none }
def kernelUpsRow : OpenClaim := { program := "ytmfmhmipcdgikaagreat", sum := "82d7a9331f2bde4532deb075254b6d3e981ede601804b57db3014c06a4d7e6d3", func := "demesne/demesnelaw18.KernelUps", spec := "kernelUps", inPlace := ["slices.overlaps[demesne/region.Region]", "math.Float64frombits", "math.Float64bits"], unfollowed := true, recurses := true, apart := false }
def KernelUpsSaid : Prop := kernelUpsRow.holds Tryz.pinned (OpenSpec.ofChange kernelUpsSpec)

/-- ITS FALSE NEIGHBOUR: 'it returns false'. Refute it at one input. -/
def kernelUpsWrong : ChangeSpec := { name := "kernelUps", fn := fun _ => fun
  | [d1, d2, d3, d4] => { results := [.lit (.bool false)], args := [d1, d2, d3, d4] }
  | _ => none }
def KernelUpsWrongFalsely : Prop := kernelUpsRow.holds Tryz.pinned (OpenSpec.ofChange kernelUpsWrong)

/-- 'demesnelaw18.KernelSpawns': WHATEVER THE INPUT: true; the input reads as it did. -/
def kernelSpawnsSpec : ChangeSpec := { name := "kernelSpawns", fn := fun _ => fun
  | [d1, d2] => { results := [.lit (.bool true)], args := [d1, d2] }
  | _ => none }
def kernelSpawnsRow : OpenClaim := { program := "ytmfmhmipcdgikaagreat", sum := "82d7a9331f2bde4532deb075254b6d3e981ede601804b57db3014c06a4d7e6d3", func := "demesne/demesnelaw18.KernelSpawns", spec := "kernelSpawns", inPlace := ["slices.overlaps[demesne/region.Region]", "math.Float64frombits", "math.Float64bits"], unfollowed := true, recurses := true, apart := false }
def KernelSpawnsSaid : Prop := kernelSpawnsRow.holds Tryz.pinned (OpenSpec.ofChange kernelSpawnsSpec)

/-- ITS FALSE NEIGHBOUR: 'it returns false'. Refute it at one input. -/
def kernelSpawnsWrong : ChangeSpec := { name := "kernelSpawns", fn := fun _ => fun
  | [d1, d2] => { results := [.lit (.bool false)], args := [d1, d2] }
  | _ => none }
def KernelSpawnsWrongFalsely : Prop := kernelSpawnsRow.holds Tryz.pinned (OpenSpec.ofChange kernelSpawnsWrong)

/-- 'demesnelaw18.KernelChains': WHATEVER THE INPUT: true; the input reads as it did. -/
def kernelChainsSpec : ChangeSpec := { name := "kernelChains", fn := fun _ => fun
  | [d1, d2] => { results := [.lit (.bool true)], args := [d1, d2] }
  | _ => none }
def kernelChainsRow : OpenClaim := { program := "ytmfmhmipcdgikaagreat", sum := "82d7a9331f2bde4532deb075254b6d3e981ede601804b57db3014c06a4d7e6d3", func := "demesne/demesnelaw18.KernelChains", spec := "kernelChains", inPlace := ["slices.overlaps[demesne/region.Region]", "math.Float64frombits", "math.Float64bits"], unfollowed := true, recurses := true, apart := false }
def KernelChainsSaid : Prop := kernelChainsRow.holds Tryz.pinned (OpenSpec.ofChange kernelChainsSpec)

/-- ITS FALSE NEIGHBOUR: 'it returns false'. Refute it at one input. -/
def kernelChainsWrong : ChangeSpec := { name := "kernelChains", fn := fun _ => fun
  | [d1, d2] => { results := [.lit (.bool false)], args := [d1, d2] }
  | _ => none }
def KernelChainsWrongFalsely : Prop := kernelChainsRow.holds Tryz.pinned (OpenSpec.ofChange kernelChainsWrong)

/-- 'demesnelaw18.KernelBoots': WHATEVER THE INPUT: true; the input reads as it did. -/
def kernelBootsSpec : ChangeSpec := { name := "kernelBoots", fn := fun _ => fun
  | [d1, d2] => { results := [.lit (.bool true)], args := [d1, d2] }
  | _ => none }
def kernelBootsRow : OpenClaim := { program := "ytmfmhmipcdgikaagreat", sum := "82d7a9331f2bde4532deb075254b6d3e981ede601804b57db3014c06a4d7e6d3", func := "demesne/demesnelaw18.KernelBoots", spec := "kernelBoots", inPlace := ["slices.overlaps[demesne/region.Region]", "math.Float64frombits", "math.Float64bits"], unfollowed := true, recurses := true, apart := false }
def KernelBootsSaid : Prop := kernelBootsRow.holds Tryz.pinned (OpenSpec.ofChange kernelBootsSpec)

/-- ITS FALSE NEIGHBOUR: 'it returns false'. Refute it at one input. -/
def kernelBootsWrong : ChangeSpec := { name := "kernelBoots", fn := fun _ => fun
  | [d1, d2] => { results := [.lit (.bool false)], args := [d1, d2] }
  | _ => none }
def KernelBootsWrongFalsely : Prop := kernelBootsRow.holds Tryz.pinned (OpenSpec.ofChange kernelBootsWrong)

/-- 'demesnelaw18.KernelRevokes': WHATEVER THE INPUT: true; the input reads as it did. -/
def kernelRevokesSpec : ChangeSpec := { name := "kernelRevokes", fn := fun _ => fun
  | [d1, d2, d3, d4, d5] => { results := [.lit (.bool true)], args := [d1, d2, d3, d4, d5] }
  | _ => none }
def kernelRevokesRow : OpenClaim := { program := "ytmfmhmipcdgikaagreat", sum := "82d7a9331f2bde4532deb075254b6d3e981ede601804b57db3014c06a4d7e6d3", func := "demesne/demesnelaw18.KernelRevokes", spec := "kernelRevokes", inPlace := ["slices.overlaps[demesne/region.Region]", "math.Float64frombits", "math.Float64bits"], unfollowed := true, recurses := true, apart := false }
def KernelRevokesSaid : Prop := kernelRevokesRow.holds Tryz.pinned (OpenSpec.ofChange kernelRevokesSpec)

/-- ITS FALSE NEIGHBOUR: 'it returns false'. Refute it at one input. -/
def kernelRevokesWrong : ChangeSpec := { name := "kernelRevokes", fn := fun _ => fun
  | [d1, d2, d3, d4, d5] => { results := [.lit (.bool false)], args := [d1, d2, d3, d4, d5] }
  | _ => none }
def KernelRevokesWrongFalsely : Prop := kernelRevokesRow.holds Tryz.pinned (OpenSpec.ofChange kernelRevokesWrong)

/- THE SECOND FORM. 'bulk': how many values and letters a reading holds, each counted each time it is reached (what is shared counts as often as it is met; a slice's spare places count too). A statement '..UptoSaid' is the law's where the arguments, and the package variables that the reading takes, are together of bulk at most 1048576: NARROWER than '..Said'. Prove '..Said' where nothing that the law and all that it calls make is longer than what came in: it says more and counts as full. Else prove '..UptoSaid'. A law counts once. -/
mutual
def uptoBulk {H : Type} : DataW H → Nat
  | .lit (.string bytes) => bytes.length + 1
  | .lit _ => 1
  | .nil => 1
  | .ptr d => uptoBulk d + 1
  | .slice elems spare => uptoBulkAll elems + uptoBulkAll spare + 1
  | .agg parts => uptoBulkAll parts + 1
  | .iface _ d => uptoBulk d + 1
  | .map entries => uptoBulkEntries entries + 1
  | .held _ => 1
def uptoBulkAll {H : Type} : List (DataW H) → Nat
  | [] => 0
  | d :: r => uptoBulk d + uptoBulkAll r
def uptoBulkEntries {H : Type} : List (Lit × DataW H) → Nat
  | [] => 0
  | x :: r => uptoBulkEntry x + uptoBulkEntries r
def uptoBulkEntry {H : Type} : Lit × DataW H → Nat
  | (.string bytes, d) => bytes.length + uptoBulk d + 1
  | (_, d) => uptoBulk d + 1
 end
def uptoSmall : (H : Type) → List (DataW H) → Bool := fun _ ds => decide (uptoBulkAll ds ≤ 1048576)
def OpenSpec.upto (s : _root_.Go.ChangeSpec) : _root_.Go.OpenSpec := { _root_.Go.OpenSpec.ofChange s with cond := some uptoSmall }

/-- 'demesnelaw18.KernelUps', WHERE WHAT IT READS IS OF BULK AT MOST 1048576: true; the input reads as it did. -/
def kernelUpsUptoRow : OpenClaim := { program := "ytmfmhmipcdgikaagreat", sum := "82d7a9331f2bde4532deb075254b6d3e981ede601804b57db3014c06a4d7e6d3", func := "demesne/demesnelaw18.KernelUps", spec := "kernelUps", inPlace := ["slices.overlaps[demesne/region.Region]", "math.Float64frombits", "math.Float64bits"], unfollowed := true, recurses := true, apart := false, narrowed := true }
def KernelUpsUptoSaid : Prop := kernelUpsUptoRow.holds Tryz.pinned (OpenSpec.upto kernelUpsSpec)

/-- 'demesnelaw18.KernelSpawns', WHERE WHAT IT READS IS OF BULK AT MOST 1048576: true; the input reads as it did. -/
def kernelSpawnsUptoRow : OpenClaim := { program := "ytmfmhmipcdgikaagreat", sum := "82d7a9331f2bde4532deb075254b6d3e981ede601804b57db3014c06a4d7e6d3", func := "demesne/demesnelaw18.KernelSpawns", spec := "kernelSpawns", inPlace := ["slices.overlaps[demesne/region.Region]", "math.Float64frombits", "math.Float64bits"], unfollowed := true, recurses := true, apart := false, narrowed := true }
def KernelSpawnsUptoSaid : Prop := kernelSpawnsUptoRow.holds Tryz.pinned (OpenSpec.upto kernelSpawnsSpec)

/-- 'demesnelaw18.KernelChains', WHERE WHAT IT READS IS OF BULK AT MOST 1048576: true; the input reads as it did. -/
def kernelChainsUptoRow : OpenClaim := { program := "ytmfmhmipcdgikaagreat", sum := "82d7a9331f2bde4532deb075254b6d3e981ede601804b57db3014c06a4d7e6d3", func := "demesne/demesnelaw18.KernelChains", spec := "kernelChains", inPlace := ["slices.overlaps[demesne/region.Region]", "math.Float64frombits", "math.Float64bits"], unfollowed := true, recurses := true, apart := false, narrowed := true }
def KernelChainsUptoSaid : Prop := kernelChainsUptoRow.holds Tryz.pinned (OpenSpec.upto kernelChainsSpec)

/-- 'demesnelaw18.KernelBoots', WHERE WHAT IT READS IS OF BULK AT MOST 1048576: true; the input reads as it did. -/
def kernelBootsUptoRow : OpenClaim := { program := "ytmfmhmipcdgikaagreat", sum := "82d7a9331f2bde4532deb075254b6d3e981ede601804b57db3014c06a4d7e6d3", func := "demesne/demesnelaw18.KernelBoots", spec := "kernelBoots", inPlace := ["slices.overlaps[demesne/region.Region]", "math.Float64frombits", "math.Float64bits"], unfollowed := true, recurses := true, apart := false, narrowed := true }
def KernelBootsUptoSaid : Prop := kernelBootsUptoRow.holds Tryz.pinned (OpenSpec.upto kernelBootsSpec)

/-- 'demesnelaw18.KernelRevokes', WHERE WHAT IT READS IS OF BULK AT MOST 1048576: true; the input reads as it did. -/
def kernelRevokesUptoRow : OpenClaim := { program := "ytmfmhmipcdgikaagreat", sum := "82d7a9331f2bde4532deb075254b6d3e981ede601804b57db3014c06a4d7e6d3", func := "demesne/demesnelaw18.KernelRevokes", spec := "kernelRevokes", inPlace := ["slices.overlaps[demesne/region.Region]", "math.Float64frombits", "math.Float64bits"], unfollowed := true, recurses := true, apart := false, narrowed := true }
def KernelRevokesUptoSaid : Prop := kernelRevokesUptoRow.holds Tryz.pinned (OpenSpec.upto kernelRevokesSpec)

end Rows
end Go.Proofs.YtmfmhmipcdgikaaGreat
