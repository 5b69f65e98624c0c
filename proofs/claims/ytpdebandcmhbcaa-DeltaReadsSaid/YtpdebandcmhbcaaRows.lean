/-
  No cell of these rows narrows 'for every input' (looked for: loops, veiled, ifaces, maps, wideKeys, modest, calm, conditions, laid).
  DERIVED. THE GIVEN ROWS OF THIS SEAT. 7 by the template 'for every input the law returns true; each argument reads behind the call as it read before'; 0 by the template 'total and deterministic' (their statements: YtpdebandcmhbcaaTotals.lean).
  GIVEN WITH THE SEED: the statements are not yours to turn. If you find one false, say at which input.
  Laid BY PROGRAM, IN A SANDBOX (cutbox-rows.mjs): the forced cells as the released guide's own fill.sh prints them over the translation 6bcc63d94e90561a… (all of the seat's roots in one cut). By AI agents, Wed Nov 11 2026. No macro, syntax, notation, axiom, sorry.
-/
import Derived.Test.YtpdebandcmhbcaaChecked
import GoSem.Claim
import GoSem.ClaimJoined
import GoSem.ClaimMapViews
import Derived.JoinedTies
import Derived.KernelRfl
namespace Go.Proofs.Ytpdebandcmhbcaa
/- THE CELL 'sum', in the pinned program and in every row, IS THE sha256 OF THE DUMP (.gsa) THAT YtpdebandcmhbcaaProg.lean LOADS. Nothing in Lean hashes anything: it is a label: what it is worth is what the hold of that sum in a sandbox is worth. -/
noncomputable def Try.pinned : Pinned := { name := "ytpdebandcmhbcaa", sum := "6bcc63d94e90561a0262a0c61ea563a3d69f3ecc1d9beda8dd1a48bb1f017a84", checked := Try.checked }
namespace Rows
def none {H : Type} : Left H := { results := [], args := [] }

/-- 'tachographlaw02.DeltaWrites': WHATEVER THE INPUT: true; the input reads as it did. -/
def deltaWritesSpec : ChangeSpec := { name := "deltaWrites", fn := fun _ => fun
  | [d1, d2] => { results := [.lit (.bool true)], args := [d1, d2] }
  | _ => none }
def deltaWritesRow : OpenClaim := { program := "ytpdebandcmhbcaa", sum := "6bcc63d94e90561a0262a0c61ea563a3d69f3ecc1d9beda8dd1a48bb1f017a84", func := "tachograph/tachographlaw02.DeltaWrites", spec := "deltaWrites", unfollowed := true, recurses := true, apart := false }
def DeltaWritesSaid : Prop := deltaWritesRow.holds Try.pinned (OpenSpec.ofChange deltaWritesSpec)

/-- ITS FALSE NEIGHBOUR: 'it returns false'. Refute it at one input. -/
def deltaWritesWrong : ChangeSpec := { name := "deltaWrites", fn := fun _ => fun
  | [d1, d2] => { results := [.lit (.bool false)], args := [d1, d2] }
  | _ => none }
def DeltaWritesWrongFalsely : Prop := deltaWritesRow.holds Try.pinned (OpenSpec.ofChange deltaWritesWrong)

/-- 'tachographlaw02.DeltaReads': WHATEVER THE INPUT: true; the input reads as it did. -/
def deltaReadsSpec : ChangeSpec := { name := "deltaReads", fn := fun _ => fun
  | [d1, d2, d3] => { results := [.lit (.bool true)], args := [d1, d2, d3] }
  | _ => none }
def deltaReadsRow : OpenClaim := { program := "ytpdebandcmhbcaa", sum := "6bcc63d94e90561a0262a0c61ea563a3d69f3ecc1d9beda8dd1a48bb1f017a84", func := "tachograph/tachographlaw02.DeltaReads", spec := "deltaReads", unfollowed := true, recurses := true, apart := false }
def DeltaReadsSaid : Prop := deltaReadsRow.holds Try.pinned (OpenSpec.ofChange deltaReadsSpec)

/-- ITS FALSE NEIGHBOUR: 'it returns false'. Refute it at one input. -/
def deltaReadsWrong : ChangeSpec := { name := "deltaReads", fn := fun _ => fun
  | [d1, d2, d3] => { results := [.lit (.bool false)], args := [d1, d2, d3] }
  | _ => none }
def DeltaReadsWrongFalsely : Prop := deltaReadsRow.holds Try.pinned (OpenSpec.ofChange deltaReadsWrong)

/-- 'tachographlaw02.DeltaBack': WHATEVER THE INPUT: true; the input reads as it did. -/
def deltaBackSpec : ChangeSpec := { name := "deltaBack", fn := fun _ => fun
  | [d1, d2, d3] => { results := [.lit (.bool true)], args := [d1, d2, d3] }
  | _ => none }
def deltaBackRow : OpenClaim := { program := "ytpdebandcmhbcaa", sum := "6bcc63d94e90561a0262a0c61ea563a3d69f3ecc1d9beda8dd1a48bb1f017a84", func := "tachograph/tachographlaw02.DeltaBack", spec := "deltaBack", unfollowed := true, recurses := true, apart := false }
def DeltaBackSaid : Prop := deltaBackRow.holds Try.pinned (OpenSpec.ofChange deltaBackSpec)

/-- ITS FALSE NEIGHBOUR: 'it returns false'. Refute it at one input. -/
def deltaBackWrong : ChangeSpec := { name := "deltaBack", fn := fun _ => fun
  | [d1, d2, d3] => { results := [.lit (.bool false)], args := [d1, d2, d3] }
  | _ => none }
def DeltaBackWrongFalsely : Prop := deltaBackRow.holds Try.pinned (OpenSpec.ofChange deltaBackWrong)

/-- 'tachographlaw02.DeltaFew': WHATEVER THE INPUT: true; the input reads as it did. -/
def deltaFewSpec : ChangeSpec := { name := "deltaFew", fn := fun _ => fun
  | [d1, d2] => { results := [.lit (.bool true)], args := [d1, d2] }
  | _ => none }
def deltaFewRow : OpenClaim := { program := "ytpdebandcmhbcaa", sum := "6bcc63d94e90561a0262a0c61ea563a3d69f3ecc1d9beda8dd1a48bb1f017a84", func := "tachograph/tachographlaw02.DeltaFew", spec := "deltaFew", unfollowed := true, recurses := true, apart := false }
def DeltaFewSaid : Prop := deltaFewRow.holds Try.pinned (OpenSpec.ofChange deltaFewSpec)

/-- ITS FALSE NEIGHBOUR: 'it returns false'. Refute it at one input. -/
def deltaFewWrong : ChangeSpec := { name := "deltaFew", fn := fun _ => fun
  | [d1, d2] => { results := [.lit (.bool false)], args := [d1, d2] }
  | _ => none }
def DeltaFewWrongFalsely : Prop := deltaFewRow.holds Try.pinned (OpenSpec.ofChange deltaFewWrong)

/-- 'tachographlaw02.DeltaCuts': WHATEVER THE INPUT: true; the input reads as it did. -/
def deltaCutsSpec : ChangeSpec := { name := "deltaCuts", fn := fun _ => fun
  | [d] => { results := [.lit (.bool true)], args := [d] }
  | _ => none }
def deltaCutsRow : OpenClaim := { program := "ytpdebandcmhbcaa", sum := "6bcc63d94e90561a0262a0c61ea563a3d69f3ecc1d9beda8dd1a48bb1f017a84", func := "tachograph/tachographlaw02.DeltaCuts", spec := "deltaCuts", unfollowed := true, recurses := true, apart := false }
def DeltaCutsSaid : Prop := deltaCutsRow.holds Try.pinned (OpenSpec.ofChange deltaCutsSpec)

/-- ITS FALSE NEIGHBOUR: 'it returns false'. Refute it at one input. -/
def deltaCutsWrong : ChangeSpec := { name := "deltaCuts", fn := fun _ => fun
  | [d] => { results := [.lit (.bool false)], args := [d] }
  | _ => none }
def DeltaCutsWrongFalsely : Prop := deltaCutsRow.holds Try.pinned (OpenSpec.ofChange deltaCutsWrong)

/-- 'tachographlaw02.DeltaMore': WHATEVER THE INPUT: true; the input reads as it did. -/
def deltaMoreSpec : ChangeSpec := { name := "deltaMore", fn := fun _ => fun
  | [d1, d2] => { results := [.lit (.bool true)], args := [d1, d2] }
  | _ => none }
def deltaMoreRow : OpenClaim := { program := "ytpdebandcmhbcaa", sum := "6bcc63d94e90561a0262a0c61ea563a3d69f3ecc1d9beda8dd1a48bb1f017a84", func := "tachograph/tachographlaw02.DeltaMore", spec := "deltaMore", unfollowed := true, recurses := true, apart := false }
def DeltaMoreSaid : Prop := deltaMoreRow.holds Try.pinned (OpenSpec.ofChange deltaMoreSpec)

/-- ITS FALSE NEIGHBOUR: 'it returns false'. Refute it at one input. -/
def deltaMoreWrong : ChangeSpec := { name := "deltaMore", fn := fun _ => fun
  | [d1, d2] => { results := [.lit (.bool false)], args := [d1, d2] }
  | _ => none }
def DeltaMoreWrongFalsely : Prop := deltaMoreRow.holds Try.pinned (OpenSpec.ofChange deltaMoreWrong)

/-- 'tachographlaw02.DeltaShifts': WHATEVER THE INPUT: true; the input reads as it did. -/
def deltaShiftsSpec : ChangeSpec := { name := "deltaShifts", fn := fun _ => fun
  | [d1, d2, d3] => { results := [.lit (.bool true)], args := [d1, d2, d3] }
  | _ => none }
def deltaShiftsRow : OpenClaim := { program := "ytpdebandcmhbcaa", sum := "6bcc63d94e90561a0262a0c61ea563a3d69f3ecc1d9beda8dd1a48bb1f017a84", func := "tachograph/tachographlaw02.DeltaShifts", spec := "deltaShifts", unfollowed := true, recurses := true, apart := false }
def DeltaShiftsSaid : Prop := deltaShiftsRow.holds Try.pinned (OpenSpec.ofChange deltaShiftsSpec)

/-- ITS FALSE NEIGHBOUR: 'it returns false'. Refute it at one input. -/
def deltaShiftsWrong : ChangeSpec := { name := "deltaShifts", fn := fun _ => fun
  | [d1, d2, d3] => { results := [.lit (.bool false)], args := [d1, d2, d3] }
  | _ => none }
def DeltaShiftsWrongFalsely : Prop := deltaShiftsRow.holds Try.pinned (OpenSpec.ofChange deltaShiftsWrong)

/- THE SECOND FORM. 'bulk': how many values and letters a reading holds, each counted each time it is reached (what is shared counts as often as it is met; a slice's spare places count too). A statement '..UptoSaid' is the law's where the arguments, and the package variables that the reading takes, are together of bulk at most 1048576: NARROWER than '..Said'. Prove '..Said' where nothing that the law and all that it calls make is longer than what came in: it says more and counts as full. Else prove '..UptoSaid'. A law counts once. -/
mutual
def uptoBulk {H : Type} : DataW H → Nat
  | .lit (.string bytes) => bytes.length + 1
  | .lit _ => 1
  | .nil => 1
  | .ptr d => uptoBulk d + 1
  | .slice elems spare => uptoBulkAll elems + uptoBulkAll spare + 1
  | .agg parts => uptoBulkAll parts + 1
  | .iface _ d => uptoBulk d + 1
  | .map entries => uptoBulkEntries entries + 1
  | .held _ => 1
def uptoBulkAll {H : Type} : List (DataW H) → Nat
  | [] => 0
  | d :: r => uptoBulk d + uptoBulkAll r
def uptoBulkEntries {H : Type} : List (Lit × DataW H) → Nat
  | [] => 0
  | x :: r => uptoBulkEntry x + uptoBulkEntries r
def uptoBulkEntry {H : Type} : Lit × DataW H → Nat
  | (.string bytes, d) => bytes.length + uptoBulk d + 1
  | (_, d) => uptoBulk d + 1
 end
def uptoSmall : (H : Type) → List (DataW H) → Bool := fun _ ds => decide (uptoBulkAll ds ≤ 1048576)
def OpenSpec.upto (s : _root_.Go.ChangeSpec) : _root_.Go.OpenSpec := { _root_.Go.OpenSpec.ofChange s with cond := some uptoSmall }

/-- 'tachographlaw02.DeltaWrites', WHERE WHAT IT READS IS OF BULK AT MOST 1048576: true; the input reads as it did. -/
def deltaWritesUptoRow : OpenClaim := { program := "ytpdebandcmhbcaa", sum := "6bcc63d94e90561a0262a0c61ea563a3d69f3ecc1d9beda8dd1a48bb1f017a84", func := "tachograph/tachographlaw02.DeltaWrites", spec := "deltaWrites", unfollowed := true, recurses := true, apart := false, narrowed := true }
def DeltaWritesUptoSaid : Prop := deltaWritesUptoRow.holds Try.pinned (OpenSpec.upto deltaWritesSpec)

/-- 'tachographlaw02.DeltaReads', WHERE WHAT IT READS IS OF BULK AT MOST 1048576: true; the input reads as it did. -/
def deltaReadsUptoRow : OpenClaim := { program := "ytpdebandcmhbcaa", sum := "6bcc63d94e90561a0262a0c61ea563a3d69f3ecc1d9beda8dd1a48bb1f017a84", func := "tachograph/tachographlaw02.DeltaReads", spec := "deltaReads", unfollowed := true, recurses := true, apart := false, narrowed := true }
def DeltaReadsUptoSaid : Prop := deltaReadsUptoRow.holds Try.pinned (OpenSpec.upto deltaReadsSpec)

/-- 'tachographlaw02.DeltaBack', WHERE WHAT IT READS IS OF BULK AT MOST 1048576: true; the input reads as it did. -/
def deltaBackUptoRow : OpenClaim := { program := "ytpdebandcmhbcaa", sum := "6bcc63d94e90561a0262a0c61ea563a3d69f3ecc1d9beda8dd1a48bb1f017a84", func := "tachograph/tachographlaw02.DeltaBack", spec := "deltaBack", unfollowed := true, recurses := true, apart := false, narrowed := true }
def DeltaBackUptoSaid : Prop := deltaBackUptoRow.holds Try.pinned (OpenSpec.upto deltaBackSpec)

/-- 'tachographlaw02.DeltaFew', WHERE WHAT IT READS IS OF BULK AT MOST 1048576: true; the input reads as it did. -/
def deltaFewUptoRow : OpenClaim := { program := "ytpdebandcmhbcaa", sum := "6bcc63d94e90561a0262a0c61ea563a3d69f3ecc1d9beda8dd1a48bb1f017a84", func := "tachograph/tachographlaw02.DeltaFew", spec := "deltaFew", unfollowed := true, recurses := true, apart := false, narrowed := true }
def DeltaFewUptoSaid : Prop := deltaFewUptoRow.holds Try.pinned (OpenSpec.upto deltaFewSpec)

/-- 'tachographlaw02.DeltaCuts', WHERE WHAT IT READS IS OF BULK AT MOST 1048576: true; the input reads as it did. -/
def deltaCutsUptoRow : OpenClaim := { program := "ytpdebandcmhbcaa", sum := "6bcc63d94e90561a0262a0c61ea563a3d69f3ecc1d9beda8dd1a48bb1f017a84", func := "tachograph/tachographlaw02.DeltaCuts", spec := "deltaCuts", unfollowed := true, recurses := true, apart := false, narrowed := true }
def DeltaCutsUptoSaid : Prop := deltaCutsUptoRow.holds Try.pinned (OpenSpec.upto deltaCutsSpec)

/-- 'tachographlaw02.DeltaMore', WHERE WHAT IT READS IS OF BULK AT MOST 1048576: true; the input reads as it did. -/
def deltaMoreUptoRow : OpenClaim := { program := "ytpdebandcmhbcaa", sum := "6bcc63d94e90561a0262a0c61ea563a3d69f3ecc1d9beda8dd1a48bb1f017a84", func := "tachograph/tachographlaw02.DeltaMore", spec := "deltaMore", unfollowed := true, recurses := true, apart := false, narrowed := true }
def DeltaMoreUptoSaid : Prop := deltaMoreUptoRow.holds Try.pinned (OpenSpec.upto deltaMoreSpec)

/-- 'tachographlaw02.DeltaShifts', WHERE WHAT IT READS IS OF BULK AT MOST 1048576: true; the input reads as it did. -/
def deltaShiftsUptoRow : OpenClaim := { program := "ytpdebandcmhbcaa", sum := "6bcc63d94e90561a0262a0c61ea563a3d69f3ecc1d9beda8dd1a48bb1f017a84", func := "tachograph/tachographlaw02.DeltaShifts", spec := "deltaShifts", unfollowed := true, recurses := true, apart := false, narrowed := true }
def DeltaShiftsUptoSaid : Prop := deltaShiftsUptoRow.holds Try.pinned (OpenSpec.upto deltaShiftsSpec)

end Rows
end Go.Proofs.Ytpdebandcmhbcaa
