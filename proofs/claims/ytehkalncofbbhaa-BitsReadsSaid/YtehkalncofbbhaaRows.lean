/-
  No cell of these rows narrows 'for every input' (looked for: loops, veiled, ifaces, maps, wideKeys, modest, calm, conditions, laid).
  DERIVED. THE GIVEN ROWS OF THIS SEAT. 8 by the template 'for every input the law returns true; each argument reads behind the call as it read before'; 0 by the template 'total and deterministic' (their statements: YtehkalncofbbhaaTotals.lean).
  GIVEN WITH THE SEED: the statements are not yours to turn. If you find one false, say at which input.
  Laid BY PROGRAM, IN A SANDBOX (cutbox-rows.mjs): the forced cells as the released guide's own fill.sh prints them over the translation c7006550470952b7… (all of the seat's roots in one cut). By AI agents, Wed Nov 11 2026. No macro, syntax, notation, axiom, sorry.
-/
import Derived.Test.YtehkalncofbbhaaChecked
import GoSem.Claim
import GoSem.ClaimJoined
import GoSem.ClaimMapViews
import Derived.JoinedTies
import Derived.KernelRfl
namespace Go.Proofs.Ytehkalncofbbhaa
/- THE CELL 'sum', in the pinned program and in every row, IS THE sha256 OF THE DUMP (.gsa) THAT YtehkalncofbbhaaProg.lean LOADS. Nothing in Lean hashes anything: it is a label: what it is worth is what the hold of that sum in a sandbox is worth. -/
noncomputable def Try.pinned : Pinned := { name := "ytehkalncofbbhaa", sum := "c7006550470952b7c33cb33dd821c2676507a94abfcb02f2fd3893d9f08e5004", checked := Try.checked }
namespace Rows
def none {H : Type} : Left H := { results := [], args := [] }

/-- 'tachographlaw01.BitsWrites': WHATEVER THE INPUT: true; the input reads as it did. -/
def bitsWritesSpec : ChangeSpec := { name := "bitsWrites", fn := fun _ => fun
  | [d] => { results := [.lit (.bool true)], args := [d] }
  | _ => none }
def bitsWritesRow : OpenClaim := { program := "ytehkalncofbbhaa", sum := "c7006550470952b7c33cb33dd821c2676507a94abfcb02f2fd3893d9f08e5004", func := "tachograph/tachographlaw01.BitsWrites", spec := "bitsWrites", unfollowed := true, recurses := true, apart := false }
def BitsWritesSaid : Prop := bitsWritesRow.holds Try.pinned (OpenSpec.ofChange bitsWritesSpec)

/-- ITS FALSE NEIGHBOUR: 'it returns false'. Refute it at one input. -/
def bitsWritesWrong : ChangeSpec := { name := "bitsWrites", fn := fun _ => fun
  | [d] => { results := [.lit (.bool false)], args := [d] }
  | _ => none }
def BitsWritesWrongFalsely : Prop := bitsWritesRow.holds Try.pinned (OpenSpec.ofChange bitsWritesWrong)

/-- 'tachographlaw01.BitsReads': WHATEVER THE INPUT: true; the input reads as it did. -/
def bitsReadsSpec : ChangeSpec := { name := "bitsReads", fn := fun _ => fun
  | [d1, d2, d3] => { results := [.lit (.bool true)], args := [d1, d2, d3] }
  | _ => none }
def bitsReadsRow : OpenClaim := { program := "ytehkalncofbbhaa", sum := "c7006550470952b7c33cb33dd821c2676507a94abfcb02f2fd3893d9f08e5004", func := "tachograph/tachographlaw01.BitsReads", spec := "bitsReads", unfollowed := true, recurses := true, apart := false }
def BitsReadsSaid : Prop := bitsReadsRow.holds Try.pinned (OpenSpec.ofChange bitsReadsSpec)

/-- ITS FALSE NEIGHBOUR: 'it returns false'. Refute it at one input. -/
def bitsReadsWrong : ChangeSpec := { name := "bitsReads", fn := fun _ => fun
  | [d1, d2, d3] => { results := [.lit (.bool false)], args := [d1, d2, d3] }
  | _ => none }
def BitsReadsWrongFalsely : Prop := bitsReadsRow.holds Try.pinned (OpenSpec.ofChange bitsReadsWrong)

/-- 'tachographlaw01.BitsBack': WHATEVER THE INPUT: true; the input reads as it did. -/
def bitsBackSpec : ChangeSpec := { name := "bitsBack", fn := fun _ => fun
  | [d] => { results := [.lit (.bool true)], args := [d] }
  | _ => none }
def bitsBackRow : OpenClaim := { program := "ytehkalncofbbhaa", sum := "c7006550470952b7c33cb33dd821c2676507a94abfcb02f2fd3893d9f08e5004", func := "tachograph/tachographlaw01.BitsBack", spec := "bitsBack", unfollowed := true, recurses := true, apart := false }
def BitsBackSaid : Prop := bitsBackRow.holds Try.pinned (OpenSpec.ofChange bitsBackSpec)

/-- ITS FALSE NEIGHBOUR: 'it returns false'. Refute it at one input. -/
def bitsBackWrong : ChangeSpec := { name := "bitsBack", fn := fun _ => fun
  | [d] => { results := [.lit (.bool false)], args := [d] }
  | _ => none }
def BitsBackWrongFalsely : Prop := bitsBackRow.holds Try.pinned (OpenSpec.ofChange bitsBackWrong)

/-- 'tachographlaw01.BitsZig': WHATEVER THE INPUT: true; the input reads as it did. -/
def bitsZigSpec : ChangeSpec := { name := "bitsZig", fn := fun _ => fun
  | [d1, d2, d3] => { results := [.lit (.bool true)], args := [d1, d2, d3] }
  | _ => none }
def bitsZigRow : OpenClaim := { program := "ytehkalncofbbhaa", sum := "c7006550470952b7c33cb33dd821c2676507a94abfcb02f2fd3893d9f08e5004", func := "tachograph/tachographlaw01.BitsZig", spec := "bitsZig", unfollowed := true, recurses := true, apart := false }
def BitsZigSaid : Prop := bitsZigRow.holds Try.pinned (OpenSpec.ofChange bitsZigSpec)

/-- ITS FALSE NEIGHBOUR: 'it returns false'. Refute it at one input. -/
def bitsZigWrong : ChangeSpec := { name := "bitsZig", fn := fun _ => fun
  | [d1, d2, d3] => { results := [.lit (.bool false)], args := [d1, d2, d3] }
  | _ => none }
def BitsZigWrongFalsely : Prop := bitsZigRow.holds Try.pinned (OpenSpec.ofChange bitsZigWrong)

/-- 'tachographlaw01.BitsAgain': WHATEVER THE INPUT: true; the input reads as it did. -/
def bitsAgainSpec : ChangeSpec := { name := "bitsAgain", fn := fun _ => fun
  | [d1, d2] => { results := [.lit (.bool true)], args := [d1, d2] }
  | _ => none }
def bitsAgainRow : OpenClaim := { program := "ytehkalncofbbhaa", sum := "c7006550470952b7c33cb33dd821c2676507a94abfcb02f2fd3893d9f08e5004", func := "tachograph/tachographlaw01.BitsAgain", spec := "bitsAgain", unfollowed := true, recurses := true, apart := false }
def BitsAgainSaid : Prop := bitsAgainRow.holds Try.pinned (OpenSpec.ofChange bitsAgainSpec)

/-- ITS FALSE NEIGHBOUR: 'it returns false'. Refute it at one input. -/
def bitsAgainWrong : ChangeSpec := { name := "bitsAgain", fn := fun _ => fun
  | [d1, d2] => { results := [.lit (.bool false)], args := [d1, d2] }
  | _ => none }
def BitsAgainWrongFalsely : Prop := bitsAgainRow.holds Try.pinned (OpenSpec.ofChange bitsAgainWrong)

/-- 'tachographlaw01.BitsNil': WHATEVER THE INPUT: true; the input reads as it did. -/
def bitsNilSpec : ChangeSpec := { name := "bitsNil", fn := fun _ => fun
  | [d] => { results := [.lit (.bool true)], args := [d] }
  | _ => none }
def bitsNilRow : OpenClaim := { program := "ytehkalncofbbhaa", sum := "c7006550470952b7c33cb33dd821c2676507a94abfcb02f2fd3893d9f08e5004", func := "tachograph/tachographlaw01.BitsNil", spec := "bitsNil", unfollowed := true, recurses := true, apart := false }
def BitsNilSaid : Prop := bitsNilRow.holds Try.pinned (OpenSpec.ofChange bitsNilSpec)

/-- ITS FALSE NEIGHBOUR: 'it returns false'. Refute it at one input. -/
def bitsNilWrong : ChangeSpec := { name := "bitsNil", fn := fun _ => fun
  | [d] => { results := [.lit (.bool false)], args := [d] }
  | _ => none }
def BitsNilWrongFalsely : Prop := bitsNilRow.holds Try.pinned (OpenSpec.ofChange bitsNilWrong)

/-- 'tachographlaw01.BitsSeek': WHATEVER THE INPUT: true; the input reads as it did. -/
def bitsSeekSpec : ChangeSpec := { name := "bitsSeek", fn := fun _ => fun
  | [d1, d2, d3] => { results := [.lit (.bool true)], args := [d1, d2, d3] }
  | _ => none }
def bitsSeekRow : OpenClaim := { program := "ytehkalncofbbhaa", sum := "c7006550470952b7c33cb33dd821c2676507a94abfcb02f2fd3893d9f08e5004", func := "tachograph/tachographlaw01.BitsSeek", spec := "bitsSeek", unfollowed := true, recurses := true, apart := false }
def BitsSeekSaid : Prop := bitsSeekRow.holds Try.pinned (OpenSpec.ofChange bitsSeekSpec)

/-- ITS FALSE NEIGHBOUR: 'it returns false'. Refute it at one input. -/
def bitsSeekWrong : ChangeSpec := { name := "bitsSeek", fn := fun _ => fun
  | [d1, d2, d3] => { results := [.lit (.bool false)], args := [d1, d2, d3] }
  | _ => none }
def BitsSeekWrongFalsely : Prop := bitsSeekRow.holds Try.pinned (OpenSpec.ofChange bitsSeekWrong)

/-- 'tachographlaw01.BitsParts': WHATEVER THE INPUT: true; the input reads as it did. -/
def bitsPartsSpec : ChangeSpec := { name := "bitsParts", fn := fun _ => fun
  | [d1, d2, d3] => { results := [.lit (.bool true)], args := [d1, d2, d3] }
  | _ => none }
def bitsPartsRow : OpenClaim := { program := "ytehkalncofbbhaa", sum := "c7006550470952b7c33cb33dd821c2676507a94abfcb02f2fd3893d9f08e5004", func := "tachograph/tachographlaw01.BitsParts", spec := "bitsParts", unfollowed := true, recurses := true, apart := false }
def BitsPartsSaid : Prop := bitsPartsRow.holds Try.pinned (OpenSpec.ofChange bitsPartsSpec)

/-- ITS FALSE NEIGHBOUR: 'it returns false'. Refute it at one input. -/
def bitsPartsWrong : ChangeSpec := { name := "bitsParts", fn := fun _ => fun
  | [d1, d2, d3] => { results := [.lit (.bool false)], args := [d1, d2, d3] }
  | _ => none }
def BitsPartsWrongFalsely : Prop := bitsPartsRow.holds Try.pinned (OpenSpec.ofChange bitsPartsWrong)

/- THE SECOND FORM. 'bulk': how many values and letters a reading holds, each counted each time it is reached (what is shared counts as often as it is met; a slice's spare places count too). A statement '..UptoSaid' is the law's where the arguments, and the package variables that the reading takes, are together of bulk at most 1048576: NARROWER than '..Said'. Prove '..Said' where nothing that the law and all that it calls make is longer than what came in: it says more and counts as full. Else prove '..UptoSaid'. A law counts once. -/
mutual
def uptoBulk {H : Type} : DataW H → Nat
  | .lit (.string bytes) => bytes.length + 1
  | .lit _ => 1
  | .nil => 1
  | .ptr d => uptoBulk d + 1
  | .slice elems spare => uptoBulkAll elems + uptoBulkAll spare + 1
  | .agg parts => uptoBulkAll parts + 1
  | .iface _ d => uptoBulk d + 1
  | .map entries => uptoBulkEntries entries + 1
  | .held _ => 1
def uptoBulkAll {H : Type} : List (DataW H) → Nat
  | [] => 0
  | d :: r => uptoBulk d + uptoBulkAll r
def uptoBulkEntries {H : Type} : List (Lit × DataW H) → Nat
  | [] => 0
  | x :: r => uptoBulkEntry x + uptoBulkEntries r
def uptoBulkEntry {H : Type} : Lit × DataW H → Nat
  | (.string bytes, d) => bytes.length + uptoBulk d + 1
  | (_, d) => uptoBulk d + 1
 end
def uptoSmall : (H : Type) → List (DataW H) → Bool := fun _ ds => decide (uptoBulkAll ds ≤ 1048576)
def OpenSpec.upto (s : _root_.Go.ChangeSpec) : _root_.Go.OpenSpec := { _root_.Go.OpenSpec.ofChange s with cond := some uptoSmall }

/-- 'tachographlaw01.BitsWrites', WHERE WHAT IT READS IS OF BULK AT MOST 1048576: true; the input reads as it did. -/
def bitsWritesUptoRow : OpenClaim := { program := "ytehkalncofbbhaa", sum := "c7006550470952b7c33cb33dd821c2676507a94abfcb02f2fd3893d9f08e5004", func := "tachograph/tachographlaw01.BitsWrites", spec := "bitsWrites", unfollowed := true, recurses := true, apart := false, narrowed := true }
def BitsWritesUptoSaid : Prop := bitsWritesUptoRow.holds Try.pinned (OpenSpec.upto bitsWritesSpec)

/-- 'tachographlaw01.BitsReads', WHERE WHAT IT READS IS OF BULK AT MOST 1048576: true; the input reads as it did. -/
def bitsReadsUptoRow : OpenClaim := { program := "ytehkalncofbbhaa", sum := "c7006550470952b7c33cb33dd821c2676507a94abfcb02f2fd3893d9f08e5004", func := "tachograph/tachographlaw01.BitsReads", spec := "bitsReads", unfollowed := true, recurses := true, apart := false, narrowed := true }
def BitsReadsUptoSaid : Prop := bitsReadsUptoRow.holds Try.pinned (OpenSpec.upto bitsReadsSpec)

/-- 'tachographlaw01.BitsBack', WHERE WHAT IT READS IS OF BULK AT MOST 1048576: true; the input reads as it did. -/
def bitsBackUptoRow : OpenClaim := { program := "ytehkalncofbbhaa", sum := "c7006550470952b7c33cb33dd821c2676507a94abfcb02f2fd3893d9f08e5004", func := "tachograph/tachographlaw01.BitsBack", spec := "bitsBack", unfollowed := true, recurses := true, apart := false, narrowed := true }
def BitsBackUptoSaid : Prop := bitsBackUptoRow.holds Try.pinned (OpenSpec.upto bitsBackSpec)

/-- 'tachographlaw01.BitsZig', WHERE WHAT IT READS IS OF BULK AT MOST 1048576: true; the input reads as it did. -/
def bitsZigUptoRow : OpenClaim := { program := "ytehkalncofbbhaa", sum := "c7006550470952b7c33cb33dd821c2676507a94abfcb02f2fd3893d9f08e5004", func := "tachograph/tachographlaw01.BitsZig", spec := "bitsZig", unfollowed := true, recurses := true, apart := false, narrowed := true }
def BitsZigUptoSaid : Prop := bitsZigUptoRow.holds Try.pinned (OpenSpec.upto bitsZigSpec)

/-- 'tachographlaw01.BitsAgain', WHERE WHAT IT READS IS OF BULK AT MOST 1048576: true; the input reads as it did. -/
def bitsAgainUptoRow : OpenClaim := { program := "ytehkalncofbbhaa", sum := "c7006550470952b7c33cb33dd821c2676507a94abfcb02f2fd3893d9f08e5004", func := "tachograph/tachographlaw01.BitsAgain", spec := "bitsAgain", unfollowed := true, recurses := true, apart := false, narrowed := true }
def BitsAgainUptoSaid : Prop := bitsAgainUptoRow.holds Try.pinned (OpenSpec.upto bitsAgainSpec)

/-- 'tachographlaw01.BitsNil', WHERE WHAT IT READS IS OF BULK AT MOST 1048576: true; the input reads as it did. -/
def bitsNilUptoRow : OpenClaim := { program := "ytehkalncofbbhaa", sum := "c7006550470952b7c33cb33dd821c2676507a94abfcb02f2fd3893d9f08e5004", func := "tachograph/tachographlaw01.BitsNil", spec := "bitsNil", unfollowed := true, recurses := true, apart := false, narrowed := true }
def BitsNilUptoSaid : Prop := bitsNilUptoRow.holds Try.pinned (OpenSpec.upto bitsNilSpec)

/-- 'tachographlaw01.BitsSeek', WHERE WHAT IT READS IS OF BULK AT MOST 1048576: true; the input reads as it did. -/
def bitsSeekUptoRow : OpenClaim := { program := "ytehkalncofbbhaa", sum := "c7006550470952b7c33cb33dd821c2676507a94abfcb02f2fd3893d9f08e5004", func := "tachograph/tachographlaw01.BitsSeek", spec := "bitsSeek", unfollowed := true, recurses := true, apart := false, narrowed := true }
def BitsSeekUptoSaid : Prop := bitsSeekUptoRow.holds Try.pinned (OpenSpec.upto bitsSeekSpec)

/-- 'tachographlaw01.BitsParts', WHERE WHAT IT READS IS OF BULK AT MOST 1048576: true; the input reads as it did. -/
def bitsPartsUptoRow : OpenClaim := { program := "ytehkalncofbbhaa", sum := "c7006550470952b7c33cb33dd821c2676507a94abfcb02f2fd3893d9f08e5004", func := "tachograph/tachographlaw01.BitsParts", spec := "bitsParts", unfollowed := true, recurses := true, apart := false, narrowed := true }
def BitsPartsUptoSaid : Prop := bitsPartsUptoRow.holds Try.pinned (OpenSpec.upto bitsPartsSpec)

end Rows
end Go.Proofs.Ytehkalncofbbhaa
