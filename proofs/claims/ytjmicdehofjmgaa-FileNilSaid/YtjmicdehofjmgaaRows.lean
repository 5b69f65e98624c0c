/-
  No cell of these rows narrows 'for every input' (looked for: loops, veiled, ifaces, maps, wideKeys, modest, calm, conditions, laid).
  DERIVED. THE GIVEN ROWS OF THIS SEAT. 6 by the template 'for every input the law returns true; each argument reads behind the call as it read before'; 0 by the template 'total and deterministic' (their statements: YtjmicdehofjmgaaTotals.lean).
  GIVEN WITH THE SEED: the statements are not yours to turn. If you find one false, say at which input.
  Laid BY PROGRAM, IN A SANDBOX (cutbox-rows.mjs): the forced cells as the released guide's own fill.sh prints them over the translation 618f13b80ae54765… (all of the seat's roots in one cut). By AI agents, Wed Nov 11 2026. No macro, syntax, notation, axiom, sorry.
-/
import Derived.Test.YtjmicdehofjmgaaChecked
import GoSem.Claim
import GoSem.ClaimJoined
import GoSem.ClaimMapViews
import Derived.JoinedTies
import Derived.KernelRfl
namespace Go.Proofs.Ytjmicdehofjmgaa
/- THE CELL 'sum', in the pinned program and in every row, IS THE sha256 OF THE DUMP (.gsa) THAT YtjmicdehofjmgaaProg.lean LOADS. Nothing in Lean hashes anything: it is a label: what it is worth is what the hold of that sum in a sandbox is worth. -/
noncomputable def Try.pinned : Pinned := { name := "ytjmicdehofjmgaa", sum := "618f13b80ae5476502e1e2ea81b0b309904ae659e9ab0b83f843b4b155fba929", checked := Try.checked }
namespace Rows
def none {H : Type} : Left H := { results := [], args := [] }

/-- 'tachographlaw18.FilePlays': WHATEVER THE INPUT: true; the input reads as it did. -/
def filePlaysSpec : ChangeSpec := { name := "filePlays", fn := fun _ => fun
  | [d] => { results := [.lit (.bool true)], args := [d] }
  | _ => none }
def filePlaysRow : OpenClaim := { program := "ytjmicdehofjmgaa", sum := "618f13b80ae5476502e1e2ea81b0b309904ae659e9ab0b83f843b4b155fba929", func := "tachograph/tachographlaw18.FilePlays", spec := "filePlays", apart := false }
def FilePlaysSaid : Prop := filePlaysRow.holds Try.pinned (OpenSpec.ofChange filePlaysSpec)

/-- ITS FALSE NEIGHBOUR: 'it returns false'. Refute it at one input. -/
def filePlaysWrong : ChangeSpec := { name := "filePlays", fn := fun _ => fun
  | [d] => { results := [.lit (.bool false)], args := [d] }
  | _ => none }
def FilePlaysWrongFalsely : Prop := filePlaysRow.holds Try.pinned (OpenSpec.ofChange filePlaysWrong)

/-- 'tachographlaw18.FileStays': WHATEVER THE INPUT: true; the input reads as it did. -/
def fileStaysSpec : ChangeSpec := { name := "fileStays", fn := fun _ => fun
  | [d1, d2, d3] => { results := [.lit (.bool true)], args := [d1, d2, d3] }
  | _ => none }
def fileStaysRow : OpenClaim := { program := "ytjmicdehofjmgaa", sum := "618f13b80ae5476502e1e2ea81b0b309904ae659e9ab0b83f843b4b155fba929", func := "tachograph/tachographlaw18.FileStays", spec := "fileStays", apart := false }
def FileStaysSaid : Prop := fileStaysRow.holds Try.pinned (OpenSpec.ofChange fileStaysSpec)

/-- ITS FALSE NEIGHBOUR: 'it returns false'. Refute it at one input. -/
def fileStaysWrong : ChangeSpec := { name := "fileStays", fn := fun _ => fun
  | [d1, d2, d3] => { results := [.lit (.bool false)], args := [d1, d2, d3] }
  | _ => none }
def FileStaysWrongFalsely : Prop := fileStaysRow.holds Try.pinned (OpenSpec.ofChange fileStaysWrong)

/-- 'tachographlaw18.FileRenames': WHATEVER THE INPUT: true; the input reads as it did. -/
def fileRenamesSpec : ChangeSpec := { name := "fileRenames", fn := fun _ => fun
  | [d1, d2, d3] => { results := [.lit (.bool true)], args := [d1, d2, d3] }
  | _ => none }
def fileRenamesRow : OpenClaim := { program := "ytjmicdehofjmgaa", sum := "618f13b80ae5476502e1e2ea81b0b309904ae659e9ab0b83f843b4b155fba929", func := "tachograph/tachographlaw18.FileRenames", spec := "fileRenames", apart := false }
def FileRenamesSaid : Prop := fileRenamesRow.holds Try.pinned (OpenSpec.ofChange fileRenamesSpec)

/-- ITS FALSE NEIGHBOUR: 'it returns false'. Refute it at one input. -/
def fileRenamesWrong : ChangeSpec := { name := "fileRenames", fn := fun _ => fun
  | [d1, d2, d3] => { results := [.lit (.bool false)], args := [d1, d2, d3] }
  | _ => none }
def FileRenamesWrongFalsely : Prop := fileRenamesRow.holds Try.pinned (OpenSpec.ofChange fileRenamesWrong)

/-- 'tachographlaw18.FileNil': WHATEVER THE INPUT: true; the input reads as it did. -/
def fileNilSpec : ChangeSpec := { name := "fileNil", fn := fun _ => fun
  | [d] => { results := [.lit (.bool true)], args := [d] }
  | _ => none }
def fileNilRow : OpenClaim := { program := "ytjmicdehofjmgaa", sum := "618f13b80ae5476502e1e2ea81b0b309904ae659e9ab0b83f843b4b155fba929", func := "tachograph/tachographlaw18.FileNil", spec := "fileNil", apart := false }
def FileNilSaid : Prop := fileNilRow.holds Try.pinned (OpenSpec.ofChange fileNilSpec)

/-- ITS FALSE NEIGHBOUR: 'it returns false'. Refute it at one input. -/
def fileNilWrong : ChangeSpec := { name := "fileNil", fn := fun _ => fun
  | [d] => { results := [.lit (.bool false)], args := [d] }
  | _ => none }
def FileNilWrongFalsely : Prop := fileNilRow.holds Try.pinned (OpenSpec.ofChange fileNilWrong)

/-- 'tachographlaw18.FileCuts': WHATEVER THE INPUT: true; the input reads as it did. -/
def fileCutsSpec : ChangeSpec := { name := "fileCuts", fn := fun _ => fun
  | [d1, d2, d3] => { results := [.lit (.bool true)], args := [d1, d2, d3] }
  | _ => none }
def fileCutsRow : OpenClaim := { program := "ytjmicdehofjmgaa", sum := "618f13b80ae5476502e1e2ea81b0b309904ae659e9ab0b83f843b4b155fba929", func := "tachograph/tachographlaw18.FileCuts", spec := "fileCuts", apart := false }
def FileCutsSaid : Prop := fileCutsRow.holds Try.pinned (OpenSpec.ofChange fileCutsSpec)

/-- ITS FALSE NEIGHBOUR: 'it returns false'. Refute it at one input. -/
def fileCutsWrong : ChangeSpec := { name := "fileCuts", fn := fun _ => fun
  | [d1, d2, d3] => { results := [.lit (.bool false)], args := [d1, d2, d3] }
  | _ => none }
def FileCutsWrongFalsely : Prop := fileCutsRow.holds Try.pinned (OpenSpec.ofChange fileCutsWrong)

/-- 'tachographlaw18.FileOthers': WHATEVER THE INPUT: true; the input reads as it did. -/
def fileOthersSpec : ChangeSpec := { name := "fileOthers", fn := fun _ => fun
  | [d1, d2, d3] => { results := [.lit (.bool true)], args := [d1, d2, d3] }
  | _ => none }
def fileOthersRow : OpenClaim := { program := "ytjmicdehofjmgaa", sum := "618f13b80ae5476502e1e2ea81b0b309904ae659e9ab0b83f843b4b155fba929", func := "tachograph/tachographlaw18.FileOthers", spec := "fileOthers", apart := false }
def FileOthersSaid : Prop := fileOthersRow.holds Try.pinned (OpenSpec.ofChange fileOthersSpec)

/-- ITS FALSE NEIGHBOUR: 'it returns false'. Refute it at one input. -/
def fileOthersWrong : ChangeSpec := { name := "fileOthers", fn := fun _ => fun
  | [d1, d2, d3] => { results := [.lit (.bool false)], args := [d1, d2, d3] }
  | _ => none }
def FileOthersWrongFalsely : Prop := fileOthersRow.holds Try.pinned (OpenSpec.ofChange fileOthersWrong)

/- THE SECOND FORM. 'bulk': how many values and letters a reading holds, each counted each time it is reached (what is shared counts as often as it is met; a slice's spare places count too). A statement '..UptoSaid' is the law's where the arguments, and the package variables that the reading takes, are together of bulk at most 1048576: NARROWER than '..Said'. Prove '..Said' where nothing that the law and all that it calls make is longer than what came in: it says more and counts as full. Else prove '..UptoSaid'. A law counts once. -/
mutual
def uptoBulk {H : Type} : DataW H → Nat
  | .lit (.string bytes) => bytes.length + 1
  | .lit _ => 1
  | .nil => 1
  | .ptr d => uptoBulk d + 1
  | .slice elems spare => uptoBulkAll elems + uptoBulkAll spare + 1
  | .agg parts => uptoBulkAll parts + 1
  | .iface _ d => uptoBulk d + 1
  | .map entries => uptoBulkEntries entries + 1
  | .held _ => 1
def uptoBulkAll {H : Type} : List (DataW H) → Nat
  | [] => 0
  | d :: r => uptoBulk d + uptoBulkAll r
def uptoBulkEntries {H : Type} : List (Lit × DataW H) → Nat
  | [] => 0
  | x :: r => uptoBulkEntry x + uptoBulkEntries r
def uptoBulkEntry {H : Type} : Lit × DataW H → Nat
  | (.string bytes, d) => bytes.length + uptoBulk d + 1
  | (_, d) => uptoBulk d + 1
 end
def uptoSmall : (H : Type) → List (DataW H) → Bool := fun _ ds => decide (uptoBulkAll ds ≤ 1048576)
def OpenSpec.upto (s : _root_.Go.ChangeSpec) : _root_.Go.OpenSpec := { _root_.Go.OpenSpec.ofChange s with cond := some uptoSmall }

/-- 'tachographlaw18.FilePlays', WHERE WHAT IT READS IS OF BULK AT MOST 1048576: true; the input reads as it did. -/
def filePlaysUptoRow : OpenClaim := { program := "ytjmicdehofjmgaa", sum := "618f13b80ae5476502e1e2ea81b0b309904ae659e9ab0b83f843b4b155fba929", func := "tachograph/tachographlaw18.FilePlays", spec := "filePlays", apart := false, narrowed := true }
def FilePlaysUptoSaid : Prop := filePlaysUptoRow.holds Try.pinned (OpenSpec.upto filePlaysSpec)

/-- 'tachographlaw18.FileStays', WHERE WHAT IT READS IS OF BULK AT MOST 1048576: true; the input reads as it did. -/
def fileStaysUptoRow : OpenClaim := { program := "ytjmicdehofjmgaa", sum := "618f13b80ae5476502e1e2ea81b0b309904ae659e9ab0b83f843b4b155fba929", func := "tachograph/tachographlaw18.FileStays", spec := "fileStays", apart := false, narrowed := true }
def FileStaysUptoSaid : Prop := fileStaysUptoRow.holds Try.pinned (OpenSpec.upto fileStaysSpec)

/-- 'tachographlaw18.FileRenames', WHERE WHAT IT READS IS OF BULK AT MOST 1048576: true; the input reads as it did. -/
def fileRenamesUptoRow : OpenClaim := { program := "ytjmicdehofjmgaa", sum := "618f13b80ae5476502e1e2ea81b0b309904ae659e9ab0b83f843b4b155fba929", func := "tachograph/tachographlaw18.FileRenames", spec := "fileRenames", apart := false, narrowed := true }
def FileRenamesUptoSaid : Prop := fileRenamesUptoRow.holds Try.pinned (OpenSpec.upto fileRenamesSpec)

/-- 'tachographlaw18.FileNil', WHERE WHAT IT READS IS OF BULK AT MOST 1048576: true; the input reads as it did. -/
def fileNilUptoRow : OpenClaim := { program := "ytjmicdehofjmgaa", sum := "618f13b80ae5476502e1e2ea81b0b309904ae659e9ab0b83f843b4b155fba929", func := "tachograph/tachographlaw18.FileNil", spec := "fileNil", apart := false, narrowed := true }
def FileNilUptoSaid : Prop := fileNilUptoRow.holds Try.pinned (OpenSpec.upto fileNilSpec)

/-- 'tachographlaw18.FileCuts', WHERE WHAT IT READS IS OF BULK AT MOST 1048576: true; the input reads as it did. -/
def fileCutsUptoRow : OpenClaim := { program := "ytjmicdehofjmgaa", sum := "618f13b80ae5476502e1e2ea81b0b309904ae659e9ab0b83f843b4b155fba929", func := "tachograph/tachographlaw18.FileCuts", spec := "fileCuts", apart := false, narrowed := true }
def FileCutsUptoSaid : Prop := fileCutsUptoRow.holds Try.pinned (OpenSpec.upto fileCutsSpec)

/-- 'tachographlaw18.FileOthers', WHERE WHAT IT READS IS OF BULK AT MOST 1048576: true; the input reads as it did. -/
def fileOthersUptoRow : OpenClaim := { program := "ytjmicdehofjmgaa", sum := "618f13b80ae5476502e1e2ea81b0b309904ae659e9ab0b83f843b4b155fba929", func := "tachograph/tachographlaw18.FileOthers", spec := "fileOthers", apart := false, narrowed := true }
def FileOthersUptoSaid : Prop := fileOthersUptoRow.holds Try.pinned (OpenSpec.upto fileOthersSpec)

end Rows
end Go.Proofs.Ytjmicdehofjmgaa
