/-
  No cell of these rows narrows 'for every input' (looked for: loops, veiled, ifaces, maps, wideKeys, modest, calm, conditions, laid).
  DERIVED. THE GIVEN ROWS OF THIS SEAT. 8 by the template 'for every input the law returns true; each argument reads behind the call as it read before'; 0 by the template 'total and deterministic' (their statements: YtdbboooblbdihaaTotals.lean).
  GIVEN WITH THE SEED: the statements are not yours to turn. If you find one false, say at which input.
  Laid BY PROGRAM, IN A SANDBOX (cutbox-rows.mjs): the forced cells as the released guide's own fill.sh prints them over the translation 7f85518ec3e82d1b… (all of the seat's roots in one cut). By AI agents, Wed Nov 11 2026. No macro, syntax, notation, axiom, sorry.
-/
import Derived.Test.YtdbboooblbdihaaChecked
import GoSem.Claim
import GoSem.ClaimJoined
import GoSem.ClaimMapViews
import Derived.JoinedTies
import Derived.KernelRfl
namespace Go.Proofs.Ytdbboooblbdihaa
/- THE CELL 'sum', in the pinned program and in every row, IS THE sha256 OF THE DUMP (.gsa) THAT YtdbboooblbdihaaProg.lean LOADS. Nothing in Lean hashes anything: it is a label: what it is worth is what the hold of that sum in a sandbox is worth. -/
noncomputable def Try.pinned : Pinned := { name := "ytdbboooblbdihaa", sum := "7f85518ec3e82d1b1d2ed47133eda29dfe3cd9dc377d4f25897f0fc5c7a1d9e4", checked := Try.checked }
namespace Rows
def none {H : Type} : Left H := { results := [], args := [] }

/-- 'tachographlaw13.RespFeeds': WHATEVER THE INPUT: true; the input reads as it did. -/
def respFeedsSpec : ChangeSpec := { name := "respFeeds", fn := fun _ => fun
  | [d1, d2] => { results := [.lit (.bool true)], args := [d1, d2] }
  | _ => none }
def respFeedsRow : OpenClaim := { program := "ytdbboooblbdihaa", sum := "7f85518ec3e82d1b1d2ed47133eda29dfe3cd9dc377d4f25897f0fc5c7a1d9e4", func := "tachograph/tachographlaw13.RespFeeds", spec := "respFeeds", unfollowed := true, recurses := true, apart := false }
def RespFeedsSaid : Prop := respFeedsRow.holds Try.pinned (OpenSpec.ofChange respFeedsSpec)

/-- ITS FALSE NEIGHBOUR: 'it returns false'. Refute it at one input. -/
def respFeedsWrong : ChangeSpec := { name := "respFeeds", fn := fun _ => fun
  | [d1, d2] => { results := [.lit (.bool false)], args := [d1, d2] }
  | _ => none }
def RespFeedsWrongFalsely : Prop := respFeedsRow.holds Try.pinned (OpenSpec.ofChange respFeedsWrong)

/-- 'tachographlaw13.RespFrames': WHATEVER THE INPUT: true; the input reads as it did. -/
def respFramesSpec : ChangeSpec := { name := "respFrames", fn := fun _ => fun
  | [d1, d2, d3] => { results := [.lit (.bool true)], args := [d1, d2, d3] }
  | _ => none }
def respFramesRow : OpenClaim := { program := "ytdbboooblbdihaa", sum := "7f85518ec3e82d1b1d2ed47133eda29dfe3cd9dc377d4f25897f0fc5c7a1d9e4", func := "tachograph/tachographlaw13.RespFrames", spec := "respFrames", unfollowed := true, recurses := true, apart := false }
def RespFramesSaid : Prop := respFramesRow.holds Try.pinned (OpenSpec.ofChange respFramesSpec)

/-- ITS FALSE NEIGHBOUR: 'it returns false'. Refute it at one input. -/
def respFramesWrong : ChangeSpec := { name := "respFrames", fn := fun _ => fun
  | [d1, d2, d3] => { results := [.lit (.bool false)], args := [d1, d2, d3] }
  | _ => none }
def RespFramesWrongFalsely : Prop := respFramesRow.holds Try.pinned (OpenSpec.ofChange respFramesWrong)

/-- 'tachographlaw13.RespTells': WHATEVER THE INPUT: true; the input reads as it did. -/
def respTellsSpec : ChangeSpec := { name := "respTells", fn := fun _ => fun
  | [d] => { results := [.lit (.bool true)], args := [d] }
  | _ => none }
def respTellsRow : OpenClaim := { program := "ytdbboooblbdihaa", sum := "7f85518ec3e82d1b1d2ed47133eda29dfe3cd9dc377d4f25897f0fc5c7a1d9e4", func := "tachograph/tachographlaw13.RespTells", spec := "respTells", unfollowed := true, recurses := true, apart := false }
def RespTellsSaid : Prop := respTellsRow.holds Try.pinned (OpenSpec.ofChange respTellsSpec)

/-- ITS FALSE NEIGHBOUR: 'it returns false'. Refute it at one input. -/
def respTellsWrong : ChangeSpec := { name := "respTells", fn := fun _ => fun
  | [d] => { results := [.lit (.bool false)], args := [d] }
  | _ => none }
def RespTellsWrongFalsely : Prop := respTellsRow.holds Try.pinned (OpenSpec.ofChange respTellsWrong)

/-- 'tachographlaw13.RespBack': WHATEVER THE INPUT: true; the input reads as it did. -/
def respBackSpec : ChangeSpec := { name := "respBack", fn := fun _ => fun
  | [d1, d2, d3] => { results := [.lit (.bool true)], args := [d1, d2, d3] }
  | _ => none }
def respBackRow : OpenClaim := { program := "ytdbboooblbdihaa", sum := "7f85518ec3e82d1b1d2ed47133eda29dfe3cd9dc377d4f25897f0fc5c7a1d9e4", func := "tachograph/tachographlaw13.RespBack", spec := "respBack", unfollowed := true, recurses := true, apart := false }
def RespBackSaid : Prop := respBackRow.holds Try.pinned (OpenSpec.ofChange respBackSpec)

/-- ITS FALSE NEIGHBOUR: 'it returns false'. Refute it at one input. -/
def respBackWrong : ChangeSpec := { name := "respBack", fn := fun _ => fun
  | [d1, d2, d3] => { results := [.lit (.bool false)], args := [d1, d2, d3] }
  | _ => none }
def RespBackWrongFalsely : Prop := respBackRow.holds Try.pinned (OpenSpec.ofChange respBackWrong)

/-- 'tachographlaw13.RespDead': WHATEVER THE INPUT: true; the input reads as it did. -/
def respDeadSpec : ChangeSpec := { name := "respDead", fn := fun _ => fun
  | [d1, d2] => { results := [.lit (.bool true)], args := [d1, d2] }
  | _ => none }
def respDeadRow : OpenClaim := { program := "ytdbboooblbdihaa", sum := "7f85518ec3e82d1b1d2ed47133eda29dfe3cd9dc377d4f25897f0fc5c7a1d9e4", func := "tachograph/tachographlaw13.RespDead", spec := "respDead", unfollowed := true, recurses := true, apart := false }
def RespDeadSaid : Prop := respDeadRow.holds Try.pinned (OpenSpec.ofChange respDeadSpec)

/-- ITS FALSE NEIGHBOUR: 'it returns false'. Refute it at one input. -/
def respDeadWrong : ChangeSpec := { name := "respDead", fn := fun _ => fun
  | [d1, d2] => { results := [.lit (.bool false)], args := [d1, d2] }
  | _ => none }
def RespDeadWrongFalsely : Prop := respDeadRow.holds Try.pinned (OpenSpec.ofChange respDeadWrong)

/-- 'tachographlaw13.RespNil': WHATEVER THE INPUT: true; the input reads as it did. -/
def respNilSpec : ChangeSpec := { name := "respNil", fn := fun _ => fun
  | [d] => { results := [.lit (.bool true)], args := [d] }
  | _ => none }
def respNilRow : OpenClaim := { program := "ytdbboooblbdihaa", sum := "7f85518ec3e82d1b1d2ed47133eda29dfe3cd9dc377d4f25897f0fc5c7a1d9e4", func := "tachograph/tachographlaw13.RespNil", spec := "respNil", unfollowed := true, recurses := true, apart := false }
def RespNilSaid : Prop := respNilRow.holds Try.pinned (OpenSpec.ofChange respNilSpec)

/-- ITS FALSE NEIGHBOUR: 'it returns false'. Refute it at one input. -/
def respNilWrong : ChangeSpec := { name := "respNil", fn := fun _ => fun
  | [d] => { results := [.lit (.bool false)], args := [d] }
  | _ => none }
def RespNilWrongFalsely : Prop := respNilRow.holds Try.pinned (OpenSpec.ofChange respNilWrong)

/-- 'tachographlaw13.RespJoins': WHATEVER THE INPUT: true; the input reads as it did. -/
def respJoinsSpec : ChangeSpec := { name := "respJoins", fn := fun _ => fun
  | [d1, d2, d3] => { results := [.lit (.bool true)], args := [d1, d2, d3] }
  | _ => none }
def respJoinsRow : OpenClaim := { program := "ytdbboooblbdihaa", sum := "7f85518ec3e82d1b1d2ed47133eda29dfe3cd9dc377d4f25897f0fc5c7a1d9e4", func := "tachograph/tachographlaw13.RespJoins", spec := "respJoins", unfollowed := true, recurses := true, apart := false }
def RespJoinsSaid : Prop := respJoinsRow.holds Try.pinned (OpenSpec.ofChange respJoinsSpec)

/-- ITS FALSE NEIGHBOUR: 'it returns false'. Refute it at one input. -/
def respJoinsWrong : ChangeSpec := { name := "respJoins", fn := fun _ => fun
  | [d1, d2, d3] => { results := [.lit (.bool false)], args := [d1, d2, d3] }
  | _ => none }
def RespJoinsWrongFalsely : Prop := respJoinsRow.holds Try.pinned (OpenSpec.ofChange respJoinsWrong)

/-- 'tachographlaw13.RespWords': WHATEVER THE INPUT: true; the input reads as it did. -/
def respWordsSpec : ChangeSpec := { name := "respWords", fn := fun _ => fun
  | [d1, d2] => { results := [.lit (.bool true)], args := [d1, d2] }
  | _ => none }
def respWordsRow : OpenClaim := { program := "ytdbboooblbdihaa", sum := "7f85518ec3e82d1b1d2ed47133eda29dfe3cd9dc377d4f25897f0fc5c7a1d9e4", func := "tachograph/tachographlaw13.RespWords", spec := "respWords", unfollowed := true, recurses := true, apart := false }
def RespWordsSaid : Prop := respWordsRow.holds Try.pinned (OpenSpec.ofChange respWordsSpec)

/-- ITS FALSE NEIGHBOUR: 'it returns false'. Refute it at one input. -/
def respWordsWrong : ChangeSpec := { name := "respWords", fn := fun _ => fun
  | [d1, d2] => { results := [.lit (.bool false)], args := [d1, d2] }
  | _ => none }
def RespWordsWrongFalsely : Prop := respWordsRow.holds Try.pinned (OpenSpec.ofChange respWordsWrong)

/- THE SECOND FORM. 'bulk': how many values and letters a reading holds, each counted each time it is reached (what is shared counts as often as it is met; a slice's spare places count too). A statement '..UptoSaid' is the law's where the arguments, and the package variables that the reading takes, are together of bulk at most 1048576: NARROWER than '..Said'. Prove '..Said' where nothing that the law and all that it calls make is longer than what came in: it says more and counts as full. Else prove '..UptoSaid'. A law counts once. -/
mutual
def uptoBulk {H : Type} : DataW H → Nat
  | .lit (.string bytes) => bytes.length + 1
  | .lit _ => 1
  | .nil => 1
  | .ptr d => uptoBulk d + 1
  | .slice elems spare => uptoBulkAll elems + uptoBulkAll spare + 1
  | .agg parts => uptoBulkAll parts + 1
  | .iface _ d => uptoBulk d + 1
  | .map entries => uptoBulkEntries entries + 1
  | .held _ => 1
def uptoBulkAll {H : Type} : List (DataW H) → Nat
  | [] => 0
  | d :: r => uptoBulk d + uptoBulkAll r
def uptoBulkEntries {H : Type} : List (Lit × DataW H) → Nat
  | [] => 0
  | x :: r => uptoBulkEntry x + uptoBulkEntries r
def uptoBulkEntry {H : Type} : Lit × DataW H → Nat
  | (.string bytes, d) => bytes.length + uptoBulk d + 1
  | (_, d) => uptoBulk d + 1
 end
def uptoSmall : (H : Type) → List (DataW H) → Bool := fun _ ds => decide (uptoBulkAll ds ≤ 1048576)
def OpenSpec.upto (s : _root_.Go.ChangeSpec) : _root_.Go.OpenSpec := { _root_.Go.OpenSpec.ofChange s with cond := some uptoSmall }

/-- 'tachographlaw13.RespFeeds', WHERE WHAT IT READS IS OF BULK AT MOST 1048576: true; the input reads as it did. -/
def respFeedsUptoRow : OpenClaim := { program := "ytdbboooblbdihaa", sum := "7f85518ec3e82d1b1d2ed47133eda29dfe3cd9dc377d4f25897f0fc5c7a1d9e4", func := "tachograph/tachographlaw13.RespFeeds", spec := "respFeeds", unfollowed := true, recurses := true, apart := false, narrowed := true }
def RespFeedsUptoSaid : Prop := respFeedsUptoRow.holds Try.pinned (OpenSpec.upto respFeedsSpec)

/-- 'tachographlaw13.RespFrames', WHERE WHAT IT READS IS OF BULK AT MOST 1048576: true; the input reads as it did. -/
def respFramesUptoRow : OpenClaim := { program := "ytdbboooblbdihaa", sum := "7f85518ec3e82d1b1d2ed47133eda29dfe3cd9dc377d4f25897f0fc5c7a1d9e4", func := "tachograph/tachographlaw13.RespFrames", spec := "respFrames", unfollowed := true, recurses := true, apart := false, narrowed := true }
def RespFramesUptoSaid : Prop := respFramesUptoRow.holds Try.pinned (OpenSpec.upto respFramesSpec)

/-- 'tachographlaw13.RespTells', WHERE WHAT IT READS IS OF BULK AT MOST 1048576: true; the input reads as it did. -/
def respTellsUptoRow : OpenClaim := { program := "ytdbboooblbdihaa", sum := "7f85518ec3e82d1b1d2ed47133eda29dfe3cd9dc377d4f25897f0fc5c7a1d9e4", func := "tachograph/tachographlaw13.RespTells", spec := "respTells", unfollowed := true, recurses := true, apart := false, narrowed := true }
def RespTellsUptoSaid : Prop := respTellsUptoRow.holds Try.pinned (OpenSpec.upto respTellsSpec)

/-- 'tachographlaw13.RespBack', WHERE WHAT IT READS IS OF BULK AT MOST 1048576: true; the input reads as it did. -/
def respBackUptoRow : OpenClaim := { program := "ytdbboooblbdihaa", sum := "7f85518ec3e82d1b1d2ed47133eda29dfe3cd9dc377d4f25897f0fc5c7a1d9e4", func := "tachograph/tachographlaw13.RespBack", spec := "respBack", unfollowed := true, recurses := true, apart := false, narrowed := true }
def RespBackUptoSaid : Prop := respBackUptoRow.holds Try.pinned (OpenSpec.upto respBackSpec)

/-- 'tachographlaw13.RespDead', WHERE WHAT IT READS IS OF BULK AT MOST 1048576: true; the input reads as it did. -/
def respDeadUptoRow : OpenClaim := { program := "ytdbboooblbdihaa", sum := "7f85518ec3e82d1b1d2ed47133eda29dfe3cd9dc377d4f25897f0fc5c7a1d9e4", func := "tachograph/tachographlaw13.RespDead", spec := "respDead", unfollowed := true, recurses := true, apart := false, narrowed := true }
def RespDeadUptoSaid : Prop := respDeadUptoRow.holds Try.pinned (OpenSpec.upto respDeadSpec)

/-- 'tachographlaw13.RespNil', WHERE WHAT IT READS IS OF BULK AT MOST 1048576: true; the input reads as it did. -/
def respNilUptoRow : OpenClaim := { program := "ytdbboooblbdihaa", sum := "7f85518ec3e82d1b1d2ed47133eda29dfe3cd9dc377d4f25897f0fc5c7a1d9e4", func := "tachograph/tachographlaw13.RespNil", spec := "respNil", unfollowed := true, recurses := true, apart := false, narrowed := true }
def RespNilUptoSaid : Prop := respNilUptoRow.holds Try.pinned (OpenSpec.upto respNilSpec)

/-- 'tachographlaw13.RespJoins', WHERE WHAT IT READS IS OF BULK AT MOST 1048576: true; the input reads as it did. -/
def respJoinsUptoRow : OpenClaim := { program := "ytdbboooblbdihaa", sum := "7f85518ec3e82d1b1d2ed47133eda29dfe3cd9dc377d4f25897f0fc5c7a1d9e4", func := "tachograph/tachographlaw13.RespJoins", spec := "respJoins", unfollowed := true, recurses := true, apart := false, narrowed := true }
def RespJoinsUptoSaid : Prop := respJoinsUptoRow.holds Try.pinned (OpenSpec.upto respJoinsSpec)

/-- 'tachographlaw13.RespWords', WHERE WHAT IT READS IS OF BULK AT MOST 1048576: true; the input reads as it did. -/
def respWordsUptoRow : OpenClaim := { program := "ytdbboooblbdihaa", sum := "7f85518ec3e82d1b1d2ed47133eda29dfe3cd9dc377d4f25897f0fc5c7a1d9e4", func := "tachograph/tachographlaw13.RespWords", spec := "respWords", unfollowed := true, recurses := true, apart := false, narrowed := true }
def RespWordsUptoSaid : Prop := respWordsUptoRow.holds Try.pinned (OpenSpec.upto respWordsSpec)

end Rows
end Go.Proofs.Ytdbboooblbdihaa
