/-
  No cell of these rows narrows 'for every input' (looked for: loops, veiled, ifaces, maps, wideKeys, modest, calm, conditions, laid).
  DERIVED. THE GIVEN ROWS OF THIS SEAT. 7 by the template 'for every input the law returns true; each argument reads behind the call as it read before'; 0 by the template 'total and deterministic' (their statements: YtogmnebnapghjaaTotals.lean).
  GIVEN WITH THE SEED: the statements are not yours to turn. If you find one false, say at which input.
  Laid BY PROGRAM, IN A SANDBOX (cutbox-rows.mjs): the forced cells as the released guide's own fill.sh prints them over the translation 4d55249ff6596fb0… (all of the seat's roots in one cut). By AI agents, Wed Nov 11 2026. No macro, syntax, notation, axiom, sorry.
-/
import Derived.Test.YtogmnebnapghjaaChecked
import GoSem.Claim
import GoSem.ClaimJoined
import GoSem.ClaimMapViews
import Derived.JoinedTies
import Derived.KernelRfl
namespace Go.Proofs.Ytogmnebnapghjaa
/- THE CELL 'sum', in the pinned program and in every row, IS THE sha256 OF THE DUMP (.gsa) THAT YtogmnebnapghjaaProg.lean LOADS. Nothing in Lean hashes anything: it is a label: what it is worth is what the hold of that sum in a sandbox is worth. -/
noncomputable def Try.pinned : Pinned := { name := "ytogmnebnapghjaa", sum := "4d55249ff6596fb0acb70e44ace0c9d4c2d859f9d877c19e2e2ad0fe36649720", checked := Try.checked }
namespace Rows
def none {H : Type} : Left H := { results := [], args := [] }

/-- 'tachographlaw03.PolicyTells': WHATEVER THE INPUT: true; the input reads as it did. -/
def policyTellsSpec : ChangeSpec := { name := "policyTells", fn := fun _ => fun
  | [d1, d2] => { results := [.lit (.bool true)], args := [d1, d2] }
  | _ => none }
def policyTellsRow : OpenClaim := { program := "ytogmnebnapghjaa", sum := "4d55249ff6596fb0acb70e44ace0c9d4c2d859f9d877c19e2e2ad0fe36649720", func := "tachograph/tachographlaw03.PolicyTells", spec := "policyTells", apart := false }
def PolicyTellsSaid : Prop := policyTellsRow.holds Try.pinned (OpenSpec.ofChange policyTellsSpec)

/-- ITS FALSE NEIGHBOUR: 'it returns false'. Refute it at one input. -/
def policyTellsWrong : ChangeSpec := { name := "policyTells", fn := fun _ => fun
  | [d1, d2] => { results := [.lit (.bool false)], args := [d1, d2] }
  | _ => none }
def PolicyTellsWrongFalsely : Prop := policyTellsRow.holds Try.pinned (OpenSpec.ofChange policyTellsWrong)

/-- 'tachographlaw03.PolicyMerges': WHATEVER THE INPUT: true; the input reads as it did. -/
def policyMergesSpec : ChangeSpec := { name := "policyMerges", fn := fun _ => fun
  | [d1, d2, d3] => { results := [.lit (.bool true)], args := [d1, d2, d3] }
  | _ => none }
def policyMergesRow : OpenClaim := { program := "ytogmnebnapghjaa", sum := "4d55249ff6596fb0acb70e44ace0c9d4c2d859f9d877c19e2e2ad0fe36649720", func := "tachograph/tachographlaw03.PolicyMerges", spec := "policyMerges", apart := false }
def PolicyMergesSaid : Prop := policyMergesRow.holds Try.pinned (OpenSpec.ofChange policyMergesSpec)

/-- ITS FALSE NEIGHBOUR: 'it returns false'. Refute it at one input. -/
def policyMergesWrong : ChangeSpec := { name := "policyMerges", fn := fun _ => fun
  | [d1, d2, d3] => { results := [.lit (.bool false)], args := [d1, d2, d3] }
  | _ => none }
def PolicyMergesWrongFalsely : Prop := policyMergesRow.holds Try.pinned (OpenSpec.ofChange policyMergesWrong)

/-- 'tachographlaw03.PolicyOrders': WHATEVER THE INPUT: true; the input reads as it did. -/
def policyOrdersSpec : ChangeSpec := { name := "policyOrders", fn := fun _ => fun
  | [d1, d2, d3] => { results := [.lit (.bool true)], args := [d1, d2, d3] }
  | _ => none }
def policyOrdersRow : OpenClaim := { program := "ytogmnebnapghjaa", sum := "4d55249ff6596fb0acb70e44ace0c9d4c2d859f9d877c19e2e2ad0fe36649720", func := "tachograph/tachographlaw03.PolicyOrders", spec := "policyOrders", apart := false }
def PolicyOrdersSaid : Prop := policyOrdersRow.holds Try.pinned (OpenSpec.ofChange policyOrdersSpec)

/-- ITS FALSE NEIGHBOUR: 'it returns false'. Refute it at one input. -/
def policyOrdersWrong : ChangeSpec := { name := "policyOrders", fn := fun _ => fun
  | [d1, d2, d3] => { results := [.lit (.bool false)], args := [d1, d2, d3] }
  | _ => none }
def PolicyOrdersWrongFalsely : Prop := policyOrdersRow.holds Try.pinned (OpenSpec.ofChange policyOrdersWrong)

/-- 'tachographlaw03.PolicyCaps': WHATEVER THE INPUT: true; the input reads as it did. -/
def policyCapsSpec : ChangeSpec := { name := "policyCaps", fn := fun _ => fun
  | [d1, d2] => { results := [.lit (.bool true)], args := [d1, d2] }
  | _ => none }
def policyCapsRow : OpenClaim := { program := "ytogmnebnapghjaa", sum := "4d55249ff6596fb0acb70e44ace0c9d4c2d859f9d877c19e2e2ad0fe36649720", func := "tachograph/tachographlaw03.PolicyCaps", spec := "policyCaps", apart := false }
def PolicyCapsSaid : Prop := policyCapsRow.holds Try.pinned (OpenSpec.ofChange policyCapsSpec)

/-- ITS FALSE NEIGHBOUR: 'it returns false'. Refute it at one input. -/
def policyCapsWrong : ChangeSpec := { name := "policyCaps", fn := fun _ => fun
  | [d1, d2] => { results := [.lit (.bool false)], args := [d1, d2] }
  | _ => none }
def PolicyCapsWrongFalsely : Prop := policyCapsRow.holds Try.pinned (OpenSpec.ofChange policyCapsWrong)

/-- 'tachographlaw03.PolicyNames': WHATEVER THE INPUT: true; the input reads as it did. -/
def policyNamesSpec : ChangeSpec := { name := "policyNames", fn := fun _ => fun
  | [d1, d2, d3] => { results := [.lit (.bool true)], args := [d1, d2, d3] }
  | _ => none }
def policyNamesRow : OpenClaim := { program := "ytogmnebnapghjaa", sum := "4d55249ff6596fb0acb70e44ace0c9d4c2d859f9d877c19e2e2ad0fe36649720", func := "tachograph/tachographlaw03.PolicyNames", spec := "policyNames", apart := false }
def PolicyNamesSaid : Prop := policyNamesRow.holds Try.pinned (OpenSpec.ofChange policyNamesSpec)

/-- ITS FALSE NEIGHBOUR: 'it returns false'. Refute it at one input. -/
def policyNamesWrong : ChangeSpec := { name := "policyNames", fn := fun _ => fun
  | [d1, d2, d3] => { results := [.lit (.bool false)], args := [d1, d2, d3] }
  | _ => none }
def PolicyNamesWrongFalsely : Prop := policyNamesRow.holds Try.pinned (OpenSpec.ofChange policyNamesWrong)

/-- 'tachographlaw03.PolicyTwice': WHATEVER THE INPUT: true; the input reads as it did. -/
def policyTwiceSpec : ChangeSpec := { name := "policyTwice", fn := fun _ => fun
  | [d1, d2] => { results := [.lit (.bool true)], args := [d1, d2] }
  | _ => none }
def policyTwiceRow : OpenClaim := { program := "ytogmnebnapghjaa", sum := "4d55249ff6596fb0acb70e44ace0c9d4c2d859f9d877c19e2e2ad0fe36649720", func := "tachograph/tachographlaw03.PolicyTwice", spec := "policyTwice", apart := false }
def PolicyTwiceSaid : Prop := policyTwiceRow.holds Try.pinned (OpenSpec.ofChange policyTwiceSpec)

/-- ITS FALSE NEIGHBOUR: 'it returns false'. Refute it at one input. -/
def policyTwiceWrong : ChangeSpec := { name := "policyTwice", fn := fun _ => fun
  | [d1, d2] => { results := [.lit (.bool false)], args := [d1, d2] }
  | _ => none }
def PolicyTwiceWrongFalsely : Prop := policyTwiceRow.holds Try.pinned (OpenSpec.ofChange policyTwiceWrong)

/-- 'tachographlaw03.PolicyRises': WHATEVER THE INPUT: true; the input reads as it did. -/
def policyRisesSpec : ChangeSpec := { name := "policyRises", fn := fun _ => fun
  | [d1, d2, d3] => { results := [.lit (.bool true)], args := [d1, d2, d3] }
  | _ => none }
def policyRisesRow : OpenClaim := { program := "ytogmnebnapghjaa", sum := "4d55249ff6596fb0acb70e44ace0c9d4c2d859f9d877c19e2e2ad0fe36649720", func := "tachograph/tachographlaw03.PolicyRises", spec := "policyRises", apart := false }
def PolicyRisesSaid : Prop := policyRisesRow.holds Try.pinned (OpenSpec.ofChange policyRisesSpec)

/-- ITS FALSE NEIGHBOUR: 'it returns false'. Refute it at one input. -/
def policyRisesWrong : ChangeSpec := { name := "policyRises", fn := fun _ => fun
  | [d1, d2, d3] => { results := [.lit (.bool false)], args := [d1, d2, d3] }
  | _ => none }
def PolicyRisesWrongFalsely : Prop := policyRisesRow.holds Try.pinned (OpenSpec.ofChange policyRisesWrong)

/- THE SECOND FORM. 'bulk': how many values and letters a reading holds, each counted each time it is reached (what is shared counts as often as it is met; a slice's spare places count too). A statement '..UptoSaid' is the law's where the arguments, and the package variables that the reading takes, are together of bulk at most 1048576: NARROWER than '..Said'. Prove '..Said' where nothing that the law and all that it calls make is longer than what came in: it says more and counts as full. Else prove '..UptoSaid'. A law counts once. -/
mutual
def uptoBulk {H : Type} : DataW H → Nat
  | .lit (.string bytes) => bytes.length + 1
  | .lit _ => 1
  | .nil => 1
  | .ptr d => uptoBulk d + 1
  | .slice elems spare => uptoBulkAll elems + uptoBulkAll spare + 1
  | .agg parts => uptoBulkAll parts + 1
  | .iface _ d => uptoBulk d + 1
  | .map entries => uptoBulkEntries entries + 1
  | .held _ => 1
def uptoBulkAll {H : Type} : List (DataW H) → Nat
  | [] => 0
  | d :: r => uptoBulk d + uptoBulkAll r
def uptoBulkEntries {H : Type} : List (Lit × DataW H) → Nat
  | [] => 0
  | x :: r => uptoBulkEntry x + uptoBulkEntries r
def uptoBulkEntry {H : Type} : Lit × DataW H → Nat
  | (.string bytes, d) => bytes.length + uptoBulk d + 1
  | (_, d) => uptoBulk d + 1
 end
def uptoSmall : (H : Type) → List (DataW H) → Bool := fun _ ds => decide (uptoBulkAll ds ≤ 1048576)
def OpenSpec.upto (s : _root_.Go.ChangeSpec) : _root_.Go.OpenSpec := { _root_.Go.OpenSpec.ofChange s with cond := some uptoSmall }

/-- 'tachographlaw03.PolicyTells', WHERE WHAT IT READS IS OF BULK AT MOST 1048576: true; the input reads as it did. -/
def policyTellsUptoRow : OpenClaim := { program := "ytogmnebnapghjaa", sum := "4d55249ff6596fb0acb70e44ace0c9d4c2d859f9d877c19e2e2ad0fe36649720", func := "tachograph/tachographlaw03.PolicyTells", spec := "policyTells", apart := false, narrowed := true }
def PolicyTellsUptoSaid : Prop := policyTellsUptoRow.holds Try.pinned (OpenSpec.upto policyTellsSpec)

/-- 'tachographlaw03.PolicyMerges', WHERE WHAT IT READS IS OF BULK AT MOST 1048576: true; the input reads as it did. -/
def policyMergesUptoRow : OpenClaim := { program := "ytogmnebnapghjaa", sum := "4d55249ff6596fb0acb70e44ace0c9d4c2d859f9d877c19e2e2ad0fe36649720", func := "tachograph/tachographlaw03.PolicyMerges", spec := "policyMerges", apart := false, narrowed := true }
def PolicyMergesUptoSaid : Prop := policyMergesUptoRow.holds Try.pinned (OpenSpec.upto policyMergesSpec)

/-- 'tachographlaw03.PolicyOrders', WHERE WHAT IT READS IS OF BULK AT MOST 1048576: true; the input reads as it did. -/
def policyOrdersUptoRow : OpenClaim := { program := "ytogmnebnapghjaa", sum := "4d55249ff6596fb0acb70e44ace0c9d4c2d859f9d877c19e2e2ad0fe36649720", func := "tachograph/tachographlaw03.PolicyOrders", spec := "policyOrders", apart := false, narrowed := true }
def PolicyOrdersUptoSaid : Prop := policyOrdersUptoRow.holds Try.pinned (OpenSpec.upto policyOrdersSpec)

/-- 'tachographlaw03.PolicyCaps', WHERE WHAT IT READS IS OF BULK AT MOST 1048576: true; the input reads as it did. -/
def policyCapsUptoRow : OpenClaim := { program := "ytogmnebnapghjaa", sum := "4d55249ff6596fb0acb70e44ace0c9d4c2d859f9d877c19e2e2ad0fe36649720", func := "tachograph/tachographlaw03.PolicyCaps", spec := "policyCaps", apart := false, narrowed := true }
def PolicyCapsUptoSaid : Prop := policyCapsUptoRow.holds Try.pinned (OpenSpec.upto policyCapsSpec)

/-- 'tachographlaw03.PolicyNames', WHERE WHAT IT READS IS OF BULK AT MOST 1048576: true; the input reads as it did. -/
def policyNamesUptoRow : OpenClaim := { program := "ytogmnebnapghjaa", sum := "4d55249ff6596fb0acb70e44ace0c9d4c2d859f9d877c19e2e2ad0fe36649720", func := "tachograph/tachographlaw03.PolicyNames", spec := "policyNames", apart := false, narrowed := true }
def PolicyNamesUptoSaid : Prop := policyNamesUptoRow.holds Try.pinned (OpenSpec.upto policyNamesSpec)

/-- 'tachographlaw03.PolicyTwice', WHERE WHAT IT READS IS OF BULK AT MOST 1048576: true; the input reads as it did. -/
def policyTwiceUptoRow : OpenClaim := { program := "ytogmnebnapghjaa", sum := "4d55249ff6596fb0acb70e44ace0c9d4c2d859f9d877c19e2e2ad0fe36649720", func := "tachograph/tachographlaw03.PolicyTwice", spec := "policyTwice", apart := false, narrowed := true }
def PolicyTwiceUptoSaid : Prop := policyTwiceUptoRow.holds Try.pinned (OpenSpec.upto policyTwiceSpec)

/-- 'tachographlaw03.PolicyRises', WHERE WHAT IT READS IS OF BULK AT MOST 1048576: true; the input reads as it did. -/
def policyRisesUptoRow : OpenClaim := { program := "ytogmnebnapghjaa", sum := "4d55249ff6596fb0acb70e44ace0c9d4c2d859f9d877c19e2e2ad0fe36649720", func := "tachograph/tachographlaw03.PolicyRises", spec := "policyRises", apart := false, narrowed := true }
def PolicyRisesUptoSaid : Prop := policyRisesUptoRow.holds Try.pinned (OpenSpec.upto policyRisesSpec)

end Rows
end Go.Proofs.Ytogmnebnapghjaa
