/-
  No cell of these rows narrows 'for every input' (looked for: loops, veiled, ifaces, maps, wideKeys, modest, calm, conditions, laid).
  DERIVED. THE GIVEN ROWS OF THIS SEAT. 7 by the template 'for every input the law returns true; each argument reads behind the call as it read before'; 0 by the template 'total and deterministic' (their statements: YtdndeggognfcaaaTotals.lean).
  GIVEN WITH THE SEED: the statements are not yours to turn. If you find one false, say at which input.
  Laid BY PROGRAM, IN A SANDBOX (cutbox-rows.mjs): the forced cells as the released guide's own fill.sh prints them over the translation d1728c63882f31dc… (all of the seat's roots in one cut). By AI agents, Wed Nov 11 2026. No macro, syntax, notation, axiom, sorry.
-/
import Derived.Test.YtdndeggognfcaaaChecked
import GoSem.Claim
import GoSem.ClaimJoined
import GoSem.ClaimMapViews
import Derived.JoinedTies
import Derived.KernelRfl
namespace Go.Proofs.Ytdndeggognfcaaa
/- THE CELL 'sum', in the pinned program and in every row, IS THE sha256 OF THE DUMP (.gsa) THAT YtdndeggognfcaaaProg.lean LOADS. Nothing in Lean hashes anything: it is a label: what it is worth is what the hold of that sum in a sandbox is worth. -/
noncomputable def Try.pinned : Pinned := { name := "ytdndeggognfcaaa", sum := "d1728c63882f31dce3e304783b96de68829fbde20e925bf77b384a33130d2a7c", checked := Try.checked }
namespace Rows
def none {H : Type} : Left H := { results := [], args := [] }

/-- 'tachographlaw19.AofTells': WHATEVER THE INPUT: true; the input reads as it did. -/
def aofTellsSpec : ChangeSpec := { name := "aofTells", fn := fun _ => fun
  | [d] => { results := [.lit (.bool true)], args := [d] }
  | _ => none }
def aofTellsRow : OpenClaim := { program := "ytdndeggognfcaaa", sum := "d1728c63882f31dce3e304783b96de68829fbde20e925bf77b384a33130d2a7c", func := "tachograph/tachographlaw19.AofTells", spec := "aofTells", inPlace := ["sync/atomic.LoadUint32", "(*internal/sync.Mutex).Lock", "internal/race.Disable", "sync/atomic.CompareAndSwapInt32", "internal/race.Enable", "internal/race.Acquire", "(*internal/sync.Mutex).lockSlow", "internal/sync.runtime_canSpin", "internal/sync.runtime_doSpin", "internal/sync.throw", "internal/sync.runtime_nanotime", "internal/sync.runtime_SemacquireMutex", "sync/atomic.AddInt32", "(*internal/sync.Mutex).Unlock", "internal/race.ReleaseMerge", "(*internal/sync.Mutex).unlockSlow", "internal/sync.fatal", "internal/sync.runtime_Semrelease", "sync/atomic.StoreUint32"], unfollowed := true, recurses := true, apart := false }
def AofTellsSaid : Prop := aofTellsRow.holds Try.pinned (OpenSpec.ofChange aofTellsSpec)

/-- ITS FALSE NEIGHBOUR: 'it returns false'. Refute it at one input. -/
def aofTellsWrong : ChangeSpec := { name := "aofTells", fn := fun _ => fun
  | [d] => { results := [.lit (.bool false)], args := [d] }
  | _ => none }
def AofTellsWrongFalsely : Prop := aofTellsRow.holds Try.pinned (OpenSpec.ofChange aofTellsWrong)

/-- 'tachographlaw19.AofLives': WHATEVER THE INPUT: true; the input reads as it did. -/
def aofLivesSpec : ChangeSpec := { name := "aofLives", fn := fun _ => fun
  | [d] => { results := [.lit (.bool true)], args := [d] }
  | _ => none }
def aofLivesRow : OpenClaim := { program := "ytdndeggognfcaaa", sum := "d1728c63882f31dce3e304783b96de68829fbde20e925bf77b384a33130d2a7c", func := "tachograph/tachographlaw19.AofLives", spec := "aofLives", inPlace := ["sync/atomic.LoadUint32", "(*internal/sync.Mutex).Lock", "internal/race.Disable", "sync/atomic.CompareAndSwapInt32", "internal/race.Enable", "internal/race.Acquire", "(*internal/sync.Mutex).lockSlow", "internal/sync.runtime_canSpin", "internal/sync.runtime_doSpin", "internal/sync.throw", "internal/sync.runtime_nanotime", "internal/sync.runtime_SemacquireMutex", "sync/atomic.AddInt32", "(*internal/sync.Mutex).Unlock", "internal/race.ReleaseMerge", "(*internal/sync.Mutex).unlockSlow", "internal/sync.fatal", "internal/sync.runtime_Semrelease", "sync/atomic.StoreUint32"], unfollowed := true, recurses := true, apart := false }
def AofLivesSaid : Prop := aofLivesRow.holds Try.pinned (OpenSpec.ofChange aofLivesSpec)

/-- ITS FALSE NEIGHBOUR: 'it returns false'. Refute it at one input. -/
def aofLivesWrong : ChangeSpec := { name := "aofLives", fn := fun _ => fun
  | [d] => { results := [.lit (.bool false)], args := [d] }
  | _ => none }
def AofLivesWrongFalsely : Prop := aofLivesRow.holds Try.pinned (OpenSpec.ofChange aofLivesWrong)

/-- 'tachographlaw19.AofNil': WHATEVER THE INPUT: true; the input reads as it did. -/
def aofNilSpec : ChangeSpec := { name := "aofNil", fn := fun _ => fun
  | [d] => { results := [.lit (.bool true)], args := [d] }
  | _ => none }
def aofNilRow : OpenClaim := { program := "ytdndeggognfcaaa", sum := "d1728c63882f31dce3e304783b96de68829fbde20e925bf77b384a33130d2a7c", func := "tachograph/tachographlaw19.AofNil", spec := "aofNil", inPlace := ["sync/atomic.LoadUint32", "(*internal/sync.Mutex).Lock", "internal/race.Disable", "sync/atomic.CompareAndSwapInt32", "internal/race.Enable", "internal/race.Acquire", "(*internal/sync.Mutex).lockSlow", "internal/sync.runtime_canSpin", "internal/sync.runtime_doSpin", "internal/sync.throw", "internal/sync.runtime_nanotime", "internal/sync.runtime_SemacquireMutex", "sync/atomic.AddInt32", "(*internal/sync.Mutex).Unlock", "internal/race.ReleaseMerge", "(*internal/sync.Mutex).unlockSlow", "internal/sync.fatal", "internal/sync.runtime_Semrelease", "sync/atomic.StoreUint32"], unfollowed := true, recurses := true, apart := false }
def AofNilSaid : Prop := aofNilRow.holds Try.pinned (OpenSpec.ofChange aofNilSpec)

/-- ITS FALSE NEIGHBOUR: 'it returns false'. Refute it at one input. -/
def aofNilWrong : ChangeSpec := { name := "aofNil", fn := fun _ => fun
  | [d] => { results := [.lit (.bool false)], args := [d] }
  | _ => none }
def AofNilWrongFalsely : Prop := aofNilRow.holds Try.pinned (OpenSpec.ofChange aofNilWrong)

/-- 'tachographlaw19.AofTurned': WHATEVER THE INPUT: true; the input reads as it did. -/
def aofTurnedSpec : ChangeSpec := { name := "aofTurned", fn := fun _ => fun
  | [d1, d2, d3] => { results := [.lit (.bool true)], args := [d1, d2, d3] }
  | _ => none }
def aofTurnedRow : OpenClaim := { program := "ytdndeggognfcaaa", sum := "d1728c63882f31dce3e304783b96de68829fbde20e925bf77b384a33130d2a7c", func := "tachograph/tachographlaw19.AofTurned", spec := "aofTurned", inPlace := ["sync/atomic.LoadUint32", "(*internal/sync.Mutex).Lock", "internal/race.Disable", "sync/atomic.CompareAndSwapInt32", "internal/race.Enable", "internal/race.Acquire", "(*internal/sync.Mutex).lockSlow", "internal/sync.runtime_canSpin", "internal/sync.runtime_doSpin", "internal/sync.throw", "internal/sync.runtime_nanotime", "internal/sync.runtime_SemacquireMutex", "sync/atomic.AddInt32", "(*internal/sync.Mutex).Unlock", "internal/race.ReleaseMerge", "(*internal/sync.Mutex).unlockSlow", "internal/sync.fatal", "internal/sync.runtime_Semrelease", "sync/atomic.StoreUint32"], unfollowed := true, recurses := true, apart := false }
def AofTurnedSaid : Prop := aofTurnedRow.holds Try.pinned (OpenSpec.ofChange aofTurnedSpec)

/-- ITS FALSE NEIGHBOUR: 'it returns false'. Refute it at one input. -/
def aofTurnedWrong : ChangeSpec := { name := "aofTurned", fn := fun _ => fun
  | [d1, d2, d3] => { results := [.lit (.bool false)], args := [d1, d2, d3] }
  | _ => none }
def AofTurnedWrongFalsely : Prop := aofTurnedRow.holds Try.pinned (OpenSpec.ofChange aofTurnedWrong)

/-- 'tachographlaw19.AofPlays': WHATEVER THE INPUT: true; the input reads as it did. -/
def aofPlaysSpec : ChangeSpec := { name := "aofPlays", fn := fun _ => fun
  | [d1, d2] => { results := [.lit (.bool true)], args := [d1, d2] }
  | _ => none }
def aofPlaysRow : OpenClaim := { program := "ytdndeggognfcaaa", sum := "d1728c63882f31dce3e304783b96de68829fbde20e925bf77b384a33130d2a7c", func := "tachograph/tachographlaw19.AofPlays", spec := "aofPlays", inPlace := ["sync/atomic.LoadUint32", "(*internal/sync.Mutex).Lock", "internal/race.Disable", "sync/atomic.CompareAndSwapInt32", "internal/race.Enable", "internal/race.Acquire", "(*internal/sync.Mutex).lockSlow", "internal/sync.runtime_canSpin", "internal/sync.runtime_doSpin", "internal/sync.throw", "internal/sync.runtime_nanotime", "internal/sync.runtime_SemacquireMutex", "sync/atomic.AddInt32", "(*internal/sync.Mutex).Unlock", "internal/race.ReleaseMerge", "(*internal/sync.Mutex).unlockSlow", "internal/sync.fatal", "internal/sync.runtime_Semrelease", "sync/atomic.StoreUint32"], unfollowed := true, recurses := true, apart := false }
def AofPlaysSaid : Prop := aofPlaysRow.holds Try.pinned (OpenSpec.ofChange aofPlaysSpec)

/-- ITS FALSE NEIGHBOUR: 'it returns false'. Refute it at one input. -/
def aofPlaysWrong : ChangeSpec := { name := "aofPlays", fn := fun _ => fun
  | [d1, d2] => { results := [.lit (.bool false)], args := [d1, d2] }
  | _ => none }
def AofPlaysWrongFalsely : Prop := aofPlaysRow.holds Try.pinned (OpenSpec.ofChange aofPlaysWrong)

/-- 'tachographlaw19.AofTorn': WHATEVER THE INPUT: true; the input reads as it did. -/
def aofTornSpec : ChangeSpec := { name := "aofTorn", fn := fun _ => fun
  | [d1, d2] => { results := [.lit (.bool true)], args := [d1, d2] }
  | _ => none }
def aofTornRow : OpenClaim := { program := "ytdndeggognfcaaa", sum := "d1728c63882f31dce3e304783b96de68829fbde20e925bf77b384a33130d2a7c", func := "tachograph/tachographlaw19.AofTorn", spec := "aofTorn", inPlace := ["sync/atomic.LoadUint32", "(*internal/sync.Mutex).Lock", "internal/race.Disable", "sync/atomic.CompareAndSwapInt32", "internal/race.Enable", "internal/race.Acquire", "(*internal/sync.Mutex).lockSlow", "internal/sync.runtime_canSpin", "internal/sync.runtime_doSpin", "internal/sync.throw", "internal/sync.runtime_nanotime", "internal/sync.runtime_SemacquireMutex", "sync/atomic.AddInt32", "(*internal/sync.Mutex).Unlock", "internal/race.ReleaseMerge", "(*internal/sync.Mutex).unlockSlow", "internal/sync.fatal", "internal/sync.runtime_Semrelease", "sync/atomic.StoreUint32"], unfollowed := true, recurses := true, apart := false }
def AofTornSaid : Prop := aofTornRow.holds Try.pinned (OpenSpec.ofChange aofTornSpec)

/-- ITS FALSE NEIGHBOUR: 'it returns false'. Refute it at one input. -/
def aofTornWrong : ChangeSpec := { name := "aofTorn", fn := fun _ => fun
  | [d1, d2] => { results := [.lit (.bool false)], args := [d1, d2] }
  | _ => none }
def AofTornWrongFalsely : Prop := aofTornRow.holds Try.pinned (OpenSpec.ofChange aofTornWrong)

/-- 'tachographlaw19.AofGrows': WHATEVER THE INPUT: true; the input reads as it did. -/
def aofGrowsSpec : ChangeSpec := { name := "aofGrows", fn := fun _ => fun
  | [d] => { results := [.lit (.bool true)], args := [d] }
  | _ => none }
def aofGrowsRow : OpenClaim := { program := "ytdndeggognfcaaa", sum := "d1728c63882f31dce3e304783b96de68829fbde20e925bf77b384a33130d2a7c", func := "tachograph/tachographlaw19.AofGrows", spec := "aofGrows", inPlace := ["sync/atomic.LoadUint32", "(*internal/sync.Mutex).Lock", "internal/race.Disable", "sync/atomic.CompareAndSwapInt32", "internal/race.Enable", "internal/race.Acquire", "(*internal/sync.Mutex).lockSlow", "internal/sync.runtime_canSpin", "internal/sync.runtime_doSpin", "internal/sync.throw", "internal/sync.runtime_nanotime", "internal/sync.runtime_SemacquireMutex", "sync/atomic.AddInt32", "(*internal/sync.Mutex).Unlock", "internal/race.ReleaseMerge", "(*internal/sync.Mutex).unlockSlow", "internal/sync.fatal", "internal/sync.runtime_Semrelease", "sync/atomic.StoreUint32"], unfollowed := true, recurses := true, apart := false }
def AofGrowsSaid : Prop := aofGrowsRow.holds Try.pinned (OpenSpec.ofChange aofGrowsSpec)

/-- ITS FALSE NEIGHBOUR: 'it returns false'. Refute it at one input. -/
def aofGrowsWrong : ChangeSpec := { name := "aofGrows", fn := fun _ => fun
  | [d] => { results := [.lit (.bool false)], args := [d] }
  | _ => none }
def AofGrowsWrongFalsely : Prop := aofGrowsRow.holds Try.pinned (OpenSpec.ofChange aofGrowsWrong)

/- THE SECOND FORM. 'bulk': how many values and letters a reading holds, each counted each time it is reached (what is shared counts as often as it is met; a slice's spare places count too). A statement '..UptoSaid' is the law's where the arguments, and the package variables that the reading takes, are together of bulk at most 1048576: NARROWER than '..Said'. Prove '..Said' where nothing that the law and all that it calls make is longer than what came in: it says more and counts as full. Else prove '..UptoSaid'. A law counts once. -/
mutual
def uptoBulk {H : Type} : DataW H → Nat
  | .lit (.string bytes) => bytes.length + 1
  | .lit _ => 1
  | .nil => 1
  | .ptr d => uptoBulk d + 1
  | .slice elems spare => uptoBulkAll elems + uptoBulkAll spare + 1
  | .agg parts => uptoBulkAll parts + 1
  | .iface _ d => uptoBulk d + 1
  | .map entries => uptoBulkEntries entries + 1
  | .held _ => 1
def uptoBulkAll {H : Type} : List (DataW H) → Nat
  | [] => 0
  | d :: r => uptoBulk d + uptoBulkAll r
def uptoBulkEntries {H : Type} : List (Lit × DataW H) → Nat
  | [] => 0
  | x :: r => uptoBulkEntry x + uptoBulkEntries r
def uptoBulkEntry {H : Type} : Lit × DataW H → Nat
  | (.string bytes, d) => bytes.length + uptoBulk d + 1
  | (_, d) => uptoBulk d + 1
 end
def uptoSmall : (H : Type) → List (DataW H) → Bool := fun _ ds => decide (uptoBulkAll ds ≤ 1048576)
def OpenSpec.upto (s : _root_.Go.ChangeSpec) : _root_.Go.OpenSpec := { _root_.Go.OpenSpec.ofChange s with cond := some uptoSmall }

/-- 'tachographlaw19.AofTells', WHERE WHAT IT READS IS OF BULK AT MOST 1048576: true; the input reads as it did. -/
def aofTellsUptoRow : OpenClaim := { program := "ytdndeggognfcaaa", sum := "d1728c63882f31dce3e304783b96de68829fbde20e925bf77b384a33130d2a7c", func := "tachograph/tachographlaw19.AofTells", spec := "aofTells", inPlace := ["sync/atomic.LoadUint32", "(*internal/sync.Mutex).Lock", "internal/race.Disable", "sync/atomic.CompareAndSwapInt32", "internal/race.Enable", "internal/race.Acquire", "(*internal/sync.Mutex).lockSlow", "internal/sync.runtime_canSpin", "internal/sync.runtime_doSpin", "internal/sync.throw", "internal/sync.runtime_nanotime", "internal/sync.runtime_SemacquireMutex", "sync/atomic.AddInt32", "(*internal/sync.Mutex).Unlock", "internal/race.ReleaseMerge", "(*internal/sync.Mutex).unlockSlow", "internal/sync.fatal", "internal/sync.runtime_Semrelease", "sync/atomic.StoreUint32"], unfollowed := true, recurses := true, apart := false, narrowed := true }
def AofTellsUptoSaid : Prop := aofTellsUptoRow.holds Try.pinned (OpenSpec.upto aofTellsSpec)

/-- 'tachographlaw19.AofLives', WHERE WHAT IT READS IS OF BULK AT MOST 1048576: true; the input reads as it did. -/
def aofLivesUptoRow : OpenClaim := { program := "ytdndeggognfcaaa", sum := "d1728c63882f31dce3e304783b96de68829fbde20e925bf77b384a33130d2a7c", func := "tachograph/tachographlaw19.AofLives", spec := "aofLives", inPlace := ["sync/atomic.LoadUint32", "(*internal/sync.Mutex).Lock", "internal/race.Disable", "sync/atomic.CompareAndSwapInt32", "internal/race.Enable", "internal/race.Acquire", "(*internal/sync.Mutex).lockSlow", "internal/sync.runtime_canSpin", "internal/sync.runtime_doSpin", "internal/sync.throw", "internal/sync.runtime_nanotime", "internal/sync.runtime_SemacquireMutex", "sync/atomic.AddInt32", "(*internal/sync.Mutex).Unlock", "internal/race.ReleaseMerge", "(*internal/sync.Mutex).unlockSlow", "internal/sync.fatal", "internal/sync.runtime_Semrelease", "sync/atomic.StoreUint32"], unfollowed := true, recurses := true, apart := false, narrowed := true }
def AofLivesUptoSaid : Prop := aofLivesUptoRow.holds Try.pinned (OpenSpec.upto aofLivesSpec)

/-- 'tachographlaw19.AofNil', WHERE WHAT IT READS IS OF BULK AT MOST 1048576: true; the input reads as it did. -/
def aofNilUptoRow : OpenClaim := { program := "ytdndeggognfcaaa", sum := "d1728c63882f31dce3e304783b96de68829fbde20e925bf77b384a33130d2a7c", func := "tachograph/tachographlaw19.AofNil", spec := "aofNil", inPlace := ["sync/atomic.LoadUint32", "(*internal/sync.Mutex).Lock", "internal/race.Disable", "sync/atomic.CompareAndSwapInt32", "internal/race.Enable", "internal/race.Acquire", "(*internal/sync.Mutex).lockSlow", "internal/sync.runtime_canSpin", "internal/sync.runtime_doSpin", "internal/sync.throw", "internal/sync.runtime_nanotime", "internal/sync.runtime_SemacquireMutex", "sync/atomic.AddInt32", "(*internal/sync.Mutex).Unlock", "internal/race.ReleaseMerge", "(*internal/sync.Mutex).unlockSlow", "internal/sync.fatal", "internal/sync.runtime_Semrelease", "sync/atomic.StoreUint32"], unfollowed := true, recurses := true, apart := false, narrowed := true }
def AofNilUptoSaid : Prop := aofNilUptoRow.holds Try.pinned (OpenSpec.upto aofNilSpec)

/-- 'tachographlaw19.AofTurned', WHERE WHAT IT READS IS OF BULK AT MOST 1048576: true; the input reads as it did. -/
def aofTurnedUptoRow : OpenClaim := { program := "ytdndeggognfcaaa", sum := "d1728c63882f31dce3e304783b96de68829fbde20e925bf77b384a33130d2a7c", func := "tachograph/tachographlaw19.AofTurned", spec := "aofTurned", inPlace := ["sync/atomic.LoadUint32", "(*internal/sync.Mutex).Lock", "internal/race.Disable", "sync/atomic.CompareAndSwapInt32", "internal/race.Enable", "internal/race.Acquire", "(*internal/sync.Mutex).lockSlow", "internal/sync.runtime_canSpin", "internal/sync.runtime_doSpin", "internal/sync.throw", "internal/sync.runtime_nanotime", "internal/sync.runtime_SemacquireMutex", "sync/atomic.AddInt32", "(*internal/sync.Mutex).Unlock", "internal/race.ReleaseMerge", "(*internal/sync.Mutex).unlockSlow", "internal/sync.fatal", "internal/sync.runtime_Semrelease", "sync/atomic.StoreUint32"], unfollowed := true, recurses := true, apart := false, narrowed := true }
def AofTurnedUptoSaid : Prop := aofTurnedUptoRow.holds Try.pinned (OpenSpec.upto aofTurnedSpec)

/-- 'tachographlaw19.AofPlays', WHERE WHAT IT READS IS OF BULK AT MOST 1048576: true; the input reads as it did. -/
def aofPlaysUptoRow : OpenClaim := { program := "ytdndeggognfcaaa", sum := "d1728c63882f31dce3e304783b96de68829fbde20e925bf77b384a33130d2a7c", func := "tachograph/tachographlaw19.AofPlays", spec := "aofPlays", inPlace := ["sync/atomic.LoadUint32", "(*internal/sync.Mutex).Lock", "internal/race.Disable", "sync/atomic.CompareAndSwapInt32", "internal/race.Enable", "internal/race.Acquire", "(*internal/sync.Mutex).lockSlow", "internal/sync.runtime_canSpin", "internal/sync.runtime_doSpin", "internal/sync.throw", "internal/sync.runtime_nanotime", "internal/sync.runtime_SemacquireMutex", "sync/atomic.AddInt32", "(*internal/sync.Mutex).Unlock", "internal/race.ReleaseMerge", "(*internal/sync.Mutex).unlockSlow", "internal/sync.fatal", "internal/sync.runtime_Semrelease", "sync/atomic.StoreUint32"], unfollowed := true, recurses := true, apart := false, narrowed := true }
def AofPlaysUptoSaid : Prop := aofPlaysUptoRow.holds Try.pinned (OpenSpec.upto aofPlaysSpec)

/-- 'tachographlaw19.AofTorn', WHERE WHAT IT READS IS OF BULK AT MOST 1048576: true; the input reads as it did. -/
def aofTornUptoRow : OpenClaim := { program := "ytdndeggognfcaaa", sum := "d1728c63882f31dce3e304783b96de68829fbde20e925bf77b384a33130d2a7c", func := "tachograph/tachographlaw19.AofTorn", spec := "aofTorn", inPlace := ["sync/atomic.LoadUint32", "(*internal/sync.Mutex).Lock", "internal/race.Disable", "sync/atomic.CompareAndSwapInt32", "internal/race.Enable", "internal/race.Acquire", "(*internal/sync.Mutex).lockSlow", "internal/sync.runtime_canSpin", "internal/sync.runtime_doSpin", "internal/sync.throw", "internal/sync.runtime_nanotime", "internal/sync.runtime_SemacquireMutex", "sync/atomic.AddInt32", "(*internal/sync.Mutex).Unlock", "internal/race.ReleaseMerge", "(*internal/sync.Mutex).unlockSlow", "internal/sync.fatal", "internal/sync.runtime_Semrelease", "sync/atomic.StoreUint32"], unfollowed := true, recurses := true, apart := false, narrowed := true }
def AofTornUptoSaid : Prop := aofTornUptoRow.holds Try.pinned (OpenSpec.upto aofTornSpec)

/-- 'tachographlaw19.AofGrows', WHERE WHAT IT READS IS OF BULK AT MOST 1048576: true; the input reads as it did. -/
def aofGrowsUptoRow : OpenClaim := { program := "ytdndeggognfcaaa", sum := "d1728c63882f31dce3e304783b96de68829fbde20e925bf77b384a33130d2a7c", func := "tachograph/tachographlaw19.AofGrows", spec := "aofGrows", inPlace := ["sync/atomic.LoadUint32", "(*internal/sync.Mutex).Lock", "internal/race.Disable", "sync/atomic.CompareAndSwapInt32", "internal/race.Enable", "internal/race.Acquire", "(*internal/sync.Mutex).lockSlow", "internal/sync.runtime_canSpin", "internal/sync.runtime_doSpin", "internal/sync.throw", "internal/sync.runtime_nanotime", "internal/sync.runtime_SemacquireMutex", "sync/atomic.AddInt32", "(*internal/sync.Mutex).Unlock", "internal/race.ReleaseMerge", "(*internal/sync.Mutex).unlockSlow", "internal/sync.fatal", "internal/sync.runtime_Semrelease", "sync/atomic.StoreUint32"], unfollowed := true, recurses := true, apart := false, narrowed := true }
def AofGrowsUptoSaid : Prop := aofGrowsUptoRow.holds Try.pinned (OpenSpec.upto aofGrowsSpec)

end Rows
end Go.Proofs.Ytdndeggognfcaaa
