/-
  No cell of these rows narrows 'for every input' (looked for: loops, veiled, ifaces, maps, wideKeys, modest, calm, conditions, laid).
  DERIVED. THE GIVEN ROWS OF THIS SEAT. 6 by the template 'for every input the law returns true; each argument reads behind the call as it read before'; 0 by the template 'total and deterministic' (their statements: YteaciponojocbaaTotals.lean).
  GIVEN WITH THE SEED: the statements are not yours to turn. If you find one false, say at which input.
  Laid BY PROGRAM, IN A SANDBOX (cutbox-rows.mjs): the forced cells as the released guide's own fill.sh prints them over the translation 403b3d84aa04a88d… (all of the seat's roots in one cut). By AI agents, Wed Nov 11 2026. No macro, syntax, notation, axiom, sorry.
-/
import Derived.Test.YteaciponojocbaaChecked
import GoSem.Claim
import GoSem.ClaimJoined
import GoSem.ClaimMapViews
import Derived.JoinedTies
import Derived.KernelRfl
namespace Go.Proofs.Yteaciponojocbaa
/- THE CELL 'sum', in the pinned program and in every row, IS THE sha256 OF THE DUMP (.gsa) THAT YteaciponojocbaaProg.lean LOADS. Nothing in Lean hashes anything: it is a label: what it is worth is what the hold of that sum in a sandbox is worth. -/
noncomputable def Try.pinned : Pinned := { name := "yteaciponojocbaa", sum := "403b3d84aa04a88de99a4eb8156f12ef53e2a55a4207f87de61fec35760831ad", checked := Try.checked }
namespace Rows
def none {H : Type} : Left H := { results := [], args := [] }

/-- 'tmesislaw08.RopeBounds': WHATEVER THE INPUT: true; the input reads as it did. -/
def ropeBoundsSpec : ChangeSpec := { name := "ropeBounds", fn := fun _ => fun
  | [d1, d2, d3] => { results := [.lit (.bool true)], args := [d1, d2, d3] }
  | _ => none }
def ropeBoundsRow : OpenClaim := { program := "yteaciponojocbaa", sum := "403b3d84aa04a88de99a4eb8156f12ef53e2a55a4207f87de61fec35760831ad", func := "tmesis/tmesislaw08.RopeBounds", spec := "ropeBounds", inPlace := ["sync/atomic.AddInt64", "sync/atomic.LoadUint32", "(*internal/sync.Mutex).Lock", "internal/race.Disable", "sync/atomic.CompareAndSwapInt32", "internal/race.Enable", "internal/race.Acquire", "(*internal/sync.Mutex).lockSlow", "internal/sync.runtime_canSpin", "internal/sync.runtime_doSpin", "internal/sync.throw", "internal/sync.runtime_nanotime", "internal/sync.runtime_SemacquireMutex", "sync/atomic.AddInt32", "(*internal/sync.Mutex).Unlock", "internal/race.ReleaseMerge", "(*internal/sync.Mutex).unlockSlow", "internal/sync.fatal", "internal/sync.runtime_Semrelease", "sync/atomic.StoreUint32"], unfollowed := true, recurses := true, apart := false }
def RopeBoundsSaid : Prop := ropeBoundsRow.holds Try.pinned (OpenSpec.ofChange ropeBoundsSpec)

/-- ITS FALSE NEIGHBOUR: 'it returns false'. Refute it at one input. -/
def ropeBoundsWrong : ChangeSpec := { name := "ropeBounds", fn := fun _ => fun
  | [d1, d2, d3] => { results := [.lit (.bool false)], args := [d1, d2, d3] }
  | _ => none }
def RopeBoundsWrongFalsely : Prop := ropeBoundsRow.holds Try.pinned (OpenSpec.ofChange ropeBoundsWrong)

/-- 'tmesislaw08.RopeBack': WHATEVER THE INPUT: true; the input reads as it did. -/
def ropeBackSpec : ChangeSpec := { name := "ropeBack", fn := fun _ => fun
  | [d1, d2, d3] => { results := [.lit (.bool true)], args := [d1, d2, d3] }
  | _ => none }
def ropeBackRow : OpenClaim := { program := "yteaciponojocbaa", sum := "403b3d84aa04a88de99a4eb8156f12ef53e2a55a4207f87de61fec35760831ad", func := "tmesis/tmesislaw08.RopeBack", spec := "ropeBack", inPlace := ["sync/atomic.AddInt64", "sync/atomic.LoadUint32", "(*internal/sync.Mutex).Lock", "internal/race.Disable", "sync/atomic.CompareAndSwapInt32", "internal/race.Enable", "internal/race.Acquire", "(*internal/sync.Mutex).lockSlow", "internal/sync.runtime_canSpin", "internal/sync.runtime_doSpin", "internal/sync.throw", "internal/sync.runtime_nanotime", "internal/sync.runtime_SemacquireMutex", "sync/atomic.AddInt32", "(*internal/sync.Mutex).Unlock", "internal/race.ReleaseMerge", "(*internal/sync.Mutex).unlockSlow", "internal/sync.fatal", "internal/sync.runtime_Semrelease", "sync/atomic.StoreUint32"], unfollowed := true, recurses := true, apart := false }
def RopeBackSaid : Prop := ropeBackRow.holds Try.pinned (OpenSpec.ofChange ropeBackSpec)

/-- ITS FALSE NEIGHBOUR: 'it returns false'. Refute it at one input. -/
def ropeBackWrong : ChangeSpec := { name := "ropeBack", fn := fun _ => fun
  | [d1, d2, d3] => { results := [.lit (.bool false)], args := [d1, d2, d3] }
  | _ => none }
def RopeBackWrongFalsely : Prop := ropeBackRow.holds Try.pinned (OpenSpec.ofChange ropeBackWrong)

/-- 'tmesislaw08.RopeTwice': WHATEVER THE INPUT: true; the input reads as it did. -/
def ropeTwiceSpec : ChangeSpec := { name := "ropeTwice", fn := fun _ => fun
  | [d1, d2, d3] => { results := [.lit (.bool true)], args := [d1, d2, d3] }
  | _ => none }
def ropeTwiceRow : OpenClaim := { program := "yteaciponojocbaa", sum := "403b3d84aa04a88de99a4eb8156f12ef53e2a55a4207f87de61fec35760831ad", func := "tmesis/tmesislaw08.RopeTwice", spec := "ropeTwice", inPlace := ["sync/atomic.AddInt64", "sync/atomic.LoadUint32", "(*internal/sync.Mutex).Lock", "internal/race.Disable", "sync/atomic.CompareAndSwapInt32", "internal/race.Enable", "internal/race.Acquire", "(*internal/sync.Mutex).lockSlow", "internal/sync.runtime_canSpin", "internal/sync.runtime_doSpin", "internal/sync.throw", "internal/sync.runtime_nanotime", "internal/sync.runtime_SemacquireMutex", "sync/atomic.AddInt32", "(*internal/sync.Mutex).Unlock", "internal/race.ReleaseMerge", "(*internal/sync.Mutex).unlockSlow", "internal/sync.fatal", "internal/sync.runtime_Semrelease", "sync/atomic.StoreUint32"], unfollowed := true, recurses := true, apart := false }
def RopeTwiceSaid : Prop := ropeTwiceRow.holds Try.pinned (OpenSpec.ofChange ropeTwiceSpec)

/-- ITS FALSE NEIGHBOUR: 'it returns false'. Refute it at one input. -/
def ropeTwiceWrong : ChangeSpec := { name := "ropeTwice", fn := fun _ => fun
  | [d1, d2, d3] => { results := [.lit (.bool false)], args := [d1, d2, d3] }
  | _ => none }
def RopeTwiceWrongFalsely : Prop := ropeTwiceRow.holds Try.pinned (OpenSpec.ofChange ropeTwiceWrong)

/-- 'tmesislaw08.RopeSlices': WHATEVER THE INPUT: true; the input reads as it did. -/
def ropeSlicesSpec : ChangeSpec := { name := "ropeSlices", fn := fun _ => fun
  | [d1, d2] => { results := [.lit (.bool true)], args := [d1, d2] }
  | _ => none }
def ropeSlicesRow : OpenClaim := { program := "yteaciponojocbaa", sum := "403b3d84aa04a88de99a4eb8156f12ef53e2a55a4207f87de61fec35760831ad", func := "tmesis/tmesislaw08.RopeSlices", spec := "ropeSlices", inPlace := ["sync/atomic.AddInt64", "sync/atomic.LoadUint32", "(*internal/sync.Mutex).Lock", "internal/race.Disable", "sync/atomic.CompareAndSwapInt32", "internal/race.Enable", "internal/race.Acquire", "(*internal/sync.Mutex).lockSlow", "internal/sync.runtime_canSpin", "internal/sync.runtime_doSpin", "internal/sync.throw", "internal/sync.runtime_nanotime", "internal/sync.runtime_SemacquireMutex", "sync/atomic.AddInt32", "(*internal/sync.Mutex).Unlock", "internal/race.ReleaseMerge", "(*internal/sync.Mutex).unlockSlow", "internal/sync.fatal", "internal/sync.runtime_Semrelease", "sync/atomic.StoreUint32"], unfollowed := true, recurses := true, apart := false }
def RopeSlicesSaid : Prop := ropeSlicesRow.holds Try.pinned (OpenSpec.ofChange ropeSlicesSpec)

/-- ITS FALSE NEIGHBOUR: 'it returns false'. Refute it at one input. -/
def ropeSlicesWrong : ChangeSpec := { name := "ropeSlices", fn := fun _ => fun
  | [d1, d2] => { results := [.lit (.bool false)], args := [d1, d2] }
  | _ => none }
def RopeSlicesWrongFalsely : Prop := ropeSlicesRow.holds Try.pinned (OpenSpec.ofChange ropeSlicesWrong)

/-- 'tmesislaw08.RopePlays': WHATEVER THE INPUT: true; the input reads as it did. -/
def ropePlaysSpec : ChangeSpec := { name := "ropePlays", fn := fun _ => fun
  | [d1, d2, d3] => { results := [.lit (.bool true)], args := [d1, d2, d3] }
  | _ => none }
def ropePlaysRow : OpenClaim := { program := "yteaciponojocbaa", sum := "403b3d84aa04a88de99a4eb8156f12ef53e2a55a4207f87de61fec35760831ad", func := "tmesis/tmesislaw08.RopePlays", spec := "ropePlays", inPlace := ["sync/atomic.AddInt64", "sync/atomic.LoadUint32", "(*internal/sync.Mutex).Lock", "internal/race.Disable", "sync/atomic.CompareAndSwapInt32", "internal/race.Enable", "internal/race.Acquire", "(*internal/sync.Mutex).lockSlow", "internal/sync.runtime_canSpin", "internal/sync.runtime_doSpin", "internal/sync.throw", "internal/sync.runtime_nanotime", "internal/sync.runtime_SemacquireMutex", "sync/atomic.AddInt32", "(*internal/sync.Mutex).Unlock", "internal/race.ReleaseMerge", "(*internal/sync.Mutex).unlockSlow", "internal/sync.fatal", "internal/sync.runtime_Semrelease", "sync/atomic.StoreUint32"], unfollowed := true, recurses := true, apart := false }
def RopePlaysSaid : Prop := ropePlaysRow.holds Try.pinned (OpenSpec.ofChange ropePlaysSpec)

/-- ITS FALSE NEIGHBOUR: 'it returns false'. Refute it at one input. -/
def ropePlaysWrong : ChangeSpec := { name := "ropePlays", fn := fun _ => fun
  | [d1, d2, d3] => { results := [.lit (.bool false)], args := [d1, d2, d3] }
  | _ => none }
def RopePlaysWrongFalsely : Prop := ropePlaysRow.holds Try.pinned (OpenSpec.ofChange ropePlaysWrong)

/-- 'tmesislaw08.RopeGrows': WHATEVER THE INPUT: true; the input reads as it did. -/
def ropeGrowsSpec : ChangeSpec := { name := "ropeGrows", fn := fun _ => fun
  | [d] => { results := [.lit (.bool true)], args := [d] }
  | _ => none }
def ropeGrowsRow : OpenClaim := { program := "yteaciponojocbaa", sum := "403b3d84aa04a88de99a4eb8156f12ef53e2a55a4207f87de61fec35760831ad", func := "tmesis/tmesislaw08.RopeGrows", spec := "ropeGrows", inPlace := ["sync/atomic.AddInt64", "sync/atomic.LoadUint32", "(*internal/sync.Mutex).Lock", "internal/race.Disable", "sync/atomic.CompareAndSwapInt32", "internal/race.Enable", "internal/race.Acquire", "(*internal/sync.Mutex).lockSlow", "internal/sync.runtime_canSpin", "internal/sync.runtime_doSpin", "internal/sync.throw", "internal/sync.runtime_nanotime", "internal/sync.runtime_SemacquireMutex", "sync/atomic.AddInt32", "(*internal/sync.Mutex).Unlock", "internal/race.ReleaseMerge", "(*internal/sync.Mutex).unlockSlow", "internal/sync.fatal", "internal/sync.runtime_Semrelease", "sync/atomic.StoreUint32"], unfollowed := true, recurses := true, apart := false }
def RopeGrowsSaid : Prop := ropeGrowsRow.holds Try.pinned (OpenSpec.ofChange ropeGrowsSpec)

/-- ITS FALSE NEIGHBOUR: 'it returns false'. Refute it at one input. -/
def ropeGrowsWrong : ChangeSpec := { name := "ropeGrows", fn := fun _ => fun
  | [d] => { results := [.lit (.bool false)], args := [d] }
  | _ => none }
def RopeGrowsWrongFalsely : Prop := ropeGrowsRow.holds Try.pinned (OpenSpec.ofChange ropeGrowsWrong)

/- THE SECOND FORM. 'bulk': how many values and letters a reading holds, each counted each time it is reached (what is shared counts as often as it is met; a slice's spare places count too). A statement '..UptoSaid' is the law's where the arguments, and the package variables that the reading takes, are together of bulk at most 1048576: NARROWER than '..Said'. Prove '..Said' where nothing that the law and all that it calls make is longer than what came in: it says more and counts as full. Else prove '..UptoSaid'. A law counts once. -/
mutual
def uptoBulk {H : Type} : DataW H → Nat
  | .lit (.string bytes) => bytes.length + 1
  | .lit _ => 1
  | .nil => 1
  | .ptr d => uptoBulk d + 1
  | .slice elems spare => uptoBulkAll elems + uptoBulkAll spare + 1
  | .agg parts => uptoBulkAll parts + 1
  | .iface _ d => uptoBulk d + 1
  | .map entries => uptoBulkEntries entries + 1
  | .held _ => 1
def uptoBulkAll {H : Type} : List (DataW H) → Nat
  | [] => 0
  | d :: r => uptoBulk d + uptoBulkAll r
def uptoBulkEntries {H : Type} : List (Lit × DataW H) → Nat
  | [] => 0
  | x :: r => uptoBulkEntry x + uptoBulkEntries r
def uptoBulkEntry {H : Type} : Lit × DataW H → Nat
  | (.string bytes, d) => bytes.length + uptoBulk d + 1
  | (_, d) => uptoBulk d + 1
 end
def uptoSmall : (H : Type) → List (DataW H) → Bool := fun _ ds => decide (uptoBulkAll ds ≤ 1048576)
def OpenSpec.upto (s : _root_.Go.ChangeSpec) : _root_.Go.OpenSpec := { _root_.Go.OpenSpec.ofChange s with cond := some uptoSmall }

/-- 'tmesislaw08.RopeBounds', WHERE WHAT IT READS IS OF BULK AT MOST 1048576: true; the input reads as it did. -/
def ropeBoundsUptoRow : OpenClaim := { program := "yteaciponojocbaa", sum := "403b3d84aa04a88de99a4eb8156f12ef53e2a55a4207f87de61fec35760831ad", func := "tmesis/tmesislaw08.RopeBounds", spec := "ropeBounds", inPlace := ["sync/atomic.AddInt64", "sync/atomic.LoadUint32", "(*internal/sync.Mutex).Lock", "internal/race.Disable", "sync/atomic.CompareAndSwapInt32", "internal/race.Enable", "internal/race.Acquire", "(*internal/sync.Mutex).lockSlow", "internal/sync.runtime_canSpin", "internal/sync.runtime_doSpin", "internal/sync.throw", "internal/sync.runtime_nanotime", "internal/sync.runtime_SemacquireMutex", "sync/atomic.AddInt32", "(*internal/sync.Mutex).Unlock", "internal/race.ReleaseMerge", "(*internal/sync.Mutex).unlockSlow", "internal/sync.fatal", "internal/sync.runtime_Semrelease", "sync/atomic.StoreUint32"], unfollowed := true, recurses := true, apart := false, narrowed := true }
def RopeBoundsUptoSaid : Prop := ropeBoundsUptoRow.holds Try.pinned (OpenSpec.upto ropeBoundsSpec)

/-- 'tmesislaw08.RopeBack', WHERE WHAT IT READS IS OF BULK AT MOST 1048576: true; the input reads as it did. -/
def ropeBackUptoRow : OpenClaim := { program := "yteaciponojocbaa", sum := "403b3d84aa04a88de99a4eb8156f12ef53e2a55a4207f87de61fec35760831ad", func := "tmesis/tmesislaw08.RopeBack", spec := "ropeBack", inPlace := ["sync/atomic.AddInt64", "sync/atomic.LoadUint32", "(*internal/sync.Mutex).Lock", "internal/race.Disable", "sync/atomic.CompareAndSwapInt32", "internal/race.Enable", "internal/race.Acquire", "(*internal/sync.Mutex).lockSlow", "internal/sync.runtime_canSpin", "internal/sync.runtime_doSpin", "internal/sync.throw", "internal/sync.runtime_nanotime", "internal/sync.runtime_SemacquireMutex", "sync/atomic.AddInt32", "(*internal/sync.Mutex).Unlock", "internal/race.ReleaseMerge", "(*internal/sync.Mutex).unlockSlow", "internal/sync.fatal", "internal/sync.runtime_Semrelease", "sync/atomic.StoreUint32"], unfollowed := true, recurses := true, apart := false, narrowed := true }
def RopeBackUptoSaid : Prop := ropeBackUptoRow.holds Try.pinned (OpenSpec.upto ropeBackSpec)

/-- 'tmesislaw08.RopeTwice', WHERE WHAT IT READS IS OF BULK AT MOST 1048576: true; the input reads as it did. -/
def ropeTwiceUptoRow : OpenClaim := { program := "yteaciponojocbaa", sum := "403b3d84aa04a88de99a4eb8156f12ef53e2a55a4207f87de61fec35760831ad", func := "tmesis/tmesislaw08.RopeTwice", spec := "ropeTwice", inPlace := ["sync/atomic.AddInt64", "sync/atomic.LoadUint32", "(*internal/sync.Mutex).Lock", "internal/race.Disable", "sync/atomic.CompareAndSwapInt32", "internal/race.Enable", "internal/race.Acquire", "(*internal/sync.Mutex).lockSlow", "internal/sync.runtime_canSpin", "internal/sync.runtime_doSpin", "internal/sync.throw", "internal/sync.runtime_nanotime", "internal/sync.runtime_SemacquireMutex", "sync/atomic.AddInt32", "(*internal/sync.Mutex).Unlock", "internal/race.ReleaseMerge", "(*internal/sync.Mutex).unlockSlow", "internal/sync.fatal", "internal/sync.runtime_Semrelease", "sync/atomic.StoreUint32"], unfollowed := true, recurses := true, apart := false, narrowed := true }
def RopeTwiceUptoSaid : Prop := ropeTwiceUptoRow.holds Try.pinned (OpenSpec.upto ropeTwiceSpec)

/-- 'tmesislaw08.RopeSlices', WHERE WHAT IT READS IS OF BULK AT MOST 1048576: true; the input reads as it did. -/
def ropeSlicesUptoRow : OpenClaim := { program := "yteaciponojocbaa", sum := "403b3d84aa04a88de99a4eb8156f12ef53e2a55a4207f87de61fec35760831ad", func := "tmesis/tmesislaw08.RopeSlices", spec := "ropeSlices", inPlace := ["sync/atomic.AddInt64", "sync/atomic.LoadUint32", "(*internal/sync.Mutex).Lock", "internal/race.Disable", "sync/atomic.CompareAndSwapInt32", "internal/race.Enable", "internal/race.Acquire", "(*internal/sync.Mutex).lockSlow", "internal/sync.runtime_canSpin", "internal/sync.runtime_doSpin", "internal/sync.throw", "internal/sync.runtime_nanotime", "internal/sync.runtime_SemacquireMutex", "sync/atomic.AddInt32", "(*internal/sync.Mutex).Unlock", "internal/race.ReleaseMerge", "(*internal/sync.Mutex).unlockSlow", "internal/sync.fatal", "internal/sync.runtime_Semrelease", "sync/atomic.StoreUint32"], unfollowed := true, recurses := true, apart := false, narrowed := true }
def RopeSlicesUptoSaid : Prop := ropeSlicesUptoRow.holds Try.pinned (OpenSpec.upto ropeSlicesSpec)

/-- 'tmesislaw08.RopePlays', WHERE WHAT IT READS IS OF BULK AT MOST 1048576: true; the input reads as it did. -/
def ropePlaysUptoRow : OpenClaim := { program := "yteaciponojocbaa", sum := "403b3d84aa04a88de99a4eb8156f12ef53e2a55a4207f87de61fec35760831ad", func := "tmesis/tmesislaw08.RopePlays", spec := "ropePlays", inPlace := ["sync/atomic.AddInt64", "sync/atomic.LoadUint32", "(*internal/sync.Mutex).Lock", "internal/race.Disable", "sync/atomic.CompareAndSwapInt32", "internal/race.Enable", "internal/race.Acquire", "(*internal/sync.Mutex).lockSlow", "internal/sync.runtime_canSpin", "internal/sync.runtime_doSpin", "internal/sync.throw", "internal/sync.runtime_nanotime", "internal/sync.runtime_SemacquireMutex", "sync/atomic.AddInt32", "(*internal/sync.Mutex).Unlock", "internal/race.ReleaseMerge", "(*internal/sync.Mutex).unlockSlow", "internal/sync.fatal", "internal/sync.runtime_Semrelease", "sync/atomic.StoreUint32"], unfollowed := true, recurses := true, apart := false, narrowed := true }
def RopePlaysUptoSaid : Prop := ropePlaysUptoRow.holds Try.pinned (OpenSpec.upto ropePlaysSpec)

/-- 'tmesislaw08.RopeGrows', WHERE WHAT IT READS IS OF BULK AT MOST 1048576: true; the input reads as it did. -/
def ropeGrowsUptoRow : OpenClaim := { program := "yteaciponojocbaa", sum := "403b3d84aa04a88de99a4eb8156f12ef53e2a55a4207f87de61fec35760831ad", func := "tmesis/tmesislaw08.RopeGrows", spec := "ropeGrows", inPlace := ["sync/atomic.AddInt64", "sync/atomic.LoadUint32", "(*internal/sync.Mutex).Lock", "internal/race.Disable", "sync/atomic.CompareAndSwapInt32", "internal/race.Enable", "internal/race.Acquire", "(*internal/sync.Mutex).lockSlow", "internal/sync.runtime_canSpin", "internal/sync.runtime_doSpin", "internal/sync.throw", "internal/sync.runtime_nanotime", "internal/sync.runtime_SemacquireMutex", "sync/atomic.AddInt32", "(*internal/sync.Mutex).Unlock", "internal/race.ReleaseMerge", "(*internal/sync.Mutex).unlockSlow", "internal/sync.fatal", "internal/sync.runtime_Semrelease", "sync/atomic.StoreUint32"], unfollowed := true, recurses := true, apart := false, narrowed := true }
def RopeGrowsUptoSaid : Prop := ropeGrowsUptoRow.holds Try.pinned (OpenSpec.upto ropeGrowsSpec)

end Rows
end Go.Proofs.Yteaciponojocbaa
