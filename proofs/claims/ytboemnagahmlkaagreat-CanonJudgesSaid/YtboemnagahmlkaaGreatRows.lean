/-
  No cell of these rows narrows 'for every input' (looked for: loops, veiled, ifaces, maps, wideKeys, modest, calm, conditions, laid).
  DERIVED. THE GIVEN ROWS OF THIS SEAT. 12 by the template 'for every input the law returns true; each argument reads behind the call as it read before'; 0 by the template 'total and deterministic' (their statements: YtboemnagahmlkaaGreatTotals.lean).
  GIVEN WITH THE SEED: the statements are not yours to turn. If you find one false, say at which input.
  Laid BY PROGRAM, IN A SANDBOX (cutbox-rows.mjs): the forced cells as the released guide's own fill.sh prints them over the translation f3c593aa63ac9d67… (all of the seat's roots in one cut). By AI agents, Wed Nov 11 2026. No macro, syntax, notation, axiom, sorry.
-/
import Derived.Test.YtboemnagahmlkaaGreatChecked
import GoSem.Claim
import GoSem.ClaimJoined
import GoSem.ClaimMapViews
import Derived.JoinedTies
import Derived.KernelRfl
namespace Go.Proofs.YtboemnagahmlkaaGreat
/- THE CELL 'sum', in the pinned program and in every row, IS THE sha256 OF THE DUMP (.gsa) THAT YtboemnagahmlkaaGreatProg.lean LOADS. Nothing in Lean hashes anything: it is a label: what it is worth is what the hold of that sum in a sandbox is worth. -/
noncomputable def Tryz.pinned : Pinned := { name := "ytboemnagahmlkaagreat", sum := "f3c593aa63ac9d6701d606e8ec1ca1ae026924f2e98e2d3f13568fa5824e3a6e", checked := Tryz.checked }
namespace Rows
def none {H : Type} : Left H := { results := [], args := [] }

/-- 'ligaturelaw18.CanonChecks': WHATEVER THE INPUT: true; the input reads as it did. -/
def canonChecksSpec : ChangeSpec := { name := "canonChecks", fn := fun _ => fun
  | [d1, d2] => { results := [.lit (.bool true)], args := [d1, d2] }
  | _ => none }
def canonChecksRow : OpenClaim := { program := "ytboemnagahmlkaagreat", sum := "f3c593aa63ac9d6701d606e8ec1ca1ae026924f2e98e2d3f13568fa5824e3a6e", func := "ligature/ligaturelaw18.CanonChecks", spec := "canonChecks", unfollowed := true, recurses := true, plainKeys := false, apart := false }
def CanonChecksSaid : Prop := canonChecksRow.holds Tryz.pinned (OpenSpec.ofChange canonChecksSpec)

/-- ITS FALSE NEIGHBOUR: 'it returns false'. Refute it at one input. -/
def canonChecksWrong : ChangeSpec := { name := "canonChecks", fn := fun _ => fun
  | [d1, d2] => { results := [.lit (.bool false)], args := [d1, d2] }
  | _ => none }
def CanonChecksWrongFalsely : Prop := canonChecksRow.holds Tryz.pinned (OpenSpec.ofChange canonChecksWrong)

/-- 'ligaturelaw16.FoldClasses': WHATEVER THE INPUT: true; the input reads as it did. -/
def foldClassesSpec : ChangeSpec := { name := "foldClasses", fn := fun _ => fun
  | [d1, d2] => { results := [.lit (.bool true)], args := [d1, d2] }
  | _ => none }
def foldClassesRow : OpenClaim := { program := "ytboemnagahmlkaagreat", sum := "f3c593aa63ac9d6701d606e8ec1ca1ae026924f2e98e2d3f13568fa5824e3a6e", func := "ligature/ligaturelaw16.FoldClasses", spec := "foldClasses", inPlace := ["sync/atomic.AddInt64", "sync/atomic.LoadUint32", "(*internal/sync.Mutex).Lock", "internal/race.Disable", "sync/atomic.CompareAndSwapInt32", "internal/race.Enable", "internal/race.Acquire", "(*internal/sync.Mutex).lockSlow", "internal/sync.runtime_canSpin", "internal/sync.runtime_doSpin", "internal/sync.throw", "internal/sync.runtime_nanotime", "internal/sync.runtime_SemacquireMutex", "sync/atomic.AddInt32", "(*internal/sync.Mutex).Unlock", "internal/race.ReleaseMerge", "(*internal/sync.Mutex).unlockSlow", "internal/sync.fatal", "internal/sync.runtime_Semrelease", "sync/atomic.StoreUint32"], unfollowed := true, recurses := true, plainKeys := false, apart := false }
def FoldClassesSaid : Prop := foldClassesRow.holds Tryz.pinned (OpenSpec.ofChange foldClassesSpec)

/-- ITS FALSE NEIGHBOUR: 'it returns false'. Refute it at one input. -/
def foldClassesWrong : ChangeSpec := { name := "foldClasses", fn := fun _ => fun
  | [d1, d2] => { results := [.lit (.bool false)], args := [d1, d2] }
  | _ => none }
def FoldClassesWrongFalsely : Prop := foldClassesRow.holds Tryz.pinned (OpenSpec.ofChange foldClassesWrong)

/-- 'ligaturelaw16.FoldTells': WHATEVER THE INPUT: true; the input reads as it did. -/
def foldTellsSpec : ChangeSpec := { name := "foldTells", fn := fun _ => fun
  | [d1, d2] => { results := [.lit (.bool true)], args := [d1, d2] }
  | _ => none }
def foldTellsRow : OpenClaim := { program := "ytboemnagahmlkaagreat", sum := "f3c593aa63ac9d6701d606e8ec1ca1ae026924f2e98e2d3f13568fa5824e3a6e", func := "ligature/ligaturelaw16.FoldTells", spec := "foldTells", inPlace := ["sync/atomic.AddInt64", "sync/atomic.LoadUint32", "(*internal/sync.Mutex).Lock", "internal/race.Disable", "sync/atomic.CompareAndSwapInt32", "internal/race.Enable", "internal/race.Acquire", "(*internal/sync.Mutex).lockSlow", "internal/sync.runtime_canSpin", "internal/sync.runtime_doSpin", "internal/sync.throw", "internal/sync.runtime_nanotime", "internal/sync.runtime_SemacquireMutex", "sync/atomic.AddInt32", "(*internal/sync.Mutex).Unlock", "internal/race.ReleaseMerge", "(*internal/sync.Mutex).unlockSlow", "internal/sync.fatal", "internal/sync.runtime_Semrelease", "sync/atomic.StoreUint32"], unfollowed := true, recurses := true, plainKeys := false, apart := false }
def FoldTellsSaid : Prop := foldTellsRow.holds Tryz.pinned (OpenSpec.ofChange foldTellsSpec)

/-- ITS FALSE NEIGHBOUR: 'it returns false'. Refute it at one input. -/
def foldTellsWrong : ChangeSpec := { name := "foldTells", fn := fun _ => fun
  | [d1, d2] => { results := [.lit (.bool false)], args := [d1, d2] }
  | _ => none }
def FoldTellsWrongFalsely : Prop := foldTellsRow.holds Tryz.pinned (OpenSpec.ofChange foldTellsWrong)

/-- 'ligaturelaw16.FoldNone': WHATEVER THE INPUT: true; the input reads as it did. -/
def foldNoneSpec : ChangeSpec := { name := "foldNone", fn := fun _ => fun
  | [d1, d2] => { results := [.lit (.bool true)], args := [d1, d2] }
  | _ => none }
def foldNoneRow : OpenClaim := { program := "ytboemnagahmlkaagreat", sum := "f3c593aa63ac9d6701d606e8ec1ca1ae026924f2e98e2d3f13568fa5824e3a6e", func := "ligature/ligaturelaw16.FoldNone", spec := "foldNone", inPlace := ["sync/atomic.AddInt64", "sync/atomic.LoadUint32", "(*internal/sync.Mutex).Lock", "internal/race.Disable", "sync/atomic.CompareAndSwapInt32", "internal/race.Enable", "internal/race.Acquire", "(*internal/sync.Mutex).lockSlow", "internal/sync.runtime_canSpin", "internal/sync.runtime_doSpin", "internal/sync.throw", "internal/sync.runtime_nanotime", "internal/sync.runtime_SemacquireMutex", "sync/atomic.AddInt32", "(*internal/sync.Mutex).Unlock", "internal/race.ReleaseMerge", "(*internal/sync.Mutex).unlockSlow", "internal/sync.fatal", "internal/sync.runtime_Semrelease", "sync/atomic.StoreUint32"], unfollowed := true, recurses := true, plainKeys := false, apart := false }
def FoldNoneSaid : Prop := foldNoneRow.holds Tryz.pinned (OpenSpec.ofChange foldNoneSpec)

/-- ITS FALSE NEIGHBOUR: 'it returns false'. Refute it at one input. -/
def foldNoneWrong : ChangeSpec := { name := "foldNone", fn := fun _ => fun
  | [d1, d2] => { results := [.lit (.bool false)], args := [d1, d2] }
  | _ => none }
def FoldNoneWrongFalsely : Prop := foldNoneRow.holds Tryz.pinned (OpenSpec.ofChange foldNoneWrong)

/-- 'ligaturelaw17.AutoAlike': WHATEVER THE INPUT: true; the input reads as it did. -/
def autoAlikeSpec : ChangeSpec := { name := "autoAlike", fn := fun _ => fun
  | [d1, d2, d3] => { results := [.lit (.bool true)], args := [d1, d2, d3] }
  | _ => none }
def autoAlikeRow : OpenClaim := { program := "ytboemnagahmlkaagreat", sum := "f3c593aa63ac9d6701d606e8ec1ca1ae026924f2e98e2d3f13568fa5824e3a6e", func := "ligature/ligaturelaw17.AutoAlike", spec := "autoAlike", inPlace := ["sync/atomic.AddInt64", "sync/atomic.LoadUint32", "(*internal/sync.Mutex).Lock", "internal/race.Disable", "sync/atomic.CompareAndSwapInt32", "internal/race.Enable", "internal/race.Acquire", "(*internal/sync.Mutex).lockSlow", "internal/sync.runtime_canSpin", "internal/sync.runtime_doSpin", "internal/sync.throw", "internal/sync.runtime_nanotime", "internal/sync.runtime_SemacquireMutex", "sync/atomic.AddInt32", "(*internal/sync.Mutex).Unlock", "internal/race.ReleaseMerge", "(*internal/sync.Mutex).unlockSlow", "internal/sync.fatal", "internal/sync.runtime_Semrelease", "sync/atomic.StoreUint32"], unfollowed := true, recurses := true, plainKeys := false, apart := false }
def AutoAlikeSaid : Prop := autoAlikeRow.holds Tryz.pinned (OpenSpec.ofChange autoAlikeSpec)

/-- ITS FALSE NEIGHBOUR: 'it returns false'. Refute it at one input. -/
def autoAlikeWrong : ChangeSpec := { name := "autoAlike", fn := fun _ => fun
  | [d1, d2, d3] => { results := [.lit (.bool false)], args := [d1, d2, d3] }
  | _ => none }
def AutoAlikeWrongFalsely : Prop := autoAlikeRow.holds Tryz.pinned (OpenSpec.ofChange autoAlikeWrong)

/-- 'ligaturelaw17.AutoLast': WHATEVER THE INPUT: true; the input reads as it did. -/
def autoLastSpec : ChangeSpec := { name := "autoLast", fn := fun _ => fun
  | [d1, d2, d3, d4] => { results := [.lit (.bool true)], args := [d1, d2, d3, d4] }
  | _ => none }
def autoLastRow : OpenClaim := { program := "ytboemnagahmlkaagreat", sum := "f3c593aa63ac9d6701d606e8ec1ca1ae026924f2e98e2d3f13568fa5824e3a6e", func := "ligature/ligaturelaw17.AutoLast", spec := "autoLast", inPlace := ["sync/atomic.AddInt64", "sync/atomic.LoadUint32", "(*internal/sync.Mutex).Lock", "internal/race.Disable", "sync/atomic.CompareAndSwapInt32", "internal/race.Enable", "internal/race.Acquire", "(*internal/sync.Mutex).lockSlow", "internal/sync.runtime_canSpin", "internal/sync.runtime_doSpin", "internal/sync.throw", "internal/sync.runtime_nanotime", "internal/sync.runtime_SemacquireMutex", "sync/atomic.AddInt32", "(*internal/sync.Mutex).Unlock", "internal/race.ReleaseMerge", "(*internal/sync.Mutex).unlockSlow", "internal/sync.fatal", "internal/sync.runtime_Semrelease", "sync/atomic.StoreUint32"], unfollowed := true, recurses := true, plainKeys := false, apart := false }
def AutoLastSaid : Prop := autoLastRow.holds Tryz.pinned (OpenSpec.ofChange autoLastSpec)

/-- ITS FALSE NEIGHBOUR: 'it returns false'. Refute it at one input. -/
def autoLastWrong : ChangeSpec := { name := "autoLast", fn := fun _ => fun
  | [d1, d2, d3, d4] => { results := [.lit (.bool false)], args := [d1, d2, d3, d4] }
  | _ => none }
def AutoLastWrongFalsely : Prop := autoLastRow.holds Tryz.pinned (OpenSpec.ofChange autoLastWrong)

/-- 'ligaturelaw17.AutoLeast': WHATEVER THE INPUT: true; the input reads as it did. -/
def autoLeastSpec : ChangeSpec := { name := "autoLeast", fn := fun _ => fun
  | [d] => { results := [.lit (.bool true)], args := [d] }
  | _ => none }
def autoLeastRow : OpenClaim := { program := "ytboemnagahmlkaagreat", sum := "f3c593aa63ac9d6701d606e8ec1ca1ae026924f2e98e2d3f13568fa5824e3a6e", func := "ligature/ligaturelaw17.AutoLeast", spec := "autoLeast", inPlace := ["sync/atomic.AddInt64", "sync/atomic.LoadUint32", "(*internal/sync.Mutex).Lock", "internal/race.Disable", "sync/atomic.CompareAndSwapInt32", "internal/race.Enable", "internal/race.Acquire", "(*internal/sync.Mutex).lockSlow", "internal/sync.runtime_canSpin", "internal/sync.runtime_doSpin", "internal/sync.throw", "internal/sync.runtime_nanotime", "internal/sync.runtime_SemacquireMutex", "sync/atomic.AddInt32", "(*internal/sync.Mutex).Unlock", "internal/race.ReleaseMerge", "(*internal/sync.Mutex).unlockSlow", "internal/sync.fatal", "internal/sync.runtime_Semrelease", "sync/atomic.StoreUint32"], unfollowed := true, recurses := true, plainKeys := false, apart := false }
def AutoLeastSaid : Prop := autoLeastRow.holds Tryz.pinned (OpenSpec.ofChange autoLeastSpec)

/-- ITS FALSE NEIGHBOUR: 'it returns false'. Refute it at one input. -/
def autoLeastWrong : ChangeSpec := { name := "autoLeast", fn := fun _ => fun
  | [d] => { results := [.lit (.bool false)], args := [d] }
  | _ => none }
def AutoLeastWrongFalsely : Prop := autoLeastRow.holds Tryz.pinned (OpenSpec.ofChange autoLeastWrong)

/-- 'ligaturelaw32.MaskNext': WHATEVER THE INPUT: true; the input reads as it did. -/
def maskNextSpec : ChangeSpec := { name := "maskNext", fn := fun _ => fun
  | [d1, d2, d3, d4] => { results := [.lit (.bool true)], args := [d1, d2, d3, d4] }
  | _ => none }
def maskNextRow : OpenClaim := { program := "ytboemnagahmlkaagreat", sum := "f3c593aa63ac9d6701d606e8ec1ca1ae026924f2e98e2d3f13568fa5824e3a6e", func := "ligature/ligaturelaw32.MaskNext", spec := "maskNext", inPlace := ["sync/atomic.AddInt64", "sync/atomic.LoadUint32", "(*internal/sync.Mutex).Lock", "internal/race.Disable", "sync/atomic.CompareAndSwapInt32", "internal/race.Enable", "internal/race.Acquire", "(*internal/sync.Mutex).lockSlow", "internal/sync.runtime_canSpin", "internal/sync.runtime_doSpin", "internal/sync.throw", "internal/sync.runtime_nanotime", "internal/sync.runtime_SemacquireMutex", "sync/atomic.AddInt32", "(*internal/sync.Mutex).Unlock", "internal/race.ReleaseMerge", "(*internal/sync.Mutex).unlockSlow", "internal/sync.fatal", "internal/sync.runtime_Semrelease", "sync/atomic.StoreUint32"], unfollowed := true, recurses := true, plainKeys := false, apart := false }
def MaskNextSaid : Prop := maskNextRow.holds Tryz.pinned (OpenSpec.ofChange maskNextSpec)

/-- ITS FALSE NEIGHBOUR: 'it returns false'. Refute it at one input. -/
def maskNextWrong : ChangeSpec := { name := "maskNext", fn := fun _ => fun
  | [d1, d2, d3, d4] => { results := [.lit (.bool false)], args := [d1, d2, d3, d4] }
  | _ => none }
def MaskNextWrongFalsely : Prop := maskNextRow.holds Tryz.pinned (OpenSpec.ofChange maskNextWrong)

/-- 'ligaturelaw32.MaskEnds': WHATEVER THE INPUT: true; the input reads as it did. -/
def maskEndsSpec : ChangeSpec := { name := "maskEnds", fn := fun _ => fun
  | [d1, d2, d3] => { results := [.lit (.bool true)], args := [d1, d2, d3] }
  | _ => none }
def maskEndsRow : OpenClaim := { program := "ytboemnagahmlkaagreat", sum := "f3c593aa63ac9d6701d606e8ec1ca1ae026924f2e98e2d3f13568fa5824e3a6e", func := "ligature/ligaturelaw32.MaskEnds", spec := "maskEnds", inPlace := ["sync/atomic.AddInt64", "sync/atomic.LoadUint32", "(*internal/sync.Mutex).Lock", "internal/race.Disable", "sync/atomic.CompareAndSwapInt32", "internal/race.Enable", "internal/race.Acquire", "(*internal/sync.Mutex).lockSlow", "internal/sync.runtime_canSpin", "internal/sync.runtime_doSpin", "internal/sync.throw", "internal/sync.runtime_nanotime", "internal/sync.runtime_SemacquireMutex", "sync/atomic.AddInt32", "(*internal/sync.Mutex).Unlock", "internal/race.ReleaseMerge", "(*internal/sync.Mutex).unlockSlow", "internal/sync.fatal", "internal/sync.runtime_Semrelease", "sync/atomic.StoreUint32"], unfollowed := true, recurses := true, plainKeys := false, apart := false }
def MaskEndsSaid : Prop := maskEndsRow.holds Tryz.pinned (OpenSpec.ofChange maskEndsSpec)

/-- ITS FALSE NEIGHBOUR: 'it returns false'. Refute it at one input. -/
def maskEndsWrong : ChangeSpec := { name := "maskEnds", fn := fun _ => fun
  | [d1, d2, d3] => { results := [.lit (.bool false)], args := [d1, d2, d3] }
  | _ => none }
def MaskEndsWrongFalsely : Prop := maskEndsRow.holds Tryz.pinned (OpenSpec.ofChange maskEndsWrong)

/-- 'ligaturelaw17.AutoReads': WHATEVER THE INPUT: true; the input reads as it did. -/
def autoReadsSpec : ChangeSpec := { name := "autoReads", fn := fun _ => fun
  | [d1, d2] => { results := [.lit (.bool true)], args := [d1, d2] }
  | _ => none }
def autoReadsRow : OpenClaim := { program := "ytboemnagahmlkaagreat", sum := "f3c593aa63ac9d6701d606e8ec1ca1ae026924f2e98e2d3f13568fa5824e3a6e", func := "ligature/ligaturelaw17.AutoReads", spec := "autoReads", inPlace := ["sync/atomic.AddInt64", "sync/atomic.LoadUint32", "(*internal/sync.Mutex).Lock", "internal/race.Disable", "sync/atomic.CompareAndSwapInt32", "internal/race.Enable", "internal/race.Acquire", "(*internal/sync.Mutex).lockSlow", "internal/sync.runtime_canSpin", "internal/sync.runtime_doSpin", "internal/sync.throw", "internal/sync.runtime_nanotime", "internal/sync.runtime_SemacquireMutex", "sync/atomic.AddInt32", "(*internal/sync.Mutex).Unlock", "internal/race.ReleaseMerge", "(*internal/sync.Mutex).unlockSlow", "internal/sync.fatal", "internal/sync.runtime_Semrelease", "sync/atomic.StoreUint32"], unfollowed := true, recurses := true, plainKeys := false, apart := false }
def AutoReadsSaid : Prop := autoReadsRow.holds Tryz.pinned (OpenSpec.ofChange autoReadsSpec)

/-- ITS FALSE NEIGHBOUR: 'it returns false'. Refute it at one input. -/
def autoReadsWrong : ChangeSpec := { name := "autoReads", fn := fun _ => fun
  | [d1, d2] => { results := [.lit (.bool false)], args := [d1, d2] }
  | _ => none }
def AutoReadsWrongFalsely : Prop := autoReadsRow.holds Tryz.pinned (OpenSpec.ofChange autoReadsWrong)

/-- 'ligaturelaw17.AutoNone': WHATEVER THE INPUT: true; the input reads as it did. -/
def autoNoneSpec : ChangeSpec := { name := "autoNone", fn := fun _ => fun
  | [d1, d2] => { results := [.lit (.bool true)], args := [d1, d2] }
  | _ => none }
def autoNoneRow : OpenClaim := { program := "ytboemnagahmlkaagreat", sum := "f3c593aa63ac9d6701d606e8ec1ca1ae026924f2e98e2d3f13568fa5824e3a6e", func := "ligature/ligaturelaw17.AutoNone", spec := "autoNone", inPlace := ["sync/atomic.LoadUint32", "(*internal/sync.Mutex).Lock", "internal/race.Disable", "sync/atomic.CompareAndSwapInt32", "internal/race.Enable", "internal/race.Acquire", "(*internal/sync.Mutex).lockSlow", "internal/sync.runtime_canSpin", "internal/sync.runtime_doSpin", "internal/sync.throw", "internal/sync.runtime_nanotime", "internal/sync.runtime_SemacquireMutex", "sync/atomic.AddInt32", "(*internal/sync.Mutex).Unlock", "internal/race.ReleaseMerge", "(*internal/sync.Mutex).unlockSlow", "internal/sync.fatal", "internal/sync.runtime_Semrelease", "sync/atomic.StoreUint32", "sync/atomic.AddInt64"], unfollowed := true, recurses := true, plainKeys := false, apart := false }
def AutoNoneSaid : Prop := autoNoneRow.holds Tryz.pinned (OpenSpec.ofChange autoNoneSpec)

/-- ITS FALSE NEIGHBOUR: 'it returns false'. Refute it at one input. -/
def autoNoneWrong : ChangeSpec := { name := "autoNone", fn := fun _ => fun
  | [d1, d2] => { results := [.lit (.bool false)], args := [d1, d2] }
  | _ => none }
def AutoNoneWrongFalsely : Prop := autoNoneRow.holds Tryz.pinned (OpenSpec.ofChange autoNoneWrong)

/-- 'ligaturelaw18.CanonJudges': WHATEVER THE INPUT: true; the input reads as it did. -/
def canonJudgesSpec : ChangeSpec := { name := "canonJudges", fn := fun _ => fun
  | [d1, d2] => { results := [.lit (.bool true)], args := [d1, d2] }
  | _ => none }
def canonJudgesRow : OpenClaim := { program := "ytboemnagahmlkaagreat", sum := "f3c593aa63ac9d6701d606e8ec1ca1ae026924f2e98e2d3f13568fa5824e3a6e", func := "ligature/ligaturelaw18.CanonJudges", spec := "canonJudges", inPlace := ["sync/atomic.AddInt64", "sync/atomic.LoadUint32", "(*internal/sync.Mutex).Lock", "internal/race.Disable", "sync/atomic.CompareAndSwapInt32", "internal/race.Enable", "internal/race.Acquire", "(*internal/sync.Mutex).lockSlow", "internal/sync.runtime_canSpin", "internal/sync.runtime_doSpin", "internal/sync.throw", "internal/sync.runtime_nanotime", "internal/sync.runtime_SemacquireMutex", "sync/atomic.AddInt32", "(*internal/sync.Mutex).Unlock", "internal/race.ReleaseMerge", "(*internal/sync.Mutex).unlockSlow", "internal/sync.fatal", "internal/sync.runtime_Semrelease", "sync/atomic.StoreUint32"], unfollowed := true, recurses := true, plainKeys := false, apart := false }
def CanonJudgesSaid : Prop := canonJudgesRow.holds Tryz.pinned (OpenSpec.ofChange canonJudgesSpec)

/-- ITS FALSE NEIGHBOUR: 'it returns false'. Refute it at one input. -/
def canonJudgesWrong : ChangeSpec := { name := "canonJudges", fn := fun _ => fun
  | [d1, d2] => { results := [.lit (.bool false)], args := [d1, d2] }
  | _ => none }
def CanonJudgesWrongFalsely : Prop := canonJudgesRow.holds Tryz.pinned (OpenSpec.ofChange canonJudgesWrong)

/- THE SECOND FORM. 'bulk': how many values and letters a reading holds, each counted each time it is reached (what is shared counts as often as it is met; a slice's spare places count too). A statement '..UptoSaid' is the law's where the arguments, and the package variables that the reading takes, are together of bulk at most 1048576: NARROWER than '..Said'. Prove '..Said' where nothing that the law and all that it calls make is longer than what came in: it says more and counts as full. Else prove '..UptoSaid'. A law counts once. -/
mutual
def uptoBulk {H : Type} : DataW H → Nat
  | .lit (.string bytes) => bytes.length + 1
  | .lit _ => 1
  | .nil => 1
  | .ptr d => uptoBulk d + 1
  | .slice elems spare => uptoBulkAll elems + uptoBulkAll spare + 1
  | .agg parts => uptoBulkAll parts + 1
  | .iface _ d => uptoBulk d + 1
  | .map entries => uptoBulkEntries entries + 1
  | .held _ => 1
def uptoBulkAll {H : Type} : List (DataW H) → Nat
  | [] => 0
  | d :: r => uptoBulk d + uptoBulkAll r
def uptoBulkEntries {H : Type} : List (Lit × DataW H) → Nat
  | [] => 0
  | x :: r => uptoBulkEntry x + uptoBulkEntries r
def uptoBulkEntry {H : Type} : Lit × DataW H → Nat
  | (.string bytes, d) => bytes.length + uptoBulk d + 1
  | (_, d) => uptoBulk d + 1
 end
def uptoSmall : (H : Type) → List (DataW H) → Bool := fun _ ds => decide (uptoBulkAll ds ≤ 1048576)
def OpenSpec.upto (s : _root_.Go.ChangeSpec) : _root_.Go.OpenSpec := { _root_.Go.OpenSpec.ofChange s with cond := some uptoSmall }

/-- 'ligaturelaw18.CanonChecks', WHERE WHAT IT READS IS OF BULK AT MOST 1048576: true; the input reads as it did. -/
def canonChecksUptoRow : OpenClaim := { program := "ytboemnagahmlkaagreat", sum := "f3c593aa63ac9d6701d606e8ec1ca1ae026924f2e98e2d3f13568fa5824e3a6e", func := "ligature/ligaturelaw18.CanonChecks", spec := "canonChecks", unfollowed := true, recurses := true, plainKeys := false, apart := false, narrowed := true }
def CanonChecksUptoSaid : Prop := canonChecksUptoRow.holds Tryz.pinned (OpenSpec.upto canonChecksSpec)

/-- 'ligaturelaw16.FoldClasses', WHERE WHAT IT READS IS OF BULK AT MOST 1048576: true; the input reads as it did. -/
def foldClassesUptoRow : OpenClaim := { program := "ytboemnagahmlkaagreat", sum := "f3c593aa63ac9d6701d606e8ec1ca1ae026924f2e98e2d3f13568fa5824e3a6e", func := "ligature/ligaturelaw16.FoldClasses", spec := "foldClasses", inPlace := ["sync/atomic.AddInt64", "sync/atomic.LoadUint32", "(*internal/sync.Mutex).Lock", "internal/race.Disable", "sync/atomic.CompareAndSwapInt32", "internal/race.Enable", "internal/race.Acquire", "(*internal/sync.Mutex).lockSlow", "internal/sync.runtime_canSpin", "internal/sync.runtime_doSpin", "internal/sync.throw", "internal/sync.runtime_nanotime", "internal/sync.runtime_SemacquireMutex", "sync/atomic.AddInt32", "(*internal/sync.Mutex).Unlock", "internal/race.ReleaseMerge", "(*internal/sync.Mutex).unlockSlow", "internal/sync.fatal", "internal/sync.runtime_Semrelease", "sync/atomic.StoreUint32"], unfollowed := true, recurses := true, plainKeys := false, apart := false, narrowed := true }
def FoldClassesUptoSaid : Prop := foldClassesUptoRow.holds Tryz.pinned (OpenSpec.upto foldClassesSpec)

/-- 'ligaturelaw16.FoldTells', WHERE WHAT IT READS IS OF BULK AT MOST 1048576: true; the input reads as it did. -/
def foldTellsUptoRow : OpenClaim := { program := "ytboemnagahmlkaagreat", sum := "f3c593aa63ac9d6701d606e8ec1ca1ae026924f2e98e2d3f13568fa5824e3a6e", func := "ligature/ligaturelaw16.FoldTells", spec := "foldTells", inPlace := ["sync/atomic.AddInt64", "sync/atomic.LoadUint32", "(*internal/sync.Mutex).Lock", "internal/race.Disable", "sync/atomic.CompareAndSwapInt32", "internal/race.Enable", "internal/race.Acquire", "(*internal/sync.Mutex).lockSlow", "internal/sync.runtime_canSpin", "internal/sync.runtime_doSpin", "internal/sync.throw", "internal/sync.runtime_nanotime", "internal/sync.runtime_SemacquireMutex", "sync/atomic.AddInt32", "(*internal/sync.Mutex).Unlock", "internal/race.ReleaseMerge", "(*internal/sync.Mutex).unlockSlow", "internal/sync.fatal", "internal/sync.runtime_Semrelease", "sync/atomic.StoreUint32"], unfollowed := true, recurses := true, plainKeys := false, apart := false, narrowed := true }
def FoldTellsUptoSaid : Prop := foldTellsUptoRow.holds Tryz.pinned (OpenSpec.upto foldTellsSpec)

/-- 'ligaturelaw16.FoldNone', WHERE WHAT IT READS IS OF BULK AT MOST 1048576: true; the input reads as it did. -/
def foldNoneUptoRow : OpenClaim := { program := "ytboemnagahmlkaagreat", sum := "f3c593aa63ac9d6701d606e8ec1ca1ae026924f2e98e2d3f13568fa5824e3a6e", func := "ligature/ligaturelaw16.FoldNone", spec := "foldNone", inPlace := ["sync/atomic.AddInt64", "sync/atomic.LoadUint32", "(*internal/sync.Mutex).Lock", "internal/race.Disable", "sync/atomic.CompareAndSwapInt32", "internal/race.Enable", "internal/race.Acquire", "(*internal/sync.Mutex).lockSlow", "internal/sync.runtime_canSpin", "internal/sync.runtime_doSpin", "internal/sync.throw", "internal/sync.runtime_nanotime", "internal/sync.runtime_SemacquireMutex", "sync/atomic.AddInt32", "(*internal/sync.Mutex).Unlock", "internal/race.ReleaseMerge", "(*internal/sync.Mutex).unlockSlow", "internal/sync.fatal", "internal/sync.runtime_Semrelease", "sync/atomic.StoreUint32"], unfollowed := true, recurses := true, plainKeys := false, apart := false, narrowed := true }
def FoldNoneUptoSaid : Prop := foldNoneUptoRow.holds Tryz.pinned (OpenSpec.upto foldNoneSpec)

/-- 'ligaturelaw17.AutoAlike', WHERE WHAT IT READS IS OF BULK AT MOST 1048576: true; the input reads as it did. -/
def autoAlikeUptoRow : OpenClaim := { program := "ytboemnagahmlkaagreat", sum := "f3c593aa63ac9d6701d606e8ec1ca1ae026924f2e98e2d3f13568fa5824e3a6e", func := "ligature/ligaturelaw17.AutoAlike", spec := "autoAlike", inPlace := ["sync/atomic.AddInt64", "sync/atomic.LoadUint32", "(*internal/sync.Mutex).Lock", "internal/race.Disable", "sync/atomic.CompareAndSwapInt32", "internal/race.Enable", "internal/race.Acquire", "(*internal/sync.Mutex).lockSlow", "internal/sync.runtime_canSpin", "internal/sync.runtime_doSpin", "internal/sync.throw", "internal/sync.runtime_nanotime", "internal/sync.runtime_SemacquireMutex", "sync/atomic.AddInt32", "(*internal/sync.Mutex).Unlock", "internal/race.ReleaseMerge", "(*internal/sync.Mutex).unlockSlow", "internal/sync.fatal", "internal/sync.runtime_Semrelease", "sync/atomic.StoreUint32"], unfollowed := true, recurses := true, plainKeys := false, apart := false, narrowed := true }
def AutoAlikeUptoSaid : Prop := autoAlikeUptoRow.holds Tryz.pinned (OpenSpec.upto autoAlikeSpec)

/-- 'ligaturelaw17.AutoLast', WHERE WHAT IT READS IS OF BULK AT MOST 1048576: true; the input reads as it did. -/
def autoLastUptoRow : OpenClaim := { program := "ytboemnagahmlkaagreat", sum := "f3c593aa63ac9d6701d606e8ec1ca1ae026924f2e98e2d3f13568fa5824e3a6e", func := "ligature/ligaturelaw17.AutoLast", spec := "autoLast", inPlace := ["sync/atomic.AddInt64", "sync/atomic.LoadUint32", "(*internal/sync.Mutex).Lock", "internal/race.Disable", "sync/atomic.CompareAndSwapInt32", "internal/race.Enable", "internal/race.Acquire", "(*internal/sync.Mutex).lockSlow", "internal/sync.runtime_canSpin", "internal/sync.runtime_doSpin", "internal/sync.throw", "internal/sync.runtime_nanotime", "internal/sync.runtime_SemacquireMutex", "sync/atomic.AddInt32", "(*internal/sync.Mutex).Unlock", "internal/race.ReleaseMerge", "(*internal/sync.Mutex).unlockSlow", "internal/sync.fatal", "internal/sync.runtime_Semrelease", "sync/atomic.StoreUint32"], unfollowed := true, recurses := true, plainKeys := false, apart := false, narrowed := true }
def AutoLastUptoSaid : Prop := autoLastUptoRow.holds Tryz.pinned (OpenSpec.upto autoLastSpec)

/-- 'ligaturelaw17.AutoLeast', WHERE WHAT IT READS IS OF BULK AT MOST 1048576: true; the input reads as it did. -/
def autoLeastUptoRow : OpenClaim := { program := "ytboemnagahmlkaagreat", sum := "f3c593aa63ac9d6701d606e8ec1ca1ae026924f2e98e2d3f13568fa5824e3a6e", func := "ligature/ligaturelaw17.AutoLeast", spec := "autoLeast", inPlace := ["sync/atomic.AddInt64", "sync/atomic.LoadUint32", "(*internal/sync.Mutex).Lock", "internal/race.Disable", "sync/atomic.CompareAndSwapInt32", "internal/race.Enable", "internal/race.Acquire", "(*internal/sync.Mutex).lockSlow", "internal/sync.runtime_canSpin", "internal/sync.runtime_doSpin", "internal/sync.throw", "internal/sync.runtime_nanotime", "internal/sync.runtime_SemacquireMutex", "sync/atomic.AddInt32", "(*internal/sync.Mutex).Unlock", "internal/race.ReleaseMerge", "(*internal/sync.Mutex).unlockSlow", "internal/sync.fatal", "internal/sync.runtime_Semrelease", "sync/atomic.StoreUint32"], unfollowed := true, recurses := true, plainKeys := false, apart := false, narrowed := true }
def AutoLeastUptoSaid : Prop := autoLeastUptoRow.holds Tryz.pinned (OpenSpec.upto autoLeastSpec)

/-- 'ligaturelaw32.MaskNext', WHERE WHAT IT READS IS OF BULK AT MOST 1048576: true; the input reads as it did. -/
def maskNextUptoRow : OpenClaim := { program := "ytboemnagahmlkaagreat", sum := "f3c593aa63ac9d6701d606e8ec1ca1ae026924f2e98e2d3f13568fa5824e3a6e", func := "ligature/ligaturelaw32.MaskNext", spec := "maskNext", inPlace := ["sync/atomic.AddInt64", "sync/atomic.LoadUint32", "(*internal/sync.Mutex).Lock", "internal/race.Disable", "sync/atomic.CompareAndSwapInt32", "internal/race.Enable", "internal/race.Acquire", "(*internal/sync.Mutex).lockSlow", "internal/sync.runtime_canSpin", "internal/sync.runtime_doSpin", "internal/sync.throw", "internal/sync.runtime_nanotime", "internal/sync.runtime_SemacquireMutex", "sync/atomic.AddInt32", "(*internal/sync.Mutex).Unlock", "internal/race.ReleaseMerge", "(*internal/sync.Mutex).unlockSlow", "internal/sync.fatal", "internal/sync.runtime_Semrelease", "sync/atomic.StoreUint32"], unfollowed := true, recurses := true, plainKeys := false, apart := false, narrowed := true }
def MaskNextUptoSaid : Prop := maskNextUptoRow.holds Tryz.pinned (OpenSpec.upto maskNextSpec)

/-- 'ligaturelaw32.MaskEnds', WHERE WHAT IT READS IS OF BULK AT MOST 1048576: true; the input reads as it did. -/
def maskEndsUptoRow : OpenClaim := { program := "ytboemnagahmlkaagreat", sum := "f3c593aa63ac9d6701d606e8ec1ca1ae026924f2e98e2d3f13568fa5824e3a6e", func := "ligature/ligaturelaw32.MaskEnds", spec := "maskEnds", inPlace := ["sync/atomic.AddInt64", "sync/atomic.LoadUint32", "(*internal/sync.Mutex).Lock", "internal/race.Disable", "sync/atomic.CompareAndSwapInt32", "internal/race.Enable", "internal/race.Acquire", "(*internal/sync.Mutex).lockSlow", "internal/sync.runtime_canSpin", "internal/sync.runtime_doSpin", "internal/sync.throw", "internal/sync.runtime_nanotime", "internal/sync.runtime_SemacquireMutex", "sync/atomic.AddInt32", "(*internal/sync.Mutex).Unlock", "internal/race.ReleaseMerge", "(*internal/sync.Mutex).unlockSlow", "internal/sync.fatal", "internal/sync.runtime_Semrelease", "sync/atomic.StoreUint32"], unfollowed := true, recurses := true, plainKeys := false, apart := false, narrowed := true }
def MaskEndsUptoSaid : Prop := maskEndsUptoRow.holds Tryz.pinned (OpenSpec.upto maskEndsSpec)

/-- 'ligaturelaw17.AutoReads', WHERE WHAT IT READS IS OF BULK AT MOST 1048576: true; the input reads as it did. -/
def autoReadsUptoRow : OpenClaim := { program := "ytboemnagahmlkaagreat", sum := "f3c593aa63ac9d6701d606e8ec1ca1ae026924f2e98e2d3f13568fa5824e3a6e", func := "ligature/ligaturelaw17.AutoReads", spec := "autoReads", inPlace := ["sync/atomic.AddInt64", "sync/atomic.LoadUint32", "(*internal/sync.Mutex).Lock", "internal/race.Disable", "sync/atomic.CompareAndSwapInt32", "internal/race.Enable", "internal/race.Acquire", "(*internal/sync.Mutex).lockSlow", "internal/sync.runtime_canSpin", "internal/sync.runtime_doSpin", "internal/sync.throw", "internal/sync.runtime_nanotime", "internal/sync.runtime_SemacquireMutex", "sync/atomic.AddInt32", "(*internal/sync.Mutex).Unlock", "internal/race.ReleaseMerge", "(*internal/sync.Mutex).unlockSlow", "internal/sync.fatal", "internal/sync.runtime_Semrelease", "sync/atomic.StoreUint32"], unfollowed := true, recurses := true, plainKeys := false, apart := false, narrowed := true }
def AutoReadsUptoSaid : Prop := autoReadsUptoRow.holds Tryz.pinned (OpenSpec.upto autoReadsSpec)

/-- 'ligaturelaw17.AutoNone', WHERE WHAT IT READS IS OF BULK AT MOST 1048576: true; the input reads as it did. -/
def autoNoneUptoRow : OpenClaim := { program := "ytboemnagahmlkaagreat", sum := "f3c593aa63ac9d6701d606e8ec1ca1ae026924f2e98e2d3f13568fa5824e3a6e", func := "ligature/ligaturelaw17.AutoNone", spec := "autoNone", inPlace := ["sync/atomic.LoadUint32", "(*internal/sync.Mutex).Lock", "internal/race.Disable", "sync/atomic.CompareAndSwapInt32", "internal/race.Enable", "internal/race.Acquire", "(*internal/sync.Mutex).lockSlow", "internal/sync.runtime_canSpin", "internal/sync.runtime_doSpin", "internal/sync.throw", "internal/sync.runtime_nanotime", "internal/sync.runtime_SemacquireMutex", "sync/atomic.AddInt32", "(*internal/sync.Mutex).Unlock", "internal/race.ReleaseMerge", "(*internal/sync.Mutex).unlockSlow", "internal/sync.fatal", "internal/sync.runtime_Semrelease", "sync/atomic.StoreUint32", "sync/atomic.AddInt64"], unfollowed := true, recurses := true, plainKeys := false, apart := false, narrowed := true }
def AutoNoneUptoSaid : Prop := autoNoneUptoRow.holds Tryz.pinned (OpenSpec.upto autoNoneSpec)

/-- 'ligaturelaw18.CanonJudges', WHERE WHAT IT READS IS OF BULK AT MOST 1048576: true; the input reads as it did. -/
def canonJudgesUptoRow : OpenClaim := { program := "ytboemnagahmlkaagreat", sum := "f3c593aa63ac9d6701d606e8ec1ca1ae026924f2e98e2d3f13568fa5824e3a6e", func := "ligature/ligaturelaw18.CanonJudges", spec := "canonJudges", inPlace := ["sync/atomic.AddInt64", "sync/atomic.LoadUint32", "(*internal/sync.Mutex).Lock", "internal/race.Disable", "sync/atomic.CompareAndSwapInt32", "internal/race.Enable", "internal/race.Acquire", "(*internal/sync.Mutex).lockSlow", "internal/sync.runtime_canSpin", "internal/sync.runtime_doSpin", "internal/sync.throw", "internal/sync.runtime_nanotime", "internal/sync.runtime_SemacquireMutex", "sync/atomic.AddInt32", "(*internal/sync.Mutex).Unlock", "internal/race.ReleaseMerge", "(*internal/sync.Mutex).unlockSlow", "internal/sync.fatal", "internal/sync.runtime_Semrelease", "sync/atomic.StoreUint32"], unfollowed := true, recurses := true, plainKeys := false, apart := false, narrowed := true }
def CanonJudgesUptoSaid : Prop := canonJudgesUptoRow.holds Tryz.pinned (OpenSpec.upto canonJudgesSpec)

end Rows
end Go.Proofs.YtboemnagahmlkaaGreat
