/-
  No cell of these rows narrows 'for every input' (looked for: loops, veiled, ifaces, maps, wideKeys, modest, calm, conditions, laid).
  DERIVED. THE GIVEN ROWS OF THIS SEAT. 12 by the template 'for every input the law returns true; each argument reads behind the call as it read before'; 0 by the template 'total and deterministic' (their statements: YtpklkijdlnioaaaGreatTotals.lean).
  GIVEN WITH THE SEED: the statements are not yours to turn. If you find one false, say at which input.
  Laid BY PROGRAM, IN A SANDBOX (cutbox-rows.mjs): the forced cells as the released guide's own fill.sh prints them over the translation dd012ebdd08f8592… (all of the seat's roots in one cut). By AI agents, Wed Nov 11 2026. No macro, syntax, notation, axiom, sorry.
-/
import Derived.Test.YtpklkijdlnioaaaGreatChecked
import GoSem.Claim
import GoSem.ClaimJoined
import GoSem.ClaimMapViews
import Derived.JoinedTies
import Derived.KernelRfl
namespace Go.Proofs.YtpklkijdlnioaaaGreat
/- THE CELL 'sum', in the pinned program and in every row, IS THE sha256 OF THE DUMP (.gsa) THAT YtpklkijdlnioaaaGreatProg.lean LOADS. Nothing in Lean hashes anything: it is a label: what it is worth is what the hold of that sum in a sandbox is worth. -/
noncomputable def Tryz.pinned : Pinned := { name := "ytpklkijdlnioaaagreat", sum := "dd012ebdd08f8592fabacce312b8322242297c25e10e6e7512167500dc5668f7", checked := Tryz.checked }
namespace Rows
def none {H : Type} : Left H := { results := [], args := [] }

/-- 'ligaturelaw18.CanonNever': WHATEVER THE INPUT: true; the input reads as it did. -/
def canonNeverSpec : ChangeSpec := { name := "canonNever", fn := fun _ => fun
  | [d1, d2, d3] => { results := [.lit (.bool true)], args := [d1, d2, d3] }
  | _ => none }
def canonNeverRow : OpenClaim := { program := "ytpklkijdlnioaaagreat", sum := "dd012ebdd08f8592fabacce312b8322242297c25e10e6e7512167500dc5668f7", func := "ligature/ligaturelaw18.CanonNever", spec := "canonNever", unfollowed := true, recurses := true, plainKeys := false, apart := false }
def CanonNeverSaid : Prop := canonNeverRow.holds Tryz.pinned (OpenSpec.ofChange canonNeverSpec)

/-- ITS FALSE NEIGHBOUR: 'it returns false'. Refute it at one input. -/
def canonNeverWrong : ChangeSpec := { name := "canonNever", fn := fun _ => fun
  | [d1, d2, d3] => { results := [.lit (.bool false)], args := [d1, d2, d3] }
  | _ => none }
def CanonNeverWrongFalsely : Prop := canonNeverRow.holds Tryz.pinned (OpenSpec.ofChange canonNeverWrong)

/-- 'ligaturelaw18.CanonMakes': WHATEVER THE INPUT: true; the input reads as it did. -/
def canonMakesSpec : ChangeSpec := { name := "canonMakes", fn := fun _ => fun
  | [d1, d2] => { results := [.lit (.bool true)], args := [d1, d2] }
  | _ => none }
def canonMakesRow : OpenClaim := { program := "ytpklkijdlnioaaagreat", sum := "dd012ebdd08f8592fabacce312b8322242297c25e10e6e7512167500dc5668f7", func := "ligature/ligaturelaw18.CanonMakes", spec := "canonMakes", unfollowed := true, recurses := true, plainKeys := false, apart := false }
def CanonMakesSaid : Prop := canonMakesRow.holds Tryz.pinned (OpenSpec.ofChange canonMakesSpec)

/-- ITS FALSE NEIGHBOUR: 'it returns false'. Refute it at one input. -/
def canonMakesWrong : ChangeSpec := { name := "canonMakes", fn := fun _ => fun
  | [d1, d2] => { results := [.lit (.bool false)], args := [d1, d2] }
  | _ => none }
def CanonMakesWrongFalsely : Prop := canonMakesRow.holds Tryz.pinned (OpenSpec.ofChange canonMakesWrong)

/-- 'ligaturelaw18.CanonChecks': WHATEVER THE INPUT: true; the input reads as it did. -/
def canonChecksSpec : ChangeSpec := { name := "canonChecks", fn := fun _ => fun
  | [d1, d2] => { results := [.lit (.bool true)], args := [d1, d2] }
  | _ => none }
def canonChecksRow : OpenClaim := { program := "ytpklkijdlnioaaagreat", sum := "dd012ebdd08f8592fabacce312b8322242297c25e10e6e7512167500dc5668f7", func := "ligature/ligaturelaw18.CanonChecks", spec := "canonChecks", unfollowed := true, recurses := true, plainKeys := false, apart := false }
def CanonChecksSaid : Prop := canonChecksRow.holds Tryz.pinned (OpenSpec.ofChange canonChecksSpec)

/-- ITS FALSE NEIGHBOUR: 'it returns false'. Refute it at one input. -/
def canonChecksWrong : ChangeSpec := { name := "canonChecks", fn := fun _ => fun
  | [d1, d2] => { results := [.lit (.bool false)], args := [d1, d2] }
  | _ => none }
def CanonChecksWrongFalsely : Prop := canonChecksRow.holds Tryz.pinned (OpenSpec.ofChange canonChecksWrong)

/-- 'ligaturelaw18.CanonFeeds': WHATEVER THE INPUT: true; the input reads as it did. -/
def canonFeedsSpec : ChangeSpec := { name := "canonFeeds", fn := fun _ => fun
  | [d1, d2, d3] => { results := [.lit (.bool true)], args := [d1, d2, d3] }
  | _ => none }
def canonFeedsRow : OpenClaim := { program := "ytpklkijdlnioaaagreat", sum := "dd012ebdd08f8592fabacce312b8322242297c25e10e6e7512167500dc5668f7", func := "ligature/ligaturelaw18.CanonFeeds", spec := "canonFeeds", inPlace := ["sync/atomic.AddInt64", "sync/atomic.LoadUint32", "(*internal/sync.Mutex).Lock", "internal/race.Disable", "sync/atomic.CompareAndSwapInt32", "internal/race.Enable", "internal/race.Acquire", "(*internal/sync.Mutex).lockSlow", "internal/sync.runtime_canSpin", "internal/sync.runtime_doSpin", "internal/sync.throw", "internal/sync.runtime_nanotime", "internal/sync.runtime_SemacquireMutex", "sync/atomic.AddInt32", "(*internal/sync.Mutex).Unlock", "internal/race.ReleaseMerge", "(*internal/sync.Mutex).unlockSlow", "internal/sync.fatal", "internal/sync.runtime_Semrelease", "sync/atomic.StoreUint32"], unfollowed := true, recurses := true, plainKeys := false, apart := false }
def CanonFeedsSaid : Prop := canonFeedsRow.holds Tryz.pinned (OpenSpec.ofChange canonFeedsSpec)

/-- ITS FALSE NEIGHBOUR: 'it returns false'. Refute it at one input. -/
def canonFeedsWrong : ChangeSpec := { name := "canonFeeds", fn := fun _ => fun
  | [d1, d2, d3] => { results := [.lit (.bool false)], args := [d1, d2, d3] }
  | _ => none }
def CanonFeedsWrongFalsely : Prop := canonFeedsRow.holds Tryz.pinned (OpenSpec.ofChange canonFeedsWrong)

/-- 'ligaturelaw18.CanonNone': WHATEVER THE INPUT: true; the input reads as it did. -/
def canonNoneSpec : ChangeSpec := { name := "canonNone", fn := fun _ => fun
  | [d] => { results := [.lit (.bool true)], args := [d] }
  | _ => none }
def canonNoneRow : OpenClaim := { program := "ytpklkijdlnioaaagreat", sum := "dd012ebdd08f8592fabacce312b8322242297c25e10e6e7512167500dc5668f7", func := "ligature/ligaturelaw18.CanonNone", spec := "canonNone", inPlace := ["sync/atomic.AddInt64", "sync/atomic.LoadUint32", "(*internal/sync.Mutex).Lock", "internal/race.Disable", "sync/atomic.CompareAndSwapInt32", "internal/race.Enable", "internal/race.Acquire", "(*internal/sync.Mutex).lockSlow", "internal/sync.runtime_canSpin", "internal/sync.runtime_doSpin", "internal/sync.throw", "internal/sync.runtime_nanotime", "internal/sync.runtime_SemacquireMutex", "sync/atomic.AddInt32", "(*internal/sync.Mutex).Unlock", "internal/race.ReleaseMerge", "(*internal/sync.Mutex).unlockSlow", "internal/sync.fatal", "internal/sync.runtime_Semrelease", "sync/atomic.StoreUint32"], unfollowed := true, recurses := true, plainKeys := false, apart := false }
def CanonNoneSaid : Prop := canonNoneRow.holds Tryz.pinned (OpenSpec.ofChange canonNoneSpec)

/-- ITS FALSE NEIGHBOUR: 'it returns false'. Refute it at one input. -/
def canonNoneWrong : ChangeSpec := { name := "canonNone", fn := fun _ => fun
  | [d] => { results := [.lit (.bool false)], args := [d] }
  | _ => none }
def CanonNoneWrongFalsely : Prop := canonNoneRow.holds Tryz.pinned (OpenSpec.ofChange canonNoneWrong)

/-- 'ligaturelaw15.GridFirst': WHATEVER THE INPUT: true; the input reads as it did. -/
def gridFirstSpec : ChangeSpec := { name := "gridFirst", fn := fun _ => fun
  | [d1, d2] => { results := [.lit (.bool true)], args := [d1, d2] }
  | _ => none }
def gridFirstRow : OpenClaim := { program := "ytpklkijdlnioaaagreat", sum := "dd012ebdd08f8592fabacce312b8322242297c25e10e6e7512167500dc5668f7", func := "ligature/ligaturelaw15.GridFirst", spec := "gridFirst", inPlace := ["sync/atomic.AddInt64", "sync/atomic.LoadUint32", "(*internal/sync.Mutex).Lock", "internal/race.Disable", "sync/atomic.CompareAndSwapInt32", "internal/race.Enable", "internal/race.Acquire", "(*internal/sync.Mutex).lockSlow", "internal/sync.runtime_canSpin", "internal/sync.runtime_doSpin", "internal/sync.throw", "internal/sync.runtime_nanotime", "internal/sync.runtime_SemacquireMutex", "sync/atomic.AddInt32", "(*internal/sync.Mutex).Unlock", "internal/race.ReleaseMerge", "(*internal/sync.Mutex).unlockSlow", "internal/sync.fatal", "internal/sync.runtime_Semrelease", "sync/atomic.StoreUint32"], unfollowed := true, recurses := true, plainKeys := false, apart := false }
def GridFirstSaid : Prop := gridFirstRow.holds Tryz.pinned (OpenSpec.ofChange gridFirstSpec)

/-- ITS FALSE NEIGHBOUR: 'it returns false'. Refute it at one input. -/
def gridFirstWrong : ChangeSpec := { name := "gridFirst", fn := fun _ => fun
  | [d1, d2] => { results := [.lit (.bool false)], args := [d1, d2] }
  | _ => none }
def GridFirstWrongFalsely : Prop := gridFirstRow.holds Tryz.pinned (OpenSpec.ofChange gridFirstWrong)

/-- 'ligaturelaw15.GridRows': WHATEVER THE INPUT: true; the input reads as it did. -/
def gridRowsSpec : ChangeSpec := { name := "gridRows", fn := fun _ => fun
  | [d1, d2] => { results := [.lit (.bool true)], args := [d1, d2] }
  | _ => none }
def gridRowsRow : OpenClaim := { program := "ytpklkijdlnioaaagreat", sum := "dd012ebdd08f8592fabacce312b8322242297c25e10e6e7512167500dc5668f7", func := "ligature/ligaturelaw15.GridRows", spec := "gridRows", inPlace := ["sync/atomic.AddInt64", "sync/atomic.LoadUint32", "(*internal/sync.Mutex).Lock", "internal/race.Disable", "sync/atomic.CompareAndSwapInt32", "internal/race.Enable", "internal/race.Acquire", "(*internal/sync.Mutex).lockSlow", "internal/sync.runtime_canSpin", "internal/sync.runtime_doSpin", "internal/sync.throw", "internal/sync.runtime_nanotime", "internal/sync.runtime_SemacquireMutex", "sync/atomic.AddInt32", "(*internal/sync.Mutex).Unlock", "internal/race.ReleaseMerge", "(*internal/sync.Mutex).unlockSlow", "internal/sync.fatal", "internal/sync.runtime_Semrelease", "sync/atomic.StoreUint32"], unfollowed := true, recurses := true, plainKeys := false, apart := false }
def GridRowsSaid : Prop := gridRowsRow.holds Tryz.pinned (OpenSpec.ofChange gridRowsSpec)

/-- ITS FALSE NEIGHBOUR: 'it returns false'. Refute it at one input. -/
def gridRowsWrong : ChangeSpec := { name := "gridRows", fn := fun _ => fun
  | [d1, d2] => { results := [.lit (.bool false)], args := [d1, d2] }
  | _ => none }
def GridRowsWrongFalsely : Prop := gridRowsRow.holds Tryz.pinned (OpenSpec.ofChange gridRowsWrong)

/-- 'ligaturelaw15.GridBits': WHATEVER THE INPUT: true; the input reads as it did. -/
def gridBitsSpec : ChangeSpec := { name := "gridBits", fn := fun _ => fun
  | [d1, d2, d3] => { results := [.lit (.bool true)], args := [d1, d2, d3] }
  | _ => none }
def gridBitsRow : OpenClaim := { program := "ytpklkijdlnioaaagreat", sum := "dd012ebdd08f8592fabacce312b8322242297c25e10e6e7512167500dc5668f7", func := "ligature/ligaturelaw15.GridBits", spec := "gridBits", inPlace := ["sync/atomic.AddInt64", "sync/atomic.LoadUint32", "(*internal/sync.Mutex).Lock", "internal/race.Disable", "sync/atomic.CompareAndSwapInt32", "internal/race.Enable", "internal/race.Acquire", "(*internal/sync.Mutex).lockSlow", "internal/sync.runtime_canSpin", "internal/sync.runtime_doSpin", "internal/sync.throw", "internal/sync.runtime_nanotime", "internal/sync.runtime_SemacquireMutex", "sync/atomic.AddInt32", "(*internal/sync.Mutex).Unlock", "internal/race.ReleaseMerge", "(*internal/sync.Mutex).unlockSlow", "internal/sync.fatal", "internal/sync.runtime_Semrelease", "sync/atomic.StoreUint32"], unfollowed := true, recurses := true, plainKeys := false, apart := false }
def GridBitsSaid : Prop := gridBitsRow.holds Tryz.pinned (OpenSpec.ofChange gridBitsSpec)

/-- ITS FALSE NEIGHBOUR: 'it returns false'. Refute it at one input. -/
def gridBitsWrong : ChangeSpec := { name := "gridBits", fn := fun _ => fun
  | [d1, d2, d3] => { results := [.lit (.bool false)], args := [d1, d2, d3] }
  | _ => none }
def GridBitsWrongFalsely : Prop := gridBitsRow.holds Tryz.pinned (OpenSpec.ofChange gridBitsWrong)

/-- 'ligaturelaw15.GridNone': WHATEVER THE INPUT: true; the input reads as it did. -/
def gridNoneSpec : ChangeSpec := { name := "gridNone", fn := fun _ => fun
  | [d1, d2] => { results := [.lit (.bool true)], args := [d1, d2] }
  | _ => none }
def gridNoneRow : OpenClaim := { program := "ytpklkijdlnioaaagreat", sum := "dd012ebdd08f8592fabacce312b8322242297c25e10e6e7512167500dc5668f7", func := "ligature/ligaturelaw15.GridNone", spec := "gridNone", inPlace := ["sync/atomic.AddInt64", "sync/atomic.LoadUint32", "(*internal/sync.Mutex).Lock", "internal/race.Disable", "sync/atomic.CompareAndSwapInt32", "internal/race.Enable", "internal/race.Acquire", "(*internal/sync.Mutex).lockSlow", "internal/sync.runtime_canSpin", "internal/sync.runtime_doSpin", "internal/sync.throw", "internal/sync.runtime_nanotime", "internal/sync.runtime_SemacquireMutex", "sync/atomic.AddInt32", "(*internal/sync.Mutex).Unlock", "internal/race.ReleaseMerge", "(*internal/sync.Mutex).unlockSlow", "internal/sync.fatal", "internal/sync.runtime_Semrelease", "sync/atomic.StoreUint32"], unfollowed := true, recurses := true, plainKeys := false, apart := false }
def GridNoneSaid : Prop := gridNoneRow.holds Tryz.pinned (OpenSpec.ofChange gridNoneSpec)

/-- ITS FALSE NEIGHBOUR: 'it returns false'. Refute it at one input. -/
def gridNoneWrong : ChangeSpec := { name := "gridNone", fn := fun _ => fun
  | [d1, d2] => { results := [.lit (.bool false)], args := [d1, d2] }
  | _ => none }
def GridNoneWrongFalsely : Prop := gridNoneRow.holds Tryz.pinned (OpenSpec.ofChange gridNoneWrong)

/-- 'ligaturelaw16.FoldClasses': WHATEVER THE INPUT: true; the input reads as it did. -/
def foldClassesSpec : ChangeSpec := { name := "foldClasses", fn := fun _ => fun
  | [d1, d2] => { results := [.lit (.bool true)], args := [d1, d2] }
  | _ => none }
def foldClassesRow : OpenClaim := { program := "ytpklkijdlnioaaagreat", sum := "dd012ebdd08f8592fabacce312b8322242297c25e10e6e7512167500dc5668f7", func := "ligature/ligaturelaw16.FoldClasses", spec := "foldClasses", inPlace := ["sync/atomic.AddInt64", "sync/atomic.LoadUint32", "(*internal/sync.Mutex).Lock", "internal/race.Disable", "sync/atomic.CompareAndSwapInt32", "internal/race.Enable", "internal/race.Acquire", "(*internal/sync.Mutex).lockSlow", "internal/sync.runtime_canSpin", "internal/sync.runtime_doSpin", "internal/sync.throw", "internal/sync.runtime_nanotime", "internal/sync.runtime_SemacquireMutex", "sync/atomic.AddInt32", "(*internal/sync.Mutex).Unlock", "internal/race.ReleaseMerge", "(*internal/sync.Mutex).unlockSlow", "internal/sync.fatal", "internal/sync.runtime_Semrelease", "sync/atomic.StoreUint32"], unfollowed := true, recurses := true, plainKeys := false, apart := false }
def FoldClassesSaid : Prop := foldClassesRow.holds Tryz.pinned (OpenSpec.ofChange foldClassesSpec)

/-- ITS FALSE NEIGHBOUR: 'it returns false'. Refute it at one input. -/
def foldClassesWrong : ChangeSpec := { name := "foldClasses", fn := fun _ => fun
  | [d1, d2] => { results := [.lit (.bool false)], args := [d1, d2] }
  | _ => none }
def FoldClassesWrongFalsely : Prop := foldClassesRow.holds Tryz.pinned (OpenSpec.ofChange foldClassesWrong)

/-- 'ligaturelaw16.FoldTells': WHATEVER THE INPUT: true; the input reads as it did. -/
def foldTellsSpec : ChangeSpec := { name := "foldTells", fn := fun _ => fun
  | [d1, d2] => { results := [.lit (.bool true)], args := [d1, d2] }
  | _ => none }
def foldTellsRow : OpenClaim := { program := "ytpklkijdlnioaaagreat", sum := "dd012ebdd08f8592fabacce312b8322242297c25e10e6e7512167500dc5668f7", func := "ligature/ligaturelaw16.FoldTells", spec := "foldTells", inPlace := ["sync/atomic.AddInt64", "sync/atomic.LoadUint32", "(*internal/sync.Mutex).Lock", "internal/race.Disable", "sync/atomic.CompareAndSwapInt32", "internal/race.Enable", "internal/race.Acquire", "(*internal/sync.Mutex).lockSlow", "internal/sync.runtime_canSpin", "internal/sync.runtime_doSpin", "internal/sync.throw", "internal/sync.runtime_nanotime", "internal/sync.runtime_SemacquireMutex", "sync/atomic.AddInt32", "(*internal/sync.Mutex).Unlock", "internal/race.ReleaseMerge", "(*internal/sync.Mutex).unlockSlow", "internal/sync.fatal", "internal/sync.runtime_Semrelease", "sync/atomic.StoreUint32"], unfollowed := true, recurses := true, plainKeys := false, apart := false }
def FoldTellsSaid : Prop := foldTellsRow.holds Tryz.pinned (OpenSpec.ofChange foldTellsSpec)

/-- ITS FALSE NEIGHBOUR: 'it returns false'. Refute it at one input. -/
def foldTellsWrong : ChangeSpec := { name := "foldTells", fn := fun _ => fun
  | [d1, d2] => { results := [.lit (.bool false)], args := [d1, d2] }
  | _ => none }
def FoldTellsWrongFalsely : Prop := foldTellsRow.holds Tryz.pinned (OpenSpec.ofChange foldTellsWrong)

/-- 'ligaturelaw16.FoldNone': WHATEVER THE INPUT: true; the input reads as it did. -/
def foldNoneSpec : ChangeSpec := { name := "foldNone", fn := fun _ => fun
  | [d1, d2] => { results := [.lit (.bool true)], args := [d1, d2] }
  | _ => none }
def foldNoneRow : OpenClaim := { program := "ytpklkijdlnioaaagreat", sum := "dd012ebdd08f8592fabacce312b8322242297c25e10e6e7512167500dc5668f7", func := "ligature/ligaturelaw16.FoldNone", spec := "foldNone", inPlace := ["sync/atomic.AddInt64", "sync/atomic.LoadUint32", "(*internal/sync.Mutex).Lock", "internal/race.Disable", "sync/atomic.CompareAndSwapInt32", "internal/race.Enable", "internal/race.Acquire", "(*internal/sync.Mutex).lockSlow", "internal/sync.runtime_canSpin", "internal/sync.runtime_doSpin", "internal/sync.throw", "internal/sync.runtime_nanotime", "internal/sync.runtime_SemacquireMutex", "sync/atomic.AddInt32", "(*internal/sync.Mutex).Unlock", "internal/race.ReleaseMerge", "(*internal/sync.Mutex).unlockSlow", "internal/sync.fatal", "internal/sync.runtime_Semrelease", "sync/atomic.StoreUint32"], unfollowed := true, recurses := true, plainKeys := false, apart := false }
def FoldNoneSaid : Prop := foldNoneRow.holds Tryz.pinned (OpenSpec.ofChange foldNoneSpec)

/-- ITS FALSE NEIGHBOUR: 'it returns false'. Refute it at one input. -/
def foldNoneWrong : ChangeSpec := { name := "foldNone", fn := fun _ => fun
  | [d1, d2] => { results := [.lit (.bool false)], args := [d1, d2] }
  | _ => none }
def FoldNoneWrongFalsely : Prop := foldNoneRow.holds Tryz.pinned (OpenSpec.ofChange foldNoneWrong)

/- THE SECOND FORM. 'bulk': how many values and letters a reading holds, each counted each time it is reached (what is shared counts as often as it is met; a slice's spare places count too). A statement '..UptoSaid' is the law's where the arguments, and the package variables that the reading takes, are together of bulk at most 1048576: NARROWER than '..Said'. Prove '..Said' where nothing that the law and all that it calls make is longer than what came in: it says more and counts as full. Else prove '..UptoSaid'. A law counts once. -/
mutual
def uptoBulk {H : Type} : DataW H → Nat
  | .lit (.string bytes) => bytes.length + 1
  | .lit _ => 1
  | .nil => 1
  | .ptr d => uptoBulk d + 1
  | .slice elems spare => uptoBulkAll elems + uptoBulkAll spare + 1
  | .agg parts => uptoBulkAll parts + 1
  | .iface _ d => uptoBulk d + 1
  | .map entries => uptoBulkEntries entries + 1
  | .held _ => 1
def uptoBulkAll {H : Type} : List (DataW H) → Nat
  | [] => 0
  | d :: r => uptoBulk d + uptoBulkAll r
def uptoBulkEntries {H : Type} : List (Lit × DataW H) → Nat
  | [] => 0
  | x :: r => uptoBulkEntry x + uptoBulkEntries r
def uptoBulkEntry {H : Type} : Lit × DataW H → Nat
  | (.string bytes, d) => bytes.length + uptoBulk d + 1
  | (_, d) => uptoBulk d + 1
 end
def uptoSmall : (H : Type) → List (DataW H) → Bool := fun _ ds => decide (uptoBulkAll ds ≤ 1048576)
def OpenSpec.upto (s : _root_.Go.ChangeSpec) : _root_.Go.OpenSpec := { _root_.Go.OpenSpec.ofChange s with cond := some uptoSmall }

/-- 'ligaturelaw18.CanonNever', WHERE WHAT IT READS IS OF BULK AT MOST 1048576: true; the input reads as it did. -/
def canonNeverUptoRow : OpenClaim := { program := "ytpklkijdlnioaaagreat", sum := "dd012ebdd08f8592fabacce312b8322242297c25e10e6e7512167500dc5668f7", func := "ligature/ligaturelaw18.CanonNever", spec := "canonNever", unfollowed := true, recurses := true, plainKeys := false, apart := false, narrowed := true }
def CanonNeverUptoSaid : Prop := canonNeverUptoRow.holds Tryz.pinned (OpenSpec.upto canonNeverSpec)

/-- 'ligaturelaw18.CanonMakes', WHERE WHAT IT READS IS OF BULK AT MOST 1048576: true; the input reads as it did. -/
def canonMakesUptoRow : OpenClaim := { program := "ytpklkijdlnioaaagreat", sum := "dd012ebdd08f8592fabacce312b8322242297c25e10e6e7512167500dc5668f7", func := "ligature/ligaturelaw18.CanonMakes", spec := "canonMakes", unfollowed := true, recurses := true, plainKeys := false, apart := false, narrowed := true }
def CanonMakesUptoSaid : Prop := canonMakesUptoRow.holds Tryz.pinned (OpenSpec.upto canonMakesSpec)

/-- 'ligaturelaw18.CanonChecks', WHERE WHAT IT READS IS OF BULK AT MOST 1048576: true; the input reads as it did. -/
def canonChecksUptoRow : OpenClaim := { program := "ytpklkijdlnioaaagreat", sum := "dd012ebdd08f8592fabacce312b8322242297c25e10e6e7512167500dc5668f7", func := "ligature/ligaturelaw18.CanonChecks", spec := "canonChecks", unfollowed := true, recurses := true, plainKeys := false, apart := false, narrowed := true }
def CanonChecksUptoSaid : Prop := canonChecksUptoRow.holds Tryz.pinned (OpenSpec.upto canonChecksSpec)

/-- 'ligaturelaw18.CanonFeeds', WHERE WHAT IT READS IS OF BULK AT MOST 1048576: true; the input reads as it did. -/
def canonFeedsUptoRow : OpenClaim := { program := "ytpklkijdlnioaaagreat", sum := "dd012ebdd08f8592fabacce312b8322242297c25e10e6e7512167500dc5668f7", func := "ligature/ligaturelaw18.CanonFeeds", spec := "canonFeeds", inPlace := ["sync/atomic.AddInt64", "sync/atomic.LoadUint32", "(*internal/sync.Mutex).Lock", "internal/race.Disable", "sync/atomic.CompareAndSwapInt32", "internal/race.Enable", "internal/race.Acquire", "(*internal/sync.Mutex).lockSlow", "internal/sync.runtime_canSpin", "internal/sync.runtime_doSpin", "internal/sync.throw", "internal/sync.runtime_nanotime", "internal/sync.runtime_SemacquireMutex", "sync/atomic.AddInt32", "(*internal/sync.Mutex).Unlock", "internal/race.ReleaseMerge", "(*internal/sync.Mutex).unlockSlow", "internal/sync.fatal", "internal/sync.runtime_Semrelease", "sync/atomic.StoreUint32"], unfollowed := true, recurses := true, plainKeys := false, apart := false, narrowed := true }
def CanonFeedsUptoSaid : Prop := canonFeedsUptoRow.holds Tryz.pinned (OpenSpec.upto canonFeedsSpec)

/-- 'ligaturelaw18.CanonNone', WHERE WHAT IT READS IS OF BULK AT MOST 1048576: true; the input reads as it did. -/
def canonNoneUptoRow : OpenClaim := { program := "ytpklkijdlnioaaagreat", sum := "dd012ebdd08f8592fabacce312b8322242297c25e10e6e7512167500dc5668f7", func := "ligature/ligaturelaw18.CanonNone", spec := "canonNone", inPlace := ["sync/atomic.AddInt64", "sync/atomic.LoadUint32", "(*internal/sync.Mutex).Lock", "internal/race.Disable", "sync/atomic.CompareAndSwapInt32", "internal/race.Enable", "internal/race.Acquire", "(*internal/sync.Mutex).lockSlow", "internal/sync.runtime_canSpin", "internal/sync.runtime_doSpin", "internal/sync.throw", "internal/sync.runtime_nanotime", "internal/sync.runtime_SemacquireMutex", "sync/atomic.AddInt32", "(*internal/sync.Mutex).Unlock", "internal/race.ReleaseMerge", "(*internal/sync.Mutex).unlockSlow", "internal/sync.fatal", "internal/sync.runtime_Semrelease", "sync/atomic.StoreUint32"], unfollowed := true, recurses := true, plainKeys := false, apart := false, narrowed := true }
def CanonNoneUptoSaid : Prop := canonNoneUptoRow.holds Tryz.pinned (OpenSpec.upto canonNoneSpec)

/-- 'ligaturelaw15.GridFirst', WHERE WHAT IT READS IS OF BULK AT MOST 1048576: true; the input reads as it did. -/
def gridFirstUptoRow : OpenClaim := { program := "ytpklkijdlnioaaagreat", sum := "dd012ebdd08f8592fabacce312b8322242297c25e10e6e7512167500dc5668f7", func := "ligature/ligaturelaw15.GridFirst", spec := "gridFirst", inPlace := ["sync/atomic.AddInt64", "sync/atomic.LoadUint32", "(*internal/sync.Mutex).Lock", "internal/race.Disable", "sync/atomic.CompareAndSwapInt32", "internal/race.Enable", "internal/race.Acquire", "(*internal/sync.Mutex).lockSlow", "internal/sync.runtime_canSpin", "internal/sync.runtime_doSpin", "internal/sync.throw", "internal/sync.runtime_nanotime", "internal/sync.runtime_SemacquireMutex", "sync/atomic.AddInt32", "(*internal/sync.Mutex).Unlock", "internal/race.ReleaseMerge", "(*internal/sync.Mutex).unlockSlow", "internal/sync.fatal", "internal/sync.runtime_Semrelease", "sync/atomic.StoreUint32"], unfollowed := true, recurses := true, plainKeys := false, apart := false, narrowed := true }
def GridFirstUptoSaid : Prop := gridFirstUptoRow.holds Tryz.pinned (OpenSpec.upto gridFirstSpec)

/-- 'ligaturelaw15.GridRows', WHERE WHAT IT READS IS OF BULK AT MOST 1048576: true; the input reads as it did. -/
def gridRowsUptoRow : OpenClaim := { program := "ytpklkijdlnioaaagreat", sum := "dd012ebdd08f8592fabacce312b8322242297c25e10e6e7512167500dc5668f7", func := "ligature/ligaturelaw15.GridRows", spec := "gridRows", inPlace := ["sync/atomic.AddInt64", "sync/atomic.LoadUint32", "(*internal/sync.Mutex).Lock", "internal/race.Disable", "sync/atomic.CompareAndSwapInt32", "internal/race.Enable", "internal/race.Acquire", "(*internal/sync.Mutex).lockSlow", "internal/sync.runtime_canSpin", "internal/sync.runtime_doSpin", "internal/sync.throw", "internal/sync.runtime_nanotime", "internal/sync.runtime_SemacquireMutex", "sync/atomic.AddInt32", "(*internal/sync.Mutex).Unlock", "internal/race.ReleaseMerge", "(*internal/sync.Mutex).unlockSlow", "internal/sync.fatal", "internal/sync.runtime_Semrelease", "sync/atomic.StoreUint32"], unfollowed := true, recurses := true, plainKeys := false, apart := false, narrowed := true }
def GridRowsUptoSaid : Prop := gridRowsUptoRow.holds Tryz.pinned (OpenSpec.upto gridRowsSpec)

/-- 'ligaturelaw15.GridBits', WHERE WHAT IT READS IS OF BULK AT MOST 1048576: true; the input reads as it did. -/
def gridBitsUptoRow : OpenClaim := { program := "ytpklkijdlnioaaagreat", sum := "dd012ebdd08f8592fabacce312b8322242297c25e10e6e7512167500dc5668f7", func := "ligature/ligaturelaw15.GridBits", spec := "gridBits", inPlace := ["sync/atomic.AddInt64", "sync/atomic.LoadUint32", "(*internal/sync.Mutex).Lock", "internal/race.Disable", "sync/atomic.CompareAndSwapInt32", "internal/race.Enable", "internal/race.Acquire", "(*internal/sync.Mutex).lockSlow", "internal/sync.runtime_canSpin", "internal/sync.runtime_doSpin", "internal/sync.throw", "internal/sync.runtime_nanotime", "internal/sync.runtime_SemacquireMutex", "sync/atomic.AddInt32", "(*internal/sync.Mutex).Unlock", "internal/race.ReleaseMerge", "(*internal/sync.Mutex).unlockSlow", "internal/sync.fatal", "internal/sync.runtime_Semrelease", "sync/atomic.StoreUint32"], unfollowed := true, recurses := true, plainKeys := false, apart := false, narrowed := true }
def GridBitsUptoSaid : Prop := gridBitsUptoRow.holds Tryz.pinned (OpenSpec.upto gridBitsSpec)

/-- 'ligaturelaw15.GridNone', WHERE WHAT IT READS IS OF BULK AT MOST 1048576: true; the input reads as it did. -/
def gridNoneUptoRow : OpenClaim := { program := "ytpklkijdlnioaaagreat", sum := "dd012ebdd08f8592fabacce312b8322242297c25e10e6e7512167500dc5668f7", func := "ligature/ligaturelaw15.GridNone", spec := "gridNone", inPlace := ["sync/atomic.AddInt64", "sync/atomic.LoadUint32", "(*internal/sync.Mutex).Lock", "internal/race.Disable", "sync/atomic.CompareAndSwapInt32", "internal/race.Enable", "internal/race.Acquire", "(*internal/sync.Mutex).lockSlow", "internal/sync.runtime_canSpin", "internal/sync.runtime_doSpin", "internal/sync.throw", "internal/sync.runtime_nanotime", "internal/sync.runtime_SemacquireMutex", "sync/atomic.AddInt32", "(*internal/sync.Mutex).Unlock", "internal/race.ReleaseMerge", "(*internal/sync.Mutex).unlockSlow", "internal/sync.fatal", "internal/sync.runtime_Semrelease", "sync/atomic.StoreUint32"], unfollowed := true, recurses := true, plainKeys := false, apart := false, narrowed := true }
def GridNoneUptoSaid : Prop := gridNoneUptoRow.holds Tryz.pinned (OpenSpec.upto gridNoneSpec)

/-- 'ligaturelaw16.FoldClasses', WHERE WHAT IT READS IS OF BULK AT MOST 1048576: true; the input reads as it did. -/
def foldClassesUptoRow : OpenClaim := { program := "ytpklkijdlnioaaagreat", sum := "dd012ebdd08f8592fabacce312b8322242297c25e10e6e7512167500dc5668f7", func := "ligature/ligaturelaw16.FoldClasses", spec := "foldClasses", inPlace := ["sync/atomic.AddInt64", "sync/atomic.LoadUint32", "(*internal/sync.Mutex).Lock", "internal/race.Disable", "sync/atomic.CompareAndSwapInt32", "internal/race.Enable", "internal/race.Acquire", "(*internal/sync.Mutex).lockSlow", "internal/sync.runtime_canSpin", "internal/sync.runtime_doSpin", "internal/sync.throw", "internal/sync.runtime_nanotime", "internal/sync.runtime_SemacquireMutex", "sync/atomic.AddInt32", "(*internal/sync.Mutex).Unlock", "internal/race.ReleaseMerge", "(*internal/sync.Mutex).unlockSlow", "internal/sync.fatal", "internal/sync.runtime_Semrelease", "sync/atomic.StoreUint32"], unfollowed := true, recurses := true, plainKeys := false, apart := false, narrowed := true }
def FoldClassesUptoSaid : Prop := foldClassesUptoRow.holds Tryz.pinned (OpenSpec.upto foldClassesSpec)

/-- 'ligaturelaw16.FoldTells', WHERE WHAT IT READS IS OF BULK AT MOST 1048576: true; the input reads as it did. -/
def foldTellsUptoRow : OpenClaim := { program := "ytpklkijdlnioaaagreat", sum := "dd012ebdd08f8592fabacce312b8322242297c25e10e6e7512167500dc5668f7", func := "ligature/ligaturelaw16.FoldTells", spec := "foldTells", inPlace := ["sync/atomic.AddInt64", "sync/atomic.LoadUint32", "(*internal/sync.Mutex).Lock", "internal/race.Disable", "sync/atomic.CompareAndSwapInt32", "internal/race.Enable", "internal/race.Acquire", "(*internal/sync.Mutex).lockSlow", "internal/sync.runtime_canSpin", "internal/sync.runtime_doSpin", "internal/sync.throw", "internal/sync.runtime_nanotime", "internal/sync.runtime_SemacquireMutex", "sync/atomic.AddInt32", "(*internal/sync.Mutex).Unlock", "internal/race.ReleaseMerge", "(*internal/sync.Mutex).unlockSlow", "internal/sync.fatal", "internal/sync.runtime_Semrelease", "sync/atomic.StoreUint32"], unfollowed := true, recurses := true, plainKeys := false, apart := false, narrowed := true }
def FoldTellsUptoSaid : Prop := foldTellsUptoRow.holds Tryz.pinned (OpenSpec.upto foldTellsSpec)

/-- 'ligaturelaw16.FoldNone', WHERE WHAT IT READS IS OF BULK AT MOST 1048576: true; the input reads as it did. -/
def foldNoneUptoRow : OpenClaim := { program := "ytpklkijdlnioaaagreat", sum := "dd012ebdd08f8592fabacce312b8322242297c25e10e6e7512167500dc5668f7", func := "ligature/ligaturelaw16.FoldNone", spec := "foldNone", inPlace := ["sync/atomic.AddInt64", "sync/atomic.LoadUint32", "(*internal/sync.Mutex).Lock", "internal/race.Disable", "sync/atomic.CompareAndSwapInt32", "internal/race.Enable", "internal/race.Acquire", "(*internal/sync.Mutex).lockSlow", "internal/sync.runtime_canSpin", "internal/sync.runtime_doSpin", "internal/sync.throw", "internal/sync.runtime_nanotime", "internal/sync.runtime_SemacquireMutex", "sync/atomic.AddInt32", "(*internal/sync.Mutex).Unlock", "internal/race.ReleaseMerge", "(*internal/sync.Mutex).unlockSlow", "internal/sync.fatal", "internal/sync.runtime_Semrelease", "sync/atomic.StoreUint32"], unfollowed := true, recurses := true, plainKeys := false, apart := false, narrowed := true }
def FoldNoneUptoSaid : Prop := foldNoneUptoRow.holds Tryz.pinned (OpenSpec.upto foldNoneSpec)

end Rows
end Go.Proofs.YtpklkijdlnioaaaGreat
