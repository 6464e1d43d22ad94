/-
  No cell of these rows narrows 'for every input' (looked for: loops, veiled, ifaces, maps, wideKeys, modest, calm, conditions, laid).
  DERIVED. THE GIVEN ROWS OF THIS SEAT. 10 by the template 'for every input the law returns true; each argument reads behind the call as it read before'; 0 by the template 'total and deterministic' (their statements: YtnmdljikfhafiaaGreatTotals.lean).
  GIVEN WITH THE SEED: the statements are not yours to turn. If you find one false, say at which input.
  Laid BY PROGRAM, IN A SANDBOX (cutbox-rows.mjs): the forced cells as the released guide's own fill.sh prints them over the translation 9db87d7f53929d02… (all of the seat's roots in one cut). By AI agents, Wed Nov 11 2026. No macro, syntax, notation, axiom, sorry.
-/
import Derived.Test.YtnmdljikfhafiaaGreatChecked
import GoSem.Claim
import GoSem.ClaimJoined
import GoSem.ClaimMapViews
import Derived.JoinedTies
import Derived.KernelRfl
namespace Go.Proofs.YtnmdljikfhafiaaGreat
/- THE CELL 'sum', in the pinned program and in every row, IS THE sha256 OF THE DUMP (.gsa) THAT YtnmdljikfhafiaaGreatProg.lean LOADS. Nothing in Lean hashes anything: it is a label: what it is worth is what the hold of that sum in a sandbox is worth. -/
noncomputable def Tryz.pinned : Pinned := { name := "ytnmdljikfhafiaagreat", sum := "9db87d7f53929d02e6aad676c17ba29b8b859d67ffdee02b87741613e556c81b", checked := Tryz.checked }
namespace Rows
def none {H : Type} : Left H := { results := [], args := [] }

/-- 'ligaturelaw18.CanonChecks': WHATEVER THE INPUT: true; the input reads as it did. -/
def canonChecksSpec : ChangeSpec := { name := "canonChecks", fn := fun _ => fun
  | [d1, d2] => { results := [.lit (.bool true)], args := [d1, d2] }
  | _ => none }
def canonChecksRow : OpenClaim := { program := "ytnmdljikfhafiaagreat", sum := "9db87d7f53929d02e6aad676c17ba29b8b859d67ffdee02b87741613e556c81b", func := "ligature/ligaturelaw18.CanonChecks", spec := "canonChecks", unfollowed := true, recurses := true, plainKeys := false, apart := false }
def CanonChecksSaid : Prop := canonChecksRow.holds Tryz.pinned (OpenSpec.ofChange canonChecksSpec)

/-- ITS FALSE NEIGHBOUR: 'it returns false'. Refute it at one input. -/
def canonChecksWrong : ChangeSpec := { name := "canonChecks", fn := fun _ => fun
  | [d1, d2] => { results := [.lit (.bool false)], args := [d1, d2] }
  | _ => none }
def CanonChecksWrongFalsely : Prop := canonChecksRow.holds Tryz.pinned (OpenSpec.ofChange canonChecksWrong)

/-- 'ligaturelaw32.MaskNext': WHATEVER THE INPUT: true; the input reads as it did. -/
def maskNextSpec : ChangeSpec := { name := "maskNext", fn := fun _ => fun
  | [d1, d2, d3, d4] => { results := [.lit (.bool true)], args := [d1, d2, d3, d4] }
  | _ => none }
def maskNextRow : OpenClaim := { program := "ytnmdljikfhafiaagreat", sum := "9db87d7f53929d02e6aad676c17ba29b8b859d67ffdee02b87741613e556c81b", func := "ligature/ligaturelaw32.MaskNext", spec := "maskNext", inPlace := ["sync/atomic.AddInt64", "sync/atomic.LoadUint32", "(*internal/sync.Mutex).Lock", "internal/race.Disable", "sync/atomic.CompareAndSwapInt32", "internal/race.Enable", "internal/race.Acquire", "(*internal/sync.Mutex).lockSlow", "internal/sync.runtime_canSpin", "internal/sync.runtime_doSpin", "internal/sync.throw", "internal/sync.runtime_nanotime", "internal/sync.runtime_SemacquireMutex", "sync/atomic.AddInt32", "(*internal/sync.Mutex).Unlock", "internal/race.ReleaseMerge", "(*internal/sync.Mutex).unlockSlow", "internal/sync.fatal", "internal/sync.runtime_Semrelease", "sync/atomic.StoreUint32"], unfollowed := true, recurses := true, plainKeys := false, apart := false }
def MaskNextSaid : Prop := maskNextRow.holds Tryz.pinned (OpenSpec.ofChange maskNextSpec)

/-- ITS FALSE NEIGHBOUR: 'it returns false'. Refute it at one input. -/
def maskNextWrong : ChangeSpec := { name := "maskNext", fn := fun _ => fun
  | [d1, d2, d3, d4] => { results := [.lit (.bool false)], args := [d1, d2, d3, d4] }
  | _ => none }
def MaskNextWrongFalsely : Prop := maskNextRow.holds Tryz.pinned (OpenSpec.ofChange maskNextWrong)

/-- 'ligaturelaw24.HealGoes': WHATEVER THE INPUT: true; the input reads as it did. -/
def healGoesSpec : ChangeSpec := { name := "healGoes", fn := fun _ => fun
  | [d1, d2, d3] => { results := [.lit (.bool true)], args := [d1, d2, d3] }
  | _ => none }
def healGoesRow : OpenClaim := { program := "ytnmdljikfhafiaagreat", sum := "9db87d7f53929d02e6aad676c17ba29b8b859d67ffdee02b87741613e556c81b", func := "ligature/ligaturelaw24.HealGoes", spec := "healGoes", inPlace := ["sync/atomic.AddInt64", "sync/atomic.LoadUint32", "(*internal/sync.Mutex).Lock", "internal/race.Disable", "sync/atomic.CompareAndSwapInt32", "internal/race.Enable", "internal/race.Acquire", "(*internal/sync.Mutex).lockSlow", "internal/sync.runtime_canSpin", "internal/sync.runtime_doSpin", "internal/sync.throw", "internal/sync.runtime_nanotime", "internal/sync.runtime_SemacquireMutex", "sync/atomic.AddInt32", "(*internal/sync.Mutex).Unlock", "internal/race.ReleaseMerge", "(*internal/sync.Mutex).unlockSlow", "internal/sync.fatal", "internal/sync.runtime_Semrelease", "sync/atomic.StoreUint32"], unfollowed := true, recurses := true, plainKeys := false, apart := false }
def HealGoesSaid : Prop := healGoesRow.holds Tryz.pinned (OpenSpec.ofChange healGoesSpec)

/-- ITS FALSE NEIGHBOUR: 'it returns false'. Refute it at one input. -/
def healGoesWrong : ChangeSpec := { name := "healGoes", fn := fun _ => fun
  | [d1, d2, d3] => { results := [.lit (.bool false)], args := [d1, d2, d3] }
  | _ => none }
def HealGoesWrongFalsely : Prop := healGoesRow.holds Tryz.pinned (OpenSpec.ofChange healGoesWrong)

/-- 'ligaturelaw32.MaskEnds': WHATEVER THE INPUT: true; the input reads as it did. -/
def maskEndsSpec : ChangeSpec := { name := "maskEnds", fn := fun _ => fun
  | [d1, d2, d3] => { results := [.lit (.bool true)], args := [d1, d2, d3] }
  | _ => none }
def maskEndsRow : OpenClaim := { program := "ytnmdljikfhafiaagreat", sum := "9db87d7f53929d02e6aad676c17ba29b8b859d67ffdee02b87741613e556c81b", func := "ligature/ligaturelaw32.MaskEnds", spec := "maskEnds", inPlace := ["sync/atomic.AddInt64", "sync/atomic.LoadUint32", "(*internal/sync.Mutex).Lock", "internal/race.Disable", "sync/atomic.CompareAndSwapInt32", "internal/race.Enable", "internal/race.Acquire", "(*internal/sync.Mutex).lockSlow", "internal/sync.runtime_canSpin", "internal/sync.runtime_doSpin", "internal/sync.throw", "internal/sync.runtime_nanotime", "internal/sync.runtime_SemacquireMutex", "sync/atomic.AddInt32", "(*internal/sync.Mutex).Unlock", "internal/race.ReleaseMerge", "(*internal/sync.Mutex).unlockSlow", "internal/sync.fatal", "internal/sync.runtime_Semrelease", "sync/atomic.StoreUint32"], unfollowed := true, recurses := true, plainKeys := false, apart := false }
def MaskEndsSaid : Prop := maskEndsRow.holds Tryz.pinned (OpenSpec.ofChange maskEndsSpec)

/-- ITS FALSE NEIGHBOUR: 'it returns false'. Refute it at one input. -/
def maskEndsWrong : ChangeSpec := { name := "maskEnds", fn := fun _ => fun
  | [d1, d2, d3] => { results := [.lit (.bool false)], args := [d1, d2, d3] }
  | _ => none }
def MaskEndsWrongFalsely : Prop := maskEndsRow.holds Tryz.pinned (OpenSpec.ofChange maskEndsWrong)

/-- 'ligaturelaw24.HealItems': WHATEVER THE INPUT: true; the input reads as it did. -/
def healItemsSpec : ChangeSpec := { name := "healItems", fn := fun _ => fun
  | [d1, d2, d3] => { results := [.lit (.bool true)], args := [d1, d2, d3] }
  | _ => none }
def healItemsRow : OpenClaim := { program := "ytnmdljikfhafiaagreat", sum := "9db87d7f53929d02e6aad676c17ba29b8b859d67ffdee02b87741613e556c81b", func := "ligature/ligaturelaw24.HealItems", spec := "healItems", inPlace := ["sync/atomic.AddInt64", "sync/atomic.LoadUint32", "(*internal/sync.Mutex).Lock", "internal/race.Disable", "sync/atomic.CompareAndSwapInt32", "internal/race.Enable", "internal/race.Acquire", "(*internal/sync.Mutex).lockSlow", "internal/sync.runtime_canSpin", "internal/sync.runtime_doSpin", "internal/sync.throw", "internal/sync.runtime_nanotime", "internal/sync.runtime_SemacquireMutex", "sync/atomic.AddInt32", "(*internal/sync.Mutex).Unlock", "internal/race.ReleaseMerge", "(*internal/sync.Mutex).unlockSlow", "internal/sync.fatal", "internal/sync.runtime_Semrelease", "sync/atomic.StoreUint32"], unfollowed := true, recurses := true, plainKeys := false, apart := false }
def HealItemsSaid : Prop := healItemsRow.holds Tryz.pinned (OpenSpec.ofChange healItemsSpec)

/-- ITS FALSE NEIGHBOUR: 'it returns false'. Refute it at one input. -/
def healItemsWrong : ChangeSpec := { name := "healItems", fn := fun _ => fun
  | [d1, d2, d3] => { results := [.lit (.bool false)], args := [d1, d2, d3] }
  | _ => none }
def HealItemsWrongFalsely : Prop := healItemsRow.holds Tryz.pinned (OpenSpec.ofChange healItemsWrong)

/-- 'ligaturelaw24.HealLimit': WHATEVER THE INPUT: true; the input reads as it did. -/
def healLimitSpec : ChangeSpec := { name := "healLimit", fn := fun _ => fun
  | [d] => { results := [.lit (.bool true)], args := [d] }
  | _ => none }
def healLimitRow : OpenClaim := { program := "ytnmdljikfhafiaagreat", sum := "9db87d7f53929d02e6aad676c17ba29b8b859d67ffdee02b87741613e556c81b", func := "ligature/ligaturelaw24.HealLimit", spec := "healLimit", inPlace := ["sync/atomic.AddInt64", "sync/atomic.LoadUint32", "(*internal/sync.Mutex).Lock", "internal/race.Disable", "sync/atomic.CompareAndSwapInt32", "internal/race.Enable", "internal/race.Acquire", "(*internal/sync.Mutex).lockSlow", "internal/sync.runtime_canSpin", "internal/sync.runtime_doSpin", "internal/sync.throw", "internal/sync.runtime_nanotime", "internal/sync.runtime_SemacquireMutex", "sync/atomic.AddInt32", "(*internal/sync.Mutex).Unlock", "internal/race.ReleaseMerge", "(*internal/sync.Mutex).unlockSlow", "internal/sync.fatal", "internal/sync.runtime_Semrelease", "sync/atomic.StoreUint32"], unfollowed := true, recurses := true, plainKeys := false, apart := false }
def HealLimitSaid : Prop := healLimitRow.holds Tryz.pinned (OpenSpec.ofChange healLimitSpec)

/-- ITS FALSE NEIGHBOUR: 'it returns false'. Refute it at one input. -/
def healLimitWrong : ChangeSpec := { name := "healLimit", fn := fun _ => fun
  | [d] => { results := [.lit (.bool false)], args := [d] }
  | _ => none }
def HealLimitWrongFalsely : Prop := healLimitRow.holds Tryz.pinned (OpenSpec.ofChange healLimitWrong)

/-- 'ligaturelaw24.HealTexts': WHATEVER THE INPUT: true; the input reads as it did. -/
def healTextsSpec : ChangeSpec := { name := "healTexts", fn := fun _ => fun
  | [d1, d2] => { results := [.lit (.bool true)], args := [d1, d2] }
  | _ => none }
def healTextsRow : OpenClaim := { program := "ytnmdljikfhafiaagreat", sum := "9db87d7f53929d02e6aad676c17ba29b8b859d67ffdee02b87741613e556c81b", func := "ligature/ligaturelaw24.HealTexts", spec := "healTexts", inPlace := ["sync/atomic.AddInt64", "sync/atomic.LoadUint32", "(*internal/sync.Mutex).Lock", "internal/race.Disable", "sync/atomic.CompareAndSwapInt32", "internal/race.Enable", "internal/race.Acquire", "(*internal/sync.Mutex).lockSlow", "internal/sync.runtime_canSpin", "internal/sync.runtime_doSpin", "internal/sync.throw", "internal/sync.runtime_nanotime", "internal/sync.runtime_SemacquireMutex", "sync/atomic.AddInt32", "(*internal/sync.Mutex).Unlock", "internal/race.ReleaseMerge", "(*internal/sync.Mutex).unlockSlow", "internal/sync.fatal", "internal/sync.runtime_Semrelease", "sync/atomic.StoreUint32"], unfollowed := true, recurses := true, plainKeys := false, apart := false }
def HealTextsSaid : Prop := healTextsRow.holds Tryz.pinned (OpenSpec.ofChange healTextsSpec)

/-- ITS FALSE NEIGHBOUR: 'it returns false'. Refute it at one input. -/
def healTextsWrong : ChangeSpec := { name := "healTexts", fn := fun _ => fun
  | [d1, d2] => { results := [.lit (.bool false)], args := [d1, d2] }
  | _ => none }
def HealTextsWrongFalsely : Prop := healTextsRow.holds Tryz.pinned (OpenSpec.ofChange healTextsWrong)

/-- 'ligaturelaw32.MaskForced': WHATEVER THE INPUT: true; the input reads as it did. -/
def maskForcedSpec : ChangeSpec := { name := "maskForced", fn := fun _ => fun
  | [d1, d2] => { results := [.lit (.bool true)], args := [d1, d2] }
  | _ => none }
def maskForcedRow : OpenClaim := { program := "ytnmdljikfhafiaagreat", sum := "9db87d7f53929d02e6aad676c17ba29b8b859d67ffdee02b87741613e556c81b", func := "ligature/ligaturelaw32.MaskForced", spec := "maskForced", inPlace := ["sync/atomic.AddInt64", "sync/atomic.LoadUint32", "(*internal/sync.Mutex).Lock", "internal/race.Disable", "sync/atomic.CompareAndSwapInt32", "internal/race.Enable", "internal/race.Acquire", "(*internal/sync.Mutex).lockSlow", "internal/sync.runtime_canSpin", "internal/sync.runtime_doSpin", "internal/sync.throw", "internal/sync.runtime_nanotime", "internal/sync.runtime_SemacquireMutex", "sync/atomic.AddInt32", "(*internal/sync.Mutex).Unlock", "internal/race.ReleaseMerge", "(*internal/sync.Mutex).unlockSlow", "internal/sync.fatal", "internal/sync.runtime_Semrelease", "sync/atomic.StoreUint32"], unfollowed := true, recurses := true, plainKeys := false, apart := false }
def MaskForcedSaid : Prop := maskForcedRow.holds Tryz.pinned (OpenSpec.ofChange maskForcedSpec)

/-- ITS FALSE NEIGHBOUR: 'it returns false'. Refute it at one input. -/
def maskForcedWrong : ChangeSpec := { name := "maskForced", fn := fun _ => fun
  | [d1, d2] => { results := [.lit (.bool false)], args := [d1, d2] }
  | _ => none }
def MaskForcedWrongFalsely : Prop := maskForcedRow.holds Tryz.pinned (OpenSpec.ofChange maskForcedWrong)

/-- 'ligaturelaw24.HealNone': WHATEVER THE INPUT: true; the input reads as it did. -/
def healNoneSpec : ChangeSpec := { name := "healNone", fn := fun _ => fun
  | [d1, d2, d3] => { results := [.lit (.bool true)], args := [d1, d2, d3] }
  | _ => none }
def healNoneRow : OpenClaim := { program := "ytnmdljikfhafiaagreat", sum := "9db87d7f53929d02e6aad676c17ba29b8b859d67ffdee02b87741613e556c81b", func := "ligature/ligaturelaw24.HealNone", spec := "healNone", inPlace := ["sync/atomic.AddInt64", "sync/atomic.LoadUint32", "(*internal/sync.Mutex).Lock", "internal/race.Disable", "sync/atomic.CompareAndSwapInt32", "internal/race.Enable", "internal/race.Acquire", "(*internal/sync.Mutex).lockSlow", "internal/sync.runtime_canSpin", "internal/sync.runtime_doSpin", "internal/sync.throw", "internal/sync.runtime_nanotime", "internal/sync.runtime_SemacquireMutex", "sync/atomic.AddInt32", "(*internal/sync.Mutex).Unlock", "internal/race.ReleaseMerge", "(*internal/sync.Mutex).unlockSlow", "internal/sync.fatal", "internal/sync.runtime_Semrelease", "sync/atomic.StoreUint32"], unfollowed := true, recurses := true, plainKeys := false, apart := false }
def HealNoneSaid : Prop := healNoneRow.holds Tryz.pinned (OpenSpec.ofChange healNoneSpec)

/-- ITS FALSE NEIGHBOUR: 'it returns false'. Refute it at one input. -/
def healNoneWrong : ChangeSpec := { name := "healNone", fn := fun _ => fun
  | [d1, d2, d3] => { results := [.lit (.bool false)], args := [d1, d2, d3] }
  | _ => none }
def HealNoneWrongFalsely : Prop := healNoneRow.holds Tryz.pinned (OpenSpec.ofChange healNoneWrong)

/-- 'ligaturelaw32.MaskNone': WHATEVER THE INPUT: true; the input reads as it did. -/
def maskNoneSpec : ChangeSpec := { name := "maskNone", fn := fun _ => fun
  | [d1, d2] => { results := [.lit (.bool true)], args := [d1, d2] }
  | _ => none }
def maskNoneRow : OpenClaim := { program := "ytnmdljikfhafiaagreat", sum := "9db87d7f53929d02e6aad676c17ba29b8b859d67ffdee02b87741613e556c81b", func := "ligature/ligaturelaw32.MaskNone", spec := "maskNone", inPlace := ["sync/atomic.AddInt64", "sync/atomic.LoadUint32", "(*internal/sync.Mutex).Lock", "internal/race.Disable", "sync/atomic.CompareAndSwapInt32", "internal/race.Enable", "internal/race.Acquire", "(*internal/sync.Mutex).lockSlow", "internal/sync.runtime_canSpin", "internal/sync.runtime_doSpin", "internal/sync.throw", "internal/sync.runtime_nanotime", "internal/sync.runtime_SemacquireMutex", "sync/atomic.AddInt32", "(*internal/sync.Mutex).Unlock", "internal/race.ReleaseMerge", "(*internal/sync.Mutex).unlockSlow", "internal/sync.fatal", "internal/sync.runtime_Semrelease", "sync/atomic.StoreUint32"], unfollowed := true, recurses := true, plainKeys := false, apart := false }
def MaskNoneSaid : Prop := maskNoneRow.holds Tryz.pinned (OpenSpec.ofChange maskNoneSpec)

/-- ITS FALSE NEIGHBOUR: 'it returns false'. Refute it at one input. -/
def maskNoneWrong : ChangeSpec := { name := "maskNone", fn := fun _ => fun
  | [d1, d2] => { results := [.lit (.bool false)], args := [d1, d2] }
  | _ => none }
def MaskNoneWrongFalsely : Prop := maskNoneRow.holds Tryz.pinned (OpenSpec.ofChange maskNoneWrong)

/- THE SECOND FORM. 'bulk': how many values and letters a reading holds, each counted each time it is reached (what is shared counts as often as it is met; a slice's spare places count too). A statement '..UptoSaid' is the law's where the arguments, and the package variables that the reading takes, are together of bulk at most 1048576: NARROWER than '..Said'. Prove '..Said' where nothing that the law and all that it calls make is longer than what came in: it says more and counts as full. Else prove '..UptoSaid'. A law counts once. -/
mutual
def uptoBulk {H : Type} : DataW H → Nat
  | .lit (.string bytes) => bytes.length + 1
  | .lit _ => 1
  | .nil => 1
  | .ptr d => uptoBulk d + 1
  | .slice elems spare => uptoBulkAll elems + uptoBulkAll spare + 1
  | .agg parts => uptoBulkAll parts + 1
  | .iface _ d => uptoBulk d + 1
  | .map entries => uptoBulkEntries entries + 1
  | .held _ => 1
def uptoBulkAll {H : Type} : List (DataW H) → Nat
  | [] => 0
  | d :: r => uptoBulk d + uptoBulkAll r
def uptoBulkEntries {H : Type} : List (Lit × DataW H) → Nat
  | [] => 0
  | x :: r => uptoBulkEntry x + uptoBulkEntries r
def uptoBulkEntry {H : Type} : Lit × DataW H → Nat
  | (.string bytes, d) => bytes.length + uptoBulk d + 1
  | (_, d) => uptoBulk d + 1
 end
def uptoSmall : (H : Type) → List (DataW H) → Bool := fun _ ds => decide (uptoBulkAll ds ≤ 1048576)
def OpenSpec.upto (s : _root_.Go.ChangeSpec) : _root_.Go.OpenSpec := { _root_.Go.OpenSpec.ofChange s with cond := some uptoSmall }

/-- 'ligaturelaw18.CanonChecks', WHERE WHAT IT READS IS OF BULK AT MOST 1048576: true; the input reads as it did. -/
def canonChecksUptoRow : OpenClaim := { program := "ytnmdljikfhafiaagreat", sum := "9db87d7f53929d02e6aad676c17ba29b8b859d67ffdee02b87741613e556c81b", func := "ligature/ligaturelaw18.CanonChecks", spec := "canonChecks", unfollowed := true, recurses := true, plainKeys := false, apart := false, narrowed := true }
def CanonChecksUptoSaid : Prop := canonChecksUptoRow.holds Tryz.pinned (OpenSpec.upto canonChecksSpec)

/-- 'ligaturelaw32.MaskNext', WHERE WHAT IT READS IS OF BULK AT MOST 1048576: true; the input reads as it did. -/
def maskNextUptoRow : OpenClaim := { program := "ytnmdljikfhafiaagreat", sum := "9db87d7f53929d02e6aad676c17ba29b8b859d67ffdee02b87741613e556c81b", func := "ligature/ligaturelaw32.MaskNext", spec := "maskNext", inPlace := ["sync/atomic.AddInt64", "sync/atomic.LoadUint32", "(*internal/sync.Mutex).Lock", "internal/race.Disable", "sync/atomic.CompareAndSwapInt32", "internal/race.Enable", "internal/race.Acquire", "(*internal/sync.Mutex).lockSlow", "internal/sync.runtime_canSpin", "internal/sync.runtime_doSpin", "internal/sync.throw", "internal/sync.runtime_nanotime", "internal/sync.runtime_SemacquireMutex", "sync/atomic.AddInt32", "(*internal/sync.Mutex).Unlock", "internal/race.ReleaseMerge", "(*internal/sync.Mutex).unlockSlow", "internal/sync.fatal", "internal/sync.runtime_Semrelease", "sync/atomic.StoreUint32"], unfollowed := true, recurses := true, plainKeys := false, apart := false, narrowed := true }
def MaskNextUptoSaid : Prop := maskNextUptoRow.holds Tryz.pinned (OpenSpec.upto maskNextSpec)

/-- 'ligaturelaw24.HealGoes', WHERE WHAT IT READS IS OF BULK AT MOST 1048576: true; the input reads as it did. -/
def healGoesUptoRow : OpenClaim := { program := "ytnmdljikfhafiaagreat", sum := "9db87d7f53929d02e6aad676c17ba29b8b859d67ffdee02b87741613e556c81b", func := "ligature/ligaturelaw24.HealGoes", spec := "healGoes", inPlace := ["sync/atomic.AddInt64", "sync/atomic.LoadUint32", "(*internal/sync.Mutex).Lock", "internal/race.Disable", "sync/atomic.CompareAndSwapInt32", "internal/race.Enable", "internal/race.Acquire", "(*internal/sync.Mutex).lockSlow", "internal/sync.runtime_canSpin", "internal/sync.runtime_doSpin", "internal/sync.throw", "internal/sync.runtime_nanotime", "internal/sync.runtime_SemacquireMutex", "sync/atomic.AddInt32", "(*internal/sync.Mutex).Unlock", "internal/race.ReleaseMerge", "(*internal/sync.Mutex).unlockSlow", "internal/sync.fatal", "internal/sync.runtime_Semrelease", "sync/atomic.StoreUint32"], unfollowed := true, recurses := true, plainKeys := false, apart := false, narrowed := true }
def HealGoesUptoSaid : Prop := healGoesUptoRow.holds Tryz.pinned (OpenSpec.upto healGoesSpec)

/-- 'ligaturelaw32.MaskEnds', WHERE WHAT IT READS IS OF BULK AT MOST 1048576: true; the input reads as it did. -/
def maskEndsUptoRow : OpenClaim := { program := "ytnmdljikfhafiaagreat", sum := "9db87d7f53929d02e6aad676c17ba29b8b859d67ffdee02b87741613e556c81b", func := "ligature/ligaturelaw32.MaskEnds", spec := "maskEnds", inPlace := ["sync/atomic.AddInt64", "sync/atomic.LoadUint32", "(*internal/sync.Mutex).Lock", "internal/race.Disable", "sync/atomic.CompareAndSwapInt32", "internal/race.Enable", "internal/race.Acquire", "(*internal/sync.Mutex).lockSlow", "internal/sync.runtime_canSpin", "internal/sync.runtime_doSpin", "internal/sync.throw", "internal/sync.runtime_nanotime", "internal/sync.runtime_SemacquireMutex", "sync/atomic.AddInt32", "(*internal/sync.Mutex).Unlock", "internal/race.ReleaseMerge", "(*internal/sync.Mutex).unlockSlow", "internal/sync.fatal", "internal/sync.runtime_Semrelease", "sync/atomic.StoreUint32"], unfollowed := true, recurses := true, plainKeys := false, apart := false, narrowed := true }
def MaskEndsUptoSaid : Prop := maskEndsUptoRow.holds Tryz.pinned (OpenSpec.upto maskEndsSpec)

/-- 'ligaturelaw24.HealItems', WHERE WHAT IT READS IS OF BULK AT MOST 1048576: true; the input reads as it did. -/
def healItemsUptoRow : OpenClaim := { program := "ytnmdljikfhafiaagreat", sum := "9db87d7f53929d02e6aad676c17ba29b8b859d67ffdee02b87741613e556c81b", func := "ligature/ligaturelaw24.HealItems", spec := "healItems", inPlace := ["sync/atomic.AddInt64", "sync/atomic.LoadUint32", "(*internal/sync.Mutex).Lock", "internal/race.Disable", "sync/atomic.CompareAndSwapInt32", "internal/race.Enable", "internal/race.Acquire", "(*internal/sync.Mutex).lockSlow", "internal/sync.runtime_canSpin", "internal/sync.runtime_doSpin", "internal/sync.throw", "internal/sync.runtime_nanotime", "internal/sync.runtime_SemacquireMutex", "sync/atomic.AddInt32", "(*internal/sync.Mutex).Unlock", "internal/race.ReleaseMerge", "(*internal/sync.Mutex).unlockSlow", "internal/sync.fatal", "internal/sync.runtime_Semrelease", "sync/atomic.StoreUint32"], unfollowed := true, recurses := true, plainKeys := false, apart := false, narrowed := true }
def HealItemsUptoSaid : Prop := healItemsUptoRow.holds Tryz.pinned (OpenSpec.upto healItemsSpec)

/-- 'ligaturelaw24.HealLimit', WHERE WHAT IT READS IS OF BULK AT MOST 1048576: true; the input reads as it did. -/
def healLimitUptoRow : OpenClaim := { program := "ytnmdljikfhafiaagreat", sum := "9db87d7f53929d02e6aad676c17ba29b8b859d67ffdee02b87741613e556c81b", func := "ligature/ligaturelaw24.HealLimit", spec := "healLimit", inPlace := ["sync/atomic.AddInt64", "sync/atomic.LoadUint32", "(*internal/sync.Mutex).Lock", "internal/race.Disable", "sync/atomic.CompareAndSwapInt32", "internal/race.Enable", "internal/race.Acquire", "(*internal/sync.Mutex).lockSlow", "internal/sync.runtime_canSpin", "internal/sync.runtime_doSpin", "internal/sync.throw", "internal/sync.runtime_nanotime", "internal/sync.runtime_SemacquireMutex", "sync/atomic.AddInt32", "(*internal/sync.Mutex).Unlock", "internal/race.ReleaseMerge", "(*internal/sync.Mutex).unlockSlow", "internal/sync.fatal", "internal/sync.runtime_Semrelease", "sync/atomic.StoreUint32"], unfollowed := true, recurses := true, plainKeys := false, apart := false, narrowed := true }
def HealLimitUptoSaid : Prop := healLimitUptoRow.holds Tryz.pinned (OpenSpec.upto healLimitSpec)

/-- 'ligaturelaw24.HealTexts', WHERE WHAT IT READS IS OF BULK AT MOST 1048576: true; the input reads as it did. -/
def healTextsUptoRow : OpenClaim := { program := "ytnmdljikfhafiaagreat", sum := "9db87d7f53929d02e6aad676c17ba29b8b859d67ffdee02b87741613e556c81b", func := "ligature/ligaturelaw24.HealTexts", spec := "healTexts", inPlace := ["sync/atomic.AddInt64", "sync/atomic.LoadUint32", "(*internal/sync.Mutex).Lock", "internal/race.Disable", "sync/atomic.CompareAndSwapInt32", "internal/race.Enable", "internal/race.Acquire", "(*internal/sync.Mutex).lockSlow", "internal/sync.runtime_canSpin", "internal/sync.runtime_doSpin", "internal/sync.throw", "internal/sync.runtime_nanotime", "internal/sync.runtime_SemacquireMutex", "sync/atomic.AddInt32", "(*internal/sync.Mutex).Unlock", "internal/race.ReleaseMerge", "(*internal/sync.Mutex).unlockSlow", "internal/sync.fatal", "internal/sync.runtime_Semrelease", "sync/atomic.StoreUint32"], unfollowed := true, recurses := true, plainKeys := false, apart := false, narrowed := true }
def HealTextsUptoSaid : Prop := healTextsUptoRow.holds Tryz.pinned (OpenSpec.upto healTextsSpec)

/-- 'ligaturelaw32.MaskForced', WHERE WHAT IT READS IS OF BULK AT MOST 1048576: true; the input reads as it did. -/
def maskForcedUptoRow : OpenClaim := { program := "ytnmdljikfhafiaagreat", sum := "9db87d7f53929d02e6aad676c17ba29b8b859d67ffdee02b87741613e556c81b", func := "ligature/ligaturelaw32.MaskForced", spec := "maskForced", inPlace := ["sync/atomic.AddInt64", "sync/atomic.LoadUint32", "(*internal/sync.Mutex).Lock", "internal/race.Disable", "sync/atomic.CompareAndSwapInt32", "internal/race.Enable", "internal/race.Acquire", "(*internal/sync.Mutex).lockSlow", "internal/sync.runtime_canSpin", "internal/sync.runtime_doSpin", "internal/sync.throw", "internal/sync.runtime_nanotime", "internal/sync.runtime_SemacquireMutex", "sync/atomic.AddInt32", "(*internal/sync.Mutex).Unlock", "internal/race.ReleaseMerge", "(*internal/sync.Mutex).unlockSlow", "internal/sync.fatal", "internal/sync.runtime_Semrelease", "sync/atomic.StoreUint32"], unfollowed := true, recurses := true, plainKeys := false, apart := false, narrowed := true }
def MaskForcedUptoSaid : Prop := maskForcedUptoRow.holds Tryz.pinned (OpenSpec.upto maskForcedSpec)

/-- 'ligaturelaw24.HealNone', WHERE WHAT IT READS IS OF BULK AT MOST 1048576: true; the input reads as it did. -/
def healNoneUptoRow : OpenClaim := { program := "ytnmdljikfhafiaagreat", sum := "9db87d7f53929d02e6aad676c17ba29b8b859d67ffdee02b87741613e556c81b", func := "ligature/ligaturelaw24.HealNone", spec := "healNone", inPlace := ["sync/atomic.AddInt64", "sync/atomic.LoadUint32", "(*internal/sync.Mutex).Lock", "internal/race.Disable", "sync/atomic.CompareAndSwapInt32", "internal/race.Enable", "internal/race.Acquire", "(*internal/sync.Mutex).lockSlow", "internal/sync.runtime_canSpin", "internal/sync.runtime_doSpin", "internal/sync.throw", "internal/sync.runtime_nanotime", "internal/sync.runtime_SemacquireMutex", "sync/atomic.AddInt32", "(*internal/sync.Mutex).Unlock", "internal/race.ReleaseMerge", "(*internal/sync.Mutex).unlockSlow", "internal/sync.fatal", "internal/sync.runtime_Semrelease", "sync/atomic.StoreUint32"], unfollowed := true, recurses := true, plainKeys := false, apart := false, narrowed := true }
def HealNoneUptoSaid : Prop := healNoneUptoRow.holds Tryz.pinned (OpenSpec.upto healNoneSpec)

/-- 'ligaturelaw32.MaskNone', WHERE WHAT IT READS IS OF BULK AT MOST 1048576: true; the input reads as it did. -/
def maskNoneUptoRow : OpenClaim := { program := "ytnmdljikfhafiaagreat", sum := "9db87d7f53929d02e6aad676c17ba29b8b859d67ffdee02b87741613e556c81b", func := "ligature/ligaturelaw32.MaskNone", spec := "maskNone", inPlace := ["sync/atomic.AddInt64", "sync/atomic.LoadUint32", "(*internal/sync.Mutex).Lock", "internal/race.Disable", "sync/atomic.CompareAndSwapInt32", "internal/race.Enable", "internal/race.Acquire", "(*internal/sync.Mutex).lockSlow", "internal/sync.runtime_canSpin", "internal/sync.runtime_doSpin", "internal/sync.throw", "internal/sync.runtime_nanotime", "internal/sync.runtime_SemacquireMutex", "sync/atomic.AddInt32", "(*internal/sync.Mutex).Unlock", "internal/race.ReleaseMerge", "(*internal/sync.Mutex).unlockSlow", "internal/sync.fatal", "internal/sync.runtime_Semrelease", "sync/atomic.StoreUint32"], unfollowed := true, recurses := true, plainKeys := false, apart := false, narrowed := true }
def MaskNoneUptoSaid : Prop := maskNoneUptoRow.holds Tryz.pinned (OpenSpec.upto maskNoneSpec)

end Rows
end Go.Proofs.YtnmdljikfhafiaaGreat
