/- The row and the tied card of HealLimit. -/
import Derived.Test.YtnmdljikfhafiaaGreatZhTz
import Derived.Test.YtnmdljikfhafiaaGreatRows
import Derived.Test.YtnmdljikfhafiaaGreatChecked
import Derived.WalkKit
import Derived.ProofKit
import Derived.OpenShut
import Derived.ShutString
import Derived.ChangeOld
import Derived.SizedLaws
import Derived.Lay
import Derived.ChangeSlices
import Derived.SliceStrings
import Derived.Carry
import Derived.SevenTiedAt
import Derived.Stop.LaidErr
set_option linter.unusedVariables false
namespace Go.Proofs.YtnmdljikfhafiaaGreat.HealLimitRow
open Go Go.ChangeShapes Go.WideShapes Go.ChangeAt Go.RowKit
open Go.ChangeMaps (open_string shut_string)
theorem own : ownKnob Tryz.prog.godebug = none := by kernel_rfl
theorem laidOut : laidOutB Tryz.prog = true := by kernel_rfl
set_option maxRecDepth 100000 in
theorem lifted (os : Os) (started : os.Started) (H : Type) (enc : TypeId × Value → H) :
  ReturnsInHanded {} Tryz.checked os 8 .any (fun w args => Rows.healLimitSpec.pre enc Tryz.prog Tryz.f8 [] false w args ∧ sizedMet enc Tryz.prog Tryz.f8 (OpenSpec.ofChange Rows.healLimitSpec) false w args)
   (Rows.healLimitSpec.post enc Tryz.prog Tryz.f8 false true false false) := by
 refine Eng.law_frame0 (C := Tryz.checked) own started (by kernel_rfl) Tryz.func8
  (ChangeSpec.witness_shaped (enc := enc) (C := Tryz.checked) (os := os) (X := fun _ _ => True) false (World.laidAll Tryz.prog os Rows.healLimitRow.laid) #[.int .u8 0] 8 (World.laidAll_os _ _ _)
   (World.shaped_of_ZipB (by kernel_rfl) (by kernel_rfl)) (by kernel_rfl) (by kernel_rfl) (by kernel_rfl)
   trivial) ?_
 intro W base args ds gs before hval0 hW _ hShape
 have hval : ∀ (j : Nat) t v, Tryz.f8.params[j]? = some t → args[j]? = some v → Value.okWide Tryz.prog W .any base t v := hval0
 have hW' := hW
 obtain ⟨p, q, hA0, hV, rfl, _, _⟩ := hW
 have hA : DataW.TrodAll enc Tryz.prog W 0 (fun _ => true) true Tryz.f8.params.toList args.toList ds p := hA0
 rw [Tryz.params8] at hA hval
 obtain ⟨v0, vs0, d0, ds0, p0, q0, hargs, rfl, rfl, h0, r0⟩ := trodAll_cons hA
 obtain ⟨rfl, rfl, rfl⟩ := trodAll_nil r0
 obtain rfl : args = #[v0] := by cases args; simp_all
 obtain ⟨rfl, rfl⟩ := trodVars_none hV
 obtain ⟨a0, rfl, rfl, rfl, y0⟩ := open_int Tryz.underlying5 (hval 0 5 v0 rfl rfl) h0
 have fin := Eng.HealLimit_spec a0 (Eng.byte_wf y0).1 (Eng.byte_wf y0).2 W
 refine fin.mono fun e W' ⟨he, bel⟩ => ?_
 subst he
 exact ⟨_, rfl, _, _, _, [], _, [], hW', trodAll_mk1 (shut_bool Tryz.underlying4 _), (trodAll_cons_mk (shut_int Tryz.underlying5 y0) trodAll_mk0), rfl, bel.frame _, fun h => by cases h⟩
theorem rNamed : Tryz.pinned.checked.prog.funcNamed Rows.healLimitRow.func = some 8 := by kernel_rfl
theorem rIn : (Rows.healLimitRow.inPlace == Tryz.pinned.checked.prog.inPlace 8) = true := by kernel_rfl
theorem rUn : (Rows.healLimitRow.unfollowed == Tryz.pinned.checked.prog.unfollowed 8) = true := by kernel_rfl
theorem rRec : (Rows.healLimitRow.recurses == Tryz.pinned.checked.prog.recurses 8) = true := by kernel_rfl
theorem rVars : (Rows.healLimitRow.named == Tryz.pinned.checked.prog.varsNamed 8) = true := by kernel_rfl
theorem closed : joinedFacts Tryz.pinned.checked.prog 8 Tryz.f8 Rows.healLimitSpec Rows.healLimitRow = true := by
 rw [joinedFacts, rIn, rUn, rRec, rVars]
 kernel_rfl
theorem holds : Rows.HealLimitSaid :=
 OpenClaim.holds_of_wide 8 Tryz.f8 rfl rfl rfl rfl rfl rfl rfl ⟨rfl, rfl, rfl, rfl, rfl⟩ rfl rfl rfl rfl rfl rNamed Tryz.func8 closed
  (of_decide_eq_true (by kernel_rfl)) (by unfold Func.isWrapper; first | (rw [if_pos (by decide +kernel)]; kernel_rfl) | (rw [if_neg (by decide +kernel)]; exact ⟨rfl, rfl⟩))
  (fun os started H enc _ => lifted os started H enc)
end Go.Proofs.YtnmdljikfhafiaaGreat.HealLimitRow
