/- The reference's first offence, walked by the engine. -/
import Derived.Test.YtpklkijdlnioaaaGreatZhRk
set_option linter.unusedVariables false
set_option linter.unusedSimpArgs false
set_option maxRecDepth 100000
namespace Go.Proofs.YtpklkijdlnioaaaGreat.Eng
open Go Go.RowKit
theorem has_iff2 {s : SpecV} {T : List Ent} (hok : TOk T) (t : Int) : hasV2 s T t = true ↔ (vocOf s T).Has t := by
  unfold hasV2
  rw [decide_eq_true_eq, tok_iff hok]
  exact Or.comm
end Go.Proofs.YtpklkijdlnioaaaGreat.Eng
