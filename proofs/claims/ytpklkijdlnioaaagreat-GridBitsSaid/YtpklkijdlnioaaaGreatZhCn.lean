/- canon, walked by the engine. -/
import Derived.Test.YtpklkijdlnioaaaGreatZhSw
set_option linter.unusedVariables false
set_option linter.unusedSimpArgs false
set_option maxRecDepth 100000
namespace Go.Proofs.YtpklkijdlnioaaaGreat.Eng
open Go Go.RowKit
/-! ### Of no vocabulary -/
instance (V : Voc) (ids : List Int) : Decidable (V.Canon ids) := inferInstanceAs (Decidable (V.encode (V.itemsAll ids) = ids))
end Go.Proofs.YtpklkijdlnioaaaGreat.Eng
