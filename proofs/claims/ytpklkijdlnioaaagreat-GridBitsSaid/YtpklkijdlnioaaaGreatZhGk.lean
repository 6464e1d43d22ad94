/- The grid's rows tell what its questions tell. -/
import Derived.Test.YtpklkijdlnioaaaGreatZhGi
set_option linter.unusedVariables false
set_option linter.unusedSimpArgs false
set_option maxRecDepth 100000
namespace Go.Proofs.YtpklkijdlnioaaaGreat.Eng
open Go Go.RowKit
end Go.Proofs.YtpklkijdlnioaaaGreat.Eng
