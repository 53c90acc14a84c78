/- Plain reasoning about quotients that are rounded, and about square roots. -/
import Derived.Test.YtlihngoejfmheaaGreatDoorLA
namespace Go.Ab
open Go
set_option linter.unusedVariables false

end Go.Ab
