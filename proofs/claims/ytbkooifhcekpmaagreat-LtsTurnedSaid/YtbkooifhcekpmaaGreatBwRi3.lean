/- Walks: what the functions of the program compute, told by plain functions, and that the calls come to them. Conditions: none. -/
import Derived.Test.YtbkooifhcekpmaaGreatBwTyx
import Derived.Test.YtbkooifhcekpmaaGreatProg
import Derived.Test.YtbkooifhcekpmaaGreatBwRi3A
import Derived.Test.YtbkooifhcekpmaaGreatBwStr
import Derived.Test.YtbkooifhcekpmaaGreatBwAgg
set_option linter.unusedVariables false
set_option linter.unusedSimpArgs false
set_option linter.unusedSectionVars false
namespace Go.Bw
open Go Go.RowKit
end Go.Bw
