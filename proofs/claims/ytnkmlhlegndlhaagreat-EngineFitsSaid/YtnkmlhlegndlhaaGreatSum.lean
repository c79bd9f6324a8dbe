/- Sums: what the program's sum and the document's answer. -/
import Derived.Test.YtnkmlhlegndlhaaGreatCode
namespace Go.Proofs.YtnkmlhlegndlhaaGreat
open BoEng Go
set_option maxRecDepth 100000
set_option linter.unusedSimpArgs false
set_option linter.unusedVariables false
end Go.Proofs.YtnkmlhlegndlhaaGreat
