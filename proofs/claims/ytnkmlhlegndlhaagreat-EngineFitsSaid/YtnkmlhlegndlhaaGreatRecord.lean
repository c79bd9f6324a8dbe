/- Records: a lease as bytes, and back; what the program and the document answer. -/
import Derived.Test.YtnkmlhlegndlhaaGreatKey
namespace Go.Proofs.YtnkmlhlegndlhaaGreat
open BoEng Go
set_option maxRecDepth 100000
set_option linter.unusedSimpArgs false
set_option linter.unusedVariables false
def le0 : LeaseR := ⟨0, 0, 0, []⟩
end Go.Proofs.YtnkmlhlegndlhaaGreat
