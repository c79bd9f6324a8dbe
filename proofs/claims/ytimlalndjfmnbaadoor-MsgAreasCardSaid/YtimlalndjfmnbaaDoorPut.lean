/- Numbers put into bytes: the texts that answer that. -/
import Derived.Test.YtimlalndjfmnbaaDoorTlv
import Derived.Test.YtimlalndjfmnbaaDoorFrame
namespace Go.Proofs.YtimlalndjfmnbaaDoor
end Go.Proofs.YtimlalndjfmnbaaDoor
