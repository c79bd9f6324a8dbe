/- Numbers put into bytes: the texts that answer that. -/
import Derived.Test.YtnkmlhlegndlhaaGreatTlv
import Derived.Test.YtnkmlhlegndlhaaGreatFrame
namespace Go.Proofs.YtnkmlhlegndlhaaGreat
end Go.Proofs.YtnkmlhlegndlhaaGreat
