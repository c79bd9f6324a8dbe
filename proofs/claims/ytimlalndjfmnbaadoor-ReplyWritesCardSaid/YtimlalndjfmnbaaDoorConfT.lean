/- Configurations: what the document's layer 13 answers, third part. -/
import Derived.Test.YtimlalndjfmnbaaDoorConfS
namespace Go.Proofs.YtimlalndjfmnbaaDoor
open BoEng Go
set_option maxRecDepth 100000
set_option linter.unusedSimpArgs false
set_option linter.unusedVariables false

def spotSub (x : Spot) : DV := .agg [.int .i64 x.s.base, .int .i64 x.s.bits, .slice (x.s.pools.map Rng.d), .slice (x.s.res.map Res.d), .int .i64 x.s.iface, .int .i64 x.s.router, .int .i64 x.s.time]
@[simp] theorem spotSub_eq (x : Spot) : spotSub x = .agg [.int .i64 x.s.base, .int .i64 x.s.bits, .slice (x.s.pools.map Rng.d), .slice (x.s.res.map Res.d), .int .i64 x.s.iface, .int .i64 x.s.router, .int .i64 x.s.time] := rfl
def spotNet (x : Spot) : DV := .int .i64 x.net
@[simp] theorem spotNet_eq (x : Spot) : spotNet x = .int .i64 x.net := rfl
def resD (p : Res × Nat) : DV := .agg [.str p.1.key, .int .i64 p.1.addr]
@[simp] theorem resD_eq (p : Res × Nat) : resD p = .agg [.str p.1.key, .int .i64 p.1.addr] := rfl
def resNet (p : Res × Nat) : DV := .int .i64 p.2
@[simp] theorem resNet_eq (p : Res × Nat) : resNet p = .int .i64 p.2 := rfl

end Go.Proofs.YtimlalndjfmnbaaDoor
