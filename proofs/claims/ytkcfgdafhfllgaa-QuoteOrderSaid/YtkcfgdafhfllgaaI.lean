import Derived.Test.YtkcfgdafhfllgaaCode
namespace Go.Proofs.Ytkcfgdafhfllgaa
def I64 (n : Int) : Prop := -9223372036854775808 ≤ n ∧ n ≤ 9223372036854775807
end Go.Proofs.Ytkcfgdafhfllgaa
