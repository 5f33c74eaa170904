/- The document's errors of orders: a run for each order up to 512. -/
import Derived.Test.YtmbejakmeijcbaaGreatZr8
import Derived.Test.YtmbejakmeijcbaaGreatZr5
namespace Go.Proofs.YtmbejakmeijcbaaGreat
open Go.RowKit
namespace Rf
def ordsL : List Nat := [1, 2, 3, 4, 5, 6, 7, 8, 9, 10, 11, 12, 13, 14, 15, 16, 18, 20, 21, 22, 24, 26, 28, 30, 36, 42]
noncomputable def failsX (n : Nat) : Option V := pureX orcC (runX ER orcC okF (fun _ => false) 1000 40) 11 [.c (.int .i64 n)]
noncomputable def failsB (n : Nat) : Bool := match failsX n with
 | some (.c (.int .i64 x)) => (x == 0) == ordsL.contains n
 | _ => false
end Rf
end Go.Proofs.YtmbejakmeijcbaaGreat
