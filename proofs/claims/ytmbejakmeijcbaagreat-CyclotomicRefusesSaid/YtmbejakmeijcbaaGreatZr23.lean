/- Orders up to 512: what runs of the divisors have to show. -/
import Derived.Test.YtmbejakmeijcbaaGreatZr14
namespace Go.Proofs.YtmbejakmeijcbaaGreat
open Go.RowKit
namespace Dv
def dvS : List FuncId := [172, 173, 174, 175, 176, 177, 179, 180, 198, 199, 200, 201, 202, 210]
def dvJ (f : FuncId) : Bool := dvIn.contains f || dvS.contains f
noncomputable def divJ (n : Nat) : Bool := (pureX orcP (runY ER orcP dvX okF dvJ 1000 40) 63 [.c (.int .i64 n)]).map (fun X => sameV X (.t2 (.c (Rf.ints (dvs n).length fun i => (dvs n).getD i 0)) (.c (.int .i64 0)))) == some true
end Dv
end Go.Proofs.YtmbejakmeijcbaaGreat
