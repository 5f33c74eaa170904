/- The 26 cyclotomic fields as functions of the order; the lifts between them. -/
import Derived.Test.YtmbejakmeijcbaaGreatZt27
namespace Go.Proofs.YtmbejakmeijcbaaGreat
open Go.RowKit
namespace Rf
end Rf
end Go.Proofs.YtmbejakmeijcbaaGreat
