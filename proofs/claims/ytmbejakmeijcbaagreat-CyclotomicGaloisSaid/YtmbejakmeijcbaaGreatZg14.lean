/- The law CyclotomicZetas over abstract arguments. -/
import Derived.Test.YtmbejakmeijcbaaGreatZg13
namespace Go.Proofs.YtmbejakmeijcbaaGreat
open Go.RowKit
namespace Rf
end Rf
end Go.Proofs.YtmbejakmeijcbaaGreat
