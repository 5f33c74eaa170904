/- The document's errors of orders: runs (1). -/
import Derived.Test.YtmbejakmeijcbaaGreatZr39
namespace Go.Proofs.YtmbejakmeijcbaaGreat
open Go.RowKit
namespace Rf
theorem fails_r0 : (List.range 32).all (fun k => failsB (k + 1)) = true := by kernel_rfl
theorem fails_r1 : (List.range 32).all (fun k => failsB (k + 33)) = true := by kernel_rfl
theorem fails_r2 : (List.range 32).all (fun k => failsB (k + 65)) = true := by kernel_rfl
theorem fails_r3 : (List.range 32).all (fun k => failsB (k + 97)) = true := by kernel_rfl
theorem fails_r4 : (List.range 32).all (fun k => failsB (k + 129)) = true := by kernel_rfl
end Rf
end Go.Proofs.YtmbejakmeijcbaaGreat
