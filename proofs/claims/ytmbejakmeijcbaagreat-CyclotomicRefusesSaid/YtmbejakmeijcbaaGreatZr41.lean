/- The document's errors of orders: runs (2). -/
import Derived.Test.YtmbejakmeijcbaaGreatZr39
namespace Go.Proofs.YtmbejakmeijcbaaGreat
open Go.RowKit
namespace Rf
theorem fails_r5 : (List.range 32).all (fun k => failsB (k + 161)) = true := by kernel_rfl
theorem fails_r6 : (List.range 32).all (fun k => failsB (k + 193)) = true := by kernel_rfl
theorem fails_r7 : (List.range 32).all (fun k => failsB (k + 225)) = true := by kernel_rfl
theorem fails_r8 : (List.range 32).all (fun k => failsB (k + 257)) = true := by kernel_rfl
theorem fails_r9 : (List.range 32).all (fun k => failsB (k + 289)) = true := by kernel_rfl
end Rf
end Go.Proofs.YtmbejakmeijcbaaGreat
