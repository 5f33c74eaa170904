/- The document's errors of orders: runs (3). -/
import Derived.Test.YtmbejakmeijcbaaGreatZr39
namespace Go.Proofs.YtmbejakmeijcbaaGreat
open Go.RowKit
namespace Rf
theorem fails_r10 : (List.range 32).all (fun k => failsB (k + 321)) = true := by kernel_rfl
theorem fails_r11 : (List.range 32).all (fun k => failsB (k + 353)) = true := by kernel_rfl
theorem fails_r12 : (List.range 32).all (fun k => failsB (k + 385)) = true := by kernel_rfl
theorem fails_r13 : (List.range 32).all (fun k => failsB (k + 417)) = true := by kernel_rfl
theorem fails_r14 : (List.range 32).all (fun k => failsB (k + 449)) = true := by kernel_rfl
theorem fails_r15 : (List.range 32).all (fun k => failsB (k + 481)) = true := by kernel_rfl
end Rf
end Go.Proofs.YtmbejakmeijcbaaGreat
