/- Runs at orders up to 512: phi (4). -/
import Derived.Test.YtmbejakmeijcbaaGreatZr14
namespace Go.Proofs.YtmbejakmeijcbaaGreat
namespace Dv
theorem phi_r12 : (List.range 32).all (fun k => phiB (k + 385)) = true := by kernel_rfl
theorem phi_r13 : (List.range 32).all (fun k => phiB (k + 417)) = true := by kernel_rfl
theorem phi_r14 : (List.range 32).all (fun k => phiB (k + 449)) = true := by kernel_rfl
theorem phi_r15 : (List.range 32).all (fun k => phiB (k + 481)) = true := by kernel_rfl
end Dv
end Go.Proofs.YtmbejakmeijcbaaGreat
