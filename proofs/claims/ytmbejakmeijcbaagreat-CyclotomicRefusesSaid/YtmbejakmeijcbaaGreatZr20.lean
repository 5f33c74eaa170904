/- Runs at orders up to 512: phi (2). -/
import Derived.Test.YtmbejakmeijcbaaGreatZr14
namespace Go.Proofs.YtmbejakmeijcbaaGreat
namespace Dv
theorem phi_r4 : (List.range 32).all (fun k => phiB (k + 129)) = true := by kernel_rfl
theorem phi_r5 : (List.range 32).all (fun k => phiB (k + 161)) = true := by kernel_rfl
theorem phi_r6 : (List.range 32).all (fun k => phiB (k + 193)) = true := by kernel_rfl
theorem phi_r7 : (List.range 32).all (fun k => phiB (k + 225)) = true := by kernel_rfl
end Dv
end Go.Proofs.YtmbejakmeijcbaaGreat
