/- Runs at orders up to 512: phi (1). -/
import Derived.Test.YtmbejakmeijcbaaGreatZr14
namespace Go.Proofs.YtmbejakmeijcbaaGreat
namespace Dv
theorem phi_r0 : (List.range 32).all (fun k => phiB (k + 1)) = true := by kernel_rfl
theorem phi_r1 : (List.range 32).all (fun k => phiB (k + 33)) = true := by kernel_rfl
theorem phi_r2 : (List.range 32).all (fun k => phiB (k + 65)) = true := by kernel_rfl
theorem phi_r3 : (List.range 32).all (fun k => phiB (k + 97)) = true := by kernel_rfl
end Dv
end Go.Proofs.YtmbejakmeijcbaaGreat
