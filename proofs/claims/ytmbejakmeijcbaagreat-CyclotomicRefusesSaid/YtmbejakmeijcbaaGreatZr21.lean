/- Runs at orders up to 512: phi (3). -/
import Derived.Test.YtmbejakmeijcbaaGreatZr14
namespace Go.Proofs.YtmbejakmeijcbaaGreat
namespace Dv
theorem phi_r8 : (List.range 32).all (fun k => phiB (k + 257)) = true := by kernel_rfl
theorem phi_r9 : (List.range 32).all (fun k => phiB (k + 289)) = true := by kernel_rfl
theorem phi_r10 : (List.range 32).all (fun k => phiB (k + 321)) = true := by kernel_rfl
theorem phi_r11 : (List.range 32).all (fun k => phiB (k + 353)) = true := by kernel_rfl
end Dv
end Go.Proofs.YtmbejakmeijcbaaGreat
