/- Runs at orders up to 512: rph (3). -/
import Derived.Test.YtmbejakmeijcbaaGreatZr14
namespace Go.Proofs.YtmbejakmeijcbaaGreat
namespace Dv
theorem rph_r8 : (List.range 32).all (fun k => rphB (k + 257)) = true := by kernel_rfl
theorem rph_r9 : (List.range 32).all (fun k => rphB (k + 289)) = true := by kernel_rfl
theorem rph_r10 : (List.range 32).all (fun k => rphB (k + 321)) = true := by kernel_rfl
theorem rph_r11 : (List.range 32).all (fun k => rphB (k + 353)) = true := by kernel_rfl
end Dv
end Go.Proofs.YtmbejakmeijcbaaGreat
