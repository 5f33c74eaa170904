/- Runs at orders up to 512: rph (1). -/
import Derived.Test.YtmbejakmeijcbaaGreatZr14
namespace Go.Proofs.YtmbejakmeijcbaaGreat
namespace Dv
theorem rph_r0 : (List.range 32).all (fun k => rphB (k + 1)) = true := by kernel_rfl
theorem rph_r1 : (List.range 32).all (fun k => rphB (k + 33)) = true := by kernel_rfl
theorem rph_r2 : (List.range 32).all (fun k => rphB (k + 65)) = true := by kernel_rfl
theorem rph_r3 : (List.range 32).all (fun k => rphB (k + 97)) = true := by kernel_rfl
end Dv
end Go.Proofs.YtmbejakmeijcbaaGreat
