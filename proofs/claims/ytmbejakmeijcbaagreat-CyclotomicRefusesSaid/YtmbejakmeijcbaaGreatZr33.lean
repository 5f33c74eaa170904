/- Runs at orders up to 512: rph (2). -/
import Derived.Test.YtmbejakmeijcbaaGreatZr14
namespace Go.Proofs.YtmbejakmeijcbaaGreat
namespace Dv
theorem rph_r4 : (List.range 32).all (fun k => rphB (k + 129)) = true := by kernel_rfl
theorem rph_r5 : (List.range 32).all (fun k => rphB (k + 161)) = true := by kernel_rfl
theorem rph_r6 : (List.range 32).all (fun k => rphB (k + 193)) = true := by kernel_rfl
theorem rph_r7 : (List.range 32).all (fun k => rphB (k + 225)) = true := by kernel_rfl
end Dv
end Go.Proofs.YtmbejakmeijcbaaGreat
