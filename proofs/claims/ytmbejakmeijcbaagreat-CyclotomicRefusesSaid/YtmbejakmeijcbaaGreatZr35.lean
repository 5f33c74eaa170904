/- Runs at orders up to 512: rph (4). -/
import Derived.Test.YtmbejakmeijcbaaGreatZr14
namespace Go.Proofs.YtmbejakmeijcbaaGreat
namespace Dv
theorem rph_r12 : (List.range 32).all (fun k => rphB (k + 385)) = true := by kernel_rfl
theorem rph_r13 : (List.range 32).all (fun k => rphB (k + 417)) = true := by kernel_rfl
theorem rph_r14 : (List.range 32).all (fun k => rphB (k + 449)) = true := by kernel_rfl
theorem rph_r15 : (List.range 32).all (fun k => rphB (k + 481)) = true := by kernel_rfl
end Dv
end Go.Proofs.YtmbejakmeijcbaaGreat
