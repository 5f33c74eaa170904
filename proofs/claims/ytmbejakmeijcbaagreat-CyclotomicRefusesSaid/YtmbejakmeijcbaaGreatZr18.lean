/- Runs at orders up to 512: mob (4). -/
import Derived.Test.YtmbejakmeijcbaaGreatZr14
namespace Go.Proofs.YtmbejakmeijcbaaGreat
namespace Dv
theorem mob_r12 : (List.range 32).all (fun k => mobB (k + 385)) = true := by kernel_rfl
theorem mob_r13 : (List.range 32).all (fun k => mobB (k + 417)) = true := by kernel_rfl
theorem mob_r14 : (List.range 32).all (fun k => mobB (k + 449)) = true := by kernel_rfl
theorem mob_r15 : (List.range 32).all (fun k => mobB (k + 481)) = true := by kernel_rfl
end Dv
end Go.Proofs.YtmbejakmeijcbaaGreat
