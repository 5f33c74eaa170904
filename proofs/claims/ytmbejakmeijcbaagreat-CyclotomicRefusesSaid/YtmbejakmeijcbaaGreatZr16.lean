/- Runs at orders up to 512: mob (2). -/
import Derived.Test.YtmbejakmeijcbaaGreatZr14
namespace Go.Proofs.YtmbejakmeijcbaaGreat
namespace Dv
theorem mob_r4 : (List.range 32).all (fun k => mobB (k + 129)) = true := by kernel_rfl
theorem mob_r5 : (List.range 32).all (fun k => mobB (k + 161)) = true := by kernel_rfl
theorem mob_r6 : (List.range 32).all (fun k => mobB (k + 193)) = true := by kernel_rfl
theorem mob_r7 : (List.range 32).all (fun k => mobB (k + 225)) = true := by kernel_rfl
end Dv
end Go.Proofs.YtmbejakmeijcbaaGreat
