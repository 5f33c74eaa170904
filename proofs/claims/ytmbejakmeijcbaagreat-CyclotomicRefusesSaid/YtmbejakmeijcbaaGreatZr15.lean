/- Runs at orders up to 512: mob (1). -/
import Derived.Test.YtmbejakmeijcbaaGreatZr14
namespace Go.Proofs.YtmbejakmeijcbaaGreat
namespace Dv
theorem mob_r0 : (List.range 32).all (fun k => mobB (k + 1)) = true := by kernel_rfl
theorem mob_r1 : (List.range 32).all (fun k => mobB (k + 33)) = true := by kernel_rfl
theorem mob_r2 : (List.range 32).all (fun k => mobB (k + 65)) = true := by kernel_rfl
theorem mob_r3 : (List.range 32).all (fun k => mobB (k + 97)) = true := by kernel_rfl
end Dv
end Go.Proofs.YtmbejakmeijcbaaGreat
