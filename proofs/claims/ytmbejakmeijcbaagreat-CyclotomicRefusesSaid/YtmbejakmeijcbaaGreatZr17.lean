/- Runs at orders up to 512: mob (3). -/
import Derived.Test.YtmbejakmeijcbaaGreatZr14
namespace Go.Proofs.YtmbejakmeijcbaaGreat
namespace Dv
theorem mob_r8 : (List.range 32).all (fun k => mobB (k + 257)) = true := by kernel_rfl
theorem mob_r9 : (List.range 32).all (fun k => mobB (k + 289)) = true := by kernel_rfl
theorem mob_r10 : (List.range 32).all (fun k => mobB (k + 321)) = true := by kernel_rfl
theorem mob_r11 : (List.range 32).all (fun k => mobB (k + 353)) = true := by kernel_rfl
end Dv
end Go.Proofs.YtmbejakmeijcbaaGreat
