/- Runs at orders up to 512: ch (1). -/
import Derived.Test.YtmbejakmeijcbaaGreatZr14
namespace Go.Proofs.YtmbejakmeijcbaaGreat
namespace Dv
theorem ch_r0 : (List.range 32).all (fun k => chB (k + 1)) = true := by kernel_rfl
theorem ch_r1 : (List.range 32).all (fun k => chB (k + 33)) = true := by kernel_rfl
theorem ch_r2 : (List.range 32).all (fun k => chB (k + 65)) = true := by kernel_rfl
theorem ch_r3 : (List.range 32).all (fun k => chB (k + 97)) = true := by kernel_rfl
theorem ch_r4 : (List.range 32).all (fun k => chB (k + 129)) = true := by kernel_rfl
theorem ch_r5 : (List.range 32).all (fun k => chB (k + 161)) = true := by kernel_rfl
theorem ch_r6 : (List.range 32).all (fun k => chB (k + 193)) = true := by kernel_rfl
theorem ch_r7 : (List.range 32).all (fun k => chB (k + 225)) = true := by kernel_rfl
theorem ch_r8 : (List.range 32).all (fun k => chB (k + 257)) = true := by kernel_rfl
theorem ch_r9 : (List.range 32).all (fun k => chB (k + 289)) = true := by kernel_rfl
theorem ch_r10 : (List.range 32).all (fun k => chB (k + 321)) = true := by kernel_rfl
theorem ch_r11 : (List.range 32).all (fun k => chB (k + 353)) = true := by kernel_rfl
theorem ch_r12 : (List.range 32).all (fun k => chB (k + 385)) = true := by kernel_rfl
theorem ch_r13 : (List.range 32).all (fun k => chB (k + 417)) = true := by kernel_rfl
theorem ch_r14 : (List.range 32).all (fun k => chB (k + 449)) = true := by kernel_rfl
theorem ch_r15 : (List.range 32).all (fun k => chB (k + 481)) = true := by kernel_rfl
end Dv
end Go.Proofs.YtmbejakmeijcbaaGreat
