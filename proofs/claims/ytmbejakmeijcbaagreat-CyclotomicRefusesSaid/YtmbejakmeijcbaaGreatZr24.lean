/- Runs at orders up to 512: div (1). -/
import Derived.Test.YtmbejakmeijcbaaGreatZr23
namespace Go.Proofs.YtmbejakmeijcbaaGreat
namespace Dv
theorem div_r0 : (List.range 2).all (fun k => divJ (k + 1)) = true := by kernel_rfl
theorem div_r1 : (List.range 2).all (fun k => divJ (k + 3)) = true := by kernel_rfl
theorem div_r2 : (List.range 2).all (fun k => divJ (k + 5)) = true := by kernel_rfl
theorem div_r3 : (List.range 2).all (fun k => divJ (k + 7)) = true := by kernel_rfl
theorem div_r4 : (List.range 2).all (fun k => divJ (k + 9)) = true := by kernel_rfl
theorem div_r5 : (List.range 2).all (fun k => divJ (k + 11)) = true := by kernel_rfl
theorem div_r6 : (List.range 2).all (fun k => divJ (k + 13)) = true := by kernel_rfl
theorem div_r7 : (List.range 2).all (fun k => divJ (k + 15)) = true := by kernel_rfl
theorem div_r8 : (List.range 2).all (fun k => divJ (k + 17)) = true := by kernel_rfl
theorem div_r9 : (List.range 2).all (fun k => divJ (k + 19)) = true := by kernel_rfl
theorem div_r10 : (List.range 2).all (fun k => divJ (k + 21)) = true := by kernel_rfl
theorem div_r11 : (List.range 2).all (fun k => divJ (k + 23)) = true := by kernel_rfl
theorem div_r12 : (List.range 2).all (fun k => divJ (k + 25)) = true := by kernel_rfl
theorem div_r13 : (List.range 2).all (fun k => divJ (k + 27)) = true := by kernel_rfl
theorem div_r14 : (List.range 2).all (fun k => divJ (k + 29)) = true := by kernel_rfl
theorem div_r15 : (List.range 2).all (fun k => divJ (k + 31)) = true := by kernel_rfl
theorem div_r16 : (List.range 2).all (fun k => divJ (k + 33)) = true := by kernel_rfl
theorem div_r17 : (List.range 2).all (fun k => divJ (k + 35)) = true := by kernel_rfl
theorem div_r18 : (List.range 2).all (fun k => divJ (k + 37)) = true := by kernel_rfl
theorem div_r19 : (List.range 2).all (fun k => divJ (k + 39)) = true := by kernel_rfl
theorem div_r20 : (List.range 2).all (fun k => divJ (k + 41)) = true := by kernel_rfl
theorem div_r21 : (List.range 2).all (fun k => divJ (k + 43)) = true := by kernel_rfl
theorem div_r22 : (List.range 2).all (fun k => divJ (k + 45)) = true := by kernel_rfl
theorem div_r23 : (List.range 2).all (fun k => divJ (k + 47)) = true := by kernel_rfl
theorem div_r24 : (List.range 2).all (fun k => divJ (k + 49)) = true := by kernel_rfl
theorem div_r25 : (List.range 2).all (fun k => divJ (k + 51)) = true := by kernel_rfl
theorem div_r26 : (List.range 2).all (fun k => divJ (k + 53)) = true := by kernel_rfl
theorem div_r27 : (List.range 2).all (fun k => divJ (k + 55)) = true := by kernel_rfl
theorem div_r28 : (List.range 2).all (fun k => divJ (k + 57)) = true := by kernel_rfl
theorem div_r29 : (List.range 2).all (fun k => divJ (k + 59)) = true := by kernel_rfl
theorem div_r30 : (List.range 2).all (fun k => divJ (k + 61)) = true := by kernel_rfl
theorem div_r31 : (List.range 2).all (fun k => divJ (k + 63)) = true := by kernel_rfl
end Dv
end Go.Proofs.YtmbejakmeijcbaaGreat
