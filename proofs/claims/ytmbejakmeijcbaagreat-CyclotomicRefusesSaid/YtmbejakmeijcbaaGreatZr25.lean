/- Runs at orders up to 512: div (2). -/
import Derived.Test.YtmbejakmeijcbaaGreatZr23
namespace Go.Proofs.YtmbejakmeijcbaaGreat
namespace Dv
theorem div_r32 : (List.range 2).all (fun k => divJ (k + 65)) = true := by kernel_rfl
theorem div_r33 : (List.range 2).all (fun k => divJ (k + 67)) = true := by kernel_rfl
theorem div_r34 : (List.range 2).all (fun k => divJ (k + 69)) = true := by kernel_rfl
theorem div_r35 : (List.range 2).all (fun k => divJ (k + 71)) = true := by kernel_rfl
theorem div_r36 : (List.range 2).all (fun k => divJ (k + 73)) = true := by kernel_rfl
theorem div_r37 : (List.range 2).all (fun k => divJ (k + 75)) = true := by kernel_rfl
theorem div_r38 : (List.range 2).all (fun k => divJ (k + 77)) = true := by kernel_rfl
theorem div_r39 : (List.range 2).all (fun k => divJ (k + 79)) = true := by kernel_rfl
theorem div_r40 : (List.range 2).all (fun k => divJ (k + 81)) = true := by kernel_rfl
theorem div_r41 : (List.range 2).all (fun k => divJ (k + 83)) = true := by kernel_rfl
theorem div_r42 : (List.range 2).all (fun k => divJ (k + 85)) = true := by kernel_rfl
theorem div_r43 : (List.range 2).all (fun k => divJ (k + 87)) = true := by kernel_rfl
theorem div_r44 : (List.range 2).all (fun k => divJ (k + 89)) = true := by kernel_rfl
theorem div_r45 : (List.range 2).all (fun k => divJ (k + 91)) = true := by kernel_rfl
theorem div_r46 : (List.range 2).all (fun k => divJ (k + 93)) = true := by kernel_rfl
theorem div_r47 : (List.range 2).all (fun k => divJ (k + 95)) = true := by kernel_rfl
theorem div_r48 : (List.range 2).all (fun k => divJ (k + 97)) = true := by kernel_rfl
theorem div_r49 : (List.range 2).all (fun k => divJ (k + 99)) = true := by kernel_rfl
theorem div_r50 : (List.range 2).all (fun k => divJ (k + 101)) = true := by kernel_rfl
theorem div_r51 : (List.range 2).all (fun k => divJ (k + 103)) = true := by kernel_rfl
theorem div_r52 : (List.range 2).all (fun k => divJ (k + 105)) = true := by kernel_rfl
theorem div_r53 : (List.range 2).all (fun k => divJ (k + 107)) = true := by kernel_rfl
theorem div_r54 : (List.range 2).all (fun k => divJ (k + 109)) = true := by kernel_rfl
theorem div_r55 : (List.range 2).all (fun k => divJ (k + 111)) = true := by kernel_rfl
theorem div_r56 : (List.range 2).all (fun k => divJ (k + 113)) = true := by kernel_rfl
theorem div_r57 : (List.range 2).all (fun k => divJ (k + 115)) = true := by kernel_rfl
theorem div_r58 : (List.range 2).all (fun k => divJ (k + 117)) = true := by kernel_rfl
theorem div_r59 : (List.range 2).all (fun k => divJ (k + 119)) = true := by kernel_rfl
theorem div_r60 : (List.range 2).all (fun k => divJ (k + 121)) = true := by kernel_rfl
theorem div_r61 : (List.range 2).all (fun k => divJ (k + 123)) = true := by kernel_rfl
theorem div_r62 : (List.range 2).all (fun k => divJ (k + 125)) = true := by kernel_rfl
theorem div_r63 : (List.range 2).all (fun k => divJ (k + 127)) = true := by kernel_rfl
end Dv
end Go.Proofs.YtmbejakmeijcbaaGreat
