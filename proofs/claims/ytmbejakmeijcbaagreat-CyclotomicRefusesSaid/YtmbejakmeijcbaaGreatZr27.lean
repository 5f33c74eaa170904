/- Runs at orders up to 512: div (4). -/
import Derived.Test.YtmbejakmeijcbaaGreatZr23
namespace Go.Proofs.YtmbejakmeijcbaaGreat
namespace Dv
theorem div_r96 : (List.range 2).all (fun k => divJ (k + 193)) = true := by kernel_rfl
theorem div_r97 : (List.range 2).all (fun k => divJ (k + 195)) = true := by kernel_rfl
theorem div_r98 : (List.range 2).all (fun k => divJ (k + 197)) = true := by kernel_rfl
theorem div_r99 : (List.range 2).all (fun k => divJ (k + 199)) = true := by kernel_rfl
theorem div_r100 : (List.range 2).all (fun k => divJ (k + 201)) = true := by kernel_rfl
theorem div_r101 : (List.range 2).all (fun k => divJ (k + 203)) = true := by kernel_rfl
theorem div_r102 : (List.range 2).all (fun k => divJ (k + 205)) = true := by kernel_rfl
theorem div_r103 : (List.range 2).all (fun k => divJ (k + 207)) = true := by kernel_rfl
theorem div_r104 : (List.range 2).all (fun k => divJ (k + 209)) = true := by kernel_rfl
theorem div_r105 : (List.range 2).all (fun k => divJ (k + 211)) = true := by kernel_rfl
theorem div_r106 : (List.range 2).all (fun k => divJ (k + 213)) = true := by kernel_rfl
theorem div_r107 : (List.range 2).all (fun k => divJ (k + 215)) = true := by kernel_rfl
theorem div_r108 : (List.range 2).all (fun k => divJ (k + 217)) = true := by kernel_rfl
theorem div_r109 : (List.range 2).all (fun k => divJ (k + 219)) = true := by kernel_rfl
theorem div_r110 : (List.range 2).all (fun k => divJ (k + 221)) = true := by kernel_rfl
theorem div_r111 : (List.range 2).all (fun k => divJ (k + 223)) = true := by kernel_rfl
theorem div_r112 : (List.range 2).all (fun k => divJ (k + 225)) = true := by kernel_rfl
theorem div_r113 : (List.range 2).all (fun k => divJ (k + 227)) = true := by kernel_rfl
theorem div_r114 : (List.range 2).all (fun k => divJ (k + 229)) = true := by kernel_rfl
theorem div_r115 : (List.range 2).all (fun k => divJ (k + 231)) = true := by kernel_rfl
theorem div_r116 : (List.range 2).all (fun k => divJ (k + 233)) = true := by kernel_rfl
theorem div_r117 : (List.range 2).all (fun k => divJ (k + 235)) = true := by kernel_rfl
theorem div_r118 : (List.range 2).all (fun k => divJ (k + 237)) = true := by kernel_rfl
theorem div_r119 : (List.range 2).all (fun k => divJ (k + 239)) = true := by kernel_rfl
theorem div_r120 : (List.range 2).all (fun k => divJ (k + 241)) = true := by kernel_rfl
theorem div_r121 : (List.range 2).all (fun k => divJ (k + 243)) = true := by kernel_rfl
theorem div_r122 : (List.range 2).all (fun k => divJ (k + 245)) = true := by kernel_rfl
theorem div_r123 : (List.range 2).all (fun k => divJ (k + 247)) = true := by kernel_rfl
theorem div_r124 : (List.range 2).all (fun k => divJ (k + 249)) = true := by kernel_rfl
theorem div_r125 : (List.range 2).all (fun k => divJ (k + 251)) = true := by kernel_rfl
theorem div_r126 : (List.range 2).all (fun k => divJ (k + 253)) = true := by kernel_rfl
theorem div_r127 : (List.range 2).all (fun k => divJ (k + 255)) = true := by kernel_rfl
end Dv
end Go.Proofs.YtmbejakmeijcbaaGreat
