/- Runs at orders up to 512: div (3). -/
import Derived.Test.YtmbejakmeijcbaaGreatZr23
namespace Go.Proofs.YtmbejakmeijcbaaGreat
namespace Dv
theorem div_r64 : (List.range 2).all (fun k => divJ (k + 129)) = true := by kernel_rfl
theorem div_r65 : (List.range 2).all (fun k => divJ (k + 131)) = true := by kernel_rfl
theorem div_r66 : (List.range 2).all (fun k => divJ (k + 133)) = true := by kernel_rfl
theorem div_r67 : (List.range 2).all (fun k => divJ (k + 135)) = true := by kernel_rfl
theorem div_r68 : (List.range 2).all (fun k => divJ (k + 137)) = true := by kernel_rfl
theorem div_r69 : (List.range 2).all (fun k => divJ (k + 139)) = true := by kernel_rfl
theorem div_r70 : (List.range 2).all (fun k => divJ (k + 141)) = true := by kernel_rfl
theorem div_r71 : (List.range 2).all (fun k => divJ (k + 143)) = true := by kernel_rfl
theorem div_r72 : (List.range 2).all (fun k => divJ (k + 145)) = true := by kernel_rfl
theorem div_r73 : (List.range 2).all (fun k => divJ (k + 147)) = true := by kernel_rfl
theorem div_r74 : (List.range 2).all (fun k => divJ (k + 149)) = true := by kernel_rfl
theorem div_r75 : (List.range 2).all (fun k => divJ (k + 151)) = true := by kernel_rfl
theorem div_r76 : (List.range 2).all (fun k => divJ (k + 153)) = true := by kernel_rfl
theorem div_r77 : (List.range 2).all (fun k => divJ (k + 155)) = true := by kernel_rfl
theorem div_r78 : (List.range 2).all (fun k => divJ (k + 157)) = true := by kernel_rfl
theorem div_r79 : (List.range 2).all (fun k => divJ (k + 159)) = true := by kernel_rfl
theorem div_r80 : (List.range 2).all (fun k => divJ (k + 161)) = true := by kernel_rfl
theorem div_r81 : (List.range 2).all (fun k => divJ (k + 163)) = true := by kernel_rfl
theorem div_r82 : (List.range 2).all (fun k => divJ (k + 165)) = true := by kernel_rfl
theorem div_r83 : (List.range 2).all (fun k => divJ (k + 167)) = true := by kernel_rfl
theorem div_r84 : (List.range 2).all (fun k => divJ (k + 169)) = true := by kernel_rfl
theorem div_r85 : (List.range 2).all (fun k => divJ (k + 171)) = true := by kernel_rfl
theorem div_r86 : (List.range 2).all (fun k => divJ (k + 173)) = true := by kernel_rfl
theorem div_r87 : (List.range 2).all (fun k => divJ (k + 175)) = true := by kernel_rfl
theorem div_r88 : (List.range 2).all (fun k => divJ (k + 177)) = true := by kernel_rfl
theorem div_r89 : (List.range 2).all (fun k => divJ (k + 179)) = true := by kernel_rfl
theorem div_r90 : (List.range 2).all (fun k => divJ (k + 181)) = true := by kernel_rfl
theorem div_r91 : (List.range 2).all (fun k => divJ (k + 183)) = true := by kernel_rfl
theorem div_r92 : (List.range 2).all (fun k => divJ (k + 185)) = true := by kernel_rfl
theorem div_r93 : (List.range 2).all (fun k => divJ (k + 187)) = true := by kernel_rfl
theorem div_r94 : (List.range 2).all (fun k => divJ (k + 189)) = true := by kernel_rfl
theorem div_r95 : (List.range 2).all (fun k => divJ (k + 191)) = true := by kernel_rfl
end Dv
end Go.Proofs.YtmbejakmeijcbaaGreat
