/- Runs at orders up to 512: div (8). -/
import Derived.Test.YtmbejakmeijcbaaGreatZr23
namespace Go.Proofs.YtmbejakmeijcbaaGreat
namespace Dv
theorem div_r224 : (List.range 2).all (fun k => divJ (k + 449)) = true := by kernel_rfl
theorem div_r225 : (List.range 2).all (fun k => divJ (k + 451)) = true := by kernel_rfl
theorem div_r226 : (List.range 2).all (fun k => divJ (k + 453)) = true := by kernel_rfl
theorem div_r227 : (List.range 2).all (fun k => divJ (k + 455)) = true := by kernel_rfl
theorem div_r228 : (List.range 2).all (fun k => divJ (k + 457)) = true := by kernel_rfl
theorem div_r229 : (List.range 2).all (fun k => divJ (k + 459)) = true := by kernel_rfl
theorem div_r230 : (List.range 2).all (fun k => divJ (k + 461)) = true := by kernel_rfl
theorem div_r231 : (List.range 2).all (fun k => divJ (k + 463)) = true := by kernel_rfl
theorem div_r232 : (List.range 2).all (fun k => divJ (k + 465)) = true := by kernel_rfl
theorem div_r233 : (List.range 2).all (fun k => divJ (k + 467)) = true := by kernel_rfl
theorem div_r234 : (List.range 2).all (fun k => divJ (k + 469)) = true := by kernel_rfl
theorem div_r235 : (List.range 2).all (fun k => divJ (k + 471)) = true := by kernel_rfl
theorem div_r236 : (List.range 2).all (fun k => divJ (k + 473)) = true := by kernel_rfl
theorem div_r237 : (List.range 2).all (fun k => divJ (k + 475)) = true := by kernel_rfl
theorem div_r238 : (List.range 2).all (fun k => divJ (k + 477)) = true := by kernel_rfl
theorem div_r239 : (List.range 2).all (fun k => divJ (k + 479)) = true := by kernel_rfl
theorem div_r240 : (List.range 2).all (fun k => divJ (k + 481)) = true := by kernel_rfl
theorem div_r241 : (List.range 2).all (fun k => divJ (k + 483)) = true := by kernel_rfl
theorem div_r242 : (List.range 2).all (fun k => divJ (k + 485)) = true := by kernel_rfl
theorem div_r243 : (List.range 2).all (fun k => divJ (k + 487)) = true := by kernel_rfl
theorem div_r244 : (List.range 2).all (fun k => divJ (k + 489)) = true := by kernel_rfl
theorem div_r245 : (List.range 2).all (fun k => divJ (k + 491)) = true := by kernel_rfl
theorem div_r246 : (List.range 2).all (fun k => divJ (k + 493)) = true := by kernel_rfl
theorem div_r247 : (List.range 2).all (fun k => divJ (k + 495)) = true := by kernel_rfl
theorem div_r248 : (List.range 2).all (fun k => divJ (k + 497)) = true := by kernel_rfl
theorem div_r249 : (List.range 2).all (fun k => divJ (k + 499)) = true := by kernel_rfl
theorem div_r250 : (List.range 2).all (fun k => divJ (k + 501)) = true := by kernel_rfl
theorem div_r251 : (List.range 2).all (fun k => divJ (k + 503)) = true := by kernel_rfl
theorem div_r252 : (List.range 2).all (fun k => divJ (k + 505)) = true := by kernel_rfl
theorem div_r253 : (List.range 2).all (fun k => divJ (k + 507)) = true := by kernel_rfl
theorem div_r254 : (List.range 2).all (fun k => divJ (k + 509)) = true := by kernel_rfl
theorem div_r255 : (List.range 2).all (fun k => divJ (k + 511)) = true := by kernel_rfl
end Dv
end Go.Proofs.YtmbejakmeijcbaaGreat
