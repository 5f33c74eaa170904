/- Runs at orders up to 512: div (7). -/
import Derived.Test.YtmbejakmeijcbaaGreatZr23
namespace Go.Proofs.YtmbejakmeijcbaaGreat
namespace Dv
theorem div_r192 : (List.range 2).all (fun k => divJ (k + 385)) = true := by kernel_rfl
theorem div_r193 : (List.range 2).all (fun k => divJ (k + 387)) = true := by kernel_rfl
theorem div_r194 : (List.range 2).all (fun k => divJ (k + 389)) = true := by kernel_rfl
theorem div_r195 : (List.range 2).all (fun k => divJ (k + 391)) = true := by kernel_rfl
theorem div_r196 : (List.range 2).all (fun k => divJ (k + 393)) = true := by kernel_rfl
theorem div_r197 : (List.range 2).all (fun k => divJ (k + 395)) = true := by kernel_rfl
theorem div_r198 : (List.range 2).all (fun k => divJ (k + 397)) = true := by kernel_rfl
theorem div_r199 : (List.range 2).all (fun k => divJ (k + 399)) = true := by kernel_rfl
theorem div_r200 : (List.range 2).all (fun k => divJ (k + 401)) = true := by kernel_rfl
theorem div_r201 : (List.range 2).all (fun k => divJ (k + 403)) = true := by kernel_rfl
theorem div_r202 : (List.range 2).all (fun k => divJ (k + 405)) = true := by kernel_rfl
theorem div_r203 : (List.range 2).all (fun k => divJ (k + 407)) = true := by kernel_rfl
theorem div_r204 : (List.range 2).all (fun k => divJ (k + 409)) = true := by kernel_rfl
theorem div_r205 : (List.range 2).all (fun k => divJ (k + 411)) = true := by kernel_rfl
theorem div_r206 : (List.range 2).all (fun k => divJ (k + 413)) = true := by kernel_rfl
theorem div_r207 : (List.range 2).all (fun k => divJ (k + 415)) = true := by kernel_rfl
theorem div_r208 : (List.range 2).all (fun k => divJ (k + 417)) = true := by kernel_rfl
theorem div_r209 : (List.range 2).all (fun k => divJ (k + 419)) = true := by kernel_rfl
theorem div_r210 : (List.range 2).all (fun k => divJ (k + 421)) = true := by kernel_rfl
theorem div_r211 : (List.range 2).all (fun k => divJ (k + 423)) = true := by kernel_rfl
theorem div_r212 : (List.range 2).all (fun k => divJ (k + 425)) = true := by kernel_rfl
theorem div_r213 : (List.range 2).all (fun k => divJ (k + 427)) = true := by kernel_rfl
theorem div_r214 : (List.range 2).all (fun k => divJ (k + 429)) = true := by kernel_rfl
theorem div_r215 : (List.range 2).all (fun k => divJ (k + 431)) = true := by kernel_rfl
theorem div_r216 : (List.range 2).all (fun k => divJ (k + 433)) = true := by kernel_rfl
theorem div_r217 : (List.range 2).all (fun k => divJ (k + 435)) = true := by kernel_rfl
theorem div_r218 : (List.range 2).all (fun k => divJ (k + 437)) = true := by kernel_rfl
theorem div_r219 : (List.range 2).all (fun k => divJ (k + 439)) = true := by kernel_rfl
theorem div_r220 : (List.range 2).all (fun k => divJ (k + 441)) = true := by kernel_rfl
theorem div_r221 : (List.range 2).all (fun k => divJ (k + 443)) = true := by kernel_rfl
theorem div_r222 : (List.range 2).all (fun k => divJ (k + 445)) = true := by kernel_rfl
theorem div_r223 : (List.range 2).all (fun k => divJ (k + 447)) = true := by kernel_rfl
end Dv
end Go.Proofs.YtmbejakmeijcbaaGreat
