/- Runs at orders up to 512: div (5). -/
import Derived.Test.YtmbejakmeijcbaaGreatZr23
namespace Go.Proofs.YtmbejakmeijcbaaGreat
namespace Dv
theorem div_r128 : (List.range 2).all (fun k => divJ (k + 257)) = true := by kernel_rfl
theorem div_r129 : (List.range 2).all (fun k => divJ (k + 259)) = true := by kernel_rfl
theorem div_r130 : (List.range 2).all (fun k => divJ (k + 261)) = true := by kernel_rfl
theorem div_r131 : (List.range 2).all (fun k => divJ (k + 263)) = true := by kernel_rfl
theorem div_r132 : (List.range 2).all (fun k => divJ (k + 265)) = true := by kernel_rfl
theorem div_r133 : (List.range 2).all (fun k => divJ (k + 267)) = true := by kernel_rfl
theorem div_r134 : (List.range 2).all (fun k => divJ (k + 269)) = true := by kernel_rfl
theorem div_r135 : (List.range 2).all (fun k => divJ (k + 271)) = true := by kernel_rfl
theorem div_r136 : (List.range 2).all (fun k => divJ (k + 273)) = true := by kernel_rfl
theorem div_r137 : (List.range 2).all (fun k => divJ (k + 275)) = true := by kernel_rfl
theorem div_r138 : (List.range 2).all (fun k => divJ (k + 277)) = true := by kernel_rfl
theorem div_r139 : (List.range 2).all (fun k => divJ (k + 279)) = true := by kernel_rfl
theorem div_r140 : (List.range 2).all (fun k => divJ (k + 281)) = true := by kernel_rfl
theorem div_r141 : (List.range 2).all (fun k => divJ (k + 283)) = true := by kernel_rfl
theorem div_r142 : (List.range 2).all (fun k => divJ (k + 285)) = true := by kernel_rfl
theorem div_r143 : (List.range 2).all (fun k => divJ (k + 287)) = true := by kernel_rfl
theorem div_r144 : (List.range 2).all (fun k => divJ (k + 289)) = true := by kernel_rfl
theorem div_r145 : (List.range 2).all (fun k => divJ (k + 291)) = true := by kernel_rfl
theorem div_r146 : (List.range 2).all (fun k => divJ (k + 293)) = true := by kernel_rfl
theorem div_r147 : (List.range 2).all (fun k => divJ (k + 295)) = true := by kernel_rfl
theorem div_r148 : (List.range 2).all (fun k => divJ (k + 297)) = true := by kernel_rfl
theorem div_r149 : (List.range 2).all (fun k => divJ (k + 299)) = true := by kernel_rfl
theorem div_r150 : (List.range 2).all (fun k => divJ (k + 301)) = true := by kernel_rfl
theorem div_r151 : (List.range 2).all (fun k => divJ (k + 303)) = true := by kernel_rfl
theorem div_r152 : (List.range 2).all (fun k => divJ (k + 305)) = true := by kernel_rfl
theorem div_r153 : (List.range 2).all (fun k => divJ (k + 307)) = true := by kernel_rfl
theorem div_r154 : (List.range 2).all (fun k => divJ (k + 309)) = true := by kernel_rfl
theorem div_r155 : (List.range 2).all (fun k => divJ (k + 311)) = true := by kernel_rfl
theorem div_r156 : (List.range 2).all (fun k => divJ (k + 313)) = true := by kernel_rfl
theorem div_r157 : (List.range 2).all (fun k => divJ (k + 315)) = true := by kernel_rfl
theorem div_r158 : (List.range 2).all (fun k => divJ (k + 317)) = true := by kernel_rfl
theorem div_r159 : (List.range 2).all (fun k => divJ (k + 319)) = true := by kernel_rfl
end Dv
end Go.Proofs.YtmbejakmeijcbaaGreat
