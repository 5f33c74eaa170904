/- Runs at orders up to 512: div (6). -/
import Derived.Test.YtmbejakmeijcbaaGreatZr23
namespace Go.Proofs.YtmbejakmeijcbaaGreat
namespace Dv
theorem div_r160 : (List.range 2).all (fun k => divJ (k + 321)) = true := by kernel_rfl
theorem div_r161 : (List.range 2).all (fun k => divJ (k + 323)) = true := by kernel_rfl
theorem div_r162 : (List.range 2).all (fun k => divJ (k + 325)) = true := by kernel_rfl
theorem div_r163 : (List.range 2).all (fun k => divJ (k + 327)) = true := by kernel_rfl
theorem div_r164 : (List.range 2).all (fun k => divJ (k + 329)) = true := by kernel_rfl
theorem div_r165 : (List.range 2).all (fun k => divJ (k + 331)) = true := by kernel_rfl
theorem div_r166 : (List.range 2).all (fun k => divJ (k + 333)) = true := by kernel_rfl
theorem div_r167 : (List.range 2).all (fun k => divJ (k + 335)) = true := by kernel_rfl
theorem div_r168 : (List.range 2).all (fun k => divJ (k + 337)) = true := by kernel_rfl
theorem div_r169 : (List.range 2).all (fun k => divJ (k + 339)) = true := by kernel_rfl
theorem div_r170 : (List.range 2).all (fun k => divJ (k + 341)) = true := by kernel_rfl
theorem div_r171 : (List.range 2).all (fun k => divJ (k + 343)) = true := by kernel_rfl
theorem div_r172 : (List.range 2).all (fun k => divJ (k + 345)) = true := by kernel_rfl
theorem div_r173 : (List.range 2).all (fun k => divJ (k + 347)) = true := by kernel_rfl
theorem div_r174 : (List.range 2).all (fun k => divJ (k + 349)) = true := by kernel_rfl
theorem div_r175 : (List.range 2).all (fun k => divJ (k + 351)) = true := by kernel_rfl
theorem div_r176 : (List.range 2).all (fun k => divJ (k + 353)) = true := by kernel_rfl
theorem div_r177 : (List.range 2).all (fun k => divJ (k + 355)) = true := by kernel_rfl
theorem div_r178 : (List.range 2).all (fun k => divJ (k + 357)) = true := by kernel_rfl
theorem div_r179 : (List.range 2).all (fun k => divJ (k + 359)) = true := by kernel_rfl
theorem div_r180 : (List.range 2).all (fun k => divJ (k + 361)) = true := by kernel_rfl
theorem div_r181 : (List.range 2).all (fun k => divJ (k + 363)) = true := by kernel_rfl
theorem div_r182 : (List.range 2).all (fun k => divJ (k + 365)) = true := by kernel_rfl
theorem div_r183 : (List.range 2).all (fun k => divJ (k + 367)) = true := by kernel_rfl
theorem div_r184 : (List.range 2).all (fun k => divJ (k + 369)) = true := by kernel_rfl
theorem div_r185 : (List.range 2).all (fun k => divJ (k + 371)) = true := by kernel_rfl
theorem div_r186 : (List.range 2).all (fun k => divJ (k + 373)) = true := by kernel_rfl
theorem div_r187 : (List.range 2).all (fun k => divJ (k + 375)) = true := by kernel_rfl
theorem div_r188 : (List.range 2).all (fun k => divJ (k + 377)) = true := by kernel_rfl
theorem div_r189 : (List.range 2).all (fun k => divJ (k + 379)) = true := by kernel_rfl
theorem div_r190 : (List.range 2).all (fun k => divJ (k + 381)) = true := by kernel_rfl
theorem div_r191 : (List.range 2).all (fun k => divJ (k + 383)) = true := by kernel_rfl
end Dv
end Go.Proofs.YtmbejakmeijcbaaGreat
