/- What the statements of charpoly begin with: fixed calls, run. -/
import Derived.Test.YtmghdnmffljfeaaGreatRunF
namespace Go.Proofs.YtmghdnmffljfeaaGreat
open Go.RowKit
def inlAwake (f : FuncId) : Bool := [54, 55, 124, 200, 73, 138].contains f
theorem awake_run : (pureX orcC (runX ER orcC okF inlAwake 1000 40) 12 []).map (fun x => match x with | .c (.bool b) => b | _ => false) = some true := by kernel_rfl
theorem awake_ok : FnOK Tryz.prog false 12 [] (.c (.bool true)) := by
  have h := awake_run
  cases hx : pureX orcC (runX ER orcC okF inlAwake 1000 40) 12 [] with
  | none => rw [hx] at h; cases h
  | some X =>
    rw [hx] at h
    have hX : X = .c (.bool true) := by
      simp only [Option.map_some, Option.some.injEq] at h
      split at h
      · rename_i b; subst h; rfl
      · cases h
    subst hX
    exact run_call orcC_ok hx
end Go.Proofs.YtmghdnmffljfeaaGreat
