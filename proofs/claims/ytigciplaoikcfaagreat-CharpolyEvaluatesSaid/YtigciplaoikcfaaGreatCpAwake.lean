/- What the statements of charpoly begin with: fixed calls, run. -/
import Derived.Test.YtigciplaoikcfaaGreatRunF
namespace Go.Proofs.YtigciplaoikcfaaGreat
open Go.RowKit
def inlAwake (f : FuncId) : Bool := [60, 61, 110, 118, 30, 77, 29, 75].contains f
theorem awake_run : (pureX orcC (runX ER orcC okF inlAwake 1000 40) 5 []).map (fun x => match x with | .c (.bool b) => b | _ => false) = some true := by kernel_rfl
theorem awake_ok : FnOK Tryz.prog false 5 [] (.c (.bool true)) := by
  have h := awake_run
  cases hx : pureX orcC (runX ER orcC okF inlAwake 1000 40) 5 [] with
  | none => rw [hx] at h; cases h
  | some X =>
    rw [hx] at h
    have hX : X = .c (.bool true) := by
      simp only [Option.map_some, Option.some.injEq] at h
      split at h
      · rename_i b; subst h; rfl
      · cases h
    subst hX
    exact run_call orcC_ok hx
end Go.Proofs.YtigciplaoikcfaaGreat
