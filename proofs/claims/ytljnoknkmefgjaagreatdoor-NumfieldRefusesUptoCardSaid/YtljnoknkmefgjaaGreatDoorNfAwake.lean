/- The awake call of the number fields answers true: a run of the kernel. -/
import Derived.Test.YtljnoknkmefgjaaGreatDoorRunF
namespace Go.Proofs.YtljnoknkmefgjaaGreatDoor
open Go.RowKit
def inlNf (f : FuncId) : Bool := [96, 121].contains f
theorem nfAwake_run : (pureX orcC (runX ER orcC okF inlNf 1000 40) 4 []).map (fun x => match x with | .c (.bool b) => b | _ => false) = some true := by kernel_rfl
theorem nfAwake_ok : FnOK Tryz.prog false 4 [] (.c (.bool true)) := by
  have h := nfAwake_run
  cases hx : pureX orcC (runX ER orcC okF inlNf 1000 40) 4 [] with
  | none => rw [hx] at h; cases h
  | some X =>
    rw [hx] at h
    have hX : X = .c (.bool true) := by
      simp only [Option.map_some, Option.some.injEq] at h
      split at h
      · rename_i b; subst h; rfl
      · cases h
    subst hX
    exact run_call orcC_ok hx
end Go.Proofs.YtljnoknkmefgjaaGreatDoor
