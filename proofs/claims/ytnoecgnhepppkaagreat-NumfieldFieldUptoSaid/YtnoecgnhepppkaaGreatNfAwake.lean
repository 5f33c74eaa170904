/- The awake call of the number fields answers true: a run of the kernel. -/
import Derived.Test.YtnoecgnhepppkaaGreatRunF
namespace Go.Proofs.YtnoecgnhepppkaaGreat
open Go.RowKit
def inlNf (f : FuncId) : Bool := [180, 177].contains f
theorem nfAwake_run : (pureX orcC (runX ER orcC okF inlNf 1000 40) 7 []).map (fun x => match x with | .c (.bool b) => b | _ => false) = some true := by kernel_rfl
theorem nfAwake_ok : FnOK Tryz.prog false 7 [] (.c (.bool true)) := by
  have h := nfAwake_run
  cases hx : pureX orcC (runX ER orcC okF inlNf 1000 40) 7 [] with
  | none => rw [hx] at h; cases h
  | some X =>
    rw [hx] at h
    have hX : X = .c (.bool true) := by
      simp only [Option.map_some, Option.some.injEq] at h
      split at h
      · rename_i b; subst h; rfl
      · cases h
    subst hX
    exact run_call orcC_ok hx
end Go.Proofs.YtnoecgnhepppkaaGreat
