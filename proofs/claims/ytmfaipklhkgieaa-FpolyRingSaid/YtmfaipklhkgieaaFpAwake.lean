/- The awake call of the polynomials modulo a prime answers true: a run of the kernel. -/
import Derived.Test.YtmfaipklhkgieaaRunF
namespace Go.Proofs.Ytmfaipklhkgieaa
open Go.RowKit
def inlAwake (f : FuncId) : Bool := [56, 51, 64, 76, 63, 50].contains f
theorem awake_run : (pureX orcC (runX ER orcC okF inlAwake 1000 40) 7 []).map (fun x => match x with | .c (.bool b) => b | _ => false) = some true := by kernel_rfl
theorem awake_ok : FnOK Try.prog false 7 [] (.c (.bool true)) := by
  have h := awake_run
  cases hx : pureX orcC (runX ER orcC okF inlAwake 1000 40) 7 [] with
  | none => rw [hx] at h; cases h
  | some X =>
    rw [hx] at h
    have hX : X = .c (.bool true) := by
      simp only [Option.map_some, Option.some.injEq] at h
      split at h
      · rename_i b; subst h; rfl
      · cases h
    subst hX
    exact run_call orcC_ok hx
end Go.Proofs.Ytmfaipklhkgieaa
