/- The closed facts of the row of the law NumfieldRefuses. No condition. -/
import Derived.Test.YtljnoknkmefgjaaGreatDoorRows
import Derived.JoinedCond
namespace Go.Proofs.YtljnoknkmefgjaaGreatDoor.numfieldRefuses
set_option maxHeartbeats 4000000 in
theorem closed : joinedFacts Tryz.prog 3 Tryz.f3 (Rows.OpenSpec.upto Rows.numfieldRefusesSpec).bare Rows.numfieldRefusesUptoRow = true := by
  unfold joinedFacts
  simp only [Bool.and_eq_true]
  repeat' apply And.intro
  all_goals (as_aux_lemma => kernel_rfl)
end Go.Proofs.YtljnoknkmefgjaaGreatDoor.numfieldRefuses
