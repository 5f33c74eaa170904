/- The closed facts of the row of the law NumfieldField. No condition. -/
import Derived.Test.YtnoecgnhepppkaaGreatRows
import Derived.JoinedCond
namespace Go.Proofs.YtnoecgnhepppkaaGreat.numfieldField
set_option maxHeartbeats 4000000 in
theorem closed : joinedFacts Tryz.prog 4 Tryz.f4 (Rows.OpenSpec.upto Rows.numfieldFieldSpec).bare Rows.numfieldFieldUptoRow = true := by
  unfold joinedFacts
  simp only [Bool.and_eq_true]
  repeat' apply And.intro
  all_goals (as_aux_lemma => kernel_rfl)
end Go.Proofs.YtnoecgnhepppkaaGreat.numfieldField
