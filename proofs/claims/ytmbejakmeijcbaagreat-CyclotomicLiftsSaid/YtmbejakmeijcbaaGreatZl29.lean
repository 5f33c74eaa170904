/- The law CyclotomicLifts: its call, under what its argument reads as. -/
import Derived.Test.YtmbejakmeijcbaaGreatZl27
import Derived.Test.YtmbejakmeijcbaaGreatZl28
namespace Go.Proofs.YtmbejakmeijcbaaGreat
open Go.ChangeShapes Go.WideShapes Go.ChangeAt Go.RowKit
set_option maxRecDepth 100000 in
theorem walk_CyclotomicLifts {H : Type} {enc : TypeId × Value → H} {W : World} {base : Nat} {v0 : Value} {d0 : DataW H} {p0 : List MemPlace}
  (u0 : Value.okWide Tryz.prog W .any base 56 v0) (h0 : DataW.Trod enc Tryz.prog W 0 (fun _ => true) true 56 v0 d0 p0) :
  Calls Tryz.prog 6 #[v0] W fun e w' => e = .returned (.bool true) ∧ Below W.heap.size W w' := by
 obtain ⟨n, m, l, NA, NB, qA, qB, g0, hA, hB⟩ := open_twins u0 h0
 exact law_call (vs := [v0]) (Rf.lifts_all n m l awake15 hA hB) ⟨g0, trivial⟩
end Go.Proofs.YtmbejakmeijcbaaGreat
