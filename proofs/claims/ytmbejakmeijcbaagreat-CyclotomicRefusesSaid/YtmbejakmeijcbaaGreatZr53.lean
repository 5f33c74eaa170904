/- The law CyclotomicRefuses: its call, under what its arguments read as. -/
import Derived.Test.YtmbejakmeijcbaaGreatZr51
import Derived.Test.YtmbejakmeijcbaaGreatZr52
namespace Go.Proofs.YtmbejakmeijcbaaGreat
open Go.ChangeShapes Go.WideShapes Go.ChangeAt Go.RowKit
set_option maxRecDepth 100000 in
theorem walk_CyclotomicRefuses {H : Type} {enc : TypeId × Value → H} {W : World} {base : Nat} {v0 v1 v2 : Value} {d0 d1 d2 : DataW H} {p0 p1 p2 : List MemPlace}
  (u0 : Value.okWide Tryz.prog W .any base 3 v0) (h0 : DataW.Trod enc Tryz.prog W 0 (fun _ => true) true 3 v0 d0 p0)
  (u1 : Value.okWide Tryz.prog W .any base 3 v1) (h1 : DataW.Trod enc Tryz.prog W 0 (fun _ => true) true 3 v1 d1 p1)
  (u2 : Value.okWide Tryz.prog W .any base 25 v2) (h2 : DataW.Trod enc Tryz.prog W 0 (fun _ => true) true 25 v2 d2 p2) :
  Calls Tryz.prog 8 #[v0, v1, v2] W fun e w' => e = .returned (.bool true) ∧ Below W.heap.size W w' := by
 obtain ⟨n, g0⟩ := open_i64 Tryz.underlying3 u0 h0
 obtain ⟨m, g1⟩ := open_i64 Tryz.underlying3 u1 h1
 obtain ⟨N, q, g2, hq⟩ := open_elem Tryz.underlying25 u2 h2
 exact law_call (vs := [v0, v1, v2]) (Rf.refuses_ok n m awake15 hq) ⟨g0, g1, g2, trivial⟩
end Go.Proofs.YtmbejakmeijcbaaGreat
