/- The law CyclotomicZetas: its call, under what its arguments read as. -/
import Derived.Test.YtmbejakmeijcbaaGreatZc15
import Derived.Test.YtmbejakmeijcbaaGreatZc26
import Derived.Test.YtmbejakmeijcbaaGreatZc27
namespace Go.Proofs.YtmbejakmeijcbaaGreat
open Go.ChangeShapes Go.WideShapes Go.ChangeAt Go.RowKit
namespace Rf
theorem zetas_all (n k l : Int) : FnOK Tryz.prog true 3 [.c (.int .i64 n), .c (.int .i64 k), .c (.int .i64 l)] (.c (.bool true)) := by
  obtain ⟨x, hf, hx⟩ := fails_all n
  by_cases h : x = 0
  · obtain ⟨m, rfl, hm⟩ := hx.1 h
    obtain ⟨d, φ, T, C⟩ := cy_all hm
    exact C.zetas_law awake15
  · exact zetas_out awake15 hf h
end Rf
set_option maxRecDepth 100000 in
theorem walk_CyclotomicZetas {H : Type} {enc : TypeId × Value → H} {W : World} {base : Nat} {v0 v1 v2 : Value} {d0 d1 d2 : DataW H} {p0 p1 p2 : List MemPlace}
    (u0 : Value.okWide Tryz.prog W .any base 3 v0) (h0 : DataW.Trod enc Tryz.prog W 0 (fun _ => true) true 3 v0 d0 p0)
    (u1 : Value.okWide Tryz.prog W .any base 3 v1) (h1 : DataW.Trod enc Tryz.prog W 0 (fun _ => true) true 3 v1 d1 p1)
    (u2 : Value.okWide Tryz.prog W .any base 3 v2) (h2 : DataW.Trod enc Tryz.prog W 0 (fun _ => true) true 3 v2 d2 p2) :
    Calls Tryz.prog 3 #[v0, v1, v2] W fun e w' => e = .returned (.bool true) ∧ Below W.heap.size W w' := by
  obtain ⟨n, g0⟩ := open_i64 Tryz.underlying3 u0 h0
  obtain ⟨k, g1⟩ := open_i64 Tryz.underlying3 u1 h1
  obtain ⟨l, g2⟩ := open_i64 Tryz.underlying3 u2 h2
  exact law_call (vs := [v0, v1, v2]) (Rf.zetas_all n k l) ⟨g0, g1, g2, trivial⟩
end Go.Proofs.YtmbejakmeijcbaaGreat
