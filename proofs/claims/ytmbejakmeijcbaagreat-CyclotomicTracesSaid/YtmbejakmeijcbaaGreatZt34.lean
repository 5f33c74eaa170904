/- The law CyclotomicTraces: its call, under what its arguments read as. -/
import Derived.Test.YtmbejakmeijcbaaGreatZt33
import Derived.Test.YtmbejakmeijcbaaGreatZt28
namespace Go.Proofs.YtmbejakmeijcbaaGreat
open Go.ChangeShapes Go.WideShapes Go.ChangeAt Go.RowKit
namespace Rf
theorem traces_all (n k : Int) : FnOK Tryz.prog true 7 [.c (.int .i64 n), .c (.int .i64 k)] (.c (.bool true)) := by
 obtain ⟨x, hf, hx⟩ := fails_all n
 by_cases h : x = 0
 ·obtain ⟨m, rfl, hm⟩ := hx.1 h
  exact traces_at hm
 ·exact traces_out awake15.weak hf.weak h
end Rf
set_option maxRecDepth 100000 in
theorem walk_CyclotomicTraces {H : Type} {enc : TypeId × Value → H} {W : World} {base : Nat} {v0 v1 : Value} {d0 d1 : DataW H} {p0 p1 : List MemPlace}
  (u0 : Value.okWide Tryz.prog W .any base 3 v0) (h0 : DataW.Trod enc Tryz.prog W 0 (fun _ => true) true 3 v0 d0 p0)
  (u1 : Value.okWide Tryz.prog W .any base 3 v1) (h1 : DataW.Trod enc Tryz.prog W 0 (fun _ => true) true 3 v1 d1 p1) :
  Calls Tryz.prog 7 #[v0, v1] W fun e w' => e = .returned (.bool true) ∧ Below W.heap.size W w' := by
 obtain ⟨n, g0⟩ := open_i64 Tryz.underlying3 u0 h0
 obtain ⟨k, g1⟩ := open_i64 Tryz.underlying3 u1 h1
 exact law_call (vs := [v0, v1]) (Rf.traces_all n k) ⟨g0, g1, trivial⟩
end Go.Proofs.YtmbejakmeijcbaaGreat
