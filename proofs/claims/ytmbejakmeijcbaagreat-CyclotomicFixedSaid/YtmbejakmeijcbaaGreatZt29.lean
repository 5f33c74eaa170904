/- The law CyclotomicFixed: its call, under what its arguments read as. -/
import Derived.Test.YtmbejakmeijcbaaGreatZt17
import Derived.Test.YtmbejakmeijcbaaGreatZt27
import Derived.Test.YtmbejakmeijcbaaGreatZt28
namespace Go.Proofs.YtmbejakmeijcbaaGreat
open Go.ChangeShapes Go.WideShapes Go.ChangeAt Go.RowKit
namespace Rf
theorem fixed_ok15 (n : Int) {N : Nat} {q : Nat → RawR} (hq : ∀ j, j < N → dgq (q j)) : FnOK Tryz.prog true 9 [.c (.int .i64 n), .c (ql N q)] (.c (.bool true)) := by
 obtain ⟨x, hf, hx⟩ := fails_all n
 by_cases h : x = 0
 ·obtain ⟨m, rfl, hm⟩ := hx.1 h
  obtain ⟨d, φ, T, C⟩ := cy_all hm
  exact C.fixed_all awake15 hq
 ·exact fixed_out awake15.weak hf.weak h
end Rf
set_option maxRecDepth 100000 in
theorem walk_CyclotomicFixed {H : Type} {enc : TypeId × Value → H} {W : World} {base : Nat} {v0 v1 : Value} {d0 d1 : DataW H} {p0 p1 : List MemPlace}
  (u0 : Value.okWide Tryz.prog W .any base 3 v0) (h0 : DataW.Trod enc Tryz.prog W 0 (fun _ => true) true 3 v0 d0 p0)
  (u1 : Value.okWide Tryz.prog W .any base 25 v1) (h1 : DataW.Trod enc Tryz.prog W 0 (fun _ => true) true 25 v1 d1 p1) :
  Calls Tryz.prog 9 #[v0, v1] W fun e w' => e = .returned (.bool true) ∧ Below W.heap.size W w' := by
 obtain ⟨n, g0⟩ := open_i64 Tryz.underlying3 u0 h0
 obtain ⟨N, q, g1, hq⟩ := open_elem Tryz.underlying25 u1 h1
 exact law_call (vs := [v0, v1]) (Rf.fixed_ok15 n hq) ⟨g0, g1, trivial⟩
end Go.Proofs.YtmbejakmeijcbaaGreat
