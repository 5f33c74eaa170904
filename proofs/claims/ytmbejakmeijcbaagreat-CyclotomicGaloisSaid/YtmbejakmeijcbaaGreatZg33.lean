/- The law CyclotomicGalois: its call, under what its argument reads as. -/
import Derived.Test.YtmbejakmeijcbaaGreatZg19
import Derived.Test.YtmbejakmeijcbaaGreatZg29
import Derived.Test.YtmbejakmeijcbaaGreatZg32
namespace Go.Proofs.YtmbejakmeijcbaaGreat
open Go.ChangeShapes Go.WideShapes Go.ChangeAt Go.RowKit
namespace Rf
theorem galois_ok15 (n t s : Int) {NA NB : Nat} {qA qB : Nat → RawR} (hA : ∀ j, j < NA → dgq (qA j)) (hB : ∀ j, j < NB → dgq (qB j)) : FnOK Tryz.prog true 5 [.g [.int .i64 n, .int .i64 t, .int .i64 s, ql NA qA, ql NB qB]] (.c (.bool true)) := by
 obtain ⟨x, hf, hx⟩ := fails_all n
 by_cases h : x = 0
 ·obtain ⟨m, rfl, hm⟩ := hx.1 h
  obtain ⟨d, φ, T, C⟩ := cy_all hm
  exact C.galois_all awake15 hA hB
 ·exact galois_out awake15.weak hf.weak h
end Rf
set_option maxRecDepth 100000 in
theorem walk_CyclotomicGalois {H : Type} {enc : TypeId × Value → H} {W : World} {base : Nat} {v0 : Value} {d0 : DataW H} {p0 : List MemPlace}
  (u0 : Value.okWide Tryz.prog W .any base 56 v0) (h0 : DataW.Trod enc Tryz.prog W 0 (fun _ => true) true 56 v0 d0 p0) :
  Calls Tryz.prog 5 #[v0] W fun e w' => e = .returned (.bool true) ∧ Below W.heap.size W w' := by
 obtain ⟨n, t, s, NA, NB, qA, qB, g0, hA, hB⟩ := open_twins u0 h0
 exact law_call (vs := [v0]) (Rf.galois_ok15 n t s hA hB) ⟨g0, trivial⟩
end Go.Proofs.YtmbejakmeijcbaaGreat
