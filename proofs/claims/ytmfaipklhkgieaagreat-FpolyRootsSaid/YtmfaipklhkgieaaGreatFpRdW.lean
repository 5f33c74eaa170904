/- The law FpolyRoots: its call, under what its argument reads as. -/
import Derived.Test.YtmfaipklhkgieaaGreatFpRd
import Derived.Test.YtmfaipklhkgieaaGreatFpWq
namespace Go.Proofs.YtmfaipklhkgieaaGreat
open Go.ChangeShapes Go.WideShapes Go.ChangeAt Go.RowKit
variable {H : Type} {enc : TypeId × Value → H}
set_option maxRecDepth 100000 in
theorem walk_FpolyRoots {W : World} {base : Nat} {v0 : Value} {d0 : DataW H} {p0 : List MemPlace}
    (u0 : Value.okWide Tryz.prog W .any base 28 v0) (h0 : DataW.Trod enc Tryz.prog W 0 (fun _ => true) true 28 v0 d0 p0) :
    Calls Tryz.prog 4 #[v0] W fun e w' => e = .returned (.bool true) ∧ Below W.heap.size W w' := by
  obtain ⟨p, x, n, m, l, q, a, c, h, d, s, g0, _⟩ := open_polysQ u0 h0
  exact law_call (vs := [v0]) (Fp.roots_ok (p := p) (x := x) (n := n) (m := m) (l := l) (q := q) (a := a) (c := c) (h := h) (d := d) (s := s)) ⟨g0, trivial⟩
end Go.Proofs.YtmfaipklhkgieaaGreat
