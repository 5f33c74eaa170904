/- The law CharpolyRefuses: its call, under what its arguments read as. -/
import Derived.Test.YtmghdnmffljfeaaGreatCpRef
namespace Go.Proofs.YtmghdnmffljfeaaGreat
open Go.ChangeShapes Go.WideShapes Go.ChangeAt Go.RowKit
set_option maxRecDepth 100000 in
theorem walk_CharpolyRefuses {H : Type} {enc : TypeId × Value → H} {W : World} {base : Nat} {v0 v1 v2 : Value} {d0 d1 d2 : DataW H} {p0 p1 p2 : List MemPlace}
    (u0 : Value.okWide Tryz.prog W .any base 24 v0) (h0 : DataW.Trod enc Tryz.prog W 0 (fun _ => true) true 24 v0 d0 p0)
    (u1 : Value.okWide Tryz.prog W .any base 27 v1) (h1 : DataW.Trod enc Tryz.prog W 0 (fun _ => true) true 27 v1 d1 p1)
    (u2 : Value.okWide Tryz.prog W .any base 22 v2) (h2 : DataW.Trod enc Tryz.prog W 0 (fun _ => true) true 22 v2 d2 p2) :
    Calls Tryz.prog 10 #[v0, v1, v2] W fun e w' => e = .returned (.bool true) ∧ Below W.heap.size W w' := by
  obtain ⟨r, c, len, _, g0⟩ := open_matrix u0 h0
  obtain ⟨nf, _, g1⟩ := open_slice Tryz.underlying27 cellsRat (by decide) u1 h1
  obtain ⟨nv, _, g2⟩ := open_slice Tryz.underlying22 cellsRat (by decide) u2 h2
  exact law_call (vs := [v0, v1, v2]) (Ref.law_ok (r := r) (c := c) (len := len) (nf := nf) (nv := nv)) ⟨g0, g1, g2, trivial⟩
end Go.Proofs.YtmghdnmffljfeaaGreat
