/- The law NumfieldField: its call, under what its arguments read as, their bulk bounded. -/
import Derived.Test.YtnoecgnhepppkaaGreatNfH
import Derived.Test.YtnoecgnhepppkaaGreatNfF
namespace Go.Proofs.YtnoecgnhepppkaaGreat
open Go.ChangeShapes Go.WideShapes Go.ChangeAt Go.RowKit
section
variable {H : Type} {enc : TypeId × Value → H}
theorem field_zero {n : Nat} {c : Nat → RawZ} (D : Nat → Prop) (w : World) (v : Value) (h : VRel D w [] (.g [zl n c]) v) : VRel D w [] (.g [zl n fun i => if i < n then c i else ofZ 0]) v := by
  obtain ⟨vs, rfl, h1⟩ := h
  refine ⟨vs, rfl, ?_⟩
  match hv : vs.toList, h1 with
  | [x], ⟨h2, _⟩ =>
    refine ⟨subRowG rfl (fun i j hi hj => ?_) D w x h2, trivial⟩
    show zlF c i j = zlF (fun i => if i < n then c i else ofZ 0) i j
    exact zlF_eq (if_pos hi).symm
set_option maxRecDepth 100000 in
theorem walk_NumfieldField {W : World} {base : Nat} {v0 v1 v2 : Value} {d0 d1 d2 : DataW H} {p0 p1 p2 : List MemPlace}
    (u0 : Value.okWide Tryz.prog W .any base 25 v0) (h0 : DataW.Trod enc Tryz.prog W 0 (fun _ => true) true 25 v0 d0 p0)
    (u1 : Value.okWide Tryz.prog W .any base 27 v1) (h1 : DataW.Trod enc Tryz.prog W 0 (fun _ => true) true 27 v1 d1 p1)
    (u2 : Value.okWide Tryz.prog W .any base 27 v2) (h2 : DataW.Trod enc Tryz.prog W 0 (fun _ => true) true 27 v2 d2 p2) (hk : Rows.uptoBulk d0 + Rows.uptoBulk d1 + Rows.uptoBulk d2 ≤ 1048576) :
    Calls Tryz.prog 4 #[v0, v1, v2] W fun e w' => e = .returned (.bool true) ∧ Below W.heap.size W w' := by
  obtain ⟨n, c, g0, hc⟩ := open_field u0 h0 (by omega)
  obtain ⟨na, qa, g1, ha⟩ := open_elem Tryz.underlying27 u1 h1
  obtain ⟨nb, qb, g2, hb⟩ := open_elem Tryz.underlying27 u2 h2
  have hc' : ∀ i, i < n → Rf.wr (if i < n then c i else ofZ 0) := fun i hi => by rw [if_pos hi]; exact hc i hi
  have hz : ∀ i, n ≤ i → Rf.vz (fun i => if i < n then c i else ofZ 0) i = 0 := fun i hi => by
    show (if i < n then c i else ofZ 0).val = 0
    rw [if_neg (by omega), ofZ_val]
  exact law_call (vs := [v0, v1, v2]) (Rf.field_ok hc' hz ha hb) ⟨field_zero _ _ _ g0, g1, g2, trivial⟩
end
end Go.Proofs.YtnoecgnhepppkaaGreat
