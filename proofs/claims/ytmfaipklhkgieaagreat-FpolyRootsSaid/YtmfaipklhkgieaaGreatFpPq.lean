/- The argument of the statements about polynomials modulo a prime, with all its lists. -/
import Derived.Test.YtmfaipklhkgieaaGreatFpK
import Derived.Test.YtmfaipklhkgieaaGreatFpL
namespace Go.Proofs.YtmfaipklhkgieaaGreat
open Go.RowKit
namespace Fp
abbrev PQ (p : Int) (n m l q : Nat) (a c h d : Nat → Int) (s : Bool) (x : Int) : V := .g [.int .i64 p, il n a, il m c, il l h, .bool s, .row 1 q fun i _ => .int .u32 (d i), .int .i64 x]
theorem row_any {D : Nat → Prop} {w : World} {n : Nat} {f : Nat → Nat → Cell} {v : Value} (h : CRel D w [] (.row 1 n f) v) : CRel D w [] (.row 1 n fun _ _ => .any) v := by
  obtain ⟨A, c, e, hle, hr⟩ := h
  refine ⟨A, c, e, hle, fun hn => ?_⟩
  obtain ⟨b, o, e1, e2, e3, e4⟩ := hr hn
  refine ⟨b, o, e1, e2, e3, fun i j hi hj => ?_⟩
  obtain ⟨u, hu, _⟩ := e4 i j hi hj
  exact ⟨u, hu, trivial⟩
theorem pq_pp {D : Nat → Prop} {w : World} {p x : Int} {n m l q : Nat} {a c h d : Nat → Int} {s : Bool} {v : Value} (hv : VRel D w [] (PQ p n m l q a c h d s x) v) : VRel D w [] (PP p n m l q a c s x) v := by
  obtain ⟨vs, e, hr⟩ := hv
  refine ⟨vs, e, ?_⟩
  match hvs : vs.toList with
  | [_, _, _, _, _, _, _] =>
    rw [hvs] at hr
    obtain ⟨h0, h1, h2, h3, h4, h5, h6, h7⟩ := hr
    exact ⟨h0, h1, h2, row_any h3, h4, row_any h5, h6, h7⟩
  | [] | [_] | [_, _] | [_, _, _] | [_, _, _, _] | [_, _, _, _, _] | [_, _, _, _, _, _] => rw [hvs] at hr; simp [CRels] at hr
  | _ :: _ :: _ :: _ :: _ :: _ :: _ :: _ :: _ => rw [hvs] at hr; simp [CRels] at hr
theorem long_pq {p x : Int} {n m l q : Nat} {a c h d : Nat → Int} {s : Bool} : FnOK Tryz.prog false 6 [PQ p n m l q a c h d s x] (.c (.bool (decide (60 < n ∨ 60 < m ∨ 60 < l ∨ 4 < q)))) :=
  arg_ok (args := [PP p n m l q a c s x]) long_ok fun _ _ vs h => match vs, h with
    | [_], ⟨h0, _⟩ => ⟨pq_pp h0, trivial⟩
end Fp
end Go.Proofs.YtmfaipklhkgieaaGreat
