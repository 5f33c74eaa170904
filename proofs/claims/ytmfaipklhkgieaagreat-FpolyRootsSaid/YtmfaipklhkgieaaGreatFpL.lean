/- The law FpolyDivides, as a contract. -/
import Derived.Test.YtmfaipklhkgieaaGreatFpH
import Derived.Test.YtmfaipklhkgieaaGreatFpAwake
namespace Go.Proofs.YtmfaipklhkgieaaGreat
open Go.RowKit
namespace Fp
/-- The argument of the statements about polynomials modulo a prime. -/
abbrev PP (p : Int) (n m l q : Nat) (a c : Nat → Int) (s : Bool) (x : Int) : V := .g [.int .i64 p, il n a, il m c, .row 1 l fun _ _ => .any, .bool s, .row 1 q fun _ _ => .any, .int .i64 x]
set_option maxHeartbeats 4000000 in
theorem long_ok {p x : Int} {n m l q : Nat} {a c : Nat → Int} {s : Bool} : FnOK Tryz.prog false 6 [PP p n m l q a c s x] (.c (.bool (decide (60 < n ∨ 60 < m ∨ 60 < l ∨ 4 < q)))) := by
  refine fn_ok (E := E0) E0_ok Tryz.func6 rfl mixed (by kernel_rfl) (by kernel_rfl) ?_
  conv => whnf
  refine bcase (fun (h1 : gw false (decide ((60 : Int) < n)) = true) => ?_) fun (h1 : gw false (decide ((60 : Int) < n)) = false) => ?_
  · have h1 := of_decide_eq_false (gwf h1)
    conv => whnf
    refine bcase (fun (h2 : gw false (decide ((60 : Int) < m)) = true) => ?_) fun (h2 : gw false (decide ((60 : Int) < m)) = false) => ?_
    · have h2 := of_decide_eq_false (gwf h2)
      conv => whnf
      refine bcase (fun (h3 : gw false (decide ((60 : Int) < l)) = true) => ?_) fun (h3 : gw false (decide ((60 : Int) < l)) = false) => ?_
      · have h3 := of_decide_eq_false (gwf h3)
        conv => whnf
        exact ⟨rfl, subB (decide_eq_decide.2 ⟨fun h => .inr (.inr (.inr (by omega))), fun h => by omega⟩)⟩
      · have h3 := of_decide_eq_true (gwf' h3)
        conv => whnf
        exact ⟨rfl, subB (Eq.symm (decide_eq_true (by omega)))⟩
    · have h2 := of_decide_eq_true (gwf' h2)
      conv => whnf
      exact ⟨rfl, subB (Eq.symm (decide_eq_true (by omega)))⟩
  · have h1 := of_decide_eq_true (gwf' h1)
    conv => whnf
    exact ⟨rfl, subB (Eq.symm (decide_eq_true (by omega)))⟩
theorem ints_true {n m : Nat} {a b : Nat → Int} (hn : n ≤ 1048576) (h : same n m a b) : FnOK Tryz.prog false 11 [.c (il n a), .c (il m b)] (.c (.bool true)) := by
  have h1 := ints_ok (n := n) (m := m) (a := a) (b := b) hn (by rw [← h.1]; exact hn)
  rw [@decide_eq_true _ (Classical.propDecidable _) h] at h1
  exact h1
end Fp
end Go.Proofs.YtmfaipklhkgieaaGreat
