/- Derivatives; the exported sums and differences. -/
import Derived.Test.YtmfaipklhkgieaaFpN
namespace Go.Proofs.Ytmfaipklhkgieaa
open Go.RowKit
namespace Fp
/-- The derivative. -/
def dv (p : Int) (F : Nat → Int) (i : Nat) : Int := (((i + 1 : Nat) : Int) % p * F (i + 1)) % p
set_option maxHeartbeats 4000000 in
theorem derivative_ok {p : Int} {n : Nat} {F : Nat → Int} (hp : 2 ≤ p) (hp2 : p ≤ 65521) (hn : n ≤ 4096) (hF : ∀ i, 0 ≤ F i ∧ F i < p) : FnOK Try.prog false 48 [.c (.int .i64 p), .c (il n F)] (.c (il (tl (dv p F) (n - 1)) (dv p F))) := by
  refine fn_ok (E := E0) E0_ok Try.func48 rfl mixed (by kernel_rfl) (by kernel_rfl) ?_
  conv => whnf
  refine loop_ints (fun k : Nat => ist [(0, .c (.int .i64 p)), (1, .c (il n F)), (5, .c (.gs 0 0)), (6, .c (.int .i64 ((k + 1 : Nat) : Int)))] [(3, k, dv p F)]) (fun k => n - k) (fun k => k ≤ n - 1) 0 rfl ?_ (Nat.zero_le _) fun k hk => ?_
  · exact Weak.ints [none] rfl ⟨rfl, trivial⟩ ⟨⟨_, rfl, rfl⟩, ⟨_, _, rfl, rfl, fun _ _ _ _ => rfl⟩, rfl, ⟨_, rfl, rfl⟩, trivial⟩
  have hr : 0 ≤ ((k + 1 : Nat) : Int) % p ∧ ((k + 1 : Nat) : Int) % p < p := ⟨Int.emod_nonneg _ (by omega), Int.emod_lt_of_pos _ (by omega)⟩
  have b1 := mul_bounds hp2 hr (hF (k + 1))
  have e1 : Int.tmod ((k + 1 : Nat) : Int) p = ((k + 1 : Nat) : Int) % p := rem_eq (by omega)
  have e2 : Int.tmod (Int.tmod ((k + 1 : Nat) : Int) p * F (k + 1)) p = dv p F k := by rw [e1, rem_eq b1.1]; rfl
  conv => whnf
  refine bcase (fun (h : decide (((k + 1 : Nat) : Int) < n) = true) => ?_) fun (h : decide (((k + 1 : Nat) : Int) < n) = false) => ?_
  · have h := of_decide_eq_true h
    conv => whnf
    refine ⟨by omega, ?_⟩
    conv => whnf
    refine ⟨by omega, ?_⟩
    conv => whnf
    refine ⟨by omega, ?_⟩
    conv => whnf
    refine ⟨by show inR .i64 (Int.tmod ((k + 1 : Nat) : Int) p * F (k + 1)); rw [e1]; exact i64 (by omega) (by omega), ?_⟩
    conv => whnf
    refine ⟨by omega, ?_⟩
    conv => whnf
    refine .inr ?_
    conv => whnf
    refine ⟨rfl, ?_⟩
    conv => whnf
    refine ⟨by show k + 1 ≤ 16777216; omega, fun x y hx hy => ?_, ?_⟩
    · obtain rfl : x = 0 := by have h : x < 1 := hx
                               omega
      obtain rfl : y = 0 := by have h : y < 1 := hy
                               omega
      exact ⟨rfl, fun h => by cases h⟩
    conv => whnf
    refine ⟨i64 (by omega) (by omega), ?_⟩
    conv => whnf
    refine ⟨k + 1, by omega, ?_, by omega⟩
    refine Weak.ints [some 0] rfl ⟨⟨_, rfl, rfl, rfl, rfl, rfl, fun j hj => appI ?_ (show k + 1 ≤ k + 1 from Nat.le_refl _) hj⟩, trivial⟩ ⟨⟨_, rfl, rfl⟩, ⟨_, _, rfl, rfl, fun _ _ _ _ => rfl⟩, ⟨_, rfl, rfl, rfl⟩, ⟨_, rfl, rfl⟩, trivial⟩
    show (if j = k then Int.tmod (Int.tmod ((k + 1 : Nat) : Int) p * F (k + 1)) p else dv p F j) = dv p F j
    by_cases e : j = k
    · subst e; rw [if_pos rfl, e2]
    · rw [if_neg e]
  · have h := of_decide_eq_false h
    obtain rfl : k = n - 1 := by omega
    conv => whnf
    refine ⟨fun _ _ _ _ => rfl, ?_⟩
    conv => whnf
    refine ⟨_, trimmed_ok (n := n - 1) (a := dv p F) (by omega), ?_⟩
    conv => whnf
    exact ⟨rfl, Sub.refl _⟩
set_option maxHeartbeats 4000000 in
theorem refDerivative_ok {p : Int} {n0 n : Nat} {a F : Nat → Int} (hp : 2 ≤ p) (hp2 : p ≤ 65521) (hn0 : n0 ≤ 4096) (eF : nf p n0 a = F) (en0 : tl F n0 = n) : FnOK Try.prog false 28 [.c (.int .i64 p), .c (il n0 a)] (.c (il (tl (dv p F) (n - 1)) (dv p F))) := by
  have hNf := refNormal_ok (p := p) (n := n0) (a := a) (by omega) hp2 (by omega)
  have hnn : n ≤ n0 := by rw [← en0]; exact tl_le _ _
  have hF : ∀ i, 0 ≤ F i ∧ F i < p := fun i => by rw [← eF]; exact nf_range (by omega) i
  have hFz : ∀ j, n ≤ j → F j = 0 := fun j h => by rw [← eF]; exact nf_behind j (by rw [eF, en0]; exact h)
  rw [eF, en0] at hNf
  refine fn_ok (E := E0) E0_ok Try.func28 rfl mixed (by kernel_rfl) (by kernel_rfl) ?_
  conv => whnf
  refine .inr ?_
  conv => whnf
  refine ⟨_, hNf, ?_⟩
  conv => whnf
  refine loop_ints (fun k : Nat => ist [(0, .c (.int .i64 p)), (5, .c (il n F)), (6, .c (.gs 0 0)), (7, .c (.int .i64 ((k + 1 : Nat) : Int)))] [(3, k, fun x => ((x + 1 : Nat) : Int) % p * F (x + 1))]) (fun k => n - k) (fun k => k ≤ n - 1) 0 rfl ?_ (Nat.zero_le _) fun k hk => ?_
  · exact Weak.ints [none] rfl ⟨rfl, trivial⟩ ⟨⟨_, rfl, rfl⟩, ⟨_, _, rfl, rfl, fun _ _ _ _ => rfl⟩, rfl, ⟨_, rfl, rfl⟩, trivial⟩
  have hr : 0 ≤ ((k + 1 : Nat) : Int) % p ∧ ((k + 1 : Nat) : Int) % p < p := ⟨Int.emod_nonneg _ (by omega), Int.emod_lt_of_pos _ (by omega)⟩
  have b1 := mul_bounds hp2 hr (hF (k + 1))
  have e1 : Int.tmod ((k + 1 : Nat) : Int) p = ((k + 1 : Nat) : Int) % p := rem_eq (by omega)
  conv => whnf
  refine bcase (fun (h : decide (((k + 1 : Nat) : Int) < n) = true) => ?_) fun (h : decide (((k + 1 : Nat) : Int) < n) = false) => ?_
  · have h := of_decide_eq_true h
    conv => whnf
    refine ⟨by omega, ?_⟩
    conv => whnf
    refine ⟨by omega, ?_⟩
    conv => whnf
    refine ⟨by omega, ?_⟩
    conv => whnf
    refine ⟨by show inR .i64 (Int.tmod ((k + 1 : Nat) : Int) p * F (k + 1)); rw [e1]; exact i64 (by omega) (by omega), ?_⟩
    conv => whnf
    refine .inr ?_
    conv => whnf
    refine ⟨rfl, ?_⟩
    conv => whnf
    refine ⟨by show k + 1 ≤ 16777216; omega, fun x y hx hy => ?_, ?_⟩
    · obtain rfl : x = 0 := by have h : x < 1 := hx
                               omega
      obtain rfl : y = 0 := by have h : y < 1 := hy
                               omega
      exact ⟨rfl, fun h => by cases h⟩
    conv => whnf
    refine ⟨i64 (by omega) (by omega), ?_⟩
    conv => whnf
    refine ⟨k + 1, by omega, ?_, by omega⟩
    refine Weak.ints [some 0] rfl ⟨⟨_, rfl, rfl, rfl, rfl, rfl, fun j hj => appI ?_ (show k + 1 ≤ k + 1 from Nat.le_refl _) hj⟩, trivial⟩ ⟨⟨_, rfl, rfl⟩, ⟨_, _, rfl, rfl, fun _ _ _ _ => rfl⟩, ⟨_, rfl, rfl, rfl⟩, ⟨_, rfl, rfl⟩, trivial⟩
    show (if j = k then Int.tmod ((k + 1 : Nat) : Int) p * F (k + 1) else ((j + 1 : Nat) : Int) % p * F (j + 1)) = ((j + 1 : Nat) : Int) % p * F (j + 1)
    by_cases e : j = k
    · subst e; rw [if_pos rfl, e1]
    · rw [if_neg e]
  · have h := of_decide_eq_false h
    obtain rfl : k = n - 1 := by omega
    conv => whnf
    refine .inr ⟨fun _ _ _ _ => rfl, ?_⟩
    conv => whnf
    refine ⟨_, refNormal_ok (n := n - 1) (a := fun x => ((x + 1 : Nat) : Int) % p * F (x + 1)) (by omega) hp2 (by omega), ?_⟩
    conv => whnf
    have e3 : nf p (n - 1) (fun x => ((x + 1 : Nat) : Int) % p * F (x + 1)) = dv p F := by
      funext x
      unfold nf
      by_cases h : x < n - 1
      · rw [if_pos h]; rfl
      · rw [if_neg h]; unfold dv; rw [hFz (x + 1) (by omega), Int.mul_zero, Int.zero_emod]
    exact ⟨rfl, subRow (a := nf p (n - 1) (fun x => ((x + 1 : Nat) : Int) % p * F (x + 1))) (b := dv p F) (by rw [e3]) fun x _ => congrFun e3 x⟩
end Fp
end Go.Proofs.Ytmfaipklhkgieaa
