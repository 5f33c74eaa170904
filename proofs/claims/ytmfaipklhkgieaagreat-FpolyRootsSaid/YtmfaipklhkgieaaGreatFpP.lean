/- Derivatives; the exported sums and differences. -/
import Derived.Test.YtmfaipklhkgieaaGreatFpN
namespace Go.Proofs.YtmfaipklhkgieaaGreat
open Go.RowKit
namespace Fp
/-- The derivative. -/
def dv (p : Int) (F : Nat → Int) (i : Nat) : Int := (((i + 1 : Nat) : Int) % p * F (i + 1)) % p
set_option maxHeartbeats 4000000 in
theorem derivative_ok {p : Int} {n : Nat} {F : Nat → Int} (hp : 2 ≤ p) (hp2 : p ≤ 65521) (hn : n ≤ 4096) (hF : ∀ i, 0 ≤ F i ∧ F i < p) : FnOK Tryz.prog false 55 [.c (.int .i64 p), .c (il n F)] (.c (il (tl (dv p F) (n - 1)) (dv p F))) := by
  refine fn_ok (E := E0) E0_ok Tryz.func55 rfl mixed (by kernel_rfl) (by kernel_rfl) ?_
  conv => whnf
  refine loop_ints (fun k : Nat => ist [(0, .c (.int .i64 p)), (1, .c (il n F)), (5, .c (.gs 0 0)), (6, .c (.int .i64 ((k + 1 : Nat) : Int)))] [(3, k, dv p F)]) (fun k => n - k) (fun k => k ≤ n - 1) 0 rfl ?_ (Nat.zero_le _) fun k hk => ?_
  · exact Weak.ints [none] rfl ⟨rfl, trivial⟩ ⟨⟨_, rfl, rfl⟩, ⟨_, _, rfl, rfl, fun _ _ _ _ => rfl⟩, rfl, ⟨_, rfl, rfl⟩, trivial⟩
  have hr : 0 ≤ ((k + 1 : Nat) : Int) % p ∧ ((k + 1 : Nat) : Int) % p < p := ⟨Int.emod_nonneg _ (by omega), Int.emod_lt_of_pos _ (by omega)⟩
  have b1 := mul_bounds hp2 hr (hF (k + 1))
  have e1 : Int.tmod ((k + 1 : Nat) : Int) p = ((k + 1 : Nat) : Int) % p := rem_eq (by omega)
  have e2 : Int.tmod (Int.tmod ((k + 1 : Nat) : Int) p * F (k + 1)) p = dv p F k := by rw [e1, rem_eq b1.1]; rfl
  conv => whnf
  refine bcase (fun (h : decide (((k + 1 : Nat) : Int) < n) = true) => ?_) fun (h : decide (((k + 1 : Nat) : Int) < n) = false) => ?_
  · have h := of_decide_eq_true h
    conv => whnf
    refine ⟨by omega, ?_⟩
    conv => whnf
    refine ⟨by omega, ?_⟩
    conv => whnf
    refine ⟨by omega, ?_⟩
    conv => whnf
    refine ⟨by show inR .i64 (Int.tmod ((k + 1 : Nat) : Int) p * F (k + 1)); rw [e1]; exact i64 (by omega) (by omega), ?_⟩
    conv => whnf
    refine ⟨by omega, ?_⟩
    conv => whnf
    refine .inr ?_
    conv => whnf
    refine ⟨rfl, ?_⟩
    conv => whnf
    refine ⟨by show k + 1 ≤ 16777216; omega, fun x y hx hy => ?_, ?_⟩
    · obtain rfl : x = 0 := by have h : x < 1 := hx
                               omega
      obtain rfl : y = 0 := by have h : y < 1 := hy
                               omega
      exact ⟨rfl, fun h => by cases h⟩
    conv => whnf
    refine ⟨i64 (by omega) (by omega), ?_⟩
    conv => whnf
    refine ⟨k + 1, by omega, ?_, by omega⟩
    refine Weak.ints [some 0] rfl ⟨⟨_, rfl, rfl, rfl, rfl, rfl, fun j hj => appI ?_ (show k + 1 ≤ k + 1 from Nat.le_refl _) hj⟩, trivial⟩ ⟨⟨_, rfl, rfl⟩, ⟨_, _, rfl, rfl, fun _ _ _ _ => rfl⟩, ⟨_, rfl, rfl, rfl⟩, ⟨_, rfl, rfl⟩, trivial⟩
    show (if j = k then Int.tmod (Int.tmod ((k + 1 : Nat) : Int) p * F (k + 1)) p else dv p F j) = dv p F j
    by_cases e : j = k
    · subst e; rw [if_pos rfl, e2]
    · rw [if_neg e]
  · have h := of_decide_eq_false h
    obtain rfl : k = n - 1 := by omega
    conv => whnf
    refine ⟨fun _ _ _ _ => rfl, ?_⟩
    conv => whnf
    refine ⟨_, trimmed_ok (n := n - 1) (a := dv p F) (by omega), ?_⟩
    conv => whnf
    exact ⟨rfl, Sub.refl _⟩
end Fp
end Go.Proofs.YtmfaipklhkgieaaGreat
/- Values of the reference; the exported sums, differences, derivatives. -/
namespace Go.Proofs.YtmfaipklhkgieaaGreat
open Go.RowKit
namespace Fp
/-- Horner's rule, t steps from the top. -/
def hv (p y : Int) (F : Nat → Int) (n : Nat) : Nat → Int
  | 0 => 0
  | t + 1 => (hv p y F n t * y + F (n - 1 - t)) % p
theorem hv_range {p y : Int} {F : Nat → Int} {n : Nat} (hp : 0 < p) : ∀ t, 0 ≤ hv p y F n t ∧ hv p y F n t < p
  | 0 => ⟨Int.le_refl _, hp⟩
  | _ + 1 => ⟨Int.emod_nonneg _ (by omega), Int.emod_lt_of_pos _ hp⟩
set_option maxHeartbeats 4000000 in
theorem refEval_ok {p x : Int} {n : Nat} {a : Nat → Int} (hp : 2 ≤ p) (hp2 : p ≤ 65521) (hn : n ≤ 4096) : FnOK Tryz.prog false 17 [.c (.int .i64 p), .c (il n a), .c (.int .i64 x)] (.c (.int .i64 (hv p (x % p) (nf p n a) n n))) := by
  have hy : 0 ≤ x % p ∧ x % p < p := ⟨Int.emod_nonneg _ (by omega), Int.emod_lt_of_pos _ (by omega)⟩
  refine fn_ok (E := E0) E0_ok Tryz.func17 rfl mixed (by kernel_rfl) (by kernel_rfl) ?_
  conv => whnf
  refine ⟨i64 (by omega) (by omega), ?_⟩
  conv => whnf
  refine loop_ints (fun k : Nat => ist [(0, .c (.int .i64 p)), (1, .c (il n a)), (2, .c (.int .i64 x)), (7, .c (.int .i64 (hv p (x % p) (nf p n a) n (n - k)))), (8, .c (.int .i64 ((k : Int) - 1)))] []) (fun k => k) (fun k => k ≤ n) n rfl ?_ (Nat.le_refl _) fun k hk => ?_
  · exact Weak.ints [] rfl trivial ⟨⟨_, rfl, rfl⟩, ⟨_, _, rfl, rfl, fun _ _ _ _ => rfl⟩, ⟨_, rfl, rfl⟩, ⟨_, rfl, by rw [Nat.sub_self]; rfl⟩, ⟨_, rfl, rfl⟩, trivial⟩
  conv => whnf
  refine bcase (fun (h : decide ((0 : Int) ≤ (k : Int) - 1) = true) => ?_) fun (h : decide ((0 : Int) ≤ (k : Int) - 1) = false) => ?_
  · have h := of_decide_eq_true h
    obtain ⟨i, rfl⟩ : ∃ i, k = i + 1 := ⟨k - 1, by omega⟩
    have ei : (((i + 1 : Nat) : Int) - 1).toNat = i := by omega
    have r1 := hv_range (p := p) (y := x % p) (F := nf p n a) (n := n) (by omega) (n - (i + 1))
    have b1 := mul_bounds hp2 r1 hy
    have r2 : 0 ≤ a i % p ∧ a i % p < p := ⟨Int.emod_nonneg _ (by omega), Int.emod_lt_of_pos _ (by omega)⟩
    have es : hv p (x % p) (nf p n a) n (n - i) = (hv p (x % p) (nf p n a) n (n - (i + 1)) * (x % p) + a i % p) % p := by
      rw [show n - i = n - (i + 1) + 1 by omega]
      show (_ + nf p n a (n - 1 - (n - (i + 1)))) % p = _
      rw [show n - 1 - (n - (i + 1)) = i by omega]
      unfold nf
      rw [if_pos (by omega)]
    conv => whnf
    refine ⟨_, refMod_ok (a := x) (by omega) hp2, ?_⟩
    conv => whnf
    refine ⟨i64 (by omega) (by omega), ?_⟩
    conv => whnf
    refine ⟨by omega, ?_⟩
    conv => whnf
    refine ⟨by omega, ?_⟩
    conv => whnf
    refine ⟨_, (show FnOK Tryz.prog false 36 [.c (.int .i64 (a (((i + 1 : Nat) : Int) - 1).toNat)), .c (.int .i64 p)] (.c (.int .i64 (a i % p))) by rw [ei]; exact refMod_ok (by omega) hp2), ?_⟩
    conv => whnf
    refine ⟨i64 (by omega) (by omega), ?_⟩
    conv => whnf
    refine ⟨by omega, ?_⟩
    conv => whnf
    refine ⟨i64 (by omega) (by omega), ?_⟩
    conv => whnf
    refine ⟨i, by omega, ?_, by omega⟩
    refine Weak.ints [] rfl trivial ⟨⟨_, rfl, rfl⟩, ⟨_, _, rfl, rfl, fun _ _ _ _ => rfl⟩, ⟨_, rfl, rfl⟩, ⟨_, rfl, ?_⟩, ⟨_, rfl, by omega⟩, trivial⟩
    rw [es]
    exact rem_eq (by omega)
  · have h := of_decide_eq_false h
    obtain rfl : k = 0 := by omega
    conv => whnf
    exact ⟨rfl, Sub.refl _⟩
set_option maxHeartbeats 4000000 in
theorem Add_ok {p : Int} {n m : Nat} {a c : Nat → Int} (hp : md p) (hn : n ≤ 4096) (hm : m ≤ 4096) : FnOK Tryz.prog false 13 [.c (.int .i64 p), .c (il n a), .c (il m c)] (.t2 (.c (il (tl (sm p 1 (nf p n a) (nf p m c)) (max (tl (nf p n a) n) (tl (nf p m c) m))) (sm p 1 (nf p n a) (nf p m c)))) (.c (.int .i64 0))) := by
  have hp0 : 0 < p := by have := hp.1; omega
  have hF := Nm.nf (p := p) (a := a) hp0 hn
  have hG := Nm.nf (p := p) (a := c) hp0 hm
  have hc := combine_ok (p := p) (b := 1) hp.1 hp.2.1 ⟨by omega, by have := hp.1; omega⟩ hF.n4 hG.n4 hF.r hG.r hF.z hG.z
  refine fn_ok (E := E0) E0_ok Tryz.func13 rfl mixed (by kernel_rfl) (by kernel_rfl) ?_
  conv => whnf
  refine ⟨_, modulus_ok hp, ?_⟩
  conv => whnf
  refine ⟨_, normal_ok (p := p) (n := n) (a := a) hp0 hp.2.1 (by omega), ?_⟩
  conv => whnf
  refine ⟨_, normal_ok (p := p) (n := m) (a := c) hp0 hp.2.1 (by omega), ?_⟩
  conv => whnf
  refine ⟨_, hc, ?_⟩
  conv => whnf
  exact ⟨rfl, Sub.refl _⟩
end Fp
end Go.Proofs.YtmfaipklhkgieaaGreat
