/- Values of the reference; the exported sums, differences, derivatives. -/
import Derived.Test.YtmfaipklhkgieaaFpO
namespace Go.Proofs.Ytmfaipklhkgieaa
open Go.RowKit
namespace Fp
/-- Horner's rule, t steps from the top. -/
def hv (p y : Int) (F : Nat → Int) (n : Nat) : Nat → Int
  | 0 => 0
  | t + 1 => (hv p y F n t * y + F (n - 1 - t)) % p
theorem hv_range {p y : Int} {F : Nat → Int} {n : Nat} (hp : 0 < p) : ∀ t, 0 ≤ hv p y F n t ∧ hv p y F n t < p
  | 0 => ⟨Int.le_refl _, hp⟩
  | _ + 1 => ⟨Int.emod_nonneg _ (by omega), Int.emod_lt_of_pos _ hp⟩
set_option maxHeartbeats 4000000 in
theorem refEval_ok {p x : Int} {n : Nat} {a : Nat → Int} (hp : 2 ≤ p) (hp2 : p ≤ 65521) (hn : n ≤ 4096) : FnOK Try.prog false 29 [.c (.int .i64 p), .c (il n a), .c (.int .i64 x)] (.c (.int .i64 (hv p (x % p) (nf p n a) n n))) := by
  have hy : 0 ≤ x % p ∧ x % p < p := ⟨Int.emod_nonneg _ (by omega), Int.emod_lt_of_pos _ (by omega)⟩
  refine fn_ok (E := E0) E0_ok Try.func29 rfl mixed (by kernel_rfl) (by kernel_rfl) ?_
  conv => whnf
  refine ⟨i64 (by omega) (by omega), ?_⟩
  conv => whnf
  refine loop_ints (fun k : Nat => ist [(0, .c (.int .i64 p)), (1, .c (il n a)), (2, .c (.int .i64 x)), (7, .c (.int .i64 (hv p (x % p) (nf p n a) n (n - k)))), (8, .c (.int .i64 ((k : Int) - 1)))] []) (fun k => k) (fun k => k ≤ n) n rfl ?_ (Nat.le_refl _) fun k hk => ?_
  · exact Weak.ints [] rfl trivial ⟨⟨_, rfl, rfl⟩, ⟨_, _, rfl, rfl, fun _ _ _ _ => rfl⟩, ⟨_, rfl, rfl⟩, ⟨_, rfl, by rw [Nat.sub_self]; rfl⟩, ⟨_, rfl, rfl⟩, trivial⟩
  conv => whnf
  refine bcase (fun (h : decide ((0 : Int) ≤ (k : Int) - 1) = true) => ?_) fun (h : decide ((0 : Int) ≤ (k : Int) - 1) = false) => ?_
  · have h := of_decide_eq_true h
    obtain ⟨i, rfl⟩ : ∃ i, k = i + 1 := ⟨k - 1, by omega⟩
    have ei : (((i + 1 : Nat) : Int) - 1).toNat = i := by omega
    have r1 := hv_range (p := p) (y := x % p) (F := nf p n a) (n := n) (by omega) (n - (i + 1))
    have b1 := mul_bounds hp2 r1 hy
    have r2 : 0 ≤ a i % p ∧ a i % p < p := ⟨Int.emod_nonneg _ (by omega), Int.emod_lt_of_pos _ (by omega)⟩
    have es : hv p (x % p) (nf p n a) n (n - i) = (hv p (x % p) (nf p n a) n (n - (i + 1)) * (x % p) + a i % p) % p := by
      rw [show n - i = n - (i + 1) + 1 by omega]
      show (_ + nf p n a (n - 1 - (n - (i + 1)))) % p = _
      rw [show n - 1 - (n - (i + 1)) = i by omega]
      unfold nf
      rw [if_pos (by omega)]
    conv => whnf
    refine ⟨_, refMod_ok (a := x) (by omega) hp2, ?_⟩
    conv => whnf
    refine ⟨i64 (by omega) (by omega), ?_⟩
    conv => whnf
    refine ⟨by omega, ?_⟩
    conv => whnf
    refine ⟨by omega, ?_⟩
    conv => whnf
    refine ⟨_, (show FnOK Try.prog false 36 [.c (.int .i64 (a (((i + 1 : Nat) : Int) - 1).toNat)), .c (.int .i64 p)] (.c (.int .i64 (a i % p))) by rw [ei]; exact refMod_ok (by omega) hp2), ?_⟩
    conv => whnf
    refine ⟨i64 (by omega) (by omega), ?_⟩
    conv => whnf
    refine ⟨by omega, ?_⟩
    conv => whnf
    refine ⟨i64 (by omega) (by omega), ?_⟩
    conv => whnf
    refine ⟨i, by omega, ?_, by omega⟩
    refine Weak.ints [] rfl trivial ⟨⟨_, rfl, rfl⟩, ⟨_, _, rfl, rfl, fun _ _ _ _ => rfl⟩, ⟨_, rfl, rfl⟩, ⟨_, rfl, ?_⟩, ⟨_, rfl, by omega⟩, trivial⟩
    rw [es]
    exact rem_eq (by omega)
  · have h := of_decide_eq_false h
    obtain rfl : k = 0 := by omega
    conv => whnf
    exact ⟨rfl, Sub.refl _⟩
set_option maxHeartbeats 4000000 in
theorem Normal_ok {p : Int} {n : Nat} {a : Nat → Int} (hp : md p) (hn : n ≤ 4096) : FnOK Try.prog false 25 [.c (.int .i64 p), .c (il n a)] (.t2 (.c (il (tl (nf p n a) n) (nf p n a))) (.c (.int .i64 0))) := by
  have hNf := normal_ok (p := p) (n := n) (a := a) (by have := hp.1; omega) hp.2.1 (by omega)
  refine fn_ok (E := E0) E0_ok Try.func25 rfl mixed (by kernel_rfl) (by kernel_rfl) ?_
  conv => whnf
  refine ⟨_, modulus_ok hp, ?_⟩
  conv => whnf
  refine ⟨_, hNf, ?_⟩
  conv => whnf
  exact ⟨rfl, Sub.refl _⟩
set_option maxHeartbeats 4000000 in
theorem Add_ok {p : Int} {n m : Nat} {a c : Nat → Int} (hp : md p) (hn : n ≤ 4096) (hm : m ≤ 4096) : FnOK Try.prog false 22 [.c (.int .i64 p), .c (il n a), .c (il m c)] (.t2 (.c (il (tl (sm p 1 (nf p n a) (nf p m c)) (max (tl (nf p n a) n) (tl (nf p m c) m))) (sm p 1 (nf p n a) (nf p m c)))) (.c (.int .i64 0))) := by
  have hp0 : 0 < p := by have := hp.1; omega
  have hF := Nm.nf (p := p) (a := a) hp0 hn
  have hG := Nm.nf (p := p) (a := c) hp0 hm
  have hc := combine_ok (p := p) (b := 1) hp.1 hp.2.1 ⟨by omega, by have := hp.1; omega⟩ hF.n4 hG.n4 hF.r hG.r hF.z hG.z
  refine fn_ok (E := E0) E0_ok Try.func22 rfl mixed (by kernel_rfl) (by kernel_rfl) ?_
  conv => whnf
  refine ⟨_, modulus_ok hp, ?_⟩
  conv => whnf
  refine ⟨_, normal_ok (p := p) (n := n) (a := a) hp0 hp.2.1 (by omega), ?_⟩
  conv => whnf
  refine ⟨_, normal_ok (p := p) (n := m) (a := c) hp0 hp.2.1 (by omega), ?_⟩
  conv => whnf
  refine ⟨_, hc, ?_⟩
  conv => whnf
  exact ⟨rfl, Sub.refl _⟩
set_option maxHeartbeats 4000000 in
theorem Sub_ok {p : Int} {n m : Nat} {a c : Nat → Int} (hp : md p) (hn : n ≤ 4096) (hm : m ≤ 4096) : FnOK Try.prog false 26 [.c (.int .i64 p), .c (il n a), .c (il m c)] (.t2 (.c (il (tl (sm p (p - 1) (nf p n a) (nf p m c)) (max (tl (nf p n a) n) (tl (nf p m c) m))) (sm p (p - 1) (nf p n a) (nf p m c)))) (.c (.int .i64 0))) := by
  have hp0 : 0 < p := by have := hp.1; omega
  have hp2 := hp.2.1
  have hF := Nm.nf (p := p) (a := a) hp0 hn
  have hG := Nm.nf (p := p) (a := c) hp0 hm
  have hc := combine_ok (p := p) (b := p - 1) hp.1 hp.2.1 ⟨by omega, by omega⟩ hF.n4 hG.n4 hF.r hG.r hF.z hG.z
  refine fn_ok (E := E0) E0_ok Try.func26 rfl mixed (by kernel_rfl) (by kernel_rfl) ?_
  conv => whnf
  refine ⟨_, modulus_ok hp, ?_⟩
  conv => whnf
  refine ⟨_, normal_ok (p := p) (n := n) (a := a) hp0 hp.2.1 (by omega), ?_⟩
  conv => whnf
  refine ⟨_, normal_ok (p := p) (n := m) (a := c) hp0 hp.2.1 (by omega), ?_⟩
  conv => whnf
  refine ⟨i64 (by omega) (by omega), ?_⟩
  conv => whnf
  refine ⟨_, hc, ?_⟩
  conv => whnf
  exact ⟨rfl, Sub.refl _⟩
set_option maxHeartbeats 4000000 in
theorem Derivative_ok {p : Int} {n : Nat} {a : Nat → Int} (hp : md p) (hn : n ≤ 4096) : FnOK Try.prog false 24 [.c (.int .i64 p), .c (il n a)] (.t2 (.c (il (tl (dv p (nf p n a)) (tl (nf p n a) n - 1)) (dv p (nf p n a)))) (.c (.int .i64 0))) := by
  have hp0 : 0 < p := by have := hp.1; omega
  have hF := Nm.nf (p := p) (a := a) hp0 hn
  refine fn_ok (E := E0) E0_ok Try.func24 rfl mixed (by kernel_rfl) (by kernel_rfl) ?_
  conv => whnf
  refine ⟨_, modulus_ok hp, ?_⟩
  conv => whnf
  refine ⟨_, normal_ok (p := p) (n := n) (a := a) hp0 hp.2.1 (by omega), ?_⟩
  conv => whnf
  refine ⟨_, derivative_ok hp.1 hp.2.1 hF.n4 hF.r, ?_⟩
  conv => whnf
  exact ⟨rfl, Sub.refl _⟩
end Fp
end Go.Proofs.Ytmfaipklhkgieaa
