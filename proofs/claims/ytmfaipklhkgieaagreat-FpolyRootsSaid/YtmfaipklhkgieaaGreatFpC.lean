/- Inverses: Euclid's algorithm in arith and in the reference. -/
import Derived.Test.YtmfaipklhkgieaaGreatFpM
namespace Go.Proofs.YtmfaipklhkgieaaGreat
open Go.RowKit
namespace Fp
set_option maxHeartbeats 4000000 in
theorem aresidue_ok {a p : Int} (hp : 0 < p) (hp2 : p ≤ 65521) : FnOK Tryz.prog false 90 [.c (.int .i64 a), .c (.int .i64 p)] (.c (.int .i64 (a % p))) := by
  refine fn_ok (E := E0) E0_ok Tryz.func90 rfl mixed (by kernel_rfl) (by kernel_rfl) ?_
  have hb := tmod_bounds (a := a) hp
  conv => whnf
  refine ⟨by omega, ?_⟩
  conv => whnf
  refine bcase (fun (h1 : decide (Int.tmod a p < 0) = true) => ?_) fun (h1 : decide (Int.tmod a p < 0) = false) => ?_
  · have h1 := of_decide_eq_true h1
    conv => whnf
    refine ⟨i64 (by omega) (by omega), ?_⟩
    conv => whnf
    exact ⟨rfl, subI (tmod_neg hp h1)⟩
  · have h1 := of_decide_eq_false h1
    conv => whnf
    exact ⟨rfl, subI (tmod_pos hp h1)⟩
theorem aresidue_to {a p q x : Int} (e : q = p) (ex : a % p = x) (hp : 0 < p) (hp2 : p ≤ 65521) : FnOK Tryz.prog false 90 [.c (.int .i64 a), .c (.int .i64 q)] (.c (.int .i64 x)) := by
  subst e ex; exact aresidue_ok hp hp2
theorem IntKind.wrap_i64_in {n : Int} (h1 : -9223372036854775808 ≤ n) (h2 : n ≤ 9223372036854775807) : IntKind.i64.wrap n = n := by
  rw [IntKind.wrap_i64]; omega
set_option maxHeartbeats 4000000 in
theorem inRange_ok {n : Int} (h1 : 1 ≤ n) (h2 : n ≤ 65521) : FnOK Tryz.prog false 88 [.c (.int .i64 n)] (.c (.bool true)) := by
  refine fn_ok (E := E0) E0_ok Tryz.func88 rfl mixed (by kernel_rfl) (by kernel_rfl) ?_
  conv => whnf
  refine bpos (show gw true (decide (1 ≤ n)) = true by simp [gw]; omega) ?_
  conv => whnf
  exact ⟨rfl, subB (decide_eq_true (by omega))⟩
set_option maxHeartbeats 4000000 in
theorem refInRange_ok {n : Int} (h1 : 1 ≤ n) (h2 : n ≤ 65521) : FnOK Tryz.prog false 68 [.c (.int .i64 n)] (.c (.bool true)) := by
  refine fn_ok (E := E0) E0_ok Tryz.func68 rfl mixed (by kernel_rfl) (by kernel_rfl) ?_
  conv => whnf
  refine bpos (show gw true (decide (1 ≤ n)) = true by simp [gw]; omega) ?_
  conv => whnf
  exact ⟨rfl, subB (decide_eq_true (by omega))⟩
set_option maxHeartbeats 4000000 in
theorem refInverse_ok {c p : Int} (hp : md p) (hc : 0 < c % p) : FnOK Tryz.prog false 52 [.c (.int .i64 c), .c (.int .i64 p)] (.t2 (.c (.int .i64 (inv c p))) (.c (.int .i64 0))) := by
  obtain ⟨h1, h2, hP⟩ := hp
  refine fn_ok (E := E0) E0_ok Tryz.func52 rfl mixed (by kernel_rfl) (by kernel_rfl) ?_
  conv => whnf
  refine ⟨_, refInRange_ok (by omega) h2, ?_⟩
  conv => whnf
  refine ⟨_, refMod_ok (a := c) (by omega) h2, ?_⟩
  conv => whnf
  refine loop_ints (fun ((g, r, u, v) : Int × Int × Int × Int) => ist [(1, .c (.int .i64 p)), (6, .c (.int .i64 g)), (7, .c (.int .i64 r)), (8, .c (.int .i64 u)), (9, .c (.int .i64 v))] []) (fun (_, r, _, _) => r.toNat) (fun (g, r, u, v) => Eu (c % p) p g r u v) (c % p, p, 1, 0) rfl (Weak.ints [] rfl trivial ⟨⟨_, rfl, rfl⟩, ⟨_, rfl, rfl⟩, ⟨_, rfl, rfl⟩, ⟨_, rfl, rfl⟩, ⟨_, rfl, rfl⟩, trivial⟩) (Eu.start hc (Int.emod_lt_of_pos c (by omega))) ?_
  rintro ⟨g, r, u, v⟩ hE
  have hE : Eu (c % p) p g r u v := hE
  conv => whnf
  refine bcase (fun (h : decide (0 < r) = true) => ?_) fun (h : decide (0 < r) = false) => ?_
  · have h := of_decide_eq_true h
    obtain ⟨q1, q2, q3, q4, q5, q6⟩ := hE.quo h
    obtain ⟨s1, s2, s3, s4⟩ := hE.step h
    rw [← q1] at q2 q3 q4 q5 q6 s1 s2 s3 s4
    have := hE.u1
    have := hE.u2
    have := hE.gm
    conv => whnf
    refine ⟨by omega, i64 (by omega) (by omega), ?_⟩
    conv => whnf
    refine ⟨i64 (by omega) (by omega), ?_⟩
    conv => whnf
    refine ⟨i64 (by omega) (by omega), ?_⟩
    conv => whnf
    refine ⟨i64 (by omega) (by omega), ?_⟩
    conv => whnf
    refine ⟨i64 (by omega) (by omega), ?_⟩
    conv => whnf
    exact ⟨(r, g - Int.tdiv g r * r, v, u - Int.tdiv g r * v), s4, Weak.ints [] rfl trivial ⟨⟨_, rfl, rfl⟩, ⟨_, rfl, rfl⟩, ⟨_, rfl, rfl⟩, ⟨_, rfl, rfl⟩, ⟨_, rfl, rfl⟩, trivial⟩, s1⟩
  · have h := of_decide_eq_false h
    obtain rfl : r = 0 := by have := hE.r0; omega
    obtain ⟨e1, e2, e3⟩ := hE.inv hc (by omega) hP
    subst e1
    conv => whnf
    refine ⟨_, refMod_ok (a := u) (by omega) h2, ?_⟩
    conv => whnf
    refine ⟨rfl, ?_⟩
    rw [e2]
    exact Sub.refl _
set_option maxHeartbeats 4000000 in
theorem xgcd_ok {a p : Int} (hp : md p) (h0 : 0 < a) (ha : a < p) : FnOK Tryz.prog false 89 [.c (.int .i64 a), .c (.int .i64 p)] (.t4 (.c (.int .i64 1)) (.c (.int .i64 (inv a p))) (.c (.int .i64 (Int.tdiv (1 - inv a p * a) p))) (.c (.int .i64 0))) := by
  obtain ⟨h1, h2, hP⟩ := hp
  have ea : a % p = a := Int.emod_eq_of_lt (by omega) ha
  have hi := inv_range (c := a) (p := p) (by omega)
  refine fn_ok (E := E0) E0_ok Tryz.func89 rfl mixed (by kernel_rfl) (by kernel_rfl) ?_
  conv => whnf
  refine bpos (show gw false (decide (a < -2147483647)) = true by simp [gw]; omega) ?_
  conv => whnf
  refine bpos (show gw false (decide (2147483647 < a)) = true by simp [gw]; omega) ?_
  conv => whnf
  refine bpos (show gw false (decide (p < -2147483647)) = true by simp [gw]; omega) ?_
  conv => whnf
  refine bneg (show decide (2147483647 < p) = false by simp; omega) ?_
  conv => whnf
  refine bneg (show decide (p = 0) = false by simp; omega) ?_
  conv => whnf
  refine loop_ints (fun ((g, r, u, v) : Int × Int × Int × Int) => ist [(0, .c (.int .i64 a)), (1, .c (.int .i64 p)), (4, .c (.int .i64 g)), (9, .c (.int .i64 r)), (5, .c (.int .i64 u)), (8, .c (.int .i64 v))] []) (fun (_, r, _, _) => r.toNat) (fun (g, r, u, v) => Eu (a % p) p g r u v) (a, p, 1, 0) rfl ?_ (by show Eu (a % p) p a p 1 0; rw [ea]; exact Eu.start h0 ha) ?_
  · exact Weak.ints [] rfl trivial ⟨⟨_, rfl, rfl⟩, ⟨_, rfl, rfl⟩, ⟨_, rfl, rfl⟩, ⟨_, rfl, rfl⟩, ⟨_, rfl, rfl⟩, ⟨_, rfl, rfl⟩, trivial⟩
  rintro ⟨g, r, u, v⟩ hE
  have hE : Eu (a % p) p g r u v := hE
  conv => whnf
  refine bcase (fun (h : (!decide (r = 0)) = true) => ?_) fun (h : (!decide (r = 0)) = false) => ?_
  · have h : r ≠ 0 := by simpa using h
    have h : 0 < r := by have := hE.r0; omega
    obtain ⟨q1, q2, q3, q4, q5, q6⟩ := hE.quo h
    obtain ⟨s1, s2, s3, s4⟩ := hE.step h
    rw [← q1] at q2 q3 q4 q5 q6 s1 s2 s3 s4
    have := hE.u1
    have := hE.u2
    have := hE.gm
    conv => whnf
    refine ⟨by omega, i64 (by omega) (by omega), ?_⟩
    conv => whnf
    refine ⟨i64 (by omega) (by omega), ?_⟩
    conv => whnf
    refine ⟨i64 (by omega) (by omega), ?_⟩
    conv => whnf
    refine ⟨i64 (by omega) (by omega), ?_⟩
    conv => whnf
    refine ⟨i64 (by omega) (by omega), ?_⟩
    conv => whnf
    exact ⟨(r, g - Int.tdiv g r * r, v, u - Int.tdiv g r * v), s4, Weak.ints [] rfl trivial ⟨⟨_, rfl, rfl⟩, ⟨_, rfl, rfl⟩, ⟨_, rfl, rfl⟩, ⟨_, rfl, rfl⟩, ⟨_, rfl, rfl⟩, ⟨_, rfl, rfl⟩, trivial⟩, s1⟩
  · obtain rfl : r = 0 := by simpa using h
    obtain ⟨e1, e2, e3⟩ := hE.inv (by omega) (by omega) hP
    subst e1
    conv => whnf
    have em : Int.tdiv (if IntKind.i64.wrap (-p) > p then IntKind.i64.wrap (-p) else p) 1 = p := by
      rw [IntKind.wrap_i64_in (by omega) (by omega), if_neg (by omega), Int.tdiv_one]
    refine ⟨by omega, by rw [em]; exact i64 (by omega) (by omega), ?_⟩
    conv => whnf
    refine ⟨_, aresidue_to (a := u) (x := inv a p) em e2 (by omega) h2, ?_⟩
    conv => whnf
    have b0 : 0 ≤ inv a p * a := by exact Int.mul_nonneg hi.1 (by omega)
    have b1 : inv a p * a ≤ 65521 * 65521 := by exact Int.mul_le_mul (by omega) (by omega) (by omega) (by omega)
    have b2 : Int.natAbs (Int.tdiv (1 - inv a p * a) p) ≤ Int.natAbs (1 - inv a p * a) := by
      rw [Int.natAbs_tdiv]; exact Nat.div_le_self _ _
    refine ⟨i64 (by omega) (by omega), ?_⟩
    conv => whnf
    refine ⟨i64 (by omega) (by omega), ?_⟩
    conv => whnf
    refine ⟨by omega, i64 (by omega) (by omega), ?_⟩
    conv => whnf
    exact ⟨rfl, Sub.refl _⟩
theorem xgcd_to {a p y : Int} (e : inv a p = y) (hp : md p) (h0 : 0 < a) (ha : a < p) : FnOK Tryz.prog false 89 [.c (.int .i64 a), .c (.int .i64 p)] (.t4 (.c (.int .i64 1)) (.c (.int .i64 y)) (.c (.int .i64 (Int.tdiv (1 - y * a) p))) (.c (.int .i64 0))) := by
  subst e; exact xgcd_ok hp h0 ha
set_option maxHeartbeats 4000000 in
theorem ainverse_ok {c p : Int} (hp : md p) (hc : 0 < c % p) : FnOK Tryz.prog false 73 [.c (.int .i64 c), .c (.int .i64 p)] (.t2 (.c (.int .i64 (inv c p))) (.c (.int .i64 0))) := by
  have hlt := Int.emod_lt_of_pos c (by have := hp.1; omega : 0 < p)
  have e : inv (c % p) p = inv c p := by
    have e : ∀ x : Int, (x * (c % p)) % p = (x * c) % p := fun x => by rw [Int.mul_emod, Int.emod_emod, ← Int.mul_emod]
    by_cases h : ∃ x, 0 ≤ x ∧ x < p ∧ (x * (c % p)) % p = 1
    · have h1 := h.choose_spec
      rw [show inv (c % p) p = h.choose by unfold inv; rw [dif_pos h]]
      exact inv_eq h1.1 h1.2.1 (by rw [← e]; exact h1.2.2)
    · unfold inv
      rw [dif_neg h, dif_neg fun ⟨x, h1, h2, h3⟩ => h ⟨x, h1, h2, by rw [e]; exact h3⟩]
  refine fn_ok (E := E0) E0_ok Tryz.func73 rfl mixed (by kernel_rfl) (by kernel_rfl) ?_
  conv => whnf
  refine ⟨_, inRange_ok (by have := hp.1; omega) hp.2.1, ?_⟩
  conv => whnf
  refine ⟨_, aresidue_ok (a := c) (by have := hp.1; omega) hp.2.1, ?_⟩
  conv => whnf
  refine ⟨_, xgcd_to e hp hc hlt, ?_⟩
  conv => whnf
  exact ⟨rfl, Sub.refl _⟩
set_option maxHeartbeats 4000000 in
theorem inverse_ok {c p : Int} (hp : md p) (hc : 0 < c % p) : FnOK Tryz.prog false 61 [.c (.int .i64 c), .c (.int .i64 p)] (.c (.int .i64 (inv c p))) := by
  refine fn_ok (E := E0) E0_ok Tryz.func61 rfl mixed (by kernel_rfl) (by kernel_rfl) ?_
  conv => whnf
  refine ⟨_, ainverse_ok hp hc, ?_⟩
  conv => whnf
  exact ⟨rfl, Sub.refl _⟩
end Fp
end Go.Proofs.YtmfaipklhkgieaaGreat
