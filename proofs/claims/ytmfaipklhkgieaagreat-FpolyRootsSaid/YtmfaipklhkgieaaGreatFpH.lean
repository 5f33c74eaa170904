/- Plain laws of quotients modulo a prime: a product leaves no remainder. -/
import Derived.Test.YtmfaipklhkgieaaGreatFpG
namespace Go.Proofs.YtmfaipklhkgieaaGreat
namespace Fp
theorem cv_top {F G : Nat → Int} {m : Nat} (hG : ∀ j, m ≤ j → G j = 0) : ∀ {i k : Nat}, i + m ≤ k + 1 → cv F G i k = 0
  | 0, _, _ => rfl
  | i + 1, k, h => by
    show cv F G i k + (if i ≤ k then F i * G (k - i) else 0) = 0
    rw [cv_top hG (by omega), hG (k - i) (by omega), Int.mul_zero]
    simp
/-- The leading coefficient of the rest, times the inverse. -/
theorem lead_eq {p b : Int} {m : Nat} {F G : Nat → Int} (hm : 0 < m) (hF : ∀ i, 0 ≤ F i ∧ F i < p) (hG : ∀ j, m ≤ j → G j = 0) (hb : (b * G (m - 1)) % p = 1) (i : Nat) : (cv F G (i + 1) (i + m - 1) % p * b) % p = F i := by
  have e1 : cv F G (i + 1) (i + m - 1) = F i * G (m - 1) := by
    show cv F G i (i + m - 1) + (if i ≤ i + m - 1 then F i * G (i + m - 1 - i) else 0) = _
    rw [cv_top hG (by omega), if_pos (by omega), show i + m - 1 - i = m - 1 by omega, Int.zero_add]
  rw [e1, Int.mul_emod, Int.emod_emod, ← Int.mul_emod]
  have e2 : F i * G (m - 1) * b = F i * (b * G (m - 1)) := by grind
  rw [e2, Int.mul_emod, hb, Int.mul_one, Int.emod_emod]
  exact Int.emod_eq_of_lt (hF i).1 (hF i).2
theorem dn_prod {p b : Int} {n m : Nat} {F G : Nat → Int} (hm : 0 < m) (hF : ∀ i, 0 ≤ F i ∧ F i < p) (hG : ∀ j, m ≤ j → G j = 0) (hb : (b * G (m - 1)) % p = 1) : ∀ {t : Nat}, t ≤ n → ∀ k, dn p b m n (pr p F G n) G t k = cv F G (n - t) k % p
  | 0, _, _ => rfl
  | t + 1, ht, k => by
    have ih := fun k => dn_prod (p := p) (b := b) (F := F) hm hF hG hb (show t ≤ n by omega) k
    have e : n - t = (n - (t + 1)) + 1 := by omega
    show dpart p ((dn p b m n (pr p F G n) G t (n - 1 - t + m - 1) * b) % p) G (dn p b m n (pr p F G n) G t) (n - 1 - t) m k = _
    rw [ih, show n - 1 - t = n - (t + 1) by omega, e, lead_eq hm hF hG hb]
    unfold dpart
    rw [ih, e]
    generalize n - (t + 1) = i
    rw [show cv F G (i + 1) k = cv F G i k + if i ≤ k then F i * G (k - i) else 0 from rfl]
    by_cases h1 : i ≤ k
    · rw [if_pos h1]
      by_cases h2 : k < i + m
      · rw [if_pos ⟨h1, h2⟩, Int.sub_emod, Int.emod_emod, ← Int.sub_emod]
        congr 1
        omega
      · rw [if_neg (by omega), hG (k - i) (by omega), Int.mul_zero, Int.add_zero]
    · rw [if_neg (by omega), if_neg h1, Int.add_zero]
theorem dq_prod {p b : Int} {n m : Nat} {F G : Nat → Int} (hm : 0 < m) (hF : ∀ i, 0 ≤ F i ∧ F i < p) (hG : ∀ j, m ≤ j → G j = 0) (hb : (b * G (m - 1)) % p = 1) {i : Nat} (hi : i < n) : dq p b m n (pr p F G n) G i = F i := by
  unfold dq
  rw [dn_prod hm hF hG hb (by omega), show n - (n - (i + 1)) = i + 1 by omega]
  exact lead_eq hm hF hG hb i
/-- The quotient has no zero ahead. -/
theorem dq_lead {p b : Int} {n m : Nat} {F G : Nat → Int} (hm : 0 < m) (hmn : m ≤ n) (hF : ∀ i, 0 ≤ F i ∧ F i < p) (hl : F (n - 1) ≠ 0) (hb : (b * G (m - 1)) % p = 1) : dq p b m (n + 1 - m) F G (n - m) ≠ 0 := by
  unfold dq
  rw [show n + 1 - m - (n - m + 1) = 0 by omega, show n - m + m - 1 = n - 1 by omega]
  show (F (n - 1) * b) % p ≠ 0
  intro h
  have e2 : F (n - 1) * (b * G (m - 1)) = F (n - 1) * b * G (m - 1) := by grind
  have e3 : (F (n - 1) * (b * G (m - 1))) % p = 0 := by rw [e2, Int.mul_emod, h, Int.zero_mul, Int.zero_emod]
  rw [Int.mul_emod, hb, Int.mul_one, Int.emod_emod, Int.emod_eq_of_lt (hF _).1 (hF _).2] at e3
  exact hl e3
theorem tl_full {a : Nat → Int} {n : Nat} (h : 0 < n → a (n - 1) ≠ 0) : tl a n = n := by
  cases n with
  | zero => rfl
  | succ n =>
    have h : ¬ a n = 0 := h (by omega)
    unfold tl; rw [if_neg h]
theorem tl_tl (a : Nat → Int) (n : Nat) : tl a (tl a n) = tl a n := tl_full fun h => tl_last h
theorem inv_spec {c p : Int} (hp : md p) (hc : 0 < c % p) : (inv c p * c) % p = 1 := by
  -- Euclid's algorithm ends
  have key : ∀ (k : Nat) (g r u v : Int), r.toNat = k → Eu (c % p) p g r u v → (inv c p * c) % p = 1 := by
    intro k
    induction k using Nat.strongRecOn with
    | ind k ih =>
      intro g r u v hk h
      rcases Int.lt_or_le 0 r with h1 | h1
      · obtain ⟨s1, _, _, s4⟩ := h.step h1
        exact ih _ (by omega) _ _ _ _ rfl s1
      · have h0 := h.r0
        obtain rfl : r = 0 := by omega
        exact (h.inv hc (by have := hp.1; omega) hp.2.2).2.2
  exact key _ _ _ _ _ rfl (Eu.start hc (Int.emod_lt_of_pos c (by have := hp.1; omega)))
end Fp
end Go.Proofs.YtmfaipklhkgieaaGreat
