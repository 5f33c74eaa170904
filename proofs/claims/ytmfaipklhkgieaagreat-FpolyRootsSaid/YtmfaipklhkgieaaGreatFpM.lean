/- Inverses modulo a prime, as Euclid's algorithm finds them; plain arithmetic. -/
import Derived.Test.YtmfaipklhkgieaaGreatFpB
namespace Go.Proofs.YtmfaipklhkgieaaGreat
namespace Fp
/-- What stands at each round of Euclid's algorithm for a and m. -/
structure Eu (a m g r u v : Int) : Prop where
  r0 : 0 ≤ r
  g0 : 0 < g
  gm : g ≤ m
  rm : r ≤ m
  u1 : -m ≤ u
  u2 : u ≤ m
  v1 : -m ≤ v
  v2 : v ≤ m
  gd : m ∣ g - u * a
  rd : m ∣ r - v * a
  det : ∃ s : Int, (s = 1 ∨ s = -1) ∧ 0 ≤ s * u ∧ s * v ≤ 0 ∧ s * (u * r - v * g) = m
  com : ∀ d : Int, d ∣ g → d ∣ r → d ∣ a ∧ d ∣ m
theorem Eu.start {a m : Int} (h0 : 0 < a) (h1 : a < m) : Eu a m a m 1 0 where
  r0 := by omega
  g0 := h0
  gm := by omega
  rm := by omega
  u1 := by omega
  u2 := by omega
  v1 := by omega
  v2 := by omega
  gd := ⟨0, by omega⟩
  rd := ⟨1, by omega⟩
  det := ⟨1, .inl rfl, by omega, by omega, by omega⟩
  com := fun d h1 h2 => ⟨h1, h2⟩
theorem Eu.quo {a m g r u v : Int} (h : Eu a m g r u v) (hr : 0 < r) : Int.tdiv g r = g / r ∧ 0 ≤ g / r ∧ g / r ≤ m ∧ g / r * r ≤ g ∧ g - g / r * r = g % r ∧ 0 ≤ g / r * r := by
  have h1 : Int.tdiv g r = g / r := Int.tdiv_eq_ediv_of_nonneg (by have := h.g0; omega)
  have h2 : 0 ≤ g / r := Int.ediv_nonneg (by have := h.g0; omega) (by omega)
  have h3 := Int.mul_ediv_add_emod g r
  have h4 := Int.emod_nonneg g (by omega : r ≠ 0)
  have h5 : g / r ≤ g := Int.ediv_le_self _ (by have := h.g0; omega)
  have h6 : g / r * r = r * (g / r) := Int.mul_comm _ _
  have h7 := Int.mul_nonneg h2 (by omega : 0 ≤ r)
  have := h.gm
  exact ⟨h1, h2, by omega, by omega, by omega, h7⟩
theorem Eu.step {a m g r u v : Int} (h : Eu a m g r u v) (hr : 0 < r) : Eu a m r (g - g / r * r) v (u - g / r * v) ∧ -(2 * m) ≤ g / r * v ∧ g / r * v ≤ 2 * m ∧ (g - g / r * r).toNat < r.toNat := by
  obtain ⟨q1, q2, q3, q4, q5, q6⟩ := h.quo hr
  have h4 := Int.emod_nonneg g (by omega : r ≠ 0)
  have h5 := Int.emod_lt_of_pos g hr
  obtain ⟨s, hs, s1, s2, s3⟩ := h.det
  generalize g / r = q at *
  have e1 : -s * (v * (g - q * r) - (u - q * v) * r) = m := by rw [← s3]; grind
  have e2 : 0 ≤ -s * v := by have : -s * v = -(s * v) := Int.neg_mul _ _; omega
  have e3 : -s * (u - q * v) = -(s * u) + q * (s * v) := by grind
  have e4 : q * (s * v) ≤ 0 := by
    have := Int.mul_nonneg q2 (by omega : 0 ≤ -(s * v))
    have e : q * -(s * v) = -(q * (s * v)) := Int.mul_neg _ _
    omega
  have e5 : -s * (u - q * v) ≤ 0 := by omega
  -- the new cofactor is not greater than m
  have e6 : 0 ≤ (-s * v) * (g - q * r) := Int.mul_nonneg e2 (by omega)
  have e7 : -s * (v * (g - q * r) - (u - q * v) * r) = (-s * v) * (g - q * r) + (-(-s * (u - q * v))) * r := by grind
  have e8 : (-(-s * (u - q * v))) * 1 ≤ (-(-s * (u - q * v))) * r := Int.mul_le_mul_of_nonneg_left (by omega) (by omega)
  have e9 : -(-s * (u - q * v)) ≤ m := by omega
  have e10 : -m ≤ u - q * v ∧ u - q * v ≤ m := by
    rcases hs with rfl | rfl <;> omega
  have := h.u1
  have := h.u2
  have := h.v1
  have := h.v2
  refine ⟨⟨by omega, hr, h.rm, by have := h.gm; omega, h.v1, h.v2, e10.1, e10.2, h.rd, ?_, ⟨-s, by rcases hs with rfl | rfl <;> simp, e2, e5, e1⟩, fun d h1 h2 => ?_⟩, by omega, by omega, by omega⟩
  · obtain ⟨x, hx⟩ := h.gd
    obtain ⟨y, hy⟩ := h.rd
    exact ⟨x - q * y, by grind⟩
  · refine h.com d ?_ h1
    have : g = (g - q * r) + q * r := by omega
    rw [this]
    exact Int.dvd_add h2 (Int.dvd_mul_of_dvd_right h1)
/-- A prime has no divisor of its own but 1. -/
theorem Pr.div {p g : Int} (hp : Pr p) (hg : 0 < g) (hlt : g < p) (hd : g ∣ p) : g = 1 := by
  obtain ⟨k, hk⟩ := hd
  rcases Int.lt_or_le 1 g with h | h
  · exfalso
    have hk0 : 0 < k := by
      rcases Int.lt_or_le 0 k with h1 | h1
      · exact h1
      · have := Int.mul_nonneg (by omega : 0 ≤ g) (by omega : 0 ≤ -k)
        have e : g * -k = -(g * k) := Int.mul_neg _ _
        omega
    have hk1 : 1 < k := by
      rcases Int.lt_or_le 1 k with h1 | h1
      · exact h1
      · obtain rfl : k = 1 := by omega
        omega
    rcases Int.lt_or_le g k with h2 | h2
    · have : g * g ≤ g * k := Int.mul_le_mul_of_nonneg_left (by omega) (by omega)
      exact hp g (by omega) (by omega) (by rw [hk]; exact Int.mul_emod_right _ _)
    · have : g * k ≥ k * k := Int.mul_le_mul_of_nonneg_right h2 (by omega)
      exact hp k (by omega) (by omega) (by rw [hk]; exact Int.mul_emod_left _ _)
  · omega
theorem Eu.done {a m g u v : Int} (h : Eu a m g 0 u v) (h0 : 0 < a) (h1 : a < m) (hp : Pr m) : g = 1 ∧ (u % m * a) % m = 1 % m := by
  obtain ⟨d1, d2⟩ := h.com g (Int.dvd_refl _) (Int.dvd_zero _)
  have hg : g ≤ a := Int.le_of_dvd h0 d1
  have e := hp.div h.g0 (by omega) d2
  refine ⟨e, ?_⟩
  subst e
  obtain ⟨x, hx⟩ := h.gd
  rw [Int.mul_emod, Int.emod_emod, ← Int.mul_emod]
  have : u * a = 1 + m * -x := by grind
  rw [this, Int.add_mul_emod_self_left]
open Classical in
/-- The inverse of a residue. -/
noncomputable def inv (c p : Int) : Int := if h : ∃ x, 0 ≤ x ∧ x < p ∧ (x * c) % p = 1 then h.choose else 0
theorem inv_eq {c p x : Int} (h0 : 0 ≤ x) (h1 : x < p) (h : (x * c) % p = 1) : x = inv c p := by
  have hex : ∃ x, 0 ≤ x ∧ x < p ∧ (x * c) % p = 1 := ⟨x, h0, h1, h⟩
  unfold inv
  rw [dif_pos hex]
  obtain ⟨g1, g2, g3⟩ := hex.choose_spec
  generalize hex.choose = y at g1 g2 g3
  have e1 := Int.mul_ediv_add_emod (x * c) p
  have e2 := Int.mul_ediv_add_emod (y * c) p
  rw [h] at e1
  rw [g3] at e2
  generalize x * c / p = k at e1
  generalize y * c / p = l at e2
  have e3 : x - y = p * (y * k - x * l) := by grind
  have e4 : p ∣ x - y := ⟨_, e3⟩
  rcases Int.lt_trichotomy (x - y) 0 with h2 | h2 | h2
  · have := Int.le_of_dvd (by omega : 0 < -(x - y)) ((Int.dvd_neg).2 e4)
    omega
  · omega
  · have := Int.le_of_dvd h2 e4
    omega
theorem Eu.inv {c m g u v : Int} (h : Eu (c % m) m g 0 u v) (h0 : 0 < c % m) (hm : 1 < m) (hp : Pr m) : g = 1 ∧ u % m = Fp.inv c m ∧ (Fp.inv c m * c) % m = 1 := by
  obtain ⟨h1, h2⟩ := h.done h0 (Int.emod_lt_of_pos c (by omega)) hp
  have h3 : (u % m * c) % m = 1 := by
    rw [Int.mul_emod, Int.emod_emod] at h2 ⊢
    rw [Int.emod_emod] at h2
    rw [h2]
    exact Int.emod_eq_of_lt (by omega) hm
  have h4 := inv_eq (Int.emod_nonneg u (by omega : m ≠ 0)) (Int.emod_lt_of_pos u (by omega)) h3
  exact ⟨h1, h4, by rw [← h4]; exact h3⟩
theorem inv_range {c p : Int} (hp : 0 < p) : 0 ≤ inv c p ∧ inv c p < p := by
  unfold inv
  split
  · rename_i h
    exact ⟨h.choose_spec.1, h.choose_spec.2.1⟩
  · omega
end Fp
end Go.Proofs.YtmfaipklhkgieaaGreat
