/- Plain laws of fractions: the fraction of two integers, its numerator and denominator, sums, products, quotients, signs. -/
namespace Go.Proofs.YtigciplaoikcfaaGreat
/-- The fraction n/d, 0 for d = 0. -/
def ratio (n d : Int) : Rat := (n : Rat) / (d : Rat)
theorem ratio_zero_right (n : Int) : ratio n 0 = 0 := by unfold ratio; simp [Rat.div_def, Rat.inv_zero]
theorem ratio_zero_left (d : Int) : ratio 0 d = 0 := by unfold ratio; simp [Rat.div_def]
theorem ratio_one (n : Int) : ratio n 1 = (n : Rat) := by unfold ratio; grind
theorem ratio_neg (n d : Int) : ratio (-n) (-d) = ratio n d := by
  unfold ratio; simp only [Rat.intCast_neg, Rat.div_def]
  by_cases h : (d : Rat) = 0
  · simp [h, Rat.inv_zero]
  · generalize (d : Rat) = a at *; generalize (n : Rat) = b at *
    grind
theorem ratio_neg_left (n d : Int) : ratio (-n) d = -ratio n d := by
  unfold ratio; simp only [Rat.intCast_neg, Rat.div_def]; grind
theorem cast_ne {d : Int} (h : d ≠ 0) : (d : Rat) ≠ 0 := by
  intro e; exact h (by exact_mod_cast e)
theorem ratio_add {n1 d1 n2 d2 : Int} (h1 : d1 ≠ 0) (h2 : d2 ≠ 0) : ratio n1 d1 + ratio n2 d2 = ratio (n1 * d2 + n2 * d1) (d1 * d2) := by
  have g1 := cast_ne h1
  have g2 := cast_ne h2
  unfold ratio
  simp only [Rat.intCast_add, Rat.intCast_mul]
  generalize (d1 : Rat) = a at *; generalize (d2 : Rat) = b at *
  grind
theorem ratio_mul (n1 d1 n2 d2 : Int) : ratio n1 d1 * ratio n2 d2 = ratio (n1 * n2) (d1 * d2) := by
  unfold ratio
  simp only [Rat.intCast_mul, Rat.div_def]
  by_cases h1 : (d1 : Rat) = 0
  · simp [h1, Rat.inv_zero]
  · by_cases h2 : (d2 : Rat) = 0
    · simp [h2, Rat.inv_zero]
    · generalize (d1 : Rat) = a at *; generalize (d2 : Rat) = b at *
      grind
theorem ratio_inv (n d : Int) : (ratio n d)⁻¹ = ratio d n := by
  unfold ratio
  by_cases h1 : (d : Rat) = 0
  · simp [h1, Rat.div_def, Rat.inv_zero]
  · by_cases h2 : (n : Rat) = 0
    · simp [h2, Rat.div_def, Rat.inv_zero]
    · generalize (d : Rat) = a at *; generalize (n : Rat) = b at *
      grind
theorem ratio_div (n1 d1 n2 d2 : Int) : ratio n1 d1 / ratio n2 d2 = ratio (n1 * d2) (d1 * n2) := by
  rw [Rat.div_def, ratio_inv, ratio_mul]
theorem ratio_num_den (x : Rat) : ratio x.num x.den = x := by
  unfold ratio
  have := Rat.num_divInt_den x
  rw [Rat.divInt_eq_div] at this
  exact this
theorem ratio_eq_mkRat (n : Int) (d : Nat) : ratio n d = mkRat n d := by
  rw [Rat.mkRat_eq_div]; unfold ratio; norm_cast
theorem ratio_parts {n : Int} {d : Nat} (hd : 0 < d) : (ratio n d).num = n / (Int.gcd n d : Int) ∧ (ratio n d).den = d / Int.gcd n d := by
  rw [ratio_eq_mkRat, ← Rat.normalize_eq_mkRat (Nat.pos_iff_ne_zero.1 hd), Rat.normalize_eq]
  constructor <;> simp [Int.gcd]
theorem ratio_num_mul {n : Int} {d : Nat} (hd : 0 < d) : (ratio n d).num * (Int.gcd n d : Int) = n := by
  rw [(ratio_parts hd).1]
  exact Int.ediv_mul_cancel (Int.gcd_dvd_left _ _)
theorem ratio_den_mul {n : Int} {d : Nat} (hd : 0 < d) : (ratio n d).den * Int.gcd n d = d := by
  rw [(ratio_parts hd).2]
  exact Nat.div_mul_cancel (by exact_mod_cast (Int.gcd_dvd_right n d : (Int.gcd n d : Int) ∣ d))
theorem gcd_pos_right {n : Int} {d : Nat} (hd : 0 < d) : 0 < Int.gcd n d := Int.gcd_pos_of_ne_zero_right _ (by omega)
theorem ratio_eq_zero {n d : Int} : ratio n d = 0 ↔ n = 0 ∨ d = 0 := by
  constructor
  · intro h
    rcases Decidable.em (n = 0) with h1 | h1
    · exact .inl h1
    · rcases Decidable.em (d = 0) with h2 | h2
      · exact .inr h2
      · exfalso
        have g1 := cast_ne h1
        have g2 := cast_ne h2
        unfold ratio at h
        generalize (d : Rat) = a at *; generalize (n : Rat) = b at *
        grind
  · rintro (h | h)
    · rw [h]; exact ratio_zero_left _
    · rw [h]; exact ratio_zero_right _
/-- The sign of a fraction, off any numerator and denominator. -/
theorem ratio_sign (n d : Int) : (ratio n d).num.sign = n.sign * d.sign := by
  have key : ∀ (n : Int) (d : Nat), 0 < d → (ratio n d).num.sign = n.sign := by
    intro n d hd
    have h := ratio_num_mul (n := n) hd
    have g : 0 < (Int.gcd n d : Int) := by have := gcd_pos_right (n := n) hd; omega
    have : ((ratio n d).num * (Int.gcd n d : Int)).sign = n.sign := by rw [h]
    rw [Int.sign_mul, Int.sign_eq_one_of_pos g, Int.mul_one] at this
    exact this
  rcases Int.lt_trichotomy d 0 with h | h | h
  · have e := ratio_neg n d
    rw [← e]
    obtain ⟨k, hk⟩ := Int.eq_ofNat_of_zero_le (show 0 ≤ -d by omega)
    rw [hk, key (-n) k (by omega), Int.sign_eq_neg_one_of_neg h, Int.sign_neg]; omega
  · rw [h, ratio_zero_right]; simp
  · obtain ⟨k, hk⟩ := Int.eq_ofNat_of_zero_le (show 0 ≤ d by omega)
    rw [hk, key n k (by omega), ← hk, Int.sign_eq_one_of_pos h]; omega
/-- Numerator and denominator do not grow. -/
theorem ratio_small {n : Int} {d : Nat} (hd : 0 < d) : (ratio n d).num.natAbs ≤ n.natAbs ∧ (ratio n d).den ≤ d := by
  have g := gcd_pos_right (n := n) hd
  constructor
  · have h := congrArg Int.natAbs (ratio_num_mul (n := n) hd)
    rw [Int.natAbs_mul, Int.natAbs_natCast] at h
    rw [← h]; exact Nat.le_mul_of_pos_right _ g
  · have h := ratio_den_mul (n := n) hd
    have := Nat.le_mul_of_pos_right (ratio n d).den g
    omega
theorem rat_sign_zero (x : Rat) : x.num.sign = 0 ↔ x = 0 := by
  rw [Int.sign_eq_zero_iff_zero]
  exact Rat.num_eq_zero
end Go.Proofs.YtigciplaoikcfaaGreat
