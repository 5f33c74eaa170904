/- The equation of a division modulo a prime. -/
import Derived.Test.YtmfaipklhkgieaaFpP
namespace Go.Proofs.Ytmfaipklhkgieaa
namespace Fp
theorem div_eq {p b : Int} {m N : Nat} {F G : Nat → Int} (hGz : ∀ j, m ≤ j → G j = 0) : ∀ {t : Nat}, t ≤ N → ∀ k, ∃ z, F k = dn p b m N F G t k + (cv (dq p b m N F G) G N k - cv (dq p b m N F G) G (N - t) k) + p * z
  | 0, _, k => ⟨0, by show F k = F k + _ + _; rw [Nat.sub_zero, Int.sub_self, Int.mul_zero, Int.add_zero, Int.add_zero]⟩
  | t + 1, ht, k => by
    obtain ⟨z, hz⟩ := div_eq (p := p) (b := b) (F := F) hGz (show t ≤ N by omega) k
    have hs := congrFun (dn_step (p := p) (b := b) (m := m) (N := N) (F := F) (G := G) (i := N - (t + 1)) (by omega)) k
    rw [show N - (N - (t + 1)) = t + 1 by omega, show N - (N - (t + 1) + 1) = t by omega] at hs
    have hc : cv (dq p b m N F G) G (N - t) k = cv (dq p b m N F G) G (N - (t + 1)) k + if N - (t + 1) ≤ k then dq p b m N F G (N - (t + 1)) * G (k - (N - (t + 1))) else 0 := by
      rw [show N - t = N - (t + 1) + 1 by omega]
      rfl
    rw [hc] at hz
    generalize cv (dq p b m N F G) G N k = A at *
    generalize cv (dq p b m N F G) G (N - (t + 1)) k = B at *
    generalize dq p b m N F G (N - (t + 1)) = c at *
    generalize N - (t + 1) = i at *
    unfold dpart at hs
    by_cases h1 : i ≤ k
    · rw [if_pos h1] at hz
      by_cases h2 : k < i + m
      · rw [if_pos ⟨h1, h2⟩] at hs
        have e := Int.mul_ediv_add_emod (dn p b m N F G t k - c * G (k - i)) p
        rw [← hs] at e
        generalize (dn p b m N F G t k - c * G (k - i)) / p = y at e
        exact ⟨z + y, by grind⟩
      · rw [if_neg (by omega)] at hs
        rw [hGz (k - i) (by omega), Int.mul_zero] at hz
        exact ⟨z, by rw [hs]; omega⟩
    · rw [if_neg h1] at hz
      rw [if_neg (by omega)] at hs
      exact ⟨z, by rw [hs]; omega⟩
/-- Dividend, divisor, quotient and rest. -/
theorem div_all {p b : Int} {m N : Nat} {F G : Nat → Int} (hF : ∀ i, 0 ≤ F i ∧ F i < p) (hGz : ∀ j, m ≤ j → G j = 0) (k : Nat) : (cv (dq p b m N F G) G N k + dn p b m N F G N k) % p = F k := by
  obtain ⟨z, hz⟩ := div_eq (p := p) (b := b) (F := F) hGz (Nat.le_refl N) k
  rw [Nat.sub_self] at hz
  have e : cv (dq p b m N F G) G N k + dn p b m N F G N k = F k + p * -z := by
    have : cv (dq p b m N F G) G 0 k = 0 := rfl
    rw [this] at hz
    have e2 : p * -z = -(p * z) := Int.mul_neg _ _
    omega
  rw [e, Int.add_mul_emod_self_left]
  exact Int.emod_eq_of_lt (hF k).1 (hF k).2
end Fp
end Go.Proofs.Ytmfaipklhkgieaa
