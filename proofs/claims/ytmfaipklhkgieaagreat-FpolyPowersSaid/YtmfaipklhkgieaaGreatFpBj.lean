/- The number of binary digits; powers of a polynomial modulo another one. -/
import Derived.Test.YtmfaipklhkgieaaGreatFpBi
import Derived.Test.YtmfaipklhkgieaaGreatFpX
namespace Go.Proofs.YtmfaipklhkgieaaGreat
open Go.RowKit
namespace Fp
def lb (X : Int) : Nat := Nat.log2 X.toNat + 1
theorem isLen_lb {X : Int} {n : Nat} (h : IsLen X n) : n = lb X := by
  obtain ⟨h1, _, h3, h4⟩ := h
  have h0 : X.toNat ≠ 0 := by
    have := Nat.pow_pos (n := n - 1) (show 0 < 2 by decide)
    omega
  have e1 := (Nat.le_log2 h0).2 h3
  have e2 := (Nat.log2_lt h0).2 h4
  unfold lb
  omega
theorem len_ok {X : Int} (h0 : 0 < X) (h1 : X < 4294967296) : FnOK Tryz.prog false 67 [.c (.int .u32 X)] (.c (.int .i64 (lb X))) := by
  refine ⟨by kernel_rfl, fun D w vs _ _ hargs => ?_⟩
  match vs, hargs with
  | [v0], ⟨e0, _⟩ =>
    obtain rfl : v0 = .int .u32 X := e0
    refine (len32_any X w h0 h1).mono ?_
    rintro e w' ⟨n, rfl, hn, rfl⟩
    exact ⟨_, rfl, by rw [isLen_lb hn]; exact rfl, Below.refl _ _⟩
/-- The number of binary digits of digits without zeros at the end. -/
def nb (a : Nat → Int) (m : Nat) : Nat := if m = 0 then 0 else 32 * (m - 1) + lb (a (m - 1))
theorem lb_le {X : Int} (h1 : X < 4294967296) : lb X ≤ 32 := by
  unfold lb
  rcases Nat.eq_zero_or_pos X.toNat with h | h
  · rw [h]; decide
  · have := (Nat.log2_lt (n := X.toNat) (k := 32) (by omega)).2 (by omega)
    omega
theorem lb_lt {X : Int} : X.toNat < 2 ^ lb X := Nat.lt_log2_self
theorem nb_le {a : Nat → Int} {m : Nat} (ha : ∀ i, 0 ≤ a i ∧ a i < 4294967296) : nb a m ≤ 32 * m := by
  unfold nb
  have := lb_le (ha (m - 1)).2
  split <;> omega
set_option maxHeartbeats 4000000 in
theorem bits_ok {n : Nat} {a : Nat → Int} {s : Bool} (hn : n ≤ 1048576) (ha : ∀ i, 0 ≤ a i ∧ a i < 4294967296) : FnOK Tryz.prog false 50 [bi s n a] (.c (.int .i64 (nb a (tl a n)))) := by
  have h := btrimmed_ok (a := a) hn
  have hle := tl_le a n
  have hlast : 0 < tl a n → a (tl a n - 1) ≠ 0 := tl_last
  generalize tl a n = m at *
  refine fn_ok (E := E0) E0_ok Tryz.func50 rfl mixed (by kernel_rfl) (by kernel_rfl) ?_
  conv => whnf
  refine ⟨_, h, ?_⟩
  conv => whnf
  refine bcase (fun (h1 : decide ((m : Int) = 0) = true) => ?_) fun (h1 : decide ((m : Int) = 0) = false) => ?_
  · have h1 := of_decide_eq_true h1
    obtain rfl : m = 0 := by omega
    conv => whnf
    exact ⟨rfl, Sub.refl _⟩
  · have h1 := of_decide_eq_false h1
    have h2 := hlast (by omega)
    have h3 := ha (m - 1)
    have h4 := lb_le h3.2
    have em : ((m : Int) - 1).toNat = m - 1 := by omega
    have hl := len_ok (X := a (m - 1)) (by omega) h3.2
    rw [← em] at hl
    conv => whnf
    refine ⟨i64 (by omega) (by omega), ?_⟩
    conv => whnf
    refine ⟨i64 (by omega) (by omega), ?_⟩
    conv => whnf
    refine ⟨i64 (by omega) (by omega), ?_⟩
    conv => whnf
    refine ⟨by omega, by omega, ?_⟩
    conv => whnf
    refine ⟨_, hl, ?_⟩
    conv => whnf
    rw [em]
    refine ⟨i64 (by omega) (by omega), ?_⟩
    conv => whnf
    refine ⟨rfl, subI ?_⟩
    unfold nb
    rw [if_neg (by omega)]
    omega
end Fp
end Go.Proofs.YtmfaipklhkgieaaGreat
