/- Frobenius: the p-th power of a sum is the sum of the p-th powers. -/
import Derived.Test.YtmfaipklhkgieaaGreatFpPn
namespace Go.Proofs.YtmfaipklhkgieaaGreat
namespace Fp
/-- Binomial coefficients. -/
def bn : Nat → Nat → Nat
  | _, 0 => 1
  | 0, _ + 1 => 0
  | n + 1, k + 1 => bn n k + bn n (k + 1)
theorem bn_mul : ∀ n k, (n + 1) * bn n k = bn (n + 1) (k + 1) * (k + 1)
  | 0, 0 => rfl
  | 0, k + 1 => by show (0 + 1) * 0 = (0 + 0) * _; omega
  | n + 1, 0 => by
    have h := bn_mul n 0
    have e1 : bn n 0 = 1 := by cases n <;> rfl
    rw [e1] at h
    have h : (n + 1) * 1 = bn (n + 1) 1 * 1 := h
    show (n + 1 + 1) * 1 = (1 + bn (n + 1) 1) * 1
    omega
  | n + 1, k + 1 => by
    have h1 := bn_mul n k
    have h2 := bn_mul n (k + 1)
    have e1 : bn (n + 1) (k + 1) = bn n k + bn n (k + 1) := rfl
    show (n + 1 + 1) * bn (n + 1) (k + 1) = (bn (n + 1) (k + 1) + bn (n + 1) (k + 1 + 1)) * (k + 1 + 1)
    generalize bn (n + 1) (k + 1 + 1) = D at *
    generalize bn (n + 1) (k + 1) = B at *
    generalize bn n k = A at *
    generalize bn n (k + 1) = C at *
    grind
theorem bn_zero (n : Nat) : bn n 0 = 1 := by cases n <;> rfl
theorem bn_big : ∀ {n k : Nat}, n < k → bn n k = 0
  | 0, k + 1, _ => rfl
  | n + 1, k + 1, h => by
    show bn n k + bn n (k + 1) = 0
    rw [bn_big (show n < k by omega), bn_big (show n < k + 1 by omega)]
theorem bn_self : ∀ n, bn n n = 1
  | 0 => rfl
  | n + 1 => by
    show bn n n + bn n (n + 1) = 1
    rw [bn_self n, bn_big (Nat.lt_succ_self n)]
theorem bn_prime {p : Int} (hp : md p) {k : Nat} (h0 : 0 < k) (hk : k < p.toNat) : ((bn p.toNat k : Nat) : Int) % p = 0 := by
  obtain ⟨j, rfl⟩ : ∃ j, k = j + 1 := ⟨k - 1, by omega⟩
  obtain ⟨n, hn⟩ : ∃ n, p.toNat = n + 1 := ⟨p.toNat - 1, by omega⟩
  have h := bn_mul n j
  rw [← hn] at h
  have hpn : ((p.toNat : Nat) : Int) = p := Int.toNat_of_nonneg (by have := hp.1; omega)
  have hi : (inv ((j + 1 : Nat) : Int) p * ((j + 1 : Nat) : Int)) % p = 1 := inv_spec hp (by rw [Int.emod_eq_of_lt (by omega) (by omega)]; omega)
  have h2 : p * ((bn n j : Nat) : Int) = ((bn p.toNat (j + 1) : Nat) : Int) * ((j + 1 : Nat) : Int) := by
    have := congrArg (fun x : Nat => (x : Int)) h
    simp only [Int.natCast_mul] at this
    rw [hpn] at this
    exact this
  obtain ⟨y, e⟩ := of_rem hi
  generalize ((bn p.toNat (j + 1) : Nat) : Int) = B at *
  generalize ((bn n j : Nat) : Int) = A at *
  generalize ((j + 1 : Nat) : Int) = J at *
  generalize inv J p = I at *
  have e3 : B = p * (I * A - B * y) := by grind
  rw [e3]
  exact Int.mul_emod_right _ _
theorem cf_su {X : Nat → Int} {c : Nat → Int} {A : Nat → Nat → Int} (j : Nat) : ∀ N, cf X (fun i => su (fun k => c k * A k i) N) j = su (fun k => c k * cf X (A k) j) N
  | 0 => by
    show cf X (fun _ => 0) j = 0
    rw [cf_com, cf_nil]
  | N + 1 => by
    show cf X (fun i => su (fun k => c k * A k i) N + c N * A N i) j = su (fun k => c k * cf X (A k) j) N + c N * cf X (A N) j
    rw [cf_add, cf_su j N, cf_comm X (fun i => c N * A N i), cf_smul, cf_comm (A N)]
theorem binom (F G : Nat → Int) : ∀ n, pw (fun i => F i + G i) n = fun i => su (fun k => ((bn n k : Nat) : Int) * cf (pw F k) (pw G (n - k)) i) (n + 1)
  | 0 => by
    funext i
    show oneF i = 0 + ((1 : Nat) : Int) * cf oneF oneF i
    rw [cf_one, Int.zero_add]
    exact (Int.one_mul _).symm
  | n + 1 => by
    funext j
    show cf (fun i => F i + G i) (pw (fun i => F i + G i) n) j = _
    rw [binom F G n, cf_su, su_congr (g := fun k => ((bn n k : Nat) : Int) * cf (pw F (k + 1)) (pw G (n + 1 - (k + 1))) j + ((bn n k : Nat) : Int) * cf (pw F k) (pw G (n + 1 - k)) j) fun k hk => by
      show ((bn n k : Nat) : Int) * cf (fun i => F i + G i) (cf (pw F k) (pw G (n - k))) j = ((bn n k : Nat) : Int) * cf (pw F (k + 1)) (pw G (n + 1 - (k + 1))) j + ((bn n k : Nat) : Int) * cf (pw F k) (pw G (n + 1 - k)) j
      rw [cf_add', Int.mul_add, show n + 1 - (k + 1) = n - k by omega, show n + 1 - k = n - k + 1 by omega]
      rw [show cf F (cf (pw F k) (pw G (n - k))) = cf (pw F (k + 1)) (pw G (n - k)) from (cf_asc _ _ _).symm]
      rw [show cf G (cf (pw F k) (pw G (n - k))) = cf (pw F k) (pw G (n - k + 1)) by
        rw [← cf_asc, cf_com G, cf_asc]
        rfl], su_add]
    -- the second sum, its first term apart
    have e1 : su (fun k => ((bn n k : Nat) : Int) * cf (pw F k) (pw G (n + 1 - k)) j) (n + 1) = cf (pw F 0) (pw G (n + 1 - 0)) j + su (fun k => ((bn n (k + 1) : Nat) : Int) * cf (pw F (k + 1)) (pw G (n + 1 - (k + 1))) j) (n + 1) := by
      rw [su_head]
      show ((bn n 0 : Nat) : Int) * _ + _ = _ + (su (fun k => ((bn n (k + 1) : Nat) : Int) * cf (pw F (k + 1)) (pw G (n + 1 - (k + 1))) j) n + ((bn n (n + 1) : Nat) : Int) * _)
      rw [bn_zero, bn_big (Nat.lt_succ_self n), show ((1 : Nat) : Int) = 1 from rfl, show ((0 : Nat) : Int) = 0 from rfl, Int.one_mul, Int.zero_mul, Int.add_zero]
    have e2 : su (fun k => ((bn (n + 1) k : Nat) : Int) * cf (pw F k) (pw G (n + 1 - k)) j) (n + 1 + 1) = cf (pw F 0) (pw G (n + 1 - 0)) j + su (fun k => ((bn n k : Nat) : Int) * cf (pw F (k + 1)) (pw G (n + 1 - (k + 1))) j + ((bn n (k + 1) : Nat) : Int) * cf (pw F (k + 1)) (pw G (n + 1 - (k + 1))) j) (n + 1) := by
      rw [su_head, bn_zero, show ((1 : Nat) : Int) = 1 from rfl, Int.one_mul]
      congr 1
      refine su_congr fun k _ => ?_
      show ((bn n k + bn n (k + 1) : Nat) : Int) * _ = _
      rw [Int.natCast_add, Int.add_mul]
    rw [e1, e2, su_add]
    omega
theorem frob {p : Int} (hp : md p) (F G : Nat → Int) : Cg p (pw (fun i => F i + G i) p.toNat) fun i => pw F p.toNat i + pw G p.toNat i := fun i => by
  rw [binom]
  obtain ⟨n, hn⟩ : ∃ n, p.toNat = n + 1 := ⟨p.toNat - 1, by have := hp.1; omega⟩
  show (su (fun k => ((bn p.toNat k : Nat) : Int) * cf (pw F k) (pw G (p.toNat - k)) i) p.toNat + ((bn p.toNat p.toNat : Nat) : Int) * cf (pw F p.toNat) (pw G (p.toNat - p.toNat)) i) % p = (pw F p.toNat i + pw G p.toNat i) % p
  rw [bn_self, Nat.sub_self, show ((1 : Nat) : Int) = 1 from rfl, Int.one_mul, show cf (pw F p.toNat) (pw G 0) = pw F p.toNat by show cf _ oneF = _; rw [cf_com, cf_one]]
  have e : su (fun k => ((bn p.toNat k : Nat) : Int) * cf (pw F k) (pw G (p.toNat - k)) i) p.toNat % p = pw G p.toNat i % p := by
    have e1 : ∀ m, m + 1 = p.toNat → su (fun k => ((bn p.toNat k : Nat) : Int) * cf (pw F k) (pw G (p.toNat - k)) i) (m + 1) % p = pw G p.toNat i % p := fun m hm => by
      rw [su_head, bn_zero, show ((1 : Nat) : Int) = 1 from rfl, Int.one_mul, Nat.sub_zero, show cf (pw F 0) (pw G p.toNat) = pw G p.toNat from cf_one _]
      have e2 : su (fun k => ((bn p.toNat (k + 1) : Nat) : Int) * cf (pw F (k + 1)) (pw G (p.toNat - (k + 1))) i) m % p = su (fun _ => 0) m % p := su_mod fun k hk => by
        rw [Int.mul_emod, bn_prime hp (by omega) (by omega), Int.zero_mul, Int.zero_emod]
      rw [su_zero (f := fun _ => 0) fun _ _ => rfl] at e2
      rw [Int.add_emod, e2, Int.zero_emod, Int.add_zero, Int.emod_emod]
    have := e1 n hn.symm
    rwa [← hn] at this
  rw [Int.add_emod, e, ← Int.add_emod, Int.add_comm]
theorem pw_cg {p : Int} {F G : Nat → Int} (h : Cg p F G) : ∀ n, Cg p (pw F n) (pw G n)
  | 0 => Cg.refl _
  | n + 1 => h.cf (pw_cg h n)
theorem bs_congr {b c : Nat → Nat} {k : Nat} : ∀ {n : Nat}, (∀ i, i < n → b (k + i) = c (k + i)) → bs b k n = bs c k n
  | 0, _ => rfl
  | n + 1, h => by
    show bs b k n + _ = bs c k n + _
    rw [bs_congr fun i hi => h i (by omega), h n (by omega)]
/-- The exponent p, as a large integer. -/
theorem bs_of {p : Int} (hp : md p) : bs (bt fun _ => p) 0 (nb (fun _ => p) (tl (fun _ => p) 1)) = p.toNat := by
  have h1 := hp.1
  have h2 := hp.2.1
  have e : tl (fun _ => p) 1 = 1 := by
    show (if p = 0 then 0 else 1) = 1
    rw [if_neg (by omega)]
  rw [e, ← bs_norm fun _ => ⟨by omega, by omega⟩, bs_congr (c := fun j => p.toNat / 2 ^ j % 2) fun i hi => by
    show p.toNat / 2 ^ ((0 + i) % 32) % 2 = p.toNat / 2 ^ (0 + i) % 2
    rw [show (0 + i) % 32 = 0 + i from Nat.mod_eq_of_lt (by omega)], bs_bits]
  exact Nat.mod_eq_of_lt (by omega)
end Fp
end Go.Proofs.YtmfaipklhkgieaaGreat
