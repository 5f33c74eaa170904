/- Sums of products: whole, in either order, of sums. -/
import Derived.Test.YtmfaipklhkgieaaFpQ
namespace Go.Proofs.Ytmfaipklhkgieaa
namespace Fp
/-- The sum of the first n. -/
def su (f : Nat → Int) : Nat → Int
  | 0 => 0
  | n + 1 => su f n + f n
theorem su_congr {f g : Nat → Int} : ∀ {n : Nat}, (∀ i, i < n → f i = g i) → su f n = su g n
  | 0, _ => rfl
  | n + 1, h => by
    unfold su
    rw [su_congr fun i hi => h i (by omega), h n (by omega)]
theorem su_add {f g : Nat → Int} : ∀ {n : Nat}, su (fun i => f i + g i) n = su f n + su g n
  | 0 => rfl
  | n + 1 => by
    unfold su
    rw [su_add]
    omega
theorem su_mul {c : Int} {f : Nat → Int} : ∀ {n : Nat}, su (fun i => c * f i) n = c * su f n
  | 0 => (Int.mul_zero c).symm
  | n + 1 => by
    unfold su
    rw [su_mul, Int.mul_add]
theorem su_zero {f : Nat → Int} : ∀ {n : Nat}, (∀ i, i < n → f i = 0) → su f n = 0
  | 0, _ => rfl
  | n + 1, h => by
    unfold su
    rw [su_zero fun i hi => h i (by omega), h n (by omega)]
    rfl
theorem su_head {f : Nat → Int} : ∀ {n : Nat}, su f (n + 1) = f 0 + su (fun i => f (i + 1)) n
  | 0 => by show 0 + f 0 = f 0 + 0; omega
  | n + 1 => by
    show su f (n + 1) + f (n + 1) = f 0 + (su (fun i => f (i + 1)) n + f (n + 1))
    rw [su_head]
    omega
theorem su_rev : ∀ {n : Nat} {f : Nat → Int}, su f n = su (fun i => f (n - 1 - i)) n
  | 0, _ => rfl
  | n + 1, f => by
    rw [su_head, su_rev (n := n)]
    show f 0 + su (fun i => f (n - 1 - i + 1)) n = su (fun i => f (n + 1 - 1 - i)) n + f (n + 1 - 1 - n)
    rw [show n + 1 - 1 - n = 0 by omega, su_congr (g := fun i => f (n + 1 - 1 - i)) fun i hi => by
      show f (n - 1 - i + 1) = f (n + 1 - 1 - i)
      rw [show n - 1 - i + 1 = n + 1 - 1 - i by omega]]
    omega
theorem su_more {f : Nat → Int} {n : Nat} (h : ∀ i, n ≤ i → f i = 0) : ∀ {m : Nat}, n ≤ m → su f m = su f n
  | 0, hm => by rw [show n = 0 by omega]
  | m + 1, hm => by
    rcases Nat.lt_or_ge m n with h1 | h1
    · rw [show n = m + 1 by omega]
    · rw [← su_more h h1]
      show su f m + f m = su f m
      rw [h m h1, Int.add_zero]
theorem cv_su {F G : Nat → Int} {n : Nat} : ∀ {i : Nat}, cv F G i n = su (fun i => if i ≤ n then F i * G (n - i) else 0) i
  | 0 => rfl
  | i + 1 => by
    show cv F G i n + _ = _ + _
    rw [cv_su]
/-- The whole sum at a place. -/
def cf (F G : Nat → Int) (k : Nat) : Int := su (fun i => F i * G (k - i)) (k + 1)
theorem cv_cf {F G : Nat → Int} {n k : Nat} (hF : ∀ j, n ≤ j → F j = 0) : cv F G n k = cf F G k := by
  rw [cv_su]
  have e : cf F G k = su (fun i => if i ≤ k then F i * G (k - i) else 0) (k + 1) := su_congr fun i hi => (if_pos (by omega)).symm
  rw [e]
  rcases Nat.lt_or_ge n (k + 1) with h | h
  · refine (su_more (fun i hi => ?_) (by omega)).symm
    show (if i ≤ k then F i * G (k - i) else 0) = 0
    rw [hF i hi, Int.zero_mul]
    simp
  · refine su_more (fun i hi => ?_) h
    exact if_neg (by omega)
theorem cf_comm (F G : Nat → Int) (k : Nat) : cf F G k = cf G F k := by
  unfold cf
  rw [su_rev]
  refine su_congr fun i hi => ?_
  rw [show k + 1 - 1 - i = k - i by omega, show k - (k - i) = i by omega, Int.mul_comm]
theorem cf_add (F G H : Nat → Int) (k : Nat) : cf F (fun i => G i + H i) k = cf F G k + cf F H k := by
  unfold cf
  rw [← su_add]
  exact su_congr fun i _ => Int.mul_add _ _ _
/-- Sums agree modulo p where their terms do. -/
theorem su_mod {p : Int} {f g : Nat → Int} : ∀ {n : Nat}, (∀ i, i < n → f i % p = g i % p) → su f n % p = su g n % p
  | 0, _ => rfl
  | n + 1, h => by
    unfold su
    rw [Int.add_emod, su_mod fun i hi => h i (by omega), h n (by omega), ← Int.add_emod]
theorem cf_mod {p : Int} {F F' G G' : Nat → Int} (hF : ∀ i, F i % p = F' i % p) (hG : ∀ i, G i % p = G' i % p) (k : Nat) : cf F G k % p = cf F' G' k % p :=
  su_mod fun i _ => by rw [Int.mul_emod, hF, hG, ← Int.mul_emod]
/-- A triangle, summed by rows or by columns. -/
theorem su_tri {f : Nat → Nat → Int} : ∀ {n : Nat}, su (fun i => su (fun j => f j (i - j)) (i + 1)) n = su (fun j => su (fun l => f j l) (n - j)) n
  | 0 => rfl
  | n + 1 => by
    show su (fun i => su (fun j => f j (i - j)) (i + 1)) n + su (fun j => f j (n - j)) (n + 1) = su (fun j => su (fun l => f j l) (n + 1 - j)) n + su (fun l => f n l) (n + 1 - n)
    rw [su_tri, show n + 1 - n = 0 + 1 by omega]
    have e : su (fun j => su (fun l => f j l) (n + 1 - j)) n = su (fun j => su (fun l => f j l) (n - j) + f j (n - j)) n := su_congr fun j hj => by
      show su (fun l => f j l) (n + 1 - j) = _
      rw [show n + 1 - j = n - j + 1 by omega]
      rfl
    rw [e, su_add]
    show _ + (su (fun j => f j (n - j)) n + f n (n - n)) = _ + (0 + f n 0)
    rw [Nat.sub_self]
    omega
theorem cf_assoc (F G H : Nat → Int) (k : Nat) : cf (fun i => cf F G i) H k = cf F (fun i => cf G H i) k := by
  have e1 : cf (fun i => cf F G i) H k = su (fun i => su (fun j => F j * G (i - j) * H (k - (i - j) - j)) (i + 1)) (k + 1) := su_congr fun i hi => by
    show su (fun j => F j * G (i - j)) (i + 1) * H (k - i) = _
    rw [Int.mul_comm, ← su_mul]
    refine su_congr fun j hj => ?_
    show H (k - i) * (F j * G (i - j)) = F j * G (i - j) * H (k - (i - j) - j)
    rw [show k - (i - j) - j = k - i by omega, Int.mul_comm]
  have e2 : cf F (fun i => cf G H i) k = su (fun j => su (fun l => F j * G l * H (k - l - j)) (k + 1 - j)) (k + 1) := su_congr fun j hj => by
    show F j * su (fun l => G l * H (k - j - l)) (k - j + 1) = _
    rw [← su_mul, show k - j + 1 = k + 1 - j by omega]
    refine su_congr fun l hl => ?_
    show F j * (G l * H (k - j - l)) = F j * G l * H (k - l - j)
    rw [show k - j - l = k - l - j by omega, Int.mul_assoc]
  rw [e1, e2]
  exact su_tri (f := fun j l => F j * G l * H (k - l - j))
end Fp
end Go.Proofs.Ytmfaipklhkgieaa
