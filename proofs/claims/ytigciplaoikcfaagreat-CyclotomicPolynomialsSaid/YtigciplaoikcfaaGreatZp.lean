/- Polynomials over the integers, as functions: sums of products. -/
import Derived.Test.YtigciplaoikcfaaGreatNl
namespace Go.Proofs.YtigciplaoikcfaaGreat
namespace Z
theorem tl_behind {a : Nat → Int} : ∀ {n k : Nat}, tl a n ≤ k → k < n → a k = 0
  | 0, k, _, h => absurd h (Nat.not_lt_zero k)
  | n + 1, k, h, hk => by
    unfold tl at h
    split at h
    · rename_i h0
      by_cases e : k = n
      · rw [e]; exact h0
      · exact tl_behind h (by omega)
    · omega
/-- The sum of the first n. -/
def su (f : Nat → Int) : Nat → Int
  | 0 => 0
  | n + 1 => su f n + f n
theorem su_congr {f g : Nat → Int} : ∀ {n : Nat}, (∀ i, i < n → f i = g i) → su f n = su g n
  | 0, _ => rfl
  | n + 1, h => by
    unfold su
    rw [su_congr fun i hi => h i (by omega), h n (by omega)]
theorem su_add {f g : Nat → Int} : ∀ {n : Nat}, su (fun i => f i + g i) n = su f n + su g n
  | 0 => (Int.add_zero 0).symm
  | n + 1 => by
    unfold su
    rw [su_add]
    grind
theorem su_mul {c : Int} {f : Nat → Int} : ∀ {n : Nat}, su (fun i => c * f i) n = c * su f n
  | 0 => (Int.mul_zero c).symm
  | n + 1 => by
    unfold su
    rw [su_mul, Int.mul_add]
theorem su_zero {f : Nat → Int} : ∀ {n : Nat}, (∀ i, i < n → f i = 0) → su f n = 0
  | 0, _ => rfl
  | n + 1, h => by
    unfold su
    rw [su_zero fun i hi => h i (by omega), h n (by omega), Int.add_zero]
theorem su_head {f : Nat → Int} : ∀ {n : Nat}, su f (n + 1) = f 0 + su (fun i => f (i + 1)) n
  | 0 => by show 0 + f 0 = f 0 + 0; rw [Int.add_comm]
  | n + 1 => by
    show su f (n + 1) + f (n + 1) = f 0 + (su (fun i => f (i + 1)) n + f (n + 1))
    rw [su_head, Int.add_assoc]
theorem su_rev : ∀ {n : Nat} {f : Nat → Int}, su f n = su (fun i => f (n - 1 - i)) n
  | 0, _ => rfl
  | n + 1, f => by
    rw [su_head, su_rev (n := n)]
    show f 0 + su (fun i => f (n - 1 - i + 1)) n = su (fun i => f (n + 1 - 1 - i)) n + f (n + 1 - 1 - n)
    rw [show n + 1 - 1 - n = 0 by omega, su_congr (g := fun i => f (n + 1 - 1 - i)) fun i hi => by
      show f (n - 1 - i + 1) = f (n + 1 - 1 - i)
      rw [show n - 1 - i + 1 = n + 1 - 1 - i by omega]]
    rw [Int.add_comm]
theorem su_more {f : Nat → Int} {n : Nat} (h : ∀ i, n ≤ i → f i = 0) : ∀ {m : Nat}, n ≤ m → su f m = su f n
  | 0, hm => by rw [show n = 0 by omega]
  | m + 1, hm => by
    rcases Nat.lt_or_ge m n with h1 | h1
    · rw [show n = m + 1 by omega]
    · rw [← su_more h h1]
      show su f m + f m = su f m
      rw [h m h1, Int.add_zero]
/-- One term alone. -/
theorem su_one {f : Nat → Int} {t : Nat} : ∀ {n : Nat}, t < n → (∀ i, i < n → i ≠ t → f i = 0) → su f n = f t
  | 0, h, _ => absurd h (Nat.not_lt_zero t)
  | n + 1, h, h0 => by
    unfold su
    by_cases e : t = n
    · subst e
      rw [su_zero fun i hi => h0 i (by omega) (by omega), Int.zero_add]
    · rw [su_one (t := t) (by omega) fun i hi he => h0 i (by omega) he, h0 n (by omega) (fun h => e h.symm), Int.add_zero]
/-- The product's coefficient. -/
def cf (F G : Nat → Int) (k : Nat) : Int := su (fun i => F i * G (k - i)) (k + 1)
theorem cf_comm (F G : Nat → Int) (k : Nat) : cf F G k = cf G F k := by
  unfold cf
  rw [su_rev]
  refine su_congr fun i hi => ?_
  rw [show k + 1 - 1 - i = k - i by omega, show k - (k - i) = i by omega, Int.mul_comm]
theorem cf_add (F G H : Nat → Int) (k : Nat) : cf F (fun i => G i + H i) k = cf F G k + cf F H k := by
  unfold cf
  rw [← su_add]
  exact su_congr fun i _ => Int.mul_add _ _ _
theorem cf_smul (c : Int) (F G : Nat → Int) (k : Nat) : cf (fun i => c * F i) G k = c * cf F G k := by
  unfold cf
  rw [← su_mul]
  exact su_congr fun i _ => Int.mul_assoc _ _ _
theorem cf_add_left (F G H : Nat → Int) (k : Nat) : cf (fun i => F i + G i) H k = cf F H k + cf G H k := by
  rw [cf_comm, cf_add, cf_comm H F, cf_comm H G]
theorem cf_congr {F F' G G' : Nat → Int} (h : ∀ i, F i = F' i) (h' : ∀ i, G i = G' i) (k : Nat) : cf F G k = cf F' G' k :=
  su_congr fun i _ => by rw [h, h']
/-- A triangle, summed by rows or by columns. -/
theorem su_tri {f : Nat → Nat → Int} : ∀ {n : Nat}, su (fun i => su (fun j => f j (i - j)) (i + 1)) n = su (fun j => su (fun l => f j l) (n - j)) n
  | 0 => rfl
  | n + 1 => by
    show su (fun i => su (fun j => f j (i - j)) (i + 1)) n + su (fun j => f j (n - j)) (n + 1) = su (fun j => su (fun l => f j l) (n + 1 - j)) n + su (fun l => f n l) (n + 1 - n)
    rw [su_tri, show n + 1 - n = 0 + 1 by omega]
    have e : su (fun j => su (fun l => f j l) (n + 1 - j)) n = su (fun j => su (fun l => f j l) (n - j) + f j (n - j)) n := su_congr fun j hj => by
      show su (fun l => f j l) (n + 1 - j) = _
      rw [show n + 1 - j = n - j + 1 by omega]
      rfl
    rw [e, su_add]
    show _ + (su (fun j => f j (n - j)) n + f n (n - n)) = _ + (0 + f n 0)
    rw [Nat.sub_self, Int.zero_add, Int.add_assoc]
theorem cf_assoc (F G H : Nat → Int) (k : Nat) : cf (fun i => cf F G i) H k = cf F (fun i => cf G H i) k := by
  have e1 : cf (fun i => cf F G i) H k = su (fun i => su (fun j => F j * G (i - j) * H (k - (i - j) - j)) (i + 1)) (k + 1) := su_congr fun i hi => by
    show su (fun j => F j * G (i - j)) (i + 1) * H (k - i) = _
    rw [Int.mul_comm, ← su_mul]
    refine su_congr fun j hj => ?_
    rw [show k - (i - j) - j = k - i by omega, Int.mul_comm]
  have e2 : cf F (fun i => cf G H i) k = su (fun j => su (fun l => F j * G l * H (k - l - j)) (k + 1 - j)) (k + 1) := su_congr fun j hj => by
    show F j * su (fun l => G l * H (k - j - l)) (k - j + 1) = _
    rw [← su_mul, show k - j + 1 = k + 1 - j by omega]
    refine su_congr fun l hl => ?_
    rw [show k - l - j = k - j - l by omega, Int.mul_assoc]
  rw [e1, e2]
  exact su_tri (f := fun j l => F j * G l * H (k - l - j))
/-- Nothing from the place n on. -/
def Fin (n : Nat) (F : Nat → Int) : Prop := ∀ k, n ≤ k → F k = 0
theorem Fin.mono {n m : Nat} {F : Nat → Int} (h : Fin n F) (hm : n ≤ m) : Fin m F := fun k hk => h k (by omega)
theorem Fin.add {n : Nat} {F G : Nat → Int} (h : Fin n F) (h' : Fin n G) : Fin n fun i => F i + G i := fun k hk => by
  show F k + G k = 0
  rw [h k hk, h' k hk, Int.add_zero]
theorem Fin.smul {n : Nat} {F : Nat → Int} (c : Int) (h : Fin n F) : Fin n fun i => c * F i := fun k hk => by
  show c * F k = 0
  rw [h k hk, Int.mul_zero]
theorem Fin.cf {n m : Nat} {F G : Nat → Int} (h : Fin n F) (h' : Fin m G) : Fin (n + m) (cf F G) := fun k hk => su_zero fun i hi => by
  rcases Nat.lt_or_ge i n with c | c
  · rw [h' (k - i) (by omega), Int.mul_zero]
  · rw [h i c, Int.zero_mul]
/-- Monic of degree n. -/
structure Mon (n : Nat) (f : Nat → Int) : Prop where
  top : f n = 1
  fin : Fin (n + 1) f
/-- The coefficient at the top of a product with a monic one. -/
theorem cf_top {n t : Nat} {f q : Nat → Int} (hf : Mon n f) (hq : Fin (t + 1) q) : cf q f (t + n) = q t := by
  have h : cf q f (t + n) = q t * f (t + n - t) := su_one (t := t) (by omega) fun i hi he => by
    rcases Nat.lt_or_ge i (t + 1) with c | c
    · rw [hf.fin (t + n - i) (by omega), Int.mul_zero]
    · rw [hq i c, Int.zero_mul]
  rw [h, show t + n - t = n by omega, hf.top, Int.mul_one]
/-- A multiple of a monic one that is shorter is nothing. -/
theorem no_multiple {n : Nat} {f : Nat → Int} (hf : Mon n f) : ∀ {N : Nat} {q : Nat → Int}, Fin N q → (∀ k, n ≤ k → cf q f k = 0) → ∀ k, q k = 0
  | 0, _, hq, _, k => hq k (Nat.zero_le k)
  | N + 1, q, hq, h, k => by
    have h1 : q N = 0 := by
      have := h (N + n) (by omega)
      rwa [cf_top hf hq] at this
    exact no_multiple hf (N := N) (fun k hk => by
      rcases Nat.lt_or_ge N k with c | c
      · exact hq k (by omega)
      · rw [show k = N by omega]; exact h1) h k
theorem cf_mono (c : Int) (N : Nat) (f : Nat → Int) (k : Nat) : cf (fun i => if i = N then c else 0) f k = if N ≤ k then c * f (k - N) else 0 := by
  by_cases h : N ≤ k
  · rw [if_pos h]
    have := su_one (f := fun i => (if i = N then c else 0) * f (k - i)) (t := N) (n := k + 1) (by omega) fun i hi he => by
      show (if i = N then c else 0) * _ = 0
      rw [if_neg he, Int.zero_mul]
    show su _ _ = _
    rw [this]
    show (if N = N then c else 0) * _ = _
    rw [if_pos rfl]
  · rw [if_neg h]
    exact su_zero fun i hi => by
      show (if i = N then c else 0) * _ = 0
      rw [if_neg (by omega), Int.zero_mul]
/-- The length does not depend on where one starts. -/
theorem tl_eq {v : Nat → Int} {n m : Nat} (h : Fin n v) (h' : Fin m v) : tl v n = tl v m := by
  have key : ∀ {n m : Nat}, Fin n v → Fin m v → tl v n ≤ tl v m := fun {n m} h h' => by
    rcases Nat.lt_or_ge (tl v m) (tl v n) with c | c
    · obtain ⟨k, hk⟩ : ∃ k, tl v n = k + 1 := ⟨tl v n - 1, by omega⟩
      refine absurd ?_ (tl_top hk)
      rcases Nat.lt_or_ge k m with c' | c'
      · exact tl_behind (by omega) c'
      · exact h' k c'
    · exact c
  exact Nat.le_antisymm (key h h') (key h' h)
theorem tl_fin {v : Nat → Int} {n : Nat} (h : Fin n v) : Fin (tl v n) v := fun k hk => by
  rcases Nat.lt_or_ge k n with c | c
  · exact tl_behind hk c
  · exact h k c
theorem tl_zero {v : Nat → Int} (h : ∀ k, v k = 0) : ∀ n, tl v n = 0
  | 0 => rfl
  | n + 1 => by unfold tl; rw [if_pos (h n), tl_zero h n]
/-- A list whose last place is not nothing. -/
theorem tl_is {v : Nat → Int} {n k : Nat} (h : Fin n v) (hk : Fin k v) (ht : k = 0 ∨ v (k - 1) ≠ 0) : tl v n = k := by
  rw [tl_eq h hk]
  refine tl_self fun j hj => ?_
  rcases ht with ht | ht
  · omega
  · rwa [hj, Nat.add_sub_cancel] at ht
end Z
end Go.Proofs.YtigciplaoikcfaaGreat
