/- Plain laws of finite sums of fractions, of matrices as functions, and of polynomials at matrices. -/
import Derived.Test.YtigciplaoikcfaaGreatRatL
namespace Go.Proofs.YtigciplaoikcfaaGreat
/-- The sum of f i for i below n. -/
def sm : Nat → (Nat → Rat) → Rat
  | 0, _ => 0
  | n + 1, f => sm n f + f n
theorem sm_congr {n : Nat} {f g : Nat → Rat} (h : ∀ i, i < n → f i = g i) : sm n f = sm n g := by
  induction n with
  | zero => rfl
  | succ n ih => simp only [sm]; rw [ih fun i hi => h i (by omega), h n (by omega)]
theorem sm_zero {n : Nat} {f : Nat → Rat} (h : ∀ i, i < n → f i = 0) : sm n f = 0 := by
  induction n with
  | zero => rfl
  | succ n ih => simp only [sm]; rw [ih fun i hi => h i (by omega), h n (by omega)]; grind
theorem sm_add (n : Nat) (f g : Nat → Rat) : sm n (fun i => f i + g i) = sm n f + sm n g := by
  induction n with
  | zero => simp only [sm]; grind
  | succ n ih => simp only [sm]; rw [ih]; grind
theorem sm_mul (n : Nat) (c : Rat) (f : Nat → Rat) : sm n (fun i => c * f i) = c * sm n f := by
  induction n with
  | zero => simp only [sm]; grind
  | succ n ih => simp only [sm]; rw [ih]; grind
theorem sm_mul_right (n : Nat) (c : Rat) (f : Nat → Rat) : sm n (fun i => f i * c) = sm n f * c := by
  induction n with
  | zero => simp only [sm]; grind
  | succ n ih => simp only [sm]; rw [ih]; grind
theorem sm_swap (n m : Nat) (f : Nat → Nat → Rat) : sm n (fun i => sm m (f i)) = sm m (fun j => sm n fun i => f i j) := by
  induction n with
  | zero => simp only [sm]; exact (sm_zero fun _ _ => rfl).symm
  | succ n ih => simp only [sm]; rw [ih, sm_add]
theorem sm_single {n k : Nat} (hk : k < n) {f : Nat → Rat} (h : ∀ i, i < n → i ≠ k → f i = 0) : sm n f = f k := by
  induction n with
  | zero => omega
  | succ n ih =>
    simp only [sm]
    by_cases e : k = n
    · subst e; rw [sm_zero fun i hi => h i (by omega) (by omega)]; grind
    · rw [ih (by omega) fun i hi hne => h i (by omega) hne, h n (by omega) (by omega)]; grind
theorem sm_more {n m : Nat} (hm : n ≤ m) {f : Nat → Rat} (h : ∀ i, n ≤ i → i < m → f i = 0) : sm m f = sm n f := by
  induction m with
  | zero => have : n = 0 := by omega
            subst this; rfl
  | succ m ih =>
    by_cases e : n = m + 1
    · subst e; rfl
    · simp only [sm]; rw [ih (by omega) fun i h1 h2 => h i h1 (by omega), h m (by omega) (by omega)]; grind
theorem sm_head (n : Nat) (f : Nat → Rat) : sm (n + 1) f = f 0 + sm n (fun i => f (i + 1)) := by
  induction n with
  | zero => simp only [sm]; grind
  | succ n ih => rw [sm, ih, sm]; grind
/-- A matrix of d rows and columns is a function of row and column. -/
abbrev Mx := Nat → Nat → Rat
def mmul (d : Nat) (a b : Mx) : Mx := fun i j => sm d fun k => a i k * b k j
def madd (a b : Mx) : Mx := fun i j => a i j + b i j
def mscale (c : Rat) (a : Mx) : Mx := fun i j => c * a i j
def mone : Mx := fun i j => if i = j then 1 else 0
/-- Two matrices agree on the first d rows and columns. -/
def MEq (d : Nat) (a b : Mx) : Prop := ∀ i j, i < d → j < d → a i j = b i j
theorem MEq.refl (d : Nat) (a : Mx) : MEq d a a := fun _ _ _ _ => rfl
theorem MEq.symm {d : Nat} {a b : Mx} (h : MEq d a b) : MEq d b a := fun i j hi hj => (h i j hi hj).symm
theorem MEq.trans {d : Nat} {a b c : Mx} (h : MEq d a b) (k : MEq d b c) : MEq d a c := fun i j hi hj => (h i j hi hj).trans (k i j hi hj)
theorem MEq.mul {d : Nat} {a b a' b' : Mx} (h : MEq d a a') (k : MEq d b b') : MEq d (mmul d a b) (mmul d a' b') :=
  fun i j hi hj => sm_congr fun t ht => by rw [h i t hi ht, k t j ht hj]
theorem MEq.add {d : Nat} {a b a' b' : Mx} (h : MEq d a a') (k : MEq d b b') : MEq d (madd a b) (madd a' b') :=
  fun i j hi hj => by simp only [madd]; rw [h i j hi hj, k i j hi hj]
theorem MEq.scale {d : Nat} {a a' : Mx} (c : Rat) (h : MEq d a a') : MEq d (mscale c a) (mscale c a') :=
  fun i j hi hj => by simp only [mscale]; rw [h i j hi hj]
theorem mmul_assoc (d : Nat) (a b c : Mx) : mmul d (mmul d a b) c = mmul d a (mmul d b c) := by
  funext i j
  simp only [mmul]
  have e1 : ∀ k, sm d (fun t => a i t * b t k) * c k j = sm d (fun t => a i t * b t k * c k j) := fun k => (sm_mul_right _ _ _).symm
  have e2 : ∀ t, a i t * sm d (fun k => b t k * c k j) = sm d (fun k => a i t * (b t k * c k j)) := fun t => (sm_mul _ _ _).symm
  rw [sm_congr fun k _ => e1 k, sm_congr fun t _ => e2 t, sm_swap]
  exact sm_congr fun t _ => sm_congr fun k _ => by grind
theorem mmul_add_left (d : Nat) (a b c : Mx) : mmul d (madd a b) c = madd (mmul d a c) (mmul d b c) := by
  funext i j
  simp only [mmul, madd]
  rw [← sm_add]; exact sm_congr fun t _ => by grind
theorem mmul_add_right (d : Nat) (a b c : Mx) : mmul d a (madd b c) = madd (mmul d a b) (mmul d a c) := by
  funext i j
  simp only [mmul, madd]
  rw [← sm_add]; exact sm_congr fun t _ => by grind
theorem mmul_scale_left (d : Nat) (c : Rat) (a b : Mx) : mmul d (mscale c a) b = mscale c (mmul d a b) := by
  funext i j
  simp only [mmul, mscale]
  rw [← sm_mul]; exact sm_congr fun t _ => by grind
theorem mmul_scale_right (d : Nat) (c : Rat) (a b : Mx) : mmul d a (mscale c b) = mscale c (mmul d a b) := by
  funext i j
  simp only [mmul, mscale]
  rw [← sm_mul]; exact sm_congr fun t _ => by grind
theorem mone_mul (d : Nat) (a : Mx) : MEq d (mmul d mone a) a := by
  intro i j hi _
  simp only [mmul, mone]
  rw [sm_single hi fun k _ hne => by rw [if_neg (fun e => hne e.symm)]; grind]
  simp
theorem mul_mone (d : Nat) (a : Mx) : MEq d (mmul d a mone) a := by
  intro i j _ hj
  simp only [mmul, mone]
  rw [sm_single hj fun k _ hne => by rw [if_neg hne]; grind]
  simp
/-- Horner's rule: the matrix off the n coefficients f 0, f 1, .. -/
def horner (d : Nat) (a : Mx) : Nat → (Nat → Rat) → Mx
  | 0, _ => fun _ _ => 0
  | n + 1, f => madd (mmul d (horner d a n fun i => f (i + 1)) a) (mscale (f 0) mone)
theorem horner_congr {d n : Nat} {a : Mx} {f g : Nat → Rat} (h : ∀ i, i < n → f i = g i) : horner d a n f = horner d a n g := by
  induction n generalizing f g with
  | zero => rfl
  | succ n ih => simp only [horner]; rw [ih fun i hi => h (i + 1) (by omega), h 0 (by omega)]
theorem horner_eq {d n : Nat} {a a' : Mx} (f : Nat → Rat) (h : MEq d a a') : MEq d (horner d a n f) (horner d a' n f) := by
  induction n generalizing f with
  | zero => exact MEq.refl _ _
  | succ n ih => exact ((ih _).mul h).add (MEq.refl _ _)
theorem mmul_zero_left (d : Nat) (a : Mx) : mmul d (fun _ _ => 0) a = fun _ _ => 0 := by
  funext i j; simp only [mmul]; exact sm_zero fun _ _ => by grind
theorem mmul_zero_right (d : Nat) (a : Mx) : mmul d a (fun _ _ => 0) = fun _ _ => 0 := by
  funext i j; simp only [mmul]; exact sm_zero fun _ _ => by grind
theorem horner_zero {d n : Nat} {a : Mx} {f : Nat → Rat} (h : ∀ i, i < n → f i = 0) : horner d a n f = fun _ _ => 0 := by
  induction n generalizing f with
  | zero => rfl
  | succ n ih =>
    simp only [horner]; rw [ih fun i hi => h (i + 1) (by omega), h 0 (by omega), mmul_zero_left]
    funext i j; simp only [madd, mscale]; grind
/-- Coefficients beyond the degree do not count. -/
theorem horner_more {d n m : Nat} (hm : n ≤ m) {a : Mx} {f : Nat → Rat} (h : ∀ i, n ≤ i → i < m → f i = 0) : horner d a m f = horner d a n f := by
  induction n generalizing m f with
  | zero => rw [horner_zero fun i hi => h i (by omega) hi]; rfl
  | succ n ih =>
    obtain ⟨k, rfl⟩ : ∃ k, m = k + 1 := ⟨m - 1, by omega⟩
    simp only [horner]; rw [ih (by omega) fun i h1 h2 => h (i + 1) (by omega) (by omega)]
theorem horner_add (d n : Nat) (a : Mx) (f g : Nat → Rat) : horner d a n (fun i => f i + g i) = madd (horner d a n f) (horner d a n g) := by
  induction n generalizing f g with
  | zero => funext i j; simp only [horner, madd]; grind
  | succ n ih =>
    simp only [horner]; rw [ih (fun i => f (i + 1)) (fun i => g (i + 1)), mmul_add_left]
    funext i j; simp only [madd, mscale]; grind
theorem horner_scale (d n : Nat) (a : Mx) (c : Rat) (f : Nat → Rat) : horner d a n (fun i => c * f i) = mscale c (horner d a n f) := by
  induction n generalizing f with
  | zero => funext i j; simp only [horner, mscale]; grind
  | succ n ih =>
    simp only [horner]; rw [ih (fun i => f (i + 1)), mmul_scale_left]
    funext i j; simp only [madd, mscale]; grind
/-- A polynomial at a matrix commutes with the matrix. -/
theorem horner_comm (d n : Nat) (a : Mx) (f : Nat → Rat) : MEq d (mmul d a (horner d a n f)) (mmul d (horner d a n f) a) := by
  induction n generalizing f with
  | zero => simp only [horner]; rw [mmul_zero_left, mmul_zero_right]; exact MEq.refl _ _
  | succ n ih =>
    simp only [horner]
    rw [mmul_add_right, mmul_add_left, ← mmul_assoc, mmul_scale_left, mmul_scale_right]
    exact (MEq.mul (ih _) (MEq.refl _ _)).add (MEq.scale _ ((mul_mone d a).trans (mone_mul d a).symm))
/-- The coefficients of a product. -/
def pmul (f g : Nat → Rat) (n : Nat) : Rat := sm (n + 1) fun i => f i * g (n - i)
theorem pmul_succ (f g : Nat → Rat) (n : Nat) : pmul f g (n + 1) = f 0 * g (n + 1) + pmul (fun i => f (i + 1)) g n := by
  unfold pmul
  rw [sm_head]
  congr 1
  exact sm_congr fun i hi => by rw [show n + 1 - (i + 1) = n - i by omega]
theorem pmul_zero (f g : Nat → Rat) : pmul f g 0 = f 0 * g 0 := by unfold pmul; simp only [sm]; grind
/-- A polynomial at a matrix is a homomorphism: products. -/
theorem horner_mul (d : Nat) (a : Mx) : ∀ (n m k : Nat) (f g : Nat → Rat), (∀ i, n ≤ i → f i = 0) → (∀ i, m ≤ i → g i = 0) → n + m ≤ k + 1 →
    MEq d (horner d a k (pmul f g)) (mmul d (horner d a n f) (horner d a m g))
  | 0, m, k, f, g, hf, hg, hk => by
    rw [horner_zero (fun i _ => ?_)]
    · simp only [horner]; rw [mmul_zero_left]; exact MEq.refl _ _
    · unfold pmul; exact sm_zero fun j _ => by rw [hf j (by omega)]; grind
  | n + 1, m, k, f, g, hf, hg, hk => by
    have hk1 : n + m ≤ (k + 1) := by omega
    have ih := horner_mul d a n m k (fun i => f (i + 1)) g (fun i hi => hf (i + 1) (by omega)) hg (by omega)
    have hmk : m ≤ k + 1 := by omega
    -- pmul f g = f 0 * g + x * (f' g)
    have e : horner d a (k + 1) (pmul f g) = madd (mscale (f 0) (horner d a (k + 1) g)) (horner d a (k + 1) (fun i => if i = 0 then 0 else pmul (fun i => f (i + 1)) g (i - 1))) := by
      rw [← horner_scale, ← horner_add]
      refine horner_congr fun i _ => ?_
      rcases i with _ | i
      · rw [pmul_zero]; simp; grind
      · rw [pmul_succ]; simp
    have hz : pmul f g k = 0 ∨ n + 1 + m ≤ k + 1 := .inr hk
    have e0 : horner d a k (pmul f g) = horner d a (k + 1) (pmul f g) := by
      refine (horner_more (by omega) fun i h1 h2 => ?_).symm
      have hi : i = k := by omega
      subst hi
      unfold pmul
      exact sm_zero fun j _ => by
        rcases Nat.lt_or_ge j (n + 1) with h | h
        · rw [hg (i - j) (by omega)]; grind
        · rw [hf j h]; grind
    rw [e0, e, horner_more hmk (fun i h1 _ => hg i h1)]
    have e2 : horner d a (k + 1) (fun i => if i = 0 then 0 else pmul (fun i => f (i + 1)) g (i - 1)) = madd (mmul d (horner d a k (pmul (fun i => f (i + 1)) g)) a) (mscale 0 mone) := rfl
    rw [e2]
    simp only [horner]
    rw [mmul_add_left, mmul_scale_left, mmul_assoc]
    have hc := horner_comm d m a g
    intro i j hi hj
    have h1 : mmul d (horner d a k (pmul (fun i => f (i + 1)) g)) a i j = mmul d (horner d a n fun i => f (i + 1)) (mmul d a (horner d a m g)) i j := by
      rw [(MEq.mul ih (MEq.refl d a)) i j hi hj, mmul_assoc]
      exact (MEq.mul (MEq.refl d _) hc.symm) i j hi hj
    have h2 : mmul d mone (horner d a m g) i j = horner d a m g i j := mone_mul d _ i j hi hj
    simp only [madd, mscale]
    rw [h1, h2]; grind
end Go.Proofs.YtigciplaoikcfaaGreat
/- Plain laws of the size of fractions: over a common denominator. -/
namespace Go.Proofs.YtigciplaoikcfaaGreat
/-- x is k/D with a numerator of at most N. -/
def Fits (D N : Nat) (x : Rat) : Prop := ∃ k : Int, x = ratio k D ∧ k.natAbs ≤ N
theorem Fits.zero (D N : Nat) : Fits D N 0 := ⟨0, (ratio_zero_left _).symm, by simp⟩
theorem Fits.mono {D N N' : Nat} {x : Rat} (h : Fits D N x) (hN : N ≤ N') : Fits D N' x := by
  obtain ⟨k, hk, hb⟩ := h
  exact ⟨k, hk, by omega⟩
theorem ratio_add_same (a b d : Int) : ratio a d + ratio b d = ratio (a + b) d := by
  unfold ratio; simp only [Rat.intCast_add, Rat.div_def]; grind
theorem ratio_scale (a d : Int) {e : Int} (he : e ≠ 0) : ratio (a * e) (d * e) = ratio a d := by
  rw [← ratio_mul]
  have : ratio e e = 1 := by
    have g := cast_ne he
    unfold ratio
    generalize (e : Rat) = x at *
    grind
  rw [this]; grind
theorem Fits.add {D N M : Nat} {x y : Rat} (h : Fits D N x) (k : Fits D M y) : Fits D (N + M) (x + y) := by
  obtain ⟨a, rfl, ha⟩ := h
  obtain ⟨b, rfl, hb⟩ := k
  exact ⟨a + b, ratio_add_same _ _ _, by have := Int.natAbs_add_le a b; omega⟩
theorem Fits.mul {D E N M : Nat} {x y : Rat} (h : Fits D N x) (k : Fits E M y) : Fits (D * E) (N * M) (x * y) := by
  obtain ⟨a, rfl, ha⟩ := h
  obtain ⟨b, rfl, hb⟩ := k
  refine ⟨a * b, ?_, ?_⟩
  · rw [ratio_mul]; push_cast; rfl
  · rw [Int.natAbs_mul]; exact Nat.mul_le_mul ha hb
theorem Fits.scale {D N : Nat} {x : Rat} (h : Fits D N x) {e : Nat} (he : 0 < e) : Fits (D * e) (N * e) x := by
  obtain ⟨a, rfl, ha⟩ := h
  refine ⟨a * e, ?_, ?_⟩
  · rw [show ((D * e : Nat) : Int) = (D : Int) * (e : Int) by push_cast; rfl, ratio_scale _ _ (by omega)]
  · rw [Int.natAbs_mul, Int.natAbs_natCast]; exact Nat.mul_le_mul ha (Nat.le_refl _)
theorem Fits.small {D N : Nat} {x : Rat} (h : Fits D N x) (hD : 0 < D) : x.num.natAbs ≤ N ∧ x.den ≤ D := by
  obtain ⟨a, rfl, ha⟩ := h
  have := ratio_small (n := a) hD
  omega
theorem Fits.of (x : Rat) : Fits x.den x.num.natAbs x := ⟨x.num, (ratio_num_den x).symm, Nat.le_refl _⟩
/-- The product of denominators. -/
def dens : Nat → (Nat → Rat) → Nat
  | 0, _ => 1
  | n + 1, f => dens n f * (f n).den
theorem dens_pos (n : Nat) (f : Nat → Rat) : 0 < dens n f := by
  induction n with
  | zero => simp [dens]
  | succ n ih => exact Nat.mul_pos ih (f n).den_pos
theorem dens_le {n C : Nat} {f : Nat → Rat} (h : ∀ i, i < n → (f i).den ≤ C) : dens n f ≤ C ^ n := by
  induction n with
  | zero => simp [dens]
  | succ n ih => rw [Nat.pow_succ]; exact Nat.mul_le_mul (ih fun i hi => h i (by omega)) (h n (by omega))
/-- All fractions of a list over one denominator. -/
theorem fits_dens {n C : Nat} {f : Nat → Rat} (h : ∀ i, i < n → (f i).num.natAbs ≤ C ∧ (f i).den ≤ C) : ∀ i, i < n → Fits (dens n f) (C ^ n) (f i) := by
  induction n with
  | zero => intro i hi; omega
  | succ n ih =>
    intro i hi
    rw [Nat.pow_succ]
    by_cases e : i = n
    · subst e
      have h1 := Fits.of (f i)
      have h2 := h1.scale (e := dens i f) (dens_pos i f)
      rw [show dens (i + 1) f = (f i).den * dens i f from Nat.mul_comm _ _]
      refine h2.mono ?_
      rw [Nat.mul_comm]
      exact Nat.mul_le_mul (dens_le fun j hj => (h j (by omega)).2) (h i (by omega)).1
    · have h1 := ih (fun j hj => h j (by omega)) i (by omega)
      exact (h1.scale (f n).den_pos).mono (Nat.mul_le_mul (Nat.le_refl _) (h n (by omega)).2)
theorem fits_sm {D N : Nat} {f : Nat → Rat} : ∀ n, (∀ i, i < n → Fits D N (f i)) → Fits D (n * N) (sm n f)
  | 0, _ => by rw [Nat.zero_mul]; exact Fits.zero _ _
  | n + 1, h => by
    rw [Nat.succ_mul]
    exact (fits_sm n fun i hi => h i (by omega)).add (h n (by omega))
/-- The size of a polynomial at a matrix of at most 4 rows. -/
theorem horner_fits {d Da Df Na Nf : Nat} {a : Mx} (hd : d ≤ 4) (ha : ∀ i j, i < d → j < d → Fits Da Na (a i j)) (hDa : 0 < Da) (hDN : Da ≤ Na) :
    ∀ (n : Nat) (f : Nat → Rat), (∀ i, i < n → Fits Df Nf (f i)) → ∀ i j, i < d → j < d → Fits (Df * Da ^ n) (Nf * (5 * Na) ^ n) (horner d a n f i j)
  | 0, f, _, i, j, _, _ => Fits.zero _ _
  | n + 1, f, hf, i, j, hi, hj => by
    have ih := horner_fits hd ha hDa hDN n (fun i => f (i + 1)) fun i hi => hf (i + 1) (by omega)
    simp only [horner, madd, mmul]
    have h1 : Fits (Df * Da ^ n * Da) (d * (Nf * (5 * Na) ^ n * Na)) (sm d fun k => horner d a n (fun i => f (i + 1)) i k * a k j) :=
      fits_sm d fun k hk => (ih i k hi hk).mul (ha k j hk hj)
    have h0 : Fits Df Nf (mscale (f 0) mone i j) := by
      simp only [mscale, mone]
      split
      · rw [Rat.mul_one]; exact hf 0 (by omega)
      · rw [Rat.mul_zero]; exact Fits.zero _ _
    have h2 := h0.scale (e := Da ^ (n + 1)) (Nat.pow_pos hDa)
    rw [show Df * Da ^ n * Da = Df * Da ^ (n + 1) by rw [Nat.pow_succ, Nat.mul_assoc]] at h1
    refine (h1.add h2).mono ?_
    have e1 : Da ^ (n + 1) ≤ (5 * Na) ^ n * Na := by
      rw [Nat.pow_succ]
      exact Nat.mul_le_mul (Nat.pow_le_pow_left (by omega) n) hDN
    have e2 : d * (Nf * (5 * Na) ^ n * Na) ≤ 4 * (Nf * (5 * Na) ^ n * Na) := Nat.mul_le_mul_right _ hd
    have e3 : Nf * Da ^ (n + 1) ≤ Nf * (5 * Na) ^ n * Na := by
      rw [Nat.mul_assoc]; exact Nat.mul_le_mul_left _ e1
    have e4 : Nf * (5 * Na) ^ (n + 1) = 5 * (Nf * (5 * Na) ^ n * Na) := by
      rw [Nat.pow_succ]
      generalize (5 * Na) ^ n = p
      rw [show Nf * (p * (5 * Na)) = Nf * p * Na * 5 by ac_rfl]; omega
    rw [e4]
    omega
end Go.Proofs.YtigciplaoikcfaaGreat
