/- Polynomials over the rational numbers, as functions: sums of products, and division by a monic one. No condition. -/
namespace Go.Proofs.YtigciplaoikcfaaGreat
namespace Q
/-- The sum of the first n. -/
def su (f : Nat → Rat) : Nat → Rat
  | 0 => 0
  | n + 1 => su f n + f n
theorem su_congr {f g : Nat → Rat} : ∀ {n : Nat}, (∀ i, i < n → f i = g i) → su f n = su g n
  | 0, _ => rfl
  | n + 1, h => by
    unfold su
    rw [su_congr fun i hi => h i (by omega), h n (by omega)]
theorem su_add {f g : Nat → Rat} : ∀ {n : Nat}, su (fun i => f i + g i) n = su f n + su g n
  | 0 => (Rat.add_zero 0).symm
  | n + 1 => by
    unfold su
    rw [su_add]
    grind
theorem su_mul {c : Rat} {f : Nat → Rat} : ∀ {n : Nat}, su (fun i => c * f i) n = c * su f n
  | 0 => (Rat.mul_zero c).symm
  | n + 1 => by
    unfold su
    rw [su_mul, Rat.mul_add]
theorem su_zero {f : Nat → Rat} : ∀ {n : Nat}, (∀ i, i < n → f i = 0) → su f n = 0
  | 0, _ => rfl
  | n + 1, h => by
    unfold su
    rw [su_zero fun i hi => h i (by omega), h n (by omega), Rat.add_zero]
theorem su_head {f : Nat → Rat} : ∀ {n : Nat}, su f (n + 1) = f 0 + su (fun i => f (i + 1)) n
  | 0 => by show 0 + f 0 = f 0 + 0; rw [Rat.add_comm]
  | n + 1 => by
    show su f (n + 1) + f (n + 1) = f 0 + (su (fun i => f (i + 1)) n + f (n + 1))
    rw [su_head, Rat.add_assoc]
theorem su_rev : ∀ {n : Nat} {f : Nat → Rat}, su f n = su (fun i => f (n - 1 - i)) n
  | 0, _ => rfl
  | n + 1, f => by
    rw [su_head, su_rev (n := n)]
    show f 0 + su (fun i => f (n - 1 - i + 1)) n = su (fun i => f (n + 1 - 1 - i)) n + f (n + 1 - 1 - n)
    rw [show n + 1 - 1 - n = 0 by omega, su_congr (g := fun i => f (n + 1 - 1 - i)) fun i hi => by
      show f (n - 1 - i + 1) = f (n + 1 - 1 - i)
      rw [show n - 1 - i + 1 = n + 1 - 1 - i by omega]]
    rw [Rat.add_comm]
theorem su_more {f : Nat → Rat} {n : Nat} (h : ∀ i, n ≤ i → f i = 0) : ∀ {m : Nat}, n ≤ m → su f m = su f n
  | 0, hm => by rw [show n = 0 by omega]
  | m + 1, hm => by
    rcases Nat.lt_or_ge m n with h1 | h1
    · rw [show n = m + 1 by omega]
    · rw [← su_more h h1]
      show su f m + f m = su f m
      rw [h m h1, Rat.add_zero]
/-- One term alone. -/
theorem su_one {f : Nat → Rat} {t : Nat} : ∀ {n : Nat}, t < n → (∀ i, i < n → i ≠ t → f i = 0) → su f n = f t
  | 0, h, _ => absurd h (Nat.not_lt_zero t)
  | n + 1, h, h0 => by
    unfold su
    by_cases e : t = n
    · subst e
      rw [su_zero fun i hi => h0 i (by omega) (by omega), Rat.zero_add]
    · rw [su_one (t := t) (by omega) fun i hi he => h0 i (by omega) he, h0 n (by omega) (fun h => e h.symm), Rat.add_zero]
/-- The product's coefficient. -/
def cf (F G : Nat → Rat) (k : Nat) : Rat := su (fun i => F i * G (k - i)) (k + 1)
theorem cf_comm (F G : Nat → Rat) (k : Nat) : cf F G k = cf G F k := by
  unfold cf
  rw [su_rev]
  refine su_congr fun i hi => ?_
  rw [show k + 1 - 1 - i = k - i by omega, show k - (k - i) = i by omega, Rat.mul_comm]
theorem cf_add (F G H : Nat → Rat) (k : Nat) : cf F (fun i => G i + H i) k = cf F G k + cf F H k := by
  unfold cf
  rw [← su_add]
  exact su_congr fun i _ => Rat.mul_add _ _ _
theorem cf_smul (c : Rat) (F G : Nat → Rat) (k : Nat) : cf (fun i => c * F i) G k = c * cf F G k := by
  unfold cf
  rw [← su_mul]
  exact su_congr fun i _ => Rat.mul_assoc _ _ _
theorem cf_add_left (F G H : Nat → Rat) (k : Nat) : cf (fun i => F i + G i) H k = cf F H k + cf G H k := by
  rw [cf_comm, cf_add, cf_comm H F, cf_comm H G]
theorem cf_congr {F F' G G' : Nat → Rat} (h : ∀ i, F i = F' i) (h' : ∀ i, G i = G' i) (k : Nat) : cf F G k = cf F' G' k :=
  su_congr fun i _ => by rw [h, h']
/-- A triangle, summed by rows or by columns. -/
theorem su_tri {f : Nat → Nat → Rat} : ∀ {n : Nat}, su (fun i => su (fun j => f j (i - j)) (i + 1)) n = su (fun j => su (fun l => f j l) (n - j)) n
  | 0 => rfl
  | n + 1 => by
    show su (fun i => su (fun j => f j (i - j)) (i + 1)) n + su (fun j => f j (n - j)) (n + 1) = su (fun j => su (fun l => f j l) (n + 1 - j)) n + su (fun l => f n l) (n + 1 - n)
    rw [su_tri, show n + 1 - n = 0 + 1 by omega]
    have e : su (fun j => su (fun l => f j l) (n + 1 - j)) n = su (fun j => su (fun l => f j l) (n - j) + f j (n - j)) n := su_congr fun j hj => by
      show su (fun l => f j l) (n + 1 - j) = _
      rw [show n + 1 - j = n - j + 1 by omega]
      rfl
    rw [e, su_add]
    show _ + (su (fun j => f j (n - j)) n + f n (n - n)) = _ + (0 + f n 0)
    rw [Nat.sub_self, Rat.zero_add, Rat.add_assoc]
theorem cf_assoc (F G H : Nat → Rat) (k : Nat) : cf (fun i => cf F G i) H k = cf F (fun i => cf G H i) k := by
  have e1 : cf (fun i => cf F G i) H k = su (fun i => su (fun j => F j * G (i - j) * H (k - (i - j) - j)) (i + 1)) (k + 1) := su_congr fun i hi => by
    show su (fun j => F j * G (i - j)) (i + 1) * H (k - i) = _
    rw [Rat.mul_comm, ← su_mul]
    refine su_congr fun j hj => ?_
    rw [show k - (i - j) - j = k - i by omega, Rat.mul_comm]
  have e2 : cf F (fun i => cf G H i) k = su (fun j => su (fun l => F j * G l * H (k - l - j)) (k + 1 - j)) (k + 1) := su_congr fun j hj => by
    show F j * su (fun l => G l * H (k - j - l)) (k - j + 1) = _
    rw [← su_mul, show k - j + 1 = k + 1 - j by omega]
    refine su_congr fun l hl => ?_
    rw [show k - l - j = k - j - l by omega, Rat.mul_assoc]
  rw [e1, e2]
  exact su_tri (f := fun j l => F j * G l * H (k - l - j))
/-- Nothing from the place n on. -/
def Fin (n : Nat) (F : Nat → Rat) : Prop := ∀ k, n ≤ k → F k = 0
theorem Fin.mono {n m : Nat} {F : Nat → Rat} (h : Fin n F) (hm : n ≤ m) : Fin m F := fun k hk => h k (by omega)
theorem Fin.add {n : Nat} {F G : Nat → Rat} (h : Fin n F) (h' : Fin n G) : Fin n fun i => F i + G i := fun k hk => by
  show F k + G k = 0
  rw [h k hk, h' k hk, Rat.add_zero]
theorem Fin.smul {n : Nat} {F : Nat → Rat} (c : Rat) (h : Fin n F) : Fin n fun i => c * F i := fun k hk => by
  show c * F k = 0
  rw [h k hk, Rat.mul_zero]
theorem Fin.cf {n m : Nat} {F G : Nat → Rat} (h : Fin n F) (h' : Fin m G) : Fin (n + m) (cf F G) := fun k hk => su_zero fun i hi => by
  rcases Nat.lt_or_ge i n with c | c
  · rw [h' (k - i) (by omega), Rat.mul_zero]
  · rw [h i c, Rat.zero_mul]
/-- Monic of degree n. -/
structure Mon (n : Nat) (f : Nat → Rat) : Prop where
  top : f n = 1
  fin : Fin (n + 1) f
/-- The coefficient at the top of a product with a monic one. -/
theorem cf_top {n t : Nat} {f q : Nat → Rat} (hf : Mon n f) (hq : Fin (t + 1) q) : cf q f (t + n) = q t := by
  have h : cf q f (t + n) = q t * f (t + n - t) := su_one (t := t) (by omega) fun i hi he => by
    rcases Nat.lt_or_ge i (t + 1) with c | c
    · rw [hf.fin (t + n - i) (by omega), Rat.mul_zero]
    · rw [hq i c, Rat.zero_mul]
  rw [h, show t + n - t = n by omega, hf.top, Rat.mul_one]
/-- A multiple of a monic one that is shorter is nothing. -/
theorem no_multiple {n : Nat} {f : Nat → Rat} (hf : Mon n f) : ∀ {N : Nat} {q : Nat → Rat}, Fin N q → (∀ k, n ≤ k → cf q f k = 0) → ∀ k, q k = 0
  | 0, _, hq, _, k => hq k (Nat.zero_le k)
  | N + 1, q, hq, h, k => by
    have h1 : q N = 0 := by
      have := h (N + n) (by omega)
      rwa [cf_top hf hq] at this
    exact no_multiple hf (N := N) (fun k hk => by
      rcases Nat.lt_or_ge N k with c | c
      · exact hq k (by omega)
      · rw [show k = N by omega]; exact h1) h k
/-- r is the rest of p behind a division by f, of degree n. -/
def Rm (n : Nat) (f p r : Nat → Rat) : Prop := Fin n r ∧ ∃ (N : Nat) (q : Nat → Rat), Fin N q ∧ ∀ k, p k = cf q f k + r k
theorem cf_neg (F G : Nat → Rat) (k : Nat) : cf (fun i => -F i) G k = -cf F G k := by
  have := cf_smul (-1) F G k
  rw [cf_congr (F := fun i => -F i) (F' := fun i => -1 * F i) (G' := G) (fun i => by grind) (fun _ => rfl), this]
  grind
theorem Rm.eq {n : Nat} {f p r s : Nat → Rat} (hf : Mon n f) (h : Rm n f p r) (h' : Rm n f p s) : ∀ k, r k = s k := by
  obtain ⟨h1, N, q, h2, h3⟩ := h
  obtain ⟨g1, M, t, g2, g3⟩ := h'
  have hd : ∀ k, cf (fun i => q i + -t i) f k = s k - r k := fun k => by
    rw [cf_add_left, cf_neg]
    have a := h3 k
    have b := g3 k
    grind
  have hz := no_multiple hf (N := max N M) (q := fun i => q i + -t i) (fun k hk => by
    show q k + -t k = 0
    rw [h2 k (by omega), g2 k (by omega)]; grind) fun k hk => by
      rw [hd, h1 k hk, g1 k hk]; grind
  intro k
  have a := hd k
  rw [cf_congr (F' := fun _ => 0) (G' := f) hz (fun _ => rfl)] at a
  have b : cf (fun _ => 0) f k = 0 := su_zero fun i _ => Rat.zero_mul _
  rw [b] at a
  grind
/-- What is short already is its own rest. -/
theorem Rm.self {n : Nat} {f r : Nat → Rat} (h : Fin n r) : Rm n f r r :=
  ⟨h, 0, fun _ => 0, fun _ _ => rfl, fun k => by
    rw [show cf (fun _ => 0) f k = 0 from su_zero fun i _ => Rat.zero_mul _, Rat.zero_add]⟩
theorem Rm.congr {n : Nat} {f p p' r : Nat → Rat} (h : Rm n f p r) (e : ∀ k, p k = p' k) : Rm n f p' r := by
  obtain ⟨h1, N, q, h2, h3⟩ := h
  exact ⟨h1, N, q, h2, fun k => by rw [← e, h3]⟩
theorem Rm.add {n : Nat} {f p r p' r' : Nat → Rat} (h : Rm n f p r) (h' : Rm n f p' r') : Rm n f (fun k => p k + p' k) fun k => r k + r' k := by
  obtain ⟨h1, N, q, h2, h3⟩ := h
  obtain ⟨g1, M, t, g2, g3⟩ := h'
  refine ⟨h1.add g1, max N M, fun i => q i + t i, (h2.mono (Nat.le_max_left _ _)).add (g2.mono (Nat.le_max_right _ _)), fun k => ?_⟩
  rw [cf_add_left]
  have a := h3 k
  have b := g3 k
  grind
theorem Rm.smul {n : Nat} {f p r : Nat → Rat} (c : Rat) (h : Rm n f p r) : Rm n f (fun k => c * p k) fun k => c * r k := by
  obtain ⟨h1, N, q, h2, h3⟩ := h
  refine ⟨h1.smul c, N, fun i => c * q i, h2.smul c, fun k => ?_⟩
  rw [cf_smul]
  have a := h3 k
  grind
/-- The rest of a rest's multiple. -/
theorem Rm.mul {n m : Nat} {f p r g s : Nat → Rat} (h : Rm n f p r) (hg : Fin m g) (h' : Rm n f (cf r g) s) : Rm n f (cf p g) s := by
  obtain ⟨h1, N, q, h2, h3⟩ := h
  obtain ⟨g1, M, t, g2, g3⟩ := h'
  refine ⟨g1, max (N + m) M, fun i => cf q g i + t i, ((h2.cf hg).mono (Nat.le_max_left _ _)).add (g2.mono (Nat.le_max_right _ _)), fun k => ?_⟩
  rw [cf_add_left]
  have a : cf p g k = cf (cf q f) g k + cf r g k := by
    rw [cf_congr (F' := fun i => cf q f i + r i) (G' := g) h3 (fun _ => rfl), cf_add_left]
  have b : cf (cf q f) g k = cf (cf q g) f k := by
    have e1 := cf_assoc q f g k
    have e2 := cf_assoc q g f k
    rw [show cf (cf q f) g k = cf (fun i => cf q f i) g k from rfl, e1, show cf (cf q g) f k = cf (fun i => cf q g i) f k from rfl, e2]
    exact cf_congr (fun _ => rfl) (fun i => cf_comm f g i) k
  have c := g3 k
  rw [a, b, c]
  grind
/-- The steps of a division by a monic one: for N - 1 down to 0. -/
def dv (n : Nat) (f : Nat → Rat) : Nat → (Nat → Rat) → Nat → Rat
  | 0, p => p
  | N + 1, p => dv n f N fun k => p k - (if N ≤ k then p (N + n) * f (k - N) else 0)
theorem cf_mono (c : Rat) (N : Nat) (f : Nat → Rat) (k : Nat) : cf (fun i => if i = N then c else 0) f k = if N ≤ k then c * f (k - N) else 0 := by
  by_cases h : N ≤ k
  · rw [if_pos h]
    have := su_one (f := fun i => (if i = N then c else 0) * f (k - i)) (t := N) (n := k + 1) (by omega) fun i hi he => by
      show (if i = N then c else 0) * _ = 0
      rw [if_neg he, Rat.zero_mul]
    show su _ _ = _
    rw [this]
    show (if N = N then c else 0) * _ = _
    rw [if_pos rfl]
  · rw [if_neg h]
    exact su_zero fun i hi => by
      show (if i = N then c else 0) * _ = 0
      rw [if_neg (by omega), Rat.zero_mul]
theorem dv_rm {n : Nat} {f : Nat → Rat} (hf : Mon n f) : ∀ {N : Nat} {p : Nat → Rat}, Fin (N + n) p → Rm n f p (dv n f N p)
  | 0, p, h => Rm.self (by rw [Nat.zero_add] at h; exact h)
  | N + 1, p, h => by
    have h1 : Fin (N + n) fun k => p k - (if N ≤ k then p (N + n) * f (k - N) else 0) := fun k hk => by
      show p k - (if N ≤ k then p (N + n) * f (k - N) else 0) = 0
      rw [if_pos (by omega)]
      by_cases e : k = N + n
      · rw [e, show N + n - N = n by omega, hf.top]; grind
      · rw [h k (by omega), hf.fin (k - N) (by omega)]; grind
    obtain ⟨g1, M, q, g2, g3⟩ := dv_rm hf h1
    refine ⟨g1, max M (N + 1), fun i => q i + (if i = N then p (N + n) else 0), (g2.mono (Nat.le_max_left _ _)).add (fun k hk => if_neg (by omega)), fun k => ?_⟩
    have a : p k - (if N ≤ k then p (N + n) * f (k - N) else 0) = cf q f k + dv n f N (fun k => p k - (if N ≤ k then p (N + n) * f (k - N) else 0)) k := g3 k
    rw [cf_add_left, cf_mono]
    show p k = _ + dv n f N (fun k => p k - (if N ≤ k then p (N + n) * f (k - N) else 0)) k
    grind
/-- The steps from the top: what stands behind t of N steps. -/
def dvs (n : Nat) (f : Nat → Rat) (N : Nat) (p : Nat → Rat) : Nat → Nat → Rat
  | 0, k => p k
  | t + 1, k => dvs n f N p t k - (if N - 1 - t ≤ k then dvs n f N p t (N - 1 - t + n) * f (k - (N - 1 - t)) else 0)
theorem dvs_dv {n : Nat} {f : Nat → Rat} {N : Nat} {p : Nat → Rat} : ∀ {t : Nat}, t ≤ N → dv n f (N - t) (dvs n f N p t) = dv n f N p
  | 0, _ => rfl
  | t + 1, h => by
    refine Eq.trans ?_ (dvs_dv (n := n) (f := f) (N := N) (p := p) (t := t) (by omega))
    have e : N - t = N - (t + 1) + 1 := by omega
    rw [e]
    show dv n f (N - (t + 1)) _ = dv n f (N - (t + 1)) _
    refine congrArg _ (funext fun k => ?_)
    show dvs n f N p t k - _ = _
    rw [show N - 1 - t = N - (t + 1) by omega]
theorem dvs_rm {n : Nat} {f : Nat → Rat} (hf : Mon n f) {N : Nat} {p : Nat → Rat} (h : Fin (N + n) p) : Rm n f p (dvs n f N p N) := by
  have e : dv n f N p = dvs n f N p N := by
    rw [← dvs_dv (Nat.le_refl N), Nat.sub_self]; rfl
  rw [← e]
  exact dv_rm hf h
/-- A step that is done in part: the first j places. -/
def dpt (c : Rat) (f r : Nat → Rat) (i j k : Nat) : Rat := r k - (if i ≤ k ∧ k < i + j then c * f (k - i) else 0)
theorem dpt_zero (c : Rat) (f r : Nat → Rat) (i k : Nat) : dpt c f r i 0 k = r k := by
  unfold dpt
  rw [if_neg (by omega)]; grind
theorem dpt_old {c : Rat} {f r : Nat → Rat} {i j : Nat} : dpt c f r i j (i + j) = r (i + j) := by
  unfold dpt
  rw [if_neg (by omega)]; grind
theorem dpt_next (c : Rat) (f r : Nat → Rat) (i j k : Nat) : (if k = i + j then r (i + j) - c * f j else dpt c f r i j k) = dpt c f r i (j + 1) k := by
  unfold dpt
  by_cases e : k = i + j
  · rw [if_pos e, if_pos (by omega), e, show i + j - i = j by omega]
  · rw [if_neg e]
    by_cases e2 : i ≤ k ∧ k < i + j
    · rw [if_pos e2, if_pos (by omega)]
    · rw [if_neg e2, if_neg (by omega)]
theorem dpt_all {n : Nat} {f : Nat → Rat} (hf : Fin (n + 1) f) {N : Nat} {p : Nat → Rat} {t : Nat} (k : Nat) : dpt (dvs n f N p t (N - 1 - t + n)) f (dvs n f N p t) (N - 1 - t) (n + 1) k = dvs n f N p (t + 1) k := by
  show _ = dvs n f N p t k - _
  unfold dpt
  by_cases e : N - 1 - t ≤ k
  · rw [if_pos e]
    by_cases e2 : k < N - 1 - t + (n + 1)
    · rw [if_pos ⟨e, e2⟩]
    · rw [if_neg (by omega), hf (k - (N - 1 - t)) (by omega)]; grind
  · rw [if_neg (by omega), if_neg e]
theorem dpt_none {c : Rat} (h : c = 0) (f r : Nat → Rat) (i j k : Nat) : dpt c f r i j k = r k := by
  unfold dpt
  split
  · rw [h]; grind
  · grind
/-- The quotient's coefficient. -/
def dvq (n : Nat) (f : Nat → Rat) (N : Nat) (p : Nat → Rat) (i : Nat) : Rat := dvs n f N p (N - 1 - i) (i + n)
/-- The length without the zeros at the end. -/
def tq (v : Nat → Rat) : Nat → Nat
  | 0 => 0
  | n + 1 => if v n = 0 then tq v n else n + 1
theorem tq_le (v : Nat → Rat) : ∀ n, tq v n ≤ n
  | 0 => Nat.le_refl _
  | n + 1 => by
    unfold tq
    split
    · exact Nat.le_succ_of_le (tq_le v n)
    · exact Nat.le_refl _
theorem tq_top {v : Nat → Rat} : ∀ {n k : Nat}, tq v n = k + 1 → v k ≠ 0
  | 0, k, h => by simp [tq] at h
  | n + 1, k, h => by
    unfold tq at h
    split at h
    · exact tq_top h
    · rename_i h0
      obtain rfl : n = k := by omega
      exact h0
theorem tq_behind {v : Nat → Rat} : ∀ {n k : Nat}, tq v n ≤ k → k < n → v k = 0
  | 0, k, _, h => absurd h (Nat.not_lt_zero k)
  | n + 1, k, h, hk => by
    unfold tq at h
    split at h
    · rename_i h0
      by_cases e : k = n
      · rw [e]; exact h0
      · exact tq_behind h (by omega)
    · omega
theorem tq_self {v : Nat → Rat} {n : Nat} (h : ∀ k, n = k + 1 → v k ≠ 0) : tq v n = n := by
  cases n with
  | zero => rfl
  | succ k => unfold tq; rw [if_neg (h k rfl)]
theorem tq_congr {a b : Nat → Rat} : ∀ {n : Nat}, (∀ i, i < n → a i = b i) → tq a n = tq b n
  | 0, _ => rfl
  | n + 1, h => by
    unfold tq
    rw [h n (by omega), tq_congr fun i hi => h i (by omega)]
/-- The length does not depend on where one starts. -/
theorem tq_eq {v : Nat → Rat} {n m : Nat} (h : Fin n v) (h' : Fin m v) : tq v n = tq v m := by
  have key : ∀ {n m : Nat}, Fin n v → Fin m v → tq v n ≤ tq v m := fun {n m} h h' => by
    rcases Nat.lt_or_ge (tq v m) (tq v n) with c | c
    · obtain ⟨k, hk⟩ : ∃ k, tq v n = k + 1 := ⟨tq v n - 1, by omega⟩
      refine absurd ?_ (tq_top hk)
      rcases Nat.lt_or_ge k m with c' | c'
      · exact tq_behind (by omega) c'
      · exact h' k c'
    · exact c
  exact Nat.le_antisymm (key h h') (key h' h)
theorem tq_fin {v : Nat → Rat} {n : Nat} (h : Fin n v) : Fin (tq v n) v := fun k hk => by
  rcases Nat.lt_or_ge k n with c | c
  · exact tq_behind hk c
  · exact h k c
/-- A list, and 0 behind it. -/
def qx (n : Nat) (v : Nat → Rat) (i : Nat) : Rat := if i < n then v i else 0
theorem qx_fin (n : Nat) (v : Nat → Rat) : Fin n (qx n v) := fun k hk => if_neg (by omega)
theorem qx_lt {n i : Nat} {v : Nat → Rat} (h : i < n) : qx n v i = v i := if_pos h
theorem qx_self {n : Nat} {v : Nat → Rat} (h : Fin n v) : qx n v = v := funext fun k => by
  unfold qx
  split
  · rfl
  · rename_i c; exact (h k (by omega)).symm
/-- A product, row by row: the first i of them. -/
def mu (F G : Nat → Rat) (i k : Nat) : Rat := su (fun a => if a ≤ k then F a * G (k - a) else 0) i
/-- A row that is added in part: the first j places. -/
def mp (c : Rat) (G r : Nat → Rat) (i j k : Nat) : Rat := r k + (if i ≤ k ∧ k < i + j then c * G (k - i) else 0)
theorem mp_zero (c : Rat) (G r : Nat → Rat) (i k : Nat) : mp c G r i 0 k = r k := by
  unfold mp
  rw [if_neg (by omega), Rat.add_zero]
theorem mp_old {c : Rat} {G r : Nat → Rat} {i j : Nat} : mp c G r i j (i + j) = r (i + j) := by
  unfold mp
  rw [if_neg (by omega), Rat.add_zero]
theorem mp_next (c : Rat) (G r : Nat → Rat) (i j k : Nat) : (if k = i + j then r (i + j) + c * G j else mp c G r i j k) = mp c G r i (j + 1) k := by
  unfold mp
  by_cases e : k = i + j
  · rw [if_pos e, if_pos (by omega), e, show i + j - i = j by omega]
  · rw [if_neg e]
    by_cases e2 : i ≤ k ∧ k < i + j
    · rw [if_pos e2, if_pos (by omega)]
    · rw [if_neg e2, if_neg (by omega)]
theorem mp_skip {c : Rat} {G r : Nat → Rat} {i j : Nat} (h : G j = 0) (k : Nat) : mp c G r i j k = mp c G r i (j + 1) k := by
  rw [← mp_next]
  split
  · rename_i e
    rw [e, mp_old, h, Rat.mul_zero, Rat.add_zero]
  · rfl
theorem mp_none {c : Rat} (h : c = 0) (G r : Nat → Rat) (i j k : Nat) : mp c G r i j k = r k := by
  unfold mp
  split
  · rw [h, Rat.zero_mul, Rat.add_zero]
  · rw [Rat.add_zero]
theorem mp_all {m : Nat} {F G : Nat → Rat} (hG : Fin m G) (i k : Nat) : mp (F i) G (mu F G i) i m k = mu F G (i + 1) k := by
  show mu F G i k + (if i ≤ k ∧ k < i + m then F i * G (k - i) else 0) = mu F G i k + (if i ≤ k then F i * G (k - i) else 0)
  by_cases e : i ≤ k
  · rw [if_pos e]
    by_cases e2 : k < i + m
    · rw [if_pos ⟨e, e2⟩]
    · rw [if_neg (by omega), hG (k - i) (by omega), Rat.mul_zero]
  · rw [if_neg (by omega), if_neg e]
theorem mu_all {n : Nat} {F G : Nat → Rat} (hF : Fin n F) (k : Nat) : mu F G n k = cf F G k := by
  have z : ∀ i, min n (k + 1) ≤ i → (if i ≤ k then F i * G (k - i) else 0) = 0 := fun i hi => by
    split
    · rw [hF i (by omega), Rat.zero_mul]
    · rfl
  have e : cf F G k = su (fun a => if a ≤ k then F a * G (k - a) else 0) (k + 1) := su_congr fun i hi => (if_pos (by omega)).symm
  rw [e]
  unfold mu
  rw [su_more z (Nat.min_le_left _ _), su_more z (Nat.min_le_right _ _)]
/-- Either what was there or what comes. -/
theorem mp_or {F G : Nat → Rat} (i j k : Nat) : mp (F i) G (mu F G i) i j k = mu F G i k ∨ mp (F i) G (mu F G i) i j k = mu F G (i + 1) k := by
  by_cases e : i ≤ k ∧ k < i + j
  · refine .inr ?_
    show mu F G i k + (if i ≤ k ∧ k < i + j then F i * G (k - i) else 0) = mu F G i k + (if i ≤ k then F i * G (k - i) else 0)
    rw [if_pos e, if_pos e.1]
  · refine .inl ?_
    unfold mp
    rw [if_neg e, Rat.add_zero]
theorem dpt_or {n : Nat} {f : Nat → Rat} {N : Nat} {p : Nat → Rat} {t j k : Nat} : dpt (dvs n f N p t (N - 1 - t + n)) f (dvs n f N p t) (N - 1 - t) j k = dvs n f N p t k ∨ dpt (dvs n f N p t (N - 1 - t + n)) f (dvs n f N p t) (N - 1 - t) j k = dvs n f N p (t + 1) k := by
  by_cases e : N - 1 - t ≤ k ∧ k < N - 1 - t + j
  · refine .inr ?_
    show dvs n f N p t k - _ = dvs n f N p t k - _
    rw [if_pos e, if_pos e.1]
  · refine .inl ?_
    unfold dpt
    rw [if_neg e]; grind
end Q
end Go.Proofs.YtigciplaoikcfaaGreat
