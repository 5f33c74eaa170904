/- Digits to base 2^32 as functions: their value, the digits of a number, leading zeros. No condition. -/
import Derived.Test.YtigciplaoikcfaaGreatGl
import Derived.Test.YtigciplaoikcfaaGreatNz
import Derived.Test.YtigciplaoikcfaaGreatTy
namespace Go.Proofs.YtigciplaoikcfaaGreat
open Go.RowKit
namespace Rf
abbrev BB : Nat := 4294967296
/-- The value of the first q digits. -/
def nv (d : Nat → Nat) : Nat → Nat
  | 0 => 0
  | q + 1 => nv d q + BB ^ q * d q
/-- A digit of a number. -/
def dg (x i : Nat) : Nat := x / BB ^ i % BB
/-- The length without leading zeros. -/
def tn (d : Nat → Nat) : Nat → Nat
  | 0 => 0
  | n + 1 => if d n = 0 then tn d n else n + 1
def DOk (q : Nat) (d : Nat → Nat) : Prop := ∀ i, i < q → d i < BB
theorem BB_pos (i : Nat) : 0 < BB ^ i := Nat.pow_pos (by decide)
theorem DOk.mono {q r : Nat} {d : Nat → Nat} (h : DOk q d) (hr : r ≤ q) : DOk r d := fun i hi => h i (by omega)
theorem nv_congr {d e : Nat → Nat} : ∀ {q : Nat}, (∀ i, i < q → d i = e i) → nv d q = nv e q
  | 0, _ => rfl
  | q + 1, h => by
    unfold nv
    rw [h q (by omega), nv_congr fun i hi => h i (by omega)]
theorem nv_lt {d : Nat → Nat} : ∀ {q : Nat}, DOk q d → nv d q < BB ^ q
  | 0, _ => by simp [nv]
  | q + 1, h => by
    have h1 := nv_lt (h.mono (Nat.le_succ q))
    have h2 : BB ^ q * d q ≤ BB ^ q * (BB - 1) := Nat.mul_le_mul_left _ (by have := h q (by omega); omega)
    have h3 : BB ^ q * (BB - 1) + BB ^ q = BB ^ (q + 1) := by rw [Nat.pow_succ, ← Nat.mul_succ]; rfl
    unfold nv
    omega
theorem dg_lt (x i : Nat) : dg x i < BB := Nat.mod_lt _ (by decide)
theorem dg_ok (x q : Nat) : DOk q (dg x) := fun i _ => dg_lt x i
theorem nv_dg (x : Nat) : ∀ q, nv (dg x) q = x % BB ^ q
  | 0 => by simp [nv, Nat.mod_one]
  | q + 1 => by
    unfold nv
    rw [nv_dg x q, Nat.mod_pow_succ]
    rfl
theorem dg_nv {d : Nat → Nat} : ∀ {q i : Nat}, DOk q d → i < q → dg (nv d q) i = d i
  | 0, _, _, h => by omega
  | q + 1, i, h, hi => by
    have h1 := nv_lt (h.mono (Nat.le_succ q))
    unfold nv dg
    rcases Nat.lt_or_ge i q with e | e
    · have := dg_nv (h.mono (Nat.le_succ q)) e
      unfold dg at this
      have hp : BB ^ q * d q = BB ^ i * (BB * (BB ^ (q - i - 1) * d q)) := by
        rw [← Nat.mul_assoc, ← Nat.mul_assoc, ← Nat.pow_succ, ← Nat.pow_add]
        congr 2
        omega
      rw [hp, Nat.add_mul_div_left _ _ (BB_pos i), Nat.add_mul_mod_self_left]
      exact this
    · obtain rfl : i = q := by omega
      rw [Nat.add_mul_div_left _ _ (BB_pos i), Nat.div_eq_of_lt h1, Nat.zero_add]
      exact Nat.mod_eq_of_lt (h i (by omega))
theorem dg_zero {x i : Nat} (h : x < BB ^ i) : dg x i = 0 := by
  unfold dg
  rw [Nat.div_eq_of_lt h]; rfl
/-- The lower digits are those of the rest. -/
theorem nv_mod {d : Nat → Nat} {q i : Nat} (h : DOk q d) (hi : i ≤ q) : nv d q % BB ^ i = nv d i := by
  rw [← nv_dg]
  exact nv_congr fun j hj => dg_nv h (by omega)
theorem tn_le (d : Nat → Nat) : ∀ n, tn d n ≤ n
  | 0 => Nat.le_refl _
  | n + 1 => by
    unfold tn
    split
    · exact Nat.le_succ_of_le (tn_le d n)
    · exact Nat.le_refl _
theorem nv_tn (d : Nat → Nat) : ∀ n, nv d (tn d n) = nv d n
  | 0 => rfl
  | n + 1 => by
    unfold tn
    split
    · rename_i h
      rw [nv_tn d n]
      show _ = nv d n + BB ^ n * d n
      rw [h]; rfl
    · rfl
theorem tn_top {d : Nat → Nat} : ∀ {n k : Nat}, tn d n = k + 1 → d k ≠ 0
  | 0, _, h => by simp [tn] at h
  | n + 1, k, h => by
    unfold tn at h
    split at h
    · exact tn_top h
    · rename_i h0
      obtain rfl : n = k := by omega
      exact h0
theorem tn_tn (d : Nat → Nat) (n : Nat) : tn d (tn d n) = tn d n := by
  cases h : tn d n with
  | zero => rfl
  | succ k => unfold tn; rw [if_neg (tn_top h)]
theorem nv_top {d : Nat → Nat} {k : Nat} (h : d k ≠ 0) : BB ^ k ≤ nv d (k + 1) := by
  unfold nv
  have : BB ^ k * 1 ≤ BB ^ k * d k := Nat.mul_le_mul_left _ (by omega)
  omega
/-- The digits of a list. -/
abbrev ld (l : List Nat) : Nat → Nat := fun i => l.getD i 0
theorem ld_ok {l : List Nat} (h : Dg.ok l) (q : Nat) : DOk q (ld l) := fun i _ => Dg.ok_getD h i
theorem nv_take (l : List Nat) : ∀ {k : Nat}, k ≤ l.length → nv (ld l) k = Dg.val (l.take k)
  | 0, _ => by simp [nv, Dg.val]
  | k + 1, h => by
    unfold nv
    rw [nv_take l (by omega), Dg.val_take_succ (by omega)]
    simp [ld, List.getD, List.getElem?_eq_getElem (show k < l.length by omega), Dg.B]
theorem nv_ld (l : List Nat) : nv (ld l) l.length = Dg.val l := by rw [nv_take l (Nat.le_refl _), List.take_length]
def lr (d : Nat → Nat) (q : Nat) : List Nat := (List.range q).map d
theorem lr_val (d : Nat → Nat) : ∀ q, Dg.val (lr d q) = nv d q
  | 0 => rfl
  | q + 1 => by
    unfold lr nv
    rw [List.range_succ, List.map_append, List.map_singleton, Dg.val_snoc]
    have := lr_val d q
    unfold lr at this
    rw [this, List.length_map, List.length_range]
    rfl
theorem lr_get (d : Nat → Nat) {q i : Nat} (h : i < q) : (lr d q).getD i 0 = d i := by
  simp [lr, List.getD, h]
/-- Digits without leading zeros are those of their value. -/
theorem digs_of {d : Nat → Nat} {q x : Nat} (h : DOk q d) (ht : ∀ k, q = k + 1 → d k ≠ 0) (hx : nv d q = x) : q = (digs x).length ∧ ∀ i, i < q → d i = ld (digs x) i := by
  have e : lr d q = digs x := digs_unique (fun y hy => by
      simp only [lr, List.mem_map, List.mem_range] at hy
      obtain ⟨i, hi, rfl⟩ := hy
      exact h i hi) (fun y hy => by
      cases q with
      | zero => simp [lr] at hy
      | succ k =>
        have : (lr d (k + 1)).getLast? = some (d k) := by simp [lr, List.range_succ]
        rw [this] at hy
        injection hy with hy
        subst hy
        exact ht k rfl) ((lr_val d q).trans hx)
  refine ⟨by rw [← e]; simp [lr], fun i hi => ?_⟩
  rw [← e]
  exact (lr_get d hi).symm
theorem tn_digs {d : Nat → Nat} {n : Nat} (h : DOk n d) : tn d n = (digs (nv d n)).length ∧ ∀ i, i < tn d n → d i = ld (digs (nv d n)) i :=
  digs_of (h.mono (tn_le d n)) (fun _ hk => tn_top hk) (nv_tn d n)
theorem digs_top {x k : Nat} (h : (digs x).length = k + 1) : ld (digs x) k ≠ 0 := by
  refine digs_trimmed x _ ?_
  rw [List.getLast?_eq_getElem?, h, Nat.add_sub_cancel]
  show _ = some ((digs x)[k]?.getD 0)
  rw [List.getElem?_eq_getElem (show k < (digs x).length by omega)]
  rfl
theorem tn_digs_self (x : Nat) : tn (ld (digs x)) (digs x).length = (digs x).length := by
  cases h : (digs x).length with
  | zero => rfl
  | succ k => unfold tn; rw [if_neg (digs_top h)]
theorem nv_digs (x : Nat) : nv (ld (digs x)) (digs x).length = x := by rw [nv_ld, digs_val]
theorem digs_lt {x k : Nat} (h : x < BB ^ k) : (digs x).length ≤ k := Dg.length_le_of_val (digs_trimmed _) (by rw [digs_val]; exact h)
theorem lt_digs (x : Nat) : x < BB ^ (digs x).length := by
  have := Dg.val_lt (digs_ok x)
  rwa [digs_val] at this
theorem digs_le {x y : Nat} (h : x ≤ y) : (digs x).length ≤ (digs y).length := digs_lt (Nat.lt_of_le_of_lt h (lt_digs y))
theorem digs_pow {x k : Nat} (h : (digs x).length = k + 1) : BB ^ k ≤ x := by
  have := nv_top (digs_top h)
  rw [← h, nv_digs] at this
  exact this
theorem digs_zero {x : Nat} : (digs x).length = 0 ↔ x = 0 := by
  refine ⟨fun h => ?_, fun h => ?_⟩
  · have := nv_digs x
    rw [h] at this
    exact this.symm
  · subst h; rfl
end Rf
end Go.Proofs.YtigciplaoikcfaaGreat
/- Sums, differences and products of digits: plain laws. No condition. -/
namespace Go.Proofs.YtigciplaoikcfaaGreat
open Go.RowKit
namespace Rf
/-- Digits, and 0 behind their end. -/
def ext (n : Nat) (a : Nat → Nat) (i : Nat) : Nat := if i < n then a i else 0
theorem ext_ok {n : Nat} {a : Nat → Nat} (h : DOk n a) (q : Nat) : DOk q (ext n a) := fun i _ => by
  unfold ext
  split
  · exact h i ‹_›
  · decide
theorem ext_nv {n : Nat} {a : Nat → Nat} : ∀ {q : Nat}, n ≤ q → nv (ext n a) q = nv a n
  | 0, h => by obtain rfl : n = 0 := by omega
               rfl
  | q + 1, h => by
    rcases Nat.lt_or_ge q n with e | e
    · obtain rfl : n = q + 1 := by omega
      exact nv_congr fun i hi => if_pos hi
    · show nv (ext n a) q + BB ^ q * ext n a q = nv a n
      rw [ext_nv e, show ext n a q = 0 from if_neg (by omega), Nat.mul_zero, Nat.add_zero]
theorem nv_hi {d : Nat → Nat} {q i : Nat} (h : DOk q d) (hi : i ≤ q) : nv d q = nv d i + BB ^ i * (nv d q / BB ^ i) := by
  have := Nat.mod_add_div (nv d q) (BB ^ i)
  rw [nv_mod h hi] at this
  omega
/-- A digit of a sum. -/
theorem dg_hi (x y i : Nat) : dg (x + BB ^ (i + 1) * y) i = x / BB ^ i % BB := by
  unfold dg
  rw [Nat.pow_succ, Nat.mul_assoc, Nat.add_mul_div_left _ _ (BB_pos i), Nat.add_mul_mod_self_left]
theorem part_div (x t i : Nat) : (x + BB ^ i * t) / BB ^ i = x / BB ^ i + t := Nat.add_mul_div_left _ _ (BB_pos i)
theorem sum_dig {A B : Nat → Nat} {M i : Nat} (hA : DOk M A) (hB : DOk M B) (hi : i < M) : dg (nv A M + nv B M) i = ((nv A i + nv B i) / BB ^ i + A i + B i) % BB := by
  rw [nv_hi hA (show i + 1 ≤ M by omega), nv_hi hB (show i + 1 ≤ M by omega)]
  have e : ∀ p q r s : Nat, nv A (i + 1) + p * q + (nv B (i + 1) + p * s) = (nv A (i + 1) + nv B (i + 1)) + p * (q + s) := fun p q r s => by rw [Nat.mul_add]; omega
  rw [e _ _ 0 _, dg_hi]
  have e2 : nv A (i + 1) + nv B (i + 1) = (nv A i + nv B i) + BB ^ i * (A i + B i) := by
    show nv A i + BB ^ i * A i + (nv B i + BB ^ i * B i) = _
    rw [Nat.mul_add]; omega
  rw [e2, part_div, ← Nat.add_assoc]
theorem sum_car (A B : Nat → Nat) (i : Nat) : (nv A (i + 1) + nv B (i + 1)) / BB ^ (i + 1) = ((nv A i + nv B i) / BB ^ i + A i + B i) / BB := by
  have e2 : nv A (i + 1) + nv B (i + 1) = (nv A i + nv B i) + BB ^ i * (A i + B i) := by
    show nv A i + BB ^ i * A i + (nv B i + BB ^ i * B i) = _
    rw [Nat.mul_add]; omega
  rw [e2, Nat.pow_succ, ← Nat.div_div_eq_div_mul, part_div, ← Nat.add_assoc]
theorem sum_le1 {A B : Nat → Nat} {i : Nat} (hA : DOk i A) (hB : DOk i B) : (nv A i + nv B i) / BB ^ i ≤ 1 := by
  have h1 := nv_lt hA
  have h2 := nv_lt hB
  have : (nv A i + nv B i) / BB ^ i < 2 := (Nat.div_lt_iff_lt_mul (BB_pos i)).2 (by omega)
  omega
/-- The top of a sum. -/
theorem sum_top {A B : Nat → Nat} {M : Nat} (hA : DOk M A) (hB : DOk M B) : dg (nv A M + nv B M) M = (nv A M + nv B M) / BB ^ M := by
  unfold dg
  exact Nat.mod_eq_of_lt (Nat.lt_of_le_of_lt (sum_le1 hA hB) (by decide))
/-- The borrow below a place. -/
def bor (A B : Nat → Nat) (i : Nat) : Nat := if nv A i < nv B i then 1 else 0
theorem dif_split {P b z br br' a0 b0 s t u v : Nat} (h3 : b0 ≤ a0 + P * br) (h4 : z + (br + t) = s + b * br') (h5 : v + br' ≤ u) : (a0 + P * s + P * b * u) - (b0 + P * t + P * b * v) = (a0 + P * br - b0) + P * z + P * b * (u - v - br') := by
  obtain ⟨w, rfl⟩ : ∃ w, u = v + br' + w := ⟨u - (v + br'), by omega⟩
  rw [show v + br' + w - v - br' = w by omega]
  have h6 : P * s + P * (b * br') = P * z + P * br + P * t := by
    rw [← Nat.mul_add, ← h4, Nat.mul_add, Nat.mul_add]; omega
  have e1 : P * b * (v + br' + w) = P * b * v + P * (b * br') + P * b * w := by
    rw [Nat.mul_add, Nat.mul_add, Nat.mul_assoc P b br']
  rw [e1]
  generalize P * b * v = x1 at *
  generalize P * (b * br') = x2 at *
  generalize P * b * w = x3 at *
  generalize P * br = x4 at *
  omega
/-- The comparison of numbers, by their top places. -/
theorem top_lt {P s t a0 b0 : Nat} (ha : a0 < P) (hb : b0 < P) : (s < t → a0 + P * s < b0 + P * t) ∧ (s = t → (a0 + P * s < b0 + P * t ↔ a0 < b0)) ∧ (t < s → ¬ a0 + P * s < b0 + P * t) := by
  refine ⟨fun h => ?_, fun h => ?_, fun h => ?_⟩
  · have := Nat.mul_le_mul_left P (show s + 1 ≤ t from h)
    rw [Nat.mul_add] at this
    omega
  · subst h; omega
  · have := Nat.mul_le_mul_left P (show t + 1 ≤ s from h)
    rw [Nat.mul_add] at this
    omega
theorem top_le {P s t a0 b0 : Nat} (ha : a0 < P) (h : b0 + P * t ≤ a0 + P * s) : t ≤ s := by
  rcases Nat.lt_or_ge s t with e | e
  · have := Nat.mul_le_mul_left P (show s + 1 ≤ t from e)
    rw [Nat.mul_add] at this
    omega
  · exact e
theorem dif_place {A B : Nat → Nat} {M i z br br' u v : Nat} (a1 : nv A M = nv A i + BB ^ i * A i + BB ^ i * BB * u) (b1 : nv B M = nv B i + BB ^ i * B i + BB ^ i * BB * v) (hz : z < BB) (h2 : nv A i + BB ^ i * br - nv B i < BB ^ i) (h3 : nv B i ≤ nv A i + BB ^ i * br) (h4 : z + (br + B i) = A i + BB * br') (h5 : v + br' ≤ u) : dg (nv A M - nv B M) i = z := by
  rw [a1, b1, dif_split h3 h4 h5, ← Nat.pow_succ, dg_hi, part_div, Nat.div_eq_of_lt h2, Nat.zero_add]
  exact Nat.mod_eq_of_lt hz
theorem dif_dig {A B : Nat → Nat} {M i : Nat} (hA : DOk M A) (hB : DOk M B) (hi : i < M) (hle : nv B M ≤ nv A M) :
    (A i < bor A B i + B i → bor A B (i + 1) = 1 ∧ dg (nv A M - nv B M) i + (bor A B i + B i) = A i + BB) ∧ (¬ A i < bor A B i + B i → bor A B (i + 1) = 0 ∧ dg (nv A M - nv B M) i + (bor A B i + B i) = A i) := by
  obtain ⟨u, a1⟩ : ∃ u, nv A M = nv A (i + 1) + BB ^ (i + 1) * u := ⟨_, nv_hi hA (show i + 1 ≤ M by omega)⟩
  obtain ⟨v, b1⟩ : ∃ v, nv B M = nv B (i + 1) + BB ^ (i + 1) * v := ⟨_, nv_hi hB (show i + 1 ≤ M by omega)⟩
  have lA := nv_lt (hA.mono (show i ≤ M by omega))
  have lB := nv_lt (hB.mono (show i ≤ M by omega))
  have lA' := nv_lt (hA.mono (show i + 1 ≤ M by omega))
  have lB' := nv_lt (hB.mono (show i + 1 ≤ M by omega))
  have oA := hA i hi
  have oB := hB i hi
  have a2 : nv A (i + 1) = nv A i + BB ^ i * A i := rfl
  have b2 : nv B (i + 1) = nv B i + BB ^ i * B i := rfl
  have hv0 : v ≤ u := top_le (s := u) (t := v) lA' (by rw [← a1, ← b1]; exact hle)
  have hv : nv A (i + 1) < nv B (i + 1) → v + 1 ≤ u := fun h => by
    rcases Nat.lt_or_ge v u with e | e
    · exact e
    · obtain rfl : u = v := by omega
      rw [a1, b1] at hle
      omega
  have ht := top_lt (s := A i) (t := B i) lA lB
  rw [← a2, ← b2] at ht
  have a3 := a1
  have b3 := b1
  rw [a2, Nat.pow_succ] at a3
  rw [b2, Nat.pow_succ] at b3
  have key : ∀ z br br', z < BB → nv A i + BB ^ i * br - nv B i < BB ^ i → nv B i ≤ nv A i + BB ^ i * br → z + (br + B i) = A i + BB * br' → v + br' ≤ u → dg (nv A M - nv B M) i = z := fun z br br' k1 k2 k3 k4 k5 => dif_place a3 b3 k1 k2 k3 k4 k5
  clear a3 b3 a1 b1 hle a2 b2
  unfold bor
  generalize dg (nv A M - nv B M) i = d at key ⊢
  generalize nv A (i + 1) = a1 at ht hv ⊢
  generalize nv B (i + 1) = b1 at ht hv ⊢
  generalize BB ^ i = P at *
  by_cases c : nv A i < nv B i
  · rw [if_pos c]
    refine ⟨fun h => ?_, fun h => ?_⟩
    · have hlt : a1 < b1 := by
        rcases Nat.lt_or_ge (A i) (B i) with e | e
        · exact ht.1 e
        · exact (ht.2.1 (by omega)).2 c
      rw [if_pos hlt]
      have := key (A i + BB - (1 + B i)) 1 1 (by omega) (by rw [Nat.mul_one]; omega) (by rw [Nat.mul_one]; omega) (by omega) (hv hlt)
      exact ⟨rfl, by omega⟩
    · have hlt : ¬ a1 < b1 := ht.2.2 (by omega)
      rw [if_neg hlt]
      have := key (A i - (1 + B i)) 1 0 (by omega) (by rw [Nat.mul_one]; omega) (by rw [Nat.mul_one]; omega) (by omega) hv0
      exact ⟨rfl, by omega⟩
  · rw [if_neg c]
    refine ⟨fun h => ?_, fun h => ?_⟩
    · have hlt : a1 < b1 := ht.1 (by omega)
      rw [if_pos hlt]
      have := key (A i + BB - B i) 0 1 (by omega) (by rw [Nat.mul_zero]; omega) (by rw [Nat.mul_zero]; omega) (by omega) (hv hlt)
      exact ⟨rfl, by omega⟩
    · have hlt : ¬ a1 < b1 := by
        rcases Nat.lt_or_ge (B i) (A i) with e | e
        · exact ht.2.2 e
        · exact fun h => c ((ht.2.1 (by omega)).1 h)
      rw [if_neg hlt]
      have := key (A i - B i) 0 0 (by omega) (by rw [Nat.mul_zero]; omega) (by rw [Nat.mul_zero]; omega) (by omega) hv0
      exact ⟨rfl, by omega⟩
/-- A place written. -/
def upd (d : Nat → Nat) (j v i : Nat) : Nat := if i = j then v else d i
theorem upd_ok {d : Nat → Nat} {q j v : Nat} (h : DOk q d) (hv : v < BB) : DOk q (upd d j v) := fun i hi => by
  unfold upd
  split
  · exact hv
  · exact h i hi
theorem nv_upd {d : Nat → Nat} {j v : Nat} : ∀ {q : Nat}, j < q → nv (upd d j v) q + BB ^ j * d j = nv d q + BB ^ j * v
  | 0, h => by omega
  | q + 1, h => by
    unfold nv
    rcases Nat.lt_or_ge j q with e | e
    · have h1 := nv_upd (d := d) (v := v) e
      have h2 : upd d j v q = d q := if_neg (by omega)
      rw [h2]
      omega
    · obtain rfl : j = q := by omega
      have h1 : nv (upd d j v) j = nv d j := nv_congr fun i hi => if_neg (by omega)
      have h2 : upd d j v j = v := if_pos rfl
      rw [h1, h2]
      omega
end Rf
end Go.Proofs.YtigciplaoikcfaaGreat
/- The document's integers: trim, Norm, Sign, signed, Abs, Neg, Of. -/
namespace Go.Proofs.YtigciplaoikcfaaGreat
open Go.RowKit
namespace Rf
theorem i64 {n : Int} (h1 : -9223372036854775808 ≤ n) (h2 : n < 9223372036854775808) : inR .i64 n := ⟨h1, h2⟩
abbrev dn (q : Nat) (d : Nat → Nat) : Cell := .row 1 q fun i _ => .int .u32 (d i : Nat)
abbrev bn (s : Bool) (q : Nat) (d : Nat → Nat) : V := .g [.bool s, dn q d]
theorem subDn {n m : Nat} {a b : Nat → Nat} (h : n = m) (h2 : ∀ i, i < m → a i = b i) : Sub (.c (dn n a)) (.c (dn m b)) :=
  subRowG h fun i _ hi _ => by show Cell.int .u32 (a i : Nat) = .int .u32 (b i : Nat); rw [h2 i hi]
theorem subBn {s s' : Bool} {n m : Nat} {a b : Nat → Nat} (hs : s = s') (h : n = m) (h2 : ∀ i, i < m → a i = b i) : Sub (bn s n a) (bn s' m b) := by
  subst hs
  rintro D w v ⟨vs, e, hr⟩
  refine ⟨vs, e, ?_⟩
  match hvs : vs.toList with
  | [_, _] =>
    rw [hvs] at hr
    exact ⟨hr.1, subDn h h2 D w _ hr.2.1, trivial⟩
  | [] | [_] | _ :: _ :: _ :: _ => rw [hvs] at hr; simp [CRels] at hr
theorem sub_bool {a b : Bool} (h : a = b) : Sub (.c (.bool a)) (.c (.bool b)) := by subst h; exact Sub.refl _
theorem sub_int {k : IntKind} {a b : Int} (h : a = b) : Sub (.c (.int k a)) (.c (.int k b)) := by subst h; exact Sub.refl _
theorem appZ (f g : Nat → Nat → Cell) (x y : Nat) : appF 0 f g x y = g x y := by
  unfold appF
  rw [if_neg (Nat.not_lt_zero _), Nat.sub_zero]
theorem sgn_neg (s : Bool) (x : Nat) : decide (sgn s x < 0) = (s && decide (0 < x)) := by
  cases s <;> simp [sgn]
theorem sgn_abs (s : Bool) (x : Nat) : (sgn s x).natAbs = x := by
  cases s <;> simp [sgn]
/-- An integer in normal form, by sign and size. -/
theorem nz_sgn (s : Bool) (x : Nat) : nz (sgn s x) = [.bool (s && decide (0 < x)), dsC (digs x)] := by
  show [Cell.bool (decide (sgn s x < 0)), dsC (digs (sgn s x).natAbs)] = _
  rw [sgn_neg, sgn_abs]
theorem sgn_sign (s : Bool) (x : Nat) : (sgn s x).sign = if x = 0 then 0 else if s then -1 else 1 := by
  by_cases h : x = 0
  · subst h; cases s <;> rfl
  · rw [if_neg h]
    cases s with
    | true => exact Int.sign_eq_neg_one_of_neg (by simp [sgn]; omega)
    | false => exact Int.sign_eq_one_of_pos (by simp [sgn]; omega)
set_option maxHeartbeats 4000000 in
theorem rtrim_ok {n : Nat} {a : Nat → Nat} (hd : DOk n a) (hn : n ≤ 1048576) : FnOK Tryz.prog false 132 [.c (dn n a)] (.c (dsC (digs (nv a n)))) := by
  obtain ⟨hT1, hT2⟩ := tn_digs hd
  refine fn_ok (E := E0) E0_ok Tryz.func132 rfl mixed (by kernel_rfl) (by kernel_rfl) ?_
  conv => whnf
  refine loop_ints (fun m : Nat => gst [(0, .c (dn n a)), (3, .c (.int .i64 m))] []) (fun m => m) (fun m => m ≤ n ∧ tn a m = tn a n) n rfl (Weak.gen [] rfl trivial ⟨.inl ⟨_, _, rfl, rfl, fun _ _ _ _ => rfl⟩, ⟨_, rfl, rfl⟩, trivial⟩) ⟨by omega, rfl⟩ fun m ⟨hm, ht⟩ => ?_
  conv => whnf
  refine bcase (fun (h : gw true (decide ((0 : Int) < m)) = true) => ?_) fun (h : gw true (decide ((0 : Int) < m)) = false) => ?_
  · have h := of_decide_eq_true (gw_true.1 h)
    obtain ⟨k, rfl⟩ : ∃ k, m = k + 1 := ⟨m - 1, by omega⟩
    have ek : (((k + 1 : Nat) : Int) - 1).toNat = k := by omega
    conv => whnf
    refine ⟨i64 (by omega) (by omega), ?_⟩
    conv => whnf
    refine ⟨by omega, by omega, ?_⟩
    conv => whnf
    refine bcase (fun (h1 : decide ((a (((k + 1 : Nat) : Int) - 1).toNat : Int) = 0) = true) => ?_) fun (h1 : decide ((a (((k + 1 : Nat) : Int) - 1).toNat : Int) = 0) = false) => ?_
    · have h1 := of_decide_eq_true h1
      rw [ek] at h1
      conv => whnf
      refine ⟨i64 (by omega) (by omega), ?_⟩
      conv => whnf
      exact ⟨k, by omega, Weak.gen [] rfl trivial ⟨.inl ⟨_, _, rfl, rfl, fun _ _ _ _ => rfl⟩, ⟨_, rfl, by omega⟩, trivial⟩, by omega, by rw [← ht]; simp [tn, show a k = 0 by omega]⟩
    · have h1 := of_decide_eq_false h1
      rw [ek] at h1
      have hx : tn a n = k + 1 := by rw [← ht]; simp [tn, show a k ≠ 0 by omega]
      rw [hx] at hT1 hT2
      conv => whnf
      refine ⟨by omega, by omega, ?_⟩
      conv => whnf
      refine ⟨by omega, ?_⟩
      conv => whnf
      refine ⟨by show 0 + (((k + 1 : Nat) : Int) - 0).toNat ≤ 16777216; omega, fun x y hx hy => ⟨rfl, fun h => by cases h⟩, ?_⟩
      conv => whnf
      refine ⟨fun i j hi hj => ?_, ?_⟩
      · show (appF 0 (rowF 1 []) (fun i _ => Cell.int .u32 (a (Int.toNat 0 + i) : Nat)) i j).clos = true
        rw [appZ]
        rfl
      conv => whnf
      refine ⟨rfl, subRowG (by show 0 + (((k + 1 : Nat) : Int) - 0).toNat = _; omega) fun i j hi hj => ?_⟩
      show appF 0 (rowF 1 []) (fun i _ => Cell.int .u32 (a (Int.toNat 0 + i) : Nat)) i j = _
      rw [appZ, show Int.toNat 0 + i = i by omega, hT2 i (by omega)]
  · have h : ¬ (0 : Int) < m := of_decide_eq_false (gw_false.1 h)
    obtain rfl : m = 0 := by omega
    have hx : tn a n = 0 := by rw [← ht]; rfl
    rw [hx] at hT1 hT2
    conv => whnf
    refine ⟨by omega, by omega, ?_⟩
    conv => whnf
    refine ⟨by omega, ?_⟩
    conv => whnf
    refine ⟨by show 0 + (((0 : Nat) : Int) - 0).toNat ≤ 16777216; omega, fun x y hx hy => ⟨rfl, fun h => by cases h⟩, ?_⟩
    conv => whnf
    refine ⟨fun i j hi hj => ?_, ?_⟩
    · show (appF 0 (rowF 1 []) (fun i _ => Cell.int .u32 (a (Int.toNat 0 + i) : Nat)) i j).clos = true
      rw [appZ]
      rfl
    conv => whnf
    refine ⟨rfl, subRowG (by show 0 + (((0 : Nat) : Int) - 0).toNat = _; omega) fun i j hi hj => ?_⟩
    omega
set_option maxHeartbeats 4000000 in
theorem rnorm_ok {n : Nat} {a : Nat → Nat} {s : Bool} (hd : DOk n a) (hn : n ≤ 1048576) : FnOK Tryz.prog false 127 [bn s n a] (.g (nz (sgn s (nv a n)))) := by
  have h := rtrim_ok hd hn
  have h0 := @digs_zero (nv a n)
  rw [nz_sgn]
  refine fn_ok (E := E0) E0_ok Tryz.func127 rfl mixed (by kernel_rfl) (by kernel_rfl) ?_
  cases s with
  | true =>
    conv => whnf
    refine ⟨_, h, ?_⟩
    conv => whnf
    refine ⟨rfl, subBn ?_ rfl fun _ _ => rfl⟩
    rw [Bool.true_and]
    exact decide_eq_decide.2 ⟨fun h => by omega, fun h => by omega⟩
  | false =>
    conv => whnf
    refine ⟨_, h, ?_⟩
    conv => whnf
    exact ⟨rfl, subBn rfl rfl fun _ _ => rfl⟩
set_option maxHeartbeats 4000000 in
theorem rsigned_ok {n : Nat} {a : Nat → Nat} {s : Bool} (hd : DOk n a) (hn : n ≤ 1048576) : FnOK Tryz.prog false 108 [.c (.bool s), .c (dn n a)] (.g (nz (sgn s (nv a n)))) := by
  have h := rnorm_ok (s := s) hd hn
  refine fn_ok (E := E0) E0_ok Tryz.func108 rfl mixed (by kernel_rfl) (by kernel_rfl) ?_
  conv => whnf
  refine ⟨_, h, ?_⟩
  conv => whnf
  exact ⟨rfl, Sub.refl _⟩
set_option maxHeartbeats 4000000 in
theorem rsign_ok {n : Nat} {a : Nat → Nat} {s : Bool} (hd : DOk n a) (hn : n ≤ 1048576) : FnOK Tryz.prog false 90 [bn s n a] (.c (.int .i64 (sgn s (nv a n)).sign)) := by
  have h := rnorm_ok (s := s) hd hn
  have h0 := @digs_zero (nv a n)
  rw [nz_sgn] at h
  rw [sgn_sign]
  refine fn_ok (E := E0) E0_ok Tryz.func90 rfl mixed (by kernel_rfl) (by kernel_rfl) ?_
  conv => whnf
  refine ⟨_, h, ?_⟩
  conv => whnf
  refine bcase (fun (h1 : decide (((digs (nv a n)).length : Int) = 0) = true) => ?_) fun (h1 : decide (((digs (nv a n)).length : Int) = 0) = false) => ?_
  · have h1 := of_decide_eq_true h1
    rw [if_pos (by omega)]
    conv => whnf
    exact ⟨rfl, Sub.refl _⟩
  · have h1 := of_decide_eq_false h1
    rw [if_neg (by omega)]
    cases s with
    | true =>
      conv => whnf
      refine bpos (show decide (0 < nv a n) = true by simp; omega) ?_
      conv => whnf
      exact ⟨rfl, Sub.refl _⟩
    | false =>
      conv => whnf
      exact ⟨rfl, Sub.refl _⟩
set_option maxHeartbeats 4000000 in
theorem rabs_ok {n : Nat} {a : Nat → Nat} {s : Bool} (hd : DOk n a) (hn : n ≤ 1048576) : FnOK Tryz.prog false 142 [bn s n a] (.g (nz (nv a n : Nat))) := by
  have h := rsigned_ok (s := false) hd hn
  refine fn_ok (E := E0) E0_ok Tryz.func142 rfl mixed (by kernel_rfl) (by kernel_rfl) ?_
  conv => whnf
  refine ⟨_, h, ?_⟩
  conv => whnf
  exact ⟨rfl, Sub.refl _⟩
set_option maxHeartbeats 4000000 in
theorem rneg_ok {n : Nat} {a : Nat → Nat} {s : Bool} (hd : DOk n a) (hn : n ≤ 1048576) : FnOK Tryz.prog false 125 [bn s n a] (.g (nz (sgn (!s) (nv a n)))) := by
  have h := rsigned_ok (s := !s) hd hn
  refine fn_ok (E := E0) E0_ok Tryz.func125 rfl mixed (by kernel_rfl) (by kernel_rfl) ?_
  conv => whnf
  refine ⟨_, h, ?_⟩
  conv => whnf
  exact ⟨rfl, Sub.refl _⟩
/-- Integers given by an abstract value. -/
theorem zr_bn (a : RawZ) : (.g (zr a) : V) = bn a.neg a.ds.length (ld a.ds) := rfl
theorem nz_bn (x : Int) : (.g (nz x) : V) = bn (decide (x < 0)) (digs x.natAbs).length (ld (digs x.natAbs)) := rfl
theorem nv_raw (a : RawZ) : sgn a.neg (nv (ld a.ds) a.ds.length) = a.val := by rw [nv_ld]; rfl
def wr (a : RawZ) : Prop := Dg.ok a.ds ∧ a.ds.length ≤ 1048576
theorem znorm_ok {a : RawZ} (h : wr a) : FnOK Tryz.prog false 127 [.g (zr a)] (.g (nz a.val)) := by
  have := rnorm_ok (s := a.neg) (ld_ok h.1 a.ds.length) h.2
  rwa [nv_raw] at this
theorem zsign_ok {a : RawZ} (h : wr a) : FnOK Tryz.prog false 90 [.g (zr a)] (.c (.int .i64 a.val.sign)) := by
  have := rsign_ok (s := a.neg) (ld_ok h.1 a.ds.length) h.2
  rwa [nv_raw] at this
theorem zabs_ok {a : RawZ} (h : wr a) : FnOK Tryz.prog false 142 [.g (zr a)] (.g (nz (a.val.natAbs : Nat))) := by
  have := rabs_ok (s := a.neg) (ld_ok h.1 a.ds.length) h.2
  rwa [show nv (ld a.ds) a.ds.length = a.val.natAbs by rw [← nv_raw, sgn_abs]] at this
theorem sgn_not (s : Bool) (x : Nat) : sgn (!s) x = -sgn s x := by
  cases s <;> simp [sgn]
theorem zneg_ok {a : RawZ} (h : wr a) : FnOK Tryz.prog false 125 [.g (zr a)] (.g (nz (-a.val))) := by
  have := rneg_ok (s := a.neg) (ld_ok h.1 a.ds.length) h.2
  rwa [sgn_not, nv_raw] at this
theorem arg_ok {P : Program} {r : Bool} {f : FuncId} {args args' : List V} {X : V} (h : FnOK P r f args X) (hs : ∀ D w vs, VRels D w [] args' vs → VRels D w [] args vs) : FnOK P r f args' X :=
  ⟨h.1, fun D w vs h1 h2 h3 => h.2 D w vs h1 h2 (hs D w vs h3)⟩
theorem w32_lo (m : Nat) : IntKind.u32.wrap (m : Int) = (dg m 0 : Nat) := by
  simp [IntKind.wrap, IntKind.signed, IntKind.bits, dg]
theorem w32_hi (m : Nat) : IntKind.u32.wrap (Int.fdiv (m : Int) (2 ^ 32)) = (dg m 1 : Nat) := by
  rw [Int.fdiv_eq_ediv_of_nonneg _ (by decide)]
  simp [IntKind.wrap, IntKind.signed, IntKind.bits, dg]
set_option maxHeartbeats 4000000 in
theorem rof_ok {x : Int} (h0 : -9223372036854775808 ≤ x) (h1 : x < 9223372036854775808) : FnOK Tryz.prog false 55 [.c (.int .i64 x)] (.g (nz x)) := by
  have hk : ∀ s : Bool, decide (x < 0) = s → FnOK Tryz.prog false 108 [.c (.bool s), .c (dn 2 fun i => dg x.natAbs i)] (.g (nz x)) := by
    intro s hs
    have := rsigned_ok (s := s) (dg_ok x.natAbs 2) (by omega)
    rw [nv_dg, Nat.mod_eq_of_lt (show x.natAbs < 4294967296 ^ 2 by omega)] at this
    rwa [show sgn s x.natAbs = x by subst hs; unfold sgn; by_cases c : x < 0 <;> simp [c] <;> omega] at this
  have w1 : 0 ≤ x → IntKind.u64.wrap x = (x.natAbs : Nat) := fun h => by
    simp [IntKind.wrap, IntKind.signed, IntKind.bits]; omega
  have w2 : x < 0 → IntKind.u64.wrap (-IntKind.u64.wrap x) = (x.natAbs : Nat) := fun h => by
    simp [IntKind.wrap, IntKind.signed, IntKind.bits]; omega
  have hk := arg_ok (args' := [.c (.bool (decide (x < 0))), .c (.row 1 2 fun i _ => if i = 0 then .int .u32 (IntKind.u32.wrap (x.natAbs : Nat)) else .int .u32 (IntKind.u32.wrap (Int.fdiv (x.natAbs : Nat) (2 ^ 32))))]) (hk _ rfl) fun D w vs h => by
    match vs, h with
    | [v0, v1], ⟨h0, h1, _⟩ =>
      refine ⟨h0, subRowG rfl (fun i j hi hj => ?_) D w v1 h1, trivial⟩
      match i, hi with
      | 0, _ => show Cell.int .u32 _ = .int .u32 _; rw [w32_lo]
      | 1, _ => show Cell.int .u32 _ = .int .u32 _; rw [w32_hi]
  refine fn_ok (E := E0) E0_ok Tryz.func55 rfl mixed (by kernel_rfl) (by kernel_rfl) ?_
  conv => whnf
  refine bcase (fun (h : decide (x < 0) = true) => ?_) fun (h : decide (x < 0) = false) => ?_
  · have w2 := w2 (of_decide_eq_true h)
    rw [← w2] at hk
    conv => whnf
    refine ⟨by omega, ?_⟩
    conv => whnf
    refine ⟨fun i j hi hj => ?_, ?_⟩
    · match i, j, hi, hj with
      | 0, 0, _, _ => rfl
      | 1, 0, _, _ => rfl
    conv => whnf
    refine ⟨_, arg_ok hk (fun D w vs h => ?_), ?_⟩
    · match vs, h with
      | [v0, v1], ⟨h0, h1, _⟩ =>
        refine ⟨h0, subRowG rfl (fun i j hi hj => ?_) D w v1 h1, trivial⟩
        match i, j, hi, hj with
        | 0, 0, _, _ => rfl
        | 1, 0, _, _ => rfl
    conv => whnf
    exact ⟨rfl, Sub.refl _⟩
  · have w1 := w1 (Int.not_lt.1 (of_decide_eq_false h))
    rw [← w1] at hk
    conv => whnf
    refine ⟨by omega, ?_⟩
    conv => whnf
    refine ⟨fun i j hi hj => ?_, ?_⟩
    · match i, j, hi, hj with
      | 0, 0, _, _ => rfl
      | 1, 0, _, _ => rfl
    conv => whnf
    refine ⟨_, arg_ok hk (fun D w vs h => ?_), ?_⟩
    · match vs, h with
      | [v0, v1], ⟨h0, h1, _⟩ =>
        refine ⟨h0, subRowG rfl (fun i j hi hj => ?_) D w v1 h1, trivial⟩
        match i, j, hi, hj with
        | 0, 0, _, _ => rfl
        | 1, 0, _, _ => rfl
    conv => whnf
    exact ⟨rfl, Sub.refl _⟩
end Rf
end Go.Proofs.YtigciplaoikcfaaGreat
/- The document's sums and differences of digits. -/
namespace Go.Proofs.YtigciplaoikcfaaGreat
open Go.RowKit
namespace Rf
theorem w64 {x : Int} (h0 : 0 ≤ x) (h1 : x < 18446744073709551616) : IntKind.u64.wrap x = x := by
  simp [IntKind.wrap, IntKind.signed, IntKind.bits]; omega
theorem w32 (s : Nat) : IntKind.u32.wrap (s : Int) = (s % BB : Nat) := by
  simp [IntKind.wrap, IntKind.signed, IntKind.bits]
theorem sh32 (s : Nat) : Int.fdiv (s : Int) (2 ^ 32) = (s / BB : Nat) := by
  rw [Int.fdiv_eq_ediv_of_nonneg _ (by decide)]
  simp
theorem appN {d : Nat → Nat} {i j k m : Nat} {v : Int} (hj : j < m) (hm : m ≤ i + 1) (hk : k < 1) (h : v = (d i : Nat)) : appF i (fun j _ => .int .u32 (d j : Nat)) (rowF 1 [.int .u32 v]) j k = .int .u32 (d j : Nat) := by
  unfold appF
  by_cases e : j < i
  · rw [if_pos e]
  · obtain rfl : j = i := by omega
    obtain rfl : k = 0 := by omega
    rw [if_neg e, Nat.sub_self, h]
    rfl
theorem one_row {bl : List Blk} {F : Nat → Nat → Cell} {x y : Nat} (hx : x < 1) (hy : y < 1) (h : St.one bl (F 0 0) = true) : St.one bl (F x y) = true := by
  obtain rfl := Nat.lt_one_iff.1 hx
  obtain rfl := Nat.lt_one_iff.1 hy
  exact h
theorem rowF_clos {sz x y : Nat} {l : List Cell} (h : l.all Cell.clos = true) : (rowF sz l x y).clos = true := by
  unfold rowF
  rw [List.getD_eq_getElem?_getD]
  cases e : l[x * sz + y]? with
  | none => rfl
  | some c => exact List.all_eq_true.1 h _ (List.mem_of_getElem? e)
theorem appF_clos {n : Nat} {f g : Nat → Nat → Cell} (hf : ∀ x y, (f x y).clos = true) (hg : ∀ x y, (g x y).clos = true) (x y : Nat) : (appF n f g x y).clos = true := by
  unfold appF
  split
  · exact hf _ _
  · exact hg _ _
abbrev gd (q : Nat) (d : Nat → Nat) : Gx := ⟨128, 1, q, fun i _ => .int .u32 (d i : Nat)⟩
set_option maxHeartbeats 4000000 in
theorem plus_ok {n m : Nat} {a b : Nat → Nat} (ha : DOk n a) (hb : DOk m b) (hn : n ≤ 1048576) (hm : m ≤ 1048576) : FnOK Tryz.prog false 129 [.c (dn n a), .c (dn m b)] (.c (dn (max n m + 1) (dg (nv a n + nv b m)))) := by
  obtain ⟨M, hM⟩ : ∃ M, M = max n m := ⟨_, rfl⟩
  rw [← hM]
  have eS : nv (ext n a) M + nv (ext m b) M = nv a n + nv b m := by rw [ext_nv (by omega), ext_nv (by omega)]
  have hA := ext_ok ha
  have hB := ext_ok hb
  obtain ⟨c, hc⟩ : ∃ c : Nat → Nat, c = fun i => (nv (ext n a) i + nv (ext m b) i) / BB ^ i := ⟨_, rfl⟩
  have c0 : c 0 = 0 := by rw [hc]; simp [nv]
  have c1 : ∀ i, c i ≤ 1 := fun i => by rw [hc]; exact sum_le1 (hA i) (hB i)
  have cs : ∀ i, c (i + 1) = (c i + ext n a i + ext m b i) / BB := fun i => by rw [hc]; exact sum_car _ _ i
  have ds : ∀ i, i < M → dg (nv a n + nv b m) i = (c i + ext n a i + ext m b i) % BB := fun i hi => by rw [← eS, hc]; exact sum_dig (hA M) (hB M) hi
  have dt : dg (nv a n + nv b m) M = c M := by rw [← eS, hc]; exact sum_top (hA M) (hB M)
  clear hc eS
  refine fn_ok (E := E0) E0_ok Tryz.func129 rfl mixed (by kernel_rfl) (by kernel_rfl) ?_
  conv => whnf
  refine loop_ints (fun i : Nat => gst [(0, .c (dn n a)), (1, .c (dn m b)), (5, .c (.gs 0 0)), (6, .c (.int .u64 (c i : Nat))), (7, .c (.int .i64 i))] [gd i (dg (nv a n + nv b m))]) (fun i => M - i) (fun i => i ≤ M) 0 rfl ?_ (Nat.zero_le _) fun i hi => ?_
  · exact Weak.gen [none] rfl ⟨rfl, trivial⟩ ⟨.inl ⟨_, _, rfl, rfl, fun _ _ _ _ => rfl⟩, .inl ⟨_, _, rfl, rfl, fun _ _ _ _ => rfl⟩, rfl, ⟨_, rfl, by rw [c0]; rfl⟩, ⟨_, rfl, rfl⟩, trivial⟩
  have hci := c1 i
  conv => whnf
  refine bcase (fun (h : gw false (decide ((i : Int) < n)) = true) => ?_) fun (h : gw false (decide ((i : Int) < n)) = false) => ?_
  · have h1 : decide ((i : Int) < n) = false := gwf h
    have h1' := of_decide_eq_false h1
    conv => whnf
    refine bcase (fun (h2 : decide ((i : Int) < m) = true) => ?_) fun (h2 : decide ((i : Int) < m) = false) => ?_
    · have h2' := of_decide_eq_true h2
      have eA : ext n a i = 0 := if_neg (by omega)
      have eB : ext m b i = b i := if_pos (by omega)
      have ob : b i < 4294967296 := hb i (by omega)
      have e : IntKind.u64.wrap ((c i : Int) + IntKind.u64.wrap (b i : Nat)) = ((c i + 0 + b i : Nat) : Int) := by rw [w64 (x := (b i : Nat)) (by omega) (by omega), w64 (by omega) (by omega)]; omega
      conv => whnf
      refine bneg h1 ?_
      conv => whnf
      refine bpos h2 ?_
      conv => whnf
      refine ⟨by omega, by omega, ?_⟩
      conv => whnf
      refine ⟨by show i + 1 ≤ 16777216; omega, fun x y hx hy => ?_, ?_⟩
      · conv at hx => rhs; whnf
        conv at hy => rhs; whnf
        refine ⟨one_row hx hy ?_, fun h => nomatch h⟩
        conv => lhs; whnf
      conv => whnf
      refine ⟨by omega, ?_⟩
      conv => whnf
      refine ⟨i64 (by omega) (by omega), ?_⟩
      conv => whnf
      refine ⟨i + 1, by omega, Weak.gen [some 0] rfl ⟨⟨_, rfl, rfl, rfl, rfl, rfl, fun j k hj hk => ⟨_, appN hj (Nat.le_refl _) hk ?_, rfl⟩⟩, trivial⟩ ⟨.inl ⟨_, _, rfl, rfl, fun _ _ _ _ => rfl⟩, .inl ⟨_, _, rfl, rfl, fun _ _ _ _ => rfl⟩, ⟨_, rfl, rfl, rfl⟩, ⟨_, rfl, ?_⟩, ⟨_, rfl, by omega⟩, trivial⟩, by omega⟩
      · show IntKind.u32.wrap (IntKind.u64.wrap ((c i : Int) + IntKind.u64.wrap (b i : Nat))) = (dg (nv a n + nv b m) i : Nat)
        rw [e, w32, ds i (by omega), eA, eB]
      · show Int.fdiv (IntKind.u64.wrap ((c i : Int) + IntKind.u64.wrap (b i : Nat))) (2 ^ 32) = (c (i + 1) : Nat)
        rw [e, sh32, cs i, eA, eB]
    · have h2' := of_decide_eq_false h2
      obtain rfl : i = M := by omega
      conv => whnf
      refine ⟨by show i + 1 ≤ 16777216; omega, fun x y hx hy => ?_, ?_⟩
      · conv at hx => rhs; whnf
        conv at hy => rhs; whnf
        refine ⟨one_row hx hy ?_, fun h => nomatch h⟩
        conv => lhs; whnf
      conv => whnf
      refine ⟨fun x y _ _ => appF_clos (fun _ _ => rfl) (fun _ _ => rowF_clos rfl) x y, ?_⟩
      conv => whnf
      refine ⟨rfl, subRowG rfl fun x y hx hy => appN hx (Nat.le_refl _) hy ?_⟩
      show IntKind.u32.wrap (c i : Nat) = (dg (nv a n + nv b m) i : Nat)
      rw [w32, dt, Nat.mod_eq_of_lt (show c i < 4294967296 by omega)]
  · have h1 : decide ((i : Int) < n) = true := gwf' h
    have h1' := of_decide_eq_true h1
    have eA : ext n a i = a i := if_pos (by omega)
    have oa : a i < 4294967296 := ha i (by omega)
    have e0 : IntKind.u64.wrap ((c i : Int) + IntKind.u64.wrap (a i : Nat)) = ((c i + a i : Nat) : Int) := by rw [w64 (x := (a i : Nat)) (by omega) (by omega), w64 (by omega) (by omega)]; omega
    conv => whnf
    refine bpos h1 ?_
    conv => whnf
    refine ⟨by omega, by omega, ?_⟩
    conv => whnf
    refine bcase (fun (h2 : decide ((i : Int) < m) = true) => ?_) fun (h2 : decide ((i : Int) < m) = false) => ?_
    · have h2' := of_decide_eq_true h2
      have eB : ext m b i = b i := if_pos (by omega)
      have ob : b i < 4294967296 := hb i (by omega)
      have e : IntKind.u64.wrap (IntKind.u64.wrap ((c i : Int) + IntKind.u64.wrap (a i : Nat)) + IntKind.u64.wrap (b i : Nat)) = ((c i + a i + b i : Nat) : Int) := by rw [e0, w64 (x := (b i : Nat)) (by omega) (by omega), w64 (by omega) (by omega)]; omega
      conv => whnf
      refine ⟨by omega, by omega, ?_⟩
      conv => whnf
      refine ⟨by show i + 1 ≤ 16777216; omega, fun x y hx hy => ?_, ?_⟩
      · conv at hx => rhs; whnf
        conv at hy => rhs; whnf
        refine ⟨one_row hx hy ?_, fun h => nomatch h⟩
        conv => lhs; whnf
      conv => whnf
      refine ⟨by omega, ?_⟩
      conv => whnf
      refine ⟨i64 (by omega) (by omega), ?_⟩
      conv => whnf
      refine ⟨i + 1, by omega, Weak.gen [some 0] rfl ⟨⟨_, rfl, rfl, rfl, rfl, rfl, fun j k hj hk => ⟨_, appN hj (Nat.le_refl _) hk ?_, rfl⟩⟩, trivial⟩ ⟨.inl ⟨_, _, rfl, rfl, fun _ _ _ _ => rfl⟩, .inl ⟨_, _, rfl, rfl, fun _ _ _ _ => rfl⟩, ⟨_, rfl, rfl, rfl⟩, ⟨_, rfl, ?_⟩, ⟨_, rfl, by omega⟩, trivial⟩, by omega⟩
      · show IntKind.u32.wrap (IntKind.u64.wrap (IntKind.u64.wrap ((c i : Int) + IntKind.u64.wrap (a i : Nat)) + IntKind.u64.wrap (b i : Nat))) = (dg (nv a n + nv b m) i : Nat)
        rw [e, w32, ds i (by omega), eA, eB]
      · show Int.fdiv (IntKind.u64.wrap (IntKind.u64.wrap ((c i : Int) + IntKind.u64.wrap (a i : Nat)) + IntKind.u64.wrap (b i : Nat))) (2 ^ 32) = (c (i + 1) : Nat)
        rw [e, sh32, cs i, eA, eB]
    · have h2' := of_decide_eq_false h2
      have eB : ext m b i = 0 := if_neg (by omega)
      conv => whnf
      refine ⟨by show i + 1 ≤ 16777216; omega, fun x y hx hy => ?_, ?_⟩
      · conv at hx => rhs; whnf
        conv at hy => rhs; whnf
        refine ⟨one_row hx hy ?_, fun h => nomatch h⟩
        conv => lhs; whnf
      conv => whnf
      refine ⟨by omega, ?_⟩
      conv => whnf
      refine ⟨i64 (by omega) (by omega), ?_⟩
      conv => whnf
      refine ⟨i + 1, by omega, Weak.gen [some 0] rfl ⟨⟨_, rfl, rfl, rfl, rfl, rfl, fun j k hj hk => ⟨_, appN hj (Nat.le_refl _) hk ?_, rfl⟩⟩, trivial⟩ ⟨.inl ⟨_, _, rfl, rfl, fun _ _ _ _ => rfl⟩, .inl ⟨_, _, rfl, rfl, fun _ _ _ _ => rfl⟩, ⟨_, rfl, rfl, rfl⟩, ⟨_, rfl, ?_⟩, ⟨_, rfl, by omega⟩, trivial⟩, by omega⟩
      · show IntKind.u32.wrap (IntKind.u64.wrap ((c i : Int) + IntKind.u64.wrap (a i : Nat))) = (dg (nv a n + nv b m) i : Nat)
        rw [e0, w32, ds i (by omega), eA, eB, Nat.add_zero]
      · show Int.fdiv (IntKind.u64.wrap ((c i : Int) + IntKind.u64.wrap (a i : Nat))) (2 ^ 32) = (c (i + 1) : Nat)
        rw [e0, sh32, cs i, eA, eB, Nat.add_zero]
theorem sub_hi {x s z : Nat} (h : z + s = x + 4294967296) (hz : z < 4294967296) (hx : x < 4294967296) : IntKind.u32.wrap (IntKind.u64.wrap (IntKind.u64.wrap (IntKind.u64.wrap (x : Nat) + 4294967296) - (s : Nat))) = (z : Nat) := by
  rw [w64 (x := (x : Nat)) (by omega) (by omega), w64 (x := (x : Nat) + 4294967296) (by omega) (by omega), w64 (x := (x : Nat) + 4294967296 - (s : Nat)) (by omega) (by omega), show (x : Int) + 4294967296 - s = (z : Nat) by omega, w32, Nat.mod_eq_of_lt hz]
theorem sub_lo {x s z : Nat} (h : z + s = x) (hx : x < 4294967296) : IntKind.u32.wrap (IntKind.u64.wrap (IntKind.u64.wrap (x : Nat) - (s : Nat))) = (z : Nat) := by
  rw [w64 (x := (x : Nat)) (by omega) (by omega), w64 (by omega) (by omega), show (x : Int) - s = (z : Nat) by omega, w32, Nat.mod_eq_of_lt (show z < 4294967296 by omega)]
set_option maxHeartbeats 4000000 in
theorem minus_ok {n m : Nat} {a b : Nat → Nat} (ha : DOk n a) (hb : DOk m b) (hn : n ≤ 1048576) (hm : m ≤ n) (hle : nv b m ≤ nv a n) : FnOK Tryz.prog false 131 [.c (dn n a), .c (dn m b)] (.c (dn n (dg (nv a n - nv b m)))) := by
  have eB : nv (ext m b) n = nv b m := ext_nv hm
  have hB := ext_ok hb
  obtain ⟨c, hc⟩ : ∃ c : Nat → Nat, c = bor a (ext m b) := ⟨_, rfl⟩
  have c0 : c 0 = 0 := by rw [hc]; simp [bor, nv]
  have c1 : ∀ i, c i ≤ 1 := fun i => by rw [hc]; unfold bor; split <;> omega
  have cd : ∀ i, i < n → (a i < c i + ext m b i → c (i + 1) = 1 ∧ dg (nv a n - nv b m) i + (c i + ext m b i) = a i + 4294967296) ∧ (¬ a i < c i + ext m b i → c (i + 1) = 0 ∧ dg (nv a n - nv b m) i + (c i + ext m b i) = a i) := fun i hi => by
    rw [← eB, hc]
    exact dif_dig ha (hB n) hi (by rw [eB]; exact hle)
  clear hc eB
  refine fn_ok (E := E0) E0_ok Tryz.func131 rfl mixed (by kernel_rfl) (by kernel_rfl) ?_
  conv => whnf
  refine loop_ints (fun i : Nat => gst [(0, .c (dn n a)), (1, .c (dn m b)), (5, .c (.gs 0 0)), (6, .c (.int .u64 (c i : Nat))), (7, .c (.int .i64 i))] [gd i (dg (nv a n - nv b m))]) (fun i => n - i) (fun i => i ≤ n) 0 rfl ?_ (Nat.zero_le _) fun i hi => ?_
  · exact Weak.gen [none] rfl ⟨rfl, trivial⟩ ⟨.inl ⟨_, _, rfl, rfl, fun _ _ _ _ => rfl⟩, .inl ⟨_, _, rfl, rfl, fun _ _ _ _ => rfl⟩, rfl, ⟨_, rfl, by rw [c0]; rfl⟩, ⟨_, rfl, rfl⟩, trivial⟩
  have hci := c1 i
  have hd0 := cd i
  have hb0 := hb i
  have ha0 := ha i
  conv => whnf
  refine bcase (fun (h1 : decide ((i : Int) < n) = true) => ?_) fun (h1 : decide ((i : Int) < n) = false) => ?_
  · have h1' := of_decide_eq_true h1
    have oa : a i < 4294967296 := ha0 (by omega)
    have wa : IntKind.u64.wrap (a i : Nat) = (a i : Nat) := w64 (by omega) (by omega)
    conv => whnf
    refine bcase (fun (h2 : decide ((i : Int) < m) = true) => ?_) fun (h2 : decide ((i : Int) < m) = false) => ?_
    · have h2' := of_decide_eq_true h2
      have eX : ext m b i = b i := if_pos (by omega)
      have ob : b i < 4294967296 := hb0 (by omega)
      have dd := hd0 (by omega)
      rw [eX] at dd
      have e : IntKind.u64.wrap ((c i : Int) + IntKind.u64.wrap (b i : Nat)) = ((c i + b i : Nat) : Int) := by rw [w64 (x := (b i : Nat)) (by omega) (by omega), w64 (by omega) (by omega)]; omega
      conv => whnf
      refine ⟨by omega, by omega, ?_⟩
      conv => whnf
      refine ⟨by omega, by omega, ?_⟩
      conv => whnf
      refine bcase (fun (h3 : decide (IntKind.u64.wrap (a i : Nat) < IntKind.u64.wrap ((c i : Int) + IntKind.u64.wrap (b i : Nat))) = true) => ?_) fun (h3 : decide (IntKind.u64.wrap (a i : Nat) < IntKind.u64.wrap ((c i : Int) + IntKind.u64.wrap (b i : Nat))) = false) => ?_
      · have h3' := of_decide_eq_true h3
        rw [e, wa] at h3'
        obtain ⟨k1, k2⟩ := dd.1 (by omega)
        conv => whnf
        refine ⟨by show i + 1 ≤ 16777216; omega, fun x y hx hy => ?_, ?_⟩
        · conv at hx => rhs; whnf
          conv at hy => rhs; whnf
          refine ⟨one_row hx hy ?_, fun h => nomatch h⟩
          conv => lhs; whnf
        conv => whnf
        refine ⟨i64 (by omega) (by omega), ?_⟩
        conv => whnf
        exact ⟨i + 1, by omega, Weak.gen [some 0] rfl ⟨⟨_, rfl, rfl, rfl, rfl, rfl, fun j k hj hk => ⟨_, appN hj (Nat.le_refl _) hk (by show IntKind.u32.wrap (IntKind.u64.wrap (IntKind.u64.wrap (IntKind.u64.wrap (a i : Nat) + 4294967296) - IntKind.u64.wrap ((c i : Int) + IntKind.u64.wrap (b i : Nat)))) = _; rw [e]; exact sub_hi k2 (dg_lt _ _) oa), rfl⟩⟩, trivial⟩ ⟨.inl ⟨_, _, rfl, rfl, fun _ _ _ _ => rfl⟩, .inl ⟨_, _, rfl, rfl, fun _ _ _ _ => rfl⟩, ⟨_, rfl, rfl, rfl⟩, ⟨_, rfl, by rw [k1]; rfl⟩, ⟨_, rfl, by omega⟩, trivial⟩, by omega⟩
      · have h3' := of_decide_eq_false h3
        rw [e, wa] at h3'
        obtain ⟨k1, k2⟩ := dd.2 (by omega)
        conv => whnf
        refine ⟨by show i + 1 ≤ 16777216; omega, fun x y hx hy => ?_, ?_⟩
        · conv at hx => rhs; whnf
          conv at hy => rhs; whnf
          refine ⟨one_row hx hy ?_, fun h => nomatch h⟩
          conv => lhs; whnf
        conv => whnf
        refine ⟨i64 (by omega) (by omega), ?_⟩
        conv => whnf
        exact ⟨i + 1, by omega, Weak.gen [some 0] rfl ⟨⟨_, rfl, rfl, rfl, rfl, rfl, fun j k hj hk => ⟨_, appN hj (Nat.le_refl _) hk (by show IntKind.u32.wrap (IntKind.u64.wrap (IntKind.u64.wrap (a i : Nat) - IntKind.u64.wrap ((c i : Int) + IntKind.u64.wrap (b i : Nat)))) = _; rw [e]; exact sub_lo k2 oa), rfl⟩⟩, trivial⟩ ⟨.inl ⟨_, _, rfl, rfl, fun _ _ _ _ => rfl⟩, .inl ⟨_, _, rfl, rfl, fun _ _ _ _ => rfl⟩, ⟨_, rfl, rfl, rfl⟩, ⟨_, rfl, by rw [k1]; rfl⟩, ⟨_, rfl, by omega⟩, trivial⟩, by omega⟩
    · have h2' := of_decide_eq_false h2
      have eX : ext m b i = 0 := if_neg (by omega)
      have dd := hd0 (by omega)
      rw [eX, Nat.add_zero] at dd
      have e : ((c i : Nat) : Int) = ((c i : Nat) : Int) := rfl
      conv => whnf
      refine ⟨by omega, by omega, ?_⟩
      conv => whnf
      refine bcase (fun (h3 : decide (IntKind.u64.wrap (a i : Nat) < (c i : Int)) = true) => ?_) fun (h3 : decide (IntKind.u64.wrap (a i : Nat) < (c i : Int)) = false) => ?_
      · have h3' := of_decide_eq_true h3
        rw [wa] at h3'
        obtain ⟨k1, k2⟩ := dd.1 (by omega)
        conv => whnf
        refine ⟨by show i + 1 ≤ 16777216; omega, fun x y hx hy => ?_, ?_⟩
        · conv at hx => rhs; whnf
          conv at hy => rhs; whnf
          refine ⟨one_row hx hy ?_, fun h => nomatch h⟩
          conv => lhs; whnf
        conv => whnf
        refine ⟨i64 (by omega) (by omega), ?_⟩
        conv => whnf
        exact ⟨i + 1, by omega, Weak.gen [some 0] rfl ⟨⟨_, rfl, rfl, rfl, rfl, rfl, fun j k hj hk => ⟨_, appN hj (Nat.le_refl _) hk (by exact sub_hi k2 (dg_lt _ _) oa), rfl⟩⟩, trivial⟩ ⟨.inl ⟨_, _, rfl, rfl, fun _ _ _ _ => rfl⟩, .inl ⟨_, _, rfl, rfl, fun _ _ _ _ => rfl⟩, ⟨_, rfl, rfl, rfl⟩, ⟨_, rfl, by rw [k1]; rfl⟩, ⟨_, rfl, by omega⟩, trivial⟩, by omega⟩
      · have h3' := of_decide_eq_false h3
        rw [wa] at h3'
        obtain ⟨k1, k2⟩ := dd.2 (by omega)
        conv => whnf
        refine ⟨by show i + 1 ≤ 16777216; omega, fun x y hx hy => ?_, ?_⟩
        · conv at hx => rhs; whnf
          conv at hy => rhs; whnf
          refine ⟨one_row hx hy ?_, fun h => nomatch h⟩
          conv => lhs; whnf
        conv => whnf
        refine ⟨i64 (by omega) (by omega), ?_⟩
        conv => whnf
        exact ⟨i + 1, by omega, Weak.gen [some 0] rfl ⟨⟨_, rfl, rfl, rfl, rfl, rfl, fun j k hj hk => ⟨_, appN hj (Nat.le_refl _) hk (by exact sub_lo k2 oa), rfl⟩⟩, trivial⟩ ⟨.inl ⟨_, _, rfl, rfl, fun _ _ _ _ => rfl⟩, .inl ⟨_, _, rfl, rfl, fun _ _ _ _ => rfl⟩, ⟨_, rfl, rfl, rfl⟩, ⟨_, rfl, by rw [k1]; rfl⟩, ⟨_, rfl, by omega⟩, trivial⟩, by omega⟩
  · have h1' := of_decide_eq_false h1
    obtain rfl : i = n := by omega
    conv => whnf
    refine ⟨fun x y _ _ => rfl, ?_⟩
    conv => whnf
    exact ⟨rfl, Sub.refl _⟩
end Rf
end Go.Proofs.YtigciplaoikcfaaGreat
