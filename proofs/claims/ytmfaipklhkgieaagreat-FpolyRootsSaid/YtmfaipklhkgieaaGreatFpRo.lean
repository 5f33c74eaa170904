/- Roots modulo a prime, plain. -/
import Derived.Test.YtmfaipklhkgieaaGreatFpFr
import Derived.Test.YtmfaipklhkgieaaGreatFpRg
namespace Go.Proofs.YtmfaipklhkgieaaGreat
namespace Fp
/-- How many of the first k have a property. -/
noncomputable def cnt (P : Nat → Prop) : Nat → Nat
  | 0 => 0
  | k + 1 => cnt P k + (open Classical in if P k then 1 else 0)
theorem cnt_le_add {P Q R : Nat → Prop} (h : ∀ b, P b → Q b ∨ R b) : ∀ k, cnt P k ≤ cnt Q k + cnt R k
  | 0 => Nat.le_refl _
  | k + 1 => by
    have ih := cnt_le_add h k
    unfold cnt
    by_cases h1 : P k
    · rw [if_pos h1]
      rcases h k h1 with h2 | h2
      · rw [if_pos h2]
        split <;> omega
      · rw [if_pos h2]
        split <;> omega
    · rw [if_neg h1]
      split <;> split <;> omega
theorem cnt_mono {P Q : Nat → Prop} (h : ∀ b, P b → Q b) : ∀ k, cnt P k ≤ cnt Q k
  | 0 => Nat.le_refl _
  | k + 1 => by
    have ih := cnt_mono h k
    unfold cnt
    by_cases h1 : P k
    · rw [if_pos h1, if_pos (h k h1)]; omega
    · rw [if_neg h1]; split <;> omega
theorem cnt_one (a : Nat) : ∀ k, cnt (fun b => b = a) k ≤ if a < k then 1 else 0
  | 0 => Nat.zero_le _
  | k + 1 => by
    have ih := cnt_one a k
    unfold cnt
    by_cases h1 : k = a
    · subst h1
      rw [if_neg (Nat.lt_irrefl _)] at ih
      rw [if_pos rfl, if_pos (by omega)]
      omega
    · rw [if_neg h1]
      split at ih <;> split <;> omega
theorem cnt_none {P : Nat → Prop} {k : Nat} (h : ∀ b, b < k → ¬ P b) : cnt P k = 0 := by
  induction k with
  | zero => rfl
  | succ k ih =>
    unfold cnt
    rw [ih fun b hb => h b (by omega), if_neg (h k (by omega))]
theorem cnt_all {P : Nat → Prop} {k : Nat} (h : ∀ b, b < k → P b) : cnt P k = k := by
  induction k with
  | zero => rfl
  | succ k ih =>
    unfold cnt
    rw [ih fun b hb => h b (by omega), if_pos (h k (by omega))]
theorem cnt_congr {P Q : Nat → Prop} {k : Nat} (h : ∀ b, b < k → (P b ↔ Q b)) : cnt P k = cnt Q k := by
  induction k with
  | zero => rfl
  | succ k ih =>
    unfold cnt
    rw [ih fun b hb => h b (by omega)]
    by_cases h1 : P k
    · rw [if_pos h1, if_pos ((h k (by omega)).1 h1)]
    · rw [if_neg h1, if_neg fun e => h1 ((h k (by omega)).2 e)]
/-- Euclid's lemma. -/
theorem prime_mul {p x y : Int} (hp : md p) (h : (x * y) % p = 0) (hx : x % p ≠ 0) : y % p = 0 := by
  have hi := inv_spec hp (c := x) (by have := Int.emod_nonneg x (show p ≠ 0 by have := hp.1; omega); omega)
  obtain ⟨z, hz⟩ := of_rem h
  obtain ⟨w, hw⟩ := of_rem hi
  have e : y = p * (inv x p * z - w * y) := by
    generalize inv x p = I at *
    grind
  rw [e]
  exact Int.mul_emod_right _ _
/-- A polynomial, less its value at a, divided by x - a. -/
def sd (a : Int) : Nat → (Nat → Int) → Nat → Int
  | 0, _, _ => 0
  | n + 1, F, i => F (i + 1) + a * sd a n (fun j => F (j + 1)) i
theorem sd_big {a : Int} : ∀ {n : Nat} {F : Nat → Int}, (∀ j, n < j → F j = 0) → ∀ i, n ≤ i → sd a n F i = 0
  | 0, _, _, _, _ => rfl
  | n + 1, F, h, i, hi => by
    show F (i + 1) + a * sd a n (fun j => F (j + 1)) i = 0
    rw [h (i + 1) (by omega), sd_big (fun j hj => h (j + 1) (by omega)) i (by omega), Int.mul_zero]
    rfl
theorem sd_lead {a : Int} {n : Nat} {F : Nat → Int} (h : ∀ j, n + 1 < j → F j = 0) : sd a (n + 1) F n = F (n + 1) := by
  show F (n + 1) + a * sd a n (fun j => F (j + 1)) n = _
  rw [sd_big (fun j hj => h (j + 1) (by omega)) n (Nat.le_refl n), Int.mul_zero, Int.add_zero]
theorem pe_head (b : Int) (F : Nat → Int) (n : Nat) : pe b F (n + 1) = F 0 + b * pe b (fun j => F (j + 1)) n := by
  unfold pe
  rw [su_head, Int.pow_zero, Int.mul_one, ← su_mul]
  congr 1
  refine su_congr fun i _ => ?_
  rw [Int.pow_succ]
  grind
theorem sd_eq {a b : Int} : ∀ {n : Nat} {F : Nat → Int}, (∀ j, n < j → F j = 0) → pe b F (n + 1) - pe a F (n + 1) = (b - a) * pe b (sd a n F) n
  | 0, F, _ => by
    rw [pe_head, pe_head]
    show F 0 + b * 0 - (F 0 + a * 0) = (b - a) * 0
    omega
  | n + 1, F, h => by
    have ih := sd_eq (a := a) (b := b) (n := n) (F := fun j => F (j + 1)) fun j hj => h (j + 1) (by omega)
    rw [pe_head b F, pe_head a F]
    have e : pe b (sd a (n + 1) F) (n + 1) = pe b (fun j => F (j + 1)) (n + 1) + a * pe b (sd a n fun j => F (j + 1)) n := by
      have e1 : pe b (sd a n fun j => F (j + 1)) (n + 1) = pe b (sd a n fun j => F (j + 1)) n := by
        show pe b (sd a n fun j => F (j + 1)) n + sd a n (fun j => F (j + 1)) n * b ^ n = _
        rw [sd_big (fun j hj => h (j + 1) (by omega)) n (Nat.le_refl n), Int.zero_mul, Int.add_zero]
      rw [← e1]
      unfold pe
      rw [← su_mul, ← su_add]
      refine su_congr fun i _ => ?_
      show (F (i + 1) + a * sd a n (fun j => F (j + 1)) i) * b ^ i = _
      grind
    rw [e]
    generalize pe b (fun j => F (j + 1)) (n + 1) = x at *
    generalize pe a (fun j => F (j + 1)) (n + 1) = y at *
    generalize pe b (sd a n fun j => F (j + 1)) n = z at *
    grind
/-- No more roots than the degree. -/
theorem lagrange {p : Int} (hp : md p) : ∀ {n : Nat} {F : Nat → Int}, (∀ j, n < j → F j = 0) → F n % p ≠ 0 → cnt (fun b => pe b F (n + 1) % p = 0) p.toNat ≤ n
  | 0, F, _, hl => by
    rw [cnt_none fun b _ h => hl ?_]
    · exact Nat.le_refl 0
    · have h : pe b F 1 % p = 0 := h
      rw [pe_head] at h
      have h : (F 0 + (b : Int) * 0) % p = 0 := h
      rwa [Int.mul_zero, Int.add_zero] at h
  | n + 1, F, hz, hl => by
    by_cases hr : ∃ a : Nat, a < p.toNat ∧ pe a F (n + 1 + 1) % p = 0
    · obtain ⟨a, ha, hra⟩ := hr
      have ih := lagrange hp (n := n) (F := sd a (n + 1) F) (fun j hj => sd_big hz j hj) (by rw [sd_lead hz]; exact hl)
      have hpn : ((p.toNat : Nat) : Int) = p := Int.toNat_of_nonneg (by have := hp.1; omega)
      have key : cnt (fun b => b < p.toNat ∧ pe b F (n + 1 + 1) % p = 0) p.toNat ≤ cnt (fun b => pe b (sd a (n + 1) F) (n + 1) % p = 0) p.toNat + cnt (fun b => b = a) p.toNat := by
        refine cnt_le_add (fun b hb => ?_) _
        by_cases e : b = a
        · exact .inr e
        · left
          have e1 := sd_eq (a := a) (b := b) (n := n + 1) hz
          refine prime_mul hp (x := (b : Int) - a) ?_ ?_
          · rw [← e1, Int.sub_emod, hb.2, hra]
            rfl
          · intro h
            obtain ⟨z, hz⟩ := of_rem h
            have h1 : z = 0 := by
              rcases Int.lt_trichotomy z 0 with h2 | h2 | h2
              · have := Int.mul_le_mul_of_nonneg_left (show z ≤ -1 by omega) (show 0 ≤ p by have := hp.1; omega)
                omega
              · exact h2
              · have := Int.mul_le_mul_of_nonneg_left (show 1 ≤ z by omega) (show 0 ≤ p by have := hp.1; omega)
                omega
            rw [h1, Int.mul_zero] at hz
            omega
      have h1 := cnt_one a p.toNat
      rw [if_pos ha] at h1
      rw [cnt_congr (Q := fun b => b < p.toNat ∧ pe b F (n + 1 + 1) % p = 0) fun b hb => ⟨fun h => ⟨hb, h⟩, fun h => h.2⟩]
      omega
    · rw [cnt_none fun b hb h => hr ⟨b, hb, h⟩]
      exact Nat.zero_le _
-- the theorem of Fermat
theorem pw_const (c : Int) : ∀ n, pw (fun i => c * oneF i) n = fun i => c ^ n * oneF i
  | 0 => by
    funext i
    show oneF i = c ^ 0 * oneF i
    rw [Int.pow_zero, Int.one_mul]
  | n + 1 => by
    funext i
    show cf (fun i => c * oneF i) (pw (fun i => c * oneF i) n) i = _
    rw [cf_smul, cf_one, pw_const c n, Int.pow_succ]
    grind
theorem fermat {p : Int} (hp : md p) : ∀ a : Nat, ((a : Int) ^ p.toNat) % p = (a : Int) % p
  | 0 => by
    obtain ⟨n, hn⟩ : ∃ n, p.toNat = n + 1 := ⟨p.toNat - 1, by have := hp.1; omega⟩
    rw [hn, Int.pow_succ]
    show ((0 : Int) ^ n * 0) % p = 0 % p
    rw [Int.mul_zero]
  | a + 1 => by
    have h := frob hp (fun i => (a : Int) * oneF i) (fun i => (1 : Int) * oneF i) 0
    have e : (fun i => (a : Int) * oneF i + (1 : Int) * oneF i) = fun i => ((a + 1 : Nat) : Int) * oneF i := funext fun i => by
      rw [← Int.add_mul]
      rfl
    have e1 : ∀ c : Int, pw (fun i => c * oneF i) p.toNat 0 = c ^ p.toNat := fun c => by
      rw [pw_const]
      show c ^ p.toNat * 1 = _
      rw [Int.mul_one]
    rw [e] at h
    have h : pw (fun i => ((a + 1 : Nat) : Int) * oneF i) p.toNat 0 % p = (pw (fun i => (a : Int) * oneF i) p.toNat 0 + pw (fun i => (1 : Int) * oneF i) p.toNat 0) % p := h
    rw [e1, e1, e1, Int.one_pow, Int.add_emod, fermat hp a, ← Int.add_emod] at h
    exact h
-- values
open Classical in
/-- The value of a polynomial. -/
noncomputable def vl (b : Int) (F : Nat → Int) : Int := if h : Fin F then pe b F h.choose else 0
theorem vl_pe {b : Int} {F : Nat → Int} {n : Nat} (h : ∀ j, n ≤ j → F j = 0) : vl b F = pe b F n := by
  have hF : Fin F := ⟨n, h⟩
  unfold vl
  rw [dif_pos hF]
  have h2 := hF.choose_spec
  rcases Nat.le_total n hF.choose with h3 | h3
  · exact pe_more h h3
  · exact (pe_more h2 h3).symm
theorem vl_cg {p b : Int} {F G : Nat → Int} (fF : Fin F) (fG : Fin G) (h : Cg p F G) : vl b F % p = vl b G % p := by
  obtain ⟨n, hn⟩ := fF
  obtain ⟨m, hm⟩ := fG
  rw [vl_pe (n := n + m) fun j hj => hn j (by omega), vl_pe (n := n + m) fun j hj => hm j (by omega)]
  exact su_mod fun i _ => by rw [Int.mul_emod, h i, ← Int.mul_emod]
theorem vl_cf {b : Int} {F G : Nat → Int} (fF : Fin F) (fG : Fin G) : vl b (cf F G) = vl b F * vl b G := by
  obtain ⟨n, hn⟩ := fF
  obtain ⟨m, hm⟩ := fG
  rw [vl_pe hn, vl_pe hm, ← pe_cf hn hm]
  refine vl_pe fun j hj => su_zero fun i hi => ?_
  rcases Nat.lt_or_ge i n with h1 | h1
  · rw [hm (j - i) (by omega), Int.mul_zero]
  · rw [hn i h1, Int.zero_mul]
theorem vl_add {b : Int} {F G : Nat → Int} (fF : Fin F) (fG : Fin G) : vl b (fun i => F i + G i) = vl b F + vl b G := by
  obtain ⟨n, hn⟩ := fF
  obtain ⟨m, hm⟩ := fG
  rw [vl_pe (n := n + m) (F := F) fun j hj => hn j (by omega), vl_pe (n := n + m) (F := G) fun j hj => hm j (by omega), vl_pe (n := n + m) fun j hj => by rw [hn j (by omega), hm j (by omega)]; rfl]
  unfold pe
  rw [← su_add]
  exact su_congr fun i _ => Int.add_mul _ _ _
theorem vl_sub {b : Int} {F G : Nat → Int} (fF : Fin F) (fG : Fin G) : vl b (fun i => F i - G i) = vl b F - vl b G := by
  have h := vl_add (b := b) (fF.sub fG) fG
  have e : (fun i => F i - G i + G i) = F := funext fun i => by omega
  rw [e] at h
  omega
theorem vl_smul {b c : Int} {F : Nat → Int} (fF : Fin F) : vl b (fun i => c * F i) = c * vl b F := by
  obtain ⟨n, hn⟩ := fF
  rw [vl_pe hn, vl_pe (n := n) fun j hj => by rw [hn j hj, Int.mul_zero]]
  unfold pe
  rw [← su_mul]
  exact su_congr fun i _ => Int.mul_assoc _ _ _
/-- The polynomial x. -/
def XF : Nat → Int := fun i => if i = 1 then 1 else 0
theorem XF_fin : Fin XF := ⟨2, fun j hj => if_neg (by omega)⟩
theorem cf_X (F : Nat → Int) (k : Nat) : cf XF F (k + 1) = F k ∧ cf XF F 0 = 0 := by
  refine ⟨?_, ?_⟩
  · unfold cf
    rw [su_head, su_head]
    show (0 : Int) * _ + (1 * F (k + 1 - (0 + 1)) + su (fun i => XF (i + 1 + 1) * F (k + 1 - (i + 1 + 1))) k) = F k
    rw [su_zero fun i _ => by show (if i + 1 + 1 = 1 then (1 : Int) else 0) * _ = 0; rw [if_neg (by omega), Int.zero_mul], Int.zero_mul, Int.one_mul, show k + 1 - (0 + 1) = k by omega]
    omega
  · show 0 + XF 0 * F 0 = 0
    show 0 + 0 * F 0 = 0
    omega
theorem pw_X : ∀ n, pw XF n = fun i => if i = n then 1 else 0
  | 0 => rfl
  | n + 1 => by
    funext i
    show cf XF (pw XF n) i = _
    rw [pw_X n]
    cases i with
    | zero => rw [(cf_X _ 0).2, if_neg (by omega)]
    | succ i =>
      rw [(cf_X _ i).1]
      show (if i = n then (1 : Int) else 0) = if i + 1 = n + 1 then 1 else 0
      by_cases h : i = n
      · rw [if_pos h, if_pos (by omega)]
      · rw [if_neg h, if_neg (by omega)]
theorem vl_X (b : Int) : vl b XF = b := by
  rw [vl_pe (F := XF) (n := 2) fun j hj => if_neg (by omega)]
  show 0 + 0 * b ^ 0 + 1 * b ^ 1 = b
  rw [show b ^ 1 = b by rw [Int.pow_succ, Int.pow_zero, Int.one_mul]]
  omega
theorem vl_one (b : Int) : vl b oneF = 1 := by
  rw [vl_pe (F := oneF) (n := 1) fun j hj => if_neg (by omega)]
  show 0 + 1 * b ^ 0 = 1
  rw [Int.pow_zero]
  rfl
theorem vl_pw (b : Int) {F : Nat → Int} (fF : Fin F) : ∀ n, vl b (pw F n) = vl b F ^ n
  | 0 => by rw [Int.pow_zero]; exact vl_one b
  | n + 1 => by
    show vl b (cf F (pw F n)) = _
    rw [vl_cf fF (pw_fin fF n), vl_pw b fF n, Int.pow_succ, Int.mul_comm]
/-- x ^ p - x is 0 everywhere. -/
theorem vl_frob {p : Int} (hp : md p) (b : Nat) : vl b (fun i => pw XF p.toNat i - XF i) % p = 0 := by
  rw [vl_sub (pw_fin XF_fin _) XF_fin, vl_pw _ XF_fin, vl_X, Int.sub_emod, fermat hp b, Int.sub_self]
  rfl
/-- A divisor of x ^ p - x has as many roots as its degree says. -/
theorem split {p : Int} (hp : md p) {k : Nat} {D E : Nat → Int} (hD : ∀ j, k < j → D j = 0) (hl : D k % p ≠ 0) (fE : Fin E) (h : Cg p (fun i => pw XF p.toNat i - XF i) (cf E D)) : cnt (fun b => vl b D % p = 0) p.toNat = k := by
  have hp0 : 0 < p := by have := hp.1; omega
  obtain ⟨n, hn⟩ := fE
  have hE : ∀ i, (fun i => E i % p) i % p = E i % p := fun i => Int.emod_emod _ _
  have hz : ∀ j, tl (fun i => E i % p) n ≤ j → (fun i => E i % p) j = 0 := tl_behind fun i hi => by show E i % p = 0; rw [hn i hi]; exact Int.zero_emod p
  have hlast : 0 < tl (fun i => E i % p) n → (fun i => E i % p) (tl (fun i => E i % p) n - 1) ≠ 0 := tl_last
  have hr : ∀ i, 0 ≤ (fun i => E i % p) i ∧ (fun i => E i % p) i < p := fun i => ⟨Int.emod_nonneg _ (by omega), Int.emod_lt_of_pos _ hp0⟩
  have h2 : Cg p (fun i => pw XF p.toNat i - XF i) (cf (fun i => E i % p) D) := h.trans (Cg.cf (fun i => (hE i).symm) (Cg.refl D))
  generalize tl (fun i => E i % p) n = e at *
  generalize (fun i => E i % p) = G at *
  have hP : 2 ≤ p.toNat := by have := hp.1; omega
  -- the coefficient of x ^ p
  have hc : ∀ i, (pw XF p.toNat i - XF i) % p = cf G D i % p := h2
  have h0 : 0 < e := Nat.pos_of_ne_zero fun e0 => by
    have := hc p.toNat
    rw [pw_X, show cf G D p.toNat = 0 from su_zero fun i _ => by rw [hz i (by omega), Int.zero_mul]] at this
    have : ((if p.toNat = p.toNat then (1 : Int) else 0) - (if p.toNat = 1 then 1 else 0)) % p = 0 % p := this
    rw [if_pos rfl, if_neg (by omega), Int.zero_emod, Int.sub_zero, Int.emod_eq_of_lt (by omega) (by have := hp.1; omega)] at this
    exact absurd this (by decide)
  have top : cf G D (e - 1 + k) = G (e - 1) * D k := by
    have e2 : ∀ t, e - 1 < t → su (fun i => G i * D (e - 1 + k - i)) t = G (e - 1) * D k := by
      intro t
      induction t with
      | zero => intro h; omega
      | succ t ih =>
        intro ht
        show su (fun i => G i * D (e - 1 + k - i)) t + G t * D (e - 1 + k - t) = _
        by_cases e3 : t = e - 1
        · rw [e3, su_zero fun i hi => by rw [hD _ (by omega), Int.mul_zero], Int.zero_add, show e - 1 + k - (e - 1) = k by omega]
        · rw [ih (by omega), hz t (by omega), Int.zero_mul, Int.add_zero]
    exact e2 _ (by omega)
  have big : ∀ j, e - 1 + k < j → cf G D j = 0 := fun j hj => su_zero fun i hi => by
    rcases Nat.lt_or_ge i e with h1 | h1
    · rw [hD (j - i) (by omega), Int.mul_zero]
    · rw [hz i h1, Int.zero_mul]
  have hne : cf G D (e - 1 + k) % p ≠ 0 := by
    rw [top]
    intro h3
    refine hl (prime_mul hp h3 ?_)
    rw [Int.emod_eq_of_lt (hr _).1 (hr _).2]
    exact hlast h0
  have h3 : p.toNat ≤ e - 1 + k := Nat.le_of_not_lt fun h4 => by
    have := hc p.toNat
    rw [pw_X, big _ h4] at this
    have : ((if p.toNat = p.toNat then (1 : Int) else 0) - (if p.toNat = 1 then 1 else 0)) % p = 0 % p := this
    rw [if_pos rfl, if_neg (by omega), Int.zero_emod, Int.sub_zero, Int.emod_eq_of_lt (by omega) (by have := hp.1; omega)] at this
    exact absurd this (by decide)
  have h4 : e - 1 + k = p.toNat := by
    refine Decidable.byContradiction fun h5 => hne ?_
    rw [← hc, pw_X]
    show ((if e - 1 + k = p.toNat then (1 : Int) else 0) - (if e - 1 + k = 1 then 1 else 0)) % p = 0
    rw [if_neg h5, if_neg (by omega)]
    exact Int.zero_emod p
  -- the roots
  have fG : Fin G := ⟨e, hz⟩
  have fD : Fin D := ⟨k + 1, fun j hj => hD j (by omega)⟩
  have hall : ∀ b, (fun _ : Nat => True) b → (vl (b : Int) G % p = 0) ∨ (vl (b : Int) D % p = 0) := fun b _ => by
    have h5 := vl_frob hp b
    rw [vl_cg ((pw_fin XF_fin _).sub XF_fin) (fG.cf fD) h2, vl_cf fG fD] at h5
    by_cases h6 : vl (b : Int) G % p = 0
    · exact .inl h6
    · exact .inr (prime_mul hp h5 h6)
  have k1 := cnt_le_add hall p.toNat
  rw [cnt_all fun _ _ => trivial] at k1
  have k2 := lagrange hp (n := e - 1) (F := G) (fun j hj => hz j (by omega)) (by rw [Int.emod_eq_of_lt (hr _).1 (hr _).2]; exact hlast h0)
  rw [cnt_congr (Q := fun b => vl (b : Int) G % p = 0) fun b _ => by rw [vl_pe (n := e - 1 + 1) fun j hj => hz j (by omega)]] at k2
  have k3 := lagrange hp (n := k) (F := D) hD hl
  rw [cnt_congr (Q := fun b => vl (b : Int) D % p = 0) fun b _ => by rw [vl_pe (n := k + 1) fun j hj => hD j (by omega)]] at k3
  omega
abbrev XL : L := (2, XF)
theorem NL.X {p : Int} (hp : md p) : NL p XL := ⟨by show 2 ≤ 4096; omega, fun i => by
  show 0 ≤ (if i = 1 then (1 : Int) else 0) ∧ (if i = 1 then (1 : Int) else 0) < p
  have := hp.1
  split <;> omega, fun j hj => if_neg (by have hj : 2 ≤ j := hj; omega), rfl⟩
theorem al3 {p g r f x y k z1 z2 z3 z4 : Int} (h2 : g = r - y + p * z1) (h3 : r = x + k * f + p * z2) (h : f = 0 + p * z4) (hx : x - y = 0 + p * z3) : g = p * (z1 + z2 + z3 + k * z4) := by grind
/-- The degree of the greatest common divisor of f and x ^ p - x is the number of roots of f. -/
theorem gcd_roots {p : Int} {f r : L} (hp : md p) (hf : NL p f) (h0 : 0 < f.1) (hl : f.1 ≤ 256) (hr : Rp p f (pw XF p.toNat) r) : (moL p (xgr p f (subL p r XL)).1).1 = cnt (fun b => vl b f.2 % p = 0) p.toNat + 1 := by
  have hX := NL.X hp
  have hg : NL p (subL p r XL) := hr.n.sub hp hX
  have hgl : (subL p r XL).1 ≤ 512 := Nat.le_trans (subL_le p r XL) (by have := hr.s; show max r.1 2 ≤ 512; omega)
  have hgc : Cg p (subL p r XL).2 fun i => r.2 i - XF i := sub_cg r XL
  generalize subL p r XL = g at *
  have hs := XI.start hp hf hg (by omega)
  obtain ⟨s', v', hI, _, hr0⟩ := xg_end hp hgl g.1 hs (Nat.le_refl _) (.inl h0)
  obtain ⟨A, B, fA, fB, hA, hB⟩ := xg_div hp hgl g.1 hs (Nat.le_refl _)
  obtain ⟨W, fW, hW⟩ := xg_bez hp hgl (f := f.2) (g := g.2) g.1 (W := fun _ => 0) (W' := oneF) hs (Nat.le_refl _) Fin.nil Fin.one (by
    show Cg p (fun k => cf oneF f.2 k + cf (fun _ => 0) g.2 k) f.2
    rw [cf_one, cf_nil]
    intro k
    show (f.2 k + 0) % p = _
    rw [Int.add_zero]) (by
    show Cg p (fun k => cf (fun _ => 0) f.2 k + cf oneF g.2 k) g.2
    rw [cf_one, cf_nil]
    intro k
    show (0 + g.2 k) % p = _
    rw [Int.zero_add])
  have hrn := hI.hr
  have hu := hI.hu
  show (moL p (xg p g.1 f g one1 nil0).1).1 = _
  generalize (xg p g.1 f g one1 nil0).1 = q at *
  generalize (xg p g.1 f g one1 nil0).2 = u at *
  have hlq := hrn.l hr0
  have hrr := hrn.r (q.1 - 1)
  have hc : (inv (q.2 (q.1 - 1)) p * q.2 (q.1 - 1)) % p = 1 := inv_spec hp (by
    rw [Int.emod_eq_of_lt hrr.1 hrr.2]; omega)
  have hdl : (moL p q).1 = q.1 := tl_full fun _ => by
    show sc p _ q.2 _ ≠ 0
    unfold sc
    rw [Int.mul_emod, Int.emod_emod, ← Int.mul_emod, hc]
    decide
  rw [hdl]
  -- in values
  obtain ⟨K, fK, hK⟩ := hr.c
  have ff := Nm.fin hf
  have fg := Nm.fin hg
  have fq := Nm.fin hrn
  have fu := Nm.fin hu
  have fr := Nm.fin hr.n
  have fN := (pw_fin XF_fin p.toNat).sub XF_fin
  have e : cnt (fun b => vl b q.2 % p = 0) p.toNat = q.1 - 1 := by
    refine split hp (E := fun i => B i - cf K A i) (fun j hj => hrn.z j (by omega)) (by rw [Int.emod_eq_of_lt hrr.1 hrr.2]; exact hlq) (fB.sub (fK.cf fA)) fun i => ?_
    rw [cf_sub', cf_asc]
    have h1 := (Cg.refl K).cf hA i
    obtain ⟨z1, h1⟩ := of_mod h1
    obtain ⟨z2, h2⟩ := of_mod (hB i)
    obtain ⟨z3, h3⟩ := of_mod (hgc i)
    obtain ⟨z4, h4⟩ := of_mod (hK i)
    have h3 : g.2 i = r.2 i - XF i + p * z3 := h3
    have h4 : r.2 i = pw XF p.toNat i + cf K f.2 i + p * z4 := h4
    show (pw XF p.toNat i - XF i) % p = (cf B q.2 i - cf K (cf A q.2) i) % p
    refine mod_of (z2 - z3 - z4 - z1) ?_
    rw [Int.mul_sub, Int.mul_sub, Int.mul_sub]
    omega
  rw [cnt_congr (Q := fun b => vl b q.2 % p = 0) fun b _ => ⟨fun h => ?_, fun h => ?_⟩, e]
  · omega
  · -- a root of f
    have hx := vl_frob hp b
    have h1 := vl_cg (b := (b : Int)) ((fu.cf ff).add (fW.cf fg)) fq hW
    rw [vl_add (fu.cf ff) (fW.cf fg), vl_cf fu ff, vl_cf fW fg] at h1
    have hg1 : vl (b : Int) g.2 % p = 0 := by
      have h2 := vl_cg (b := (b : Int)) fg (fr.sub XF_fin) hgc
      rw [vl_sub fr XF_fin] at h2
      have h3 := vl_cg (b := (b : Int)) fr ((pw_fin XF_fin p.toNat).add (fK.cf ff)) hK
      rw [vl_add (pw_fin XF_fin _) (fK.cf ff), vl_cf fK ff] at h3
      rw [vl_sub (pw_fin XF_fin _) XF_fin] at hx
      obtain ⟨z1, h2⟩ := of_mod h2
      obtain ⟨z2, h3⟩ := of_mod h3
      obtain ⟨z3, hx⟩ := of_rem hx
      obtain ⟨z4, h⟩ := of_rem h
      have e5 : vl (b : Int) g.2 = p * (z1 + z2 + z3 + vl b K * z4) := by
        exact al3 h2 h3 h hx
      rw [e5]
      exact Int.mul_emod_right _ _
    obtain ⟨z1, hg1⟩ := of_rem hg1
    obtain ⟨z2, h⟩ := of_rem h
    obtain ⟨z3, h1⟩ := of_mod h1
    have e5 : vl (b : Int) q.2 = p * (vl (b : Int) u.2 * z2 + vl (b : Int) W * z1 - z3) := by
      rw [hg1, h] at h1
      generalize vl (b : Int) u.2 = x1 at *
      generalize vl (b : Int) W = x2 at *
      grind
    rw [e5]
    exact Int.mul_emod_right _ _
  · have h1 := vl_cg (b := (b : Int)) ff (fA.cf fq) hA
    rw [vl_cf fA fq, Int.mul_emod, h, Int.mul_zero, Int.zero_emod] at h1
    exact h1
end Fp
end Go.Proofs.YtmfaipklhkgieaaGreat
