/- The ring of rests modulo a monic polynomial, and the matrices of its multiplications. No condition. -/
import Derived.Test.YtigciplaoikcfaaGreatQp
namespace Go.Proofs.YtigciplaoikcfaaGreat
namespace Q
/-- The power of the letter. -/
def xp (i k : Nat) : Rat := if k = i then 1 else 0
theorem xp_fin (i : Nat) : Fin (i + 1) (xp i) := fun k hk => if_neg (by omega)
theorem cf_xp (i : Nat) (f : Nat → Rat) (k : Nat) : cf (xp i) f k = if i ≤ k then f (k - i) else 0 := by
  have := cf_mono 1 i f k
  rw [show cf (xp i) f k = cf (fun j => if j = i then (1 : Rat) else 0) f k from rfl, this]
  split
  · rw [Rat.one_mul]
  · rfl
theorem xp_add (i j k : Nat) : cf (xp i) (xp j) k = xp (i + j) k := by
  rw [cf_xp]
  unfold xp
  by_cases h : i ≤ k
  · rw [if_pos h]
    by_cases e : k = i + j
    · rw [if_pos (by omega), if_pos e]
    · rw [if_neg (by omega), if_neg e]
  · rw [if_neg h, if_neg (by omega)]
theorem cf_one (A : Nat → Rat) (k : Nat) : cf A (xp 0) k = A k := by
  rw [cf_comm, cf_xp, if_pos (Nat.zero_le _), Nat.sub_zero]
theorem cf_xp_next (A : Nat → Rat) (i k : Nat) : cf (cf A (xp i)) (xp 1) k = cf A (xp (i + 1)) k := by
  have := cf_assoc A (xp i) (xp 1) k
  rw [show cf (cf A (xp i)) (xp 1) k = cf (fun j => cf A (xp i) j) (xp 1) k from rfl, this]
  exact cf_congr (fun _ => rfl) (xp_add i 1) k
theorem Rm.mul' {n m : Nat} {f p r g s : Nat → Rat} (h : Rm n f p r) (hg : Fin m g) (h' : Rm n f (cf g r) s) : Rm n f (cf g p) s := by
  have := h.mul hg (h'.congr fun k => cf_comm g r k)
  exact this.congr fun k => cf_comm p g k
theorem Rm.trans_eq {n : Nat} {f p r s : Nat → Rat} (h : Rm n f p r) (e : ∀ k, r k = s k) : Rm n f p s := by
  have : r = s := funext e
  rwa [← this]
/-- Sums of rests. -/
theorem Rm.su {n : Nat} {f : Nat → Rat} {P R : Nat → Nat → Rat} (c : Nat → Rat) (h : ∀ k, Rm n f (P k) (R k)) : ∀ m, Rm n f (fun j => su (fun k => c k * P k j) m) fun j => su (fun k => c k * R k j) m
  | 0 => Rm.self fun _ _ => rfl
  | m + 1 => (Rm.su c h m).add ((h m).smul (c m))
/-- The rows of a multiplication matrix: each the one before, times the letter. -/
structure Rws (n : Nat) (f A g : Nat → Rat) (a : Nat → Nat → Rat) : Prop where
  first : Rm n f A (a 0)
  next : ∀ i, Rm n f (cf (a i) g) (a (i + 1))
theorem Rws.row {n : Nat} {f A g : Nat → Rat} {a : Nat → Nat → Rat} (h : Rws n f A g a) (hg : Rm n f (xp 1) g) : ∀ i, Rm n f (cf A (xp i)) (a i)
  | 0 => h.first.congr fun k => (cf_one A k).symm
  | i + 1 => by
    have h1 := h.row hg i
    have h2 := hg.mul' h1.1 (h.next i)
    exact (h1.mul (xp_fin 1) h2).congr fun k => cf_xp_next A i k
theorem su_cf {n : Nat} {u B : Nat → Rat} (hu : Fin n u) (j : Nat) : su (fun k => u k * cf B (xp k) j) n = cf u B j := by
  have h1 : su (fun k => u k * cf B (xp k) j) n = su (fun k => if k ≤ j then u k * B (j - k) else 0) n := su_congr fun k hk => by
    rw [cf_comm, cf_xp]
    split
    · rfl
    · rw [Rat.mul_zero]
  have h2 : cf u B j = su (fun k => if k ≤ j then u k * B (j - k) else 0) (j + 1) := su_congr fun i hi => (if_pos (by omega)).symm
  rw [h1, h2]
  have z : ∀ i, min n (j + 1) ≤ i → (if i ≤ j then u i * B (j - i) else 0) = 0 := fun i hi => by
    split
    · rw [hu i (by omega), Rat.zero_mul]
    · rfl
  rw [su_more z (Nat.min_le_left _ _), su_more z (Nat.min_le_right _ _)]
/-- **The matrix of a product is the product of the matrices.** -/
theorem matrix_mul {n m : Nat} {f A B g ab : Nat → Rat} {a b x : Nat → Nat → Rat} (hf : Mon n f) (hB : Fin m B) (hg : Rm n f (xp 1) g) (ha : Rws n f A g a) (hb : Rws n f B g b) (hab : Rm n f (cf A B) ab) (hx : Rws n f ab g x) (i j : Nat) : x i j = su (fun k => a i k * b k j) n := by
  have h1 := ha.row hg i
  have h2 := Rm.su (a i) (fun k => hb.row hg k) n
  have h3 : Rm n f (cf (a i) B) fun j => su (fun k => a i k * b k j) n := h2.congr fun k => su_cf h1.1 k
  have h4 := h1.mul hB h3
  have h5 := hab.mul (xp_fin i) (hx.row hg i)
  refine (h5.eq hf (h4.congr fun k => ?_)) j
  have e1 := cf_assoc A (xp i) B k
  have e2 := cf_assoc A B (xp i) k
  rw [show cf (cf A (xp i)) B k = cf (fun j => cf A (xp i) j) B k from rfl, e1, show cf (cf A B) (xp i) k = cf (fun j => cf A B j) (xp i) k from rfl, e2]
  exact cf_congr (fun _ => rfl) (fun l => cf_comm (xp i) B l) k
/-- The square of a sum. -/
theorem square_sum {n m : Nat} {f A B one sq aa ab ba bb two s1 s2 : Nat → Rat} (hf : Mon n f) (hA : Fin m A) (hB : Fin m B)
    (h1 : Rm n f (fun k => A k + B k) one) (h2 : Rm n f (cf one one) sq) (h3 : Rm n f (cf A A) aa) (h4 : Rm n f (cf A B) ab) (h5 : Rm n f (cf B A) ba) (h6 : Rm n f (cf B B) bb)
    (h7 : Rm n f (fun k => ab k + ba k) two) (h8 : Rm n f (fun k => aa k + two k) s1) (h9 : Rm n f (fun k => s1 k + bb k) s2) : (∀ k, sq k = s2 k) ∧ ∀ k, ab k = ba k := by
  have hAB : Fin m fun k => A k + B k := hA.add hB
  refine ⟨?_, h4.eq hf (h5.congr fun k => cf_comm B A k)⟩
  have g1 : Rm n f (cf (fun k => A k + B k) fun k => A k + B k) sq := h1.mul hAB (h1.mul' h1.1 h2)
  have e7 := h7.eq hf (Rm.self (h4.1.add h5.1))
  have e8 := h8.eq hf (Rm.self (h3.1.add h7.1))
  have e9 := h9.eq hf (Rm.self (h8.1.add h6.1))
  have g2 := ((h3.add (h4.add h5)).add h6)
  refine g1.eq hf ((g2.congr fun k => ?_).trans_eq fun k => ?_)
  · rw [cf_add_left, cf_add, cf_add]
    grind
  · show aa k + (ab k + ba k) + bb k = s2 k
    rw [e9, e8, e7]
end Q
end Go.Proofs.YtigciplaoikcfaaGreat
