/- The law CyclotomicRoots over abstract arguments; elements that the laws' test lets by. -/
import Derived.Test.YtmbejakmeijcbaaGreatZg14
import Derived.Test.YtmbejakmeijcbaaGreatZg15
namespace Go.Proofs.YtmbejakmeijcbaaGreat
open Go.RowKit
namespace Rf
theorem okd_small {a : RawR} (h : dgq a) (h' : okd a) : a.val.den ≤ 4294967296 ∧ a.val.num.natAbs ≤ 4294967296 := by
 have f : a.Fit 1 := ⟨h.1, h.2, h'.1, h'.2⟩
 have hz := lenZ (f.qlen (Nat.le_refl _))
 have h1 := zlen_lt a.val.num
 have h2 := zlen_lt (a.val.den : Int)
 have p : ∀ z, z ≤ 1 → Dg.B ^ z ≤ 4294967296 := fun z hz => by
  match z, hz with
  | 0, _ => decide
  | 1, _ => decide
 have := p _ hz.1
 have := p _ hz.2
 have e : ((a.val.den : Int)).natAbs = a.val.den := Int.natAbs_natCast _
 omega
theorem okd_wq {a : RawR} (h : dgq a) (h' : okd a) : wq a := by
 have f : a.Fit 1 := ⟨h.1, h.2, h'.1, h'.2⟩
 have z1 := f.zn
 have z2 := f.zd
 exact ⟨⟨⟨h.1, by have := h'.1; omega⟩, ⟨h.2, by have := h'.2; omega⟩⟩, by omega, by omega⟩
theorem qx_small15 {n : Nat} {q : Nat → RawR} (hq : ∀ j, j < n → dgq (q j)) (h : ∀ j, j < n → okd (q j)) (i : Nat) : (Q.qx n (fun i => (q i).val) i).den ≤ 4294967296 ∧ (Q.qx n (fun i => (q i).val) i).num.natAbs ≤ 4294967296 := by
 unfold Q.qx
 split
 ·rename_i hi
  exact okd_small (hq i hi) (h i hi)
 ·exact ⟨by decide, by decide⟩
theorem pow_words (k : Nat) : 4294967296 ^ k = 2 ^ (32 * k) := by
 rw [show (4294967296 : Nat) = 2 ^ 32 from rfl, ← Nat.pow_mul]
theorem pow_word_succ (k : Nat) : 4294967296 * 4294967296 ^ k = 2 ^ (32 * (k + 1)) := by rw [← pow_words, Nat.pow_succ, Nat.mul_comm]
theorem pair15 {n m : Nat} {q p : Nat → RawR} (hq : ∀ j, j < n → dgq (q j)) (hp : ∀ j, j < m → dgq (p j)) (hn : n ≤ 16) (hm : m ≤ 16) (oq : ∀ j, j < n → okd (q j)) (op : ∀ j, j < m → okd (p j)) : ∃ D, 0 < D ∧ D ≤ 2 ^ (32 * 32) ∧ Ev n q (Q.qx n fun i => (q i).val) D (32 * (32 + 1)) ∧ Ev m p (Q.qx m fun i => (p i).val) D (32 * (32 + 1)) := by
 have fq : Q.Fin 16 (Q.qx n fun i => (q i).val) := (Q.qx_fin _ _).mono hn
 have fp : Q.Fin 16 (Q.qx m fun i => (p i).val) := (Q.qx_fin _ _).mono hm
 have tq := qx_small15 hq oq
 have tp := qx_small15 hp op
 have eq : ∀ i, i < n → (q i).Fit KD := fun i hi => ⟨(hq i hi).1, (hq i hi).2, Nat.le_trans (oq i hi).1 (by decide), Nat.le_trans (oq i hi).2 (by decide)⟩
 have ep : ∀ i, i < m → (p i).Fit KD := fun i hi => ⟨(hp i hi).1, (hp i hi).2, Nat.le_trans (op i hi).1 (by decide), Nat.le_trans (op i hi).2 (by decide)⟩
 obtain ⟨D, d0, d1, d2⟩ := Q.common 4294967296 (by decide) (fun i => if i < 16 then Q.qx n (fun i => (q i).val) i else Q.qx m (fun i => (p i).val) (i - 16)) 32 fun i _ => by
  show (if i < 16 then Q.qx n (fun i => (q i).val) i else Q.qx m (fun i => (p i).val) (i - 16)).den ≤ 4294967296 ∧ (if i < 16 then Q.qx n (fun i => (q i).val) i else Q.qx m (fun i => (p i).val) (i - 16)).num.natAbs ≤ 4294967296
  split
  ·exact tq i
  ·exact tp (i - 16)
 have e1 := pow_words 32
 have e2 := pow_word_succ 32
 rw [e1] at d1
 rw [e2] at d2
 refine ⟨D, d0, d1, ⟨rfl, by omega, eq, fun k => ?_⟩, ⟨rfl, by omega, ep, fun k => ?_⟩⟩
 ·rcases Nat.lt_or_ge k 16 with a | a
  ·have := d2 k (by omega)
   rwa [if_pos a] at this
  ·rw [fq k a]; exact Bd.zero _ _
 ·rcases Nat.lt_or_ge k 16 with a | a
  ·have := d2 (k + 16) (by omega)
   rwa [if_neg (by omega), show k + 16 - 16 = k by omega] at this
  ·rw [fp k a]; exact Bd.zero _ _
end Rf
end Go.Proofs.YtmbejakmeijcbaaGreat
