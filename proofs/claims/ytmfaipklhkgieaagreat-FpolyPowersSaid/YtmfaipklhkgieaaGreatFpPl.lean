/- Powers modulo a polynomial, plain. -/
import Derived.Test.YtmfaipklhkgieaaGreatFpX
namespace Go.Proofs.YtmfaipklhkgieaaGreat
namespace Fp
/-- The same modulo p and modulo a polynomial. -/
def Cm (p : Int) (m A B : Nat → Int) : Prop := ∃ K, Fin K ∧ Cg p A fun k => B k + cf K m k
theorem Cm.of {p : Int} {m A B : Nat → Int} (h : Cg p A B) : Cm p m A B := ⟨fun _ => 0, Fin.nil, h.trans fun k => by
  show B k % p = (B k + cf (fun _ => 0) m k) % p
  rw [cf_nil, Int.add_zero]⟩
theorem Cm.symm {p : Int} {m A B : Nat → Int} (h : Cm p m A B) : Cm p m B A := by
  obtain ⟨K, fK, h⟩ := h
  refine ⟨fun k => 0 - K k, Fin.nil.sub fK, fun k => ?_⟩
  dsimp only
  rw [cf_sub', cf_nil]
  dsimp only
  obtain ⟨z, hz⟩ := of_mod (h k)
  have hz : A k = B k + cf K m k + p * z := hz
  exact mod_of (-z) (by rw [Int.mul_neg]; omega)
theorem Cm.trans {p : Int} {m A B C : Nat → Int} (h : Cm p m A B) (h2 : Cm p m B C) : Cm p m A C := by
  obtain ⟨K, fK, h⟩ := h
  obtain ⟨J, fJ, h2⟩ := h2
  refine ⟨fun k => K k + J k, fK.add fJ, fun k => ?_⟩
  dsimp only
  rw [cf_add']
  obtain ⟨z, hz⟩ := of_mod (h k)
  obtain ⟨y, hy⟩ := of_mod (h2 k)
  have hz : A k = B k + cf K m k + p * z := hz
  have hy : B k = C k + cf J m k + p * y := hy
  exact mod_of (z + y) (by rw [Int.mul_add]; omega)
theorem Cm.add {p : Int} {m A B C D : Nat → Int} (h : Cm p m A B) (h2 : Cm p m C D) : Cm p m (fun k => A k + C k) fun k => B k + D k := by
  obtain ⟨K, fK, h⟩ := h
  obtain ⟨J, fJ, h2⟩ := h2
  refine ⟨fun k => K k + J k, fK.add fJ, fun k => ?_⟩
  dsimp only
  rw [cf_add']
  obtain ⟨z, hz⟩ := of_mod (h k)
  obtain ⟨y, hy⟩ := of_mod (h2 k)
  have hz : A k = B k + cf K m k + p * z := hz
  have hy : C k = D k + cf J m k + p * y := hy
  exact mod_of (z + y) (by rw [Int.mul_add]; omega)
theorem Cm.mulr {p : Int} {m A B C : Nat → Int} (fC : Fin C) (h : Cm p m A B) : Cm p m (cf C A) (cf C B) := by
  obtain ⟨K, fK, h⟩ := h
  refine ⟨cf C K, fC.cf fK, ((Cg.refl C).cf h).trans fun k => ?_⟩
  rw [cf_add, cf_asc]
theorem Cm.mul {p : Int} {m A B C D : Nat → Int} (fA : Fin A) (fD : Fin D) (h : Cm p m A B) (h2 : Cm p m C D) : Cm p m (cf A C) (cf B D) := by
  refine (h2.mulr fA).trans ?_
  rw [cf_com A D, cf_com B D]
  exact h.mulr fD
/-- A list is the rest of a polynomial. -/
structure Rp (p : Int) (m : L) (F : Nat → Int) (r : L) : Prop where
  n : NL p r
  s : r.1 < m.1
  c : Cm p m.2 r.2 F
theorem Rp.rest {p : Int} {m x : L} (hp : md p) (hm : NL p m) (h0 : 0 < m.1) (hx : NL p x) : Rp p m x.2 (rstL p x m) := by
  obtain ⟨h1, h2⟩ := hx.rst hp hm h0
  refine ⟨h1, h2, Cm.symm ⟨_, Nm.fin (hx.quo hp hm h0), (div_cg hp hx hm h0).trans fun k => ?_⟩⟩
  show (cf (quoL p x m).2 m.2 k + (rstL p x m).2 k) % p = ((rstL p x m).2 k + cf (quoL p x m).2 m.2 k) % p
  rw [Int.add_comm]
theorem lead_inv {p : Int} {m : L} (hp : md p) (hm : NL p m) (h0 : 0 < m.1) : (inv (m.2 (m.1 - 1)) p * m.2 (m.1 - 1)) % p = 1 % p := by
  have h1 := hm.l h0
  have h2 := hm.r (m.1 - 1)
  rw [inv_spec hp (by rw [Int.emod_eq_of_lt h2.1 h2.2]; omega), Int.emod_eq_of_lt (by omega) (by have := hp.1; omega)]
theorem Rp.eq {p : Int} {m r s : L} {F : Nat → Int} (hp : md p) (hm : NL p m) (h : Rp p m F r) (h2 : Rp p m F s) : r = s := by
  have h0 : 0 < m.1 := by have := h.s; omega
  obtain ⟨K, fK, hK⟩ := h.c.trans h2.c.symm
  have hz : Cg p K fun _ => 0 := no_multiple fK hm.z h0 (lead_inv hp hm h0) (R := fun k => r.2 k - s.2 k) (fun j hj => by
    show r.2 j - s.2 j = 0
    rw [h.n.z j (by have := h.s; omega), h2.n.z j (by have := h2.s; omega)]
    rfl) fun k => by
    obtain ⟨z, hz⟩ := of_mod (hK k)
    have hz : r.2 k = s.2 k + cf K m.2 k + p * z := hz
    show cf K m.2 k % p = (r.2 k - s.2 k) % p
    exact mod_of (-z) (by rw [Int.mul_neg]; omega)
  have e : Cg p (fun k => s.2 k + cf K m.2 k) fun k => s.2 k + cf (fun _ => 0) m.2 k := (Cg.refl s.2).add (hz.cf (Cg.refl m.2))
  refine Nm.eq h.n h2.n (hK.trans (e.trans fun k => ?_))
  dsimp only
  rw [cf_nil, Int.add_zero]
theorem Rp.of {p : Int} {m r : L} {F G : Nat → Int} (h : Rp p m F r) (hc : Cm p m.2 F G) : Rp p m G r := ⟨h.n, h.s, h.c.trans hc⟩
theorem Rp.mul {p : Int} {m r s : L} {F G : Nat → Int} (hp : md p) (hm : NL p m) (fG : Fin G) (hl : m.1 ≤ 1024) (h : Rp p m F r) (h2 : Rp p m G s) : Rp p m (cf F G) (rstL p (mulL p r s) m) ∧ NL p (mulL p r s) := by
  have h0 : 0 < m.1 := by have := h.s; omega
  have hx : NL p (mulL p r s) := NL.mul hp h2.n (by have := h.s; have := h2.s; omega)
  exact ⟨(Rp.rest hp hm h0 hx).of ((Cm.of (pr_cf h.n)).trans (Cm.mul (Nm.fin h.n) fG h.c h2.c)), hx⟩
/-- Powers. -/
def pw (F : Nat → Int) : Nat → Nat → Int
  | 0 => oneF
  | n + 1 => cf F (pw F n)
theorem pw_fin {F : Nat → Int} (h : Fin F) : ∀ n, Fin (pw F n)
  | 0 => Fin.one
  | n + 1 => h.cf (pw_fin h n)
theorem pw_add (F : Nat → Int) (b : Nat) : ∀ a, pw F (a + b) = cf (pw F a) (pw F b)
  | 0 => by rw [Nat.zero_add]; exact (cf_one _).symm
  | a + 1 => by
    rw [show a + 1 + b = a + b + 1 by omega]
    show cf F (pw F (a + b)) = cf (cf F (pw F a)) (pw F b)
    rw [pw_add F b a, cf_asc]
theorem pw_one (F : Nat → Int) : pw F 1 = F := by
  show cf F oneF = F
  rw [cf_com, cf_one]
theorem rp_pow {p : Int} {m f : L} (hp : md p) (hm : NL p m) (h0 : 0 < m.1) (hl : m.1 ≤ 1024) (hf : NL p f) : ∀ e, ∃ r, Rp p m (pw f.2 e) r
  | 0 => ⟨_, Rp.rest hp hm h0 (NL.one hp)⟩
  | e + 1 => by
    obtain ⟨r, hr⟩ := rp_pow hp hm h0 hl hf e
    exact ⟨_, ((Rp.rest hp hm h0 hf).mul hp hm (pw_fin (Nm.fin hf) e) hl hr).1⟩
/-- Binary digits, and the numbers that they make. -/
def bs (b : Nat → Nat) (k : Nat) : Nat → Nat
  | 0 => 0
  | n + 1 => bs b k n + b (k + n) * 2 ^ n
theorem bs_low (b : Nat → Nat) (k : Nat) : ∀ n, bs b k (n + 1) = b k + 2 * bs b (k + 1) n
  | 0 => by simp [bs]
  | n + 1 => by
    show bs b k (n + 1) + b (k + (n + 1)) * 2 ^ (n + 1) = b k + 2 * (bs b (k + 1) n + b (k + 1 + n) * 2 ^ n)
    rw [bs_low b k n, show k + (n + 1) = k + 1 + n by omega, Nat.pow_succ, Nat.mul_add, Nat.add_assoc]
    congr 1
    congr 1
    rw [Nat.mul_comm (2 ^ n) 2, ← Nat.mul_assoc, Nat.mul_comm (b (k + 1 + n)) 2, Nat.mul_assoc]
theorem bs_more {b : Nat → Nat} {n : Nat} : ∀ {m : Nat}, n ≤ m → (∀ j, n ≤ j → j < m → b j = 0) → bs b 0 m = bs b 0 n
  | 0, h, _ => by rw [show n = 0 by omega]
  | m + 1, h, hz => by
    rcases Nat.lt_or_ge m n with h1 | h1
    · rw [show n = m + 1 by omega]
    · show bs b 0 m + b (0 + m) * 2 ^ m = _
      rw [bs_more h1 fun j a b => hz j a (by omega), Nat.zero_add, hz m h1 (by omega), Nat.zero_mul, Nat.add_zero]
theorem bs_bits (x : Nat) : ∀ n, bs (fun j => x / 2 ^ j % 2) 0 n = x % 2 ^ n
  | 0 => by show 0 = x % 1; omega
  | n + 1 => by
    show bs (fun j => x / 2 ^ j % 2) 0 n + x / 2 ^ (0 + n) % 2 * 2 ^ n = x % 2 ^ (n + 1)
    rw [bs_bits x n, Nat.zero_add, Nat.pow_succ, Nat.mod_mul, Nat.mul_comm (2 ^ n)]
/-- The binary digit of digits to base 2 ^ 32. -/
def bt (a : Nat → Int) (i : Nat) : Nat := (a (i / 32)).toNat / 2 ^ (i % 32) % 2
end Fp
end Go.Proofs.YtmfaipklhkgieaaGreat
