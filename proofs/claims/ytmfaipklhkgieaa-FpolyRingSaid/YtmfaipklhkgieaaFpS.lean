/- Normal forms of products, sums, multiples, quotients. -/
import Derived.Test.YtmfaipklhkgieaaFpR
namespace Go.Proofs.Ytmfaipklhkgieaa
namespace Fp
theorem Nm.mul {p : Int} {n m : Nat} {F G : Nat → Int} (hp : 0 < p) (hG : Nm p m G) (hs : n + m ≤ 4096) : Nm p (tl (pr p F G n) (n + m - 1)) (pr p F G n) :=
  ⟨by have := tl_le (pr p F G n) (n + m - 1); omega, fun _ => ⟨Int.emod_nonneg _ (by omega), Int.emod_lt_of_pos _ hp⟩, tl_behind fun i hi => by
    unfold pr
    rw [cv_top hG.z (by omega), Int.zero_emod], tl_tl _ _⟩
theorem Nm.add {p b : Int} {n m : Nat} {F G : Nat → Int} (hp : 0 < p) (hF : Nm p n F) (hG : Nm p m G) : Nm p (tl (sm p b F G) (max n m)) (sm p b F G) :=
  ⟨by have := tl_le (sm p b F G) (max n m); have := hF.n4; have := hG.n4; omega, fun _ => ⟨Int.emod_nonneg _ (by omega), Int.emod_lt_of_pos _ hp⟩, tl_behind (sm_behind hF.z hG.z), tl_tl _ _⟩
theorem Nm.sc {p k : Int} {n : Nat} {F : Nat → Int} (hp : 0 < p) (hF : Nm p n F) : Nm p (tl (Fp.sc p k F) n) (Fp.sc p k F) :=
  ⟨by have := tl_le (Fp.sc p k F) n; have := hF.n4; omega, sc_range hp, tl_behind (sc_behind hF.z), tl_tl _ _⟩
/-- The quotient, 0 behind its end. -/
noncomputable def qt (p : Int) (n m : Nat) (F G : Nat → Int) (i : Nat) : Int := if i < n + 1 - m then dq p (inv (G (m - 1)) p) m (n + 1 - m) F G i else 0
theorem Nm.quo {p : Int} {n m : Nat} {F G : Nat → Int} (hp : md p) (hF : Nm p n F) (hG : Nm p m G) (hm : 0 < m) : Nm p (n + 1 - m) (qt p n m F G) := by
  have hp0 : 0 < p := by have := hp.1; omega
  have := hF.n4
  refine ⟨by omega, fun i => ?_, fun j hj => ?_, ?_⟩
  · unfold qt
    split
    · exact dq_range hp0 i
    · omega
  · unfold qt; rw [if_neg (by omega)]
  · refine tl_full fun h => ?_
    unfold qt
    rw [if_pos (by omega), show n + 1 - m - 1 = n - m by omega]
    refine dq_lead hm (by omega) hF.r (hF.l (by omega)) (inv_spec hp ?_)
    rw [Int.emod_eq_of_lt (hG.r _).1 (hG.r _).2]
    have := (hG.r (m - 1)).1
    have := hG.l hm
    omega
/-- Dividend, divisor, quotient and rest, as whole sums. -/
theorem Nm.div {p : Int} {n m : Nat} {F G : Nat → Int} (hp : md p) (hF : Nm p n F) (hG : Nm p m G) (hm : 0 < m) (k : Nat) : (cf (qt p n m F G) G k + rs p n m F G k) % p = F k := by
  have h := div_all (p := p) (b := inv (G (m - 1)) p) (m := m) (N := n + 1 - m) (F := F) (G := G) hF.r hG.z k
  rw [← cv_cf (hF.quo hp hG hm).z]
  have e : ∀ (i : Nat), i ≤ n + 1 - m → cv (qt p n m F G) G i k = cv (dq p (inv (G (m - 1)) p) m (n + 1 - m) F G) G i k := by
    intro i
    induction i with
    | zero => exact fun _ => rfl
    | succ i ih =>
      intro hi
      show cv _ G i k + _ = cv _ G i k + _
      rw [ih (by omega)]
      rw [show qt p n m F G i = dq p (inv (G (m - 1)) p) m (n + 1 - m) F G i by unfold qt; rw [if_pos (by omega)]]
  rw [e _ (Nat.le_refl _)]
  exact h
end Fp
end Go.Proofs.Ytmfaipklhkgieaa
