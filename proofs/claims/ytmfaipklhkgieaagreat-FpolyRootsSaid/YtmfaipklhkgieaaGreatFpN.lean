/- Greatest common divisors. -/
import Derived.Test.YtmfaipklhkgieaaGreatFpK
namespace Go.Proofs.YtmfaipklhkgieaaGreat
open Go.RowKit
namespace Fp
/-- A division's rest is shorter step by step. -/
theorem dn_top {p b : Int} {m N : Nat} {F G : Nat → Int} (hm : 0 < m) (hb : (b * G (m - 1)) % p = 1) (hFz : ∀ j, N + m - 1 ≤ j → F j = 0) : ∀ {t : Nat}, t ≤ N → ∀ k, N - t + m - 1 ≤ k → dn p b m N F G t k = 0
  | 0, _, k, hk => hFz k (by omega)
  | t + 1, ht, k, hk => by
    have ih := fun k => dn_top (p := p) (b := b) (F := F) (G := G) hm hb hFz (show t ≤ N by omega) k
    show dpart p ((dn p b m N F G t (N - 1 - t + m - 1) * b) % p) G (dn p b m N F G t) (N - 1 - t) m k = 0
    unfold dpart
    by_cases h : N - 1 - t ≤ k ∧ k < N - 1 - t + m
    · rw [if_pos h]
      have e : k = N - 1 - t + m - 1 := by omega
      rw [← e]
      generalize dn p b m N F G t k = r
      have e2 : k - (N - 1 - t) = m - 1 := by omega
      rw [e2]
      have e3 := Int.mul_ediv_add_emod (r * b) p
      have e4 := Int.mul_ediv_add_emod (b * G (m - 1)) p
      rw [hb] at e4
      generalize (r * b) % p = c at e3 ⊢
      generalize r * b / p = x at e3
      generalize b * G (m - 1) / p = y at e4
      have e5 : r - c * G (m - 1) = p * (x * G (m - 1) - r * y) := by grind
      rw [e5]
      exact Int.mul_emod_right _ _
    · rw [if_neg h]
      exact ih k (by omega)
/-- The rest of a division. -/
noncomputable def rs (p : Int) (n m : Nat) (F G : Nat → Int) : Nat → Int := dn p (inv (G (m - 1)) p) m (n + 1 - m) F G (n + 1 - m)
theorem rs_range {p : Int} {n m : Nat} {F G : Nat → Int} (hp : 0 < p) (hF : ∀ i, 0 ≤ F i ∧ F i < p) (i : Nat) : 0 ≤ rs p n m F G i ∧ rs p n m F G i < p := dn_range hp hF _ _
theorem rs_behind {p : Int} {n m : Nat} {F G : Nat → Int} (hp : md p) (hm : 0 < m) (hG : ∀ i, 0 ≤ G i ∧ G i < p) (hl : G (m - 1) ≠ 0) (hFz : ∀ j, n ≤ j → F j = 0) (j : Nat) (hj : min n (m - 1) ≤ j) : rs p n m F G j = 0 := by
  unfold rs
  rcases Nat.lt_or_ge n m with h | h
  · rw [show n + 1 - m = 0 by omega]
    exact hFz j (by omega)
  · refine dn_top hm (inv_spec hp ?_) (fun k hk => hFz k (by omega)) (Nat.le_refl _) j (by omega)
    rw [Int.emod_eq_of_lt (hG _).1 (hG _).2]
    have := (hG (m - 1)).1
    omega
/-- Euclid's algorithm. -/
noncomputable def gc (p : Int) : Nat → Nat → (Nat → Int) → Nat → (Nat → Int) → Nat × (Nat → Int)
  | 0, n, F, _, _ => (n, F)
  | t + 1, n, F, m, G => if m = 0 then (n, F) else gc p t m G (tl (rs p n m F G) n) (rs p n m F G)
theorem gc_zero {p : Int} {n : Nat} {F G : Nat → Int} : ∀ t, gc p t n F 0 G = (n, F)
  | 0 => rfl
  | _ + 1 => if_pos rfl
/-- A list in normal form. -/
structure Nm (p : Int) (n : Nat) (F : Nat → Int) : Prop where
  n4 : n ≤ 4096
  r : ∀ i, 0 ≤ F i ∧ F i < p
  z : ∀ j, n ≤ j → F j = 0
  t : tl F n = n
theorem Nm.l {p : Int} {n : Nat} {F : Nat → Int} (h : Nm p n F) (h0 : 0 < n) : F (n - 1) ≠ 0 := by
  have h2 : 0 < tl F n := by rw [h.t]; exact h0
  have := tl_last h2
  rw [h.t] at this
  exact this
theorem Nm.rest {p : Int} {n m : Nat} {F G : Nat → Int} (hp : md p) (h : Nm p n F) (g : Nm p m G) (hm : 0 < m) : Nm p (tl (rs p n m F G) n) (rs p n m F G) ∧ tl (rs p n m F G) n < m := by
  have hb := rs_behind (n := n) hp hm g.r (g.l hm) h.z
  have hle : tl (rs p n m F G) n ≤ min n (m - 1) := by
    rw [tl_more hb (show min n (m - 1) ≤ n by omega)]
    exact tl_le _ _
  have := h.n4
  exact ⟨⟨by omega, rs_range (by have := hp.1; omega) h.r, tl_behind fun i hi => hb i (by omega), tl_tl _ _⟩, by omega⟩
/-- The monic multiple. -/
noncomputable def mo (p : Int) (x : Nat × (Nat → Int)) : Nat → Int := sc p (inv (x.2 (x.1 - 1)) p) x.2
set_option maxHeartbeats 4000000 in
theorem gcd_ok {p : Int} {n m : Nat} {F G : Nat → Int} (hp : md p) (hF : Nm p n F) (hG : Nm p m G) : FnOK Tryz.prog false 57 [.c (.int .i64 p), .c (il n F), .c (il m G)] (.c (il (tl (mo p (gc p m n F m G)) (gc p m n F m G).1) (mo p (gc p m n F m G)))) := by
  refine fn_ok (E := E0) E0_ok Tryz.func57 rfl mixed (by kernel_rfl) (by kernel_rfl) ?_
  conv => whnf
  refine loop_ints (fun ((_, n, F, m, G) : Nat × Nat × (Nat → Int) × Nat × (Nat → Int)) => ist [(0, .c (.int .i64 p)), (1, .c (il n F)), (2, .c (il m G))] []) (fun (_, _, _, m, _) => m) (fun (t, n', F', m', G') => Nm p n' F' ∧ Nm p m' G' ∧ m' ≤ t ∧ gc p t n' F' m' G' = gc p m n F m G) (m, n, F, m, G) rfl ?_ ⟨hF, hG, Nat.le_refl _, rfl⟩ ?_
  · exact Weak.ints [] rfl trivial ⟨⟨_, rfl, rfl⟩, ⟨_, _, rfl, rfl, fun _ _ _ _ => rfl⟩, ⟨_, _, rfl, rfl, fun _ _ _ _ => rfl⟩, trivial⟩
  rintro ⟨t, n', F', m', G'⟩ hI
  obtain ⟨h1, h2, h3, h4⟩ : Nm p n' F' ∧ Nm p m' G' ∧ m' ≤ t ∧ gc p t n' F' m' G' = gc p m n F m G := hI
  conv => whnf
  refine bcase (fun (h : decide ((0 : Int) < m') = true) => ?_) fun (h : decide ((0 : Int) < m') = false) => ?_
  · have h := of_decide_eq_true h
    obtain ⟨h5, h6⟩ := h1.rest hp h2 (show 0 < m' by omega)
    obtain ⟨t, rfl⟩ : ∃ t', t = t' + 1 := ⟨t - 1, by omega⟩
    conv => whnf
    refine ⟨_, divide_all hp h1.n4 (by omega) h1.r h2.r (h2.l (by omega)) h1.t, ?_⟩
    conv => whnf
    refine ⟨(t, m', G', tl (rs p n' m' F' G') n', rs p n' m' F' G'), h6, Weak.ints [] rfl trivial ⟨⟨_, rfl, rfl⟩, ⟨_, _, rfl, rfl, fun _ _ _ _ => rfl⟩, ⟨_, _, rfl, rfl, fun _ _ _ _ => rfl⟩, trivial⟩, h2, h5, ?_, ?_⟩
    · show tl (rs p n' m' F' G') n' ≤ t
      omega
    · rw [← h4]
      show _ = if m' = 0 then (n', F') else _
      rw [if_neg (by omega)]
  · have h := of_decide_eq_false h
    obtain rfl : m' = 0 := by omega
    rw [gc_zero] at h4
    rw [← h4]
    conv => whnf
    refine ⟨_, monic_ok hp h1.n4 h1.r h1.z h1.l, ?_⟩
    conv => whnf
    exact ⟨rfl, Sub.refl _⟩
theorem Nm.nf {p : Int} {n : Nat} {a : Nat → Int} (hp : 0 < p) (hn : n ≤ 4096) : Nm p (tl (nf p n a) n) (nf p n a) :=
  ⟨by have := tl_le (Fp.nf p n a) n; omega, nf_range hp, nf_behind, tl_tl _ _⟩
set_option maxHeartbeats 4000000 in
theorem refGcd_ok {p : Int} {n0 m0 n m : Nat} {a c F G : Nat → Int} (hp : md p) (hn0 : n0 ≤ 4096) (hm0 : m0 ≤ 4096) (eF : nf p n0 a = F) (eG : nf p m0 c = G) (en0 : tl F n0 = n) (em0 : tl G m0 = m) : FnOK Tryz.prog false 19 [.c (.int .i64 p), .c (il n0 a), .c (il m0 c)] (.c (il (tl (mo p (gc p m n F m G)) (gc p m n F m G).1) (mo p (gc p m n F m G)))) := by
  have hp0 : 0 < p := by have := hp.1; omega
  have hNf := refNormal_ok (p := p) (n := n0) (a := a) hp0 hp.2.1 (by omega)
  have hNg := refNormal_ok (p := p) (n := m0) (a := c) hp0 hp.2.1 (by omega)
  have hF : Nm p n F := by subst eF; subst en0; exact Nm.nf hp0 hn0
  have hG : Nm p m G := by subst eG; subst em0; exact Nm.nf hp0 hm0
  rw [eF, en0] at hNf
  rw [eG, em0] at hNg
  refine fn_ok (E := E0) E0_ok Tryz.func19 rfl mixed (by kernel_rfl) (by kernel_rfl) ?_
  conv => whnf
  refine .inr ?_
  conv => whnf
  refine ⟨_, hNf, ?_⟩
  conv => whnf
  refine .inr ?_
  conv => whnf
  refine ⟨_, hNg, ?_⟩
  conv => whnf
  refine loop_ints (fun ((_, n, F, m, G) : Nat × Nat × (Nat → Int) × Nat × (Nat → Int)) => ist [(0, .c (.int .i64 p)), (7, .c (il n F)), (8, .c (il m G))] []) (fun (_, _, _, m, _) => m) (fun (t, n', F', m', G') => Nm p n' F' ∧ Nm p m' G' ∧ m' ≤ t ∧ gc p t n' F' m' G' = gc p m n F m G) (m, n, F, m, G) rfl ?_ ⟨hF, hG, Nat.le_refl _, rfl⟩ ?_
  · exact Weak.ints [] rfl trivial ⟨⟨_, rfl, rfl⟩, ⟨_, _, rfl, rfl, fun _ _ _ _ => rfl⟩, ⟨_, _, rfl, rfl, fun _ _ _ _ => rfl⟩, trivial⟩
  rintro ⟨t, n', F', m', G'⟩ hI
  obtain ⟨h1, h2, h3, h4⟩ : Nm p n' F' ∧ Nm p m' G' ∧ m' ≤ t ∧ gc p t n' F' m' G' = gc p m n F m G := hI
  conv => whnf
  refine bcase (fun (h : decide ((0 : Int) < m') = true) => ?_) fun (h : decide ((0 : Int) < m') = false) => ?_
  · have h := of_decide_eq_true h
    obtain ⟨h5, h6⟩ := h1.rest hp h2 (show 0 < m' by omega)
    obtain ⟨t, rfl⟩ : ∃ t', t = t' + 1 := ⟨t - 1, by omega⟩
    have hd := refDivide_all (p := p) (n0 := n') (m0 := m') (a := F') (c := G') hp h1.n4 h2.n4 (nf_self h1.r h1.z) (nf_self h2.r h2.z) h1.t h2.t (by omega) h1.r h2.r (h2.l (by omega)) h1.t
    have er : nf p n' (rs p n' m' F' G') = rs p n' m' F' G' := nf_self h5.r fun j hj => h5.z j (by have := tl_le (rs p n' m' F' G') n'; omega)
    have er' : nf p n' (dn p (inv (G' (m' - 1)) p) m' (n' + 1 - m') F' G' (n' + 1 - m')) = rs p n' m' F' G' := er
    rw [er'] at hd
    conv => whnf
    refine ⟨_, hd, ?_⟩
    conv => whnf
    refine ⟨(t, m', G', tl (rs p n' m' F' G') n', rs p n' m' F' G'), h6, Weak.ints [] rfl trivial ⟨⟨_, rfl, rfl⟩, ⟨_, _, rfl, rfl, fun _ _ _ _ => rfl⟩, ⟨_, _, rfl, rfl, fun _ _ _ _ => rfl⟩, trivial⟩, h2, h5, ?_, ?_⟩
    · show tl (rs p n' m' F' G') n' ≤ t
      omega
    · rw [← h4]
      show _ = if m' = 0 then (n', F') else _
      rw [if_neg (by omega)]
  · have h := of_decide_eq_false h
    obtain rfl : m' = 0 := by omega
    rw [gc_zero] at h4
    rw [← h4]
    conv => whnf
    refine ⟨_, refMonic_ok (n0 := n') (a := F') hp h1.n4 (nf_self h1.r h1.z) h1.t, ?_⟩
    conv => whnf
    exact ⟨rfl, Sub.refl _⟩
end Fp
end Go.Proofs.YtmfaipklhkgieaaGreat
