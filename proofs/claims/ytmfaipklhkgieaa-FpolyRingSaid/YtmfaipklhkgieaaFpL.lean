/- The law FpolyDivides, as a contract. -/
import Derived.Test.YtmfaipklhkgieaaFpH
import Derived.Test.YtmfaipklhkgieaaFpAwake
namespace Go.Proofs.Ytmfaipklhkgieaa
open Go.RowKit
namespace Fp
/-- The argument of the statements about polynomials modulo a prime. -/
abbrev PP (p : Int) (n m l q : Nat) (a c : Nat → Int) (s : Bool) (x : Int) : V := .g [.int .i64 p, il n a, il m c, .row 1 l fun _ _ => .any, .bool s, .row 1 q fun _ _ => .any, .int .i64 x]
set_option maxHeartbeats 4000000 in
theorem long_ok {p x : Int} {n m l q : Nat} {a c : Nat → Int} {s : Bool} : FnOK Try.prog false 8 [PP p n m l q a c s x] (.c (.bool (decide (60 < n ∨ 60 < m ∨ 60 < l ∨ 4 < q)))) := by
  refine fn_ok (E := E0) E0_ok Try.func8 rfl mixed (by kernel_rfl) (by kernel_rfl) ?_
  conv => whnf
  refine bcase (fun (h1 : gw false (decide ((60 : Int) < n)) = true) => ?_) fun (h1 : gw false (decide ((60 : Int) < n)) = false) => ?_
  · have h1 := of_decide_eq_false (gwf h1)
    conv => whnf
    refine bcase (fun (h2 : gw false (decide ((60 : Int) < m)) = true) => ?_) fun (h2 : gw false (decide ((60 : Int) < m)) = false) => ?_
    · have h2 := of_decide_eq_false (gwf h2)
      conv => whnf
      refine bcase (fun (h3 : gw false (decide ((60 : Int) < l)) = true) => ?_) fun (h3 : gw false (decide ((60 : Int) < l)) = false) => ?_
      · have h3 := of_decide_eq_false (gwf h3)
        conv => whnf
        exact ⟨rfl, subB (decide_eq_decide.2 ⟨fun h => .inr (.inr (.inr (by omega))), fun h => by omega⟩)⟩
      · have h3 := of_decide_eq_true (gwf' h3)
        conv => whnf
        exact ⟨rfl, subB (Eq.symm (decide_eq_true (by omega)))⟩
    · have h2 := of_decide_eq_true (gwf' h2)
      conv => whnf
      exact ⟨rfl, subB (Eq.symm (decide_eq_true (by omega)))⟩
  · have h1 := of_decide_eq_true (gwf' h1)
    conv => whnf
    exact ⟨rfl, subB (Eq.symm (decide_eq_true (by omega)))⟩
theorem ints_true {n m : Nat} {a b : Nat → Int} (hn : n ≤ 1048576) (h : same n m a b) : FnOK Try.prog false 13 [.c (il n a), .c (il m b)] (.c (.bool true)) := by
  have h1 := ints_ok (n := n) (m := m) (a := a) (b := b) hn (by rw [← h.1]; exact hn)
  rw [@decide_eq_true _ (Classical.propDecidable _) h] at h1
  exact h1
/-- A product, divided by its second factor. -/
theorem divMod_prod {p : Int} {n m : Nat} {a c : Nat → Int} (hp : md p) (hn : n ≤ 1024) (hm : m ≤ 1024) (h0 : 0 < tl (nf p m c) m) : ∃ Q R : Nat → Int, (∀ i, i < tl (nf p n a) n → Q i = nf p n a i) ∧
    FnOK Try.prog false 9 [.c (.int .i64 p), .c (il (tl (pr p (nf p n a) (nf p m c) (tl (nf p n a) n)) (tl (nf p n a) n + tl (nf p m c) m - 1)) (pr p (nf p n a) (nf p m c) (tl (nf p n a) n))), .c (il m c)] (.t3 (.c (il (tl (nf p n a) n) Q)) (.c (il 0 R)) (.c (.int .i64 0))) := by
  have hp0 : 0 < p := by have := hp.1; omega
  have hF := fun i => nf_range (p := p) (n := n) (a := a) hp0 i
  have hG := fun i => nf_range (p := p) (n := m) (a := c) hp0 i
  have hGz := fun i h => nf_behind (p := p) (n := m) (a := c) i h
  have hGl := tl_last h0
  have hn1 := tl_le (nf p n a) n
  have hm1 := tl_le (nf p m c) m
  have hFl : 0 < tl (nf p n a) n → nf p n a (tl (nf p n a) n - 1) ≠ 0 := tl_last
  have hb : (inv (nf p m c (tl (nf p m c) m - 1)) p * nf p m c (tl (nf p m c) m - 1)) % p = 1 := inv_spec hp (by
    rw [Int.emod_eq_of_lt (hG _).1 (hG _).2]
    have := (hG (tl (nf p m c) m - 1)).1
    omega)
  have hdo := fun {L k1 k2 : Nat} {X Q R : Nat → Int} (hL : L ≤ 4096) => divMod_of (p := p) (n := L) (m := m) (k1 := k1) (k2 := k2) (a := X) (c := c) (Q := Q) (R := R) hp hL (by omega) h0
  have hda := fun {L : Nat} {X : Nat → Int} (hL : L ≤ 4096) (hX : ∀ i, 0 ≤ X i ∧ X i < p) (ht : tl X L = L) => divide_all (p := p) (n := L) (F := X) hp hL h0 hX hG hGl ht
  generalize inv (nf p m c (tl (nf p m c) m - 1)) p = b at *
  generalize tl (nf p n a) n = n1 at *
  generalize tl (nf p m c) m = m1 at *
  generalize nf p n a = F at *
  generalize nf p m c = G at *
  have hX : ∀ i, 0 ≤ pr p F G n1 i ∧ pr p F G n1 i < p := fun i => ⟨Int.emod_nonneg _ (by omega), Int.emod_lt_of_pos _ hp0⟩
  have hXz : ∀ i, n1 + m1 - 1 ≤ i → pr p F G n1 i = 0 := fun i h => by
    unfold pr
    rw [cv_top hGz (by omega), Int.zero_emod]
  have hL : tl (pr p F G n1) (n1 + m1 - 1) + 1 - m1 = n1 := by
    rcases Nat.eq_zero_or_pos n1 with e | e
    · rw [tl_zero fun i _ => by unfold pr; rw [e]; exact Int.zero_emod p]; omega
    · rw [tl_full fun _ h => ?_]
      · omega
      · have h1 := lead_eq h0 hF hGz hb (n1 - 1)
        rw [show n1 - 1 + 1 = n1 by omega, show n1 - 1 + m1 - 1 = n1 + m1 - 1 - 1 by omega] at h1
        have h2 : cv F G n1 (n1 + m1 - 1 - 1) % p = 0 := h
        rw [h2, Int.zero_mul, Int.zero_emod] at h1
        exact hFl e h1.symm
  have hLz : ∀ i, tl (pr p F G n1) (n1 + m1 - 1) ≤ i → pr p F G n1 i = 0 := fun i h => tl_behind hXz i h
  have htt := tl_tl (pr p F G n1) (n1 + m1 - 1)
  have hLe := tl_le (pr p F G n1) (n1 + m1 - 1)
  generalize tl (pr p F G n1) (n1 + m1 - 1) = L at *
  have hnf : nf p L (pr p F G n1) = pr p F G n1 := by
    funext i
    unfold nf
    by_cases h : i < L
    · rw [if_pos h, Int.emod_eq_of_lt (hX i).1 (hX i).2]
    · rw [if_neg h, hLz i (by omega)]
  have h1 := hda (L := L) (by omega) hX htt
  have h2 := hdo (L := L) (X := pr p F G n1) (k1 := n1) (k2 := 0) (Q := dq p b m1 n1 (pr p F G n1) G) (R := dn p b m1 n1 (pr p F G n1) G n1) (by omega)
  rw [hnf, htt] at h2
  rw [hL] at h1
  have e0 : tl (dn p b m1 n1 (pr p F G n1) G n1) L = 0 := tl_zero fun i _ => by
    rw [dn_prod h0 hF hGz hb (Nat.le_refl _), Nat.sub_self]
    exact Int.zero_emod p
  rw [e0] at h1
  exact ⟨_, _, fun i hi => dq_prod h0 hF hGz hb hi, h2 h1⟩
open Classical in
set_option maxHeartbeats 8000000 in
theorem divides_ok {p x : Int} {n m l q : Nat} {a c : Nat → Int} {s : Bool} : FnOK Try.prog false 3 [PP p n m l q a c s x] (.c (.bool true)) := by
  refine fn_ok (E := E0) E0_ok Try.func3 rfl mixed (by kernel_rfl) (by kernel_rfl) ?_
  conv => whnf
  refine ⟨_, awake_ok, ?_⟩
  conv => whnf
  refine ⟨_, long_ok, ?_⟩
  conv => whnf
  refine bcase (fun h1 => ?_) fun (h1 : decide (60 < n ∨ 60 < m ∨ 60 < l ∨ 4 < q) = false) => ?_
  · conv => whnf
    exact ⟨rfl, Sub.refl _⟩
  have h1 := of_decide_eq_false h1
  conv => whnf
  by_cases hp : md p
  · by_cases h0 : tl (nf p m c) m = 0
    · refine ⟨_, divMod_zero (n := n) (a := a) hp (by omega) h0, ?_⟩
      conv => whnf
      refine ⟨_, refModulus_ok, ?_⟩
      conv => whnf
      refine bneg (show (!decide (md p)) = false by simpa using hp) ?_
      conv => whnf
      refine ⟨_, degree_ok (p := p) (n := m) (a := c) (by have := hp.1; omega) hp.2.1 (by omega), ?_⟩
      conv => whnf
      refine bpos (show decide (((tl (nf p m c) m : Nat) : Int) - 1 < 0) = true by simp; omega) ?_
      conv => whnf
      refine ⟨i64 (by decide) (by decide), ?_⟩
      conv => whnf
      exact ⟨rfl, Sub.refl _⟩
    · have h0 : 0 < tl (nf p m c) m := by omega
      have hp0 : 0 < p := by have := hp.1; omega
      have hF := fun i => nf_range (p := p) (n := n) (a := a) hp0 i
      have hG := fun i => nf_range (p := p) (n := m) (a := c) hp0 i
      have hn1 := tl_le (nf p n a) n
      have hm1 := tl_le (nf p m c) m
      have hd := divMod_of (p := p) (n := n) (m := m) (a := a) (c := c) hp (by omega) (by omega) h0 (divide_all hp (by omega) h0 hF hG (tl_last h0) (tl_tl _ _))
      have hr := refDivide_all (p := p) (n0 := n) (m0 := m) (a := a) (c := c) hp (by omega) (by omega) rfl rfl rfl rfl h0 hF hG (tl_last h0) (tl_tl _ _)
      have hQ := dq_range (p := p) (b := inv (nf p m c (tl (nf p m c) m - 1)) p) (m := tl (nf p m c) m) (N := tl (nf p n a) n + 1 - tl (nf p m c) m) (F := nf p n a) (G := nf p m c) hp0
      have hR := fun k => dn_range (p := p) (b := inv (nf p m c (tl (nf p m c) m - 1)) p) (m := tl (nf p m c) m) (N := tl (nf p n a) n + 1 - tl (nf p m c) m) (F := nf p n a) (G := nf p m c) hp0 hF (tl (nf p n a) n + 1 - tl (nf p m c) m) k
      have hdl := fun h => dq_lead (p := p) (b := inv (nf p m c (tl (nf p m c) m - 1)) p) (n := tl (nf p n a) n) (m := tl (nf p m c) m) (F := nf p n a) (G := nf p m c) h0 h hF (tl_last (by omega)) (inv_spec hp (by
        rw [Int.emod_eq_of_lt (hG _).1 (hG _).2]
        have := (hG (tl (nf p m c) m - 1)).1
        have := tl_last h0
        omega))
      have hm2 := mul_ok (p := p) (n := n) (m := m) (a := a) (c := c) hp (by omega) (by omega) (times_ok hp.1 hp.2.1 (by omega) (by omega) hF hG fun j hj => nf_behind j hj)
      obtain ⟨Q2, R2, hQ2, hd2⟩ := divMod_prod (a := a) (c := c) hp (show n ≤ 1024 by omega) (show m ≤ 1024 by omega) h0
      have hN := refNormal_ok (p := p) (n := n) (a := a) hp0 hp.2.1 (by omega)
      have hdg := degree_ok (p := p) (n := m) (a := c) hp0 hp.2.1 (by omega)
      generalize inv (nf p m c (tl (nf p m c) m - 1)) p = b at *
      generalize tl (nf p n a) n = n1 at *
      generalize tl (nf p m c) m = m1 at *
      generalize nf p n a = F at *
      generalize nf p m c = G at *
      generalize hNN : n1 + 1 - m1 = N at *
      have s1 : same N (tl (nf p N (dq p b m1 N F G)) N) (dq p b m1 N F G) (nf p N (dq p b m1 N F G)) := by
        have e : ∀ i, i < N → nf p N (dq p b m1 N F G) i = dq p b m1 N F G i := fun i hi => by unfold nf; rw [if_pos hi, Int.emod_eq_of_lt (hQ i).1 (hQ i).2]
        refine ⟨?_, fun i hi => (e i hi).symm⟩
        rw [tl_congr e]
        refine (tl_full fun h => ?_).symm
        have := hdl (by omega)
        rw [show n1 - m1 = N - 1 by omega] at this
        exact this
      have s2 : same (tl (dn p b m1 N F G N) n1) (tl (nf p n1 (dn p b m1 N F G N)) n1) (dn p b m1 N F G N) (nf p n1 (dn p b m1 N F G N)) := by
        have e : ∀ i, i < n1 → nf p n1 (dn p b m1 N F G N) i = dn p b m1 N F G N i := fun i hi => by unfold nf; rw [if_pos hi, Int.emod_eq_of_lt (hR i).1 (hR i).2]
        refine ⟨by rw [tl_congr e], fun i hi => (e i ?_).symm⟩
        have := tl_le (dn p b m1 N F G N) n1
        omega
      have hle := tl_le (dn p b m1 N F G N) n1
      have hi1 := ints_true (by omega) s1
      have hi2 := ints_true (by omega) s2
      have hi3 : FnOK Try.prog false 13 [.c (il n1 Q2), .c (il n1 F)] (.c (.bool true)) := ints_true (by omega) ⟨rfl, hQ2⟩
      refine ⟨_, hd, ?_⟩
      conv => whnf
      refine ⟨_, refModulus_ok, ?_⟩
      conv => whnf
      refine bneg (show (!decide (md p)) = false by simpa using hp) ?_
      conv => whnf
      refine ⟨_, hdg, ?_⟩
      conv => whnf
      refine bneg (show decide (((m1 : Nat) : Int) - 1 < 0) = false by simp; omega) ?_
      conv => whnf
      refine ⟨_, hr, ?_⟩
      conv => whnf
      refine ⟨_, hi1, ?_⟩
      conv => whnf
      refine ⟨_, hi2, ?_⟩
      conv => whnf
      refine ⟨_, hm2, ?_⟩
      conv => whnf
      refine ⟨_, hd2, ?_⟩
      conv => whnf
      refine .inr ?_
      conv => whnf
      refine ⟨_, hN, ?_⟩
      conv => whnf
      refine ⟨_, hi3, ?_⟩
      conv => whnf
      exact ⟨rfl, Sub.refl _⟩
  · refine ⟨_, divMod_prime hp, ?_⟩
    conv => whnf
    refine ⟨_, refModulus_ok, ?_⟩
    conv => whnf
    refine bpos (show (!decide (md p)) = true by simpa using hp) ?_
    conv => whnf
    refine ⟨i64 (by decide) (by decide), ?_⟩
    conv => whnf
    exact ⟨rfl, Sub.refl _⟩
end Fp
end Go.Proofs.Ytmfaipklhkgieaa
