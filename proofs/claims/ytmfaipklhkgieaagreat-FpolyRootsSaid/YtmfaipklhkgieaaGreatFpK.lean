/- Differences, multiples, monic polynomials. -/
import Derived.Test.YtmfaipklhkgieaaGreatFpJ
namespace Go.Proofs.YtmfaipklhkgieaaGreat
open Go.RowKit
namespace Fp
theorem arg_ok {P : Program} {r : Bool} {f : FuncId} {args args' : List V} {X : V} (h : FnOK P r f args X) (hs : ∀ D w vs, VRels D w [] args' vs → VRels D w [] args vs) : FnOK P r f args' X :=
  ⟨h.1, fun D w vs h1 h2 h3 => h.2 D w vs h1 h2 (hs _ _ _ h3)⟩
theorem tl_more {a : Nat → Int} {k : Nat} (h : ∀ i, k ≤ i → a i = 0) : ∀ {k' : Nat}, k ≤ k' → tl a k' = tl a k
  | 0, hk => by rw [show k = 0 by omega]
  | k' + 1, hk => by
    rcases Nat.lt_or_ge k' k with h1 | h1
    · rw [show k = k' + 1 by omega]
    · rw [← tl_more h h1]
      show (if a k' = 0 then tl a k' else k' + 1) = _
      rw [if_pos (h k' h1)]
theorem nf_self {p : Int} {n : Nat} {F : Nat → Int} (hF : ∀ i, 0 ≤ F i ∧ F i < p) (hFz : ∀ j, n ≤ j → F j = 0) : nf p n F = F := by
  funext i
  unfold nf
  by_cases h : i < n
  · rw [if_pos h, Int.emod_eq_of_lt (hF i).1 (hF i).2]
  · rw [if_neg h, hFz i (by omega)]
theorem sc_range {p k : Int} {F : Nat → Int} (hp : 0 < p) (i : Nat) : 0 ≤ sc p k F i ∧ sc p k F i < p := ⟨Int.emod_nonneg _ (by omega), Int.emod_lt_of_pos _ hp⟩
theorem sc_behind {p k : Int} {n : Nat} {F : Nat → Int} (hFz : ∀ j, n ≤ j → F j = 0) (j : Nat) (h : n ≤ j) : sc p k F j = 0 := by
  unfold sc; rw [hFz j h, Int.mul_zero, Int.zero_emod]
/-- A difference, as the sum with a multiple. -/
theorem sm_sc {p : Int} {F G : Nat → Int} (hp : 2 ≤ p) : sm p 1 F (sc p (-1) G) = sm p (p - 1) F G := by
  funext i
  unfold sm sc
  rw [Int.one_mul]
  have e : (-1 : Int) % p = p - 1 := by
    have := Int.add_mul_emod_self_left (-1) p 1
    rw [Int.mul_one] at this
    rw [← this, show -1 + p = p - 1 by omega]
    exact Int.emod_eq_of_lt (by omega) (by omega)
  rw [e, Int.add_emod, Int.emod_emod, ← Int.add_emod]
set_option maxHeartbeats 4000000 in
theorem refSub_ok {p : Int} {n0 m0 n m : Nat} {a c F G : Nat → Int} (hp : 2 ≤ p) (hp2 : p ≤ 65521) (hn0 : n0 ≤ 4096) (hm0 : m0 ≤ 4096) (eF : nf p n0 a = F) (eG : nf p m0 c = G) (en0 : tl F n0 = n) (em0 : tl G m0 = m) : FnOK Tryz.prog false 20 [.c (.int .i64 p), .c (il n0 a), .c (il m0 c)] (.c (il (tl (sm p (p - 1) F G) (max n m)) (sm p (p - 1) F G))) := by
  have hG : ∀ i, 0 ≤ G i ∧ G i < p := fun i => by rw [← eG]; exact nf_range (by omega) i
  have hGz : ∀ j, m ≤ j → G j = 0 := fun j h => by rw [← eG]; exact nf_behind j (by rw [eG, em0]; exact h)
  have hmm : m ≤ m0 := by rw [← em0]; exact tl_le _ _
  have hle := tl_le (sc p (-1) G) m
  have hS := refScale_ok (p := p) (k := -1) (n0 := m0) (a := c) hp hp2 hm0 eG em0
  have hSz : ∀ j, tl (sc p (-1) G) m ≤ j → sc p (-1) G j = 0 := tl_behind (sc_behind hGz)
  have hA := refAdd_ok (p := p) (n0 := n0) (m0 := tl (sc p (-1) G) m) (a := a) (c := sc p (-1) G) hp hp2 hn0 (by omega) eF (nf_self (sc_range (by omega)) hSz) en0 (tl_tl _ _)
  rw [sm_sc hp] at hA
  have el : tl (sm p (p - 1) F G) (max n (tl (sc p (-1) G) m)) = tl (sm p (p - 1) F G) (max n m) := by
    have hFz : ∀ j, n ≤ j → F j = 0 := fun j h => by rw [← eF]; exact nf_behind j (by rw [eF, en0]; exact h)
    refine (tl_more (fun i h => ?_) (show max n (tl (sc p (-1) G) m) ≤ max n m by omega)).symm
    rw [← sm_sc hp]
    exact sm_behind hFz hSz i h
  rw [el] at hA
  refine fn_ok (E := E0) E0_ok Tryz.func20 rfl mixed (by kernel_rfl) (by kernel_rfl) ?_
  conv => whnf
  refine ⟨_, hS, ?_⟩
  conv => whnf
  refine ⟨_, hA, ?_⟩
  conv => whnf
  exact ⟨rfl, Sub.refl _⟩
set_option maxHeartbeats 4000000 in
theorem scale_ok {p b : Int} {m : Nat} {G : Nat → Int} (hp : 2 ≤ p) (hp2 : p ≤ 65521) (hb : 0 ≤ b ∧ b < p) (hm : m ≤ 4096) (hG : ∀ i, 0 ≤ G i ∧ G i < p) (hGz : ∀ j, m ≤ j → G j = 0) : FnOK Tryz.prog false 60 [.c (.int .i64 p), .c (il m G), .c (.int .i64 b)] (.c (il (tl (sc p b G) m) (sc p b G))) := by
  have e : sm p b (fun _ => 0) G = sc p b G := by
    funext i; unfold sm sc; rw [Int.zero_add, Int.emod_eq_of_lt hb.1 hb.2]
  have hc := combine_ok (p := p) (b := b) (n := 0) (m := m) (F := fun _ => 0) (G := G) hp hp2 hb (by omega) hm (fun _ => ⟨Int.le_refl _, by omega⟩) hG (fun _ _ => rfl) hGz
  rw [e, Nat.zero_max] at hc
  have hc' : FnOK Tryz.prog false 31 [.c (.int .i64 p), .c .nil, .c (il m G), .c (.int .i64 b)] (.c (il (tl (sc p b G) m) (sc p b G))) :=
    arg_ok hc fun D w vs h => match vs, h with
      | _ :: _ :: _, ⟨x, y, z⟩ => ⟨x, subNil rfl D w _ y, z⟩
  refine fn_ok (E := E0) E0_ok Tryz.func60 rfl mixed (by kernel_rfl) (by kernel_rfl) ?_
  conv => whnf
  refine ⟨_, hc', ?_⟩
  conv => whnf
  exact ⟨rfl, Sub.refl _⟩
set_option maxHeartbeats 4000000 in
theorem monic_ok {p : Int} {n : Nat} {F : Nat → Int} (hp : md p) (hn : n ≤ 4096) (hF : ∀ i, 0 ≤ F i ∧ F i < p) (hFz : ∀ j, n ≤ j → F j = 0) (hl : 0 < n → F (n - 1) ≠ 0) : FnOK Tryz.prog false 40 [.c (.int .i64 p), .c (il n F)] (.c (il (tl (sc p (inv (F (n - 1)) p) F) n) (sc p (inv (F (n - 1)) p) F))) := by
  have hp0 : 0 < p := by have := hp.1; omega
  have hs := scale_ok (p := p) (b := inv (F (n - 1)) p) (m := n) (G := F) hp.1 hp.2.1 (inv_range hp0) hn hF hFz
  refine fn_ok (E := E0) E0_ok Tryz.func40 rfl mixed (by kernel_rfl) (by kernel_rfl) ?_
  conv => whnf
  refine bcase (fun (h : decide ((n : Int) = 0) = true) => ?_) fun (h : decide ((n : Int) = 0) = false) => ?_
  · have h := of_decide_eq_true h
    obtain rfl : n = 0 := by omega
    conv => whnf
    exact ⟨rfl, subNil rfl⟩
  · have h := of_decide_eq_false h
    have em : ((n : Int) - 1).toNat = n - 1 := by omega
    have hinv := inverse_ok (c := F (n - 1)) hp (by
      rw [Int.emod_eq_of_lt (hF _).1 (hF _).2]
      have := (hF (n - 1)).1
      have := hl (by omega)
      omega)
    conv => whnf
    refine ⟨i64 (by omega) (by omega), ?_⟩
    conv => whnf
    refine ⟨by omega, ?_⟩
    conv => whnf
    refine ⟨by omega, ?_⟩
    conv => whnf
    refine ⟨_, (show FnOK Tryz.prog false 61 [.c (.int .i64 (F ((n : Int) - 1).toNat)), .c (.int .i64 p)] (.c (.int .i64 (inv (F (n - 1)) p))) by rw [em]; exact hinv), ?_⟩
    conv => whnf
    refine ⟨_, hs, ?_⟩
    conv => whnf
    exact ⟨rfl, Sub.refl _⟩
set_option maxHeartbeats 4000000 in
theorem refMonic_ok {p : Int} {n0 n : Nat} {a F : Nat → Int} (hp : md p) (hn0 : n0 ≤ 4096) (eF : nf p n0 a = F) (en0 : tl F n0 = n) : FnOK Tryz.prog false 37 [.c (.int .i64 p), .c (il n0 a)] (.c (il (tl (sc p (inv (F (n - 1)) p) F) n) (sc p (inv (F (n - 1)) p) F))) := by
  have hp0 : 0 < p := by have := hp.1; omega
  have hNf := refNormal_ok (p := p) (n := n0) (a := a) hp0 hp.2.1 (by omega)
  have hnn : n ≤ n0 := by rw [← en0]; exact tl_le _ _
  have hF : ∀ i, 0 ≤ F i ∧ F i < p := fun i => by rw [← eF]; exact nf_range hp0 i
  have hFz : ∀ j, n ≤ j → F j = 0 := fun j h => by rw [← eF]; exact nf_behind j (by rw [eF, en0]; exact h)
  have ht : tl F n = n := by rw [← en0]; exact tl_tl _ _
  have hl : 0 < n → F (n - 1) ≠ 0 := fun h => by
    have h2 : 0 < tl F n := by omega
    have := tl_last h2
    rw [ht] at this
    exact this
  rw [eF, en0] at hNf
  have hs := refScale_ok (p := p) (k := inv (F (n - 1)) p) (n0 := n) (a := F) hp.1 hp.2.1 (by omega) (nf_self hF hFz) ht
  refine fn_ok (E := E0) E0_ok Tryz.func37 rfl mixed (by kernel_rfl) (by kernel_rfl) ?_
  conv => whnf
  refine .inr ?_
  conv => whnf
  refine ⟨_, hNf, ?_⟩
  conv => whnf
  refine bcase (fun (h : decide ((n : Int) = 0) = true) => ?_) fun (h : decide ((n : Int) = 0) = false) => ?_
  · have h := of_decide_eq_true h
    obtain rfl : n = 0 := by omega
    conv => whnf
    exact ⟨rfl, subRow rfl fun i hi => absurd hi (Nat.not_lt_zero i)⟩
  · have h := of_decide_eq_false h
    have em : ((n : Int) - 1).toNat = n - 1 := by omega
    have hinv := refInverse_ok (c := F (n - 1)) hp (by
      rw [Int.emod_eq_of_lt (hF _).1 (hF _).2]
      have := (hF (n - 1)).1
      have := hl (by omega)
      omega)
    conv => whnf
    refine ⟨i64 (by omega) (by omega), ?_⟩
    conv => whnf
    refine ⟨by omega, ?_⟩
    conv => whnf
    refine ⟨by omega, ?_⟩
    conv => whnf
    refine ⟨_, (show FnOK Tryz.prog false 52 [.c (.int .i64 (F ((n : Int) - 1).toNat)), .c (.int .i64 p)] (.t2 (.c (.int .i64 (inv (F (n - 1)) p))) (.c (.int .i64 0))) by rw [em]; exact hinv), ?_⟩
    conv => whnf
    refine ⟨_, hs, ?_⟩
    conv => whnf
    exact ⟨rfl, Sub.refl _⟩
end Fp
end Go.Proofs.YtmfaipklhkgieaaGreat
