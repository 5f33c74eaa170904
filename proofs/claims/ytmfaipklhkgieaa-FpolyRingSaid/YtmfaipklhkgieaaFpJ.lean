/- Multiples and products in the reference. -/
import Derived.Test.YtmfaipklhkgieaaFpI
namespace Go.Proofs.Ytmfaipklhkgieaa
open Go.RowKit
namespace Fp
/-- A multiple. -/
def sc (p k : Int) (F : Nat → Int) (i : Nat) : Int := (k % p * F i) % p
set_option maxHeartbeats 4000000 in
theorem refScale_ok {p k : Int} {n0 n : Nat} {a F : Nat → Int} (hp : 2 ≤ p) (hp2 : p ≤ 65521) (hn0 : n0 ≤ 4096) (eF : nf p n0 a = F) (en0 : tl F n0 = n) : FnOK Try.prog false 44 [.c (.int .i64 p), .c (.int .i64 k), .c (il n0 a)] (.c (il (tl (sc p k F) n) (sc p k F))) := by
  have hNf := refNormal_ok (p := p) (n := n0) (a := a) (by omega) hp2 (by omega)
  have hnn : n ≤ n0 := by rw [← en0]; exact tl_le _ _
  have hF : ∀ i, 0 ≤ F i ∧ F i < p := fun i => by rw [← eF]; exact nf_range (by omega) i
  have hFz : ∀ j, n ≤ j → F j = 0 := fun j h => by rw [← eF]; exact nf_behind j (by rw [eF, en0]; exact h)
  rw [eF, en0] at hNf
  have hk : 0 ≤ k % p ∧ k % p < p := ⟨Int.emod_nonneg _ (by omega), Int.emod_lt_of_pos _ (by omega)⟩
  refine fn_ok (E := E0) E0_ok Try.func44 rfl mixed (by kernel_rfl) (by kernel_rfl) ?_
  conv => whnf
  refine .inr ?_
  conv => whnf
  refine ⟨_, hNf, ?_⟩
  conv => whnf
  refine loop_ints (fun i : Nat => ist [(0, .c (.int .i64 p)), (1, .c (.int .i64 k)), (7, .c (il n F)), (8, .c (.gs 0 0)), (9, .c (.int .i64 i))] [(3, i, fun x => k % p * F x)]) (fun i => n - i) (fun i => i ≤ n) 0 rfl ?_ (Nat.zero_le _) fun i hi => ?_
  · exact Weak.ints [none] rfl ⟨rfl, trivial⟩ ⟨⟨_, rfl, rfl⟩, ⟨_, rfl, rfl⟩, ⟨_, _, rfl, rfl, fun _ _ _ _ => rfl⟩, rfl, ⟨_, rfl, rfl⟩, trivial⟩
  have b1 := mul_bounds hp2 hk (hF i)
  conv => whnf
  refine bcase (fun (h : decide ((i : Int) < n) = true) => ?_) fun (h : decide ((i : Int) < n) = false) => ?_
  · have h := of_decide_eq_true h
    conv => whnf
    refine ⟨_, refMod_ok (a := k) (by omega) hp2, ?_⟩
    conv => whnf
    refine ⟨by omega, ?_⟩
    conv => whnf
    refine ⟨by omega, ?_⟩
    conv => whnf
    refine ⟨by show inR .i64 (k % p * F i); exact i64 (by omega) (by omega), ?_⟩
    conv => whnf
    refine .inr ?_
    conv => whnf
    refine ⟨rfl, ?_⟩
    conv => whnf
    refine ⟨by show i + 1 ≤ 16777216; omega, fun x y hx hy => ?_, ?_⟩
    · obtain rfl : x = 0 := by have h : x < 1 := hx
                               omega
      obtain rfl : y = 0 := by have h : y < 1 := hy
                               omega
      exact ⟨rfl, fun h => by cases h⟩
    conv => whnf
    refine ⟨i64 (by omega) (by omega), ?_⟩
    conv => whnf
    refine ⟨i + 1, by omega, ?_, by omega⟩
    refine Weak.ints [some 0] rfl ⟨⟨_, rfl, rfl, rfl, rfl, rfl, fun j hj => appI ?_ (show i + 1 ≤ i + 1 from Nat.le_refl _) hj⟩, trivial⟩ ⟨⟨_, rfl, rfl⟩, ⟨_, rfl, rfl⟩, ⟨_, _, rfl, rfl, fun _ _ _ _ => rfl⟩, ⟨_, rfl, rfl, rfl⟩, ⟨_, rfl, rfl⟩, trivial⟩
    show (if j = i then k % p * F i else k % p * F j) = k % p * F j
    by_cases e : j = i
    · subst e; rw [if_pos rfl]
    · rw [if_neg e]
  · have h := of_decide_eq_false h
    obtain rfl : i = n := by omega
    conv => whnf
    refine .inr ⟨fun _ _ _ _ => rfl, ?_⟩
    conv => whnf
    refine ⟨_, refNormal_ok (n := i) (a := fun x => k % p * F x) (by omega) hp2 (by omega), ?_⟩
    conv => whnf
    have e1 : nf p i (fun x => k % p * F x) = sc p k F := by
      funext x
      unfold nf
      by_cases h : x < i
      · rw [if_pos h]; rfl
      · rw [if_neg h]; unfold sc; rw [hFz x (by omega), Int.mul_zero, Int.zero_emod]
    exact ⟨rfl, subRow (a := nf p i (fun x => k % p * F x)) (b := sc p k F) (by rw [e1]) fun x _ => congrFun e1 x⟩
set_option maxHeartbeats 4000000 in
theorem refMul_ok {p : Int} {n0 m0 n m : Nat} {a c F G : Nat → Int} (hp : 2 ≤ p) (hp2 : p ≤ 65521) (hn0 : n0 ≤ 1024) (hm0 : m0 ≤ 1024) (eF : nf p n0 a = F) (eG : nf p m0 c = G) (en0 : tl F n0 = n) (em0 : tl G m0 = m) : FnOK Try.prog false 21 [.c (.int .i64 p), .c (il n0 a), .c (il m0 c)] (.c (il (tl (pr p F G n) (n + m - 1)) (pr p F G n))) := by
  have hNf := refNormal_ok (p := p) (n := n0) (a := a) (by omega) hp2 (by omega)
  have hNg := refNormal_ok (p := p) (n := m0) (a := c) (by omega) hp2 (by omega)
  have hnn : n ≤ n0 := by rw [← en0]; exact tl_le _ _
  have hmm : m ≤ m0 := by rw [← em0]; exact tl_le _ _
  have hF : ∀ i, 0 ≤ F i ∧ F i < p := fun i => by rw [← eF]; exact nf_range (by omega) i
  have hG : ∀ i, 0 ≤ G i ∧ G i < p := fun i => by rw [← eG]; exact nf_range (by omega) i
  have hGz : ∀ j, m ≤ j → G j = 0 := fun j h => by rw [← eG]; exact nf_behind j (by rw [eG, em0]; exact h)
  have hG0 := hGz
  rw [eF, en0] at hNf
  rw [eG, em0] at hNg
  refine fn_ok (E := E0) E0_ok Try.func21 rfl mixed (by kernel_rfl) (by kernel_rfl) ?_
  conv => whnf
  refine .inr ?_
  conv => whnf
  refine ⟨_, hNf, ?_⟩
  conv => whnf
  refine .inr ?_
  conv => whnf
  refine ⟨_, hNg, ?_⟩
  conv => whnf
  refine bcase (fun (h1 : gw false (decide ((n : Int) = 0)) = true) => ?_) fun (h1 : gw false (decide ((n : Int) = 0)) = false) => ?_
  · have h1 := of_decide_eq_false (gwf h1)
    conv => whnf
    refine bcase (fun (h2 : decide ((m : Int) = 0) = true) => ?_) fun (h2 : decide ((m : Int) = 0) = false) => ?_
    · have h2 := of_decide_eq_true h2
      conv => whnf
      exact ⟨rfl, subNil (tl_zero fun i _ => by unfold pr; rw [cv_zero fun j => hG0 j (by omega)]; rfl)⟩
    · have h2 := of_decide_eq_false h2
      conv => whnf
      refine ⟨i64 (by omega) (by omega), ?_⟩
      conv => whnf
      refine ⟨i64 (by omega) (by omega), ?_⟩
      conv => whnf
      refine ⟨by omega, by omega, by omega, by show ((8 : Nat) : Int) * ((n : Int) + (m : Int) - 1) ≤ _; omega, ?_⟩
      conv => whnf
      refine loop_ints (fun i : Nat => ist [(0, .c (.int .i64 p)), (7, .c (il n F)), (8, .c (il m G)), (9, .c (.gs 0 0)), (10, .c (.int .i64 i))] [(3, n + m - 1, ps p F G i 0)]) (fun i => n - i) (fun i => i ≤ n) 0 rfl ?_ (Nat.zero_le _) fun i hi => ?_
      · refine Weak.ints [some 0] rfl ⟨⟨_, rfl, rfl, rfl, ?_, rfl, fun i hi => ?_⟩, trivial⟩ ⟨⟨_, rfl, rfl⟩, ⟨_, _, rfl, rfl, fun _ _ _ _ => rfl⟩, ⟨_, _, rfl, rfl, fun _ _ _ _ => rfl⟩, ⟨_, rfl, rfl, rfl⟩, ⟨_, rfl, rfl⟩, trivial⟩
        · show ((n : Int) + (m : Int) - 1).toNat = n + m - 1
          omega
        · exact congrArg (Cell.int .i64) (show (0 : Int) = ps p F G 0 0 i by rw [ps_zero]; simp [cv])
      conv => whnf
      refine bcase (fun (h : decide ((i : Int) < n) = true) => ?_) fun (h : decide ((i : Int) < n) = false) => ?_
      · have h := of_decide_eq_true h
        conv => whnf
        refine loop_ints (fun j : Nat => ist [(0, .c (.int .i64 p)), (7, .c (il n F)), (8, .c (il m G)), (9, .c (.gs 0 0)), (10, .c (.int .i64 i)), (11, .c (.int .i64 j))] [(3, n + m - 1, ps p F G i j)]) (fun j => m - j) (fun j => j ≤ m) 0 rfl ?_ (Nat.zero_le _) fun j hj => ?_
        · exact Weak.ints [some 0] rfl ⟨⟨_, rfl, rfl, rfl, rfl, rfl, fun _ _ => rfl⟩, trivial⟩ ⟨⟨_, rfl, rfl⟩, ⟨_, _, rfl, rfl, fun _ _ _ _ => rfl⟩, ⟨_, _, rfl, rfl, fun _ _ _ _ => rfl⟩, ⟨_, rfl, rfl, rfl⟩, ⟨_, rfl, rfl⟩, ⟨_, rfl, rfl⟩, trivial⟩
        conv => whnf
        refine bcase (fun (h' : decide ((j : Int) < m) = true) => ?_) fun (h' : decide ((j : Int) < m) = false) => ?_
        · have h' := of_decide_eq_true h'
          have b1 := mul_bounds hp2 (hF i) (hG j)
          have b2 := ps_range (p := p) (F := F) (G := G) (i := i) (j := j) (n := i + j) (by omega)
          conv => whnf
          refine ⟨i64 (by omega) (by omega), ?_⟩
          conv => whnf
          refine ⟨i64 (by omega) (by omega), ?_⟩
          conv => whnf
          refine ⟨by omega, ?_⟩
          conv => whnf
          refine ⟨by show (i : Int) + (j : Int) < ((n + m - 1 : Nat) : Int); omega, ?_⟩
          conv => whnf
          have eij : ((i : Int) + (j : Int)).toNat = i + j := by omega
          refine ⟨by omega, ?_⟩
          conv => whnf
          refine ⟨by omega, ?_⟩
          conv => whnf
          refine ⟨by omega, ?_⟩
          conv => whnf
          refine ⟨by omega, ?_⟩
          conv => whnf
          refine ⟨by show inR .i64 (F i * G j); exact i64 (by omega) (by omega), ?_⟩
          conv => whnf
          refine ⟨by show inR .i64 (ps p F G i j ((i : Int) + (j : Int)).toNat + F i * G j); rw [eij]; exact i64 (by omega) (by omega), ?_⟩
          conv => whnf
          refine ⟨by omega, ?_⟩
          conv => whnf
          refine ⟨by omega, ?_⟩
          conv => whnf
          refine ⟨by show (i : Int) + (j : Int) < ((n + m - 1 : Nat) : Int); omega, ?_⟩
          conv => whnf
          refine ⟨i64 (by omega) (by omega), ?_⟩
          conv => whnf
          refine ⟨j + 1, by omega, ?_, by omega⟩
          refine Weak.ints [some 0] rfl ⟨⟨_, rfl, rfl, rfl, rfl, rfl, fun k hk => updI ?_⟩, trivial⟩ ⟨⟨_, rfl, rfl⟩, ⟨_, _, rfl, rfl, fun _ _ _ _ => rfl⟩, ⟨_, _, rfl, rfl, fun _ _ _ _ => rfl⟩, ⟨_, rfl, rfl, rfl⟩, ⟨_, rfl, rfl⟩, ⟨_, rfl, rfl⟩, trivial⟩
          show (if k = ((i : Int) + (j : Int)).toNat then Int.tmod (ps p F G i j ((i : Int) + (j : Int)).toNat + F i * G j) p else ps p F G i j k) = ps p F G i (j + 1) k
          rw [eij, rem_eq (by omega), ← ps_step]
          by_cases e : k = i + j
          · subst e; rfl
          · rw [if_neg e, if_neg e]
        · have h' := of_decide_eq_false h'
          obtain rfl : j = m := by omega
          conv => whnf
          refine ⟨i64 (by omega) (by omega), ?_⟩
          conv => whnf
          refine ⟨i + 1, by omega, ?_, by omega⟩
          exact Weak.ints [some 0] rfl ⟨⟨_, rfl, rfl, rfl, rfl, rfl, fun k hk => congrArg (Cell.int .i64) (ps_full hG0)⟩, trivial⟩ ⟨⟨_, rfl, rfl⟩, ⟨_, _, rfl, rfl, fun _ _ _ _ => rfl⟩, ⟨_, _, rfl, rfl, fun _ _ _ _ => rfl⟩, ⟨_, rfl, rfl, rfl⟩, ⟨_, rfl, rfl⟩, trivial⟩
      · have h := of_decide_eq_false h
        obtain rfl : i = n := by omega
        conv => whnf
        refine .inr ⟨fun _ _ _ _ => rfl, ?_⟩
        conv => whnf
        refine ⟨_, refNormal_ok (n := i + m - 1) (a := ps p F G i 0) (by omega) hp2 (by omega), ?_⟩
        conv => whnf
        have e1 : nf p (i + m - 1) (ps p F G i 0) = pr p F G i := by
          funext x
          unfold nf
          by_cases h : x < i + m - 1
          · rw [if_pos h, ps_zero, Int.emod_emod]; rfl
          · rw [if_neg h]; unfold pr; rw [cv_top hGz (by omega), Int.zero_emod]
        exact ⟨rfl, subRow (a := nf p (i + m - 1) (ps p F G i 0)) (b := pr p F G i) (by rw [e1]) fun x _ => congrFun e1 x⟩
  · have h1 := of_decide_eq_true (gwf' h1)
    conv => whnf
    exact ⟨rfl, subNil (tl_zero fun i _ => by rw [show n = 0 by omega]; exact Int.zero_emod p)⟩
end Fp
end Go.Proofs.Ytmfaipklhkgieaa
