/- Sums of lists modulo a prime. -/
import Derived.Test.YtmfaipklhkgieaaGreatFpH
namespace Go.Proofs.YtmfaipklhkgieaaGreat
open Go.RowKit
namespace Fp
set_option maxHeartbeats 4000000 in
theorem at_ok {n i : Nat} {a : Nat → Int} (ha : ∀ j, n ≤ j → a j = 0) : FnOK Tryz.prog false 53 [.c (il n a), .c (.int .i64 i)] (.c (.int .i64 (a i))) := by
  refine fn_ok (E := E0) E0_ok Tryz.func53 rfl mixed (by kernel_rfl) (by kernel_rfl) ?_
  conv => whnf
  refine bcase (fun (h : decide ((i : Int) < n) = true) => ?_) fun (h : decide ((i : Int) < n) = false) => ?_
  · have h := of_decide_eq_true h
    conv => whnf
    refine ⟨by omega, ?_⟩
    conv => whnf
    refine ⟨by omega, ?_⟩
    conv => whnf
    exact ⟨rfl, Sub.refl _⟩
  · have h := of_decide_eq_false h
    conv => whnf
    exact ⟨rfl, subI (ha i (by omega)).symm⟩
set_option maxHeartbeats 4000000 in
theorem refAt_ok {n i : Nat} {a : Nat → Int} (ha : ∀ j, n ≤ j → a j = 0) : FnOK Tryz.prog false 33 [.c (il n a), .c (.int .i64 i)] (.c (.int .i64 (a i))) := by
  refine fn_ok (E := E0) E0_ok Tryz.func33 rfl mixed (by kernel_rfl) (by kernel_rfl) ?_
  conv => whnf
  refine bcase (fun (h : decide ((i : Int) < n) = true) => ?_) fun (h : decide ((i : Int) < n) = false) => ?_
  · have h := of_decide_eq_true h
    conv => whnf
    refine ⟨by omega, ?_⟩
    conv => whnf
    refine ⟨by omega, ?_⟩
    conv => whnf
    exact ⟨rfl, Sub.refl _⟩
  · have h := of_decide_eq_false h
    conv => whnf
    exact ⟨rfl, subI (ha i (by omega)).symm⟩
/-- A sum with a multiple. -/
def sm (p b : Int) (F G : Nat → Int) (i : Nat) : Int := (F i + b * G i) % p
set_option maxHeartbeats 4000000 in
theorem combine_ok {p b : Int} {n m : Nat} {F G : Nat → Int} (hp : 2 ≤ p) (hp2 : p ≤ 65521) (hb : 0 ≤ b ∧ b < p) (hn : n ≤ 4096) (hm : m ≤ 4096) (hF : ∀ i, 0 ≤ F i ∧ F i < p) (hG : ∀ i, 0 ≤ G i ∧ G i < p) (hFz : ∀ j, n ≤ j → F j = 0) (hGz : ∀ j, m ≤ j → G j = 0) : FnOK Tryz.prog false 31 [.c (.int .i64 p), .c (il n F), .c (il m G), .c (.int .i64 b)] (.c (il (tl (sm p b F G) (max n m)) (sm p b F G))) := by
  refine fn_ok (E := E0) E0_ok Tryz.func31 rfl mixed (by kernel_rfl) (by kernel_rfl) ?_
  have eK : (if (m : Int) > (n : Int) then (m : Int) else (n : Int)) = ((max n m : Nat) : Int) := by split <;> omega
  have hK : max n m ≤ 4096 := by omega
  have hnK : n ≤ max n m := by omega
  have hmK : m ≤ max n m := by omega
  generalize max n m = K at *
  conv => whnf
  refine ⟨by rw [eK]; omega, by rw [eK]; omega, by rw [eK]; omega, by show ((8 : Nat) : Int) * (if (m : Int) > (n : Int) then (m : Int) else (n : Int)) ≤ _; rw [eK]; omega, ?_⟩
  conv => whnf
  refine loop_ints (fun i : Nat => ist [(0, .c (.int .i64 p)), (1, .c (il n F)), (2, .c (il m G)), (3, .c (.int .i64 b)), (9, .c (.gs 0 0)), (18, .c (.int .i64 K)), (19, .c (.int .i64 i))] [(3, K, fun x => if x < i then sm p b F G x else 0)]) (fun i => K - i) (fun i => i ≤ K) 0 rfl ?_ (Nat.zero_le _) fun i hi => ?_
  · refine Weak.ints [some 0] rfl ⟨⟨_, rfl, rfl, rfl, ?_, rfl, fun x hx => ?_⟩, trivial⟩ ⟨⟨_, rfl, rfl⟩, ⟨_, _, rfl, rfl, fun _ _ _ _ => rfl⟩, ⟨_, _, rfl, rfl, fun _ _ _ _ => rfl⟩, ⟨_, rfl, rfl⟩, ⟨_, rfl, rfl, rfl⟩, ⟨_, rfl, ?_⟩, ⟨_, rfl, rfl⟩, trivial⟩
    · show (if (m : Int) > (n : Int) then (m : Int) else (n : Int)).toNat = K
      rw [eK]; rfl
    · exact congrArg (Cell.int .i64) (show (0 : Int) = if x < 0 then sm p b F G x else 0 by rw [if_neg (Nat.not_lt_zero x)])
    · show (((if (m : Int) > (n : Int) then (m : Int) else (n : Int)).toNat : Nat) : Int) = (K : Int)
      rw [eK]; rfl
  conv => whnf
  refine bcase (fun (h : decide ((i : Int) < K) = true) => ?_) fun (h : decide ((i : Int) < K) = false) => ?_
  · have h := of_decide_eq_true h
    have f1 := hF i
    have b1 := mul_bounds hp2 hb (hG i)
    conv => whnf
    refine ⟨_, at_ok (i := i) hFz, ?_⟩
    conv => whnf
    refine ⟨_, at_ok (i := i) hGz, ?_⟩
    conv => whnf
    refine ⟨i64 (by omega) (by omega), ?_⟩
    conv => whnf
    refine ⟨i64 (by omega) (by omega), ?_⟩
    conv => whnf
    refine ⟨by omega, ?_⟩
    conv => whnf
    refine ⟨by omega, ?_⟩
    conv => whnf
    refine ⟨by show (i : Int) < (K : Int); omega, ?_⟩
    conv => whnf
    refine ⟨i64 (by omega) (by omega), ?_⟩
    conv => whnf
    refine ⟨i + 1, by omega, ?_, by omega⟩
    refine Weak.ints [some 0] rfl ⟨⟨_, rfl, rfl, rfl, rfl, rfl, fun x hx => updI ?_⟩, trivial⟩ ⟨⟨_, rfl, rfl⟩, ⟨_, _, rfl, rfl, fun _ _ _ _ => rfl⟩, ⟨_, _, rfl, rfl, fun _ _ _ _ => rfl⟩, ⟨_, rfl, rfl⟩, ⟨_, rfl, rfl, rfl⟩, ⟨_, rfl, rfl⟩, ⟨_, rfl, rfl⟩, trivial⟩
    show (if x = i then Int.tmod (F i + b * G i) p else if x < i then sm p b F G x else 0) = if x < i + 1 then sm p b F G x else 0
    rw [rem_eq (by omega)]
    by_cases e : x = i
    · subst e; rw [if_pos rfl, if_pos (by omega)]; rfl
    · rw [if_neg e]
      by_cases e2 : x < i
      · rw [if_pos e2, if_pos (by omega)]
      · rw [if_neg e2, if_neg (by omega)]
  · have h := of_decide_eq_false h
    obtain rfl : i = K := by omega
    conv => whnf
    refine ⟨fun _ _ _ _ => rfl, ?_⟩
    conv => whnf
    refine ⟨_, trimmed_ok (n := i) (a := fun x => if x < i then sm p b F G x else 0) (by omega), ?_⟩
    conv => whnf
    have e : ∀ x, x < i → (if x < i then sm p b F G x else 0) = sm p b F G x := fun x hx => if_pos hx
    exact ⟨rfl, subRow (a := fun x => if x < i then sm p b F G x else 0) (b := sm p b F G) (tl_congr e) fun x hx => e x (by have := tl_le (sm p b F G) i; omega)⟩
theorem sm_behind {p b : Int} {n m : Nat} {F G : Nat → Int} (hFz : ∀ j, n ≤ j → F j = 0) (hGz : ∀ j, m ≤ j → G j = 0) (i : Nat) (h : max n m ≤ i) : sm p b F G i = 0 := by
  unfold sm
  rw [hFz i (by omega), hGz i (by omega), Int.mul_zero, Int.add_zero, Int.zero_emod]
set_option maxHeartbeats 4000000 in
theorem refAdd_ok {p : Int} {n0 m0 n m : Nat} {a c : Nat → Int} {F G : Nat → Int} (hp : 2 ≤ p) (hp2 : p ≤ 65521) (hn0 : n0 ≤ 4096) (hm0 : m0 ≤ 4096) (eF : nf p n0 a = F) (eG : nf p m0 c = G) (en0 : tl F n0 = n) (em0 : tl G m0 = m) : FnOK Tryz.prog false 15 [.c (.int .i64 p), .c (il n0 a), .c (il m0 c)] (.c (il (tl (sm p 1 F G) (max n m)) (sm p 1 F G))) := by
  have hNf := refNormal_ok (p := p) (n := n0) (a := a) (by omega) hp2 (by omega)
  have hNg := refNormal_ok (p := p) (n := m0) (a := c) (by omega) hp2 (by omega)
  have hnn : n ≤ n0 := by rw [← en0]; exact tl_le _ _
  have hmm : m ≤ m0 := by rw [← em0]; exact tl_le _ _
  have hF : ∀ i, 0 ≤ F i ∧ F i < p := fun i => by rw [← eF]; exact nf_range (by omega) i
  have hG : ∀ i, 0 ≤ G i ∧ G i < p := fun i => by rw [← eG]; exact nf_range (by omega) i
  have hFz : ∀ j, n ≤ j → F j = 0 := fun j h => by rw [← eF]; exact nf_behind j (by rw [eF, en0]; exact h)
  have hGz : ∀ j, m ≤ j → G j = 0 := fun j h => by rw [← eG]; exact nf_behind j (by rw [eG, em0]; exact h)
  rw [eF, en0] at hNf
  rw [eG, em0] at hNg
  have hK : max n m ≤ 4096 := by omega
  have hnK : n ≤ max n m := by omega
  have hmK : m ≤ max n m := by omega
  have hor : ∀ i, i < max n m ↔ i < n ∨ i < m := fun i => by omega
  have hz := sm_behind (p := p) (b := 1) hFz hGz
  generalize max n m = K at *
  refine fn_ok (E := E0) E0_ok Tryz.func15 rfl mixed (by kernel_rfl) (by kernel_rfl) ?_
  conv => whnf
  refine .inr ?_
  conv => whnf
  refine ⟨_, hNf, ?_⟩
  conv => whnf
  refine .inr ?_
  conv => whnf
  refine ⟨_, hNg, ?_⟩
  conv => whnf
  refine loop_ints (fun i : Nat => ist [(0, .c (.int .i64 p)), (7, .c (il n F)), (8, .c (il m G)), (9, .c (.gs 0 0)), (10, .c (.int .i64 i))] [(3, i, fun x => F x + G x)]) (fun i => K - i) (fun i => i ≤ K) 0 rfl ?_ (Nat.zero_le _) fun i hi => ?_
  · exact Weak.ints [none] rfl ⟨rfl, trivial⟩ ⟨⟨_, rfl, rfl⟩, ⟨_, _, rfl, rfl, fun _ _ _ _ => rfl⟩, ⟨_, _, rfl, rfl, fun _ _ _ _ => rfl⟩, rfl, ⟨_, rfl, rfl⟩, trivial⟩
  have f1 := hF i
  have g1 := hG i
  conv => whnf
  refine bcase (fun (h : gw false (decide ((i : Int) < n)) = true) => ?_) fun (h : gw false (decide ((i : Int) < n)) = false) => ?_
  · have h := of_decide_eq_false (gwf h)
    conv => whnf
    refine bcase (fun (h' : decide ((i : Int) < m) = true) => ?_) fun (h' : decide ((i : Int) < m) = false) => ?_
    · have h' := of_decide_eq_true h'
      conv => whnf
      refine ⟨_, refAt_ok (i := i) hFz, ?_⟩
      conv => whnf
      refine ⟨_, refAt_ok (i := i) hGz, ?_⟩
      conv => whnf
      refine ⟨i64 (by omega) (by omega), ?_⟩
      conv => whnf
      refine ⟨by show i + 1 ≤ 16777216; omega, fun x y hx hy => ?_, ?_⟩
      · obtain rfl : x = 0 := by have h : x < 1 := hx
                                 omega
        obtain rfl : y = 0 := by have h : y < 1 := hy
                                 omega
        exact ⟨rfl, fun h => by cases h⟩
      conv => whnf
      refine ⟨i64 (by omega) (by omega), ?_⟩
      conv => whnf
      refine ⟨i + 1, by have := (hor i).2 (.inr (by omega)); omega, Weak.ints [some 0] rfl ⟨⟨_, rfl, rfl, rfl, rfl, rfl, fun j hj => appI ?_ (show i + 1 ≤ i + 1 from Nat.le_refl _) hj⟩, trivial⟩ ⟨⟨_, rfl, rfl⟩, ⟨_, _, rfl, rfl, fun _ _ _ _ => rfl⟩, ⟨_, _, rfl, rfl, fun _ _ _ _ => rfl⟩, ⟨_, rfl, rfl, rfl⟩, ⟨_, rfl, rfl⟩, trivial⟩, by have := (hor i).2 (.inr (by omega)); omega⟩
      show (if j = i then F i + G i else F j + G j) = F j + G j
      by_cases e : j = i
      · subst e; rw [if_pos rfl]
      · rw [if_neg e]
    · have h' := of_decide_eq_false h'
      obtain rfl : i = K := by
        rcases Nat.lt_or_ge i K with h2 | h2
        · rcases (hor i).1 h2 with h3 | h3 <;> omega
        · omega
      conv => whnf
      refine .inr ⟨fun _ _ _ _ => rfl, ?_⟩
      conv => whnf
      refine ⟨_, refNormal_ok (n := i) (a := fun x => F x + G x) (by omega) hp2 (by omega), ?_⟩
      conv => whnf
      have e1 : nf p i (fun x => F x + G x) = sm p 1 F G := by
        funext x
        unfold nf
        by_cases h : x < i
        · rw [if_pos h]; unfold sm; rw [Int.one_mul]
        · rw [if_neg h, hz x (by omega)]
      exact ⟨rfl, subRow (a := nf p i (fun x => F x + G x)) (b := sm p 1 F G) (by rw [e1]) fun x _ => congrFun e1 x⟩
  · have h := of_decide_eq_true (gwf' h)
    conv => whnf
    refine ⟨_, refAt_ok (i := i) hFz, ?_⟩
    conv => whnf
    refine ⟨_, refAt_ok (i := i) hGz, ?_⟩
    conv => whnf
    refine ⟨i64 (by omega) (by omega), ?_⟩
    conv => whnf
    refine ⟨by show i + 1 ≤ 16777216; omega, fun x y hx hy => ?_, ?_⟩
    · obtain rfl : x = 0 := by have h : x < 1 := hx
                               omega
      obtain rfl : y = 0 := by have h : y < 1 := hy
                               omega
      exact ⟨rfl, fun h => by cases h⟩
    conv => whnf
    refine ⟨i64 (by omega) (by omega), ?_⟩
    conv => whnf
    refine ⟨i + 1, by omega, Weak.ints [some 0] rfl ⟨⟨_, rfl, rfl, rfl, rfl, rfl, fun j hj => appI ?_ (show i + 1 ≤ i + 1 from Nat.le_refl _) hj⟩, trivial⟩ ⟨⟨_, rfl, rfl⟩, ⟨_, _, rfl, rfl, fun _ _ _ _ => rfl⟩, ⟨_, _, rfl, rfl, fun _ _ _ _ => rfl⟩, ⟨_, rfl, rfl, rfl⟩, ⟨_, rfl, rfl⟩, trivial⟩, by omega⟩
    show (if j = i then F i + G i else F j + G j) = F j + G j
    by_cases e : j = i
    · subst e; rw [if_pos rfl]
    · rw [if_neg e]
end Fp
end Go.Proofs.YtmfaipklhkgieaaGreat
/- Multiples and products in the reference. -/
namespace Go.Proofs.YtmfaipklhkgieaaGreat
open Go.RowKit
namespace Fp
/-- A multiple. -/
def sc (p k : Int) (F : Nat → Int) (i : Nat) : Int := (k % p * F i) % p
set_option maxHeartbeats 4000000 in
theorem refScale_ok {p k : Int} {n0 n : Nat} {a F : Nat → Int} (hp : 2 ≤ p) (hp2 : p ≤ 65521) (hn0 : n0 ≤ 4096) (eF : nf p n0 a = F) (en0 : tl F n0 = n) : FnOK Tryz.prog false 38 [.c (.int .i64 p), .c (.int .i64 k), .c (il n0 a)] (.c (il (tl (sc p k F) n) (sc p k F))) := by
  have hNf := refNormal_ok (p := p) (n := n0) (a := a) (by omega) hp2 (by omega)
  have hnn : n ≤ n0 := by rw [← en0]; exact tl_le _ _
  have hF : ∀ i, 0 ≤ F i ∧ F i < p := fun i => by rw [← eF]; exact nf_range (by omega) i
  have hFz : ∀ j, n ≤ j → F j = 0 := fun j h => by rw [← eF]; exact nf_behind j (by rw [eF, en0]; exact h)
  rw [eF, en0] at hNf
  have hk : 0 ≤ k % p ∧ k % p < p := ⟨Int.emod_nonneg _ (by omega), Int.emod_lt_of_pos _ (by omega)⟩
  refine fn_ok (E := E0) E0_ok Tryz.func38 rfl mixed (by kernel_rfl) (by kernel_rfl) ?_
  conv => whnf
  refine .inr ?_
  conv => whnf
  refine ⟨_, hNf, ?_⟩
  conv => whnf
  refine loop_ints (fun i : Nat => ist [(0, .c (.int .i64 p)), (1, .c (.int .i64 k)), (7, .c (il n F)), (8, .c (.gs 0 0)), (9, .c (.int .i64 i))] [(3, i, fun x => k % p * F x)]) (fun i => n - i) (fun i => i ≤ n) 0 rfl ?_ (Nat.zero_le _) fun i hi => ?_
  · exact Weak.ints [none] rfl ⟨rfl, trivial⟩ ⟨⟨_, rfl, rfl⟩, ⟨_, rfl, rfl⟩, ⟨_, _, rfl, rfl, fun _ _ _ _ => rfl⟩, rfl, ⟨_, rfl, rfl⟩, trivial⟩
  have b1 := mul_bounds hp2 hk (hF i)
  conv => whnf
  refine bcase (fun (h : decide ((i : Int) < n) = true) => ?_) fun (h : decide ((i : Int) < n) = false) => ?_
  · have h := of_decide_eq_true h
    conv => whnf
    refine ⟨_, refMod_ok (a := k) (by omega) hp2, ?_⟩
    conv => whnf
    refine ⟨by omega, ?_⟩
    conv => whnf
    refine ⟨by omega, ?_⟩
    conv => whnf
    refine ⟨by show inR .i64 (k % p * F i); exact i64 (by omega) (by omega), ?_⟩
    conv => whnf
    refine .inr ?_
    conv => whnf
    refine ⟨rfl, ?_⟩
    conv => whnf
    refine ⟨by show i + 1 ≤ 16777216; omega, fun x y hx hy => ?_, ?_⟩
    · obtain rfl : x = 0 := by have h : x < 1 := hx
                               omega
      obtain rfl : y = 0 := by have h : y < 1 := hy
                               omega
      exact ⟨rfl, fun h => by cases h⟩
    conv => whnf
    refine ⟨i64 (by omega) (by omega), ?_⟩
    conv => whnf
    refine ⟨i + 1, by omega, ?_, by omega⟩
    refine Weak.ints [some 0] rfl ⟨⟨_, rfl, rfl, rfl, rfl, rfl, fun j hj => appI ?_ (show i + 1 ≤ i + 1 from Nat.le_refl _) hj⟩, trivial⟩ ⟨⟨_, rfl, rfl⟩, ⟨_, rfl, rfl⟩, ⟨_, _, rfl, rfl, fun _ _ _ _ => rfl⟩, ⟨_, rfl, rfl, rfl⟩, ⟨_, rfl, rfl⟩, trivial⟩
    show (if j = i then k % p * F i else k % p * F j) = k % p * F j
    by_cases e : j = i
    · subst e; rw [if_pos rfl]
    · rw [if_neg e]
  · have h := of_decide_eq_false h
    obtain rfl : i = n := by omega
    conv => whnf
    refine .inr ⟨fun _ _ _ _ => rfl, ?_⟩
    conv => whnf
    refine ⟨_, refNormal_ok (n := i) (a := fun x => k % p * F x) (by omega) hp2 (by omega), ?_⟩
    conv => whnf
    have e1 : nf p i (fun x => k % p * F x) = sc p k F := by
      funext x
      unfold nf
      by_cases h : x < i
      · rw [if_pos h]; rfl
      · rw [if_neg h]; unfold sc; rw [hFz x (by omega), Int.mul_zero, Int.zero_emod]
    exact ⟨rfl, subRow (a := nf p i (fun x => k % p * F x)) (b := sc p k F) (by rw [e1]) fun x _ => congrFun e1 x⟩
set_option maxHeartbeats 4000000 in
theorem refMul_ok {p : Int} {n0 m0 n m : Nat} {a c F G : Nat → Int} (hp : 2 ≤ p) (hp2 : p ≤ 65521) (hn0 : n0 ≤ 1024) (hm0 : m0 ≤ 1024) (eF : nf p n0 a = F) (eG : nf p m0 c = G) (en0 : tl F n0 = n) (em0 : tl G m0 = m) : FnOK Tryz.prog false 30 [.c (.int .i64 p), .c (il n0 a), .c (il m0 c)] (.c (il (tl (pr p F G n) (n + m - 1)) (pr p F G n))) := by
  have hNf := refNormal_ok (p := p) (n := n0) (a := a) (by omega) hp2 (by omega)
  have hNg := refNormal_ok (p := p) (n := m0) (a := c) (by omega) hp2 (by omega)
  have hnn : n ≤ n0 := by rw [← en0]; exact tl_le _ _
  have hmm : m ≤ m0 := by rw [← em0]; exact tl_le _ _
  have hF : ∀ i, 0 ≤ F i ∧ F i < p := fun i => by rw [← eF]; exact nf_range (by omega) i
  have hG : ∀ i, 0 ≤ G i ∧ G i < p := fun i => by rw [← eG]; exact nf_range (by omega) i
  have hGz : ∀ j, m ≤ j → G j = 0 := fun j h => by rw [← eG]; exact nf_behind j (by rw [eG, em0]; exact h)
  have hG0 := hGz
  rw [eF, en0] at hNf
  rw [eG, em0] at hNg
  refine fn_ok (E := E0) E0_ok Tryz.func30 rfl mixed (by kernel_rfl) (by kernel_rfl) ?_
  conv => whnf
  refine .inr ?_
  conv => whnf
  refine ⟨_, hNf, ?_⟩
  conv => whnf
  refine .inr ?_
  conv => whnf
  refine ⟨_, hNg, ?_⟩
  conv => whnf
  refine bcase (fun (h1 : gw false (decide ((n : Int) = 0)) = true) => ?_) fun (h1 : gw false (decide ((n : Int) = 0)) = false) => ?_
  · have h1 := of_decide_eq_false (gwf h1)
    conv => whnf
    refine bcase (fun (h2 : decide ((m : Int) = 0) = true) => ?_) fun (h2 : decide ((m : Int) = 0) = false) => ?_
    · have h2 := of_decide_eq_true h2
      conv => whnf
      exact ⟨rfl, subNil (tl_zero fun i _ => by unfold pr; rw [cv_zero fun j => hG0 j (by omega)]; rfl)⟩
    · have h2 := of_decide_eq_false h2
      conv => whnf
      refine ⟨i64 (by omega) (by omega), ?_⟩
      conv => whnf
      refine ⟨i64 (by omega) (by omega), ?_⟩
      conv => whnf
      refine ⟨by omega, by omega, by omega, by show ((8 : Nat) : Int) * ((n : Int) + (m : Int) - 1) ≤ _; omega, ?_⟩
      conv => whnf
      refine loop_ints (fun i : Nat => ist [(0, .c (.int .i64 p)), (7, .c (il n F)), (8, .c (il m G)), (9, .c (.gs 0 0)), (10, .c (.int .i64 i))] [(3, n + m - 1, ps p F G i 0)]) (fun i => n - i) (fun i => i ≤ n) 0 rfl ?_ (Nat.zero_le _) fun i hi => ?_
      · refine Weak.ints [some 0] rfl ⟨⟨_, rfl, rfl, rfl, ?_, rfl, fun i hi => ?_⟩, trivial⟩ ⟨⟨_, rfl, rfl⟩, ⟨_, _, rfl, rfl, fun _ _ _ _ => rfl⟩, ⟨_, _, rfl, rfl, fun _ _ _ _ => rfl⟩, ⟨_, rfl, rfl, rfl⟩, ⟨_, rfl, rfl⟩, trivial⟩
        · show ((n : Int) + (m : Int) - 1).toNat = n + m - 1
          omega
        · exact congrArg (Cell.int .i64) (show (0 : Int) = ps p F G 0 0 i by rw [ps_zero]; simp [cv])
      conv => whnf
      refine bcase (fun (h : decide ((i : Int) < n) = true) => ?_) fun (h : decide ((i : Int) < n) = false) => ?_
      · have h := of_decide_eq_true h
        conv => whnf
        refine loop_ints (fun j : Nat => ist [(0, .c (.int .i64 p)), (7, .c (il n F)), (8, .c (il m G)), (9, .c (.gs 0 0)), (10, .c (.int .i64 i)), (11, .c (.int .i64 j))] [(3, n + m - 1, ps p F G i j)]) (fun j => m - j) (fun j => j ≤ m) 0 rfl ?_ (Nat.zero_le _) fun j hj => ?_
        · exact Weak.ints [some 0] rfl ⟨⟨_, rfl, rfl, rfl, rfl, rfl, fun _ _ => rfl⟩, trivial⟩ ⟨⟨_, rfl, rfl⟩, ⟨_, _, rfl, rfl, fun _ _ _ _ => rfl⟩, ⟨_, _, rfl, rfl, fun _ _ _ _ => rfl⟩, ⟨_, rfl, rfl, rfl⟩, ⟨_, rfl, rfl⟩, ⟨_, rfl, rfl⟩, trivial⟩
        conv => whnf
        refine bcase (fun (h' : decide ((j : Int) < m) = true) => ?_) fun (h' : decide ((j : Int) < m) = false) => ?_
        · have h' := of_decide_eq_true h'
          have b1 := mul_bounds hp2 (hF i) (hG j)
          have b2 := ps_range (p := p) (F := F) (G := G) (i := i) (j := j) (n := i + j) (by omega)
          conv => whnf
          refine ⟨i64 (by omega) (by omega), ?_⟩
          conv => whnf
          refine ⟨i64 (by omega) (by omega), ?_⟩
          conv => whnf
          refine ⟨by omega, ?_⟩
          conv => whnf
          refine ⟨by show (i : Int) + (j : Int) < ((n + m - 1 : Nat) : Int); omega, ?_⟩
          conv => whnf
          have eij : ((i : Int) + (j : Int)).toNat = i + j := by omega
          refine ⟨by omega, ?_⟩
          conv => whnf
          refine ⟨by omega, ?_⟩
          conv => whnf
          refine ⟨by omega, ?_⟩
          conv => whnf
          refine ⟨by omega, ?_⟩
          conv => whnf
          refine ⟨by show inR .i64 (F i * G j); exact i64 (by omega) (by omega), ?_⟩
          conv => whnf
          refine ⟨by show inR .i64 (ps p F G i j ((i : Int) + (j : Int)).toNat + F i * G j); rw [eij]; exact i64 (by omega) (by omega), ?_⟩
          conv => whnf
          refine ⟨by omega, ?_⟩
          conv => whnf
          refine ⟨by omega, ?_⟩
          conv => whnf
          refine ⟨by show (i : Int) + (j : Int) < ((n + m - 1 : Nat) : Int); omega, ?_⟩
          conv => whnf
          refine ⟨i64 (by omega) (by omega), ?_⟩
          conv => whnf
          refine ⟨j + 1, by omega, ?_, by omega⟩
          refine Weak.ints [some 0] rfl ⟨⟨_, rfl, rfl, rfl, rfl, rfl, fun k hk => updI ?_⟩, trivial⟩ ⟨⟨_, rfl, rfl⟩, ⟨_, _, rfl, rfl, fun _ _ _ _ => rfl⟩, ⟨_, _, rfl, rfl, fun _ _ _ _ => rfl⟩, ⟨_, rfl, rfl, rfl⟩, ⟨_, rfl, rfl⟩, ⟨_, rfl, rfl⟩, trivial⟩
          show (if k = ((i : Int) + (j : Int)).toNat then Int.tmod (ps p F G i j ((i : Int) + (j : Int)).toNat + F i * G j) p else ps p F G i j k) = ps p F G i (j + 1) k
          rw [eij, rem_eq (by omega), ← ps_step]
          by_cases e : k = i + j
          · subst e; rfl
          · rw [if_neg e, if_neg e]
        · have h' := of_decide_eq_false h'
          obtain rfl : j = m := by omega
          conv => whnf
          refine ⟨i64 (by omega) (by omega), ?_⟩
          conv => whnf
          refine ⟨i + 1, by omega, ?_, by omega⟩
          exact Weak.ints [some 0] rfl ⟨⟨_, rfl, rfl, rfl, rfl, rfl, fun k hk => congrArg (Cell.int .i64) (ps_full hG0)⟩, trivial⟩ ⟨⟨_, rfl, rfl⟩, ⟨_, _, rfl, rfl, fun _ _ _ _ => rfl⟩, ⟨_, _, rfl, rfl, fun _ _ _ _ => rfl⟩, ⟨_, rfl, rfl, rfl⟩, ⟨_, rfl, rfl⟩, trivial⟩
      · have h := of_decide_eq_false h
        obtain rfl : i = n := by omega
        conv => whnf
        refine .inr ⟨fun _ _ _ _ => rfl, ?_⟩
        conv => whnf
        refine ⟨_, refNormal_ok (n := i + m - 1) (a := ps p F G i 0) (by omega) hp2 (by omega), ?_⟩
        conv => whnf
        have e1 : nf p (i + m - 1) (ps p F G i 0) = pr p F G i := by
          funext x
          unfold nf
          by_cases h : x < i + m - 1
          · rw [if_pos h, ps_zero, Int.emod_emod]; rfl
          · rw [if_neg h]; unfold pr; rw [cv_top hGz (by omega), Int.zero_emod]
        exact ⟨rfl, subRow (a := nf p (i + m - 1) (ps p F G i 0)) (b := pr p F G i) (by rw [e1]) fun x _ => congrFun e1 x⟩
  · have h1 := of_decide_eq_true (gwf' h1)
    conv => whnf
    exact ⟨rfl, subNil (tl_zero fun i _ => by rw [show n = 0 by omega]; exact Int.zero_emod p)⟩
end Fp
end Go.Proofs.YtmfaipklhkgieaaGreat
