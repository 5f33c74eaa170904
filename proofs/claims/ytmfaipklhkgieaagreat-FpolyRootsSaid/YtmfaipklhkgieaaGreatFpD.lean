/- Products of lists modulo a prime; a copy that may be written. -/
import Derived.Test.YtmfaipklhkgieaaGreatFpC
namespace Go.Proofs.YtmfaipklhkgieaaGreat
open Go.RowKit
namespace Fp
/-- The first i rows of a product. -/
def cv (F G : Nat → Int) : Nat → Nat → Int
  | 0, _ => 0
  | i + 1, n => cv F G i n + if i ≤ n then F i * G (n - i) else 0
/-- A product in the making: i rows, and j places of the next one. -/
def ps (p : Int) (F G : Nat → Int) (i j n : Nat) : Int := (cv F G i n + if i ≤ n ∧ n < i + j then F i * G (n - i) else 0) % p
theorem ps_zero {p : Int} {F G : Nat → Int} {i n : Nat} : ps p F G i 0 n = cv F G i n % p := by
  unfold ps
  rw [if_neg (by omega), Int.add_zero]
theorem ps_step {p : Int} {F G : Nat → Int} {i j n : Nat} : (if n = i + j then (ps p F G i j n + F i * G j) % p else ps p F G i j n) = ps p F G i (j + 1) n := by
  unfold ps
  by_cases e : n = i + j
  · subst e
    rw [if_pos rfl, if_neg (by omega), if_pos (by omega), Int.add_zero, Nat.add_sub_cancel_left, Int.emod_add_emod]
  · rw [if_neg e]
    by_cases h : i ≤ n ∧ n < i + j
    · rw [if_pos h, if_pos (by omega)]
    · rw [if_neg h, if_neg (by omega)]
theorem ps_full {p : Int} {F G : Nat → Int} {i m n : Nat} (hG : ∀ j, m ≤ j → G j = 0) : ps p F G i m n = ps p F G (i + 1) 0 n := by
  rw [ps_zero, show cv F G (i + 1) n = cv F G i n + if i ≤ n then F i * G (n - i) else 0 from rfl]
  unfold ps
  by_cases h : i ≤ n
  · by_cases h2 : n < i + m
    · rw [if_pos ⟨h, h2⟩, if_pos h]
    · rw [if_neg (by omega), if_pos h, hG (n - i) (by omega), Int.mul_zero]
  · rw [if_neg (by omega), if_neg h]
theorem ps_range {p : Int} {F G : Nat → Int} {i j n : Nat} (hp : 0 < p) : 0 ≤ ps p F G i j n ∧ ps p F G i j n < p := ⟨Int.emod_nonneg _ (by omega), Int.emod_lt_of_pos _ hp⟩
/-- The product. -/
def pr (p : Int) (F G : Nat → Int) (n k : Nat) : Int := cv F G n k % p
theorem tl_zero {a : Nat → Int} : ∀ {n : Nat}, (∀ i, i < n → a i = 0) → tl a n = 0
  | 0, _ => rfl
  | n + 1, h => by
    unfold tl
    rw [if_pos (h n (by omega)), tl_zero fun i hi => h i (by omega)]
theorem subNil {a : Nat → Int} {n : Nat} (h : n = 0) : Sub (.c .nil) (.c (il n a)) := by
  subst h
  intro D w v hv
  exact ⟨none, 0, hv, Nat.le_refl _, fun h => absurd h (Nat.lt_irrefl _)⟩
theorem cv_zero {F G : Nat → Int} (hG : ∀ j, G j = 0) : ∀ {i n : Nat}, cv F G i n = 0
  | 0, _ => rfl
  | i + 1, n => by
    unfold cv
    rw [cv_zero hG, hG, Int.mul_zero]
    simp
theorem mul_bounds {p x y : Int} (hp : p ≤ 65521) (hx : 0 ≤ x ∧ x < p) (hy : 0 ≤ y ∧ y < p) : 0 ≤ x * y ∧ x * y ≤ 65521 * 65521 :=
  ⟨Int.mul_nonneg hx.1 hy.1, Int.mul_le_mul (by omega) (by omega) hy.1 (by omega)⟩
set_option maxHeartbeats 4000000 in
theorem times_ok {p : Int} {n m : Nat} {F G : Nat → Int} (hp : 2 ≤ p) (hp2 : p ≤ 65521) (hn : n ≤ 1024) (hm : m ≤ 1024) (hF : ∀ i, 0 ≤ F i ∧ F i < p) (hG : ∀ i, 0 ≤ G i ∧ G i < p) (hG0 : ∀ j, m ≤ j → G j = 0) : FnOK Tryz.prog false 44 [.c (.int .i64 p), .c (il n F), .c (il m G)] (.c (il (tl (pr p F G n) (n + m - 1)) (pr p F G n))) := by
  refine fn_ok (E := E0) E0_ok Tryz.func44 rfl mixed (by kernel_rfl) (by kernel_rfl) ?_
  conv => whnf
  refine bcase (fun (h1 : gw false (decide ((n : Int) = 0)) = true) => ?_) fun (h1 : gw false (decide ((n : Int) = 0)) = false) => ?_
  · have h1 := of_decide_eq_false (gwf h1)
    conv => whnf
    refine bcase (fun (h2 : decide ((m : Int) = 0) = true) => ?_) fun (h2 : decide ((m : Int) = 0) = false) => ?_
    · have h2 := of_decide_eq_true h2
      conv => whnf
      exact ⟨rfl, subNil (tl_zero fun i _ => by unfold pr; rw [cv_zero fun j => hG0 j (by omega)]; rfl)⟩
    · have h2 := of_decide_eq_false h2
      conv => whnf
      refine ⟨i64 (by omega) (by omega), ?_⟩
      conv => whnf
      refine ⟨i64 (by omega) (by omega), ?_⟩
      conv => whnf
      refine ⟨by omega, by omega, by omega, by show ((8 : Nat) : Int) * ((n : Int) + (m : Int) - 1) ≤ _; omega, ?_⟩
      conv => whnf
      refine loop_ints (fun i : Nat => ist [(0, .c (.int .i64 p)), (2, .c (il m G)), (7, .c (.gs 0 0)), (27, .c (il n F)), (28, .c (.int .i64 n)), (29, .c (.int .i64 i))] [(3, n + m - 1, ps p F G i 0)]) (fun i => n - i) (fun i => i ≤ n) 0 rfl ?_ (Nat.zero_le _) fun i hi => ?_
      · refine Weak.ints [some 0] rfl ⟨⟨_, rfl, rfl, rfl, ?_, rfl, fun i hi => ?_⟩, trivial⟩ ⟨⟨_, rfl, rfl⟩, ⟨_, _, rfl, rfl, fun _ _ _ _ => rfl⟩, ⟨_, rfl, rfl, rfl⟩, ⟨_, _, rfl, rfl, fun _ _ _ _ => rfl⟩, ⟨_, rfl, rfl⟩, ⟨_, rfl, rfl⟩, trivial⟩
        · show ((n : Int) + (m : Int) - 1).toNat = n + m - 1
          omega
        · exact congrArg (Cell.int .i64) (show (0 : Int) = ps p F G 0 0 i by rw [ps_zero]; simp [cv])
      conv => whnf
      refine bcase (fun (h : decide ((i : Int) < n) = true) => ?_) fun (h : decide ((i : Int) < n) = false) => ?_
      · have h := of_decide_eq_true h
        conv => whnf
        refine ⟨by omega, ?_⟩
        conv => whnf
        refine ⟨by omega, ?_⟩
        conv => whnf
        refine loop_ints (fun j : Nat => ist [(0, .c (.int .i64 p)), (2, .c (il m G)), (7, .c (.gs 0 0)), (27, .c (il n F)), (28, .c (.int .i64 n)), (29, .c (.int .i64 i)), (8, .c (.int .i64 i)), (9, .c (.int .i64 (F i))), (34, .c (il m G)), (35, .c (.int .i64 m)), (36, .c (.int .i64 j))] [(3, n + m - 1, ps p F G i j)]) (fun j => m - j) (fun j => j ≤ m) 0 rfl ?_ (Nat.zero_le _) fun j hj => ?_
        · exact Weak.ints [some 0] rfl ⟨⟨_, rfl, rfl, rfl, rfl, rfl, fun _ _ => rfl⟩, trivial⟩ ⟨⟨_, rfl, rfl⟩, ⟨_, _, rfl, rfl, fun _ _ _ _ => rfl⟩, ⟨_, rfl, rfl, rfl⟩, ⟨_, _, rfl, rfl, fun _ _ _ _ => rfl⟩, ⟨_, rfl, rfl⟩, ⟨_, rfl, rfl⟩, ⟨_, rfl, rfl⟩, ⟨_, rfl, rfl⟩, ⟨_, _, rfl, rfl, fun _ _ _ _ => rfl⟩, ⟨_, rfl, rfl⟩, ⟨_, rfl, rfl⟩, trivial⟩
        conv => whnf
        refine bcase (fun (h' : decide ((j : Int) < m) = true) => ?_) fun (h' : decide ((j : Int) < m) = false) => ?_
        · have h' := of_decide_eq_true h'
          have b1 := mul_bounds hp2 (hF i) (hG j)
          have b2 := ps_range (p := p) (F := F) (G := G) (i := i) (j := j) (n := i + j) (by omega)
          conv => whnf
          refine ⟨by omega, ?_⟩
          conv => whnf
          refine ⟨by omega, ?_⟩
          conv => whnf
          refine ⟨i64 (by omega) (by omega), ?_⟩
          conv => whnf
          refine ⟨i64 (by omega) (by omega), ?_⟩
          conv => whnf
          refine ⟨by omega, ?_⟩
          conv => whnf
          refine ⟨by show (i : Int) + (j : Int) < ((n + m - 1 : Nat) : Int); omega, ?_⟩
          conv => whnf
          have eij : ((i : Int) + (j : Int)).toNat = i + j := by omega
          refine ⟨by show inR .i64 (F i * G j); exact i64 (by omega) (by omega), ?_⟩
          conv => whnf
          refine ⟨by show inR .i64 (ps p F G i j ((i : Int) + (j : Int)).toNat + F i * G j); rw [eij]; exact i64 (by omega) (by omega), ?_⟩
          conv => whnf
          refine ⟨by omega, ?_⟩
          conv => whnf
          refine ⟨by omega, ?_⟩
          conv => whnf
          refine ⟨by show (i : Int) + (j : Int) < ((n + m - 1 : Nat) : Int); omega, ?_⟩
          conv => whnf
          refine ⟨i64 (by omega) (by omega), ?_⟩
          conv => whnf
          refine ⟨j + 1, by omega, ?_, by omega⟩
          refine Weak.ints [some 0] rfl ⟨⟨_, rfl, rfl, rfl, rfl, rfl, fun k hk => updI ?_⟩, trivial⟩ ⟨⟨_, rfl, rfl⟩, ⟨_, _, rfl, rfl, fun _ _ _ _ => rfl⟩, ⟨_, rfl, rfl, rfl⟩, ⟨_, _, rfl, rfl, fun _ _ _ _ => rfl⟩, ⟨_, rfl, rfl⟩, ⟨_, rfl, rfl⟩, ⟨_, rfl, rfl⟩, ⟨_, rfl, rfl⟩, ⟨_, _, rfl, rfl, fun _ _ _ _ => rfl⟩, ⟨_, rfl, rfl⟩, ⟨_, rfl, rfl⟩, trivial⟩
          show (if k = ((i : Int) + (j : Int)).toNat then Int.tmod (ps p F G i j ((i : Int) + (j : Int)).toNat + F i * G j) p else ps p F G i j k) = ps p F G i (j + 1) k
          rw [eij, rem_eq (by omega), ← ps_step]
          by_cases e : k = i + j
          · subst e; rfl
          · rw [if_neg e, if_neg e]
        · have h' := of_decide_eq_false h'
          obtain rfl : j = m := by omega
          conv => whnf
          refine ⟨i64 (by omega) (by omega), ?_⟩
          conv => whnf
          refine ⟨i + 1, by omega, ?_, by omega⟩
          exact Weak.ints [some 0] rfl ⟨⟨_, rfl, rfl, rfl, rfl, rfl, fun k hk => congrArg (Cell.int .i64) (ps_full hG0)⟩, trivial⟩ ⟨⟨_, rfl, rfl⟩, ⟨_, _, rfl, rfl, fun _ _ _ _ => rfl⟩, ⟨_, rfl, rfl, rfl⟩, ⟨_, _, rfl, rfl, fun _ _ _ _ => rfl⟩, ⟨_, rfl, rfl⟩, ⟨_, rfl, rfl⟩, trivial⟩
      · have h := of_decide_eq_false h
        obtain rfl : i = n := by omega
        conv => whnf
        refine ⟨fun _ _ _ _ => rfl, ?_⟩
        conv => whnf
        refine ⟨_, trimmed_ok (n := i + m - 1) (a := ps p F G i 0) (by omega), ?_⟩
        conv => whnf
        exact ⟨rfl, subRow (tl_congr fun k _ => ps_zero) fun k _ => ps_zero⟩
  · have h1 := of_decide_eq_true (gwf' h1)
    conv => whnf
    exact ⟨rfl, subNil (tl_zero fun i _ => by rw [show n = 0 by omega]; exact Int.zero_emod p)⟩
end Fp
end Go.Proofs.YtmfaipklhkgieaaGreat
