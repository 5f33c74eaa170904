/- The reference's normal form; comparison of lists; copies. -/
import Derived.Test.YtmfaipklhkgieaaGreatFpA
import Derived.Test.YtmfaipklhkgieaaGreatRunF
namespace Go.Proofs.YtmfaipklhkgieaaGreat
open Go.RowKit
namespace Fp
set_option maxHeartbeats 4000000 in
theorem refNormal_ok {p : Int} {n : Nat} {a : Nat → Int} (hp : 0 < p) (hp2 : p ≤ 65521) (hn : n ≤ 1048576) : FnOK Tryz.prog false 18 [.c (.int .i64 p), .c (il n a)] (.c (il (tl (nf p n a) n) (nf p n a))) := by
  refine fn_ok (E := E0) E0_ok Tryz.func18 rfl mixed (by kernel_rfl) (by kernel_rfl) ?_
  conv => whnf
  refine loop_ints (fun i : Nat => ist [(0, .c (.int .i64 p)), (1, .c (il n a)), (5, .c (.gs 0 0)), (6, .c (.int .i64 i))] [(3, i, nf p i a)]) (fun i => n - i) (fun i => i ≤ n) 0 rfl (Weak.ints [none] rfl ⟨rfl, trivial⟩ ⟨⟨_, rfl, rfl⟩, ⟨_, _, rfl, rfl, fun _ _ _ _ => rfl⟩, rfl, ⟨_, rfl, rfl⟩, trivial⟩) (Nat.zero_le _) fun i hi => ?_
  conv => whnf
  refine bcase (fun (h : decide ((i : Int) < n) = true) => ?_) fun (h : decide ((i : Int) < n) = false) => ?_
  · have h := of_decide_eq_true h
    conv => whnf
    refine ⟨by omega, ?_⟩
    conv => whnf
    refine ⟨by omega, ?_⟩
    conv => whnf
    refine ⟨_, refMod_ok (a := a i) hp hp2, ?_⟩
    conv => whnf
    refine ⟨by show i + 1 ≤ 16777216; omega, fun x y hx hy => ?_, ?_⟩
    · obtain rfl : x = 0 := by have h : x < 1 := hx
                               omega
      obtain rfl : y = 0 := by have h : y < 1 := hy
                               omega
      exact ⟨rfl, fun h => by cases h⟩
    conv => whnf
    refine ⟨i64 (by omega) (by omega), ?_⟩
    conv => whnf
    refine ⟨i + 1, by omega, Weak.ints [some 0] rfl ⟨⟨_, rfl, rfl, rfl, rfl, rfl, fun j hj => ?_⟩, trivial⟩ ⟨⟨_, rfl, rfl⟩, ⟨_, _, rfl, rfl, fun _ _ _ _ => rfl⟩, ⟨_, rfl, rfl, rfl⟩, ⟨_, rfl, rfl⟩, trivial⟩, by omega⟩
    refine appI ?_ (show i + 1 ≤ i + 1 from Nat.le_refl _) hj
    exact nf_succ p i a j
  · have h := of_decide_eq_false h
    obtain rfl : i = n := by omega
    conv => whnf
    refine loop_ints (fun m : Nat => ist [(5, .c (.gs 0 0)), (7, .c (.int .i64 m))] [(3, i, nf p i a)]) (fun m => m) (fun m => m ≤ i ∧ tl (nf p i a) m = tl (nf p i a) i) i rfl (Weak.ints [some 0] rfl ⟨⟨_, rfl, rfl, rfl, rfl, rfl, fun _ _ => rfl⟩, trivial⟩ ⟨⟨_, rfl, rfl, rfl⟩, ⟨_, rfl, rfl⟩, trivial⟩) ⟨Nat.le_refl _, rfl⟩ fun m ⟨hm, ht⟩ => ?_
    conv => whnf
    refine bcase (fun (h : gw true (decide ((0 : Int) < m)) = true) => ?_) fun (h : gw true (decide ((0 : Int) < m)) = false) => ?_
    · have h := of_decide_eq_true (gw_true.1 h)
      obtain ⟨k, rfl⟩ : ∃ k, m = k + 1 := ⟨m - 1, by omega⟩
      have ek : (((k + 1 : Nat) : Int) - 1).toNat = k := by omega
      conv => whnf
      refine ⟨i64 (by omega) (by omega), ?_⟩
      conv => whnf
      refine ⟨by omega, ?_⟩
      conv => whnf
      refine ⟨by show (((k + 1 : Nat) : Int) - 1) < (i : Int); omega, ?_⟩
      conv => whnf
      refine bcase (fun (h1 : decide (nf p i a (((k + 1 : Nat) : Int) - 1).toNat = 0) = true) => ?_) fun (h1 : decide (nf p i a (((k + 1 : Nat) : Int) - 1).toNat = 0) = false) => ?_
      · have h1 := of_decide_eq_true h1
        rw [ek] at h1
        conv => whnf
        refine ⟨i64 (by omega) (by omega), ?_⟩
        conv => whnf
        exact ⟨k, by omega, Weak.ints [some 0] rfl ⟨⟨_, rfl, rfl, rfl, rfl, rfl, fun _ _ => rfl⟩, trivial⟩ ⟨⟨_, rfl, rfl, rfl⟩, ⟨_, rfl, by omega⟩, trivial⟩, by omega, by rw [← ht]; simp [tl, h1]⟩
      · have h1 := of_decide_eq_false h1
        rw [ek] at h1
        conv => whnf
        refine ⟨by omega, by omega, ?_⟩
        conv => whnf
        refine ⟨by show ((k + 1 : Nat) : Int) ≤ (i : Int); omega, ?_⟩
        conv => whnf
        refine ⟨fun _ _ _ _ => rfl, ?_⟩
        conv => whnf
        refine ⟨rfl, subRow (by rw [← ht]; simp [tl, h1]) fun j _ => ?_⟩
        show nf p i a _ = _
        congr 1
        show Int.toNat 0 + j = j
        omega
    · have h : ¬ (0 : Int) < m := of_decide_eq_false (gw_false.1 h)
      obtain rfl : m = 0 := by omega
      conv => whnf
      refine ⟨by omega, by omega, ?_⟩
      conv => whnf
      refine ⟨by show ((0 : Nat) : Int) ≤ (i : Int); omega, ?_⟩
      conv => whnf
      refine ⟨fun _ _ _ _ => rfl, ?_⟩
      conv => whnf
      exact ⟨rfl, subRow (by rw [← ht]; rfl) fun j hj => absurd hj (by rw [← ht]; exact Nat.not_lt_zero j)⟩
set_option maxHeartbeats 4000000 in
theorem degree_ok {p : Int} {n : Nat} {a : Nat → Int} (hp : 0 < p) (hp2 : p ≤ 65521) (hn : n ≤ 1048576) : FnOK Tryz.prog false 9 [.c (.int .i64 p), .c (il n a)] (.c (.int .i64 ((tl (nf p n a) n : Nat) - 1))) := by
  refine fn_ok (E := E0) E0_ok Tryz.func9 rfl mixed (by kernel_rfl) (by kernel_rfl) ?_
  have h := tl_le (nf p n a) n
  conv => whnf
  refine .inr ?_
  conv => whnf
  refine ⟨_, refNormal_ok hp hp2 hn, ?_⟩
  conv => whnf
  refine ⟨i64 (by show _ ≤ ((tl (nf p n a) n : Nat) : Int) - 1; omega) (by show ((tl (nf p n a) n : Nat) : Int) - 1 < _; omega), ?_⟩
  conv => whnf
  exact ⟨rfl, Sub.refl _⟩
/-- Lists that are equal. -/
def same (n m : Nat) (a b : Nat → Int) : Prop := n = m ∧ ∀ i, i < n → a i = b i
open Classical in
set_option maxHeartbeats 4000000 in
theorem ints_ok {n m : Nat} {a b : Nat → Int} (hn : n ≤ 1048576) (hm : m ≤ 1048576) : FnOK Tryz.prog false 11 [.c (il n a), .c (il m b)] (.c (.bool (decide (same n m a b)))) := by
  refine fn_ok (E := E0) E0_ok Tryz.func11 rfl mixed (by kernel_rfl) (by kernel_rfl) ?_
  conv => whnf
  refine bcase (fun (h : (!decide ((n : Int) = m)) = true) => ?_) fun (h : (!decide ((n : Int) = m)) = false) => ?_
  · have h : ¬ (n : Int) = m := by simpa using h
    conv => whnf
    exact ⟨rfl, subB (Eq.symm (decide_eq_false fun hs => h (by rw [hs.1])))⟩
  have h : (n : Int) = m := by simpa using h
  obtain rfl : n = m := by omega
  conv => whnf
  refine loop_ints (fun i : Nat => ist [(0, .c (il n a)), (1, .c (il n b)), (5, .c (.int .i64 i))] []) (fun i => n - i) (fun i => i ≤ n ∧ ∀ j, j < i → a j = b j) 0 rfl (Weak.ints [] rfl trivial ⟨⟨_, _, rfl, rfl, fun _ _ _ _ => rfl⟩, ⟨_, _, rfl, rfl, fun _ _ _ _ => rfl⟩, ⟨_, rfl, rfl⟩, trivial⟩) ⟨Nat.zero_le _, fun j hj => absurd hj (Nat.not_lt_zero j)⟩ fun i ⟨hi, he⟩ => ?_
  conv => whnf
  refine bcase (fun (h : decide ((i : Int) < n) = true) => ?_) fun (h : decide ((i : Int) < n) = false) => ?_
  · have h := of_decide_eq_true h
    conv => whnf
    refine ⟨by omega, ?_⟩
    conv => whnf
    refine ⟨by omega, ?_⟩
    conv => whnf
    refine ⟨by omega, ?_⟩
    conv => whnf
    refine ⟨by omega, ?_⟩
    conv => whnf
    refine bcase (fun (h1 : (!decide (a i = b i)) = true) => ?_) fun (h1 : (!decide (a i = b i)) = false) => ?_
    · have h1 : ¬ a i = b i := by simpa using h1
      conv => whnf
      exact ⟨rfl, subB (Eq.symm (decide_eq_false fun hs => h1 (hs.2 i (by omega))))⟩
    · have h1 : a i = b i := by simpa using h1
      conv => whnf
      refine ⟨i64 (by omega) (by omega), ?_⟩
      conv => whnf
      refine ⟨i + 1, by omega, Weak.ints [] rfl trivial ⟨⟨_, _, rfl, rfl, fun _ _ _ _ => rfl⟩, ⟨_, _, rfl, rfl, fun _ _ _ _ => rfl⟩, ⟨_, rfl, rfl⟩, trivial⟩, by omega, fun j hj => ?_⟩
      by_cases e : j = i
      · rw [e]; exact h1
      · exact he j (by omega)
  · have h := of_decide_eq_false h
    obtain rfl : i = n := by omega
    conv => whnf
    exact ⟨rfl, subB (Eq.symm (decide_eq_true ⟨rfl, he⟩))⟩
theorem appF_zero (f g : Nat → Nat → Cell) (x y : Nat) : appF 0 f g x y = g x y := by
  unfold appF
  rw [if_neg (Nat.not_lt_zero x), Nat.sub_zero]
theorem cloA (f : Nat → Nat → Cell) (a : Nat → Int) (x y : Nat) : (appF 0 f (fun i _ => .int .i64 (a i)) x y).clos = true := by rw [appF_zero]; rfl
set_option maxHeartbeats 4000000 in
theorem clone_ok {n : Nat} {a : Nat → Int} (hn : n ≤ 1048576) : FnOK Tryz.prog false 66 [.c (il n a)] (.c (il n a)) := by
  rcases Nat.eq_zero_or_pos n with rfl | h0
  · exact cloneIds_ok (g' := fun i _ => .int .i64 (a i)) _ (by decide)
  refine fn_ok (E := E0) E0_ok Tryz.func66 rfl mixed (by kernel_rfl) (by kernel_rfl) ?_
  conv => whnf
  refine ⟨h0, ?_⟩
  conv => whnf
  refine ⟨by show 0 + n ≤ 16777216; omega, fun x y hx hy => ?_, ?_⟩
  · obtain rfl : y = 0 := by have h : y < 1 := hy
                             omega
    exact ⟨rfl, fun h => by cases h⟩
  conv => whnf
  refine ⟨fun x y _ _ => ?_, ?_⟩
  · exact cloA (rowF 1 []) a x y
  conv => whnf
  refine ⟨rfl, subRowG (Nat.zero_add n) fun x y _ _ => ?_⟩
  exact appF_zero (rowF 1 []) (fun i _ => Cell.int .i64 (a i)) x y
end Fp
end Go.Proofs.YtmfaipklhkgieaaGreat
