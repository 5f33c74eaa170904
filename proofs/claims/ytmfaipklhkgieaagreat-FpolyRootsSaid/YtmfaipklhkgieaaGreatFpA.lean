/- Package fpoly in abstract words: residues, primes, normal forms. -/
import Derived.Test.YtmfaipklhkgieaaGreatIl
import Derived.Test.YtmfaipklhkgieaaGreatTy
namespace Go.Proofs.YtmfaipklhkgieaaGreat
open Go.RowKit
namespace Fp
theorem subB {a b : Bool} (h : a = b) : Sub (.c (.bool a)) (.c (.bool b)) := by subst h; exact Sub.refl _
theorem subI {k : IntKind} {a b : Int} (h : a = b) : Sub (.c (.int k a)) (.c (.int k b)) := by subst h; exact Sub.refl _
theorem i64 {n : Int} (h1 : -9223372036854775808 ≤ n) (h2 : n < 9223372036854775808) : inR .i64 n := ⟨h1, h2⟩
/-- No divisor from 2 up to the root. -/
def Pr (n : Int) : Prop := ∀ d : Int, 2 ≤ d → d * d ≤ n → n % d ≠ 0
theorem rem_eq {a b : Int} (h : 0 ≤ a) : Int.tmod a b = a % b := Int.tmod_eq_emod_of_nonneg h
theorem sq_lt {d : Nat} (h : d ≤ 257) : inR .i64 ((d : Int) * d) := by
  have := Nat.mul_le_mul h h
  have e : ((d * d : Nat) : Int) = (d : Int) * d := by simp
  exact i64 (by omega) (by omega)
theorem sq_le {d : Nat} {n : Int} (h2 : n ≤ 65521) (h : (d : Int) * d ≤ n) : d ≤ 255 := by
  rcases Nat.lt_or_ge d 256 with h3 | h3
  · omega
  · have := Nat.mul_le_mul h3 h3
    have e : ((d * d : Nat) : Int) = (d : Int) * d := by simp
    omega
open Classical in
set_option maxHeartbeats 4000000 in
theorem refPrime_ok {n : Int} (h1 : 2 ≤ n) (h2 : n ≤ 65521) : FnOK Tryz.prog false 27 [.c (.int .i64 n)] (.c (.bool (decide (Pr n)))) := by
  refine fn_ok (E := E0) E0_ok Tryz.func27 rfl mixed (by kernel_rfl) (by kernel_rfl) ?_
  conv => whnf
  refine loop_ints (fun d : Nat => ist [(0, .c (.int .i64 n)), (3, .c (.int .i64 d))] []) (fun d => 300 - d) (fun d => 2 ≤ d ∧ d ≤ 257 ∧ ∀ e : Int, 2 ≤ e → e < d → n % e ≠ 0) 2 rfl (Weak.ints [] rfl trivial ⟨⟨_, rfl, rfl⟩, ⟨_, rfl, rfl⟩, trivial⟩) ⟨by omega, by omega, fun e h1 h2 => by omega⟩ fun d ⟨hd, hd2, hp⟩ => ?_
  conv => whnf
  refine ⟨sq_lt hd2, ?_⟩
  conv => whnf
  refine bcase (fun (hle : decide ((d : Int) * d ≤ n) = true) => ?_) fun (h : decide ((d : Int) * d ≤ n) = false) => ?_
  · have hle := of_decide_eq_true hle
    have h3 := sq_le h2 hle
    conv => whnf
    refine ⟨by omega, ?_⟩
    conv => whnf
    refine bcase (fun (h : decide (Int.tmod n d = 0) = true) => ?_) fun (h : decide (Int.tmod n d = 0) = false) => ?_
    · have h := of_decide_eq_true h
      conv => whnf
      refine ⟨rfl, subB (Eq.symm (decide_eq_false fun hP => hP d (by omega) hle (by rw [← rem_eq (by omega)]; exact h)))⟩
    · have h := of_decide_eq_false h
      conv => whnf
      refine ⟨i64 (by omega) (by omega), ?_⟩
      conv => whnf
      refine ⟨d + 1, by omega, Weak.ints [] rfl trivial ⟨⟨_, rfl, rfl⟩, ⟨_, rfl, by omega⟩, trivial⟩, by omega, by omega, fun e h4 h5 => ?_⟩
      by_cases h6 : e = d
      · subst h6; rw [← rem_eq (by omega)]; exact h
      · exact hp e h4 (by omega)
  · have h := of_decide_eq_false h
    conv => whnf
    refine ⟨rfl, subB ?_⟩
    show decide (1 < n) = _
    rw [decide_eq_true (by omega : 1 < n), eq_comm, decide_eq_true_iff]
    intro e h4 h5
    refine hp e h4 ?_
    rcases Int.lt_or_le e d with h6 | h6
    · exact h6
    · have := Int.mul_le_mul h6 h6 (by omega) (by omega)
      omega
open Classical in
set_option maxHeartbeats 4000000 in
theorem prime_ok {n : Int} (h1 : 2 ≤ n) (h2 : n ≤ 65521) : FnOK Tryz.prog false 65 [.c (.int .i64 n)] (.c (.bool (decide (Pr n)))) := by
  refine fn_ok (E := E0) E0_ok Tryz.func65 rfl mixed (by kernel_rfl) (by kernel_rfl) ?_
  conv => whnf
  refine bneg (show decide (n < 2) = false by simpa using h1) ?_
  conv => whnf
  refine loop_ints (fun d : Nat => ist [(0, .c (.int .i64 n)), (3, .c (.int .i64 d))] []) (fun d => 300 - d) (fun d => 2 ≤ d ∧ d ≤ 257 ∧ ∀ e : Int, 2 ≤ e → e < d → n % e ≠ 0) 2 rfl (Weak.ints [] rfl trivial ⟨⟨_, rfl, rfl⟩, ⟨_, rfl, rfl⟩, trivial⟩) ⟨by omega, by omega, fun e h1 h2 => by omega⟩ fun d ⟨hd, hd2, hp⟩ => ?_
  conv => whnf
  refine ⟨sq_lt hd2, ?_⟩
  conv => whnf
  refine bcase (fun (hle : decide ((d : Int) * d ≤ n) = true) => ?_) fun (h : decide ((d : Int) * d ≤ n) = false) => ?_
  · have hle := of_decide_eq_true hle
    have h3 := sq_le h2 hle
    conv => whnf
    refine ⟨by omega, ?_⟩
    conv => whnf
    refine bcase (fun (h : decide (Int.tmod n d = 0) = true) => ?_) fun (h : decide (Int.tmod n d = 0) = false) => ?_
    · have h := of_decide_eq_true h
      conv => whnf
      refine ⟨rfl, subB (Eq.symm (decide_eq_false fun hP => hP d (by omega) hle (by rw [← rem_eq (by omega)]; exact h)))⟩
    · have h := of_decide_eq_false h
      conv => whnf
      refine ⟨i64 (by omega) (by omega), ?_⟩
      conv => whnf
      refine ⟨d + 1, by omega, Weak.ints [] rfl trivial ⟨⟨_, rfl, rfl⟩, ⟨_, rfl, by omega⟩, trivial⟩, by omega, by omega, fun e h4 h5 => ?_⟩
      by_cases h6 : e = d
      · subst h6; rw [← rem_eq (by omega)]; exact h
      · exact hp e h4 (by omega)
  · have h := of_decide_eq_false h
    conv => whnf
    refine ⟨rfl, subB ?_⟩
    show true = _
    rw [eq_comm, decide_eq_true_iff]
    intro e h4 h5
    refine hp e h4 ?_
    rcases Int.lt_or_le e d with h6 | h6
    · exact h6
    · have := Int.mul_le_mul h6 h6 (by omega) (by omega)
      omega
/-- A modulus that is admitted. -/
def md (p : Int) : Prop := 2 ≤ p ∧ p ≤ 65521 ∧ Pr p
set_option maxHeartbeats 4000000 in
theorem isPrime_ok {n : Int} (h1 : 2 ≤ n) (h2 : n ≤ 65521) : FnOK Tryz.prog false 45 [.c (.int .i64 n)] (.t2 (.c (.bool (@decide (Pr n) (Classical.propDecidable _)))) (.c (.int .i64 0))) := by
  refine fn_ok (E := E0) E0_ok Tryz.func45 rfl mixed (by kernel_rfl) (by kernel_rfl) ?_
  conv => whnf
  refine bneg (show decide (2147483647 < n) = false by simp; omega) ?_
  conv => whnf
  refine ⟨_, prime_ok h1 h2, ?_⟩
  conv => whnf
  exact ⟨rfl, Sub.refl _⟩
set_option maxHeartbeats 4000000 in
theorem modulus_ok {p : Int} (h : md p) : FnOK Tryz.prog false 23 [.c (.int .i64 p)] (.c (.int .i64 0)) := by
  obtain ⟨h1, h2, h3⟩ := h
  refine fn_ok (E := E0) E0_ok Tryz.func23 rfl mixed (by kernel_rfl) (by kernel_rfl) ?_
  conv => whnf
  refine bpos (show gw false (decide (p < 2)) = true by simp [gw]; omega) ?_
  conv => whnf
  refine bneg (show decide (65521 < p) = false by simp; omega) ?_
  conv => whnf
  refine ⟨_, isPrime_ok h1 h2, ?_⟩
  conv => whnf
  refine bneg (show (!@decide (Pr p) (Classical.propDecidable _)) = false by simpa using h3) ?_
  conv => whnf
  exact ⟨rfl, Sub.refl _⟩
set_option maxHeartbeats 4000000 in
theorem modulus_bad {p : Int} (h : ¬ md p) : FnOK Tryz.prog false 23 [.c (.int .i64 p)] (.c (.int .i64 8)) := by
  refine fn_ok (E := E0) E0_ok Tryz.func23 rfl mixed (by kernel_rfl) (by kernel_rfl) ?_
  conv => whnf
  refine bcase (fun (h1 : gw false (decide (p < 2)) = true) => ?_) fun h1 => ?_
  · have h1 := of_decide_eq_false (gwf h1)
    conv => whnf
    refine bcase (fun (h2 : decide (65521 < p) = true) => ?_) fun (h2 : decide (65521 < p) = false) => ?_
    · conv => whnf
      exact ⟨rfl, Sub.refl _⟩
    have h2 := of_decide_eq_false h2
    conv => whnf
    refine ⟨_, isPrime_ok (by omega) (by omega), ?_⟩
    conv => whnf
    refine bpos (show (!@decide (Pr p) (Classical.propDecidable _)) = true by simpa using fun h3 => h ⟨by omega, by omega, h3⟩) ?_
    conv => whnf
    exact ⟨rfl, Sub.refl _⟩
  · conv => whnf
    exact ⟨rfl, Sub.refl _⟩
open Classical in
set_option maxHeartbeats 4000000 in
theorem refModulus_ok {p : Int} : FnOK Tryz.prog false 8 [.c (.int .i64 p)] (.c (.bool (decide (md p)))) := by
  refine fn_ok (E := E0) E0_ok Tryz.func8 rfl mixed (by kernel_rfl) (by kernel_rfl) ?_
  conv => whnf
  refine bcase (fun (h1 : decide (2 ≤ p) = true) => ?_) fun (h1 : decide (2 ≤ p) = false) => ?_
  · have h1 := of_decide_eq_true h1
    conv => whnf
    refine bcase (fun (h2 : decide (p ≤ 65521) = true) => ?_) fun (h2 : decide (p ≤ 65521) = false) => ?_
    · have h2 := of_decide_eq_true h2
      conv => whnf
      refine ⟨_, refPrime_ok h1 h2, ?_⟩
      conv => whnf
      exact ⟨rfl, subB (by simp [md, h1, h2])⟩
    · have h2 := of_decide_eq_false h2
      conv => whnf
      exact ⟨rfl, subB (Eq.symm (decide_eq_false fun h => h2 h.2.1))⟩
  · have h1 := of_decide_eq_false h1
    conv => whnf
    exact ⟨rfl, subB (Eq.symm (decide_eq_false fun h => h1 h.1))⟩
theorem tmod_bounds {a p : Int} (hp : 0 < p) : -p < Int.tmod a p ∧ Int.tmod a p < p := by
  have h1 := Int.natAbs_tmod a p
  have h2 : a.natAbs % p.natAbs < p.natAbs := Nat.mod_lt _ (by omega)
  omega
theorem tmod_neg {a p : Int} (hp : 0 < p) (h : Int.tmod a p < 0) : Int.tmod a p + p = a % p := by
  have := Int.tmod_eq_emod (a := a) (b := p)
  split at this
  · have := Int.emod_nonneg a (by omega : p ≠ 0); omega
  · omega
theorem tmod_pos {a p : Int} (hp : 0 < p) (h : ¬ Int.tmod a p < 0) : Int.tmod a p = a % p := by
  have := Int.tmod_eq_emod (a := a) (b := p)
  have h2 := Int.emod_lt_of_pos a hp
  split at this
  · omega
  · omega
set_option maxHeartbeats 4000000 in
theorem residue_ok {a p : Int} (hp : 0 < p) (hp2 : p ≤ 65521) : FnOK Tryz.prog false 46 [.c (.int .i64 a), .c (.int .i64 p)] (.c (.int .i64 (a % p))) := by
  refine fn_ok (E := E0) E0_ok Tryz.func46 rfl mixed (by kernel_rfl) (by kernel_rfl) ?_
  have hb := tmod_bounds (a := a) hp
  conv => whnf
  refine ⟨by omega, ?_⟩
  conv => whnf
  refine bcase (fun (h1 : decide (Int.tmod a p < 0) = true) => ?_) fun (h1 : decide (Int.tmod a p < 0) = false) => ?_
  · have h1 := of_decide_eq_true h1
    conv => whnf
    refine ⟨i64 (by omega) (by omega), ?_⟩
    conv => whnf
    exact ⟨rfl, subI (tmod_neg hp h1)⟩
  · have h1 := of_decide_eq_false h1
    conv => whnf
    exact ⟨rfl, subI (tmod_pos hp h1)⟩
set_option maxHeartbeats 4000000 in
theorem refMod_ok {a p : Int} (hp : 0 < p) (hp2 : p ≤ 65521) : FnOK Tryz.prog false 36 [.c (.int .i64 a), .c (.int .i64 p)] (.c (.int .i64 (a % p))) := by
  refine fn_ok (E := E0) E0_ok Tryz.func36 rfl mixed (by kernel_rfl) (by kernel_rfl) ?_
  have hb := tmod_bounds (a := a) hp
  conv => whnf
  refine ⟨by omega, ?_⟩
  conv => whnf
  refine bcase (fun (h1 : decide (Int.tmod a p < 0) = true) => ?_) fun (h1 : decide (Int.tmod a p < 0) = false) => ?_
  · have h1 := of_decide_eq_true h1
    conv => whnf
    refine ⟨i64 (by omega) (by omega), ?_⟩
    conv => whnf
    exact ⟨rfl, subI (tmod_neg hp h1)⟩
  · have h1 := of_decide_eq_false h1
    conv => whnf
    exact ⟨rfl, subI (tmod_pos hp h1)⟩
/-- The length without zeros at the end. -/
def tl (a : Nat → Int) : Nat → Nat
  | 0 => 0
  | n + 1 => if a n = 0 then tl a n else n + 1
set_option maxHeartbeats 4000000 in
theorem trimmed_ok {n : Nat} {a : Nat → Int} (hn : n ≤ 1048576) : FnOK Tryz.prog false 47 [.c (il n a)] (.c (il (tl a n) a)) := by
  refine fn_ok (E := E0) E0_ok Tryz.func47 rfl mixed (by kernel_rfl) (by kernel_rfl) ?_
  conv => whnf
  refine loop_ints (fun m : Nat => ist [(0, .c (il m a))] []) (fun m => m) (fun m => m ≤ n ∧ tl a m = tl a n) n rfl (Weak.ints [] rfl trivial ⟨⟨_, _, rfl, rfl, fun _ _ _ _ => rfl⟩, trivial⟩) ⟨by omega, rfl⟩ fun m ⟨hm, ht⟩ => ?_
  conv => whnf
  refine bcase (fun (h : gw true (decide ((0 : Int) < m)) = true) => ?_) fun (h : gw true (decide ((0 : Int) < m)) = false) => ?_
  · have h := of_decide_eq_true (gw_true.1 h)
    obtain ⟨k, rfl⟩ : ∃ k, m = k + 1 := ⟨m - 1, by omega⟩
    have ek : (((k + 1 : Nat) : Int) - 1).toNat = k := by omega
    conv => whnf
    refine ⟨i64 (by omega) (by omega), ?_⟩
    conv => whnf
    refine ⟨by omega, by omega, ?_⟩
    conv => whnf
    refine bcase (fun (h1 : decide (a (((k + 1 : Nat) : Int) - 1).toNat = 0) = true) => ?_) fun (h1 : decide (a (((k + 1 : Nat) : Int) - 1).toNat = 0) = false) => ?_
    · have h1 := of_decide_eq_true h1
      rw [ek] at h1
      conv => whnf
      refine ⟨i64 (by omega) (by omega), ?_⟩
      conv => whnf
      refine ⟨by omega, by omega, ?_⟩
      conv => whnf
      refine ⟨by omega, ?_⟩
      conv => whnf
      refine ⟨k, by omega, Weak.ints [] rfl trivial ⟨⟨_, _, rfl, ?_, fun i j hi hj => ?_⟩, trivial⟩, by omega, by rw [← ht]; simp [tl, h1]⟩
      · omega
      · show Cell.int .i64 (a (Int.toNat 0 + i)) = _
        rw [show Int.toNat 0 + i = i by omega]
    · have h1 := of_decide_eq_false h1
      rw [ek] at h1
      conv => whnf
      exact ⟨rfl, subRow (by rw [← ht]; simp [tl, h1]) fun _ _ => rfl⟩
  · have h : ¬ (0 : Int) < m := of_decide_eq_false (gw_false.1 h)
    obtain rfl : m = 0 := by omega
    conv => whnf
    exact ⟨rfl, subRow (by rw [← ht]; rfl) fun _ _ => rfl⟩
theorem tl_congr {a b : Nat → Int} : ∀ {n : Nat}, (∀ i, i < n → a i = b i) → tl a n = tl b n
  | 0, _ => rfl
  | n + 1, h => by
    unfold tl
    rw [h n (by omega), tl_congr fun i hi => h i (by omega)]
theorem tl_le (a : Nat → Int) : ∀ n, tl a n ≤ n
  | 0 => Nat.le_refl _
  | n + 1 => by
    unfold tl
    split
    · exact Nat.le_succ_of_le (tl_le a n)
    · exact Nat.le_refl _
/-- The residues of a list, and 0 behind its end. -/
def nf (p : Int) (n : Nat) (a : Nat → Int) (i : Nat) : Int := if i < n then a i % p else 0
theorem nf_succ (p : Int) (i : Nat) (a : Nat → Int) (j : Nat) : (if j = i then a i % p else nf p i a j) = nf p (i + 1) a j := by
  unfold nf
  by_cases e : j = i
  · subst e; simp
  · rw [if_neg e]
    by_cases e2 : j < i
    · rw [if_pos e2, if_pos (by omega)]
    · rw [if_neg e2, if_neg (by omega)]
set_option maxHeartbeats 4000000 in
theorem normal_ok {p : Int} {n : Nat} {a : Nat → Int} (hp : 0 < p) (hp2 : p ≤ 65521) (hn : n ≤ 1048576) : FnOK Tryz.prog false 24 [.c (.int .i64 p), .c (il n a)] (.c (il (tl (nf p n a) n) (nf p n a))) := by
  refine fn_ok (E := E0) E0_ok Tryz.func24 rfl mixed (by kernel_rfl) (by kernel_rfl) ?_
  conv => whnf
  refine ⟨by omega, by omega, by omega, by show ((8 : Nat) : Int) * (n : Int) ≤ _; omega, ?_⟩
  conv => whnf
  refine loop_ints (fun i : Nat => ist [(0, .c (.int .i64 p)), (5, .c (.gs 0 0)), (11, .c (il n a)), (12, .c (.int .i64 n)), (13, .c (.int .i64 i))] [(3, n, nf p i a)]) (fun i => n - i) (fun i => i ≤ n) 0 rfl (Weak.ints [some 0] rfl ⟨⟨_, rfl, rfl, rfl, rfl, rfl, fun i hi => ?_⟩, trivial⟩ ⟨⟨_, rfl, rfl⟩, ⟨_, rfl, rfl, rfl⟩, ⟨_, _, rfl, rfl, fun _ _ _ _ => rfl⟩, ⟨_, rfl, rfl⟩, ⟨_, rfl, rfl⟩, trivial⟩) (Nat.zero_le _) fun i hi => ?_
  · exact congrArg (Cell.int .i64) (show (0 : Int) = nf p 0 a i by simp [nf])
  conv => whnf
  refine bcase (fun (h : decide ((i : Int) < n) = true) => ?_) fun (h : decide ((i : Int) < n) = false) => ?_
  · have h := of_decide_eq_true h
    conv => whnf
    refine ⟨by omega, ?_⟩
    conv => whnf
    refine ⟨by omega, ?_⟩
    conv => whnf
    refine ⟨_, residue_ok (a := a i) hp hp2, ?_⟩
    conv => whnf
    refine ⟨by omega, ?_⟩
    conv => whnf
    refine ⟨by show ((i : Nat) : Int) < (n : Int); omega, ?_⟩
    conv => whnf
    refine ⟨i64 (by omega) (by omega), ?_⟩
    conv => whnf
    refine ⟨i + 1, by omega, Weak.ints [some 0] rfl ⟨⟨_, rfl, rfl, rfl, rfl, rfl, fun j hj => ?_⟩, trivial⟩ ⟨⟨_, rfl, rfl⟩, ⟨_, rfl, rfl, rfl⟩, ⟨_, _, rfl, rfl, fun _ _ _ _ => rfl⟩, ⟨_, rfl, rfl⟩, ⟨_, rfl, rfl⟩, trivial⟩, by omega⟩
    refine updI ?_
    exact nf_succ p i a j
  · have h := of_decide_eq_false h
    obtain rfl : i = n := by omega
    conv => whnf
    refine ⟨fun _ _ _ _ => rfl, ?_⟩
    conv => whnf
    refine ⟨_, trimmed_ok (n := i) (a := nf p i a) hn, ?_⟩
    conv => whnf
    exact ⟨rfl, Sub.refl _⟩
end Fp
end Go.Proofs.YtmfaipklhkgieaaGreat
