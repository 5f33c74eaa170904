/- Quotients and remainders of lists modulo a prime. -/
import Derived.Test.YtmfaipklhkgieaaGreatFpD
namespace Go.Proofs.YtmfaipklhkgieaaGreat
open Go.RowKit
namespace Fp
set_option maxHeartbeats 4000000 in
theorem clone_m {n : Nat} {a : Nat → Int} (h0 : 0 < n) (hn : n ≤ 1048576) : FnM Tryz.prog false 66 phB [.c (il n a)] (.c (.gs 1 0)) phB [ib (3, n, a)] := by
  refine fnm_ok (E := E0m) E0m_ok Tryz.func66 rfl mixed (by kernel_rfl) (by kernel_rfl) rfl ?_
  conv => whnf
  refine ⟨h0, ?_⟩
  conv => whnf
  refine ⟨by show 0 + n ≤ 16777216; omega, fun x y hx hy => ?_, ?_⟩
  · obtain rfl : y = 0 := by have h : y < 1 := hy
                             omega
    exact ⟨rfl, fun h => by cases h⟩
  conv => whnf
  refine (Weak.reset 1 rfl (Nat.zero_le _) rfl).trans ?_
  refine (Weak.cut (tl := [(0, .c (.gs 1 0))]) (bl' := [phB, ⟨3, 1, 0 + n, 0, 0, fun i j => resetC 1 1 (appF 0 (rowF 1 []) (fun i _ => .int .i64 (a i)) i j)⟩]) rfl ⟨rfl, trivial⟩ rfl ⟨fun h => absurd h (by decide), fun _ i j _ hj => ?_, trivial⟩ rfl).trans ?_
  · show (resetC 1 1 (appF 0 (rowF 1 []) (fun i _ => .int .i64 (a i)) i j)).lt 2 = true
    rw [appF_zero]; rfl
  · simp only [Nat.zero_add]
    exact Weak.alike ⟨Blk.alike.refl _, ⟨rfl, fun i j _ _ => by show resetC 1 1 (appF 0 (rowF 1 []) (fun i _ => .int .i64 (a i)) i j) = _; rw [appF_zero]; rfl⟩, trivial⟩
/-- One step of a division: j places of the divisor, c times, are taken off from place i on. -/
def dpart (p c : Int) (G r : Nat → Int) (i j n : Nat) : Int := if i ≤ n ∧ n < i + j then (r n - c * G (n - i)) % p else r n
theorem dpart_zero {p c : Int} {G r : Nat → Int} {i n : Nat} : dpart p c G r i 0 n = r n := by
  unfold dpart; rw [if_neg (by omega)]
theorem dpart_step {p c : Int} {G r : Nat → Int} {i j n : Nat} : (if n = i + j then (r (i + j) + (p - c) * G j) % p else dpart p c G r i j n) = dpart p c G r i (j + 1) n := by
  unfold dpart
  by_cases e : n = i + j
  · subst e
    rw [if_pos rfl, if_pos (by omega), Nat.add_sub_cancel_left]
    have : r (i + j) + (p - c) * G j = (r (i + j) - c * G j) + p * G j := by grind
    rw [this, Int.add_mul_emod_self_left]
  · rw [if_neg e]
    by_cases h : i ≤ n ∧ n < i + j
    · rw [if_pos h, if_pos (by omega)]
    · rw [if_neg h, if_neg (by omega)]
/-- A division after t steps, of N. -/
def dn (p b : Int) (m N : Nat) (F G : Nat → Int) : Nat → Nat → Int
  | 0 => F
  | t + 1 => dpart p ((dn p b m N F G t (N - 1 - t + m - 1) * b) % p) G (dn p b m N F G t) (N - 1 - t) m
/-- The quotient. -/
def dq (p b : Int) (m N : Nat) (F G : Nat → Int) (i : Nat) : Int := (dn p b m N F G (N - (i + 1)) (i + m - 1) * b) % p
theorem dn_step {p b : Int} {m N : Nat} {F G : Nat → Int} {i : Nat} (hi : i < N) : dn p b m N F G (N - i) = dpart p (dq p b m N F G i) G (dn p b m N F G (N - (i + 1))) i m := by
  have e : N - i = (N - (i + 1)) + 1 := by omega
  rw [e]
  show dpart p _ G _ (N - 1 - (N - (i + 1))) m = _
  rw [show N - 1 - (N - (i + 1)) = i by omega]
  rfl
theorem dn_range {p b : Int} {m N : Nat} {F G : Nat → Int} (hp : 0 < p) (hF : ∀ i, 0 ≤ F i ∧ F i < p) : ∀ t n, 0 ≤ dn p b m N F G t n ∧ dn p b m N F G t n < p
  | 0, n => hF n
  | t + 1, n => by
    show 0 ≤ dpart _ _ _ _ _ _ _ ∧ dpart _ _ _ _ _ _ _ < p
    unfold dpart
    split
    · exact ⟨Int.emod_nonneg _ (by omega), Int.emod_lt_of_pos _ hp⟩
    · exact dn_range hp hF t n
theorem dq_range {p b : Int} {m N : Nat} {F G : Nat → Int} (hp : 0 < p) (i : Nat) : 0 ≤ dq p b m N F G i ∧ dq p b m N F G i < p := ⟨Int.emod_nonneg _ (by omega), Int.emod_lt_of_pos _ hp⟩
set_option maxHeartbeats 4000000 in
theorem divide_ok {p : Int} {n m : Nat} {F G : Nat → Int} (hp : md p) (hn : n ≤ 4096) (h0 : 0 < m) (hnm : m ≤ n) (hF : ∀ i, 0 ≤ F i ∧ F i < p) (hG : ∀ i, 0 ≤ G i ∧ G i < p) (hl : G (m - 1) ≠ 0) : FnOK Tryz.prog false 49 [.c (.int .i64 p), .c (il n F), .c (il m G)] (.t2 (.c (il (n + 1 - m) (dq p (inv (G (m - 1)) p) m (n + 1 - m) F G))) (.c (il (tl (dn p (inv (G (m - 1)) p) m (n + 1 - m) F G (n + 1 - m)) n) (dn p (inv (G (m - 1)) p) m (n + 1 - m) F G (n + 1 - m))))) := by
  obtain ⟨hp1, hp2, hP⟩ := hp
  have hi := inv_range (c := G (m - 1)) (p := p) (by omega)
  have hg : 0 < G (m - 1) % p := by
    rw [Int.emod_eq_of_lt (hG _).1 (hG _).2]
    have := (hG (m - 1)).1
    omega
  have hdr := fun t k => dn_range (b := inv (G (m - 1)) p) (m := m) (N := n + 1 - m) (F := F) (G := G) (by omega) hF t k
  have hqr := fun i => dq_range (p := p) (b := inv (G (m - 1)) p) (m := m) (N := n + 1 - m) (F := F) (G := G) (by omega) i
  have hN : m + (n + 1 - m) = n + 1 := by omega
  have hinv := inverse_ok (c := G (m - 1)) ⟨hp1, hp2, hP⟩ hg
  generalize inv (G (m - 1)) p = b at *
  generalize n + 1 - m = N at *
  refine fn_ok (E := E0) E0_ok Tryz.func49 rfl mixed (by kernel_rfl) (by kernel_rfl) ?_
  conv => whnf
  refine .inl ⟨[], true, ?_⟩
  conv => whnf
  refine ⟨0, phB, [.c (il n F)], _, _, _, clone_m (by omega) (by omega), rfl, .inr (Nat.le_refl 2), fun h => absurd h (by decide), fun h => absurd h (by decide), fun F' hF' => ?_, rfl, rfl, ?_⟩
  · simp at hF'; subst hF'; exact fun _ _ _ _ _ => rfl
  conv => whnf
  refine bneg (show decide ((n : Int) < m) = false by simp; omega) ?_
  conv => whnf
  have em : ((m : Int) - 1).toNat = m - 1 := by omega
  refine ⟨i64 (by omega) (by omega), ?_⟩
  conv => whnf
  refine ⟨by omega, ?_⟩
  conv => whnf
  refine ⟨by omega, ?_⟩
  conv => whnf
  refine ⟨_, (show FnOK Tryz.prog false 61 [.c (.int .i64 (G ((m : Int) - 1).toNat)), .c (.int .i64 p)] (.c (.int .i64 b)) by rw [em]; exact hinv), ?_⟩
  conv => whnf
  refine ⟨i64 (by omega) (by omega), ?_⟩
  conv => whnf
  refine ⟨i64 (by omega) (by omega), ?_⟩
  conv => whnf
  refine ⟨by omega, by omega, by omega, by show ((8 : Nat) : Int) * ((n : Int) - (m : Int) + 1) ≤ _; omega, ?_⟩
  conv => whnf
  have en : ((n : Int) - (m : Int) + 1).toNat = N := by omega
  refine ⟨by show inR .i64 (((((n : Int) - (m : Int) + 1).toNat : Nat) : Int) - 1); rw [en]; exact i64 (by omega) (by omega), ?_⟩
  conv => whnf
  refine loop_ints (fun k : Nat => ist [(0, .c (.int .i64 p)), (2, .c (il m G)), (6, .c (.gs 1 0)), (7, .c (.gs 0 0)), (8, .c (.int .i64 b)), (9, .c (.int .i64 ((k : Int) - 1)))] [(3, n, dn p b m N F G (N - k)), (3, N, fun i => if k ≤ i then dq p b m N F G i else 0)]) (fun k => k) (fun k => k ≤ N) N rfl ?_ (Nat.le_refl _) fun k hk => ?_
  · refine Weak.ints [some 1, some 2] rfl ⟨⟨_, rfl, rfl, rfl, rfl, rfl, fun i hi => ?_⟩, ⟨_, rfl, rfl, rfl, en, rfl, fun i hi => ?_⟩, trivial⟩ ⟨⟨_, rfl, rfl⟩, ⟨_, _, rfl, rfl, fun _ _ _ _ => rfl⟩, ⟨_, rfl, rfl, rfl⟩, ⟨_, rfl, rfl, rfl⟩, ⟨_, rfl, rfl⟩, ⟨_, rfl, ?_⟩, trivial⟩
    · exact congrArg (Cell.int .i64) (show F i = dn p b m N F G (N - N) i by rw [Nat.sub_self]; rfl)
    · have hi : i < N := hi
      exact congrArg (Cell.int .i64) (show (0 : Int) = if N ≤ i then dq p b m N F G i else 0 by rw [if_neg (by omega)])
    · show ((((n : Int) - (m : Int) + 1).toNat : Nat) : Int) - 1 = (N : Int) - 1
      rw [en]
  conv => whnf
  refine bcase (fun (h : decide ((0 : Int) ≤ (k : Int) - 1) = true) => ?_) fun (h : decide ((0 : Int) ≤ (k : Int) - 1) = false) => ?_
  · have h := of_decide_eq_true h
    obtain ⟨i, rfl⟩ : ∃ i, k = i + 1 := ⟨k - 1, by omega⟩
    have ei : (((i + 1 : Nat) : Int) - 1).toNat = i := by omega
    have ei2 : ((((i + 1 : Nat) : Int) - 1) + (m : Int) - 1).toNat = i + m - 1 := by omega
    have r1 := hdr (N - (i + 1)) (i + m - 1)
    have b1 := mul_bounds hp2 r1 hi
    have hc : Int.tmod (dn p b m N F G (N - (i + 1)) ((((i + 1 : Nat) : Int) - 1) + (m : Int) - 1).toNat * b) p = dq p b m N F G i := by
      rw [ei2, rem_eq b1.1]; rfl
    conv => whnf
    refine ⟨i64 (by omega) (by omega), ?_⟩
    conv => whnf
    refine ⟨i64 (by omega) (by omega), ?_⟩
    conv => whnf
    refine ⟨by omega, ?_⟩
    conv => whnf
    refine ⟨by show ((i + 1 : Nat) : Int) - 1 + (m : Int) - 1 < (n : Int); omega, ?_⟩
    conv => whnf
    refine ⟨by show inR .i64 (dn p b m N F G (N - (i + 1)) ((((i + 1 : Nat) : Int) - 1) + (m : Int) - 1).toNat * b); rw [ei2]; exact i64 (by omega) (by omega), ?_⟩
    conv => whnf
    refine ⟨by omega, ?_⟩
    conv => whnf
    refine ⟨by omega, ?_⟩
    conv => whnf
    refine ⟨by show ((i + 1 : Nat) : Int) - 1 < (N : Int); omega, ?_⟩
    conv => whnf
    refine loop_ints (fun j : Nat => ist [(0, .c (.int .i64 p)), (2, .c (il m G)), (6, .c (.gs 1 0)), (7, .c (.gs 0 0)), (8, .c (.int .i64 b)), (9, .c (.int .i64 (((i + 1 : Nat) : Int) - 1))), (10, .c (.int .i64 (dq p b m N F G i))), (59, .c (il m G)), (60, .c (.int .i64 m)), (61, .c (.int .i64 j))] [(3, n, dpart p (dq p b m N F G i) G (dn p b m N F G (N - (i + 1))) i j), (3, N, fun x => if i ≤ x then dq p b m N F G x else 0)]) (fun j => m - j) (fun j => j ≤ m) 0 rfl ?_ (Nat.zero_le _) fun j hj => ?_
    · refine Weak.ints [some 0, some 1] rfl ⟨⟨_, rfl, rfl, rfl, rfl, rfl, fun x hx => congrArg (Cell.int .i64) dpart_zero.symm⟩, ⟨_, rfl, rfl, rfl, rfl, rfl, fun x hx => updI ?_⟩, trivial⟩ ⟨⟨_, rfl, rfl⟩, ⟨_, _, rfl, rfl, fun _ _ _ _ => rfl⟩, ⟨_, rfl, rfl, rfl⟩, ⟨_, rfl, rfl, rfl⟩, ⟨_, rfl, rfl⟩, ⟨_, rfl, rfl⟩, ⟨_, rfl, hc⟩, ⟨_, _, rfl, rfl, fun _ _ _ _ => rfl⟩, ⟨_, rfl, rfl⟩, ⟨_, rfl, rfl⟩, trivial⟩
      show (if x = (((i + 1 : Nat) : Int) - 1).toNat then Int.tmod (dn p b m N F G (N - (i + 1)) ((((i + 1 : Nat) : Int) - 1) + (m : Int) - 1).toNat * b) p else if i + 1 ≤ x then dq p b m N F G x else 0) = if i ≤ x then dq p b m N F G x else 0
      rw [ei, hc]
      by_cases e : x = i
      · subst e; rw [if_pos rfl, if_pos (Nat.le_refl _)]
      · rw [if_neg e]
        by_cases e2 : i + 1 ≤ x
        · rw [if_pos e2, if_pos (by omega)]
        · rw [if_neg e2, if_neg (by omega)]
    conv => whnf
    refine bcase (fun (h' : decide ((j : Int) < m) = true) => ?_) fun (h' : decide ((j : Int) < m) = false) => ?_
    · have h' := of_decide_eq_true h'
      have eij : ((((i + 1 : Nat) : Int) - 1) + (j : Int)).toNat = i + j := by omega
      have c1 := hqr i
      have g1 := hG j
      have b2 : 0 ≤ (p - dq p b m N F G i) * G j ∧ (p - dq p b m N F G i) * G j ≤ 65521 * 65521 := ⟨Int.mul_nonneg (by omega) g1.1, Int.mul_le_mul (by omega) (by omega) g1.1 (by omega)⟩
      have r2 := hdr (N - (i + 1)) (i + j)
      have ed : dpart p (dq p b m N F G i) G (dn p b m N F G (N - (i + 1))) i j (i + j) = dn p b m N F G (N - (i + 1)) (i + j) := by
        unfold dpart; rw [if_neg (by omega)]
      conv => whnf
      refine ⟨by omega, ?_⟩
      conv => whnf
      refine ⟨by omega, ?_⟩
      conv => whnf
      refine ⟨i64 (by omega) (by omega), ?_⟩
      conv => whnf
      refine ⟨i64 (by omega) (by omega), ?_⟩
      conv => whnf
      refine ⟨by omega, ?_⟩
      conv => whnf
      refine ⟨by show ((i + 1 : Nat) : Int) - 1 + (j : Int) < (n : Int); omega, ?_⟩
      conv => whnf
      refine ⟨i64 (by omega) (by omega), ?_⟩
      conv => whnf
      refine ⟨by show inR .i64 ((p - dq p b m N F G i) * G j); exact i64 (by omega) (by omega), ?_⟩
      conv => whnf
      refine ⟨by show inR .i64 (dpart p (dq p b m N F G i) G (dn p b m N F G (N - (i + 1))) i j ((((i + 1 : Nat) : Int) - 1) + (j : Int)).toNat + (p - dq p b m N F G i) * G j); rw [eij, ed]; exact i64 (by omega) (by omega), ?_⟩
      conv => whnf
      refine ⟨by omega, ?_⟩
      conv => whnf
      refine ⟨by omega, ?_⟩
      conv => whnf
      refine ⟨by show ((i + 1 : Nat) : Int) - 1 + (j : Int) < (n : Int); omega, ?_⟩
      conv => whnf
      refine ⟨i64 (by omega) (by omega), ?_⟩
      conv => whnf
      refine ⟨j + 1, by omega, ?_, by omega⟩
      refine Weak.ints [some 0, some 1] rfl ⟨⟨_, rfl, rfl, rfl, rfl, rfl, fun x hx => updI ?_⟩, ⟨_, rfl, rfl, rfl, rfl, rfl, fun _ _ => rfl⟩, trivial⟩ ⟨⟨_, rfl, rfl⟩, ⟨_, _, rfl, rfl, fun _ _ _ _ => rfl⟩, ⟨_, rfl, rfl, rfl⟩, ⟨_, rfl, rfl, rfl⟩, ⟨_, rfl, rfl⟩, ⟨_, rfl, rfl⟩, ⟨_, rfl, rfl⟩, ⟨_, _, rfl, rfl, fun _ _ _ _ => rfl⟩, ⟨_, rfl, rfl⟩, ⟨_, rfl, rfl⟩, trivial⟩
      show (if x = ((((i + 1 : Nat) : Int) - 1) + (j : Int)).toNat then Int.tmod (dpart p (dq p b m N F G i) G (dn p b m N F G (N - (i + 1))) i j ((((i + 1 : Nat) : Int) - 1) + (j : Int)).toNat + (p - dq p b m N F G i) * G j) p else dpart p (dq p b m N F G i) G (dn p b m N F G (N - (i + 1))) i j x) = dpart p (dq p b m N F G i) G (dn p b m N F G (N - (i + 1))) i (j + 1) x
      rw [eij, ed, rem_eq (by omega)]
      exact dpart_step
    · have h' := of_decide_eq_false h'
      obtain rfl : j = m := by omega
      conv => whnf
      refine ⟨i64 (by omega) (by omega), ?_⟩
      conv => whnf
      refine ⟨i, by omega, ?_, by omega⟩
      exact Weak.ints [some 0, some 1] rfl ⟨⟨_, rfl, rfl, rfl, rfl, rfl, fun x hx => congrArg (Cell.int .i64) (congrFun (dn_step (by omega)).symm x)⟩, ⟨_, rfl, rfl, rfl, rfl, rfl, fun _ _ => rfl⟩, trivial⟩ ⟨⟨_, rfl, rfl⟩, ⟨_, _, rfl, rfl, fun _ _ _ _ => rfl⟩, ⟨_, rfl, rfl, rfl⟩, ⟨_, rfl, rfl, rfl⟩, ⟨_, rfl, rfl⟩, ⟨_, rfl, by omega⟩, trivial⟩
  · have h := of_decide_eq_false h
    obtain rfl : k = 0 := by omega
    conv => whnf
    refine ⟨fun _ _ _ _ => rfl, ?_⟩
    conv => whnf
    refine ⟨_, trimmed_ok (n := n) (a := dn p b m N F G (N - 0)) (by omega), ?_⟩
    conv => whnf
    refine ⟨fun _ _ _ _ => rfl, ?_⟩
    conv => whnf
    exact ⟨rfl, subT2 (subRow (a := fun x => if 0 ≤ x then dq p b m N F G x else 0) (b := dq p b m N F G) rfl fun x _ => if_pos (Nat.zero_le x)) (Sub.refl _)⟩
/-- A dividend that is shorter than the divisor. -/
theorem divide_short {p : Int} {n m : Nat} {F G : Nat → Int} (hn : n ≤ 4096) (hnm : n < m) : FnOK Tryz.prog false 49 [.c (.int .i64 p), .c (il n F), .c (il m G)] (.t2 (.c .nil) (.c (il n F))) := by
  refine fn_ok (E := E0) E0_ok Tryz.func49 rfl mixed (by kernel_rfl) (by kernel_rfl) ?_
  conv => whnf
  refine .inr ?_
  conv => whnf
  refine ⟨_, clone_ok (by omega), ?_⟩
  conv => whnf
  refine bpos (show decide ((n : Int) < m) = true by simp; omega) ?_
  conv => whnf
  exact ⟨rfl, Sub.refl _⟩
end Fp
end Go.Proofs.YtmfaipklhkgieaaGreat
