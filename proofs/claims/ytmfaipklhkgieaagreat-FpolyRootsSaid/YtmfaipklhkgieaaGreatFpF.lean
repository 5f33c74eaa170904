/- The reference's quotients and remainders. -/
import Derived.Test.YtmfaipklhkgieaaGreatFpE
namespace Go.Proofs.YtmfaipklhkgieaaGreat
open Go.RowKit
namespace Fp
theorem dpart_ref {p c : Int} {G r : Nat → Int} {i j n : Nat} : (if n = i + j then (r (i + j) - c * G j) % p else dpart p c G r i j n) = dpart p c G r i (j + 1) n := by
  unfold dpart
  by_cases e : n = i + j
  · subst e
    rw [if_pos rfl, if_pos (by omega), Nat.add_sub_cancel_left]
  · rw [if_neg e]
    by_cases h : i ≤ n ∧ n < i + j
    · rw [if_pos h, if_pos (by omega)]
    · rw [if_neg h, if_neg (by omega)]
set_option maxHeartbeats 4000000 in
theorem refNormal_m {p : Int} {n : Nat} {a : Nat → Int} (hp : 0 < p) (hp2 : p ≤ 65521) (hn : n ≤ 1048576) : FnM Tryz.prog false 18 phB [.c (.int .i64 p), .c (il n a)] (.c (.sl 1 0 1 0 (tl (nf p n a) n))) phB [ib (3, n, nf p n a)] := by
  refine fnm_ok (E := E0m) E0m_ok Tryz.func18 rfl mixed (by kernel_rfl) (by kernel_rfl) rfl ?_
  conv => whnf
  refine loop_ints1 (fun i : Nat => ist1 [(0, .c (.int .i64 p)), (1, .c (il n a)), (5, .c (.gs 1 0)), (6, .c (.int .i64 i))] [(3, i, nf p i a)]) (fun i => n - i) (fun i => i ≤ n) 0 rfl (Weak.ints1 [none] rfl rfl ⟨rfl, trivial⟩ ⟨⟨_, rfl, rfl⟩, ⟨_, _, rfl, rfl, fun _ _ _ _ => rfl⟩, rfl, ⟨_, rfl, rfl⟩, trivial⟩) (Nat.zero_le _) fun i hi => ?_
  conv => whnf
  refine bcase (fun (h : decide ((i : Int) < n) = true) => ?_) fun (h : decide ((i : Int) < n) = false) => ?_
  · have h := of_decide_eq_true h
    conv => whnf
    refine ⟨by omega, ?_⟩
    conv => whnf
    refine ⟨by omega, ?_⟩
    conv => whnf
    refine ⟨_, refMod_ok (a := a i) hp hp2, ?_⟩
    conv => whnf
    refine ⟨by show i + 1 ≤ 16777216; omega, fun x y hx hy => ?_, ?_⟩
    · obtain rfl : x = 0 := by have h : x < 1 := hx
                               omega
      obtain rfl : y = 0 := by have h : y < 1 := hy
                               omega
      exact ⟨rfl, fun h => by cases h⟩
    conv => whnf
    refine ⟨i64 (by omega) (by omega), ?_⟩
    conv => whnf
    refine ⟨i + 1, by omega, Weak.ints1 [some 1] rfl rfl ⟨⟨_, rfl, rfl, rfl, rfl, rfl, fun j hj => ?_⟩, trivial⟩ ⟨⟨_, rfl, rfl⟩, ⟨_, _, rfl, rfl, fun _ _ _ _ => rfl⟩, ⟨_, rfl, rfl, rfl⟩, ⟨_, rfl, rfl⟩, trivial⟩, by omega⟩
    refine appI ?_ (show i + 1 ≤ i + 1 from Nat.le_refl _) hj
    exact nf_succ p i a j
  · have h := of_decide_eq_false h
    obtain rfl : i = n := by omega
    conv => whnf
    refine loop_ints1 (fun m : Nat => ist1 [(5, .c (.gs 1 0)), (7, .c (.int .i64 m))] [(3, i, nf p i a)]) (fun m => m) (fun m => m ≤ i ∧ tl (nf p i a) m = tl (nf p i a) i) i rfl (Weak.ints1 [some 1] rfl rfl ⟨⟨_, rfl, rfl, rfl, rfl, rfl, fun _ _ => rfl⟩, trivial⟩ ⟨⟨_, rfl, rfl, rfl⟩, ⟨_, rfl, rfl⟩, trivial⟩) ⟨Nat.le_refl _, rfl⟩ fun m ⟨hm, ht⟩ => ?_
    conv => whnf
    refine bcase (fun (h : gw true (decide ((0 : Int) < m)) = true) => ?_) fun (h : gw true (decide ((0 : Int) < m)) = false) => ?_
    · have h := of_decide_eq_true (gw_true.1 h)
      obtain ⟨k, rfl⟩ : ∃ k, m = k + 1 := ⟨m - 1, by omega⟩
      have ek : (((k + 1 : Nat) : Int) - 1).toNat = k := by omega
      conv => whnf
      refine ⟨i64 (by omega) (by omega), ?_⟩
      conv => whnf
      refine ⟨by omega, ?_⟩
      conv => whnf
      refine ⟨by show (((k + 1 : Nat) : Int) - 1) < (i : Int); omega, ?_⟩
      conv => whnf
      refine bcase (fun (h1 : decide (nf p i a (((k + 1 : Nat) : Int) - 1).toNat = 0) = true) => ?_) fun (h1 : decide (nf p i a (((k + 1 : Nat) : Int) - 1).toNat = 0) = false) => ?_
      · have h1 := of_decide_eq_true h1
        rw [ek] at h1
        conv => whnf
        refine ⟨i64 (by omega) (by omega), ?_⟩
        conv => whnf
        exact ⟨k, by omega, Weak.ints1 [some 1] rfl rfl ⟨⟨_, rfl, rfl, rfl, rfl, rfl, fun _ _ => rfl⟩, trivial⟩ ⟨⟨_, rfl, rfl, rfl⟩, ⟨_, rfl, by omega⟩, trivial⟩, by omega, by rw [← ht]; simp [tl, h1]⟩
      · have h1 := of_decide_eq_false h1
        rw [ek] at h1
        conv => whnf
        refine ⟨by omega, by omega, ?_⟩
        conv => whnf
        refine ⟨by show ((k + 1 : Nat) : Int) ≤ (i : Int); omega, ?_⟩
        conv => whnf
        refine Weak.ints1 (tl := [(0, .c (.sl 1 0 1 0 (tl (nf p i a) i)))]) (xs := [(3, i, nf p i a)]) [some 1] rfl rfl ?_ ?_
        · exact ⟨⟨_, rfl, rfl, rfl, rfl, rfl, fun _ _ => rfl⟩, trivial⟩
        · exact ⟨⟨_, _, rfl, rfl, rfl, by rw [← ht]; simp [tl, h1]⟩, trivial⟩
    · have h : ¬ (0 : Int) < m := of_decide_eq_false (gw_false.1 h)
      obtain rfl : m = 0 := by omega
      conv => whnf
      refine ⟨by omega, by omega, ?_⟩
      conv => whnf
      refine ⟨by show ((0 : Nat) : Int) ≤ (i : Int); omega, ?_⟩
      conv => whnf
      refine Weak.ints1 (tl := [(0, .c (.sl 1 0 1 0 (tl (nf p i a) i)))]) (xs := [(3, i, nf p i a)]) [some 1] rfl rfl ?_ ?_
      · exact ⟨⟨_, rfl, rfl, rfl, rfl, rfl, fun _ _ => rfl⟩, trivial⟩
      · exact ⟨⟨_, _, rfl, rfl, rfl, by rw [← ht]; rfl⟩, trivial⟩
set_option maxHeartbeats 4000000 in
theorem refDivide_ok {p : Int} {n0 m0 n m : Nat} {a c : Nat → Int} {F G : Nat → Int} (hp : md p) (hn0 : n0 ≤ 4096) (hm0 : m0 ≤ 4096) (eF : nf p n0 a = F) (eG : nf p m0 c = G) (en0 : tl F n0 = n) (em0 : tl G m0 = m) (h0 : 0 < m) (hnm : m ≤ n) (hF : ∀ i, 0 ≤ F i ∧ F i < p) (hG : ∀ i, 0 ≤ G i ∧ G i < p) (hl : G (m - 1) ≠ 0) : FnOK Tryz.prog false 29 [.c (.int .i64 p), .c (il n0 a), .c (il m0 c)] (.t2 (.c (il (tl (nf p (n + 1 - m) (dq p (inv (G (m - 1)) p) m (n + 1 - m) F G)) (n + 1 - m)) (nf p (n + 1 - m) (dq p (inv (G (m - 1)) p) m (n + 1 - m) F G)))) (.c (il (tl (nf p n (dn p (inv (G (m - 1)) p) m (n + 1 - m) F G (n + 1 - m))) n) (nf p n (dn p (inv (G (m - 1)) p) m (n + 1 - m) F G (n + 1 - m)))))) := by
  obtain ⟨hp1, hp2, hP⟩ := hp
  have hnn : n ≤ n0 := by rw [← en0]; exact tl_le _ _
  have hn : n ≤ 4096 := by omega
  have hi := inv_range (c := G (m - 1)) (p := p) (by omega)
  have hg : 0 < G (m - 1) % p := by
    rw [Int.emod_eq_of_lt (hG _).1 (hG _).2]
    have := (hG (m - 1)).1
    omega
  have hdr := fun t k => dn_range (b := inv (G (m - 1)) p) (m := m) (N := n + 1 - m) (F := F) (G := G) (by omega) hF t k
  have hqr := fun i => dq_range (p := p) (b := inv (G (m - 1)) p) (m := m) (N := n + 1 - m) (F := F) (G := G) (by omega) i
  have hN : m + (n + 1 - m) = n + 1 := by omega
  have hinv := refInverse_ok (c := G (m - 1)) ⟨hp1, hp2, hP⟩ hg
  have hNf := refNormal_m (p := p) (n := n0) (a := a) (by omega) hp2 (by omega)
  have hNg := refNormal_ok (p := p) (n := m0) (a := c) (by omega) hp2 (by omega)
  rw [eF, en0] at hNf
  rw [eG, em0] at hNg
  generalize inv (G (m - 1)) p = b at *
  generalize n + 1 - m = N at *
  refine fn_ok (E := E0) E0_ok Tryz.func29 rfl mixed (by kernel_rfl) (by kernel_rfl) ?_
  conv => whnf
  refine .inl ⟨[], true, ?_⟩
  conv => whnf
  refine ⟨0, phB, [.c (.int .i64 p), .c (il n0 a)], _, _, _, hNf, rfl, .inr (Nat.le_refl 2), fun h => absurd h (by decide), fun h => absurd h (by decide), fun F' hF' => ?_, rfl, rfl, ?_⟩
  · simp at hF'; subst hF'; exact fun _ _ _ _ _ => rfl
  conv => whnf
  refine .inr ?_
  conv => whnf
  refine ⟨_, hNg, ?_⟩
  conv => whnf
  refine bneg (show decide ((n : Int) < m) = false by simp; omega) ?_
  conv => whnf
  have em : ((m : Int) - 1).toNat = m - 1 := by omega
  refine ⟨i64 (by omega) (by omega), ?_⟩
  conv => whnf
  refine ⟨by omega, ?_⟩
  conv => whnf
  refine ⟨by omega, ?_⟩
  conv => whnf
  refine ⟨_, (show FnOK Tryz.prog false 52 [.c (.int .i64 (G ((m : Int) - 1).toNat)), .c (.int .i64 p)] (.t2 (.c (.int .i64 b)) (.c (.int .i64 0))) by rw [em]; exact hinv), ?_⟩
  conv => whnf
  refine ⟨i64 (by omega) (by omega), ?_⟩
  conv => whnf
  refine ⟨i64 (by omega) (by omega), ?_⟩
  conv => whnf
  refine ⟨by omega, by omega, by omega, by show ((8 : Nat) : Int) * ((n : Int) - (m : Int) + 1) ≤ _; omega, ?_⟩
  conv => whnf
  have en : ((n : Int) - (m : Int) + 1).toNat = N := by omega
  refine ⟨i64 (by omega) (by omega), ?_⟩
  conv => whnf
  refine loop_ints (fun k : Nat => ist [(0, .c (.int .i64 p)), (9, .c (il m G)), (12, .c (.gs 1 0)), (8, .c (.sl 0 0 1 0 n)), (10, .c (.int .i64 b)), (13, .c (.int .i64 ((k : Int) - 1)))] [(3, n0, dn p b m N F G (N - k)), (3, N, fun i => if k ≤ i then dq p b m N F G i else 0)]) (fun k => k) (fun k => k ≤ N) N rfl ?_ (Nat.le_refl _) fun k hk => ?_
  · refine Weak.ints [some 1, some 2] rfl ⟨⟨_, rfl, rfl, rfl, rfl, rfl, fun i hi => ?_⟩, ⟨_, rfl, rfl, rfl, en, rfl, fun i hi => ?_⟩, trivial⟩ ⟨⟨_, rfl, rfl⟩, ⟨_, _, rfl, rfl, fun _ _ _ _ => rfl⟩, ⟨_, rfl, rfl, rfl⟩, ⟨_, _, rfl, rfl, rfl, rfl⟩, ⟨_, rfl, rfl⟩, ⟨_, rfl, ?_⟩, trivial⟩
    · exact congrArg (Cell.int .i64) (show F i = dn p b m N F G (N - N) i by rw [Nat.sub_self]; rfl)
    · have hi : i < N := hi
      exact congrArg (Cell.int .i64) (show (0 : Int) = if N ≤ i then dq p b m N F G i else 0 by rw [if_neg (by omega)])
    · show (n : Int) - (m : Int) = (N : Int) - 1
      omega
  conv => whnf
  refine bcase (fun (h : decide ((0 : Int) ≤ (k : Int) - 1) = true) => ?_) fun (h : decide ((0 : Int) ≤ (k : Int) - 1) = false) => ?_
  · have h := of_decide_eq_true h
    obtain ⟨i, rfl⟩ : ∃ i, k = i + 1 := ⟨k - 1, by omega⟩
    have ei : (((i + 1 : Nat) : Int) - 1).toNat = i := by omega
    have ei2 : 0 + ((((i + 1 : Nat) : Int) - 1) + (m : Int) - 1).toNat = i + m - 1 := by omega
    have r1 := hdr (N - (i + 1)) (i + m - 1)
    have b1 := mul_bounds hp2 r1 hi
    have hc : Int.tmod (dn p b m N F G (N - (i + 1)) (0 + ((((i + 1 : Nat) : Int) - 1) + (m : Int) - 1).toNat) * b) p = dq p b m N F G i := by
      rw [ei2, rem_eq b1.1]; rfl
    conv => whnf
    refine ⟨i64 (by omega) (by omega), ?_⟩
    conv => whnf
    refine ⟨i64 (by omega) (by omega), ?_⟩
    conv => whnf
    refine ⟨by omega, ?_⟩
    conv => whnf
    refine ⟨by show ((i + 1 : Nat) : Int) - 1 + (m : Int) - 1 < (n : Int); omega, ?_⟩
    conv => whnf
    refine ⟨by show inR .i64 (dn p b m N F G (N - (i + 1)) (0 + ((((i + 1 : Nat) : Int) - 1) + (m : Int) - 1).toNat) * b); rw [ei2]; exact i64 (by omega) (by omega), ?_⟩
    conv => whnf
    refine ⟨by omega, ?_⟩
    conv => whnf
    refine ⟨by omega, ?_⟩
    conv => whnf
    refine ⟨by show ((i + 1 : Nat) : Int) - 1 < (N : Int); omega, ?_⟩
    conv => whnf
    refine loop_ints (fun j : Nat => ist [(0, .c (.int .i64 p)), (9, .c (il m G)), (12, .c (.gs 1 0)), (8, .c (.sl 0 0 1 0 n)), (10, .c (.int .i64 b)), (13, .c (.int .i64 (((i + 1 : Nat) : Int) - 1))), (14, .c (.int .i64 (dq p b m N F G i))), (15, .c (.int .i64 j))] [(3, n0, dpart p (dq p b m N F G i) G (dn p b m N F G (N - (i + 1))) i j), (3, N, fun x => if i ≤ x then dq p b m N F G x else 0)]) (fun j => m - j) (fun j => j ≤ m) 0 rfl ?_ (Nat.zero_le _) fun j hj => ?_
    · refine Weak.ints [some 0, some 1] rfl ⟨⟨_, rfl, rfl, rfl, rfl, rfl, fun x hx => congrArg (Cell.int .i64) dpart_zero.symm⟩, ⟨_, rfl, rfl, rfl, rfl, rfl, fun x hx => updI ?_⟩, trivial⟩ ⟨⟨_, rfl, rfl⟩, ⟨_, _, rfl, rfl, fun _ _ _ _ => rfl⟩, ⟨_, rfl, rfl, rfl⟩, ⟨_, _, rfl, rfl, rfl, rfl⟩, ⟨_, rfl, rfl⟩, ⟨_, rfl, rfl⟩, ⟨_, rfl, hc⟩, ⟨_, rfl, rfl⟩, trivial⟩
      show (if x = (((i + 1 : Nat) : Int) - 1).toNat then Int.tmod (dn p b m N F G (N - (i + 1)) (0 + ((((i + 1 : Nat) : Int) - 1) + (m : Int) - 1).toNat) * b) p else if i + 1 ≤ x then dq p b m N F G x else 0) = if i ≤ x then dq p b m N F G x else 0
      rw [ei, hc]
      by_cases e : x = i
      · subst e; rw [if_pos rfl, if_pos (Nat.le_refl _)]
      · rw [if_neg e]
        by_cases e2 : i + 1 ≤ x
        · rw [if_pos e2, if_pos (by omega)]
        · rw [if_neg e2, if_neg (by omega)]
    conv => whnf
    refine bcase (fun (h' : decide ((j : Int) < m) = true) => ?_) fun (h' : decide ((j : Int) < m) = false) => ?_
    · have h' := of_decide_eq_true h'
      have eij : 0 + ((((i + 1 : Nat) : Int) - 1) + (j : Int)).toNat = i + j := by omega
      have c1 := hqr i
      have b2 := mul_bounds hp2 c1 (hG j)
      have r2 := hdr (N - (i + 1)) (i + j)
      have ed : dpart p (dq p b m N F G i) G (dn p b m N F G (N - (i + 1))) i j (i + j) = dn p b m N F G (N - (i + 1)) (i + j) := by
        unfold dpart; rw [if_neg (by omega)]
      conv => whnf
      refine ⟨i64 (by omega) (by omega), ?_⟩
      conv => whnf
      refine ⟨i64 (by omega) (by omega), ?_⟩
      conv => whnf
      refine ⟨by omega, ?_⟩
      conv => whnf
      refine ⟨by show ((i + 1 : Nat) : Int) - 1 + (j : Int) < (n : Int); omega, ?_⟩
      conv => whnf
      refine ⟨by omega, ?_⟩
      conv => whnf
      refine ⟨by omega, ?_⟩
      conv => whnf
      refine ⟨by show inR .i64 (dq p b m N F G i * G j); exact i64 (by omega) (by omega), ?_⟩
      conv => whnf
      refine ⟨by show inR .i64 (dpart p (dq p b m N F G i) G (dn p b m N F G (N - (i + 1))) i j (0 + ((((i + 1 : Nat) : Int) - 1) + (j : Int)).toNat) - dq p b m N F G i * G j); rw [eij, ed]; exact i64 (by omega) (by omega), ?_⟩
      conv => whnf
      refine ⟨_, refMod_ok (by omega) hp2, ?_⟩
      conv => whnf
      refine ⟨by omega, ?_⟩
      conv => whnf
      refine ⟨by show ((i + 1 : Nat) : Int) - 1 + (j : Int) < (n : Int); omega, ?_⟩
      conv => whnf
      refine ⟨i64 (by omega) (by omega), ?_⟩
      conv => whnf
      refine ⟨j + 1, by omega, ?_, by omega⟩
      refine Weak.ints [some 0, some 1] rfl ⟨⟨_, rfl, rfl, rfl, rfl, rfl, fun x hx => updI ?_⟩, ⟨_, rfl, rfl, rfl, rfl, rfl, fun _ _ => rfl⟩, trivial⟩ ⟨⟨_, rfl, rfl⟩, ⟨_, _, rfl, rfl, fun _ _ _ _ => rfl⟩, ⟨_, rfl, rfl, rfl⟩, ⟨_, _, rfl, rfl, rfl, rfl⟩, ⟨_, rfl, rfl⟩, ⟨_, rfl, rfl⟩, ⟨_, rfl, rfl⟩, ⟨_, rfl, rfl⟩, trivial⟩
      show (if x = 0 + ((((i + 1 : Nat) : Int) - 1) + (j : Int)).toNat then (dpart p (dq p b m N F G i) G (dn p b m N F G (N - (i + 1))) i j (0 + ((((i + 1 : Nat) : Int) - 1) + (j : Int)).toNat) - dq p b m N F G i * G j) % p else dpart p (dq p b m N F G i) G (dn p b m N F G (N - (i + 1))) i j x) = dpart p (dq p b m N F G i) G (dn p b m N F G (N - (i + 1))) i (j + 1) x
      rw [eij, ed]
      exact dpart_ref
    · have h' := of_decide_eq_false h'
      obtain rfl : j = m := by omega
      conv => whnf
      refine ⟨i64 (by omega) (by omega), ?_⟩
      conv => whnf
      refine ⟨i, by omega, ?_, by omega⟩
      exact Weak.ints [some 0, some 1] rfl ⟨⟨_, rfl, rfl, rfl, rfl, rfl, fun x hx => congrArg (Cell.int .i64) (congrFun (dn_step (by omega)).symm x)⟩, ⟨_, rfl, rfl, rfl, rfl, rfl, fun _ _ => rfl⟩, trivial⟩ ⟨⟨_, rfl, rfl⟩, ⟨_, _, rfl, rfl, fun _ _ _ _ => rfl⟩, ⟨_, rfl, rfl, rfl⟩, ⟨_, _, rfl, rfl, rfl, rfl⟩, ⟨_, rfl, rfl⟩, ⟨_, rfl, by omega⟩, trivial⟩
  · have h := of_decide_eq_false h
    obtain rfl : k = 0 := by omega
    conv => whnf
    refine .inr ⟨fun _ _ _ _ => rfl, ?_⟩
    conv => whnf
    refine ⟨_, refNormal_ok (n := N) (a := fun x => if 0 ≤ x then dq p b m N F G x else 0) (by omega) hp2 (by omega), ?_⟩
    conv => whnf
    refine .inr ⟨fun _ _ _ _ => rfl, ?_⟩
    conv => whnf
    refine ⟨_, refNormal_ok (n := n) (a := fun x => dn p b m N F G (N - 0) (0 + x)) (by omega) hp2 (by omega), ?_⟩
    conv => whnf
    have e1 : nf p N (fun x => if 0 ≤ x then dq p b m N F G x else 0) = nf p N (dq p b m N F G) := by
      funext x; simp [nf]
    have e2 : nf p n (fun x => dn p b m N F G (N - 0) (0 + x)) = nf p n (dn p b m N F G N) := by
      funext x; simp [nf]
    exact ⟨rfl, subT2 (subRow (a := nf p N (fun x => if 0 ≤ x then dq p b m N F G x else 0)) (b := nf p N (dq p b m N F G)) (by rw [e1]) fun x _ => congrFun e1 x) (subRow (a := nf p n (fun x => dn p b m N F G (N - 0) (0 + x))) (b := nf p n (dn p b m N F G N)) (by rw [e2]) fun x _ => congrFun e2 x)⟩
set_option maxHeartbeats 4000000 in
theorem refDivide_short {p : Int} {n0 m0 n m : Nat} {a c : Nat → Int} {F G : Nat → Int} (hp : 0 < p) (hp2 : p ≤ 65521) (hn0 : n0 ≤ 4096) (hm0 : m0 ≤ 4096) (eF : nf p n0 a = F) (eG : nf p m0 c = G) (en0 : tl F n0 = n) (em0 : tl G m0 = m) (hnm : n < m) : FnOK Tryz.prog false 29 [.c (.int .i64 p), .c (il n0 a), .c (il m0 c)] (.t2 (.c .nil) (.c (il n F))) := by
  have hNf := refNormal_ok (p := p) (n := n0) (a := a) (by omega) hp2 (by omega)
  have hNg := refNormal_ok (p := p) (n := m0) (a := c) (by omega) hp2 (by omega)
  rw [eF, en0] at hNf
  rw [eG, em0] at hNg
  refine fn_ok (E := E0) E0_ok Tryz.func29 rfl mixed (by kernel_rfl) (by kernel_rfl) ?_
  conv => whnf
  refine .inr ?_
  conv => whnf
  refine ⟨_, hNf, ?_⟩
  conv => whnf
  refine .inr ?_
  conv => whnf
  refine ⟨_, hNg, ?_⟩
  conv => whnf
  refine bpos (show decide ((n : Int) < m) = true by simp; omega) ?_
  conv => whnf
  exact ⟨rfl, Sub.refl _⟩
end Fp
end Go.Proofs.YtmfaipklhkgieaaGreat
