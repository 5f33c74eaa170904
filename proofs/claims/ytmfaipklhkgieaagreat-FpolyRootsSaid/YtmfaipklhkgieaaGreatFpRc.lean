/- Roots: the program's function; the law FpolyRoots as a contract. -/
import Derived.Test.YtmfaipklhkgieaaGreatFpRo
import Derived.Test.YtmfaipklhkgieaaGreatFpPq
import Derived.Test.YtmfaipklhkgieaaGreatFpN
namespace Go.Proofs.YtmfaipklhkgieaaGreat
open Go.RowKit
namespace Fp
set_option maxHeartbeats 4000000 in
theorem prepare_no {p : Int} {x : L} (hp : ¬ md p) : FnOK Tryz.prog false 34 [.c (.int .i64 p), cl x] (.t2 (.c .nil) (.c (.int .i64 8))) := by
  refine fn_ok (E := E0) E0_ok Tryz.func34 rfl mixed (by kernel_rfl) (by kernel_rfl) ?_
  conv => whnf
  refine ⟨_, modulus_bad hp, ?_⟩
  conv => whnf
  exact ⟨rfl, Sub.refl _⟩
set_option maxHeartbeats 4000000 in
theorem prepare_zero {p : Int} {x f : L} (hp : md p) (hx : x.1 ≤ 4096) (ex : nfL p x = f) (h0 : f.1 = 0) : FnOK Tryz.prog false 34 [.c (.int .i64 p), cl x] (.t2 (.c .nil) (.c (.int .i64 5))) := by
  have hN := normal_L (x := x) hp hx
  rw [ex] at hN
  refine fn_ok (E := E0) E0_ok Tryz.func34 rfl mixed (by kernel_rfl) (by kernel_rfl) ?_
  conv => whnf
  refine ⟨_, modulus_ok hp, ?_⟩
  conv => whnf
  refine ⟨_, hN, ?_⟩
  conv => whnf
  refine bpos (show decide ((f.1 : Int) = 0) = true by simp; omega) ?_
  conv => whnf
  exact ⟨rfl, Sub.refl _⟩
set_option maxHeartbeats 4000000 in
theorem prepare_ok {p : Int} {x f : L} (hp : md p) (hx : x.1 ≤ 64) (ex : nfL p x = f) (h0 : 0 < f.1) : FnOK Tryz.prog false 34 [.c (.int .i64 p), cl x] (.t2 (cl f) (.c (.int .i64 0))) := by
  have hN := normal_L (x := x) hp (by omega)
  have hle := nfL_le p x
  rw [ex] at hN hle
  refine fn_ok (E := E0) E0_ok Tryz.func34 rfl mixed (by kernel_rfl) (by kernel_rfl) ?_
  conv => whnf
  refine ⟨_, modulus_ok hp, ?_⟩
  conv => whnf
  refine ⟨_, hN, ?_⟩
  conv => whnf
  refine bneg (show decide ((f.1 : Int) = 0) = false by simp; omega) ?_
  conv => whnf
  refine ⟨i64 (by omega) (by omega), ?_⟩
  conv => whnf
  refine bneg (show decide ((64 : Int) < (f.1 : Int) - 1) = false by simp; omega) ?_
  conv => whnf
  exact ⟨rfl, Sub.refl _⟩
/-- The roots among the first k residues. -/
noncomputable def rl (p : Int) (f : L) : Nat → L
  | 0 => (0, fun _ => 0)
  | k + 1 => if hv p k f.2 f.1 f.1 = 0 then ((rl p f k).1 + 1, fun i => if i = (rl p f k).1 then (k : Int) else (rl p f k).2 i) else rl p f k
theorem rl_le {p : Int} {f : L} : ∀ k, (rl p f k).1 ≤ k
  | 0 => Nat.le_refl _
  | k + 1 => by
    have ih := rl_le (p := p) (f := f) k
    show (if hv p k f.2 f.1 f.1 = 0 then ((rl p f k).1 + 1, fun i => if i = (rl p f k).1 then (k : Int) else (rl p f k).2 i) else rl p f k).1 ≤ k + 1
    split
    · show (rl p f k).1 + 1 ≤ k + 1
      omega
    · omega
theorem rl_at {p : Int} {f : L} : ∀ k j, j < (rl p f k).1 → 0 ≤ (rl p f k).2 j ∧ (rl p f k).2 j < k ∧ hv p ((rl p f k).2 j) f.2 f.1 f.1 = 0 ∧ (0 < j → (rl p f k).2 (j - 1) < (rl p f k).2 j)
  | 0, j, h => absurd h (Nat.not_lt_zero j)
  | k + 1, j, h => by
    have ih := rl_at (p := p) (f := f) k
    have e : rl p f (k + 1) = if hv p k f.2 f.1 f.1 = 0 then ((rl p f k).1 + 1, fun i => if i = (rl p f k).1 then (k : Int) else (rl p f k).2 i) else rl p f k := rfl
    by_cases h0 : hv p k f.2 f.1 f.1 = 0
    · rw [if_pos h0] at e
      rw [e] at h ⊢
      have h : j < (rl p f k).1 + 1 := h
      show 0 ≤ (if j = (rl p f k).1 then (k : Int) else (rl p f k).2 j) ∧ (if j = (rl p f k).1 then (k : Int) else (rl p f k).2 j) < ((k + 1 : Nat) : Int) ∧ hv p (if j = (rl p f k).1 then (k : Int) else (rl p f k).2 j) f.2 f.1 f.1 = 0 ∧ (0 < j → (if j - 1 = (rl p f k).1 then (k : Int) else (rl p f k).2 (j - 1)) < (if j = (rl p f k).1 then (k : Int) else (rl p f k).2 j))
      by_cases e1 : j = (rl p f k).1
      · rw [if_pos e1]
        refine ⟨by omega, by omega, h0, fun hj => ?_⟩
        rw [if_neg (by omega)]
        exact (ih (j - 1) (by omega)).2.1
      · rw [if_neg e1]
        obtain ⟨i1, i2, i3, i4⟩ := ih j (by omega)
        refine ⟨i1, by omega, i3, fun hj => ?_⟩
        rw [if_neg (by omega)]
        exact i4 hj
    · rw [if_neg h0] at e
      rw [e] at h ⊢
      obtain ⟨i1, i2, i3, i4⟩ := ih j h
      exact ⟨i1, by omega, i3, i4⟩
theorem rl_cnt {p : Int} {f : L} (hp : md p) (hf : NL p f) : ∀ k, (rl p f k).1 = cnt (fun b => vl b f.2 % p = 0) k
  | 0 => rfl
  | k + 1 => by
    have ih := rl_cnt hp hf k
    have e : hv p k f.2 f.1 f.1 = vl k f.2 % p := by rw [hv_pe (by have := hp.1; omega), vl_pe hf.z]
    show (if hv p k f.2 f.1 f.1 = 0 then ((rl p f k).1 + 1, fun i => if i = (rl p f k).1 then (k : Int) else (rl p f k).2 i) else rl p f k).1 = cnt (fun b => vl b f.2 % p = 0) (k + 1)
    unfold cnt
    by_cases h : vl k f.2 % p = 0
    · rw [if_pos (e.trans h), if_pos h]
      show (rl p f k).1 + 1 = _
      rw [ih]
    · rw [if_neg (fun h2 => h (e.symm.trans h2)), if_neg h]
      exact ih
set_option maxHeartbeats 4000000 in
theorem Roots_no {p : Int} {x : L} (hp : ¬ md p) : FnOK Tryz.prog false 16 [.c (.int .i64 p), cl x] (.t2 (.c .nil) (.c (.int .i64 8))) := by
  refine fn_ok (E := E0) E0_ok Tryz.func16 rfl mixed (by kernel_rfl) (by kernel_rfl) ?_
  conv => whnf
  refine ⟨_, prepare_no hp, ?_⟩
  conv => whnf
  exact ⟨rfl, Sub.refl _⟩
set_option maxHeartbeats 4000000 in
theorem Roots_zero {p : Int} {x f : L} (hp : md p) (hx : x.1 ≤ 4096) (ex : nfL p x = f) (h0 : f.1 = 0) : FnOK Tryz.prog false 16 [.c (.int .i64 p), cl x] (.t2 (.c .nil) (.c (.int .i64 5))) := by
  refine fn_ok (E := E0) E0_ok Tryz.func16 rfl mixed (by kernel_rfl) (by kernel_rfl) ?_
  conv => whnf
  refine ⟨_, prepare_zero hp hx ex h0, ?_⟩
  conv => whnf
  exact ⟨rfl, Sub.refl _⟩
set_option maxHeartbeats 8000000 in
theorem Roots_ok {p : Int} {x f : L} (hp : md p) (hx : x.1 ≤ 64) (ex : nfL p x = f) (h0 : 0 < f.1) : FnOK Tryz.prog false 16 [.c (.int .i64 p), cl x] (.t2 (cl (rl p f p.toNat)) (.c (.int .i64 0))) := by
  have hf : NL p f := by rw [← ex]; exact NL.nfL hp (by omega)
  have h1 := hp.1
  have h2 := hp.2.1
  refine fn_ok (E := E0) E0_ok Tryz.func16 rfl mixed (by kernel_rfl) (by kernel_rfl) ?_
  conv => whnf
  refine ⟨_, prepare_ok hp hx ex h0, ?_⟩
  conv => whnf
  refine loop_ints (fun k : Nat => ist [(0, .c (.int .i64 p)), (1, cl f), (7, .c (.gs 0 0)), (18, .c (.int .i64 p)), (19, .c (.int .i64 k))] [(3, (rl p f k).1, (rl p f k).2)]) (fun k => p.toNat - k) (fun k => k ≤ p.toNat) 0 rfl ?_ (Nat.zero_le _) fun k hk => ?_
  · exact Weak.ints [none] rfl ⟨rfl, trivial⟩ ⟨⟨_, rfl, rfl⟩, ⟨_, _, rfl, rfl, fun _ _ _ _ => rfl⟩, rfl, ⟨_, rfl, rfl⟩, ⟨_, rfl, rfl⟩, trivial⟩
  conv => whnf
  refine bcase (fun (h : decide ((k : Int) < p) = true) => ?_) fun (h : decide ((k : Int) < p) = false) => ?_
  · have h := of_decide_eq_true h
    have hle := rl_le (p := p) (f := f) k
    have e : rl p f (k + 1) = if hv p k f.2 f.1 f.1 = 0 then ((rl p f k).1 + 1, fun i => if i = (rl p f k).1 then (k : Int) else (rl p f k).2 i) else rl p f k := rfl
    conv => whnf
    refine ⟨_, eval_ok (y := (k : Int)) hp.1 hp.2.1 ⟨by omega, h⟩ hf.r hf.n4, ?_⟩
    conv => whnf
    refine bcase (fun (h3 : decide (hv p k f.2 f.1 f.1 = 0) = true) => ?_) fun (h3 : decide (hv p k f.2 f.1 f.1 = 0) = false) => ?_
    · have h3 := of_decide_eq_true h3
      rw [if_pos h3] at e
      conv => whnf
      refine ⟨by show (rl p f k).1 + 1 ≤ 16777216; omega, fun x y hx hy => ?_, ?_⟩
      · obtain rfl : x = 0 := by have h : x < 1 := hx
                                 omega
        obtain rfl : y = 0 := by have h : y < 1 := hy
                                 omega
        exact ⟨rfl, fun h => by cases h⟩
      conv => whnf
      refine ⟨i64 (by omega) (by omega), ?_⟩
      conv => whnf
      refine ⟨k + 1, by omega, ?_, by omega⟩
      rw [e]
      refine Weak.ints [some 0] rfl ⟨⟨_, rfl, rfl, rfl, rfl, rfl, fun j hj => appI ?_ (show (rl p f k).1 + 1 ≤ (rl p f k).1 + 1 from Nat.le_refl _) hj⟩, trivial⟩ ⟨⟨_, rfl, rfl⟩, ⟨_, _, rfl, rfl, fun _ _ _ _ => rfl⟩, ⟨_, rfl, rfl, rfl⟩, ⟨_, rfl, rfl⟩, ⟨_, rfl, rfl⟩, trivial⟩
      rfl
    · have h3 := of_decide_eq_false h3
      rw [if_neg h3] at e
      conv => whnf
      refine ⟨i64 (by omega) (by omega), ?_⟩
      conv => whnf
      refine ⟨k + 1, by omega, ?_, by omega⟩
      rw [e]
      exact Weak.ints [some 0] rfl ⟨⟨_, rfl, rfl, rfl, rfl, rfl, fun _ _ => rfl⟩, trivial⟩ ⟨⟨_, rfl, rfl⟩, ⟨_, _, rfl, rfl, fun _ _ _ _ => rfl⟩, ⟨_, rfl, rfl, rfl⟩, ⟨_, rfl, rfl⟩, ⟨_, rfl, rfl⟩, trivial⟩
  · have h := of_decide_eq_false h
    obtain rfl : k = p.toNat := by omega
    conv => whnf
    refine ⟨fun _ _ _ _ => rfl, ?_⟩
    conv => whnf
    exact ⟨rfl, Sub.refl _⟩
end Fp
end Go.Proofs.YtmfaipklhkgieaaGreat
