/- The law FpolyOperations, as a contract. -/
import Derived.Test.YtmfaipklhkgieaaGreatFpY
import Derived.Test.YtmfaipklhkgieaaGreatFpEv
import Derived.Test.YtmfaipklhkgieaaGreatFpL
namespace Go.Proofs.YtmfaipklhkgieaaGreat
open Go.RowKit
namespace Fp
noncomputable abbrev dvL (p : Int) (x : L) : L := (tl (dv p x.2) (x.1 - 1), dv p x.2)
theorem ints_L {x : L} (h : x.1 ≤ 1048576) : FnOK Tryz.prog false 11 [cl x, cl x] (.c (.bool true)) := ints_true h ⟨rfl, fun _ _ => rfl⟩
section
variable {p : Int} {x y : L}
theorem Add_L (hp : md p) (h : x.1 ≤ 4096) (h2 : y.1 ≤ 4096) : FnOK Tryz.prog false 13 [.c (.int .i64 p), cl x, cl y] (.t2 (cl (addL p (nfL p x) (nfL p y))) (.c (.int .i64 0))) := Add_ok hp h h2
theorem Mul_L (hp : md p) (h : x.1 ≤ 1024) (h2 : y.1 ≤ 1024) : FnOK Tryz.prog false 22 [.c (.int .i64 p), cl x, cl y] (.t2 (cl (mulL p (nfL p x) (nfL p y))) (.c (.int .i64 0))) :=
  mul_ok hp (by omega) (by omega) (times_L hp (NL.nfL hp (by omega)) (NL.nfL hp (by omega)) (by have := nfL_le p x; omega) (by have := nfL_le p y; omega))
theorem refAdd_Lr (hp : md p) (h : x.1 ≤ 4096) (h2 : y.1 ≤ 4096) : FnOK Tryz.prog false 15 [.c (.int .i64 p), cl x, cl y] (cl (addL p (nfL p x) (nfL p y))) := refAdd_ok hp.1 hp.2.1 h h2 rfl rfl rfl rfl
theorem refSub_Lr (hp : md p) (h : x.1 ≤ 4096) (h2 : y.1 ≤ 4096) : FnOK Tryz.prog false 20 [.c (.int .i64 p), cl x, cl y] (cl (subL p (nfL p x) (nfL p y))) := refSub_ok hp.1 hp.2.1 h h2 rfl rfl rfl rfl
theorem refMul_Lr (hp : md p) (h : x.1 ≤ 1024) (h2 : y.1 ≤ 1024) : FnOK Tryz.prog false 30 [.c (.int .i64 p), cl x, cl y] (cl (mulL p (nfL p x) (nfL p y))) := refMul_ok hp.1 hp.2.1 h h2 rfl rfl rfl rfl
theorem hv_zeros {p y : Int} {F : Nat → Int} {m n : Nat} (hz : ∀ j, m ≤ j → F j = 0) (hmn : m ≤ n) : ∀ t, n - m ≤ n → t ≤ n - m → hv p y F n t = 0
  | 0, _, _ => rfl
  | t + 1, h, ht => by
    show (hv p y F n t * y + F (n - 1 - t)) % p = 0
    rw [hv_zeros hz hmn t h (by omega), hz _ (by omega), Int.zero_mul]
    exact Int.zero_emod p
theorem hv_tail {p y : Int} {F : Nat → Int} {m n : Nat} (hz : ∀ j, m ≤ j → F j = 0) (hmn : m ≤ n) : ∀ t, t ≤ m → hv p y F n (n - m + t) = hv p y F m t
  | 0, _ => hv_zeros hz hmn _ (by omega) (by omega)
  | t + 1, ht => by
    show (hv p y F n (n - m + t) * y + F (n - 1 - (n - m + t))) % p = (hv p y F m t * y + F (m - 1 - t)) % p
    rw [hv_tail hz hmn t (by omega), show n - 1 - (n - m + t) = m - 1 - t by omega]
theorem refEval_L {v : Int} (hp : md p) (h : x.1 ≤ 4096) : FnOK Tryz.prog false 17 [.c (.int .i64 p), cl x, .c (.int .i64 v)] (.c (.int .i64 (hv p (v % p) (nfL p x).2 (nfL p x).1 (nfL p x).1))) := by
  have h2 := refEval_ok (p := p) (x := v) (n := x.1) (a := x.2) hp.1 hp.2.1 h
  have hF := NL.nfL (x := x) hp h
  have e := hv_tail (p := p) (y := v % p) hF.z (nfL_le p x) (nfL p x).1 (Nat.le_refl _)
  rw [show x.1 - (nfL p x).1 + (nfL p x).1 = x.1 by have := nfL_le p x; omega] at e
  rw [← e]
  exact h2
-- a modulus that is refused
set_option maxHeartbeats 4000000 in
theorem Add_no (hp : ¬ md p) : FnOK Tryz.prog false 13 [.c (.int .i64 p), cl x, cl y] (.t2 (.c .nil) (.c (.int .i64 8))) := by
  refine fn_ok (E := E0) E0_ok Tryz.func13 rfl mixed (by kernel_rfl) (by kernel_rfl) ?_
  conv => whnf
  refine ⟨_, modulus_bad hp, ?_⟩
  conv => whnf
  exact ⟨rfl, Sub.refl _⟩
set_option maxHeartbeats 4000000 in
theorem Mul_no (hp : ¬ md p) : FnOK Tryz.prog false 22 [.c (.int .i64 p), cl x, cl y] (.t2 (.c .nil) (.c (.int .i64 8))) := by
  refine fn_ok (E := E0) E0_ok Tryz.func22 rfl mixed (by kernel_rfl) (by kernel_rfl) ?_
  conv => whnf
  refine ⟨_, modulus_bad hp, ?_⟩
  conv => whnf
  exact ⟨rfl, Sub.refl _⟩
end
end Fp
end Go.Proofs.YtmfaipklhkgieaaGreat
