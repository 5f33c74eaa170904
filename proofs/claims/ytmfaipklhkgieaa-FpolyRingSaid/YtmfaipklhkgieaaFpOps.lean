/- The law FpolyOperations, as a contract. -/
import Derived.Test.YtmfaipklhkgieaaFpY
import Derived.Test.YtmfaipklhkgieaaFpEv
import Derived.Test.YtmfaipklhkgieaaFpL
namespace Go.Proofs.Ytmfaipklhkgieaa
open Go.RowKit
namespace Fp
noncomputable abbrev dvL (p : Int) (x : L) : L := (tl (dv p x.2) (x.1 - 1), dv p x.2)
theorem ints_L {x : L} (h : x.1 ≤ 1048576) : FnOK Try.prog false 13 [cl x, cl x] (.c (.bool true)) := ints_true h ⟨rfl, fun _ _ => rfl⟩
section
variable {p : Int} {x y : L}
theorem Normal_L (hp : md p) (h : x.1 ≤ 4096) : FnOK Try.prog false 25 [.c (.int .i64 p), cl x] (.t2 (cl (nfL p x)) (.c (.int .i64 0))) := Normal_ok hp h
theorem Add_L (hp : md p) (h : x.1 ≤ 4096) (h2 : y.1 ≤ 4096) : FnOK Try.prog false 22 [.c (.int .i64 p), cl x, cl y] (.t2 (cl (addL p (nfL p x) (nfL p y))) (.c (.int .i64 0))) := Add_ok hp h h2
theorem Sub_L (hp : md p) (h : x.1 ≤ 4096) (h2 : y.1 ≤ 4096) : FnOK Try.prog false 26 [.c (.int .i64 p), cl x, cl y] (.t2 (cl (subL p (nfL p x) (nfL p y))) (.c (.int .i64 0))) := Sub_ok hp h h2
theorem Mul_L (hp : md p) (h : x.1 ≤ 1024) (h2 : y.1 ≤ 1024) : FnOK Try.prog false 14 [.c (.int .i64 p), cl x, cl y] (.t2 (cl (mulL p (nfL p x) (nfL p y))) (.c (.int .i64 0))) :=
  mul_ok hp (by omega) (by omega) (times_L hp (NL.nfL hp (by omega)) (NL.nfL hp (by omega)) (by have := nfL_le p x; omega) (by have := nfL_le p y; omega))
theorem Derivative_L (hp : md p) (h : x.1 ≤ 4096) : FnOK Try.prog false 24 [.c (.int .i64 p), cl x] (.t2 (cl (dvL p (nfL p x))) (.c (.int .i64 0))) := Derivative_ok hp h
set_option maxHeartbeats 4000000 in
theorem Eval_L {v : Int} (hp : md p) (h : x.1 ≤ 4096) : FnOK Try.prog false 23 [.c (.int .i64 p), cl x, .c (.int .i64 v)] (.t2 (.c (.int .i64 (hv p (v % p) (nfL p x).2 (nfL p x).1 (nfL p x).1))) (.c (.int .i64 0))) := by
  have hp0 : 0 < p := by have := hp.1; omega
  have hF := NL.nfL (x := x) hp h
  refine fn_ok (E := E0) E0_ok Try.func23 rfl mixed (by kernel_rfl) (by kernel_rfl) ?_
  conv => whnf
  refine ⟨_, modulus_ok hp, ?_⟩
  conv => whnf
  refine ⟨_, normal_L hp h, ?_⟩
  conv => whnf
  refine ⟨_, residue_ok hp0 hp.2.1, ?_⟩
  conv => whnf
  refine ⟨_, eval_ok hp.1 hp.2.1 ⟨Int.emod_nonneg _ (by omega), Int.emod_lt_of_pos _ hp0⟩ hF.r hF.n4, ?_⟩
  conv => whnf
  exact ⟨rfl, Sub.refl _⟩
theorem refAdd_Lr (hp : md p) (h : x.1 ≤ 4096) (h2 : y.1 ≤ 4096) : FnOK Try.prog false 20 [.c (.int .i64 p), cl x, cl y] (cl (addL p (nfL p x) (nfL p y))) := refAdd_ok hp.1 hp.2.1 h h2 rfl rfl rfl rfl
theorem refSub_Lr (hp : md p) (h : x.1 ≤ 4096) (h2 : y.1 ≤ 4096) : FnOK Try.prog false 27 [.c (.int .i64 p), cl x, cl y] (cl (subL p (nfL p x) (nfL p y))) := refSub_ok hp.1 hp.2.1 h h2 rfl rfl rfl rfl
theorem refMul_Lr (hp : md p) (h : x.1 ≤ 1024) (h2 : y.1 ≤ 1024) : FnOK Try.prog false 21 [.c (.int .i64 p), cl x, cl y] (cl (mulL p (nfL p x) (nfL p y))) := refMul_ok hp.1 hp.2.1 h h2 rfl rfl rfl rfl
theorem refDerivative_Lr (hp : md p) (h : x.1 ≤ 4096) : FnOK Try.prog false 28 [.c (.int .i64 p), cl x] (cl (dvL p (nfL p x))) := refDerivative_ok hp.1 hp.2.1 h rfl rfl
theorem hv_zeros {p y : Int} {F : Nat → Int} {m n : Nat} (hz : ∀ j, m ≤ j → F j = 0) (hmn : m ≤ n) : ∀ t, n - m ≤ n → t ≤ n - m → hv p y F n t = 0
  | 0, _, _ => rfl
  | t + 1, h, ht => by
    show (hv p y F n t * y + F (n - 1 - t)) % p = 0
    rw [hv_zeros hz hmn t h (by omega), hz _ (by omega), Int.zero_mul]
    exact Int.zero_emod p
theorem hv_tail {p y : Int} {F : Nat → Int} {m n : Nat} (hz : ∀ j, m ≤ j → F j = 0) (hmn : m ≤ n) : ∀ t, t ≤ m → hv p y F n (n - m + t) = hv p y F m t
  | 0, _ => hv_zeros hz hmn _ (by omega) (by omega)
  | t + 1, ht => by
    show (hv p y F n (n - m + t) * y + F (n - 1 - (n - m + t))) % p = (hv p y F m t * y + F (m - 1 - t)) % p
    rw [hv_tail hz hmn t (by omega), show n - 1 - (n - m + t) = m - 1 - t by omega]
theorem refEval_L {v : Int} (hp : md p) (h : x.1 ≤ 4096) : FnOK Try.prog false 29 [.c (.int .i64 p), cl x, .c (.int .i64 v)] (.c (.int .i64 (hv p (v % p) (nfL p x).2 (nfL p x).1 (nfL p x).1))) := by
  have h2 := refEval_ok (p := p) (x := v) (n := x.1) (a := x.2) hp.1 hp.2.1 h
  have hF := NL.nfL (x := x) hp h
  have e := hv_tail (p := p) (y := v % p) hF.z (nfL_le p x) (nfL p x).1 (Nat.le_refl _)
  rw [show x.1 - (nfL p x).1 + (nfL p x).1 = x.1 by have := nfL_le p x; omega] at e
  rw [← e]
  exact h2
-- a modulus that is refused
set_option maxHeartbeats 4000000 in
theorem Normal_no (hp : ¬ md p) : FnOK Try.prog false 25 [.c (.int .i64 p), cl x] (.t2 (.c .nil) (.c (.int .i64 8))) := by
  refine fn_ok (E := E0) E0_ok Try.func25 rfl mixed (by kernel_rfl) (by kernel_rfl) ?_
  conv => whnf
  refine ⟨_, modulus_bad hp, ?_⟩
  conv => whnf
  exact ⟨rfl, Sub.refl _⟩
set_option maxHeartbeats 4000000 in
theorem Add_no (hp : ¬ md p) : FnOK Try.prog false 22 [.c (.int .i64 p), cl x, cl y] (.t2 (.c .nil) (.c (.int .i64 8))) := by
  refine fn_ok (E := E0) E0_ok Try.func22 rfl mixed (by kernel_rfl) (by kernel_rfl) ?_
  conv => whnf
  refine ⟨_, modulus_bad hp, ?_⟩
  conv => whnf
  exact ⟨rfl, Sub.refl _⟩
set_option maxHeartbeats 4000000 in
theorem Sub_no (hp : ¬ md p) : FnOK Try.prog false 26 [.c (.int .i64 p), cl x, cl y] (.t2 (.c .nil) (.c (.int .i64 8))) := by
  refine fn_ok (E := E0) E0_ok Try.func26 rfl mixed (by kernel_rfl) (by kernel_rfl) ?_
  conv => whnf
  refine ⟨_, modulus_bad hp, ?_⟩
  conv => whnf
  exact ⟨rfl, Sub.refl _⟩
set_option maxHeartbeats 4000000 in
theorem Mul_no (hp : ¬ md p) : FnOK Try.prog false 14 [.c (.int .i64 p), cl x, cl y] (.t2 (.c .nil) (.c (.int .i64 8))) := by
  refine fn_ok (E := E0) E0_ok Try.func14 rfl mixed (by kernel_rfl) (by kernel_rfl) ?_
  conv => whnf
  refine ⟨_, modulus_bad hp, ?_⟩
  conv => whnf
  exact ⟨rfl, Sub.refl _⟩
set_option maxHeartbeats 4000000 in
theorem Derivative_no (hp : ¬ md p) : FnOK Try.prog false 24 [.c (.int .i64 p), cl x] (.t2 (.c .nil) (.c (.int .i64 8))) := by
  refine fn_ok (E := E0) E0_ok Try.func24 rfl mixed (by kernel_rfl) (by kernel_rfl) ?_
  conv => whnf
  refine ⟨_, modulus_bad hp, ?_⟩
  conv => whnf
  exact ⟨rfl, Sub.refl _⟩
set_option maxHeartbeats 4000000 in
theorem Eval_no {v : Int} (hp : ¬ md p) : FnOK Try.prog false 23 [.c (.int .i64 p), cl x, .c (.int .i64 v)] (.t2 (.c (.int .i64 0)) (.c (.int .i64 8))) := by
  refine fn_ok (E := E0) E0_ok Try.func23 rfl mixed (by kernel_rfl) (by kernel_rfl) ?_
  conv => whnf
  refine ⟨_, modulus_bad hp, ?_⟩
  conv => whnf
  exact ⟨rfl, Sub.refl _⟩
end
open Classical in
set_option maxRecDepth 100000 in
set_option maxHeartbeats 16000000 in
theorem operations_ok {p x : Int} {n m l q : Nat} {a c : Nat → Int} {s : Bool} : FnOK Try.prog false 6 [PP p n m l q a c s x] (.c (.bool true)) := by
  refine fn_ok (E := E0) E0_ok Try.func6 rfl mixed (by kernel_rfl) (by kernel_rfl) ?_
  conv => whnf
  refine ⟨_, awake_ok, ?_⟩
  conv => whnf
  refine ⟨_, long_ok, ?_⟩
  conv => whnf
  refine bcase (fun h1 => ?_) fun (h1 : decide (60 < n ∨ 60 < m ∨ 60 < l ∨ 4 < q) = false) => ?_
  · conv => whnf
    exact ⟨rfl, Sub.refl _⟩
  have h1 := of_decide_eq_false h1
  conv => whnf
  by_cases hp : md p
  · have hn : (show L from (n, a)).1 ≤ 1024 := by show n ≤ 1024; omega
    have hm : (show L from (m, c)).1 ≤ 1024 := by show m ≤ 1024; omega
    have hn4 : (show L from (n, a)).1 ≤ 4096 := by show n ≤ 4096; omega
    have hm4 : (show L from (m, c)).1 ≤ 4096 := by show m ≤ 4096; omega
    have hF := NL.nfL (x := (n, a)) hp hn4
    have hG := NL.nfL (x := (m, c)) hp hm4
    have hFn : (nfL p (n, a)).1 ≤ n := nfL_le p (n, a)
    have hGm : (nfL p (m, c)).1 ≤ m := nfL_le p (m, c)
    have f1 := Normal_L (x := (n, a)) hp hn4
    have f2 := Add_L (x := (n, a)) (y := (m, c)) hp hn4 hm4
    have f3 := Sub_L (x := (n, a)) (y := (m, c)) hp hn4 hm4
    have f4 := Mul_L (x := (n, a)) (y := (m, c)) hp hn hm
    have f5 := Derivative_L (x := (n, a)) hp hn4
    have f6 := Eval_L (x := (n, a)) (v := x) hp hn4
    have g1 := refNormal_ok (p := p) (n := n) (a := a) (by have := hp.1; omega) hp.2.1 (by omega)
    have g2 := refAdd_Lr (x := (n, a)) (y := (m, c)) hp hn4 hm4
    have g3 := refSub_Lr (x := (n, a)) (y := (m, c)) hp hn4 hm4
    have g4 := refMul_Lr (x := (n, a)) (y := (m, c)) hp hn hm
    have g5 := refDerivative_Lr (x := (n, a)) hp hn4
    have g6 := refEval_L (x := (n, a)) (v := x) hp hn4
    have i1 := ints_L (x := nfL p (n, a)) (by omega)
    have i2 := ints_L (x := addL p (nfL p (n, a)) (nfL p (m, c))) (by have := (NL.add hp hF hG).n4; omega)
    have i3 := ints_L (x := subL p (nfL p (n, a)) (nfL p (m, c))) (by have := (NL.sub hp hF hG).n4; omega)
    have i4 := ints_L (x := mulL p (nfL p (n, a)) (nfL p (m, c))) (by have := mulL_le p (nfL p (n, a)) (nfL p (m, c)); omega)
    have i5 := ints_L (x := dvL p (nfL p (n, a))) (by have : (dvL p (nfL p (n, a))).1 ≤ (nfL p (n, a)).1 - 1 := tl_le _ _; omega)
    refine ⟨_, f1, ?_⟩
    conv => whnf
    refine ⟨_, f2, ?_⟩
    conv => whnf
    refine ⟨_, f3, ?_⟩
    conv => whnf
    refine ⟨_, f4, ?_⟩
    conv => whnf
    refine ⟨_, f5, ?_⟩
    conv => whnf
    refine ⟨_, f6, ?_⟩
    conv => whnf
    refine ⟨_, refModulus_ok, ?_⟩
    conv => whnf
    refine bneg (show (!decide (md p)) = false by simpa using hp) ?_
    conv => whnf
    refine .inr ?_
    conv => whnf
    refine ⟨_, g1, ?_⟩
    conv => whnf
    refine ⟨_, i1, ?_⟩
    conv => whnf
    refine ⟨_, g2, ?_⟩
    conv => whnf
    refine ⟨_, i2, ?_⟩
    conv => whnf
    refine ⟨_, g3, ?_⟩
    conv => whnf
    refine ⟨_, i3, ?_⟩
    conv => whnf
    refine ⟨_, g4, ?_⟩
    conv => whnf
    refine ⟨_, i4, ?_⟩
    conv => whnf
    refine ⟨_, g5, ?_⟩
    conv => whnf
    refine ⟨_, i5, ?_⟩
    conv => whnf
    refine ⟨_, g6, ?_⟩
    conv => whnf
    refine ⟨rfl, subB ?_⟩
    simp
  · refine ⟨_, Normal_no (x := (n, a)) hp, ?_⟩
    conv => whnf
    refine ⟨_, Add_no (x := (n, a)) (y := (m, c)) hp, ?_⟩
    conv => whnf
    refine ⟨_, Sub_no (x := (n, a)) (y := (m, c)) hp, ?_⟩
    conv => whnf
    refine ⟨_, Mul_no (x := (n, a)) (y := (m, c)) hp, ?_⟩
    conv => whnf
    refine ⟨_, Derivative_no (x := (n, a)) hp, ?_⟩
    conv => whnf
    refine ⟨_, Eval_no (x := (n, a)) hp, ?_⟩
    conv => whnf
    refine ⟨_, refModulus_ok, ?_⟩
    conv => whnf
    refine bpos (show (!decide (md p)) = true by simpa using hp) ?_
    conv => whnf
    refine ⟨i64 (by decide) (by decide), ?_⟩
    conv => whnf
    refine ⟨i64 (by decide) (by decide), ?_⟩
    conv => whnf
    refine ⟨i64 (by decide) (by decide), ?_⟩
    conv => whnf
    refine ⟨i64 (by decide) (by decide), ?_⟩
    conv => whnf
    refine ⟨i64 (by decide) (by decide), ?_⟩
    conv => whnf
    exact ⟨rfl, Sub.refl _⟩
end Fp
end Go.Proofs.Ytmfaipklhkgieaa
