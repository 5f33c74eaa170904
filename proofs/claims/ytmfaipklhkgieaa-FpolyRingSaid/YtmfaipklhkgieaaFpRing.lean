/- The law FpolyRing, as a contract. -/
import Derived.Test.YtmfaipklhkgieaaFpRg
import Derived.Test.YtmfaipklhkgieaaFpPq
namespace Go.Proofs.Ytmfaipklhkgieaa
open Go.RowKit
namespace Fp
/-- What the walk asks of each list: it is in normal form, and short. -/
structure Sh (p : Int) (k : Nat) (x : L) : Prop where
  n : NL p x
  s : x.1 ≤ k
theorem Sh.mul {p : Int} {j k : Nat} {x y : L} (hp : md p) (hx : Sh p j x) (hy : Sh p k y) (h : j + k ≤ 4096) : Sh p (j + k) (mulL p x y) :=
  ⟨NL.mul hp hy.n (by have := hx.s; have := hy.s; omega), by have := mulL_le p x y; have := hx.s; have := hy.s; omega⟩
theorem Sh.add {p : Int} {j k : Nat} {x y : L} (hp : md p) (hx : Sh p j x) (hy : Sh p k y) : Sh p (max j k) (addL p x y) :=
  ⟨NL.add hp hx.n hy.n, by have : (addL p x y).1 ≤ max x.1 y.1 := tl_le _ _; have := hx.s; have := hy.s; omega⟩
theorem Sh.dv {p : Int} {k : Nat} {x : L} (hp : md p) (hx : Sh p k x) : Sh p k (dvL p x) :=
  ⟨hx.n.dv hp, by have : (dvL p x).1 ≤ x.1 - 1 := tl_le _ _; have := hx.s; omega⟩
section
variable {p : Int} {j k : Nat} {x y f g : L}
theorem Add_S (hp : md p) (ex : nfL p x = f) (ey : nfL p y = g) (hx : x.1 ≤ 1024) (hy : y.1 ≤ 1024) : FnOK Try.prog false 22 [.c (.int .i64 p), cl x, cl y] (.t2 (cl (addL p f g)) (.c (.int .i64 0))) := by
  subst ex ey; exact Add_L hp (by omega) (by omega)
theorem Mul_S (hp : md p) (ex : nfL p x = f) (ey : nfL p y = g) (hx : x.1 ≤ 1024) (hy : y.1 ≤ 1024) : FnOK Try.prog false 14 [.c (.int .i64 p), cl x, cl y] (.t2 (cl (mulL p f g)) (.c (.int .i64 0))) := by
  subst ex ey; exact Mul_L hp hx hy
theorem Derivative_S (hp : md p) (ex : nfL p x = f) (hx : x.1 ≤ 1024) : FnOK Try.prog false 24 [.c (.int .i64 p), cl x] (.t2 (cl (dvL p f)) (.c (.int .i64 0))) := by
  subst ex; exact Derivative_L hp (by omega)
theorem Eval_S {v : Int} (hp : md p) (ex : nfL p x = f) (hx : x.1 ≤ 1024) : FnOK Try.prog false 23 [.c (.int .i64 p), cl x, .c (.int .i64 v)] (.t2 (.c (.int .i64 (hv p (v % p) f.2 f.1 f.1))) (.c (.int .i64 0))) := by
  subst ex; exact Eval_L hp (by omega)
end
open Classical in
set_option maxRecDepth 100000 in
set_option maxHeartbeats 16000000 in
theorem ring_ok {p x : Int} {n m l q : Nat} {a c h d : Nat → Int} {s : Bool} : FnOK Try.prog false 5 [PQ p n m l q a c h d s x] (.c (.bool true)) := by
  refine fn_ok (E := E0) E0_ok Try.func5 rfl mixed (by kernel_rfl) (by kernel_rfl) ?_
  conv => whnf
  refine ⟨_, awake_ok, ?_⟩
  conv => whnf
  refine ⟨_, long_pq, ?_⟩
  conv => whnf
  refine bcase (fun h1 => ?_) fun h1 => ?_
  · conv => whnf
    refine ⟨_, refModulus_ok, ?_⟩
    conv => whnf
    have h1 := of_decide_eq_false (gwf h1)
    by_cases hp : md p
    · refine bneg (show (!decide (md p)) = false by simpa using hp) ?_
      have hp0 : 0 < p := by have := hp.1; omega
      have sF : Sh p 60 (nfL p (n, a)) := ⟨NL.nfL hp (by show n ≤ 4096; omega), by have : (nfL p (n, a)).1 ≤ n := nfL_le p (n, a); omega⟩
      have sG : Sh p 60 (nfL p (m, c)) := ⟨NL.nfL hp (by show m ≤ 4096; omega), by have : (nfL p (m, c)).1 ≤ m := nfL_le p (m, c); omega⟩
      have sH : Sh p 60 (nfL p (l, h)) := ⟨NL.nfL hp (by show l ≤ 4096; omega), by have : (nfL p (l, h)).1 ≤ l := nfL_le p (l, h); omega⟩
      have hn : (show L from (n, a)).1 ≤ 1024 := by show n ≤ 1024; omega
      have hm : (show L from (m, c)).1 ≤ 1024 := by show m ≤ 1024; omega
      have hl : (show L from (l, h)).1 ≤ 1024 := by show l ≤ 1024; omega
      have sA := sG.add hp sH
      have sB := sF.mul hp sG (by decide)
      have sC := sH.mul hp sF (by decide)
      have sE := sF.dv hp
      have sI := sG.dv hp
      have sJ := sE.mul hp sG (by decide)
      have sK := sF.mul hp sI (by decide)
      have sM := sB.add hp sC
      have sN := sJ.add hp sK
      have k1 := Add_S (x := (m, c)) (y := (l, h)) hp rfl rfl hm hl
      have k2 := Mul_S (x := (n, a)) (y := addL p (nfL p (m, c)) (nfL p (l, h))) hp rfl (nfL_self sA.n) hn (by have := sA.s; omega)
      rw [distrib hp sF.n sG.n sH.n (by have := sF.s; omega) (by have := sG.s; omega) (by have := sH.s; omega)] at k2
      have k3 := Mul_S (x := (n, a)) (y := (m, c)) hp rfl rfl hn hm
      have k4 := Mul_S (x := (l, h)) (y := (n, a)) hp rfl rfl hl hn
      have k5 := Add_S (x := mulL p (nfL p (n, a)) (nfL p (m, c))) (y := mulL p (nfL p (l, h)) (nfL p (n, a))) hp (nfL_self sB.n) (nfL_self sC.n) (by have := sB.s; omega) (by have := sC.s; omega)
      have k6 := Eval_S (x := (n, a)) (v := x) hp rfl hn
      have k7 := Eval_S (x := (m, c)) (v := x) hp rfl hm
      have k8 := Eval_S (x := mulL p (nfL p (n, a)) (nfL p (m, c))) (v := x) hp (nfL_self sB.n) (by have := sB.s; omega)
      have k9 := Derivative_S (x := (n, a)) hp rfl hn
      have k10 := Derivative_S (x := (m, c)) hp rfl hm
      have k11 := Derivative_S (x := mulL p (nfL p (n, a)) (nfL p (m, c))) hp (nfL_self sB.n) (by have := sB.s; omega)
      rw [leibniz hp sF.n sG.n (by have := sF.s; omega) (by have := sG.s; omega)] at k11
      have k12 := Mul_S (x := dvL p (nfL p (n, a))) (y := (m, c)) hp (nfL_self sE.n) rfl (by have := sE.s; omega) hm
      have k13 := Mul_S (x := (n, a)) (y := dvL p (nfL p (m, c))) hp rfl (nfL_self sI.n) hn (by have := sI.s; omega)
      have k14 := Add_S (x := mulL p (dvL p (nfL p (n, a))) (nfL p (m, c))) (y := mulL p (nfL p (n, a)) (dvL p (nfL p (m, c)))) hp (nfL_self sJ.n) (nfL_self sK.n) (by have := sJ.s; omega) (by have := sK.s; omega)
      have i1 := ints_L (x := addL p (mulL p (nfL p (n, a)) (nfL p (m, c))) (mulL p (nfL p (l, h)) (nfL p (n, a)))) (by have := sM.s; omega)
      have i2 := ints_L (x := addL p (mulL p (dvL p (nfL p (n, a))) (nfL p (m, c))) (mulL p (nfL p (n, a)) (dvL p (nfL p (m, c))))) (by have := sN.s; omega)
      have e1 := eval_mul (y := x % p) hp sF.n sG.n (by have := sF.s; omega) (by have := sG.s; omega)
      have r1 := hv_range (p := p) (y := x % p) (F := (nfL p (n, a)).2) (n := (nfL p (n, a)).1) hp0 (nfL p (n, a)).1
      have r2 := hv_range (p := p) (y := x % p) (F := (nfL p (m, c)).2) (n := (nfL p (m, c)).1) hp0 (nfL p (m, c)).1
      have r3 := mul_bounds hp.2.1 r1 r2
      conv => whnf
      refine ⟨_, k1, ?_⟩
      conv => whnf
      refine ⟨_, k2, ?_⟩
      conv => whnf
      refine ⟨_, k3, ?_⟩
      conv => whnf
      refine ⟨_, k4, ?_⟩
      conv => whnf
      refine ⟨_, k5, ?_⟩
      conv => whnf
      refine ⟨_, k6, ?_⟩
      conv => whnf
      refine ⟨_, k7, ?_⟩
      conv => whnf
      refine ⟨_, k8, ?_⟩
      conv => whnf
      refine ⟨_, k9, ?_⟩
      conv => whnf
      refine ⟨_, k10, ?_⟩
      conv => whnf
      refine ⟨_, k11, ?_⟩
      conv => whnf
      refine ⟨_, k12, ?_⟩
      conv => whnf
      refine ⟨_, k13, ?_⟩
      conv => whnf
      refine ⟨_, k14, ?_⟩
      conv => whnf
      refine ⟨_, i1, ?_⟩
      conv => whnf
      refine ⟨i64 (by omega) (by omega), ?_⟩
      conv => whnf
      refine ⟨by omega, ?_⟩
      conv => whnf
      refine bpos (show decide (Int.tmod (hv p (x % p) (nfL p (n, a)).2 (nfL p (n, a)).1 (nfL p (n, a)).1 * hv p (x % p) (nfL p (m, c)).2 (nfL p (m, c)).1 (nfL p (m, c)).1) p = hv p (x % p) (mulL p (nfL p (n, a)) (nfL p (m, c))).2 (mulL p (nfL p (n, a)) (nfL p (m, c))).1 (mulL p (nfL p (n, a)) (nfL p (m, c))).1) = true from decide_eq_true ((rem_eq r3.1).trans e1)) ?_
      conv => whnf
      refine ⟨_, i2, ?_⟩
      conv => whnf
      exact ⟨rfl, Sub.refl _⟩
    · refine bpos (show (!decide (md p)) = true by simpa using hp) ?_
      conv => whnf
      exact ⟨rfl, Sub.refl _⟩
  · conv => whnf
    exact ⟨rfl, Sub.refl _⟩
end Fp
end Go.Proofs.Ytmfaipklhkgieaa
