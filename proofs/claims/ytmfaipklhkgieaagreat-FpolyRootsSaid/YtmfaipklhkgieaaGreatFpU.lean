/- Operations on lists in normal form, on both sides the same. -/
import Derived.Test.YtmfaipklhkgieaaGreatFpT
namespace Go.Proofs.YtmfaipklhkgieaaGreat
open Go.RowKit
namespace Fp
/-- A list with its length. -/
abbrev L := Nat × (Nat → Int)
abbrev cl (x : L) : V := .c (il x.1 x.2)
abbrev NL (p : Int) (x : L) : Prop := Nm p x.1 x.2
noncomputable abbrev mulL (p : Int) (x y : L) : L := (tl (pr p x.2 y.2 x.1) (x.1 + y.1 - 1), pr p x.2 y.2 x.1)
noncomputable abbrev subL (p : Int) (x y : L) : L := (tl (sm p (p - 1) x.2 y.2) (max x.1 y.1), sm p (p - 1) x.2 y.2)
noncomputable abbrev addL (p : Int) (x y : L) : L := (tl (sm p 1 x.2 y.2) (max x.1 y.1), sm p 1 x.2 y.2)
noncomputable abbrev scL (p k : Int) (x : L) : L := (tl (sc p k x.2) x.1, sc p k x.2)
noncomputable abbrev quoL (p : Int) (x y : L) : L := (x.1 + 1 - y.1, qt p x.1 y.1 x.2 y.2)
noncomputable abbrev rstL (p : Int) (x y : L) : L := (tl (rs p x.1 y.1 x.2 y.2) x.1, rs p x.1 y.1 x.2 y.2)
theorem NL.mul {p : Int} {x y : L} (hp : md p) (hy : NL p y) (hs : x.1 + y.1 ≤ 4096) : NL p (mulL p x y) := Nm.mul (by have := hp.1; omega) hy hs
theorem NL.sub {p : Int} {x y : L} (hp : md p) (hx : NL p x) (hy : NL p y) : NL p (subL p x y) := Nm.add (by have := hp.1; omega) hx hy
theorem NL.add {p : Int} {x y : L} (hp : md p) (hx : NL p x) (hy : NL p y) : NL p (addL p x y) := Nm.add (by have := hp.1; omega) hx hy
theorem NL.sc {p k : Int} {x : L} (hp : md p) (hx : NL p x) : NL p (scL p k x) := Nm.sc (by have := hp.1; omega) hx
theorem NL.quo {p : Int} {x y : L} (hp : md p) (hx : NL p x) (hy : NL p y) (h0 : 0 < y.1) : NL p (quoL p x y) := Nm.quo hp hx hy h0
theorem NL.rst {p : Int} {x y : L} (hp : md p) (hx : NL p x) (hy : NL p y) (h0 : 0 < y.1) : NL p (rstL p x y) ∧ (rstL p x y).1 < y.1 := Nm.rest hp hx hy h0
theorem NL.self {p : Int} {x : L} (hx : NL p x) : Fp.nf p x.1 x.2 = x.2 := nf_self hx.r hx.z
theorem mulL_le (p : Int) (x y : L) : (mulL p x y).1 ≤ x.1 + y.1 - 1 := tl_le _ _
theorem subL_le (p : Int) (x y : L) : (subL p x y).1 ≤ max x.1 y.1 := tl_le _ _
theorem scL_le (p k : Int) (x : L) : (scL p k x).1 ≤ x.1 := tl_le _ _
theorem mulL_nil {p : Int} {x y : L} (hx : x.1 = 0 ∨ y.1 = 0) (hy : NL p y) : (mulL p x y).1 = 0 := by
  refine tl_zero fun i _ => ?_
  unfold pr
  rcases hx with h | h
  · rw [h]; exact Int.zero_emod p
  · rw [cv_zero fun j => hy.z j (by omega)]; exact Int.zero_emod p
-- the program's side
theorem times_L {p : Int} {x y : L} (hp : md p) (hx : NL p x) (hy : NL p y) (h1 : x.1 ≤ 1024) (h2 : y.1 ≤ 1024) : FnOK Tryz.prog false 44 [.c (.int .i64 p), cl x, cl y] (cl (mulL p x y)) := times_ok hp.1 hp.2.1 h1 h2 hx.r hy.r hy.z
theorem subs_L {p : Int} {x y : L} (hp : md p) (hx : NL p x) (hy : NL p y) : FnOK Tryz.prog false 31 [.c (.int .i64 p), cl x, cl y, .c (.int .i64 (p - 1))] (cl (subL p x y)) := combine_ok hp.1 hp.2.1 (by have := hp.1; omega) hx.n4 hy.n4 hx.r hy.r hx.z hy.z
theorem adds_L {p : Int} {x y : L} (hp : md p) (hx : NL p x) (hy : NL p y) : FnOK Tryz.prog false 31 [.c (.int .i64 p), cl x, cl y, .c (.int .i64 1)] (cl (addL p x y)) := combine_ok hp.1 hp.2.1 (by have := hp.1; omega) hx.n4 hy.n4 hx.r hy.r hx.z hy.z
theorem scale_L {p k : Int} {x : L} (hp : md p) (hx : NL p x) (hk : 0 ≤ k ∧ k < p) : FnOK Tryz.prog false 60 [.c (.int .i64 p), cl x, .c (.int .i64 k)] (cl (scL p k x)) := scale_ok hp.1 hp.2.1 hk hx.n4 hx.r hx.z
theorem divide_L {p : Int} {x y : L} (hp : md p) (hx : NL p x) (hy : NL p y) (h0 : 0 < y.1) : FnOK Tryz.prog false 49 [.c (.int .i64 p), cl x, cl y] (.t2 (cl (quoL p x y)) (cl (rstL p x y))) := divide_nm hp hx hy h0
-- the document's side
theorem refMul_L {p : Int} {x y : L} (hp : md p) (hx : NL p x) (hy : NL p y) (h1 : x.1 ≤ 1024) (h2 : y.1 ≤ 1024) : FnOK Tryz.prog false 30 [.c (.int .i64 p), cl x, cl y] (cl (mulL p x y)) := refMul_ok hp.1 hp.2.1 h1 h2 hx.self hy.self hx.t hy.t
theorem refSub_L {p : Int} {x y : L} (hp : md p) (hx : NL p x) (hy : NL p y) : FnOK Tryz.prog false 20 [.c (.int .i64 p), cl x, cl y] (cl (subL p x y)) := refSub_ok hp.1 hp.2.1 hx.n4 hy.n4 hx.self hy.self hx.t hy.t
theorem refAdd_L {p : Int} {x y : L} (hp : md p) (hx : NL p x) (hy : NL p y) : FnOK Tryz.prog false 15 [.c (.int .i64 p), cl x, cl y] (cl (addL p x y)) := refAdd_ok hp.1 hp.2.1 hx.n4 hy.n4 hx.self hy.self hx.t hy.t
theorem refScale_L {p k : Int} {x : L} (hp : md p) (hx : NL p x) : FnOK Tryz.prog false 38 [.c (.int .i64 p), .c (.int .i64 k), cl x] (cl (scL p k x)) := refScale_ok hp.1 hp.2.1 hx.n4 hx.self hx.t
theorem refDivide_L {p : Int} {x y : L} (hp : md p) (hx : NL p x) (hy : NL p y) (h0 : 0 < y.1) : FnOK Tryz.prog false 29 [.c (.int .i64 p), cl x, cl y] (.t2 (cl (quoL p x y)) (cl (rstL p x y))) := refDivide_nm hp hx hy h0
/-- Euclid's algorithm with the cofactors: r, s, u, next. -/
noncomputable def xg (p : Int) : Nat → L → L → L → L → L × L
  | 0, r, _, u, _ => (r, u)
  | t + 1, r, s, u, v => if s.1 = 0 then (r, u) else xg p t s (rstL p r s) v (subL p u (mulL p (quoL p r s) v))
theorem xg_zero {p : Int} {r s u v : L} (h : s.1 = 0) : ∀ t, xg p t r s u v = (r, u)
  | 0 => rfl
  | _ + 1 => if_pos h
/-- What stands at the head of the loop, m0 the length of the divisor at the start. -/
structure XI (p : Int) (m0 : Nat) (r s u v : L) : Prop where
  hr : NL p r
  hs : NL p s
  hu : NL p u
  hv : NL p v
  hm : r.1 ≤ 512
  hb : u.1 ≤ 1 ∧ v.1 = 0 ∧ s.1 ≤ m0 ∨ u.1 + r.1 ≤ m0 + 1 ∧ v.1 + r.1 ≤ m0 + 1 ∧ s.1 < r.1
theorem XI.step {p : Int} {m0 : Nat} {r s u v : L} (hp : md p) (h : XI p m0 r s u v) (h0 : 0 < s.1) (hm0 : m0 ≤ 512) : XI p m0 s (rstL p r s) v (subL p u (mulL p (quoL p r s) v)) ∧ (rstL p r s).1 < s.1 := by
  obtain ⟨h1, h2⟩ := h.hr.rst hp h.hs h0
  have hq := h.hr.quo hp h.hs h0
  have e := mulL_le p (quoL p r s) v
  have e2 := subL_le p u (mulL p (quoL p r s) v)
  have e3 : v.1 = 0 → (mulL p (quoL p r s) v).1 = 0 := fun h0 => mulL_nil (.inr h0) h.hv
  have e4 : (quoL p r s).1 = 0 → (mulL p (quoL p r s) v).1 = 0 := fun h0 => mulL_nil (.inl h0) h.hv
  have e5 : (quoL p r s).1 = r.1 + 1 - s.1 := rfl
  have hb := h.hb
  have hm := h.hm
  have hv : v.1 ≤ 600 := by omega
  have hm1 : NL p (mulL p (quoL p r s) v) := NL.mul hp h.hv (by omega)
  refine ⟨⟨h.hs, h1, h.hv, h.hu.sub hp hm1, by omega, ?_⟩, h2⟩
  generalize (mulL p (quoL p r s) v).1 = k at *
  generalize (subL p u (mulL p (quoL p r s) v)).1 = k2 at *
  generalize (quoL p r s).1 = k3 at *
  generalize (rstL p r s).1 = k4 at *
  generalize r.1 = k5 at *
  generalize s.1 = k6 at *
  generalize u.1 = k7 at *
  generalize v.1 = k8 at *
  omega
end Fp
end Go.Proofs.YtmfaipklhkgieaaGreat
