/- Xgcd of the program. -/
import Derived.Test.YtmfaipklhkgieaaGreatFpX
namespace Go.Proofs.YtmfaipklhkgieaaGreat
open Go.RowKit
namespace Fp
noncomputable abbrev nfL (p : Int) (x : L) : L := (tl (nf p x.1 x.2) x.1, nf p x.1 x.2)
theorem NL.nfL {p : Int} {x : L} (hp : md p) (h : x.1 ≤ 4096) : NL p (nfL p x) := Nm.nf (by have := hp.1; omega) h
theorem nfL_le (p : Int) (x : L) : (nfL p x).1 ≤ x.1 := tl_le _ _
theorem normal_L {p : Int} {x : L} (hp : md p) (h : x.1 ≤ 4096) : FnOK Tryz.prog false 24 [.c (.int .i64 p), cl x] (cl (nfL p x)) := normal_ok (by have := hp.1; omega) hp.2.1 (by omega)
theorem inverse_L {p : Int} {x : L} {k : Nat} (hp : md p) (hx : NL p x) (h0 : 0 < x.1) (hk : k = x.1 - 1) : FnOK Tryz.prog false 61 [.c (.int .i64 (x.2 k)), .c (.int .i64 p)] (.c (.int .i64 (inv (x.2 (x.1 - 1)) p))) := by
  subst hk
  have h2 := hx.r (x.1 - 1)
  have := hx.l h0
  exact inverse_ok hp (by rw [Int.emod_eq_of_lt h2.1 h2.2]; omega)
-- g is nothing
noncomputable abbrev moL (p : Int) (x : L) : L := scL p (inv (x.2 (x.1 - 1)) p) x
noncomputable abbrev con (c : Int) : L := (1, fun i => if i = 0 then c else 0)
theorem monic_L {p : Int} {x : L} (hp : md p) (hx : NL p x) : FnOK Tryz.prog false 40 [.c (.int .i64 p), cl x] (cl (moL p x)) := monic_ok hp hx.n4 hx.r hx.z hx.l
theorem subT4 {a b c d a' b' c' d' : V} (h1 : Sub a a') (h2 : Sub b b') (h3 : Sub c c') (h4 : Sub d d') : Sub (.t4 a b c d) (.t4 a' b' c' d') := by
  rintro D w v ⟨x, y, z, u, rfl, hx, hy, hz, hu⟩
  exact ⟨x, y, z, u, rfl, h1 D w x hx, h2 D w y hy, h3 D w z hz, h4 D w u hu⟩
end Fp
end Go.Proofs.YtmfaipklhkgieaaGreat
