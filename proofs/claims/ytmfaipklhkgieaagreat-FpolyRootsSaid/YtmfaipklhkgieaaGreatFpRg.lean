/- Ring axioms, evaluation, Leibniz's rule, plain. -/
import Derived.Test.YtmfaipklhkgieaaGreatFpOps
namespace Go.Proofs.YtmfaipklhkgieaaGreat
open Go.RowKit
namespace Fp
theorem nfL_self {p : Int} {x : L} (hx : NL p x) : nfL p x = x := by
  show (tl (nf p x.1 x.2) x.1, nf p x.1 x.2) = x
  rw [hx.self, hx.t]
theorem distrib {p : Int} {f g h : L} (hp : md p) (hf : NL p f) (hg : NL p g) (hh : NL p h) (h1 : f.1 ≤ 1024) (h2 : g.1 ≤ 1024) (h3 : h.1 ≤ 1024) : mulL p f (addL p g h) = addL p (mulL p f g) (mulL p h f) := by
  have ha : NL p (addL p g h) := NL.add hp hg hh
  have hal : (addL p g h).1 ≤ max g.1 h.1 := tl_le _ _
  have hm1 : NL p (mulL p f g) := NL.mul hp hg (by omega)
  have hm2 : NL p (mulL p h f) := NL.mul hp hf (by omega)
  refine Nm.eq (NL.mul hp ha (by omega)) (NL.add hp hm1 hm2) ?_
  refine (pr_cf hf).trans (((Cg.refl f.2).cf (add_cg g h)).trans (Cg.trans ?_ ((add_cg _ _).trans ((pr_cf hf).add (pr_cf hh))).symm))
  intro k
  rw [cf_add]
  show _ = (cf f.2 g.2 k + cf h.2 f.2 k) % p
  rw [cf_comm h.2]
/-- The value at a place. -/
def pe (y : Int) (F : Nat → Int) (n : Nat) : Int := su (fun i => F i * y ^ i) n
theorem hv_mod {p y : Int} {F : Nat → Int} {n : Nat} : ∀ {t : Nat}, t ≤ n → hv p y F n t % p = su (fun i => F (n - t + i) * y ^ i) t % p
  | 0, _ => rfl
  | t + 1, ht => by
    show ((hv p y F n t * y + F (n - 1 - t)) % p) % p = _
    rw [Int.emod_emod, su_head]
    show _ = (F (n - (t + 1) + 0) * y ^ 0 + su (fun i => F (n - (t + 1) + (i + 1)) * y ^ (i + 1)) t) % p
    have e : su (fun i => F (n - (t + 1) + (i + 1)) * y ^ (i + 1)) t = y * su (fun i => F (n - t + i) * y ^ i) t := by
      rw [← su_mul]
      refine su_congr fun i _ => ?_
      show F (n - (t + 1) + (i + 1)) * y ^ (i + 1) = y * (F (n - t + i) * y ^ i)
      rw [show n - (t + 1) + (i + 1) = n - t + i by omega, Int.pow_succ]
      grind
    rw [e, Nat.add_zero, Int.pow_zero, Int.mul_one, show n - (t + 1) = n - 1 - t by omega]
    obtain ⟨z, hz⟩ := of_mod (hv_mod (p := p) (y := y) (F := F) (n := n) (t := t) (by omega))
    refine mod_of (y * z) ?_
    rw [hz]
    grind
theorem hv_pe {p y : Int} {F : Nat → Int} {n : Nat} (hp : 0 < p) : hv p y F n n = pe y F n % p := by
  have h := hv_mod (p := p) (y := y) (F := F) (Nat.le_refl n)
  rw [Int.emod_eq_of_lt (hv_range hp n).1 (hv_range hp n).2] at h
  rw [h]
  unfold pe
  rw [su_congr (g := fun i => F i * y ^ i) fun i _ => by
    show F (n - n + i) * y ^ i = _
    rw [Nat.sub_self, Nat.zero_add]]
theorem pe_more {y : Int} {F : Nat → Int} {n m : Nat} (hz : ∀ j, n ≤ j → F j = 0) (h : n ≤ m) : pe y F m = pe y F n :=
  su_more (fun i hi => by rw [hz i hi, Int.zero_mul]) h
theorem pe_cf {y : Int} {F G : Nat → Int} {n m : Nat} (hF : ∀ j, n ≤ j → F j = 0) (hG : ∀ j, m ≤ j → G j = 0) : pe y (cf F G) (n + m) = pe y F n * pe y G m := by
  have e : pe y (cf F G) (n + m) = su (fun k => su (fun i => (fun j l => (F j * y ^ j) * (G l * y ^ l)) i (k - i)) (k + 1)) (n + m) := by
    refine su_congr fun k _ => ?_
    show su (fun i => F i * G (k - i)) (k + 1) * y ^ k = _
    rw [Int.mul_comm, ← su_mul]
    refine su_congr fun i hi => ?_
    show y ^ k * (F i * G (k - i)) = (F i * y ^ i) * (G (k - i) * y ^ (k - i))
    rw [show k = i + (k - i) by omega, Int.pow_add, show i + (k - i) - i = k - i by omega]
    grind
  rw [e, su_tri (f := fun j l => (F j * y ^ j) * (G l * y ^ l))]
  have e2 : su (fun j => su (fun l => (fun j l => (F j * y ^ j) * (G l * y ^ l)) j l) (n + m - j)) (n + m) = su (fun j => pe y G m * (F j * y ^ j)) (n + m) := by
    refine su_congr fun j hj => ?_
    show su (fun l => (F j * y ^ j) * (G l * y ^ l)) (n + m - j) = _
    rw [su_mul, Int.mul_comm]
    rcases Nat.lt_or_ge j n with h | h
    · rw [show su (fun l => G l * y ^ l) (n + m - j) = pe y G m from pe_more hG (by omega)]
    · rw [hF j h, Int.zero_mul, Int.mul_zero, Int.mul_zero]
  rw [e2, su_mul, Int.mul_comm, show su (fun j => F j * y ^ j) (n + m) = pe y F n from pe_more hF (by omega)]
theorem eval_mul {p y : Int} {f g : L} (hp : md p) (hf : NL p f) (hg : NL p g) (h1 : f.1 ≤ 1024) (h2 : g.1 ≤ 1024) : (hv p y f.2 f.1 f.1 * hv p y g.2 g.1 g.1) % p = hv p y (mulL p f g).2 (mulL p f g).1 (mulL p f g).1 := by
  have hp0 : 0 < p := by have := hp.1; omega
  have hm : NL p (mulL p f g) := NL.mul hp hg (by omega)
  rw [hv_pe hp0, hv_pe hp0, hv_pe hp0, ← Int.mul_emod, ← pe_cf hf.z hg.z, ← pe_more hm.z (Nat.le_trans (mulL_le p f g) (show f.1 + g.1 - 1 ≤ f.1 + g.1 by omega))]
  refine su_mod fun i _ => ?_
  rw [Int.mul_emod, ← pr_cf hf i, ← Int.mul_emod]
-- the derivative
theorem dv_cg {p : Int} {x : L} : Cg p (dvL p x).2 fun i => ((i + 1 : Nat) : Int) * x.2 (i + 1) := fun i => by
  show (((i + 1 : Nat) : Int) % p * x.2 (i + 1)) % p % p = (((i + 1 : Nat) : Int) * x.2 (i + 1)) % p
  rw [Int.emod_emod, Int.mul_emod, Int.emod_emod, ← Int.mul_emod]
theorem NL.dv {p : Int} {x : L} (hp : md p) (hx : NL p x) : NL p (dvL p x) := by
  have hp0 : 0 < p := by have := hp.1; omega
  refine ⟨?_, fun i => ⟨Int.emod_nonneg _ (by omega), Int.emod_lt_of_pos _ hp0⟩, tl_behind fun i hi => ?_, tl_tl _ _⟩
  · have : tl (Fp.dv p x.2) (x.1 - 1) ≤ x.1 - 1 := tl_le _ _
    have := hx.n4
    show tl (Fp.dv p x.2) (x.1 - 1) ≤ 4096
    omega
  · show (((i + 1 : Nat) : Int) % p * x.2 (i + 1)) % p = 0
    rw [hx.z (i + 1) (by omega), Int.mul_zero]
    exact Int.zero_emod p
theorem cf_leib (F G : Nat → Int) (k : Nat) : ((k + 1 : Nat) : Int) * cf F G (k + 1) = cf (fun i => ((i + 1 : Nat) : Int) * F (i + 1)) G k + cf F (fun i => ((i + 1 : Nat) : Int) * G (i + 1)) k := by
  have e1 : cf (fun i => ((i + 1 : Nat) : Int) * F (i + 1)) G k = su (fun i => (i : Int) * (F i * G (k + 1 - i))) (k + 2) := by
    rw [su_head]
    show su (fun i => ((i + 1 : Nat) : Int) * F (i + 1) * G (k - i)) (k + 1) = ((0 : Nat) : Int) * _ + su (fun i => ((i + 1 : Nat) : Int) * (F (i + 1) * G (k + 1 - (i + 1)))) (k + 1)
    rw [show ((0 : Nat) : Int) = 0 from rfl, Int.zero_mul, Int.zero_add]
    refine su_congr fun i hi => ?_
    show ((i + 1 : Nat) : Int) * F (i + 1) * G (k - i) = ((i + 1 : Nat) : Int) * (F (i + 1) * G (k + 1 - (i + 1)))
    rw [show k + 1 - (i + 1) = k - i by omega, Int.mul_assoc]
  have e2 : cf F (fun i => ((i + 1 : Nat) : Int) * G (i + 1)) k = su (fun i => ((k + 1 - i : Nat) : Int) * (F i * G (k + 1 - i))) (k + 2) := by
    show su (fun i => F i * (((k - i + 1 : Nat) : Int) * G (k - i + 1))) (k + 1) = su (fun i => ((k + 1 - i : Nat) : Int) * (F i * G (k + 1 - i))) (k + 1) + ((k + 1 - (k + 1) : Nat) : Int) * _
    rw [Nat.sub_self, show ((0 : Nat) : Int) = 0 from rfl, Int.zero_mul, Int.add_zero]
    refine su_congr fun i hi => ?_
    show F i * (((k - i + 1 : Nat) : Int) * G (k - i + 1)) = ((k + 1 - i : Nat) : Int) * (F i * G (k + 1 - i))
    rw [show k + 1 - i = k - i + 1 by omega]
    grind
  rw [e1, e2, ← su_add]
  unfold cf
  rw [← su_mul]
  refine su_congr fun i hi => ?_
  show ((k + 1 : Nat) : Int) * (F i * G (k + 1 - i)) = (i : Int) * (F i * G (k + 1 - i)) + ((k + 1 - i : Nat) : Int) * (F i * G (k + 1 - i))
  rw [← Int.add_mul, show ((k + 1 : Nat) : Int) = (i : Int) + ((k + 1 - i : Nat) : Int) by omega]
theorem leibniz {p : Int} {f g : L} (hp : md p) (hf : NL p f) (hg : NL p g) (h1 : f.1 ≤ 1024) (h2 : g.1 ≤ 1024) : dvL p (mulL p f g) = addL p (mulL p (dvL p f) g) (mulL p f (dvL p g)) := by
  have hm : NL p (mulL p f g) := NL.mul hp hg (by omega)
  have hdf := hf.dv hp
  have hdg := hg.dv hp
  have e1 : (dvL p f).1 ≤ f.1 - 1 := tl_le _ _
  have e2 : (dvL p g).1 ≤ g.1 - 1 := tl_le _ _
  have hm1 : NL p (mulL p (dvL p f) g) := NL.mul hp hg (by omega)
  have hm2 : NL p (mulL p f (dvL p g)) := NL.mul hp hdg (by omega)
  refine Nm.eq (hm.dv hp) (NL.add hp hm1 hm2) (dv_cg.trans (Cg.trans ?_ ((add_cg _ _).trans (((pr_cf hdf).trans (dv_cg.cf (Cg.refl _))).add ((pr_cf hf).trans ((Cg.refl _).cf dv_cg)))).symm))
  intro k
  show (((k + 1 : Nat) : Int) * (mulL p f g).2 (k + 1)) % p = (cf (fun i => ((i + 1 : Nat) : Int) * f.2 (i + 1)) g.2 k + cf f.2 (fun i => ((i + 1 : Nat) : Int) * g.2 (i + 1)) k) % p
  rw [← cf_leib, Int.mul_emod, pr_cf hf (k + 1), ← Int.mul_emod]
end Fp
end Go.Proofs.YtmfaipklhkgieaaGreat
