/- The law FpolyBezout, as a contract. -/
import Derived.Test.YtmfaipklhkgieaaFpZ
import Derived.Test.YtmfaipklhkgieaaFpL
namespace Go.Proofs.Ytmfaipklhkgieaa
open Go.RowKit
namespace Fp
theorem gc_xg {p : Int} : ∀ (t : Nat) {r s u v : L}, gc p t r.1 r.2 s.1 s.2 = (xg p t r s u v).1
  | 0, _, _, _, _ => rfl
  | t + 1, r, s, u, v => by
    show (if s.1 = 0 then (r.1, r.2) else gc p t s.1 s.2 (rstL p r s).1 (rstL p r s).2) = (if s.1 = 0 then (r, u) else xg p t s (rstL p r s) v (subL p u (mulL p (quoL p r s) v))).1
    by_cases h : s.1 = 0
    · rw [if_pos h, if_pos h]
    · rw [if_neg h, if_neg h]
      exact gc_xg t
noncomputable abbrev gcdL (p : Int) (f g : L) : L := moL p (xgr p f g).1
theorem Gcd_L {p : Int} {x y f g : L} (hp : md p) (hx : x.1 ≤ 512) (hy : y.1 ≤ 512) (ef : nfL p x = f) (eg : nfL p y = g) : FnOK Try.prog false 16 [.c (.int .i64 p), cl x, cl y] (.t2 (cl (gcdL p f g)) (.c (.int .i64 0))) := by
  subst ef eg
  have h := Gcd_ok (a := x.2) (c := y.2) hp (show x.1 ≤ 4096 by omega) (show y.1 ≤ 4096 by omega)
  have e := gc_xg (p := p) (nfL p y).1 (r := nfL p x) (s := nfL p y) (u := one1) (v := nil0)
  have e : gc p (tl (nf p y.1 y.2) y.1) (tl (nf p x.1 x.2) x.1) (nf p x.1 x.2) (tl (nf p y.1 y.2) y.1) (nf p y.1 y.2) = (xgr p (nfL p x) (nfL p y)).1 := e
  rw [e] at h
  exact h
theorem refGcd_L {p : Int} {x y f g : L} (hp : md p) (hx : x.1 ≤ 512) (hy : y.1 ≤ 512) (ef : nfL p x = f) (eg : nfL p y = g) : FnOK Try.prog false 19 [.c (.int .i64 p), cl x, cl y] (cl (gcdL p f g)) := by
  subst ef eg
  have h := refGcd_ok (a := x.2) (c := y.2) hp (show x.1 ≤ 4096 by omega) (show y.1 ≤ 4096 by omega) rfl rfl rfl rfl
  have e := gc_xg (p := p) (nfL p y).1 (r := nfL p x) (s := nfL p y) (u := one1) (v := nil0)
  have e : gc p (tl (nf p y.1 y.2) y.1) (tl (nf p x.1 x.2) x.1) (nf p x.1 x.2) (tl (nf p y.1 y.2) y.1) (nf p y.1 y.2) = (xgr p (nfL p x) (nfL p y)).1 := e
  rw [e] at h
  exact h
theorem NL.con {p c : Int} (hp : md p) (h0 : c ≠ 0) (hc : 0 ≤ c ∧ c < p) : NL p (con c) := ⟨by show 1 ≤ 4096; omega, fun i => by
  show 0 ≤ (if i = 0 then c else 0) ∧ (if i = 0 then c else 0) < p
  have := hp.1
  split <;> omega, fun j hj => if_neg (by have hj : 1 ≤ j := hj; omega), by
  show (if (if 0 = 0 then c else 0) = 0 then 0 else 1) = 1
  rw [if_pos rfl, if_neg h0]⟩
/-- Both sides give the same, and the identity holds. -/
theorem bez_all {p : Int} {x y f g : L} (hp : md p) (hx : x.1 ≤ 256) (hy : y.1 ≤ 256) (ef : nfL p x = f) (eg : nfL p y = g) : ∃ u v : L, NL p u ∧ NL p v ∧ u.1 ≤ 512 ∧ v.1 ≤ 1024 ∧ NL p (gcdL p f g) ∧
    FnOK Try.prog false 17 [.c (.int .i64 p), cl x, cl y] (.t4 (cl (gcdL p f g)) (cl u) (cl v) (.c (.int .i64 0))) ∧
    FnOK Try.prog false 18 [.c (.int .i64 p), cl x, cl y] (.t3 (cl (gcdL p f g)) (cl u) (cl v)) ∧ addL p (mulL p u f) (mulL p v g) = gcdL p f g := by
  have hf : NL p f := by rw [← ef]; exact NL.nfL hp (by omega)
  have hg : NL p g := by rw [← eg]; exact NL.nfL hp (by omega)
  have hfl : f.1 ≤ 256 := by rw [← ef]; have := nfL_le p x; omega
  have hgl : g.1 ≤ 256 := by rw [← eg]; have := nfL_le p y; omega
  rcases Nat.eq_zero_or_pos g.1 with h0 | h0
  · have exg : (xgr p f g).1 = f := by
      show (xg p g.1 f g one1 nil0).1 = f
      rw [xg_zero h0]
    have eN : gcdL p f g = moL p f := by
      show moL p (xgr p f g).1 = _
      rw [exg]
    have hmo : NL p (moL p f) := NL.sc hp hf
    rw [eN]
    rcases Nat.eq_zero_or_pos f.1 with h1 | h1
    · have e0 : moL p f = nil0 := Nm.eq hmo (NL.nil hp) fun k => by
        rw [hmo.z k (Nat.le_trans (scL_le p (inv (f.2 (f.1 - 1)) p) f) (by omega))]
      rw [e0]
      refine ⟨nil0, nil0, NL.nil hp, NL.nil hp, by show 0 ≤ 512; omega, by show 0 ≤ 1024; omega, NL.nil hp, xgcd_none hp (by omega) (by omega) ef eg h0 h1, refXgcd_none hp (by omega) (by omega) ef eg h0 h1, ?_⟩
      have ha : NL p (mulL p nil0 f) := NL.mul hp hf (by show 0 + f.1 ≤ 4096; omega)
      have hb : NL p (mulL p nil0 g) := NL.mul hp hg (by show 0 + g.1 ≤ 4096; omega)
      refine Nm.eq (ha.add hp hb) (NL.nil hp) ((add_cg _ _).trans (((pr_cf (NL.nil hp)).add (pr_cf (NL.nil hp))).trans fun k => ?_))
      show (cf (fun _ => 0) f.2 k + cf (fun _ => 0) g.2 k) % p = 0 % p
      rw [cf_nil, cf_nil]
      rfl
    · have hb := inv_range (c := f.2 (f.1 - 1)) (p := p) (by have := hp.1; omega)
      have hl := hf.l h1
      have hr := hf.r (f.1 - 1)
      have hi : (inv (f.2 (f.1 - 1)) p * f.2 (f.1 - 1)) % p = 1 := inv_spec hp (by rw [Int.emod_eq_of_lt hr.1 hr.2]; omega)
      have hi0 : inv (f.2 (f.1 - 1)) p ≠ 0 := fun h => by rw [h, Int.zero_mul, Int.zero_emod] at hi; exact absurd hi (by decide)
      have hc : NL p (con (inv (f.2 (f.1 - 1)) p)) := NL.con hp hi0 hb
      refine ⟨con (inv (f.2 (f.1 - 1)) p), nil0, hc, NL.nil hp, by show 1 ≤ 512; omega, by show 0 ≤ 1024; omega, hmo, xgcd_one hp (by omega) (by omega) ef eg h0 h1, refXgcd_one hp (by omega) (by omega) ef eg h0 h1, ?_⟩
      have ha : NL p (mulL p (con (inv (f.2 (f.1 - 1)) p)) f) := NL.mul hp hf (by show 1 + f.1 ≤ 4096; omega)
      have hb : NL p (mulL p nil0 g) := NL.mul hp hg (by show 0 + g.1 ≤ 4096; omega)
      refine Nm.eq (ha.add hp hb) hmo ((add_cg _ _).trans (((pr_cf hc).add (pr_cf (NL.nil hp))).trans (Cg.trans ?_ (sc_cg f).symm)))
      intro k
      show (cf (con (inv (f.2 (f.1 - 1)) p)).2 f.2 k + cf (fun _ => 0) g.2 k) % p = (inv (f.2 (f.1 - 1)) p * f.2 k) % p
      rw [cf_nil, show (con (inv (f.2 (f.1 - 1)) p)).2 = fun i => inv (f.2 (f.1 - 1)) p * oneF i from funext fun i => by
        show (if i = 0 then _ else 0) = inv (f.2 (f.1 - 1)) p * (if i = 0 then 1 else 0)
        split <;> simp, cf_smul, cf_one, Int.add_zero]
  · have X := xgs hp hf hg (by omega) (by omega) h0
    have h1 := X.ul
    have h2 := subL_le p (xgd p f g) (mulL p (xgu p f g) f)
    have h3 := mulL_le p (xgu p f g) f
    have h4 := X.per0
    have h5 : (xgper p f g).1 = g.1 + 1 - (xgd p f g).1 := rfl
    have h6 : (xgv p f g).1 = (subL p (xgd p f g) (mulL p (xgu p f g) f)).1 + 1 - g.1 := rfl
    refine ⟨xgu p f g, xgv p f g, X.u, X.v, by omega, by omega, X.d, xgcd_more hp (by omega) (by omega) ef eg h0, refXgcd_more hp (by omega) (by omega) ef eg h0, ?_⟩
    have ha : NL p (mulL p (xgu p f g) f) := NL.mul hp hf (by omega)
    have hb : NL p (mulL p (xgv p f g) g) := NL.mul hp hg (by omega)
    exact Nm.eq (ha.add hp hb) X.d ((add_cg _ _).trans (((pr_cf X.u).add (pr_cf X.v)).trans X.bez))
theorem refMul_Lx {p : Int} {u x f : L} (hp : md p) (hu : NL p u) (h1 : u.1 ≤ 1024) (h2 : x.1 ≤ 1024) (ef : nfL p x = f) : FnOK Try.prog false 21 [.c (.int .i64 p), cl u, cl x] (cl (mulL p u f)) := by
  subst ef
  exact refMul_ok hp.1 hp.2.1 h1 h2 hu.self rfl hu.t rfl
theorem ints_L {x : L} (h : x.1 ≤ 1048576) : FnOK Try.prog false 13 [cl x, cl x] (.c (.bool true)) := ints_true h ⟨rfl, fun _ _ => rfl⟩
open Classical in
set_option maxHeartbeats 8000000 in
theorem bezout_ok {p x : Int} {n m l q : Nat} {a c : Nat → Int} {s : Bool} : FnOK Try.prog false 4 [PP p n m l q a c s x] (.c (.bool true)) := by
  refine fn_ok (E := E0) E0_ok Try.func4 rfl mixed (by kernel_rfl) (by kernel_rfl) ?_
  conv => whnf
  refine ⟨_, awake_ok, ?_⟩
  conv => whnf
  refine ⟨_, long_ok, ?_⟩
  conv => whnf
  refine bcase (fun h1 => ?_) fun (h1 : decide (60 < n ∨ 60 < m ∨ 60 < l ∨ 4 < q) = false) => ?_
  · conv => whnf
    exact ⟨rfl, Sub.refl _⟩
  have h1 := of_decide_eq_false h1
  conv => whnf
  by_cases hp : md p
  · obtain ⟨u, v, hu, hv, hul, hvl, hd, hX, hR, he⟩ := bez_all (x := (n, a)) (y := (m, c)) hp (by show n ≤ 256; omega) (by show m ≤ 256; omega) rfl rfl
    have hG := Gcd_L (x := (n, a)) (y := (m, c)) hp (by show n ≤ 512; omega) (by show m ≤ 512; omega) rfl rfl
    have hG2 := refGcd_L (x := (n, a)) (y := (m, c)) hp (by show n ≤ 512; omega) (by show m ≤ 512; omega) rfl rfl
    have hM1 := refMul_Lx (x := (n, a)) hp hu (by omega) (by show n ≤ 1024; omega) rfl
    have hM2 := refMul_Lx (x := (m, c)) hp hv (by omega) (by show m ≤ 1024; omega) rfl
    have hfl : (nfL p (n, a)).1 ≤ n := nfL_le p (n, a)
    have hgl : (nfL p (m, c)).1 ≤ m := nfL_le p (m, c)
    have ha : NL p (mulL p u (nfL p (n, a))) := NL.mul hp (NL.nfL hp (by show n ≤ 4096; omega)) (by omega)
    have hb : NL p (mulL p v (nfL p (m, c))) := NL.mul hp (NL.nfL hp (by show m ≤ 4096; omega)) (by omega)
    have hS := refAdd_L hp ha hb
    rw [he] at hS
    generalize gcdL p (nfL p (n, a)) (nfL p (m, c)) = d at *
    have hdl := hd.n4
    have hul := hu.n4
    have hvl := hv.n4
    have hi1 := ints_L (x := d) (by omega)
    have hi2 := ints_L (x := u) (by omega)
    have hi3 := ints_L (x := v) (by omega)
    refine ⟨_, hG, ?_⟩
    conv => whnf
    refine ⟨_, hX, ?_⟩
    conv => whnf
    refine ⟨_, refModulus_ok, ?_⟩
    conv => whnf
    refine bneg (show (!decide (md p)) = false by simpa using hp) ?_
    conv => whnf
    refine ⟨_, hR, ?_⟩
    conv => whnf
    refine ⟨_, hG2, ?_⟩
    conv => whnf
    refine ⟨_, hi1, ?_⟩
    conv => whnf
    refine ⟨_, hM1, ?_⟩
    conv => whnf
    refine ⟨_, hM2, ?_⟩
    conv => whnf
    refine ⟨_, hS, ?_⟩
    conv => whnf
    refine ⟨_, hi1, ?_⟩
    conv => whnf
    refine ⟨_, hi2, ?_⟩
    conv => whnf
    refine ⟨_, hi3, ?_⟩
    conv => whnf
    refine ⟨_, hi1, ?_⟩
    conv => whnf
    refine ⟨_, hi1, ?_⟩
    conv => whnf
    exact ⟨rfl, Sub.refl _⟩
  · refine ⟨_, gcd_prime (x := (n, a)) (y := (m, c)) hp, ?_⟩
    conv => whnf
    refine ⟨_, xgcd_prime (x := (n, a)) (y := (m, c)) hp, ?_⟩
    conv => whnf
    refine ⟨_, refModulus_ok, ?_⟩
    conv => whnf
    refine bpos (show (!decide (md p)) = true by simpa using hp) ?_
    conv => whnf
    refine ⟨i64 (by decide) (by decide), ?_⟩
    conv => whnf
    refine ⟨i64 (by decide) (by decide), ?_⟩
    conv => whnf
    refine ⟨i64 (by decide) (by decide), ?_⟩
    conv => whnf
    exact ⟨rfl, Sub.refl _⟩
end Fp
end Go.Proofs.Ytmfaipklhkgieaa
