/- Xgcd of the program. -/
import Derived.Test.YtmfaipklhkgieaaFpX
namespace Go.Proofs.Ytmfaipklhkgieaa
open Go.RowKit
namespace Fp
noncomputable abbrev nfL (p : Int) (x : L) : L := (tl (nf p x.1 x.2) x.1, nf p x.1 x.2)
theorem NL.nfL {p : Int} {x : L} (hp : md p) (h : x.1 ≤ 4096) : NL p (nfL p x) := Nm.nf (by have := hp.1; omega) h
theorem nfL_le (p : Int) (x : L) : (nfL p x).1 ≤ x.1 := tl_le _ _
theorem normal_L {p : Int} {x : L} (hp : md p) (h : x.1 ≤ 4096) : FnOK Try.prog false 32 [.c (.int .i64 p), cl x] (cl (nfL p x)) := normal_ok (by have := hp.1; omega) hp.2.1 (by omega)
theorem inverse_L {p : Int} {x : L} {k : Nat} (hp : md p) (hx : NL p x) (h0 : 0 < x.1) (hk : k = x.1 - 1) : FnOK Try.prog false 40 [.c (.int .i64 (x.2 k)), .c (.int .i64 p)] (.c (.int .i64 (inv (x.2 (x.1 - 1)) p))) := by
  subst hk
  have h2 := hx.r (x.1 - 1)
  have := hx.l h0
  exact inverse_ok hp (by rw [Int.emod_eq_of_lt h2.1 h2.2]; omega)
set_option maxHeartbeats 8000000 in
theorem xgcd_more {p : Int} {x y f g : L} (hp : md p) (hx : x.1 ≤ 512) (hy : y.1 ≤ 512) (ef : nfL p x = f) (eg : nfL p y = g) (h0 : 0 < g.1) : FnOK Try.prog false 17 [.c (.int .i64 p), cl x, cl y] (.t4 (cl (xgd p f g)) (cl (xgu p f g)) (cl (xgv p f g)) (.c (.int .i64 0))) := by
  have hN1 := normal_L hp (show x.1 ≤ 4096 by omega)
  have hN2 := normal_L hp (show y.1 ≤ 4096 by omega)
  have hf : NL p f := by rw [← ef]; exact NL.nfL hp (by omega)
  have hg : NL p g := by rw [← eg]; exact NL.nfL hp (by omega)
  have hfl : f.1 ≤ 512 := by rw [← ef]; have := nfL_le p x; omega
  have hgl : g.1 ≤ 512 := by rw [← eg]; have := nfL_le p y; omega
  rw [ef] at hN1
  rw [eg] at hN2
  have X := xgs hp hf hg hfl hgl h0
  have hstart := XI.start hp hf hg hfl
  have hp0 : 0 < p := by have := hp.1; omega
  refine fn_ok (E := E0) E0_ok Try.func17 rfl mixed (by kernel_rfl) (by kernel_rfl) ?_
  conv => whnf
  refine ⟨_, modulus_ok hp, ?_⟩
  conv => whnf
  refine ⟨_, hN1, ?_⟩
  conv => whnf
  refine ⟨_, hN2, ?_⟩
  conv => whnf
  refine bneg (show decide ((g.1 : Int) = 0) = false by simp; omega) ?_
  conv => whnf
  refine loop_ints (fun ((_, r, s, u, v) : Nat × L × L × L × L) => ist [(0, .c (.int .i64 p)), (1, cl f), (2, cl g), (11, cl r), (12, cl s), (7, cl u), (13, cl v)] []) (fun (_, _, s, _, _) => s.1) (fun (t, r, s, u, v) => XI p g.1 r s u v ∧ s.1 ≤ t ∧ xg p t r s u v = xgr p f g) (g.1, f, g, one1, nil0) rfl ?_ ⟨hstart, Nat.le_refl _, rfl⟩ ?_
  · refine (Weak.shut 0 rfl rfl fun i j hi hj => ?_).trans ((Weak.shut 1 rfl rfl fun i j hi hj => ?_).trans (Weak.ints [] rfl trivial ⟨⟨_, rfl, rfl⟩, ⟨_, _, rfl, rfl, fun _ _ _ _ => rfl⟩, ⟨_, _, rfl, rfl, fun _ _ _ _ => rfl⟩, ⟨_, _, rfl, rfl, fun _ _ _ _ => rfl⟩, ⟨_, _, rfl, rfl, fun _ _ _ _ => rfl⟩, ⟨_, _, rfl, rfl, ?_⟩, ⟨_, _, rfl, rfl, ?_⟩, trivial⟩))
    · match i, j, hi, hj with
      | 0, 0, _, _ => rfl
    · exact absurd hi (Nat.not_lt_zero _)
    · intro i j hi hj
      match i, j, hi, hj with
      | 0, 0, _, _ => rfl
    · exact fun i j hi hj => absurd hi (Nat.not_lt_zero _)
  rintro ⟨t, r, s, u, v⟩ hI
  obtain ⟨h1, h2, h3⟩ : XI p g.1 r s u v ∧ s.1 ≤ t ∧ xg p t r s u v = xgr p f g := hI
  conv => whnf
  refine bcase (fun (h : decide ((0 : Int) < s.1) = true) => ?_) fun (h : decide ((0 : Int) < s.1) = false) => ?_
  · have h := of_decide_eq_true h
    obtain ⟨t, rfl⟩ : ∃ t', t = t' + 1 := ⟨t - 1, by omega⟩
    obtain ⟨h4, h5⟩ := h1.step hp (by omega) hgl
    have hq := h1.hr.quo hp h1.hs (show 0 < s.1 by omega)
    have hv := h1.hb
    have hql : (quoL p r s).1 = r.1 + 1 - s.1 := rfl
    have hrm := h1.hm
    have hml := mulL_le p (quoL p r s) v
    have ht := times_L hp hq h1.hv (by omega) (by omega)
    have hsb := subs_L hp h1.hu (NL.mul (x := quoL p r s) hp h1.hv (by omega))
    conv => whnf
    refine ⟨_, divide_L hp h1.hr h1.hs (by omega), ?_⟩
    conv => whnf
    refine ⟨_, ht, ?_⟩
    conv => whnf
    refine ⟨i64 (by omega) (by have := hp.2.1; omega), ?_⟩
    conv => whnf
    refine ⟨_, hsb, ?_⟩
    conv => whnf
    refine ⟨(t, s, rstL p r s, v, subL p u (mulL p (quoL p r s) v)), h5, Weak.ints [] rfl trivial ⟨⟨_, rfl, rfl⟩, ⟨_, _, rfl, rfl, fun _ _ _ _ => rfl⟩, ⟨_, _, rfl, rfl, fun _ _ _ _ => rfl⟩, ⟨_, _, rfl, rfl, fun _ _ _ _ => rfl⟩, ⟨_, _, rfl, rfl, fun _ _ _ _ => rfl⟩, ⟨_, _, rfl, rfl, fun _ _ _ _ => rfl⟩, ⟨_, _, rfl, rfl, fun _ _ _ _ => rfl⟩, trivial⟩, h4, by omega, ?_⟩
    rw [← h3]
    show _ = if s.1 = 0 then (r, u) else _
    rw [if_neg (by omega)]
  · have h := of_decide_eq_false h
    rw [xg_zero (by omega)] at h3
    obtain ⟨e1, e2⟩ := Prod.mk.inj h3
    subst e1
    subst e2
    have hX1 := X.r0
    have hX2 := X.rl
    have hY1 : 0 < (xg p g.1 f g one1 nil0).1.1 := hX1
    have hY2 : (xg p g.1 f g one1 nil0).1.1 ≤ 512 := hX2
    have em : (((xgr p f g).1.1 : Int) - 1).toNat = (xgr p f g).1.1 - 1 := by omega
    have hu := X.ul
    have hul : (xgper p f g).1 = g.1 + 1 - (xgd p f g).1 := rfl
    have hX3 := X.d0
    have hm := mulL_le p (xgu p f g) f
    have ht := times_L hp X.u hf (by omega) (by omega)
    have hsb := subs_L hp X.d (NL.mul (x := xgu p f g) hp hf (by omega))
    have hi := inverse_L (k := (((xgr p f g).1.1 : Int) - 1).toNat) hp X.r X.r0 em
    have hb := inv_range (c := (xgr p f g).1.2 ((xgr p f g).1.1 - 1)) hp0
    conv => whnf
    refine ⟨i64 (by omega) (by omega), ?_⟩
    conv => whnf
    refine ⟨by omega, ?_⟩
    conv => whnf
    refine ⟨by omega, ?_⟩
    conv => whnf
    refine ⟨_, hi, ?_⟩
    conv => whnf
    refine ⟨_, scale_L hp X.r hb, ?_⟩
    conv => whnf
    refine ⟨_, scale_L hp X.u0 hb, ?_⟩
    conv => whnf
    refine ⟨_, divide_L hp hg X.d X.d0, ?_⟩
    conv => whnf
    refine ⟨_, divide_L hp (NL.sc hp X.u0) X.per X.per0, ?_⟩
    conv => whnf
    refine ⟨_, ht, ?_⟩
    conv => whnf
    refine ⟨i64 (by omega) (by have := hp.2.1; omega), ?_⟩
    conv => whnf
    refine ⟨_, hsb, ?_⟩
    conv => whnf
    refine ⟨_, divide_L hp X.w hg h0, ?_⟩
    conv => whnf
    exact ⟨rfl, Sub.refl _⟩
-- g is nothing
noncomputable abbrev moL (p : Int) (x : L) : L := scL p (inv (x.2 (x.1 - 1)) p) x
noncomputable abbrev con (c : Int) : L := (1, fun i => if i = 0 then c else 0)
theorem monic_L {p : Int} {x : L} (hp : md p) (hx : NL p x) : FnOK Try.prog false 39 [.c (.int .i64 p), cl x] (cl (moL p x)) := monic_ok hp hx.n4 hx.r hx.z hx.l
theorem subT4 {a b c d a' b' c' d' : V} (h1 : Sub a a') (h2 : Sub b b') (h3 : Sub c c') (h4 : Sub d d') : Sub (.t4 a b c d) (.t4 a' b' c' d') := by
  rintro D w v ⟨x, y, z, u, rfl, hx, hy, hz, hu⟩
  exact ⟨x, y, z, u, rfl, h1 D w x hx, h2 D w y hy, h3 D w z hz, h4 D w u hu⟩
set_option maxHeartbeats 8000000 in
theorem xgcd_none {p : Int} {x y f g : L} (hp : md p) (hx : x.1 ≤ 512) (hy : y.1 ≤ 512) (ef : nfL p x = f) (eg : nfL p y = g) (h0 : g.1 = 0) (h1 : f.1 = 0) : FnOK Try.prog false 17 [.c (.int .i64 p), cl x, cl y] (.t4 (cl nil0) (cl nil0) (cl nil0) (.c (.int .i64 0))) := by
  have hN1 := normal_L hp (show x.1 ≤ 4096 by omega)
  have hN2 := normal_L hp (show y.1 ≤ 4096 by omega)
  rw [ef] at hN1
  rw [eg] at hN2
  refine fn_ok (E := E0) E0_ok Try.func17 rfl mixed (by kernel_rfl) (by kernel_rfl) ?_
  conv => whnf
  refine ⟨_, modulus_ok hp, ?_⟩
  conv => whnf
  refine ⟨_, hN1, ?_⟩
  conv => whnf
  refine ⟨_, hN2, ?_⟩
  conv => whnf
  refine bpos (show decide ((g.1 : Int) = 0) = true by simp; omega) ?_
  conv => whnf
  refine bpos (show decide ((f.1 : Int) = 0) = true by simp; omega) ?_
  conv => whnf
  exact ⟨rfl, subT4 (subNil rfl) (subNil rfl) (subNil rfl) (Sub.refl _)⟩
set_option maxHeartbeats 8000000 in
theorem xgcd_one {p : Int} {x y f g : L} (hp : md p) (hx : x.1 ≤ 512) (hy : y.1 ≤ 512) (ef : nfL p x = f) (eg : nfL p y = g) (h0 : g.1 = 0) (h1 : 0 < f.1) : FnOK Try.prog false 17 [.c (.int .i64 p), cl x, cl y] (.t4 (cl (moL p f)) (cl (con (inv (f.2 (f.1 - 1)) p))) (cl nil0) (.c (.int .i64 0))) := by
  have hN1 := normal_L hp (show x.1 ≤ 4096 by omega)
  have hN2 := normal_L hp (show y.1 ≤ 4096 by omega)
  have hf : NL p f := by rw [← ef]; exact NL.nfL hp (by omega)
  have hfl : f.1 ≤ 512 := by rw [← ef]; have := nfL_le p x; omega
  rw [ef] at hN1
  rw [eg] at hN2
  have em : ((f.1 : Int) - 1).toNat = f.1 - 1 := by omega
  have hi := inverse_L (k := ((f.1 : Int) - 1).toNat) hp hf h1 em
  refine fn_ok (E := E0) E0_ok Try.func17 rfl mixed (by kernel_rfl) (by kernel_rfl) ?_
  conv => whnf
  refine ⟨_, modulus_ok hp, ?_⟩
  conv => whnf
  refine ⟨_, hN1, ?_⟩
  conv => whnf
  refine ⟨_, hN2, ?_⟩
  conv => whnf
  refine bpos (show decide ((g.1 : Int) = 0) = true by simp; omega) ?_
  conv => whnf
  refine bneg (show decide ((f.1 : Int) = 0) = false by simp; omega) ?_
  conv => whnf
  refine ⟨_, monic_L hp hf, ?_⟩
  conv => whnf
  refine ⟨i64 (by omega) (by omega), ?_⟩
  conv => whnf
  refine ⟨by omega, ?_⟩
  conv => whnf
  refine ⟨by omega, ?_⟩
  conv => whnf
  refine ⟨_, hi, ?_⟩
  conv => whnf
  refine .inr ⟨rfl, ?_⟩
  conv => whnf
  refine ⟨rfl, subT4 (Sub.refl _) ?_ (subNil rfl) (Sub.refl _)⟩
  refine subRowG rfl fun i j hi hj => ?_
  match i, j, hi, hj with
  | 0, 0, _, _ => rfl
end Fp
end Go.Proofs.Ytmfaipklhkgieaa
