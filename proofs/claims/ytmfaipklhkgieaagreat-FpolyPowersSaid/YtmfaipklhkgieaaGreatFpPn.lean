/- PowMod, and the document's Power. -/
import Derived.Test.YtmfaipklhkgieaaGreatFpPm
namespace Go.Proofs.YtmfaipklhkgieaaGreat
open Go.RowKit
namespace Fp
theorem refDivide_Lr {p : Int} {x y f g : L} (hp : md p) (hx : x.1 ≤ 4096) (hy : y.1 ≤ 4096) (ex : nfL p x = f) (ey : nfL p y = g) (hm : 0 < g.1) : FnOK Tryz.prog false 29 [.c (.int .i64 p), cl x, cl y] (.t2 (cl (quoL p f g)) (cl (rstL p f g))) := by
  have hF : NL p f := by rw [← ex]; exact NL.nfL hp hx
  have hG : NL p g := by rw [← ey]; exact NL.nfL hp hy
  have hq := hF.quo hp hG hm
  have hr := (hF.rst hp hG hm).1
  have e1 : ∀ i, nf p (f.1 + 1 - g.1) (dq p (inv (g.2 (g.1 - 1)) p) g.1 (f.1 + 1 - g.1) f.2 g.2) i = qt p f.1 g.1 f.2 g.2 i := fun i => by
    unfold nf qt
    by_cases h : i < f.1 + 1 - g.1
    · rw [if_pos h, if_pos h]
      have := dq_range (p := p) (b := inv (g.2 (g.1 - 1)) p) (m := g.1) (N := f.1 + 1 - g.1) (F := f.2) (G := g.2) (by have := hp.1; omega) i
      exact Int.emod_eq_of_lt this.1 this.2
    · rw [if_neg h, if_neg h]
  have e2 : nf p f.1 (rs p f.1 g.1 f.2 g.2) = rs p f.1 g.1 f.2 g.2 := nf_self hr.r fun j hj => hr.z j (by have := tl_le (rs p f.1 g.1 f.2 g.2) f.1; exact Nat.le_trans this hj)
  have e3 : nf p f.1 (dn p (inv (g.2 (g.1 - 1)) p) g.1 (f.1 + 1 - g.1) f.2 g.2 (f.1 + 1 - g.1)) = rs p f.1 g.1 f.2 g.2 := e2
  subst ex ey
  refine sub_ok (refDivide_all (p := p) (n0 := x.1) (m0 := y.1) (a := x.2) (c := y.2) hp hx hy rfl rfl rfl rfl hm hF.r hG.r (hG.l hm) hF.t) (subT2 (subRow ?_ fun i _ => e1 i) ?_)
  · rw [tl_congr fun i _ => e1 i]
    exact hq.t
  · rw [e3]
    exact Sub.refl _
set_option maxHeartbeats 4000000 in
theorem PowMod_no {p : Int} {x y : L} {N : V} (hp : ¬ md p) {s : Bool} {q : Nat} {a : Nat → Int} (hN : N = bi s q a) : FnOK Tryz.prog false 7 [.c (.int .i64 p), cl x, N, cl y] (.t2 (.c .nil) (.c (.int .i64 8))) := by
  subst hN
  refine fn_ok (E := E0) E0_ok Tryz.func7 rfl mixed (by kernel_rfl) (by kernel_rfl) ?_
  conv => whnf
  refine ⟨_, modulus_bad hp, ?_⟩
  conv => whnf
  exact ⟨rfl, Sub.refl _⟩
set_option maxHeartbeats 4000000 in
theorem PowMod_zero {p : Int} {x y : L} (hp : md p) {s : Bool} {q : Nat} {a : Nat → Int} (hy : y.1 ≤ 4096) (h0 : (nfL p y).1 = 0) : FnOK Tryz.prog false 7 [.c (.int .i64 p), cl x, bi s q a, cl y] (.t2 (.c .nil) (.c (.int .i64 5))) := by
  have hN := normal_L (x := y) hp hy
  generalize nfL p y = g at *
  refine fn_ok (E := E0) E0_ok Tryz.func7 rfl mixed (by kernel_rfl) (by kernel_rfl) ?_
  conv => whnf
  refine ⟨_, modulus_ok hp, ?_⟩
  conv => whnf
  refine ⟨_, hN, ?_⟩
  conv => whnf
  refine bpos (show decide ((g.1 : Int) = 0) = true by simp; omega) ?_
  conv => whnf
  exact ⟨rfl, Sub.refl _⟩
set_option maxHeartbeats 4000000 in
theorem PowMod_neg {p : Int} {x y : L} (hp : md p) {s : Bool} {q : Nat} {a : Nat → Int} (hy : y.1 ≤ 4096) (hq : q ≤ 1048576) (h0 : (nfL p y).1 ≠ 0) (hs : (if tl a q = 0 then (0 : Int) else if s then -1 else 1) < 0) : FnOK Tryz.prog false 7 [.c (.int .i64 p), cl x, bi s q a, cl y] (.t2 (.c .nil) (.c (.int .i64 2))) := by
  have hN := normal_L (x := y) hp hy
  have hS := bsign_ok (a := a) (s := s) hq
  generalize (if tl a q = 0 then (0 : Int) else if s then -1 else 1) = sg at *
  generalize nfL p y = g at *
  refine fn_ok (E := E0) E0_ok Tryz.func7 rfl mixed (by kernel_rfl) (by kernel_rfl) ?_
  conv => whnf
  refine ⟨_, modulus_ok hp, ?_⟩
  conv => whnf
  refine ⟨_, hN, ?_⟩
  conv => whnf
  refine bneg (show decide ((g.1 : Int) = 0) = false by simp; omega) ?_
  conv => whnf
  refine ⟨_, hS, ?_⟩
  conv => whnf
  refine bpos (show decide (sg < 0) = true from decide_eq_true hs) ?_
  conv => whnf
  exact ⟨rfl, Sub.refl _⟩
set_option maxHeartbeats 4000000 in
theorem PowMod_ok {p : Int} {x y r : L} (hp : md p) {s : Bool} {q : Nat} {a : Nat → Int} (hx : x.1 ≤ 4096) (hy : y.1 ≤ 1024) (hq : q ≤ 1024) (ha : ∀ i, 0 ≤ a i ∧ a i < 4294967296) (h0 : (nfL p y).1 ≠ 0) (hs : ¬ (if tl a q = 0 then (0 : Int) else if s then -1 else 1) < 0) (hr : Rp p (nfL p y) (pw (nfL p x).2 (bs (bt a) 0 (nb a (tl a q)))) r) : FnOK Tryz.prog false 7 [.c (.int .i64 p), cl x, bi s q a, cl y] (.t2 (cl r) (.c (.int .i64 0))) := by
  have hN := normal_L (x := y) hp (show y.1 ≤ 4096 by omega)
  have hN1 := normal_L (x := x) hp hx
  have hS := bsign_ok (a := a) (s := s) (show q ≤ 1048576 by omega)
  have hP := powMod_ok (s := s) hp (NL.nfL (x := x) hp hx) (NL.nfL (x := y) hp (by omega)) (Nat.pos_of_ne_zero h0) (Nat.le_trans (nfL_le p y) hy) hq ha hr
  clear hr
  generalize (if tl a q = 0 then (0 : Int) else if s then -1 else 1) = sg at *
  generalize nfL p y = g at *
  generalize nfL p x = f at *
  refine fn_ok (E := E0) E0_ok Tryz.func7 rfl mixed (by kernel_rfl) (by kernel_rfl) ?_
  conv => whnf
  refine ⟨_, modulus_ok hp, ?_⟩
  conv => whnf
  refine ⟨_, hN, ?_⟩
  conv => whnf
  refine bneg (show decide ((g.1 : Int) = 0) = false by simp; omega) ?_
  conv => whnf
  refine ⟨_, hS, ?_⟩
  conv => whnf
  refine bneg (show decide (sg < 0) = false from decide_eq_false hs) ?_
  conv => whnf
  refine ⟨_, hN1, ?_⟩
  conv => whnf
  refine ⟨_, hP, ?_⟩
  conv => whnf
  exact ⟨rfl, Sub.refl _⟩
theorem nfL_one {p : Int} (hp : md p) : nfL p one1 = one1 := by
  have h := NL.one hp
  show (tl (nf p one1.1 one1.2) one1.1, nf p one1.1 one1.2) = one1
  rw [h.self, h.t]
theorem nfL_id {p : Int} {x : L} (h : NL p x) : nfL p x = x := by
  show (tl (nf p x.1 x.2) x.1, nf p x.1 x.2) = x
  rw [h.self, h.t]
theorem bs_norm {a : Nat → Int} {m : Nat} (ha : ∀ i, 0 ≤ a i ∧ a i < 4294967296) : bs (bt a) 0 (32 * m) = bs (bt a) 0 (nb a m) := by
  refine bs_more (nb_le ha) fun j h1 h2 => ?_
  unfold nb at h1
  rw [if_neg (by omega)] at h1
  have e1 : j / 32 = m - 1 := by omega
  unfold bt
  rw [e1, Nat.div_eq_of_lt (Nat.lt_of_lt_of_le lb_lt (Nat.pow_le_pow_right (by decide) (by omega)))]
theorem rbit_eq {a : Nat → Int} {i : Nat} (ha : ∀ i, 0 ≤ a i ∧ a i < 4294967296) : Int.tmod ((a (Int.tdiv (i : Int) 32).toNat).fdiv (2 ^ min (IntKind.u64.wrap (Int.tmod (i : Int) 32)).toNat IntKind.u32.bits)) 2 = ((bt a i : Nat) : Int) := by
  have ed : (Int.tdiv (i : Int) 32).toNat = i / 32 := by rw [Int.tdiv_eq_ediv_of_nonneg (by omega)]; omega
  have em : Int.tmod (i : Int) 32 = ((i % 32 : Nat) : Int) := by rw [Int.tmod_eq_emod_of_nonneg (by omega)]; omega
  have ew : IntKind.u64.wrap (((i % 32 : Nat) : Int)) = ((i % 32 : Nat) : Int) := by simp [IntKind.wrap, IntKind.signed, IntKind.bits]; omega
  have h := ha (i / 32)
  rw [ed, em, ew, Int.toNat_natCast, shr_eq h.1 (Nat.mod_lt _ (by decide))]
  have eb : bt a i = (a (i / 32)).toNat / 2 ^ (i % 32) % 2 := rfl
  generalize (a (i / 32)).toNat / 2 ^ (i % 32) = y at *
  rw [Int.tmod_eq_emod_of_nonneg (by omega), eb]
  omega
/-- One type more than the table has. -/
noncomputable def E0u : Env := ⟨Tryz.prog, false, fun T => if T == 58 then some ⟨false, 1, [.int .u64 0], 8, [], none, some .u64, 0⟩ else tyE T, 0⟩
theorem tyU : tyOf Tryz.prog 58 = some ⟨false, 1, [.int .u64 0], 8, [], none, some .u64, 0⟩ := by kernel_rfl
theorem E0u_ok : EnvOK E0u := ⟨fun T ti h => by
  by_cases e : T = 58
  · subst e
    have h : some (⟨false, 1, [.int .u64 0], 8, [], none, some .u64, 0⟩ : TI) = some ti := h
    cases h
    exact tyU
  · have h2 : (if T == 58 then some (⟨false, 1, [.int .u64 0], 8, [], none, some .u64, 0⟩ : TI) else tyE T) = some ti := h
    rw [if_neg (by simpa using e)] at h2
    exact tyE_ok T ti h2⟩
set_option maxHeartbeats 8000000 in
theorem power_ok {p : Int} {x y f m r : L} {s : Bool} {q : Nat} {a : Nat → Int} (hp : md p) (hx : x.1 ≤ 1024) (hy : y.1 ≤ 1024) (ex : nfL p x = f) (ey : nfL p y = m) (h0 : 0 < m.1) (hq : q ≤ 1024) (ha : ∀ i, 0 ≤ a i ∧ a i < 4294967296) (hr : Rp p m (pw f.2 (bs (bt a) 0 (nb a (tl a q)))) r) : FnOK Tryz.prog false 12 [.c (.int .i64 p), cl x, bi s q a, cl y] (cl r) := by
  have hf : NL p f := by rw [← ex]; exact NL.nfL hp (by omega)
  have hm : NL p m := by rw [← ey]; exact NL.nfL hp (by omega)
  have hl : m.1 ≤ 1024 := by rw [← ey]; have := nfL_le p y; omega
  have hfr := Rp.rest hp hm h0 hf
  have h1r := Rp.rest hp hm h0 (NL.one hp)
  have hd1 := refDivide_Lr (x := x) (y := y) hp (by omega) (by omega) ex ey h0
  have hd2 := refDivide_Lr (x := one1) (y := y) hp (by decide) (by omega) (nfL_one hp) ey h0
  have hN := rnorm_ok (s := s) (n := q) (a := a) (by omega)
  have htl := tl_le a q
  rw [← bs_norm ha] at hr
  generalize hF : rstL p f m = f1 at *
  generalize hO : rstL p one1 m = o1 at *
  generalize (s && decide (0 < tl a q)) = s2 at *
  generalize tl a q = M at *
  refine fn_ok (E := E0u) E0u_ok Tryz.func12 rfl mixed (by kernel_rfl) (by kernel_rfl) ?_
  conv => whnf
  refine ⟨_, hd1, ?_⟩
  conv => whnf
  refine ⟨fun i j hi hj => ?_, ?_⟩
  · match i, j, hi, hj with
    | 0, 0, _, _ => rfl
  conv => whnf
  refine ⟨_, arg_ok hd2 (fun D w vs h => match vs, h with
    | [_, _, _], ⟨e0, e1, e2, _⟩ => ⟨e0, subCon rfl e1, e2, trivial⟩), ?_⟩
  conv => whnf
  refine ⟨_, hN, ?_⟩
  conv => whnf
  refine loop_ints (fun ((k, x, o) : Nat × L × L) => ist [(0, .c (.int .i64 p)), (3, cl y), (10, cl x), (12, cl o), (13, .c (dl M a)), (14, .c (.int .i64 k))] []) (fun (k, _, _) => 32 * M - k) (fun (k, x, o) => k ≤ 32 * M ∧ Rp p m (pw f.2 (2 ^ k)) x ∧ Rp p m (pw f.2 (bs (bt a) 0 k)) o) (0, f1, o1) rfl ?_ (show 0 ≤ 32 * M ∧ Rp p m (pw f.2 (2 ^ 0)) f1 ∧ Rp p m (pw f.2 (bs (bt a) 0 0)) o1 from ⟨Nat.zero_le _, by rw [Nat.pow_zero, pw_one]; exact hfr, h1r⟩) ?_
  · exact Weak.ints [] rfl trivial ⟨⟨_, rfl, rfl⟩, ⟨_, _, rfl, rfl, fun _ _ _ _ => rfl⟩, ⟨_, _, rfl, rfl, fun _ _ _ _ => rfl⟩, ⟨_, _, rfl, rfl, fun _ _ _ _ => rfl⟩, ⟨_, _, rfl, rfl, fun _ _ _ _ => rfl⟩, ⟨_, rfl, rfl⟩, trivial⟩
  rintro ⟨i, x1, o⟩ hI
  obtain ⟨h1, h2, h3⟩ : i ≤ 32 * M ∧ Rp p m (pw f.2 (2 ^ i)) x1 ∧ Rp p m (pw f.2 (bs (bt a) 0 i)) o := hI
  conv => whnf
  refine ⟨i64 (by omega) (by omega), ?_⟩
  conv => whnf
  refine bcase (fun (h : decide ((i : Int) < 32 * (M : Int)) = true) => ?_) fun (h : decide ((i : Int) < 32 * (M : Int)) = false) => ?_
  · have h := of_decide_eq_true h
    have ed : Int.tdiv (i : Int) 32 = ((i / 32 : Nat) : Int) := by rw [Int.tdiv_eq_ediv_of_nonneg (by omega)]; omega
    have er : Int.tmod (i : Int) 32 = ((i % 32 : Nat) : Int) := by rw [Int.tmod_eq_emod_of_nonneg (by omega)]; omega
    obtain ⟨h4, h5⟩ := h3.mul hp hm (pw_fin (Nm.fin hf) _) hl h2
    rw [← pw_add] at h4
    obtain ⟨h6, h7⟩ := h2.mul hp hm (pw_fin (Nm.fin hf) _) hl h2
    rw [← pw_add, show 2 ^ i + 2 ^ i = 2 ^ (i + 1) by rw [Nat.pow_succ]; omega] at h6
    have ht1 := refMul_L hp h3.n h2.n (by have := h3.s; omega) (by have := h2.s; omega)
    have hv1 := refDivide_Lr (x := mulL p o x1) (y := y) hp h5.n4 (by omega) (nfL_id h5) ey h0
    have ht2 := refMul_L hp h2.n h2.n (by have := h2.s; omega) (by have := h2.s; omega)
    have hv2 := refDivide_Lr (x := mulL p x1 x1) (y := y) hp h7.n4 (by omega) (nfL_id h7) ey h0
    have eb : bs (bt a) 0 (i + 1) = bs (bt a) 0 i + bt a (0 + i) * 2 ^ i := rfl
    rw [Nat.zero_add] at eb
    conv => whnf
    refine ⟨by decide, i64 (by rw [ed]; omega) (by rw [ed]; omega), ?_⟩
    conv => whnf
    refine ⟨by rw [ed]; omega, by rw [ed]; omega, ?_⟩
    conv => whnf
    refine ⟨by decide, ?_⟩
    have ew : IntKind.u64.wrap (Int.tmod (i : Int) 32) = ((i % 32 : Nat) : Int) := by rw [er]; simp [IntKind.wrap, IntKind.signed, IntKind.bits]; omega
    conv => whnf
    refine ⟨by rw [ew]; omega, ?_⟩
    conv => whnf
    refine ⟨by decide, ?_⟩
    conv => whnf
    refine bcase (fun h8 => ?_) fun h8 => ?_
    · have h8 := of_decide_eq_true h8
      rw [rbit_eq ha] at h8
      have h9 : bt a i = 1 := by omega
      rw [h9, Nat.one_mul] at eb
      rw [← eb] at h4
      conv => whnf
      refine ⟨_, ht1, ?_⟩
      conv => whnf
      refine ⟨_, hv1, ?_⟩
      conv => whnf
      refine ⟨_, ht2, ?_⟩
      conv => whnf
      refine ⟨_, hv2, ?_⟩
      conv => whnf
      refine ⟨i64 (by omega) (by omega), ?_⟩
      conv => whnf
      exact ⟨(i + 1, rstL p (mulL p x1 x1) m, rstL p (mulL p o x1) m), by show 32 * M - (i + 1) < 32 * M - i; omega, Weak.ints [] rfl trivial ⟨⟨_, rfl, rfl⟩, ⟨_, _, rfl, rfl, fun _ _ _ _ => rfl⟩, ⟨_, _, rfl, rfl, fun _ _ _ _ => rfl⟩, ⟨_, _, rfl, rfl, fun _ _ _ _ => rfl⟩, ⟨_, _, rfl, rfl, fun _ _ _ _ => rfl⟩, ⟨_, rfl, rfl⟩, trivial⟩, (show i + 1 ≤ 32 * M ∧ Rp p m (pw f.2 (2 ^ (i + 1))) _ ∧ Rp p m (pw f.2 (bs (bt a) 0 (i + 1))) _ from ⟨by omega, h6, h4⟩)⟩
    · have h8 := of_decide_eq_false h8
      rw [rbit_eq ha] at h8
      have h9 : bt a i = 0 := by
        have : bt a i < 2 := Nat.mod_lt _ (by decide)
        omega
      have eb' : bs (bt a) 0 (i + 1) = bs (bt a) 0 i := by rw [eb, h9]; omega
      rw [← eb'] at h3
      conv => whnf
      refine ⟨_, ht2, ?_⟩
      conv => whnf
      refine ⟨_, hv2, ?_⟩
      conv => whnf
      refine ⟨i64 (by omega) (by omega), ?_⟩
      conv => whnf
      exact ⟨(i + 1, rstL p (mulL p x1 x1) m, o), by show 32 * M - (i + 1) < 32 * M - i; omega, Weak.ints [] rfl trivial ⟨⟨_, rfl, rfl⟩, ⟨_, _, rfl, rfl, fun _ _ _ _ => rfl⟩, ⟨_, _, rfl, rfl, fun _ _ _ _ => rfl⟩, ⟨_, _, rfl, rfl, fun _ _ _ _ => rfl⟩, ⟨_, _, rfl, rfl, fun _ _ _ _ => rfl⟩, ⟨_, rfl, rfl⟩, trivial⟩, (show i + 1 ≤ 32 * M ∧ Rp p m (pw f.2 (2 ^ (i + 1))) _ ∧ Rp p m (pw f.2 (bs (bt a) 0 (i + 1))) _ from ⟨by omega, h6, h3⟩)⟩
  · have h := of_decide_eq_false h
    obtain rfl : i = 32 * M := by omega
    obtain rfl := h3.eq hp hm hr
    conv => whnf
    exact ⟨rfl, Sub.refl _⟩
end Fp
end Go.Proofs.YtmfaipklhkgieaaGreat
