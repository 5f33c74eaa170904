/- Powers modulo a polynomial, plain. -/
import Derived.Test.YtmfaipklhkgieaaGreatFpX
import Derived.Test.YtmfaipklhkgieaaGreatFpBj
import Derived.Test.YtmfaipklhkgieaaGreatFpY
namespace Go.Proofs.YtmfaipklhkgieaaGreat
namespace Fp
/-- The same modulo p and modulo a polynomial. -/
def Cm (p : Int) (m A B : Nat → Int) : Prop := ∃ K, Fin K ∧ Cg p A fun k => B k + cf K m k
theorem Cm.of {p : Int} {m A B : Nat → Int} (h : Cg p A B) : Cm p m A B := ⟨fun _ => 0, Fin.nil, h.trans fun k => by
  show B k % p = (B k + cf (fun _ => 0) m k) % p
  rw [cf_nil, Int.add_zero]⟩
theorem Cm.symm {p : Int} {m A B : Nat → Int} (h : Cm p m A B) : Cm p m B A := by
  obtain ⟨K, fK, h⟩ := h
  refine ⟨fun k => 0 - K k, Fin.nil.sub fK, fun k => ?_⟩
  dsimp only
  rw [cf_sub', cf_nil]
  dsimp only
  obtain ⟨z, hz⟩ := of_mod (h k)
  have hz : A k = B k + cf K m k + p * z := hz
  exact mod_of (-z) (by rw [Int.mul_neg]; omega)
theorem Cm.trans {p : Int} {m A B C : Nat → Int} (h : Cm p m A B) (h2 : Cm p m B C) : Cm p m A C := by
  obtain ⟨K, fK, h⟩ := h
  obtain ⟨J, fJ, h2⟩ := h2
  refine ⟨fun k => K k + J k, fK.add fJ, fun k => ?_⟩
  dsimp only
  rw [cf_add']
  obtain ⟨z, hz⟩ := of_mod (h k)
  obtain ⟨y, hy⟩ := of_mod (h2 k)
  have hz : A k = B k + cf K m k + p * z := hz
  have hy : B k = C k + cf J m k + p * y := hy
  exact mod_of (z + y) (by rw [Int.mul_add]; omega)
theorem Cm.add {p : Int} {m A B C D : Nat → Int} (h : Cm p m A B) (h2 : Cm p m C D) : Cm p m (fun k => A k + C k) fun k => B k + D k := by
  obtain ⟨K, fK, h⟩ := h
  obtain ⟨J, fJ, h2⟩ := h2
  refine ⟨fun k => K k + J k, fK.add fJ, fun k => ?_⟩
  dsimp only
  rw [cf_add']
  obtain ⟨z, hz⟩ := of_mod (h k)
  obtain ⟨y, hy⟩ := of_mod (h2 k)
  have hz : A k = B k + cf K m k + p * z := hz
  have hy : C k = D k + cf J m k + p * y := hy
  exact mod_of (z + y) (by rw [Int.mul_add]; omega)
theorem Cm.mulr {p : Int} {m A B C : Nat → Int} (fC : Fin C) (h : Cm p m A B) : Cm p m (cf C A) (cf C B) := by
  obtain ⟨K, fK, h⟩ := h
  refine ⟨cf C K, fC.cf fK, ((Cg.refl C).cf h).trans fun k => ?_⟩
  rw [cf_add, cf_asc]
theorem Cm.mul {p : Int} {m A B C D : Nat → Int} (fA : Fin A) (fD : Fin D) (h : Cm p m A B) (h2 : Cm p m C D) : Cm p m (cf A C) (cf B D) := by
  refine (h2.mulr fA).trans ?_
  rw [cf_com A D, cf_com B D]
  exact h.mulr fD
/-- A list is the rest of a polynomial. -/
structure Rp (p : Int) (m : L) (F : Nat → Int) (r : L) : Prop where
  n : NL p r
  s : r.1 < m.1
  c : Cm p m.2 r.2 F
theorem Rp.rest {p : Int} {m x : L} (hp : md p) (hm : NL p m) (h0 : 0 < m.1) (hx : NL p x) : Rp p m x.2 (rstL p x m) := by
  obtain ⟨h1, h2⟩ := hx.rst hp hm h0
  refine ⟨h1, h2, Cm.symm ⟨_, Nm.fin (hx.quo hp hm h0), (div_cg hp hx hm h0).trans fun k => ?_⟩⟩
  show (cf (quoL p x m).2 m.2 k + (rstL p x m).2 k) % p = ((rstL p x m).2 k + cf (quoL p x m).2 m.2 k) % p
  rw [Int.add_comm]
theorem lead_inv {p : Int} {m : L} (hp : md p) (hm : NL p m) (h0 : 0 < m.1) : (inv (m.2 (m.1 - 1)) p * m.2 (m.1 - 1)) % p = 1 % p := by
  have h1 := hm.l h0
  have h2 := hm.r (m.1 - 1)
  rw [inv_spec hp (by rw [Int.emod_eq_of_lt h2.1 h2.2]; omega), Int.emod_eq_of_lt (by omega) (by have := hp.1; omega)]
theorem Rp.eq {p : Int} {m r s : L} {F : Nat → Int} (hp : md p) (hm : NL p m) (h : Rp p m F r) (h2 : Rp p m F s) : r = s := by
  have h0 : 0 < m.1 := by have := h.s; omega
  obtain ⟨K, fK, hK⟩ := h.c.trans h2.c.symm
  have hz : Cg p K fun _ => 0 := no_multiple fK hm.z h0 (lead_inv hp hm h0) (R := fun k => r.2 k - s.2 k) (fun j hj => by
    show r.2 j - s.2 j = 0
    rw [h.n.z j (by have := h.s; omega), h2.n.z j (by have := h2.s; omega)]
    rfl) fun k => by
    obtain ⟨z, hz⟩ := of_mod (hK k)
    have hz : r.2 k = s.2 k + cf K m.2 k + p * z := hz
    show cf K m.2 k % p = (r.2 k - s.2 k) % p
    exact mod_of (-z) (by rw [Int.mul_neg]; omega)
  have e : Cg p (fun k => s.2 k + cf K m.2 k) fun k => s.2 k + cf (fun _ => 0) m.2 k := (Cg.refl s.2).add (hz.cf (Cg.refl m.2))
  refine Nm.eq h.n h2.n (hK.trans (e.trans fun k => ?_))
  dsimp only
  rw [cf_nil, Int.add_zero]
theorem Rp.of {p : Int} {m r : L} {F G : Nat → Int} (h : Rp p m F r) (hc : Cm p m.2 F G) : Rp p m G r := ⟨h.n, h.s, h.c.trans hc⟩
theorem Rp.mul {p : Int} {m r s : L} {F G : Nat → Int} (hp : md p) (hm : NL p m) (fG : Fin G) (hl : m.1 ≤ 1024) (h : Rp p m F r) (h2 : Rp p m G s) : Rp p m (cf F G) (rstL p (mulL p r s) m) ∧ NL p (mulL p r s) := by
  have h0 : 0 < m.1 := by have := h.s; omega
  have hx : NL p (mulL p r s) := NL.mul hp h2.n (by have := h.s; have := h2.s; omega)
  exact ⟨(Rp.rest hp hm h0 hx).of ((Cm.of (pr_cf h.n)).trans (Cm.mul (Nm.fin h.n) fG h.c h2.c)), hx⟩
/-- Powers. -/
def pw (F : Nat → Int) : Nat → Nat → Int
  | 0 => oneF
  | n + 1 => cf F (pw F n)
theorem pw_fin {F : Nat → Int} (h : Fin F) : ∀ n, Fin (pw F n)
  | 0 => Fin.one
  | n + 1 => h.cf (pw_fin h n)
theorem pw_add (F : Nat → Int) (b : Nat) : ∀ a, pw F (a + b) = cf (pw F a) (pw F b)
  | 0 => by rw [Nat.zero_add]; exact (cf_one _).symm
  | a + 1 => by
    rw [show a + 1 + b = a + b + 1 by omega]
    show cf F (pw F (a + b)) = cf (cf F (pw F a)) (pw F b)
    rw [pw_add F b a, cf_asc]
theorem pw_one (F : Nat → Int) : pw F 1 = F := by
  show cf F oneF = F
  rw [cf_com, cf_one]
theorem rp_pow {p : Int} {m f : L} (hp : md p) (hm : NL p m) (h0 : 0 < m.1) (hl : m.1 ≤ 1024) (hf : NL p f) : ∀ e, ∃ r, Rp p m (pw f.2 e) r
  | 0 => ⟨_, Rp.rest hp hm h0 (NL.one hp)⟩
  | e + 1 => by
    obtain ⟨r, hr⟩ := rp_pow hp hm h0 hl hf e
    exact ⟨_, ((Rp.rest hp hm h0 hf).mul hp hm (pw_fin (Nm.fin hf) e) hl hr).1⟩
/-- Binary digits, and the numbers that they make. -/
def bs (b : Nat → Nat) (k : Nat) : Nat → Nat
  | 0 => 0
  | n + 1 => bs b k n + b (k + n) * 2 ^ n
theorem bs_low (b : Nat → Nat) (k : Nat) : ∀ n, bs b k (n + 1) = b k + 2 * bs b (k + 1) n
  | 0 => by simp [bs]
  | n + 1 => by
    show bs b k (n + 1) + b (k + (n + 1)) * 2 ^ (n + 1) = b k + 2 * (bs b (k + 1) n + b (k + 1 + n) * 2 ^ n)
    rw [bs_low b k n, show k + (n + 1) = k + 1 + n by omega, Nat.pow_succ, Nat.mul_add, Nat.add_assoc]
    congr 1
    congr 1
    rw [Nat.mul_comm (2 ^ n) 2, ← Nat.mul_assoc, Nat.mul_comm (b (k + 1 + n)) 2, Nat.mul_assoc]
theorem bs_more {b : Nat → Nat} {n : Nat} : ∀ {m : Nat}, n ≤ m → (∀ j, n ≤ j → j < m → b j = 0) → bs b 0 m = bs b 0 n
  | 0, h, _ => by rw [show n = 0 by omega]
  | m + 1, h, hz => by
    rcases Nat.lt_or_ge m n with h1 | h1
    · rw [show n = m + 1 by omega]
    · show bs b 0 m + b (0 + m) * 2 ^ m = _
      rw [bs_more h1 fun j a b => hz j a (by omega), Nat.zero_add, hz m h1 (by omega), Nat.zero_mul, Nat.add_zero]
theorem bs_bits (x : Nat) : ∀ n, bs (fun j => x / 2 ^ j % 2) 0 n = x % 2 ^ n
  | 0 => by show 0 = x % 1; omega
  | n + 1 => by
    show bs (fun j => x / 2 ^ j % 2) 0 n + x / 2 ^ (0 + n) % 2 * 2 ^ n = x % 2 ^ (n + 1)
    rw [bs_bits x n, Nat.zero_add, Nat.pow_succ, Nat.mod_mul, Nat.mul_comm (2 ^ n)]
/-- The binary digit of digits to base 2 ^ 32. -/
def bt (a : Nat → Int) (i : Nat) : Nat := (a (i / 32)).toNat / 2 ^ (i % 32) % 2
end Fp
end Go.Proofs.YtmfaipklhkgieaaGreat
/- Powers of a polynomial modulo another one: the program's powMod and PowMod. -/
namespace Go.Proofs.YtmfaipklhkgieaaGreat
open Go.RowKit
namespace Fp
theorem subCon {D : Nat → Prop} {w : World} {v : Value} {g : Nat → Nat → Cell} (h : g 0 0 = .int .i64 1) (hv : VRel D w [] (.c (.row 1 1 g)) v) : VRel D w [] (cl one1) v :=
  subRowG rfl (fun i j hi hj => by
    match i, j, hi, hj with
    | 0, 0, _, _ => exact h) D w v hv
theorem and_one {x : Int} (h0 : 0 ≤ x) (h1 : x < 4294967296) : IntKind.u32.wrap ((BitVec.ofInt IntKind.u32.bits x &&& BitVec.ofInt IntKind.u32.bits 1).toNat : Nat) = ((x.toNat % 2 : Nat) : Int) := by
  have e : (BitVec.ofInt IntKind.u32.bits x &&& BitVec.ofInt IntKind.u32.bits 1).toNat = x.toNat % 2 := by
    rw [BitVec.toNat_and]
    have e1 : (BitVec.ofInt IntKind.u32.bits x).toNat = x.toNat := by
      show (BitVec.ofInt 32 x).toNat = _
      rw [BitVec.toNat_ofInt]
      omega
    have e2 : (BitVec.ofInt IntKind.u32.bits 1).toNat = 1 := by decide
    rw [e1, e2, Nat.and_one_is_mod]
  rw [e]
  have := Nat.mod_lt x.toNat (show 0 < 2 by decide)
  simp [IntKind.wrap, IntKind.signed, IntKind.bits]
  omega
theorem shr_eq {x : Int} {k : Nat} (h0 : 0 ≤ x) (hk : k < 32) : x.fdiv (2 ^ min k IntKind.u32.bits) = ((x.toNat / 2 ^ k : Nat) : Int) := by
  rw [show min k IntKind.u32.bits = k from Nat.min_eq_left (Nat.le_of_lt hk), Int.fdiv_eq_ediv_of_nonneg _ (Int.le_of_lt (Int.pow_pos (by decide)))]
  rw [Int.natCast_ediv, Int.natCast_pow, Int.toNat_of_nonneg h0]
  rfl
theorem bit_eq {a : Nat → Int} {i : Nat} (ha : ∀ i, 0 ≤ a i ∧ a i < 4294967296) : IntKind.u32.wrap ((BitVec.ofInt IntKind.u32.bits ((a (Int.tdiv (((i + 1 : Nat) : Int) - 1) 32).toNat).fdiv (2 ^ min (Int.tmod (((i + 1 : Nat) : Int) - 1) 32).toNat IntKind.u32.bits)) &&& BitVec.ofInt IntKind.u32.bits 1).toNat : Nat) = ((bt a i : Nat) : Int) := by
  have eI : ((i + 1 : Nat) : Int) - 1 = i := by omega
  have ed : (Int.tdiv (((i + 1 : Nat) : Int) - 1) 32).toNat = i / 32 := by rw [eI, Int.tdiv_eq_ediv_of_nonneg (by omega)]; omega
  have er : (Int.tmod (((i + 1 : Nat) : Int) - 1) 32).toNat = i % 32 := by rw [eI, Int.tmod_eq_emod_of_nonneg (by omega)]; omega
  have h := ha (i / 32)
  rw [ed, er, shr_eq h.1 (Nat.mod_lt _ (by decide))]
  have hle := Nat.div_le_self (a (i / 32)).toNat (2 ^ (i % 32))
  have eb : bt a i = (a (i / 32)).toNat / 2 ^ (i % 32) % 2 := rfl
  generalize (a (i / 32)).toNat / 2 ^ (i % 32) = y at *
  rw [and_one (by omega) (by omega), eb, Int.toNat_natCast]
set_option maxHeartbeats 8000000 in
theorem powMod_ok {p : Int} {f m r : L} {s : Bool} {q : Nat} {a : Nat → Int} (hp : md p) (hf : NL p f) (hm : NL p m) (h0 : 0 < m.1) (hl : m.1 ≤ 1024) (hq : q ≤ 1024) (ha : ∀ i, 0 ≤ a i ∧ a i < 4294967296) (hr : Rp p m (pw f.2 (bs (bt a) 0 (nb a (tl a q)))) r) : FnOK Tryz.prog false 26 [.c (.int .i64 p), cl f, bi s q a, cl m] (cl r) := by
  have hfr := Rp.rest hp hm h0 hf
  have h1r := Rp.rest hp hm h0 (NL.one hp)
  have hd1 := divide_L hp hf hm h0
  have hd2 := divide_L hp (NL.one hp) hm h0
  have hB := bits_ok (s := s) (n := q) (a := a) (by omega) ha
  have hnb := nb_le (m := tl a q) ha
  have htl := tl_le a q
  generalize hF : rstL p f m = f1 at *
  generalize hO : rstL p one1 m = o1 at *
  generalize nb a (tl a q) = N at *
  refine fn_ok (E := E0) E0_ok Tryz.func26 rfl mixed (by kernel_rfl) (by kernel_rfl) ?_
  conv => whnf
  refine ⟨_, hd1, ?_⟩
  conv => whnf
  refine ⟨fun i j hi hj => ?_, ?_⟩
  · match i, j, hi, hj with
    | 0, 0, _, _ => rfl
  conv => whnf
  refine ⟨_, arg_ok hd2 (fun D w vs h => match vs, h with
    | [_, _, _], ⟨e0, e1, e2, _⟩ => ⟨e0, subCon rfl e1, e2, trivial⟩), ?_⟩
  conv => whnf
  refine ⟨_, hB, ?_⟩
  conv => whnf
  refine ⟨i64 (by omega) (by omega), ?_⟩
  conv => whnf
  refine loop_ints (fun ((k, o) : Nat × L) => ⟨asg [(0, .c (.int .i64 p)), (1, cl f1), (3, cl m), (6, .c (.p 0 0 2 0 0)), (10, cl o), (11, .c (.int .i64 ((k : Int) - 1)))], [⟨26, 2, 1, 0, 0, boxF [.bool s, dl q a]⟩]⟩) (fun (k, _) => k) (fun (k, o) => k ≤ N ∧ Rp p m (pw f.2 (bs (bt a) k (N - k))) o) (N, o1) rfl ?_ (show N ≤ N ∧ Rp p m (pw f.2 (bs (bt a) N (N - N))) o1 from ⟨Nat.le_refl _, by rw [Nat.sub_self]; exact h1r⟩) ?_
  · exact Weak.cut rfl ⟨rfl, rfl, rfl, rfl, rfl, rfl, trivial⟩ rfl ⟨fun _ i j hi hj => match i, j, hi, hj with
      | 0, 0, _, _ => rfl
      | 0, 1, _, _ => rfl, trivial⟩ rfl
  rintro ⟨k, o⟩ hI
  obtain ⟨h1, h2⟩ : k ≤ N ∧ Rp p m (pw f.2 (bs (bt a) k (N - k))) o := hI
  conv => whnf
  refine bcase (fun (h : decide ((0 : Int) ≤ (k : Int) - 1) = true) => ?_) fun (h : decide ((0 : Int) ≤ (k : Int) - 1) = false) => ?_
  · have h := of_decide_eq_true h
    obtain ⟨i, rfl⟩ : ∃ i, k = i + 1 := ⟨k - 1, by omega⟩
    obtain ⟨h3, h4⟩ := h2.mul hp hm (pw_fin (Nm.fin hf) _) hl h2
    rw [← pw_add] at h3
    have ht1 := times_L hp h2.n h2.n (by have := h2.s; omega) (by have := h2.s; omega)
    have hv1 := divide_L hp h4 hm h0
    obtain ⟨h5, h6⟩ := h3.mul hp hm (Nm.fin hf) hl hfr
    have ht2 := times_L hp h3.n hfr.n (by have := h3.s; omega) (by have := hfr.s; omega)
    have hv2 := divide_L hp h6 hm h0
    have eb := bs_low (bt a) i (N - (i + 1))
    rw [show N - (i + 1) + 1 = N - i by omega] at eb
    conv => whnf
    refine ⟨_, ht1, ?_⟩
    conv => whnf
    refine ⟨_, hv1, ?_⟩
    have eI : ((i + 1 : Nat) : Int) - 1 = i := by omega
    have ed : Int.tdiv (((i + 1 : Nat) : Int) - 1) 32 = ((i / 32 : Nat) : Int) := by rw [eI, Int.tdiv_eq_ediv_of_nonneg (by omega)]; omega
    have er : Int.tmod (((i + 1 : Nat) : Int) - 1) 32 = ((i % 32 : Nat) : Int) := by rw [eI, Int.tmod_eq_emod_of_nonneg (by omega)]; omega
    conv => whnf
    refine ⟨by decide, i64 (by rw [ed]; omega) (by rw [ed]; omega), ?_⟩
    conv => whnf
    refine ⟨by rw [ed]; omega, by rw [ed]; omega, ?_⟩
    conv => whnf
    refine ⟨by decide, ?_⟩
    conv => whnf
    refine ⟨by rw [er]; omega, ?_⟩
    conv => whnf
    refine bcase (fun h8 => ?_) fun h8 => ?_
    · have h8 := of_decide_eq_true h8
      rw [bit_eq ha] at h8
      have h9 : bt a i = 1 := by omega
      have h5' := h5
      rw [cf_com] at h5'
      rw [← show pw f.2 (bs (bt a) (i + 1) (N - (i + 1)) + bs (bt a) (i + 1) (N - (i + 1)) + 1) = cf f.2 (pw f.2 (bs (bt a) (i + 1) (N - (i + 1)) + bs (bt a) (i + 1) (N - (i + 1)))) from rfl, show bs (bt a) (i + 1) (N - (i + 1)) + bs (bt a) (i + 1) (N - (i + 1)) + 1 = bs (bt a) i (N - i) by omega] at h5'
      conv => whnf
      refine ⟨_, ht2, ?_⟩
      conv => whnf
      refine ⟨_, hv2, ?_⟩
      conv => whnf
      refine ⟨i64 (by omega) (by omega), ?_⟩
      conv => whnf
      refine ⟨(i, rstL p (mulL p (rstL p (mulL p o o) m) f1) m), by show i < i + 1; omega, Weak.cut rfl ⟨rfl, rfl, rfl, rfl, rfl, ?_, trivial⟩ rfl ⟨fun _ i j hi hj => match i, j, hi, hj with
        | 0, 0, _, _ => rfl
        | 0, 1, _, _ => rfl, trivial⟩ rfl, (show i ≤ N ∧ Rp p m (pw f.2 (bs (bt a) i (N - i))) _ from ⟨by omega, h5'⟩)⟩
      show V.c (Cell.int .i64 (((i + 1 : Nat) : Int) - 1 - 1)) = V.c (Cell.int .i64 ((i : Int) - 1))
      rw [eI]
    · have h8 := of_decide_eq_false h8
      rw [bit_eq ha] at h8
      have h9 : bt a i = 0 := by
        have : bt a i < 2 := Nat.mod_lt _ (by decide)
        omega
      rw [show bs (bt a) (i + 1) (N - (i + 1)) + bs (bt a) (i + 1) (N - (i + 1)) = bs (bt a) i (N - i) by omega] at h3
      conv => whnf
      refine ⟨i64 (by omega) (by omega), ?_⟩
      conv => whnf
      refine ⟨(i, rstL p (mulL p o o) m), by show i < i + 1; omega, Weak.cut rfl ⟨rfl, rfl, rfl, rfl, rfl, ?_, trivial⟩ rfl ⟨fun _ i j hi hj => match i, j, hi, hj with
        | 0, 0, _, _ => rfl
        | 0, 1, _, _ => rfl, trivial⟩ rfl, (show i ≤ N ∧ Rp p m (pw f.2 (bs (bt a) i (N - i))) _ from ⟨by omega, h3⟩)⟩
      show V.c (Cell.int .i64 (((i + 1 : Nat) : Int) - 1 - 1)) = V.c (Cell.int .i64 ((i : Int) - 1))
      rw [eI]
  · have h := of_decide_eq_false h
    obtain rfl : k = 0 := by omega
    rw [Nat.sub_zero] at h2
    obtain rfl := h2.eq hp hm hr
    conv => whnf
    exact ⟨rfl, Sub.refl _⟩
end Fp
end Go.Proofs.YtmfaipklhkgieaaGreat
/- PowMod, and the document's Power. -/
namespace Go.Proofs.YtmfaipklhkgieaaGreat
open Go.RowKit
namespace Fp
theorem refDivide_Lr {p : Int} {x y f g : L} (hp : md p) (hx : x.1 ≤ 4096) (hy : y.1 ≤ 4096) (ex : nfL p x = f) (ey : nfL p y = g) (hm : 0 < g.1) : FnOK Tryz.prog false 29 [.c (.int .i64 p), cl x, cl y] (.t2 (cl (quoL p f g)) (cl (rstL p f g))) := by
  have hF : NL p f := by rw [← ex]; exact NL.nfL hp hx
  have hG : NL p g := by rw [← ey]; exact NL.nfL hp hy
  have hq := hF.quo hp hG hm
  have hr := (hF.rst hp hG hm).1
  have e1 : ∀ i, nf p (f.1 + 1 - g.1) (dq p (inv (g.2 (g.1 - 1)) p) g.1 (f.1 + 1 - g.1) f.2 g.2) i = qt p f.1 g.1 f.2 g.2 i := fun i => by
    unfold nf qt
    by_cases h : i < f.1 + 1 - g.1
    · rw [if_pos h, if_pos h]
      have := dq_range (p := p) (b := inv (g.2 (g.1 - 1)) p) (m := g.1) (N := f.1 + 1 - g.1) (F := f.2) (G := g.2) (by have := hp.1; omega) i
      exact Int.emod_eq_of_lt this.1 this.2
    · rw [if_neg h, if_neg h]
  have e2 : nf p f.1 (rs p f.1 g.1 f.2 g.2) = rs p f.1 g.1 f.2 g.2 := nf_self hr.r fun j hj => hr.z j (by have := tl_le (rs p f.1 g.1 f.2 g.2) f.1; exact Nat.le_trans this hj)
  have e3 : nf p f.1 (dn p (inv (g.2 (g.1 - 1)) p) g.1 (f.1 + 1 - g.1) f.2 g.2 (f.1 + 1 - g.1)) = rs p f.1 g.1 f.2 g.2 := e2
  subst ex ey
  refine sub_ok (refDivide_all (p := p) (n0 := x.1) (m0 := y.1) (a := x.2) (c := y.2) hp hx hy rfl rfl rfl rfl hm hF.r hG.r (hG.l hm) hF.t) (subT2 (subRow ?_ fun i _ => e1 i) ?_)
  · rw [tl_congr fun i _ => e1 i]
    exact hq.t
  · rw [e3]
    exact Sub.refl _
set_option maxHeartbeats 4000000 in
theorem PowMod_no {p : Int} {x y : L} {N : V} (hp : ¬ md p) {s : Bool} {q : Nat} {a : Nat → Int} (hN : N = bi s q a) : FnOK Tryz.prog false 7 [.c (.int .i64 p), cl x, N, cl y] (.t2 (.c .nil) (.c (.int .i64 8))) := by
  subst hN
  refine fn_ok (E := E0) E0_ok Tryz.func7 rfl mixed (by kernel_rfl) (by kernel_rfl) ?_
  conv => whnf
  refine ⟨_, modulus_bad hp, ?_⟩
  conv => whnf
  exact ⟨rfl, Sub.refl _⟩
set_option maxHeartbeats 4000000 in
theorem PowMod_zero {p : Int} {x y : L} (hp : md p) {s : Bool} {q : Nat} {a : Nat → Int} (hy : y.1 ≤ 4096) (h0 : (nfL p y).1 = 0) : FnOK Tryz.prog false 7 [.c (.int .i64 p), cl x, bi s q a, cl y] (.t2 (.c .nil) (.c (.int .i64 5))) := by
  have hN := normal_L (x := y) hp hy
  generalize nfL p y = g at *
  refine fn_ok (E := E0) E0_ok Tryz.func7 rfl mixed (by kernel_rfl) (by kernel_rfl) ?_
  conv => whnf
  refine ⟨_, modulus_ok hp, ?_⟩
  conv => whnf
  refine ⟨_, hN, ?_⟩
  conv => whnf
  refine bpos (show decide ((g.1 : Int) = 0) = true by simp; omega) ?_
  conv => whnf
  exact ⟨rfl, Sub.refl _⟩
set_option maxHeartbeats 4000000 in
theorem PowMod_neg {p : Int} {x y : L} (hp : md p) {s : Bool} {q : Nat} {a : Nat → Int} (hy : y.1 ≤ 4096) (hq : q ≤ 1048576) (h0 : (nfL p y).1 ≠ 0) (hs : (if tl a q = 0 then (0 : Int) else if s then -1 else 1) < 0) : FnOK Tryz.prog false 7 [.c (.int .i64 p), cl x, bi s q a, cl y] (.t2 (.c .nil) (.c (.int .i64 2))) := by
  have hN := normal_L (x := y) hp hy
  have hS := bsign_ok (a := a) (s := s) hq
  generalize (if tl a q = 0 then (0 : Int) else if s then -1 else 1) = sg at *
  generalize nfL p y = g at *
  refine fn_ok (E := E0) E0_ok Tryz.func7 rfl mixed (by kernel_rfl) (by kernel_rfl) ?_
  conv => whnf
  refine ⟨_, modulus_ok hp, ?_⟩
  conv => whnf
  refine ⟨_, hN, ?_⟩
  conv => whnf
  refine bneg (show decide ((g.1 : Int) = 0) = false by simp; omega) ?_
  conv => whnf
  refine ⟨_, hS, ?_⟩
  conv => whnf
  refine bpos (show decide (sg < 0) = true from decide_eq_true hs) ?_
  conv => whnf
  exact ⟨rfl, Sub.refl _⟩
set_option maxHeartbeats 4000000 in
theorem PowMod_ok {p : Int} {x y r : L} (hp : md p) {s : Bool} {q : Nat} {a : Nat → Int} (hx : x.1 ≤ 4096) (hy : y.1 ≤ 1024) (hq : q ≤ 1024) (ha : ∀ i, 0 ≤ a i ∧ a i < 4294967296) (h0 : (nfL p y).1 ≠ 0) (hs : ¬ (if tl a q = 0 then (0 : Int) else if s then -1 else 1) < 0) (hr : Rp p (nfL p y) (pw (nfL p x).2 (bs (bt a) 0 (nb a (tl a q)))) r) : FnOK Tryz.prog false 7 [.c (.int .i64 p), cl x, bi s q a, cl y] (.t2 (cl r) (.c (.int .i64 0))) := by
  have hN := normal_L (x := y) hp (show y.1 ≤ 4096 by omega)
  have hN1 := normal_L (x := x) hp hx
  have hS := bsign_ok (a := a) (s := s) (show q ≤ 1048576 by omega)
  have hP := powMod_ok (s := s) hp (NL.nfL (x := x) hp hx) (NL.nfL (x := y) hp (by omega)) (Nat.pos_of_ne_zero h0) (Nat.le_trans (nfL_le p y) hy) hq ha hr
  clear hr
  generalize (if tl a q = 0 then (0 : Int) else if s then -1 else 1) = sg at *
  generalize nfL p y = g at *
  generalize nfL p x = f at *
  refine fn_ok (E := E0) E0_ok Tryz.func7 rfl mixed (by kernel_rfl) (by kernel_rfl) ?_
  conv => whnf
  refine ⟨_, modulus_ok hp, ?_⟩
  conv => whnf
  refine ⟨_, hN, ?_⟩
  conv => whnf
  refine bneg (show decide ((g.1 : Int) = 0) = false by simp; omega) ?_
  conv => whnf
  refine ⟨_, hS, ?_⟩
  conv => whnf
  refine bneg (show decide (sg < 0) = false from decide_eq_false hs) ?_
  conv => whnf
  refine ⟨_, hN1, ?_⟩
  conv => whnf
  refine ⟨_, hP, ?_⟩
  conv => whnf
  exact ⟨rfl, Sub.refl _⟩
theorem nfL_one {p : Int} (hp : md p) : nfL p one1 = one1 := by
  have h := NL.one hp
  show (tl (nf p one1.1 one1.2) one1.1, nf p one1.1 one1.2) = one1
  rw [h.self, h.t]
theorem nfL_id {p : Int} {x : L} (h : NL p x) : nfL p x = x := by
  show (tl (nf p x.1 x.2) x.1, nf p x.1 x.2) = x
  rw [h.self, h.t]
theorem bs_norm {a : Nat → Int} {m : Nat} (ha : ∀ i, 0 ≤ a i ∧ a i < 4294967296) : bs (bt a) 0 (32 * m) = bs (bt a) 0 (nb a m) := by
  refine bs_more (nb_le ha) fun j h1 h2 => ?_
  unfold nb at h1
  rw [if_neg (by omega)] at h1
  have e1 : j / 32 = m - 1 := by omega
  unfold bt
  rw [e1, Nat.div_eq_of_lt (Nat.lt_of_lt_of_le lb_lt (Nat.pow_le_pow_right (by decide) (by omega)))]
theorem rbit_eq {a : Nat → Int} {i : Nat} (ha : ∀ i, 0 ≤ a i ∧ a i < 4294967296) : Int.tmod ((a (Int.tdiv (i : Int) 32).toNat).fdiv (2 ^ min (IntKind.u64.wrap (Int.tmod (i : Int) 32)).toNat IntKind.u32.bits)) 2 = ((bt a i : Nat) : Int) := by
  have ed : (Int.tdiv (i : Int) 32).toNat = i / 32 := by rw [Int.tdiv_eq_ediv_of_nonneg (by omega)]; omega
  have em : Int.tmod (i : Int) 32 = ((i % 32 : Nat) : Int) := by rw [Int.tmod_eq_emod_of_nonneg (by omega)]; omega
  have ew : IntKind.u64.wrap (((i % 32 : Nat) : Int)) = ((i % 32 : Nat) : Int) := by simp [IntKind.wrap, IntKind.signed, IntKind.bits]; omega
  have h := ha (i / 32)
  rw [ed, em, ew, Int.toNat_natCast, shr_eq h.1 (Nat.mod_lt _ (by decide))]
  have eb : bt a i = (a (i / 32)).toNat / 2 ^ (i % 32) % 2 := rfl
  generalize (a (i / 32)).toNat / 2 ^ (i % 32) = y at *
  rw [Int.tmod_eq_emod_of_nonneg (by omega), eb]
  omega
/-- One type more than the table has. -/
noncomputable def E0u : Env := ⟨Tryz.prog, false, fun T => if T == 58 then some ⟨false, 1, [.int .u64 0], 8, [], none, some .u64, 0⟩ else tyE T, 0⟩
theorem tyU : tyOf Tryz.prog 58 = some ⟨false, 1, [.int .u64 0], 8, [], none, some .u64, 0⟩ := by kernel_rfl
theorem E0u_ok : EnvOK E0u := ⟨fun T ti h => by
  by_cases e : T = 58
  · subst e
    have h : some (⟨false, 1, [.int .u64 0], 8, [], none, some .u64, 0⟩ : TI) = some ti := h
    cases h
    exact tyU
  · have h2 : (if T == 58 then some (⟨false, 1, [.int .u64 0], 8, [], none, some .u64, 0⟩ : TI) else tyE T) = some ti := h
    rw [if_neg (by simpa using e)] at h2
    exact tyE_ok T ti h2⟩
set_option maxHeartbeats 8000000 in
theorem power_ok {p : Int} {x y f m r : L} {s : Bool} {q : Nat} {a : Nat → Int} (hp : md p) (hx : x.1 ≤ 1024) (hy : y.1 ≤ 1024) (ex : nfL p x = f) (ey : nfL p y = m) (h0 : 0 < m.1) (hq : q ≤ 1024) (ha : ∀ i, 0 ≤ a i ∧ a i < 4294967296) (hr : Rp p m (pw f.2 (bs (bt a) 0 (nb a (tl a q)))) r) : FnOK Tryz.prog false 12 [.c (.int .i64 p), cl x, bi s q a, cl y] (cl r) := by
  have hf : NL p f := by rw [← ex]; exact NL.nfL hp (by omega)
  have hm : NL p m := by rw [← ey]; exact NL.nfL hp (by omega)
  have hl : m.1 ≤ 1024 := by rw [← ey]; have := nfL_le p y; omega
  have hfr := Rp.rest hp hm h0 hf
  have h1r := Rp.rest hp hm h0 (NL.one hp)
  have hd1 := refDivide_Lr (x := x) (y := y) hp (by omega) (by omega) ex ey h0
  have hd2 := refDivide_Lr (x := one1) (y := y) hp (by decide) (by omega) (nfL_one hp) ey h0
  have hN := rnorm_ok (s := s) (n := q) (a := a) (by omega)
  have htl := tl_le a q
  rw [← bs_norm ha] at hr
  generalize hF : rstL p f m = f1 at *
  generalize hO : rstL p one1 m = o1 at *
  generalize (s && decide (0 < tl a q)) = s2 at *
  generalize tl a q = M at *
  refine fn_ok (E := E0u) E0u_ok Tryz.func12 rfl mixed (by kernel_rfl) (by kernel_rfl) ?_
  conv => whnf
  refine ⟨_, hd1, ?_⟩
  conv => whnf
  refine ⟨fun i j hi hj => ?_, ?_⟩
  · match i, j, hi, hj with
    | 0, 0, _, _ => rfl
  conv => whnf
  refine ⟨_, arg_ok hd2 (fun D w vs h => match vs, h with
    | [_, _, _], ⟨e0, e1, e2, _⟩ => ⟨e0, subCon rfl e1, e2, trivial⟩), ?_⟩
  conv => whnf
  refine ⟨_, hN, ?_⟩
  conv => whnf
  refine loop_ints (fun ((k, x, o) : Nat × L × L) => ist [(0, .c (.int .i64 p)), (3, cl y), (10, cl x), (12, cl o), (13, .c (dl M a)), (14, .c (.int .i64 k))] []) (fun (k, _, _) => 32 * M - k) (fun (k, x, o) => k ≤ 32 * M ∧ Rp p m (pw f.2 (2 ^ k)) x ∧ Rp p m (pw f.2 (bs (bt a) 0 k)) o) (0, f1, o1) rfl ?_ (show 0 ≤ 32 * M ∧ Rp p m (pw f.2 (2 ^ 0)) f1 ∧ Rp p m (pw f.2 (bs (bt a) 0 0)) o1 from ⟨Nat.zero_le _, by rw [Nat.pow_zero, pw_one]; exact hfr, h1r⟩) ?_
  · exact Weak.ints [] rfl trivial ⟨⟨_, rfl, rfl⟩, ⟨_, _, rfl, rfl, fun _ _ _ _ => rfl⟩, ⟨_, _, rfl, rfl, fun _ _ _ _ => rfl⟩, ⟨_, _, rfl, rfl, fun _ _ _ _ => rfl⟩, ⟨_, _, rfl, rfl, fun _ _ _ _ => rfl⟩, ⟨_, rfl, rfl⟩, trivial⟩
  rintro ⟨i, x1, o⟩ hI
  obtain ⟨h1, h2, h3⟩ : i ≤ 32 * M ∧ Rp p m (pw f.2 (2 ^ i)) x1 ∧ Rp p m (pw f.2 (bs (bt a) 0 i)) o := hI
  conv => whnf
  refine ⟨i64 (by omega) (by omega), ?_⟩
  conv => whnf
  refine bcase (fun (h : decide ((i : Int) < 32 * (M : Int)) = true) => ?_) fun (h : decide ((i : Int) < 32 * (M : Int)) = false) => ?_
  · have h := of_decide_eq_true h
    have ed : Int.tdiv (i : Int) 32 = ((i / 32 : Nat) : Int) := by rw [Int.tdiv_eq_ediv_of_nonneg (by omega)]; omega
    have er : Int.tmod (i : Int) 32 = ((i % 32 : Nat) : Int) := by rw [Int.tmod_eq_emod_of_nonneg (by omega)]; omega
    obtain ⟨h4, h5⟩ := h3.mul hp hm (pw_fin (Nm.fin hf) _) hl h2
    rw [← pw_add] at h4
    obtain ⟨h6, h7⟩ := h2.mul hp hm (pw_fin (Nm.fin hf) _) hl h2
    rw [← pw_add, show 2 ^ i + 2 ^ i = 2 ^ (i + 1) by rw [Nat.pow_succ]; omega] at h6
    have ht1 := refMul_L hp h3.n h2.n (by have := h3.s; omega) (by have := h2.s; omega)
    have hv1 := refDivide_Lr (x := mulL p o x1) (y := y) hp h5.n4 (by omega) (nfL_id h5) ey h0
    have ht2 := refMul_L hp h2.n h2.n (by have := h2.s; omega) (by have := h2.s; omega)
    have hv2 := refDivide_Lr (x := mulL p x1 x1) (y := y) hp h7.n4 (by omega) (nfL_id h7) ey h0
    have eb : bs (bt a) 0 (i + 1) = bs (bt a) 0 i + bt a (0 + i) * 2 ^ i := rfl
    rw [Nat.zero_add] at eb
    conv => whnf
    refine ⟨by decide, i64 (by rw [ed]; omega) (by rw [ed]; omega), ?_⟩
    conv => whnf
    refine ⟨by rw [ed]; omega, by rw [ed]; omega, ?_⟩
    conv => whnf
    refine ⟨by decide, ?_⟩
    have ew : IntKind.u64.wrap (Int.tmod (i : Int) 32) = ((i % 32 : Nat) : Int) := by rw [er]; simp [IntKind.wrap, IntKind.signed, IntKind.bits]; omega
    conv => whnf
    refine ⟨by rw [ew]; omega, ?_⟩
    conv => whnf
    refine ⟨by decide, ?_⟩
    conv => whnf
    refine bcase (fun h8 => ?_) fun h8 => ?_
    · have h8 := of_decide_eq_true h8
      rw [rbit_eq ha] at h8
      have h9 : bt a i = 1 := by omega
      rw [h9, Nat.one_mul] at eb
      rw [← eb] at h4
      conv => whnf
      refine ⟨_, ht1, ?_⟩
      conv => whnf
      refine ⟨_, hv1, ?_⟩
      conv => whnf
      refine ⟨_, ht2, ?_⟩
      conv => whnf
      refine ⟨_, hv2, ?_⟩
      conv => whnf
      refine ⟨i64 (by omega) (by omega), ?_⟩
      conv => whnf
      exact ⟨(i + 1, rstL p (mulL p x1 x1) m, rstL p (mulL p o x1) m), by show 32 * M - (i + 1) < 32 * M - i; omega, Weak.ints [] rfl trivial ⟨⟨_, rfl, rfl⟩, ⟨_, _, rfl, rfl, fun _ _ _ _ => rfl⟩, ⟨_, _, rfl, rfl, fun _ _ _ _ => rfl⟩, ⟨_, _, rfl, rfl, fun _ _ _ _ => rfl⟩, ⟨_, _, rfl, rfl, fun _ _ _ _ => rfl⟩, ⟨_, rfl, rfl⟩, trivial⟩, (show i + 1 ≤ 32 * M ∧ Rp p m (pw f.2 (2 ^ (i + 1))) _ ∧ Rp p m (pw f.2 (bs (bt a) 0 (i + 1))) _ from ⟨by omega, h6, h4⟩)⟩
    · have h8 := of_decide_eq_false h8
      rw [rbit_eq ha] at h8
      have h9 : bt a i = 0 := by
        have : bt a i < 2 := Nat.mod_lt _ (by decide)
        omega
      have eb' : bs (bt a) 0 (i + 1) = bs (bt a) 0 i := by rw [eb, h9]; omega
      rw [← eb'] at h3
      conv => whnf
      refine ⟨_, ht2, ?_⟩
      conv => whnf
      refine ⟨_, hv2, ?_⟩
      conv => whnf
      refine ⟨i64 (by omega) (by omega), ?_⟩
      conv => whnf
      exact ⟨(i + 1, rstL p (mulL p x1 x1) m, o), by show 32 * M - (i + 1) < 32 * M - i; omega, Weak.ints [] rfl trivial ⟨⟨_, rfl, rfl⟩, ⟨_, _, rfl, rfl, fun _ _ _ _ => rfl⟩, ⟨_, _, rfl, rfl, fun _ _ _ _ => rfl⟩, ⟨_, _, rfl, rfl, fun _ _ _ _ => rfl⟩, ⟨_, _, rfl, rfl, fun _ _ _ _ => rfl⟩, ⟨_, rfl, rfl⟩, trivial⟩, (show i + 1 ≤ 32 * M ∧ Rp p m (pw f.2 (2 ^ (i + 1))) _ ∧ Rp p m (pw f.2 (bs (bt a) 0 (i + 1))) _ from ⟨by omega, h6, h3⟩)⟩
  · have h := of_decide_eq_false h
    obtain rfl : i = 32 * M := by omega
    obtain rfl := h3.eq hp hm hr
    conv => whnf
    exact ⟨rfl, Sub.refl _⟩
end Fp
end Go.Proofs.YtmfaipklhkgieaaGreat
/- Frobenius: the p-th power of a sum is the sum of the p-th powers. -/
namespace Go.Proofs.YtmfaipklhkgieaaGreat
namespace Fp
/-- Binomial coefficients. -/
def bn : Nat → Nat → Nat
  | _, 0 => 1
  | 0, _ + 1 => 0
  | n + 1, k + 1 => bn n k + bn n (k + 1)
theorem bn_mul : ∀ n k, (n + 1) * bn n k = bn (n + 1) (k + 1) * (k + 1)
  | 0, 0 => rfl
  | 0, k + 1 => by show (0 + 1) * 0 = (0 + 0) * _; omega
  | n + 1, 0 => by
    have h := bn_mul n 0
    have e1 : bn n 0 = 1 := by cases n <;> rfl
    rw [e1] at h
    have h : (n + 1) * 1 = bn (n + 1) 1 * 1 := h
    show (n + 1 + 1) * 1 = (1 + bn (n + 1) 1) * 1
    omega
  | n + 1, k + 1 => by
    have h1 := bn_mul n k
    have h2 := bn_mul n (k + 1)
    have e1 : bn (n + 1) (k + 1) = bn n k + bn n (k + 1) := rfl
    show (n + 1 + 1) * bn (n + 1) (k + 1) = (bn (n + 1) (k + 1) + bn (n + 1) (k + 1 + 1)) * (k + 1 + 1)
    generalize bn (n + 1) (k + 1 + 1) = D at *
    generalize bn (n + 1) (k + 1) = B at *
    generalize bn n k = A at *
    generalize bn n (k + 1) = C at *
    grind
theorem bn_zero (n : Nat) : bn n 0 = 1 := by cases n <;> rfl
theorem bn_big : ∀ {n k : Nat}, n < k → bn n k = 0
  | 0, k + 1, _ => rfl
  | n + 1, k + 1, h => by
    show bn n k + bn n (k + 1) = 0
    rw [bn_big (show n < k by omega), bn_big (show n < k + 1 by omega)]
theorem bn_self : ∀ n, bn n n = 1
  | 0 => rfl
  | n + 1 => by
    show bn n n + bn n (n + 1) = 1
    rw [bn_self n, bn_big (Nat.lt_succ_self n)]
theorem bn_prime {p : Int} (hp : md p) {k : Nat} (h0 : 0 < k) (hk : k < p.toNat) : ((bn p.toNat k : Nat) : Int) % p = 0 := by
  obtain ⟨j, rfl⟩ : ∃ j, k = j + 1 := ⟨k - 1, by omega⟩
  obtain ⟨n, hn⟩ : ∃ n, p.toNat = n + 1 := ⟨p.toNat - 1, by omega⟩
  have h := bn_mul n j
  rw [← hn] at h
  have hpn : ((p.toNat : Nat) : Int) = p := Int.toNat_of_nonneg (by have := hp.1; omega)
  have hi : (inv ((j + 1 : Nat) : Int) p * ((j + 1 : Nat) : Int)) % p = 1 := inv_spec hp (by rw [Int.emod_eq_of_lt (by omega) (by omega)]; omega)
  have h2 : p * ((bn n j : Nat) : Int) = ((bn p.toNat (j + 1) : Nat) : Int) * ((j + 1 : Nat) : Int) := by
    have := congrArg (fun x : Nat => (x : Int)) h
    simp only [Int.natCast_mul] at this
    rw [hpn] at this
    exact this
  obtain ⟨y, e⟩ := of_rem hi
  generalize ((bn p.toNat (j + 1) : Nat) : Int) = B at *
  generalize ((bn n j : Nat) : Int) = A at *
  generalize ((j + 1 : Nat) : Int) = J at *
  generalize inv J p = I at *
  have e3 : B = p * (I * A - B * y) := by grind
  rw [e3]
  exact Int.mul_emod_right _ _
theorem cf_su {X : Nat → Int} {c : Nat → Int} {A : Nat → Nat → Int} (j : Nat) : ∀ N, cf X (fun i => su (fun k => c k * A k i) N) j = su (fun k => c k * cf X (A k) j) N
  | 0 => by
    show cf X (fun _ => 0) j = 0
    rw [cf_com, cf_nil]
  | N + 1 => by
    show cf X (fun i => su (fun k => c k * A k i) N + c N * A N i) j = su (fun k => c k * cf X (A k) j) N + c N * cf X (A N) j
    rw [cf_add, cf_su j N, cf_comm X (fun i => c N * A N i), cf_smul, cf_comm (A N)]
theorem binom (F G : Nat → Int) : ∀ n, pw (fun i => F i + G i) n = fun i => su (fun k => ((bn n k : Nat) : Int) * cf (pw F k) (pw G (n - k)) i) (n + 1)
  | 0 => by
    funext i
    show oneF i = 0 + ((1 : Nat) : Int) * cf oneF oneF i
    rw [cf_one, Int.zero_add]
    exact (Int.one_mul _).symm
  | n + 1 => by
    funext j
    show cf (fun i => F i + G i) (pw (fun i => F i + G i) n) j = _
    rw [binom F G n, cf_su, su_congr (g := fun k => ((bn n k : Nat) : Int) * cf (pw F (k + 1)) (pw G (n + 1 - (k + 1))) j + ((bn n k : Nat) : Int) * cf (pw F k) (pw G (n + 1 - k)) j) fun k hk => by
      show ((bn n k : Nat) : Int) * cf (fun i => F i + G i) (cf (pw F k) (pw G (n - k))) j = ((bn n k : Nat) : Int) * cf (pw F (k + 1)) (pw G (n + 1 - (k + 1))) j + ((bn n k : Nat) : Int) * cf (pw F k) (pw G (n + 1 - k)) j
      rw [cf_add', Int.mul_add, show n + 1 - (k + 1) = n - k by omega, show n + 1 - k = n - k + 1 by omega]
      rw [show cf F (cf (pw F k) (pw G (n - k))) = cf (pw F (k + 1)) (pw G (n - k)) from (cf_asc _ _ _).symm]
      rw [show cf G (cf (pw F k) (pw G (n - k))) = cf (pw F k) (pw G (n - k + 1)) by
        rw [← cf_asc, cf_com G, cf_asc]
        rfl], su_add]
    -- the second sum, its first term apart
    have e1 : su (fun k => ((bn n k : Nat) : Int) * cf (pw F k) (pw G (n + 1 - k)) j) (n + 1) = cf (pw F 0) (pw G (n + 1 - 0)) j + su (fun k => ((bn n (k + 1) : Nat) : Int) * cf (pw F (k + 1)) (pw G (n + 1 - (k + 1))) j) (n + 1) := by
      rw [su_head]
      show ((bn n 0 : Nat) : Int) * _ + _ = _ + (su (fun k => ((bn n (k + 1) : Nat) : Int) * cf (pw F (k + 1)) (pw G (n + 1 - (k + 1))) j) n + ((bn n (n + 1) : Nat) : Int) * _)
      rw [bn_zero, bn_big (Nat.lt_succ_self n), show ((1 : Nat) : Int) = 1 from rfl, show ((0 : Nat) : Int) = 0 from rfl, Int.one_mul, Int.zero_mul, Int.add_zero]
    have e2 : su (fun k => ((bn (n + 1) k : Nat) : Int) * cf (pw F k) (pw G (n + 1 - k)) j) (n + 1 + 1) = cf (pw F 0) (pw G (n + 1 - 0)) j + su (fun k => ((bn n k : Nat) : Int) * cf (pw F (k + 1)) (pw G (n + 1 - (k + 1))) j + ((bn n (k + 1) : Nat) : Int) * cf (pw F (k + 1)) (pw G (n + 1 - (k + 1))) j) (n + 1) := by
      rw [su_head, bn_zero, show ((1 : Nat) : Int) = 1 from rfl, Int.one_mul]
      congr 1
      refine su_congr fun k _ => ?_
      show ((bn n k + bn n (k + 1) : Nat) : Int) * _ = _
      rw [Int.natCast_add, Int.add_mul]
    rw [e1, e2, su_add]
    omega
theorem frob {p : Int} (hp : md p) (F G : Nat → Int) : Cg p (pw (fun i => F i + G i) p.toNat) fun i => pw F p.toNat i + pw G p.toNat i := fun i => by
  rw [binom]
  obtain ⟨n, hn⟩ : ∃ n, p.toNat = n + 1 := ⟨p.toNat - 1, by have := hp.1; omega⟩
  show (su (fun k => ((bn p.toNat k : Nat) : Int) * cf (pw F k) (pw G (p.toNat - k)) i) p.toNat + ((bn p.toNat p.toNat : Nat) : Int) * cf (pw F p.toNat) (pw G (p.toNat - p.toNat)) i) % p = (pw F p.toNat i + pw G p.toNat i) % p
  rw [bn_self, Nat.sub_self, show ((1 : Nat) : Int) = 1 from rfl, Int.one_mul, show cf (pw F p.toNat) (pw G 0) = pw F p.toNat by show cf _ oneF = _; rw [cf_com, cf_one]]
  have e : su (fun k => ((bn p.toNat k : Nat) : Int) * cf (pw F k) (pw G (p.toNat - k)) i) p.toNat % p = pw G p.toNat i % p := by
    have e1 : ∀ m, m + 1 = p.toNat → su (fun k => ((bn p.toNat k : Nat) : Int) * cf (pw F k) (pw G (p.toNat - k)) i) (m + 1) % p = pw G p.toNat i % p := fun m hm => by
      rw [su_head, bn_zero, show ((1 : Nat) : Int) = 1 from rfl, Int.one_mul, Nat.sub_zero, show cf (pw F 0) (pw G p.toNat) = pw G p.toNat from cf_one _]
      have e2 : su (fun k => ((bn p.toNat (k + 1) : Nat) : Int) * cf (pw F (k + 1)) (pw G (p.toNat - (k + 1))) i) m % p = su (fun _ => 0) m % p := su_mod fun k hk => by
        rw [Int.mul_emod, bn_prime hp (by omega) (by omega), Int.zero_mul, Int.zero_emod]
      rw [su_zero (f := fun _ => 0) fun _ _ => rfl] at e2
      rw [Int.add_emod, e2, Int.zero_emod, Int.add_zero, Int.emod_emod]
    have := e1 n hn.symm
    rwa [← hn] at this
  rw [Int.add_emod, e, ← Int.add_emod, Int.add_comm]
theorem pw_cg {p : Int} {F G : Nat → Int} (h : Cg p F G) : ∀ n, Cg p (pw F n) (pw G n)
  | 0 => Cg.refl _
  | n + 1 => h.cf (pw_cg h n)
theorem bs_congr {b c : Nat → Nat} {k : Nat} : ∀ {n : Nat}, (∀ i, i < n → b (k + i) = c (k + i)) → bs b k n = bs c k n
  | 0, _ => rfl
  | n + 1, h => by
    show bs b k n + _ = bs c k n + _
    rw [bs_congr fun i hi => h i (by omega), h n (by omega)]
/-- The exponent p, as a large integer. -/
theorem bs_of {p : Int} (hp : md p) : bs (bt fun _ => p) 0 (nb (fun _ => p) (tl (fun _ => p) 1)) = p.toNat := by
  have h1 := hp.1
  have h2 := hp.2.1
  have e : tl (fun _ => p) 1 = 1 := by
    show (if p = 0 then 0 else 1) = 1
    rw [if_neg (by omega)]
  rw [e, ← bs_norm fun _ => ⟨by omega, by omega⟩, bs_congr (c := fun j => p.toNat / 2 ^ j % 2) fun i hi => by
    show p.toNat / 2 ^ ((0 + i) % 32) % 2 = p.toNat / 2 ^ (0 + i) % 2
    rw [show (0 + i) % 32 = 0 + i from Nat.mod_eq_of_lt (by omega)], bs_bits]
  exact Nat.mod_eq_of_lt (by omega)
end Fp
end Go.Proofs.YtmfaipklhkgieaaGreat
