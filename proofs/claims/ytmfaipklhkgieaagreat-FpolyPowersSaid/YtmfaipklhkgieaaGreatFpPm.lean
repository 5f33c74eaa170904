/- Powers of a polynomial modulo another one: the program's powMod and PowMod. -/
import Derived.Test.YtmfaipklhkgieaaGreatFpBj
import Derived.Test.YtmfaipklhkgieaaGreatFpPl
import Derived.Test.YtmfaipklhkgieaaGreatFpY
namespace Go.Proofs.YtmfaipklhkgieaaGreat
open Go.RowKit
namespace Fp
theorem subCon {D : Nat → Prop} {w : World} {v : Value} {g : Nat → Nat → Cell} (h : g 0 0 = .int .i64 1) (hv : VRel D w [] (.c (.row 1 1 g)) v) : VRel D w [] (cl one1) v :=
  subRowG rfl (fun i j hi hj => by
    match i, j, hi, hj with
    | 0, 0, _, _ => exact h) D w v hv
theorem and_one {x : Int} (h0 : 0 ≤ x) (h1 : x < 4294967296) : IntKind.u32.wrap ((BitVec.ofInt IntKind.u32.bits x &&& BitVec.ofInt IntKind.u32.bits 1).toNat : Nat) = ((x.toNat % 2 : Nat) : Int) := by
  have e : (BitVec.ofInt IntKind.u32.bits x &&& BitVec.ofInt IntKind.u32.bits 1).toNat = x.toNat % 2 := by
    rw [BitVec.toNat_and]
    have e1 : (BitVec.ofInt IntKind.u32.bits x).toNat = x.toNat := by
      show (BitVec.ofInt 32 x).toNat = _
      rw [BitVec.toNat_ofInt]
      omega
    have e2 : (BitVec.ofInt IntKind.u32.bits 1).toNat = 1 := by decide
    rw [e1, e2, Nat.and_one_is_mod]
  rw [e]
  have := Nat.mod_lt x.toNat (show 0 < 2 by decide)
  simp [IntKind.wrap, IntKind.signed, IntKind.bits]
  omega
theorem shr_eq {x : Int} {k : Nat} (h0 : 0 ≤ x) (hk : k < 32) : x.fdiv (2 ^ min k IntKind.u32.bits) = ((x.toNat / 2 ^ k : Nat) : Int) := by
  rw [show min k IntKind.u32.bits = k from Nat.min_eq_left (Nat.le_of_lt hk), Int.fdiv_eq_ediv_of_nonneg _ (Int.le_of_lt (Int.pow_pos (by decide)))]
  rw [Int.natCast_ediv, Int.natCast_pow, Int.toNat_of_nonneg h0]
  rfl
theorem bit_eq {a : Nat → Int} {i : Nat} (ha : ∀ i, 0 ≤ a i ∧ a i < 4294967296) : IntKind.u32.wrap ((BitVec.ofInt IntKind.u32.bits ((a (Int.tdiv (((i + 1 : Nat) : Int) - 1) 32).toNat).fdiv (2 ^ min (Int.tmod (((i + 1 : Nat) : Int) - 1) 32).toNat IntKind.u32.bits)) &&& BitVec.ofInt IntKind.u32.bits 1).toNat : Nat) = ((bt a i : Nat) : Int) := by
  have eI : ((i + 1 : Nat) : Int) - 1 = i := by omega
  have ed : (Int.tdiv (((i + 1 : Nat) : Int) - 1) 32).toNat = i / 32 := by rw [eI, Int.tdiv_eq_ediv_of_nonneg (by omega)]; omega
  have er : (Int.tmod (((i + 1 : Nat) : Int) - 1) 32).toNat = i % 32 := by rw [eI, Int.tmod_eq_emod_of_nonneg (by omega)]; omega
  have h := ha (i / 32)
  rw [ed, er, shr_eq h.1 (Nat.mod_lt _ (by decide))]
  have hle := Nat.div_le_self (a (i / 32)).toNat (2 ^ (i % 32))
  have eb : bt a i = (a (i / 32)).toNat / 2 ^ (i % 32) % 2 := rfl
  generalize (a (i / 32)).toNat / 2 ^ (i % 32) = y at *
  rw [and_one (by omega) (by omega), eb, Int.toNat_natCast]
set_option maxHeartbeats 8000000 in
theorem powMod_ok {p : Int} {f m r : L} {s : Bool} {q : Nat} {a : Nat → Int} (hp : md p) (hf : NL p f) (hm : NL p m) (h0 : 0 < m.1) (hl : m.1 ≤ 1024) (hq : q ≤ 1024) (ha : ∀ i, 0 ≤ a i ∧ a i < 4294967296) (hr : Rp p m (pw f.2 (bs (bt a) 0 (nb a (tl a q)))) r) : FnOK Tryz.prog false 26 [.c (.int .i64 p), cl f, bi s q a, cl m] (cl r) := by
  have hfr := Rp.rest hp hm h0 hf
  have h1r := Rp.rest hp hm h0 (NL.one hp)
  have hd1 := divide_L hp hf hm h0
  have hd2 := divide_L hp (NL.one hp) hm h0
  have hB := bits_ok (s := s) (n := q) (a := a) (by omega) ha
  have hnb := nb_le (m := tl a q) ha
  have htl := tl_le a q
  generalize hF : rstL p f m = f1 at *
  generalize hO : rstL p one1 m = o1 at *
  generalize nb a (tl a q) = N at *
  refine fn_ok (E := E0) E0_ok Tryz.func26 rfl mixed (by kernel_rfl) (by kernel_rfl) ?_
  conv => whnf
  refine ⟨_, hd1, ?_⟩
  conv => whnf
  refine ⟨fun i j hi hj => ?_, ?_⟩
  · match i, j, hi, hj with
    | 0, 0, _, _ => rfl
  conv => whnf
  refine ⟨_, arg_ok hd2 (fun D w vs h => match vs, h with
    | [_, _, _], ⟨e0, e1, e2, _⟩ => ⟨e0, subCon rfl e1, e2, trivial⟩), ?_⟩
  conv => whnf
  refine ⟨_, hB, ?_⟩
  conv => whnf
  refine ⟨i64 (by omega) (by omega), ?_⟩
  conv => whnf
  refine loop_ints (fun ((k, o) : Nat × L) => ⟨asg [(0, .c (.int .i64 p)), (1, cl f1), (3, cl m), (6, .c (.p 0 0 2 0 0)), (10, cl o), (11, .c (.int .i64 ((k : Int) - 1)))], [⟨26, 2, 1, 0, 0, boxF [.bool s, dl q a]⟩]⟩) (fun (k, _) => k) (fun (k, o) => k ≤ N ∧ Rp p m (pw f.2 (bs (bt a) k (N - k))) o) (N, o1) rfl ?_ (show N ≤ N ∧ Rp p m (pw f.2 (bs (bt a) N (N - N))) o1 from ⟨Nat.le_refl _, by rw [Nat.sub_self]; exact h1r⟩) ?_
  · exact Weak.cut rfl ⟨rfl, rfl, rfl, rfl, rfl, rfl, trivial⟩ rfl ⟨fun _ i j hi hj => match i, j, hi, hj with
      | 0, 0, _, _ => rfl
      | 0, 1, _, _ => rfl, trivial⟩ rfl
  rintro ⟨k, o⟩ hI
  obtain ⟨h1, h2⟩ : k ≤ N ∧ Rp p m (pw f.2 (bs (bt a) k (N - k))) o := hI
  conv => whnf
  refine bcase (fun (h : decide ((0 : Int) ≤ (k : Int) - 1) = true) => ?_) fun (h : decide ((0 : Int) ≤ (k : Int) - 1) = false) => ?_
  · have h := of_decide_eq_true h
    obtain ⟨i, rfl⟩ : ∃ i, k = i + 1 := ⟨k - 1, by omega⟩
    obtain ⟨h3, h4⟩ := h2.mul hp hm (pw_fin (Nm.fin hf) _) hl h2
    rw [← pw_add] at h3
    have ht1 := times_L hp h2.n h2.n (by have := h2.s; omega) (by have := h2.s; omega)
    have hv1 := divide_L hp h4 hm h0
    obtain ⟨h5, h6⟩ := h3.mul hp hm (Nm.fin hf) hl hfr
    have ht2 := times_L hp h3.n hfr.n (by have := h3.s; omega) (by have := hfr.s; omega)
    have hv2 := divide_L hp h6 hm h0
    have eb := bs_low (bt a) i (N - (i + 1))
    rw [show N - (i + 1) + 1 = N - i by omega] at eb
    conv => whnf
    refine ⟨_, ht1, ?_⟩
    conv => whnf
    refine ⟨_, hv1, ?_⟩
    have eI : ((i + 1 : Nat) : Int) - 1 = i := by omega
    have ed : Int.tdiv (((i + 1 : Nat) : Int) - 1) 32 = ((i / 32 : Nat) : Int) := by rw [eI, Int.tdiv_eq_ediv_of_nonneg (by omega)]; omega
    have er : Int.tmod (((i + 1 : Nat) : Int) - 1) 32 = ((i % 32 : Nat) : Int) := by rw [eI, Int.tmod_eq_emod_of_nonneg (by omega)]; omega
    conv => whnf
    refine ⟨by decide, i64 (by rw [ed]; omega) (by rw [ed]; omega), ?_⟩
    conv => whnf
    refine ⟨by rw [ed]; omega, by rw [ed]; omega, ?_⟩
    conv => whnf
    refine ⟨by decide, ?_⟩
    conv => whnf
    refine ⟨by rw [er]; omega, ?_⟩
    conv => whnf
    refine bcase (fun h8 => ?_) fun h8 => ?_
    · have h8 := of_decide_eq_true h8
      rw [bit_eq ha] at h8
      have h9 : bt a i = 1 := by omega
      have h5' := h5
      rw [cf_com] at h5'
      rw [← show pw f.2 (bs (bt a) (i + 1) (N - (i + 1)) + bs (bt a) (i + 1) (N - (i + 1)) + 1) = cf f.2 (pw f.2 (bs (bt a) (i + 1) (N - (i + 1)) + bs (bt a) (i + 1) (N - (i + 1)))) from rfl, show bs (bt a) (i + 1) (N - (i + 1)) + bs (bt a) (i + 1) (N - (i + 1)) + 1 = bs (bt a) i (N - i) by omega] at h5'
      conv => whnf
      refine ⟨_, ht2, ?_⟩
      conv => whnf
      refine ⟨_, hv2, ?_⟩
      conv => whnf
      refine ⟨i64 (by omega) (by omega), ?_⟩
      conv => whnf
      refine ⟨(i, rstL p (mulL p (rstL p (mulL p o o) m) f1) m), by show i < i + 1; omega, Weak.cut rfl ⟨rfl, rfl, rfl, rfl, rfl, ?_, trivial⟩ rfl ⟨fun _ i j hi hj => match i, j, hi, hj with
        | 0, 0, _, _ => rfl
        | 0, 1, _, _ => rfl, trivial⟩ rfl, (show i ≤ N ∧ Rp p m (pw f.2 (bs (bt a) i (N - i))) _ from ⟨by omega, h5'⟩)⟩
      show V.c (Cell.int .i64 (((i + 1 : Nat) : Int) - 1 - 1)) = V.c (Cell.int .i64 ((i : Int) - 1))
      rw [eI]
    · have h8 := of_decide_eq_false h8
      rw [bit_eq ha] at h8
      have h9 : bt a i = 0 := by
        have : bt a i < 2 := Nat.mod_lt _ (by decide)
        omega
      rw [show bs (bt a) (i + 1) (N - (i + 1)) + bs (bt a) (i + 1) (N - (i + 1)) = bs (bt a) i (N - i) by omega] at h3
      conv => whnf
      refine ⟨i64 (by omega) (by omega), ?_⟩
      conv => whnf
      refine ⟨(i, rstL p (mulL p o o) m), by show i < i + 1; omega, Weak.cut rfl ⟨rfl, rfl, rfl, rfl, rfl, ?_, trivial⟩ rfl ⟨fun _ i j hi hj => match i, j, hi, hj with
        | 0, 0, _, _ => rfl
        | 0, 1, _, _ => rfl, trivial⟩ rfl, (show i ≤ N ∧ Rp p m (pw f.2 (bs (bt a) i (N - i))) _ from ⟨by omega, h3⟩)⟩
      show V.c (Cell.int .i64 (((i + 1 : Nat) : Int) - 1 - 1)) = V.c (Cell.int .i64 ((i : Int) - 1))
      rw [eI]
  · have h := of_decide_eq_false h
    obtain rfl : k = 0 := by omega
    rw [Nat.sub_zero] at h2
    obtain rfl := h2.eq hp hm hr
    conv => whnf
    exact ⟨rfl, Sub.refl _⟩
end Fp
end Go.Proofs.YtmfaipklhkgieaaGreat
