/- The document's fractions. -/
import Derived.Test.YtigciplaoikcfaaGreatRfI
import Derived.Test.YtigciplaoikcfaaGreatSpC
namespace Go.Proofs.YtigciplaoikcfaaGreat
open Go.RowKit
namespace Rf
theorem same_nz {x y : Int} (h : zlen x ≤ 1048576) : FnOK Tryz.prog false 126 [.g (nz x), .g (nz y)] (.c (.bool (decide (x = y)))) := by
  refine same_ok (n := (digs x.natAbs).length) (m := (digs y.natAbs).length) (a := ld (digs x.natAbs)) (b := ld (digs y.natAbs)) h ⟨fun e => ?_, fun ⟨h1, h2, h3⟩ => ?_⟩
  · have e := of_decide_eq_true e
    subst e
    exact ⟨rfl, rfl, fun _ _ => rfl⟩
  · refine decide_eq_true ?_
    have hd : digs x.natAbs = digs y.natAbs := List.ext_getElem h2 fun i h4 h5 => by
      have := h3 i h4
      unfold ld at this
      simpa [List.getD, h4, h5] using this
    have hn : x.natAbs = y.natAbs := by rw [← digs_val x.natAbs, hd, digs_val]
    have h1 : decide (x < 0) = decide (y < 0) := h1
    have h1 : x < 0 ↔ y < 0 := decide_eq_decide.1 h1
    omega
set_option maxHeartbeats 4000000 in
theorem divd_ok {a b : RawZ} (ha : wr a) (hb : wr b) (h1 : zlen a.val ≤ 524286) (h2 : zlen b.val ≤ 524286) (h0 : b.val ≠ 0) : FnOK Tryz.prog false 128 [.g (zr a), .g (zr b)] (.g (nz (a.val / b.val))) := by
  have h := euclid_ok ha hb h1 h2 h0
  refine fn_ok (E := E0) E0_ok Tryz.func128 rfl mixed (by kernel_rfl) (by kernel_rfl) ?_
  conv => whnf
  refine ⟨_, h, ?_⟩
  conv => whnf
  exact ⟨rfl, Sub.refl _⟩
set_option maxHeartbeats 4000000 in
theorem rqof_ok {n : Int} (h0 : -9223372036854775808 ≤ n) (h1 : n < 9223372036854775808) : FnOK Tryz.prog false 35 [.c (.int .i64 n)] (.g (nq n)) := by
  have o1 := rof_ok h0 h1
  have o2 := rof_ok (x := 1) (by decide) (by decide)
  refine fn_ok (E := E0) E0_ok Tryz.func35 rfl mixed (by kernel_rfl) (by kernel_rfl) ?_
  conv => whnf
  refine ⟨_, o1, ?_⟩
  conv => whnf
  refine ⟨_, o2, ?_⟩
  conv => whnf
  refine ⟨rfl, leaf (x := (n : Rat)) (n := n) (d := 1) ?_⟩
  unfold ofR; simp
theorem zlen_gcd {x y : Int} {L : Nat} (h : y ≠ 0) (hy : zlen y ≤ L) : zlen ((Nat.gcd x.natAbs y.natAbs : Nat) : Int) ≤ L :=
  Nat.le_trans (zlen_natAbs_le (by rw [Int.natAbs_natCast]; exact Nat.gcd_le_right _ (by omega))) hy
set_option maxHeartbeats 8000000 in
theorem rover_ok {a b : RawZ} (ha : wr a) (hb : wr b) (h1 : zlen a.val ≤ 524286) (h2 : zlen b.val ≤ 524286) : FnOK Tryz.prog false 85 [.g (zr a), .g (zr b)] (.g (nq (ratio a.val b.val))) := by
  have s0 := zsign_ok hb
  have n1 := znorm_ok ha
  have n2 := znorm_ok hb
  have hG := gcd_ok ha hb h1 h2
  have o0 := rqof_ok (n := 0) (by decide) (by decide)
  have o1 := rof_ok (x := 1) (by decide) (by decide)
  rcases Int.lt_trichotomy b.val 0 with c | c | c
  · have e1 : (-a.val) / ((Nat.gcd (-a.val).natAbs (-b.val).natAbs : Nat) : Int) = a.val / -((Nat.gcd a.val.natAbs b.val.natAbs : Nat) : Int) := by
      rw [Int.natAbs_neg, Int.natAbs_neg, Int.ediv_neg, Int.neg_ediv_of_dvd (Int.ofNat_dvd_left.2 (Nat.gcd_dvd_left _ _))]
    have e2 : (-b.val) / ((Nat.gcd (-a.val).natAbs (-b.val).natAbs : Nat) : Int) = b.val / -((Nat.gcd a.val.natAbs b.val.natAbs : Nat) : Int) := by
      rw [Int.natAbs_neg, Int.natAbs_neg, Int.ediv_neg, Int.neg_ediv_of_dvd (Int.ofNat_dvd_left.2 (Nat.gcd_dvd_right _ _))]
    have hR := parts (n := -a.val) (d := -b.val) (by omega)
    rw [ratio_neg, e1, e2] at hR
    have hz := zlen_gcd (x := a.val) (by omega) h2
    have hp : 0 < Nat.gcd a.val.natAbs b.val.natAbs := Nat.gcd_pos_of_pos_right _ (by omega)
    generalize Nat.gcd a.val.natAbs b.val.natAbs = G at *
    have hN := zneg_ok (a := ofZ (G : Nat)) (wr_nz (by omega))
    rw [ofZ_val] at hN
    have hz' : zlen (-(G : Int)) ≤ 524286 := by rw [zlen_neg]; exact hz
    have hS := same_nz (x := -(G : Int)) (y := 1) (by omega)
    have hd1 := divd_ok ha (b := ofZ (-(G : Int))) (wr_nz (by omega)) h1 (by rw [ofZ_val]; exact hz') (by rw [ofZ_val]; omega)
    have hd2 := divd_ok hb (b := ofZ (-(G : Int))) (wr_nz (by omega)) h2 (by rw [ofZ_val]; exact hz') (by rw [ofZ_val]; omega)
    rw [ofZ_val] at hd1 hd2
    have d1 : decide (b.val.sign = 0) = false := by rw [Int.sign_eq_neg_one_of_neg c]; rfl
    have d2 : decide (b.val.sign < 0) = true := by rw [Int.sign_eq_neg_one_of_neg c]; rfl
    have d3 : decide (-(G : Int) = 1) = false := decide_eq_false (by omega)
    refine fn_ok (E := E0) E0_ok Tryz.func85 rfl mixed (by kernel_rfl) (by kernel_rfl) ?_
    conv => whnf
    refine ⟨_, s0, ?_⟩
    conv => whnf
    refine bneg d1 ?_
    conv => whnf
    refine ⟨_, hG, ?_⟩
    conv => whnf
    refine ⟨_, s0, ?_⟩
    conv => whnf
    refine bpos d2 ?_
    conv => whnf
    refine ⟨_, hN, ?_⟩
    conv => whnf
    refine ⟨_, o1, ?_⟩
    conv => whnf
    refine ⟨_, hS, ?_⟩
    conv => whnf
    refine bneg d3 ?_
    conv => whnf
    refine ⟨_, hd1, ?_⟩
    conv => whnf
    refine ⟨_, hd2, ?_⟩
    conv => whnf
    exact ⟨rfl, leaf hR⟩
  · have d1 : decide (b.val.sign = 0) = true := by rw [c]; rfl
    have hR : ratio a.val b.val = 0 := by rw [c]; exact ratio_zero_right _
    rw [hR]
    refine fn_ok (E := E0) E0_ok Tryz.func85 rfl mixed (by kernel_rfl) (by kernel_rfl) ?_
    conv => whnf
    refine ⟨_, s0, ?_⟩
    conv => whnf
    refine bpos d1 ?_
    conv => whnf
    refine ⟨_, o0, ?_⟩
    conv => whnf
    exact ⟨rfl, Sub.refl _⟩
  · have hR := parts (n := a.val) (d := b.val) (by omega)
    have hz := zlen_gcd (x := a.val) (by omega) h2
    have hp : 0 < Nat.gcd a.val.natAbs b.val.natAbs := Nat.gcd_pos_of_pos_right _ (by omega)
    generalize Nat.gcd a.val.natAbs b.val.natAbs = G at *
    have hS := same_nz (x := (G : Int)) (y := 1) (by omega)
    have hd1 := divd_ok ha (b := ofZ (G : Int)) (wr_nz (by omega)) h1 (by rw [ofZ_val]; exact hz) (by rw [ofZ_val]; omega)
    have hd2 := divd_ok hb (b := ofZ (G : Int)) (wr_nz (by omega)) h2 (by rw [ofZ_val]; exact hz) (by rw [ofZ_val]; omega)
    rw [ofZ_val] at hd1 hd2
    have d1 : decide (b.val.sign = 0) = false := by rw [Int.sign_eq_one_of_pos c]; rfl
    have d2 : decide (b.val.sign < 0) = false := by rw [Int.sign_eq_one_of_pos c]; rfl
    refine fn_ok (E := E0) E0_ok Tryz.func85 rfl mixed (by kernel_rfl) (by kernel_rfl) ?_
    conv => whnf
    refine ⟨_, s0, ?_⟩
    conv => whnf
    refine bneg d1 ?_
    conv => whnf
    refine ⟨_, hG, ?_⟩
    conv => whnf
    refine ⟨_, s0, ?_⟩
    conv => whnf
    refine bneg d2 ?_
    conv => whnf
    refine ⟨_, o1, ?_⟩
    conv => whnf
    refine ⟨_, hS, ?_⟩
    conv => whnf
    refine bcase (fun (h : decide ((G : Int) = 1) = true) => ?_) fun (h : decide ((G : Int) = 1) = false) => ?_
    · have hR' : ofR (ratio a.val b.val) = ⟨ofZ a.val, ofZ b.val⟩ := by
        have := of_decide_eq_true h
        rw [this] at hR
        simpa using hR
      conv => whnf
      refine ⟨_, n1, ?_⟩
      conv => whnf
      refine ⟨_, n2, ?_⟩
      conv => whnf
      exact ⟨rfl, leaf hR'⟩
    · conv => whnf
      refine ⟨_, hd1, ?_⟩
      conv => whnf
      refine ⟨_, hd2, ?_⟩
      conv => whnf
      exact ⟨rfl, leaf hR⟩
def wq (q : RawR) : Prop := (wr q.num ∧ wr q.den) ∧ zlen q.num.val ≤ 524286 ∧ zlen q.den.val ≤ 524286
set_option maxHeartbeats 4000000 in
theorem rqnormal_ok {q : RawR} (h : wq q) : FnOK Tryz.prog false 42 [.g (rr q)] (.g (nq q.val)) := by
  have ho := rover_ok h.1.1 h.1.2 h.2.1 h.2.2
  refine fn_ok (E := E0) E0_ok Tryz.func42 rfl mixed (by kernel_rfl) (by kernel_rfl) ?_
  conv => whnf
  refine ⟨_, ho, ?_⟩
  conv => whnf
  exact ⟨rfl, Sub.refl _⟩
theorem bits_nz {x : Int} (h : zlen x ≤ 1048576) : FnOK Tryz.prog false 167 [.g (nz x)] (.c (.int .i64 (lb x.natAbs : Nat))) := by
  have := rbits_ok (s := decide (x < 0)) (ld_ok (digs_ok x.natAbs) (digs x.natAbs).length) h
  rwa [nv_digs] at this
/-- The greater number of bits. -/
def qb (x : Rat) : Nat := max (lb x.num.natAbs) (lb (x.den : Int).natAbs)
end Rf
end Go.Proofs.YtigciplaoikcfaaGreat
