/- The functions Sign, Of, Normal, Neg, Abs of package bigint: what each computes. The lengths are at most 2^40. -/
import Derived.Test.YtlhdliafjconmaaUu11
import Derived.Deep.RegionHeld3
import Derived.Deep.LoopGhost
import Derived.Test.YtlhdliafjconmaaUu10
import Derived.Test.YtlhdliafjconmaaUu5
import Derived.Test.YtlhdliafjconmaaUu9
namespace Go.Proofs.Ytlhdliafjconmaa
open Go.RowKit
theorem trim_pos (ds : List Nat) : 0 < (Dg.trim ds).length ↔ 0 < Dg.val ds := by
  rw [← Dg.val_trim ds]
  have h := Dg.val_eq_zero (Dg.trim_trimmed ds)
  constructor
  · intro h1
    rcases Nat.eq_zero_or_pos (Dg.val (Dg.trim ds)) with h2 | h2
    · rw [h.1 h2] at h1; simp at h1
    · exact h2
  · intro h1
    rcases Nat.eq_zero_or_pos (Dg.trim ds).length with h2 | h2
    · rw [List.length_eq_zero_iff.1 h2] at h1; simp [Dg.val] at h1
    · exact h2
theorem Dig.store {w : World} {A : Option Addr} {n : Nat} {ds : List Nat} (h : Dig w A n ds) (p : Addr) (u : Value) (hp : ∀ d : Int, w.cell? p ≠ some (.int .u32 d)) : Dig (w.setCell p u) A n ds := by
  refine ⟨h.1, h.2.1, fun hn => ?_⟩
  obtain ⟨b, o, hA, hlt, hc⟩ := h.2.2 hn
  refine ⟨b, o, hA, by simpa using hlt, fun i hi => ?_⟩
  rw [World.cell?_setCell_other w p ⟨b, o + i, none⟩ u (fun e => hp _ (by rw [e]; exact hc i hi))]
  exact hc i hi
theorem NInt.store {w : World} {v : Value} {x : Int} {L : Nat} (h : NInt w v x L) (p : Addr) (u : Value) (hp : ∀ d : Int, w.cell? p ≠ some (.int .u32 d)) : NInt (w.setCell p u) v x L := by
  obtain ⟨neg, A, n, c, ds, h1, h2, h3⟩ := h
  exact ⟨neg, A, n, c, ds, h1, h2.store p u hp, h3⟩
/-- The result's own two cells are written. -/
theorem NInt.ret {w : World} {v u0 u1 : Value} {x : Int} {L R n0 c0 : Nat} {b0 : Bool} {A0 : Option Addr} (h : NInt w v x L) (r0 : w.cell? ⟨R, 0, none⟩ = some (.bool b0)) (r1 : w.cell? ⟨R, 1, none⟩ = some (.slice A0 n0 c0)) :
    NInt ((w.setCell ⟨R, 0, none⟩ u0).setCell ⟨R, 1, none⟩ u1) v x L := by
  refine (h.store _ u0 (by rw [r0]; simp)).store _ u1 ?_
  rw [World.cell?_setCell_other w ⟨R, 0, none⟩ ⟨R, 1, none⟩ u0 (by simp), r1]
  simp
theorem cell_ret {w : World} {R B i : Nat} {u0 u1 a : Value} (h : w.cell? ⟨B, i, none⟩ = some a) (hne : B ≠ R) : ((w.setCell ⟨R, 0, none⟩ u0).setCell ⟨R, 1, none⟩ u1).cell? ⟨B, i, none⟩ = some a := by
  rw [World.cell?_setCell_other _ ⟨R, 1, none⟩ ⟨B, i, none⟩ u1 (by intro e; injection e with e1; omega), World.cell?_setCell_other _ ⟨R, 0, none⟩ ⟨B, i, none⟩ u0 (by intro e; injection e with e1; omega)]
  exact h
theorem bel_ret {w w2 : World} {R : Nat} {u0 u1 : Value} (h : Below w.heap.size w w2) (hR : w.heap.size ≤ R) : Below w.heap.size w ((w2.setCell ⟨R, 0, none⟩ u0).setCell ⟨R, 1, none⟩ u1) := (h.setCell (p := ⟨R, 0, none⟩) hR u0).setCell (p := ⟨R, 1, none⟩) hR u1
/-- A machine integer. -/
theorem int_of_any (x : Int) (w : World) (h0 : -9223372036854775808 ≤ x) (h1 : x ≤ 9223372036854775807) :
    Calls Try.prog 41 #[.int .i64 x] w fun e w' => ∃ v, e = .returned v ∧ NInt w' v x 2 ∧ Below w.heap.size w w' := by
  by_cases hx : x < 0
  · have hd : decide (x < 0) = true := by simp; omega
    obtain ⟨q, hq⟩ : ∃ q : Nat, -x = q := Int.eq_ofNat_of_zero_le (by omega)
    have hw : IntKind.u64.wrap (-(IntKind.u64.wrap x)) = (q : Int) := by
      simp [IntKind.wrap, IntKind.bits, IntKind.signed]; omega
    have hqB : q < Dg.B * Dg.B := by rw [Dg.B_eq]; omega
    have HQ := Lib.hid hqB
    have HX := Lib.hid hq
    clear hq hqB h0 h1 hx
    go_enter Try.func41, Try.ntmps41
    go_wp2_with fail
    refine (wide_any q _ HQ.out).mono ?_
    rintro e w1 ⟨v, rfl, ⟨A, n, c, ds, rfl, hd1, hc1, hn1, ht1, hv1⟩, hb1⟩
    have HD := Lib.hid hd1
    have HV := Lib.hid hv1
    clear hd1 hv1 ht1
    go_wp2_with fail
    refine (signed_any true A n c ds _ HD.out (by unfold maxLen; omega) hc1).mono ?_
    rintro e w2 ⟨v, rfl, ⟨neg, A2, n2, c2, ds2, rfl, hd2⟩, hb2⟩
    have HD2 := Lib.hid hd2
    have hb12 := bel_ext hb1 hb2
    have r0 := hb12.cell (p := ⟨w.heap.size, 0, none⟩) (by simp)
    have r1 := hb12.cell (p := ⟨w.heap.size, 1, none⟩) (by simp)
    have f0 := hb12.frozen (p := ⟨w.heap.size, 0, none⟩) (by simp)
    have f1 := hb12.frozen (p := ⟨w.heap.size, 1, none⟩) (by simp)
    simp at r0 r1 f0 f1
    clear hd2 hw hd
    have hbw : Below w.heap.size w w2 := ((Below.refl _ _).alloc (Nat.le_refl _) _).trans (hb12.mono (by simp))
    go_wp2
    refine bodyPost_ret (v := .agg #[.bool neg, .slice A2 n2 c2]) (by simp [results, Try.results41, go_sem, r0, r1]) rfl ⟨_, rfl, ?_, bel_ret hbw (Nat.le_refl _)⟩
    have hN : NInt w2 (.agg #[.bool neg, .slice A2 n2 c2]) (sgn true (Dg.val ds)) n := ⟨neg, A2, n2, c2, ds2, rfl, HD2.out⟩
    have e : sgn true (Dg.val ds) = x := by rw [HV.out]; have := HX.out; simp [sgn]; omega
    rw [e] at hN
    exact (hN.mono hn1).ret r0 r1
  · have hd : decide (x < 0) = false := by simp; omega
    obtain ⟨q, hq⟩ : ∃ q : Nat, x = q := Int.eq_ofNat_of_zero_le (by omega)
    have hw : IntKind.u64.wrap x = (q : Int) := by
      simp [IntKind.wrap, IntKind.bits, IntKind.signed]; omega
    have hqB : q < Dg.B * Dg.B := by rw [Dg.B_eq]; omega
    have HQ := Lib.hid hqB
    have HX := Lib.hid hq
    clear hq hqB h0 h1 hx
    go_enter Try.func41, Try.ntmps41
    go_wp2_with fail
    refine (wide_any q _ HQ.out).mono ?_
    rintro e w1 ⟨v, rfl, ⟨A, n, c, ds, rfl, hd1, hc1, hn1, ht1, hv1⟩, hb1⟩
    have HD := Lib.hid hd1
    have HV := Lib.hid hv1
    clear hd1 hv1 ht1
    go_wp2_with fail
    refine (signed_any false A n c ds _ HD.out (by unfold maxLen; omega) hc1).mono ?_
    rintro e w2 ⟨v, rfl, ⟨neg, A2, n2, c2, ds2, rfl, hd2⟩, hb2⟩
    have HD2 := Lib.hid hd2
    have hb12 := bel_ext hb1 hb2
    have r0 := hb12.cell (p := ⟨w.heap.size, 0, none⟩) (by simp)
    have r1 := hb12.cell (p := ⟨w.heap.size, 1, none⟩) (by simp)
    have f0 := hb12.frozen (p := ⟨w.heap.size, 0, none⟩) (by simp)
    have f1 := hb12.frozen (p := ⟨w.heap.size, 1, none⟩) (by simp)
    simp at r0 r1 f0 f1
    clear hd2 hw hd
    have hbw : Below w.heap.size w w2 := ((Below.refl _ _).alloc (Nat.le_refl _) _).trans (hb12.mono (by simp))
    go_wp2
    refine bodyPost_ret (v := .agg #[.bool neg, .slice A2 n2 c2]) (by simp [results, Try.results41, go_sem, r0, r1]) rfl ⟨_, rfl, ?_, bel_ret hbw (Nat.le_refl _)⟩
    have hN : NInt w2 (.agg #[.bool neg, .slice A2 n2 c2]) (sgn false (Dg.val ds)) n := ⟨neg, A2, n2, c2, ds2, rfl, HD2.out⟩
    have e : sgn false (Dg.val ds) = x := by rw [HV.out]; have := HX.out; simp [sgn]; omega
    rw [e] at hN
    exact (hN.mono hn1).ret r0 r1
end Go.Proofs.Ytlhdliafjconmaa
/- The functions Neg and Abs of package bigint: what each computes. The lengths are at most 2^40. -/
namespace Go.Proofs.Ytlhdliafjconmaa
open Go.RowKit
end Go.Proofs.Ytlhdliafjconmaa
/- The function Mul of package bigint: the product. The lengths are together at most 2^40. -/
namespace Go.Proofs.Ytlhdliafjconmaa
open Go.RowKit
theorem sgn_mul (p q : Bool) (a b : Nat) : sgn (!(p == q)) (a * b) = sgn p a * sgn q b := by
  cases p <;> cases q <;> simp [sgn, Int.neg_mul, Int.mul_neg]
theorem bel_undrew {w w' : World} (h : Below w.drew.heap.size w.drew w') : Below w.heap.size w w' := ⟨h.os, h.tape, h.output, h.size, h.block⟩
/-- Three new blocks of two cells. -/
structure Boxes (w W : World) (a b c d e f : Value) : Prop where
  below : Below w.heap.size w W
  size : w.heap.size + 1 + 1 < W.heap.size
  a0 : W.cell? ⟨w.heap.size, 0, none⟩ = some a
  a1 : W.cell? ⟨w.heap.size, 1, none⟩ = some b
  b0 : W.cell? ⟨w.heap.size + 1, 0, none⟩ = some c
  b1 : W.cell? ⟨w.heap.size + 1, 1, none⟩ = some d
  c0 : W.cell? ⟨w.heap.size + 1 + 1, 0, none⟩ = some e
  c1 : W.cell? ⟨w.heap.size + 1 + 1, 1, none⟩ = some f
  f0 : W.frozen? ⟨w.heap.size + 1 + 1, 0, none⟩ = false
  f1 : W.frozen? ⟨w.heap.size + 1 + 1, 1, none⟩ = false
theorem boxes (w : World) (a b c d e f : Value) (t1 t2 t3 : TypeId) : Boxes w (((w.alloc (.cells #[a, b] t1)).alloc (.cells #[c, d] t2)).alloc (.cells #[e, f] t3)) a b c d e f := by
  have h0 : ((w.alloc (.cells #[a, b] t1)).alloc (.cells #[c, d] t2)).heap.size = w.heap.size + 1 + 1 := by simp
  have h1 : (w.alloc (.cells #[a, b] t1)).heap.size = w.heap.size + 1 := by simp
  have k1 : (((w.alloc (.cells #[a, b] t1)).alloc (.cells #[c, d] t2)).alloc (.cells #[e, f] t3)).heap[w.heap.size]? = some (.cells #[a, b] t1 (0, 0)) := by
    rw [Below.heap_alloc _ _ _ (by omega), Below.heap_alloc _ _ _ (by omega)]; exact heap_alloc_new w _
  have k2 : (((w.alloc (.cells #[a, b] t1)).alloc (.cells #[c, d] t2)).alloc (.cells #[e, f] t3)).heap[w.heap.size + 1]? = some (.cells #[c, d] t2 (0, 0)) := by
    rw [Below.heap_alloc _ _ _ (by omega), ← h1]; exact heap_alloc_new _ _
  have k3 : (((w.alloc (.cells #[a, b] t1)).alloc (.cells #[c, d] t2)).alloc (.cells #[e, f] t3)).heap[w.heap.size + 1 + 1]? = some (.cells #[e, f] t3 (0, 0)) := by
    rw [← h0]; exact heap_alloc_new _ _
  refine ⟨(((Below.refl _ _).alloc (Nat.le_refl _) _).alloc (by omega) _).alloc (by omega) _, by simp, ?_, ?_, ?_, ?_, ?_, ?_, ?_, ?_⟩
  · simp only [World.cell?, k1]; rfl
  · simp only [World.cell?, k1]; rfl
  · simp only [World.cell?, k2]; rfl
  · simp only [World.cell?, k2]; rfl
  · simp only [World.cell?, k3]; rfl
  · simp only [World.cell?, k3]; rfl
  · simp only [World.frozen?, k3]; rfl
  · simp only [World.frozen?, k3]; rfl
set_option maxHeartbeats 1000000 in
theorem int_mul_any (v1 v2 : Value) (x y : Int) (L1 L2 : Nat) (w : World) (hv1 : RInt w v1 x L1) (hv2 : RInt w v2 y L2) (hL : L1 + L2 ≤ LIM) :
    Calls Try.prog 71 #[v1, v2] w fun e w' => ∃ v', e = .returned v' ∧ NInt w' v' (x * y) (L1 + L2) ∧ Below w.heap.size w w' := by
  obtain ⟨ng, A, n, c, ds, rfl, hd, hc, hn, hx⟩ := hv1
  obtain ⟨nh, A', n', c', es, rfl, he, hc', hn', hy⟩ := hv2
  have hm : n ≤ maxLen := by unfold maxLen; unfold LIM at hL; omega
  have hm' : n' ≤ maxLen := by unfold maxLen; unfold LIM at hL; omega
  have hle : (Dg.trim ds).length ≤ n := by have := trim_length ds; have := hd.len; omega
  have hle' : (Dg.trim es).length ≤ n' := by have := trim_length es; have := he.len; omega
  have H := Lib.hid hd
  have K := Lib.hid he
  have HX := Lib.hid hx
  have HY := Lib.hid hy
  have HL := Lib.hid (show (Dg.trim ds).length + (Dg.trim es).length ≤ LIM by omega)
  have HT := Lib.hid (show (Dg.trim ds).length + (Dg.trim es).length ≤ L1 + L2 by omega)
  have HLL := Lib.hid hL
  have T1 := Lib.hid (fun W hW => trimmed_any A n c ds W (H.out.below (w' := W) hW) hm hc)
  have T2 := Lib.hid (fun W hW => trimmed_any A' n' c' es W (K.out.below (w' := W) hW) hm' hc')
  clear hd he hx hy hm hm' hL hle hle'
  go_enter Try.func71, Try.ntmps71
  go_wp2_with fail
  have hbx := boxes w (.bool ng) (.slice A n c) (.bool nh) (.slice A' n' c') (.bool false) (.slice none 0 0) 26 26 26
  generalize ((w.alloc (.cells #[.bool ng, .slice A n c] 26)).alloc (.cells #[.bool nh, .slice A' n' c'] 26)).alloc (.cells #[.bool false, .slice none 0 0] 26) = W0 at hbx ⊢
  obtain ⟨hb0, hsz, c0, c1, c2, c3, q0, q1, f0, f1⟩ := hbx
  have hsz0 : w.heap.size < W0.heap.size := by omega
  have hsz1 : w.heap.size + 1 < W0.heap.size := by omega
  have HB0 := Lib.hid hb0
  have S0 := Lib.hid (And.intro c0 (And.intro c1 (And.intro c2 c3)))
  have Q0 := Lib.hid (And.intro q0 (And.intro q1 (And.intro f0 f1)))
  have SK : ∀ w1 : World, Below W0.heap.size W0 w1 → w1.cell? ⟨w.heap.size, 0, none⟩ = some (.bool ng) ∧ w1.cell? ⟨w.heap.size, 1, none⟩ = some (.slice A n c) ∧ w1.cell? ⟨w.heap.size + 1, 0, none⟩ = some (.bool nh) ∧ w1.cell? ⟨w.heap.size + 1, 1, none⟩ = some (.slice A' n' c') :=
    fun w1 hb => ⟨(hb.cell (p := ⟨w.heap.size, 0, none⟩) hsz0).trans c0, (hb.cell (p := ⟨w.heap.size, 1, none⟩) hsz0).trans c1, (hb.cell (p := ⟨w.heap.size + 1, 0, none⟩) hsz1).trans c2, (hb.cell (p := ⟨w.heap.size + 1, 1, none⟩) hsz1).trans c3⟩
  have HSK := Lib.hid SK
  clear hb0 c0 c1 c2 c3 q0 q1 f0 f1 SK
  go_region_held3 (fun w' => w'.cell? ⟨w.heap.size, 0, none⟩ = some (.bool ng) ∧ w'.cell? ⟨w.heap.size, 1, none⟩ = some (.slice A n c) ∧ w'.cell? ⟨w.heap.size + 1, 0, none⟩ = some (.bool nh) ∧ w'.cell? ⟨w.heap.size + 1, 1, none⟩ = some (.slice A' n' c')) (first | exact S2.out | exact ⟨cell_ret S2.out.1 (by omega), cell_ret S2.out.2.1 (by omega), cell_ret S2.out.2.2.1 (by omega), cell_ret S2.out.2.2.2 (by omega)⟩ | exact S1.out | exact S0.out) (first
    | (go_at_call 76; refine (times_any A A' _ c _ c' (Dg.trim ds) (Dg.trim es) _ (H.out.trim.below HB0.out.drew) (K.out.trim.below HB0.out.drew) HL.out).mono ?_; rintro e w1 ⟨v, rfl, ⟨A1, n1, c1, fs, rfl, hd1, hc1, hn1, hv1⟩, hb1⟩; have HD1 := Lib.hid hd1; have HV1 := Lib.hid hv1; have hb1' := bel_undrew hb1; have HB1 := Lib.hid hb1'; have S1 := Lib.hid (HSK.out w1 hb1'); clear hd1 hb1 hb1' hv1)
    | (go_at_call 57; refine (signed_any (!(ng == nh)) A1 n1 c1 fs _ HD1.out (by have := HLL.out; have := HT.out; unfold LIM at *; unfold maxLen; omega) hc1).mono ?_; rintro e w2 ⟨v, rfl, ⟨neg2, A2, n2, c2, ds2, rfl, hd2⟩, hb2⟩; have HD2 := Lib.hid hd2; have hb12 := bel_ext HB1.out hb2; have S2 := Lib.hid (HSK.out w2 hb12); have r0 := (hb12.cell (p := ⟨w.heap.size + 1 + 1, 0, none⟩) hsz).trans Q0.out.1; have r1 := (hb12.cell (p := ⟨w.heap.size + 1 + 1, 1, none⟩) hsz).trans Q0.out.2.1; have g0 := (hb12.frozen (p := ⟨w.heap.size + 1 + 1, 0, none⟩) hsz).trans Q0.out.2.2.1; have g1 := (hb12.frozen (p := ⟨w.heap.size + 1 + 1, 1, none⟩) hsz).trans Q0.out.2.2.2; have HB2 := Lib.hid hb12; clear hd2 hb2 hb12)
    | (go_at_call_of 70 (Value.slice A n c); refine (T1.out _ HB0.out.drew).mono ?_; rintro e w8 ⟨rfl, rfl⟩)
    | (go_at_call 70; refine (T2.out _ HB0.out.drew).mono ?_; rintro e w8 ⟨rfl, rfl⟩))
  go_wp2
  have hbw : Below w.heap.size w w2 := HB0.out.trans (HB2.out.mono HB0.out.size)
  refine bodyPost_ret (v := .agg #[.bool neg2, .slice A2 n2 c2]) (by simp [results, Try.results71, go_sem, r0, r1]) rfl ⟨_, rfl, ?_, bel_ret hbw (by omega)⟩
  have hN : NInt w2 (.agg #[.bool neg2, .slice A2 n2 c2]) (sgn (!(ng == nh)) (Dg.val fs)) n1 := ⟨neg2, A2, n2, c2, ds2, rfl, HD2.out⟩
  rw [HV1.out, Dg.val_trim, Dg.val_trim, sgn_mul, ← HX.out, ← HY.out] at hN
  exact (hN.mono (Nat.le_trans hn1 HT.out)).ret r0 r1
end Go.Proofs.Ytlhdliafjconmaa
/- The function add of package bigint: the sum of an integer and of another one that is given by its sign and digits. The lengths are at most 2^39. -/
namespace Go.Proofs.Ytlhdliafjconmaa
open Go.RowKit
/-- Two new blocks of two cells. -/
structure Boxes2 (w W : World) (a b e f : Value) : Prop where
  below : Below w.heap.size w W
  size : w.heap.size + 1 < W.heap.size
  a0 : W.cell? ⟨w.heap.size, 0, none⟩ = some a
  a1 : W.cell? ⟨w.heap.size, 1, none⟩ = some b
  c0 : W.cell? ⟨w.heap.size + 1, 0, none⟩ = some e
  c1 : W.cell? ⟨w.heap.size + 1, 1, none⟩ = some f
  f0 : W.frozen? ⟨w.heap.size + 1, 0, none⟩ = false
  f1 : W.frozen? ⟨w.heap.size + 1, 1, none⟩ = false
end Go.Proofs.Ytlhdliafjconmaa
/- The functions Add and Sub of package bigint: the sum and the difference. The lengths are at most 2^40. -/
namespace Go.Proofs.Ytlhdliafjconmaa
open Go.RowKit
end Go.Proofs.Ytlhdliafjconmaa
/- The function common of package bigint: the greatest common divisor by digits. The lengths are below 2^40. -/
namespace Go.Proofs.Ytlhdliafjconmaa
open Go.RowKit
end Go.Proofs.Ytlhdliafjconmaa
/- The function Gcd of package bigint: the greatest common divisor. The lengths are below 2^40. -/
namespace Go.Proofs.Ytlhdliafjconmaa
open Go.RowKit
end Go.Proofs.Ytlhdliafjconmaa
/- The function DivMod of package bigint: quotient and remainder, the remainder not negative. The lengths are below 2^40. -/
namespace Go.Proofs.Ytlhdliafjconmaa
open Go.RowKit
theorem sgn_div {p q : Bool} {a b : Nat} (hb : 0 < b) (h : p = false ∨ a % b = 0) : sgn p a / sgn q b = sgn (!(p == q)) (a / b) ∧ sgn p a % sgn q b = (a % b : Nat) := by
  have hd := Nat.div_add_mod a b
  have hm := Nat.mod_lt a hb
  have key : ∀ x y r k : Int, y ≠ 0 → 0 ≤ r → r < y.natAbs → r + y * k = x → x / y = k ∧ x % y = r := by
    intro x y r k hy h0 h1 h2
    subst h2
    refine ⟨?_, ?_⟩
    · rw [Int.add_mul_ediv_left _ _ hy]
      have : r / y = 0 := by
        rcases Int.natAbs_eq y with e | e
        · rw [e]; exact Int.ediv_eq_zero_of_lt h0 (by omega)
        · rw [e, Int.ediv_neg, Int.ediv_eq_zero_of_lt h0 (by omega)]; rfl
      omega
    · rw [Int.add_mul_emod_self_left]
      rcases Int.natAbs_eq y with e | e
      · rw [e]; exact Int.emod_eq_of_lt h0 (by omega)
      · rw [e, Int.emod_neg]; exact Int.emod_eq_of_lt h0 (by omega)
  generalize a / b = k at *
  generalize a % b = m at *
  have hi : (b : Int) * k + m = a := by rw [← Int.natCast_mul, ← Int.natCast_add, hd]
  generalize ht : (b : Int) * k = t at *
  apply key
  · cases q <;> simp [sgn] <;> omega
  · omega
  · cases q <;> simp [sgn] <;> omega
  · rcases h with rfl | h
    · cases q <;> simp [sgn, Int.mul_neg, Int.neg_mul, ht] <;> omega
    · rw [h] at hi ⊢
      cases p <;> cases q <;> simp [sgn, Int.mul_neg, Int.neg_mul, ht] at hi ⊢ <;> omega
/-- A negative number with a remainder: one more, and what is missing. -/
theorem sgn_div_up {q : Bool} {a b : Nat} (hb : 0 < b) (h : 0 < a % b) : sgn true a / sgn q b = sgn (!(true == q)) (a / b + 1) ∧ sgn true a % sgn q b = (b - a % b : Nat) := by
  have hd := Nat.div_add_mod a b
  have hm := Nat.mod_lt a hb
  have e : ∃ c : Nat, c + a = b * (a / b + 1) ∧ c = b - a % b ∧ c < b := ⟨b - a % b, by rw [Nat.mul_add]; omega, rfl, by omega⟩
  obtain ⟨c, hc, hc2, hc3⟩ := e
  rw [← hc2]
  generalize a / b + 1 = k at *
  have hi : (c : Int) + a = (b : Int) * k := by rw [← Int.natCast_mul, ← Int.natCast_add, hc]
  generalize ht : (b : Int) * k = t at *
  have hy : sgn q b ≠ 0 := by cases q <;> simp [sgn] <;> omega
  have hx : sgn true a = c + sgn q b * sgn (!(true == q)) k := by
    cases q <;> simp [sgn, Int.mul_neg, Int.neg_mul, ht] <;> omega
  have ha : (c : Int) < (sgn q b).natAbs := by cases q <;> simp [sgn] <;> omega
  rw [hx]
  refine ⟨?_, ?_⟩
  · rw [Int.add_mul_ediv_left _ _ hy]
    have : (c : Int) / sgn q b = 0 := by
      rcases Int.natAbs_eq (sgn q b) with e | e
      · rw [e]; exact Int.ediv_eq_zero_of_lt (by omega) (by omega)
      · rw [e, Int.ediv_neg, Int.ediv_eq_zero_of_lt (by omega) (by omega)]; rfl
    omega
  · rw [Int.add_mul_emod_self_left]
    rcases Int.natAbs_eq (sgn q b) with e | e
    · rw [e]; exact Int.emod_eq_of_lt (by omega) (by omega)
    · rw [e, Int.emod_neg]; exact Int.emod_eq_of_lt (by omega) (by omega)
end Go.Proofs.Ytlhdliafjconmaa
/- The function DivMod of package bigint at a divisor other than 0: quotient and remainder, the remainder not negative. The lengths are below 2^40. -/
namespace Go.Proofs.Ytlhdliafjconmaa
open Go.RowKit
/-- Four new blocks of two cells. -/
structure Boxes4 (w W : World) (a b c d e f : Value) : Prop where
  below : Below w.heap.size w W
  size : w.heap.size + 1 + 1 + 1 < W.heap.size
  a0 : W.cell? ⟨w.heap.size, 0, none⟩ = some a
  a1 : W.cell? ⟨w.heap.size, 1, none⟩ = some b
  b0 : W.cell? ⟨w.heap.size + 1, 0, none⟩ = some c
  b1 : W.cell? ⟨w.heap.size + 1, 1, none⟩ = some d
  c0 : W.cell? ⟨w.heap.size + 1 + 1, 0, none⟩ = some e
  c1 : W.cell? ⟨w.heap.size + 1 + 1, 1, none⟩ = some f
  f0 : W.frozen? ⟨w.heap.size + 1 + 1, 0, none⟩ = false
  f1 : W.frozen? ⟨w.heap.size + 1 + 1, 1, none⟩ = false
  d0 : W.cell? ⟨w.heap.size + 1 + 1 + 1, 0, none⟩ = some e
  d1 : W.cell? ⟨w.heap.size + 1 + 1 + 1, 1, none⟩ = some f
  g0 : W.frozen? ⟨w.heap.size + 1 + 1 + 1, 0, none⟩ = false
  g1 : W.frozen? ⟨w.heap.size + 1 + 1 + 1, 1, none⟩ = false
theorem boxes4 (w : World) (a b c d e f : Value) (t : TypeId) : Boxes4 w ((((w.alloc (.cells #[a, b] t)).alloc (.cells #[c, d] t)).alloc (.cells #[e, f] t)).alloc (.cells #[e, f] t)) a b c d e f := by
  have hx := boxes w a b c d e f t t t
  have hs : (((w.alloc (.cells #[a, b] t)).alloc (.cells #[c, d] t)).alloc (.cells #[e, f] t)).heap.size = w.heap.size + 1 + 1 + 1 := by simp
  generalize ((w.alloc (.cells #[a, b] t)).alloc (.cells #[c, d] t)).alloc (.cells #[e, f] t) = W at hx hs
  obtain ⟨h1, h2, h3, h4, h5, h6, h7, h8, h9, h10⟩ := hx
  have hb : Below W.heap.size W (W.alloc (.cells #[e, f] t)) := (Below.refl _ _).alloc (Nat.le_refl _) _
  have k : (W.alloc (.cells #[e, f] t)).heap[w.heap.size + 1 + 1 + 1]? = some (.cells #[e, f] t (0, 0)) := by rw [← hs]; exact heap_alloc_new _ _
  have l0 : w.heap.size < W.heap.size := by omega
  have l1 : w.heap.size + 1 < W.heap.size := by omega
  refine ⟨h1.trans (hb.mono (by omega)), by simp; omega, (hb.cell (p := ⟨w.heap.size, 0, none⟩) l0).trans h3, (hb.cell (p := ⟨w.heap.size, 1, none⟩) l0).trans h4, (hb.cell (p := ⟨w.heap.size + 1, 0, none⟩) l1).trans h5, (hb.cell (p := ⟨w.heap.size + 1, 1, none⟩) l1).trans h6, (hb.cell (p := ⟨w.heap.size + 1 + 1, 0, none⟩) h2).trans h7, (hb.cell (p := ⟨w.heap.size + 1 + 1, 1, none⟩) h2).trans h8, (hb.frozen (p := ⟨w.heap.size + 1 + 1, 0, none⟩) h2).trans h9, (hb.frozen (p := ⟨w.heap.size + 1 + 1, 1, none⟩) h2).trans h10, ?_, ?_, ?_, ?_⟩
  · simp only [World.cell?, k]; rfl
  · simp only [World.cell?, k]; rfl
  · simp only [World.frozen?, k]; rfl
  · simp only [World.frozen?, k]; rfl
/-- What DivMod hands back. -/
def DmPost (x y : Int) (L1 L2 : Nat) (w : World) (e : Ending) (w' : World) : Prop := ∃ q r, e = .returned (.tuple #[q, r, .int .i64 0]) ∧ NInt w' q (x / y) (L1 + 1) ∧ NInt w' r (x % y) L2 ∧ Below w.heap.size w w'
/-- The stores of both results, and what they leave. -/
theorem dm_fin {x y k r : Int} {L1 L2 n3 n4 n5 c5 n6 c6 : Nat} {w w2 w3 : World} {neg5 neg6 : Bool} {A5 A6 : Option Addr} {ds5 ds6 : List Nat}
    (h5 : Dig w2 A5 n5 ds5 ∧ n5 ≤ c5 ∧ n5 ≤ n3 ∧ k = sgn neg5 (Dg.val ds5) ∧ Dg.trimmed ds5 ∧ (neg5 = true → 0 < n5)) (hb3 : Below w2.heap.size w2 w3)
    (h6 : Dig w3 A6 n6 ds6 ∧ n6 ≤ c6 ∧ n6 ≤ n4 ∧ r = sgn neg6 (Dg.val ds6) ∧ Dg.trimmed ds6 ∧ (neg6 = true → 0 < n6))
    (e0 : w3.cell? ⟨w.heap.size + 1 + 1, 0, none⟩ = some (.bool false)) (e1 : w3.cell? ⟨w.heap.size + 1 + 1, 1, none⟩ = some (.slice none 0 0))
    (s0 : w3.cell? ⟨w.heap.size + 1 + 1 + 1, 0, none⟩ = some (.bool false)) (s1 : w3.cell? ⟨w.heap.size + 1 + 1 + 1, 1, none⟩ = some (.slice none 0 0))
    (hq : x / y = k) (hr : x % y = r) (hn3 : n3 ≤ L1 + 1) (hn4 : n4 ≤ L2) (hbw : Below w.heap.size w w3) :
    DmPost x y L1 L2 w (.returned (.tuple #[.agg #[.bool neg5, .slice A5 n5 c5], .agg #[.bool neg6, .slice A6 n6 c6], .int .i64 0])) ((((w3.setCell ⟨w.heap.size + 1 + 1, 0, none⟩ (.bool neg5)).setCell ⟨w.heap.size + 1 + 1, 1, none⟩ (.slice A5 n5 c5)).setCell ⟨w.heap.size + 1 + 1 + 1, 0, none⟩ (.bool neg6)).setCell ⟨w.heap.size + 1 + 1 + 1, 1, none⟩ (.slice A6 n6 c6)) := by
  have hN5 : NInt w2 (.agg #[.bool neg5, .slice A5 n5 c5]) k n3 := ⟨neg5, A5, n5, c5, ds5, rfl, h5⟩
  have hN6 : NInt w3 (.agg #[.bool neg6, .slice A6 n6 c6]) r n4 := ⟨neg6, A6, n6, c6, ds6, rfl, h6⟩
  rw [← hq] at hN5
  rw [← hr] at hN6
  exact ⟨_, _, rfl, (((hN5.mono hn3).below hb3).ret e0 e1).ret (cell_ret s0 (by omega)) (cell_ret s1 (by omega)), ((hN6.mono hn4).ret e0 e1).ret (cell_ret s0 (by omega)) (cell_ret s1 (by omega)), bel_ret (bel_ret hbw (by omega)) (by omega)⟩
set_option maxRecDepth 100000 in
set_option maxHeartbeats 1000000 in
theorem divMod_any (v1 v2 : Value) (x y : Int) (L1 L2 : Nat) (w : World) (hv1 : RInt w v1 x L1) (hv2 : RInt w v2 y L2) (hL1 : L1 + 2 ≤ LIM) (hL2 : L2 + 1 ≤ LIM) (hy0 : y ≠ 0) :
    Calls Try.prog 61 #[v1, v2] w (DmPost x y L1 L2 w) := by
  obtain ⟨ng, A, n, c, ds, rfl, hd, hc, hn, hx⟩ := hv1
  obtain ⟨nh, A', n', c', es, rfl, he, hc', hn', hy⟩ := hv2
  have hm : n ≤ maxLen := by unfold maxLen; unfold LIM at hL1; omega
  have hm' : n' ≤ maxLen := by unfold maxLen; unfold LIM at hL2; omega
  have hle : (Dg.trim ds).length ≤ n := by have := trim_length ds; have := hd.len; omega
  have hle' : (Dg.trim es).length ≤ n' := by have := trim_length es; have := he.len; omega
  have hpos : 0 < Dg.val es := by
    rcases Nat.eq_zero_or_pos (Dg.val es) with h | h
    · rw [h] at hy; exact absurd (by rw [hy]; cases nh <;> rfl) hy0
    · exact h
  have hlp := (trim_pos es).2 hpos
  have hb0 : (((Dg.trim es).length : Int) == 0) = false := by rw [beq_eq_false_iff_ne]; omega
  have H := Lib.hid hd
  have K := Lib.hid he
  have HX := Lib.hid hx
  have HY := Lib.hid hy
  have HT1 := Lib.hid (show (Dg.trim ds).length ≤ L1 by omega)
  have HT2 := Lib.hid (show (Dg.trim es).length ≤ L2 by omega)
  have HL1 := Lib.hid hL1
  have HL2 := Lib.hid hL2
  have HP := Lib.hid hpos
  have T1 := Lib.hid (fun W hW => trimmed_any A n c ds W (H.out.below (w' := W) hW) hm hc)
  have T2 := Lib.hid (fun W hW => trimmed_any A' n' c' es W (K.out.below (w' := W) hW) hm' hc')
  clear hd he hx hy hm hm' hL1 hL2 hle hle' hpos hlp hy0
  have hbx := boxes4 w (.bool ng) (.slice A n c) (.bool nh) (.slice A' n' c') (.bool false) (.slice none 0 0) 26
  go_enter Try.func61, Try.ntmps61
  go_wp2_with fail
  generalize (((w.alloc (.cells #[.bool ng, .slice A n c] 26)).alloc (.cells #[.bool nh, .slice A' n' c'] 26)).alloc (.cells #[.bool false, .slice none 0 0] 26)).alloc (.cells #[.bool false, .slice none 0 0] 26) = W0 at hbx ⊢
  obtain ⟨hb0', hsz, c0, c1, c2, c3, q0, q1, f0, f1, p0, p1, g0, g1⟩ := hbx
  have hsz0 : w.heap.size < W0.heap.size := by omega
  have hsz1 : w.heap.size + 1 < W0.heap.size := by omega
  have hsz2 : w.heap.size + 1 + 1 < W0.heap.size := by omega
  have HB0 := Lib.hid hb0'
  refine (T2.out _ HB0.out).mono ?_
  rintro e w8 ⟨rfl, rfl⟩
  go_wp2_with fail
  refine (T1.out _ HB0.out).mono ?_
  rintro e w8 ⟨rfl, rfl⟩
  go_wp2_with fail
  refine (divide_any _ _ _ _ _ _ (Dg.trim ds) (Dg.trim es) _ (H.out.trim.below HB0.out) (K.out.trim.below HB0.out) (Dg.trim_trimmed ds) (Dg.trim_trimmed es) (by have := HT1.out; have := HL1.out; omega) (by have := HT2.out; have := HL2.out; omega) (by rw [Dg.val_trim]; exact HP.out)).mono ?_
  rintro e w1 ⟨u1, u2, rfl, ⟨A3, n3, k3, qs, rfl, hd3, hk3, hn3, _, hv3⟩, ⟨A4, n4, k4, rs, rfl, hd4, hk4, hn4, ht4, hv4⟩, hb1⟩
  rw [Dg.val_trim, Dg.val_trim] at hv3 hv4
  have H3 := Lib.hid hd3
  have HV3 := Lib.hid hv3
  have H4 := Lib.hid hd4
  have HV4 := Lib.hid hv4
  have HT4 := Lib.hid ht4
  have HM3 := Lib.hid (show n3 ≤ maxLen by have := HT1.out; have := HL1.out; unfold LIM at *; unfold maxLen; omega)
  have HM4 := Lib.hid (show n4 ≤ maxLen by have := HT2.out; have := HL2.out; unfold LIM at *; unfold maxLen; omega)
  have HN3 := Lib.hid hn3
  have HN4 := Lib.hid hn4
  have c0 := (hb1.cell (p := ⟨w.heap.size, 0, none⟩) hsz0).trans c0
  have c2 := (hb1.cell (p := ⟨w.heap.size + 1, 0, none⟩) hsz1).trans c2
  have HB1 := Lib.hid hb1
  clear hd3 hd4 hv3 hv4 ht4 hb1 hb0' c1 c3
  have hng : ng = false ∨ (ng = true ∧ n4 = 0) ∨ (ng = true ∧ 0 < n4) := by
    rcases Bool.eq_false_or_eq_true ng with h | h
    · rcases Nat.eq_zero_or_pos n4 with h2 | h2
      · exact .inr (.inl ⟨h, h2⟩)
      · exact .inr (.inr ⟨h, h2⟩)
    · exact .inl h
  rcases hng with rfl | ⟨rfl, rfl⟩ | ⟨rfl, hn4⟩
  · have HZ := Lib.hid (sgn_div (p := false) (q := nh) (a := Dg.val ds) HP.out (.inl rfl))
    go_wp2_with fail
    refine (signed_any nh A3 n3 k3 qs _ H3.out HM3.out hk3).mono ?_
    rintro e w2 ⟨v, rfl, ⟨neg5, A5, n5, c5, ds5, rfl, hd5⟩, hb2⟩
    have HB2 := Lib.hid hb2
    have H5 := Lib.hid hd5
    clear hd5 hb2
    go_wp2_with fail
    refine (signed_any false A4 n4 k4 rs _ (H4.out.below HB2.out) HM4.out hk4).mono ?_
    rintro e w3 ⟨v, rfl, ⟨neg6, A6, n6, c6, ds6, rfl, hd6⟩, hb3⟩
    have HB3 := Lib.hid hb3
    have H6 := Lib.hid hd6
    clear hd6 hb3
    have hbw : Below W0.heap.size W0 w3 := bel_ext (bel_ext HB1.out HB2.out) HB3.out
    have e0 := (hbw.cell (p := ⟨w.heap.size + 1 + 1, 0, none⟩) hsz2).trans q0
    have e1 := (hbw.cell (p := ⟨w.heap.size + 1 + 1, 1, none⟩) hsz2).trans q1
    have e2 := (hbw.frozen (p := ⟨w.heap.size + 1 + 1, 0, none⟩) hsz2).trans f0
    have e3 := (hbw.frozen (p := ⟨w.heap.size + 1 + 1, 1, none⟩) hsz2).trans f1
    have s0 := (hbw.cell (p := ⟨w.heap.size + 1 + 1 + 1, 0, none⟩) hsz).trans p0
    have s1 := (hbw.cell (p := ⟨w.heap.size + 1 + 1 + 1, 1, none⟩) hsz).trans p1
    have s2 := (hbw.frozen (p := ⟨w.heap.size + 1 + 1 + 1, 0, none⟩) hsz).trans g0
    have s3 := (hbw.frozen (p := ⟨w.heap.size + 1 + 1 + 1, 1, none⟩) hsz).trans g1
    have HBW := Lib.hid (HB0.out.trans (hbw.mono HB0.out.size))
    clear q0 q1 f0 f1 p0 p1 g0 g1 hbw
    go_wp2
    refine bodyPost_ret (v := .tuple #[.agg #[.bool neg5, .slice A5 n5 c5], .agg #[.bool neg6, .slice A6 n6 c6], .int .i64 0]) (by simp [results, Try.results61, go_sem, e0, e1, s0, s1]) rfl (dm_fin H5.out HB3.out H6.out e0 e1 s0 s1 ?_ ?_ ?_ ?_ HBW.out)
    · rw [HX.out, HY.out, HZ.out.1, HV3.out]; cases nh <;> rfl
    · rw [HX.out, HY.out, HZ.out.2, HV4.out]; rfl
    · have := HN3.out; have := HT1.out; omega
    · have := HN4.out; have := HT2.out; omega
  · have hz : Dg.val ds % Dg.val es = 0 := by
      have h5 := H4.out.len
      have : rs = [] := List.length_eq_zero_iff.1 (by omega)
      rw [← HV4.out, this]; rfl
    have HZ := Lib.hid (sgn_div (p := true) (q := nh) (a := Dg.val ds) HP.out (.inr hz))
    clear hz
    go_wp2_with fail
    refine (signed_any (!nh) A3 n3 k3 qs _ H3.out HM3.out hk3).mono ?_
    rintro e w2 ⟨v, rfl, ⟨neg5, A5, n5, c5, ds5, rfl, hd5⟩, hb2⟩
    have HB2 := Lib.hid hb2
    have H5 := Lib.hid hd5
    clear hd5 hb2
    go_wp2_with fail
    refine (signed_any false A4 0 k4 rs _ (H4.out.below HB2.out) HM4.out hk4).mono ?_
    rintro e w3 ⟨v, rfl, ⟨neg6, A6, n6, c6, ds6, rfl, hd6⟩, hb3⟩
    have HB3 := Lib.hid hb3
    have H6 := Lib.hid hd6
    clear hd6 hb3
    have hbw : Below W0.heap.size W0 w3 := bel_ext (bel_ext HB1.out HB2.out) HB3.out
    have e0 := (hbw.cell (p := ⟨w.heap.size + 1 + 1, 0, none⟩) hsz2).trans q0
    have e1 := (hbw.cell (p := ⟨w.heap.size + 1 + 1, 1, none⟩) hsz2).trans q1
    have e2 := (hbw.frozen (p := ⟨w.heap.size + 1 + 1, 0, none⟩) hsz2).trans f0
    have e3 := (hbw.frozen (p := ⟨w.heap.size + 1 + 1, 1, none⟩) hsz2).trans f1
    have s0 := (hbw.cell (p := ⟨w.heap.size + 1 + 1 + 1, 0, none⟩) hsz).trans p0
    have s1 := (hbw.cell (p := ⟨w.heap.size + 1 + 1 + 1, 1, none⟩) hsz).trans p1
    have s2 := (hbw.frozen (p := ⟨w.heap.size + 1 + 1 + 1, 0, none⟩) hsz).trans g0
    have s3 := (hbw.frozen (p := ⟨w.heap.size + 1 + 1 + 1, 1, none⟩) hsz).trans g1
    have HBW := Lib.hid (HB0.out.trans (hbw.mono HB0.out.size))
    clear q0 q1 f0 f1 p0 p1 g0 g1 hbw
    go_wp2
    refine bodyPost_ret (v := .tuple #[.agg #[.bool neg5, .slice A5 n5 c5], .agg #[.bool neg6, .slice A6 n6 c6], .int .i64 0]) (by simp [results, Try.results61, go_sem, e0, e1, s0, s1]) rfl (dm_fin H5.out HB3.out H6.out e0 e1 s0 s1 ?_ ?_ ?_ ?_ HBW.out)
    · rw [HX.out, HY.out, HZ.out.1, HV3.out]; cases nh <;> rfl
    · rw [HX.out, HY.out, HZ.out.2, HV4.out]; rfl
    · have := HN3.out; have := HT1.out; omega
    · have := HN4.out; have := HT2.out; omega
  · have hgt : decide ((0 : Int) < (n4 : Int)) = true := decide_eq_true (by omega)
    have hgt' : decide (0 < n4) = true := decide_eq_true hn4
    have hrp : 0 < Dg.val ds % Dg.val es := by
      rw [← HV4.out]
      refine (trim_pos rs).1 ?_
      rw [Dg.trim_of_trimmed H4.out.ok HT4.out]
      have := H4.out.len; omega
    have HZ := Lib.hid (sgn_div_up (q := nh) HP.out hrp)
    have HLP := Lib.hid (show 0 < (Dg.trim ds).length from (trim_pos ds).2 (Nat.lt_of_lt_of_le hrp (Nat.mod_le _ _)))
    have HM8 := Lib.hid (show n3 ≤ LIM ∧ 1 ≤ LIM by have := HN3.out; have := HT1.out; have := HL1.out; omega)
    have hone : Dg.ok [1] := by intro d hd; simp at hd; subst hd; decide
    clear hrp
    clear hn4
    go_wp2_with fail
    refine (plus_any A3 (some ⟨w1.heap.size, 0, none⟩) n3 k3 1 1 qs [1] _ (H3.out.alloc _) (Dig.of_block (ds := [1]) (heap_alloc_new _ _) rfl hone) HM8.out.1 HM8.out.2).mono ?_
    rintro e w4 ⟨g, m, o, rfl, hm9, hdp, hvp, hbp⟩
    have HP2 := Lib.hid hdp
    have HVP := Lib.hid (show Dg.val o = Dg.val ds / Dg.val es + 1 by rw [hvp, HV3.out]; rfl)
    have HBP := Lib.hid (bel_ext HB1.out (bel_ext ((Below.refl _ _).alloc (Nat.le_refl _) _) hbp))
    have HB8 := Lib.hid (bel_ext ((Below.refl w1.heap.size w1).alloc (Nat.le_refl _) _) hbp)
    have HM7 := Lib.hid (show m ≤ L1 + 1 by have := HN3.out; have := HT1.out; have := HLP.out; omega)
    have HM5 := Lib.hid (show m ≤ maxLen by have := HM7.out; have := HL1.out; unfold LIM at *; unfold maxLen; omega)
    clear hdp hvp hbp hm9
    go_wp2_with fail
    refine (less_any A' A4 (Dg.trim es).length c' n4 k4 (Dg.trim es) rs _ ((K.out.trim.below HB0.out).below HBP.out) (H4.out.below HB8.out) (by have := HT2.out; have := HL2.out; omega) HN4.out (by rw [Dg.val_trim, HV4.out]; exact Nat.le_of_lt (Nat.mod_lt _ HP.out))).mono ?_
    rintro e w5 ⟨g7, o7, rfl, hd7, hv7, hbl⟩
    have HP7 := Lib.hid hd7
    have HVL := Lib.hid (show Dg.val o7 = Dg.val es - Dg.val ds % Dg.val es by rw [Dg.val_trim, HV4.out] at hv7; omega)
    have HBL := Lib.hid hbl
    have HM6 := Lib.hid (show (Dg.trim es).length ≤ maxLen by have := HT2.out; have := HL2.out; unfold LIM at *; unfold maxLen; omega)
    have c0 := ((bel_ext HB8.out HBL.out).cell (p := ⟨w.heap.size, 0, none⟩) (Nat.lt_of_lt_of_le hsz0 HB1.out.size)).trans c0
    have c2 := ((bel_ext HB8.out HBL.out).cell (p := ⟨w.heap.size + 1, 0, none⟩) (Nat.lt_of_lt_of_le hsz1 HB1.out.size)).trans c2
    clear hd7 hv7 hbl
    go_wp2_with fail
    refine (signed_any (!nh) (some ⟨g, 0, none⟩) m m o _ (HP2.out.below HBL.out) HM5.out (Nat.le_refl _)).mono ?_
    rintro e w2 ⟨v, rfl, ⟨neg5, A5, n5, c5, ds5, rfl, hd5⟩, hb2⟩
    have HB2 := Lib.hid hb2
    have H5 := Lib.hid hd5
    clear hd5 hb2
    go_wp2_with fail
    refine (signed_any false (some ⟨g7, 0, none⟩) (Dg.trim es).length (Dg.trim es).length o7 _ (HP7.out.below HB2.out) HM6.out (Nat.le_refl _)).mono ?_
    rintro e w3 ⟨v, rfl, ⟨neg6, A6, n6, c6, ds6, rfl, hd6⟩, hb3⟩
    have HB3 := Lib.hid hb3
    have H6 := Lib.hid hd6
    clear hd6 hb3
    have hbw : Below W0.heap.size W0 w3 := bel_ext (bel_ext (bel_ext HBP.out HBL.out) HB2.out) HB3.out
    have e0 := (hbw.cell (p := ⟨w.heap.size + 1 + 1, 0, none⟩) hsz2).trans q0
    have e1 := (hbw.cell (p := ⟨w.heap.size + 1 + 1, 1, none⟩) hsz2).trans q1
    have e2 := (hbw.frozen (p := ⟨w.heap.size + 1 + 1, 0, none⟩) hsz2).trans f0
    have e3 := (hbw.frozen (p := ⟨w.heap.size + 1 + 1, 1, none⟩) hsz2).trans f1
    have s0 := (hbw.cell (p := ⟨w.heap.size + 1 + 1 + 1, 0, none⟩) hsz).trans p0
    have s1 := (hbw.cell (p := ⟨w.heap.size + 1 + 1 + 1, 1, none⟩) hsz).trans p1
    have s2 := (hbw.frozen (p := ⟨w.heap.size + 1 + 1 + 1, 0, none⟩) hsz).trans g0
    have s3 := (hbw.frozen (p := ⟨w.heap.size + 1 + 1 + 1, 1, none⟩) hsz).trans g1
    have HBW := Lib.hid (HB0.out.trans (hbw.mono HB0.out.size))
    clear q0 q1 f0 f1 p0 p1 g0 g1 hbw
    go_wp2
    refine bodyPost_ret (v := .tuple #[.agg #[.bool neg5, .slice A5 n5 c5], .agg #[.bool neg6, .slice A6 n6 c6], .int .i64 0]) (by simp [results, Try.results61, go_sem, e0, e1, s0, s1]) rfl (dm_fin H5.out HB3.out H6.out e0 e1 s0 s1 ?_ ?_ ?_ ?_ HBW.out)
    · rw [HX.out, HY.out, HZ.out.1, HVP.out]; cases nh <;> rfl
    · rw [HX.out, HY.out, HZ.out.2, HVL.out]; rfl
    · exact HM7.out
    · exact HT2.out
end Go.Proofs.Ytlhdliafjconmaa
/- The contracts of package bigint in abstract words. -/
namespace Go.Proofs.Ytlhdliafjconmaa
open Go.RowKit
theorem dsC_dig {D : Nat → Prop} {w : World} {ρ : List Loc} {l : List Nat} {v : Value} (ho : Dg.ok l) (h : CRel D w ρ (dsC l) v) : ∃ A c, v = .slice A l.length c ∧ l.length ≤ c ∧ Dig w A l.length l := by
  obtain ⟨A, c, h1, h2, h3⟩ := h
  refine ⟨A, c, h1, h2, rfl, ho, fun hn => ?_⟩
  obtain ⟨b, o, hA, hb, _, hc⟩ := h3 hn
  refine ⟨b, o, hA, hb, fun i hi => ?_⟩
  obtain ⟨u, hu, hr⟩ := hc i 0 hi (by omega)
  have hr' : u = .int .u32 (l.getD i 0 : Nat) := hr
  rw [show o + (i * 1 + 0) = o + i by omega] at hu
  rw [hu, hr']
  simp [List.getD, hi]
theorem dig_dsC {D : Nat → Prop} {w : World} {ρ : List Loc} {l : List Nat} {A : Option Addr} {c : Nat} (h : Dig w A l.length l) (hc : l.length ≤ c) (hD : ∀ b o, 0 < l.length → A = some ⟨b, o, none⟩ → ¬ D b) : CRel D w ρ (dsC l) (.slice A l.length c) := by
  refine ⟨A, c, rfl, hc, fun hn => ?_⟩
  obtain ⟨b, o, hA, hb, hcell⟩ := h.2.2 hn
  refine ⟨b, o, hA, hb, hD b o hn hA, fun i j hi hj => ?_⟩
  have hj0 : j = 0 := by omega
  subst hj0
  refine ⟨_, by rw [show o + (i * 1 + 0) = o + i by omega]; exact hcell i hi, ?_⟩
  show Value.int .u32 _ = _
  simp [List.getD, hi]
theorem zr_rint {D : Nat → Prop} {w : World} {ρ : List Loc} {a : RawZ} {v : Value} (ho : Dg.ok a.ds) (h : VRel D w ρ (.g (zr a)) v) : RInt w v a.val a.ds.length := by
  obtain ⟨vs, rfl, h2⟩ := h
  match hv : vs.toList, h2 with
  | [x, y], h2 =>
    obtain ⟨h3, h4, _⟩ := h2
    obtain ⟨A, c, h5, h6, h7⟩ := dsC_dig ho h4
    have hvs : vs = #[x, y] := by rw [← Array.toList_inj]; simpa using hv
    rw [hvs, show x = .bool a.neg from h3, h5]
    exact ⟨a.neg, A, a.ds.length, c, a.ds, rfl, h7, h6, Nat.le_refl _, rfl⟩
  | [], h2 => exact h2.elim
  | [_], h2 => exact h2.2.elim
  | _ :: _ :: _ :: _, h2 => exact h2.2.2.elim
/-- Digits do not lie in a closed block, where none of those held digits. -/
theorem dig_free {D : Nat → Prop} {w w' : World} (hD : ∀ b, D b → b < w.heap.size) (hU : ∀ (b o : Nat) (d : Int), D b → w.cell? ⟨b, o, none⟩ ≠ some (.int .u32 d)) (hb : Below w.heap.size w w') {l : List Nat} {A : Option Addr} (h : Dig w' A l.length l) : ∀ b o, 0 < l.length → A = some ⟨b, o, none⟩ → ¬ D b := by
  intro b o hn hA hx
  obtain ⟨b', o', hA', _, hc⟩ := h.2.2 hn
  rw [hA] at hA'
  injection hA' with e
  injection e with e1 e2
  subst e1; subst e2
  have h1 := hc 0 hn
  rw [hb.cell (p := ⟨b, o + 0, none⟩) (hD b hx)] at h1
  exact hU b _ _ hx h1
theorem nint_nz {D : Nat → Prop} {w w' : World} (hD : ∀ b, D b → b < w.heap.size) (hU : ∀ (b o : Nat) (d : Int), D b → w.cell? ⟨b, o, none⟩ ≠ some (.int .u32 d)) (hb : Below w.heap.size w w') {v : Value} {x : Int} {L : Nat} (h : NInt w' v x L) : VRel D w' [] (.g (nz x)) v := by
  obtain ⟨neg, A, n, c, ds, rfl, hd, hc, _, hx, ht, hneg⟩ := h
  have hl := hd.len
  have hval : Dg.val ds = x.natAbs := by
    rw [hx]; unfold sgn; cases neg <;> simp
  have hds : ds = digs x.natAbs := digs_unique hd.ok ht hval
  have hn : neg = decide (x < 0) := by
    cases neg with
    | false => rw [hx]; simp [sgn]
    | true =>
      have h0 := hneg rfl
      have hp : 0 < Dg.val ds := by
        rcases Nat.eq_zero_or_pos (Dg.val ds) with e | e
        · rw [(Dg.val_eq_zero ht).1 e] at hl; simp at hl; omega
        · exact e
      rw [hx]; simp [sgn]; omega
  refine ⟨#[.bool neg, .slice A n c], rfl, ?_, ?_, trivial⟩
  · show Value.bool neg = .bool (decide (x < 0)); rw [hn]
  · show CRel D w' [] (dsC (digs x.natAbs)) (.slice A n c)
    rw [← hds]
    subst hl
    exact dig_dsC hd hc (dig_free hD hU hb hd)
theorem fnok_z2 {f : FuncId} (hbd : hasBody Try.prog f = true) {a b : RawZ} {X : V} (ho : Dg.ok a.ds) (ho' : Dg.ok b.ds) (h : ∀ (v v2 : Value) (w : World) (D : Nat → Prop), (∀ b, D b → b < w.heap.size) → (∀ (b o : Nat) (d : Int), D b → w.cell? ⟨b, o, none⟩ ≠ some (.int .u32 d)) → RInt w v a.val a.ds.length → RInt w v2 b.val b.ds.length → Calls Try.prog f #[v, v2] w fun e w' => ∃ v', e = .returned v' ∧ VRel D w' [] X v' ∧ Below w.heap.size w w') : FnOK Try.prog true f [.g (zr a), .g (zr b)] X := by
  refine ⟨hbd, ?_⟩
  intro D w vs hD hU hargs
  match vs, hargs with
  | [v, v2], hargs => exact h v v2 w D hD (hU rfl) (zr_rint ho hargs.1) (zr_rint ho' hargs.2.1)
  | [], hargs => exact hargs.elim
  | [_], hargs => exact hargs.2.elim
  | _ :: _ :: _ :: _, hargs => exact hargs.2.2.elim
theorem mul_ok {a b : RawZ} (ha : Dg.ok a.ds) (hb : Dg.ok b.ds) (hL : a.ds.length + b.ds.length ≤ LIM) : FnOK Try.prog true 71 [.g (zr a), .g (zr b)] (.g (nz (a.val * b.val))) :=
  fnok_z2 (by kernel_rfl) ha hb fun v v2 w _ hD hU h1 h2 => (int_mul_any v v2 _ _ _ _ w h1 h2 hL).mono fun _ _ ⟨v', e, h3, h4⟩ => ⟨v', e, nint_nz hD hU h4 h3, h4⟩
theorem of_ok {x : Int} (h0 : -9223372036854775808 ≤ x) (h1 : x ≤ 9223372036854775807) : FnOK Try.prog true 41 [.c (.int .i64 x)] (.g (nz x)) := by
  refine ⟨by kernel_rfl, ?_⟩
  intro D w vs hD hU hargs
  match vs, hargs with
  | [v], hargs =>
    rw [show v = .int .i64 x from hargs.1]
    exact (int_of_any x w h0 h1).mono fun _ _ ⟨v', e, h3, h4⟩ => ⟨v', e, nint_nz hD (hU rfl) h4 h3, h4⟩
  | [], hargs => exact hargs.elim
  | _ :: _ :: _, hargs => exact hargs.2.elim
end Go.Proofs.Ytlhdliafjconmaa
/- Types, and the functions DivMod and Exact of package bigint in abstract words. -/
namespace Go.Proofs.Ytlhdliafjconmaa
open Go.RowKit
theorem divmod_ok {a b : RawZ} (ha : Dg.ok a.ds) (hb : Dg.ok b.ds) (h1 : a.ds.length + 2 ≤ LIM) (h2 : b.ds.length + 1 ≤ LIM) (h0 : b.val ≠ 0) : FnOK Try.prog true 61 [.g (zr a), .g (zr b)] (.t3 (.g (nz (a.val / b.val))) (.g (nz (a.val % b.val))) (.c (.int .i64 0))) :=
  fnok_z2 (by kernel_rfl) ha hb fun v v2 w _ hD hU g1 g2 => (divMod_any v v2 _ _ _ _ w g1 g2 h1 h2 h0).mono fun _ _ ⟨q, r, e, h3, h4, h5⟩ => ⟨_, e, ⟨q, r, _, rfl, nint_nz hD hU h5 h3, nint_nz hD hU h5 h4, rfl⟩, h5⟩
theorem mul_nz (x y : Int) (h : zlen x + zlen y ≤ LIM) : FnOK Try.prog true 71 [.g (nz x), .g (nz y)] (.g (nz (x * y))) := by
  have := mul_ok (a := ofZ x) (b := ofZ y) (ofZ_ok x) (ofZ_ok y) h
  rwa [ofZ_val, ofZ_val] at this
end Go.Proofs.Ytlhdliafjconmaa
/- powMod with a number as exponent; the polynomial x; the p-th root; over polynomials. -/
namespace Go.Proofs.Ytlhdliafjconmaa
open Go.RowKit
theorem val_bit : ∀ (l : List Nat) (i : Nat), Dg.ok l → Dg.val l / 2 ^ i % 2 = l.getD (i / 32) 0 / 2 ^ (i % 32) % 2
  | [], i, _ => by
    show 0 / 2 ^ i % 2 = 0 / 2 ^ (i % 32) % 2
    rw [Nat.zero_div, Nat.zero_div]
  | d :: l, i, h => by
    have h := Dg.ok_cons.1 h
    have e : Dg.val (d :: l) = d + 2 ^ 32 * Dg.val l := rfl
    rw [e]
    rcases Nat.lt_or_ge i 32 with hi | hi
    · rw [Nat.div_eq_of_lt hi, Nat.mod_eq_of_lt hi]
      obtain ⟨k, hk⟩ : ∃ k, 32 = i + (k + 1) := ⟨31 - i, by omega⟩
      rw [hk, Nat.pow_add, Nat.mul_assoc, Nat.add_mul_div_left _ _ (Nat.pow_pos (by decide)), Nat.pow_succ, Nat.mul_comm (2 ^ k) 2, Nat.mul_assoc, Nat.add_mul_mod_self_left]
      rfl
    · obtain ⟨k, rfl⟩ : ∃ k, i = 32 + k := ⟨i - 32, by omega⟩
      rw [Nat.pow_add, ← Nat.div_div_eq_div_mul, Nat.add_mul_div_left _ _ (by decide), Nat.div_eq_of_lt (show d < 2 ^ 32 from h.1), Nat.zero_add, val_bit l k h.2]
      rw [show (32 + k) / 32 = k / 32 + 1 by omega, show (32 + k) % 32 = k % 32 by omega]
      rfl
theorem bs_digs (n : Nat) : Fp.bs (Fp.bt fun i => (((digs n).getD i 0 : Nat) : Int)) 0 (Fp.nb (fun i => (((digs n).getD i 0 : Nat) : Int)) (Fp.tl (fun i => (((digs n).getD i 0 : Nat) : Int)) (digs n).length)) = n := by
  have hok := digs_ok n
  have hr : ∀ i, (0 : Int) ≤ (((digs n).getD i 0 : Nat) : Int) ∧ (((digs n).getD i 0 : Nat) : Int) < 4294967296 := fun i => by
    refine ⟨Int.natCast_nonneg _, ?_⟩
    have : (digs n).getD i 0 < 4294967296 := by
      rcases Nat.lt_or_ge i (digs n).length with h | h
      · rw [List.getD_eq_getElem?_getD, List.getElem?_eq_getElem h]
        exact hok _ (List.getElem_mem h)
      · rw [List.getD_eq_getElem?_getD, List.getElem?_eq_none h]
        decide
    omega
  have htl : Fp.tl (fun i => (((digs n).getD i 0 : Nat) : Int)) (digs n).length = (digs n).length := Fp.tl_full fun h0 e => by
    have e : (digs n).getD ((digs n).length - 1) 0 = 0 := by
      have e : (((digs n).getD ((digs n).length - 1) 0 : Nat) : Int) = 0 := e
      omega
    have ht := digs_trimmed n
    rw [List.getD_eq_getElem?_getD, ← List.getLast?_eq_getElem?] at e
    cases hl : (digs n).getLast? with
    | none => rw [List.getLast?_eq_none_iff] at hl; rw [hl] at h0; exact absurd h0 (by decide)
    | some d =>
      rw [hl] at e
      exact ht d hl e
  rw [htl, ← Fp.bs_norm hr, Fp.bs_congr (c := fun j => n / 2 ^ j % 2) fun i _ => by
    show (((digs n).getD ((0 + i) / 32) 0 : Nat) : Int).toNat / 2 ^ ((0 + i) % 32) % 2 = n / 2 ^ (0 + i) % 2
    rw [Int.toNat_natCast, ← val_bit _ _ hok, digs_val], Fp.bs_bits]
  refine Nat.mod_eq_of_lt ?_
  have := Dg.val_lt hok
  rw [digs_val, show Dg.B = 2 ^ 32 from rfl, ← Nat.pow_mul] at this
  exact this
section
variable {p : Int} [hp : Prm p] (hm : Fp.md p)
include hm
theorem rp_P {m a : Pol (Zp p)} (h0 : m ≠ 0) (hl : m.len ≤ 4096) (e : Nat) : Fp.Rp p (ofP m) (Fp.pw (ofP a).2 e) (ofP (Pol.rm (Crg.pw a e) m)) := by
  have _ := hm
  obtain ⟨h1, h2⟩ := Pol.rm_spec (Crg.pw a e) h0
  obtain ⟨c, hc⟩ := h1
  obtain ⟨n, hn⟩ := (-c).fin
  refine ⟨ofP_NL _ (by omega), h2, fun i => ((-c).f i).v, ⟨n, fun j hj => ?_⟩, fun k => ?_⟩
  · show ((-c).f j).v = 0
    rw [hn j hj]
    exact Int.zero_emod p
  · refine (Zp.red_eq (p := p)).1 ?_
    rw [red_v', Zp.red_add, red_pw, red_cf]
    have e1 : (fun i => (Zp.red ((-c).f i).v : Zp p)) = (-c).f := funext fun i => Zp.red_v _
    have e2 : (fun i => (Zp.red ((ofP m).2 i) : Zp p)) = m.f := funext fun i => red_v' m i
    rw [e1, e2]
    have e3 : Pol.rm (Crg.pw a e) m = Crg.pw a e + -c * m := by
      have : Crg.pw a e = Pol.rm (Crg.pw a e) m + m * c := by
        rw [← hc]
        exact Crg.RE.eq [Crg.pw a e, Pol.rm (Crg.pw a e) m] Crg.t0 (Crg.t1 + (Crg.t0 - Crg.t1)) rfl
      generalize Pol.rm (Crg.pw a e) m = r at *
      rw [this]
      exact Crg.RE.eq [r, m, c] Crg.t0 (Crg.t0 + Crg.t1 * Crg.t2 + -Crg.t2 * Crg.t1) rfl
    have e4 := congrArg (fun b : Pol (Zp p) => b.f k) e3
    exact e4
theorem powMod_P {a m : Pol (Zp p)} {e : Nat} (ha : a.len ≤ 4096) (h0 : m ≠ 0) (hl : m.len ≤ 1024) (he : (digs e).length ≤ 1024) : FnOK Try.prog false 40 [.c (.int .i64 p), pl a, .g (nz (e : Int)), pl m] (pl (Pol.rm (Crg.pw a e) m)) := by
  have h := Fp.powMod_ok (p := p) (f := ofP a) (m := ofP m) (r := ofP (Pol.rm (Crg.pw a e) m)) (s := decide ((e : Int) < 0)) (q := (digs e).length) (a := fun i => (((digs e).getD i 0 : Nat) : Int)) hm (ofP_NL a ha) (ofP_NL m (by omega)) (Pol.len_pos h0) hl he (fun i => ⟨Int.natCast_nonneg _, by
    rcases Nat.lt_or_ge i (digs e).length with h | h
    · have : (digs e).getD i 0 < 4294967296 := by
        rw [List.getD_eq_getElem?_getD, List.getElem?_eq_getElem h]
        exact digs_ok e _ (List.getElem_mem h)
      omega
    · rw [List.getD_eq_getElem?_getD, List.getElem?_eq_none h]
      decide⟩) (by rw [bs_digs]; exact rp_P hm h0 (by omega) e)
  have e1 : ((e : Int)).natAbs = e := Int.natAbs_natCast e
  have e2 : (.g (nz (e : Int)) : V) = Fp.bi (decide ((e : Int) < 0)) (digs e).length fun i => (((digs e).getD i 0 : Nat) : Int) := by
    show V.g [.bool _, dsC (digs ((e : Int)).natAbs)] = _
    rw [e1]
    rfl
  rw [e2]
  exact h
omit hm in
theorem ofP_X : ofP (Pol.X : Pol (Zp p)) = (2, fun i => if i = 1 then 1 else 0) := by
  have h1 : (1 : Int) % p = 1 := Int.emod_eq_of_lt (by omega) (by have := hp.two; omega)
  refine Prod.ext ?_ (funext fun i => ?_)
  · exact Pol.len_eq (k := 1) (fun j hj => if_neg (by omega)) (by
      show (if 1 = 1 then (1 : Zp p) else 0) ≠ 0
      rw [if_pos rfl]
      exact Fld.one_ne)
  · show (if i = 1 then (1 : Zp p) else 0).v = if i = 1 then 1 else 0
    split
    · exact h1
    · exact Int.zero_emod p
end
end Go.Proofs.Ytlhdliafjconmaa
/- The number of binary digits of a small number; small powers of a prime; the trial's half power. -/
namespace Go.Proofs.Ytlhdliafjconmaa
open Go.RowKit
def Len64Post (X : Int) (w : World) (e : Ending) (w' : World) : Prop := ∃ n : Nat, e = .returned (.int .i64 n) ∧ IsLen X n ∧ w = w'
set_option maxRecDepth 100000 in
set_option maxHeartbeats 1000000 in
theorem len64_small (X : Int) (w : World) (h0 : 0 < X) (h1 : X < 256) :
    Calls Try.prog 54 #[.int .u64 X] w (Len64Post X w) := by
  have hd0 : decide (4294967296 ≤ X) = false := by simp; omega
  have hd1 : decide (65536 ≤ X) = false := by simp; omega
  have hd2 : decide (256 ≤ X) = false := by simp; omega
  have hl : X.toNat < lenTab.size := by rw [lenTab_size]; omega
  have L := Lib.hid (isLen_of (X := X) (k := 0) (Y := X) (by omega) (by simp) hl (by omega))
  have hT := Lib.hid (lenTab_at _ hl (by omega))
  have hb1 : 0 ≤ X := by omega
  have hb2 : X < 256 := by omega
  go_enter Try.func54, Try.ntmps54
  go_wp2
  go_ret
  exact ⟨_, ret_int (by have := len_sum 0 (lenTab[X.toNat]'hl).toNat (by omega) (by omega) hT.out.2.1; rw [Int.zero_add] at this; exact this), L.out, rfl⟩
theorem isLen_log {X : Nat} {n : Nat} (h : IsLen (X : Int) n) : n = Nat.log2 X + 1 := by
  obtain ⟨h1, _, h3, h4⟩ := h
  rw [Int.toNat_natCast] at h3 h4
  have h0 : X ≠ 0 := by
    have := Nat.pow_pos (n := n - 1) (show 0 < 2 by decide)
    omega
  have e1 := (Nat.le_log2 h0).2 h3
  have e2 := (Nat.log2_lt h0).2 h4
  omega
theorem len64_ok {X : Nat} (h0 : 0 < X) (h1 : X < 256) : FnOK Try.prog false 54 [.c (.int .u64 X)] (.c (.int .i64 (Nat.log2 X + 1 : Nat))) := by
  refine ⟨by kernel_rfl, fun D w vs _ _ hargs => ?_⟩
  match vs, hargs with
  | [v0], ⟨e0, _⟩ =>
    obtain rfl : v0 = .int .u64 X := e0
    refine (len64_small X w (by omega) (by omega)).mono ?_
    rintro e w' ⟨n, rfl, hn, rfl⟩
    exact ⟨_, rfl, by rw [isLen_log hn]; exact rfl, Below.refl _ _⟩
set_option maxHeartbeats 4000000 in
theorem len_small {X : Nat} (h0 : 0 < X) (h1 : X < 256) : FnOK Try.prog false 35 [.c (.int .u64 X)] (.c (.int .i64 (Nat.log2 X + 1 : Nat))) := by
  refine fn_ok (E := E0) E0_ok Try.func35 rfl mixed (by kernel_rfl) (by kernel_rfl) ?_
  conv => whnf
  refine ⟨_, len64_ok h0 h1, ?_⟩
  conv => whnf
  exact ⟨rfl, Sub.refl _⟩
theorem digs_one {x : Nat} (h0 : 0 < x) (h : x < 4294967296) : digs x = [x] := by
  refine (digs_unique (l := [x]) (Dg.ok_cons.2 ⟨h, Dg.ok_nil⟩) (fun d hd => ?_) (by show x + Dg.B * 0 = x; omega)).symm
  simp at hd
  omega
theorem zlen_nat (n k : Nat) (h : n < 4294967296 ^ k) : zlen (n : Int) ≤ k := zlen_le (by rw [Int.natAbs_natCast]; exact h)
theorem lb16 {x : Nat} (h2 : 2 ≤ x) (hx : x < 65536) : 2 ≤ Nat.log2 x + 1 ∧ Nat.log2 x + 1 ≤ 16 := by
  have a := (Nat.le_log2 (n := x) (k := 1) (by omega)).2 (by omega)
  have b := (Nat.log2_lt (n := x) (k := 16) (by omega)).2 (by omega)
  omega
theorem bits_small {x : Nat} (h2 : 2 ≤ x) (hx : x < 65536) : FnOK Try.prog false 56 [.g (nz (x : Int))] (.c (.int .i64 (Nat.log2 x + 1 : Nat))) := by
  have hd := digs_one (x := x) (by omega) (by omega)
  have h := Fp.bits_ok (n := 1) (a := fun i => (([x] : List Nat).getD i 0 : Int)) (s := decide ((x : Int) < 0)) (by omega) fun i => by
    cases i with
    | zero => show (0 : Int) ≤ (x : Int) ∧ (x : Int) < 4294967296; omega
    | succ i => show (0 : Int) ≤ 0 ∧ (0 : Int) < 4294967296; omega
  have e1 : (.g (nz (x : Int)) : V) = Fp.bi (decide ((x : Int) < 0)) 1 fun i => (([x] : List Nat).getD i 0 : Int) := by
    show V.g [.bool _, dsC (digs ((x : Int)).natAbs)] = _
    rw [Int.natAbs_natCast, hd]
    rfl
  have e2 : Fp.tl (fun i => (([x] : List Nat).getD i 0 : Int)) 1 = 1 := Fp.tl_full fun _ => by show (x : Int) ≠ 0; omega
  rw [e2] at h
  have e3 : Fp.nb (fun i => (([x] : List Nat).getD i 0 : Int)) 1 = Nat.log2 x + 1 := by
    show 32 * (1 - 1) + (Nat.log2 (x : Int).toNat + 1) = _
    rw [Int.toNat_natCast]
    omega
  rw [e3] at h
  rw [e1]
  exact h
end Go.Proofs.Ytlhdliafjconmaa
/- Digits to base 2^32 as functions: their value, the digits of a number, leading zeros. No condition. -/
namespace Go.Proofs.Ytlhdliafjconmaa
open Go.RowKit
namespace Rf
abbrev BB : Nat := 4294967296
/-- The value of the first q digits. -/
def nv (d : Nat → Nat) : Nat → Nat
  | 0 => 0
  | q + 1 => nv d q + BB ^ q * d q
/-- A digit of a number. -/
def dg (x i : Nat) : Nat := x / BB ^ i % BB
/-- The digits of a list. -/
abbrev ld (l : List Nat) : Nat → Nat := fun i => l.getD i 0
def lr (d : Nat → Nat) (q : Nat) : List Nat := (List.range q).map d
end Rf
end Go.Proofs.Ytlhdliafjconmaa
/- Sums, differences and products of digits: plain laws. No condition. -/
namespace Go.Proofs.Ytlhdliafjconmaa
open Go.RowKit
namespace Rf
/-- Digits, and 0 behind their end. -/
def ext (n : Nat) (a : Nat → Nat) (i : Nat) : Nat := if i < n then a i else 0
/-- The borrow below a place. -/
def bor (A B : Nat → Nat) (i : Nat) : Nat := if nv A i < nv B i then 1 else 0
/-- A place written. -/
def upd (d : Nat → Nat) (j v i : Nat) : Nat := if i = j then v else d i
end Rf
end Go.Proofs.Ytlhdliafjconmaa
/- The document's integers: trim, Norm, Sign, signed, Abs, Neg, Of. -/
namespace Go.Proofs.Ytlhdliafjconmaa
open Go.RowKit
namespace Rf
abbrev dn (q : Nat) (d : Nat → Nat) : Cell := .row 1 q fun i _ => .int .u32 (d i : Nat)
def wr (a : RawZ) : Prop := Dg.ok a.ds ∧ a.ds.length ≤ 1048576
end Rf
end Go.Proofs.Ytlhdliafjconmaa
/- The document's sums and differences of digits. -/
namespace Go.Proofs.Ytlhdliafjconmaa
open Go.RowKit
namespace Rf
abbrev gd (q : Nat) (d : Nat → Nat) : Gx := ⟨81, 1, q, fun i _ => .int .u32 (d i : Nat)⟩
end Rf
end Go.Proofs.Ytlhdliafjconmaa
/- The document's comparisons of integers, and the number of binary digits. -/
namespace Go.Proofs.Ytlhdliafjconmaa
open Go.RowKit
namespace Rf
theorem box_clos {l : List Cell} {i j : Nat} (h : l.all Cell.clos = true) : (boxF l i j).clos = true := by
  unfold boxF
  rw [List.getD_eq_getElem?_getD]
  cases e : l[j]? with
  | none => rfl
  | some c => exact List.all_eq_true.1 h _ (List.mem_of_getElem? e)
/-- A box that stands as it was. -/
theorem boxK {q k t sz u : Nat} {bl : List Blk} {ks : List (Option Nat)} {l : List Cell} (h : bl[k]? = some ⟨t, sz, 1, u, 0, boxF l⟩) (hc : l.all Cell.clos = true) : srcG q bl ks ⟨t, sz, 1, boxF l⟩ (some k) :=
  ⟨_, h, rfl, rfl, rfl, rfl, fun i j _ _ => regE rfl (box_clos (i := i) (j := j) hc)⟩
abbrev gi (s : Bool) (q : Nat) (d : Nat → Nat) : Gx := ⟨26, 2, 1, boxF [.bool s, dn q d]⟩
end Rf
end Go.Proofs.Ytlhdliafjconmaa
/- The document's Bits, Add and Sub. -/
namespace Go.Proofs.Ytlhdliafjconmaa
open Go.RowKit
namespace Rf
/-- The number of binary digits. -/
def lb (x : Nat) : Nat := if x = 0 then 0 else Nat.log2 x + 1
end Rf
end Go.Proofs.Ytlhdliafjconmaa
/- The document's word, split and shifted. -/
namespace Go.Proofs.Ytlhdliafjconmaa
open Go.RowKit
namespace Rf
end Rf
end Go.Proofs.Ytlhdliafjconmaa
/- The document's shifted and divided. -/
namespace Go.Proofs.Ytlhdliafjconmaa
open Go.RowKit
namespace Rf
/-- The carry of a shift. -/
def sc (a : Nat → Nat) (r i : Nat) : Nat := 2 ^ r * nv a i / BB ^ i
end Rf
end Go.Proofs.Ytlhdliafjconmaa
/- The document's division of digits. -/
namespace Go.Proofs.Ytlhdliafjconmaa
open Go.RowKit
namespace Rf
end Rf
end Go.Proofs.Ytlhdliafjconmaa
/- The document's quotient and remainder, and the greatest common divisor. -/
namespace Go.Proofs.Ytlhdliafjconmaa
open Go.RowKit
namespace Rf
end Rf
end Go.Proofs.Ytlhdliafjconmaa
/- The document's division of integers. -/
namespace Go.Proofs.Ytlhdliafjconmaa
open Go.RowKit
namespace Rf
end Rf
end Go.Proofs.Ytlhdliafjconmaa
/- The document's greatest common divisor. -/
namespace Go.Proofs.Ytlhdliafjconmaa
open Go.RowKit
namespace Rf
/-- A box that was written. -/
theorem boxU {q k t sz u : Nat} {bl : List Blk} {ks : List (Option Nat)} {l : List Cell} {f : Nat → Nat → Cell} (h : bl[k]? = some ⟨t, sz, 1, u, 0, updF f 0 0 l⟩) (hs : sz = l.length) (hc : l.all Cell.clos = true) : srcG q bl ks ⟨t, sz, 1, boxF l⟩ (some k) :=
  ⟨_, h, rfl, rfl, rfl, rfl, fun i j hi hj => regE (by
    have hi : i < 1 := hi
    have hj : j < sz := hj
    show updF f 0 0 l i j = boxF l i j
    unfold updF boxF
    rw [if_pos ⟨by omega, by omega, by omega⟩, Nat.sub_zero]) (box_clos (i := i) (j := j) hc)⟩
end Rf
end Go.Proofs.Ytlhdliafjconmaa
/- Small powers of a prime. -/
namespace Go.Proofs.Ytlhdliafjconmaa
open Go.RowKit
theorem pow_lt16 {x k : Nat} (h : x < 65536) : x ^ k < 4294967296 ^ k ∨ k = 0 := by
  rcases Nat.eq_zero_or_pos k with h0 | h0
  · exact .inr h0
  · exact .inl (Nat.pow_lt_pow_left (by omega) (by omega))
theorem zlen_pow {x k : Nat} (h : x < 65536) : zlen ((x ^ k : Nat) : Int) ≤ k + 1 := by
  refine zlen_nat _ _ ?_
  have hb : 0 < 4294967296 := Nat.succ_pos _
  rcases pow_lt16 (k := k) h with h1 | h1
  · exact Nat.lt_of_lt_of_le h1 (Nat.pow_le_pow_right hb (by omega))
  · subst h1
    show x ^ 0 < 4294967296 ^ 1
    rw [Nat.pow_zero, Nat.pow_one]
    omega
theorem pow_cast (x a b : Nat) : ((x ^ (a + b) : Nat) : Int) = ((x ^ a : Nat) : Int) * ((x ^ b : Nat) : Int) := by rw [Nat.pow_add, Int.natCast_mul]
theorem bit_i64 {n k : Nat} (hn : n ≤ 64) (hk : k < 64) : IntKind.i64.wrap ((BitVec.ofInt IntKind.i64.bits ((n : Int).fdiv (2 ^ min k IntKind.i64.bits)) &&& BitVec.ofInt IntKind.i64.bits 1).toNat : Nat) = ((n / 2 ^ k % 2 : Nat) : Int) := by
  have e0 : (n : Int).fdiv (2 ^ min k IntKind.i64.bits) = ((n / 2 ^ k : Nat) : Int) := by
    rw [show min k IntKind.i64.bits = k from Nat.min_eq_left (Nat.le_of_lt hk), Int.fdiv_eq_ediv_of_nonneg _ (Int.le_of_lt (Int.pow_pos (by decide)))]
    rw [Int.natCast_ediv, Int.natCast_pow]
    rfl
  rw [e0]
  have hle := Nat.div_le_self n (2 ^ k)
  generalize n / 2 ^ k = m at *
  have e : (BitVec.ofInt IntKind.i64.bits (m : Int) &&& BitVec.ofInt IntKind.i64.bits 1).toNat = m % 2 := by
    rw [BitVec.toNat_and]
    have e1 : (BitVec.ofInt IntKind.i64.bits (m : Int)).toNat = m := by
      show (BitVec.ofInt 64 (m : Int)).toNat = _
      rw [BitVec.toNat_ofInt]
      omega
    have e2 : (BitVec.ofInt IntKind.i64.bits 1).toNat = 1 := by decide
    rw [e1, e2, Nat.and_one_is_mod]
  rw [e]
  have := Nat.mod_lt m (show 0 < 2 by decide)
  exact inR_wrap (Fp.i64 (by omega) (by omega))
set_option maxHeartbeats 16000000 in
theorem pow_ok {x n : Nat} (h2 : 2 ≤ x) (hx : x < 65536) (h1 : 1 ≤ n) (hn : n ≤ 64) : FnOK Try.prog true 60 [.g (nz (x : Int)), .c (.int .i64 n)] (.t2 (.g (nz ((x ^ n : Nat) : Int))) (.c (.int .i64 0))) := by
  have hb := (bits_small h2 hx).weak (r := true)
  have hw : IntKind.u64.wrap (n : Int) = n := inR_wrap ⟨by show (0 : Int) ≤ n; omega, by show (n : Int) < 18446744073709551616; omega⟩
  have hl : FnOK Try.prog true 35 [.c (.int .u64 (IntKind.u64.wrap (n : Int)))] (.c (.int .i64 (Nat.log2 n + 1 : Nat))) := by
    rw [hw]
    exact (len_small (X := n) (by omega) (by omega)).weak
  obtain ⟨b1, b2⟩ := lb16 h2 hx
  have ho := of_ok (x := 1) (by decide) (by decide)
  have hlog : n < 2 ^ (Nat.log2 n + 1) := Nat.lt_log2_self
  have hll : Nat.log2 n + 1 ≤ 7 := by
    have := (Nat.log2_lt (n := n) (k := 7) (by omega)).2 (by omega)
    omega
  generalize Nat.log2 x + 1 = B at *
  generalize Nat.log2 n + 1 = l at *
  have q1 : Int.tdiv 1048576 (B : Int) = ((1048576 / B : Nat) : Int) := by
    rw [Int.tdiv_eq_ediv_of_nonneg (by decide)]
    exact (Int.natCast_ediv 1048576 B).symm
  have q2 : 65536 ≤ 1048576 / B := (Nat.le_div_iff_mul_le (by omega)).2 (by omega)
  have q3 : 1048576 / B ≤ 1048576 := Nat.div_le_self _ _
  refine fn_ok (E := E1) E1_ok Try.func60 rfl mixed (by kernel_rfl) (by kernel_rfl) ?_
  conv => whnf
  refine ⟨_, hb, ?_⟩
  conv => whnf
  refine bpos (show gw true (decide ((1 : Int) < B)) = true by rw [decide_eq_true (by omega)]; rfl) ?_
  conv => whnf
  refine ⟨by omega, Fp.i64 (by rw [q1]; omega) (by rw [q1]; omega), ?_⟩
  conv => whnf
  refine bneg (show decide (Int.tdiv 1048576 (B : Int) < (n : Int)) = false from decide_eq_false (by rw [q1]; omega)) ?_
  conv => whnf
  refine bneg (show decide ((B : Int) ≤ 1) = false from decide_eq_false (by omega)) ?_
  conv => whnf
  refine ⟨_, ho, ?_⟩
  conv => whnf
  refine ⟨_, hl, ?_⟩
  conv => whnf
  refine ⟨Fp.i64 (by omega) (by omega), ?_⟩
  conv => whnf
  refine loop_ints (fun ((k, y) : Nat × Int) => gst [(1, .c (.int .i64 n)), (2, .c (.p 0 0 2 0 0)), (4, .c (.p 1 0 2 0 0)), (5, .c (.int .i64 0)), (7, .c (.p 2 0 2 0 0)), (8, .c (.int .i64 ((k : Int) - 1)))] [⟨26, 2, 1, boxF (nz (x : Int))⟩, ⟨26, 2, 1, boxF [.bool false, .nil]⟩, ⟨26, 2, 1, boxF (nz y)⟩]) (fun (k, _) => k) (fun (k, y) => k ≤ l ∧ y = ((x ^ (n / 2 ^ k) : Nat) : Int)) (l, 1) rfl ?start ⟨Nat.le_refl _, by rw [Nat.div_eq_of_lt hlog]; rfl⟩ ?round
  case start =>
    exact Weak.gen [some 0, some 1, some 2] rfl ⟨Rf.boxK rfl rfl, Rf.boxK rfl rfl, Rf.boxU rfl rfl rfl, trivial⟩ ⟨⟨_, rfl, rfl⟩, ⟨_, rfl, rfl, rfl⟩, ⟨_, rfl, rfl, rfl⟩, ⟨_, rfl, rfl⟩, ⟨_, rfl, rfl, rfl⟩, ⟨_, rfl, rfl⟩, trivial⟩
  case round =>
    rintro ⟨k, y⟩ ⟨hk, hy⟩
    match k, hk, hy with
    | 0, hk, hy =>
      have hy : y = ((x ^ n : Nat) : Int) := by rw [hy, Nat.pow_zero, Nat.div_one]
      conv => whnf
      refine ⟨rfl, ?_⟩
      show Sub (.t2 (.g (nz y)) (.c (.int .i64 0))) (.t2 (.g (nz ((x ^ n : Nat) : Int))) (.c (.int .i64 0)))
      rw [hy]
      exact Sub.refl _
    | k + 1, hk, hy =>
      have hz : zlen y ≤ 65 := by
        rw [hy]
        refine Nat.le_trans (zlen_pow hx) ?_
        have := Nat.div_le_self n (2 ^ (k + 1))
        omega
      have hx1 : zlen (x : Int) ≤ 1 := zlen_nat x 1 (by rw [Nat.pow_one]; omega)
      have hyy : zlen (y * y) ≤ 130 := Nat.le_trans (zlen_mul y y) (by omega)
      have m1 := mul_nz y y (by unfold LIM; omega)
      have m2 := mul_nz (y * y) (x : Int) (by unfold LIM; omega)
      have ek : (((k + 1 : Nat) : Int) - 1).toNat = k := by omega
      have eb := bit_i64 (n := n) (k := k) (by omega) (by omega)
      rw [← ek] at eb
      have hdiv : n / 2 ^ k = 2 * (n / 2 ^ (k + 1)) + n / 2 ^ k % 2 := by
        rw [Nat.pow_succ, ← Nat.div_div_eq_div_mul]
        have := Nat.div_add_mod (n / 2 ^ k) 2
        omega
      have ny : y * y = ((x ^ (2 * (n / 2 ^ (k + 1))) : Nat) : Int) := by
        rw [hy, Nat.two_mul, pow_cast]
      have c1 : n / 2 ^ k % 2 = 1 → y * y * (x : Int) = ((x ^ (n / 2 ^ k) : Nat) : Int) := fun h => by
        rw [ny]
        conv => rhs; rw [hdiv, h, pow_cast, Nat.pow_one]
      have c0 : n / 2 ^ k % 2 ≠ 1 → y * y = ((x ^ (n / 2 ^ k) : Nat) : Int) := fun h => by
        rw [ny]
        conv => rhs; rw [hdiv, show n / 2 ^ k % 2 = 0 by have := Nat.mod_lt (n / 2 ^ k) (show 0 < 2 by decide); omega, Nat.add_zero]
      conv => whnf
      refine bpos (show decide ((0 : Int) ≤ ((k + 1 : Nat) : Int) - 1) = true from decide_eq_true (by omega)) ?_
      conv => whnf
      refine ⟨_, m1, ?_⟩
      conv => whnf
      refine ⟨by omega, ?_⟩
      conv => whnf
      refine bcase (fun (h : decide (IntKind.i64.wrap ((BitVec.ofInt IntKind.i64.bits ((n : Int).fdiv (2 ^ min (((k + 1 : Nat) : Int) - 1).toNat IntKind.i64.bits)) &&& BitVec.ofInt IntKind.i64.bits 1).toNat : Nat) = 1) = true) => ?_) fun (h : decide (IntKind.i64.wrap ((BitVec.ofInt IntKind.i64.bits ((n : Int).fdiv (2 ^ min (((k + 1 : Nat) : Int) - 1).toNat IntKind.i64.bits)) &&& BitVec.ofInt IntKind.i64.bits 1).toNat : Nat) = 1) = false) => ?_
      · have h := of_decide_eq_true h
        have c1 := c1 (by
          have h9 := congrArg Int.toNat (eb.symm.trans h)
          rw [Int.toNat_natCast, ek] at h9
          exact h9)
        conv => whnf
        refine ⟨_, m2, ?_⟩
        conv => whnf
        refine ⟨Fp.i64 (by omega) (by omega), ?_⟩
        conv => whnf
        exact ⟨(k, y * y * (x : Int)), by show k < k + 1; omega, Weak.gen [some 0, some 1, some 2] rfl ⟨Rf.boxK rfl rfl, Rf.boxK rfl rfl, Rf.boxU rfl rfl rfl, trivial⟩ ⟨⟨_, rfl, rfl⟩, ⟨_, rfl, rfl, rfl⟩, ⟨_, rfl, rfl, rfl⟩, ⟨_, rfl, rfl⟩, ⟨_, rfl, rfl, rfl⟩, ⟨_, rfl, by omega⟩, trivial⟩, by show k ≤ l; omega, c1⟩
      · have h := of_decide_eq_false h
        have c0 := c0 (by intro h9; exact h (eb.trans (by rw [ek, h9]; rfl)))
        conv => whnf
        refine ⟨Fp.i64 (by omega) (by omega), ?_⟩
        conv => whnf
        exact ⟨(k, y * y), by show k < k + 1; omega, Weak.gen [some 0, some 1, some 2] rfl ⟨Rf.boxK rfl rfl, Rf.boxK rfl rfl, Rf.boxU rfl rfl rfl, trivial⟩ ⟨⟨_, rfl, rfl⟩, ⟨_, rfl, rfl, rfl⟩, ⟨_, rfl, rfl, rfl⟩, ⟨_, rfl, rfl⟩, ⟨_, rfl, rfl, rfl⟩, ⟨_, rfl, by omega⟩, trivial⟩, by show k ≤ l; omega, c0⟩
end Go.Proofs.Ytlhdliafjconmaa
/- The program's fpoly.variable, root, halves, over polynomials. -/
namespace Go.Proofs.Ytlhdliafjconmaa
open Go.RowKit
section
variable {p : Int} [hp : Prm p] (hm : Fp.md p)
omit hp in
set_option maxHeartbeats 4000000 in
theorem var_list : FnOK Try.prog false 39 [] (.c (.row 1 2 (rowF 1 [.int .i64 0, .int .i64 1]))) := by
  refine fn_ok (E := E0) E0_ok Try.func39 rfl mixed (by kernel_rfl) (by kernel_rfl) ?_
  conv => whnf
  refine ⟨fun i j hi hj => ?_, ?_⟩
  · match i, j, hi, hj with
    | 0, 0, _, _ => rfl
    | 1, 0, _, _ => rfl
  conv => whnf
  exact ⟨rfl, Sub.refl _⟩
theorem var_P : FnOK Try.prog false 39 [] (pl (Pol.X : Pol (Zp p))) := by
  have h := var_list
  refine ⟨h.1, fun D w vs h1 h2 h3 => (h.2 D w vs h1 h2 h3).mono ?_⟩
  rintro e w' ⟨v, h4, h5, h6⟩
  refine ⟨v, h4, ?_, h6⟩
  show VRel D w' [] (Fp.cl (ofP (Pol.X : Pol (Zp p)))) v
  rw [ofP_X]
  refine subRowG rfl (fun i j hi hj => ?_) D w' v h5
  match i, j, hi, hj with
  | 0, 0, _, _ => rfl
  | 1, 0, _, _ => rfl
theorem rtp_len {a : Pol (Zp p)} (hd : Pol.dv a = 0) (ha : a ≠ 0) : ∃ k, a.len = p.toNat * k + 1 ∧ (rtp a).len = k + 1 := by
  have h2 := two_le (p := p)
  have e := root_p hd
  have h0 := Pol.len_pos ha
  have h1 : (a.len - 1) % p.toNat = 0 := Classical.byContradiction fun hn => by
    obtain ⟨_, h4⟩ := pw_p_f (rtp a)
    have := h4 _ hn
    rw [e] at this
    exact Pol.lead_ne ha this
  have e2 := Nat.div_add_mod (a.len - 1) p.toNat
  refine ⟨(a.len - 1) / p.toNat, by omega, Pol.len_eq (fun j hj => ?_) ?_⟩
  · show a.f (p.toNat * j) = 0
    refine Pol.len_out a _ ?_
    have := Nat.mul_le_mul_left p.toNat hj
    rw [Nat.mul_succ] at this
    omega
  · show a.f (p.toNat * ((a.len - 1) / p.toNat)) ≠ 0
    rw [show p.toNat * ((a.len - 1) / p.toNat) = a.len - 1 by omega]
    exact Pol.lead_ne ha
omit hp in
set_option maxHeartbeats 4000000 in
theorem root_list {q n k : Nat} {F : Nat → Int} (hq : p = q) (h1 : 1 ≤ q) (hn : n = q * k + 1) (hl : n ≤ 4096) (hp2 : q ≤ 65521) : FnOK Try.prog false 27 [.c (.int .i64 p), .c (il n F)] (.c (il (k + 1) fun j => F (q * j))) := by
  have hmul : ∀ j, q * (j + 1) = q * j + q := fun j => Nat.mul_succ q j
  have hk : ∀ j, q * j < n ↔ j ≤ k := fun j => by
    rw [hn, Nat.lt_succ_iff]
    exact ⟨fun h => Nat.le_of_mul_le_mul_left h h1, fun h => Nat.mul_le_mul_left q h⟩
  have hj0 : ∀ j, j ≤ q * j := fun j => Nat.le_mul_of_pos_left j h1
  refine fn_ok (E := E0) E0_ok Try.func27 rfl mixed (by kernel_rfl) (by kernel_rfl) ?_
  conv => whnf
  refine loop_ints (fun j : Nat => ist [(0, .c (.int .i64 p)), (1, .c (il n F)), (5, .c (.gs 0 0)), (6, .c (.int .i64 ((q * j : Nat) : Int)))] [(3, j, fun j => F (q * j))]) (fun j => k + 1 - j) (fun j => j ≤ k + 1) 0 rfl ?_ (Nat.zero_le _) fun j hj => ?_
  · exact Weak.ints [none] rfl ⟨rfl, trivial⟩ ⟨⟨_, rfl, rfl⟩, ⟨_, _, rfl, rfl, fun _ _ _ _ => rfl⟩, rfl, ⟨_, rfl, by rw [Nat.mul_zero]; rfl⟩, trivial⟩
  have hjj := hj0 j
  have hkj := hk j
  have hmj := hmul j
  generalize hqj : q * j = m at *
  conv => whnf
  refine bcase (fun (h : decide ((m : Int) < n) = true) => ?_) fun (h : decide ((m : Int) < n) = false) => ?_
  · have h := of_decide_eq_true h
    have hjk : j ≤ k := hkj.1 (by omega)
    conv => whnf
    refine ⟨by omega, by show (m : Int) < (n : Int); omega, ?_⟩
    conv => whnf
    refine ⟨by show j + 1 ≤ 16777216; omega, fun x y hx hy => ?_, ?_⟩
    · obtain rfl : x = 0 := by have h : x < 1 := hx
                               omega
      obtain rfl : y = 0 := by have h : y < 1 := hy
                               omega
      exact ⟨rfl, fun h => by cases h⟩
    conv => whnf
    refine ⟨Fp.i64 (by omega) (by omega), ?_⟩
    conv => whnf
    refine ⟨j + 1, by omega, ?_, by omega⟩
    refine Weak.ints [some 0] rfl ⟨⟨_, rfl, rfl, rfl, rfl, rfl, fun i hi => appI ?_ (show j + 1 ≤ j + 1 from Nat.le_refl _) hi⟩, trivial⟩ ⟨⟨_, rfl, rfl⟩, ⟨_, _, rfl, rfl, fun _ _ _ _ => rfl⟩, ⟨_, rfl, rfl, rfl⟩, ⟨_, rfl, by rw [hmj]; omega⟩, trivial⟩
    show (if i = j then F (m : Int).toNat else F (q * i)) = F (q * i)
    by_cases e : i = j
    · subst e; rw [if_pos rfl, Int.toNat_natCast, hqj]
    · rw [if_neg e]
  · have h := of_decide_eq_false h
    have hjk : j = k + 1 := by
      have : ¬ j ≤ k := fun c => h (by have := hkj.2 c; omega)
      omega
    subst hjk
    conv => whnf
    refine ⟨fun i j _ _ => rfl, ?_⟩
    conv => whnf
    exact ⟨rfl, Sub.refl _⟩
include hm
theorem root_P {a : Pol (Zp p)} (hl : a.len ≤ 4096) (hd : Pol.dv a = 0) (ha : a ≠ 0) : FnOK Try.prog false 27 [.c (.int .i64 p), pl a] (pl (rtp a)) := by
  have hm1 := hm.1
  have hm2 := hm.2.1
  obtain ⟨k, e1, e2⟩ := rtp_len hd ha
  have := root_list (p := p) (q := p.toNat) (n := a.len) (k := k) (F := fun i => (a.f i).v) (by omega) (by omega) e1 hl (by omega)
  rw [← e2] at this
  exact this
end
end Go.Proofs.Ytlhdliafjconmaa
/- The program's fpoly.halves, over polynomials. -/
namespace Go.Proofs.Ytlhdliafjconmaa
open Go.RowKit
section
variable {p : Int} [hp : Prm p] (hm : Fp.md p)
theorem ofP_one : ofP (1 : Pol (Zp p)) = (1, fun i => if i = 0 then 1 else 0) := by
  have h1 : (1 : Int) % p = 1 := Int.emod_eq_of_lt (by omega) (by have := hp.two; omega)
  refine Prod.ext Pol.len_one (funext fun i => ?_)
  show (if i = 0 then (1 : Zp p) else 0).v = if i = 0 then 1 else 0
  split
  · exact h1
  · exact Int.zero_emod p
theorem divmod_nz {x y : Int} (hx : zlen x ≤ 1000000) (h0 : y ≠ 0) (hy : zlen y ≤ 1000000 := by decide) : FnOK Try.prog true 61 [.g (nz x), .g (nz y)] (.t3 (.g (nz (x / y))) (.g (nz (x % y))) (.c (.int .i64 0))) := by
  have := divmod_ok (a := ofZ x) (b := ofZ y) (ofZ_ok x) (ofZ_ok y) (by show zlen x + 2 ≤ LIM; unfold LIM; omega) (by show zlen y + 1 ≤ LIM; unfold LIM; omega) (by rw [ofZ_val]; exact h0)
  rw [ofZ_val, ofZ_val] at this
  exact this
/-- The polynomial 1 as the program writes it. -/
abbrev oneV : V := .c (.row 1 1 (rowF 1 [.int .i64 1]))
theorem sub_oneV : Sub oneV (pl (1 : Pol (Zp p))) := by
  show Sub _ (Fp.cl (ofP (1 : Pol (Zp p))))
  rw [ofP_one]
  refine subRowG rfl fun i j hi hj => ?_
  match i, j, hi, hj with
  | 0, 0, _, _ => rfl
include hm
theorem subs_one {a : Pol (Zp p)} (ha : a.len ≤ 4096) : FnOK Try.prog false 42 [.c (.int .i64 p), pl a, oneV, .c (.int .i64 (p - 1))] (pl (a - 1)) := by
  refine Fp.arg_ok (subs_P hm ha (by rw [Pol.len_one]; omega)) fun D w vs h => ?_
  match vs, h with
  | [v0, v1, v2, v3], ⟨h0, h1, h2, h3, h4⟩ => exact ⟨h0, h1, sub_oneV D w v2 h2, h3, h4⟩
omit hp hm in
theorem digs_len {e k : Nat} (h : e < 4294967296 ^ k) : (digs e).length ≤ k := by
  have := zlen_nat e k h
  unfold zlen at this
  rwa [Int.natAbs_natCast] at this
set_option maxHeartbeats 8000000 in
theorem halves_odd {d : Nat} {f t : Pol (Zp p)} (h2 : p ≠ 2) (hd : 1 ≤ d) (hd2 : d ≤ 64) (hf : f ≠ 0) (lf : f.len ≤ 1024) (lt : t.len ≤ 4096) : FnOK Try.prog true 43 [.c (.int .i64 p), .c (.int .i64 d), pl f, pl t] (pl (Pol.rm (Crg.pw t (p.toNat ^ d / 2)) f - 1)) := by
  have hm1 := hm.1
  have hm2 := hm.2.1
  have hq : (p.toNat : Int) = p := by omega
  have hlt : p.toNat ^ d < 4294967296 ^ d := Nat.pow_lt_pow_left (by omega) (by omega)
  have k0 := of_ok (x := p) (by omega) (by omega)
  have k1 := pow_ok (x := p.toNat) (n := d) (by omega) (by omega) hd hd2
  rw [hq] at k1
  have k2 := of_ok (x := 2) (by decide) (by decide)
  have z1 : zlen ((p.toNat ^ d : Nat) : Int) ≤ d := zlen_nat _ _ hlt
  have k3 := divmod_nz (x := ((p.toNat ^ d : Nat) : Int)) (y := 2) (by omega) (by decide)
  have e3 : ((p.toNat ^ d : Nat) : Int) / 2 = ((p.toNat ^ d / 2 : Nat) : Int) := (Int.natCast_ediv _ 2).symm
  rw [e3] at k3
  have k4 := (powMod_P hm (a := t) (m := f) (e := p.toNat ^ d / 2) lt hf lf (Nat.le_trans (digs_len (k := d) (by have := Nat.div_le_self (p.toNat ^ d) 2; omega)) (by omega))).weak (r := true)
  have lr : (Pol.rm (Crg.pw t (p.toNat ^ d / 2)) f).len ≤ 4096 := by have := (Pol.rm_spec (Crg.pw t (p.toNat ^ d / 2)) hf).2; omega
  have k5 := (subs_one hm lr).weak (r := true)
  generalize ((p.toNat ^ d : Nat) : Int) % 2 = r at *
  generalize hP : ((p.toNat ^ d : Nat) : Int) = P at *
  generalize ((p.toNat ^ d / 2 : Nat) : Int) = H at *
  generalize Pol.rm (Crg.pw t (p.toNat ^ d / 2)) f - 1 = R at *
  generalize Pol.rm (Crg.pw t (p.toNat ^ d / 2)) f = R0 at *
  refine fn_ok (E := E1) E1_ok Try.func43 rfl mixed (by kernel_rfl) (by kernel_rfl) ?_
  conv => whnf
  refine bneg (show decide (p = 2) = false from decide_eq_false h2) ?_
  conv => whnf
  refine ⟨_, k0, ?_⟩
  conv => whnf
  refine ⟨_, k1, ?_⟩
  conv => whnf
  refine ⟨_, k2, ?_⟩
  conv => whnf
  refine ⟨_, k3, ?_⟩
  conv => whnf
  refine ⟨_, k4, ?_⟩
  conv => whnf
  refine ⟨Fp.i64 (by omega) (by omega), ?_⟩
  conv => whnf
  refine ⟨fun i j hi hj => ?_, ?_⟩
  · match i, j, hi, hj with
    | 0, 0, _, _ => rfl
  conv => whnf
  refine ⟨_, k5, ?_⟩
  conv => whnf
  exact ⟨rfl, Sub.refl _⟩
/-- Sums of squares of squares, where p is 2. -/
noncomputable def hv2 (f t : Pol (Zp p)) : Nat → Pol (Zp p) × Pol (Zp p)
  | 0 => (t, t)
  | n + 1 => ((hv2 f t n).1 + Pol.rm ((hv2 f t n).2 * (hv2 f t n).2) f, Pol.rm ((hv2 f t n).2 * (hv2 f t n).2) f)
omit hm in
theorem hv2_len {f t : Pol (Zp p)} (hf : f ≠ 0) (lt : t.len ≤ 1024) (lf : f.len ≤ 1024) : ∀ n, (hv2 f t n).1.len ≤ 1024 ∧ (hv2 f t n).2.len ≤ 1024
  | 0 => ⟨lt, lt⟩
  | n + 1 => by
    obtain ⟨h1, h2⟩ := hv2_len hf lt lf n
    have h3 := (Pol.rm_spec ((hv2 f t n).2 * (hv2 f t n).2) hf).2
    have h4 := Pol.len_add (hv2 f t n).1 (Pol.rm ((hv2 f t n).2 * (hv2 f t n).2) f)
    exact ⟨by show ((hv2 f t n).1 + Pol.rm ((hv2 f t n).2 * (hv2 f t n).2) f).len ≤ 1024; omega, by show (Pol.rm ((hv2 f t n).2 * (hv2 f t n).2) f).len ≤ 1024; omega⟩
set_option maxHeartbeats 8000000 in
theorem halves_two {d : Nat} {f t : Pol (Zp p)} (h2 : p = 2) (hd : 1 ≤ d) (hd2 : d ≤ 64) (hf : f ≠ 0) (lf : f.len ≤ 1024) (lt : t.len ≤ 1024) : FnOK Try.prog true 43 [.c (.int .i64 p), .c (.int .i64 d), pl f, pl t] (pl (hv2 f t (d - 1)).1) := by
  have hl := hv2_len hf lt lf
  have k1 := fun n => (times_P hm (hl n).2 (hl n).2).weak (r := true)
  have k2 : ∀ n, FnOK Try.prog true 29 [.c (.int .i64 p), pl ((hv2 f t n).2 * (hv2 f t n).2), pl f] (.t2 (pl (Pol.qo ((hv2 f t n).2 * (hv2 f t n).2) f)) (pl (hv2 f t (n + 1)).2)) := fun n => by
    have h3 := Pol.len_mul_le (hv2 f t n).2 (hv2 f t n).2
    have h4 := hl n
    exact (divide_P hm (by omega) (by omega) (Pol.qo_spec _ hf) (Pol.rm_spec _ hf).2).weak
  have k3 : ∀ n, FnOK Try.prog true 42 [.c (.int .i64 p), pl (hv2 f t n).1, pl (hv2 f t (n + 1)).2, .c (.int .i64 1)] (pl (hv2 f t (n + 1)).1) := fun n => (adds_P hm (by have := hl n; omega) (by have := hl (n + 1); omega)).weak
  clear hl
  refine fn_ok (E := E1) E1_ok Try.func43 rfl mixed (by kernel_rfl) (by kernel_rfl) ?_
  conv => whnf
  refine bpos (show decide (p = 2) = true from decide_eq_true h2) ?_
  conv => whnf
  refine ⟨Fp.i64 (by omega) (by omega), ?_⟩
  conv => whnf
  refine loop_ints (fun j : Nat => gst [(0, .c (.int .i64 p)), (2, pl f), (9, pl (hv2 f t j).1), (10, pl (hv2 f t j).2), (18, .c (.int .i64 ((d : Int) - 1))), (19, .c (.int .i64 j))] []) (fun j => d - j) (fun j => j ≤ d - 1) 0 rfl ?_ (Nat.zero_le _) fun j hj => ?_
  · exact Weak.gen [] rfl trivial ⟨⟨_, rfl, rfl⟩, .inl ⟨_, _, rfl, rfl, fun _ _ _ _ => rfl⟩, .inl ⟨_, _, rfl, rfl, fun _ _ _ _ => rfl⟩, .inl ⟨_, _, rfl, rfl, fun _ _ _ _ => rfl⟩, ⟨_, rfl, rfl⟩, ⟨_, rfl, rfl⟩, trivial⟩
  have k1 := k1 j
  have k2 := k2 j
  have k3 := k3 j
  conv => whnf
  refine bcase (fun (h : decide ((j : Int) < (d : Int) - 1) = true) => ?_) fun (h : decide ((j : Int) < (d : Int) - 1) = false) => ?_
  · have h := of_decide_eq_true h
    conv => whnf
    refine ⟨_, k1, ?_⟩
    conv => whnf
    refine ⟨_, k2, ?_⟩
    conv => whnf
    refine ⟨_, k3, ?_⟩
    conv => whnf
    refine ⟨Fp.i64 (by omega) (by omega), ?_⟩
    conv => whnf
    exact ⟨j + 1, by omega, Weak.gen [] rfl trivial ⟨⟨_, rfl, rfl⟩, .inl ⟨_, _, rfl, rfl, fun _ _ _ _ => rfl⟩, .inl ⟨_, _, rfl, rfl, fun _ _ _ _ => rfl⟩, .inl ⟨_, _, rfl, rfl, fun _ _ _ _ => rfl⟩, ⟨_, rfl, rfl⟩, ⟨_, rfl, rfl⟩, trivial⟩, by omega⟩
  · have h := of_decide_eq_false h
    have hj1 : j = d - 1 := by omega
    subst hj1
    conv => whnf
    exact ⟨rfl, Sub.refl _⟩
end
end Go.Proofs.Ytlhdliafjconmaa
/- The program's fpoly.byDegree, over polynomials. -/
namespace Go.Proofs.Ytlhdliafjconmaa
open Go.RowKit
section
variable {p : Int} [hp : Prm p] (hm : Fp.md p)
/-- A polynomial as a cell. -/
noncomputable abbrev pc (a : Pol (Zp p)) : Cell := il (ofP a).1 (ofP a).2
/-- Products of the irreducible divisors of equal degrees. -/
structure ByD (f : Pol (Zp p)) (N : Nat) (o : Nat → Pol (Zp p)) : Prop where
  ne : ∀ i, i < N → o i ≠ 0 ∧ (o i).lead = 1 ∧ Pol.Dvs (o i) f
  irr : ∀ i, i < N → ∀ P, Pol.Irr P → (Pol.Dvs P (o i) ↔ Pol.Dvs P f ∧ P.len = i + 1)
theorem ByD.one {f : Pol (Zp p)} : ByD f 1 fun _ => 1 :=
  ⟨fun i _ => ⟨Pol.one_ne, lead_one, Pol.Dvs.one f⟩, fun i hi P hP => ⟨fun h => absurd h hP.not_one, fun h => by have := hP.two; omega⟩⟩
theorem ByD.add {f g : Pol (Zp p)} {d : Nat} {o : Nat → Pol (Zp p)} (h : ByD f d o) (g0 : g ≠ 0) (gl : g.lead = 1) (gd : Pol.Dvs g f) (gi : ∀ P, Pol.Irr P → (Pol.Dvs P g ↔ Pol.Dvs P f ∧ P.len = d + 1)) : ByD f (d + 1) fun i => if i = d then g else o i := by
  refine ⟨fun i hi => ?_, fun i hi P hP => ?_⟩
  · show (if i = d then g else o i) ≠ 0 ∧ (if i = d then g else o i).lead = 1 ∧ _
    by_cases e : i = d
    · rw [if_pos e]; exact ⟨g0, gl, gd⟩
    · rw [if_neg e]; exact h.ne i (by omega)
  · show Pol.Dvs P (if i = d then g else o i) ↔ _
    by_cases e : i = d
    · rw [if_pos e, e]; exact gi P hP
    · rw [if_neg e]; exact h.irr i (by omega) P hP
/-- At the end of the rounds: nothing is left. -/
theorem ByD.fin {f c w : Pol (Zp p)} {d : Nat} {o : Nat → Pol (Zp p)} (_ : ByD f d o) (b : BdI f d c w) (hc : c.len ≤ 1) : ∀ P, Pol.Irr P → Pol.Dvs P f → P.len ≤ d := fun P hP hd => by
  rcases Nat.lt_or_ge d P.len with h | h
  · have := ((b.irr P hP).2 ⟨hd, h⟩).len b.ne
    have := hP.two
    omega
  · exact h
/-- With 1 in the places up to the last, irreducible, divisor's. -/
theorem ByD.pad {f c w : Pol (Zp p)} {d m : Nat} {o : Nat → Pol (Zp p)} (h : ByD f m o) (b : BdI f d c w) (hi : Pol.Irr c) (hdm : d ≤ m) (hm : m < c.len - 1) : ByD f (m + 1) fun i => if i = m then 1 else o i := by
  refine h.add Pol.one_ne lead_one (Pol.Dvs.one f) fun P hP => ⟨fun k => absurd k hP.not_one, fun ⟨k1, k2⟩ => ?_⟩
  have k3 := (b.irr P hP).2 ⟨k1, by omega⟩
  obtain ⟨x, hx⟩ := k3
  rcases hi.irr P x hx with h1 | h1
  · have := hP.two; omega
  · have hx0 : x ≠ 0 := Pol.ne_of_len (by omega)
    have := Pol.len_mul hP.ne hx0
    rw [← hx] at this
    omega
theorem ByD.last {f c w : Pol (Zp p)} {d m : Nat} {o : Nat → Pol (Zp p)} (h : ByD f m o) (b : BdI f d c w) (hi : Pol.Irr c) (hdm : d ≤ m) (hm : c.len = m + 1) : (ByD f (m + 1) fun i => if i = m then c else o i) ∧ ∀ P, Pol.Irr P → Pol.Dvs P f → P.len ≤ m + 1 := by
  have key : ∀ P, Pol.Irr P → Pol.Dvs P c → P.len = m + 1 := fun P hP ⟨x, hx⟩ => by
    rcases hi.irr P x hx with h1 | h1
    · have := hP.two; omega
    · have hx0 : x ≠ 0 := Pol.ne_of_len (by omega)
      have := Pol.len_mul hP.ne hx0
      rw [← hx] at this
      omega
  refine ⟨h.add b.ne b.lead b.dv fun P hP => ⟨fun k => ⟨k.trans b.dv, key P hP k⟩, fun ⟨k1, k2⟩ => (b.irr P hP).2 ⟨k1, by omega⟩⟩, fun P hP hd => ?_⟩
  rcases Nat.lt_or_ge P.len (d + 1) with h1 | h1
  · omega
  · have := key P hP ((b.irr P hP).2 ⟨hd, h1⟩)
    omega
theorem Gc.eq {a b g g' : Pol (Zp p)} (h : Gc a b g) (h' : Gc a b g') : g' = g := by
  have h1 := h'.gr g h.da h.db
  have h2 := (h.gr g' h'.da h'.db).len h.ne
  obtain ⟨x, hx⟩ := h1
  have hx0 : x ≠ 0 := fun e => h'.ne (by rw [hx, e, Crg.mul_zero])
  have l1 := Pol.len_mul h.ne hx0
  rw [← hx] at l1
  have l5 := Pol.len_pos hx0
  have l6 := Pol.lead_mul h.ne hx0
  rw [← hx, h'.lead, h.lead, Crg.one_mul] at l6
  rw [hx, one_of_len hx0 (by omega) l6.symm, Crg.mul_one]
/-- The monic greatest common divisor. -/
noncomputable def Pol.gd (a b : Pol (Zp p)) : Pol (Zp p) := open Classical in if h : ∃ g, Gc a b g then h.choose else 0
theorem Gc.gd {a b g : Pol (Zp p)} (h : Gc a b g) : Pol.gd a b = g := by
  have hx : ∃ g, Gc a b g := ⟨g, h⟩
  unfold Pol.gd
  rw [dif_pos hx]
  exact h.eq hx.choose_spec
theorem qo_dvs {a g : Pol (Zp p)} (hg : g ≠ 0) (h : Pol.Dvs g a) : a = Pol.qo a g * g := by
  obtain ⟨x, hx⟩ := h
  obtain ⟨e, _⟩ := div_unique (a := a) (b := g) (q := x) (r := 0) (by rw [Crg.add_zero, Crg.mul_comm]; exact hx) (by rw [Pol.len_zero]; exact Pol.len_pos hg) (Pol.qo_spec a hg) (Pol.rm_spec a hg).2
  rw [e, Crg.mul_comm]
  exact hx
include hm in
theorem gd_P {a b : Pol (Zp p)} (ha : a.len ≤ 4096) (hb : b.len ≤ 4096) (hne : a ≠ 0 ∨ b ≠ 0) : Gc a b (Pol.gd a b) ∧ FnOK Try.prog false 28 [.c (.int .i64 p), pl a, pl b] (pl (Pol.gd a b)) := by
  obtain ⟨g, h1, h2⟩ := gcd_P hm ha hb hne
  rw [h1.gd]
  exact ⟨h1, h2⟩
/-- A polynomial and a divisor. -/
theorem qo_P (hm : Fp.md p) {a g : Pol (Zp p)} (ha : a.len ≤ 4096) (hg : g ≠ 0) (hl : g.len ≤ 4096) (h : Pol.Dvs g a) : FnOK Try.prog false 29 [.c (.int .i64 p), pl a, pl g] (.t2 (pl (Pol.qo a g)) (pl (0 : Pol (Zp p)))) :=
  divide_P hm ha hl (by rw [Crg.add_zero]; exact qo_dvs hg h) (by rw [Pol.len_zero]; exact Pol.len_pos hg)
theorem rm_P (hm : Fp.md p) {a m : Pol (Zp p)} (ha : a.len ≤ 4096) (h0 : m ≠ 0) (hl : m.len ≤ 4096) : FnOK Try.prog false 29 [.c (.int .i64 p), pl a, pl m] (.t2 (pl (Pol.qo a m)) (pl (Pol.rm a m))) :=
  divide_P hm ha hl (Pol.qo_spec a h0) (Pol.rm_spec a h0).2
theorem X_len : (Pol.X : Pol (Zp p)).len = 2 := congrArg Prod.fst (ofP_X (p := p))
/-- The rounds of byDegree. -/
noncomputable def bdS (f : Pol (Zp p)) : Nat → Pol (Zp p) × Pol (Zp p) × (Nat → Pol (Zp p))
  | 0 => (f, Pol.X, fun _ => 1)
  | j + 1 => (Pol.qo (bdS f j).1 (Pol.gd (bdS f j).1 (Pol.rm (Crg.pw (bdS f j).2.1 p.toNat) (bdS f j).1 - Pol.X)), Pol.rm (Pol.rm (Crg.pw (bdS f j).2.1 p.toNat) (bdS f j).1) (Pol.qo (bdS f j).1 (Pol.gd (bdS f j).1 (Pol.rm (Crg.pw (bdS f j).2.1 p.toNat) (bdS f j).1 - Pol.X))), fun i => if i = j + 1 then Pol.gd (bdS f j).1 (Pol.rm (Crg.pw (bdS f j).2.1 p.toNat) (bdS f j).1 - Pol.X) else (bdS f j).2.2 i)
structure BdR (f : Pol (Zp p)) (j : Nat) (c w : Pol (Zp p)) (o : Nat → Pol (Zp p)) : Prop where
  i : BdI f (j + 1) c w
  o : ByD f (j + 1) o
  cl : c.len ≤ f.len
  wl : w.len ≤ 1024
theorem bdS_step {f c w : Pol (Zp p)} {j : Nat} {o : Nat → Pol (Zp p)} (hm : Fp.md p) (hs : Pol.Sqf f) (lf : f.len ≤ 1024) (h : BdR f j c w o) :
    let w' := Pol.rm (Crg.pw w p.toNat) c
    let g := Pol.gd c (w' - Pol.X)
    BdR f (j + 1) (Pol.qo c g) (Pol.rm w' (Pol.qo c g)) (fun i => if i = j + 1 then g else o i) ∧ FnOK Try.prog false 40 [.c (.int .i64 p), pl w, .g (nz p), pl c] (pl w') ∧ FnOK Try.prog false 42 [.c (.int .i64 p), pl w', pl (Pol.X : Pol (Zp p)), .c (.int .i64 (p - 1))] (pl (w' - Pol.X)) ∧ FnOK Try.prog false 28 [.c (.int .i64 p), pl c, pl (w' - Pol.X)] (pl g) ∧ FnOK Try.prog false 29 [.c (.int .i64 p), pl c, pl g] (.t2 (pl (Pol.qo c g)) (pl (0 : Pol (Zp p)))) ∧ FnOK Try.prog false 29 [.c (.int .i64 p), pl w', pl (Pol.qo c g)] (.t2 (pl (Pol.qo w' (Pol.qo c g))) (pl (Pol.rm w' (Pol.qo c g)))) := by
  intro w' g
  have hm1 := hm.1
  have hm2 := hm.2.1
  have hX := X_len (p := p)
  have lc : c.len ≤ 1024 := Nat.le_trans h.cl lf
  have k1 := powMod_P hm (a := w) (m := c) (e := p.toNat) (by have := h.wl; omega) h.i.ne lc (by rw [digs_one (x := p.toNat) (by omega) (by omega)]; exact Nat.le_of_ble_eq_true rfl)
  rw [show ((p.toNat : Nat) : Int) = p by omega] at k1
  obtain ⟨s1, s2⟩ := Pol.rm_spec (Crg.pw w p.toNat) h.i.ne
  have s2 : w'.len < c.len := s2
  have k2 := subs_P hm (a := w') (b := (Pol.X : Pol (Zp p))) (by omega) (by omega)
  have l2 : (w' - Pol.X).len ≤ 4096 := by
    have := Pol.len_sub w' (Pol.X : Pol (Zp p))
    omega
  obtain ⟨gg, k3⟩ := gd_P hm (a := c) (b := w' - Pol.X) (by omega) l2 (.inl h.i.ne)
  have gg : Gc c (w' - Pol.X) g := gg
  have lg := gg.da.len h.i.ne
  have k4 := qo_P hm (a := c) (g := g) (by omega) gg.ne (by omega) gg.da
  have ec := qo_dvs gg.ne gg.da
  have q0 : Pol.qo c g ≠ 0 := (lead_quo ec h.i.ne h.i.lead gg.lead).1
  have lq : (Pol.qo c g).len ≤ c.len := Pol.Dvs.len ⟨g, ec⟩ h.i.ne
  have k5 := rm_P hm (a := w') (m := Pol.qo c g) (by omega) q0 (by omega)
  obtain ⟨t1, t2⟩ := Pol.rm_spec w' q0
  obtain ⟨b1, b2, b3, b4⟩ := h.i.step (by omega) hs s1.symm gg ec t1.symm
  exact ⟨⟨b1, h.o.add gg.ne gg.lead b3 b4, Nat.le_trans lq h.cl, by omega⟩, k1, k2, k3, k4, k5⟩
theorem bdS_inv (hm : Fp.md p) {f : Pol (Zp p)} (hs : Pol.Sqf f) (h0 : f ≠ 0) (h1 : f.lead = 1) (lf : f.len ≤ 1024) : ∀ j, BdR f j (bdS f j).1 (bdS f j).2.1 (bdS f j).2.2
  | 0 => ⟨BdI.start h0 h1, ByD.one, Nat.le_refl _, by show (Pol.X : Pol (Zp p)).len ≤ 1024; rw [X_len]; decide⟩
  | j + 1 => (bdS_step hm hs lf (bdS_inv hm hs h0 h1 lf j)).1
end
end Go.Proofs.Ytlhdliafjconmaa
/- The program's fpoly.byDegree: the walk. -/
namespace Go.Proofs.Ytlhdliafjconmaa
open Go.RowKit
theorem ex_least {Q : Nat → Prop} (h : ∃ k, Q k) : ∃ k, Q k ∧ ∀ i, i < k → ¬ Q i := by
  obtain ⟨k, hk⟩ := h
  induction k using Nat.strongRecOn with
  | ind k ih =>
    by_cases hx : ∃ i, i < k ∧ Q i
    · obtain ⟨i, hi, hq⟩ := hx
      exact ih i hi hq
    · exact ⟨k, hk, fun i hi hq => hx ⟨i, hi, hq⟩⟩
section
variable {p : Int} [hp : Prm p]
theorem pc_one : pc (1 : Pol (Zp p)) = il 1 fun i => if i = 0 then 1 else 0 := by
  show il (ofP (1 : Pol (Zp p))).1 (ofP (1 : Pol (Zp p))).2 = _
  rw [ofP_one]
theorem reg_one {q : Nat} {bl : List Blk} {ks : List (Option Nat)} {k : Nat} {B : Blk} {e : Cell → Prop} (hB : bl[k]? = some B) (he : e (.gs k B.u)) (hq : q.ble k = true) (hk : (ks.any fun x => x == some k) = false) (h1 : B.st ≤ 1) (h2 : B.sz = 1) (h3 : B.n = 1) (h4 : B.f 0 0 = .int .i64 1) {a : Pol (Zp p)} (ha : a = 1) : regC q bl ks (pc a) e := by
  rw [ha, pc_one]
  refine .inr (.inr ⟨k, B, hB, he, hq, hk, h1, h2, h3, fun i j hi hj => ?_⟩)
  obtain rfl : i = 0 := by omega
  obtain rfl : j = 0 := by omega
  exact ⟨h4, rfl⟩
/-- Cells that are polynomials. -/
noncomputable abbrev pcs (h : Nat → Pol (Zp p)) : Nat → Nat → Cell := fun i y => ([pc (h i)] : List Cell).getD y .any
theorem pcs_clos (h : Nat → Pol (Zp p)) {i y : Nat} (hy : y < 1) : (pcs h i y).clos = true := by
  obtain rfl : y = 0 := by omega
  rfl
theorem app_pcs {h h' : Nat → Pol (Zp p)} {a : Pol (Zp p)} {k i y : Nat} (hi : i < k + 1) (hy : y < 1) (e : h' k = a) (e2 : ∀ i, i < k → h' i = h i) : appF k (pcs h) (rowF 1 [pc a]) i y = pcs h' i y := by
  obtain rfl : y = 0 := by omega
  unfold appF
  by_cases hk : i = k
  · rw [if_neg (by omega), hk, Nat.sub_self, ← e]; rfl
  · rw [if_pos (by omega)]
    show pc (h i) = pc (h' i)
    rw [e2 i (by omega)]
theorem reg_pc {q : Nat} {bl : List Blk} {ks : List (Option Nat)} {e : Cell → Prop} {a : Pol (Zp p)} (h : e (pc a)) : regC q bl ks (pc a) e := regE h rfl
theorem app_clos {h : Nat → Pol (Zp p)} {a : Pol (Zp p)} {k i y : Nat} (hy : y < 1) : (appF k (pcs h) (rowF 1 [pc a]) i y).clos = true := by
  obtain rfl : y = 0 := by omega
  unfold appF
  split
  · rfl
  · unfold rowF
    rcases Nat.eq_zero_or_pos (i - k) with e | e
    · rw [e]; rfl
    · obtain ⟨d, hd⟩ : ∃ d, (i - k) * 1 + 0 = d + 1 := ⟨(i - k) - 1, by omega⟩
      rw [hd]; rfl
theorem reg_app1 {q : Nat} {bl : List Blk} {ks : List (Option Nat)} {k : Nat} {B : Blk} (hB : bl[k]? = some B) (hq : q.ble k = true) (hk : (ks.any fun x => x == some k) = false) (h1 : B.st ≤ 1) (h2 : B.sz = 1) (h3 : B.n = 1) (h4 : B.f 0 0 = .int .i64 1) {h : Nat → Pol (Zp p)} {m i y d : Nat} (hi : i < m + 1) (hy : y < 1) (hd : d ≤ m) : regC q bl ks (pcs (fun i => if i < d then h i else 1) i y) fun c => appF m (pcs fun i => if i < d then h i else 1) (rowF 1 [.gs k B.u]) i y = c := by
  obtain rfl : y = 0 := by omega
  by_cases e : i < m
  · exact reg_pc (by unfold appF; rw [if_pos e]; rfl)
  · obtain rfl : i = m := by omega
    refine reg_one hB ?_ hq hk h1 h2 h3 h4 (if_neg (by omega))
    unfold appF
    rw [if_neg (Nat.lt_irrefl _), Nat.sub_self]
    rfl
theorem ByD.congr {f : Pol (Zp p)} {N : Nat} {o o' : Nat → Pol (Zp p)} (h : ByD f N o) (e : ∀ i, i < N → o' i = o i) : ByD f N o' :=
  ⟨fun i hi => by rw [e i hi]; exact h.ne i hi, fun i hi => by rw [e i hi]; exact h.irr i hi⟩
/-- The rounds, up to the last. -/
structure BdW (f : Pol (Zp p)) (K : Nat) (c w v u g q : Nat → Pol (Zp p)) (o : Nat → Nat → Pol (Zp p)) : Prop where
  c0 : c 0 = f
  w0 : w 0 = Pol.X
  o0 : o 0 = fun _ => 1
  os : ∀ j i, o (j + 1) i = if i = j + 1 then g j else o j i
  k1 : ∀ j, FnOK Try.prog true 40 [.c (.int .i64 p), pl (w j), .g (nz p), pl (c j)] (pl (v j))
  k2 : ∀ j, FnOK Try.prog true 42 [.c (.int .i64 p), pl (v j), pl (Pol.X : Pol (Zp p)), .c (.int .i64 (p - 1))] (pl (u j))
  k3 : ∀ j, FnOK Try.prog true 28 [.c (.int .i64 p), pl (c j), pl (u j)] (pl (g j))
  k4 : ∀ j, FnOK Try.prog true 29 [.c (.int .i64 p), pl (c j), pl (g j)] (.t2 (pl (c (j + 1))) (pl (0 : Pol (Zp p))))
  k5 : ∀ j, FnOK Try.prog true 29 [.c (.int .i64 p), pl (v j), pl (c (j + 1))] (.t2 (pl (q j)) (pl (w (j + 1))))
  lc : ∀ j, (c j).len ≤ 1024
  kk : K ≤ 1024
  ex : ∀ j, j < K → 1 < (c j).len ∧ 2 * (j + 1) ≤ (c j).len - 1
set_option maxHeartbeats 8000000 in
theorem bd_walk1 (hm : Fp.md p) {f : Pol (Zp p)} {K : Nat} {c w v u g q : Nat → Pol (Zp p)} {o : Nat → Nat → Pol (Zp p)} (H : BdW f K c w v u g q o) (hK : (c K).len ≤ 1) : FnOK Try.prog true 30 [.c (.int .i64 p), pl f] (.c (.row 1 (K + 1) (pcs (o K)))) := by
  have hm1 := hm.1
  have hm2 := hm.2.1
  have kv := (var_P (p := p)).weak (r := true)
  have ko := of_ok (x := p) (by omega) (by omega)
  obtain ⟨c0, w0, o0, os, k1, k2, k3, k4, k5, lc, kk, ex⟩ := H
  obtain rfl := c0
  have kv0 : FnOK Try.prog true 39 [] (pl (w 0)) := by rw [w0]; exact kv
  have o00 : o 0 0 = 1 := by rw [o0]
  refine fn_ok (E := E1) E1_ok Try.func30 rfl mixed (by kernel_rfl) (by kernel_rfl) ?_
  conv => whnf
  refine ⟨_, kv0, ?_⟩
  conv => whnf
  refine loop_ints (fun j : Nat => gst [(0, .c (.int .i64 p)), (1, pl (c j)), (5, .c (.gs 0 0)), (6, pl (w j)), (7, .c (.int .i64 ((j : Int) + 1)))] [⟨23, 1, j + 1, pcs (o j)⟩]) (fun j => K - j) (fun j => j ≤ K) 0 rfl ?_ (Nat.zero_le _) fun j hj => ?_
  · refine Weak.gen [some 1] rfl ⟨⟨_, rfl, rfl, rfl, rfl, rfl, fun i j hi hj => ?_⟩, trivial⟩ ⟨⟨_, rfl, rfl⟩, .inl ⟨_, _, rfl, rfl, fun _ _ _ _ => rfl⟩, ⟨_, rfl, rfl, rfl⟩, .inl ⟨_, _, rfl, rfl, fun _ _ _ _ => rfl⟩, ⟨_, rfl, rfl⟩, trivial⟩
    obtain rfl : i = 0 := by have h : i < 0 + 1 := hi
                             omega
    obtain rfl : j = 0 := by have h : j < 1 := hj
                             omega
    exact reg_one (p := p) (k := 0) (B := ⟨3, 1, 1, 0, 0, rowF 1 [.int .i64 1]⟩) rfl rfl rfl rfl (Nat.zero_le _) rfl rfl rfl o00
  have k1 := k1 j
  have k2 := k2 j
  have k3 := k3 j
  have k4 := k4 j
  have k5 := k5 j
  have os := os j
  have lj := lc j
  have ex := ex j
  have hL : (ofP (c j)).1 = (c j).len := rfl
  conv => whnf
  refine bcase (fun (h : decide ((1 : Int) < ((c j).len : Int)) = true) => ?_) fun (h : decide ((1 : Int) < ((c j).len : Int)) = false) => ?_
  · have h := of_decide_eq_true h
    have hjK : j < K := by
      rcases Nat.lt_or_ge j K with h1 | h1
      · exact h1
      · obtain rfl : j = K := by omega
        omega
    have ex := ex hjK
    conv => whnf
    refine ⟨Fp.i64 (by omega) (by omega), ?_⟩
    conv => whnf
    refine ⟨Fp.i64 (by omega) (by omega), ?_⟩
    conv => whnf
    refine bneg (show decide (((c j).len : Int) - 1 < 2 * ((j : Int) + 1)) = false from decide_eq_false (by omega)) ?_
    conv => whnf
    refine ⟨_, ko, ?_⟩
    conv => whnf
    refine ⟨_, k1, ?_⟩
    conv => whnf
    refine ⟨_, kv, ?_⟩
    conv => whnf
    refine ⟨Fp.i64 (by omega) (by omega), ?_⟩
    conv => whnf
    refine ⟨_, k2, ?_⟩
    conv => whnf
    refine ⟨_, k3, ?_⟩
    conv => whnf
    refine ⟨by show j + 1 + 1 ≤ 16777216; omega, fun x y hx hy => ?_, ?_⟩
    · obtain rfl : x = 0 := by have h : x < 1 := hx
                               omega
      obtain rfl : y = 0 := by have h : y < 1 := hy
                               omega
      exact ⟨rfl, fun h => rfl⟩
    conv => whnf
    refine ⟨_, k4, ?_⟩
    conv => whnf
    refine ⟨_, k5, ?_⟩
    conv => whnf
    refine ⟨Fp.i64 (by omega) (by omega), ?_⟩
    conv => whnf
    refine ⟨j + 1, by omega, Weak.gen [some 0] rfl ⟨⟨_, rfl, rfl, rfl, rfl, rfl, fun i y hi hy => ?_⟩, trivial⟩ ⟨⟨_, rfl, rfl⟩, .inl ⟨_, _, rfl, rfl, fun _ _ _ _ => rfl⟩, ⟨_, rfl, rfl, rfl⟩, .inl ⟨_, _, rfl, rfl, fun _ _ _ _ => rfl⟩, ⟨_, rfl, by omega⟩, trivial⟩, by omega⟩
    exact regE (app_pcs (h := o j) (h' := o (j + 1)) (a := g j) (k := j + 1) hi hy ((os _).trans (if_pos rfl)) fun i hi => (os i).trans (if_neg (by omega))) (pcs_clos _ hy)
  · have h := of_decide_eq_false h
    obtain rfl : j = K := by
      rcases Nat.lt_or_ge j K with h1 | h1
      · have := ex h1; omega
      · omega
    conv => whnf
    refine ⟨fun i j _ hj => pcs_clos _ hj, ?_⟩
    conv => whnf
    exact ⟨rfl, Sub.refl _⟩
set_option maxHeartbeats 8000000 in
theorem bd_walk2 (hm : Fp.md p) {f : Pol (Zp p)} {K : Nat} {c w v u g q : Nat → Pol (Zp p)} {o : Nat → Nat → Pol (Zp p)} (H : BdW f K c w v u g q o) (hK : 1 < (c K).len) (hK2 : (c K).len - 1 < 2 * (K + 1)) (hK3 : K + 1 ≤ (c K).len - 1) : FnOK Try.prog true 30 [.c (.int .i64 p), pl f] (.c (.row 1 (c K).len (pcs fun i => if i = (c K).len - 1 then c K else if i < K + 1 then o K i else 1))) := by
  have hm1 := hm.1
  have hm2 := hm.2.1
  have kv := (var_P (p := p)).weak (r := true)
  have ko := of_ok (x := p) (by omega) (by omega)
  obtain ⟨c0, w0, o0, os, k1, k2, k3, k4, k5, lc, kk, ex⟩ := H
  obtain rfl := c0
  have kv0 : FnOK Try.prog true 39 [] (pl (w 0)) := by rw [w0]; exact kv
  have o00 : o 0 0 = 1 := by rw [o0]
  refine fn_ok (E := E1) E1_ok Try.func30 rfl mixed (by kernel_rfl) (by kernel_rfl) ?_
  conv => whnf
  refine ⟨_, kv0, ?_⟩
  conv => whnf
  refine loop_ints (fun j : Nat => gst [(0, .c (.int .i64 p)), (1, pl (c j)), (5, .c (.gs 0 0)), (6, pl (w j)), (7, .c (.int .i64 ((j : Int) + 1)))] [⟨23, 1, j + 1, pcs (o j)⟩]) (fun j => K - j) (fun j => j ≤ K) 0 rfl ?_ (Nat.zero_le _) fun j hj => ?_
  · refine Weak.gen [some 1] rfl ⟨⟨_, rfl, rfl, rfl, rfl, rfl, fun i j hi hj => ?_⟩, trivial⟩ ⟨⟨_, rfl, rfl⟩, .inl ⟨_, _, rfl, rfl, fun _ _ _ _ => rfl⟩, ⟨_, rfl, rfl, rfl⟩, .inl ⟨_, _, rfl, rfl, fun _ _ _ _ => rfl⟩, ⟨_, rfl, rfl⟩, trivial⟩
    obtain rfl : i = 0 := by have h : i < 0 + 1 := hi
                             omega
    obtain rfl : j = 0 := by have h : j < 1 := hj
                             omega
    exact reg_one (p := p) (k := 0) (B := ⟨3, 1, 1, 0, 0, rowF 1 [.int .i64 1]⟩) rfl rfl rfl rfl (Nat.zero_le _) rfl rfl rfl o00
  have k1 := k1 j
  have k2 := k2 j
  have k3 := k3 j
  have k4 := k4 j
  have k5 := k5 j
  have os := os j
  have lj := lc j
  have ex := ex j
  have hL : (ofP (c j)).1 = (c j).len := rfl
  conv => whnf
  refine bpos (show decide ((1 : Int) < ((c j).len : Int)) = true from decide_eq_true (by
    rcases Nat.lt_or_ge j K with h1 | h1
    · have := ex h1; omega
    · obtain rfl : j = K := by omega
      omega)) ?_
  rcases Nat.lt_or_ge j K with hjK | hjK
  · have ex := ex hjK
    conv => whnf
    refine ⟨Fp.i64 (by omega) (by omega), ?_⟩
    conv => whnf
    refine ⟨Fp.i64 (by omega) (by omega), ?_⟩
    conv => whnf
    refine bneg (show decide (((c j).len : Int) - 1 < 2 * ((j : Int) + 1)) = false from decide_eq_false (by omega)) ?_
    conv => whnf
    refine ⟨_, ko, ?_⟩
    conv => whnf
    refine ⟨_, k1, ?_⟩
    conv => whnf
    refine ⟨_, kv, ?_⟩
    conv => whnf
    refine ⟨Fp.i64 (by omega) (by omega), ?_⟩
    conv => whnf
    refine ⟨_, k2, ?_⟩
    conv => whnf
    refine ⟨_, k3, ?_⟩
    conv => whnf
    refine ⟨by show j + 1 + 1 ≤ 16777216; omega, fun x y hx hy => ?_, ?_⟩
    · obtain rfl : x = 0 := by have h : x < 1 := hx
                               omega
      obtain rfl : y = 0 := by have h : y < 1 := hy
                               omega
      exact ⟨rfl, fun h => rfl⟩
    conv => whnf
    refine ⟨_, k4, ?_⟩
    conv => whnf
    refine ⟨_, k5, ?_⟩
    conv => whnf
    refine ⟨Fp.i64 (by omega) (by omega), ?_⟩
    conv => whnf
    refine ⟨j + 1, by omega, Weak.gen [some 0] rfl ⟨⟨_, rfl, rfl, rfl, rfl, rfl, fun i y hi hy => ?_⟩, trivial⟩ ⟨⟨_, rfl, rfl⟩, .inl ⟨_, _, rfl, rfl, fun _ _ _ _ => rfl⟩, ⟨_, rfl, rfl, rfl⟩, .inl ⟨_, _, rfl, rfl, fun _ _ _ _ => rfl⟩, ⟨_, rfl, by omega⟩, trivial⟩, by omega⟩
    exact regE (app_pcs (h := o j) (h' := o (j + 1)) (a := g j) (k := j + 1) hi hy ((os _).trans (if_pos rfl)) fun i hi => (os i).trans (if_neg (by omega))) (pcs_clos _ hy)
  · obtain rfl : j = K := by omega
    conv => whnf
    refine ⟨Fp.i64 (by omega) (by omega), ?_⟩
    conv => whnf
    refine ⟨Fp.i64 (by omega) (by omega), ?_⟩
    conv => whnf
    refine bpos (show decide (((c j).len : Int) - 1 < 2 * ((j : Int) + 1)) = true from decide_eq_true (by omega)) ?_
    conv => whnf
    refine loop_ints (fun m : Nat => gst [(1, pl (c j)), (5, .c (.gs 0 0))] [⟨23, 1, m, pcs fun i => if i < j + 1 then o j i else 1⟩]) (fun m => (c j).len - m) (fun m => j + 1 ≤ m ∧ m ≤ (c j).len - 1) (j + 1) rfl ?_ ⟨Nat.le_refl _, hK3⟩ fun m hm => ?_
    · refine Weak.gen [some 0] rfl ⟨⟨_, rfl, rfl, rfl, rfl, rfl, fun i y hi hy => ?_⟩, trivial⟩ ⟨.inl ⟨_, _, rfl, rfl, fun _ _ _ _ => rfl⟩, ⟨_, rfl, rfl, rfl⟩, trivial⟩
      obtain rfl : y = 0 := by have h : y < 1 := hy
                               omega
      exact reg_pc (congrArg pc (if_pos hi).symm)
    obtain ⟨hma, hmb⟩ := hm
    conv => whnf
    refine ⟨Fp.i64 (by omega) (by omega), ?_⟩
    conv => whnf
    refine bcase (fun (h : decide ((m : Int) < ((c j).len : Int) - 1) = true) => ?_) fun (h : decide ((m : Int) < ((c j).len : Int) - 1) = false) => ?_
    · have h := of_decide_eq_true h
      conv => whnf
      refine ⟨by show m + 1 ≤ 16777216; omega, fun x y hx hy => ?_, ?_⟩
      · obtain rfl : x = 0 := by have h : x < 1 := hx
                                 omega
        obtain rfl : y = 0 := by have h : y < 1 := hy
                                 omega
        exact ⟨rfl, fun h => rfl⟩
      conv => whnf
      refine ⟨m + 1, by omega, Weak.gen [some 0] rfl ⟨⟨_, rfl, rfl, rfl, rfl, rfl, fun i y hi hy => ?_⟩, trivial⟩ ⟨.inl ⟨_, _, rfl, rfl, fun _ _ _ _ => rfl⟩, ⟨_, rfl, rfl, rfl⟩, trivial⟩, by omega⟩
      exact reg_app1 (k := 1) (B := ⟨3, 1, 1, 0, 0, rowF 1 [.int .i64 1]⟩) rfl rfl rfl (Nat.zero_le _) rfl rfl rfl hi hy hma
    · have h := of_decide_eq_false h
      obtain rfl : m = (c j).len - 1 := by omega
      conv => whnf
      refine ⟨by show (c j).len - 1 + 1 ≤ 16777216; omega, fun x y hx hy => ?_, ?_⟩
      · obtain rfl : x = 0 := by have h : x < 1 := hx
                                 omega
        obtain rfl : y = 0 := by have h : y < 1 := hy
                                 omega
        exact ⟨rfl, fun h => rfl⟩
      conv => whnf
      refine ⟨fun i y _ hy => app_clos (h := fun i => if i < j + 1 then o j i else 1) (a := c j) (k := (c j).len - 1) (i := i) hy, ?_⟩
      conv => whnf
      exact ⟨rfl, subRowG (show (c j).len - 1 + 1 = (c j).len by omega) fun i y hi hy => app_pcs (h := fun i => if i < j + 1 then o j i else 1) (h' := fun i => if i = (c j).len - 1 then c j else if i < j + 1 then o j i else 1) (a := c j) (k := (c j).len - 1) (by omega) hy (if_pos rfl) fun i hi => if_neg (by omega)⟩
/-- The products of the irreducible divisors of equal degrees. -/
theorem byDegree_P (hm : Fp.md p) {f : Pol (Zp p)} (hs : Pol.Sqf f) (h0 : f ≠ 0) (h1 : f.lead = 1) (lf : f.len ≤ 1024) : ∃ (N : Nat) (o : Nat → Pol (Zp p)), ByD f N o ∧ (∀ P, Pol.Irr P → Pol.Dvs P f → P.len ≤ N) ∧ 1 ≤ N ∧ N ≤ f.len + 1 ∧ FnOK Try.prog true 30 [.c (.int .i64 p), pl f] (.c (.row 1 N (pcs o))) := by
  have inv := bdS_inv hm hs h0 h1 lf
  have stp := fun j => (bdS_step hm hs lf (inv j)).2
  obtain ⟨K, hK, hmin⟩ := ex_least (Q := fun j => (bdS f j).1.len ≤ 1 ∨ (bdS f j).1.len - 1 < 2 * (j + 1)) ⟨f.len, .inr (by have := (inv f.len).cl; omega)⟩
  have kk : K ≤ f.len := Nat.le_of_not_lt fun h => hmin f.len h (.inr (by have := (inv f.len).cl; omega))
  have H : BdW f K (fun j => (bdS f j).1) (fun j => (bdS f j).2.1) (fun j => Pol.rm (Crg.pw (bdS f j).2.1 p.toNat) (bdS f j).1) (fun j => Pol.rm (Crg.pw (bdS f j).2.1 p.toNat) (bdS f j).1 - Pol.X) (fun j => Pol.gd (bdS f j).1 (Pol.rm (Crg.pw (bdS f j).2.1 p.toNat) (bdS f j).1 - Pol.X)) (fun j => Pol.qo (Pol.rm (Crg.pw (bdS f j).2.1 p.toNat) (bdS f j).1) (Pol.qo (bdS f j).1 (Pol.gd (bdS f j).1 (Pol.rm (Crg.pw (bdS f j).2.1 p.toNat) (bdS f j).1 - Pol.X)))) (fun j => (bdS f j).2.2) :=
    ⟨rfl, rfl, rfl, fun _ _ => rfl, fun j => (stp j).1.weak, fun j => (stp j).2.1.weak, fun j => (stp j).2.2.1.weak, fun j => (stp j).2.2.2.1.weak, fun j => (stp j).2.2.2.2.weak, fun j => Nat.le_trans (inv j).cl lf, by omega, fun j hj => by
      have := hmin j hj
      omega⟩
  have i := (inv K).i
  have o := (inv K).o
  by_cases hc : (bdS f K).1.len ≤ 1
  · exact ⟨K + 1, _, o, o.fin i hc, by omega, by omega, bd_walk1 hm H hc⟩
  · have h2 : (bdS f K).1.len - 1 < 2 * (K + 1) := by omega
    have ir := i.exit (by omega) h2
    have hd : K + 1 ≤ (bdS f K).1.len - 1 := by
      have := ((i.irr _ ir).1 (Pol.Dvs.refl _)).2
      omega
    have pad : ∀ t, K + 1 ≤ t → t ≤ (bdS f K).1.len - 1 → ByD f t fun i => if i < K + 1 then (bdS f K).2.2 i else 1 := fun t => by
      induction t with
      | zero => intro h; omega
      | succ t ih =>
        intro ha hb
        by_cases e : K + 1 ≤ t
        · have := (ih e (by omega)).pad i ir e (by omega)
          refine this.congr fun x hx => ?_
          show (if x < K + 1 then (bdS f K).2.2 x else 1) = if x = t then 1 else if x < K + 1 then (bdS f K).2.2 x else 1
          by_cases e1 : x = t
          · rw [if_pos e1, if_neg (by omega)]
          · rw [if_neg e1]
        · obtain rfl : t = K := by omega
          exact o.congr fun x hx => if_pos hx
    obtain ⟨a, b⟩ := (pad _ hd (Nat.le_refl _)).last i ir hd (by omega)
    have e : (bdS f K).1.len - 1 + 1 = (bdS f K).1.len := by omega
    rw [e] at a b
    exact ⟨_, _, a, b, by omega, by have := (inv K).cl; omega, bd_walk2 hm H (by omega) h2 hd⟩
end
end Go.Proofs.Ytlhdliafjconmaa
/- Separating the divisors of one degree: contracts' plain parts. -/
namespace Go.Proofs.Ytlhdliafjconmaa
open Go.RowKit
/-- A fresh block as a closed result. -/
theorem FnM.shut {P : Program} {r : Bool} {f : FuncId} {args : List V} {T sz n : Nat} {g : Nat → Nat → Cell} (h : FnM P r f phB args (.c (.gs 1 0)) phB [⟨T, sz, n, 0, 0, g⟩]) (hc : ∀ i j, i < n → j < sz → (g i j).clos = true) (ha : args.all V.clos = true) : FnOK P r f args (.c (.row sz n g)) := by
  refine ⟨h.1, fun D w vs hD hU hargs => ?_⟩
  have hDof : ∀ b, Dof D [] [] b → D b := by
    rintro b (h | ⟨k, l, B, h1, _⟩)
    · exact h
    · simp at h1
  have hs0 : Sat D ⟨w, fun _ => False⟩ r [] [] w := ⟨⟨rfl, rfl, rfl, Nat.le_refl _, fun _ _ _ => rfl⟩, fun b hb => ⟨hD b hb, id⟩, rfl, fun k l B h1 _ => by simp at h1, fun i j li lj Bi Bj b h1 => by simp at h1, fun hr b o d hb => hU hr b o d (hDof b hb)⟩
  obtain ⟨hs1, hd1⟩ := hs0.ph
  have hargs2 : VRels (Dof D ([] ++ [phL]) ([] ++ [phB])) w ([] ++ [phL]) args vs := (hargs.clos ha).step (fun b _ hb => hDof b ((hd1 b).1 hb))
  refine (h.2 D ⟨w, fun _ => False⟩ phL w vs hs1 hargs2).mono ?_
  rintro e w' ⟨v, l', ρ', rfl, hs, _, hv⟩
  refine ⟨v, rfl, ?_, ⟨hs.below.os, hs.below.tape, hs.below.output, hs.below.size, fun k hk => hs.below.block k hk id⟩⟩
  obtain ⟨l, l1, _, l3⟩ := hv
  have hat := hs.at_ 1 l _ l1 rfl (Nat.zero_le _)
  have ev := l3 hat.1
  rcases hat.2 with ⟨p1, p2, p3⟩ | ⟨b, cap, cs, p2, p3, p4, p5, p6, p7, p8, p9⟩
  · have p1 : n = 0 := p1
    exact ⟨none, 0, by rw [ev, p3, p1], by omega, fun h => by omega⟩
  · refine ⟨some ⟨b, 0, none⟩, cap, by rw [ev, p4], p7, fun hn => ⟨b, 0, rfl, heap_lt p5, fun hb => ?_, fun i j hi hj => ?_⟩⟩
    · have h1 := hD b hb
      rcases hs.own l1 rfl (Nat.zero_le _) p2 with h2 | h2
      · have h2 : w.heap.size ≤ b := h2
        omega
      · exact h2
    · obtain ⟨u, hu, hr⟩ := p9 i j hi hj
      refine ⟨u, ?_, ?_⟩
      · simp only [World.cell?, p5]
        simp [hu]
      · exact (hr.clos (hc i j hi hj)).step (Ext.refl _ _) (fun b _ hb => .inl hb) (LocsLe.refl _)
section
variable {p : Int} [hp : Prm p]
/-- The second polynomial of a trial. -/
noncomputable def hlv (d : Nat) (f t : Pol (Zp p)) : Pol (Zp p) := if p = 2 then (hv2 f t (d - 1)).1 else Pol.rm (Crg.pw t (p.toNat ^ d / 2)) f - 1
theorem halves_P (hm : Fp.md p) {d : Nat} {f t : Pol (Zp p)} (hd : 1 ≤ d) (hd2 : d ≤ 64) (hf : f ≠ 0) (lf : f.len ≤ 1024) (lt : t.len ≤ 1024) : FnOK Try.prog true 43 [.c (.int .i64 p), .c (.int .i64 d), pl f, pl t] (pl (hlv d f t)) ∧ (hlv d f t).len ≤ 1024 := by
  unfold hlv
  by_cases h2 : p = 2
  · rw [if_pos h2]
    exact ⟨halves_two hm h2 hd hd2 hf lf lt, (hv2_len hf lt lf _).1⟩
  · rw [if_neg h2]
    refine ⟨halves_odd hm h2 hd hd2 hf lf (by omega), ?_⟩
    have h3 := (Pol.rm_spec (Crg.pw t (p.toNat ^ d / 2)) hf).2
    have h4 := Pol.len_sub (Pol.rm (Crg.pw t (p.toNat ^ d / 2)) f) 1
    rw [Pol.len_one] at h4
    omega
theorem two_dvs {P S f : Pol (Zp p)} (hP : Pol.Irr P) (hS : Pol.Irr S) (lP : P.lead = 1) (lS : S.lead = 1) (hne : P ≠ S) (dP : Pol.Dvs P f) (dS : Pol.Dvs S f) (h0 : f ≠ 0) : P.len + S.len ≤ f.len + 1 := by
  rcases hP.or S with h | h
  · exact absurd (hP.eq hS lP lS h) hne
  · have h1 := (h.both dP dS).len h0
    have h2 := Pol.len_mul hP.ne hS.ne
    omega
abbrev Proper (f g : Pol (Zp p)) : Prop := 1 < g.len ∧ g.len < f.len
noncomputable def trl (f : Pol (Zp p)) (n : Nat) : Pol (Zp p) := Pol.rm (dgp p n) f
theorem trial_ex (hm : Fp.md p) {d : Nat} {f : Pol (Zp p)} (hd : 1 ≤ d) (h : Eqd d f) (hl : d + 1 < f.len) (hl2 : f.len ≤ 65) : ∃ n, p.toNat ≤ n ∧ n < 2 ^ 50 ∧ (Proper f (Pol.gd f (trl f n)) ∨ Proper f (Pol.gd f (hlv d f (trl f n)))) := by
  have hm1 := hm.1
  have hm2 := hm.2.1
  obtain ⟨P, S, hP, hS, lP, lS, nP, nS, hne, dP, dS⟩ := h.two hl hd
  have hb := two_dvs hP hS lP lS hne dP dS h.ne
  obtain ⟨n, h1, h2, h3⟩ := part_ex (p := p) (by omega) hd (by omega) hP hS lP lS nP nS hne dP dS
  refine ⟨n, h1, h2, ?_⟩
  have c1 : Pol.Cgr f (dgp p n) (trl f n) := (Pol.rm_spec (dgp p n) h.ne).1
  have l1 : (trl f n).len < f.len := (Pol.rm_spec (dgp p n) h.ne).2
  rcases h3 with h3 | ⟨ho, h3⟩
  · exact .inl (splits_gcd (splits_cgr h3 c1) (gd_P hm (by omega) (by omega) (.inl h.ne)).1 h.ne)
  · right
    have hp2 : p ≠ 2 := by
      intro e
      have : p.toNat = 2 := by omega
      omega
    have e : (p.toNat ^ d - 1) / 2 = p.toNat ^ d / 2 := by
      have : p.toNat ^ d % 2 = 1 := by rw [Nat.pow_mod, ho, Nat.one_pow]
      omega
    have hl := (halves_P hm (d := d) (f := f) (t := trl f n) hd (by omega) h.ne (by omega) (by omega)).2
    refine splits_gcd (splits_cgr h3 ?_) (gd_P hm (by omega) (by omega) (.inl h.ne)).1 h.ne
    unfold hlv
    rw [if_neg hp2, e]
    exact ((c1.pw _).trans (Pol.rm_spec _ h.ne).1).sub (Pol.Cgr.refl f 1)
/-- A list of polynomials as a block. -/
noncomputable abbrev lB (l : List (Pol (Zp p))) : Gx := ⟨23, 1, l.length, pcs fun i => l.getD i 0⟩
/-- A proper divisor parts the list. -/
theorem sep_two {d : Nat} {f g : Pol (Zp p)} (h : Eqd d f) (hl : g.lead = 1) (hd : Pol.Dvs g f) (h0 : g ≠ 0) (_ : Proper f g) : Eqd d g ∧ Eqd d (Pol.qo f g) ∧ (Pol.qo f g).len + g.len = f.len + 1 ∧ ∀ l m, IrL g l → IrL (Pol.qo f g) m → IrL f (l ++ m) := by
  have e := qo_dvs h0 hd
  obtain ⟨q0, _, ql⟩ := lead_quo e h.ne h.lead hl
  have hlen := Pol.len_mul q0 h0
  rw [← e] at hlen
  exact ⟨h.of_dvs hd hl, h.of_dvs ⟨g, e⟩ ql, by omega, fun l m a b => IrL.app e (fun P hP k => h.sqf.dis e hP k) a b⟩
end
end Go.Proofs.Ytlhdliafjconmaa
