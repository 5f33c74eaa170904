/- The functions Sign, Of, Normal, Neg, Abs of package bigint: what each computes. The lengths are at most 2^40. -/
import Derived.Test.YtigciplaoikcfaaGreatLen
import Derived.Deep.RegionHeld3
import Derived.Deep.LoopGhost
namespace Go.Proofs.YtigciplaoikcfaaGreat
open Go.RowKit
theorem trim_pos (ds : List Nat) : 0 < (Dg.trim ds).length ↔ 0 < Dg.val ds := by
  rw [← Dg.val_trim ds]
  have h := Dg.val_eq_zero (Dg.trim_trimmed ds)
  constructor
  · intro h1
    rcases Nat.eq_zero_or_pos (Dg.val (Dg.trim ds)) with h2 | h2
    · rw [h.1 h2] at h1; simp at h1
    · exact h2
  · intro h1
    rcases Nat.eq_zero_or_pos (Dg.trim ds).length with h2 | h2
    · rw [List.length_eq_zero_iff.1 h2] at h1; simp [Dg.val] at h1
    · exact h2
theorem Dig.store {w : World} {A : Option Addr} {n : Nat} {ds : List Nat} (h : Dig w A n ds) (p : Addr) (u : Value) (hp : ∀ d : Int, w.cell? p ≠ some (.int .u32 d)) : Dig (w.setCell p u) A n ds := by
  refine ⟨h.1, h.2.1, fun hn => ?_⟩
  obtain ⟨b, o, hA, hlt, hc⟩ := h.2.2 hn
  refine ⟨b, o, hA, by simpa using hlt, fun i hi => ?_⟩
  rw [World.cell?_setCell_other w p ⟨b, o + i, none⟩ u (fun e => hp _ (by rw [e]; exact hc i hi))]
  exact hc i hi
theorem NInt.store {w : World} {v : Value} {x : Int} {L : Nat} (h : NInt w v x L) (p : Addr) (u : Value) (hp : ∀ d : Int, w.cell? p ≠ some (.int .u32 d)) : NInt (w.setCell p u) v x L := by
  obtain ⟨neg, A, n, c, ds, h1, h2, h3⟩ := h
  exact ⟨neg, A, n, c, ds, h1, h2.store p u hp, h3⟩
/-- The result's own two cells are written. -/
theorem NInt.ret {w : World} {v u0 u1 : Value} {x : Int} {L R n0 c0 : Nat} {b0 : Bool} {A0 : Option Addr} (h : NInt w v x L) (r0 : w.cell? ⟨R, 0, none⟩ = some (.bool b0)) (r1 : w.cell? ⟨R, 1, none⟩ = some (.slice A0 n0 c0)) :
    NInt ((w.setCell ⟨R, 0, none⟩ u0).setCell ⟨R, 1, none⟩ u1) v x L := by
  refine (h.store _ u0 (by rw [r0]; simp)).store _ u1 ?_
  rw [World.cell?_setCell_other w ⟨R, 0, none⟩ ⟨R, 1, none⟩ u0 (by simp), r1]
  simp
theorem cell_ret {w : World} {R B i : Nat} {u0 u1 a : Value} (h : w.cell? ⟨B, i, none⟩ = some a) (hne : B ≠ R) : ((w.setCell ⟨R, 0, none⟩ u0).setCell ⟨R, 1, none⟩ u1).cell? ⟨B, i, none⟩ = some a := by
  rw [World.cell?_setCell_other _ ⟨R, 1, none⟩ ⟨B, i, none⟩ u1 (by intro e; injection e with e1; omega), World.cell?_setCell_other _ ⟨R, 0, none⟩ ⟨B, i, none⟩ u0 (by intro e; injection e with e1; omega)]
  exact h
theorem bel_ret {w w2 : World} {R : Nat} {u0 u1 : Value} (h : Below w.heap.size w w2) (hR : w.heap.size ≤ R) : Below w.heap.size w ((w2.setCell ⟨R, 0, none⟩ u0).setCell ⟨R, 1, none⟩ u1) := (h.setCell (p := ⟨R, 0, none⟩) hR u0).setCell (p := ⟨R, 1, none⟩) hR u1
set_option maxHeartbeats 400000 in
theorem int_sign_any (v : Value) (x : Int) (L : Nat) (w : World) (hv : RInt w v x L) (hL : L ≤ LIM) :
    Calls Tryz.prog 121 #[v] w fun e w' => e = .returned (.int .i64 x.sign) ∧ Below w.heap.size w w' := by
  obtain ⟨neg, A, n, c, ds, rfl, hd, hc, hn, hx⟩ := hv
  have hm : n ≤ maxLen := by unfold maxLen; unfold LIM at hL; omega
  have T := fun W hW => trimmed_any A n c ds W (hd.below (w' := W) hW) hm hc
  have hp := trim_pos ds
  have hle : (Dg.trim ds).length ≤ n := by have := trim_length ds; have := hd.len; omega
  obtain ⟨t, ht⟩ : ∃ t, t = (Dg.trim ds).length := ⟨_, rfl⟩
  rw [← ht] at T hp hle
  have T' := Lib.hid T
  have hmx : (t : Int) ≤ 2 ^ 40 := by unfold LIM at hL; omega
  by_cases h0 : 0 < t
  · have hpos := hp.1 h0
    have hb0 : ((t : Int) == 0) = false := by simp; omega
    cases neg
    · have hs : x.sign = 1 := by rw [hx]; exact Int.sign_eq_one_of_pos (by simp [sgn]; omega)
      rw [hs]
      clear hx hd T hp hle hm hL hn ht hc hs hpos
      go_enter Tryz.func121, Tryz.ntmps121
      go_wp2_with (go_at_call 139; refine (T'.out _ (by go_grown)).mono ?_; rintro e w' ⟨rfl, rfl⟩)
      go_ret
      exact ⟨rfl, by go_grown⟩
    · have hs : x.sign = -1 := by rw [hx]; exact Int.sign_eq_neg_one_of_neg (by simp [sgn]; omega)
      rw [hs]
      clear hx hd T hp hle hm hL hn ht hc hs hpos
      go_enter Tryz.func121, Tryz.ntmps121
      go_wp2_with (go_at_call 139; refine (T'.out _ (by go_grown)).mono ?_; rintro e w' ⟨rfl, rfl⟩)
      go_ret
      exact ⟨rfl, by go_grown⟩
  · have hz : Dg.val ds = 0 := by omega
    have hs : x.sign = 0 := by rw [hx, hz]; cases neg <;> rfl
    obtain rfl : t = 0 := by omega
    rw [hs]
    clear hx hd T hp hle hm hL hn ht hc hs hz
    go_enter Tryz.func121, Tryz.ntmps121
    go_wp2_with (go_at_call 139; refine (T'.out _ (by go_grown)).mono ?_; rintro e w' ⟨rfl, rfl⟩)
    go_ret
    exact ⟨rfl, by go_grown⟩
/-- A machine integer. -/
theorem int_of_any (x : Int) (w : World) (h0 : -9223372036854775808 ≤ x) (h1 : x ≤ 9223372036854775807) :
    Calls Tryz.prog 52 #[.int .i64 x] w fun e w' => ∃ v, e = .returned v ∧ NInt w' v x 2 ∧ Below w.heap.size w w' := by
  by_cases hx : x < 0
  · have hd : decide (x < 0) = true := by simp; omega
    obtain ⟨q, hq⟩ : ∃ q : Nat, -x = q := Int.eq_ofNat_of_zero_le (by omega)
    have hw : IntKind.u64.wrap (-(IntKind.u64.wrap x)) = (q : Int) := by
      simp [IntKind.wrap, IntKind.bits, IntKind.signed]; omega
    have hqB : q < Dg.B * Dg.B := by rw [Dg.B_eq]; omega
    have HQ := Lib.hid hqB
    have HX := Lib.hid hq
    clear hq hqB h0 h1 hx
    go_enter Tryz.func52, Tryz.ntmps52
    go_wp2_with fail
    refine (wide_any q _ HQ.out).mono ?_
    rintro e w1 ⟨v, rfl, ⟨A, n, c, ds, rfl, hd1, hc1, hn1, ht1, hv1⟩, hb1⟩
    have HD := Lib.hid hd1
    have HV := Lib.hid hv1
    clear hd1 hv1 ht1
    go_wp2_with fail
    refine (signed_any true A n c ds _ HD.out (by unfold maxLen; omega) hc1).mono ?_
    rintro e w2 ⟨v, rfl, ⟨neg, A2, n2, c2, ds2, rfl, hd2⟩, hb2⟩
    have HD2 := Lib.hid hd2
    have hb12 := bel_ext hb1 hb2
    have r0 := hb12.cell (p := ⟨w.heap.size, 0, none⟩) (by simp)
    have r1 := hb12.cell (p := ⟨w.heap.size, 1, none⟩) (by simp)
    have f0 := hb12.frozen (p := ⟨w.heap.size, 0, none⟩) (by simp)
    have f1 := hb12.frozen (p := ⟨w.heap.size, 1, none⟩) (by simp)
    simp at r0 r1 f0 f1
    clear hd2 hw hd
    have hbw : Below w.heap.size w w2 := ((Below.refl _ _).alloc (Nat.le_refl _) _).trans (hb12.mono (by simp))
    go_wp2
    refine bodyPost_ret (v := .agg #[.bool neg, .slice A2 n2 c2]) (by simp [results, Tryz.results52, go_sem, r0, r1]) rfl ⟨_, rfl, ?_, bel_ret hbw (Nat.le_refl _)⟩
    have hN : NInt w2 (.agg #[.bool neg, .slice A2 n2 c2]) (sgn true (Dg.val ds)) n := ⟨neg, A2, n2, c2, ds2, rfl, HD2.out⟩
    have e : sgn true (Dg.val ds) = x := by rw [HV.out]; have := HX.out; simp [sgn]; omega
    rw [e] at hN
    exact (hN.mono hn1).ret r0 r1
  · have hd : decide (x < 0) = false := by simp; omega
    obtain ⟨q, hq⟩ : ∃ q : Nat, x = q := Int.eq_ofNat_of_zero_le (by omega)
    have hw : IntKind.u64.wrap x = (q : Int) := by
      simp [IntKind.wrap, IntKind.bits, IntKind.signed]; omega
    have hqB : q < Dg.B * Dg.B := by rw [Dg.B_eq]; omega
    have HQ := Lib.hid hqB
    have HX := Lib.hid hq
    clear hq hqB h0 h1 hx
    go_enter Tryz.func52, Tryz.ntmps52
    go_wp2_with fail
    refine (wide_any q _ HQ.out).mono ?_
    rintro e w1 ⟨v, rfl, ⟨A, n, c, ds, rfl, hd1, hc1, hn1, ht1, hv1⟩, hb1⟩
    have HD := Lib.hid hd1
    have HV := Lib.hid hv1
    clear hd1 hv1 ht1
    go_wp2_with fail
    refine (signed_any false A n c ds _ HD.out (by unfold maxLen; omega) hc1).mono ?_
    rintro e w2 ⟨v, rfl, ⟨neg, A2, n2, c2, ds2, rfl, hd2⟩, hb2⟩
    have HD2 := Lib.hid hd2
    have hb12 := bel_ext hb1 hb2
    have r0 := hb12.cell (p := ⟨w.heap.size, 0, none⟩) (by simp)
    have r1 := hb12.cell (p := ⟨w.heap.size, 1, none⟩) (by simp)
    have f0 := hb12.frozen (p := ⟨w.heap.size, 0, none⟩) (by simp)
    have f1 := hb12.frozen (p := ⟨w.heap.size, 1, none⟩) (by simp)
    simp at r0 r1 f0 f1
    clear hd2 hw hd
    have hbw : Below w.heap.size w w2 := ((Below.refl _ _).alloc (Nat.le_refl _) _).trans (hb12.mono (by simp))
    go_wp2
    refine bodyPost_ret (v := .agg #[.bool neg, .slice A2 n2 c2]) (by simp [results, Tryz.results52, go_sem, r0, r1]) rfl ⟨_, rfl, ?_, bel_ret hbw (Nat.le_refl _)⟩
    have hN : NInt w2 (.agg #[.bool neg, .slice A2 n2 c2]) (sgn false (Dg.val ds)) n := ⟨neg, A2, n2, c2, ds2, rfl, HD2.out⟩
    have e : sgn false (Dg.val ds) = x := by rw [HV.out]; have := HX.out; simp [sgn]; omega
    rw [e] at hN
    exact (hN.mono hn1).ret r0 r1
set_option maxHeartbeats 400000 in
theorem int_normal_any (v : Value) (x : Int) (L : Nat) (w : World) (hv : RInt w v x L) (hL : L ≤ LIM) :
    Calls Tryz.prog 144 #[v] w fun e w' => ∃ v', e = .returned v' ∧ NInt w' v' x L ∧ Below w.heap.size w w' := by
  obtain ⟨neg, A, n, c, ds, rfl, hd, hc, hn, hx⟩ := hv
  have hm : n ≤ maxLen := by unfold maxLen; unfold LIM at hL; omega
  have hle : (Dg.trim ds).length ≤ n := by have := trim_length ds; have := hd.len; omega
  have H := Lib.hid hd
  have HX := Lib.hid hx
  have HM := Lib.hid hm
  have HL := Lib.hid (show n ≤ LIM by omega)
  have HT := Lib.hid hle
  clear hd hx hm hL hle
  go_enter Tryz.func144, Tryz.ntmps144
  go_wp2_with fail
  generalize hW : (w.alloc (.cells #[.bool neg, .slice A n c] 61)).alloc (.cells #[.bool false, .slice none 0 0] 61) = W0
  have hb0 : Below w.heap.size w W0 := by rw [← hW]; exact ((Below.refl _ _).alloc (Nat.le_refl _) _).alloc (by simp) _
  have hsz : w.heap.size + 1 < W0.heap.size := by rw [← hW]; simp
  have hsz0 : w.heap.size < W0.heap.size := by omega
  have c0 : W0.cell? ⟨w.heap.size, 0, none⟩ = some (.bool neg) := by rw [← hW]; simp
  have c1 : W0.cell? ⟨w.heap.size, 1, none⟩ = some (.slice A n c) := by rw [← hW]; simp
  have q0 : W0.cell? ⟨w.heap.size + 1, 0, none⟩ = some (.bool false) := by rw [← hW]; simp
  have q1 : W0.cell? ⟨w.heap.size + 1, 1, none⟩ = some (.slice none 0 0) := by rw [← hW]; simp
  have f0 : W0.frozen? ⟨w.heap.size + 1, 0, none⟩ = false := by rw [← hW]; simp
  have f1 : W0.frozen? ⟨w.heap.size + 1, 1, none⟩ = false := by rw [← hW]; simp
  clear hW
  have T := Lib.hid (fun W hW => trimmed_any A n c ds W (H.out.below (w' := W) hW) HM.out hc)
  have HB0 := Lib.hid hb0
  have S0 := Lib.hid (And.intro c0 c1)
  have Q0 := Lib.hid (And.intro q0 (And.intro q1 (And.intro f0 f1)))
  clear hb0 c0 c1 q0 q1 f0 f1
  go_region_held3 (fun w' => w'.cell? ⟨w.heap.size, 0, none⟩ = some (.bool neg) ∧ w'.cell? ⟨w.heap.size, 1, none⟩ = some (.slice A n c)) (first | exact S2.out | exact ⟨cell_ret S2.out.1 (by omega), cell_ret S2.out.2 (by omega)⟩ | exact S1.out | exact S0.out) (first
    | (go_at_call 139; refine (T.out _ HB0.out.drew).mono ?_; rintro e w8 ⟨rfl, rfl⟩)
    | (go_at_call 148; refine (clone_any A _ c (Dg.trim ds) _ (H.out.trim.below HB0.out.drew) (Nat.le_trans HT.out HL.out)).mono ?_; rintro e w1 ⟨A1, c1, rfl, hd1, hc1, hb1⟩; have HD1 := Lib.hid hd1; have HB1 := Lib.hid hb1; have S1 := Lib.hid (And.intro ((hb1.cell (p := ⟨w.heap.size, 0, none⟩) hsz0).trans S0.out.1) ((hb1.cell (p := ⟨w.heap.size, 1, none⟩) hsz0).trans S0.out.2)); clear hd1 hb1)
    | (go_at_call 101; refine (signed_any neg A1 _ c1 (Dg.trim ds) _ HD1.out (Nat.le_trans HT.out HM.out) hc1).mono ?_; rintro e w2 ⟨v, rfl, ⟨neg2, A2, n2, c2, ds2, rfl, hd2⟩, hb2⟩; have HD2 := Lib.hid hd2; have hb12 := bel_ext HB1.out hb2; have S2 := Lib.hid (And.intro ((hb12.cell (p := ⟨w.heap.size, 0, none⟩) hsz0).trans S0.out.1) ((hb12.cell (p := ⟨w.heap.size, 1, none⟩) hsz0).trans S0.out.2)); have r0 := (hb12.cell (p := ⟨w.heap.size + 1, 0, none⟩) hsz).trans Q0.out.1; have r1 := (hb12.cell (p := ⟨w.heap.size + 1, 1, none⟩) hsz).trans Q0.out.2.1; have g0 := (hb12.frozen (p := ⟨w.heap.size + 1, 0, none⟩) hsz).trans Q0.out.2.2.1; have g1 := (hb12.frozen (p := ⟨w.heap.size + 1, 1, none⟩) hsz).trans Q0.out.2.2.2; have HB2 := Lib.hid hb12; clear hd2 hb2 hb12))
  go_wp2
  have hbw : Below w.heap.size w w2 := (HB0.out.drew).trans (HB2.out.mono HB0.out.size)
  refine bodyPost_ret (v := .agg #[.bool neg2, .slice A2 n2 c2]) (by simp [results, Tryz.results144, go_sem, r0, r1]) rfl ⟨_, rfl, ?_, bel_ret hbw (by omega)⟩
  have hN : NInt w2 (.agg #[.bool neg2, .slice A2 n2 c2]) (sgn neg (Dg.val (Dg.trim ds))) (Dg.trim ds).length := ⟨neg2, A2, n2, c2, ds2, rfl, HD2.out⟩
  rw [Dg.val_trim, ← HX.out] at hN
  exact (hN.mono (Nat.le_trans HT.out hn)).ret r0 r1
end Go.Proofs.YtigciplaoikcfaaGreat
/- The functions Neg and Abs of package bigint: what each computes. The lengths are at most 2^40. -/
namespace Go.Proofs.YtigciplaoikcfaaGreat
open Go.RowKit
set_option maxHeartbeats 400000 in
theorem int_neg_any (v : Value) (x : Int) (L : Nat) (w : World) (hv : RInt w v x L) (hL : L ≤ LIM) :
    Calls Tryz.prog 117 #[v] w fun e w' => ∃ v', e = .returned v' ∧ NInt w' v' (-x) L ∧ Below w.heap.size w w' := by
  obtain ⟨neg, A, n, c, ds, rfl, hd, hc, hn, hx⟩ := hv
  have hm : n ≤ maxLen := by unfold maxLen; unfold LIM at hL; omega
  have hle : (Dg.trim ds).length ≤ n := by have := trim_length ds; have := hd.len; omega
  have H := Lib.hid hd
  have HX := Lib.hid hx
  have HM := Lib.hid hm
  have HL := Lib.hid (show n ≤ LIM by omega)
  have HT := Lib.hid hle
  clear hd hx hm hL hle
  go_enter Tryz.func117, Tryz.ntmps117
  go_wp2_with fail
  generalize hW : (w.alloc (.cells #[.bool neg, .slice A n c] 61)).alloc (.cells #[.bool false, .slice none 0 0] 61) = W0
  have hb0 : Below w.heap.size w W0 := by rw [← hW]; exact ((Below.refl _ _).alloc (Nat.le_refl _) _).alloc (by simp) _
  have hsz : w.heap.size + 1 < W0.heap.size := by rw [← hW]; simp
  have hsz0 : w.heap.size < W0.heap.size := by omega
  have c0 : W0.cell? ⟨w.heap.size, 0, none⟩ = some (.bool neg) := by rw [← hW]; simp
  have c1 : W0.cell? ⟨w.heap.size, 1, none⟩ = some (.slice A n c) := by rw [← hW]; simp
  have q0 : W0.cell? ⟨w.heap.size + 1, 0, none⟩ = some (.bool false) := by rw [← hW]; simp
  have q1 : W0.cell? ⟨w.heap.size + 1, 1, none⟩ = some (.slice none 0 0) := by rw [← hW]; simp
  have f0 : W0.frozen? ⟨w.heap.size + 1, 0, none⟩ = false := by rw [← hW]; simp
  have f1 : W0.frozen? ⟨w.heap.size + 1, 1, none⟩ = false := by rw [← hW]; simp
  clear hW
  have T := Lib.hid (fun W hW => trimmed_any A n c ds W (H.out.below (w' := W) hW) HM.out hc)
  have HB0 := Lib.hid hb0
  have S0 := Lib.hid (And.intro c0 c1)
  have Q0 := Lib.hid (And.intro q0 (And.intro q1 (And.intro f0 f1)))
  clear hb0 c0 c1 q0 q1 f0 f1
  go_region_held3 (fun w' => w'.cell? ⟨w.heap.size, 0, none⟩ = some (.bool neg) ∧ w'.cell? ⟨w.heap.size, 1, none⟩ = some (.slice A n c)) (first | exact S2.out | exact ⟨cell_ret S2.out.1 (by omega), cell_ret S2.out.2 (by omega)⟩ | exact S1.out | exact S0.out) (first
    | (go_at_call 139; refine (T.out _ HB0.out.drew).mono ?_; rintro e w8 ⟨rfl, rfl⟩)
    | (go_at_call 148; refine (clone_any A _ c (Dg.trim ds) _ (H.out.trim.below HB0.out.drew) (Nat.le_trans HT.out HL.out)).mono ?_; rintro e w1 ⟨A1, c1, rfl, hd1, hc1, hb1⟩; have HD1 := Lib.hid hd1; have HB1 := Lib.hid hb1; have S1 := Lib.hid (And.intro ((hb1.cell (p := ⟨w.heap.size, 0, none⟩) hsz0).trans S0.out.1) ((hb1.cell (p := ⟨w.heap.size, 1, none⟩) hsz0).trans S0.out.2)); clear hd1 hb1)
    | (go_at_call 101; refine (signed_any (!neg) A1 _ c1 (Dg.trim ds) _ HD1.out (Nat.le_trans HT.out HM.out) hc1).mono ?_; rintro e w2 ⟨v, rfl, ⟨neg2, A2, n2, c2, ds2, rfl, hd2⟩, hb2⟩; have HD2 := Lib.hid hd2; have hb12 := bel_ext HB1.out hb2; have S2 := Lib.hid (And.intro ((hb12.cell (p := ⟨w.heap.size, 0, none⟩) hsz0).trans S0.out.1) ((hb12.cell (p := ⟨w.heap.size, 1, none⟩) hsz0).trans S0.out.2)); have r0 := (hb12.cell (p := ⟨w.heap.size + 1, 0, none⟩) hsz).trans Q0.out.1; have r1 := (hb12.cell (p := ⟨w.heap.size + 1, 1, none⟩) hsz).trans Q0.out.2.1; have g0 := (hb12.frozen (p := ⟨w.heap.size + 1, 0, none⟩) hsz).trans Q0.out.2.2.1; have g1 := (hb12.frozen (p := ⟨w.heap.size + 1, 1, none⟩) hsz).trans Q0.out.2.2.2; have HB2 := Lib.hid hb12; clear hd2 hb2 hb12))
  go_wp2
  have hbw : Below w.heap.size w w2 := (HB0.out.drew).trans (HB2.out.mono HB0.out.size)
  refine bodyPost_ret (v := .agg #[.bool neg2, .slice A2 n2 c2]) (by simp [results, Tryz.results117, go_sem, r0, r1]) rfl ⟨_, rfl, ?_, bel_ret hbw (by omega)⟩
  have hN : NInt w2 (.agg #[.bool neg2, .slice A2 n2 c2]) (sgn (!neg) (Dg.val (Dg.trim ds))) (Dg.trim ds).length := ⟨neg2, A2, n2, c2, ds2, rfl, HD2.out⟩
  rw [Dg.val_trim, show sgn (!neg) (Dg.val ds) = -x from by rw [HX.out]; cases neg <;> simp [sgn]] at hN
  exact (hN.mono (Nat.le_trans HT.out hn)).ret r0 r1
end Go.Proofs.YtigciplaoikcfaaGreat
/- The function Mul of package bigint: the product. The lengths are together at most 2^40. -/
namespace Go.Proofs.YtigciplaoikcfaaGreat
open Go.RowKit
theorem sgn_mul (p q : Bool) (a b : Nat) : sgn (!(p == q)) (a * b) = sgn p a * sgn q b := by
  cases p <;> cases q <;> simp [sgn, Int.neg_mul, Int.mul_neg]
theorem bel_undrew {w w' : World} (h : Below w.drew.heap.size w.drew w') : Below w.heap.size w w' := ⟨h.os, h.tape, h.output, h.size, h.block⟩
/-- Three new blocks of two cells. -/
structure Boxes (w W : World) (a b c d e f : Value) : Prop where
  below : Below w.heap.size w W
  size : w.heap.size + 1 + 1 < W.heap.size
  a0 : W.cell? ⟨w.heap.size, 0, none⟩ = some a
  a1 : W.cell? ⟨w.heap.size, 1, none⟩ = some b
  b0 : W.cell? ⟨w.heap.size + 1, 0, none⟩ = some c
  b1 : W.cell? ⟨w.heap.size + 1, 1, none⟩ = some d
  c0 : W.cell? ⟨w.heap.size + 1 + 1, 0, none⟩ = some e
  c1 : W.cell? ⟨w.heap.size + 1 + 1, 1, none⟩ = some f
  f0 : W.frozen? ⟨w.heap.size + 1 + 1, 0, none⟩ = false
  f1 : W.frozen? ⟨w.heap.size + 1 + 1, 1, none⟩ = false
theorem boxes (w : World) (a b c d e f : Value) (t1 t2 t3 : TypeId) : Boxes w (((w.alloc (.cells #[a, b] t1)).alloc (.cells #[c, d] t2)).alloc (.cells #[e, f] t3)) a b c d e f := by
  have h0 : ((w.alloc (.cells #[a, b] t1)).alloc (.cells #[c, d] t2)).heap.size = w.heap.size + 1 + 1 := by simp
  have h1 : (w.alloc (.cells #[a, b] t1)).heap.size = w.heap.size + 1 := by simp
  have k1 : (((w.alloc (.cells #[a, b] t1)).alloc (.cells #[c, d] t2)).alloc (.cells #[e, f] t3)).heap[w.heap.size]? = some (.cells #[a, b] t1 (0, 0)) := by
    rw [Below.heap_alloc _ _ _ (by omega), Below.heap_alloc _ _ _ (by omega)]; exact heap_alloc_new w _
  have k2 : (((w.alloc (.cells #[a, b] t1)).alloc (.cells #[c, d] t2)).alloc (.cells #[e, f] t3)).heap[w.heap.size + 1]? = some (.cells #[c, d] t2 (0, 0)) := by
    rw [Below.heap_alloc _ _ _ (by omega), ← h1]; exact heap_alloc_new _ _
  have k3 : (((w.alloc (.cells #[a, b] t1)).alloc (.cells #[c, d] t2)).alloc (.cells #[e, f] t3)).heap[w.heap.size + 1 + 1]? = some (.cells #[e, f] t3 (0, 0)) := by
    rw [← h0]; exact heap_alloc_new _ _
  refine ⟨(((Below.refl _ _).alloc (Nat.le_refl _) _).alloc (by omega) _).alloc (by omega) _, by simp, ?_, ?_, ?_, ?_, ?_, ?_, ?_, ?_⟩
  · simp only [World.cell?, k1]; rfl
  · simp only [World.cell?, k1]; rfl
  · simp only [World.cell?, k2]; rfl
  · simp only [World.cell?, k2]; rfl
  · simp only [World.cell?, k3]; rfl
  · simp only [World.cell?, k3]; rfl
  · simp only [World.frozen?, k3]; rfl
  · simp only [World.frozen?, k3]; rfl
set_option maxHeartbeats 1000000 in
theorem int_mul_any (v1 v2 : Value) (x y : Int) (L1 L2 : Nat) (w : World) (hv1 : RInt w v1 x L1) (hv2 : RInt w v2 y L2) (hL : L1 + L2 ≤ LIM) :
    Calls Tryz.prog 115 #[v1, v2] w fun e w' => ∃ v', e = .returned v' ∧ NInt w' v' (x * y) (L1 + L2) ∧ Below w.heap.size w w' := by
  obtain ⟨ng, A, n, c, ds, rfl, hd, hc, hn, hx⟩ := hv1
  obtain ⟨nh, A', n', c', es, rfl, he, hc', hn', hy⟩ := hv2
  have hm : n ≤ maxLen := by unfold maxLen; unfold LIM at hL; omega
  have hm' : n' ≤ maxLen := by unfold maxLen; unfold LIM at hL; omega
  have hle : (Dg.trim ds).length ≤ n := by have := trim_length ds; have := hd.len; omega
  have hle' : (Dg.trim es).length ≤ n' := by have := trim_length es; have := he.len; omega
  have H := Lib.hid hd
  have K := Lib.hid he
  have HX := Lib.hid hx
  have HY := Lib.hid hy
  have HL := Lib.hid (show (Dg.trim ds).length + (Dg.trim es).length ≤ LIM by omega)
  have HT := Lib.hid (show (Dg.trim ds).length + (Dg.trim es).length ≤ L1 + L2 by omega)
  have HLL := Lib.hid hL
  have T1 := Lib.hid (fun W hW => trimmed_any A n c ds W (H.out.below (w' := W) hW) hm hc)
  have T2 := Lib.hid (fun W hW => trimmed_any A' n' c' es W (K.out.below (w' := W) hW) hm' hc')
  clear hd he hx hy hm hm' hL hle hle'
  go_enter Tryz.func115, Tryz.ntmps115
  go_wp2_with fail
  have hbx := boxes w (.bool ng) (.slice A n c) (.bool nh) (.slice A' n' c') (.bool false) (.slice none 0 0) 61 61 61
  generalize ((w.alloc (.cells #[.bool ng, .slice A n c] 61)).alloc (.cells #[.bool nh, .slice A' n' c'] 61)).alloc (.cells #[.bool false, .slice none 0 0] 61) = W0 at hbx ⊢
  obtain ⟨hb0, hsz, c0, c1, c2, c3, q0, q1, f0, f1⟩ := hbx
  have hsz0 : w.heap.size < W0.heap.size := by omega
  have hsz1 : w.heap.size + 1 < W0.heap.size := by omega
  have HB0 := Lib.hid hb0
  have S0 := Lib.hid (And.intro c0 (And.intro c1 (And.intro c2 c3)))
  have Q0 := Lib.hid (And.intro q0 (And.intro q1 (And.intro f0 f1)))
  have SK : ∀ w1 : World, Below W0.heap.size W0 w1 → w1.cell? ⟨w.heap.size, 0, none⟩ = some (.bool ng) ∧ w1.cell? ⟨w.heap.size, 1, none⟩ = some (.slice A n c) ∧ w1.cell? ⟨w.heap.size + 1, 0, none⟩ = some (.bool nh) ∧ w1.cell? ⟨w.heap.size + 1, 1, none⟩ = some (.slice A' n' c') :=
    fun w1 hb => ⟨(hb.cell (p := ⟨w.heap.size, 0, none⟩) hsz0).trans c0, (hb.cell (p := ⟨w.heap.size, 1, none⟩) hsz0).trans c1, (hb.cell (p := ⟨w.heap.size + 1, 0, none⟩) hsz1).trans c2, (hb.cell (p := ⟨w.heap.size + 1, 1, none⟩) hsz1).trans c3⟩
  have HSK := Lib.hid SK
  clear hb0 c0 c1 c2 c3 q0 q1 f0 f1 SK
  go_region_held3 (fun w' => w'.cell? ⟨w.heap.size, 0, none⟩ = some (.bool ng) ∧ w'.cell? ⟨w.heap.size, 1, none⟩ = some (.slice A n c) ∧ w'.cell? ⟨w.heap.size + 1, 0, none⟩ = some (.bool nh) ∧ w'.cell? ⟨w.heap.size + 1, 1, none⟩ = some (.slice A' n' c')) (first | exact S2.out | exact ⟨cell_ret S2.out.1 (by omega), cell_ret S2.out.2.1 (by omega), cell_ret S2.out.2.2.1 (by omega), cell_ret S2.out.2.2.2 (by omega)⟩ | exact S1.out | exact S0.out) (first
    | (go_at_call 147; refine (times_any A A' _ c _ c' (Dg.trim ds) (Dg.trim es) _ (H.out.trim.below HB0.out.drew) (K.out.trim.below HB0.out.drew) HL.out).mono ?_; rintro e w1 ⟨v, rfl, ⟨A1, n1, c1, fs, rfl, hd1, hc1, hn1, hv1⟩, hb1⟩; have HD1 := Lib.hid hd1; have HV1 := Lib.hid hv1; have hb1' := bel_undrew hb1; have HB1 := Lib.hid hb1'; have S1 := Lib.hid (HSK.out w1 hb1'); clear hd1 hb1 hb1' hv1)
    | (go_at_call 101; refine (signed_any (!(ng == nh)) A1 n1 c1 fs _ HD1.out (by have := HLL.out; have := HT.out; unfold LIM at *; unfold maxLen; omega) hc1).mono ?_; rintro e w2 ⟨v, rfl, ⟨neg2, A2, n2, c2, ds2, rfl, hd2⟩, hb2⟩; have HD2 := Lib.hid hd2; have hb12 := bel_ext HB1.out hb2; have S2 := Lib.hid (HSK.out w2 hb12); have r0 := (hb12.cell (p := ⟨w.heap.size + 1 + 1, 0, none⟩) hsz).trans Q0.out.1; have r1 := (hb12.cell (p := ⟨w.heap.size + 1 + 1, 1, none⟩) hsz).trans Q0.out.2.1; have g0 := (hb12.frozen (p := ⟨w.heap.size + 1 + 1, 0, none⟩) hsz).trans Q0.out.2.2.1; have g1 := (hb12.frozen (p := ⟨w.heap.size + 1 + 1, 1, none⟩) hsz).trans Q0.out.2.2.2; have HB2 := Lib.hid hb12; clear hd2 hb2 hb12)
    | (go_at_call_of 139 (Value.slice A n c); refine (T1.out _ HB0.out.drew).mono ?_; rintro e w8 ⟨rfl, rfl⟩)
    | (go_at_call 139; refine (T2.out _ HB0.out.drew).mono ?_; rintro e w8 ⟨rfl, rfl⟩))
  go_wp2
  have hbw : Below w.heap.size w w2 := HB0.out.trans (HB2.out.mono HB0.out.size)
  refine bodyPost_ret (v := .agg #[.bool neg2, .slice A2 n2 c2]) (by simp [results, Tryz.results115, go_sem, r0, r1]) rfl ⟨_, rfl, ?_, bel_ret hbw (by omega)⟩
  have hN : NInt w2 (.agg #[.bool neg2, .slice A2 n2 c2]) (sgn (!(ng == nh)) (Dg.val fs)) n1 := ⟨neg2, A2, n2, c2, ds2, rfl, HD2.out⟩
  rw [HV1.out, Dg.val_trim, Dg.val_trim, sgn_mul, ← HX.out, ← HY.out] at hN
  exact (hN.mono (Nat.le_trans hn1 HT.out)).ret r0 r1
end Go.Proofs.YtigciplaoikcfaaGreat
/- The function add of package bigint: the sum of an integer and of another one that is given by its sign and digits. The lengths are at most 2^39. -/
namespace Go.Proofs.YtigciplaoikcfaaGreat
open Go.RowKit
theorem sgn_add (p : Bool) (a b : Nat) : sgn p (a + b) = sgn p a + sgn p b := by cases p <;> simp [sgn] <;> omega
theorem sgn_sub {p q : Bool} (h : p ≠ q) {a b o : Nat} (ho : o + b = a) : sgn p o = sgn p a + sgn q b := by
  subst ho
  cases p <;> cases q <;> simp [sgn] at h ⊢ <;> omega
/-- Two new blocks of two cells. -/
structure Boxes2 (w W : World) (a b e f : Value) : Prop where
  below : Below w.heap.size w W
  size : w.heap.size + 1 < W.heap.size
  a0 : W.cell? ⟨w.heap.size, 0, none⟩ = some a
  a1 : W.cell? ⟨w.heap.size, 1, none⟩ = some b
  c0 : W.cell? ⟨w.heap.size + 1, 0, none⟩ = some e
  c1 : W.cell? ⟨w.heap.size + 1, 1, none⟩ = some f
  f0 : W.frozen? ⟨w.heap.size + 1, 0, none⟩ = false
  f1 : W.frozen? ⟨w.heap.size + 1, 1, none⟩ = false
theorem boxes2 (w : World) (a b e f : Value) (t1 t3 : TypeId) : Boxes2 w ((w.alloc (.cells #[a, b] t1)).alloc (.cells #[e, f] t3)) a b e f := by
  have h1 : (w.alloc (.cells #[a, b] t1)).heap.size = w.heap.size + 1 := by simp
  have k1 : ((w.alloc (.cells #[a, b] t1)).alloc (.cells #[e, f] t3)).heap[w.heap.size]? = some (.cells #[a, b] t1 (0, 0)) := by
    rw [Below.heap_alloc _ _ _ (by omega)]; exact heap_alloc_new w _
  have k3 : ((w.alloc (.cells #[a, b] t1)).alloc (.cells #[e, f] t3)).heap[w.heap.size + 1]? = some (.cells #[e, f] t3 (0, 0)) := by
    rw [← h1]; exact heap_alloc_new _ _
  refine ⟨((Below.refl _ _).alloc (Nat.le_refl _) _).alloc (by omega) _, by simp, ?_, ?_, ?_, ?_, ?_, ?_⟩
  · simp only [World.cell?, k1]; rfl
  · simp only [World.cell?, k1]; rfl
  · simp only [World.cell?, k3]; rfl
  · simp only [World.cell?, k3]; rfl
  · simp only [World.frozen?, k3]; rfl
  · simp only [World.frozen?, k3]; rfl
set_option maxHeartbeats 1000000 in
theorem add_any (v1 : Value) (x : Int) (L1 : Nat) (ng2 : Bool) (A' : Option Addr) (n' c' : Nat) (es : List Nat) (w : World) (hv1 : RInt w v1 x L1) (he : Dig w A' n' es) (te : Dg.trimmed es) (hL1 : L1 ≤ LIM) (hL2 : n' ≤ LIM) :
    Calls Tryz.prog 149 #[v1, .bool ng2, .slice A' n' c'] w fun e w' => ∃ v', e = .returned v' ∧ NInt w' v' (x + sgn ng2 (Dg.val es)) (max L1 n' + 1) ∧ Below w.heap.size w w' := by
  obtain ⟨ng, A, n, c, ds, rfl, hd, hc, hn, hx⟩ := hv1
  have hm : n ≤ maxLen := by unfold maxLen; unfold LIM at hL1; omega
  have hm' : n' ≤ maxLen := by unfold maxLen; unfold LIM at hL2; omega
  have hle : (Dg.trim ds).length ≤ n := by have := trim_length ds; have := hd.len; omega
  have H := Lib.hid hd
  have K := Lib.hid he
  have HX := Lib.hid hx
  have T1 := Lib.hid (fun W hW => trimmed_any A n c ds W (H.out.below (w' := W) hW) hm hc)
  have HT := Lib.hid hle
  have HN := Lib.hid (Nat.le_trans hle hn)
  have HL1 := Lib.hid hL1
  have HL2 := Lib.hid hL2
  have HTE := Lib.hid te
  have HM := Lib.hid hm
  have HM' := Lib.hid hm'
  have hbx := boxes2 w (.bool ng) (.slice A n c) (.bool false) (.slice none 0 0) 61 61
  by_cases hs : ng = ng2
  · subst hs
    clear hd he hx hm hm' hle hn hL1 hL2 te
    go_enter Tryz.func149, Tryz.ntmps149
    go_wp2_with fail
    generalize (w.alloc (.cells #[.bool ng, .slice A n c] 61)).alloc (.cells #[.bool false, .slice none 0 0] 61) = W0 at hbx ⊢
    obtain ⟨hb0, hsz, c0, c1, q0, q1, f0, f1⟩ := hbx
    have HB0 := Lib.hid hb0
    have Q0 := Lib.hid (And.intro q0 (And.intro q1 (And.intro f0 f1)))
    clear hb0 q0 q1 f0 f1
    refine (T1.out _ HB0.out).mono ?_
    rintro e w8 ⟨rfl, rfl⟩
    go_wp2_with fail
    refine (plus_any _ _ _ _ _ _ (Dg.trim ds) es _ (H.out.trim.below HB0.out) (K.out.below HB0.out) (Nat.le_trans HN.out HL1.out) HL2.out).mono ?_
    rintro e w1 ⟨g, m, o, rfl, hm1, hd1, hv1, hb1⟩
    have HD1 := Lib.hid hd1
    have HV1 := Lib.hid hv1
    have HM1 := Lib.hid hm1
    clear hd1 hv1 hm1
    go_wp2_with fail
    refine (signed_any ng _ _ _ o _ HD1.out (by have := HM1.out; have := HN.out; have := HL1.out; have := HL2.out; unfold LIM at *; unfold maxLen; omega) (Nat.le_refl _)).mono ?_
    rintro e w2 ⟨v, rfl, ⟨neg2, A2, n2, c2, ds2, rfl, hd2⟩, hb2⟩
    have HD2 := Lib.hid hd2
    have hb12 := bel_ext hb1 hb2
    have r0 := (hb12.cell (p := ⟨w.heap.size + 1, 0, none⟩) hsz).trans Q0.out.1
    have r1 := (hb12.cell (p := ⟨w.heap.size + 1, 1, none⟩) hsz).trans Q0.out.2.1
    have g0 := (hb12.frozen (p := ⟨w.heap.size + 1, 0, none⟩) hsz).trans Q0.out.2.2.1
    have g1 := (hb12.frozen (p := ⟨w.heap.size + 1, 1, none⟩) hsz).trans Q0.out.2.2.2
    have HB2 := Lib.hid hb12
    clear hd2 hb2 hb12 hb1 c0 c1
    go_wp2
    have hbw : Below w.heap.size w w2 := HB0.out.trans (HB2.out.mono HB0.out.size)
    refine bodyPost_ret (v := .agg #[.bool neg2, .slice A2 n2 c2]) (by simp [results, Tryz.results149, go_sem, r0, r1]) rfl ⟨_, rfl, ?_, bel_ret hbw (by omega)⟩
    have hN : NInt w2 (.agg #[.bool neg2, .slice A2 n2 c2]) (sgn ng (Dg.val o)) m := ⟨neg2, A2, n2, c2, ds2, rfl, HD2.out⟩
    rw [HV1.out, Dg.val_trim, sgn_add, ← HX.out] at hN
    exact (hN.mono (by have := HM1.out; have := HN.out; omega)).ret r0 r1
  · have hsb : (ng == ng2) = false := by simpa using hs
    have HS := Lib.hid hs
    have hva : Dg.val (Dg.trim ds) = Dg.val ds := Dg.val_trim ds
    have hlen1 := Dg.val_lt (Dg.ok_trim hd.ok)
    have hlen2 := Dg.val_lt he.ok
    rw [← he.len] at hlen2
    obtain ⟨C, hC⟩ : ∃ C : Int, C = cmpN (Dg.val (Dg.trim ds)) (Dg.val es) := ⟨_, rfl⟩
    have HC := Lib.hid (fun W hW => compare_any A A' _ c n' c' (Dg.trim ds) es W (H.out.trim.below (w' := W) hW) (K.out.below hW) (Dg.trim_trimmed ds) te (Nat.le_trans hle hm) hm')
    rw [← hC] at HC
    rcases Nat.lt_or_ge (Dg.val (Dg.trim ds)) (Dg.val es) with hlt | hge
    · have hll : (Dg.trim ds).length ≤ n' := by
        refine Dg.length_le_of_val (Dg.trim_trimmed ds) (Nat.lt_trans hlt hlen2)
      have hC1 : C = -1 := by rw [hC]; exact cmpN_lt hlt
      subst hC1
      have HLT := Lib.hid hlt
      have HLL := Lib.hid hll
      clear hd he hx hm hm' hle hn hL1 hL2 te hs hva hlen1 hlen2 hC hlt hll
      go_enter Tryz.func149, Tryz.ntmps149
      go_wp2_with fail
      generalize (w.alloc (.cells #[.bool ng, .slice A n c] 61)).alloc (.cells #[.bool false, .slice none 0 0] 61) = W0 at hbx ⊢
      obtain ⟨hb0, hsz, c0, c1, q0, q1, f0, f1⟩ := hbx
      have HB0 := Lib.hid hb0
      have Q0 := Lib.hid (And.intro q0 (And.intro q1 (And.intro f0 f1)))
      clear hb0 q0 q1 f0 f1
      refine (T1.out _ HB0.out).mono ?_
      rintro e w8 ⟨rfl, rfl⟩
      go_wp2_with fail
      refine (HC.out _ HB0.out).mono ?_
      rintro e w3 ⟨rfl, hb3⟩
      have hb03 := bel_ext HB0.out hb3
      go_wp2_with fail
      refine (less_any _ _ _ _ _ _ es (Dg.trim ds) _ (K.out.below hb03) (H.out.trim.below hb03) HL2.out HLL.out (Nat.le_of_lt HLT.out)).mono ?_
      rintro e w1 ⟨g, o, rfl, hd1, hv1, hb1⟩
      have HD1 := Lib.hid hd1
      have HV1 := Lib.hid hv1
      clear hd1 hv1
      go_wp2_with fail
      refine (signed_any ng2 _ _ _ o _ HD1.out HM'.out (Nat.le_refl _)).mono ?_
      rintro e w2 ⟨v, rfl, ⟨neg2, A2, n2, c2, ds2, rfl, hd2⟩, hb2⟩
      have HD2 := Lib.hid hd2
      have hb12 := bel_ext hb3 (bel_ext hb1 hb2)
      have r0 := (hb12.cell (p := ⟨w.heap.size + 1, 0, none⟩) hsz).trans Q0.out.1
      have r1 := (hb12.cell (p := ⟨w.heap.size + 1, 1, none⟩) hsz).trans Q0.out.2.1
      have g0 := (hb12.frozen (p := ⟨w.heap.size + 1, 0, none⟩) hsz).trans Q0.out.2.2.1
      have g1 := (hb12.frozen (p := ⟨w.heap.size + 1, 1, none⟩) hsz).trans Q0.out.2.2.2
      have HB2 := Lib.hid hb12
      clear hd2 hb2 hb12 hb1 c0 c1 hb3 hb03
      go_wp2
      have hbw : Below w.heap.size w w2 := HB0.out.trans (HB2.out.mono HB0.out.size)
      refine bodyPost_ret (v := .agg #[.bool neg2, .slice A2 n2 c2]) (by simp [results, Tryz.results149, go_sem, r0, r1]) rfl ⟨_, rfl, ?_, bel_ret hbw (by omega)⟩
      have hN : NInt w2 (.agg #[.bool neg2, .slice A2 n2 c2]) (sgn ng2 (Dg.val o)) n' := ⟨neg2, A2, n2, c2, ds2, rfl, HD2.out⟩
      rw [sgn_sub (Ne.symm HS.out) HV1.out, Dg.val_trim, ← HX.out, Int.add_comm] at hN
      exact (hN.mono (by omega)).ret r0 r1
    · have hll : n' ≤ (Dg.trim ds).length := by
        have := Dg.length_le_of_val te (Nat.lt_of_le_of_lt hge hlen1)
        rw [he.len]; exact this
      have hC1 : 0 ≤ C := by
        rw [hC]
        rcases Nat.lt_or_ge (Dg.val es) (Dg.val (Dg.trim ds)) with h | h
        · rw [cmpN_gt h]; omega
        · have : Dg.val (Dg.trim ds) = Dg.val es := by omega
          rw [this, cmpN_self]; omega
      have hdC : decide (0 ≤ C) = true := by simp; omega
      have HGE := Lib.hid hge
      have HLL := Lib.hid hll
      clear hd he hx hm hm' hle hn hL1 hL2 te hs hva hlen1 hlen2 hC hge hll
      go_enter Tryz.func149, Tryz.ntmps149
      go_wp2_with fail
      generalize (w.alloc (.cells #[.bool ng, .slice A n c] 61)).alloc (.cells #[.bool false, .slice none 0 0] 61) = W0 at hbx ⊢
      obtain ⟨hb0, hsz, c0, c1, q0, q1, f0, f1⟩ := hbx
      have HB0 := Lib.hid hb0
      have Q0 := Lib.hid (And.intro q0 (And.intro q1 (And.intro f0 f1)))
      clear hb0 q0 q1 f0 f1 c1
      refine (T1.out _ HB0.out).mono ?_
      rintro e w8 ⟨rfl, rfl⟩
      go_wp2_with fail
      refine (HC.out _ HB0.out).mono ?_
      rintro e w3 ⟨rfl, hb3⟩
      have hb03 := bel_ext HB0.out hb3
      have hsz0 : w.heap.size < W0.heap.size := by omega
      have HSK := Lib.hid (fun (W : World) (hb : Below W0.heap.size W0 W) => (hb.cell (p := ⟨w.heap.size, 0, none⟩) hsz0).trans c0)
      have HB03 := Lib.hid hb03
      have HB3 := Lib.hid hb3
      have S0 := Lib.hid (HSK.out w3 hb3)
      have c0' := S0.out
      clear hb03 hb3 c0
      go_wp2_with fail
      have c0' := S0.out
      go_region_held3 (fun w' => w'.cell? ⟨w.heap.size, 0, none⟩ = some (.bool ng)) (first | exact S2.out | exact cell_ret S2.out (by omega) | exact S1.out | exact S0.out) (first
        | (go_at_call 173; refine (less_any _ _ _ _ _ _ (Dg.trim ds) es _ (H.out.trim.below HB03.out.drew) (K.out.below HB03.out.drew) (Nat.le_trans HN.out HL1.out) HLL.out HGE.out).mono ?_; rintro e w1 ⟨g, o, rfl, hd1, hv1, hb1⟩; have hb1' := bel_ext HB3.out (bel_undrew hb1); have HD1 := Lib.hid hd1; have HV1 := Lib.hid hv1; have HB1 := Lib.hid hb1'; have S1 := Lib.hid (HSK.out w1 hb1'); clear hd1 hb1 hb1' hv1)
        | (go_at_call 101; refine (signed_any ng _ _ _ o _ HD1.out (Nat.le_trans HT.out HM.out) (Nat.le_refl _)).mono ?_; rintro e w2 ⟨v, rfl, ⟨neg2, A2, n2, c2, ds2, rfl, hd2⟩, hb2⟩; have HD2 := Lib.hid hd2; have hb12 := bel_ext HB1.out hb2; have S2 := Lib.hid (HSK.out w2 hb12); have r0 := (hb12.cell (p := ⟨w.heap.size + 1, 0, none⟩) hsz).trans Q0.out.1; have r1 := (hb12.cell (p := ⟨w.heap.size + 1, 1, none⟩) hsz).trans Q0.out.2.1; have g0 := (hb12.frozen (p := ⟨w.heap.size + 1, 0, none⟩) hsz).trans Q0.out.2.2.1; have g1 := (hb12.frozen (p := ⟨w.heap.size + 1, 1, none⟩) hsz).trans Q0.out.2.2.2; have HB2 := Lib.hid hb12; clear hd2 hb2 hb12))
      go_wp2
      have hbw : Below w.heap.size w w2 := HB0.out.trans (HB2.out.mono HB0.out.size)
      refine bodyPost_ret (v := .agg #[.bool neg2, .slice A2 n2 c2]) (by simp [results, Tryz.results149, go_sem, r0, r1]) rfl ⟨_, rfl, ?_, bel_ret hbw (by omega)⟩
      have hN : NInt w2 (.agg #[.bool neg2, .slice A2 n2 c2]) (sgn ng (Dg.val o)) (Dg.trim ds).length := ⟨neg2, A2, n2, c2, ds2, rfl, HD2.out⟩
      rw [sgn_sub HS.out HV1.out, Dg.val_trim, ← HX.out] at hN
      exact (hN.mono (by have := HN.out; omega)).ret r0 r1
end Go.Proofs.YtigciplaoikcfaaGreat
/- The functions Add and Sub of package bigint: the sum and the difference. The lengths are at most 2^40. -/
namespace Go.Proofs.YtigciplaoikcfaaGreat
open Go.RowKit
set_option maxHeartbeats 1000000 in
theorem int_add_any (v1 v2 : Value) (x y : Int) (L1 L2 : Nat) (w : World) (hv1 : RInt w v1 x L1) (hv2 : RInt w v2 y L2) (hL1 : L1 ≤ LIM) (hL2 : L2 ≤ LIM) :
    Calls Tryz.prog 123 #[v1, v2] w fun e w' => ∃ v', e = .returned v' ∧ NInt w' v' (x + y) (max L1 L2 + 1) ∧ Below w.heap.size w w' := by
  have hr1 := hv1
  obtain ⟨ng, A, n, c, ds, rfl, hd, hc, hn, hx⟩ := hv1
  obtain ⟨nh, A', n', c', es, rfl, he, hc', hn', hy⟩ := hv2
  have hm' : n' ≤ maxLen := by unfold maxLen; unfold LIM at hL2; omega
  have hle' : (Dg.trim es).length ≤ n' := by have := trim_length es; have := he.len; omega
  have R1 := Lib.hid hr1
  have K := Lib.hid he
  have HY := Lib.hid hy
  have HT := Lib.hid (show (Dg.trim es).length ≤ L2 by omega)
  have HL1 := Lib.hid hL1
  have HL2 := Lib.hid (show (Dg.trim es).length ≤ LIM by omega)
  have T2 := Lib.hid (fun W hW => trimmed_any A' n' c' es W (K.out.below (w' := W) hW) hm' hc')
  clear hd he hx hy hm' hle' hL1 hL2 hr1
  have hbx := boxes w (.bool ng) (.slice A n c) (.bool nh) (.slice A' n' c') (.bool false) (.slice none 0 0) 61 61 61
  go_enter Tryz.func123, Tryz.ntmps123
  go_wp2_with fail
  generalize ((w.alloc (.cells #[.bool ng, .slice A n c] 61)).alloc (.cells #[.bool nh, .slice A' n' c'] 61)).alloc (.cells #[.bool false, .slice none 0 0] 61) = W0 at hbx ⊢
  obtain ⟨hb0, hsz, c0, c1, c2, c3, q0, q1, f0, f1⟩ := hbx
  have hsz0 : w.heap.size < W0.heap.size := by omega
  have hsz1 : w.heap.size + 1 < W0.heap.size := by omega
  have HB0 := Lib.hid hb0
  have S0 := Lib.hid (And.intro c0 (And.intro c1 (And.intro c2 c3)))
  have Q0 := Lib.hid (And.intro q0 (And.intro q1 (And.intro f0 f1)))
  have SK : ∀ w1 : World, Below W0.heap.size W0 w1 → w1.cell? ⟨w.heap.size, 0, none⟩ = some (.bool ng) ∧ w1.cell? ⟨w.heap.size, 1, none⟩ = some (.slice A n c) ∧ w1.cell? ⟨w.heap.size + 1, 0, none⟩ = some (.bool nh) ∧ w1.cell? ⟨w.heap.size + 1, 1, none⟩ = some (.slice A' n' c') :=
    fun w1 hb => ⟨(hb.cell (p := ⟨w.heap.size, 0, none⟩) hsz0).trans c0, (hb.cell (p := ⟨w.heap.size, 1, none⟩) hsz0).trans c1, (hb.cell (p := ⟨w.heap.size + 1, 0, none⟩) hsz1).trans c2, (hb.cell (p := ⟨w.heap.size + 1, 1, none⟩) hsz1).trans c3⟩
  have HSK := Lib.hid SK
  clear hb0 c0 c1 c2 c3 q0 q1 f0 f1 SK
  go_region_held3 (fun w' => w'.cell? ⟨w.heap.size, 0, none⟩ = some (.bool ng) ∧ w'.cell? ⟨w.heap.size, 1, none⟩ = some (.slice A n c) ∧ w'.cell? ⟨w.heap.size + 1, 0, none⟩ = some (.bool nh) ∧ w'.cell? ⟨w.heap.size + 1, 1, none⟩ = some (.slice A' n' c')) (first | exact S2.out | exact ⟨cell_ret S2.out.1 (by omega), cell_ret S2.out.2.1 (by omega), cell_ret S2.out.2.2.1 (by omega), cell_ret S2.out.2.2.2 (by omega)⟩ | exact S0.out) (first
    | (go_at_call 149; refine (add_any _ x L1 nh A' _ c' (Dg.trim es) _ (R1.out.below HB0.out.drew) (K.out.trim.below HB0.out.drew) (Dg.trim_trimmed es) HL1.out HL2.out).mono ?_; rintro e w2 ⟨v, rfl, ⟨neg2, A2, n2, c2, ds2, rfl, hd2⟩, hb2⟩; have HD2 := Lib.hid hd2; have hb12 := bel_undrew hb2; have S2 := Lib.hid (HSK.out w2 hb12); have r0 := (hb12.cell (p := ⟨w.heap.size + 1 + 1, 0, none⟩) hsz).trans Q0.out.1; have r1 := (hb12.cell (p := ⟨w.heap.size + 1 + 1, 1, none⟩) hsz).trans Q0.out.2.1; have g0 := (hb12.frozen (p := ⟨w.heap.size + 1 + 1, 0, none⟩) hsz).trans Q0.out.2.2.1; have g1 := (hb12.frozen (p := ⟨w.heap.size + 1 + 1, 1, none⟩) hsz).trans Q0.out.2.2.2; have HB2 := Lib.hid hb12; clear hd2 hb2 hb12)
    | (go_at_call 139; refine (T2.out _ HB0.out.drew).mono ?_; rintro e w8 ⟨rfl, rfl⟩))
  go_wp2
  have hbw : Below w.heap.size w w2 := HB0.out.trans (HB2.out.mono HB0.out.size)
  refine bodyPost_ret (v := .agg #[.bool neg2, .slice A2 n2 c2]) (by simp [results, Tryz.results123, go_sem, r0, r1]) rfl ⟨_, rfl, ?_, bel_ret hbw (by omega)⟩
  have hN : NInt w2 (.agg #[.bool neg2, .slice A2 n2 c2]) (x + sgn nh (Dg.val (Dg.trim es))) (max L1 (Dg.trim es).length + 1) := ⟨neg2, A2, n2, c2, ds2, rfl, HD2.out⟩
  rw [Dg.val_trim, ← HY.out] at hN
  exact (hN.mono (by have := HT.out; omega)).ret r0 r1
end Go.Proofs.YtigciplaoikcfaaGreat
/- The function common of package bigint: the greatest common divisor by digits. The lengths are below 2^40. -/
namespace Go.Proofs.YtigciplaoikcfaaGreat
open Go.RowKit
set_option maxRecDepth 100000 in
set_option maxHeartbeats 2000000 in
theorem common_any (A A' : Option Addr) (n c n' c' L : Nat) (a b : List Nat) (w : World) (ha : Dig w A n a) (hb : Dig w A' n' b) (ta : Dg.trimmed a) (tb : Dg.trimmed b) (hn : n ≤ L) (hn' : n' ≤ L) (hL : L + 1 ≤ LIM) :
    Calls Tryz.prog 169 #[.slice A n c, .slice A' n' c'] w fun e w' => ∃ v, e = .returned v ∧ IsDig w' v (Nat.gcd (Dg.val a) (Dg.val b)) L ∧ Below w.heap.size w w' := by
  have HA := Lib.hid ha
  have HB := Lib.hid hb
  have TA := Lib.hid ta
  have TB := Lib.hid tb
  have HLL := Lib.hid hL
  have hLi : (L : Int) ≤ 2 ^ 40 := by unfold LIM at hL; omega
  clear ha hb ta tb hL
  go_enter Tryz.func169, Tryz.ntmps169
  go_wp2
  go_loopg [0, 1] (Dg.val b) (fun k x y wr => ∃ (A1 A2 : Option Addr) (n1 c1 n2 c2 : Nat) (a1 b1 : List Nat), x = .slice A1 n1 c1 ∧ y = .slice A2 n2 c2 ∧ Dig wr A1 n1 a1 ∧ Dig wr A2 n2 b1 ∧ Dg.trimmed a1 ∧ Dg.trimmed b1 ∧ n1 ≤ L ∧ n2 ≤ L ∧ Hid (k = Dg.val b1) ∧ Hid (Nat.gcd (Dg.val a1) (Dg.val b1) = Nat.gcd (Dg.val a) (Dg.val b)) ∧ Below w.heap.size w wr)
  case atStart => exact ⟨A, A', n, c, n', c', a, b, rfl, rfl, HA.out, HB.out, TA.out, TB.out, hn, hn', rfl, rfl, Below.refl _ _⟩
  case round =>
    obtain ⟨A1, A2, n1, c1, n2, c2, a1, b1, rfl, rfl, hd1, hd2, t1, t2, hn1, hn2, HK, HG, hbw⟩ := hrel
    have H1 := Lib.hid hd1
    have H2 := Lib.hid hd2
    have T1 := Lib.hid t1
    have T2 := Lib.hid t2
    clear hd1 hd2 t1 t2
    by_cases h0 : n2 = 0
    · subst h0
      have hb1 : b1 = [] := List.length_eq_zero_iff.1 H2.out.len.symm
      have HBe := Lib.hid hb1
      clear hb1
      go_wp2_with (go_at_call 148; refine (clone_any A1 n1 c1 a1 _ H1.out (by have := HLL.out; omega)).mono ?_; rintro e w1 ⟨A3, c3, rfl, hd3, hc3, hb3⟩; have H3 := Lib.hid hd3; clear hd3)
      go_ret
      refine ⟨_, rfl, ⟨A3, n1, c3, a1, rfl, H3.out, hc3, hn1, T1.out, ?_⟩, bel_ext hbw hb3⟩
      have := HG.out
      rw [HBe.out] at this
      rw [← this]; simp [Dg.val]
    · have hpos : 0 < Dg.val b1 := by
        rcases Nat.eq_zero_or_pos (Dg.val b1) with h | h
        · have := (Dg.val_eq_zero T2.out).1 h
          have h5 := H2.out.len
          rw [this] at h5; exact absurd h5 h0
        · exact h
      have HP := Lib.hid hpos
      have hdp : decide (0 < (n2 : Int)) = true := by simp; omega
      have hdp' : decide (0 < n2) = true := by simp; omega
      clear hpos
      by_cases hw : n1 ≤ 2 ∧ n2 ≤ 2
      · obtain ⟨hw1, hw2⟩ := hw
        have hd1' : decide ((n1 : Int) ≤ 2) = true := by simp; omega
        have hd2' : decide ((n2 : Int) ≤ 2) = true := by simp; omega
        have hv1 : Dg.val a1 < Dg.B * Dg.B := by
          have h1 := Dg.val_lt H1.out.ok
          rw [← H1.out.len] at h1
          have h2 : Dg.B ^ n1 ≤ Dg.B ^ 2 := Nat.pow_le_pow_right Dg.B_pos hw1
          rw [Nat.pow_two] at h2; omega
        have hv2 : Dg.val b1 < Dg.B * Dg.B := by
          have h1 := Dg.val_lt H2.out.ok
          rw [← H2.out.len] at h1
          have h2 : Dg.B ^ n2 ≤ Dg.B ^ 2 := Nat.pow_le_pow_right Dg.B_pos hw2
          rw [Nat.pow_two] at h2; omega
        have hgL : Nat.gcd (Dg.val a) (Dg.val b) < Dg.B ^ L := by
          have h1 := Dg.val_lt H2.out.ok
          rw [← H2.out.len] at h1
          have h2 : Dg.B ^ n2 ≤ Dg.B ^ L := Nat.pow_le_pow_right Dg.B_pos hn2
          have h3 := Nat.gcd_le_right (Dg.val a1) HP.out
          rw [HG.out] at h3; omega
        have HV1 := Lib.hid hv1
        have HV2 := Lib.hid hv2
        have HGL := Lib.hid hgL
        clear hv1 hv2 hgL
        go_wp2_with fail
        refine (word_any A1 n1 c1 a1 _ H1.out hw1).mono ?_
        rintro e w1 ⟨rfl, hb1⟩
        go_wp2_with fail
        refine (word_any A2 n2 c2 b1 _ (H2.out.below hb1) hw2).mono ?_
        rintro e w2 ⟨rfl, hb2⟩
        have hbw2 := bel_ext hbw (bel_ext hb1 hb2)
        clear hbw hb1 hb2 hd1' hd2' hw1 hw2
        go_wp2_with fail
        go_loopg [5, 6] (Dg.val b1) (fun k x y wr => ∃ X Y : Nat, x = .int .u64 X ∧ y = .int .u64 Y ∧ Hid (k = Y) ∧ Hid (X < Dg.B * Dg.B ∧ Y < Dg.B * Dg.B) ∧ Hid (Nat.gcd X Y = Nat.gcd (Dg.val a) (Dg.val b)) ∧ Below w.heap.size w wr)
        case atStart => exact ⟨_, _, rfl, rfl, rfl, ⟨HV1.out, HV2.out⟩, HG.out, hbw2⟩
        case round =>
          clear hbw2
          obtain ⟨X, Y, rfl, rfl, HKi, HXY, HGi, hbi⟩ := hrel
          by_cases hy : Y = 0
          · subst hy
            go_wp2_with (go_at_call 102; refine (wide_any X _ HXY.out.1).mono ?_; rintro e w3 ⟨v, rfl, hv, hb3⟩; have HV := Lib.hid hv; clear hv)
            go_ret
            have hg := HGi.out
            rw [Nat.gcd_zero_right] at hg
            exact ⟨_, rfl, by rw [← hg]; exact HV.out.tight (by rw [hg]; exact HGL.out), bel_ext hbi hb3⟩
          · obtain ⟨XI, hXI⟩ : ∃ x : Int, x = X := ⟨_, rfl⟩
            obtain ⟨YI, hYI⟩ : ∃ x : Int, x = Y := ⟨_, rfl⟩
            obtain ⟨r, hr⟩ : ∃ r, r = X % Y := ⟨_, rfl⟩
            have hX0 : 0 ≤ XI := by omega
            have hY0 : 1 ≤ YI := by omega
            have hr2 : XI % YI = (r : Int) := by rw [hXI, hYI, hr, Int.natCast_emod]
            have hr3 : XI.tmod YI = (r : Int) := by rw [Int.tmod_eq_emod_of_nonneg hX0]; exact hr2
            have hyb : (YI != 0) = true := by rw [bne_iff_ne]; omega
            rw [← hXI, ← hYI]
            have HXI := Lib.hid hXI
            have HYI := Lib.hid hYI
            have HR := Lib.hid hr
            have HYn := Lib.hid (Nat.pos_of_ne_zero hy)
            clear hXI hYI hr hy
            go_wp2
            go_quiet (fail)
            go_wp2
            go_roundg r
            case measure => rw [HKi.out, HR.out]; exact Nat.mod_lt _ HYn.out
            case rel => exact ⟨Y, r, by rw [HYI.out], by first | rfl | rw [hr2], rfl, ⟨HXY.out.2, Nat.lt_trans (by rw [HR.out]; exact Nat.mod_lt _ HYn.out) HXY.out.2⟩, by show _ = _; rw [HR.out, ← HGi.out, Nat.gcd_comm, ← Nat.gcd_rec, Nat.gcd_comm], bel_drewN hbi _⟩
      · obtain ⟨bb, hbb⟩ : ∃ bb : Bool, decide ((n1 : Int) ≤ 2) = bb := ⟨_, rfl⟩
        have hbb' : bb = true → decide ((n2 : Int) ≤ 2) = false := by
          rintro rfl; simp at hbb ⊢; omega
        clear hw
        rcases bb with _ | _
        case' true => have hbb2 := hbb' rfl
        all_goals
          clear hbb'
          go_wp2_with (go_at_call 185; refine (divide_any A1 A2 n1 c1 n2 c2 a1 b1 _ H1.out H2.out T1.out T2.out (by have := HLL.out; omega) (by have := HLL.out; omega) HP.out).mono ?_; rintro e w1 ⟨v1, v2, rfl, hq, ⟨A3, n3, c3, r, rfl, hd3, hc3, hn3, t3, hv3⟩, hb3⟩; have H3 := Lib.hid hd3; have HV3 := Lib.hid hv3; clear hd3 hv3 hq)
          go_roundg (Dg.val r)
          case measure => rw [HV3.out, HK.out]; exact Nat.mod_lt _ HP.out
          case rel => exact ⟨_, _, _, _, _, _, _, _, rfl, rfl, H2.out.below hb3, H3.out, T2.out, t3, hn2, by omega, rfl, by show _ = _; rw [HV3.out, ← HG.out, Nat.gcd_comm, ← Nat.gcd_rec, Nat.gcd_comm], bel_ext hbw hb3⟩
end Go.Proofs.YtigciplaoikcfaaGreat
/- The function Gcd of package bigint: the greatest common divisor. The lengths are below 2^40. -/
namespace Go.Proofs.YtigciplaoikcfaaGreat
open Go.RowKit
set_option maxHeartbeats 1000000 in
theorem int_gcd_any (v1 v2 : Value) (x y : Int) (L1 L2 : Nat) (w : World) (hv1 : RInt w v1 x L1) (hv2 : RInt w v2 y L2) (hL1 : L1 + 1 ≤ LIM) (hL2 : L2 + 1 ≤ LIM) :
    Calls Tryz.prog 145 #[v1, v2] w fun e w' => ∃ v', e = .returned v' ∧ NInt w' v' (Nat.gcd x.natAbs y.natAbs) (max L1 L2) ∧ Below w.heap.size w w' := by
  obtain ⟨ng, A, n, c, ds, rfl, hd, hc, hn, hx⟩ := hv1
  obtain ⟨nh, A', n', c', es, rfl, he, hc', hn', hy⟩ := hv2
  have hm : n ≤ maxLen := by unfold maxLen; unfold LIM at hL1; omega
  have hm' : n' ≤ maxLen := by unfold maxLen; unfold LIM at hL2; omega
  have hle : (Dg.trim ds).length ≤ n := by have := trim_length ds; have := hd.len; omega
  have hle' : (Dg.trim es).length ≤ n' := by have := trim_length es; have := he.len; omega
  have H := Lib.hid hd
  have K := Lib.hid he
  have HX := Lib.hid hx
  have HY := Lib.hid hy
  have HT1 := Lib.hid (show (Dg.trim ds).length ≤ max L1 L2 by omega)
  have HT2 := Lib.hid (show (Dg.trim es).length ≤ max L1 L2 by omega)
  have HLL := Lib.hid (show max L1 L2 + 1 ≤ LIM by omega)
  have T1 := Lib.hid (fun W hW => trimmed_any A n c ds W (H.out.below (w' := W) hW) hm hc)
  have T2 := Lib.hid (fun W hW => trimmed_any A' n' c' es W (K.out.below (w' := W) hW) hm' hc')
  clear hd he hx hy hm hm' hL1 hL2 hle hle'
  go_enter Tryz.func145, Tryz.ntmps145
  go_wp2_with fail
  have hbx := boxes w (.bool ng) (.slice A n c) (.bool nh) (.slice A' n' c') (.bool false) (.slice none 0 0) 61 61 61
  generalize ((w.alloc (.cells #[.bool ng, .slice A n c] 61)).alloc (.cells #[.bool nh, .slice A' n' c'] 61)).alloc (.cells #[.bool false, .slice none 0 0] 61) = W0 at hbx ⊢
  obtain ⟨hb0, hsz, c0, c1, c2, c3, q0, q1, f0, f1⟩ := hbx
  have hsz0 : w.heap.size < W0.heap.size := by omega
  have hsz1 : w.heap.size + 1 < W0.heap.size := by omega
  have HB0 := Lib.hid hb0
  have S0 := Lib.hid (And.intro c0 (And.intro c1 (And.intro c2 c3)))
  have Q0 := Lib.hid (And.intro q0 (And.intro q1 (And.intro f0 f1)))
  have SK : ∀ w1 : World, Below W0.heap.size W0 w1 → w1.cell? ⟨w.heap.size, 0, none⟩ = some (.bool ng) ∧ w1.cell? ⟨w.heap.size, 1, none⟩ = some (.slice A n c) ∧ w1.cell? ⟨w.heap.size + 1, 0, none⟩ = some (.bool nh) ∧ w1.cell? ⟨w.heap.size + 1, 1, none⟩ = some (.slice A' n' c') :=
    fun w1 hb => ⟨(hb.cell (p := ⟨w.heap.size, 0, none⟩) hsz0).trans c0, (hb.cell (p := ⟨w.heap.size, 1, none⟩) hsz0).trans c1, (hb.cell (p := ⟨w.heap.size + 1, 0, none⟩) hsz1).trans c2, (hb.cell (p := ⟨w.heap.size + 1, 1, none⟩) hsz1).trans c3⟩
  have HSK := Lib.hid SK
  clear hb0 c0 c1 c2 c3 q0 q1 f0 f1 SK
  go_region_held3 (fun w' => w'.cell? ⟨w.heap.size, 0, none⟩ = some (.bool ng) ∧ w'.cell? ⟨w.heap.size, 1, none⟩ = some (.slice A n c) ∧ w'.cell? ⟨w.heap.size + 1, 0, none⟩ = some (.bool nh) ∧ w'.cell? ⟨w.heap.size + 1, 1, none⟩ = some (.slice A' n' c')) (first | exact S2.out | exact ⟨cell_ret S2.out.1 (by omega), cell_ret S2.out.2.1 (by omega), cell_ret S2.out.2.2.1 (by omega), cell_ret S2.out.2.2.2 (by omega)⟩ | exact S1.out | exact S0.out) (first
    | (go_at_call 169; refine (common_any A A' _ c _ c' (max L1 L2) (Dg.trim ds) (Dg.trim es) _ (H.out.trim.below HB0.out.drew) (K.out.trim.below HB0.out.drew) (Dg.trim_trimmed ds) (Dg.trim_trimmed es) HT1.out HT2.out HLL.out).mono ?_; rintro e w1 ⟨v, rfl, ⟨A1, n1, c1, fs, rfl, hd1, hc1, hn1, _, hv1⟩, hb1⟩; have HD1 := Lib.hid hd1; have HV1 := Lib.hid hv1; have hb1' := bel_undrew hb1; have HB1 := Lib.hid hb1'; have S1 := Lib.hid (HSK.out w1 hb1'); clear hd1 hb1 hb1' hv1)
    | (go_at_call 101; refine (signed_any false A1 n1 c1 fs _ HD1.out (by have := HLL.out; unfold LIM at *; unfold maxLen; omega) hc1).mono ?_; rintro e w2 ⟨v, rfl, ⟨neg2, A2, n2, c2, ds2, rfl, hd2⟩, hb2⟩; have HD2 := Lib.hid hd2; have hb12 := bel_ext HB1.out hb2; have S2 := Lib.hid (HSK.out w2 hb12); have r0 := (hb12.cell (p := ⟨w.heap.size + 1 + 1, 0, none⟩) hsz).trans Q0.out.1; have r1 := (hb12.cell (p := ⟨w.heap.size + 1 + 1, 1, none⟩) hsz).trans Q0.out.2.1; have g0 := (hb12.frozen (p := ⟨w.heap.size + 1 + 1, 0, none⟩) hsz).trans Q0.out.2.2.1; have g1 := (hb12.frozen (p := ⟨w.heap.size + 1 + 1, 1, none⟩) hsz).trans Q0.out.2.2.2; have HB2 := Lib.hid hb12; clear hd2 hb2 hb12)
    | (go_at_call_of 139 (Value.slice A n c); refine (T1.out _ HB0.out.drew).mono ?_; rintro e w8 ⟨rfl, rfl⟩)
    | (go_at_call 139; refine (T2.out _ HB0.out.drew).mono ?_; rintro e w8 ⟨rfl, rfl⟩))
  go_wp2
  have hbw : Below w.heap.size w w2 := HB0.out.trans (HB2.out.mono HB0.out.size)
  refine bodyPost_ret (v := .agg #[.bool neg2, .slice A2 n2 c2]) (by simp [results, Tryz.results145, go_sem, r0, r1]) rfl ⟨_, rfl, ?_, bel_ret hbw (by omega)⟩
  have hN : NInt w2 (.agg #[.bool neg2, .slice A2 n2 c2]) (sgn false (Dg.val fs)) n1 := ⟨neg2, A2, n2, c2, ds2, rfl, HD2.out⟩
  have e1 : x.natAbs = Dg.val ds := by rw [HX.out]; cases ng <;> simp [sgn]
  have e2 : y.natAbs = Dg.val es := by rw [HY.out]; cases nh <;> simp [sgn]
  rw [HV1.out, Dg.val_trim, Dg.val_trim, ← e1, ← e2] at hN
  exact (hN.mono hn1).ret r0 r1
end Go.Proofs.YtigciplaoikcfaaGreat
/- The function DivMod of package bigint: quotient and remainder, the remainder not negative. The lengths are below 2^40. -/
namespace Go.Proofs.YtigciplaoikcfaaGreat
open Go.RowKit
theorem sgn_div {p q : Bool} {a b : Nat} (hb : 0 < b) (h : p = false ∨ a % b = 0) : sgn p a / sgn q b = sgn (!(p == q)) (a / b) ∧ sgn p a % sgn q b = (a % b : Nat) := by
  have hd := Nat.div_add_mod a b
  have hm := Nat.mod_lt a hb
  have key : ∀ x y r k : Int, y ≠ 0 → 0 ≤ r → r < y.natAbs → r + y * k = x → x / y = k ∧ x % y = r := by
    intro x y r k hy h0 h1 h2
    subst h2
    refine ⟨?_, ?_⟩
    · rw [Int.add_mul_ediv_left _ _ hy]
      have : r / y = 0 := by
        rcases Int.natAbs_eq y with e | e
        · rw [e]; exact Int.ediv_eq_zero_of_lt h0 (by omega)
        · rw [e, Int.ediv_neg, Int.ediv_eq_zero_of_lt h0 (by omega)]; rfl
      omega
    · rw [Int.add_mul_emod_self_left]
      rcases Int.natAbs_eq y with e | e
      · rw [e]; exact Int.emod_eq_of_lt h0 (by omega)
      · rw [e, Int.emod_neg]; exact Int.emod_eq_of_lt h0 (by omega)
  generalize a / b = k at *
  generalize a % b = m at *
  have hi : (b : Int) * k + m = a := by rw [← Int.natCast_mul, ← Int.natCast_add, hd]
  generalize ht : (b : Int) * k = t at *
  apply key
  · cases q <;> simp [sgn] <;> omega
  · omega
  · cases q <;> simp [sgn] <;> omega
  · rcases h with rfl | h
    · cases q <;> simp [sgn, Int.mul_neg, Int.neg_mul, ht] <;> omega
    · rw [h] at hi ⊢
      cases p <;> cases q <;> simp [sgn, Int.mul_neg, Int.neg_mul, ht] at hi ⊢ <;> omega
/-- A negative number with a remainder: one more, and what is missing. -/
theorem sgn_div_up {q : Bool} {a b : Nat} (hb : 0 < b) (h : 0 < a % b) : sgn true a / sgn q b = sgn (!(true == q)) (a / b + 1) ∧ sgn true a % sgn q b = (b - a % b : Nat) := by
  have hd := Nat.div_add_mod a b
  have hm := Nat.mod_lt a hb
  have e : ∃ c : Nat, c + a = b * (a / b + 1) ∧ c = b - a % b ∧ c < b := ⟨b - a % b, by rw [Nat.mul_add]; omega, rfl, by omega⟩
  obtain ⟨c, hc, hc2, hc3⟩ := e
  rw [← hc2]
  generalize a / b + 1 = k at *
  have hi : (c : Int) + a = (b : Int) * k := by rw [← Int.natCast_mul, ← Int.natCast_add, hc]
  generalize ht : (b : Int) * k = t at *
  have hy : sgn q b ≠ 0 := by cases q <;> simp [sgn] <;> omega
  have hx : sgn true a = c + sgn q b * sgn (!(true == q)) k := by
    cases q <;> simp [sgn, Int.mul_neg, Int.neg_mul, ht] <;> omega
  have ha : (c : Int) < (sgn q b).natAbs := by cases q <;> simp [sgn] <;> omega
  rw [hx]
  refine ⟨?_, ?_⟩
  · rw [Int.add_mul_ediv_left _ _ hy]
    have : (c : Int) / sgn q b = 0 := by
      rcases Int.natAbs_eq (sgn q b) with e | e
      · rw [e]; exact Int.ediv_eq_zero_of_lt (by omega) (by omega)
      · rw [e, Int.ediv_neg, Int.ediv_eq_zero_of_lt (by omega) (by omega)]; rfl
    omega
  · rw [Int.add_mul_emod_self_left]
    rcases Int.natAbs_eq (sgn q b) with e | e
    · rw [e]; exact Int.emod_eq_of_lt (by omega) (by omega)
    · rw [e, Int.emod_neg]; exact Int.emod_eq_of_lt (by omega) (by omega)
end Go.Proofs.YtigciplaoikcfaaGreat
/- The function DivMod of package bigint at a divisor other than 0: quotient and remainder, the remainder not negative. The lengths are below 2^40. -/
namespace Go.Proofs.YtigciplaoikcfaaGreat
open Go.RowKit
/-- Four new blocks of two cells. -/
structure Boxes4 (w W : World) (a b c d e f : Value) : Prop where
  below : Below w.heap.size w W
  size : w.heap.size + 1 + 1 + 1 < W.heap.size
  a0 : W.cell? ⟨w.heap.size, 0, none⟩ = some a
  a1 : W.cell? ⟨w.heap.size, 1, none⟩ = some b
  b0 : W.cell? ⟨w.heap.size + 1, 0, none⟩ = some c
  b1 : W.cell? ⟨w.heap.size + 1, 1, none⟩ = some d
  c0 : W.cell? ⟨w.heap.size + 1 + 1, 0, none⟩ = some e
  c1 : W.cell? ⟨w.heap.size + 1 + 1, 1, none⟩ = some f
  f0 : W.frozen? ⟨w.heap.size + 1 + 1, 0, none⟩ = false
  f1 : W.frozen? ⟨w.heap.size + 1 + 1, 1, none⟩ = false
  d0 : W.cell? ⟨w.heap.size + 1 + 1 + 1, 0, none⟩ = some e
  d1 : W.cell? ⟨w.heap.size + 1 + 1 + 1, 1, none⟩ = some f
  g0 : W.frozen? ⟨w.heap.size + 1 + 1 + 1, 0, none⟩ = false
  g1 : W.frozen? ⟨w.heap.size + 1 + 1 + 1, 1, none⟩ = false
theorem boxes4 (w : World) (a b c d e f : Value) (t : TypeId) : Boxes4 w ((((w.alloc (.cells #[a, b] t)).alloc (.cells #[c, d] t)).alloc (.cells #[e, f] t)).alloc (.cells #[e, f] t)) a b c d e f := by
  have hx := boxes w a b c d e f t t t
  have hs : (((w.alloc (.cells #[a, b] t)).alloc (.cells #[c, d] t)).alloc (.cells #[e, f] t)).heap.size = w.heap.size + 1 + 1 + 1 := by simp
  generalize ((w.alloc (.cells #[a, b] t)).alloc (.cells #[c, d] t)).alloc (.cells #[e, f] t) = W at hx hs
  obtain ⟨h1, h2, h3, h4, h5, h6, h7, h8, h9, h10⟩ := hx
  have hb : Below W.heap.size W (W.alloc (.cells #[e, f] t)) := (Below.refl _ _).alloc (Nat.le_refl _) _
  have k : (W.alloc (.cells #[e, f] t)).heap[w.heap.size + 1 + 1 + 1]? = some (.cells #[e, f] t (0, 0)) := by rw [← hs]; exact heap_alloc_new _ _
  have l0 : w.heap.size < W.heap.size := by omega
  have l1 : w.heap.size + 1 < W.heap.size := by omega
  refine ⟨h1.trans (hb.mono (by omega)), by simp; omega, (hb.cell (p := ⟨w.heap.size, 0, none⟩) l0).trans h3, (hb.cell (p := ⟨w.heap.size, 1, none⟩) l0).trans h4, (hb.cell (p := ⟨w.heap.size + 1, 0, none⟩) l1).trans h5, (hb.cell (p := ⟨w.heap.size + 1, 1, none⟩) l1).trans h6, (hb.cell (p := ⟨w.heap.size + 1 + 1, 0, none⟩) h2).trans h7, (hb.cell (p := ⟨w.heap.size + 1 + 1, 1, none⟩) h2).trans h8, (hb.frozen (p := ⟨w.heap.size + 1 + 1, 0, none⟩) h2).trans h9, (hb.frozen (p := ⟨w.heap.size + 1 + 1, 1, none⟩) h2).trans h10, ?_, ?_, ?_, ?_⟩
  · simp only [World.cell?, k]; rfl
  · simp only [World.cell?, k]; rfl
  · simp only [World.frozen?, k]; rfl
  · simp only [World.frozen?, k]; rfl
/-- What DivMod hands back. -/
def DmPost (x y : Int) (L1 L2 : Nat) (w : World) (e : Ending) (w' : World) : Prop := ∃ q r, e = .returned (.tuple #[q, r, .int .i64 0]) ∧ NInt w' q (x / y) (L1 + 1) ∧ NInt w' r (x % y) L2 ∧ Below w.heap.size w w'
/-- The stores of both results, and what they leave. -/
theorem dm_fin {x y k r : Int} {L1 L2 n3 n4 n5 c5 n6 c6 : Nat} {w w2 w3 : World} {neg5 neg6 : Bool} {A5 A6 : Option Addr} {ds5 ds6 : List Nat}
    (h5 : Dig w2 A5 n5 ds5 ∧ n5 ≤ c5 ∧ n5 ≤ n3 ∧ k = sgn neg5 (Dg.val ds5) ∧ Dg.trimmed ds5 ∧ (neg5 = true → 0 < n5)) (hb3 : Below w2.heap.size w2 w3)
    (h6 : Dig w3 A6 n6 ds6 ∧ n6 ≤ c6 ∧ n6 ≤ n4 ∧ r = sgn neg6 (Dg.val ds6) ∧ Dg.trimmed ds6 ∧ (neg6 = true → 0 < n6))
    (e0 : w3.cell? ⟨w.heap.size + 1 + 1, 0, none⟩ = some (.bool false)) (e1 : w3.cell? ⟨w.heap.size + 1 + 1, 1, none⟩ = some (.slice none 0 0))
    (s0 : w3.cell? ⟨w.heap.size + 1 + 1 + 1, 0, none⟩ = some (.bool false)) (s1 : w3.cell? ⟨w.heap.size + 1 + 1 + 1, 1, none⟩ = some (.slice none 0 0))
    (hq : x / y = k) (hr : x % y = r) (hn3 : n3 ≤ L1 + 1) (hn4 : n4 ≤ L2) (hbw : Below w.heap.size w w3) :
    DmPost x y L1 L2 w (.returned (.tuple #[.agg #[.bool neg5, .slice A5 n5 c5], .agg #[.bool neg6, .slice A6 n6 c6], .int .i64 0])) ((((w3.setCell ⟨w.heap.size + 1 + 1, 0, none⟩ (.bool neg5)).setCell ⟨w.heap.size + 1 + 1, 1, none⟩ (.slice A5 n5 c5)).setCell ⟨w.heap.size + 1 + 1 + 1, 0, none⟩ (.bool neg6)).setCell ⟨w.heap.size + 1 + 1 + 1, 1, none⟩ (.slice A6 n6 c6)) := by
  have hN5 : NInt w2 (.agg #[.bool neg5, .slice A5 n5 c5]) k n3 := ⟨neg5, A5, n5, c5, ds5, rfl, h5⟩
  have hN6 : NInt w3 (.agg #[.bool neg6, .slice A6 n6 c6]) r n4 := ⟨neg6, A6, n6, c6, ds6, rfl, h6⟩
  rw [← hq] at hN5
  rw [← hr] at hN6
  exact ⟨_, _, rfl, (((hN5.mono hn3).below hb3).ret e0 e1).ret (cell_ret s0 (by omega)) (cell_ret s1 (by omega)), ((hN6.mono hn4).ret e0 e1).ret (cell_ret s0 (by omega)) (cell_ret s1 (by omega)), bel_ret (bel_ret hbw (by omega)) (by omega)⟩
set_option maxRecDepth 100000 in
set_option maxHeartbeats 1000000 in
theorem divMod_any (v1 v2 : Value) (x y : Int) (L1 L2 : Nat) (w : World) (hv1 : RInt w v1 x L1) (hv2 : RInt w v2 y L2) (hL1 : L1 + 2 ≤ LIM) (hL2 : L2 + 1 ≤ LIM) (hy0 : y ≠ 0) :
    Calls Tryz.prog 170 #[v1, v2] w (DmPost x y L1 L2 w) := by
  obtain ⟨ng, A, n, c, ds, rfl, hd, hc, hn, hx⟩ := hv1
  obtain ⟨nh, A', n', c', es, rfl, he, hc', hn', hy⟩ := hv2
  have hm : n ≤ maxLen := by unfold maxLen; unfold LIM at hL1; omega
  have hm' : n' ≤ maxLen := by unfold maxLen; unfold LIM at hL2; omega
  have hle : (Dg.trim ds).length ≤ n := by have := trim_length ds; have := hd.len; omega
  have hle' : (Dg.trim es).length ≤ n' := by have := trim_length es; have := he.len; omega
  have hpos : 0 < Dg.val es := by
    rcases Nat.eq_zero_or_pos (Dg.val es) with h | h
    · rw [h] at hy; exact absurd (by rw [hy]; cases nh <;> rfl) hy0
    · exact h
  have hlp := (trim_pos es).2 hpos
  have hb0 : (((Dg.trim es).length : Int) == 0) = false := by rw [beq_eq_false_iff_ne]; omega
  have H := Lib.hid hd
  have K := Lib.hid he
  have HX := Lib.hid hx
  have HY := Lib.hid hy
  have HT1 := Lib.hid (show (Dg.trim ds).length ≤ L1 by omega)
  have HT2 := Lib.hid (show (Dg.trim es).length ≤ L2 by omega)
  have HL1 := Lib.hid hL1
  have HL2 := Lib.hid hL2
  have HP := Lib.hid hpos
  have T1 := Lib.hid (fun W hW => trimmed_any A n c ds W (H.out.below (w' := W) hW) hm hc)
  have T2 := Lib.hid (fun W hW => trimmed_any A' n' c' es W (K.out.below (w' := W) hW) hm' hc')
  clear hd he hx hy hm hm' hL1 hL2 hle hle' hpos hlp hy0
  have hbx := boxes4 w (.bool ng) (.slice A n c) (.bool nh) (.slice A' n' c') (.bool false) (.slice none 0 0) 61
  go_enter Tryz.func170, Tryz.ntmps170
  go_wp2_with fail
  generalize (((w.alloc (.cells #[.bool ng, .slice A n c] 61)).alloc (.cells #[.bool nh, .slice A' n' c'] 61)).alloc (.cells #[.bool false, .slice none 0 0] 61)).alloc (.cells #[.bool false, .slice none 0 0] 61) = W0 at hbx ⊢
  obtain ⟨hb0', hsz, c0, c1, c2, c3, q0, q1, f0, f1, p0, p1, g0, g1⟩ := hbx
  have hsz0 : w.heap.size < W0.heap.size := by omega
  have hsz1 : w.heap.size + 1 < W0.heap.size := by omega
  have hsz2 : w.heap.size + 1 + 1 < W0.heap.size := by omega
  have HB0 := Lib.hid hb0'
  refine (T2.out _ HB0.out).mono ?_
  rintro e w8 ⟨rfl, rfl⟩
  go_wp2_with fail
  refine (T1.out _ HB0.out).mono ?_
  rintro e w8 ⟨rfl, rfl⟩
  go_wp2_with fail
  refine (divide_any _ _ _ _ _ _ (Dg.trim ds) (Dg.trim es) _ (H.out.trim.below HB0.out) (K.out.trim.below HB0.out) (Dg.trim_trimmed ds) (Dg.trim_trimmed es) (by have := HT1.out; have := HL1.out; omega) (by have := HT2.out; have := HL2.out; omega) (by rw [Dg.val_trim]; exact HP.out)).mono ?_
  rintro e w1 ⟨u1, u2, rfl, ⟨A3, n3, k3, qs, rfl, hd3, hk3, hn3, _, hv3⟩, ⟨A4, n4, k4, rs, rfl, hd4, hk4, hn4, ht4, hv4⟩, hb1⟩
  rw [Dg.val_trim, Dg.val_trim] at hv3 hv4
  have H3 := Lib.hid hd3
  have HV3 := Lib.hid hv3
  have H4 := Lib.hid hd4
  have HV4 := Lib.hid hv4
  have HT4 := Lib.hid ht4
  have HM3 := Lib.hid (show n3 ≤ maxLen by have := HT1.out; have := HL1.out; unfold LIM at *; unfold maxLen; omega)
  have HM4 := Lib.hid (show n4 ≤ maxLen by have := HT2.out; have := HL2.out; unfold LIM at *; unfold maxLen; omega)
  have HN3 := Lib.hid hn3
  have HN4 := Lib.hid hn4
  have c0 := (hb1.cell (p := ⟨w.heap.size, 0, none⟩) hsz0).trans c0
  have c2 := (hb1.cell (p := ⟨w.heap.size + 1, 0, none⟩) hsz1).trans c2
  have HB1 := Lib.hid hb1
  clear hd3 hd4 hv3 hv4 ht4 hb1 hb0' c1 c3
  have hng : ng = false ∨ (ng = true ∧ n4 = 0) ∨ (ng = true ∧ 0 < n4) := by
    rcases Bool.eq_false_or_eq_true ng with h | h
    · rcases Nat.eq_zero_or_pos n4 with h2 | h2
      · exact .inr (.inl ⟨h, h2⟩)
      · exact .inr (.inr ⟨h, h2⟩)
    · exact .inl h
  rcases hng with rfl | ⟨rfl, rfl⟩ | ⟨rfl, hn4⟩
  · have HZ := Lib.hid (sgn_div (p := false) (q := nh) (a := Dg.val ds) HP.out (.inl rfl))
    go_wp2_with fail
    refine (signed_any nh A3 n3 k3 qs _ H3.out HM3.out hk3).mono ?_
    rintro e w2 ⟨v, rfl, ⟨neg5, A5, n5, c5, ds5, rfl, hd5⟩, hb2⟩
    have HB2 := Lib.hid hb2
    have H5 := Lib.hid hd5
    clear hd5 hb2
    go_wp2_with fail
    refine (signed_any false A4 n4 k4 rs _ (H4.out.below HB2.out) HM4.out hk4).mono ?_
    rintro e w3 ⟨v, rfl, ⟨neg6, A6, n6, c6, ds6, rfl, hd6⟩, hb3⟩
    have HB3 := Lib.hid hb3
    have H6 := Lib.hid hd6
    clear hd6 hb3
    have hbw : Below W0.heap.size W0 w3 := bel_ext (bel_ext HB1.out HB2.out) HB3.out
    have e0 := (hbw.cell (p := ⟨w.heap.size + 1 + 1, 0, none⟩) hsz2).trans q0
    have e1 := (hbw.cell (p := ⟨w.heap.size + 1 + 1, 1, none⟩) hsz2).trans q1
    have e2 := (hbw.frozen (p := ⟨w.heap.size + 1 + 1, 0, none⟩) hsz2).trans f0
    have e3 := (hbw.frozen (p := ⟨w.heap.size + 1 + 1, 1, none⟩) hsz2).trans f1
    have s0 := (hbw.cell (p := ⟨w.heap.size + 1 + 1 + 1, 0, none⟩) hsz).trans p0
    have s1 := (hbw.cell (p := ⟨w.heap.size + 1 + 1 + 1, 1, none⟩) hsz).trans p1
    have s2 := (hbw.frozen (p := ⟨w.heap.size + 1 + 1 + 1, 0, none⟩) hsz).trans g0
    have s3 := (hbw.frozen (p := ⟨w.heap.size + 1 + 1 + 1, 1, none⟩) hsz).trans g1
    have HBW := Lib.hid (HB0.out.trans (hbw.mono HB0.out.size))
    clear q0 q1 f0 f1 p0 p1 g0 g1 hbw
    go_wp2
    refine bodyPost_ret (v := .tuple #[.agg #[.bool neg5, .slice A5 n5 c5], .agg #[.bool neg6, .slice A6 n6 c6], .int .i64 0]) (by simp [results, Tryz.results170, go_sem, e0, e1, s0, s1]) rfl (dm_fin H5.out HB3.out H6.out e0 e1 s0 s1 ?_ ?_ ?_ ?_ HBW.out)
    · rw [HX.out, HY.out, HZ.out.1, HV3.out]; cases nh <;> rfl
    · rw [HX.out, HY.out, HZ.out.2, HV4.out]; rfl
    · have := HN3.out; have := HT1.out; omega
    · have := HN4.out; have := HT2.out; omega
  · have hz : Dg.val ds % Dg.val es = 0 := by
      have h5 := H4.out.len
      have : rs = [] := List.length_eq_zero_iff.1 (by omega)
      rw [← HV4.out, this]; rfl
    have HZ := Lib.hid (sgn_div (p := true) (q := nh) (a := Dg.val ds) HP.out (.inr hz))
    clear hz
    go_wp2_with fail
    refine (signed_any (!nh) A3 n3 k3 qs _ H3.out HM3.out hk3).mono ?_
    rintro e w2 ⟨v, rfl, ⟨neg5, A5, n5, c5, ds5, rfl, hd5⟩, hb2⟩
    have HB2 := Lib.hid hb2
    have H5 := Lib.hid hd5
    clear hd5 hb2
    go_wp2_with fail
    refine (signed_any false A4 0 k4 rs _ (H4.out.below HB2.out) HM4.out hk4).mono ?_
    rintro e w3 ⟨v, rfl, ⟨neg6, A6, n6, c6, ds6, rfl, hd6⟩, hb3⟩
    have HB3 := Lib.hid hb3
    have H6 := Lib.hid hd6
    clear hd6 hb3
    have hbw : Below W0.heap.size W0 w3 := bel_ext (bel_ext HB1.out HB2.out) HB3.out
    have e0 := (hbw.cell (p := ⟨w.heap.size + 1 + 1, 0, none⟩) hsz2).trans q0
    have e1 := (hbw.cell (p := ⟨w.heap.size + 1 + 1, 1, none⟩) hsz2).trans q1
    have e2 := (hbw.frozen (p := ⟨w.heap.size + 1 + 1, 0, none⟩) hsz2).trans f0
    have e3 := (hbw.frozen (p := ⟨w.heap.size + 1 + 1, 1, none⟩) hsz2).trans f1
    have s0 := (hbw.cell (p := ⟨w.heap.size + 1 + 1 + 1, 0, none⟩) hsz).trans p0
    have s1 := (hbw.cell (p := ⟨w.heap.size + 1 + 1 + 1, 1, none⟩) hsz).trans p1
    have s2 := (hbw.frozen (p := ⟨w.heap.size + 1 + 1 + 1, 0, none⟩) hsz).trans g0
    have s3 := (hbw.frozen (p := ⟨w.heap.size + 1 + 1 + 1, 1, none⟩) hsz).trans g1
    have HBW := Lib.hid (HB0.out.trans (hbw.mono HB0.out.size))
    clear q0 q1 f0 f1 p0 p1 g0 g1 hbw
    go_wp2
    refine bodyPost_ret (v := .tuple #[.agg #[.bool neg5, .slice A5 n5 c5], .agg #[.bool neg6, .slice A6 n6 c6], .int .i64 0]) (by simp [results, Tryz.results170, go_sem, e0, e1, s0, s1]) rfl (dm_fin H5.out HB3.out H6.out e0 e1 s0 s1 ?_ ?_ ?_ ?_ HBW.out)
    · rw [HX.out, HY.out, HZ.out.1, HV3.out]; cases nh <;> rfl
    · rw [HX.out, HY.out, HZ.out.2, HV4.out]; rfl
    · have := HN3.out; have := HT1.out; omega
    · have := HN4.out; have := HT2.out; omega
  · have hgt : decide ((0 : Int) < (n4 : Int)) = true := decide_eq_true (by omega)
    have hgt' : decide (0 < n4) = true := decide_eq_true hn4
    have hrp : 0 < Dg.val ds % Dg.val es := by
      rw [← HV4.out]
      refine (trim_pos rs).1 ?_
      rw [Dg.trim_of_trimmed H4.out.ok HT4.out]
      have := H4.out.len; omega
    have HZ := Lib.hid (sgn_div_up (q := nh) HP.out hrp)
    have HLP := Lib.hid (show 0 < (Dg.trim ds).length from (trim_pos ds).2 (Nat.lt_of_lt_of_le hrp (Nat.mod_le _ _)))
    have HM8 := Lib.hid (show n3 ≤ LIM ∧ 1 ≤ LIM by have := HN3.out; have := HT1.out; have := HL1.out; omega)
    have hone : Dg.ok [1] := by intro d hd; simp at hd; subst hd; decide
    clear hrp
    clear hn4
    go_wp2_with fail
    refine (plus_any A3 (some ⟨w1.heap.size, 0, none⟩) n3 k3 1 1 qs [1] _ (H3.out.alloc _) (Dig.of_block (ds := [1]) (heap_alloc_new _ _) rfl hone) HM8.out.1 HM8.out.2).mono ?_
    rintro e w4 ⟨g, m, o, rfl, hm9, hdp, hvp, hbp⟩
    have HP2 := Lib.hid hdp
    have HVP := Lib.hid (show Dg.val o = Dg.val ds / Dg.val es + 1 by rw [hvp, HV3.out]; rfl)
    have HBP := Lib.hid (bel_ext HB1.out (bel_ext ((Below.refl _ _).alloc (Nat.le_refl _) _) hbp))
    have HB8 := Lib.hid (bel_ext ((Below.refl w1.heap.size w1).alloc (Nat.le_refl _) _) hbp)
    have HM7 := Lib.hid (show m ≤ L1 + 1 by have := HN3.out; have := HT1.out; have := HLP.out; omega)
    have HM5 := Lib.hid (show m ≤ maxLen by have := HM7.out; have := HL1.out; unfold LIM at *; unfold maxLen; omega)
    clear hdp hvp hbp hm9
    go_wp2_with fail
    refine (less_any A' A4 (Dg.trim es).length c' n4 k4 (Dg.trim es) rs _ ((K.out.trim.below HB0.out).below HBP.out) (H4.out.below HB8.out) (by have := HT2.out; have := HL2.out; omega) HN4.out (by rw [Dg.val_trim, HV4.out]; exact Nat.le_of_lt (Nat.mod_lt _ HP.out))).mono ?_
    rintro e w5 ⟨g7, o7, rfl, hd7, hv7, hbl⟩
    have HP7 := Lib.hid hd7
    have HVL := Lib.hid (show Dg.val o7 = Dg.val es - Dg.val ds % Dg.val es by rw [Dg.val_trim, HV4.out] at hv7; omega)
    have HBL := Lib.hid hbl
    have HM6 := Lib.hid (show (Dg.trim es).length ≤ maxLen by have := HT2.out; have := HL2.out; unfold LIM at *; unfold maxLen; omega)
    have c0 := ((bel_ext HB8.out HBL.out).cell (p := ⟨w.heap.size, 0, none⟩) (Nat.lt_of_lt_of_le hsz0 HB1.out.size)).trans c0
    have c2 := ((bel_ext HB8.out HBL.out).cell (p := ⟨w.heap.size + 1, 0, none⟩) (Nat.lt_of_lt_of_le hsz1 HB1.out.size)).trans c2
    clear hd7 hv7 hbl
    go_wp2_with fail
    refine (signed_any (!nh) (some ⟨g, 0, none⟩) m m o _ (HP2.out.below HBL.out) HM5.out (Nat.le_refl _)).mono ?_
    rintro e w2 ⟨v, rfl, ⟨neg5, A5, n5, c5, ds5, rfl, hd5⟩, hb2⟩
    have HB2 := Lib.hid hb2
    have H5 := Lib.hid hd5
    clear hd5 hb2
    go_wp2_with fail
    refine (signed_any false (some ⟨g7, 0, none⟩) (Dg.trim es).length (Dg.trim es).length o7 _ (HP7.out.below HB2.out) HM6.out (Nat.le_refl _)).mono ?_
    rintro e w3 ⟨v, rfl, ⟨neg6, A6, n6, c6, ds6, rfl, hd6⟩, hb3⟩
    have HB3 := Lib.hid hb3
    have H6 := Lib.hid hd6
    clear hd6 hb3
    have hbw : Below W0.heap.size W0 w3 := bel_ext (bel_ext (bel_ext HBP.out HBL.out) HB2.out) HB3.out
    have e0 := (hbw.cell (p := ⟨w.heap.size + 1 + 1, 0, none⟩) hsz2).trans q0
    have e1 := (hbw.cell (p := ⟨w.heap.size + 1 + 1, 1, none⟩) hsz2).trans q1
    have e2 := (hbw.frozen (p := ⟨w.heap.size + 1 + 1, 0, none⟩) hsz2).trans f0
    have e3 := (hbw.frozen (p := ⟨w.heap.size + 1 + 1, 1, none⟩) hsz2).trans f1
    have s0 := (hbw.cell (p := ⟨w.heap.size + 1 + 1 + 1, 0, none⟩) hsz).trans p0
    have s1 := (hbw.cell (p := ⟨w.heap.size + 1 + 1 + 1, 1, none⟩) hsz).trans p1
    have s2 := (hbw.frozen (p := ⟨w.heap.size + 1 + 1 + 1, 0, none⟩) hsz).trans g0
    have s3 := (hbw.frozen (p := ⟨w.heap.size + 1 + 1 + 1, 1, none⟩) hsz).trans g1
    have HBW := Lib.hid (HB0.out.trans (hbw.mono HB0.out.size))
    clear q0 q1 f0 f1 p0 p1 g0 g1 hbw
    go_wp2
    refine bodyPost_ret (v := .tuple #[.agg #[.bool neg5, .slice A5 n5 c5], .agg #[.bool neg6, .slice A6 n6 c6], .int .i64 0]) (by simp [results, Tryz.results170, go_sem, e0, e1, s0, s1]) rfl (dm_fin H5.out HB3.out H6.out e0 e1 s0 s1 ?_ ?_ ?_ ?_ HBW.out)
    · rw [HX.out, HY.out, HZ.out.1, HVP.out]; cases nh <;> rfl
    · rw [HX.out, HY.out, HZ.out.2, HVL.out]; rfl
    · exact HM7.out
    · exact HT2.out
end Go.Proofs.YtigciplaoikcfaaGreat
