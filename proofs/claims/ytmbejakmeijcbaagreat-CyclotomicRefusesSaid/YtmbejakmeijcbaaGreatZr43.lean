/- The document's errors of orders. -/
import Derived.Test.YtmbejakmeijcbaaGreatZr40
import Derived.Test.YtmbejakmeijcbaaGreatZr41
import Derived.Test.YtmbejakmeijcbaaGreatZr42
import Derived.Test.YtmbejakmeijcbaaGreatZr14
namespace Go.Proofs.YtmbejakmeijcbaaGreat
open Go.RowKit
namespace Rf
theorem fails_run {n : Nat} (h1 : 1 ≤ n) (h2 : n ≤ 512) : failsB n = true := by
 have key : ∀ c, (List.range 32).all (fun k => failsB (k + (32 * c + 1))) = true → (n - 1) / 32 = c → failsB n = true := fun c h e => by
  have := List.all_eq_true.1 h (n - (32 * c + 1)) (List.mem_range.2 (by omega))
  rwa [show n - (32 * c + 1) + (32 * c + 1) = n by omega] at this
 have hlt : (n - 1) / 32 < 16 := by omega
 match hc : (n - 1) / 32, hlt with
 | 0, _ => exact key 0 fails_r0 hc
 | 1, _ => exact key 1 fails_r1 hc
 | 2, _ => exact key 2 fails_r2 hc
 | 3, _ => exact key 3 fails_r3 hc
 | 4, _ => exact key 4 fails_r4 hc
 | 5, _ => exact key 5 fails_r5 hc
 | 6, _ => exact key 6 fails_r6 hc
 | 7, _ => exact key 7 fails_r7 hc
 | 8, _ => exact key 8 fails_r8 hc
 | 9, _ => exact key 9 fails_r9 hc
 | 10, _ => exact key 10 fails_r10 hc
 | 11, _ => exact key 11 fails_r11 hc
 | 12, _ => exact key 12 fails_r12 hc
 | 13, _ => exact key 13 fails_r13 hc
 | 14, _ => exact key 14 fails_r14 hc
 | 15, _ => exact key 15 fails_r15 hc
 | _ + 16, h => exact absurd h (by omega)
theorem fails_in {n : Nat} (h1 : 1 ≤ n) (h2 : n ≤ 512) : ∃ x : Int, FnOK Tryz.prog false 11 [.c (.int .i64 n)] (.c (.int .i64 x)) ∧ (x = 0 ↔ n ∈ ordsL) := by
 have h := fails_run h1 h2
 unfold failsB at h
 split at h
 ·rename_i x hx
  have hf := run_call orcC_ok hx
  refine ⟨x, hf, ?_⟩
  have h := beq_iff_eq.1 h
  rw [← List.contains_iff_mem, ← h]
  exact beq_iff_eq.symm
 ·cases h
set_option maxHeartbeats 3000000 in
theorem fails_out {n : Int} (h : n < 1 ∨ 512 < n) : FnOK Tryz.prog false 11 [.c (.int .i64 n)] (.c (.int .i64 2)) := by
 refine fn_ok (E := E0) E0_ok Tryz.func11 rfl mixed (by kernel_rfl) (by kernel_rfl) ?_
 conv => whnf
 refine bcase (fun (h1 : gw false (decide (n < 1)) = true) => ?_) fun (h1 : gw false (decide (n < 1)) = false) => ?_
 ·have h1 := of_decide_eq_false (gwf h1)
  conv => whnf
  refine bpos (show decide ((512 : Int) < n) = true from decide_eq_true (by omega)) ?_
  conv => whnf
  exact ⟨rfl, Sub.refl _⟩
 ·conv => whnf
  exact ⟨rfl, Sub.refl _⟩
end Rf
end Go.Proofs.YtmbejakmeijcbaaGreat
/- What is known of a cyclotomic field, from its table and its runs. -/
namespace Go.Proofs.YtmbejakmeijcbaaGreat
open Go.RowKit
namespace Rf
theorem cy_of {n d : Nat} {φ : List Int} {T : List (List Int)} (ht : Q.Tab n d (Q.fr φ) T) (hu : Q.unitB n d φ T = true) (hs : Q.sumB n d T = true) (hd : Q.distB n d T = true) (hT : tinyT T = true) (hφ : tinyP d φ = true) (hn : n ∈ ordsL) (hc : FnOK Tryz.prog false 42 [.c (.int .i64 n)] (.c (.int .i64 0))) (hp : FnOK Tryz.prog false 35 [.c (.int .i64 n)] (.t2 (.c (nl (d + 1) (Z.gl φ))) (.c (.int .i64 0)))) (hr : FnOK Tryz.prog false 47 [.c (.int .i64 n)] (.c (nl (d + 1) (Z.gl φ)))) : Cy n d φ T := by
 unfold tinyP at hφ
 simp only [Bool.and_eq_true, beq_iff_eq] at hφ
 obtain ⟨⟨h1, h2⟩, h3⟩ := hφ
 have hl2 : ∀ i, zlen (Z.gl φ i) ≤ 2 := fun i => Z.zlen64 (by have := tinyL_bd h1 i; show (φ.getD i 0).natAbs < _; omega)
 have hl : ∀ i, zlen (Z.gl φ i) ≤ 1048576 := fun i => Nat.le_trans (hl2 i) (by decide)
 have hd1 := ht.d1
 have hd2 := ht.d2
 have ho := open_good (n := d + 1) (d := d) (c := fun i => ofZ (Z.gl φ i)) (f := Q.fr φ) (by rw [vz_n]; rfl) (wl_n (by omega) hl) (by
  rw [vz_n]
  exact Z.tl_is (by rw [← h2]; exact Z.gl_fin φ) (by rw [← h2]; exact Z.gl_fin φ) (.inr (by rw [Nat.add_sub_cancel]; show φ.getD d 0 ≠ 0; rw [h3]; decide))) hd1 hd2 (by rw [vz_n]; exact h3)
 have hf : Fd d 255 (Q.fr φ) := ⟨ht.mon, hd1, hd2, tiny_bd h1, Nat.lt_trans (show 255 < 2 ^ 8 by decide) (pow_lt_B (e := 8) (L := KD) (by decide))⟩
 obtain ⟨x, f1, f2⟩ := fails_in ht.n1 (by have := ht.n2; omega)
 have f1 := (f2.2 hn) ▸ f1
 exact ⟨ht, hu, hs, hd, tinyT_bd hT, hl2, ⟨ho, hf⟩, fld_ok hc.weak hp.weak, hc.weak, hr, f1⟩
end Rf
end Go.Proofs.YtmbejakmeijcbaaGreat
/- Tables of the powers of the roots of unity at the 26 orders whose fields have degree at most 12, and of the lifts. -/
namespace Go.Proofs.YtmbejakmeijcbaaGreat
namespace Q
def ph_1 : List Int := [-1, 1]
def tb_1 : List (List Int) := [[1]]
theorem tab_1 : Tab 1 1 (fr ph_1) tb_1 := tab_ok (by decide +kernel)
theorem unit_1 : unitB 1 1 ph_1 tb_1 = true := by decide +kernel
theorem dist_1 : distB 1 1 tb_1 = true := by decide +kernel
theorem sum_1 : sumB 1 1 tb_1 = true := by decide +kernel
def ph_2 : List Int := [1, 1]
def tb_2 : List (List Int) := [[1], [-1]]
theorem tab_2 : Tab 2 1 (fr ph_2) tb_2 := tab_ok (by decide +kernel)
theorem unit_2 : unitB 2 1 ph_2 tb_2 = true := by decide +kernel
theorem dist_2 : distB 2 1 tb_2 = true := by decide +kernel
theorem sum_2 : sumB 2 1 tb_2 = true := by decide +kernel
def ph_3 : List Int := [1, 1, 1]
def tb_3 : List (List Int) := [[1], [0, 1], [-1, -1]]
theorem tab_3 : Tab 3 2 (fr ph_3) tb_3 := tab_ok (by decide +kernel)
theorem unit_3 : unitB 3 2 ph_3 tb_3 = true := by decide +kernel
theorem dist_3 : distB 3 2 tb_3 = true := by decide +kernel
theorem sum_3 : sumB 3 2 tb_3 = true := by decide +kernel
def ph_4 : List Int := [1, 0, 1]
def tb_4 : List (List Int) := [[1], [0, 1], [-1], [0, -1]]
theorem tab_4 : Tab 4 2 (fr ph_4) tb_4 := tab_ok (by decide +kernel)
theorem unit_4 : unitB 4 2 ph_4 tb_4 = true := by decide +kernel
theorem dist_4 : distB 4 2 tb_4 = true := by decide +kernel
theorem sum_4 : sumB 4 2 tb_4 = true := by decide +kernel
def ph_5 : List Int := [1, 1, 1, 1, 1]
def tb_5 : List (List Int) := [[1], [0, 1], [0, 0, 1], [0, 0, 0, 1], [-1, -1, -1, -1]]
theorem tab_5 : Tab 5 4 (fr ph_5) tb_5 := tab_ok (by decide +kernel)
theorem unit_5 : unitB 5 4 ph_5 tb_5 = true := by decide +kernel
theorem dist_5 : distB 5 4 tb_5 = true := by decide +kernel
theorem sum_5 : sumB 5 4 tb_5 = true := by decide +kernel
def ph_6 : List Int := [1, -1, 1]
def tb_6 : List (List Int) := [[1], [0, 1], [-1, 1], [-1], [0, -1], [1, -1]]
theorem tab_6 : Tab 6 2 (fr ph_6) tb_6 := tab_ok (by decide +kernel)
theorem unit_6 : unitB 6 2 ph_6 tb_6 = true := by decide +kernel
theorem dist_6 : distB 6 2 tb_6 = true := by decide +kernel
theorem sum_6 : sumB 6 2 tb_6 = true := by decide +kernel
def ph_7 : List Int := [1, 1, 1, 1, 1, 1, 1]
def tb_7 : List (List Int) := [[1], [0, 1], [0, 0, 1], [0, 0, 0, 1], [0, 0, 0, 0, 1], [0, 0, 0, 0, 0, 1], [-1, -1, -1, -1, -1, -1]]
theorem tab_7 : Tab 7 6 (fr ph_7) tb_7 := tab_ok (by decide +kernel)
theorem unit_7 : unitB 7 6 ph_7 tb_7 = true := by decide +kernel
theorem dist_7 : distB 7 6 tb_7 = true := by decide +kernel
theorem sum_7 : sumB 7 6 tb_7 = true := by decide +kernel
def ph_8 : List Int := [1, 0, 0, 0, 1]
def tb_8 : List (List Int) := [[1], [0, 1], [0, 0, 1], [0, 0, 0, 1], [-1], [0, -1], [0, 0, -1], [0, 0, 0, -1]]
theorem tab_8 : Tab 8 4 (fr ph_8) tb_8 := tab_ok (by decide +kernel)
theorem unit_8 : unitB 8 4 ph_8 tb_8 = true := by decide +kernel
theorem dist_8 : distB 8 4 tb_8 = true := by decide +kernel
theorem sum_8 : sumB 8 4 tb_8 = true := by decide +kernel
def ph_9 : List Int := [1, 0, 0, 1, 0, 0, 1]
def tb_9 : List (List Int) := [[1], [0, 1], [0, 0, 1], [0, 0, 0, 1], [0, 0, 0, 0, 1], [0, 0, 0, 0, 0, 1], [-1, 0, 0, -1], [0, -1, 0, 0, -1], [0, 0, -1, 0, 0, -1]]
theorem tab_9 : Tab 9 6 (fr ph_9) tb_9 := tab_ok (by decide +kernel)
theorem unit_9 : unitB 9 6 ph_9 tb_9 = true := by decide +kernel
theorem dist_9 : distB 9 6 tb_9 = true := by decide +kernel
theorem sum_9 : sumB 9 6 tb_9 = true := by decide +kernel
def ph_10 : List Int := [1, -1, 1, -1, 1]
def tb_10 : List (List Int) := [[1], [0, 1], [0, 0, 1], [0, 0, 0, 1], [-1, 1, -1, 1], [-1], [0, -1], [0, 0, -1], [0, 0, 0, -1], [1, -1, 1, -1]]
theorem tab_10 : Tab 10 4 (fr ph_10) tb_10 := tab_ok (by decide +kernel)
theorem unit_10 : unitB 10 4 ph_10 tb_10 = true := by decide +kernel
theorem dist_10 : distB 10 4 tb_10 = true := by decide +kernel
theorem sum_10 : sumB 10 4 tb_10 = true := by decide +kernel
def ph_11 : List Int := [1, 1, 1, 1, 1, 1, 1, 1, 1, 1, 1]
def tb_11 : List (List Int) := [[1], [0, 1], [0, 0, 1], [0, 0, 0, 1], [0, 0, 0, 0, 1], [0, 0, 0, 0, 0, 1], [0, 0, 0, 0, 0, 0, 1], [0, 0, 0, 0, 0, 0, 0, 1], [0, 0, 0, 0, 0, 0, 0, 0, 1], [0, 0, 0, 0, 0, 0, 0, 0, 0, 1], [-1, -1, -1, -1, -1, -1, -1, -1, -1, -1]]
theorem tab_11 : Tab 11 10 (fr ph_11) tb_11 := tab_ok (by decide +kernel)
theorem unit_11 : unitB 11 10 ph_11 tb_11 = true := by decide +kernel
theorem dist_11 : distB 11 10 tb_11 = true := by decide +kernel
theorem sum_11 : sumB 11 10 tb_11 = true := by decide +kernel
def ph_12 : List Int := [1, 0, -1, 0, 1]
def tb_12 : List (List Int) := [[1], [0, 1], [0, 0, 1], [0, 0, 0, 1], [-1, 0, 1], [0, -1, 0, 1], [-1], [0, -1], [0, 0, -1], [0, 0, 0, -1], [1, 0, -1], [0, 1, 0, -1]]
theorem tab_12 : Tab 12 4 (fr ph_12) tb_12 := tab_ok (by decide +kernel)
theorem unit_12 : unitB 12 4 ph_12 tb_12 = true := by decide +kernel
theorem dist_12 : distB 12 4 tb_12 = true := by decide +kernel
theorem sum_12 : sumB 12 4 tb_12 = true := by decide +kernel
def ph_13 : List Int := [1, 1, 1, 1, 1, 1, 1, 1, 1, 1, 1, 1, 1]
def tb_13 : List (List Int) := [[1], [0, 1], [0, 0, 1], [0, 0, 0, 1], [0, 0, 0, 0, 1], [0, 0, 0, 0, 0, 1], [0, 0, 0, 0, 0, 0, 1], [0, 0, 0, 0, 0, 0, 0, 1], [0, 0, 0, 0, 0, 0, 0, 0, 1], [0, 0, 0, 0, 0, 0, 0, 0, 0, 1], [0, 0, 0, 0, 0, 0, 0, 0, 0, 0, 1], [0, 0, 0, 0, 0, 0, 0, 0, 0, 0, 0, 1], [-1, -1, -1, -1, -1, -1, -1, -1, -1, -1, -1, -1]]
theorem tab_13 : Tab 13 12 (fr ph_13) tb_13 := tab_ok (by decide +kernel)
theorem unit_13 : unitB 13 12 ph_13 tb_13 = true := by decide +kernel
theorem dist_13 : distB 13 12 tb_13 = true := by decide +kernel
theorem sum_13 : sumB 13 12 tb_13 = true := by decide +kernel
def ph_14 : List Int := [1, -1, 1, -1, 1, -1, 1]
def tb_14 : List (List Int) := [[1], [0, 1], [0, 0, 1], [0, 0, 0, 1], [0, 0, 0, 0, 1], [0, 0, 0, 0, 0, 1], [-1, 1, -1, 1, -1, 1], [-1], [0, -1], [0, 0, -1], [0, 0, 0, -1], [0, 0, 0, 0, -1], [0, 0, 0, 0, 0, -1], [1, -1, 1, -1, 1, -1]]
theorem tab_14 : Tab 14 6 (fr ph_14) tb_14 := tab_ok (by decide +kernel)
theorem unit_14 : unitB 14 6 ph_14 tb_14 = true := by decide +kernel
theorem dist_14 : distB 14 6 tb_14 = true := by decide +kernel
theorem sum_14 : sumB 14 6 tb_14 = true := by decide +kernel
def ph_15 : List Int := [1, -1, 0, 1, -1, 1, 0, -1, 1]
def tb_15 : List (List Int) := [[1], [0, 1], [0, 0, 1], [0, 0, 0, 1], [0, 0, 0, 0, 1], [0, 0, 0, 0, 0, 1], [0, 0, 0, 0, 0, 0, 1], [0, 0, 0, 0, 0, 0, 0, 1], [-1, 1, 0, -1, 1, -1, 0, 1], [-1, 0, 1, -1, 0, 0, -1, 1], [-1, 0, 0, 0, 0, -1], [0, -1, 0, 0, 0, 0, -1], [0, 0, -1, 0, 0, 0, 0, -1], [1, -1, 0, 0, -1, 1, 0, -1], [1, 0, -1, 1, -1, 0, 1, -1]]
theorem tab_15 : Tab 15 8 (fr ph_15) tb_15 := tab_ok (by decide +kernel)
theorem unit_15 : unitB 15 8 ph_15 tb_15 = true := by decide +kernel
theorem dist_15 : distB 15 8 tb_15 = true := by decide +kernel
theorem sum_15 : sumB 15 8 tb_15 = true := by decide +kernel
def ph_16 : List Int := [1, 0, 0, 0, 0, 0, 0, 0, 1]
def tb_16 : List (List Int) := [[1], [0, 1], [0, 0, 1], [0, 0, 0, 1], [0, 0, 0, 0, 1], [0, 0, 0, 0, 0, 1], [0, 0, 0, 0, 0, 0, 1], [0, 0, 0, 0, 0, 0, 0, 1], [-1], [0, -1], [0, 0, -1], [0, 0, 0, -1], [0, 0, 0, 0, -1], [0, 0, 0, 0, 0, -1], [0, 0, 0, 0, 0, 0, -1], [0, 0, 0, 0, 0, 0, 0, -1]]
theorem tab_16 : Tab 16 8 (fr ph_16) tb_16 := tab_ok (by decide +kernel)
theorem unit_16 : unitB 16 8 ph_16 tb_16 = true := by decide +kernel
theorem dist_16 : distB 16 8 tb_16 = true := by decide +kernel
theorem sum_16 : sumB 16 8 tb_16 = true := by decide +kernel
def ph_18 : List Int := [1, 0, 0, -1, 0, 0, 1]
def tb_18 : List (List Int) := [[1], [0, 1], [0, 0, 1], [0, 0, 0, 1], [0, 0, 0, 0, 1], [0, 0, 0, 0, 0, 1], [-1, 0, 0, 1], [0, -1, 0, 0, 1], [0, 0, -1, 0, 0, 1], [-1], [0, -1], [0, 0, -1], [0, 0, 0, -1], [0, 0, 0, 0, -1], [0, 0, 0, 0, 0, -1], [1, 0, 0, -1], [0, 1, 0, 0, -1], [0, 0, 1, 0, 0, -1]]
theorem tab_18 : Tab 18 6 (fr ph_18) tb_18 := tab_ok (by decide +kernel)
theorem unit_18 : unitB 18 6 ph_18 tb_18 = true := by decide +kernel
theorem dist_18 : distB 18 6 tb_18 = true := by decide +kernel
theorem sum_18 : sumB 18 6 tb_18 = true := by decide +kernel
def ph_20 : List Int := [1, 0, -1, 0, 1, 0, -1, 0, 1]
def tb_20 : List (List Int) := [[1], [0, 1], [0, 0, 1], [0, 0, 0, 1], [0, 0, 0, 0, 1], [0, 0, 0, 0, 0, 1], [0, 0, 0, 0, 0, 0, 1], [0, 0, 0, 0, 0, 0, 0, 1], [-1, 0, 1, 0, -1, 0, 1], [0, -1, 0, 1, 0, -1, 0, 1], [-1], [0, -1], [0, 0, -1], [0, 0, 0, -1], [0, 0, 0, 0, -1], [0, 0, 0, 0, 0, -1], [0, 0, 0, 0, 0, 0, -1], [0, 0, 0, 0, 0, 0, 0, -1], [1, 0, -1, 0, 1, 0, -1], [0, 1, 0, -1, 0, 1, 0, -1]]
theorem tab_20 : Tab 20 8 (fr ph_20) tb_20 := tab_ok (by decide +kernel)
theorem unit_20 : unitB 20 8 ph_20 tb_20 = true := by decide +kernel
theorem dist_20 : distB 20 8 tb_20 = true := by decide +kernel
theorem sum_20 : sumB 20 8 tb_20 = true := by decide +kernel
def ph_21 : List Int := [1, -1, 0, 1, -1, 0, 1, 0, -1, 1, 0, -1, 1]
def tb_21 : List (List Int) := [[1], [0, 1], [0, 0, 1], [0, 0, 0, 1], [0, 0, 0, 0, 1], [0, 0, 0, 0, 0, 1], [0, 0, 0, 0, 0, 0, 1], [0, 0, 0, 0, 0, 0, 0, 1], [0, 0, 0, 0, 0, 0, 0, 0, 1], [0, 0, 0, 0, 0, 0, 0, 0, 0, 1], [0, 0, 0, 0, 0, 0, 0, 0, 0, 0, 1], [0, 0, 0, 0, 0, 0, 0, 0, 0, 0, 0, 1], [-1, 1, 0, -1, 1, 0, -1, 0, 1, -1, 0, 1], [-1, 0, 1, -1, 0, 1, -1, -1, 1, 0, -1, 1], [-1, 0, 0, 0, 0, 0, 0, -1], [0, -1, 0, 0, 0, 0, 0, 0, -1], [0, 0, -1, 0, 0, 0, 0, 0, 0, -1], [0, 0, 0, -1, 0, 0, 0, 0, 0, 0, -1], [0, 0, 0, 0, -1, 0, 0, 0, 0, 0, 0, -1], [1, -1, 0, 1, -1, -1, 1, 0, -1, 1, 0, -1], [1, 0, -1, 1, 0, -1, 0, 1, -1, 0, 1, -1]]
theorem tab_21 : Tab 21 12 (fr ph_21) tb_21 := tab_ok (by decide +kernel)
theorem unit_21 : unitB 21 12 ph_21 tb_21 = true := by decide +kernel
theorem dist_21 : distB 21 12 tb_21 = true := by decide +kernel
theorem sum_21 : sumB 21 12 tb_21 = true := by decide +kernel
def ph_22 : List Int := [1, -1, 1, -1, 1, -1, 1, -1, 1, -1, 1]
def tb_22 : List (List Int) := [[1], [0, 1], [0, 0, 1], [0, 0, 0, 1], [0, 0, 0, 0, 1], [0, 0, 0, 0, 0, 1], [0, 0, 0, 0, 0, 0, 1], [0, 0, 0, 0, 0, 0, 0, 1], [0, 0, 0, 0, 0, 0, 0, 0, 1], [0, 0, 0, 0, 0, 0, 0, 0, 0, 1], [-1, 1, -1, 1, -1, 1, -1, 1, -1, 1], [-1], [0, -1], [0, 0, -1], [0, 0, 0, -1], [0, 0, 0, 0, -1], [0, 0, 0, 0, 0, -1], [0, 0, 0, 0, 0, 0, -1], [0, 0, 0, 0, 0, 0, 0, -1], [0, 0, 0, 0, 0, 0, 0, 0, -1], [0, 0, 0, 0, 0, 0, 0, 0, 0, -1], [1, -1, 1, -1, 1, -1, 1, -1, 1, -1]]
theorem tab_22 : Tab 22 10 (fr ph_22) tb_22 := tab_ok (by decide +kernel)
theorem unit_22 : unitB 22 10 ph_22 tb_22 = true := by decide +kernel
theorem dist_22 : distB 22 10 tb_22 = true := by decide +kernel
theorem sum_22 : sumB 22 10 tb_22 = true := by decide +kernel
def ph_24 : List Int := [1, 0, 0, 0, -1, 0, 0, 0, 1]
def tb_24 : List (List Int) := [[1], [0, 1], [0, 0, 1], [0, 0, 0, 1], [0, 0, 0, 0, 1], [0, 0, 0, 0, 0, 1], [0, 0, 0, 0, 0, 0, 1], [0, 0, 0, 0, 0, 0, 0, 1], [-1, 0, 0, 0, 1], [0, -1, 0, 0, 0, 1], [0, 0, -1, 0, 0, 0, 1], [0, 0, 0, -1, 0, 0, 0, 1], [-1], [0, -1], [0, 0, -1], [0, 0, 0, -1], [0, 0, 0, 0, -1], [0, 0, 0, 0, 0, -1], [0, 0, 0, 0, 0, 0, -1], [0, 0, 0, 0, 0, 0, 0, -1], [1, 0, 0, 0, -1], [0, 1, 0, 0, 0, -1], [0, 0, 1, 0, 0, 0, -1], [0, 0, 0, 1, 0, 0, 0, -1]]
theorem tab_24 : Tab 24 8 (fr ph_24) tb_24 := tab_ok (by decide +kernel)
theorem unit_24 : unitB 24 8 ph_24 tb_24 = true := by decide +kernel
theorem dist_24 : distB 24 8 tb_24 = true := by decide +kernel
theorem sum_24 : sumB 24 8 tb_24 = true := by decide +kernel
def ph_26 : List Int := [1, -1, 1, -1, 1, -1, 1, -1, 1, -1, 1, -1, 1]
def tb_26 : List (List Int) := [[1], [0, 1], [0, 0, 1], [0, 0, 0, 1], [0, 0, 0, 0, 1], [0, 0, 0, 0, 0, 1], [0, 0, 0, 0, 0, 0, 1], [0, 0, 0, 0, 0, 0, 0, 1], [0, 0, 0, 0, 0, 0, 0, 0, 1], [0, 0, 0, 0, 0, 0, 0, 0, 0, 1], [0, 0, 0, 0, 0, 0, 0, 0, 0, 0, 1], [0, 0, 0, 0, 0, 0, 0, 0, 0, 0, 0, 1], [-1, 1, -1, 1, -1, 1, -1, 1, -1, 1, -1, 1], [-1], [0, -1], [0, 0, -1], [0, 0, 0, -1], [0, 0, 0, 0, -1], [0, 0, 0, 0, 0, -1], [0, 0, 0, 0, 0, 0, -1], [0, 0, 0, 0, 0, 0, 0, -1], [0, 0, 0, 0, 0, 0, 0, 0, -1], [0, 0, 0, 0, 0, 0, 0, 0, 0, -1], [0, 0, 0, 0, 0, 0, 0, 0, 0, 0, -1], [0, 0, 0, 0, 0, 0, 0, 0, 0, 0, 0, -1], [1, -1, 1, -1, 1, -1, 1, -1, 1, -1, 1, -1]]
theorem tab_26 : Tab 26 12 (fr ph_26) tb_26 := tab_ok (by decide +kernel)
theorem unit_26 : unitB 26 12 ph_26 tb_26 = true := by decide +kernel
theorem dist_26 : distB 26 12 tb_26 = true := by decide +kernel
theorem sum_26 : sumB 26 12 tb_26 = true := by decide +kernel
def ph_28 : List Int := [1, 0, -1, 0, 1, 0, -1, 0, 1, 0, -1, 0, 1]
def tb_28 : List (List Int) := [[1], [0, 1], [0, 0, 1], [0, 0, 0, 1], [0, 0, 0, 0, 1], [0, 0, 0, 0, 0, 1], [0, 0, 0, 0, 0, 0, 1], [0, 0, 0, 0, 0, 0, 0, 1], [0, 0, 0, 0, 0, 0, 0, 0, 1], [0, 0, 0, 0, 0, 0, 0, 0, 0, 1], [0, 0, 0, 0, 0, 0, 0, 0, 0, 0, 1], [0, 0, 0, 0, 0, 0, 0, 0, 0, 0, 0, 1], [-1, 0, 1, 0, -1, 0, 1, 0, -1, 0, 1], [0, -1, 0, 1, 0, -1, 0, 1, 0, -1, 0, 1], [-1], [0, -1], [0, 0, -1], [0, 0, 0, -1], [0, 0, 0, 0, -1], [0, 0, 0, 0, 0, -1], [0, 0, 0, 0, 0, 0, -1], [0, 0, 0, 0, 0, 0, 0, -1], [0, 0, 0, 0, 0, 0, 0, 0, -1], [0, 0, 0, 0, 0, 0, 0, 0, 0, -1], [0, 0, 0, 0, 0, 0, 0, 0, 0, 0, -1], [0, 0, 0, 0, 0, 0, 0, 0, 0, 0, 0, -1], [1, 0, -1, 0, 1, 0, -1, 0, 1, 0, -1], [0, 1, 0, -1, 0, 1, 0, -1, 0, 1, 0, -1]]
theorem tab_28 : Tab 28 12 (fr ph_28) tb_28 := tab_ok (by decide +kernel)
theorem unit_28 : unitB 28 12 ph_28 tb_28 = true := by decide +kernel
theorem dist_28 : distB 28 12 tb_28 = true := by decide +kernel
theorem sum_28 : sumB 28 12 tb_28 = true := by decide +kernel
def ph_30 : List Int := [1, 1, 0, -1, -1, -1, 0, 1, 1]
def tb_30 : List (List Int) := [[1], [0, 1], [0, 0, 1], [0, 0, 0, 1], [0, 0, 0, 0, 1], [0, 0, 0, 0, 0, 1], [0, 0, 0, 0, 0, 0, 1], [0, 0, 0, 0, 0, 0, 0, 1], [-1, -1, 0, 1, 1, 1, 0, -1], [1, 0, -1, -1, 0, 0, 1, 1], [-1, 0, 0, 0, 0, 1], [0, -1, 0, 0, 0, 0, 1], [0, 0, -1, 0, 0, 0, 0, 1], [-1, -1, 0, 0, 1, 1, 0, -1], [1, 0, -1, -1, -1, 0, 1, 1], [-1], [0, -1], [0, 0, -1], [0, 0, 0, -1], [0, 0, 0, 0, -1], [0, 0, 0, 0, 0, -1], [0, 0, 0, 0, 0, 0, -1], [0, 0, 0, 0, 0, 0, 0, -1], [1, 1, 0, -1, -1, -1, 0, 1], [-1, 0, 1, 1, 0, 0, -1, -1], [1, 0, 0, 0, 0, -1], [0, 1, 0, 0, 0, 0, -1], [0, 0, 1, 0, 0, 0, 0, -1], [1, 1, 0, 0, -1, -1, 0, 1], [-1, 0, 1, 1, 1, 0, -1, -1]]
theorem tab_30 : Tab 30 8 (fr ph_30) tb_30 := tab_ok (by decide +kernel)
theorem unit_30 : unitB 30 8 ph_30 tb_30 = true := by decide +kernel
theorem dist_30 : distB 30 8 tb_30 = true := by decide +kernel
theorem sum_30 : sumB 30 8 tb_30 = true := by decide +kernel
def ph_36 : List Int := [1, 0, 0, 0, 0, 0, -1, 0, 0, 0, 0, 0, 1]
def tb_36 : List (List Int) := [[1], [0, 1], [0, 0, 1], [0, 0, 0, 1], [0, 0, 0, 0, 1], [0, 0, 0, 0, 0, 1], [0, 0, 0, 0, 0, 0, 1], [0, 0, 0, 0, 0, 0, 0, 1], [0, 0, 0, 0, 0, 0, 0, 0, 1], [0, 0, 0, 0, 0, 0, 0, 0, 0, 1], [0, 0, 0, 0, 0, 0, 0, 0, 0, 0, 1], [0, 0, 0, 0, 0, 0, 0, 0, 0, 0, 0, 1], [-1, 0, 0, 0, 0, 0, 1], [0, -1, 0, 0, 0, 0, 0, 1], [0, 0, -1, 0, 0, 0, 0, 0, 1], [0, 0, 0, -1, 0, 0, 0, 0, 0, 1], [0, 0, 0, 0, -1, 0, 0, 0, 0, 0, 1], [0, 0, 0, 0, 0, -1, 0, 0, 0, 0, 0, 1], [-1], [0, -1], [0, 0, -1], [0, 0, 0, -1], [0, 0, 0, 0, -1], [0, 0, 0, 0, 0, -1], [0, 0, 0, 0, 0, 0, -1], [0, 0, 0, 0, 0, 0, 0, -1], [0, 0, 0, 0, 0, 0, 0, 0, -1], [0, 0, 0, 0, 0, 0, 0, 0, 0, -1], [0, 0, 0, 0, 0, 0, 0, 0, 0, 0, -1], [0, 0, 0, 0, 0, 0, 0, 0, 0, 0, 0, -1], [1, 0, 0, 0, 0, 0, -1], [0, 1, 0, 0, 0, 0, 0, -1], [0, 0, 1, 0, 0, 0, 0, 0, -1], [0, 0, 0, 1, 0, 0, 0, 0, 0, -1], [0, 0, 0, 0, 1, 0, 0, 0, 0, 0, -1], [0, 0, 0, 0, 0, 1, 0, 0, 0, 0, 0, -1]]
theorem tab_36 : Tab 36 12 (fr ph_36) tb_36 := tab_ok (by decide +kernel)
theorem unit_36 : unitB 36 12 ph_36 tb_36 = true := by decide +kernel
theorem dist_36 : distB 36 12 tb_36 = true := by decide +kernel
theorem sum_36 : sumB 36 12 tb_36 = true := by decide +kernel
def ph_42 : List Int := [1, 1, 0, -1, -1, 0, 1, 0, -1, -1, 0, 1, 1]
def tb_42 : List (List Int) := [[1], [0, 1], [0, 0, 1], [0, 0, 0, 1], [0, 0, 0, 0, 1], [0, 0, 0, 0, 0, 1], [0, 0, 0, 0, 0, 0, 1], [0, 0, 0, 0, 0, 0, 0, 1], [0, 0, 0, 0, 0, 0, 0, 0, 1], [0, 0, 0, 0, 0, 0, 0, 0, 0, 1], [0, 0, 0, 0, 0, 0, 0, 0, 0, 0, 1], [0, 0, 0, 0, 0, 0, 0, 0, 0, 0, 0, 1], [-1, -1, 0, 1, 1, 0, -1, 0, 1, 1, 0, -1], [1, 0, -1, -1, 0, 1, 1, -1, -1, 0, 1, 1], [-1, 0, 0, 0, 0, 0, 0, 1], [0, -1, 0, 0, 0, 0, 0, 0, 1], [0, 0, -1, 0, 0, 0, 0, 0, 0, 1], [0, 0, 0, -1, 0, 0, 0, 0, 0, 0, 1], [0, 0, 0, 0, -1, 0, 0, 0, 0, 0, 0, 1], [-1, -1, 0, 1, 1, -1, -1, 0, 1, 1, 0, -1], [1, 0, -1, -1, 0, 1, 0, -1, -1, 0, 1, 1], [-1], [0, -1], [0, 0, -1], [0, 0, 0, -1], [0, 0, 0, 0, -1], [0, 0, 0, 0, 0, -1], [0, 0, 0, 0, 0, 0, -1], [0, 0, 0, 0, 0, 0, 0, -1], [0, 0, 0, 0, 0, 0, 0, 0, -1], [0, 0, 0, 0, 0, 0, 0, 0, 0, -1], [0, 0, 0, 0, 0, 0, 0, 0, 0, 0, -1], [0, 0, 0, 0, 0, 0, 0, 0, 0, 0, 0, -1], [1, 1, 0, -1, -1, 0, 1, 0, -1, -1, 0, 1], [-1, 0, 1, 1, 0, -1, -1, 1, 1, 0, -1, -1], [1, 0, 0, 0, 0, 0, 0, -1], [0, 1, 0, 0, 0, 0, 0, 0, -1], [0, 0, 1, 0, 0, 0, 0, 0, 0, -1], [0, 0, 0, 1, 0, 0, 0, 0, 0, 0, -1], [0, 0, 0, 0, 1, 0, 0, 0, 0, 0, 0, -1], [1, 1, 0, -1, -1, 1, 1, 0, -1, -1, 0, 1], [-1, 0, 1, 1, 0, -1, 0, 1, 1, 0, -1, -1]]
theorem tab_42 : Tab 42 12 (fr ph_42) tb_42 := tab_ok (by decide +kernel)
theorem unit_42 : unitB 42 12 ph_42 tb_42 = true := by decide +kernel
theorem dist_42 : distB 42 12 tb_42 = true := by decide +kernel
theorem sum_42 : sumB 42 12 tb_42 = true := by decide +kernel
end Q
end Go.Proofs.YtmbejakmeijcbaaGreat
