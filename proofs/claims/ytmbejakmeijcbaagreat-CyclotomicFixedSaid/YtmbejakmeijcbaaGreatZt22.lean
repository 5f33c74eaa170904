/- The document's errors of orders. -/
import Derived.Test.YtmbejakmeijcbaaGreatZt19
import Derived.Test.YtmbejakmeijcbaaGreatZt20
import Derived.Test.YtmbejakmeijcbaaGreatZt21
import Derived.Test.YtmbejakmeijcbaaGreatZt14
import Derived.Test.YtmbejakmeijcbaaGreatZt11
import Derived.Test.YtmbejakmeijcbaaGreatZt10
import Derived.Test.YtmbejakmeijcbaaGreatZt5
import Derived.Test.YtmbejakmeijcbaaGreatZt13
namespace Go.Proofs.YtmbejakmeijcbaaGreat
open Go.RowKit
namespace Rf
theorem fails_run {n : Nat} (h1 : 1 ≤ n) (h2 : n ≤ 512) : failsB n = true := by
 have key : ∀ c, (List.range 32).all (fun k => failsB (k + (32 * c + 1))) = true → (n - 1) / 32 = c → failsB n = true := fun c h e => by
  have := List.all_eq_true.1 h (n - (32 * c + 1)) (List.mem_range.2 (by omega))
  rwa [show n - (32 * c + 1) + (32 * c + 1) = n by omega] at this
 have hlt : (n - 1) / 32 < 16 := by omega
 match hc : (n - 1) / 32, hlt with
 | 0, _ => exact key 0 fails_r0 hc
 | 1, _ => exact key 1 fails_r1 hc
 | 2, _ => exact key 2 fails_r2 hc
 | 3, _ => exact key 3 fails_r3 hc
 | 4, _ => exact key 4 fails_r4 hc
 | 5, _ => exact key 5 fails_r5 hc
 | 6, _ => exact key 6 fails_r6 hc
 | 7, _ => exact key 7 fails_r7 hc
 | 8, _ => exact key 8 fails_r8 hc
 | 9, _ => exact key 9 fails_r9 hc
 | 10, _ => exact key 10 fails_r10 hc
 | 11, _ => exact key 11 fails_r11 hc
 | 12, _ => exact key 12 fails_r12 hc
 | 13, _ => exact key 13 fails_r13 hc
 | 14, _ => exact key 14 fails_r14 hc
 | 15, _ => exact key 15 fails_r15 hc
 | _ + 16, h => exact absurd h (by omega)
theorem fails_in {n : Nat} (h1 : 1 ≤ n) (h2 : n ≤ 512) : ∃ x : Int, FnOK Tryz.prog false 11 [.c (.int .i64 n)] (.c (.int .i64 x)) ∧ (x = 0 ↔ n ∈ ordsL) := by
 have h := fails_run h1 h2
 unfold failsB at h
 split at h
 ·rename_i x hx
  have hf := run_call orcC_ok hx
  refine ⟨x, hf, ?_⟩
  have h := beq_iff_eq.1 h
  rw [← List.contains_iff_mem, ← h]
  exact beq_iff_eq.symm
 ·cases h
set_option maxHeartbeats 3000000 in
theorem fails_out {n : Int} (h : n < 1 ∨ 512 < n) : FnOK Tryz.prog false 11 [.c (.int .i64 n)] (.c (.int .i64 2)) := by
 refine fn_ok (E := E0) E0_ok Tryz.func11 rfl mixed (by kernel_rfl) (by kernel_rfl) ?_
 conv => whnf
 refine bcase (fun (h1 : gw false (decide (n < 1)) = true) => ?_) fun (h1 : gw false (decide (n < 1)) = false) => ?_
 ·have h1 := of_decide_eq_false (gwf h1)
  conv => whnf
  refine bpos (show decide ((512 : Int) < n) = true from decide_eq_true (by omega)) ?_
  conv => whnf
  exact ⟨rfl, Sub.refl _⟩
 ·conv => whnf
  exact ⟨rfl, Sub.refl _⟩
theorem fails_all (n : Int) : ∃ x : Int, FnOK Tryz.prog false 11 [.c (.int .i64 n)] (.c (.int .i64 x)) ∧ (x = 0 ↔ ∃ k : Nat, n = k ∧ k ∈ ordsL) := by
 by_cases h : n < 1 ∨ 512 < n
 ·refine ⟨2, fails_out h, ⟨fun e => absurd e (by decide), fun ⟨k, e, hk⟩ => ?_⟩⟩
  have : ∀ k ∈ ordsL, 1 ≤ k ∧ k ≤ 512 := by decide
  have := this k hk
  omega
 ·obtain ⟨k, rfl⟩ : ∃ k : Nat, n = k := ⟨n.toNat, by omega⟩
  obtain ⟨x, h1, h2⟩ := fails_in (n := k) (by omega) (by omega)
  refine ⟨x, h1, h2.trans ⟨fun a => ⟨k, rfl, a⟩, fun ⟨j, e, hj⟩ => ?_⟩⟩
  have : k = j := by omega
  rwa [this]
end Rf
end Go.Proofs.YtmbejakmeijcbaaGreat
/- What is known of a cyclotomic field, from its table and its runs. -/
namespace Go.Proofs.YtmbejakmeijcbaaGreat
open Go.RowKit
namespace Rf
theorem cy_of {n d : Nat} {φ : List Int} {T : List (List Int)} (ht : Q.Tab n d (Q.fr φ) T) (hu : Q.unitB n d φ T = true) (hs : Q.sumB n d T = true) (hd : Q.distB n d T = true) (hT : tinyT T = true) (hφ : tinyP d φ = true) (hn : n ∈ ordsL) (hc : FnOK Tryz.prog false 42 [.c (.int .i64 n)] (.c (.int .i64 0))) (hp : FnOK Tryz.prog false 35 [.c (.int .i64 n)] (.t2 (.c (nl (d + 1) (Z.gl φ))) (.c (.int .i64 0)))) (hr : FnOK Tryz.prog false 47 [.c (.int .i64 n)] (.c (nl (d + 1) (Z.gl φ)))) : Cy n d φ T := by
 unfold tinyP at hφ
 simp only [Bool.and_eq_true, beq_iff_eq] at hφ
 obtain ⟨⟨h1, h2⟩, h3⟩ := hφ
 have hl2 : ∀ i, zlen (Z.gl φ i) ≤ 2 := fun i => Z.zlen64 (by have := tinyL_bd h1 i; show (φ.getD i 0).natAbs < _; omega)
 have hl : ∀ i, zlen (Z.gl φ i) ≤ 1048576 := fun i => Nat.le_trans (hl2 i) (by decide)
 have hd1 := ht.d1
 have hd2 := ht.d2
 have ho := open_good (n := d + 1) (d := d) (c := fun i => ofZ (Z.gl φ i)) (f := Q.fr φ) (by rw [vz_n]; rfl) (wl_n (by omega) hl) (by
  rw [vz_n]
  exact Z.tl_is (by rw [← h2]; exact Z.gl_fin φ) (by rw [← h2]; exact Z.gl_fin φ) (.inr (by rw [Nat.add_sub_cancel]; show φ.getD d 0 ≠ 0; rw [h3]; decide))) hd1 hd2 (by rw [vz_n]; exact h3)
 have hf : Fd d 255 (Q.fr φ) := ⟨ht.mon, hd1, hd2, tiny_bd h1, Nat.lt_trans (show 255 < 2 ^ 8 by decide) (pow_lt_B (e := 8) (L := KD) (by decide))⟩
 obtain ⟨x, f1, f2⟩ := fails_in ht.n1 (by have := ht.n2; omega)
 have f1 := (f2.2 hn) ▸ f1
 exact ⟨ht, hu, hs, hd, tinyT_bd hT, hl2, ⟨ho, hf⟩, fld_ok hc.weak hp.weak, hc.weak, hr, f1⟩
end Rf
end Go.Proofs.YtmbejakmeijcbaaGreat
/- Tables of the powers of the roots of unity at the 26 orders whose fields have degree at most 12, and of the lifts. -/
namespace Go.Proofs.YtmbejakmeijcbaaGreat
namespace Q
def ph_1 : List Int := [-1, 1]
def tb_1 : List (List Int) := [[1]]
theorem tab_1 : Tab 1 1 (fr ph_1) tb_1 := tab_ok (by decide +kernel)
theorem unit_1 : unitB 1 1 ph_1 tb_1 = true := by decide +kernel
theorem dist_1 : distB 1 1 tb_1 = true := by decide +kernel
theorem sum_1 : sumB 1 1 tb_1 = true := by decide +kernel
def ph_2 : List Int := [1, 1]
def tb_2 : List (List Int) := [[1], [-1]]
theorem tab_2 : Tab 2 1 (fr ph_2) tb_2 := tab_ok (by decide +kernel)
theorem unit_2 : unitB 2 1 ph_2 tb_2 = true := by decide +kernel
theorem dist_2 : distB 2 1 tb_2 = true := by decide +kernel
theorem sum_2 : sumB 2 1 tb_2 = true := by decide +kernel
def ph_3 : List Int := [1, 1, 1]
def tb_3 : List (List Int) := [[1], [0, 1], [-1, -1]]
theorem tab_3 : Tab 3 2 (fr ph_3) tb_3 := tab_ok (by decide +kernel)
theorem unit_3 : unitB 3 2 ph_3 tb_3 = true := by decide +kernel
theorem dist_3 : distB 3 2 tb_3 = true := by decide +kernel
theorem sum_3 : sumB 3 2 tb_3 = true := by decide +kernel
def ph_4 : List Int := [1, 0, 1]
def tb_4 : List (List Int) := [[1], [0, 1], [-1], [0, -1]]
theorem tab_4 : Tab 4 2 (fr ph_4) tb_4 := tab_ok (by decide +kernel)
theorem unit_4 : unitB 4 2 ph_4 tb_4 = true := by decide +kernel
theorem dist_4 : distB 4 2 tb_4 = true := by decide +kernel
theorem sum_4 : sumB 4 2 tb_4 = true := by decide +kernel
def ph_5 : List Int := [1, 1, 1, 1, 1]
def tb_5 : List (List Int) := [[1], [0, 1], [0, 0, 1], [0, 0, 0, 1], [-1, -1, -1, -1]]
theorem tab_5 : Tab 5 4 (fr ph_5) tb_5 := tab_ok (by decide +kernel)
theorem unit_5 : unitB 5 4 ph_5 tb_5 = true := by decide +kernel
theorem dist_5 : distB 5 4 tb_5 = true := by decide +kernel
theorem sum_5 : sumB 5 4 tb_5 = true := by decide +kernel
def ph_6 : List Int := [1, -1, 1]
def tb_6 : List (List Int) := [[1], [0, 1], [-1, 1], [-1], [0, -1], [1, -1]]
theorem tab_6 : Tab 6 2 (fr ph_6) tb_6 := tab_ok (by decide +kernel)
theorem unit_6 : unitB 6 2 ph_6 tb_6 = true := by decide +kernel
theorem dist_6 : distB 6 2 tb_6 = true := by decide +kernel
theorem sum_6 : sumB 6 2 tb_6 = true := by decide +kernel
def ph_7 : List Int := [1, 1, 1, 1, 1, 1, 1]
def tb_7 : List (List Int) := [[1], [0, 1], [0, 0, 1], [0, 0, 0, 1], [0, 0, 0, 0, 1], [0, 0, 0, 0, 0, 1], [-1, -1, -1, -1, -1, -1]]
theorem tab_7 : Tab 7 6 (fr ph_7) tb_7 := tab_ok (by decide +kernel)
theorem unit_7 : unitB 7 6 ph_7 tb_7 = true := by decide +kernel
theorem dist_7 : distB 7 6 tb_7 = true := by decide +kernel
theorem sum_7 : sumB 7 6 tb_7 = true := by decide +kernel
def ph_8 : List Int := [1, 0, 0, 0, 1]
def tb_8 : List (List Int) := [[1], [0, 1], [0, 0, 1], [0, 0, 0, 1], [-1], [0, -1], [0, 0, -1], [0, 0, 0, -1]]
theorem tab_8 : Tab 8 4 (fr ph_8) tb_8 := tab_ok (by decide +kernel)
theorem unit_8 : unitB 8 4 ph_8 tb_8 = true := by decide +kernel
theorem dist_8 : distB 8 4 tb_8 = true := by decide +kernel
theorem sum_8 : sumB 8 4 tb_8 = true := by decide +kernel
def ph_9 : List Int := [1, 0, 0, 1, 0, 0, 1]
def tb_9 : List (List Int) := [[1], [0, 1], [0, 0, 1], [0, 0, 0, 1], [0, 0, 0, 0, 1], [0, 0, 0, 0, 0, 1], [-1, 0, 0, -1], [0, -1, 0, 0, -1], [0, 0, -1, 0, 0, -1]]
theorem tab_9 : Tab 9 6 (fr ph_9) tb_9 := tab_ok (by decide +kernel)
theorem unit_9 : unitB 9 6 ph_9 tb_9 = true := by decide +kernel
theorem dist_9 : distB 9 6 tb_9 = true := by decide +kernel
theorem sum_9 : sumB 9 6 tb_9 = true := by decide +kernel
def ph_10 : List Int := [1, -1, 1, -1, 1]
def tb_10 : List (List Int) := [[1], [0, 1], [0, 0, 1], [0, 0, 0, 1], [-1, 1, -1, 1], [-1], [0, -1], [0, 0, -1], [0, 0, 0, -1], [1, -1, 1, -1]]
theorem tab_10 : Tab 10 4 (fr ph_10) tb_10 := tab_ok (by decide +kernel)
theorem unit_10 : unitB 10 4 ph_10 tb_10 = true := by decide +kernel
theorem dist_10 : distB 10 4 tb_10 = true := by decide +kernel
theorem sum_10 : sumB 10 4 tb_10 = true := by decide +kernel
def ph_11 : List Int := [1, 1, 1, 1, 1, 1, 1, 1, 1, 1, 1]
def tb_11 : List (List Int) := [[1], [0, 1], [0, 0, 1], [0, 0, 0, 1], [0, 0, 0, 0, 1], [0, 0, 0, 0, 0, 1], [0, 0, 0, 0, 0, 0, 1], [0, 0, 0, 0, 0, 0, 0, 1], [0, 0, 0, 0, 0, 0, 0, 0, 1], [0, 0, 0, 0, 0, 0, 0, 0, 0, 1], [-1, -1, -1, -1, -1, -1, -1, -1, -1, -1]]
theorem tab_11 : Tab 11 10 (fr ph_11) tb_11 := tab_ok (by decide +kernel)
theorem unit_11 : unitB 11 10 ph_11 tb_11 = true := by decide +kernel
theorem dist_11 : distB 11 10 tb_11 = true := by decide +kernel
theorem sum_11 : sumB 11 10 tb_11 = true := by decide +kernel
def ph_12 : List Int := [1, 0, -1, 0, 1]
def tb_12 : List (List Int) := [[1], [0, 1], [0, 0, 1], [0, 0, 0, 1], [-1, 0, 1], [0, -1, 0, 1], [-1], [0, -1], [0, 0, -1], [0, 0, 0, -1], [1, 0, -1], [0, 1, 0, -1]]
theorem tab_12 : Tab 12 4 (fr ph_12) tb_12 := tab_ok (by decide +kernel)
theorem unit_12 : unitB 12 4 ph_12 tb_12 = true := by decide +kernel
theorem dist_12 : distB 12 4 tb_12 = true := by decide +kernel
theorem sum_12 : sumB 12 4 tb_12 = true := by decide +kernel
def ph_13 : List Int := [1, 1, 1, 1, 1, 1, 1, 1, 1, 1, 1, 1, 1]
def tb_13 : List (List Int) := [[1], [0, 1], [0, 0, 1], [0, 0, 0, 1], [0, 0, 0, 0, 1], [0, 0, 0, 0, 0, 1], [0, 0, 0, 0, 0, 0, 1], [0, 0, 0, 0, 0, 0, 0, 1], [0, 0, 0, 0, 0, 0, 0, 0, 1], [0, 0, 0, 0, 0, 0, 0, 0, 0, 1], [0, 0, 0, 0, 0, 0, 0, 0, 0, 0, 1], [0, 0, 0, 0, 0, 0, 0, 0, 0, 0, 0, 1], [-1, -1, -1, -1, -1, -1, -1, -1, -1, -1, -1, -1]]
theorem tab_13 : Tab 13 12 (fr ph_13) tb_13 := tab_ok (by decide +kernel)
theorem unit_13 : unitB 13 12 ph_13 tb_13 = true := by decide +kernel
theorem dist_13 : distB 13 12 tb_13 = true := by decide +kernel
theorem sum_13 : sumB 13 12 tb_13 = true := by decide +kernel
def ph_14 : List Int := [1, -1, 1, -1, 1, -1, 1]
def tb_14 : List (List Int) := [[1], [0, 1], [0, 0, 1], [0, 0, 0, 1], [0, 0, 0, 0, 1], [0, 0, 0, 0, 0, 1], [-1, 1, -1, 1, -1, 1], [-1], [0, -1], [0, 0, -1], [0, 0, 0, -1], [0, 0, 0, 0, -1], [0, 0, 0, 0, 0, -1], [1, -1, 1, -1, 1, -1]]
theorem tab_14 : Tab 14 6 (fr ph_14) tb_14 := tab_ok (by decide +kernel)
theorem unit_14 : unitB 14 6 ph_14 tb_14 = true := by decide +kernel
theorem dist_14 : distB 14 6 tb_14 = true := by decide +kernel
theorem sum_14 : sumB 14 6 tb_14 = true := by decide +kernel
def ph_15 : List Int := [1, -1, 0, 1, -1, 1, 0, -1, 1]
def tb_15 : List (List Int) := [[1], [0, 1], [0, 0, 1], [0, 0, 0, 1], [0, 0, 0, 0, 1], [0, 0, 0, 0, 0, 1], [0, 0, 0, 0, 0, 0, 1], [0, 0, 0, 0, 0, 0, 0, 1], [-1, 1, 0, -1, 1, -1, 0, 1], [-1, 0, 1, -1, 0, 0, -1, 1], [-1, 0, 0, 0, 0, -1], [0, -1, 0, 0, 0, 0, -1], [0, 0, -1, 0, 0, 0, 0, -1], [1, -1, 0, 0, -1, 1, 0, -1], [1, 0, -1, 1, -1, 0, 1, -1]]
theorem tab_15 : Tab 15 8 (fr ph_15) tb_15 := tab_ok (by decide +kernel)
theorem unit_15 : unitB 15 8 ph_15 tb_15 = true := by decide +kernel
theorem dist_15 : distB 15 8 tb_15 = true := by decide +kernel
theorem sum_15 : sumB 15 8 tb_15 = true := by decide +kernel
def ph_16 : List Int := [1, 0, 0, 0, 0, 0, 0, 0, 1]
def tb_16 : List (List Int) := [[1], [0, 1], [0, 0, 1], [0, 0, 0, 1], [0, 0, 0, 0, 1], [0, 0, 0, 0, 0, 1], [0, 0, 0, 0, 0, 0, 1], [0, 0, 0, 0, 0, 0, 0, 1], [-1], [0, -1], [0, 0, -1], [0, 0, 0, -1], [0, 0, 0, 0, -1], [0, 0, 0, 0, 0, -1], [0, 0, 0, 0, 0, 0, -1], [0, 0, 0, 0, 0, 0, 0, -1]]
theorem tab_16 : Tab 16 8 (fr ph_16) tb_16 := tab_ok (by decide +kernel)
theorem unit_16 : unitB 16 8 ph_16 tb_16 = true := by decide +kernel
theorem dist_16 : distB 16 8 tb_16 = true := by decide +kernel
theorem sum_16 : sumB 16 8 tb_16 = true := by decide +kernel
def ph_18 : List Int := [1, 0, 0, -1, 0, 0, 1]
def tb_18 : List (List Int) := [[1], [0, 1], [0, 0, 1], [0, 0, 0, 1], [0, 0, 0, 0, 1], [0, 0, 0, 0, 0, 1], [-1, 0, 0, 1], [0, -1, 0, 0, 1], [0, 0, -1, 0, 0, 1], [-1], [0, -1], [0, 0, -1], [0, 0, 0, -1], [0, 0, 0, 0, -1], [0, 0, 0, 0, 0, -1], [1, 0, 0, -1], [0, 1, 0, 0, -1], [0, 0, 1, 0, 0, -1]]
theorem tab_18 : Tab 18 6 (fr ph_18) tb_18 := tab_ok (by decide +kernel)
theorem unit_18 : unitB 18 6 ph_18 tb_18 = true := by decide +kernel
theorem dist_18 : distB 18 6 tb_18 = true := by decide +kernel
theorem sum_18 : sumB 18 6 tb_18 = true := by decide +kernel
def ph_20 : List Int := [1, 0, -1, 0, 1, 0, -1, 0, 1]
def tb_20 : List (List Int) := [[1], [0, 1], [0, 0, 1], [0, 0, 0, 1], [0, 0, 0, 0, 1], [0, 0, 0, 0, 0, 1], [0, 0, 0, 0, 0, 0, 1], [0, 0, 0, 0, 0, 0, 0, 1], [-1, 0, 1, 0, -1, 0, 1], [0, -1, 0, 1, 0, -1, 0, 1], [-1], [0, -1], [0, 0, -1], [0, 0, 0, -1], [0, 0, 0, 0, -1], [0, 0, 0, 0, 0, -1], [0, 0, 0, 0, 0, 0, -1], [0, 0, 0, 0, 0, 0, 0, -1], [1, 0, -1, 0, 1, 0, -1], [0, 1, 0, -1, 0, 1, 0, -1]]
theorem tab_20 : Tab 20 8 (fr ph_20) tb_20 := tab_ok (by decide +kernel)
theorem unit_20 : unitB 20 8 ph_20 tb_20 = true := by decide +kernel
theorem dist_20 : distB 20 8 tb_20 = true := by decide +kernel
theorem sum_20 : sumB 20 8 tb_20 = true := by decide +kernel
def ph_21 : List Int := [1, -1, 0, 1, -1, 0, 1, 0, -1, 1, 0, -1, 1]
def tb_21 : List (List Int) := [[1], [0, 1], [0, 0, 1], [0, 0, 0, 1], [0, 0, 0, 0, 1], [0, 0, 0, 0, 0, 1], [0, 0, 0, 0, 0, 0, 1], [0, 0, 0, 0, 0, 0, 0, 1], [0, 0, 0, 0, 0, 0, 0, 0, 1], [0, 0, 0, 0, 0, 0, 0, 0, 0, 1], [0, 0, 0, 0, 0, 0, 0, 0, 0, 0, 1], [0, 0, 0, 0, 0, 0, 0, 0, 0, 0, 0, 1], [-1, 1, 0, -1, 1, 0, -1, 0, 1, -1, 0, 1], [-1, 0, 1, -1, 0, 1, -1, -1, 1, 0, -1, 1], [-1, 0, 0, 0, 0, 0, 0, -1], [0, -1, 0, 0, 0, 0, 0, 0, -1], [0, 0, -1, 0, 0, 0, 0, 0, 0, -1], [0, 0, 0, -1, 0, 0, 0, 0, 0, 0, -1], [0, 0, 0, 0, -1, 0, 0, 0, 0, 0, 0, -1], [1, -1, 0, 1, -1, -1, 1, 0, -1, 1, 0, -1], [1, 0, -1, 1, 0, -1, 0, 1, -1, 0, 1, -1]]
theorem tab_21 : Tab 21 12 (fr ph_21) tb_21 := tab_ok (by decide +kernel)
theorem unit_21 : unitB 21 12 ph_21 tb_21 = true := by decide +kernel
theorem dist_21 : distB 21 12 tb_21 = true := by decide +kernel
theorem sum_21 : sumB 21 12 tb_21 = true := by decide +kernel
def ph_22 : List Int := [1, -1, 1, -1, 1, -1, 1, -1, 1, -1, 1]
def tb_22 : List (List Int) := [[1], [0, 1], [0, 0, 1], [0, 0, 0, 1], [0, 0, 0, 0, 1], [0, 0, 0, 0, 0, 1], [0, 0, 0, 0, 0, 0, 1], [0, 0, 0, 0, 0, 0, 0, 1], [0, 0, 0, 0, 0, 0, 0, 0, 1], [0, 0, 0, 0, 0, 0, 0, 0, 0, 1], [-1, 1, -1, 1, -1, 1, -1, 1, -1, 1], [-1], [0, -1], [0, 0, -1], [0, 0, 0, -1], [0, 0, 0, 0, -1], [0, 0, 0, 0, 0, -1], [0, 0, 0, 0, 0, 0, -1], [0, 0, 0, 0, 0, 0, 0, -1], [0, 0, 0, 0, 0, 0, 0, 0, -1], [0, 0, 0, 0, 0, 0, 0, 0, 0, -1], [1, -1, 1, -1, 1, -1, 1, -1, 1, -1]]
theorem tab_22 : Tab 22 10 (fr ph_22) tb_22 := tab_ok (by decide +kernel)
theorem unit_22 : unitB 22 10 ph_22 tb_22 = true := by decide +kernel
theorem dist_22 : distB 22 10 tb_22 = true := by decide +kernel
theorem sum_22 : sumB 22 10 tb_22 = true := by decide +kernel
def ph_24 : List Int := [1, 0, 0, 0, -1, 0, 0, 0, 1]
def tb_24 : List (List Int) := [[1], [0, 1], [0, 0, 1], [0, 0, 0, 1], [0, 0, 0, 0, 1], [0, 0, 0, 0, 0, 1], [0, 0, 0, 0, 0, 0, 1], [0, 0, 0, 0, 0, 0, 0, 1], [-1, 0, 0, 0, 1], [0, -1, 0, 0, 0, 1], [0, 0, -1, 0, 0, 0, 1], [0, 0, 0, -1, 0, 0, 0, 1], [-1], [0, -1], [0, 0, -1], [0, 0, 0, -1], [0, 0, 0, 0, -1], [0, 0, 0, 0, 0, -1], [0, 0, 0, 0, 0, 0, -1], [0, 0, 0, 0, 0, 0, 0, -1], [1, 0, 0, 0, -1], [0, 1, 0, 0, 0, -1], [0, 0, 1, 0, 0, 0, -1], [0, 0, 0, 1, 0, 0, 0, -1]]
theorem tab_24 : Tab 24 8 (fr ph_24) tb_24 := tab_ok (by decide +kernel)
theorem unit_24 : unitB 24 8 ph_24 tb_24 = true := by decide +kernel
theorem dist_24 : distB 24 8 tb_24 = true := by decide +kernel
theorem sum_24 : sumB 24 8 tb_24 = true := by decide +kernel
def ph_26 : List Int := [1, -1, 1, -1, 1, -1, 1, -1, 1, -1, 1, -1, 1]
def tb_26 : List (List Int) := [[1], [0, 1], [0, 0, 1], [0, 0, 0, 1], [0, 0, 0, 0, 1], [0, 0, 0, 0, 0, 1], [0, 0, 0, 0, 0, 0, 1], [0, 0, 0, 0, 0, 0, 0, 1], [0, 0, 0, 0, 0, 0, 0, 0, 1], [0, 0, 0, 0, 0, 0, 0, 0, 0, 1], [0, 0, 0, 0, 0, 0, 0, 0, 0, 0, 1], [0, 0, 0, 0, 0, 0, 0, 0, 0, 0, 0, 1], [-1, 1, -1, 1, -1, 1, -1, 1, -1, 1, -1, 1], [-1], [0, -1], [0, 0, -1], [0, 0, 0, -1], [0, 0, 0, 0, -1], [0, 0, 0, 0, 0, -1], [0, 0, 0, 0, 0, 0, -1], [0, 0, 0, 0, 0, 0, 0, -1], [0, 0, 0, 0, 0, 0, 0, 0, -1], [0, 0, 0, 0, 0, 0, 0, 0, 0, -1], [0, 0, 0, 0, 0, 0, 0, 0, 0, 0, -1], [0, 0, 0, 0, 0, 0, 0, 0, 0, 0, 0, -1], [1, -1, 1, -1, 1, -1, 1, -1, 1, -1, 1, -1]]
theorem tab_26 : Tab 26 12 (fr ph_26) tb_26 := tab_ok (by decide +kernel)
theorem unit_26 : unitB 26 12 ph_26 tb_26 = true := by decide +kernel
theorem dist_26 : distB 26 12 tb_26 = true := by decide +kernel
theorem sum_26 : sumB 26 12 tb_26 = true := by decide +kernel
def ph_28 : List Int := [1, 0, -1, 0, 1, 0, -1, 0, 1, 0, -1, 0, 1]
def tb_28 : List (List Int) := [[1], [0, 1], [0, 0, 1], [0, 0, 0, 1], [0, 0, 0, 0, 1], [0, 0, 0, 0, 0, 1], [0, 0, 0, 0, 0, 0, 1], [0, 0, 0, 0, 0, 0, 0, 1], [0, 0, 0, 0, 0, 0, 0, 0, 1], [0, 0, 0, 0, 0, 0, 0, 0, 0, 1], [0, 0, 0, 0, 0, 0, 0, 0, 0, 0, 1], [0, 0, 0, 0, 0, 0, 0, 0, 0, 0, 0, 1], [-1, 0, 1, 0, -1, 0, 1, 0, -1, 0, 1], [0, -1, 0, 1, 0, -1, 0, 1, 0, -1, 0, 1], [-1], [0, -1], [0, 0, -1], [0, 0, 0, -1], [0, 0, 0, 0, -1], [0, 0, 0, 0, 0, -1], [0, 0, 0, 0, 0, 0, -1], [0, 0, 0, 0, 0, 0, 0, -1], [0, 0, 0, 0, 0, 0, 0, 0, -1], [0, 0, 0, 0, 0, 0, 0, 0, 0, -1], [0, 0, 0, 0, 0, 0, 0, 0, 0, 0, -1], [0, 0, 0, 0, 0, 0, 0, 0, 0, 0, 0, -1], [1, 0, -1, 0, 1, 0, -1, 0, 1, 0, -1], [0, 1, 0, -1, 0, 1, 0, -1, 0, 1, 0, -1]]
theorem tab_28 : Tab 28 12 (fr ph_28) tb_28 := tab_ok (by decide +kernel)
theorem unit_28 : unitB 28 12 ph_28 tb_28 = true := by decide +kernel
theorem dist_28 : distB 28 12 tb_28 = true := by decide +kernel
theorem sum_28 : sumB 28 12 tb_28 = true := by decide +kernel
def ph_30 : List Int := [1, 1, 0, -1, -1, -1, 0, 1, 1]
def tb_30 : List (List Int) := [[1], [0, 1], [0, 0, 1], [0, 0, 0, 1], [0, 0, 0, 0, 1], [0, 0, 0, 0, 0, 1], [0, 0, 0, 0, 0, 0, 1], [0, 0, 0, 0, 0, 0, 0, 1], [-1, -1, 0, 1, 1, 1, 0, -1], [1, 0, -1, -1, 0, 0, 1, 1], [-1, 0, 0, 0, 0, 1], [0, -1, 0, 0, 0, 0, 1], [0, 0, -1, 0, 0, 0, 0, 1], [-1, -1, 0, 0, 1, 1, 0, -1], [1, 0, -1, -1, -1, 0, 1, 1], [-1], [0, -1], [0, 0, -1], [0, 0, 0, -1], [0, 0, 0, 0, -1], [0, 0, 0, 0, 0, -1], [0, 0, 0, 0, 0, 0, -1], [0, 0, 0, 0, 0, 0, 0, -1], [1, 1, 0, -1, -1, -1, 0, 1], [-1, 0, 1, 1, 0, 0, -1, -1], [1, 0, 0, 0, 0, -1], [0, 1, 0, 0, 0, 0, -1], [0, 0, 1, 0, 0, 0, 0, -1], [1, 1, 0, 0, -1, -1, 0, 1], [-1, 0, 1, 1, 1, 0, -1, -1]]
theorem tab_30 : Tab 30 8 (fr ph_30) tb_30 := tab_ok (by decide +kernel)
theorem unit_30 : unitB 30 8 ph_30 tb_30 = true := by decide +kernel
theorem dist_30 : distB 30 8 tb_30 = true := by decide +kernel
theorem sum_30 : sumB 30 8 tb_30 = true := by decide +kernel
def ph_36 : List Int := [1, 0, 0, 0, 0, 0, -1, 0, 0, 0, 0, 0, 1]
def tb_36 : List (List Int) := [[1], [0, 1], [0, 0, 1], [0, 0, 0, 1], [0, 0, 0, 0, 1], [0, 0, 0, 0, 0, 1], [0, 0, 0, 0, 0, 0, 1], [0, 0, 0, 0, 0, 0, 0, 1], [0, 0, 0, 0, 0, 0, 0, 0, 1], [0, 0, 0, 0, 0, 0, 0, 0, 0, 1], [0, 0, 0, 0, 0, 0, 0, 0, 0, 0, 1], [0, 0, 0, 0, 0, 0, 0, 0, 0, 0, 0, 1], [-1, 0, 0, 0, 0, 0, 1], [0, -1, 0, 0, 0, 0, 0, 1], [0, 0, -1, 0, 0, 0, 0, 0, 1], [0, 0, 0, -1, 0, 0, 0, 0, 0, 1], [0, 0, 0, 0, -1, 0, 0, 0, 0, 0, 1], [0, 0, 0, 0, 0, -1, 0, 0, 0, 0, 0, 1], [-1], [0, -1], [0, 0, -1], [0, 0, 0, -1], [0, 0, 0, 0, -1], [0, 0, 0, 0, 0, -1], [0, 0, 0, 0, 0, 0, -1], [0, 0, 0, 0, 0, 0, 0, -1], [0, 0, 0, 0, 0, 0, 0, 0, -1], [0, 0, 0, 0, 0, 0, 0, 0, 0, -1], [0, 0, 0, 0, 0, 0, 0, 0, 0, 0, -1], [0, 0, 0, 0, 0, 0, 0, 0, 0, 0, 0, -1], [1, 0, 0, 0, 0, 0, -1], [0, 1, 0, 0, 0, 0, 0, -1], [0, 0, 1, 0, 0, 0, 0, 0, -1], [0, 0, 0, 1, 0, 0, 0, 0, 0, -1], [0, 0, 0, 0, 1, 0, 0, 0, 0, 0, -1], [0, 0, 0, 0, 0, 1, 0, 0, 0, 0, 0, -1]]
theorem tab_36 : Tab 36 12 (fr ph_36) tb_36 := tab_ok (by decide +kernel)
theorem unit_36 : unitB 36 12 ph_36 tb_36 = true := by decide +kernel
theorem dist_36 : distB 36 12 tb_36 = true := by decide +kernel
theorem sum_36 : sumB 36 12 tb_36 = true := by decide +kernel
def ph_42 : List Int := [1, 1, 0, -1, -1, 0, 1, 0, -1, -1, 0, 1, 1]
def tb_42 : List (List Int) := [[1], [0, 1], [0, 0, 1], [0, 0, 0, 1], [0, 0, 0, 0, 1], [0, 0, 0, 0, 0, 1], [0, 0, 0, 0, 0, 0, 1], [0, 0, 0, 0, 0, 0, 0, 1], [0, 0, 0, 0, 0, 0, 0, 0, 1], [0, 0, 0, 0, 0, 0, 0, 0, 0, 1], [0, 0, 0, 0, 0, 0, 0, 0, 0, 0, 1], [0, 0, 0, 0, 0, 0, 0, 0, 0, 0, 0, 1], [-1, -1, 0, 1, 1, 0, -1, 0, 1, 1, 0, -1], [1, 0, -1, -1, 0, 1, 1, -1, -1, 0, 1, 1], [-1, 0, 0, 0, 0, 0, 0, 1], [0, -1, 0, 0, 0, 0, 0, 0, 1], [0, 0, -1, 0, 0, 0, 0, 0, 0, 1], [0, 0, 0, -1, 0, 0, 0, 0, 0, 0, 1], [0, 0, 0, 0, -1, 0, 0, 0, 0, 0, 0, 1], [-1, -1, 0, 1, 1, -1, -1, 0, 1, 1, 0, -1], [1, 0, -1, -1, 0, 1, 0, -1, -1, 0, 1, 1], [-1], [0, -1], [0, 0, -1], [0, 0, 0, -1], [0, 0, 0, 0, -1], [0, 0, 0, 0, 0, -1], [0, 0, 0, 0, 0, 0, -1], [0, 0, 0, 0, 0, 0, 0, -1], [0, 0, 0, 0, 0, 0, 0, 0, -1], [0, 0, 0, 0, 0, 0, 0, 0, 0, -1], [0, 0, 0, 0, 0, 0, 0, 0, 0, 0, -1], [0, 0, 0, 0, 0, 0, 0, 0, 0, 0, 0, -1], [1, 1, 0, -1, -1, 0, 1, 0, -1, -1, 0, 1], [-1, 0, 1, 1, 0, -1, -1, 1, 1, 0, -1, -1], [1, 0, 0, 0, 0, 0, 0, -1], [0, 1, 0, 0, 0, 0, 0, 0, -1], [0, 0, 1, 0, 0, 0, 0, 0, 0, -1], [0, 0, 0, 1, 0, 0, 0, 0, 0, 0, -1], [0, 0, 0, 0, 1, 0, 0, 0, 0, 0, 0, -1], [1, 1, 0, -1, -1, 1, 1, 0, -1, -1, 0, 1], [-1, 0, 1, 1, 0, -1, 0, 1, 1, 0, -1, -1]]
theorem tab_42 : Tab 42 12 (fr ph_42) tb_42 := tab_ok (by decide +kernel)
theorem unit_42 : unitB 42 12 ph_42 tb_42 = true := by decide +kernel
theorem dist_42 : distB 42 12 tb_42 = true := by decide +kernel
theorem sum_42 : sumB 42 12 tb_42 = true := by decide +kernel
end Q
end Go.Proofs.YtmbejakmeijcbaaGreat
/- An append keeps what stood: the old array's places too. -/
namespace Go.Proofs.YtmbejakmeijcbaaGreat
open Go.RowKit
def RelR (C : Ctx) (ρ : List Loc) (σ : St) (a : Act) (w : World) : Prop := Sat C.D0 C.w0 C.r ρ σ.bl w ∧ (C.N ≤ a.tmps.size ∧ LocsLe C.ρ0 ρ) ∧ a.defers = [] ∧ ∀ t, VRel (Dof C.D0 ρ σ.bl) w ρ (σ.tm t) (a.tmps.getD t undef)
theorem RelR.put {C : Ctx} {ρ : List Loc} {σ : St} {a : Act} {w : World} (h : RelR C ρ σ a w) {dst : Option Nat} (hd : dstOK C.N dst) {v : V} {x : Value} (hv : VRel (Dof C.D0 ρ σ.bl) w ρ v x) : RelR C ρ (σ.put dst v) (a.put dst x) w := by
 obtain ⟨hs, hN, hdf, hf⟩ := h
 obtain ⟨h1, h2, h3⟩ := frame_put hN.1 hd hf hv
 exact ⟨by rw [St.put_bl]; exact hs, ⟨h1, hN.2⟩, h2.trans hdf, by rw [St.put_bl]; exact h3⟩
theorem append_runK {P : Program} {D0 : Nat → Prop} {w0 : Base} {w : World} {r : Bool} {ρ : List Loc} {bl : List Blk} (h : Sat D0 w0 r ρ bl w) {k : Nat} {l : Loc} {B : Blk} (h1 : ρ[k]? = some l) (h2 : bl[k]? = some B) (h3 : B.st = 0)
  {t ty : TypeId} {i : TypeInfo} {z : Value} (ht : P.underlying t = some (.slice B.t)) (hi : P.info? B.t = some i) (hz : i.zero = some z) (hsz : i.size = B.sz) (hzs : z.cells.size = B.sz) (hzU : r = true → ∀ (x : Nat) (d : Int), z.cells[x]? ≠ some (.int .u32 d))
  {m c : Nat} {A : Option Addr} {news : List Value} (hl : news.length = m * B.sz) (hA : 0 < m → ∃ a, A = some a ∧ ∀ j u, news[j]? = some u → w.cell? (a.add j) = some u) (h1c : ∀ u ∈ news, u.oneCell' = true) (hnU : r = true → ∀ (x : Nat) (d : Int), news[x]? ≠ some (.int .u32 d))
  (hmax : B.n + m ≤ maxLen) (hbytes : (B.n + m) * i.bytes ≤ 140737488355328) {fy : Nat → Nat → Cell} (hfy : ∀ a b, a < m → b < B.sz → ∃ u, news[a * B.sz + b]? = some u ∧ CRel (Dof D0 ρ bl) w ρ (fy a b) u) :
  ∃ w' l', (Builtin.append_ #[t, t] ty #[l.v, .slice A m c]).run P w = .ok l'.v w' ∧ Grown w w' l l' B.t B.sz (B.n + m) (Dof D0 ρ bl) ρ r (appF B.n B.f fy) ∧ (∀ x, x < w.heap.size → l.b ≠ some x → w'.heap[x]? = w.heap[x]?) ∧ w.heap.size ≤ w'.heap.size ∧ w'.os = w.os ∧ w'.tape = w.tape ∧ w'.output = w.output ∧ (l'.b = l.b ∨ ∀ x, x < w.heap.size → w'.heap[x]? = w.heap[x]?) := by
 obtain ⟨q0, q1⟩ := h.at_ k l B h1 h2 (by omega)
 have hm63 : ((B.n + m : Nat) : Int) ≤ 9223372036854775807 := by simp only [maxLen] at hmax; omega
 have zU : r = true → ∀ (n x : Nat) (d : Int), (Builtin.zeroCells z.cells n)[x]? ≠ some (.int .u32 d) := by
  intro hr n x d e
  have hx : x < (Builtin.zeroCells z.cells n).size := (Array.getElem?_eq_some_iff.1 e).1
  rw [size_zeroCells] at hx
  have hp : 0 < z.cells.size := by
   rcases Nat.eq_zero_or_pos z.cells.size with e0 | e0
   ·rw [e0] at hx; simp at hx
   ·exact e0
  have hlt : x % z.cells.size < z.cells.size := Nat.mod_lt _ hp
  simp only [Builtin.zeroCells] at e
  rw [Array.getElem?_map, Array.getElem?_range, if_pos (by simpa using hx)] at e
  simp only [Option.map_some, Option.some.injEq] at e
  rw [getElem!_pos z.cells _ hlt] at e
  exact hzU hr (x % z.cells.size) d (by rw [Array.getElem?_eq_getElem hlt, e])
 rcases q1 with ⟨n0, b0, v0⟩ | ⟨g, cap, cs, gb, gm, gv, gh, gs, gn, gc, gf⟩
 ·rcases Nat.eq_zero_or_pos m with hm | hm
  ·subst hm
   refine ⟨w, ⟨l.u + 1, none, 0, 0⟩, ?_, .inl ⟨by omega, rfl⟩, fun _ _ _ => rfl, Nat.le_refl _, rfl, rfl, rfl, .inr fun _ _ => rfl⟩
   rw [v0]; exact run_append_zero ht hi none 0 0 c A (Nat.le_refl _)
  ·obtain ⟨a, rfl, hnews⟩ := hA hm
   have hr := run_append_nil (P := P) w t ty B.t i z ht hi hz a m c news (by rw [hsz]; exact hl) hnews hm (by omega) (by rw [n0] at hbytes; simp only [Nat.zero_add] at hbytes; omega)
   have hge := grownCap_ge w m 0 B.t
   have hcm : grownCap w m 0 B.t ≤ maxLen := grownCap_le_maxLen w m 0 B.t (by omega)
   refine ⟨_, ⟨l.u + 1, some w.heap.size, m, grownCap w m 0 B.t⟩, by rw [v0]; exact hr, .inr ⟨_, _, _, by rw [n0, Nat.zero_add], .inr (Nat.le_refl _), heap_alloc_new w.drew _, ?_, by omega, hcm, fun x y hx hy => ?_, fun hr' x d e => ?_⟩, fun x hx _ => heap_alloc_old w.drew _ hx, by simp, rfl, rfl, rfl, .inr fun x hx => heap_alloc_old w.drew _ hx⟩
   ·rw [Array.size_append, List.size_toArray, hl, size_zeroCells, hzs, ← Nat.add_mul]; congr 1; omega
   ·rw [n0, Nat.zero_add] at hx
    obtain ⟨u, hu, hur⟩ := hfy x y hx hy
    refine ⟨u, ?_, by unfold appF; rw [n0, if_neg (by omega)]; exact hur⟩
    rw [Array.getElem?_append_left (by rw [List.size_toArray]; exact (List.getElem?_eq_some_iff.1 hu).1)]
    simpa using hu
   ·rcases Nat.lt_or_ge x news.length with hx | hx
    ·rw [Array.getElem?_append_left (by simpa using hx)] at e
     exact hnU hr' x d (by simpa using e)
    ·rw [Array.getElem?_append_right (by simpa using hx)] at e
     exact zU hr' _ _ d e
 ·have hnoU : r = true → ∀ (x : Nat) (d : Int), cs[x]? ≠ some (.int .u32 d) := by
   intro hr x d e
   refine h.noU hr g x d (.inr ⟨k, l, B, h1, h2, h3, gb⟩) ?_
   simp only [World.cell?, gh, Option.isSome_none, Bool.false_eq_true, if_false]
   exact e
  have hsmall : B.n * B.sz ≤ cs.size := by rw [gs]; exact Nat.mul_le_mul_right _ gn
  rcases Nat.eq_zero_or_pos m with hm | hm
  ·subst hm
   refine ⟨w, ⟨l.u + 1, some g, B.n, cap⟩, ?_, .inr ⟨g, cap, cs, rfl, .inl gb, gh, gs, gn, gc, fun x y hx hy => ?_, hnoU⟩, fun _ _ _ => rfl, Nat.le_refl _, rfl, rfl, rfl, .inr fun _ _ => rfl⟩
   ·rw [gv]; exact run_append_zero ht hi _ _ _ c A gn
   ·obtain ⟨u, hu, hur⟩ := gf x y hx hy
    rw [if_pos h3] at hur
    exact ⟨u, hu, by unfold appF; rw [if_pos (show x < B.n by omega)]; exact hur⟩
  ·obtain ⟨a, rfl, hnews⟩ := hA hm
   by_cases hroom : B.n + m ≤ cap
   ·have hfit : B.n * i.size + news.length ≤ cs.size := by rw [hsz, hl, gs, ← Nat.add_mul]; exact Nat.mul_le_mul_right _ hroom
    have hr := run_append_room (P := P) (ty := ty) w t B.t i ht hi g B.n cap cs gh a m c news (by rw [hsz]; exact hl) hnews h1c hroom hfit
    rw [hsz] at hr hfit
    have hget : ∀ x : Nat, (cs.toList.take (B.n * B.sz) ++ news ++ cs.toList.drop (B.n * B.sz + news.length)).toArray[x]? = if x < B.n * B.sz then cs[x]? else if x < B.n * B.sz + news.length then news[x - B.n * B.sz]? else cs[x]? := by
     intro x
     simp only [List.getElem?_toArray, List.append_assoc]
     have htl : (cs.toList.take (B.n * B.sz)).length = B.n * B.sz := by simp; omega
     rcases Nat.lt_or_ge x (B.n * B.sz) with hx | hx
     ·rw [List.getElem?_append_left (by omega), if_pos hx, List.getElem?_take_of_lt hx]; simp
     ·rw [List.getElem?_append_right (by omega), htl, if_neg (by omega)]
      rcases Nat.lt_or_ge (x - B.n * B.sz) news.length with hx2 | hx2
      ·rw [List.getElem?_append_left hx2, if_pos (by omega)]
      ·rw [List.getElem?_append_right hx2, if_neg (by omega), List.getElem?_drop]
       simp
       congr 1
       omega
    refine ⟨_, ⟨l.u + 1, some g, B.n + m, cap⟩, by rw [gv]; exact hr, .inr ⟨g, cap, _, rfl, .inl gb, setRow_heap w g cs _ B.t _ gh, ?_, hroom, gc, fun x y hx hy => ?_, fun hr' x d e => ?_⟩, fun x _ hne => setRow_other w g x _ (fun e => hne (by rw [e]; exact gb)), by simp, rfl, rfl, rfl, .inl gb.symm⟩
    ·simp only [List.size_toArray, List.length_append, List.length_take, List.length_drop, Array.length_toList]
     omega
    ·rw [hget]
     rcases idx_split hx hy with ⟨e1, e2⟩ | ⟨e1, e2, e3, e4, e5⟩
     ·obtain ⟨u, hu, hur⟩ := gf x y e1 hy
      rw [if_pos h3] at hur
      exact ⟨u, by rw [if_pos e2]; exact hu, by unfold appF; rw [if_pos e1]; exact hur⟩
     ·obtain ⟨u, hu, hur⟩ := hfy (x - B.n) y e2 hy
      exact ⟨u, by rw [if_neg (by omega), if_pos (by omega), e4]; exact hu, by unfold appF; rw [if_neg (by omega)]; exact hur⟩
    ·rw [hget] at e
     split at e
     ·exact hnoU hr' x d e
     ·split at e
      ·exact hnU hr' _ d e
      ·exact hnoU hr' x d e
   ·have holds : ∀ j u, (cs.toList.take (B.n * B.sz))[j]? = some u → w.cell? ((⟨g, 0, none⟩ : Addr).add j) = some u := by
     intro j u hj
     have hjl : j < B.n * B.sz := by have := (List.getElem?_eq_some_iff.1 hj).1; simp at this; omega
     rw [List.getElem?_take_of_lt hjl] at hj
     rw [Addr.add_lit, Nat.zero_add]
     simp only [World.cell?, gh, Option.isSome_none, Bool.false_eq_true, if_false]
     simpa using hj
    have hlo : (cs.toList.take (B.n * B.sz)).length = B.n * B.sz := by simp; omega
    have hr := run_append_grow (P := P) (ty := ty) w t B.t i z ht hi hz ⟨g, 0, none⟩ B.n cap _ (by rw [hsz]; exact hlo) holds a m c news (by rw [hsz]; exact hl) hnews (by omega) (by omega) (growslice_fits (by omega) hbytes)
    have hge := grownCap_ge w (B.n + m) cap B.t
    have hcm : grownCap w (B.n + m) cap B.t ≤ maxLen := grownCap_le_maxLen w (B.n + m) cap B.t hmax
    have hget : ∀ x : Nat, x < (B.n + m) * B.sz → ((cs.toList.take (B.n * B.sz)).toArray ++ news.toArray ++ Builtin.zeroCells z.cells (grownCap w (B.n + m) cap B.t - (B.n + m)))[x]? = if x < B.n * B.sz then cs[x]? else news[x - B.n * B.sz]? := by
     intro x hx
     rw [Nat.add_mul] at hx
     rw [Array.getElem?_append_left (by simp; omega)]
     rcases Nat.lt_or_ge x (B.n * B.sz) with hx1 | hx1
     ·rw [Array.getElem?_append_left (by simp; omega), if_pos hx1]
      simp [List.getElem?_take_of_lt hx1]
     ·rw [Array.getElem?_append_right (by simp; omega), if_neg (by omega)]
      simp only [List.size_toArray, hlo, List.getElem?_toArray]
    refine ⟨_, ⟨l.u + 1, some w.heap.size, B.n + m, grownCap w (B.n + m) cap B.t⟩, by rw [gv]; exact hr, .inr ⟨_, _, _, rfl, .inr (Nat.le_refl _), heap_alloc_new w.drew _, ?_, by omega, hcm, fun x y hx hy => ?_, fun hr' x d e => ?_⟩, fun x hx _ => heap_alloc_old w.drew _ hx, by simp, rfl, rfl, rfl, .inr fun x hx => heap_alloc_old w.drew _ hx⟩
    ·rw [Array.size_append, Array.size_append, List.size_toArray, List.size_toArray, hlo, hl, size_zeroCells, hzs, ← Nat.add_mul, ← Nat.add_mul]; congr 1; omega
    ·rw [hget _ (idx_lt hx hy (Nat.le_refl _))]
     rcases idx_split hx hy with ⟨e1, e2⟩ | ⟨e1, e2, e3, e4, e5⟩
     ·obtain ⟨u, hu, hur⟩ := gf x y e1 hy
      rw [if_pos h3] at hur
      exact ⟨u, by rw [if_pos e2]; exact hu, by unfold appF; rw [if_pos e1]; exact hur⟩
     ·obtain ⟨u, hu, hur⟩ := hfy (x - B.n) y e2 hy
      exact ⟨u, by rw [if_neg (by omega), e4]; exact hu, by unfold appF; rw [if_neg (by omega)]; exact hur⟩
    ·rcases Nat.lt_or_ge x ((B.n + m) * B.sz) with hx | hx
     ·rw [hget x hx] at e
      split at e
      ·exact hnoU hr' x d e
      ·exact hnU hr' _ d e
     ·rw [Nat.add_mul] at hx
      rw [Array.getElem?_append_right (by simp; omega)] at e
      exact zU hr' _ _ d e
theorem app_coreK {P : Program} {C : Ctx} {σ : St} {a : Act} {w : World} {ρ : List Loc} (hs : Sat C.D0 C.w0 C.r ρ σ.bl w) (hN : C.N ≤ a.tmps.size ∧ LocsLe C.ρ0 ρ) (hdf : a.defers = []) (hf : ∀ t, VRel (Dof C.D0 ρ σ.bl) w ρ (σ.tm t) (a.tmps.getD t undef))
  {k u m : Nat} {B : Blk} (hB : σ.bl[k]? = some B) (hu : B.u = u) (h0 : B.st = 0) {vx vy : Value} (hvx : CRel (Dof C.D0 ρ σ.bl) w ρ (.gs k u) vx) {y : V} (hvy : VRel (Dof C.D0 ρ σ.bl) w ρ y vy) {fy : Nat → Nat → Cell} (hsrc : srcA σ.bl B.sz k y = some (m, fy))
  {T ty : TypeId} {ti te : TI} (ht : tyOf P T = some ti) (he : ti.elem = some B.t) (hte : tyOf P B.t = some te) (hsz : te.size = B.sz) (hzl : te.zero.length = te.size) (hpos : 0 < te.size) (hzU : C.r = true → te.zero.all Cell.noU = true) (hby : te.bytes ≤ 8388608) (hmax : B.n + m ≤ 16777216)
  (hone : ∀ i j, i < m → j < B.sz → St.one σ.bl (fy i j) = true ∧ (C.r = true → (fy i j).noU = true)) {dst : Option Nat} (hd : dstOK C.N dst) :
  ∃ v' w', (Builtin.append_ #[T, T] ty #[vx, vy]).run P w = .ok v' w' ∧ ∃ (l l' : Loc), ρ[k]? = some l ∧ vx = l.v ∧ v' = l'.v ∧ RelR C (ρ.set k l') (St.put { σ with bl := σ.bl.set k ⟨B.t, B.sz, B.n + m, B.u + 1, 0, appF B.n B.f fy⟩ } dst (.c (.gs k (u + 1)))) (a.put dst v') w' ∧ (∀ x, x < w.heap.size → l.b ≠ some x → w'.heap[x]? = w.heap[x]?) ∧ w.heap.size ≤ w'.heap.size ∧ (l'.b = l.b ∨ ∀ x, x < w.heap.size → w'.heap[x]? = w.heap[x]?) ∧ (∀ x, x < w.heap.size → Dof C.D0 (ρ.set k l') (σ.bl.set k ⟨B.t, B.sz, B.n + m, B.u + 1, 0, appF B.n B.f fy⟩) x → Dof C.D0 ρ σ.bl x) := by
 obtain ⟨l, h1, h2, h3⟩ := hvx
 obtain ⟨g0, _⟩ := hs.at_ k l B h1 hB (by omega)
 have hvl := h3 (by omega)
 obtain ⟨A, c, news, rfl, n1, n2, n3, n4⟩ := src_rel hs (by omega) hvy hsrc
 obtain ⟨d, i, zv, hdd, hi, hz, rfl⟩ := tyOf_spec hte
 obtain ⟨w', l', r1, r2, r3, r4, r5, r6, r7, r8⟩ := append_runK (P := P) (ty := ty) hs h1 hB h0 (under_elem ht he) hi hz hsz (by rw [← hsz, ← hzl]; simp [tiOf]) (fun hr x dd e => by
   have := List.all_eq_true.1 (hzU hr) (cellOf (.int .u32 dd)) (List.mem_map.2 ⟨_, by rw [Array.mem_toList_iff]; exact Array.mem_of_getElem? e, rfl⟩)
   simp [cellOf, Cell.noU] at this) n1 n2 (fun x hx => by
   obtain ⟨j, hj⟩ := List.getElem?_of_mem hx
   obtain ⟨p, q, hp, hq, hr⟩ := n4 j x hj
   exact (one_rel hs (hone p q hp hq).1 hr).1) (fun hr x dd e => by
   obtain ⟨p, q, hp, hq, hrr⟩ := n4 x _ e
   exact noU_rel hs (hone p q hp hq).1 ((hone p q hp hq).2 hr) hrr dd rfl) (by unfold maxLen; omega) (by
   have : (B.n + m) * i.bytes ≤ 16777216 * 8388608 := Nat.mul_le_mul hmax hby
   omega) n3
 obtain ⟨s1, s2, s3, s4⟩ := hs.bump h1 hB h0 r2 r3 r4 r5 r6 r7
 refine ⟨l'.v, w', by rw [hvl]; exact r1, l, l', h1, hvl, rfl, RelR.put (σ := { σ with bl := σ.bl.set k ⟨B.t, B.sz, B.n + m, B.u + 1, 0, appF B.n B.f fy⟩ }) ⟨s1, ⟨hN.1, hN.2.trans s4⟩, hdf, frame_step s2 s3 s4 hf⟩ hd ?_, r3, r4, r8, s3⟩
 have hlu : l'.u = l.u + 1 := by
  rcases r2 with ⟨_, e⟩ | ⟨g, cap', cs', e, _⟩ <;> rw [e]
 exact ⟨l', List.getElem?_set_self (List.getElem?_eq_some_iff.1 h1).1, by omega, fun _ => rfl⟩
def keepC (alias : Bool) (k u sz m : Nat) (f : Nat → Nat → Cell) : Cell := match alias with
 | true => .sl k (u + 1) sz 0 m
 | false => .row sz m f
theorem app_keep {P : Program} {C : Ctx} {σ : St} {a : Act} {w : World} {ρ : List Loc} (hs : Sat C.D0 C.w0 C.r ρ σ.bl w) (hN : C.N ≤ a.tmps.size ∧ LocsLe C.ρ0 ρ) (hdf : a.defers = []) (hf : ∀ t, VRel (Dof C.D0 ρ σ.bl) w ρ (σ.tm t) (a.tmps.getD t undef))
  {k u m : Nat} {B : Blk} (hB : σ.bl[k]? = some B) (hu : B.u = u) (h0 : B.st = 0) {vx vy : Value} (hvx : CRel (Dof C.D0 ρ σ.bl) w ρ (.gs k u) vx) {y : V} (hvy : VRel (Dof C.D0 ρ σ.bl) w ρ y vy) {fy : Nat → Nat → Cell} (hsrc : srcA σ.bl B.sz k y = some (m, fy))
  {T ty : TypeId} {ti te : TI} (ht : tyOf P T = some ti) (he : ti.elem = some B.t) (hte : tyOf P B.t = some te) (hsz : te.size = B.sz) (hzl : te.zero.length = te.size) (hpos : 0 < te.size) (hzU : C.r = true → te.zero.all Cell.noU = true) (hby : te.bytes ≤ 8388608) (hmax : B.n + m ≤ 16777216)
  (hone : ∀ i j, i < m → j < B.sz → St.one σ.bl (fy i j) = true ∧ (C.r = true → (fy i j).noU = true)) {d s c : Nat} (hd : dstOK C.N (some d)) (hds : s ≠ d) (hsl : σ.tm s = .c (.sl k u B.sz 0 c)) (hcl : ∀ i j, i < c → j < B.sz → (B.f i j).clos = true) :
  ∃ v' w' alias, (Builtin.append_ #[T, T] ty #[vx, vy]).run P w = .ok v' w' ∧ Rel C (St.put (St.put { σ with bl := σ.bl.set k ⟨B.t, B.sz, B.n + m, B.u + 1, 0, appF B.n B.f fy⟩ } (some d) (.c (.gs k (u + 1)))) (some s) (.c (keepC alias k u B.sz c B.f))) (a.put (some d) v') w' := by
 obtain ⟨v', w', r1, l, l', h1, e1, e2, ⟨s1, s2, s3, s4⟩, r3, r4, r8, r9⟩ := app_coreK (P := P) (ty := ty) hs hN hdf hf hB hu h0 hvx hvy hsrc ht he hte hsz hzl hpos hzU hby hmax hone (dst := some d) hd
 have hkl : k < ρ.length := (List.getElem?_eq_some_iff.1 h1).1
 have hkb : k < σ.bl.length := (List.getElem?_eq_some_iff.1 hB).1
 obtain ⟨g0, g1⟩ := hs.at_ k l B h1 hB (by omega)
 -- what the slot holds
 have hv := hf s
 rw [hsl] at hv
 obtain ⟨l1, q1, q2, q3⟩ := hv
 rw [h1] at q1
 cases q1
 obtain ⟨q4, A, cp, q5, q6, q7⟩ := q3 (by omega)
 have hln : l.n = B.n := loc_n hs h1 hB (by omega)
 -- the block behind the append
 have hat' : (ρ.set k l')[k]? = some l' := List.getElem?_set_self hkl
 have hbl' : (σ.bl.set k ⟨B.t, B.sz, B.n + m, B.u + 1, 0, appF B.n B.f fy⟩)[k]? = some ⟨B.t, B.sz, B.n + m, B.u + 1, 0, appF B.n B.f fy⟩ := List.getElem?_set_self hkb
 have hput : ∀ (τ : St) (v : V), (St.put τ (some d) v).bl = τ.bl := fun τ v => St.put_bl τ (some d) v
 rw [hput] at s1 s4
 obtain ⟨g2, g3⟩ := s1.at_ k l' _ hat' hbl' (Nat.zero_le 1)
 have hln' : l'.n = B.n + m := loc_n s1 hat' hbl' (Nat.zero_le 1)
 have hval : (a.put (some d) v').tmps.getD s undef = a.tmps.getD s undef := by
  show (a.tmps.setIfInBounds d v').getD s undef = _
  rw [Array.getD_eq_getD_getElem?, Array.getD_eq_getD_getElem?, Array.getElem?_setIfInBounds_ne (fun e => hds e.symm)]
 have fin : ∀ alias : Bool, CRel (Dof C.D0 (ρ.set k l') (σ.bl.set k ⟨B.t, B.sz, B.n + m, B.u + 1, 0, appF B.n B.f fy⟩)) w' (ρ.set k l') (keepC alias k u B.sz c B.f) (a.tmps.getD s undef) → Rel C (St.put (St.put { σ with bl := σ.bl.set k ⟨B.t, B.sz, B.n + m, B.u + 1, 0, appF B.n B.f fy⟩ } (some d) (.c (.gs k (u + 1)))) (some s) (.c (keepC alias k u B.sz c B.f))) (a.put (some d) v') w' := fun alias hk => by
  refine ⟨ρ.set k l', by rw [St.put_bl, hput]; exact s1, s2, s3, fun t => ?_⟩
  rw [St.put_bl, hput]
  show VRel _ _ _ (upd _ s _ t) _
  unfold upd
  by_cases e : t = s
  ·rw [if_pos e, e, hval]
   exact hk
  ·rw [if_neg e]
   exact s4 t
 rcases r8 with r8 | r8
 ·refine ⟨v', w', true, r1, fin true ⟨l', hat', ?_, fun _ => ⟨by omega, A, cp, q5, q6, fun hn => ?_⟩⟩⟩
  ·show u + 1 ≤ l'.u
   rw [g2]
   show u + 1 ≤ B.u + 1
   omega
  ·obtain ⟨b, b1, b2⟩ := q7 hn
   exact ⟨b, by rw [r8]; exact b1, b2⟩
 ·by_cases hal : l'.b = l.b
  ·refine ⟨v', w', true, r1, fin true ⟨l', hat', ?_, fun _ => ⟨by omega, A, cp, q5, q6, fun hn => ?_⟩⟩⟩
   ·show u + 1 ≤ l'.u
    rw [g2]
    show u + 1 ≤ B.u + 1
    omega
   ·obtain ⟨b, b1, b2⟩ := q7 hn
    exact ⟨b, by rw [hal]; exact b1, b2⟩
  ·refine ⟨v', w', false, r1, fin false ⟨A, cp, q5, q6, fun hn => ?_⟩⟩
   obtain ⟨b, b1, b2⟩ := q7 hn
   have hlt : b < w.heap.size := hs.lt (.inr ⟨k, l, B, h1, hB, h0, b1⟩)
   refine ⟨b, 0 * B.sz, b2, Nat.lt_of_lt_of_le hlt r4, ?_, fun i j hi hj => ?_⟩
   ·rintro (hx | ⟨k2, l2, B2, t1, t2, t3, t4⟩)
    ·have t5 := hs.own h1 hB (by omega) b1
     have t6 := hs.d0 b hx
     rcases t5 with t5 | t5
     ·have t5 : C.w0.heap.size ≤ b := t5
      have := t6.1
      omega
     ·exact t6.2 t5
    ·by_cases e : k2 = k
     ·subst e
      rw [hat'] at t1
      cases t1
      exact hal (by rw [t4, b1])
     ·rw [List.getElem?_set_ne (fun h => e h.symm)] at t1 t2
      exact e (hs.dist k2 k l2 l B2 B b t1 h1 t2 hB (by omega) (by omega) t4 b1)
   ·rcases g1 with ⟨g4, _, _⟩ | ⟨b', cap, cs, g4, g5, g6, g7, g8, g9, g10, g11⟩
    ·omega
    ·rw [g4] at b1
     cases b1
     obtain ⟨x, hx, hxr⟩ := g11 i j (by omega) hj
     rw [if_pos h0] at hxr
     refine ⟨x, ?_, (hxr.clos (ρ' := []) (hcl i j hi hj)).step ⟨r4, fun y hy _ => r8 y hy⟩ (fun y hy hD => ?_) (LocsLe.refl _)⟩
     ·rw [Nat.zero_mul, Nat.zero_add]
      simp only [World.cell?, r8 b hlt, g7]
      simpa using hx
     ·exact r9 y hy hD
end Go.Proofs.YtmbejakmeijcbaaGreat
/- A region with an append, a slot that holds a part of the list remembered. -/
namespace Go.Proofs.YtmbejakmeijcbaaGreat
open Go.RowKit
theorem aops_app {E : Env} (hE : EnvOK E) {C : Ctx} (hC : C.r = E.r) {ops : Array Oper} {Q : Exit → Act → World → Prop} {K : St → Prop} {l2 : List Oper} (hQ : ∀ σ a w, K σ → Rel C σ a w → wpList E.P ops Q l2 a w) :
  ∀ (l : List Oper) (σ : St) (a : Act) (w : World), (∀ o ∈ l, dstOK C.N o.dst) → aops E ops l σ K → Rel C σ a w → wpList E.P ops Q (l ++ l2) a w
 | [], σ, a, w, _, h, hr => hQ σ a w h hr
 | o :: rest, σ, a, w, hd, h, hr => by
  have ih := fun σ a w => aops_app (ops := ops) hE hC hQ rest σ a w (fun o ho => hd o (by simp [ho]))
  rw [List.cons_append]
  unfold wpList
  simp only [aops] at h
  split at h
  ·rename_i hg
   rw [if_pos (by simp [Region.wanted, hg])]
   exact .inl (aop_sound hE hC h (hd o (by simp)) hr fun σ' a' w' hk hrel => ih σ' a' w' hk hrel)
  ·rename_i g want hg
   split at h
   ·rename_i d b hgv
    have h := cs_iff.1 h
    rw [gw_true, gw_false] at h
    obtain ⟨hy, hv, hlt, htm⟩ := guard_val (a := a) (w := w) hgv (by obtain ⟨ρ, hs, hN, hdf, hf⟩ := hr; exact fun d _ => ⟨_, ρ, hf d⟩)
    have hwt : Region.wanted o (yielded ops a.tmps) = (b == want) := by
     unfold Region.wanted
     rw [hg]
     simp only [hy]
     rfl
    rw [hwt]
    by_cases e : b = want
    ·rw [if_pos (by simp [e])]
     refine .inl (aop_sound hE hC (h.1 e) (hd o (by simp)) (put_same hr fun D ρ => ?_) fun σ' a' w' hk hrel => ih σ' a' w' hk hrel)
     rw [hv, e]; rfl
    ·have e' : b = !want := by cases b <;> cases want <;> simp_all
     rw [if_neg (by simpa using e)]
     have h2 : Rel C (σ.put (some d) (.c (.bool !want))) a w := put_same hr fun D ρ => by rw [hv, e']; rfl
     obtain ⟨ρ, hs, hN, hdf, hf⟩ := h2
     exact ih _ _ _ (h.2 e') (Rel.put hs hN hdf hf (hd o (by simp)) trivial)
   ·exact h.elim
structure AppK (E : Env) (o : Oper) (s : Nat) (σ : St) (k u c m d : Nat) (B : Blk) (fy : Nat → Nat → Cell) : Prop where
 op : ∃ (x y : Operand) (T : TypeId) (ti te : TI), o.op = .call { callee := .builtin .append, args := #[x, y], argTypes := #[T, T] } ∧ E.ty T = some ti ∧ ti.elem = some B.t ∧ E.ty B.t = some te ∧ σ.ev x = .c (.gs k u) ∧ srcA σ.bl B.sz k (σ.ev y) = some (m, fy) ∧ te.size = B.sz ∧ te.zero.length = te.size ∧ 0 < te.size ∧ (E.r = true → te.zero.all Cell.noU = true) ∧ te.bytes ≤ 8388608
 guard : o.guard = none
 dst : o.dst = some d
 ne : s ≠ d
 bl : σ.bl[k]? = some B
 ver : B.u = u
 live : B.st = 0
 max : B.n + m ≤ 16777216
 one : ∀ i j, i < m → j < B.sz → St.one σ.bl (fy i j) = true ∧ (E.r = true → (fy i j).noU = true)
 part : σ.tm s = .c (.sl k u B.sz 0 c)
 clos : ∀ i j, i < c → j < B.sz → (B.f i j).clos = true
def appSt (σ : St) (s k u c m d : Nat) (B : Blk) (fy : Nat → Nat → Cell) (alias : Bool) : St := St.put (St.put { σ with bl := σ.bl.set k ⟨B.t, B.sz, B.n + m, B.u + 1, 0, appF B.n B.f fy⟩ } (some d) (.c (.gs k (u + 1)))) (some s) (.c (keepC alias k u B.sz c B.f))
theorem appK_sound {E : Env} (hE : EnvOK E) {C : Ctx} (hC : C.r = E.r) {o : Oper} {σ : St} {a : Act} {w : World} {s k u c m d : Nat} {B : Blk} {fy : Nat → Nat → Cell} (h : AppK E o s σ k u c m d B fy) (hd : dstOK C.N o.dst) (hr : Rel C σ a w) {next : Act → World → Prop} {Q : Exit → Act → World → Prop}
  (hn : ∀ alias a' w', Rel C (appSt σ s k u c m d B fy alias) a' w' → next a' w') : o.wp E.P a w next Q := by
 obtain ⟨x, y, T, ti, te, hx, t1, t2, t3, t4, t5, t6, t7, t8, t9, t10⟩ := h.op
 obtain ⟨ρ, hs, hN, hdf, hf⟩ := hr
 have hvx := ev_rel hf x
 rw [t4] at hvx
 have hti := hE.ty _ _ t1
 obtain ⟨v', w', al, p1, p2⟩ := app_keep (P := E.P) (ty := o.type) hs hN hdf hf h.bl h.ver h.live hvx (ev_rel hf y) t5 hti t2 (hE.ty _ _ t3) t6 t7 t8 (fun hr => t9 (by rw [← hC]; exact hr)) t10 h.max (fun i j hi hj => ⟨(h.one i j hi hj).1, fun hr => (h.one i j hi hj).2 (by rw [← hC]; exact hr)⟩) (by rw [← h.dst]; exact hd) h.ne h.part h.clos
 unfold Oper.wp execOp
 simp only [hx, resolve, invoke, builtin, Sem.run_bind, Sem.run_pure, Result.andThen_ok, List.map_toArray, List.map_cons, List.map_nil, p1]
 show next (a.put o.dst v') w'
 rw [h.dst]
 exact hn al _ _ p2
theorem swp_keep {E : Env} (hE : EnvOK E) {N id : Nat} {ops : Array Oper} {pre post : List Oper} {o : Oper} {s : Nat} (hl : ops.toList = pre ++ o :: post) (hdst : (ops.toList.all (dstB N)) = true) {σ : St} {R : Exit → St → Prop}
  (h : aops E ops pre σ fun τ => ∃ k u c m d B fy, AppK E o s τ k u c m d B fy ∧ ∀ alias, aops E ops post (appSt τ s k u c m d B fy alias) (R .normal)) : Swp E N (.region id ops false) σ R := by
 refine ⟨fun C a w h1 h2 h3 hr => ?_⟩
 have hdo : ∀ o' ∈ ops.toList, dstOK C.N o'.dst := by
  intro o' ho d hd'
  have := List.all_eq_true.1 hdst o' ho
  unfold dstB at this
  rw [hd'] at this
  rw [h3]
  simpa using this
 refine wp_region_list ?_
 rw [hl] at hdo ⊢
 refine aops_app hE h1 (fun τ a w hk hrel => ?_) pre σ a w (fun o' ho => hdo o' (by simp [ho])) h hr
 obtain ⟨k, u, c, m, d, B, fy, hK, hrest⟩ := hk
 unfold wpList
 rw [if_pos (by simp [Region.wanted, hK.guard])]
 refine .inl (appK_sound hE h1 hK (hdo o (by simp)) hrel fun al a' w' hrel' => ?_)
 exact aops_sound hE h1 (fun σ a w hk hrel => ⟨σ, hrel, hk⟩) post _ a' w' (fun o' ho => hdo o' (by simp [ho])) (hrest al) hrel'
end Go.Proofs.YtmbejakmeijcbaaGreat
/- Blocks told anew in place, the first of them kept as it lies. -/
namespace Go.Proofs.YtmbejakmeijcbaaGreat
open Go.RowKit
theorem genE {tm : Nat → V} {bl : List Blk} {tl : List (Nat × V)} {xs : List Gx} (pre : List Blk) (hpre : bl.take pre.length = pre) (hst2 : pre.all (fun B => Nat.ble 2 B.st) = true) (ks : List (Option Nat)) (hi : injK ks = true) (hb : srcsG pre.length bl ks ks xs) (hl : allP tl fun p => regV pre.length bl ks (tm p.1) p.2) {C : Ctx} {a : Act} {w : World} {ρ : List Loc} (hs : Sat C.D0 C.w0 C.r ρ bl w) (hf : ∀ t, VRel (Dof C.D0 ρ bl) w ρ (tm t) (a.tmps.getD t undef)) :
  Sat C.D0 C.w0 C.r (ρ.take pre.length ++ ks.map (locK ρ)) (pre ++ xs.map gb) w ∧ ∀ t, VRel (Dof C.D0 (ρ.take pre.length ++ ks.map (locK ρ)) (pre ++ xs.map gb)) w (ρ.take pre.length ++ ks.map (locK ρ)) (asg tl t) (a.tmps.getD t undef) := by
 obtain ⟨hlen, hget⟩ := srcsG_get hb
 have hlb : bl.length = ρ.length := hs.len.symm
 have hq : pre.length ≤ ρ.length := by
  have := congrArg List.length hpre
  rw [List.length_take] at this
  omega
 have hql : (ρ.take pre.length).length = pre.length := by rw [List.length_take]; omega
 have get : ∀ (j : Nat) (l : Loc) (B : Blk), (ρ.take pre.length ++ ks.map (locK ρ))[j]? = some l → (pre ++ xs.map gb)[j]? = some B → 2 ≤ B.st ∨ pre.length ≤ j ∧ ((∃ (k : Nat) (lk : Loc) (Bk : Blk), ks[j - pre.length]? = some (some k) ∧ ρ[k]? = some lk ∧ bl[k]? = some Bk ∧ l = { lk with u := 0 } ∧ B.t = Bk.t ∧ B.sz = Bk.sz ∧ B.n = Bk.n ∧ Bk.st = 0 ∧ B.st = 0 ∧ B.u = 0 ∧ ∀ i j, i < B.n → j < B.sz → regC pre.length bl ks (B.f i j) fun y => Bk.f i j = y) ∨ (l = ⟨0, none, 0, 0⟩ ∧ B.n = 0 ∧ B.u = 0)) := by
  intro j l B e1 e2
  rcases Nat.lt_or_ge j pre.length with hj | hj
  ·left
   rw [List.getElem?_append_left hj] at e2
   exact Nat.le_of_ble_eq_true (List.all_eq_true.1 hst2 B (List.mem_of_getElem? e2))
  right
  refine ⟨hj, ?_⟩
  rw [List.getElem?_append_right (by omega), hql, List.getElem?_map] at e1
  rw [List.getElem?_append_right hj, List.getElem?_map] at e2
  cases hx : xs[j - pre.length]? with
  | none => rw [hx] at e2; cases e2
  | some x =>
   rw [hx] at e2
   simp at e2
   obtain ⟨k, hk, hsrc⟩ := hget _ x hx
   rw [hk] at e1
   simp at e1
   subst e1 e2
   cases k with
   | none => exact .inr ⟨rfl, hsrc, rfl⟩
   | some k =>
    obtain ⟨Bk, q1, q2, q3, q4, q5, q6⟩ := hsrc
    have hkl : k < ρ.length := by rw [hs.len]; exact (List.getElem?_eq_some_iff.1 q1).1
    refine .inl ⟨k, ρ[k], Bk, hk, List.getElem?_eq_getElem hkl, q1, ?_, q2.symm, q3.symm, q4.symm, q5, rfl, rfl, q6⟩
    simp [locK, List.getD, List.getElem?_eq_getElem hkl]
 have hD : ∀ b, Dof C.D0 (ρ.take pre.length ++ ks.map (locK ρ)) (pre ++ xs.map gb) b → Dof C.D0 ρ bl b := by
  rintro b (hx | ⟨j, l, B, e1, e2, e3, e4⟩)
  ·exact .inl hx
  ·rcases get j l B e1 e2 with q0 | ⟨_, ⟨k, lk, Bk, q1, q2, q3, q4, q5, q6, q7, q8, q9, q10⟩ | ⟨q1, q2⟩⟩
   ·omega
   ·subst q4
    exact .inr ⟨k, lk, Bk, q2, q3, q8, e4⟩
   ·subst q1; cases e4
 have at_j : ∀ j k, pre.length.ble j = true → ks[j - pre.length]? = some k → (ρ.take pre.length ++ ks.map (locK ρ))[j]? = some (locK ρ k) := fun j k h1 h2 => by
  have := Nat.le_of_ble_eq_true h1
  rw [List.getElem?_append_right (by omega), hql, List.getElem?_map, h2]; rfl
 have out : ∀ (k : Nat) (l : Loc) (B : Blk) (b : Nat), ρ[k]? = some l → bl[k]? = some B → B.st ≤ 1 → l.b = some b → pre.length.ble k = true → (ks.any fun x => x == some k) = false → ¬ Dof C.D0 (ρ.take pre.length ++ ks.map (locK ρ)) (pre ++ xs.map gb) b := by
  rintro k l B b p1 p2 p3 p4 p5 p6 (hx | ⟨j, l', B', e1, e2, e3, e4⟩)
  ·have h1 := hs.own p1 p2 p3 p4
   have h2 := hs.d0 b hx
   rcases h1 with h1 | h1
   ·have := h2.1
    have h3 : C.w0.heap.size ≤ b := h1
    omega
   ·exact h2.2 h1
  ·rcases get j l' B' e1 e2 with q0 | ⟨_, ⟨k', lk, Bk, q1, q2, q3, q4, q5, q6, q7, q8, q9, q10⟩ | ⟨q1, q2⟩⟩
   ·omega
   ·subst q4
    have := hs.dist k k' l lk B Bk b p1 q2 p2 q3 p3 (by omega) p4 e4
    subst this
    have := List.any_eq_false.1 p6 (some k) (List.mem_of_getElem? q1)
    simp at this
   ·subst q1; cases e4
 refine ⟨⟨hs.below, hs.d0, by rw [List.length_append, hql]; simp [hlen], fun j l B e1 e2 hst => ?_, fun i j li lj Bi Bj b e1 e2 e3 e4 e5 e6 e7 e8 => ?_, fun hr b o d hb => hs.noU hr b o d (hD b hb)⟩, fun t => ?_⟩
 ·rcases get j l B e1 e2 with q0 | ⟨_, ⟨k, lk, Bk, q1, q2, q3, q4, q5, q6, q7, q8, q9, q10, q11⟩ | ⟨q1, q2, q3⟩⟩
  ·omega
  ·subst q4
   refine ⟨q10.symm, ?_⟩
   rcases (hs.at_ k lk Bk q2 q3 (by omega)).2 with ⟨g1, g2, g3⟩ | ⟨b, cap, cs, g2, g3, g4, g5, g6, g7, g8, g9⟩
   ·exact .inl ⟨q7.trans g1, g2, g3⟩
   ·refine .inr ⟨b, cap, cs, g2, g3, by rw [q7]; exact g4, by rw [q5]; exact g5, by rw [q6]; exact g6, by rw [q7]; exact g7, g8, fun x y hx hy => ?_⟩
    obtain ⟨u, hu, hur⟩ := g9 x y (by omega) (by omega)
    refine ⟨u, by rw [q6]; exact hu, ?_⟩
    rw [if_pos q8] at hur
    rw [if_pos q9]
    exact regC_rel hs hD at_j out (q11 x y hx hy) fun z hz => by subst hz; exact hur
  ·subst q1
   exact ⟨q3.symm, .inl ⟨q2, rfl, rfl⟩⟩
 ·rcases get i li Bi e1 e3 with q0 | ⟨hi1, ⟨k, lk, Bk, q1, q2, q3, q4, q5, q6, q7, q8, q9, q10⟩ | ⟨q1, q2⟩⟩
  ·omega
  ·rcases get j lj Bj e2 e4 with p0 | ⟨hj1, ⟨k', lk', Bk', p1, p2, p3, p4, p5, p6, p7, p8, p9, p10⟩ | ⟨p1, p2⟩⟩
   ·omega
   ·subst q4 p4
    have := hs.dist k k' lk lk' Bk Bk' b q2 p2 q3 p3 (by omega) (by omega) e7 e8
    subst this
    have := injK_eq hi q1 p1
    omega
   ·subst p1; cases e8
  ·subst q1; cases e7
 ·rcases asg_mem tl t with e | e
  ·show VRel _ _ _ (asg tl t) _
   rw [e]; trivial
  ·have e1 := allP_mem hl _ e
   have e2 : VRel (Dof C.D0 ρ bl) w ρ (tm t) (a.tmps.getD t undef) := hf t
   show VRel _ _ _ (asg tl t) _
   generalize asg tl t = y at e1 ⊢
   have e1 : regV pre.length bl ks (tm t) y := e1
   have fin : ∀ y : V, tm t = y ∧ y.clos = true → VRel (Dof C.D0 (ρ.take pre.length ++ ks.map (locK ρ)) (pre ++ xs.map gb)) w (ρ.take pre.length ++ ks.map (locK ρ)) y (a.tmps.getD t undef) := fun y h => by
    rw [h.1] at e2
    exact (e2.clos h.2).step (Ext.refl _ _) (fun b _ hb => hD b hb) (LocsLe.refl _)
   match y, e1 with
   | .c y, e1 =>
    exact regC_rel hs hD at_j out e1 fun x hx => by
     have hx : tm t = .c x := hx
     rw [hx] at e2
     exact e2
   | .g l, e1 =>
    rcases e1 with ⟨h1, h2⟩ | ⟨l', h1, h2⟩
    ·exact fin _ ⟨h1, h2⟩
    ·rw [h1] at e2
     obtain ⟨vs, h3, h4⟩ := e2
     exact ⟨vs, h3, regL_rel hs hD at_j out h2 h4⟩
   | .t2 .., e1 => exact fin _ e1
   | .t3 .., e1 => exact fin _ e1
   | .t4 .., e1 => exact fin _ e1
theorem Weak.gen2 {tm : Nat → V} {bl : List Blk} {tl : List (Nat × V)} {xs : List Gx} (ks : List (Option Nat)) (h0 : ∃ B, bl[0]? = some B ∧ B.u = 0 ∧ B.st = 0) (hi : injK (some 0 :: ks) = true) (hb : srcsG 0 bl (some 0 :: ks) (some 0 :: ks) xs) (hl : allP tl fun p => regV 0 bl (some 0 :: ks) (tm p.1) p.2) : Weak 1 ⟨tm, bl⟩ (gst tl xs) := by
 rintro C a w hm0 ⟨ρ, hs, hN, hdf, hf⟩
 obtain ⟨g1, g2⟩ := genE [] rfl rfl (some 0 :: ks) hi hb hl hs hf
 refine ⟨_, g1, ⟨hN.1, fun k l h => ?_⟩, hdf, g2⟩
 obtain ⟨l', h1, h2⟩ := hN.2 k l h
 have hk : k < 1 := Nat.lt_of_lt_of_le (List.getElem?_eq_some_iff.1 h).1 hm0
 obtain rfl := Nat.lt_one_iff.1 hk
 obtain ⟨B, a3, a4, a5⟩ := h0
 have e1 := (hs.at_ 0 l' B h1 a3 (by omega)).1
 refine ⟨l', ?_, h2⟩
 show some (locK ρ (some 0)) = some l'
 simp only [locK, List.getD, h1, Option.getD_some]
 rw [a4] at e1
 rw [← e1]
end Go.Proofs.YtmbejakmeijcbaaGreat
/- The closure of arith.Divisors: a list of numbers, longer by its multiples. -/
namespace Go.Proofs.YtmbejakmeijcbaaGreat
open Go.RowKit
theorem Swp.weak {E : Env} {N : Nat} {c : Code} {σ σ2 : St} {R : Exit → St → Prop} (hw : Weak E.m0 σ σ2) (h : Swp E N c σ2 R) : Swp E N c σ R := ⟨fun C a w h1 h2 h3 hr => h.run C a w h1 h2 h3 (hw C a w h2 hr)⟩
namespace Dv
def F (n : Nat) (f : Nat → Int) (p : Int) (i : Nat) : Int := f (i % n) * p ^ (i / n)
theorem F_low {n i : Nat} {f : Nat → Int} {p : Int} (h : i < n) : F n f p i = f i := by
 unfold F
 rw [Nat.mod_eq_of_lt h, Nat.div_eq_of_lt h, Int.pow_zero, Int.mul_one]
theorem F_next {n t q : Nat} {f : Nat → Int} {p : Int} (h : t < n) : F n f p (n * (q + 1) + t) = F n f p t * p ^ (q + 1) := by
 rw [F_low h]
 unfold F
 rw [Nat.mul_add_mod, Nat.mod_eq_of_lt h, Nat.mul_add_div (by omega), Nat.div_eq_of_lt h, Nat.add_zero]
abbrev gI (n : Nat) (g : Nat → Int) : Gx := ⟨3, 1, n, fun i _ => .int .i64 (g i)⟩
abbrev gBox : Gx := ⟨86, 1, 1, fun _ _ => .gs 1 0⟩
abbrev kC (n : Nat) (g : Nat → Int) (al : Bool) : Cell := match al with
 | true => .sl 1 0 1 0 n
 | false => .row 1 n fun i _ => .int .i64 (g i)
abbrev sO (n : Nat) (g : Nat → Int) (p e : Int) (q : Nat) : St := gst [(0, .c (.int .i64 p)), (1, .c (.int .i64 (e - q))), (2, .c (.p 0 0 1 0 0)), (5, .c (.int .i64 n)), (6, .c (.int .i64 (p ^ (q + 1))))] [gBox, gI (n * (q + 1)) g]
abbrev sI (n : Nat) (g : Nat → Int) (p e : Int) (q t : Nat) (al : Bool) : St := gst [(0, .c (.int .i64 p)), (1, .c (.int .i64 (e - q))), (2, .c (.p 0 0 1 0 0)), (5, .c (.int .i64 n)), (6, .c (.int .i64 (p ^ (q + 1)))), (21, .c (kC n g al)), (22, .c (.int .i64 n)), (23, .c (.int .i64 t))] [gBox, gI (n * (q + 1) + t) g]
abbrev sJ (n : Nat) (g : Nat → Int) (p e : Int) (q t : Nat) (al : Bool) : St := gst [(0, .c (.int .i64 p)), (1, .c (.int .i64 (e - q))), (2, .c (.p 0 0 1 0 0)), (5, .c (.int .i64 n)), (6, .c (.int .i64 (p ^ (q + 1)))), (8, .c (.int .i64 (g t))), (21, .c (kC n g al)), (22, .c (.int .i64 n)), (23, .c (.int .i64 t))] [gBox, gI (n * (q + 1) + t) g]
abbrev sK (n : Nat) (g : Nat → Int) (p e : Int) (q t : Nat) (al : Bool) : St := gst [(0, .c (.int .i64 p)), (1, .c (.int .i64 (e - q))), (2, .c (.p 0 0 1 0 0)), (5, .c (.int .i64 n)), (6, .c (.int .i64 (p ^ (q + 1)))), (21, .c (kC n g al)), (22, .c (.int .i64 n)), (23, .c (.int .i64 t))] [gBox, gI (n * (q + 1) + (t + 1)) g]
theorem app_int {n q t : Nat} {g : Nat → Int} {x : Int} (hx : x = g (n * (q + 1) + t)) (i j : Nat) (hi : i < n * (q + 1) + (t + 1)) (hj : j < 1) : appF (n * (q + 1) + t) (fun i _ => .int .i64 (g i)) (rowF 1 [.int .i64 x]) i j = .int .i64 (g i) := by
 obtain rfl := Nat.lt_one_iff.1 hj
 unfold appF
 split
 ·rfl
 ·rename_i c
  have e : i = n * (q + 1) + t := by omega
  rw [e, Nat.sub_self, hx]
  rfl
theorem one1 {bl : List Blk} {x : Int} (i j : Nat) (hi : i < 1) (hj : j < 1) : St.one bl (rowF 1 [.int .i64 x] i j) = true ∧ (E0m.r = true → (rowF 1 [Cell.int .i64 x] i j).noU = true) := by
 obtain rfl := Nat.lt_one_iff.1 hi
 obtain rfl := Nat.lt_one_iff.1 hj
 exact ⟨rfl, fun _ => rfl⟩
theorem upd1 {f : Nat → Nat → Cell} {x : Cell} {i j : Nat} (hi : i < 1) (hj : j < 1) : updF f 0 0 [x] i j = x := by
 obtain rfl := Nat.lt_one_iff.1 hi
 obtain rfl := Nat.lt_one_iff.1 hj
 rfl
structure Bds (n : Nat) (f : Nat → Int) (p e : Int) : Prop where
 pos : 1 ≤ n
 low : n ≤ 1000
 e0 : 0 ≤ e
 e1 : e ≤ 1000
 num : ∀ i q : Nat, i < n → (q : Int) < e → inR .i64 (F n f p i * p ^ (q + 1))
 pow : ∀ q : Nat, (q : Int) < e → inR .i64 (p ^ (q + 1) * p)
set_option maxHeartbeats 4000000 in
theorem div_swp {n : Nat} {f : Nat → Int} {p e : Int} (hb : Bds n f p e) (c : Code) (hc : Tryz.f96.body = some c) :
  Swp E0m 34 c (gst [(0, .c (.int .i64 p)), (1, .c (.int .i64 e)), (2, .c (.p 0 0 1 0 0))] [gBox, gI n (F n f p)]) fun x σ => (x = .normal ∨ x = .ret) ∧ Weak 1 σ (gst [] [gBox, gI (n * (e.toNat + 1)) (F n f p)]) := by
 obtain rfl := Option.some.inj hc.symm
 obtain ⟨h1, h2, h3, h4, h5, h6⟩ := hb
 have hF : ∀ q t : Nat, t < n → F n f p t * p ^ (q + 1) = F n f p (n * (q + 1) + t) := fun q t ht => (F_next ht).symm
 generalize F n f p = g at *
 have hN : ∀ q : Nat, (q : Int) ≤ e → n * (q + 1) ≤ 1001000 := fun q hq => Nat.le_trans (Nat.mul_le_mul h2 (show q + 1 ≤ 1001 by omega)) (by decide)
 have p1 : p = p ^ (0 + 1) := by rw [Nat.zero_add, Int.pow_succ, Int.pow_zero, Int.one_mul]
 have n1 : n = n * (0 + 1) := by rw [Nat.zero_add, Nat.mul_one]
 refine swp_seq0 E0m_ok mixed (by kernel_rfl) ?_
 conv => whnf
 refine swp_seq0 E0m_ok mixed (by kernel_rfl) ?_
 conv => whnf
 refine swp_block ?_
 refine swp_loop (fun q : Nat => sO n g p e q) (fun q => e.toNat - q) (fun q => (q : Int) ≤ e) 0 ?_ (by omega) fun q hq => ?_
 ·exact Weak.gen2 [some 1] ⟨_, rfl, rfl, rfl⟩ rfl ⟨⟨_, rfl, rfl, rfl, rfl, rfl, fun i j hi hj => ⟨_, rfl, rfl, rfl⟩⟩, ⟨_, rfl, rfl, rfl, n1, rfl, fun i j hi hj => regE rfl rfl⟩, trivial⟩ ⟨⟨_, rfl, rfl⟩, ⟨_, rfl, by show e = e - ((0 : Nat) : Int); omega⟩, ⟨_, rfl, rfl, rfl⟩, ⟨_, rfl, rfl⟩, ⟨_, rfl, p1⟩, trivial⟩
 have hN := hN q hq
 have hF := hF q
 have h5 := fun i a b => h5 i q a b
 have h6 := h6 q
 refine swp_seq0 E0m_ok mixed (by kernel_rfl) ?_
 conv => whnf
 refine bcase (fun (h : decide ((0 : Int) < e - (q : Int)) = true) => ?_) fun (h : decide ((0 : Int) < e - (q : Int)) = false) => ?_
 ·have h := of_decide_eq_true h
  have h6 := h6 (by omega)
  have hn1 : n ≤ n * (q + 1) := Nat.le_mul_of_pos_right n (by omega)
  have hn2 : (n : Int) ≤ ((n * (q + 1) : Nat) : Int) := by exact_mod_cast hn1
  conv => whnf
  refine swp_seqS (swp_block ?_)
  refine swp_seq E0m_ok mixed (by kernel_rfl) ?_
  conv => whnf
  refine ⟨by omega, by omega, ?_⟩
  conv => whnf
  refine ⟨hn2, ?_⟩
  conv => whnf
  refine ⟨sI n g p e q 0 true, Weak.gen2 [some 1] ⟨_, rfl, rfl, rfl⟩ rfl ⟨⟨_, rfl, rfl, rfl, rfl, rfl, fun i j hi hj => ⟨_, rfl, rfl, rfl⟩⟩, ⟨_, rfl, rfl, rfl, rfl, rfl, fun i j hi hj => regE rfl rfl⟩, trivial⟩ ⟨⟨_, rfl, rfl⟩, ⟨_, rfl, rfl⟩, ⟨_, rfl, rfl, rfl⟩, ⟨_, rfl, rfl⟩, ⟨_, rfl, rfl⟩, ⟨_, _, rfl, rfl, rfl, by omega⟩, ⟨_, rfl, by omega⟩, ⟨_, rfl, rfl⟩, trivial⟩, ?_⟩
  refine swp_block ?_
  refine swp_loop (fun x : Nat × Bool => sI n g p e q x.1 x.2) (fun x => n - x.1) (fun x => x.1 ≤ n) (0, true) (Weak.refl _) (Nat.zero_le _) ?_
  rintro ⟨t, al⟩ ht
  have ht : t ≤ n := ht
  have hF := hF t
  have h5 := h5 t
  refine swp_seq0 E0m_ok mixed (by kernel_rfl) ?_
  conv => whnf
  refine swp_seq0 E0m_ok mixed (by kernel_rfl) ?_
  conv => whnf
  refine bcase (fun (k : decide ((t : Int) < n) = true) => ?_) fun (k : decide ((t : Int) < n) = false) => ?_
  ·have k := of_decide_eq_true k
   have hF := hF (by omega)
   have h5 := h5 (by omega) (by omega)
   conv => whnf
   refine swp_seqS (swp_block ?_)
   have eq8 : g (0 + ((t : Nat) : Int).toNat) = g t := by rw [Int.toNat_natCast, Nat.zero_add]
   have hl : n * (q + 1) + t + 1 ≤ 16777216 := by omega
   have hm1 : n - (t + 1) < n - t := by omega
   have hm2 : t + 1 ≤ n := by omega
   cases al
   ·refine swp_seq E0m_ok mixed (by kernel_rfl) ?_
    conv => whnf
    refine ⟨Int.natCast_nonneg t, k, ?_⟩
    conv => whnf
    refine ⟨sJ n g p e q t false, Weak.gen2 [some 1] ⟨_, rfl, rfl, rfl⟩ rfl ⟨⟨_, rfl, rfl, rfl, rfl, rfl, fun i j hi hj => ⟨_, rfl, rfl, rfl⟩⟩, ⟨_, rfl, rfl, rfl, rfl, rfl, fun i j hi hj => regE rfl rfl⟩, trivial⟩ ⟨⟨_, rfl, rfl⟩, ⟨_, rfl, rfl⟩, ⟨_, rfl, rfl, rfl⟩, ⟨_, rfl, rfl⟩, ⟨_, rfl, rfl⟩, ⟨_, rfl, rfl⟩, .inl ⟨_, _, rfl, rfl, fun _ _ _ _ => rfl⟩, ⟨_, rfl, rfl⟩, ⟨_, rfl, rfl⟩, trivial⟩, ?_⟩
    refine swp_of E0m_ok mixed (by kernel_rfl) ?_
    conv => whnf
    refine ⟨h5, ?_⟩
    conv => whnf
    refine ⟨hl, ?_⟩
    conv => whnf
    refine ⟨fun i j hi hj => one1 i j hi hj, ?_⟩
    conv => whnf
    refine Swp.weak (σ2 := sK n g p e q t false) (Weak.gen2 [some 1] ⟨_, rfl, rfl, rfl⟩ rfl ⟨⟨_, rfl, rfl, rfl, rfl, rfl, fun i j hi hj => ⟨_, rfl, upd1 hi hj, rfl⟩⟩, ⟨_, rfl, rfl, rfl, rfl, rfl, fun i j hi hj => regE (app_int hF i j hi hj) rfl⟩, trivial⟩ ⟨⟨_, rfl, rfl⟩, ⟨_, rfl, rfl⟩, ⟨_, rfl, rfl, rfl⟩, ⟨_, rfl, rfl⟩, ⟨_, rfl, rfl⟩, .inl ⟨_, _, rfl, rfl, fun _ _ _ _ => rfl⟩, ⟨_, rfl, rfl⟩, ⟨_, rfl, rfl⟩, trivial⟩) ?_
    refine swp_of E0m_ok mixed (by kernel_rfl) ?_
    conv => whnf
    refine ⟨⟨by omega, by omega⟩, ?_⟩
    conv => whnf
    exact ⟨(t + 1, false), hm1, Weak.gen2 [some 1] ⟨_, rfl, rfl, rfl⟩ rfl ⟨⟨_, rfl, rfl, rfl, rfl, rfl, fun i j hi hj => ⟨_, rfl, rfl, rfl⟩⟩, ⟨_, rfl, rfl, rfl, rfl, rfl, fun i j hi hj => regE rfl rfl⟩, trivial⟩ ⟨⟨_, rfl, rfl⟩, ⟨_, rfl, rfl⟩, ⟨_, rfl, rfl, rfl⟩, ⟨_, rfl, rfl⟩, ⟨_, rfl, rfl⟩, .inl ⟨_, _, rfl, rfl, fun _ _ _ _ => rfl⟩, ⟨_, rfl, rfl⟩, ⟨_, rfl, rfl⟩, trivial⟩, hm2⟩
   ·refine swp_seq E0m_ok mixed (by kernel_rfl) ?_
    conv => whnf
    refine ⟨Int.natCast_nonneg t, k, ?_⟩
    conv => whnf
    refine ⟨sJ n g p e q t true, Weak.gen2 [some 1] ⟨_, rfl, rfl, rfl⟩ rfl ⟨⟨_, rfl, rfl, rfl, rfl, rfl, fun i j hi hj => ⟨_, rfl, rfl, rfl⟩⟩, ⟨_, rfl, rfl, rfl, rfl, rfl, fun i j hi hj => regE rfl rfl⟩, trivial⟩ ⟨⟨_, rfl, rfl⟩, ⟨_, rfl, rfl⟩, ⟨_, rfl, rfl, rfl⟩, ⟨_, rfl, rfl⟩, ⟨_, rfl, rfl⟩, ⟨_, rfl, eq8⟩, ⟨_, _, rfl, rfl, rfl, rfl⟩, ⟨_, rfl, rfl⟩, ⟨_, rfl, rfl⟩, trivial⟩, ?_⟩
    refine swp_keep E0m_ok (pre := [_, _, _, _, _]) (post := [_]) (s := 21) rfl (by kernel_rfl) ?_
    conv => whnf
    refine ⟨h5, ?_⟩
    conv => whnf
    refine ⟨1, 0, n, 1, 32, _, _, ⟨⟨_, _, _, _, _, rfl, rfl, rfl, rfl, rfl, rfl, rfl, rfl, by decide, fun _ => rfl, by decide⟩, rfl, rfl, by decide, rfl, rfl, rfl, ?_, fun i j hi hj => ?_, rfl, fun i j hi hj => rfl⟩, fun al => ?_⟩
    ·exact hl
    ·exact one1 i j hi hj
    ·cases al
     ·conv => whnf
      refine Swp.weak (σ2 := sK n g p e q t false) (Weak.gen2 [some 1] ⟨_, rfl, rfl, rfl⟩ rfl ⟨⟨_, rfl, rfl, rfl, rfl, rfl, fun i j hi hj => ⟨_, rfl, upd1 hi hj, rfl⟩⟩, ⟨_, rfl, rfl, rfl, rfl, rfl, fun i j hi hj => regE (app_int hF i j hi hj) rfl⟩, trivial⟩ ⟨⟨_, rfl, rfl⟩, ⟨_, rfl, rfl⟩, ⟨_, rfl, rfl, rfl⟩, ⟨_, rfl, rfl⟩, ⟨_, rfl, rfl⟩, .inl ⟨_, _, rfl, rfl, fun _ _ _ _ => rfl⟩, ⟨_, rfl, rfl⟩, ⟨_, rfl, rfl⟩, trivial⟩) ?_
      refine swp_of E0m_ok mixed (by kernel_rfl) ?_
      conv => whnf
      refine ⟨⟨by omega, by omega⟩, ?_⟩
      conv => whnf
      exact ⟨(t + 1, false), hm1, Weak.gen2 [some 1] ⟨_, rfl, rfl, rfl⟩ rfl ⟨⟨_, rfl, rfl, rfl, rfl, rfl, fun i j hi hj => ⟨_, rfl, rfl, rfl⟩⟩, ⟨_, rfl, rfl, rfl, rfl, rfl, fun i j hi hj => regE rfl rfl⟩, trivial⟩ ⟨⟨_, rfl, rfl⟩, ⟨_, rfl, rfl⟩, ⟨_, rfl, rfl, rfl⟩, ⟨_, rfl, rfl⟩, ⟨_, rfl, rfl⟩, .inl ⟨_, _, rfl, rfl, fun _ _ _ _ => rfl⟩, ⟨_, rfl, rfl⟩, ⟨_, rfl, rfl⟩, trivial⟩, hm2⟩
     ·conv => whnf
      refine Swp.weak (σ2 := sK n g p e q t true) (Weak.gen2 [some 1] ⟨_, rfl, rfl, rfl⟩ rfl ⟨⟨_, rfl, rfl, rfl, rfl, rfl, fun i j hi hj => ⟨_, rfl, upd1 hi hj, rfl⟩⟩, ⟨_, rfl, rfl, rfl, rfl, rfl, fun i j hi hj => regE (app_int hF i j hi hj) rfl⟩, trivial⟩ ⟨⟨_, rfl, rfl⟩, ⟨_, rfl, rfl⟩, ⟨_, rfl, rfl, rfl⟩, ⟨_, rfl, rfl⟩, ⟨_, rfl, rfl⟩, ⟨_, _, rfl, rfl, rfl, rfl⟩, ⟨_, rfl, rfl⟩, ⟨_, rfl, rfl⟩, trivial⟩) ?_
      refine swp_of E0m_ok mixed (by kernel_rfl) ?_
      conv => whnf
      refine ⟨⟨by omega, by omega⟩, ?_⟩
      conv => whnf
      exact ⟨(t + 1, true), hm1, Weak.gen2 [some 1] ⟨_, rfl, rfl, rfl⟩ rfl ⟨⟨_, rfl, rfl, rfl, rfl, rfl, fun i j hi hj => ⟨_, rfl, rfl, rfl⟩⟩, ⟨_, rfl, rfl, rfl, rfl, rfl, fun i j hi hj => regE rfl rfl⟩, trivial⟩ ⟨⟨_, rfl, rfl⟩, ⟨_, rfl, rfl⟩, ⟨_, rfl, rfl, rfl⟩, ⟨_, rfl, rfl⟩, ⟨_, rfl, rfl⟩, ⟨_, _, rfl, rfl, rfl, rfl⟩, ⟨_, rfl, rfl⟩, ⟨_, rfl, rfl⟩, trivial⟩, hm2⟩
  ·have k := of_decide_eq_false k
   have k1 : t = n := by omega
   have e1 : n * (q + 1) + t = n * (q + 1 + 1) := by rw [k1, Nat.mul_succ n (q + 1)]
   have e2 : e - (q : Int) - 1 = e - ((q + 1 : Nat) : Int) := by omega
   have e3 : p ^ (q + 1) * p = p ^ (q + 1 + 1) := (Int.pow_succ p (q + 1)).symm
   have m1 : e.toNat - (q + 1) < e.toNat - q := by omega
   have m2 : ((q + 1 : Nat) : Int) ≤ e := by omega
   conv => whnf
   refine swp_of E0m_ok mixed (by kernel_rfl) ?_
   conv => whnf
   refine ⟨⟨by omega, by omega⟩, ?_⟩
   conv => whnf
   refine ⟨h6, ?_⟩
   conv => whnf
   exact ⟨q + 1, m1, Weak.gen2 [some 1] ⟨_, rfl, rfl, rfl⟩ rfl ⟨⟨_, rfl, rfl, rfl, rfl, rfl, fun i j hi hj => ⟨_, rfl, rfl, rfl⟩⟩, ⟨_, rfl, rfl, rfl, e1, rfl, fun i j hi hj => regE rfl rfl⟩, trivial⟩ ⟨⟨_, rfl, rfl⟩, ⟨_, rfl, e2⟩, ⟨_, rfl, rfl, rfl⟩, ⟨_, rfl, rfl⟩, ⟨_, rfl, e3⟩, trivial⟩, m2⟩
 ·have h := of_decide_eq_false h
  have e1 : q = e.toNat := by omega
  have e2 : n * (q + 1) = n * (e.toNat + 1) := by rw [e1]
  conv => whnf
  exact ⟨.inl rfl, Weak.gen2 [some 1] ⟨_, rfl, rfl, rfl⟩ rfl ⟨⟨_, rfl, rfl, rfl, rfl, rfl, fun i j hi hj => ⟨_, rfl, rfl, rfl⟩⟩, ⟨_, rfl, rfl, rfl, e2, rfl, fun i j hi hj => regE rfl rfl⟩, trivial⟩ trivial⟩
end Dv
end Go.Proofs.YtmbejakmeijcbaaGreat
/- The closure of arith.Divisors as a contract over its caller's blocks. -/
namespace Go.Proofs.YtmbejakmeijcbaaGreat
open Go.RowKit
namespace Dv
theorem two_back {D0 : Nat → Prop} {w0 : Base} {r : Bool} {w : World} {la l1 : Loc} {Ba Bx : Blk} (v : Nat) (hs : Sat D0 w0 r [l1, la] [Bx, Ba] w) (h1 : Bx.st = 0) (h2 : Ba.st = 0) (h5 : ∀ i j, Bx.f i j = .gs 1 Ba.u) (h6 : ∀ i j, (Ba.f i j).clos = true) :
  Sat D0 w0 r [{ la with u := v }, l1] [{ Ba with u := v }, { Bx with f := fun _ _ => .gs 0 v }] w := by
 have hD : ∀ b, Dof D0 [{ la with u := v }, l1] [{ Ba with u := v }, { Bx with f := fun _ _ => .gs 0 v }] b → Dof D0 [l1, la] [Bx, Ba] b := by
  rintro b (h | ⟨k, l, B, e1, e2, e3, e4⟩)
  ·exact .inl h
  ·match k, e1, e2 with
   | 0, e1, e2 => cases e1; cases e2; exact .inr ⟨1, la, Ba, rfl, rfl, h2, e4⟩
   | 1, e1, e2 => cases e1; cases e2; exact .inr ⟨0, l1, Bx, rfl, rfl, h1, e4⟩
   | k + 2, e1, _ => simp at e1
 have ha := hs.at_ 1 la Ba rfl rfl (by omega)
 have hx := hs.at_ 0 l1 Bx rfl rfl (by omega)
 refine ⟨hs.below, hs.d0, rfl, fun k l B e1 e2 => ?_, fun i j li lj Bi Bj b e1 e2 e3 e4 e5 e6 e7 e8 => ?_, fun hr b o d hb => hs.noU hr b o d (hD b hb)⟩
 ·match k, e1, e2 with
  | 0, e1, e2 =>
   cases e1; cases e2
   refine fun _ => ⟨rfl, ?_⟩
   rcases ha.2 with ⟨g1, g2, g3⟩ | ⟨b, cap, cs, g2, g3, g4, g5, g6, g7, g8, g9⟩
   ·exact .inl ⟨g1, g2, g3⟩
   ·refine .inr ⟨b, cap, cs, g2, g3, g4, g5, g6, g7, g8, fun i j hi hj => ?_⟩
    obtain ⟨u, hu, hr⟩ := g9 i j hi hj
    exact ⟨u, hu, (hr.clos (h6 i j)).step (Ext.refl _ _) (fun b _ hb => hD b hb) (LocsLe.refl _)⟩
  | 1, e1, e2 =>
   cases e1; cases e2
   refine fun _ => ⟨hx.1, ?_⟩
   rcases hx.2 with ⟨g1, g2, g3⟩ | ⟨b, cap, cs, g2, g3, g4, g5, g6, g7, g8, g9⟩
   ·exact .inl ⟨g1, g2, g3⟩
   ·refine .inr ⟨b, cap, cs, g2, g3, g4, g5, g6, g7, g8, fun i j hi hj => ?_⟩
    obtain ⟨u, hu, hr⟩ := g9 i j hi hj
    rw [if_pos h1, h5] at hr
    obtain ⟨l, q1, q2, q3⟩ := hr
    cases q1
    refine ⟨u, hu, ?_⟩
    rw [if_pos h1]
    exact ⟨_, rfl, Nat.le_refl _, fun _ => q3 ha.1⟩
  | k + 2, e1, _ => simp at e1
 ·match i, j, e1, e2, e3, e4 with
  | 0, 0, _, _, _, _ => rfl
  | 1, 1, _, _, _, _ => rfl
  | 0, 1, e1, e2, e3, e4 =>
   cases e1; cases e2; cases e3; cases e4
   have := hs.dist 1 0 la l1 Ba Bx b rfl rfl rfl rfl (by omega) (by omega) e7 e8
   omega
  | 1, 0, e1, e2, e3, e4 =>
   cases e1; cases e2; cases e3; cases e4
   have := hs.dist 0 1 l1 la Bx Ba b rfl rfl rfl rfl (by omega) (by omega) e7 e8
   omega
  | k + 2, _, e1, _, _, _ => simp at e1
  | _, k + 2, _, e2, _, _ => simp at e2
theorem frame_rel {D : Nat → Prop} {w : World} {ρ : List Loc} {args : List V} {vs : List Value} {N : Nat} (hargs : VRels D w ρ args vs) (t : Nat) : VRel D w ρ (args.getD t (.c .any)) ((vs.toArray ++ Array.replicate (N - vs.toArray.size) undef).getD t undef) := by
 have hlen := hargs.length
 have h2 := hargs.get t
 rcases Nat.lt_or_ge t vs.length with hlt | hge
 ·have : (vs.toArray ++ Array.replicate (N - vs.toArray.size) undef).getD t undef = vs.getD t undef := by
   rw [Array.getD_eq_getD_getElem?, Array.getElem?_append_left (by simpa using hlt)]
   simp [List.getD]
  rw [this]; exact h2
 ·rw [show args.getD t (V.c .any) = .c .any by rw [List.getD, List.getElem?_eq_none (by omega)]; rfl]
  trivial
theorem div_fnS {n u : Nat} {f : Nat → Int} {p e : Int} {fA fB : Nat → Nat → Cell} (hb : Bds n f p e) (t5 : ∀ i j, i < n → j < 1 → fA i j = .int .i64 (F n f p i)) (s5 : ∀ i j, i < 1 → j < 1 → fB i j = .gs 0 u) :
  FnS Tryz.prog false 96 [⟨3, 1, n, u, 0, fA⟩, ⟨86, 1, 1, 0, 0, fB⟩] [.c (.int .i64 p), .c (.int .i64 e), .c (.p 1 0 1 0 0)] (.c .any) [⟨3, 1, n * (e.toNat + 1), u + 1, 0, fun i _ => .int .i64 (F n f p i)⟩, ⟨86, 1, 1, 0, 0, fun _ _ => .gs 0 (u + 1)⟩] := by
 refine ⟨by kernel_rfl, fun D w0 ρ w vs hs hargs => ?_⟩
 obtain ⟨c, hc⟩ : ∃ c, Tryz.f96.body = some c := ⟨_, rfl⟩
 refine calls_of_wp (fn := Tryz.f96) (c := c) (Tryz.func96) hc ?_
 have hrl := hs.len
 match ρ, hs, hargs, hrl with
 | [l0, l1], hs, hargs, _ =>
  have u0 : l0.u = u := (hs.at_ 0 l0 _ rfl rfl (Nat.zero_le 1)).1
  have u1 : l1.u = 0 := (hs.at_ 1 l1 _ rfl rfl (Nat.zero_le 1)).1
  have el : { l1 with u := 0 } = l1 := by rw [← u1]
  obtain ⟨g1, g2⟩ := genE (C := ⟨D, w0, false, 34, []⟩) (a := { tmps := vs.toArray ++ Array.replicate (34 - vs.toArray.size) undef, defers := [] }) (tm := fun t => [V.c (.int .i64 p), .c (.int .i64 e), .c (.p 1 0 1 0 0)].getD t (.c .any)) (tl := [(0, .c (.int .i64 p)), (1, .c (.int .i64 e)), (2, .c (.p 0 0 1 0 0))]) (xs := [gBox, gI n (F n f p)]) [] rfl rfl [some 1, some 0] rfl
   ⟨⟨_, rfl, rfl, rfl, rfl, rfl, fun i j hi hj => ⟨_, rfl, s5 i j hi hj, rfl⟩⟩, ⟨_, rfl, rfl, rfl, rfl, rfl, fun i j hi hj => regE (t5 i j hi hj) rfl⟩, trivial⟩ ⟨⟨_, rfl, rfl⟩, ⟨_, rfl, rfl⟩, ⟨_, rfl, rfl, rfl⟩, trivial⟩ hs (frame_rel hargs)
  have e1 : List.take ([] : List Blk).length [l0, l1] ++ [some 1, some 0].map (locK [l0, l1]) = [l1, { l0 with u := 0 }] := by
   show [{ l1 with u := 0 }, { l0 with u := 0 }] = _
   rw [el]
  rw [e1] at g1 g2
  have hrel : Rel ⟨D, w0, false, 34, [l1]⟩ (gst [(0, .c (.int .i64 p)), (1, .c (.int .i64 e)), (2, .c (.p 0 0 1 0 0))] [gBox, gI n (F n f p)]) { tmps := vs.toArray ++ Array.replicate (34 - vs.toArray.size) undef, defers := [] } w :=
   ⟨_, g1, ⟨by simp; omega, LocsLe.append [l1] _⟩, rfl, g2⟩
  refine wp_mono ((div_swp hb c hc).run _ _ _ rfl (Nat.le_refl _) rfl hrel) ?_
  rintro x a w' ⟨σ, hr, hx, hw⟩
  obtain ⟨ρ2, hs2, hN2, hdf2, hf2⟩ := hw _ a w' (Nat.le_refl _) hr
  have hl2 := hs2.len
  match ρ2, hs2, hN2, hf2, hl2 with
  | [m1, ma], hs2, hN2, hf2, _ =>
   have v1 : m1.u = 0 := (hs2.at_ 0 m1 _ rfl rfl (Nat.zero_le 1)).1
   obtain ⟨l', r1, r2, r3⟩ := hN2.2 0 l1 rfl
   cases r1
   have em : m1 = l1 := r2 (by omega)
   obtain ⟨y, hy, _⟩ := ret_run (v := .c .any) (fn := Tryz.f96) E0m_ok hs2 hf2 rfl
   have fin : a.defers = [] ∧ ∃ v, (results Tryz.f96 a.tmps).run Tryz.prog w' = .ok v w' ∧ ∃ y ρ', Ending.returned v = .returned y ∧ Sat D w0 false ρ' [⟨3, 1, n * (e.toNat + 1), u + 1, 0, fun i _ => .int .i64 (F n f p i)⟩, ⟨86, 1, 1, 0, 0, fun _ _ => .gs 0 (u + 1)⟩] w' ∧ LocsLe [l0, l1] ρ' ∧ VRel (Dof D ρ' [⟨3, 1, n * (e.toNat + 1), u + 1, 0, fun i _ => .int .i64 (F n f p i)⟩, ⟨86, 1, 1, 0, 0, fun _ _ => .gs 0 (u + 1)⟩]) w' ρ' (.c .any) y := by
    refine ⟨hdf2, y, hy, y, _, rfl, two_back (u + 1) hs2 rfl rfl (fun _ _ => rfl) (fun _ _ => rfl), fun k l hk => ?_, trivial⟩
    match k, hk with
    | 0, hk =>
     cases hk
     exact ⟨_, rfl, fun h => by have h : u + 1 = l0.u := h; omega, by show l0.u ≤ u + 1; omega⟩
    | 1, hk =>
     cases hk
     exact ⟨m1, rfl, fun _ => em, by omega⟩
    | k + 2, hk => simp at hk
   rcases hx with rfl | rfl
   ·exact fin
   ·exact fin
end Dv
end Go.Proofs.YtmbejakmeijcbaaGreat
/- The evaluator with a table of calls; the runs of arith.Divisors and what stands on it. -/
namespace Go.Proofs.YtmbejakmeijcbaaGreat
open Go.RowKit
def clnY (f : FuncId) : Bool := [100].contains f
def opY (E : Env) (q : FuncId → List V → Option V) (qs : FuncId → List Blk → List V → Option (V × List Blk)) (inl : FuncId → Bool) (o : Oper) (σ : St) : Option St :=
 match o.op with
 | .call { callee := .value g, args, .. } => match calleeX σ g with
  | some (f, _) => match clnY f with
   | true => opX E q qs inl o (dfzL (args.toList.flatMap fun x => nmV (σ.ev x)) σ)
   | false => opX E q qs inl o σ
  | none => none
 | _ => opX E q qs inl o σ
theorem opY_ok {E : Env} (hE : EnvOK E) {q : FuncId → List V → Option V} {qs : FuncId → List Blk → List V → Option (V × List Blk)} (hq : ∀ f ags X, q f ags = some X → FnOK E.P E.r f ags X) (hqs : ∀ f bl ags X bl', qs f bl ags = some (X, bl') → FnS E.P E.r f bl ags X bl') {inl : FuncId → Bool} {o : Oper} {σ σ' : St} (h : opY E q qs inl o σ = some σ') : OpGo E o σ σ' := by
 unfold opY at h
 split at h
 ·split at h
  ·split at h
   ·exact OpGo.lax (Lax.dfzL _ σ) (opX_ok hE hq hqs h)
   ·exact opX_ok hE hq hqs h
  ·cases h
 ·exact opX_ok hE hq hqs h
def regY (E : Env) (q : FuncId → List V → Option V) (qs : FuncId → List Blk → List V → Option (V × List Blk)) (inl : FuncId → Bool) (ops : Array Oper) : List Oper → St → Option St
 | [], σ => some σ
 | o :: rest, σ => match o.guard with
  | none => match opY E q qs inl o σ with
   | some σ' => regY E q qs inl ops rest σ'
   | none => none
  | some (g, want) => match guardV σ ops g with
   | some (d, b) => match gw want b with
    | true => match opY E q qs inl o (σ.put (some d) (.c (.bool want))) with
     | some σ' => regY E q qs inl ops rest σ'
     | none => none
    | false => regY E q qs inl ops rest ((σ.put (some d) (.c (.bool !want))).put o.dst (.c .any))
   | none => none
theorem regY_ok {E : Env} (hE : EnvOK E) {q : FuncId → List V → Option V} {qs : FuncId → List Blk → List V → Option (V × List Blk)} (hq : ∀ f ags X, q f ags = some X → FnOK E.P E.r f ags X) (hqs : ∀ f bl ags X bl', qs f bl ags = some (X, bl') → FnS E.P E.r f bl ags X bl') {inl : FuncId → Bool} {ops : Array Oper} {C : Ctx} (hC : C.r = E.r) {Q : Exit → Act → World → Prop} {σ1 : St} (hQ : ∀ a w, Rel C σ1 a w → Q .normal a w) :
  ∀ (l : List Oper) (σ : St) (a : Act) (w : World), (∀ o ∈ l, dstOK C.N o.dst) → regY E q qs inl ops l σ = some σ1 → Rel C σ a w → wpList E.P ops Q l a w
 | [], σ, a, w, _, h, hr => by cases h; exact hQ a w hr
 | o :: rest, σ, a, w, hd, h, hr => by
  have ih := fun σ a w => regY_ok (inl := inl) (ops := ops) hE hq hqs hC hQ rest σ a w (fun o ho => hd o (by simp [ho]))
  unfold wpList
  simp only [regY] at h
  split at h
  ·rename_i hg
   rw [if_pos (by simp [Region.wanted, hg])]
   split at h
   ·rename_i σ2 h2
    exact .inl (opY_ok hE hq hqs h2 hC (hd o (by simp)) hr fun a' w' hrel => ih σ2 a' w' h hrel)
   ·cases h
  ·rename_i g want hg
   split at h
   ·rename_i d b hgv
    obtain ⟨hy, hv, hlt, htm⟩ := guard_val (a := a) (w := w) hgv (by obtain ⟨ρ, hs, hN, hdf, hf⟩ := hr; exact fun d _ => ⟨_, ρ, hf d⟩)
    have hwt : Region.wanted o (yielded ops a.tmps) = (b == want) := by
     unfold Region.wanted
     rw [hg]
     simp only [hy]
     rfl
    rw [hwt]
    split at h
    ·rename_i hb
     have e := gw_true.1 hb
     rw [if_pos (by simp [e])]
     split at h
     ·rename_i σ2 h2
      refine .inl (opY_ok hE hq hqs h2 hC (hd o (by simp)) (put_same hr fun D ρ => ?_) fun a' w' hrel => ih σ2 a' w' h hrel)
      rw [hv, e]; rfl
     ·cases h
    ·rename_i hb
     have e' := gw_false.1 hb
     have e : ¬ b = want := by rw [e']; cases want <;> simp
     rw [if_neg (by simpa using e)]
     have h2 : Rel C (σ.put (some d) (.c (.bool !want))) a w := put_same hr fun D ρ => by rw [hv, e']; rfl
     obtain ⟨ρ, hs, hN, hdf, hf⟩ := h2
     exact ih _ _ _ h (Rel.put hs hN hdf hf (hd o (by simp)) trivial)
   ·cases h
def loopY (N : Nat) (body : St → Option (Exit × St)) : Nat → St → Option (Exit × St)
 | 0, _ => none
 | n + 1, σ => fSt N σ fun σ => match body σ with
  | some (.normal, σ') => loopY N body n σ'
  | r => r
def codeY (E : Env) (q : FuncId → List V → Option V) (qs : FuncId → List Blk → List V → Option (V × List Blk)) (inl : FuncId → Bool) (N lf : Nat) : Code → St → Option (Exit × St)
 | .skip, σ => some (.normal, σ)
 | .region _ ops draw, σ => match draw with
  | true => match aheadX E q ops σ.bl.length ops.toList 0 { σ with bl := σ.bl ++ List.replicate (freshN ops.toList) phB } with
   | some σ' => some (.normal, σ')
   | none => none
  | false => match regY E q qs inl ops ops.toList σ with
   | some σ' => some (.normal, σ')
   | none => none
 | .seq a b, σ => match codeY E q qs inl N lf a σ with
  | some (.normal, σ') => codeY E q qs inl N lf b σ'
  | r => r
 | .cond c x y, σ => match σ.ev c with
  | .c (.bool true) => codeY E q qs inl N lf x σ
  | .c (.bool false) => codeY E q qs inl N lf y σ
  | _ => none
 | .block id c, σ => match codeY E q qs inl N lf c σ with
  | some (.exit i, σ') => match Nat.beq i id with
   | true => some (.normal, σ')
   | false => some (.exit i, σ')
  | r => r
 | .exit id, σ => some (.exit id, σ)
 | .ret, σ => some (.ret, σ)
 | .label _, σ => some (.normal, σ)
 | .loop c, σ => loopY N (codeY E q qs inl N lf c) lf σ
 | _, _ => none
theorem codeY_ok {E : Env} (hE : EnvOK E) {q : FuncId → List V → Option V} {qs : FuncId → List Blk → List V → Option (V × List Blk)} (hq : ∀ f ags X, q f ags = some X → FnOK E.P E.r f ags X) (hqs : ∀ f bl ags X bl', qs f bl ags = some (X, bl') → FnS E.P E.r f bl ags X bl') {inl : FuncId → Bool} {N lf : Nat} (hm : E.P.follows .mixedOrders = true) {C : Ctx} (hC : C.r = E.r) :
  ∀ (c : Code) {σ : St} {r : Exit × St} {a : Act} {w : World}, codeB C.N c = true → codeY E q qs inl N lf c σ = some r → Rel C σ a w → c.wp E.P (QX C r) a w
 | .skip, σ, r, a, w, _, h, hr => by cases h; exact wp_skip ⟨rfl, hr⟩
 | .region id ops draw, σ, r, a, w, hc, h, hr => by
  simp only [codeB, Bool.and_eq_true] at hc
  simp only [codeY] at h
  cases draw with
  | true =>
   simp only at h
   split at h
   ·rename_i σ' h1
    cases h
    refine adraw_sound hE hC (K := fun s => s = σ') hm (fun s a w hs hrel => ⟨rfl, by rw [← hs]; exact hrel⟩) hc.1 (by simpa using hc.2) ?_ hr
    exact aheadX_ok hq _ _ h1 rfl
   ·cases h
  | false =>
   simp only at h
   split at h
   ·rename_i σ' h1
    cases h
    refine wp_region_list (regY_ok hE hq hqs hC (fun a w hrel => ⟨rfl, hrel⟩) ops.toList σ a w (fun o ho d hd' => ?_) h1 hr)
    have := List.all_eq_true.1 hc.1 o ho
    unfold dstB at this
    rw [hd'] at this
    simpa using this
   ·cases h
 | .seq x y, σ, r, a, w, hc, h, hr => by
  simp only [codeB, Bool.and_eq_true] at hc
  simp only [codeY] at h
  split at h
  ·rename_i σ' h1
   refine wp_seq (wp_mono (codeY_ok hE hq hqs hm hC x hc.1 h1 hr) ?_)
   rintro e a' w' ⟨rfl, hrel⟩
   exact codeY_ok hE hq hqs hm hC y hc.2 h hrel
  ·rename_i hno
   refine wp_seq (wp_mono (codeY_ok hE hq hqs hm hC x hc.1 h hr) ?_)
   rintro e a' w' ⟨rfl, hrel⟩
   obtain ⟨e, σ'⟩ := r
   cases e with
   | normal => exact absurd h (hno σ')
   | _ => exact ⟨rfl, hrel⟩
 | .cond c x y, σ, r, a, w, hc, h, hr => by
  simp only [codeB, Bool.and_eq_true] at hc
  simp only [codeY] at h
  have he : ∀ b, σ.ev c = .c (.bool b) → a.eval c = .bool b := by
   intro b hb
   obtain ⟨ρ, hs, hN, hdf, hf⟩ := hr
   have := ev_rel hf c
   rw [hb] at this
   exact this
  split at h
  ·rename_i hb
   exact wp_cond_split (he _ hb) (fun _ => codeY_ok hE hq hqs hm hC x hc.1 h hr) (fun e => by cases e)
  ·rename_i hb
   exact wp_cond_split (he _ hb) (fun e => by cases e) (fun _ => codeY_ok hE hq hqs hm hC y hc.2 h hr)
  ·cases h
 | .block id c, σ, r, a, w, hc, h, hr => by
  simp only [codeB] at hc
  simp only [codeY] at h
  split at h
  ·rename_i i σ' h1
   refine wp_block (wp_mono (codeY_ok hE hq hqs hm hC c hc h1 hr) ?_)
   rintro e a' w' ⟨rfl, hrel⟩
   simp only [Exit.inBlock]
   split at h
   ·rename_i hb
    cases h
    rw [if_pos (Nat.eq_of_beq_eq_true hb)]
    exact ⟨rfl, hrel⟩
   ·rename_i hb
    cases h
    rw [if_neg (Nat.ne_of_beq_eq_false hb)]
    exact ⟨rfl, hrel⟩
  ·rename_i hno
   refine wp_block (wp_mono (codeY_ok hE hq hqs hm hC c hc h hr) ?_)
   rintro e a' w' ⟨rfl, hrel⟩
   obtain ⟨e, σ'⟩ := r
   cases e with
   | exit i => exact absurd h (hno i σ')
   | _ => exact ⟨rfl, hrel⟩
 | .exit id, σ, r, a, w, _, h, hr => by cases h; exact wp_exit ⟨rfl, hr⟩
 | .ret, σ, r, a, w, _, h, hr => by cases h; exact wp_ret ⟨rfl, hr⟩
 | .label l, σ, r, a, w, _, h, hr => by cases h; exact wp_label ⟨rfl, hr⟩
 | .loop c, σ, r, a, w, hc, h, hr => by
  simp only [codeB] at hc
  simp only [codeY] at h
  refine wp_loop_ghost (fun n a w => ∃ σ, Rel C σ a w ∧ loopY N (codeY E q qs inl N lf c) n σ = some r) lf ⟨σ, hr, h⟩ ?_
  rintro n a w ⟨σ1, hrel, hn⟩
  cases n with
  | zero => cases hn
  | succ n =>
   simp only [loopY, fSt_eq] at hn
   have hrel2 := Lax.nrm N σ1 C a w hrel
   split at hn
   ·rename_i σ2 h2
    refine wp_mono (codeY_ok hE hq hqs hm hC c hc h2 hrel2) ?_
    rintro e a' w' ⟨rfl, hrel3⟩
    exact ⟨n, Nat.lt_succ_self n, σ2, hrel3, hn⟩
   ·rename_i hno
    refine wp_mono (codeY_ok hE hq hqs hm hC c hc hn hrel2) ?_
    rintro e a' w' ⟨rfl, hrel3⟩
    obtain ⟨e, σ2⟩ := r
    cases e with
    | normal => exact absurd hn (hno σ2)
    | _ => exact ⟨rfl, hrel3⟩
 | .rangeFunc .., _, _, _, _, _, h, _ => by cases h
 | .scope _, _, _, _, _, _, h, _ => by cases h
 | .goto _, _, _, _, _, _, h, _ => by cases h
 | .refuse _, _, _, _, _, _, h, _ => by cases h
def runY (E : Env) (orc : FuncId → List V → Option V) (spc : FuncId → List Blk → List V → Option (V × List Blk)) (ok inl : FuncId → Bool) (lf : Nat) : Nat → FuncId → List Blk → List V → Option (V × List Blk)
 | 0, _, _, _ => none
 | d + 1, f, bl, ags => match spc f bl ags with
  | some r => some r
  | none => match ok f with
  | false => none
  | true => match E.P.funcs[f]? with
   | some fn => match fn.body with
    | some c => fVs ags fun ags => match codeY E (pureX orc (runY E orc spc ok inl lf d)) (runY E orc spc ok inl lf d) inl fn.ntmps lf c ⟨frame0 ags, bl⟩ with
     | some (e, σ) => match e with
      | .normal | .ret => match retV E σ fn.results.toList with
       | some v => fV v fun v => fBs σ.bl fun bl' => some (trimX v bl' bl.length)
       | none => none
      | _ => none
     | none => none
    | none => none
   | none => none
theorem runY_ok {E : Env} (hE : EnvOK E) (hm : E.P.follows .mixedOrders = true) {orc : FuncId → List V → Option V} (ho : ∀ f ags X, orc f ags = some X → FnOK E.P E.r f ags X) {spc : FuncId → List Blk → List V → Option (V × List Blk)} (hsp : ∀ f bl ags X bl', spc f bl ags = some (X, bl') → FnS E.P E.r f bl ags X bl') {ok inl : FuncId → Bool} (hok : ∀ f fn c, ok f = true → E.P.funcs[f]? = some fn → fn.body = some c → codeB fn.ntmps c = true ∧ hasBody E.P f = true) {lf : Nat} :
  ∀ (d : Nat) (f : FuncId) (bl : List Blk) (ags : List V) (X : V) (bl' : List Blk), runY E orc spc ok inl lf d f bl ags = some (X, bl') → FnS E.P E.r f bl ags X bl'
 | 0, _, _, _, _, _, h => by cases h
 | d + 1, f, bl, ags, X, bl', h => by
  simp only [runY] at h
  split at h
  ·rename_i r hr
   cases h
   exact hsp _ _ _ _ _ hr
  split at h
  ·cases h
  rename_i hokf
  split at h
  case h_2 => cases h
  rename_i fn hfn
  split at h
  case h_2 => cases h
  rename_i c hc
  rw [fVs_eq] at h
  split at h
  case h_2 => cases h
  rename_i e σ hrun
  obtain ⟨hcb, hbd⟩ := hok f fn c hokf hfn hc
  have ih := runY_ok hE hm ho hsp hok (inl := inl) (lf := lf) d
  refine ⟨hbd, fun D0 w0 ρ w vs hs hargs => ?_⟩
  refine calls_of_wp hfn hc ?_
  let C : Ctx := ⟨D0, w0, E.r, fn.ntmps, ρ⟩
  have hlen := hargs.length
  have hargs' := nrmVs_rel hargs
  have hrel : Rel C ⟨frame0 (ags.map nrmV), bl⟩ { tmps := vs.toArray ++ Array.replicate (fn.ntmps - vs.toArray.size) undef, defers := [] } w := by
   refine ⟨ρ, hs, ⟨by simp [C]; omega, LocsLe.refl _⟩, rfl, fun t => ?_⟩
   have h1 := hargs'.get t
   show VRel (Dof D0 ρ bl) w ρ ((ags.map nrmV).getD t (.c .any)) _
   rcases Nat.lt_or_ge t vs.length with hlt | hge
   ·have : (vs.toArray ++ Array.replicate (fn.ntmps - vs.toArray.size) undef).getD t undef = vs.getD t undef := by
     rw [Array.getD_eq_getD_getElem?, Array.getElem?_append_left (by simpa using hlt)]
     simp [List.getD]
    rw [this]; exact h1
   ·rw [show (ags.map nrmV).getD t (V.c .any) = .c .any by rw [List.getD, List.getElem?_eq_none (by simp; omega)]; rfl]
    trivial
  refine wp_mono (codeY_ok hE (pureX_ok ho ih) ih hm rfl c hcb hrun hrel) ?_
  rintro e' a w' ⟨rfl, hr⟩
  have fin : (match retV E σ fn.results.toList with
    | some v => fV v fun v => fBs σ.bl fun bl' => some (trimX v bl' bl.length)
    | none => none) = some (X, bl') → a.defers = [] ∧ ∃ v, (results fn a.tmps).run E.P w' = .ok v w' ∧ ∃ u ρ', Ending.returned v = .returned u ∧ Sat D0 w0 E.r ρ' bl' w' ∧ LocsLe ρ ρ' ∧ VRel (Dof D0 ρ' bl') w' ρ' X u := by
   intro hk
   split at hk
   ·rename_i v hv
    rw [fV_eq, fBs_eq] at hk
    obtain ⟨ρ1, hs1, hN1, hdf1, hf1⟩ := hr
    obtain ⟨x, hx, hxr⟩ := ret_run hE hs1 hf1 hv
    have hrel2 : Rel ⟨D0, w0, E.r, 0, ρ⟩ ⟨asg [(0, v)], σ.bl⟩ ⟨#[x], []⟩ w' := by
     refine ⟨ρ1, hs1, ⟨Nat.zero_le _, hN1.2⟩, rfl, fun t => ?_⟩
     show VRel _ _ _ (if t = 0 then v else .c .any) _
     split
     ·rename_i e; subst e; exact hxr
     ·trivial
    obtain ⟨ρ2, hs2, hN2, _, hf2⟩ := Lax.nrm 1 _ _ _ _ hrel2
    have h3 : VRel (Dof D0 ρ2 (σ.bl.map nrmB)) w' ρ2 (nrmV v) x := hf2 0
    refine ⟨hdf1, x, hx, x, ?_⟩
    unfold trimX at hk
    split at hk
    ·rename_i hb
     cases hk
     simp only [Bool.and_eq_true] at hb
     obtain ⟨t1, t2⟩ := hs2.take bl.length fun k B hk hB hst i j hi hj => by
      have hmem : B ∈ (σ.bl.map nrmB).take bl.length := List.mem_of_getElem? (by rw [List.getElem?_take_of_lt hk]; exact hB)
      have := List.all_eq_true.1 hb.2 B hmem
      simp only [hst, beq_self_eq_true, Bool.not_true, Bool.false_or] at this
      exact allIJ_ok this hi hj
     exact ⟨_, rfl, t1, hN2.2.take (Nat.le_of_eq hs.len), (h3.take hb.1).step (Ext.refl _ _) (fun b _ hb => t2 b hb) (LocsLe.refl _)⟩
    ·cases hk
     exact ⟨ρ2, rfl, hs2, hN2.2, h3⟩
   ·cases hk
  cases e' with
  | normal => exact fin h
  | ret => exact fin h
  | exit i => cases h
  | goto l => cases h
  | panic ch => cases h
  | outgrown => cases h

def valC : Cell → Int
 | .int .i64 x => x
 | _ => 0
def isI : Cell → Bool
 | .int .i64 _ => true
 | _ => false
theorem isI_ok {c : Cell} (h : isI c = true) : c = .int .i64 (valC c) := by
 unfold isI at h
 split at h
 ·rfl
 ·cases h
def isG (u : Nat) : Cell → Bool
 | .gs 0 v => v == u
 | _ => false
theorem isG_ok {u : Nat} {c : Cell} (h : isG u c = true) : c = .gs 0 u := by
 unfold isG at h
 split at h
 ·rw [beq_iff_eq.1 h]
 ·cases h
def dvB (B0 B1 : Blk) (p e : Int) : Bool :=
 B0.t == 3 && B0.sz == 1 && B0.st == 0 && B1.t == 86 && B1.sz == 1 && B1.n == 1 && B1.u == 0 && B1.st == 0 && isG B0.u (B1.f 0 0) && allIJ B0.n 1 (fun i _ => isI (B0.f i 0)) && decide (1 ≤ B0.n) && decide (B0.n ≤ 1000) && decide (0 ≤ e) && decide (e ≤ 1000) && allIJ B0.n e.toNat (fun i q => inRX .i64 (valC (B0.f i 0) * p ^ (q + 1))) && allIJ e.toNat 1 (fun q _ => inRX .i64 (p ^ (q + 1) * p))
def dvX (f : FuncId) (bl : List Blk) (ags : List V) : Option (V × List Blk) := match f == 96 with
 | false => none
 | true => match bl, ags with
  | [B0, B1], [.c (.int .i64 p), .c (.int .i64 e), .c (.p 1 0 1 0 0)] => match dvB B0 B1 p e with
   | true => some (.c .any, [⟨3, 1, B0.n * (e.toNat + 1), B0.u + 1, 0, fun i _ => .int .i64 (Dv.F B0.n (fun i => valC (B0.f i 0)) p i)⟩, ⟨86, 1, 1, 0, 0, fun _ _ => .gs 0 (B0.u + 1)⟩])
   | false => none
  | _, _ => none
theorem dvX_ok (f : FuncId) (bl : List Blk) (ags : List V) (X : V) (bl' : List Blk) (h : dvX f bl ags = some (X, bl')) : FnS Tryz.prog false f bl ags X bl' := by
 unfold dvX at h
 split at h
 ·cases h
 rename_i hf
 split at h
 ·rename_i B0 B1 p e
  split at h
  ·rename_i hd
   cases h
   rw [beq_iff_eq.1 hf]
   unfold dvB at hd
   simp only [Bool.and_eq_true, beq_iff_eq, decide_eq_true_eq] at hd
   obtain ⟨⟨⟨⟨⟨⟨⟨⟨⟨⟨⟨⟨⟨⟨⟨a1, a2⟩, a3⟩, a4⟩, a5⟩, a6⟩, a7⟩, a8⟩, a9⟩, b1⟩, b2⟩, b3⟩, b4⟩, b5⟩, b6⟩, b7⟩ := hd
   obtain ⟨t0, s0, n0, u0, st0, f0⟩ := B0
   obtain ⟨t1, s1, n1, u1, st1, f1⟩ := B1
   simp only at a1 a2 a3 a4 a5 a6 a7 a8 a9 b1 b2 b3 b6
   subst a1 a2 a3 a4 a5 a6 a7 a8
   refine Dv.div_fnS ⟨b2, b3, b4, b5, fun i q hi hq => ?_, fun q hq => ?_⟩ (fun i j hi hj => ?_) fun i j hi hj => ?_
   ·rw [Dv.F_low hi]
    exact inRX_ok (allIJ_ok b6 hi (show q < e.toNat by omega))
   ·exact inRX_ok (allIJ_ok b7 (show q < e.toNat by omega) (Nat.zero_lt_one))
   ·obtain rfl := Nat.lt_one_iff.1 hj
    show f0 i 0 = _
    rw [Dv.F_low hi]
    exact isI_ok (allIJ_ok b1 hi Nat.zero_lt_one)
   ·obtain rfl := Nat.lt_one_iff.1 hi
    obtain rfl := Nat.lt_one_iff.1 hj
    exact isG_ok a9
  ·cases h
 ·cases h
theorem runY_same {orc : FuncId → List V → Option V} (ho : ∀ f l X, orc f l = some X → FnOK Tryz.prog false f l X) {inl : FuncId → Bool} {f : FuncId} {args : List V} {Y : V} (h : (pureX orc (runY ER orc dvX okF inl 1000 40) f args).map (fun X => sameV X Y) = some true) : FnOK Tryz.prog false f args Y := by
 cases hx : pureX orc (runY ER orc dvX okF inl 1000 40) f args with
 | none => rw [hx] at h; cases h
 | some X =>
  rw [hx] at h
  have h : sameV X Y = true := by simpa using h
  have h1 := runY_ok (E := ER) ER_ok (by rw [ER_P]; exact mixedR) (by rw [ER_P, ER_r]; exact ho) (by rw [ER_P, ER_r]; exact dvX_ok) (by rw [ER_P]; exact okF_ok) (inl := inl) (lf := 1000) 40
  rw [ER_P, ER_r] at h1
  have hf := pureX_ok ho h1 f args X hx
  refine ⟨hf.1, fun D w vs h1 h2 h3 => (hf.2 D w vs h1 h2 h3).mono ?_⟩
  rintro e w' ⟨v, h4, h5, h6⟩
  exact ⟨v, h4, sameV_ok X Y h D w' v h5, h6⟩
end Go.Proofs.YtmbejakmeijcbaaGreat
/- cyclotomic.times and over: products and quotients by x^d - 1. -/
namespace Go.Proofs.YtmbejakmeijcbaaGreat
open Go.RowKit
namespace Dv
def tp (d : Nat) (a : Nat → Int) (i j : Nat) : Int := (if d ≤ j ∧ j - d < i then a (j - d) else 0) - (if j < i then a j else 0)
abbrev iv (n : Nat) (a : Nat → Int) : Cell := .row 1 n fun i _ => .int .i64 (a i)
theorem updI {f : Nat → Nat → Cell} {c : Cell} {k i j : Nat} (hj : j < 1) : updF f k 0 [c] i j = if i = k then c else f i j := by
 obtain rfl := Nat.lt_one_iff.1 hj
 unfold updF
 by_cases e : i = k
 ·rw [if_pos ⟨e, Nat.zero_le _, by show 0 < 0 + 1; omega⟩, if_pos e]; rfl
 ·rw [if_neg (fun h => e h.1), if_neg e]
theorem tp_step {d : Nat} {a : Nat → Int} {i j : Nat} (h1 : 1 ≤ d) {x y : Int} (hx : x = tp d a i i - a i) (hy : y = tp d a i (i + d) + a i) {f : Nat → Nat → Cell} (hf : ∀ i' j', f i' j' = .int .i64 (tp d a i i')) {j' : Nat} (hj : j' < 1) : updF (updF f i 0 [.int .i64 x]) (i + d) 0 [.int .i64 y] j j' = .int .i64 (tp d a (i + 1) j) := by
 rw [updI hj]
 by_cases e : j = i + d
 ·rw [if_pos e, hy, e]
  unfold tp
  simp only [Nat.add_sub_cancel]
  rw [if_neg (by omega), if_neg (by omega), if_pos (by omega), if_neg (by omega)]
  congr 1
  omega
 ·rw [if_neg e, updI hj]
  by_cases e2 : j = i
  ·rw [if_pos e2, hx, e2]
   unfold tp
   congr 1
   rw [if_neg (show ¬ i < i by omega), if_pos (show i < i + 1 by omega)]
   by_cases c : d ≤ i ∧ i - d < i
   ·rw [if_pos c, if_pos (by omega)]; omega
   ·rw [if_neg c, if_neg (by omega)]; omega
  ·rw [if_neg e2, hf]
   unfold tp
   congr 1
   have A : (if d ≤ j ∧ j - d < i then a (j - d) else 0) = if d ≤ j ∧ j - d < i + 1 then a (j - d) else 0 := by
    by_cases c : d ≤ j ∧ j - d < i
    ·rw [if_pos c, if_pos (by omega)]
    ·rw [if_neg c, if_neg (by omega)]
   have B : (if j < i then a j else 0) = if j < i + 1 then a j else 0 := by
    by_cases c : j < i
    ·rw [if_pos c, if_pos (by omega)]
    ·rw [if_neg c, if_neg (by omega)]
   rw [A, B]
theorem tp_range {d : Nat} {a : Nat → Int} (ha : ∀ i, -1073741824 ≤ a i ∧ a i ≤ 1073741824) (i j : Nat) : -2147483648 ≤ tp d a i j ∧ tp d a i j ≤ 2147483648 := by
 unfold tp
 have h1 := ha (j - d)
 have h2 := ha j
 split <;> split <;> omega
theorem zero1 {i j : Nat} (hj : j < 1) : zeroF [.int .i64 0] i j = .int .i64 0 := by
 obtain rfl := Nat.lt_one_iff.1 hj
 rfl
def up (f : Nat → Int) (k : Nat) (x : Int) (j : Nat) : Int := if j = k then x else f j
theorem up_ok {f : Nat → Nat → Cell} {g g' : Nat → Int} {k : Nat} {x : Int} (hf : ∀ i j, f i j = .int .i64 (g i)) (hg : ∀ i, up g k x i = g' i) {i j : Nat} (hj : j < 1) : updF f k 0 [.int .i64 x] i j = .int .i64 (g' i) := by
 rw [updI hj, ← hg]
 unfold up
 split
 ·rfl
 ·exact hf i j
set_option maxHeartbeats 4000000 in
theorem times_ok {n d : Nat} {a : Nat → Int} (hn : n ≤ 4096) (h1 : 1 ≤ d) (hd : d ≤ 4096) (ha : ∀ i, -1073741824 ≤ a i ∧ a i ≤ 1073741824) : FnOK Tryz.prog false 65 [.c (iv n a), .c (.int .i64 d)] (.c (iv (n + d) (tp d a n))) := by
 have hT := tp_range (d := d) ha
 have t0 : ∀ j, Cell.int .i64 0 = .int .i64 (tp d a 0 j) := fun j => by unfold tp; rw [if_neg (by omega), if_neg (by omega)]; rfl
 have st : ∀ i j, up (up (tp d a i) i (tp d a i i - a i)) (i + d) (up (tp d a i) i (tp d a i i - a i) (i + d) + a i) j = tp d a (i + 1) j := fun i j => by
  have h := tp_step (d := d) (a := a) (i := i) (j := j) h1 rfl rfl (f := fun i' _ => .int .i64 (tp d a i i')) (fun _ _ => rfl) Nat.zero_lt_one
  rw [updI Nat.zero_lt_one, updI Nat.zero_lt_one] at h
  unfold up
  have e : (if i + d = i then tp d a i i - a i else tp d a i (i + d)) = tp d a i (i + d) := if_neg (by omega)
  rw [e]
  split at h
  ·rename_i c; rw [if_pos c]; exact (Cell.int.inj h).2
  ·rename_i c
   rw [if_neg c]
   split at h
   ·rename_i c; rw [if_pos c]; exact (Cell.int.inj h).2
   ·rename_i c; rw [if_neg c]; exact (Cell.int.inj h).2
 have hU : ∀ i, up (tp d a i) i (tp d a i i - a i) (i + d) = tp d a i (i + d) := fun i => if_neg (by omega)
 have hend : ∀ i : Nat, ¬ (i : Int) < n → i ≤ n → i = n := fun i h1 h2 => by omega
 obtain ⟨T, hTe⟩ : ∃ T, T = tp d a := ⟨_, rfl⟩
 rw [← hTe] at hT t0 st hU ⊢
 obtain ⟨U, hUe⟩ : ∃ U : Nat → Nat → Int, U = fun i => up (T i) i (T i i - a i) := ⟨_, rfl⟩
 have uo : ∀ i (f : Nat → Nat → Cell), (∀ x y, f x y = .int .i64 (T i x)) → ∀ x y, y < 1 → updF f i 0 [.int .i64 (T i i - a i)] x y = .int .i64 (U i x) := fun i f hf x y hy => up_ok hf (fun j => by rw [hUe]) hy
 have uo2 : ∀ i (f : Nat → Nat → Cell), (∀ x y, f x y = .int .i64 (U i x)) → ∀ x y, y < 1 → updF f (i + d) 0 [.int .i64 (U i (i + d) + a i)] x y = .int .i64 (T (i + 1) x) := fun i f hf x y hy => up_ok hf (fun j => by rw [hUe]; exact st i j) hy
 have hU : ∀ i, U i (i + d) = T i (i + d) := fun i => by rw [hUe]; exact hU i
 have hX : ∀ i, i = n → Sub (.c (iv (n + d) (T i))) (.c (iv (n + d) (T n))) := fun i e => by rw [e]; exact Sub.refl _
 clear hTe hUe st
 refine fn_okS (E := E0) E0_ok Tryz.func65 rfl (by kernel_rfl) ?_
 refine swp_seq0 E0_ok mixed (by kernel_rfl) ?_
 conv => whnf
 refine swp_seq0 E0_ok mixed (by kernel_rfl) ?_
 conv => whnf
 refine ⟨⟨by omega, by omega⟩, ?_⟩
 conv => whnf
 refine ⟨by omega, by omega, by omega, by show (8 : Int) * ((n : Int) + d) ≤ 281474976710656; omega, ?_⟩
 conv => whnf
 refine swp_seqS ?_
 refine swp_seq0 E0_ok mixed (by kernel_rfl) ?_
 conv => whnf
 refine swp_block ?_
 refine swp_loop (fun i : Nat => gst [(0, .c (iv n a)), (1, .c (.int .i64 d)), (5, .c (.gs 0 0)), (13, .c (iv n a)), (14, .c (.int .i64 n)), (15, .c (.int .i64 i))] [gI (n + d) (T i)]) (fun i => n - i) (fun i => i ≤ n) 0 (Weak.gen [some 0] rfl ⟨⟨_, rfl, rfl, rfl, rfl, rfl, fun x y hx hy => regE ((zero1 (i := x) hy).trans (t0 x)) rfl⟩, trivial⟩ ⟨.inl ⟨_, _, rfl, rfl, fun _ _ _ _ => rfl⟩, ⟨_, rfl, rfl⟩, ⟨_, rfl, rfl, rfl⟩, .inl ⟨_, _, rfl, rfl, fun _ _ _ _ => rfl⟩, ⟨_, rfl, rfl⟩, ⟨_, rfl, rfl⟩, trivial⟩) (Nat.zero_le _) fun i hi => ?_
 have uo := uo i
 have uo2 := uo2 i
 have hU := hU i
 have hT1 := hT i i
 have hT2 := hT i (i + d)
 have ha := ha i
 have hend := hend i
 have hX := hX i
 refine swp_seq0 E0_ok mixed (by kernel_rfl) ?_
 conv => whnf
 refine swp_seq0 E0_ok mixed (by kernel_rfl) ?_
 conv => whnf
 refine bcase (fun (h : decide ((i : Int) < n) = true) => ?_) fun (h : decide ((i : Int) < n) = false) => ?_
 ·have h := of_decide_eq_true h
  have m1 : n - (i + 1) < n - i := by omega
  have m2 : i + 1 ≤ n := by omega
  have hr : -9223372036854775808 ≤ U i (i + d) + a i ∧ U i (i + d) + a i < 9223372036854775808 := by omega
  conv => whnf
  refine swp_seqS (swp_block ?_)
  refine swp_seq0 E0_ok mixed (by kernel_rfl) ?_
  conv => whnf
  refine ⟨by omega, by omega, ?_⟩
  conv => whnf
  refine swp_seq E0_ok mixed (by kernel_rfl) ?_
  conv => whnf
  refine ⟨by omega, by show (i : Int) < ((n + d : Nat) : Int); omega, ?_⟩
  conv => whnf
  refine ⟨⟨by show (-9223372036854775808 : Int) ≤ T i i - a i; omega, by show T i i - a i < (9223372036854775808 : Int); omega⟩, ?_⟩
  conv => whnf
  refine ⟨by omega, by show (i : Int) < ((n + d : Nat) : Int); omega, ?_⟩
  conv => whnf
  refine ⟨gst [(0, .c (iv n a)), (1, .c (.int .i64 d)), (5, .c (.gs 0 0)), (6, .c (.int .i64 i)), (7, .c (.int .i64 (a i))), (13, .c (iv n a)), (14, .c (.int .i64 n)), (15, .c (.int .i64 i))] [gI (n + d) (U i)], Weak.gen [some 0] rfl ⟨⟨_, rfl, rfl, rfl, rfl, rfl, fun x y hx hy => regE (uo _ (fun _ _ => rfl) x y hy) rfl⟩, trivial⟩ ⟨.inl ⟨_, _, rfl, rfl, fun _ _ _ _ => rfl⟩, ⟨_, rfl, rfl⟩, ⟨_, rfl, rfl, rfl⟩, ⟨_, rfl, rfl⟩, ⟨_, rfl, rfl⟩, .inl ⟨_, _, rfl, rfl, fun _ _ _ _ => rfl⟩, ⟨_, rfl, rfl⟩, ⟨_, rfl, rfl⟩, trivial⟩, ?_⟩
  refine swp_of E0_ok mixed (by kernel_rfl) ?_
  conv => whnf
  refine ⟨⟨by omega, by omega⟩, ?_⟩
  conv => whnf
  refine ⟨by omega, by show (i : Int) + d < ((n + d : Nat) : Int); omega, ?_⟩
  conv => whnf
  refine ⟨hr, ?_⟩
  conv => whnf
  refine ⟨by omega, by show (i : Int) + d < ((n + d : Nat) : Int); omega, ?_⟩
  conv => whnf
  refine swp_of E0_ok mixed (by kernel_rfl) ?_
  conv => whnf
  refine ⟨⟨by omega, by omega⟩, ?_⟩
  conv => whnf
  exact ⟨i + 1, m1, Weak.gen [some 0] rfl ⟨⟨_, rfl, rfl, rfl, rfl, rfl, fun x y hx hy => regE (uo2 _ (fun _ _ => rfl) x y hy) rfl⟩, trivial⟩ ⟨.inl ⟨_, _, rfl, rfl, fun _ _ _ _ => rfl⟩, ⟨_, rfl, rfl⟩, ⟨_, rfl, rfl, rfl⟩, .inl ⟨_, _, rfl, rfl, fun _ _ _ _ => rfl⟩, ⟨_, rfl, rfl⟩, ⟨_, rfl, rfl⟩, trivial⟩, m2⟩
 ·have h := of_decide_eq_false h
  have hX := hX (hend h hi)
  conv => whnf
  refine swp_seq0 E0_ok mixed (by kernel_rfl) ?_
  conv => whnf
  refine swp_of E0_ok mixed (by kernel_rfl) ?_
  conv => whnf
  refine ⟨fun _ _ _ _ => rfl, ?_⟩
  conv => whnf
  exact ⟨rfl, hX⟩
end Dv
end Go.Proofs.YtmbejakmeijcbaaGreat
/- slices.Clone in its caller's blocks; a region with a call of that kind; cyclotomic.over. -/
namespace Go.Proofs.YtmbejakmeijcbaaGreat
open Go.RowKit
theorem swp_go {E : Env} (hE : EnvOK E) {N id : Nat} {ops : Array Oper} {pre post : List Oper} {o : Oper} (hl : ops.toList = pre ++ o :: post) (hg : o.guard = none) (hdst : (ops.toList.all (dstB N)) = true) {σ : St} {R : Exit → St → Prop}
  (h : aops E ops pre σ fun τ => ∃ τ', OpGo E o τ τ' ∧ aops E ops post τ' (R .normal)) : Swp E N (.region id ops false) σ R := by
 refine ⟨fun C a w h1 h2 h3 hr => ?_⟩
 have hdo : ∀ o' ∈ ops.toList, dstOK C.N o'.dst := by
  intro o' ho d hd'
  have := List.all_eq_true.1 hdst o' ho
  unfold dstB at this
  rw [hd'] at this
  rw [h3]
  simpa using this
 refine wp_region_list ?_
 rw [hl] at hdo ⊢
 refine aops_app hE h1 (fun τ a w hk hrel => ?_) pre σ a w (fun o' ho => hdo o' (by simp [ho])) h hr
 obtain ⟨τ', hgo, hrest⟩ := hk
 unfold wpList
 rw [if_pos (by simp [Region.wanted, hg])]
 refine .inl (hgo h1 (hdo o (by simp)) hrel fun a' w' hrel' => ?_)
 exact aops_sound hE h1 (fun σ a w hk hrel => ⟨σ, hrel, hk⟩) post _ a' w' (fun o' ho => hdo o' (by simp [ho])) hrest hrel'
namespace Dv
theorem app00 {f : Nat → Nat → Cell} {a : Nat → Int} {x y : Nat} : appF 0 f (fun i _ => .int .i64 (a i)) x y = .int .i64 (a x) := by
 unfold appF
 rw [if_neg (by omega), Nat.sub_zero]
set_option maxHeartbeats 4000000 in
theorem clone_s {n : Nat} {a : Nat → Int} (h0 : 0 < n) (hn : n ≤ 1048576) : FnS Tryz.prog false 100 [] [.c (iv n a)] (.c (.gs 0 0)) [gb (gI n a)] := by
 refine fns_okS (E := E0) E0_ok Tryz.func100 rfl (by kernel_rfl) rfl ?_
 refine swp_of E0_ok mixed (by kernel_rfl) ?_
 conv => whnf
 refine ⟨h0, ?_⟩
 conv => whnf
 refine ⟨by show 0 + n ≤ 16777216; omega, fun x y hx hy => ?_, ?_⟩
 ·exact ⟨rfl, fun h => by cases h⟩
 conv => whnf
 show Weak 0 ⟨_, _⟩ (gst [(0, V.c (.gs 0 0))] [gI n a])
 exact Weak.gen [some 0] rfl ⟨⟨_, rfl, rfl, rfl, Nat.zero_add n, rfl, fun x y hx hy => regE (app00 (f := fun _ _ => Cell.any) (y := y)) rfl⟩, trivial⟩ ⟨⟨_, rfl, rfl, rfl⟩, trivial⟩
def e6 : Nat → Int
 | 0 => -1
 | i + 1 => i
theorem e6_eq (k : Nat) : (k : Int) - 1 = e6 k := by
 cases k with
 | zero => rfl
 | succ i => show ((i + 1 : Nat) : Int) - 1 = (i : Int); omega
def oF (d t : Nat) (q : Nat → Int) (k j : Nat) : Int := if k ≤ j ∧ j < t then tp d q t j + q j else tp d q t j
def oQ (q : Nat → Int) (k j : Nat) : Int := if k ≤ j then q j else 0
theorem oF_at {d t i : Nat} {q : Nat → Int} (h1 : 1 ≤ d) (hi : i < t) : oF d t q (i + 1) (i + d) = q i := by
 unfold oF tp
 rw [Nat.add_sub_cancel]
 by_cases c : i + d < t
 ·rw [if_pos ⟨by omega, c⟩, if_pos ⟨by omega, hi⟩, if_pos c]; omega
 ·rw [if_neg (by omega), if_pos ⟨by omega, hi⟩, if_neg c]; omega
theorem oF_next {d t i : Nat} {q : Nat → Int} (hi : i < t) (j : Nat) : up (oF d t q (i + 1)) i (oF d t q (i + 1) i + oQ q i i) j = oF d t q i j := by
 unfold up oF oQ
 by_cases e : j = i
 ·rw [if_pos e, e, if_neg (by omega), if_pos (Nat.le_refl i), if_pos ⟨Nat.le_refl i, hi⟩]
 ·rw [if_neg e]
  by_cases c : i ≤ j ∧ j < t
  ·rw [if_pos c, if_pos (by omega)]
  ·rw [if_neg c, if_neg (by omega)]
theorem oQ_next {i : Nat} {q : Nat → Int} (j : Nat) : up (oQ q (i + 1)) i (q i) j = oQ q i j := by
 unfold up oQ
 by_cases e : j = i
 ·rw [if_pos e, e, if_pos (Nat.le_refl i)]
 ·rw [if_neg e]
  by_cases c : i ≤ j
  ·rw [if_pos c, if_pos (by omega)]
  ·rw [if_neg c, if_neg (by omega)]
set_option maxHeartbeats 4000000 in
set_option maxRecDepth 100000 in
theorem over_ok {t d : Nat} {q : Nat → Int} (ht : t ≤ 4096) (h1 : 1 ≤ d) (hd : d ≤ 4096) (ha : ∀ i, -1073741824 ≤ q i ∧ q i ≤ 1073741824) : FnOK Tryz.prog false 66 [.c (iv (t + d) (tp d q t)), .c (.int .i64 d)] (.c (iv t q)) := by
 have hC := clone_s (n := t + d) (a := tp d q t) (by omega) (by omega)
 have s0 : ∀ x, tp d q t x = oF d t q t x := fun x => by unfold oF; rw [if_neg (by omega)]
 have s1 : ∀ x, x < t → Cell.int .i64 0 = .int .i64 (oQ q t x) := fun x hx => by unfold oQ; rw [if_neg (by omega)]
 have s2 : ∀ i, i < t → oF d t q (i + 1) (i + d) = q i := fun i hi => oF_at h1 hi
 have s3 : ∀ i, i < t → ∀ j, up (oF d t q (i + 1)) i (oF d t q (i + 1) i + oQ q i i) j = oF d t q i j := fun i hi j => oF_next hi j
 have s4 : ∀ i j, up (oQ q (i + 1)) i (q i) j = oQ q i j := fun i j => oQ_next j
 have s5 : ∀ i, i < t → -9223372036854775808 ≤ oF d t q (i + 1) i + oQ q i i ∧ oF d t q (i + 1) i + oQ q i i < 9223372036854775808 := fun i hi => by
  have h1 := tp_range (d := d) ha t i
  have h2 := ha i
  unfold oF oQ
  rw [if_neg (by omega), if_pos (Nat.le_refl i)]
  omega
 have s6 : ∀ x, Cell.int .i64 (oQ q 0 x) = .int .i64 (q x) := fun x => by unfold oQ; rw [if_pos (Nat.zero_le x)]
 have hX : Sub (.c (iv t (oQ q 0))) (.c (iv t q)) := by
  have e : oQ q 0 = q := funext fun x => by unfold oQ; rw [if_pos (Nat.zero_le x)]
  rw [e]; exact Sub.refl _
 have nt : (((t + d : Nat) : Int) - (d : Int)).toNat = t := by omega
 obtain ⟨T, hT⟩ : ∃ T, T = tp d q t := ⟨_, rfl⟩
 rw [← hT] at hC s0 ⊢
 obtain ⟨Ff, hF⟩ : ∃ Ff, Ff = oF d t q := ⟨_, rfl⟩
 rw [← hF] at s0 s2 s3 s5
 obtain ⟨Q, hQ⟩ : ∃ Q, Q = oQ q := ⟨_, rfl⟩
 rw [← hQ] at s1 s3 s4 s5 s6 hX
 clear hT hF hQ
 refine fn_okS (E := E0) E0_ok Tryz.func66 rfl (by kernel_rfl) ?_
 refine swp_seq0 E0_ok mixed (by kernel_rfl) ?_
 conv => whnf
 refine swp_seqS (swp_go E0_ok (pre := [_]) (post := [_]) rfl rfl (by kernel_rfl) ?_)
 conv => whnf
 refine ⟨_, OpGo.call (f := 100) (cs := []) rfl rfl hC, ?_⟩
 conv => whnf
 refine Swp.weak (σ2 := gst [(0, .c (.gs 0 0)), (1, .c (.int .i64 d))] [gI (t + d) T]) (Weak.gen [some 0] rfl ⟨⟨_, rfl, rfl, rfl, rfl, rfl, fun x y hx hy => regE rfl rfl⟩, trivial⟩ ⟨⟨_, rfl, rfl, rfl⟩, ⟨_, rfl, rfl⟩, trivial⟩) ?_
 refine swp_seq E0_ok mixed (by kernel_rfl) ?_
 conv => whnf
 refine ⟨⟨by show (-9223372036854775808 : Int) ≤ ((t + d : Nat) : Int) - d; omega, by show ((t + d : Nat) : Int) - d < (9223372036854775808 : Int); omega⟩, ?_⟩
 conv => whnf
 refine ⟨by show (0 : Int) ≤ ((t + d : Nat) : Int) - d; omega, by show ((t + d : Nat) : Int) - d ≤ ((t + d : Nat) : Int) - d; omega, by show ((t + d : Nat) : Int) - d ≤ 281474976710656; omega, by show (8 : Int) * (((t + d : Nat) : Int) - d) ≤ 281474976710656; omega, ?_⟩
 conv => whnf
 refine ⟨gst [(0, .c (.gs 0 0)), (1, .c (.int .i64 d)), (5, .c (.gs 1 0))] [gI (t + d) T, gI t (Q t)], Weak.gen [some 0, some 1] rfl ⟨⟨_, rfl, rfl, rfl, rfl, rfl, fun x y hx hy => regE rfl rfl⟩, ⟨_, rfl, rfl, rfl, nt, rfl, fun x y hx hy => regE ((zero1 (i := x) hy).trans (s1 x hx)) rfl⟩, trivial⟩ ⟨⟨_, rfl, rfl, rfl⟩, ⟨_, rfl, rfl⟩, ⟨_, rfl, rfl, rfl⟩, trivial⟩, ?_⟩
 refine swp_seqS ?_
 refine swp_seq0 E0_ok mixed (by kernel_rfl) ?_
 conv => whnf
 refine ⟨⟨by show (-9223372036854775808 : Int) ≤ (t : Int) - 1; omega, by show (t : Int) - 1 < (9223372036854775808 : Int); omega⟩, ?_⟩
 conv => whnf
 refine swp_block ?_
 refine swp_loop (fun k : Nat => gst [(0, .c (.gs 0 0)), (1, .c (.int .i64 d)), (5, .c (.gs 1 0)), (6, .c (.int .i64 (e6 k)))] [gI (t + d) (Ff k), gI t (Q k)]) (fun k => k) (fun k => k ≤ t) t (Weak.gen [some 0, some 1] rfl ⟨⟨_, rfl, rfl, rfl, rfl, rfl, fun x y hx hy => regE (congrArg (Cell.int .i64) (s0 x)) rfl⟩, ⟨_, rfl, rfl, rfl, rfl, rfl, fun x y hx hy => regE rfl rfl⟩, trivial⟩ ⟨⟨_, rfl, rfl, rfl⟩, ⟨_, rfl, rfl⟩, ⟨_, rfl, rfl, rfl⟩, ⟨_, rfl, e6_eq t⟩, trivial⟩) (Nat.le_refl t) fun k hk => ?_
 match k, hk with
 | 0, _ =>
  refine swp_seqS ?_
  refine swp_seq0 E0_ok mixed (by kernel_rfl) ?_
  conv => whnf
  refine swp_of E0_ok mixed (by kernel_rfl) ?_
  conv => whnf
  refine swp_of E0_ok mixed (by kernel_rfl) ?_
  conv => whnf
  refine ⟨fun _ _ _ _ => rfl, ?_⟩
  conv => whnf
  exact ⟨rfl, hX⟩
 | i + 1, hk =>
  have hi : i < t := hk
  have s4 : ∀ j, up (Q (i + 1)) i (Ff (i + 1) (i + d)) j = Q i j := fun j => by rw [s2 i hi]; exact s4 i j
  have s3 := s3 i hi
  have s5 := s5 i hi
  have m1 : i < i + 1 := by omega
  have m2 : i ≤ t := by omega
  refine swp_seqS ?_
  refine swp_seq0 E0_ok mixed (by kernel_rfl) ?_
  conv => whnf
  refine swp_of E0_ok mixed (by kernel_rfl) ?_
  conv => whnf
  refine swp_seqS (swp_block ?_)
  refine swp_seq E0_ok mixed (by kernel_rfl) ?_
  conv => whnf
  refine ⟨⟨by show (-9223372036854775808 : Int) ≤ (i : Int) + d; omega, by show (i : Int) + d < (9223372036854775808 : Int); omega⟩, ?_⟩
  conv => whnf
  refine ⟨by show (0 : Int) ≤ (i : Int) + d; omega, by show (i : Int) + d < ((t + d : Nat) : Int); omega, ?_⟩
  conv => whnf
  refine ⟨by show (0 : Int) ≤ (i : Int); omega, by show (i : Int) < (t : Int); omega, ?_⟩
  conv => whnf
  refine ⟨gst [(0, .c (.gs 0 0)), (1, .c (.int .i64 d)), (5, .c (.gs 1 0)), (6, .c (.int .i64 i))] [gI (t + d) (Ff (i + 1)), gI t (Q i)], Weak.gen [some 0, some 1] rfl ⟨⟨_, rfl, rfl, rfl, rfl, rfl, fun x y hx hy => regE rfl rfl⟩, ⟨_, rfl, rfl, rfl, rfl, rfl, fun x y hx hy => regE (up_ok (fun _ _ => rfl) s4 hy) rfl⟩, trivial⟩ ⟨⟨_, rfl, rfl, rfl⟩, ⟨_, rfl, rfl⟩, ⟨_, rfl, rfl, rfl⟩, ⟨_, rfl, rfl⟩, trivial⟩, ?_⟩
  refine swp_of E0_ok mixed (by kernel_rfl) ?_
  conv => whnf
  refine ⟨by omega, by show (i : Int) < ((t + d : Nat) : Int); omega, ?_⟩
  conv => whnf
  refine ⟨by omega, by show (i : Int) < (t : Int); omega, ?_⟩
  conv => whnf
  refine ⟨s5, ?_⟩
  conv => whnf
  refine ⟨by omega, by show (i : Int) < ((t + d : Nat) : Int); omega, ?_⟩
  conv => whnf
  refine swp_of E0_ok mixed (by kernel_rfl) ?_
  conv => whnf
  refine ⟨⟨by omega, by omega⟩, ?_⟩
  conv => whnf
  exact ⟨i, m1, Weak.gen [some 0, some 1] rfl ⟨⟨_, rfl, rfl, rfl, rfl, rfl, fun x y hx hy => regE (up_ok (fun _ _ => rfl) s3 hy) rfl⟩, ⟨_, rfl, rfl, rfl, rfl, rfl, fun x y hx hy => regE rfl rfl⟩, trivial⟩ ⟨⟨_, rfl, rfl, rfl⟩, ⟨_, rfl, rfl⟩, ⟨_, rfl, rfl, rfl⟩, ⟨_, rfl, e6_eq i⟩, trivial⟩, m2⟩
end Dv
end Go.Proofs.YtmbejakmeijcbaaGreat
/- times and over as a table for the evaluator. -/
namespace Go.Proofs.YtmbejakmeijcbaaGreat
open Go.RowKit
theorem FnOK.same {P : Program} {r : Bool} {f : FuncId} {x y d X : V} (h : FnOK P r f [y, d] X) (hs : sameV x y = true) : FnOK P r f [x, d] X := by
 refine ⟨h.1, fun D w vs h1 h2 hargs => h.2 D w vs h1 h2 ?_⟩
 match vs, hargs with
 | [u, v], hargs => exact ⟨sameV_ok x y hs D w u hargs.1, hargs.2⟩
 | [], hargs => exact hargs.elim
 | [_], hargs => exact hargs.2.elim
 | _ :: _ :: _ :: _, hargs => exact hargs.2.2.elim
def smallI (x : Int) : Bool := decide (-1073741824 ≤ x) && decide (x ≤ 1073741824)
def smallL (l : List Int) : Bool := l.all smallI
theorem smallL_ok {l : List Int} (h : smallL l = true) (i : Nat) : -1073741824 ≤ l.getD i 0 ∧ l.getD i 0 ≤ 1073741824 := by
 rw [List.getD_eq_getElem?_getD]
 cases hx : l[i]? with
 | none => exact ⟨by decide, by decide⟩
 | some x =>
  have := List.all_eq_true.1 h x (List.mem_of_getElem? hx)
  unfold smallI at this
  simp only [Bool.and_eq_true, decide_eq_true_eq] at this
  exact this
def ovL (d : Nat) (f : Nat → Int) : Nat → List Int → List Int
 | 0, acc => acc
 | i + 1, acc => ovL d f i ((f (i + d) + acc.getD (d - 1) 0) :: acc)
def tmX (n d : Nat) (g : Nat → Nat → Cell) : Option V :=
 let l := (List.range n).map fun i => valC (g i 0)
 match decide (n ≤ 4096) && decide (1 ≤ d) && decide (d ≤ 4096) && smallL l && sameV (.c (.row 1 n g)) (.c (Dv.iv n fun i => l.getD i 0)) with
 | true => some (.c (Dv.iv (n + d) (Dv.tp d (fun i => l.getD i 0) n)))
 | false => none
def ovX (n d : Nat) (g : Nat → Nat → Cell) : Option V :=
 let l := ovL d (fun i => valC (g i 0)) (n - d) []
 match decide (n - d ≤ 4096) && decide (1 ≤ d) && decide (d ≤ 4096) && smallL l && sameV (.c (.row 1 n g)) (.c (Dv.iv (n - d + d) (Dv.tp d (fun i => l.getD i 0) (n - d)))) with
 | true => some (.c (Dv.iv (n - d) fun i => l.getD i 0))
 | false => none
theorem tmX_ok {n d : Nat} {g : Nat → Nat → Cell} {X : V} (h : tmX n d g = some X) : FnOK Tryz.prog false 65 [.c (.row 1 n g), .c (.int .i64 d)] X := by
 unfold tmX at h
 simp only at h
 split at h
 ·rename_i hb
  cases h
  simp only [Bool.and_eq_true, decide_eq_true_eq] at hb
  obtain ⟨⟨⟨⟨h1, h2⟩, h3⟩, h4⟩, h5⟩ := hb
  exact (Dv.times_ok h1 h2 h3 (smallL_ok h4)).same h5
 ·cases h
theorem ovX_ok {n d : Nat} {g : Nat → Nat → Cell} {X : V} (h : ovX n d g = some X) : FnOK Tryz.prog false 66 [.c (.row 1 n g), .c (.int .i64 d)] X := by
 unfold ovX at h
 simp only at h
 split at h
 ·rename_i hb
  cases h
  simp only [Bool.and_eq_true, decide_eq_true_eq] at hb
  obtain ⟨⟨⟨⟨h1, h2⟩, h3⟩, h4⟩, h5⟩ := hb
  exact (Dv.over_ok h1 h2 h3 (smallL_ok h4)).same h5
 ·cases h
def orcP (f : FuncId) (l : List V) : Option V := match orcC f l with
 | some X => some X
 | none => match l with
  | [.c (.row 1 n g), .c (.int .i64 (.ofNat d))] => match f == 65 with
   | true => tmX n d g
   | false => match f == 66 with
    | true => ovX n d g
    | false => none
  | _ => none
theorem orcP_ok (f : FuncId) (l : List V) (X : V) (h : orcP f l = some X) : FnOK Tryz.prog false f l X := by
 unfold orcP at h
 split at h
 ·rename_i Y hY
  cases h
  exact orcC_ok f l _ hY
 ·split at h
  ·rename_i n g d
   split at h
   ·rename_i hf
    rw [beq_iff_eq.1 hf]
    exact tmX_ok h
   ·split at h
    ·rename_i hf
     rw [beq_iff_eq.1 hf]
     exact ovX_ok h
    ·cases h
  ·cases h
def dvIn : List FuncId := [95, 96, 97, 139, 172, 98, 141, 99, 106, 183, 160]
def dvI (f : FuncId) : Bool := dvIn.contains f
abbrev lf (l : List Int) (i : Nat) : Int := l.getD i 0
end Go.Proofs.YtmbejakmeijcbaaGreat
