/- The 26 cyclotomic fields as functions of the order; the lifts between them. -/
import Derived.Test.YtmbejakmeijcbaaGreatZl25
namespace Go.Proofs.YtmbejakmeijcbaaGreat
open Go.RowKit
namespace Rf
def dOf : Nat → Nat
 | 1 => 1
 | 2 => 1
 | 3 => 2
 | 4 => 2
 | 5 => 4
 | 6 => 2
 | 7 => 6
 | 8 => 4
 | 9 => 6
 | 10 => 4
 | 11 => 10
 | 12 => 4
 | 13 => 12
 | 14 => 6
 | 15 => 8
 | 16 => 8
 | 18 => 6
 | 20 => 8
 | 21 => 12
 | 22 => 10
 | 24 => 8
 | 26 => 12
 | 28 => 12
 | 30 => 8
 | 36 => 12
 | 42 => 12
 | _ => 0
def phOf : Nat → List Int
 | 1 => Q.ph_1
 | 2 => Q.ph_2
 | 3 => Q.ph_3
 | 4 => Q.ph_4
 | 5 => Q.ph_5
 | 6 => Q.ph_6
 | 7 => Q.ph_7
 | 8 => Q.ph_8
 | 9 => Q.ph_9
 | 10 => Q.ph_10
 | 11 => Q.ph_11
 | 12 => Q.ph_12
 | 13 => Q.ph_13
 | 14 => Q.ph_14
 | 15 => Q.ph_15
 | 16 => Q.ph_16
 | 18 => Q.ph_18
 | 20 => Q.ph_20
 | 21 => Q.ph_21
 | 22 => Q.ph_22
 | 24 => Q.ph_24
 | 26 => Q.ph_26
 | 28 => Q.ph_28
 | 30 => Q.ph_30
 | 36 => Q.ph_36
 | 42 => Q.ph_42
 | _ => []
def tbOf : Nat → List (List Int)
 | 1 => Q.tb_1
 | 2 => Q.tb_2
 | 3 => Q.tb_3
 | 4 => Q.tb_4
 | 5 => Q.tb_5
 | 6 => Q.tb_6
 | 7 => Q.tb_7
 | 8 => Q.tb_8
 | 9 => Q.tb_9
 | 10 => Q.tb_10
 | 11 => Q.tb_11
 | 12 => Q.tb_12
 | 13 => Q.tb_13
 | 14 => Q.tb_14
 | 15 => Q.tb_15
 | 16 => Q.tb_16
 | 18 => Q.tb_18
 | 20 => Q.tb_20
 | 21 => Q.tb_21
 | 22 => Q.tb_22
 | 24 => Q.tb_24
 | 26 => Q.tb_26
 | 28 => Q.tb_28
 | 30 => Q.tb_30
 | 36 => Q.tb_36
 | 42 => Q.tb_42
 | _ => []
theorem cy_at {n : Nat} (h : n ∈ ordsL) : Cy n (dOf n) (phOf n) (tbOf n) := by
 simp only [ordsL, List.mem_cons, List.not_mem_nil, or_false] at h
 rcases h with rfl | rfl | rfl | rfl | rfl | rfl | rfl | rfl | rfl | rfl | rfl | rfl | rfl | rfl | rfl | rfl | rfl | rfl | rfl | rfl | rfl | rfl | rfl | rfl | rfl | rfl
 ·exact cy_1
 ·exact cy_2
 ·exact cy_3
 ·exact cy_4
 ·exact cy_5
 ·exact cy_6
 ·exact cy_7
 ·exact cy_8
 ·exact cy_9
 ·exact cy_10
 ·exact cy_11
 ·exact cy_12
 ·exact cy_13
 ·exact cy_14
 ·exact cy_15
 ·exact cy_16
 ·exact cy_18
 ·exact cy_20
 ·exact cy_21
 ·exact cy_22
 ·exact cy_24
 ·exact cy_26
 ·exact cy_28
 ·exact cy_30
 ·exact cy_36
 ·exact cy_42
def LiftAt (n m : Nat) : Prop := Q.homB (dOf n) m (dOf m) (m / n) (phOf n) (tbOf m) = true ∧ ∃ (G : List (List Int)) (D : Int), Q.backB m (dOf n) (dOf m) (m / n) (tbOf m) G D = true
theorem lift_at_1 {m : Nat} (h : m ∈ ordsL) (h2 : m % 1 = 0) : LiftAt 1 m := by
 simp only [ordsL, List.mem_cons, List.not_mem_nil, or_false] at h
 rcases h with rfl | rfl | rfl | rfl | rfl | rfl | rfl | rfl | rfl | rfl | rfl | rfl | rfl | rfl | rfl | rfl | rfl | rfl | rfl | rfl | rfl | rfl | rfl | rfl | rfl | rfl
 ·exact ⟨Q.lift_1_1.1, _, _, Q.lift_1_1.2⟩
 ·exact ⟨Q.lift_1_2.1, _, _, Q.lift_1_2.2⟩
 ·exact ⟨Q.lift_1_3.1, _, _, Q.lift_1_3.2⟩
 ·exact ⟨Q.lift_1_4.1, _, _, Q.lift_1_4.2⟩
 ·exact ⟨Q.lift_1_5.1, _, _, Q.lift_1_5.2⟩
 ·exact ⟨Q.lift_1_6.1, _, _, Q.lift_1_6.2⟩
 ·exact ⟨Q.lift_1_7.1, _, _, Q.lift_1_7.2⟩
 ·exact ⟨Q.lift_1_8.1, _, _, Q.lift_1_8.2⟩
 ·exact ⟨Q.lift_1_9.1, _, _, Q.lift_1_9.2⟩
 ·exact ⟨Q.lift_1_10.1, _, _, Q.lift_1_10.2⟩
 ·exact ⟨Q.lift_1_11.1, _, _, Q.lift_1_11.2⟩
 ·exact ⟨Q.lift_1_12.1, _, _, Q.lift_1_12.2⟩
 ·exact ⟨Q.lift_1_13.1, _, _, Q.lift_1_13.2⟩
 ·exact ⟨Q.lift_1_14.1, _, _, Q.lift_1_14.2⟩
 ·exact ⟨Q.lift_1_15.1, _, _, Q.lift_1_15.2⟩
 ·exact ⟨Q.lift_1_16.1, _, _, Q.lift_1_16.2⟩
 ·exact ⟨Q.lift_1_18.1, _, _, Q.lift_1_18.2⟩
 ·exact ⟨Q.lift_1_20.1, _, _, Q.lift_1_20.2⟩
 ·exact ⟨Q.lift_1_21.1, _, _, Q.lift_1_21.2⟩
 ·exact ⟨Q.lift_1_22.1, _, _, Q.lift_1_22.2⟩
 ·exact ⟨Q.lift_1_24.1, _, _, Q.lift_1_24.2⟩
 ·exact ⟨Q.lift_1_26.1, _, _, Q.lift_1_26.2⟩
 ·exact ⟨Q.lift_1_28.1, _, _, Q.lift_1_28.2⟩
 ·exact ⟨Q.lift_1_30.1, _, _, Q.lift_1_30.2⟩
 ·exact ⟨Q.lift_1_36.1, _, _, Q.lift_1_36.2⟩
 ·exact ⟨Q.lift_1_42.1, _, _, Q.lift_1_42.2⟩
theorem lift_at_2 {m : Nat} (h : m ∈ ordsL) (h2 : m % 2 = 0) : LiftAt 2 m := by
 simp only [ordsL, List.mem_cons, List.not_mem_nil, or_false] at h
 rcases h with rfl | rfl | rfl | rfl | rfl | rfl | rfl | rfl | rfl | rfl | rfl | rfl | rfl | rfl | rfl | rfl | rfl | rfl | rfl | rfl | rfl | rfl | rfl | rfl | rfl | rfl
 ·exact absurd h2 (by decide)
 ·exact ⟨Q.lift_2_2.1, _, _, Q.lift_2_2.2⟩
 ·exact absurd h2 (by decide)
 ·exact ⟨Q.lift_2_4.1, _, _, Q.lift_2_4.2⟩
 ·exact absurd h2 (by decide)
 ·exact ⟨Q.lift_2_6.1, _, _, Q.lift_2_6.2⟩
 ·exact absurd h2 (by decide)
 ·exact ⟨Q.lift_2_8.1, _, _, Q.lift_2_8.2⟩
 ·exact absurd h2 (by decide)
 ·exact ⟨Q.lift_2_10.1, _, _, Q.lift_2_10.2⟩
 ·exact absurd h2 (by decide)
 ·exact ⟨Q.lift_2_12.1, _, _, Q.lift_2_12.2⟩
 ·exact absurd h2 (by decide)
 ·exact ⟨Q.lift_2_14.1, _, _, Q.lift_2_14.2⟩
 ·exact absurd h2 (by decide)
 ·exact ⟨Q.lift_2_16.1, _, _, Q.lift_2_16.2⟩
 ·exact ⟨Q.lift_2_18.1, _, _, Q.lift_2_18.2⟩
 ·exact ⟨Q.lift_2_20.1, _, _, Q.lift_2_20.2⟩
 ·exact absurd h2 (by decide)
 ·exact ⟨Q.lift_2_22.1, _, _, Q.lift_2_22.2⟩
 ·exact ⟨Q.lift_2_24.1, _, _, Q.lift_2_24.2⟩
 ·exact ⟨Q.lift_2_26.1, _, _, Q.lift_2_26.2⟩
 ·exact ⟨Q.lift_2_28.1, _, _, Q.lift_2_28.2⟩
 ·exact ⟨Q.lift_2_30.1, _, _, Q.lift_2_30.2⟩
 ·exact ⟨Q.lift_2_36.1, _, _, Q.lift_2_36.2⟩
 ·exact ⟨Q.lift_2_42.1, _, _, Q.lift_2_42.2⟩
theorem lift_at_3 {m : Nat} (h : m ∈ ordsL) (h2 : m % 3 = 0) : LiftAt 3 m := by
 simp only [ordsL, List.mem_cons, List.not_mem_nil, or_false] at h
 rcases h with rfl | rfl | rfl | rfl | rfl | rfl | rfl | rfl | rfl | rfl | rfl | rfl | rfl | rfl | rfl | rfl | rfl | rfl | rfl | rfl | rfl | rfl | rfl | rfl | rfl | rfl
 ·exact absurd h2 (by decide)
 ·exact absurd h2 (by decide)
 ·exact ⟨Q.lift_3_3.1, _, _, Q.lift_3_3.2⟩
 ·exact absurd h2 (by decide)
 ·exact absurd h2 (by decide)
 ·exact ⟨Q.lift_3_6.1, _, _, Q.lift_3_6.2⟩
 ·exact absurd h2 (by decide)
 ·exact absurd h2 (by decide)
 ·exact ⟨Q.lift_3_9.1, _, _, Q.lift_3_9.2⟩
 ·exact absurd h2 (by decide)
 ·exact absurd h2 (by decide)
 ·exact ⟨Q.lift_3_12.1, _, _, Q.lift_3_12.2⟩
 ·exact absurd h2 (by decide)
 ·exact absurd h2 (by decide)
 ·exact ⟨Q.lift_3_15.1, _, _, Q.lift_3_15.2⟩
 ·exact absurd h2 (by decide)
 ·exact ⟨Q.lift_3_18.1, _, _, Q.lift_3_18.2⟩
 ·exact absurd h2 (by decide)
 ·exact ⟨Q.lift_3_21.1, _, _, Q.lift_3_21.2⟩
 ·exact absurd h2 (by decide)
 ·exact ⟨Q.lift_3_24.1, _, _, Q.lift_3_24.2⟩
 ·exact absurd h2 (by decide)
 ·exact absurd h2 (by decide)
 ·exact ⟨Q.lift_3_30.1, _, _, Q.lift_3_30.2⟩
 ·exact ⟨Q.lift_3_36.1, _, _, Q.lift_3_36.2⟩
 ·exact ⟨Q.lift_3_42.1, _, _, Q.lift_3_42.2⟩
theorem lift_at_4 {m : Nat} (h : m ∈ ordsL) (h2 : m % 4 = 0) : LiftAt 4 m := by
 simp only [ordsL, List.mem_cons, List.not_mem_nil, or_false] at h
 rcases h with rfl | rfl | rfl | rfl | rfl | rfl | rfl | rfl | rfl | rfl | rfl | rfl | rfl | rfl | rfl | rfl | rfl | rfl | rfl | rfl | rfl | rfl | rfl | rfl | rfl | rfl
 ·exact absurd h2 (by decide)
 ·exact absurd h2 (by decide)
 ·exact absurd h2 (by decide)
 ·exact ⟨Q.lift_4_4.1, _, _, Q.lift_4_4.2⟩
 ·exact absurd h2 (by decide)
 ·exact absurd h2 (by decide)
 ·exact absurd h2 (by decide)
 ·exact ⟨Q.lift_4_8.1, _, _, Q.lift_4_8.2⟩
 ·exact absurd h2 (by decide)
 ·exact absurd h2 (by decide)
 ·exact absurd h2 (by decide)
 ·exact ⟨Q.lift_4_12.1, _, _, Q.lift_4_12.2⟩
 ·exact absurd h2 (by decide)
 ·exact absurd h2 (by decide)
 ·exact absurd h2 (by decide)
 ·exact ⟨Q.lift_4_16.1, _, _, Q.lift_4_16.2⟩
 ·exact absurd h2 (by decide)
 ·exact ⟨Q.lift_4_20.1, _, _, Q.lift_4_20.2⟩
 ·exact absurd h2 (by decide)
 ·exact absurd h2 (by decide)
 ·exact ⟨Q.lift_4_24.1, _, _, Q.lift_4_24.2⟩
 ·exact absurd h2 (by decide)
 ·exact ⟨Q.lift_4_28.1, _, _, Q.lift_4_28.2⟩
 ·exact absurd h2 (by decide)
 ·exact ⟨Q.lift_4_36.1, _, _, Q.lift_4_36.2⟩
 ·exact absurd h2 (by decide)
theorem lift_at_5 {m : Nat} (h : m ∈ ordsL) (h2 : m % 5 = 0) : LiftAt 5 m := by
 simp only [ordsL, List.mem_cons, List.not_mem_nil, or_false] at h
 rcases h with rfl | rfl | rfl | rfl | rfl | rfl | rfl | rfl | rfl | rfl | rfl | rfl | rfl | rfl | rfl | rfl | rfl | rfl | rfl | rfl | rfl | rfl | rfl | rfl | rfl | rfl
 ·exact absurd h2 (by decide)
 ·exact absurd h2 (by decide)
 ·exact absurd h2 (by decide)
 ·exact absurd h2 (by decide)
 ·exact ⟨Q.lift_5_5.1, _, _, Q.lift_5_5.2⟩
 ·exact absurd h2 (by decide)
 ·exact absurd h2 (by decide)
 ·exact absurd h2 (by decide)
 ·exact absurd h2 (by decide)
 ·exact ⟨Q.lift_5_10.1, _, _, Q.lift_5_10.2⟩
 ·exact absurd h2 (by decide)
 ·exact absurd h2 (by decide)
 ·exact absurd h2 (by decide)
 ·exact absurd h2 (by decide)
 ·exact ⟨Q.lift_5_15.1, _, _, Q.lift_5_15.2⟩
 ·exact absurd h2 (by decide)
 ·exact absurd h2 (by decide)
 ·exact ⟨Q.lift_5_20.1, _, _, Q.lift_5_20.2⟩
 ·exact absurd h2 (by decide)
 ·exact absurd h2 (by decide)
 ·exact absurd h2 (by decide)
 ·exact absurd h2 (by decide)
 ·exact absurd h2 (by decide)
 ·exact ⟨Q.lift_5_30.1, _, _, Q.lift_5_30.2⟩
 ·exact absurd h2 (by decide)
 ·exact absurd h2 (by decide)
theorem lift_at_6 {m : Nat} (h : m ∈ ordsL) (h2 : m % 6 = 0) : LiftAt 6 m := by
 simp only [ordsL, List.mem_cons, List.not_mem_nil, or_false] at h
 rcases h with rfl | rfl | rfl | rfl | rfl | rfl | rfl | rfl | rfl | rfl | rfl | rfl | rfl | rfl | rfl | rfl | rfl | rfl | rfl | rfl | rfl | rfl | rfl | rfl | rfl | rfl
 ·exact absurd h2 (by decide)
 ·exact absurd h2 (by decide)
 ·exact absurd h2 (by decide)
 ·exact absurd h2 (by decide)
 ·exact absurd h2 (by decide)
 ·exact ⟨Q.lift_6_6.1, _, _, Q.lift_6_6.2⟩
 ·exact absurd h2 (by decide)
 ·exact absurd h2 (by decide)
 ·exact absurd h2 (by decide)
 ·exact absurd h2 (by decide)
 ·exact absurd h2 (by decide)
 ·exact ⟨Q.lift_6_12.1, _, _, Q.lift_6_12.2⟩
 ·exact absurd h2 (by decide)
 ·exact absurd h2 (by decide)
 ·exact absurd h2 (by decide)
 ·exact absurd h2 (by decide)
 ·exact ⟨Q.lift_6_18.1, _, _, Q.lift_6_18.2⟩
 ·exact absurd h2 (by decide)
 ·exact absurd h2 (by decide)
 ·exact absurd h2 (by decide)
 ·exact ⟨Q.lift_6_24.1, _, _, Q.lift_6_24.2⟩
 ·exact absurd h2 (by decide)
 ·exact absurd h2 (by decide)
 ·exact ⟨Q.lift_6_30.1, _, _, Q.lift_6_30.2⟩
 ·exact ⟨Q.lift_6_36.1, _, _, Q.lift_6_36.2⟩
 ·exact ⟨Q.lift_6_42.1, _, _, Q.lift_6_42.2⟩
theorem lift_at_7 {m : Nat} (h : m ∈ ordsL) (h2 : m % 7 = 0) : LiftAt 7 m := by
 simp only [ordsL, List.mem_cons, List.not_mem_nil, or_false] at h
 rcases h with rfl | rfl | rfl | rfl | rfl | rfl | rfl | rfl | rfl | rfl | rfl | rfl | rfl | rfl | rfl | rfl | rfl | rfl | rfl | rfl | rfl | rfl | rfl | rfl | rfl | rfl
 ·exact absurd h2 (by decide)
 ·exact absurd h2 (by decide)
 ·exact absurd h2 (by decide)
 ·exact absurd h2 (by decide)
 ·exact absurd h2 (by decide)
 ·exact absurd h2 (by decide)
 ·exact ⟨Q.lift_7_7.1, _, _, Q.lift_7_7.2⟩
 ·exact absurd h2 (by decide)
 ·exact absurd h2 (by decide)
 ·exact absurd h2 (by decide)
 ·exact absurd h2 (by decide)
 ·exact absurd h2 (by decide)
 ·exact absurd h2 (by decide)
 ·exact ⟨Q.lift_7_14.1, _, _, Q.lift_7_14.2⟩
 ·exact absurd h2 (by decide)
 ·exact absurd h2 (by decide)
 ·exact absurd h2 (by decide)
 ·exact absurd h2 (by decide)
 ·exact ⟨Q.lift_7_21.1, _, _, Q.lift_7_21.2⟩
 ·exact absurd h2 (by decide)
 ·exact absurd h2 (by decide)
 ·exact absurd h2 (by decide)
 ·exact ⟨Q.lift_7_28.1, _, _, Q.lift_7_28.2⟩
 ·exact absurd h2 (by decide)
 ·exact absurd h2 (by decide)
 ·exact ⟨Q.lift_7_42.1, _, _, Q.lift_7_42.2⟩
theorem lift_at_8 {m : Nat} (h : m ∈ ordsL) (h2 : m % 8 = 0) : LiftAt 8 m := by
 simp only [ordsL, List.mem_cons, List.not_mem_nil, or_false] at h
 rcases h with rfl | rfl | rfl | rfl | rfl | rfl | rfl | rfl | rfl | rfl | rfl | rfl | rfl | rfl | rfl | rfl | rfl | rfl | rfl | rfl | rfl | rfl | rfl | rfl | rfl | rfl
 ·exact absurd h2 (by decide)
 ·exact absurd h2 (by decide)
 ·exact absurd h2 (by decide)
 ·exact absurd h2 (by decide)
 ·exact absurd h2 (by decide)
 ·exact absurd h2 (by decide)
 ·exact absurd h2 (by decide)
 ·exact ⟨Q.lift_8_8.1, _, _, Q.lift_8_8.2⟩
 ·exact absurd h2 (by decide)
 ·exact absurd h2 (by decide)
 ·exact absurd h2 (by decide)
 ·exact absurd h2 (by decide)
 ·exact absurd h2 (by decide)
 ·exact absurd h2 (by decide)
 ·exact absurd h2 (by decide)
 ·exact ⟨Q.lift_8_16.1, _, _, Q.lift_8_16.2⟩
 ·exact absurd h2 (by decide)
 ·exact absurd h2 (by decide)
 ·exact absurd h2 (by decide)
 ·exact absurd h2 (by decide)
 ·exact ⟨Q.lift_8_24.1, _, _, Q.lift_8_24.2⟩
 ·exact absurd h2 (by decide)
 ·exact absurd h2 (by decide)
 ·exact absurd h2 (by decide)
 ·exact absurd h2 (by decide)
 ·exact absurd h2 (by decide)
theorem lift_at_9 {m : Nat} (h : m ∈ ordsL) (h2 : m % 9 = 0) : LiftAt 9 m := by
 simp only [ordsL, List.mem_cons, List.not_mem_nil, or_false] at h
 rcases h with rfl | rfl | rfl | rfl | rfl | rfl | rfl | rfl | rfl | rfl | rfl | rfl | rfl | rfl | rfl | rfl | rfl | rfl | rfl | rfl | rfl | rfl | rfl | rfl | rfl | rfl
 ·exact absurd h2 (by decide)
 ·exact absurd h2 (by decide)
 ·exact absurd h2 (by decide)
 ·exact absurd h2 (by decide)
 ·exact absurd h2 (by decide)
 ·exact absurd h2 (by decide)
 ·exact absurd h2 (by decide)
 ·exact absurd h2 (by decide)
 ·exact ⟨Q.lift_9_9.1, _, _, Q.lift_9_9.2⟩
 ·exact absurd h2 (by decide)
 ·exact absurd h2 (by decide)
 ·exact absurd h2 (by decide)
 ·exact absurd h2 (by decide)
 ·exact absurd h2 (by decide)
 ·exact absurd h2 (by decide)
 ·exact absurd h2 (by decide)
 ·exact ⟨Q.lift_9_18.1, _, _, Q.lift_9_18.2⟩
 ·exact absurd h2 (by decide)
 ·exact absurd h2 (by decide)
 ·exact absurd h2 (by decide)
 ·exact absurd h2 (by decide)
 ·exact absurd h2 (by decide)
 ·exact absurd h2 (by decide)
 ·exact absurd h2 (by decide)
 ·exact ⟨Q.lift_9_36.1, _, _, Q.lift_9_36.2⟩
 ·exact absurd h2 (by decide)
theorem lift_at_10 {m : Nat} (h : m ∈ ordsL) (h2 : m % 10 = 0) : LiftAt 10 m := by
 simp only [ordsL, List.mem_cons, List.not_mem_nil, or_false] at h
 rcases h with rfl | rfl | rfl | rfl | rfl | rfl | rfl | rfl | rfl | rfl | rfl | rfl | rfl | rfl | rfl | rfl | rfl | rfl | rfl | rfl | rfl | rfl | rfl | rfl | rfl | rfl
 ·exact absurd h2 (by decide)
 ·exact absurd h2 (by decide)
 ·exact absurd h2 (by decide)
 ·exact absurd h2 (by decide)
 ·exact absurd h2 (by decide)
 ·exact absurd h2 (by decide)
 ·exact absurd h2 (by decide)
 ·exact absurd h2 (by decide)
 ·exact absurd h2 (by decide)
 ·exact ⟨Q.lift_10_10.1, _, _, Q.lift_10_10.2⟩
 ·exact absurd h2 (by decide)
 ·exact absurd h2 (by decide)
 ·exact absurd h2 (by decide)
 ·exact absurd h2 (by decide)
 ·exact absurd h2 (by decide)
 ·exact absurd h2 (by decide)
 ·exact absurd h2 (by decide)
 ·exact ⟨Q.lift_10_20.1, _, _, Q.lift_10_20.2⟩
 ·exact absurd h2 (by decide)
 ·exact absurd h2 (by decide)
 ·exact absurd h2 (by decide)
 ·exact absurd h2 (by decide)
 ·exact absurd h2 (by decide)
 ·exact ⟨Q.lift_10_30.1, _, _, Q.lift_10_30.2⟩
 ·exact absurd h2 (by decide)
 ·exact absurd h2 (by decide)
theorem lift_at_11 {m : Nat} (h : m ∈ ordsL) (h2 : m % 11 = 0) : LiftAt 11 m := by
 simp only [ordsL, List.mem_cons, List.not_mem_nil, or_false] at h
 rcases h with rfl | rfl | rfl | rfl | rfl | rfl | rfl | rfl | rfl | rfl | rfl | rfl | rfl | rfl | rfl | rfl | rfl | rfl | rfl | rfl | rfl | rfl | rfl | rfl | rfl | rfl
 ·exact absurd h2 (by decide)
 ·exact absurd h2 (by decide)
 ·exact absurd h2 (by decide)
 ·exact absurd h2 (by decide)
 ·exact absurd h2 (by decide)
 ·exact absurd h2 (by decide)
 ·exact absurd h2 (by decide)
 ·exact absurd h2 (by decide)
 ·exact absurd h2 (by decide)
 ·exact absurd h2 (by decide)
 ·exact ⟨Q.lift_11_11.1, _, _, Q.lift_11_11.2⟩
 ·exact absurd h2 (by decide)
 ·exact absurd h2 (by decide)
 ·exact absurd h2 (by decide)
 ·exact absurd h2 (by decide)
 ·exact absurd h2 (by decide)
 ·exact absurd h2 (by decide)
 ·exact absurd h2 (by decide)
 ·exact absurd h2 (by decide)
 ·exact ⟨Q.lift_11_22.1, _, _, Q.lift_11_22.2⟩
 ·exact absurd h2 (by decide)
 ·exact absurd h2 (by decide)
 ·exact absurd h2 (by decide)
 ·exact absurd h2 (by decide)
 ·exact absurd h2 (by decide)
 ·exact absurd h2 (by decide)
theorem lift_at_12 {m : Nat} (h : m ∈ ordsL) (h2 : m % 12 = 0) : LiftAt 12 m := by
 simp only [ordsL, List.mem_cons, List.not_mem_nil, or_false] at h
 rcases h with rfl | rfl | rfl | rfl | rfl | rfl | rfl | rfl | rfl | rfl | rfl | rfl | rfl | rfl | rfl | rfl | rfl | rfl | rfl | rfl | rfl | rfl | rfl | rfl | rfl | rfl
 ·exact absurd h2 (by decide)
 ·exact absurd h2 (by decide)
 ·exact absurd h2 (by decide)
 ·exact absurd h2 (by decide)
 ·exact absurd h2 (by decide)
 ·exact absurd h2 (by decide)
 ·exact absurd h2 (by decide)
 ·exact absurd h2 (by decide)
 ·exact absurd h2 (by decide)
 ·exact absurd h2 (by decide)
 ·exact absurd h2 (by decide)
 ·exact ⟨Q.lift_12_12.1, _, _, Q.lift_12_12.2⟩
 ·exact absurd h2 (by decide)
 ·exact absurd h2 (by decide)
 ·exact absurd h2 (by decide)
 ·exact absurd h2 (by decide)
 ·exact absurd h2 (by decide)
 ·exact absurd h2 (by decide)
 ·exact absurd h2 (by decide)
 ·exact absurd h2 (by decide)
 ·exact ⟨Q.lift_12_24.1, _, _, Q.lift_12_24.2⟩
 ·exact absurd h2 (by decide)
 ·exact absurd h2 (by decide)
 ·exact absurd h2 (by decide)
 ·exact ⟨Q.lift_12_36.1, _, _, Q.lift_12_36.2⟩
 ·exact absurd h2 (by decide)
theorem lift_at_13 {m : Nat} (h : m ∈ ordsL) (h2 : m % 13 = 0) : LiftAt 13 m := by
 simp only [ordsL, List.mem_cons, List.not_mem_nil, or_false] at h
 rcases h with rfl | rfl | rfl | rfl | rfl | rfl | rfl | rfl | rfl | rfl | rfl | rfl | rfl | rfl | rfl | rfl | rfl | rfl | rfl | rfl | rfl | rfl | rfl | rfl | rfl | rfl
 ·exact absurd h2 (by decide)
 ·exact absurd h2 (by decide)
 ·exact absurd h2 (by decide)
 ·exact absurd h2 (by decide)
 ·exact absurd h2 (by decide)
 ·exact absurd h2 (by decide)
 ·exact absurd h2 (by decide)
 ·exact absurd h2 (by decide)
 ·exact absurd h2 (by decide)
 ·exact absurd h2 (by decide)
 ·exact absurd h2 (by decide)
 ·exact absurd h2 (by decide)
 ·exact ⟨Q.lift_13_13.1, _, _, Q.lift_13_13.2⟩
 ·exact absurd h2 (by decide)
 ·exact absurd h2 (by decide)
 ·exact absurd h2 (by decide)
 ·exact absurd h2 (by decide)
 ·exact absurd h2 (by decide)
 ·exact absurd h2 (by decide)
 ·exact absurd h2 (by decide)
 ·exact absurd h2 (by decide)
 ·exact ⟨Q.lift_13_26.1, _, _, Q.lift_13_26.2⟩
 ·exact absurd h2 (by decide)
 ·exact absurd h2 (by decide)
 ·exact absurd h2 (by decide)
 ·exact absurd h2 (by decide)
theorem lift_at_14 {m : Nat} (h : m ∈ ordsL) (h2 : m % 14 = 0) : LiftAt 14 m := by
 simp only [ordsL, List.mem_cons, List.not_mem_nil, or_false] at h
 rcases h with rfl | rfl | rfl | rfl | rfl | rfl | rfl | rfl | rfl | rfl | rfl | rfl | rfl | rfl | rfl | rfl | rfl | rfl | rfl | rfl | rfl | rfl | rfl | rfl | rfl | rfl
 ·exact absurd h2 (by decide)
 ·exact absurd h2 (by decide)
 ·exact absurd h2 (by decide)
 ·exact absurd h2 (by decide)
 ·exact absurd h2 (by decide)
 ·exact absurd h2 (by decide)
 ·exact absurd h2 (by decide)
 ·exact absurd h2 (by decide)
 ·exact absurd h2 (by decide)
 ·exact absurd h2 (by decide)
 ·exact absurd h2 (by decide)
 ·exact absurd h2 (by decide)
 ·exact absurd h2 (by decide)
 ·exact ⟨Q.lift_14_14.1, _, _, Q.lift_14_14.2⟩
 ·exact absurd h2 (by decide)
 ·exact absurd h2 (by decide)
 ·exact absurd h2 (by decide)
 ·exact absurd h2 (by decide)
 ·exact absurd h2 (by decide)
 ·exact absurd h2 (by decide)
 ·exact absurd h2 (by decide)
 ·exact absurd h2 (by decide)
 ·exact ⟨Q.lift_14_28.1, _, _, Q.lift_14_28.2⟩
 ·exact absurd h2 (by decide)
 ·exact absurd h2 (by decide)
 ·exact ⟨Q.lift_14_42.1, _, _, Q.lift_14_42.2⟩
theorem lift_at_15 {m : Nat} (h : m ∈ ordsL) (h2 : m % 15 = 0) : LiftAt 15 m := by
 simp only [ordsL, List.mem_cons, List.not_mem_nil, or_false] at h
 rcases h with rfl | rfl | rfl | rfl | rfl | rfl | rfl | rfl | rfl | rfl | rfl | rfl | rfl | rfl | rfl | rfl | rfl | rfl | rfl | rfl | rfl | rfl | rfl | rfl | rfl | rfl
 ·exact absurd h2 (by decide)
 ·exact absurd h2 (by decide)
 ·exact absurd h2 (by decide)
 ·exact absurd h2 (by decide)
 ·exact absurd h2 (by decide)
 ·exact absurd h2 (by decide)
 ·exact absurd h2 (by decide)
 ·exact absurd h2 (by decide)
 ·exact absurd h2 (by decide)
 ·exact absurd h2 (by decide)
 ·exact absurd h2 (by decide)
 ·exact absurd h2 (by decide)
 ·exact absurd h2 (by decide)
 ·exact absurd h2 (by decide)
 ·exact ⟨Q.lift_15_15.1, _, _, Q.lift_15_15.2⟩
 ·exact absurd h2 (by decide)
 ·exact absurd h2 (by decide)
 ·exact absurd h2 (by decide)
 ·exact absurd h2 (by decide)
 ·exact absurd h2 (by decide)
 ·exact absurd h2 (by decide)
 ·exact absurd h2 (by decide)
 ·exact absurd h2 (by decide)
 ·exact ⟨Q.lift_15_30.1, _, _, Q.lift_15_30.2⟩
 ·exact absurd h2 (by decide)
 ·exact absurd h2 (by decide)
theorem lift_at_16 {m : Nat} (h : m ∈ ordsL) (h2 : m % 16 = 0) : LiftAt 16 m := by
 simp only [ordsL, List.mem_cons, List.not_mem_nil, or_false] at h
 rcases h with rfl | rfl | rfl | rfl | rfl | rfl | rfl | rfl | rfl | rfl | rfl | rfl | rfl | rfl | rfl | rfl | rfl | rfl | rfl | rfl | rfl | rfl | rfl | rfl | rfl | rfl
 ·exact absurd h2 (by decide)
 ·exact absurd h2 (by decide)
 ·exact absurd h2 (by decide)
 ·exact absurd h2 (by decide)
 ·exact absurd h2 (by decide)
 ·exact absurd h2 (by decide)
 ·exact absurd h2 (by decide)
 ·exact absurd h2 (by decide)
 ·exact absurd h2 (by decide)
 ·exact absurd h2 (by decide)
 ·exact absurd h2 (by decide)
 ·exact absurd h2 (by decide)
 ·exact absurd h2 (by decide)
 ·exact absurd h2 (by decide)
 ·exact absurd h2 (by decide)
 ·exact ⟨Q.lift_16_16.1, _, _, Q.lift_16_16.2⟩
 ·exact absurd h2 (by decide)
 ·exact absurd h2 (by decide)
 ·exact absurd h2 (by decide)
 ·exact absurd h2 (by decide)
 ·exact absurd h2 (by decide)
 ·exact absurd h2 (by decide)
 ·exact absurd h2 (by decide)
 ·exact absurd h2 (by decide)
 ·exact absurd h2 (by decide)
 ·exact absurd h2 (by decide)
theorem lift_at_18 {m : Nat} (h : m ∈ ordsL) (h2 : m % 18 = 0) : LiftAt 18 m := by
 simp only [ordsL, List.mem_cons, List.not_mem_nil, or_false] at h
 rcases h with rfl | rfl | rfl | rfl | rfl | rfl | rfl | rfl | rfl | rfl | rfl | rfl | rfl | rfl | rfl | rfl | rfl | rfl | rfl | rfl | rfl | rfl | rfl | rfl | rfl | rfl
 ·exact absurd h2 (by decide)
 ·exact absurd h2 (by decide)
 ·exact absurd h2 (by decide)
 ·exact absurd h2 (by decide)
 ·exact absurd h2 (by decide)
 ·exact absurd h2 (by decide)
 ·exact absurd h2 (by decide)
 ·exact absurd h2 (by decide)
 ·exact absurd h2 (by decide)
 ·exact absurd h2 (by decide)
 ·exact absurd h2 (by decide)
 ·exact absurd h2 (by decide)
 ·exact absurd h2 (by decide)
 ·exact absurd h2 (by decide)
 ·exact absurd h2 (by decide)
 ·exact absurd h2 (by decide)
 ·exact ⟨Q.lift_18_18.1, _, _, Q.lift_18_18.2⟩
 ·exact absurd h2 (by decide)
 ·exact absurd h2 (by decide)
 ·exact absurd h2 (by decide)
 ·exact absurd h2 (by decide)
 ·exact absurd h2 (by decide)
 ·exact absurd h2 (by decide)
 ·exact absurd h2 (by decide)
 ·exact ⟨Q.lift_18_36.1, _, _, Q.lift_18_36.2⟩
 ·exact absurd h2 (by decide)
theorem lift_at_20 {m : Nat} (h : m ∈ ordsL) (h2 : m % 20 = 0) : LiftAt 20 m := by
 simp only [ordsL, List.mem_cons, List.not_mem_nil, or_false] at h
 rcases h with rfl | rfl | rfl | rfl | rfl | rfl | rfl | rfl | rfl | rfl | rfl | rfl | rfl | rfl | rfl | rfl | rfl | rfl | rfl | rfl | rfl | rfl | rfl | rfl | rfl | rfl
 ·exact absurd h2 (by decide)
 ·exact absurd h2 (by decide)
 ·exact absurd h2 (by decide)
 ·exact absurd h2 (by decide)
 ·exact absurd h2 (by decide)
 ·exact absurd h2 (by decide)
 ·exact absurd h2 (by decide)
 ·exact absurd h2 (by decide)
 ·exact absurd h2 (by decide)
 ·exact absurd h2 (by decide)
 ·exact absurd h2 (by decide)
 ·exact absurd h2 (by decide)
 ·exact absurd h2 (by decide)
 ·exact absurd h2 (by decide)
 ·exact absurd h2 (by decide)
 ·exact absurd h2 (by decide)
 ·exact absurd h2 (by decide)
 ·exact ⟨Q.lift_20_20.1, _, _, Q.lift_20_20.2⟩
 ·exact absurd h2 (by decide)
 ·exact absurd h2 (by decide)
 ·exact absurd h2 (by decide)
 ·exact absurd h2 (by decide)
 ·exact absurd h2 (by decide)
 ·exact absurd h2 (by decide)
 ·exact absurd h2 (by decide)
 ·exact absurd h2 (by decide)
theorem lift_at_21 {m : Nat} (h : m ∈ ordsL) (h2 : m % 21 = 0) : LiftAt 21 m := by
 simp only [ordsL, List.mem_cons, List.not_mem_nil, or_false] at h
 rcases h with rfl | rfl | rfl | rfl | rfl | rfl | rfl | rfl | rfl | rfl | rfl | rfl | rfl | rfl | rfl | rfl | rfl | rfl | rfl | rfl | rfl | rfl | rfl | rfl | rfl | rfl
 ·exact absurd h2 (by decide)
 ·exact absurd h2 (by decide)
 ·exact absurd h2 (by decide)
 ·exact absurd h2 (by decide)
 ·exact absurd h2 (by decide)
 ·exact absurd h2 (by decide)
 ·exact absurd h2 (by decide)
 ·exact absurd h2 (by decide)
 ·exact absurd h2 (by decide)
 ·exact absurd h2 (by decide)
 ·exact absurd h2 (by decide)
 ·exact absurd h2 (by decide)
 ·exact absurd h2 (by decide)
 ·exact absurd h2 (by decide)
 ·exact absurd h2 (by decide)
 ·exact absurd h2 (by decide)
 ·exact absurd h2 (by decide)
 ·exact absurd h2 (by decide)
 ·exact ⟨Q.lift_21_21.1, _, _, Q.lift_21_21.2⟩
 ·exact absurd h2 (by decide)
 ·exact absurd h2 (by decide)
 ·exact absurd h2 (by decide)
 ·exact absurd h2 (by decide)
 ·exact absurd h2 (by decide)
 ·exact absurd h2 (by decide)
 ·exact ⟨Q.lift_21_42.1, _, _, Q.lift_21_42.2⟩
theorem lift_at_22 {m : Nat} (h : m ∈ ordsL) (h2 : m % 22 = 0) : LiftAt 22 m := by
 simp only [ordsL, List.mem_cons, List.not_mem_nil, or_false] at h
 rcases h with rfl | rfl | rfl | rfl | rfl | rfl | rfl | rfl | rfl | rfl | rfl | rfl | rfl | rfl | rfl | rfl | rfl | rfl | rfl | rfl | rfl | rfl | rfl | rfl | rfl | rfl
 ·exact absurd h2 (by decide)
 ·exact absurd h2 (by decide)
 ·exact absurd h2 (by decide)
 ·exact absurd h2 (by decide)
 ·exact absurd h2 (by decide)
 ·exact absurd h2 (by decide)
 ·exact absurd h2 (by decide)
 ·exact absurd h2 (by decide)
 ·exact absurd h2 (by decide)
 ·exact absurd h2 (by decide)
 ·exact absurd h2 (by decide)
 ·exact absurd h2 (by decide)
 ·exact absurd h2 (by decide)
 ·exact absurd h2 (by decide)
 ·exact absurd h2 (by decide)
 ·exact absurd h2 (by decide)
 ·exact absurd h2 (by decide)
 ·exact absurd h2 (by decide)
 ·exact absurd h2 (by decide)
 ·exact ⟨Q.lift_22_22.1, _, _, Q.lift_22_22.2⟩
 ·exact absurd h2 (by decide)
 ·exact absurd h2 (by decide)
 ·exact absurd h2 (by decide)
 ·exact absurd h2 (by decide)
 ·exact absurd h2 (by decide)
 ·exact absurd h2 (by decide)
theorem lift_at_24 {m : Nat} (h : m ∈ ordsL) (h2 : m % 24 = 0) : LiftAt 24 m := by
 simp only [ordsL, List.mem_cons, List.not_mem_nil, or_false] at h
 rcases h with rfl | rfl | rfl | rfl | rfl | rfl | rfl | rfl | rfl | rfl | rfl | rfl | rfl | rfl | rfl | rfl | rfl | rfl | rfl | rfl | rfl | rfl | rfl | rfl | rfl | rfl
 ·exact absurd h2 (by decide)
 ·exact absurd h2 (by decide)
 ·exact absurd h2 (by decide)
 ·exact absurd h2 (by decide)
 ·exact absurd h2 (by decide)
 ·exact absurd h2 (by decide)
 ·exact absurd h2 (by decide)
 ·exact absurd h2 (by decide)
 ·exact absurd h2 (by decide)
 ·exact absurd h2 (by decide)
 ·exact absurd h2 (by decide)
 ·exact absurd h2 (by decide)
 ·exact absurd h2 (by decide)
 ·exact absurd h2 (by decide)
 ·exact absurd h2 (by decide)
 ·exact absurd h2 (by decide)
 ·exact absurd h2 (by decide)
 ·exact absurd h2 (by decide)
 ·exact absurd h2 (by decide)
 ·exact absurd h2 (by decide)
 ·exact ⟨Q.lift_24_24.1, _, _, Q.lift_24_24.2⟩
 ·exact absurd h2 (by decide)
 ·exact absurd h2 (by decide)
 ·exact absurd h2 (by decide)
 ·exact absurd h2 (by decide)
 ·exact absurd h2 (by decide)
theorem lift_at_26 {m : Nat} (h : m ∈ ordsL) (h2 : m % 26 = 0) : LiftAt 26 m := by
 simp only [ordsL, List.mem_cons, List.not_mem_nil, or_false] at h
 rcases h with rfl | rfl | rfl | rfl | rfl | rfl | rfl | rfl | rfl | rfl | rfl | rfl | rfl | rfl | rfl | rfl | rfl | rfl | rfl | rfl | rfl | rfl | rfl | rfl | rfl | rfl
 ·exact absurd h2 (by decide)
 ·exact absurd h2 (by decide)
 ·exact absurd h2 (by decide)
 ·exact absurd h2 (by decide)
 ·exact absurd h2 (by decide)
 ·exact absurd h2 (by decide)
 ·exact absurd h2 (by decide)
 ·exact absurd h2 (by decide)
 ·exact absurd h2 (by decide)
 ·exact absurd h2 (by decide)
 ·exact absurd h2 (by decide)
 ·exact absurd h2 (by decide)
 ·exact absurd h2 (by decide)
 ·exact absurd h2 (by decide)
 ·exact absurd h2 (by decide)
 ·exact absurd h2 (by decide)
 ·exact absurd h2 (by decide)
 ·exact absurd h2 (by decide)
 ·exact absurd h2 (by decide)
 ·exact absurd h2 (by decide)
 ·exact absurd h2 (by decide)
 ·exact ⟨Q.lift_26_26.1, _, _, Q.lift_26_26.2⟩
 ·exact absurd h2 (by decide)
 ·exact absurd h2 (by decide)
 ·exact absurd h2 (by decide)
 ·exact absurd h2 (by decide)
theorem lift_at_28 {m : Nat} (h : m ∈ ordsL) (h2 : m % 28 = 0) : LiftAt 28 m := by
 simp only [ordsL, List.mem_cons, List.not_mem_nil, or_false] at h
 rcases h with rfl | rfl | rfl | rfl | rfl | rfl | rfl | rfl | rfl | rfl | rfl | rfl | rfl | rfl | rfl | rfl | rfl | rfl | rfl | rfl | rfl | rfl | rfl | rfl | rfl | rfl
 ·exact absurd h2 (by decide)
 ·exact absurd h2 (by decide)
 ·exact absurd h2 (by decide)
 ·exact absurd h2 (by decide)
 ·exact absurd h2 (by decide)
 ·exact absurd h2 (by decide)
 ·exact absurd h2 (by decide)
 ·exact absurd h2 (by decide)
 ·exact absurd h2 (by decide)
 ·exact absurd h2 (by decide)
 ·exact absurd h2 (by decide)
 ·exact absurd h2 (by decide)
 ·exact absurd h2 (by decide)
 ·exact absurd h2 (by decide)
 ·exact absurd h2 (by decide)
 ·exact absurd h2 (by decide)
 ·exact absurd h2 (by decide)
 ·exact absurd h2 (by decide)
 ·exact absurd h2 (by decide)
 ·exact absurd h2 (by decide)
 ·exact absurd h2 (by decide)
 ·exact absurd h2 (by decide)
 ·exact ⟨Q.lift_28_28.1, _, _, Q.lift_28_28.2⟩
 ·exact absurd h2 (by decide)
 ·exact absurd h2 (by decide)
 ·exact absurd h2 (by decide)
theorem lift_at_30 {m : Nat} (h : m ∈ ordsL) (h2 : m % 30 = 0) : LiftAt 30 m := by
 simp only [ordsL, List.mem_cons, List.not_mem_nil, or_false] at h
 rcases h with rfl | rfl | rfl | rfl | rfl | rfl | rfl | rfl | rfl | rfl | rfl | rfl | rfl | rfl | rfl | rfl | rfl | rfl | rfl | rfl | rfl | rfl | rfl | rfl | rfl | rfl
 ·exact absurd h2 (by decide)
 ·exact absurd h2 (by decide)
 ·exact absurd h2 (by decide)
 ·exact absurd h2 (by decide)
 ·exact absurd h2 (by decide)
 ·exact absurd h2 (by decide)
 ·exact absurd h2 (by decide)
 ·exact absurd h2 (by decide)
 ·exact absurd h2 (by decide)
 ·exact absurd h2 (by decide)
 ·exact absurd h2 (by decide)
 ·exact absurd h2 (by decide)
 ·exact absurd h2 (by decide)
 ·exact absurd h2 (by decide)
 ·exact absurd h2 (by decide)
 ·exact absurd h2 (by decide)
 ·exact absurd h2 (by decide)
 ·exact absurd h2 (by decide)
 ·exact absurd h2 (by decide)
 ·exact absurd h2 (by decide)
 ·exact absurd h2 (by decide)
 ·exact absurd h2 (by decide)
 ·exact absurd h2 (by decide)
 ·exact ⟨Q.lift_30_30.1, _, _, Q.lift_30_30.2⟩
 ·exact absurd h2 (by decide)
 ·exact absurd h2 (by decide)
theorem lift_at_36 {m : Nat} (h : m ∈ ordsL) (h2 : m % 36 = 0) : LiftAt 36 m := by
 simp only [ordsL, List.mem_cons, List.not_mem_nil, or_false] at h
 rcases h with rfl | rfl | rfl | rfl | rfl | rfl | rfl | rfl | rfl | rfl | rfl | rfl | rfl | rfl | rfl | rfl | rfl | rfl | rfl | rfl | rfl | rfl | rfl | rfl | rfl | rfl
 ·exact absurd h2 (by decide)
 ·exact absurd h2 (by decide)
 ·exact absurd h2 (by decide)
 ·exact absurd h2 (by decide)
 ·exact absurd h2 (by decide)
 ·exact absurd h2 (by decide)
 ·exact absurd h2 (by decide)
 ·exact absurd h2 (by decide)
 ·exact absurd h2 (by decide)
 ·exact absurd h2 (by decide)
 ·exact absurd h2 (by decide)
 ·exact absurd h2 (by decide)
 ·exact absurd h2 (by decide)
 ·exact absurd h2 (by decide)
 ·exact absurd h2 (by decide)
 ·exact absurd h2 (by decide)
 ·exact absurd h2 (by decide)
 ·exact absurd h2 (by decide)
 ·exact absurd h2 (by decide)
 ·exact absurd h2 (by decide)
 ·exact absurd h2 (by decide)
 ·exact absurd h2 (by decide)
 ·exact absurd h2 (by decide)
 ·exact absurd h2 (by decide)
 ·exact ⟨Q.lift_36_36.1, _, _, Q.lift_36_36.2⟩
 ·exact absurd h2 (by decide)
theorem lift_at_42 {m : Nat} (h : m ∈ ordsL) (h2 : m % 42 = 0) : LiftAt 42 m := by
 simp only [ordsL, List.mem_cons, List.not_mem_nil, or_false] at h
 rcases h with rfl | rfl | rfl | rfl | rfl | rfl | rfl | rfl | rfl | rfl | rfl | rfl | rfl | rfl | rfl | rfl | rfl | rfl | rfl | rfl | rfl | rfl | rfl | rfl | rfl | rfl
 ·exact absurd h2 (by decide)
 ·exact absurd h2 (by decide)
 ·exact absurd h2 (by decide)
 ·exact absurd h2 (by decide)
 ·exact absurd h2 (by decide)
 ·exact absurd h2 (by decide)
 ·exact absurd h2 (by decide)
 ·exact absurd h2 (by decide)
 ·exact absurd h2 (by decide)
 ·exact absurd h2 (by decide)
 ·exact absurd h2 (by decide)
 ·exact absurd h2 (by decide)
 ·exact absurd h2 (by decide)
 ·exact absurd h2 (by decide)
 ·exact absurd h2 (by decide)
 ·exact absurd h2 (by decide)
 ·exact absurd h2 (by decide)
 ·exact absurd h2 (by decide)
 ·exact absurd h2 (by decide)
 ·exact absurd h2 (by decide)
 ·exact absurd h2 (by decide)
 ·exact absurd h2 (by decide)
 ·exact absurd h2 (by decide)
 ·exact absurd h2 (by decide)
 ·exact absurd h2 (by decide)
 ·exact ⟨Q.lift_42_42.1, _, _, Q.lift_42_42.2⟩
theorem lift_at {n m : Nat} (h : n ∈ ordsL) (hm : m ∈ ordsL) (h2 : m % n = 0) : LiftAt n m := by
 simp only [ordsL, List.mem_cons, List.not_mem_nil, or_false] at h
 rcases h with rfl | rfl | rfl | rfl | rfl | rfl | rfl | rfl | rfl | rfl | rfl | rfl | rfl | rfl | rfl | rfl | rfl | rfl | rfl | rfl | rfl | rfl | rfl | rfl | rfl | rfl
 ·exact lift_at_1 hm h2
 ·exact lift_at_2 hm h2
 ·exact lift_at_3 hm h2
 ·exact lift_at_4 hm h2
 ·exact lift_at_5 hm h2
 ·exact lift_at_6 hm h2
 ·exact lift_at_7 hm h2
 ·exact lift_at_8 hm h2
 ·exact lift_at_9 hm h2
 ·exact lift_at_10 hm h2
 ·exact lift_at_11 hm h2
 ·exact lift_at_12 hm h2
 ·exact lift_at_13 hm h2
 ·exact lift_at_14 hm h2
 ·exact lift_at_15 hm h2
 ·exact lift_at_16 hm h2
 ·exact lift_at_18 hm h2
 ·exact lift_at_20 hm h2
 ·exact lift_at_21 hm h2
 ·exact lift_at_22 hm h2
 ·exact lift_at_24 hm h2
 ·exact lift_at_26 hm h2
 ·exact lift_at_28 hm h2
 ·exact lift_at_30 hm h2
 ·exact lift_at_36 hm h2
 ·exact lift_at_42 hm h2
end Rf
end Go.Proofs.YtmbejakmeijcbaaGreat
