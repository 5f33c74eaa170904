/- The 26 cyclotomic fields as functions of the order; the lifts between them. -/
import Derived.Test.YtmbejakmeijcbaaGreatZr48
namespace Go.Proofs.YtmbejakmeijcbaaGreat
open Go.RowKit
namespace Rf
def dOf : Nat → Nat
 | 1 => 1
 | 2 => 1
 | 3 => 2
 | 4 => 2
 | 5 => 4
 | 6 => 2
 | 7 => 6
 | 8 => 4
 | 9 => 6
 | 10 => 4
 | 11 => 10
 | 12 => 4
 | 13 => 12
 | 14 => 6
 | 15 => 8
 | 16 => 8
 | 18 => 6
 | 20 => 8
 | 21 => 12
 | 22 => 10
 | 24 => 8
 | 26 => 12
 | 28 => 12
 | 30 => 8
 | 36 => 12
 | 42 => 12
 | _ => 0
def phOf : Nat → List Int
 | 1 => Q.ph_1
 | 2 => Q.ph_2
 | 3 => Q.ph_3
 | 4 => Q.ph_4
 | 5 => Q.ph_5
 | 6 => Q.ph_6
 | 7 => Q.ph_7
 | 8 => Q.ph_8
 | 9 => Q.ph_9
 | 10 => Q.ph_10
 | 11 => Q.ph_11
 | 12 => Q.ph_12
 | 13 => Q.ph_13
 | 14 => Q.ph_14
 | 15 => Q.ph_15
 | 16 => Q.ph_16
 | 18 => Q.ph_18
 | 20 => Q.ph_20
 | 21 => Q.ph_21
 | 22 => Q.ph_22
 | 24 => Q.ph_24
 | 26 => Q.ph_26
 | 28 => Q.ph_28
 | 30 => Q.ph_30
 | 36 => Q.ph_36
 | 42 => Q.ph_42
 | _ => []
def tbOf : Nat → List (List Int)
 | 1 => Q.tb_1
 | 2 => Q.tb_2
 | 3 => Q.tb_3
 | 4 => Q.tb_4
 | 5 => Q.tb_5
 | 6 => Q.tb_6
 | 7 => Q.tb_7
 | 8 => Q.tb_8
 | 9 => Q.tb_9
 | 10 => Q.tb_10
 | 11 => Q.tb_11
 | 12 => Q.tb_12
 | 13 => Q.tb_13
 | 14 => Q.tb_14
 | 15 => Q.tb_15
 | 16 => Q.tb_16
 | 18 => Q.tb_18
 | 20 => Q.tb_20
 | 21 => Q.tb_21
 | 22 => Q.tb_22
 | 24 => Q.tb_24
 | 26 => Q.tb_26
 | 28 => Q.tb_28
 | 30 => Q.tb_30
 | 36 => Q.tb_36
 | 42 => Q.tb_42
 | _ => []
theorem cy_at {n : Nat} (h : n ∈ ordsL) : Cy n (dOf n) (phOf n) (tbOf n) := by
 simp only [ordsL, List.mem_cons, List.not_mem_nil, or_false] at h
 rcases h with rfl | rfl | rfl | rfl | rfl | rfl | rfl | rfl | rfl | rfl | rfl | rfl | rfl | rfl | rfl | rfl | rfl | rfl | rfl | rfl | rfl | rfl | rfl | rfl | rfl | rfl
 ·exact cy_1
 ·exact cy_2
 ·exact cy_3
 ·exact cy_4
 ·exact cy_5
 ·exact cy_6
 ·exact cy_7
 ·exact cy_8
 ·exact cy_9
 ·exact cy_10
 ·exact cy_11
 ·exact cy_12
 ·exact cy_13
 ·exact cy_14
 ·exact cy_15
 ·exact cy_16
 ·exact cy_18
 ·exact cy_20
 ·exact cy_21
 ·exact cy_22
 ·exact cy_24
 ·exact cy_26
 ·exact cy_28
 ·exact cy_30
 ·exact cy_36
 ·exact cy_42
end Rf
end Go.Proofs.YtmbejakmeijcbaaGreat
