/- Ramanujan's sums at the 26 orders. -/
import Derived.Test.YtmbejakmeijcbaaGreatZt31
import Derived.Test.YtmbejakmeijcbaaGreatZt32
namespace Go.Proofs.YtmbejakmeijcbaaGreat
open Go.RowKit
namespace Rf
theorem mob_1 : FnOK Tryz.prog false 62 [.c (.int .i64 1)] (.c (.int .i64 (1))) := run_same (inl := fun _ => false) (by kernel_rfl)
theorem mob_2 : FnOK Tryz.prog false 62 [.c (.int .i64 2)] (.c (.int .i64 (-1))) := run_same (inl := fun _ => false) (by kernel_rfl)
theorem mob_3 : FnOK Tryz.prog false 62 [.c (.int .i64 3)] (.c (.int .i64 (-1))) := run_same (inl := fun _ => false) (by kernel_rfl)
theorem mob_4 : FnOK Tryz.prog false 62 [.c (.int .i64 4)] (.c (.int .i64 (0))) := run_same (inl := fun _ => false) (by kernel_rfl)
theorem mob_5 : FnOK Tryz.prog false 62 [.c (.int .i64 5)] (.c (.int .i64 (-1))) := run_same (inl := fun _ => false) (by kernel_rfl)
theorem mob_6 : FnOK Tryz.prog false 62 [.c (.int .i64 6)] (.c (.int .i64 (1))) := run_same (inl := fun _ => false) (by kernel_rfl)
theorem mob_7 : FnOK Tryz.prog false 62 [.c (.int .i64 7)] (.c (.int .i64 (-1))) := run_same (inl := fun _ => false) (by kernel_rfl)
theorem mob_8 : FnOK Tryz.prog false 62 [.c (.int .i64 8)] (.c (.int .i64 (0))) := run_same (inl := fun _ => false) (by kernel_rfl)
theorem mob_9 : FnOK Tryz.prog false 62 [.c (.int .i64 9)] (.c (.int .i64 (0))) := run_same (inl := fun _ => false) (by kernel_rfl)
theorem mob_10 : FnOK Tryz.prog false 62 [.c (.int .i64 10)] (.c (.int .i64 (1))) := run_same (inl := fun _ => false) (by kernel_rfl)
theorem mob_11 : FnOK Tryz.prog false 62 [.c (.int .i64 11)] (.c (.int .i64 (-1))) := run_same (inl := fun _ => false) (by kernel_rfl)
theorem mob_12 : FnOK Tryz.prog false 62 [.c (.int .i64 12)] (.c (.int .i64 (0))) := run_same (inl := fun _ => false) (by kernel_rfl)
theorem mob_13 : FnOK Tryz.prog false 62 [.c (.int .i64 13)] (.c (.int .i64 (-1))) := run_same (inl := fun _ => false) (by kernel_rfl)
theorem mob_14 : FnOK Tryz.prog false 62 [.c (.int .i64 14)] (.c (.int .i64 (1))) := run_same (inl := fun _ => false) (by kernel_rfl)
theorem mob_15 : FnOK Tryz.prog false 62 [.c (.int .i64 15)] (.c (.int .i64 (1))) := run_same (inl := fun _ => false) (by kernel_rfl)
theorem mob_16 : FnOK Tryz.prog false 62 [.c (.int .i64 16)] (.c (.int .i64 (0))) := run_same (inl := fun _ => false) (by kernel_rfl)
theorem mob_18 : FnOK Tryz.prog false 62 [.c (.int .i64 18)] (.c (.int .i64 (0))) := run_same (inl := fun _ => false) (by kernel_rfl)
theorem mob_20 : FnOK Tryz.prog false 62 [.c (.int .i64 20)] (.c (.int .i64 (0))) := run_same (inl := fun _ => false) (by kernel_rfl)
theorem mob_21 : FnOK Tryz.prog false 62 [.c (.int .i64 21)] (.c (.int .i64 (1))) := run_same (inl := fun _ => false) (by kernel_rfl)
theorem mob_22 : FnOK Tryz.prog false 62 [.c (.int .i64 22)] (.c (.int .i64 (1))) := run_same (inl := fun _ => false) (by kernel_rfl)
theorem mob_24 : FnOK Tryz.prog false 62 [.c (.int .i64 24)] (.c (.int .i64 (0))) := run_same (inl := fun _ => false) (by kernel_rfl)
theorem mob_26 : FnOK Tryz.prog false 62 [.c (.int .i64 26)] (.c (.int .i64 (1))) := run_same (inl := fun _ => false) (by kernel_rfl)
theorem mob_28 : FnOK Tryz.prog false 62 [.c (.int .i64 28)] (.c (.int .i64 (0))) := run_same (inl := fun _ => false) (by kernel_rfl)
theorem mob_30 : FnOK Tryz.prog false 62 [.c (.int .i64 30)] (.c (.int .i64 (-1))) := run_same (inl := fun _ => false) (by kernel_rfl)
theorem mob_36 : FnOK Tryz.prog false 62 [.c (.int .i64 36)] (.c (.int .i64 (0))) := run_same (inl := fun _ => false) (by kernel_rfl)
theorem mob_42 : FnOK Tryz.prog false 62 [.c (.int .i64 42)] (.c (.int .i64 (-1))) := run_same (inl := fun _ => false) (by kernel_rfl)
theorem trc_bd {n d : Nat} {T : List (List Int)} (hn : 1 ≤ n) (h : (List.range n).all (fun k => decide (-1000000 ≤ Q.trc n d T k) && decide (Q.trc n d T k ≤ 1000000)) = true) (k : Nat) : -1000000 ≤ Q.trc n d T k ∧ Q.trc n d T k ≤ 1000000 := by
 have h1 := List.all_eq_true.1 h (k % n) (List.mem_range.2 (Nat.mod_lt _ hn))
 rw [Q.trc_mod] at h1
 simp only [Bool.and_eq_true, decide_eq_true_eq] at h1
 exact h1
theorem ram_1 {k : Nat} (hk : k < 1) : FnOK Tryz.prog false 34 [.c (.int .i64 1), .c (.int .i64 k)] (.c (.int .i64 (Q.trc 1 1 Q.tb_1 k))) := ram_check (n := 1) (dv := [1]) (mu := [1]) (by decide) (by decide +kernel) dvs_1 (fun i hi => match i, hi with | 0, _ => mob_1 | _ + 1, hi => absurd hi (by simp)) hk
theorem trb_1 (k : Nat) : -1000000 ≤ Q.trc 1 1 Q.tb_1 k ∧ Q.trc 1 1 Q.tb_1 k ≤ 1000000 := trc_bd (by decide) (by decide +kernel) k
theorem ram_2 {k : Nat} (hk : k < 2) : FnOK Tryz.prog false 34 [.c (.int .i64 2), .c (.int .i64 k)] (.c (.int .i64 (Q.trc 2 1 Q.tb_2 k))) := ram_check (n := 2) (dv := [1, 2]) (mu := [-1, 1]) (by decide) (by decide +kernel) dvs_2 (fun i hi => match i, hi with | 0, _ => mob_2 | 1, _ => mob_1 | _ + 2, hi => absurd hi (by simp)) hk
theorem trb_2 (k : Nat) : -1000000 ≤ Q.trc 2 1 Q.tb_2 k ∧ Q.trc 2 1 Q.tb_2 k ≤ 1000000 := trc_bd (by decide) (by decide +kernel) k
theorem ram_3 {k : Nat} (hk : k < 3) : FnOK Tryz.prog false 34 [.c (.int .i64 3), .c (.int .i64 k)] (.c (.int .i64 (Q.trc 3 2 Q.tb_3 k))) := ram_check (n := 3) (dv := [1, 3]) (mu := [-1, 1]) (by decide) (by decide +kernel) dvs_3 (fun i hi => match i, hi with | 0, _ => mob_3 | 1, _ => mob_1 | _ + 2, hi => absurd hi (by simp)) hk
theorem trb_3 (k : Nat) : -1000000 ≤ Q.trc 3 2 Q.tb_3 k ∧ Q.trc 3 2 Q.tb_3 k ≤ 1000000 := trc_bd (by decide) (by decide +kernel) k
theorem ram_4 {k : Nat} (hk : k < 4) : FnOK Tryz.prog false 34 [.c (.int .i64 4), .c (.int .i64 k)] (.c (.int .i64 (Q.trc 4 2 Q.tb_4 k))) := ram_check (n := 4) (dv := [1, 2, 4]) (mu := [0, -1, 1]) (by decide) (by decide +kernel) dvs_4 (fun i hi => match i, hi with | 0, _ => mob_4 | 1, _ => mob_2 | 2, _ => mob_1 | _ + 3, hi => absurd hi (by simp)) hk
theorem trb_4 (k : Nat) : -1000000 ≤ Q.trc 4 2 Q.tb_4 k ∧ Q.trc 4 2 Q.tb_4 k ≤ 1000000 := trc_bd (by decide) (by decide +kernel) k
theorem ram_5 {k : Nat} (hk : k < 5) : FnOK Tryz.prog false 34 [.c (.int .i64 5), .c (.int .i64 k)] (.c (.int .i64 (Q.trc 5 4 Q.tb_5 k))) := ram_check (n := 5) (dv := [1, 5]) (mu := [-1, 1]) (by decide) (by decide +kernel) dvs_5 (fun i hi => match i, hi with | 0, _ => mob_5 | 1, _ => mob_1 | _ + 2, hi => absurd hi (by simp)) hk
theorem trb_5 (k : Nat) : -1000000 ≤ Q.trc 5 4 Q.tb_5 k ∧ Q.trc 5 4 Q.tb_5 k ≤ 1000000 := trc_bd (by decide) (by decide +kernel) k
theorem ram_6 {k : Nat} (hk : k < 6) : FnOK Tryz.prog false 34 [.c (.int .i64 6), .c (.int .i64 k)] (.c (.int .i64 (Q.trc 6 2 Q.tb_6 k))) := ram_check (n := 6) (dv := [1, 2, 3, 6]) (mu := [1, -1, -1, 1]) (by decide) (by decide +kernel) dvs_6 (fun i hi => match i, hi with | 0, _ => mob_6 | 1, _ => mob_3 | 2, _ => mob_2 | 3, _ => mob_1 | _ + 4, hi => absurd hi (by simp)) hk
theorem trb_6 (k : Nat) : -1000000 ≤ Q.trc 6 2 Q.tb_6 k ∧ Q.trc 6 2 Q.tb_6 k ≤ 1000000 := trc_bd (by decide) (by decide +kernel) k
theorem ram_7 {k : Nat} (hk : k < 7) : FnOK Tryz.prog false 34 [.c (.int .i64 7), .c (.int .i64 k)] (.c (.int .i64 (Q.trc 7 6 Q.tb_7 k))) := ram_check (n := 7) (dv := [1, 7]) (mu := [-1, 1]) (by decide) (by decide +kernel) dvs_7 (fun i hi => match i, hi with | 0, _ => mob_7 | 1, _ => mob_1 | _ + 2, hi => absurd hi (by simp)) hk
theorem trb_7 (k : Nat) : -1000000 ≤ Q.trc 7 6 Q.tb_7 k ∧ Q.trc 7 6 Q.tb_7 k ≤ 1000000 := trc_bd (by decide) (by decide +kernel) k
theorem ram_8 {k : Nat} (hk : k < 8) : FnOK Tryz.prog false 34 [.c (.int .i64 8), .c (.int .i64 k)] (.c (.int .i64 (Q.trc 8 4 Q.tb_8 k))) := ram_check (n := 8) (dv := [1, 2, 4, 8]) (mu := [0, 0, -1, 1]) (by decide) (by decide +kernel) dvs_8 (fun i hi => match i, hi with | 0, _ => mob_8 | 1, _ => mob_4 | 2, _ => mob_2 | 3, _ => mob_1 | _ + 4, hi => absurd hi (by simp)) hk
theorem trb_8 (k : Nat) : -1000000 ≤ Q.trc 8 4 Q.tb_8 k ∧ Q.trc 8 4 Q.tb_8 k ≤ 1000000 := trc_bd (by decide) (by decide +kernel) k
theorem ram_9 {k : Nat} (hk : k < 9) : FnOK Tryz.prog false 34 [.c (.int .i64 9), .c (.int .i64 k)] (.c (.int .i64 (Q.trc 9 6 Q.tb_9 k))) := ram_check (n := 9) (dv := [1, 3, 9]) (mu := [0, -1, 1]) (by decide) (by decide +kernel) dvs_9 (fun i hi => match i, hi with | 0, _ => mob_9 | 1, _ => mob_3 | 2, _ => mob_1 | _ + 3, hi => absurd hi (by simp)) hk
theorem trb_9 (k : Nat) : -1000000 ≤ Q.trc 9 6 Q.tb_9 k ∧ Q.trc 9 6 Q.tb_9 k ≤ 1000000 := trc_bd (by decide) (by decide +kernel) k
theorem ram_10 {k : Nat} (hk : k < 10) : FnOK Tryz.prog false 34 [.c (.int .i64 10), .c (.int .i64 k)] (.c (.int .i64 (Q.trc 10 4 Q.tb_10 k))) := ram_check (n := 10) (dv := [1, 2, 5, 10]) (mu := [1, -1, -1, 1]) (by decide) (by decide +kernel) dvs_10 (fun i hi => match i, hi with | 0, _ => mob_10 | 1, _ => mob_5 | 2, _ => mob_2 | 3, _ => mob_1 | _ + 4, hi => absurd hi (by simp)) hk
theorem trb_10 (k : Nat) : -1000000 ≤ Q.trc 10 4 Q.tb_10 k ∧ Q.trc 10 4 Q.tb_10 k ≤ 1000000 := trc_bd (by decide) (by decide +kernel) k
theorem ram_11 {k : Nat} (hk : k < 11) : FnOK Tryz.prog false 34 [.c (.int .i64 11), .c (.int .i64 k)] (.c (.int .i64 (Q.trc 11 10 Q.tb_11 k))) := ram_check (n := 11) (dv := [1, 11]) (mu := [-1, 1]) (by decide) (by decide +kernel) dvs_11 (fun i hi => match i, hi with | 0, _ => mob_11 | 1, _ => mob_1 | _ + 2, hi => absurd hi (by simp)) hk
theorem trb_11 (k : Nat) : -1000000 ≤ Q.trc 11 10 Q.tb_11 k ∧ Q.trc 11 10 Q.tb_11 k ≤ 1000000 := trc_bd (by decide) (by decide +kernel) k
theorem ram_12 {k : Nat} (hk : k < 12) : FnOK Tryz.prog false 34 [.c (.int .i64 12), .c (.int .i64 k)] (.c (.int .i64 (Q.trc 12 4 Q.tb_12 k))) := ram_check (n := 12) (dv := [1, 2, 3, 4, 6, 12]) (mu := [0, 1, 0, -1, -1, 1]) (by decide) (by decide +kernel) dvs_12 (fun i hi => match i, hi with | 0, _ => mob_12 | 1, _ => mob_6 | 2, _ => mob_4 | 3, _ => mob_3 | 4, _ => mob_2 | 5, _ => mob_1 | _ + 6, hi => absurd hi (by simp)) hk
theorem trb_12 (k : Nat) : -1000000 ≤ Q.trc 12 4 Q.tb_12 k ∧ Q.trc 12 4 Q.tb_12 k ≤ 1000000 := trc_bd (by decide) (by decide +kernel) k
theorem ram_13 {k : Nat} (hk : k < 13) : FnOK Tryz.prog false 34 [.c (.int .i64 13), .c (.int .i64 k)] (.c (.int .i64 (Q.trc 13 12 Q.tb_13 k))) := ram_check (n := 13) (dv := [1, 13]) (mu := [-1, 1]) (by decide) (by decide +kernel) dvs_13 (fun i hi => match i, hi with | 0, _ => mob_13 | 1, _ => mob_1 | _ + 2, hi => absurd hi (by simp)) hk
theorem trb_13 (k : Nat) : -1000000 ≤ Q.trc 13 12 Q.tb_13 k ∧ Q.trc 13 12 Q.tb_13 k ≤ 1000000 := trc_bd (by decide) (by decide +kernel) k
theorem ram_14 {k : Nat} (hk : k < 14) : FnOK Tryz.prog false 34 [.c (.int .i64 14), .c (.int .i64 k)] (.c (.int .i64 (Q.trc 14 6 Q.tb_14 k))) := ram_check (n := 14) (dv := [1, 2, 7, 14]) (mu := [1, -1, -1, 1]) (by decide) (by decide +kernel) dvs_14 (fun i hi => match i, hi with | 0, _ => mob_14 | 1, _ => mob_7 | 2, _ => mob_2 | 3, _ => mob_1 | _ + 4, hi => absurd hi (by simp)) hk
theorem trb_14 (k : Nat) : -1000000 ≤ Q.trc 14 6 Q.tb_14 k ∧ Q.trc 14 6 Q.tb_14 k ≤ 1000000 := trc_bd (by decide) (by decide +kernel) k
theorem ram_15 {k : Nat} (hk : k < 15) : FnOK Tryz.prog false 34 [.c (.int .i64 15), .c (.int .i64 k)] (.c (.int .i64 (Q.trc 15 8 Q.tb_15 k))) := ram_check (n := 15) (dv := [1, 3, 5, 15]) (mu := [1, -1, -1, 1]) (by decide) (by decide +kernel) dvs_15 (fun i hi => match i, hi with | 0, _ => mob_15 | 1, _ => mob_5 | 2, _ => mob_3 | 3, _ => mob_1 | _ + 4, hi => absurd hi (by simp)) hk
theorem trb_15 (k : Nat) : -1000000 ≤ Q.trc 15 8 Q.tb_15 k ∧ Q.trc 15 8 Q.tb_15 k ≤ 1000000 := trc_bd (by decide) (by decide +kernel) k
theorem ram_16 {k : Nat} (hk : k < 16) : FnOK Tryz.prog false 34 [.c (.int .i64 16), .c (.int .i64 k)] (.c (.int .i64 (Q.trc 16 8 Q.tb_16 k))) := ram_check (n := 16) (dv := [1, 2, 4, 8, 16]) (mu := [0, 0, 0, -1, 1]) (by decide) (by decide +kernel) dvs_16 (fun i hi => match i, hi with | 0, _ => mob_16 | 1, _ => mob_8 | 2, _ => mob_4 | 3, _ => mob_2 | 4, _ => mob_1 | _ + 5, hi => absurd hi (by simp)) hk
theorem trb_16 (k : Nat) : -1000000 ≤ Q.trc 16 8 Q.tb_16 k ∧ Q.trc 16 8 Q.tb_16 k ≤ 1000000 := trc_bd (by decide) (by decide +kernel) k
theorem ram_18 {k : Nat} (hk : k < 18) : FnOK Tryz.prog false 34 [.c (.int .i64 18), .c (.int .i64 k)] (.c (.int .i64 (Q.trc 18 6 Q.tb_18 k))) := ram_check (n := 18) (dv := [1, 2, 3, 6, 9, 18]) (mu := [0, 0, 1, -1, -1, 1]) (by decide) (by decide +kernel) dvs_18 (fun i hi => match i, hi with | 0, _ => mob_18 | 1, _ => mob_9 | 2, _ => mob_6 | 3, _ => mob_3 | 4, _ => mob_2 | 5, _ => mob_1 | _ + 6, hi => absurd hi (by simp)) hk
theorem trb_18 (k : Nat) : -1000000 ≤ Q.trc 18 6 Q.tb_18 k ∧ Q.trc 18 6 Q.tb_18 k ≤ 1000000 := trc_bd (by decide) (by decide +kernel) k
theorem ram_20 {k : Nat} (hk : k < 20) : FnOK Tryz.prog false 34 [.c (.int .i64 20), .c (.int .i64 k)] (.c (.int .i64 (Q.trc 20 8 Q.tb_20 k))) := ram_check (n := 20) (dv := [1, 2, 4, 5, 10, 20]) (mu := [0, 1, -1, 0, -1, 1]) (by decide) (by decide +kernel) dvs_20 (fun i hi => match i, hi with | 0, _ => mob_20 | 1, _ => mob_10 | 2, _ => mob_5 | 3, _ => mob_4 | 4, _ => mob_2 | 5, _ => mob_1 | _ + 6, hi => absurd hi (by simp)) hk
theorem trb_20 (k : Nat) : -1000000 ≤ Q.trc 20 8 Q.tb_20 k ∧ Q.trc 20 8 Q.tb_20 k ≤ 1000000 := trc_bd (by decide) (by decide +kernel) k
theorem ram_21 {k : Nat} (hk : k < 21) : FnOK Tryz.prog false 34 [.c (.int .i64 21), .c (.int .i64 k)] (.c (.int .i64 (Q.trc 21 12 Q.tb_21 k))) := ram_check (n := 21) (dv := [1, 3, 7, 21]) (mu := [1, -1, -1, 1]) (by decide) (by decide +kernel) dvs_21 (fun i hi => match i, hi with | 0, _ => mob_21 | 1, _ => mob_7 | 2, _ => mob_3 | 3, _ => mob_1 | _ + 4, hi => absurd hi (by simp)) hk
theorem trb_21 (k : Nat) : -1000000 ≤ Q.trc 21 12 Q.tb_21 k ∧ Q.trc 21 12 Q.tb_21 k ≤ 1000000 := trc_bd (by decide) (by decide +kernel) k
theorem ram_22 {k : Nat} (hk : k < 22) : FnOK Tryz.prog false 34 [.c (.int .i64 22), .c (.int .i64 k)] (.c (.int .i64 (Q.trc 22 10 Q.tb_22 k))) := ram_check (n := 22) (dv := [1, 2, 11, 22]) (mu := [1, -1, -1, 1]) (by decide) (by decide +kernel) dvs_22 (fun i hi => match i, hi with | 0, _ => mob_22 | 1, _ => mob_11 | 2, _ => mob_2 | 3, _ => mob_1 | _ + 4, hi => absurd hi (by simp)) hk
theorem trb_22 (k : Nat) : -1000000 ≤ Q.trc 22 10 Q.tb_22 k ∧ Q.trc 22 10 Q.tb_22 k ≤ 1000000 := trc_bd (by decide) (by decide +kernel) k
theorem ram_24 {k : Nat} (hk : k < 24) : FnOK Tryz.prog false 34 [.c (.int .i64 24), .c (.int .i64 k)] (.c (.int .i64 (Q.trc 24 8 Q.tb_24 k))) := ram_check (n := 24) (dv := [1, 2, 3, 4, 6, 8, 12, 24]) (mu := [0, 0, 0, 1, 0, -1, -1, 1]) (by decide) (by decide +kernel) dvs_24 (fun i hi => match i, hi with | 0, _ => mob_24 | 1, _ => mob_12 | 2, _ => mob_8 | 3, _ => mob_6 | 4, _ => mob_4 | 5, _ => mob_3 | 6, _ => mob_2 | 7, _ => mob_1 | _ + 8, hi => absurd hi (by simp)) hk
theorem trb_24 (k : Nat) : -1000000 ≤ Q.trc 24 8 Q.tb_24 k ∧ Q.trc 24 8 Q.tb_24 k ≤ 1000000 := trc_bd (by decide) (by decide +kernel) k
theorem ram_26 {k : Nat} (hk : k < 26) : FnOK Tryz.prog false 34 [.c (.int .i64 26), .c (.int .i64 k)] (.c (.int .i64 (Q.trc 26 12 Q.tb_26 k))) := ram_check (n := 26) (dv := [1, 2, 13, 26]) (mu := [1, -1, -1, 1]) (by decide) (by decide +kernel) dvs_26 (fun i hi => match i, hi with | 0, _ => mob_26 | 1, _ => mob_13 | 2, _ => mob_2 | 3, _ => mob_1 | _ + 4, hi => absurd hi (by simp)) hk
theorem trb_26 (k : Nat) : -1000000 ≤ Q.trc 26 12 Q.tb_26 k ∧ Q.trc 26 12 Q.tb_26 k ≤ 1000000 := trc_bd (by decide) (by decide +kernel) k
theorem ram_28 {k : Nat} (hk : k < 28) : FnOK Tryz.prog false 34 [.c (.int .i64 28), .c (.int .i64 k)] (.c (.int .i64 (Q.trc 28 12 Q.tb_28 k))) := ram_check (n := 28) (dv := [1, 2, 4, 7, 14, 28]) (mu := [0, 1, -1, 0, -1, 1]) (by decide) (by decide +kernel) dvs_28 (fun i hi => match i, hi with | 0, _ => mob_28 | 1, _ => mob_14 | 2, _ => mob_7 | 3, _ => mob_4 | 4, _ => mob_2 | 5, _ => mob_1 | _ + 6, hi => absurd hi (by simp)) hk
theorem trb_28 (k : Nat) : -1000000 ≤ Q.trc 28 12 Q.tb_28 k ∧ Q.trc 28 12 Q.tb_28 k ≤ 1000000 := trc_bd (by decide) (by decide +kernel) k
theorem ram_30 {k : Nat} (hk : k < 30) : FnOK Tryz.prog false 34 [.c (.int .i64 30), .c (.int .i64 k)] (.c (.int .i64 (Q.trc 30 8 Q.tb_30 k))) := ram_check (n := 30) (dv := [1, 2, 3, 5, 6, 10, 15, 30]) (mu := [-1, 1, 1, 1, -1, -1, -1, 1]) (by decide) (by decide +kernel) dvs_30 (fun i hi => match i, hi with | 0, _ => mob_30 | 1, _ => mob_15 | 2, _ => mob_10 | 3, _ => mob_6 | 4, _ => mob_5 | 5, _ => mob_3 | 6, _ => mob_2 | 7, _ => mob_1 | _ + 8, hi => absurd hi (by simp)) hk
theorem trb_30 (k : Nat) : -1000000 ≤ Q.trc 30 8 Q.tb_30 k ∧ Q.trc 30 8 Q.tb_30 k ≤ 1000000 := trc_bd (by decide) (by decide +kernel) k
theorem ram_36 {k : Nat} (hk : k < 36) : FnOK Tryz.prog false 34 [.c (.int .i64 36), .c (.int .i64 k)] (.c (.int .i64 (Q.trc 36 12 Q.tb_36 k))) := ram_check (n := 36) (dv := [1, 2, 3, 4, 6, 9, 12, 18, 36]) (mu := [0, 0, 0, 0, 1, 0, -1, -1, 1]) (by decide) (by decide +kernel) dvs_36 (fun i hi => match i, hi with | 0, _ => mob_36 | 1, _ => mob_18 | 2, _ => mob_12 | 3, _ => mob_9 | 4, _ => mob_6 | 5, _ => mob_4 | 6, _ => mob_3 | 7, _ => mob_2 | 8, _ => mob_1 | _ + 9, hi => absurd hi (by simp)) hk
theorem trb_36 (k : Nat) : -1000000 ≤ Q.trc 36 12 Q.tb_36 k ∧ Q.trc 36 12 Q.tb_36 k ≤ 1000000 := trc_bd (by decide) (by decide +kernel) k
theorem ram_42 {k : Nat} (hk : k < 42) : FnOK Tryz.prog false 34 [.c (.int .i64 42), .c (.int .i64 k)] (.c (.int .i64 (Q.trc 42 12 Q.tb_42 k))) := ram_check (n := 42) (dv := [1, 2, 3, 6, 7, 14, 21, 42]) (mu := [-1, 1, 1, -1, 1, -1, -1, 1]) (by decide) (by decide +kernel) dvs_42 (fun i hi => match i, hi with | 0, _ => mob_42 | 1, _ => mob_21 | 2, _ => mob_14 | 3, _ => mob_7 | 4, _ => mob_6 | 5, _ => mob_3 | 6, _ => mob_2 | 7, _ => mob_1 | _ + 8, hi => absurd hi (by simp)) hk
theorem trb_42 (k : Nat) : -1000000 ≤ Q.trc 42 12 Q.tb_42 k ∧ Q.trc 42 12 Q.tb_42 k ≤ 1000000 := trc_bd (by decide) (by decide +kernel) k
theorem traces_at {n : Nat} {k : Int} (h : n ∈ ordsL) : FnOK Tryz.prog true 7 [.c (.int .i64 n), .c (.int .i64 k)] (.c (.bool true)) := by
 simp only [ordsL, List.mem_cons, List.not_mem_nil, or_false] at h
 rcases h with rfl | rfl | rfl | rfl | rfl | rfl | rfl | rfl | rfl | rfl | rfl | rfl | rfl | rfl | rfl | rfl | rfl | rfl | rfl | rfl | rfl | rfl | rfl | rfl | rfl | rfl
 ·exact cy_1.traces_law awake15 ram_1 trb_1
 ·exact cy_2.traces_law awake15 ram_2 trb_2
 ·exact cy_3.traces_law awake15 ram_3 trb_3
 ·exact cy_4.traces_law awake15 ram_4 trb_4
 ·exact cy_5.traces_law awake15 ram_5 trb_5
 ·exact cy_6.traces_law awake15 ram_6 trb_6
 ·exact cy_7.traces_law awake15 ram_7 trb_7
 ·exact cy_8.traces_law awake15 ram_8 trb_8
 ·exact cy_9.traces_law awake15 ram_9 trb_9
 ·exact cy_10.traces_law awake15 ram_10 trb_10
 ·exact cy_11.traces_law awake15 ram_11 trb_11
 ·exact cy_12.traces_law awake15 ram_12 trb_12
 ·exact cy_13.traces_law awake15 ram_13 trb_13
 ·exact cy_14.traces_law awake15 ram_14 trb_14
 ·exact cy_15.traces_law awake15 ram_15 trb_15
 ·exact cy_16.traces_law awake15 ram_16 trb_16
 ·exact cy_18.traces_law awake15 ram_18 trb_18
 ·exact cy_20.traces_law awake15 ram_20 trb_20
 ·exact cy_21.traces_law awake15 ram_21 trb_21
 ·exact cy_22.traces_law awake15 ram_22 trb_22
 ·exact cy_24.traces_law awake15 ram_24 trb_24
 ·exact cy_26.traces_law awake15 ram_26 trb_26
 ·exact cy_28.traces_law awake15 ram_28 trb_28
 ·exact cy_30.traces_law awake15 ram_30 trb_30
 ·exact cy_36.traces_law awake15 ram_36 trb_36
 ·exact cy_42.traces_law awake15 ram_42 trb_42
end Rf
end Go.Proofs.YtmbejakmeijcbaaGreat
