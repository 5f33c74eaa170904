/- Runs: the program's cyclotomic polynomials and the document's divisors, n = 25 .. 36. -/
import Derived.Test.YtigciplaoikcfaaGreatTmC
namespace Go.Proofs.YtigciplaoikcfaaGreat
open Go.RowKit
theorem phi_25 : FnOK Tryz.prog false 16 [.c (.int .i64 25)] (.t2 (.c (nl 21 (lf [1, 0, 0, 0, 0, 1, 0, 0, 0, 0, 1, 0, 0, 0, 0, 1, 0, 0, 0, 0, 1]))) (.c (.int .i64 0))) := runY_same orcP_ok (inl := dvI) (by kernel_rfl)
theorem dvs_25 : FnOK Tryz.prog false 17 [.c (.int .i64 25)] (.c (Rf.ints 3 fun i => ([1, 5, 25] : List Nat).getD i 0)) := run_same (inl := fun _ => false) (by kernel_rfl)
theorem phi_26 : FnOK Tryz.prog false 16 [.c (.int .i64 26)] (.t2 (.c (nl 13 (lf [1, -1, 1, -1, 1, -1, 1, -1, 1, -1, 1, -1, 1]))) (.c (.int .i64 0))) := runY_same orcP_ok (inl := dvI) (by kernel_rfl)
theorem dvs_26 : FnOK Tryz.prog false 17 [.c (.int .i64 26)] (.c (Rf.ints 4 fun i => ([1, 2, 13, 26] : List Nat).getD i 0)) := run_same (inl := fun _ => false) (by kernel_rfl)
theorem phi_27 : FnOK Tryz.prog false 16 [.c (.int .i64 27)] (.t2 (.c (nl 19 (lf [1, 0, 0, 0, 0, 0, 0, 0, 0, 1, 0, 0, 0, 0, 0, 0, 0, 0, 1]))) (.c (.int .i64 0))) := runY_same orcP_ok (inl := dvI) (by kernel_rfl)
theorem dvs_27 : FnOK Tryz.prog false 17 [.c (.int .i64 27)] (.c (Rf.ints 4 fun i => ([1, 3, 9, 27] : List Nat).getD i 0)) := run_same (inl := fun _ => false) (by kernel_rfl)
theorem phi_28 : FnOK Tryz.prog false 16 [.c (.int .i64 28)] (.t2 (.c (nl 13 (lf [1, 0, -1, 0, 1, 0, -1, 0, 1, 0, -1, 0, 1]))) (.c (.int .i64 0))) := runY_same orcP_ok (inl := dvI) (by kernel_rfl)
theorem dvs_28 : FnOK Tryz.prog false 17 [.c (.int .i64 28)] (.c (Rf.ints 6 fun i => ([1, 2, 4, 7, 14, 28] : List Nat).getD i 0)) := run_same (inl := fun _ => false) (by kernel_rfl)
theorem phi_29 : FnOK Tryz.prog false 16 [.c (.int .i64 29)] (.t2 (.c (nl 29 (lf [1, 1, 1, 1, 1, 1, 1, 1, 1, 1, 1, 1, 1, 1, 1, 1, 1, 1, 1, 1, 1, 1, 1, 1, 1, 1, 1, 1, 1]))) (.c (.int .i64 0))) := runY_same orcP_ok (inl := dvI) (by kernel_rfl)
theorem dvs_29 : FnOK Tryz.prog false 17 [.c (.int .i64 29)] (.c (Rf.ints 2 fun i => ([1, 29] : List Nat).getD i 0)) := run_same (inl := fun _ => false) (by kernel_rfl)
theorem phi_30 : FnOK Tryz.prog false 16 [.c (.int .i64 30)] (.t2 (.c (nl 9 (lf [1, 1, 0, -1, -1, -1, 0, 1, 1]))) (.c (.int .i64 0))) := runY_same orcP_ok (inl := dvI) (by kernel_rfl)
theorem dvs_30 : FnOK Tryz.prog false 17 [.c (.int .i64 30)] (.c (Rf.ints 8 fun i => ([1, 2, 3, 5, 6, 10, 15, 30] : List Nat).getD i 0)) := run_same (inl := fun _ => false) (by kernel_rfl)
theorem phi_31 : FnOK Tryz.prog false 16 [.c (.int .i64 31)] (.t2 (.c (nl 31 (lf [1, 1, 1, 1, 1, 1, 1, 1, 1, 1, 1, 1, 1, 1, 1, 1, 1, 1, 1, 1, 1, 1, 1, 1, 1, 1, 1, 1, 1, 1, 1]))) (.c (.int .i64 0))) := runY_same orcP_ok (inl := dvI) (by kernel_rfl)
theorem dvs_31 : FnOK Tryz.prog false 17 [.c (.int .i64 31)] (.c (Rf.ints 2 fun i => ([1, 31] : List Nat).getD i 0)) := run_same (inl := fun _ => false) (by kernel_rfl)
theorem phi_32 : FnOK Tryz.prog false 16 [.c (.int .i64 32)] (.t2 (.c (nl 17 (lf [1, 0, 0, 0, 0, 0, 0, 0, 0, 0, 0, 0, 0, 0, 0, 0, 1]))) (.c (.int .i64 0))) := runY_same orcP_ok (inl := dvI) (by kernel_rfl)
theorem dvs_32 : FnOK Tryz.prog false 17 [.c (.int .i64 32)] (.c (Rf.ints 6 fun i => ([1, 2, 4, 8, 16, 32] : List Nat).getD i 0)) := run_same (inl := fun _ => false) (by kernel_rfl)
theorem phi_33 : FnOK Tryz.prog false 16 [.c (.int .i64 33)] (.t2 (.c (nl 21 (lf [1, -1, 0, 1, -1, 0, 1, -1, 0, 1, -1, 1, 0, -1, 1, 0, -1, 1, 0, -1, 1]))) (.c (.int .i64 0))) := runY_same orcP_ok (inl := dvI) (by kernel_rfl)
theorem dvs_33 : FnOK Tryz.prog false 17 [.c (.int .i64 33)] (.c (Rf.ints 4 fun i => ([1, 3, 11, 33] : List Nat).getD i 0)) := run_same (inl := fun _ => false) (by kernel_rfl)
theorem phi_34 : FnOK Tryz.prog false 16 [.c (.int .i64 34)] (.t2 (.c (nl 17 (lf [1, -1, 1, -1, 1, -1, 1, -1, 1, -1, 1, -1, 1, -1, 1, -1, 1]))) (.c (.int .i64 0))) := runY_same orcP_ok (inl := dvI) (by kernel_rfl)
theorem dvs_34 : FnOK Tryz.prog false 17 [.c (.int .i64 34)] (.c (Rf.ints 4 fun i => ([1, 2, 17, 34] : List Nat).getD i 0)) := run_same (inl := fun _ => false) (by kernel_rfl)
theorem phi_35 : FnOK Tryz.prog false 16 [.c (.int .i64 35)] (.t2 (.c (nl 25 (lf [1, -1, 0, 0, 0, 1, -1, 1, -1, 0, 1, -1, 1, -1, 1, 0, -1, 1, -1, 1, 0, 0, 0, -1, 1]))) (.c (.int .i64 0))) := runY_same orcP_ok (inl := dvI) (by kernel_rfl)
theorem dvs_35 : FnOK Tryz.prog false 17 [.c (.int .i64 35)] (.c (Rf.ints 4 fun i => ([1, 5, 7, 35] : List Nat).getD i 0)) := run_same (inl := fun _ => false) (by kernel_rfl)
theorem phi_36 : FnOK Tryz.prog false 16 [.c (.int .i64 36)] (.t2 (.c (nl 13 (lf [1, 0, 0, 0, 0, 0, -1, 0, 0, 0, 0, 0, 1]))) (.c (.int .i64 0))) := runY_same orcP_ok (inl := dvI) (by kernel_rfl)
theorem dvs_36 : FnOK Tryz.prog false 17 [.c (.int .i64 36)] (.c (Rf.ints 9 fun i => ([1, 2, 3, 4, 6, 9, 12, 18, 36] : List Nat).getD i 0)) := run_same (inl := fun _ => false) (by kernel_rfl)
end Go.Proofs.YtigciplaoikcfaaGreat
