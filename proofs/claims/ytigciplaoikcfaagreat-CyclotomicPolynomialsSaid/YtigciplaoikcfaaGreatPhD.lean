/- Runs: the program's cyclotomic polynomials and the document's divisors, n = 45 .. 50. -/
import Derived.Test.YtigciplaoikcfaaGreatTmC
namespace Go.Proofs.YtigciplaoikcfaaGreat
open Go.RowKit
theorem phi_45 : FnOK Tryz.prog false 16 [.c (.int .i64 45)] (.t2 (.c (nl 25 (lf [1, 0, 0, -1, 0, 0, 0, 0, 0, 1, 0, 0, -1, 0, 0, 1, 0, 0, 0, 0, 0, -1, 0, 0, 1]))) (.c (.int .i64 0))) := runY_same orcP_ok (inl := dvI) (by kernel_rfl)
theorem dvs_45 : FnOK Tryz.prog false 17 [.c (.int .i64 45)] (.c (Rf.ints 6 fun i => ([1, 3, 5, 9, 15, 45] : List Nat).getD i 0)) := run_same (inl := fun _ => false) (by kernel_rfl)
theorem phi_46 : FnOK Tryz.prog false 16 [.c (.int .i64 46)] (.t2 (.c (nl 23 (lf [1, -1, 1, -1, 1, -1, 1, -1, 1, -1, 1, -1, 1, -1, 1, -1, 1, -1, 1, -1, 1, -1, 1]))) (.c (.int .i64 0))) := runY_same orcP_ok (inl := dvI) (by kernel_rfl)
theorem dvs_46 : FnOK Tryz.prog false 17 [.c (.int .i64 46)] (.c (Rf.ints 4 fun i => ([1, 2, 23, 46] : List Nat).getD i 0)) := run_same (inl := fun _ => false) (by kernel_rfl)
theorem phi_47 : FnOK Tryz.prog false 16 [.c (.int .i64 47)] (.t2 (.c (nl 47 (lf [1, 1, 1, 1, 1, 1, 1, 1, 1, 1, 1, 1, 1, 1, 1, 1, 1, 1, 1, 1, 1, 1, 1, 1, 1, 1, 1, 1, 1, 1, 1, 1, 1, 1, 1, 1, 1, 1, 1, 1, 1, 1, 1, 1, 1, 1, 1]))) (.c (.int .i64 0))) := runY_same orcP_ok (inl := dvI) (by kernel_rfl)
theorem dvs_47 : FnOK Tryz.prog false 17 [.c (.int .i64 47)] (.c (Rf.ints 2 fun i => ([1, 47] : List Nat).getD i 0)) := run_same (inl := fun _ => false) (by kernel_rfl)
theorem phi_48 : FnOK Tryz.prog false 16 [.c (.int .i64 48)] (.t2 (.c (nl 17 (lf [1, 0, 0, 0, 0, 0, 0, 0, -1, 0, 0, 0, 0, 0, 0, 0, 1]))) (.c (.int .i64 0))) := runY_same orcP_ok (inl := dvI) (by kernel_rfl)
theorem dvs_48 : FnOK Tryz.prog false 17 [.c (.int .i64 48)] (.c (Rf.ints 10 fun i => ([1, 2, 3, 4, 6, 8, 12, 16, 24, 48] : List Nat).getD i 0)) := run_same (inl := fun _ => false) (by kernel_rfl)
theorem phi_49 : FnOK Tryz.prog false 16 [.c (.int .i64 49)] (.t2 (.c (nl 43 (lf [1, 0, 0, 0, 0, 0, 0, 1, 0, 0, 0, 0, 0, 0, 1, 0, 0, 0, 0, 0, 0, 1, 0, 0, 0, 0, 0, 0, 1, 0, 0, 0, 0, 0, 0, 1, 0, 0, 0, 0, 0, 0, 1]))) (.c (.int .i64 0))) := runY_same orcP_ok (inl := dvI) (by kernel_rfl)
theorem dvs_49 : FnOK Tryz.prog false 17 [.c (.int .i64 49)] (.c (Rf.ints 3 fun i => ([1, 7, 49] : List Nat).getD i 0)) := run_same (inl := fun _ => false) (by kernel_rfl)
theorem phi_50 : FnOK Tryz.prog false 16 [.c (.int .i64 50)] (.t2 (.c (nl 21 (lf [1, 0, 0, 0, 0, -1, 0, 0, 0, 0, 1, 0, 0, 0, 0, -1, 0, 0, 0, 0, 1]))) (.c (.int .i64 0))) := runY_same orcP_ok (inl := dvI) (by kernel_rfl)
theorem dvs_50 : FnOK Tryz.prog false 17 [.c (.int .i64 50)] (.c (Rf.ints 6 fun i => ([1, 2, 5, 10, 25, 50] : List Nat).getD i 0)) := run_same (inl := fun _ => false) (by kernel_rfl)
end Go.Proofs.YtigciplaoikcfaaGreat
