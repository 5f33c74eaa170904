/- Runs: the program's cyclotomic polynomials and the document's divisors, n = 51 .. 55. -/
import Derived.Test.YtigciplaoikcfaaGreatTmC
namespace Go.Proofs.YtigciplaoikcfaaGreat
open Go.RowKit
theorem phi_51 : FnOK Tryz.prog false 16 [.c (.int .i64 51)] (.t2 (.c (nl 33 (lf [1, -1, 0, 1, -1, 0, 1, -1, 0, 1, -1, 0, 1, -1, 0, 1, -1, 1, 0, -1, 1, 0, -1, 1, 0, -1, 1, 0, -1, 1, 0, -1, 1]))) (.c (.int .i64 0))) := runY_same orcP_ok (inl := dvI) (by kernel_rfl)
theorem dvs_51 : FnOK Tryz.prog false 17 [.c (.int .i64 51)] (.c (Rf.ints 4 fun i => ([1, 3, 17, 51] : List Nat).getD i 0)) := run_same (inl := fun _ => false) (by kernel_rfl)
theorem phi_52 : FnOK Tryz.prog false 16 [.c (.int .i64 52)] (.t2 (.c (nl 25 (lf [1, 0, -1, 0, 1, 0, -1, 0, 1, 0, -1, 0, 1, 0, -1, 0, 1, 0, -1, 0, 1, 0, -1, 0, 1]))) (.c (.int .i64 0))) := runY_same orcP_ok (inl := dvI) (by kernel_rfl)
theorem dvs_52 : FnOK Tryz.prog false 17 [.c (.int .i64 52)] (.c (Rf.ints 6 fun i => ([1, 2, 4, 13, 26, 52] : List Nat).getD i 0)) := run_same (inl := fun _ => false) (by kernel_rfl)
theorem phi_53 : FnOK Tryz.prog false 16 [.c (.int .i64 53)] (.t2 (.c (nl 53 (lf [1, 1, 1, 1, 1, 1, 1, 1, 1, 1, 1, 1, 1, 1, 1, 1, 1, 1, 1, 1, 1, 1, 1, 1, 1, 1, 1, 1, 1, 1, 1, 1, 1, 1, 1, 1, 1, 1, 1, 1, 1, 1, 1, 1, 1, 1, 1, 1, 1, 1, 1, 1, 1]))) (.c (.int .i64 0))) := runY_same orcP_ok (inl := dvI) (by kernel_rfl)
theorem dvs_53 : FnOK Tryz.prog false 17 [.c (.int .i64 53)] (.c (Rf.ints 2 fun i => ([1, 53] : List Nat).getD i 0)) := run_same (inl := fun _ => false) (by kernel_rfl)
theorem phi_54 : FnOK Tryz.prog false 16 [.c (.int .i64 54)] (.t2 (.c (nl 19 (lf [1, 0, 0, 0, 0, 0, 0, 0, 0, -1, 0, 0, 0, 0, 0, 0, 0, 0, 1]))) (.c (.int .i64 0))) := runY_same orcP_ok (inl := dvI) (by kernel_rfl)
theorem dvs_54 : FnOK Tryz.prog false 17 [.c (.int .i64 54)] (.c (Rf.ints 8 fun i => ([1, 2, 3, 6, 9, 18, 27, 54] : List Nat).getD i 0)) := run_same (inl := fun _ => false) (by kernel_rfl)
theorem phi_55 : FnOK Tryz.prog false 16 [.c (.int .i64 55)] (.t2 (.c (nl 41 (lf [1, -1, 0, 0, 0, 1, -1, 0, 0, 0, 1, 0, -1, 0, 0, 1, 0, -1, 0, 0, 1, 0, 0, -1, 0, 1, 0, 0, -1, 0, 1, 0, 0, 0, -1, 1, 0, 0, 0, -1, 1]))) (.c (.int .i64 0))) := runY_same orcP_ok (inl := dvI) (by kernel_rfl)
theorem dvs_55 : FnOK Tryz.prog false 17 [.c (.int .i64 55)] (.c (Rf.ints 4 fun i => ([1, 5, 11, 55] : List Nat).getD i 0)) := run_same (inl := fun _ => false) (by kernel_rfl)
end Go.Proofs.YtigciplaoikcfaaGreat
