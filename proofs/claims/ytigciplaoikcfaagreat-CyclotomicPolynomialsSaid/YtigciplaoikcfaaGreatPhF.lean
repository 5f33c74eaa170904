/- Runs: the program's cyclotomic polynomials and the document's divisors, n = 56 .. 60. -/
import Derived.Test.YtigciplaoikcfaaGreatTmC
namespace Go.Proofs.YtigciplaoikcfaaGreat
open Go.RowKit
theorem phi_56 : FnOK Tryz.prog false 16 [.c (.int .i64 56)] (.t2 (.c (nl 25 (lf [1, 0, 0, 0, -1, 0, 0, 0, 1, 0, 0, 0, -1, 0, 0, 0, 1, 0, 0, 0, -1, 0, 0, 0, 1]))) (.c (.int .i64 0))) := runY_same orcP_ok (inl := dvI) (by kernel_rfl)
theorem dvs_56 : FnOK Tryz.prog false 17 [.c (.int .i64 56)] (.c (Rf.ints 8 fun i => ([1, 2, 4, 7, 8, 14, 28, 56] : List Nat).getD i 0)) := run_same (inl := fun _ => false) (by kernel_rfl)
theorem phi_57 : FnOK Tryz.prog false 16 [.c (.int .i64 57)] (.t2 (.c (nl 37 (lf [1, -1, 0, 1, -1, 0, 1, -1, 0, 1, -1, 0, 1, -1, 0, 1, -1, 0, 1, 0, -1, 1, 0, -1, 1, 0, -1, 1, 0, -1, 1, 0, -1, 1, 0, -1, 1]))) (.c (.int .i64 0))) := runY_same orcP_ok (inl := dvI) (by kernel_rfl)
theorem dvs_57 : FnOK Tryz.prog false 17 [.c (.int .i64 57)] (.c (Rf.ints 4 fun i => ([1, 3, 19, 57] : List Nat).getD i 0)) := run_same (inl := fun _ => false) (by kernel_rfl)
theorem phi_58 : FnOK Tryz.prog false 16 [.c (.int .i64 58)] (.t2 (.c (nl 29 (lf [1, -1, 1, -1, 1, -1, 1, -1, 1, -1, 1, -1, 1, -1, 1, -1, 1, -1, 1, -1, 1, -1, 1, -1, 1, -1, 1, -1, 1]))) (.c (.int .i64 0))) := runY_same orcP_ok (inl := dvI) (by kernel_rfl)
theorem dvs_58 : FnOK Tryz.prog false 17 [.c (.int .i64 58)] (.c (Rf.ints 4 fun i => ([1, 2, 29, 58] : List Nat).getD i 0)) := run_same (inl := fun _ => false) (by kernel_rfl)
theorem phi_59 : FnOK Tryz.prog false 16 [.c (.int .i64 59)] (.t2 (.c (nl 59 (lf [1, 1, 1, 1, 1, 1, 1, 1, 1, 1, 1, 1, 1, 1, 1, 1, 1, 1, 1, 1, 1, 1, 1, 1, 1, 1, 1, 1, 1, 1, 1, 1, 1, 1, 1, 1, 1, 1, 1, 1, 1, 1, 1, 1, 1, 1, 1, 1, 1, 1, 1, 1, 1, 1, 1, 1, 1, 1, 1]))) (.c (.int .i64 0))) := runY_same orcP_ok (inl := dvI) (by kernel_rfl)
theorem dvs_59 : FnOK Tryz.prog false 17 [.c (.int .i64 59)] (.c (Rf.ints 2 fun i => ([1, 59] : List Nat).getD i 0)) := run_same (inl := fun _ => false) (by kernel_rfl)
theorem phi_60 : FnOK Tryz.prog false 16 [.c (.int .i64 60)] (.t2 (.c (nl 17 (lf [1, 0, 1, 0, 0, 0, -1, 0, -1, 0, -1, 0, 0, 0, 1, 0, 1]))) (.c (.int .i64 0))) := runY_same orcP_ok (inl := dvI) (by kernel_rfl)
theorem dvs_60 : FnOK Tryz.prog false 17 [.c (.int .i64 60)] (.c (Rf.ints 12 fun i => ([1, 2, 3, 4, 5, 6, 10, 12, 15, 20, 30, 60] : List Nat).getD i 0)) := run_same (inl := fun _ => false) (by kernel_rfl)
end Go.Proofs.YtigciplaoikcfaaGreat
