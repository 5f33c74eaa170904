/- Runs: the program's cyclotomic polynomials, its check of orders, the document's divisors, at 28, 30, 36, 42. -/
import Derived.Test.YtmbejakmeijcbaaGreatZr13
namespace Go.Proofs.YtmbejakmeijcbaaGreat
open Go.RowKit
theorem phi_28 : FnOK Tryz.prog false 35 [.c (.int .i64 28)] (.t2 (.c (nl 13 (lf [1, 0, -1, 0, 1, 0, -1, 0, 1, 0, -1, 0, 1]))) (.c (.int .i64 0))) := runY_same orcP_ok (inl := dvI) (by kernel_rfl)
theorem chk_28 : FnOK Tryz.prog false 42 [.c (.int .i64 28)] (.c (.int .i64 0)) := runY_same orcP_ok (inl := dvI) (by kernel_rfl)
theorem dvs_28 : FnOK Tryz.prog false 61 [.c (.int .i64 28)] (.c (Rf.ints 6 fun i => ([1, 2, 4, 7, 14, 28] : List Nat).getD i 0)) := run_same (inl := fun _ => false) (by kernel_rfl)
theorem phi_30 : FnOK Tryz.prog false 35 [.c (.int .i64 30)] (.t2 (.c (nl 9 (lf [1, 1, 0, -1, -1, -1, 0, 1, 1]))) (.c (.int .i64 0))) := runY_same orcP_ok (inl := dvI) (by kernel_rfl)
theorem chk_30 : FnOK Tryz.prog false 42 [.c (.int .i64 30)] (.c (.int .i64 0)) := runY_same orcP_ok (inl := dvI) (by kernel_rfl)
theorem dvs_30 : FnOK Tryz.prog false 61 [.c (.int .i64 30)] (.c (Rf.ints 8 fun i => ([1, 2, 3, 5, 6, 10, 15, 30] : List Nat).getD i 0)) := run_same (inl := fun _ => false) (by kernel_rfl)
theorem phi_36 : FnOK Tryz.prog false 35 [.c (.int .i64 36)] (.t2 (.c (nl 13 (lf [1, 0, 0, 0, 0, 0, -1, 0, 0, 0, 0, 0, 1]))) (.c (.int .i64 0))) := runY_same orcP_ok (inl := dvI) (by kernel_rfl)
theorem chk_36 : FnOK Tryz.prog false 42 [.c (.int .i64 36)] (.c (.int .i64 0)) := runY_same orcP_ok (inl := dvI) (by kernel_rfl)
theorem dvs_36 : FnOK Tryz.prog false 61 [.c (.int .i64 36)] (.c (Rf.ints 9 fun i => ([1, 2, 3, 4, 6, 9, 12, 18, 36] : List Nat).getD i 0)) := run_same (inl := fun _ => false) (by kernel_rfl)
theorem phi_42 : FnOK Tryz.prog false 35 [.c (.int .i64 42)] (.t2 (.c (nl 13 (lf [1, 1, 0, -1, -1, 0, 1, 0, -1, -1, 0, 1, 1]))) (.c (.int .i64 0))) := runY_same orcP_ok (inl := dvI) (by kernel_rfl)
theorem chk_42 : FnOK Tryz.prog false 42 [.c (.int .i64 42)] (.c (.int .i64 0)) := runY_same orcP_ok (inl := dvI) (by kernel_rfl)
theorem dvs_42 : FnOK Tryz.prog false 61 [.c (.int .i64 42)] (.c (Rf.ints 8 fun i => ([1, 2, 3, 6, 7, 14, 21, 42] : List Nat).getD i 0)) := run_same (inl := fun _ => false) (by kernel_rfl)
end Go.Proofs.YtmbejakmeijcbaaGreat
