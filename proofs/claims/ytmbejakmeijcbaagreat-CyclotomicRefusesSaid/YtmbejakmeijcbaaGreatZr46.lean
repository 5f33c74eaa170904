/- Runs: the program's cyclotomic polynomials, its check of orders, the document's divisors, at 20, 21, 22, 24, 26. -/
import Derived.Test.YtmbejakmeijcbaaGreatZr13
namespace Go.Proofs.YtmbejakmeijcbaaGreat
open Go.RowKit
theorem phi_20 : FnOK Tryz.prog false 35 [.c (.int .i64 20)] (.t2 (.c (nl 9 (lf [1, 0, -1, 0, 1, 0, -1, 0, 1]))) (.c (.int .i64 0))) := runY_same orcP_ok (inl := dvI) (by kernel_rfl)
theorem chk_20 : FnOK Tryz.prog false 42 [.c (.int .i64 20)] (.c (.int .i64 0)) := runY_same orcP_ok (inl := dvI) (by kernel_rfl)
theorem dvs_20 : FnOK Tryz.prog false 61 [.c (.int .i64 20)] (.c (Rf.ints 6 fun i => ([1, 2, 4, 5, 10, 20] : List Nat).getD i 0)) := run_same (inl := fun _ => false) (by kernel_rfl)
theorem phi_21 : FnOK Tryz.prog false 35 [.c (.int .i64 21)] (.t2 (.c (nl 13 (lf [1, -1, 0, 1, -1, 0, 1, 0, -1, 1, 0, -1, 1]))) (.c (.int .i64 0))) := runY_same orcP_ok (inl := dvI) (by kernel_rfl)
theorem chk_21 : FnOK Tryz.prog false 42 [.c (.int .i64 21)] (.c (.int .i64 0)) := runY_same orcP_ok (inl := dvI) (by kernel_rfl)
theorem dvs_21 : FnOK Tryz.prog false 61 [.c (.int .i64 21)] (.c (Rf.ints 4 fun i => ([1, 3, 7, 21] : List Nat).getD i 0)) := run_same (inl := fun _ => false) (by kernel_rfl)
theorem phi_22 : FnOK Tryz.prog false 35 [.c (.int .i64 22)] (.t2 (.c (nl 11 (lf [1, -1, 1, -1, 1, -1, 1, -1, 1, -1, 1]))) (.c (.int .i64 0))) := runY_same orcP_ok (inl := dvI) (by kernel_rfl)
theorem chk_22 : FnOK Tryz.prog false 42 [.c (.int .i64 22)] (.c (.int .i64 0)) := runY_same orcP_ok (inl := dvI) (by kernel_rfl)
theorem dvs_22 : FnOK Tryz.prog false 61 [.c (.int .i64 22)] (.c (Rf.ints 4 fun i => ([1, 2, 11, 22] : List Nat).getD i 0)) := run_same (inl := fun _ => false) (by kernel_rfl)
theorem phi_24 : FnOK Tryz.prog false 35 [.c (.int .i64 24)] (.t2 (.c (nl 9 (lf [1, 0, 0, 0, -1, 0, 0, 0, 1]))) (.c (.int .i64 0))) := runY_same orcP_ok (inl := dvI) (by kernel_rfl)
theorem chk_24 : FnOK Tryz.prog false 42 [.c (.int .i64 24)] (.c (.int .i64 0)) := runY_same orcP_ok (inl := dvI) (by kernel_rfl)
theorem dvs_24 : FnOK Tryz.prog false 61 [.c (.int .i64 24)] (.c (Rf.ints 8 fun i => ([1, 2, 3, 4, 6, 8, 12, 24] : List Nat).getD i 0)) := run_same (inl := fun _ => false) (by kernel_rfl)
theorem phi_26 : FnOK Tryz.prog false 35 [.c (.int .i64 26)] (.t2 (.c (nl 13 (lf [1, -1, 1, -1, 1, -1, 1, -1, 1, -1, 1, -1, 1]))) (.c (.int .i64 0))) := runY_same orcP_ok (inl := dvI) (by kernel_rfl)
theorem chk_26 : FnOK Tryz.prog false 42 [.c (.int .i64 26)] (.c (.int .i64 0)) := runY_same orcP_ok (inl := dvI) (by kernel_rfl)
theorem dvs_26 : FnOK Tryz.prog false 61 [.c (.int .i64 26)] (.c (Rf.ints 4 fun i => ([1, 2, 13, 26] : List Nat).getD i 0)) := run_same (inl := fun _ => false) (by kernel_rfl)
end Go.Proofs.YtmbejakmeijcbaaGreat
