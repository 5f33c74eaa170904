/- Runs: the program's cyclotomic polynomials and the document's divisors, n = 37 .. 44. -/
import Derived.Test.YtigciplaoikcfaaGreatTmC
namespace Go.Proofs.YtigciplaoikcfaaGreat
open Go.RowKit
theorem phi_37 : FnOK Tryz.prog false 16 [.c (.int .i64 37)] (.t2 (.c (nl 37 (lf [1, 1, 1, 1, 1, 1, 1, 1, 1, 1, 1, 1, 1, 1, 1, 1, 1, 1, 1, 1, 1, 1, 1, 1, 1, 1, 1, 1, 1, 1, 1, 1, 1, 1, 1, 1, 1]))) (.c (.int .i64 0))) := runY_same orcP_ok (inl := dvI) (by kernel_rfl)
theorem dvs_37 : FnOK Tryz.prog false 17 [.c (.int .i64 37)] (.c (Rf.ints 2 fun i => ([1, 37] : List Nat).getD i 0)) := run_same (inl := fun _ => false) (by kernel_rfl)
theorem phi_38 : FnOK Tryz.prog false 16 [.c (.int .i64 38)] (.t2 (.c (nl 19 (lf [1, -1, 1, -1, 1, -1, 1, -1, 1, -1, 1, -1, 1, -1, 1, -1, 1, -1, 1]))) (.c (.int .i64 0))) := runY_same orcP_ok (inl := dvI) (by kernel_rfl)
theorem dvs_38 : FnOK Tryz.prog false 17 [.c (.int .i64 38)] (.c (Rf.ints 4 fun i => ([1, 2, 19, 38] : List Nat).getD i 0)) := run_same (inl := fun _ => false) (by kernel_rfl)
theorem phi_39 : FnOK Tryz.prog false 16 [.c (.int .i64 39)] (.t2 (.c (nl 25 (lf [1, -1, 0, 1, -1, 0, 1, -1, 0, 1, -1, 0, 1, 0, -1, 1, 0, -1, 1, 0, -1, 1, 0, -1, 1]))) (.c (.int .i64 0))) := runY_same orcP_ok (inl := dvI) (by kernel_rfl)
theorem dvs_39 : FnOK Tryz.prog false 17 [.c (.int .i64 39)] (.c (Rf.ints 4 fun i => ([1, 3, 13, 39] : List Nat).getD i 0)) := run_same (inl := fun _ => false) (by kernel_rfl)
theorem phi_40 : FnOK Tryz.prog false 16 [.c (.int .i64 40)] (.t2 (.c (nl 17 (lf [1, 0, 0, 0, -1, 0, 0, 0, 1, 0, 0, 0, -1, 0, 0, 0, 1]))) (.c (.int .i64 0))) := runY_same orcP_ok (inl := dvI) (by kernel_rfl)
theorem dvs_40 : FnOK Tryz.prog false 17 [.c (.int .i64 40)] (.c (Rf.ints 8 fun i => ([1, 2, 4, 5, 8, 10, 20, 40] : List Nat).getD i 0)) := run_same (inl := fun _ => false) (by kernel_rfl)
theorem phi_41 : FnOK Tryz.prog false 16 [.c (.int .i64 41)] (.t2 (.c (nl 41 (lf [1, 1, 1, 1, 1, 1, 1, 1, 1, 1, 1, 1, 1, 1, 1, 1, 1, 1, 1, 1, 1, 1, 1, 1, 1, 1, 1, 1, 1, 1, 1, 1, 1, 1, 1, 1, 1, 1, 1, 1, 1]))) (.c (.int .i64 0))) := runY_same orcP_ok (inl := dvI) (by kernel_rfl)
theorem dvs_41 : FnOK Tryz.prog false 17 [.c (.int .i64 41)] (.c (Rf.ints 2 fun i => ([1, 41] : List Nat).getD i 0)) := run_same (inl := fun _ => false) (by kernel_rfl)
theorem phi_42 : FnOK Tryz.prog false 16 [.c (.int .i64 42)] (.t2 (.c (nl 13 (lf [1, 1, 0, -1, -1, 0, 1, 0, -1, -1, 0, 1, 1]))) (.c (.int .i64 0))) := runY_same orcP_ok (inl := dvI) (by kernel_rfl)
theorem dvs_42 : FnOK Tryz.prog false 17 [.c (.int .i64 42)] (.c (Rf.ints 8 fun i => ([1, 2, 3, 6, 7, 14, 21, 42] : List Nat).getD i 0)) := run_same (inl := fun _ => false) (by kernel_rfl)
theorem phi_43 : FnOK Tryz.prog false 16 [.c (.int .i64 43)] (.t2 (.c (nl 43 (lf [1, 1, 1, 1, 1, 1, 1, 1, 1, 1, 1, 1, 1, 1, 1, 1, 1, 1, 1, 1, 1, 1, 1, 1, 1, 1, 1, 1, 1, 1, 1, 1, 1, 1, 1, 1, 1, 1, 1, 1, 1, 1, 1]))) (.c (.int .i64 0))) := runY_same orcP_ok (inl := dvI) (by kernel_rfl)
theorem dvs_43 : FnOK Tryz.prog false 17 [.c (.int .i64 43)] (.c (Rf.ints 2 fun i => ([1, 43] : List Nat).getD i 0)) := run_same (inl := fun _ => false) (by kernel_rfl)
theorem phi_44 : FnOK Tryz.prog false 16 [.c (.int .i64 44)] (.t2 (.c (nl 21 (lf [1, 0, -1, 0, 1, 0, -1, 0, 1, 0, -1, 0, 1, 0, -1, 0, 1, 0, -1, 0, 1]))) (.c (.int .i64 0))) := runY_same orcP_ok (inl := dvI) (by kernel_rfl)
theorem dvs_44 : FnOK Tryz.prog false 17 [.c (.int .i64 44)] (.c (Rf.ints 6 fun i => ([1, 2, 4, 11, 22, 44] : List Nat).getD i 0)) := run_same (inl := fun _ => false) (by kernel_rfl)
end Go.Proofs.YtigciplaoikcfaaGreat
