/- Runs: the program's cyclotomic polynomials, its check of orders, the document's divisors, at 12, 13, 14, 15, 16, 18. -/
import Derived.Test.YtmbejakmeijcbaaGreatZr13
namespace Go.Proofs.YtmbejakmeijcbaaGreat
open Go.RowKit
theorem phi_12 : FnOK Tryz.prog false 35 [.c (.int .i64 12)] (.t2 (.c (nl 5 (lf [1, 0, -1, 0, 1]))) (.c (.int .i64 0))) := runY_same orcP_ok (inl := dvI) (by kernel_rfl)
theorem chk_12 : FnOK Tryz.prog false 42 [.c (.int .i64 12)] (.c (.int .i64 0)) := runY_same orcP_ok (inl := dvI) (by kernel_rfl)
theorem dvs_12 : FnOK Tryz.prog false 61 [.c (.int .i64 12)] (.c (Rf.ints 6 fun i => ([1, 2, 3, 4, 6, 12] : List Nat).getD i 0)) := run_same (inl := fun _ => false) (by kernel_rfl)
theorem phi_13 : FnOK Tryz.prog false 35 [.c (.int .i64 13)] (.t2 (.c (nl 13 (lf [1, 1, 1, 1, 1, 1, 1, 1, 1, 1, 1, 1, 1]))) (.c (.int .i64 0))) := runY_same orcP_ok (inl := dvI) (by kernel_rfl)
theorem chk_13 : FnOK Tryz.prog false 42 [.c (.int .i64 13)] (.c (.int .i64 0)) := runY_same orcP_ok (inl := dvI) (by kernel_rfl)
theorem dvs_13 : FnOK Tryz.prog false 61 [.c (.int .i64 13)] (.c (Rf.ints 2 fun i => ([1, 13] : List Nat).getD i 0)) := run_same (inl := fun _ => false) (by kernel_rfl)
theorem phi_14 : FnOK Tryz.prog false 35 [.c (.int .i64 14)] (.t2 (.c (nl 7 (lf [1, -1, 1, -1, 1, -1, 1]))) (.c (.int .i64 0))) := runY_same orcP_ok (inl := dvI) (by kernel_rfl)
theorem chk_14 : FnOK Tryz.prog false 42 [.c (.int .i64 14)] (.c (.int .i64 0)) := runY_same orcP_ok (inl := dvI) (by kernel_rfl)
theorem dvs_14 : FnOK Tryz.prog false 61 [.c (.int .i64 14)] (.c (Rf.ints 4 fun i => ([1, 2, 7, 14] : List Nat).getD i 0)) := run_same (inl := fun _ => false) (by kernel_rfl)
theorem phi_15 : FnOK Tryz.prog false 35 [.c (.int .i64 15)] (.t2 (.c (nl 9 (lf [1, -1, 0, 1, -1, 1, 0, -1, 1]))) (.c (.int .i64 0))) := runY_same orcP_ok (inl := dvI) (by kernel_rfl)
theorem chk_15 : FnOK Tryz.prog false 42 [.c (.int .i64 15)] (.c (.int .i64 0)) := runY_same orcP_ok (inl := dvI) (by kernel_rfl)
theorem dvs_15 : FnOK Tryz.prog false 61 [.c (.int .i64 15)] (.c (Rf.ints 4 fun i => ([1, 3, 5, 15] : List Nat).getD i 0)) := run_same (inl := fun _ => false) (by kernel_rfl)
theorem phi_16 : FnOK Tryz.prog false 35 [.c (.int .i64 16)] (.t2 (.c (nl 9 (lf [1, 0, 0, 0, 0, 0, 0, 0, 1]))) (.c (.int .i64 0))) := runY_same orcP_ok (inl := dvI) (by kernel_rfl)
theorem chk_16 : FnOK Tryz.prog false 42 [.c (.int .i64 16)] (.c (.int .i64 0)) := runY_same orcP_ok (inl := dvI) (by kernel_rfl)
theorem dvs_16 : FnOK Tryz.prog false 61 [.c (.int .i64 16)] (.c (Rf.ints 5 fun i => ([1, 2, 4, 8, 16] : List Nat).getD i 0)) := run_same (inl := fun _ => false) (by kernel_rfl)
theorem phi_18 : FnOK Tryz.prog false 35 [.c (.int .i64 18)] (.t2 (.c (nl 7 (lf [1, 0, 0, -1, 0, 0, 1]))) (.c (.int .i64 0))) := runY_same orcP_ok (inl := dvI) (by kernel_rfl)
theorem chk_18 : FnOK Tryz.prog false 42 [.c (.int .i64 18)] (.c (.int .i64 0)) := runY_same orcP_ok (inl := dvI) (by kernel_rfl)
theorem dvs_18 : FnOK Tryz.prog false 61 [.c (.int .i64 18)] (.c (Rf.ints 6 fun i => ([1, 2, 3, 6, 9, 18] : List Nat).getD i 0)) := run_same (inl := fun _ => false) (by kernel_rfl)
theorem awake15_run : (pureX orcP (runY ER orcP dvX okF dvI 1000 40) 10 []).map (fun X => sameV X (.c (.bool true))) = some true := by kernel_rfl
theorem awake15 : FnOK Tryz.prog false 10 [] (.c (.bool true)) := runY_same orcP_ok awake15_run
end Go.Proofs.YtmbejakmeijcbaaGreat
