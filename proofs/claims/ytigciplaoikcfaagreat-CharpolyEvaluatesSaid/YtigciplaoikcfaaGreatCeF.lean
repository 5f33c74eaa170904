/- The law CharpolyEvaluates over abstract arguments. -/
import Derived.Test.YtigciplaoikcfaaGreatCeA
import Derived.Test.YtigciplaoikcfaaGreatCpAwake
import Derived.Test.YtigciplaoikcfaaGreatOpL
namespace Go.Proofs.YtigciplaoikcfaaGreat
open Go.RowKit
namespace Rf
abbrev sc0 (n N M : Nat) (q g p : Nat → RawR) : St := gst [(0, .c (ql N q)), (1, .c (ql M g)), (5, .c (.p 0 0 3 0 0))] [⟨25, 3, 1, boxF (rmat n n p)⟩]
abbrev sc1 (n N M : Nat) (q g p : Nat → RawR) (X : Nat → Nat → Rat) : St := gst [(0, .c (ql N q)), (1, .c (ql M g)), (5, .c (.p 0 0 3 0 0)), (7, .c (.p 1 0 3 0 0)), (8, .c (.int .i64 0))] [⟨25, 3, 1, boxF (rmat n n p)⟩, ⟨25, 3, 1, boxF (matL n n X)⟩]
abbrev sc2 (n N M : Nat) (q g p : Nat → RawR) (X Y : Nat → Nat → Rat) : St := gst [(0, .c (ql N q)), (1, .c (ql M g)), (5, .c (.p 0 0 3 0 0)), (7, .c (.p 1 0 3 0 0)), (8, .c (.int .i64 0)), (9, .c (.p 2 0 3 0 0)), (10, .c (.int .i64 0))] [⟨25, 3, 1, boxF (rmat n n p)⟩, ⟨25, 3, 1, boxF (matL n n X)⟩, ⟨25, 3, 1, boxF (matL n n Y)⟩]
abbrev sc3 (n N : Nat) (q p : Nat → RawR) (X Y Z : Nat → Nat → Rat) : St := gst [(0, .c (ql N q)), (5, .c (.p 0 0 3 0 0)), (7, .c (.p 1 0 3 0 0)), (8, .c (.int .i64 0)), (9, .c (.p 2 0 3 0 0)), (10, .c (.int .i64 0)), (11, .c (.p 3 0 3 0 0)), (12, .c (.int .i64 0))] [⟨25, 3, 1, boxF (rmat n n p)⟩, ⟨25, 3, 1, boxF (matL n n X)⟩, ⟨25, 3, 1, boxF (matL n n Y)⟩, ⟨25, 3, 1, boxF (matL n n Z)⟩]
set_option maxRecDepth 100000 in
set_option maxHeartbeats 8000000 in
theorem ce_no1 {N M : Nat} {q g p : Nat → RawR} {r c : Int} {len : Nat} (h1 : FnOK Tryz.prog true 6 [.c (.int .i64 4), oneM r c len p] (.c (.bool false))) : FnOK Tryz.prog true 3 [.c (ql N q), .c (ql M g), .g [.int .i64 r, .int .i64 c, ql len p]] (.c (.bool true)) := by
  have h0 := awake_ok.weak (r := true)
  refine fn_okS (E := E1v) E1v_ok Tryz.func3 rfl (by kernel_rfl) ?_
  refine swp_seq0 E1v_ok mixed (by kernel_rfl) ?_
  conv => whnf
  refine swp_seq0 E1v_ok mixed (by kernel_rfl) ?_
  conv => whnf
  refine ⟨_, h0, ?_⟩
  conv => whnf
  refine swp_of E1v_ok mixed (by kernel_rfl) ?_
  conv => whnf
  refine ⟨fun i j hi hj => ?_, ?_⟩
  · match i, j, hi, hj with
    | 0, 0, _, _ => rfl
    | 0, 1, _, _ => rfl
    | 0, 2, _, _ => rfl
  conv => whnf
  refine ⟨_, h1, ?_⟩
  conv => whnf
  exact ⟨rfl, Sub.refl _⟩
set_option maxRecDepth 100000 in
set_option maxHeartbeats 8000000 in
theorem ce_no2 {N M : Nat} {q g p : Nat → RawR} {r c : Int} {len : Nat} (h1 : FnOK Tryz.prog true 6 [.c (.int .i64 4), oneM r c len p] (.c (.bool true))) (h2 : FnOK Tryz.prog true 7 [.c (ql N q)] (.c (.bool false))) : FnOK Tryz.prog true 3 [.c (ql N q), .c (ql M g), .g [.int .i64 r, .int .i64 c, ql len p]] (.c (.bool true)) := by
  have h0 := awake_ok.weak (r := true)
  refine fn_okS (E := E1v) E1v_ok Tryz.func3 rfl (by kernel_rfl) ?_
  refine swp_seq0 E1v_ok mixed (by kernel_rfl) ?_
  conv => whnf
  refine swp_seq0 E1v_ok mixed (by kernel_rfl) ?_
  conv => whnf
  refine ⟨_, h0, ?_⟩
  conv => whnf
  refine swp_of E1v_ok mixed (by kernel_rfl) ?_
  conv => whnf
  refine ⟨fun i j hi hj => ?_, ?_⟩
  · match i, j, hi, hj with
    | 0, 0, _, _ => rfl
    | 0, 1, _, _ => rfl
    | 0, 2, _, _ => rfl
  conv => whnf
  refine ⟨_, h1, ?_⟩
  conv => whnf
  refine ⟨_, h2, ?_⟩
  conv => whnf
  exact ⟨rfl, Sub.refl _⟩
set_option maxRecDepth 100000 in
set_option maxHeartbeats 8000000 in
theorem ce_no3 {N M : Nat} {q g p : Nat → RawR} {r c : Int} {len : Nat} (h1 : FnOK Tryz.prog true 6 [.c (.int .i64 4), oneM r c len p] (.c (.bool true))) (h2 : FnOK Tryz.prog true 7 [.c (ql N q)] (.c (.bool true))) (h3 : FnOK Tryz.prog true 7 [.c (ql M g)] (.c (.bool false))) : FnOK Tryz.prog true 3 [.c (ql N q), .c (ql M g), .g [.int .i64 r, .int .i64 c, ql len p]] (.c (.bool true)) := by
  have h0 := awake_ok.weak (r := true)
  refine fn_okS (E := E1v) E1v_ok Tryz.func3 rfl (by kernel_rfl) ?_
  refine swp_seq0 E1v_ok mixed (by kernel_rfl) ?_
  conv => whnf
  refine swp_seq0 E1v_ok mixed (by kernel_rfl) ?_
  conv => whnf
  refine ⟨_, h0, ?_⟩
  conv => whnf
  refine swp_of E1v_ok mixed (by kernel_rfl) ?_
  conv => whnf
  refine ⟨fun i j hi hj => ?_, ?_⟩
  · match i, j, hi, hj with
    | 0, 0, _, _ => rfl
    | 0, 1, _, _ => rfl
    | 0, 2, _, _ => rfl
  conv => whnf
  refine ⟨_, h1, ?_⟩
  conv => whnf
  refine ⟨_, h2, ?_⟩
  conv => whnf
  refine ⟨_, h3, ?_⟩
  conv => whnf
  exact ⟨rfl, Sub.refl _⟩
set_option maxRecDepth 100000 in
set_option maxHeartbeats 8000000 in
theorem ce_no4 {N M : Nat} {q g p : Nat → RawR} {r c : Int} {len : Nat} (h1 : FnOK Tryz.prog true 6 [.c (.int .i64 4), oneM r c len p] (.c (.bool true))) (h2 : FnOK Tryz.prog true 7 [.c (ql N q)] (.c (.bool true))) (h3 : FnOK Tryz.prog true 7 [.c (ql M g)] (.c (.bool true))) (hN : 80 < N) : FnOK Tryz.prog true 3 [.c (ql N q), .c (ql M g), .g [.int .i64 r, .int .i64 c, ql len p]] (.c (.bool true)) := by
  have h0 := awake_ok.weak (r := true)
  refine fn_okS (E := E1v) E1v_ok Tryz.func3 rfl (by kernel_rfl) ?_
  refine swp_seq0 E1v_ok mixed (by kernel_rfl) ?_
  conv => whnf
  refine swp_seq0 E1v_ok mixed (by kernel_rfl) ?_
  conv => whnf
  refine ⟨_, h0, ?_⟩
  conv => whnf
  refine swp_of E1v_ok mixed (by kernel_rfl) ?_
  conv => whnf
  refine ⟨fun i j hi hj => ?_, ?_⟩
  · match i, j, hi, hj with
    | 0, 0, _, _ => rfl
    | 0, 1, _, _ => rfl
    | 0, 2, _, _ => rfl
  conv => whnf
  refine ⟨_, h1, ?_⟩
  conv => whnf
  refine ⟨_, h2, ?_⟩
  conv => whnf
  refine ⟨_, h3, ?_⟩
  conv => whnf
  refine bneg (gw_false.2 (show decide ((80 : Int) < N) = true from decide_eq_true (by omega))) ?_
  conv => whnf
  exact ⟨rfl, Sub.refl _⟩
set_option maxRecDepth 100000 in
set_option maxHeartbeats 8000000 in
theorem ce_no5 {N M : Nat} {q g p : Nat → RawR} {r c : Int} {len : Nat} (h1 : FnOK Tryz.prog true 6 [.c (.int .i64 4), oneM r c len p] (.c (.bool true))) (h2 : FnOK Tryz.prog true 7 [.c (ql N q)] (.c (.bool true))) (h3 : FnOK Tryz.prog true 7 [.c (ql M g)] (.c (.bool true))) (hN : N ≤ 80) (hM : 8 < M) : FnOK Tryz.prog true 3 [.c (ql N q), .c (ql M g), .g [.int .i64 r, .int .i64 c, ql len p]] (.c (.bool true)) := by
  have h0 := awake_ok.weak (r := true)
  refine fn_okS (E := E1v) E1v_ok Tryz.func3 rfl (by kernel_rfl) ?_
  refine swp_seq0 E1v_ok mixed (by kernel_rfl) ?_
  conv => whnf
  refine swp_seq0 E1v_ok mixed (by kernel_rfl) ?_
  conv => whnf
  refine ⟨_, h0, ?_⟩
  conv => whnf
  refine swp_of E1v_ok mixed (by kernel_rfl) ?_
  conv => whnf
  refine ⟨fun i j hi hj => ?_, ?_⟩
  · match i, j, hi, hj with
    | 0, 0, _, _ => rfl
    | 0, 1, _, _ => rfl
    | 0, 2, _, _ => rfl
  conv => whnf
  refine ⟨_, h1, ?_⟩
  conv => whnf
  refine ⟨_, h2, ?_⟩
  conv => whnf
  refine ⟨_, h3, ?_⟩
  conv => whnf
  refine bpos (gw_true.2 (show decide ((80 : Int) < N) = false from decide_eq_false (by omega))) ?_
  conv => whnf
  refine bpos (show decide ((8 : Int) < M) = true from decide_eq_true (by omega)) ?_
  conv => whnf
  exact ⟨rfl, Sub.refl _⟩
set_option maxRecDepth 100000 in
set_option maxHeartbeats 8000000 in
theorem ce_large {N M : Nat} {q g p : Nat → RawR} {n : Nat} (h1 : FnOK Tryz.prog true 6 [.c (.int .i64 4), oneM n n (n * n) p] (.c (.bool true))) (h2 : FnOK Tryz.prog true 7 [.c (ql N q)] (.c (.bool true))) (h3 : FnOK Tryz.prog true 7 [.c (ql M g)] (.c (.bool true))) (hN : N ≤ 80) (hM : M ≤ 8) {T : Nat} (k1 : FnOK Tryz.prog true 8 [.c (ql N q), .g (rmat n n p)] (.t2 (.g [.int .i64 0, .int .i64 0, .nil]) (.c (.int .i64 7)))) (k2 : FnOK Tryz.prog true 9 [.c (ql N q)] (.c (.int .i64 ((T : Nat) - 1)))) (hT : 65 < T) : FnOK Tryz.prog true 3 [.c (ql N q), .c (ql M g), .g (rmat n n p)] (.c (.bool true)) := by
  have h0 := awake_ok.weak (r := true)
  refine fn_okS (E := E1v) E1v_ok Tryz.func3 rfl (by kernel_rfl) ?_
  refine swp_seq0 E1v_ok mixed (by kernel_rfl) ?_
  conv => whnf
  refine swp_seq0 E1v_ok mixed (by kernel_rfl) ?_
  conv => whnf
  refine ⟨_, h0, ?_⟩
  conv => whnf
  refine swp_seq E1v_ok mixed (by kernel_rfl) ?_
  conv => whnf
  refine ⟨fun i j hi hj => ?_, ?_⟩
  · match i, j, hi, hj with
    | 0, 0, _, _ => rfl
    | 0, 1, _, _ => rfl
    | 0, 2, _, _ => rfl
  conv => whnf
  refine ⟨_, h1, ?_⟩
  conv => whnf
  refine ⟨_, h2, ?_⟩
  conv => whnf
  refine ⟨_, h3, ?_⟩
  conv => whnf
  refine bpos (gw_true.2 (show decide ((80 : Int) < N) = false from decide_eq_false (by omega))) ?_
  conv => whnf
  refine bneg (show decide ((8 : Int) < M) = false from decide_eq_false (by omega)) ?_
  conv => whnf
  refine ⟨sc0 n N M q g p, Weak.gen [some 0] rfl ⟨boxK rfl rfl, trivial⟩ ⟨.inl ⟨_, _, rfl, rfl, fun _ _ _ _ => rfl⟩, .inl ⟨_, _, rfl, rfl, fun _ _ _ _ => rfl⟩, ⟨_, rfl, rfl, rfl⟩, trivial⟩, ?_⟩
  refine swp_seq0 E1v_ok mixed (by kernel_rfl) ?_
  conv => whnf
  refine ⟨_, k1, ?_⟩
  conv => whnf
  refine swp_of E1v_ok mixed (by kernel_rfl) ?_
  conv => whnf
  refine ⟨_, k2, ?_⟩
  conv => whnf
  refine bpos (show decide ((64 : Int) < (T : Int) - 1) = true from decide_eq_true (by omega)) ?_
  conv => whnf
  refine ⟨i64 (by decide) (by decide), ?_⟩
  conv => whnf
  refine ⟨i64 (by decide) (by decide), ?_⟩
  conv => whnf
  exact ⟨rfl, Sub.refl _⟩
set_option maxRecDepth 100000 in
set_option maxHeartbeats 8000000 in
theorem ce_mid {N M : Nat} {q g p : Nat → RawR} {n : Nat} (h1 : FnOK Tryz.prog true 6 [.c (.int .i64 4), oneM n n (n * n) p] (.c (.bool true))) (h2 : FnOK Tryz.prog true 7 [.c (ql N q)] (.c (.bool true))) (h3 : FnOK Tryz.prog true 7 [.c (ql M g)] (.c (.bool true))) (hN : N ≤ 80) (hM : M ≤ 8) {T : Nat} {X : Nat → Nat → Rat} (k1 : FnOK Tryz.prog true 8 [.c (ql N q), .g (rmat n n p)] (.t2 (.g (matL n n X)) (.c (.int .i64 0)))) (k2 : FnOK Tryz.prog true 9 [.c (ql N q)] (.c (.int .i64 ((T : Nat) - 1)))) (hT : T ≤ 65) (h8 : 8 < N) : FnOK Tryz.prog true 3 [.c (ql N q), .c (ql M g), .g (rmat n n p)] (.c (.bool true)) := by
  have h0 := awake_ok.weak (r := true)
  refine fn_okS (E := E1v) E1v_ok Tryz.func3 rfl (by kernel_rfl) ?_
  refine swp_seq0 E1v_ok mixed (by kernel_rfl) ?_
  conv => whnf
  refine swp_seq0 E1v_ok mixed (by kernel_rfl) ?_
  conv => whnf
  refine ⟨_, h0, ?_⟩
  conv => whnf
  refine swp_seq E1v_ok mixed (by kernel_rfl) ?_
  conv => whnf
  refine ⟨fun i j hi hj => ?_, ?_⟩
  · match i, j, hi, hj with
    | 0, 0, _, _ => rfl
    | 0, 1, _, _ => rfl
    | 0, 2, _, _ => rfl
  conv => whnf
  refine ⟨_, h1, ?_⟩
  conv => whnf
  refine ⟨_, h2, ?_⟩
  conv => whnf
  refine ⟨_, h3, ?_⟩
  conv => whnf
  refine bpos (gw_true.2 (show decide ((80 : Int) < N) = false from decide_eq_false (by omega))) ?_
  conv => whnf
  refine bneg (show decide ((8 : Int) < M) = false from decide_eq_false (by omega)) ?_
  conv => whnf
  refine ⟨sc0 n N M q g p, Weak.gen [some 0] rfl ⟨boxK rfl rfl, trivial⟩ ⟨.inl ⟨_, _, rfl, rfl, fun _ _ _ _ => rfl⟩, .inl ⟨_, _, rfl, rfl, fun _ _ _ _ => rfl⟩, ⟨_, rfl, rfl, rfl⟩, trivial⟩, ?_⟩
  refine swp_seq E1v_ok mixed (by kernel_rfl) ?_
  conv => whnf
  refine ⟨_, k1, ?_⟩
  conv => whnf
  refine ⟨sc1 n N M q g p X, Weak.gen [some 0, some 1] rfl ⟨boxK rfl rfl, boxU rfl rfl rfl, trivial⟩ ⟨.inl ⟨_, _, rfl, rfl, fun _ _ _ _ => rfl⟩, .inl ⟨_, _, rfl, rfl, fun _ _ _ _ => rfl⟩, ⟨_, rfl, rfl, rfl⟩, ⟨_, rfl, rfl, rfl⟩, ⟨_, rfl, rfl⟩, trivial⟩, ?_⟩
  refine swp_seq E1v_ok mixed (by kernel_rfl) ?_
  conv => whnf
  refine ⟨_, k2, ?_⟩
  conv => whnf
  refine bneg (show decide ((64 : Int) < (T : Int) - 1) = false from decide_eq_false (by omega)) ?_
  conv => whnf
  refine ⟨sc1 n N M q g p X, Weak.gen [some 0, some 1] rfl ⟨boxK rfl rfl, boxK rfl rfl, trivial⟩ ⟨.inl ⟨_, _, rfl, rfl, fun _ _ _ _ => rfl⟩, .inl ⟨_, _, rfl, rfl, fun _ _ _ _ => rfl⟩, ⟨_, rfl, rfl, rfl⟩, ⟨_, rfl, rfl, rfl⟩, ⟨_, rfl, rfl⟩, trivial⟩, ?_⟩
  refine swp_of E1v_ok mixed (by kernel_rfl) ?_
  conv => whnf
  refine bpos (show decide ((8 : Int) < N) = true from decide_eq_true (by omega)) ?_
  conv => whnf
  exact ⟨rfl, Sub.refl _⟩
set_option maxRecDepth 100000 in
set_option maxHeartbeats 8000000 in
theorem ce_yes {N M : Nat} {q g p : Nat → RawR} {n : Nat} (h1 : FnOK Tryz.prog true 6 [.c (.int .i64 4), oneM n n (n * n) p] (.c (.bool true))) (h2 : FnOK Tryz.prog true 7 [.c (ql N q)] (.c (.bool true))) (h3 : FnOK Tryz.prog true 7 [.c (ql M g)] (.c (.bool true))) (hN : N ≤ 80) (hM : M ≤ 8) (h8 : N ≤ 8) {T K : Nat} {F C : Nat → Rat} {X Y Z W : Nat → Nat → Rat} (hT : T ≤ 65) (cc : CallsCe n N M T K q g p F C X Y Z W) : FnOK Tryz.prog true 3 [.c (ql N q), .c (ql M g), .g (rmat n n p)] (.c (.bool true)) := by
  obtain ⟨k1, k2, k3, k4, k5, k6, k7, k8, k9, k10⟩ := cc
  have h0 := awake_ok.weak (r := true)
  refine fn_okS (E := E1v) E1v_ok Tryz.func3 rfl (by kernel_rfl) ?_
  refine swp_seq0 E1v_ok mixed (by kernel_rfl) ?_
  conv => whnf
  refine swp_seq0 E1v_ok mixed (by kernel_rfl) ?_
  conv => whnf
  refine ⟨_, h0, ?_⟩
  conv => whnf
  refine swp_seq E1v_ok mixed (by kernel_rfl) ?_
  conv => whnf
  refine ⟨fun i j hi hj => ?_, ?_⟩
  · match i, j, hi, hj with
    | 0, 0, _, _ => rfl
    | 0, 1, _, _ => rfl
    | 0, 2, _, _ => rfl
  conv => whnf
  refine ⟨_, h1, ?_⟩
  conv => whnf
  refine ⟨_, h2, ?_⟩
  conv => whnf
  refine ⟨_, h3, ?_⟩
  conv => whnf
  refine bpos (gw_true.2 (show decide ((80 : Int) < N) = false from decide_eq_false (by omega))) ?_
  conv => whnf
  refine bneg (show decide ((8 : Int) < M) = false from decide_eq_false (by omega)) ?_
  conv => whnf
  refine ⟨sc0 n N M q g p, Weak.gen [some 0] rfl ⟨boxK rfl rfl, trivial⟩ ⟨.inl ⟨_, _, rfl, rfl, fun _ _ _ _ => rfl⟩, .inl ⟨_, _, rfl, rfl, fun _ _ _ _ => rfl⟩, ⟨_, rfl, rfl, rfl⟩, trivial⟩, ?_⟩
  refine swp_seq E1v_ok mixed (by kernel_rfl) ?_
  conv => whnf
  refine ⟨_, k1, ?_⟩
  conv => whnf
  refine ⟨sc1 n N M q g p X, Weak.gen [some 0, some 1] rfl ⟨boxK rfl rfl, boxU rfl rfl rfl, trivial⟩ ⟨.inl ⟨_, _, rfl, rfl, fun _ _ _ _ => rfl⟩, .inl ⟨_, _, rfl, rfl, fun _ _ _ _ => rfl⟩, ⟨_, rfl, rfl, rfl⟩, ⟨_, rfl, rfl, rfl⟩, ⟨_, rfl, rfl⟩, trivial⟩, ?_⟩
  refine swp_seq E1v_ok mixed (by kernel_rfl) ?_
  conv => whnf
  refine ⟨_, k2, ?_⟩
  conv => whnf
  refine bneg (show decide ((64 : Int) < (T : Int) - 1) = false from decide_eq_false (by omega)) ?_
  conv => whnf
  refine ⟨sc1 n N M q g p X, Weak.gen [some 0, some 1] rfl ⟨boxK rfl rfl, boxK rfl rfl, trivial⟩ ⟨.inl ⟨_, _, rfl, rfl, fun _ _ _ _ => rfl⟩, .inl ⟨_, _, rfl, rfl, fun _ _ _ _ => rfl⟩, ⟨_, rfl, rfl, rfl⟩, ⟨_, rfl, rfl, rfl⟩, ⟨_, rfl, rfl⟩, trivial⟩, ?_⟩
  refine swp_seq E1v_ok mixed (by kernel_rfl) ?_
  conv => whnf
  refine bneg (show decide ((8 : Int) < N) = false from decide_eq_false (by omega)) ?_
  conv => whnf
  refine ⟨sc1 n N M q g p X, Weak.gen [some 0, some 1] rfl ⟨boxK rfl rfl, boxK rfl rfl, trivial⟩ ⟨.inl ⟨_, _, rfl, rfl, fun _ _ _ _ => rfl⟩, .inl ⟨_, _, rfl, rfl, fun _ _ _ _ => rfl⟩, ⟨_, rfl, rfl, rfl⟩, ⟨_, rfl, rfl, rfl⟩, ⟨_, rfl, rfl⟩, trivial⟩, ?_⟩
  refine swp_seq E1v_ok mixed (by kernel_rfl) ?_
  conv => whnf
  refine ⟨_, k3, ?_⟩
  conv => whnf
  refine ⟨sc2 n N M q g p X Y, Weak.gen [some 0, some 1, some 2] rfl ⟨boxK rfl rfl, boxK rfl rfl, boxU rfl rfl rfl, trivial⟩ ⟨.inl ⟨_, _, rfl, rfl, fun _ _ _ _ => rfl⟩, .inl ⟨_, _, rfl, rfl, fun _ _ _ _ => rfl⟩, ⟨_, rfl, rfl, rfl⟩, ⟨_, rfl, rfl, rfl⟩, ⟨_, rfl, rfl⟩, ⟨_, rfl, rfl, rfl⟩, ⟨_, rfl, rfl⟩, trivial⟩, ?_⟩
  refine swp_seq E1v_ok mixed (by kernel_rfl) ?_
  conv => whnf
  refine ⟨_, k4, ?_⟩
  conv => whnf
  refine ⟨_, k5, ?_⟩
  conv => whnf
  refine ⟨sc3 n N q p X Y Z, Weak.gen [some 0, some 1, some 2, some 11] rfl ⟨boxK rfl rfl, boxK rfl rfl, boxK rfl rfl, boxU rfl rfl rfl, trivial⟩ ⟨.inl ⟨_, _, rfl, rfl, fun _ _ _ _ => rfl⟩, ⟨_, rfl, rfl, rfl⟩, ⟨_, rfl, rfl, rfl⟩, ⟨_, rfl, rfl⟩, ⟨_, rfl, rfl, rfl⟩, ⟨_, rfl, rfl⟩, ⟨_, rfl, rfl, rfl⟩, ⟨_, rfl, rfl⟩, trivial⟩, ?_⟩
  refine swp_of E1v_ok mixed (by kernel_rfl) ?_
  conv => whnf
  refine ⟨_, k6, ?_⟩
  conv => whnf
  refine ⟨_, k7, ?_⟩
  conv => whnf
  refine ⟨_, k8, ?_⟩
  conv => whnf
  refine ⟨_, k9, ?_⟩
  conv => whnf
  refine ⟨_, k10, ?_⟩
  conv => whnf
  exact ⟨rfl, Sub.refl _⟩
open Classical in
/-- **The law's answer.** -/
theorem ce_ok {N M len : Nat} {r c : Int} {q g p : Nat → RawR} (hN : N ≤ 9223372036854775807) (hM : M ≤ 9223372036854775807) (hl : len ≤ 9223372036854775807) (dq : ∀ i, i < N → dgq (q i)) (dg : ∀ i, i < M → dgq (g i)) (dp : ∀ i, i < len → dgq (p i)) : FnOK Tryz.prog true 3 [.c (ql N q), .c (ql M g), .g [.int .i64 r, .int .i64 c, ql len p]] (.c (.bool true)) := by
  have h1 := light11_ok (m := 4) (r := r) (c := c) (len := len) (q := p) hl
  have h2 := short11_ok (n := N) (q := q) (r := decide (shq N q)) hN ⟨fun a => of_decide_eq_true a, fun a => decide_eq_true a⟩
  have h3 := short11_ok (n := M) (q := g) (r := decide (shq M g)) hM ⟨fun a => of_decide_eq_true a, fun a => decide_eq_true a⟩
  by_cases g1 : lite11 4 r c len p
  · rw [decide_eq_true g1] at h1
    by_cases g2 : shq N q
    · rw [decide_eq_true g2] at h2
      by_cases g3 : shq M g
      · rw [decide_eq_true g3] at h3
        rcases Nat.lt_or_ge 80 N with c1 | c1
        · exact ce_no4 h1 h2 h3 c1
        · rcases Nat.lt_or_ge 8 M with c2 | c2
          · exact ce_no5 h1 h2 h3 c1 c2
          · obtain ⟨⟨u1, u2, u3, u4, u5⟩, e1, e2, e3⟩ := g1
            obtain ⟨n, rfl⟩ : ∃ n : Nat, r = n := ⟨r.toNat, by omega⟩
            obtain rfl : c = n := e1.symm
            obtain rfl : len = n * n := by
              have : (len : Int) = ((n * n : Nat) : Int) := by rw [u5, Int.natCast_mul]
              exact Int.ofNat.inj this
            have hA := sq_of (n := n) (p := p) (by omega) dp e3
            obtain ⟨D, hF⟩ := pol_of dq g2
            obtain ⟨D', hG⟩ := pol_of dg g3
            obtain ⟨_, n2⟩ := nql_pol hF (by omega) (by omega)
            rcases Nat.lt_or_ge 65 (Q.tq (Q.qx N fun i => (q i).val) N) with c3 | c3
            · exact ce_large h1 h2 h3 c1 c2 (at_large (by omega) (by omega) rfl (by rw [hF.tq]; exact c3) hF.fit) n2.weak c3
            · obtain ⟨_, a1, _⟩ := both_pol hA hF (by omega) (by omega) c3
              rcases Nat.lt_or_ge 8 N with c4 | c4
              · exact ce_mid h1 h2 h3 c1 c2 a1 n2.weak c3 c4
              · obtain ⟨T, K, F, C, X, Y, Z, W, hT, cc⟩ := callsCe hA hF hG c4 c2
                exact ce_yes h1 h2 h3 c1 c2 c4 hT cc
      · rw [decide_eq_false g3] at h3
        exact ce_no3 h1 h2 h3
    · rw [decide_eq_false g2] at h2
      exact ce_no2 h1 h2
  · rw [decide_eq_false g1] at h1
    exact ce_no1 h1
end Rf
end Go.Proofs.YtigciplaoikcfaaGreat
/- The law CharpolyEvaluates: its call, under what its arguments read as. -/
namespace Go.Proofs.YtigciplaoikcfaaGreat
open Go.ChangeShapes Go.WideShapes Go.ChangeAt Go.RowKit
section
variable {H : Type} {enc : TypeId × Value → H} {w : World} {sp : Nat → Bool} {held : Bool}
theorem slice_len {t e fuel : Nat} {cs : List Value} {x : DataW H × List MemPlace} {v : Value} {sz n : Nat} {f : Nat → Nat → Cell} (ht : Tryz.prog.underlying t = some (.slice e)) (h : DataW.trod enc Tryz.prog w 0 sp held fuel t cs = some x) (hc : cs = [v]) (hv : CRel (fun _ => False) w [] (.row sz n f) v) : n ≤ 9223372036854775807 := by
  obtain ⟨A, c, rfl, _, _⟩ := hv
  rcases DataW.trod_slice ht h with ⟨e1, _⟩ | ⟨a, len, cap, elems, rest, m, _, e1, _, _, hl, hm, _⟩
  · rw [hc] at e1
    injection e1 with e2 _
    injection e2 with _ e3 _
    omega
  · rw [hc] at e1
    injection e1 with e2 _
    injection e2 with _ e3 _
    have : cap ≤ 2 ^ 63 - 1 := hm
    omega
set_option maxRecDepth 100000 in
theorem open_list {r : Reach} {b0 t : Nat} {v : Value} {d : DataW H} {ps : List MemPlace} (ht : Tryz.prog.underlying t = some (.slice 63)) (hval : Value.okWide Tryz.prog w r b0 t v) (hd : DataW.Trod enc Tryz.prog w 0 sp held t v d ps) : ∃ (n : Nat) (q : Nat → RawR), n ≤ 9223372036854775807 ∧ VRel (fun _ => False) w [] (.c (ql n q)) v ∧ ∀ j, j < n → Rf.dgq (q j) := by
  obtain ⟨fuel, hf⟩ := hd
  obtain ⟨u, n, f, h1, h2, h3, h4⟩ := cell_list (G := rr) (Q := fun a _ => Rf.dgq a) ht cRat (by decide) (fun _ => rfl) (fun n cs' y hy => one_rat hy) hf
  have h5 := slice_len ht hf h1 h2
  rw [okWide_slice ht hval] at h1
  cases h1
  exact ⟨n, f, h5, h2, fun j hj => (h4 j hj).elim fun _ h => h.1⟩
set_option maxRecDepth 100000 in
theorem open_mat {r : Reach} {b0 : Nat} {v : Value} {d : DataW H} {ps : List MemPlace} (hval : Value.okWide Tryz.prog w r b0 25 v) (hd : DataW.Trod enc Tryz.prog w 0 sp held 25 v d ps) : ∃ (a b : Int) (n : Nat) (q : Nat → RawR), n ≤ 9223372036854775807 ∧ VRel (fun _ => False) w [] (.g [.int .i64 a, .int .i64 b, ql n q]) v ∧ ∀ j, j < n → Rf.dgq (q j) := by
  obtain ⟨cs, rfl⟩ := okWide_agg Tryz.underlying25 hval
  obtain ⟨fuel, hf⟩ := hd
  obtain ⟨y0, y1, y2, n, hl, h0, h1, h2⟩ := trod_struct3 Tryz.underlying25 hf
  simp only [cellsInt, cellsRats] at h0 h1 h2
  obtain ⟨a, e0, _⟩ := cell_int Tryz.underlying3 h0
  obtain ⟨b, e1, _⟩ := cell_int Tryz.underlying3 h1
  obtain ⟨u, m, f, e2, hu, _, hq⟩ := cell_list (G := rr) (Q := fun a _ => Rf.dgq a) Tryz.underlying22 cRat (by decide) (fun _ => rfl) (fun n cs' y hy => one_rat hy) h2
  have hm := slice_len Tryz.underlying22 h2 e2 hu
  refine ⟨a, b, m, f, hm, ⟨cs, rfl, ?_⟩, fun j hj => (hq j hj).elim fun _ h => h.1⟩
  have hl : cs.toList.length = 3 := by rw [← cellsMat]; exact hl
  change (cs.toList.drop 0).take 1 = _ at e0
  change (cs.toList.drop 1).take 1 = _ at e1
  change (cs.toList.drop 2).take 1 = _ at e2
  match hcs : cs.toList, hl with
  | [x, y, z], _ =>
    rw [hcs] at e0 e1 e2
    simp at e0 e1 e2
    subst e0; subst e1; subst e2
    exact ⟨rfl, rfl, hu, trivial⟩
end
set_option maxRecDepth 100000 in
theorem walk_CharpolyEvaluates {H : Type} {enc : TypeId × Value → H} {W : World} {base : Nat} {v0 v1 v2 : Value} {d0 d1 d2 : DataW H} {p0 p1 p2 : List MemPlace}
    (u0 : Value.okWide Tryz.prog W .any base 23 v0) (h0 : DataW.Trod enc Tryz.prog W 0 (fun _ => true) true 23 v0 d0 p0)
    (u1 : Value.okWide Tryz.prog W .any base 23 v1) (h1 : DataW.Trod enc Tryz.prog W 0 (fun _ => true) true 23 v1 d1 p1)
    (u2 : Value.okWide Tryz.prog W .any base 25 v2) (h2 : DataW.Trod enc Tryz.prog W 0 (fun _ => true) true 25 v2 d2 p2) :
    Calls Tryz.prog 3 #[v0, v1, v2] W fun e w' => e = .returned (.bool true) ∧ Below W.heap.size W w' := by
  obtain ⟨N, q, hN, g0, dq⟩ := open_list Tryz.underlying23 u0 h0
  obtain ⟨M, g, hM, g1, dg⟩ := open_list Tryz.underlying23 u1 h1
  obtain ⟨r, c, len, p, hl, g2, dp⟩ := open_mat u2 h2
  exact law_call (vs := [v0, v1, v2]) (Rf.ce_ok (r := r) (c := c) hN hM hl dq dg dp) ⟨g0, g1, g2, trivial⟩
end Go.Proofs.YtigciplaoikcfaaGreat
