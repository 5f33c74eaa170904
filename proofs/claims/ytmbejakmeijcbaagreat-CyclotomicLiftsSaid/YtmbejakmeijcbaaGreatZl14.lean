/- The law CyclotomicLifts: its walk over what its calls hand back. -/
import Derived.Test.YtmbejakmeijcbaaGreatZl13
namespace Go.Proofs.YtmbejakmeijcbaaGreat
open Go.RowKit
namespace Rf
set_option maxHeartbeats 8000000 in
theorem lifts_yes {n m l d d2 NA NB : Nat} {qA qB : Nat → RawR} {P P2 : Nat → Int} {LA LB LP LC Lm : Nat} {SA SB SP SC ab : Nat → Rat} {x : Rat} (n1 : 1 ≤ n) (m1' : 1 ≤ m) (hw : FnOK Tryz.prog true 10 [] (.c (.bool true))) (hf1 : FnOK Tryz.prog true 11 [.c (.int .i64 n)] (.c (.int .i64 0))) (hf2 : FnOK Tryz.prog true 11 [.c (.int .i64 m)] (.c (.int .i64 0))) (hf3 : FnOK Tryz.prog true 11 [.c (.int .i64 l)] (.c (.int .i64 0))) (t1 : Int.tmod (m : Int) (n : Int) = 0) (t2 : Int.tmod (l : Int) (m : Int) = 0) (hs : FnOK Tryz.prog true 19 [.c (.row 1 2 (rowF 1 [ql NA qA, ql NB qB]))] (.c (.bool true))) (hF : FnOK Tryz.prog true 14 [.c (.int .i64 n)] (.g [nl (d + 1) P])) (hF2 : FnOK Tryz.prog true 14 [.c (.int .i64 m)] (.g [nl (d2 + 1) P2])) (g1 : FnOK Tryz.prog true 29 [.c (.int .i64 n), .c (.int .i64 m), .c (ql NA qA)] (.t2 (.c (nql LA SA)) (.c (.int .i64 0)))) (g2 : FnOK Tryz.prog true 29 [.c (.int .i64 n), .c (.int .i64 m), .c (ql NB qB)] (.t2 (.c (nql LB SB)) (.c (.int .i64 0)))) (m1 : FnOK Tryz.prog true 15 [.g [nl (d + 1) P], .c (ql NA qA), .c (ql NB qB)] (.c (nql Lm ab))) (g3 : FnOK Tryz.prog true 29 [.c (.int .i64 n), .c (.int .i64 m), .c (nql Lm ab)] (.t2 (.c (nql LP SP)) (.c (.int .i64 0)))) (g4 : FnOK Tryz.prog true 30 [.c (.int .i64 n), .c (.int .i64 m), .c (ql NA qA)] (.c (nql LA SA))) (s1 : FnOK Tryz.prog true 16 [.c (nql LA SA), .c (nql LA SA)] (.c (.bool true))) (m2 : FnOK Tryz.prog true 15 [.g [nl (d2 + 1) P2], .c (nql LA SA), .c (nql LB SB)] (.c (nql LP SP))) (s2 : FnOK Tryz.prog true 16 [.c (nql LP SP), .c (nql LP SP)] (.c (.bool true))) (g5 : FnOK Tryz.prog true 29 [.c (.int .i64 m), .c (.int .i64 l), .c (nql LA SA)] (.t2 (.c (nql LC SC)) (.c (.int .i64 0)))) (g6 : FnOK Tryz.prog true 29 [.c (.int .i64 n), .c (.int .i64 l), .c (ql NA qA)] (.t2 (.c (nql LC SC)) (.c (.int .i64 0)))) (r1 : FnOK Tryz.prog true 20 [.c (.int .i64 n), .c (ql NA qA)] (.t3 (.g (nq x)) (.c (.bool true)) (.c (.int .i64 0)))) (r2 : FnOK Tryz.prog true 20 [.c (.int .i64 m), .c (nql LA SA)] (.t3 (.g (nq x)) (.c (.bool true)) (.c (.int .i64 0)))) (s3 : FnOK Tryz.prog true 16 [.c (nql LC SC), .c (nql LC SC)] (.c (.bool true))) (s4 : FnOK Tryz.prog true 23 [.g (nq x), .g (nq x)] (.c (.bool true))) : FnOK Tryz.prog true 6 [.g [.int .i64 n, .int .i64 m, .int .i64 l, ql NA qA, ql NB qB]] (.c (.bool true)) := by
 refine fn_okS (E := E1t) E1t_ok Tryz.func6 rfl (by kernel_rfl) ?_
 refine swp_seq0 E1t_ok mixed (by kernel_rfl) ?_
 conv => whnf
 refine swp_seq0 E1t_ok mixed (by kernel_rfl) ?_
 conv => whnf
 refine ⟨_, hw, ?_⟩
 conv => whnf
 refine swp_seq0 E1t_ok mixed (by kernel_rfl) ?_
 conv => whnf
 refine swp_seq E1t_ok mixed (by kernel_rfl) ?_
 conv => whnf
 refine ⟨_, hf1, ?_⟩
 conv => whnf
 refine ⟨_, hf2, ?_⟩
 conv => whnf
 refine ⟨_, hf3, ?_⟩
 conv => whnf
 refine ⟨by omega, ?_⟩
 conv => whnf
 refine bpos (show gw false (!decide (Int.tmod (m : Int) (n : Int) = 0)) = true by rw [t1]; rfl) ?_
 conv => whnf
 refine ⟨by omega, ?_⟩
 conv => whnf
 refine bpos (show gw false (!decide (Int.tmod (l : Int) (m : Int) = 0)) = true by rw [t2]; rfl) ?_
 conv => whnf
 refine ⟨fun i j hi hj => ?_, ?_⟩
 ·match i, j, hi, hj with
  | 0, 0, _, _ => rfl
  | 1, 0, _, _ => rfl
 conv => whnf
 refine ⟨_, hs, ?_⟩
 conv => whnf
 refine ⟨gst [(1, .c (.p 0 0 5 0 0)), (3, .c (.int .i64 n)), (4, .c (.int .i64 m)), (5, .c (.int .i64 l))] [⟨56, 5, 1, boxF [.int .i64 n, .int .i64 m, .int .i64 l, ql NA qA, ql NB qB]⟩], Weak.gen [some 0] rfl ⟨boxK rfl rfl, trivial⟩ ⟨⟨_, rfl, rfl, rfl⟩, ⟨_, rfl, rfl⟩, ⟨_, rfl, rfl⟩, ⟨_, rfl, rfl⟩, trivial⟩, ?_⟩
 refine swp_seq E1t_ok mixed (by kernel_rfl) ?_
 conv => whnf
 refine ⟨_, hF, ?_⟩
 conv => whnf
 refine ⟨_, hF2, ?_⟩
 conv => whnf
 refine ⟨gst [(1, .c (.p 0 0 5 0 0)), (3, .c (.int .i64 n)), (4, .c (.int .i64 m)), (5, .c (.int .i64 l)), (6, .c (.p 1 0 1 0 0)), (7, .c (.p 2 0 1 0 0))] [⟨56, 5, 1, boxF [.int .i64 n, .int .i64 m, .int .i64 l, ql NA qA, ql NB qB]⟩, ⟨34, 1, 1, boxF [nl (d + 1) P]⟩, ⟨34, 1, 1, boxF [nl (d2 + 1) P2]⟩], Weak.gen [some 0, some 1, some 2] rfl ⟨boxK rfl rfl, boxU rfl rfl rfl, boxU rfl rfl rfl, trivial⟩ ⟨⟨_, rfl, rfl, rfl⟩, ⟨_, rfl, rfl⟩, ⟨_, rfl, rfl⟩, ⟨_, rfl, rfl⟩, ⟨_, rfl, rfl, rfl⟩, ⟨_, rfl, rfl, rfl⟩, trivial⟩, ?_⟩
 refine swp_seq E1t_ok mixed (by kernel_rfl) ?_
 conv => whnf
 refine ⟨_, g1, ?_⟩
 conv => whnf
 refine ⟨gst [(1, .c (.p 0 0 5 0 0)), (3, .c (.int .i64 n)), (4, .c (.int .i64 m)), (5, .c (.int .i64 l)), (6, .c (.p 1 0 1 0 0)), (7, .c (.p 2 0 1 0 0)), (8, .c (nql LA SA)), (9, .c (.int .i64 0))] [⟨56, 5, 1, boxF [.int .i64 n, .int .i64 m, .int .i64 l, ql NA qA, ql NB qB]⟩, ⟨34, 1, 1, boxF [nl (d + 1) P]⟩, ⟨34, 1, 1, boxF [nl (d2 + 1) P2]⟩], Weak.gen [some 0, some 1, some 2] rfl ⟨boxK rfl rfl, boxK rfl rfl, boxK rfl rfl, trivial⟩ ⟨⟨_, rfl, rfl, rfl⟩, ⟨_, rfl, rfl⟩, ⟨_, rfl, rfl⟩, ⟨_, rfl, rfl⟩, ⟨_, rfl, rfl, rfl⟩, ⟨_, rfl, rfl, rfl⟩, .inl ⟨_, _, rfl, rfl, fun _ _ _ _ => rfl⟩, ⟨_, rfl, rfl⟩, trivial⟩, ?_⟩
 refine swp_seq E1t_ok mixed (by kernel_rfl) ?_
 conv => whnf
 refine ⟨_, g2, ?_⟩
 conv => whnf
 refine ⟨gst [(1, .c (.p 0 0 5 0 0)), (3, .c (.int .i64 n)), (4, .c (.int .i64 m)), (5, .c (.int .i64 l)), (6, .c (.p 1 0 1 0 0)), (7, .c (.p 2 0 1 0 0)), (8, .c (nql LA SA)), (9, .c (.int .i64 0)), (10, .c (nql LB SB)), (11, .c (.int .i64 0))] [⟨56, 5, 1, boxF [.int .i64 n, .int .i64 m, .int .i64 l, ql NA qA, ql NB qB]⟩, ⟨34, 1, 1, boxF [nl (d + 1) P]⟩, ⟨34, 1, 1, boxF [nl (d2 + 1) P2]⟩], Weak.gen [some 0, some 1, some 2] rfl ⟨boxK rfl rfl, boxK rfl rfl, boxK rfl rfl, trivial⟩ ⟨⟨_, rfl, rfl, rfl⟩, ⟨_, rfl, rfl⟩, ⟨_, rfl, rfl⟩, ⟨_, rfl, rfl⟩, ⟨_, rfl, rfl, rfl⟩, ⟨_, rfl, rfl, rfl⟩, .inl ⟨_, _, rfl, rfl, fun _ _ _ _ => rfl⟩, ⟨_, rfl, rfl⟩, .inl ⟨_, _, rfl, rfl, fun _ _ _ _ => rfl⟩, ⟨_, rfl, rfl⟩, trivial⟩, ?_⟩
 refine swp_seq E1t_ok mixed (by kernel_rfl) ?_
 conv => whnf
 refine ⟨_, m1, ?_⟩
 conv => whnf
 refine ⟨_, g3, ?_⟩
 conv => whnf
 refine ⟨gst [(1, .c (.p 0 0 5 0 0)), (3, .c (.int .i64 n)), (4, .c (.int .i64 m)), (5, .c (.int .i64 l)), (6, .c (.p 1 0 1 0 0)), (7, .c (.p 2 0 1 0 0)), (8, .c (nql LA SA)), (9, .c (.int .i64 0)), (10, .c (nql LB SB)), (11, .c (.int .i64 0)), (12, .c (nql LP SP)), (13, .c (.int .i64 0))] [⟨56, 5, 1, boxF [.int .i64 n, .int .i64 m, .int .i64 l, ql NA qA, ql NB qB]⟩, ⟨34, 1, 1, boxF [nl (d + 1) P]⟩, ⟨34, 1, 1, boxF [nl (d2 + 1) P2]⟩], Weak.gen [some 0, some 1, some 2] rfl ⟨boxK rfl rfl, boxK rfl rfl, boxK rfl rfl, trivial⟩ ⟨⟨_, rfl, rfl, rfl⟩, ⟨_, rfl, rfl⟩, ⟨_, rfl, rfl⟩, ⟨_, rfl, rfl⟩, ⟨_, rfl, rfl, rfl⟩, ⟨_, rfl, rfl, rfl⟩, .inl ⟨_, _, rfl, rfl, fun _ _ _ _ => rfl⟩, ⟨_, rfl, rfl⟩, .inl ⟨_, _, rfl, rfl, fun _ _ _ _ => rfl⟩, ⟨_, rfl, rfl⟩, .inl ⟨_, _, rfl, rfl, fun _ _ _ _ => rfl⟩, ⟨_, rfl, rfl⟩, trivial⟩, ?_⟩
 refine swp_seq E1t_ok mixed (by kernel_rfl) ?_
 conv => whnf
 refine ⟨_, g4, ?_⟩
 conv => whnf
 refine ⟨_, s1, ?_⟩
 conv => whnf
 refine ⟨_, m2, ?_⟩
 conv => whnf
 refine ⟨_, s2, ?_⟩
 conv => whnf
 refine ⟨gst [(1, .c (.p 0 0 5 0 0)), (3, .c (.int .i64 n)), (4, .c (.int .i64 m)), (5, .c (.int .i64 l)), (8, .c (nql LA SA))] [⟨56, 5, 1, boxF [.int .i64 n, .int .i64 m, .int .i64 l, ql NA qA, ql NB qB]⟩], Weak.gen [some 0] rfl ⟨boxK rfl rfl, trivial⟩ ⟨⟨_, rfl, rfl, rfl⟩, ⟨_, rfl, rfl⟩, ⟨_, rfl, rfl⟩, ⟨_, rfl, rfl⟩, .inl ⟨_, _, rfl, rfl, fun _ _ _ _ => rfl⟩, trivial⟩, ?_⟩
 refine swp_seq E1t_ok mixed (by kernel_rfl) ?_
 conv => whnf
 refine ⟨_, g5, ?_⟩
 conv => whnf
 refine ⟨gst [(1, .c (.p 0 0 5 0 0)), (3, .c (.int .i64 n)), (4, .c (.int .i64 m)), (5, .c (.int .i64 l)), (8, .c (nql LA SA)), (14, .c (nql LC SC)), (15, .c (.int .i64 0))] [⟨56, 5, 1, boxF [.int .i64 n, .int .i64 m, .int .i64 l, ql NA qA, ql NB qB]⟩], Weak.gen [some 0] rfl ⟨boxK rfl rfl, trivial⟩ ⟨⟨_, rfl, rfl, rfl⟩, ⟨_, rfl, rfl⟩, ⟨_, rfl, rfl⟩, ⟨_, rfl, rfl⟩, .inl ⟨_, _, rfl, rfl, fun _ _ _ _ => rfl⟩, .inl ⟨_, _, rfl, rfl, fun _ _ _ _ => rfl⟩, ⟨_, rfl, rfl⟩, trivial⟩, ?_⟩
 refine swp_seq E1t_ok mixed (by kernel_rfl) ?_
 conv => whnf
 refine ⟨_, g6, ?_⟩
 conv => whnf
 refine ⟨gst [(1, .c (.p 0 0 5 0 0)), (3, .c (.int .i64 n)), (4, .c (.int .i64 m)), (5, .c (.int .i64 l)), (8, .c (nql LA SA)), (14, .c (nql LC SC)), (15, .c (.int .i64 0)), (16, .c (nql LC SC)), (17, .c (.int .i64 0))] [⟨56, 5, 1, boxF [.int .i64 n, .int .i64 m, .int .i64 l, ql NA qA, ql NB qB]⟩], Weak.gen [some 0] rfl ⟨boxK rfl rfl, trivial⟩ ⟨⟨_, rfl, rfl, rfl⟩, ⟨_, rfl, rfl⟩, ⟨_, rfl, rfl⟩, ⟨_, rfl, rfl⟩, .inl ⟨_, _, rfl, rfl, fun _ _ _ _ => rfl⟩, .inl ⟨_, _, rfl, rfl, fun _ _ _ _ => rfl⟩, ⟨_, rfl, rfl⟩, .inl ⟨_, _, rfl, rfl, fun _ _ _ _ => rfl⟩, ⟨_, rfl, rfl⟩, trivial⟩, ?_⟩
 refine swp_seq E1t_ok mixed (by kernel_rfl) ?_
 conv => whnf
 refine ⟨_, r1, ?_⟩
 conv => whnf
 refine ⟨gst [(1, .c (.p 0 0 5 0 0)), (4, .c (.int .i64 m)), (8, .c (nql LA SA)), (14, .c (nql LC SC)), (15, .c (.int .i64 0)), (16, .c (nql LC SC)), (17, .c (.int .i64 0)), (18, .c (.p 1 0 4 0 0)), (19, .c (.bool true)), (20, .c (.int .i64 0))] [⟨56, 5, 1, boxF [.int .i64 n, .int .i64 m, .int .i64 l, ql NA qA, ql NB qB]⟩, ⟨46, 4, 1, boxF (nq x)⟩], Weak.gen [some 0, some 1] rfl ⟨boxK rfl rfl, boxU rfl rfl rfl, trivial⟩ ⟨⟨_, rfl, rfl, rfl⟩, ⟨_, rfl, rfl⟩, .inl ⟨_, _, rfl, rfl, fun _ _ _ _ => rfl⟩, .inl ⟨_, _, rfl, rfl, fun _ _ _ _ => rfl⟩, ⟨_, rfl, rfl⟩, .inl ⟨_, _, rfl, rfl, fun _ _ _ _ => rfl⟩, ⟨_, rfl, rfl⟩, ⟨_, rfl, rfl, rfl⟩, ⟨_, rfl, rfl⟩, ⟨_, rfl, rfl⟩, trivial⟩, ?_⟩
 refine swp_seq E1t_ok mixed (by kernel_rfl) ?_
 conv => whnf
 refine ⟨_, r2, ?_⟩
 conv => whnf
 refine ⟨gst [(14, .c (nql LC SC)), (15, .c (.int .i64 0)), (16, .c (nql LC SC)), (17, .c (.int .i64 0)), (18, .c (.p 1 0 4 0 0)), (19, .c (.bool true)), (20, .c (.int .i64 0)), (21, .c (.p 2 0 4 0 0)), (22, .c (.bool true)), (23, .c (.int .i64 0))] [⟨56, 5, 1, boxF [.int .i64 n, .int .i64 m, .int .i64 l, ql NA qA, ql NB qB]⟩, ⟨46, 4, 1, boxF (nq x)⟩, ⟨46, 4, 1, boxF (nq x)⟩], Weak.gen [some 0, some 1, some 2] rfl ⟨boxK rfl rfl, boxK rfl rfl, boxU rfl rfl rfl, trivial⟩ ⟨.inl ⟨_, _, rfl, rfl, fun _ _ _ _ => rfl⟩, ⟨_, rfl, rfl⟩, .inl ⟨_, _, rfl, rfl, fun _ _ _ _ => rfl⟩, ⟨_, rfl, rfl⟩, ⟨_, rfl, rfl, rfl⟩, ⟨_, rfl, rfl⟩, ⟨_, rfl, rfl⟩, ⟨_, rfl, rfl, rfl⟩, ⟨_, rfl, rfl⟩, ⟨_, rfl, rfl⟩, trivial⟩, ?_⟩
 refine swp_of E1t_ok mixed (by kernel_rfl) ?_
 conv => whnf
 refine ⟨_, s3, ?_⟩
 conv => whnf
 refine ⟨_, s4, ?_⟩
 conv => whnf
 exact ⟨rfl, Sub.refl _⟩
set_option maxHeartbeats 8000000 in
theorem lifts_no {n m l d d2 NA NB : Nat} {qA qB : Nat → RawR} {P P2 : Nat → Int} {LA LB LP LC Lm : Nat} {SA SB SP SC ab : Nat → Rat} (n1 : 1 ≤ n) (m1' : 1 ≤ m) (hw : FnOK Tryz.prog true 10 [] (.c (.bool true))) (hf1 : FnOK Tryz.prog true 11 [.c (.int .i64 n)] (.c (.int .i64 0))) (hf2 : FnOK Tryz.prog true 11 [.c (.int .i64 m)] (.c (.int .i64 0))) (hf3 : FnOK Tryz.prog true 11 [.c (.int .i64 l)] (.c (.int .i64 0))) (t1 : Int.tmod (m : Int) (n : Int) = 0) (t2 : Int.tmod (l : Int) (m : Int) = 0) (hs : FnOK Tryz.prog true 19 [.c (.row 1 2 (rowF 1 [ql NA qA, ql NB qB]))] (.c (.bool true))) (hF : FnOK Tryz.prog true 14 [.c (.int .i64 n)] (.g [nl (d + 1) P])) (hF2 : FnOK Tryz.prog true 14 [.c (.int .i64 m)] (.g [nl (d2 + 1) P2])) (g1 : FnOK Tryz.prog true 29 [.c (.int .i64 n), .c (.int .i64 m), .c (ql NA qA)] (.t2 (.c (nql LA SA)) (.c (.int .i64 0)))) (g2 : FnOK Tryz.prog true 29 [.c (.int .i64 n), .c (.int .i64 m), .c (ql NB qB)] (.t2 (.c (nql LB SB)) (.c (.int .i64 0)))) (m1 : FnOK Tryz.prog true 15 [.g [nl (d + 1) P], .c (ql NA qA), .c (ql NB qB)] (.c (nql Lm ab))) (g3 : FnOK Tryz.prog true 29 [.c (.int .i64 n), .c (.int .i64 m), .c (nql Lm ab)] (.t2 (.c (nql LP SP)) (.c (.int .i64 0)))) (g4 : FnOK Tryz.prog true 30 [.c (.int .i64 n), .c (.int .i64 m), .c (ql NA qA)] (.c (nql LA SA))) (s1 : FnOK Tryz.prog true 16 [.c (nql LA SA), .c (nql LA SA)] (.c (.bool true))) (m2 : FnOK Tryz.prog true 15 [.g [nl (d2 + 1) P2], .c (nql LA SA), .c (nql LB SB)] (.c (nql LP SP))) (s2 : FnOK Tryz.prog true 16 [.c (nql LP SP), .c (nql LP SP)] (.c (.bool true))) (g5 : FnOK Tryz.prog true 29 [.c (.int .i64 m), .c (.int .i64 l), .c (nql LA SA)] (.t2 (.c (nql LC SC)) (.c (.int .i64 0)))) (g6 : FnOK Tryz.prog true 29 [.c (.int .i64 n), .c (.int .i64 l), .c (ql NA qA)] (.t2 (.c (nql LC SC)) (.c (.int .i64 0)))) (r1 : FnOK Tryz.prog true 20 [.c (.int .i64 n), .c (ql NA qA)] (.t3 (.g (zcells)) (.c (.bool false)) (.c (.int .i64 0)))) (r2 : FnOK Tryz.prog true 20 [.c (.int .i64 m), .c (nql LA SA)] (.t3 (.g (zcells)) (.c (.bool false)) (.c (.int .i64 0)))) (s3 : FnOK Tryz.prog true 16 [.c (nql LC SC), .c (nql LC SC)] (.c (.bool true))) : FnOK Tryz.prog true 6 [.g [.int .i64 n, .int .i64 m, .int .i64 l, ql NA qA, ql NB qB]] (.c (.bool true)) := by
 refine fn_okS (E := E1t) E1t_ok Tryz.func6 rfl (by kernel_rfl) ?_
 refine swp_seq0 E1t_ok mixed (by kernel_rfl) ?_
 conv => whnf
 refine swp_seq0 E1t_ok mixed (by kernel_rfl) ?_
 conv => whnf
 refine ⟨_, hw, ?_⟩
 conv => whnf
 refine swp_seq0 E1t_ok mixed (by kernel_rfl) ?_
 conv => whnf
 refine swp_seq E1t_ok mixed (by kernel_rfl) ?_
 conv => whnf
 refine ⟨_, hf1, ?_⟩
 conv => whnf
 refine ⟨_, hf2, ?_⟩
 conv => whnf
 refine ⟨_, hf3, ?_⟩
 conv => whnf
 refine ⟨by omega, ?_⟩
 conv => whnf
 refine bpos (show gw false (!decide (Int.tmod (m : Int) (n : Int) = 0)) = true by rw [t1]; rfl) ?_
 conv => whnf
 refine ⟨by omega, ?_⟩
 conv => whnf
 refine bpos (show gw false (!decide (Int.tmod (l : Int) (m : Int) = 0)) = true by rw [t2]; rfl) ?_
 conv => whnf
 refine ⟨fun i j hi hj => ?_, ?_⟩
 ·match i, j, hi, hj with
  | 0, 0, _, _ => rfl
  | 1, 0, _, _ => rfl
 conv => whnf
 refine ⟨_, hs, ?_⟩
 conv => whnf
 refine ⟨gst [(1, .c (.p 0 0 5 0 0)), (3, .c (.int .i64 n)), (4, .c (.int .i64 m)), (5, .c (.int .i64 l))] [⟨56, 5, 1, boxF [.int .i64 n, .int .i64 m, .int .i64 l, ql NA qA, ql NB qB]⟩], Weak.gen [some 0] rfl ⟨boxK rfl rfl, trivial⟩ ⟨⟨_, rfl, rfl, rfl⟩, ⟨_, rfl, rfl⟩, ⟨_, rfl, rfl⟩, ⟨_, rfl, rfl⟩, trivial⟩, ?_⟩
 refine swp_seq E1t_ok mixed (by kernel_rfl) ?_
 conv => whnf
 refine ⟨_, hF, ?_⟩
 conv => whnf
 refine ⟨_, hF2, ?_⟩
 conv => whnf
 refine ⟨gst [(1, .c (.p 0 0 5 0 0)), (3, .c (.int .i64 n)), (4, .c (.int .i64 m)), (5, .c (.int .i64 l)), (6, .c (.p 1 0 1 0 0)), (7, .c (.p 2 0 1 0 0))] [⟨56, 5, 1, boxF [.int .i64 n, .int .i64 m, .int .i64 l, ql NA qA, ql NB qB]⟩, ⟨34, 1, 1, boxF [nl (d + 1) P]⟩, ⟨34, 1, 1, boxF [nl (d2 + 1) P2]⟩], Weak.gen [some 0, some 1, some 2] rfl ⟨boxK rfl rfl, boxU rfl rfl rfl, boxU rfl rfl rfl, trivial⟩ ⟨⟨_, rfl, rfl, rfl⟩, ⟨_, rfl, rfl⟩, ⟨_, rfl, rfl⟩, ⟨_, rfl, rfl⟩, ⟨_, rfl, rfl, rfl⟩, ⟨_, rfl, rfl, rfl⟩, trivial⟩, ?_⟩
 refine swp_seq E1t_ok mixed (by kernel_rfl) ?_
 conv => whnf
 refine ⟨_, g1, ?_⟩
 conv => whnf
 refine ⟨gst [(1, .c (.p 0 0 5 0 0)), (3, .c (.int .i64 n)), (4, .c (.int .i64 m)), (5, .c (.int .i64 l)), (6, .c (.p 1 0 1 0 0)), (7, .c (.p 2 0 1 0 0)), (8, .c (nql LA SA)), (9, .c (.int .i64 0))] [⟨56, 5, 1, boxF [.int .i64 n, .int .i64 m, .int .i64 l, ql NA qA, ql NB qB]⟩, ⟨34, 1, 1, boxF [nl (d + 1) P]⟩, ⟨34, 1, 1, boxF [nl (d2 + 1) P2]⟩], Weak.gen [some 0, some 1, some 2] rfl ⟨boxK rfl rfl, boxK rfl rfl, boxK rfl rfl, trivial⟩ ⟨⟨_, rfl, rfl, rfl⟩, ⟨_, rfl, rfl⟩, ⟨_, rfl, rfl⟩, ⟨_, rfl, rfl⟩, ⟨_, rfl, rfl, rfl⟩, ⟨_, rfl, rfl, rfl⟩, .inl ⟨_, _, rfl, rfl, fun _ _ _ _ => rfl⟩, ⟨_, rfl, rfl⟩, trivial⟩, ?_⟩
 refine swp_seq E1t_ok mixed (by kernel_rfl) ?_
 conv => whnf
 refine ⟨_, g2, ?_⟩
 conv => whnf
 refine ⟨gst [(1, .c (.p 0 0 5 0 0)), (3, .c (.int .i64 n)), (4, .c (.int .i64 m)), (5, .c (.int .i64 l)), (6, .c (.p 1 0 1 0 0)), (7, .c (.p 2 0 1 0 0)), (8, .c (nql LA SA)), (9, .c (.int .i64 0)), (10, .c (nql LB SB)), (11, .c (.int .i64 0))] [⟨56, 5, 1, boxF [.int .i64 n, .int .i64 m, .int .i64 l, ql NA qA, ql NB qB]⟩, ⟨34, 1, 1, boxF [nl (d + 1) P]⟩, ⟨34, 1, 1, boxF [nl (d2 + 1) P2]⟩], Weak.gen [some 0, some 1, some 2] rfl ⟨boxK rfl rfl, boxK rfl rfl, boxK rfl rfl, trivial⟩ ⟨⟨_, rfl, rfl, rfl⟩, ⟨_, rfl, rfl⟩, ⟨_, rfl, rfl⟩, ⟨_, rfl, rfl⟩, ⟨_, rfl, rfl, rfl⟩, ⟨_, rfl, rfl, rfl⟩, .inl ⟨_, _, rfl, rfl, fun _ _ _ _ => rfl⟩, ⟨_, rfl, rfl⟩, .inl ⟨_, _, rfl, rfl, fun _ _ _ _ => rfl⟩, ⟨_, rfl, rfl⟩, trivial⟩, ?_⟩
 refine swp_seq E1t_ok mixed (by kernel_rfl) ?_
 conv => whnf
 refine ⟨_, m1, ?_⟩
 conv => whnf
 refine ⟨_, g3, ?_⟩
 conv => whnf
 refine ⟨gst [(1, .c (.p 0 0 5 0 0)), (3, .c (.int .i64 n)), (4, .c (.int .i64 m)), (5, .c (.int .i64 l)), (6, .c (.p 1 0 1 0 0)), (7, .c (.p 2 0 1 0 0)), (8, .c (nql LA SA)), (9, .c (.int .i64 0)), (10, .c (nql LB SB)), (11, .c (.int .i64 0)), (12, .c (nql LP SP)), (13, .c (.int .i64 0))] [⟨56, 5, 1, boxF [.int .i64 n, .int .i64 m, .int .i64 l, ql NA qA, ql NB qB]⟩, ⟨34, 1, 1, boxF [nl (d + 1) P]⟩, ⟨34, 1, 1, boxF [nl (d2 + 1) P2]⟩], Weak.gen [some 0, some 1, some 2] rfl ⟨boxK rfl rfl, boxK rfl rfl, boxK rfl rfl, trivial⟩ ⟨⟨_, rfl, rfl, rfl⟩, ⟨_, rfl, rfl⟩, ⟨_, rfl, rfl⟩, ⟨_, rfl, rfl⟩, ⟨_, rfl, rfl, rfl⟩, ⟨_, rfl, rfl, rfl⟩, .inl ⟨_, _, rfl, rfl, fun _ _ _ _ => rfl⟩, ⟨_, rfl, rfl⟩, .inl ⟨_, _, rfl, rfl, fun _ _ _ _ => rfl⟩, ⟨_, rfl, rfl⟩, .inl ⟨_, _, rfl, rfl, fun _ _ _ _ => rfl⟩, ⟨_, rfl, rfl⟩, trivial⟩, ?_⟩
 refine swp_seq E1t_ok mixed (by kernel_rfl) ?_
 conv => whnf
 refine ⟨_, g4, ?_⟩
 conv => whnf
 refine ⟨_, s1, ?_⟩
 conv => whnf
 refine ⟨_, m2, ?_⟩
 conv => whnf
 refine ⟨_, s2, ?_⟩
 conv => whnf
 refine ⟨gst [(1, .c (.p 0 0 5 0 0)), (3, .c (.int .i64 n)), (4, .c (.int .i64 m)), (5, .c (.int .i64 l)), (8, .c (nql LA SA))] [⟨56, 5, 1, boxF [.int .i64 n, .int .i64 m, .int .i64 l, ql NA qA, ql NB qB]⟩], Weak.gen [some 0] rfl ⟨boxK rfl rfl, trivial⟩ ⟨⟨_, rfl, rfl, rfl⟩, ⟨_, rfl, rfl⟩, ⟨_, rfl, rfl⟩, ⟨_, rfl, rfl⟩, .inl ⟨_, _, rfl, rfl, fun _ _ _ _ => rfl⟩, trivial⟩, ?_⟩
 refine swp_seq E1t_ok mixed (by kernel_rfl) ?_
 conv => whnf
 refine ⟨_, g5, ?_⟩
 conv => whnf
 refine ⟨gst [(1, .c (.p 0 0 5 0 0)), (3, .c (.int .i64 n)), (4, .c (.int .i64 m)), (5, .c (.int .i64 l)), (8, .c (nql LA SA)), (14, .c (nql LC SC)), (15, .c (.int .i64 0))] [⟨56, 5, 1, boxF [.int .i64 n, .int .i64 m, .int .i64 l, ql NA qA, ql NB qB]⟩], Weak.gen [some 0] rfl ⟨boxK rfl rfl, trivial⟩ ⟨⟨_, rfl, rfl, rfl⟩, ⟨_, rfl, rfl⟩, ⟨_, rfl, rfl⟩, ⟨_, rfl, rfl⟩, .inl ⟨_, _, rfl, rfl, fun _ _ _ _ => rfl⟩, .inl ⟨_, _, rfl, rfl, fun _ _ _ _ => rfl⟩, ⟨_, rfl, rfl⟩, trivial⟩, ?_⟩
 refine swp_seq E1t_ok mixed (by kernel_rfl) ?_
 conv => whnf
 refine ⟨_, g6, ?_⟩
 conv => whnf
 refine ⟨gst [(1, .c (.p 0 0 5 0 0)), (3, .c (.int .i64 n)), (4, .c (.int .i64 m)), (5, .c (.int .i64 l)), (8, .c (nql LA SA)), (14, .c (nql LC SC)), (15, .c (.int .i64 0)), (16, .c (nql LC SC)), (17, .c (.int .i64 0))] [⟨56, 5, 1, boxF [.int .i64 n, .int .i64 m, .int .i64 l, ql NA qA, ql NB qB]⟩], Weak.gen [some 0] rfl ⟨boxK rfl rfl, trivial⟩ ⟨⟨_, rfl, rfl, rfl⟩, ⟨_, rfl, rfl⟩, ⟨_, rfl, rfl⟩, ⟨_, rfl, rfl⟩, .inl ⟨_, _, rfl, rfl, fun _ _ _ _ => rfl⟩, .inl ⟨_, _, rfl, rfl, fun _ _ _ _ => rfl⟩, ⟨_, rfl, rfl⟩, .inl ⟨_, _, rfl, rfl, fun _ _ _ _ => rfl⟩, ⟨_, rfl, rfl⟩, trivial⟩, ?_⟩
 refine swp_seq E1t_ok mixed (by kernel_rfl) ?_
 conv => whnf
 refine ⟨_, r1, ?_⟩
 conv => whnf
 refine ⟨gst [(1, .c (.p 0 0 5 0 0)), (4, .c (.int .i64 m)), (8, .c (nql LA SA)), (14, .c (nql LC SC)), (15, .c (.int .i64 0)), (16, .c (nql LC SC)), (17, .c (.int .i64 0)), (18, .c (.p 1 0 4 0 0)), (19, .c (.bool false)), (20, .c (.int .i64 0))] [⟨56, 5, 1, boxF [.int .i64 n, .int .i64 m, .int .i64 l, ql NA qA, ql NB qB]⟩, ⟨46, 4, 1, boxF (zcells)⟩], Weak.gen [some 0, some 1] rfl ⟨boxK rfl rfl, boxU rfl rfl rfl, trivial⟩ ⟨⟨_, rfl, rfl, rfl⟩, ⟨_, rfl, rfl⟩, .inl ⟨_, _, rfl, rfl, fun _ _ _ _ => rfl⟩, .inl ⟨_, _, rfl, rfl, fun _ _ _ _ => rfl⟩, ⟨_, rfl, rfl⟩, .inl ⟨_, _, rfl, rfl, fun _ _ _ _ => rfl⟩, ⟨_, rfl, rfl⟩, ⟨_, rfl, rfl, rfl⟩, ⟨_, rfl, rfl⟩, ⟨_, rfl, rfl⟩, trivial⟩, ?_⟩
 refine swp_seq E1t_ok mixed (by kernel_rfl) ?_
 conv => whnf
 refine ⟨_, r2, ?_⟩
 conv => whnf
 refine ⟨gst [(14, .c (nql LC SC)), (15, .c (.int .i64 0)), (16, .c (nql LC SC)), (17, .c (.int .i64 0)), (18, .c (.p 1 0 4 0 0)), (19, .c (.bool false)), (20, .c (.int .i64 0)), (21, .c (.p 2 0 4 0 0)), (22, .c (.bool false)), (23, .c (.int .i64 0))] [⟨56, 5, 1, boxF [.int .i64 n, .int .i64 m, .int .i64 l, ql NA qA, ql NB qB]⟩, ⟨46, 4, 1, boxF (zcells)⟩, ⟨46, 4, 1, boxF (zcells)⟩], Weak.gen [some 0, some 1, some 2] rfl ⟨boxK rfl rfl, boxK rfl rfl, boxU rfl rfl rfl, trivial⟩ ⟨.inl ⟨_, _, rfl, rfl, fun _ _ _ _ => rfl⟩, ⟨_, rfl, rfl⟩, .inl ⟨_, _, rfl, rfl, fun _ _ _ _ => rfl⟩, ⟨_, rfl, rfl⟩, ⟨_, rfl, rfl, rfl⟩, ⟨_, rfl, rfl⟩, ⟨_, rfl, rfl⟩, ⟨_, rfl, rfl, rfl⟩, ⟨_, rfl, rfl⟩, ⟨_, rfl, rfl⟩, trivial⟩, ?_⟩
 refine swp_of E1t_ok mixed (by kernel_rfl) ?_
 conv => whnf
 refine ⟨_, s3, ?_⟩
 conv => whnf
 exact ⟨rfl, Sub.refl _⟩
end Rf
end Go.Proofs.YtmbejakmeijcbaaGreat
