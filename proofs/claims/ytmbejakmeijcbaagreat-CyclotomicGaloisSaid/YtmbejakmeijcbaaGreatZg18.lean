/- The law CyclotomicGalois: its walk over what its calls hand back. -/
import Derived.Test.YtmbejakmeijcbaaGreatZg17
namespace Go.Proofs.YtmbejakmeijcbaaGreat
open Go.RowKit
namespace Rf
noncomputable def tyTw (T : TypeId) : Option TI := if T == 56 then some ⟨true, 5, [.int .i64 0, .int .i64 0, .int .i64 0, .nil, .nil], 72, [some (0, 1), some (1, 1), some (2, 1), some (3, 1), some (4, 1)], none, none, 3⟩ else tyEl T
theorem tyTw_at : tyOf Tryz.prog 56 = some ⟨true, 5, [.int .i64 0, .int .i64 0, .int .i64 0, .nil, .nil], 72, [some (0, 1), some (1, 1), some (2, 1), some (3, 1), some (4, 1)], none, none, 3⟩ := by kernel_rfl
theorem tyTw_ok (T : TypeId) (ti : TI) (h : tyTw T = some ti) : tyOf Tryz.prog T = some ti := by
 unfold tyTw at h
 by_cases e : T = 56
 ·subst e
  rw [if_pos (by simp)] at h
  cases h
  exact tyTw_at
 ·rw [if_neg (by simpa using e)] at h
  exact tyEl_ok T ti h
noncomputable def E1t : Env := ⟨Tryz.prog, true, tyTw, 0⟩
theorem E1t_ok : EnvOK E1t := ⟨tyTw_ok⟩
set_option maxHeartbeats 8000000 in
theorem galois_full {n d NA NB : Nat} {t s : Int} {qA qB : Nat → RawR} {P : Nat → Int} {LA LB LC LP LS LD Lm La : Nat} {SA SB CA SP SS SD ab sm : Nat → Rat} (hw : FnOK Tryz.prog true 10 [] (.c (.bool true))) (hf : FnOK Tryz.prog true 11 [.c (.int .i64 n)] (.c (.int .i64 0))) (hs : FnOK Tryz.prog true 19 [.c (.row 1 2 (rowF 1 [ql NA qA, ql NB qB]))] (.c (.bool true))) (ht : -1073741824 ≤ t ∧ t ≤ 1073741824) (hs1 : -1073741824 ≤ s ∧ s ≤ 1073741824) (g1 : FnOK Tryz.prog true 24 [.c (.int .i64 n), .c (.int .i64 t), .c (ql NA qA)] (.t2 (.c (nql LA SA)) (.c (.int .i64 0)))) (g2 : FnOK Tryz.prog true 25 [.c (.int .i64 n), .c (ql NA qA)] (.t2 (.c (nql LC CA)) (.c (.int .i64 0)))) (g3 : FnOK Tryz.prog true 26 [.c (.int .i64 n), .c (.int .i64 (-1)), .c (ql NA qA)] (.c (nql LC CA))) (s1 : FnOK Tryz.prog true 16 [.c (nql LC CA), .c (nql LC CA)] (.c (.bool true))) (k1 : FnOK Tryz.prog true 27 [.c (.int .i64 t), .c (.int .i64 n)] (.c (.int .i64 1))) (hF : FnOK Tryz.prog true 14 [.c (.int .i64 n)] (.g [nl (d + 1) P])) (g4 : FnOK Tryz.prog true 24 [.c (.int .i64 n), .c (.int .i64 t), .c (ql NB qB)] (.t2 (.c (nql LB SB)) (.c (.int .i64 0)))) (m1 : FnOK Tryz.prog true 15 [.g [nl (d + 1) P], .c (ql NA qA), .c (ql NB qB)] (.c (nql Lm ab))) (g5 : FnOK Tryz.prog true 24 [.c (.int .i64 n), .c (.int .i64 t), .c (nql Lm ab)] (.t2 (.c (nql LP SP)) (.c (.int .i64 0)))) (a1 : FnOK Tryz.prog true 28 [.g [nl (d + 1) P], .c (ql NA qA), .c (ql NB qB)] (.c (nql La sm))) (g6 : FnOK Tryz.prog true 24 [.c (.int .i64 n), .c (.int .i64 t), .c (nql La sm)] (.t2 (.c (nql LS SS)) (.c (.int .i64 0)))) (g7 : FnOK Tryz.prog true 26 [.c (.int .i64 n), .c (.int .i64 t), .c (ql NA qA)] (.c (nql LA SA))) (s2 : FnOK Tryz.prog true 16 [.c (nql LA SA), .c (nql LA SA)] (.c (.bool true))) (m2 : FnOK Tryz.prog true 15 [.g [nl (d + 1) P], .c (nql LA SA), .c (nql LB SB)] (.c (nql LP SP))) (s3 : FnOK Tryz.prog true 16 [.c (nql LP SP), .c (nql LP SP)] (.c (.bool true))) (a2 : FnOK Tryz.prog true 28 [.g [nl (d + 1) P], .c (nql LA SA), .c (nql LB SB)] (.c (nql LS SS))) (s4 : FnOK Tryz.prog true 16 [.c (nql LS SS), .c (nql LS SS)] (.c (.bool true))) (k2 : FnOK Tryz.prog true 27 [.c (.int .i64 s), .c (.int .i64 n)] (.c (.int .i64 1))) (g8 : FnOK Tryz.prog true 24 [.c (.int .i64 n), .c (.int .i64 s), .c (nql LA SA)] (.t2 (.c (nql LD SD)) (.c (.int .i64 0)))) (hp : inR .i64 (s * t)) (g9 : FnOK Tryz.prog true 24 [.c (.int .i64 n), .c (.int .i64 (s * t)), .c (ql NA qA)] (.t2 (.c (nql LD SD)) (.c (.int .i64 0)))) (s5 : FnOK Tryz.prog true 16 [.c (nql LD SD), .c (nql LD SD)] (.c (.bool true))) : FnOK Tryz.prog true 5 [.g [.int .i64 n, .int .i64 t, .int .i64 s, ql NA qA, ql NB qB]] (.c (.bool true)) := by
 refine fn_okS (E := E1t) E1t_ok Tryz.func5 rfl (by kernel_rfl) ?_
 refine swp_seq0 E1t_ok mixed (by kernel_rfl) ?_
 conv => whnf
 refine swp_seq0 E1t_ok mixed (by kernel_rfl) ?_
 conv => whnf
 refine ⟨_, hw, ?_⟩
 conv => whnf
 refine swp_seq E1t_ok mixed (by kernel_rfl) ?_
 conv => whnf
 refine ⟨_, hf, ?_⟩
 conv => whnf
 refine ⟨fun i j hi hj => ?_, ?_⟩
 ·match i, j, hi, hj with
  | 0, 0, _, _ => rfl
  | 1, 0, _, _ => rfl
 conv => whnf
 refine ⟨_, hs, ?_⟩
 conv => whnf
 refine bpos (show gw false (decide ((1073741824 : Int) < t)) = true by rw [decide_eq_false (by omega)]; rfl) ?_
 conv => whnf
 refine bpos (show gw false (decide (t < (-1073741824 : Int))) = true by rw [decide_eq_false (by omega)]; rfl) ?_
 conv => whnf
 refine bpos (show gw false (decide ((1073741824 : Int) < s)) = true by rw [decide_eq_false (by omega)]; rfl) ?_
 conv => whnf
 refine bneg (show decide (s < (-1073741824 : Int)) = false from decide_eq_false (by omega)) ?_
 conv => whnf
 refine ⟨gst [(1, .c (.p 0 0 5 0 0))] [⟨56, 5, 1, boxF [.int .i64 n, .int .i64 t, .int .i64 s, ql NA qA, ql NB qB]⟩], Weak.gen [some 0] rfl ⟨boxK rfl rfl, trivial⟩ ⟨⟨_, rfl, rfl, rfl⟩, trivial⟩, ?_⟩
 refine swp_seq E1t_ok mixed (by kernel_rfl) ?_
 conv => whnf
 refine ⟨_, g1, ?_⟩
 conv => whnf
 refine ⟨gst [(1, .c (.p 0 0 5 0 0)), (3, .c (nql LA SA)), (4, .c (.int .i64 0))] [⟨56, 5, 1, boxF [.int .i64 n, .int .i64 t, .int .i64 s, ql NA qA, ql NB qB]⟩], Weak.gen [some 0] rfl ⟨boxK rfl rfl, trivial⟩ ⟨⟨_, rfl, rfl, rfl⟩, .inl ⟨_, _, rfl, rfl, fun _ _ _ _ => rfl⟩, ⟨_, rfl, rfl⟩, trivial⟩, ?_⟩
 refine swp_seq E1t_ok mixed (by kernel_rfl) ?_
 conv => whnf
 refine ⟨_, g2, ?_⟩
 conv => whnf
 refine ⟨gst [(1, .c (.p 0 0 5 0 0)), (3, .c (nql LA SA)), (4, .c (.int .i64 0)), (5, .c (nql LC CA)), (6, .c (.int .i64 0))] [⟨56, 5, 1, boxF [.int .i64 n, .int .i64 t, .int .i64 s, ql NA qA, ql NB qB]⟩], Weak.gen [some 0] rfl ⟨boxK rfl rfl, trivial⟩ ⟨⟨_, rfl, rfl, rfl⟩, .inl ⟨_, _, rfl, rfl, fun _ _ _ _ => rfl⟩, ⟨_, rfl, rfl⟩, .inl ⟨_, _, rfl, rfl, fun _ _ _ _ => rfl⟩, ⟨_, rfl, rfl⟩, trivial⟩, ?_⟩
 refine swp_seq E1t_ok mixed (by kernel_rfl) ?_
 conv => whnf
 refine ⟨_, g3, ?_⟩
 conv => whnf
 refine ⟨_, s1, ?_⟩
 conv => whnf
 refine ⟨gst [(1, .c (.p 0 0 5 0 0)), (3, .c (nql LA SA)), (4, .c (.int .i64 0))] [⟨56, 5, 1, boxF [.int .i64 n, .int .i64 t, .int .i64 s, ql NA qA, ql NB qB]⟩], Weak.gen [some 0] rfl ⟨boxK rfl rfl, trivial⟩ ⟨⟨_, rfl, rfl, rfl⟩, .inl ⟨_, _, rfl, rfl, fun _ _ _ _ => rfl⟩, ⟨_, rfl, rfl⟩, trivial⟩, ?_⟩
 refine swp_seq0 E1t_ok mixed (by kernel_rfl) ?_
 conv => whnf
 refine ⟨_, k1, ?_⟩
 conv => whnf
 refine swp_seq E1t_ok mixed (by kernel_rfl) ?_
 conv => whnf
 refine ⟨_, hF, ?_⟩
 conv => whnf
 refine ⟨gst [(1, .c (.p 0 0 5 0 0)), (3, .c (nql LA SA)), (4, .c (.int .i64 0)), (7, .c (.p 1 0 1 0 0))] [⟨56, 5, 1, boxF [.int .i64 n, .int .i64 t, .int .i64 s, ql NA qA, ql NB qB]⟩, ⟨34, 1, 1, boxF [nl (d + 1) P]⟩], Weak.gen [some 0, some 1] rfl ⟨boxK rfl rfl, boxU rfl rfl rfl, trivial⟩ ⟨⟨_, rfl, rfl, rfl⟩, .inl ⟨_, _, rfl, rfl, fun _ _ _ _ => rfl⟩, ⟨_, rfl, rfl⟩, ⟨_, rfl, rfl, rfl⟩, trivial⟩, ?_⟩
 refine swp_seq E1t_ok mixed (by kernel_rfl) ?_
 conv => whnf
 refine ⟨_, g4, ?_⟩
 conv => whnf
 refine ⟨gst [(1, .c (.p 0 0 5 0 0)), (3, .c (nql LA SA)), (4, .c (.int .i64 0)), (7, .c (.p 1 0 1 0 0)), (8, .c (nql LB SB)), (9, .c (.int .i64 0))] [⟨56, 5, 1, boxF [.int .i64 n, .int .i64 t, .int .i64 s, ql NA qA, ql NB qB]⟩, ⟨34, 1, 1, boxF [nl (d + 1) P]⟩], Weak.gen [some 0, some 1] rfl ⟨boxK rfl rfl, boxK rfl rfl, trivial⟩ ⟨⟨_, rfl, rfl, rfl⟩, .inl ⟨_, _, rfl, rfl, fun _ _ _ _ => rfl⟩, ⟨_, rfl, rfl⟩, ⟨_, rfl, rfl, rfl⟩, .inl ⟨_, _, rfl, rfl, fun _ _ _ _ => rfl⟩, ⟨_, rfl, rfl⟩, trivial⟩, ?_⟩
 refine swp_seq E1t_ok mixed (by kernel_rfl) ?_
 conv => whnf
 refine ⟨_, m1, ?_⟩
 conv => whnf
 refine ⟨_, g5, ?_⟩
 conv => whnf
 refine ⟨gst [(1, .c (.p 0 0 5 0 0)), (3, .c (nql LA SA)), (4, .c (.int .i64 0)), (7, .c (.p 1 0 1 0 0)), (8, .c (nql LB SB)), (9, .c (.int .i64 0)), (10, .c (nql LP SP)), (11, .c (.int .i64 0))] [⟨56, 5, 1, boxF [.int .i64 n, .int .i64 t, .int .i64 s, ql NA qA, ql NB qB]⟩, ⟨34, 1, 1, boxF [nl (d + 1) P]⟩], Weak.gen [some 0, some 1] rfl ⟨boxK rfl rfl, boxK rfl rfl, trivial⟩ ⟨⟨_, rfl, rfl, rfl⟩, .inl ⟨_, _, rfl, rfl, fun _ _ _ _ => rfl⟩, ⟨_, rfl, rfl⟩, ⟨_, rfl, rfl, rfl⟩, .inl ⟨_, _, rfl, rfl, fun _ _ _ _ => rfl⟩, ⟨_, rfl, rfl⟩, .inl ⟨_, _, rfl, rfl, fun _ _ _ _ => rfl⟩, ⟨_, rfl, rfl⟩, trivial⟩, ?_⟩
 refine swp_seq E1t_ok mixed (by kernel_rfl) ?_
 conv => whnf
 refine ⟨_, a1, ?_⟩
 conv => whnf
 refine ⟨_, g6, ?_⟩
 conv => whnf
 refine ⟨gst [(1, .c (.p 0 0 5 0 0)), (3, .c (nql LA SA)), (4, .c (.int .i64 0)), (7, .c (.p 1 0 1 0 0)), (8, .c (nql LB SB)), (9, .c (.int .i64 0)), (10, .c (nql LP SP)), (11, .c (.int .i64 0)), (12, .c (nql LS SS)), (13, .c (.int .i64 0))] [⟨56, 5, 1, boxF [.int .i64 n, .int .i64 t, .int .i64 s, ql NA qA, ql NB qB]⟩, ⟨34, 1, 1, boxF [nl (d + 1) P]⟩], Weak.gen [some 0, some 1] rfl ⟨boxK rfl rfl, boxK rfl rfl, trivial⟩ ⟨⟨_, rfl, rfl, rfl⟩, .inl ⟨_, _, rfl, rfl, fun _ _ _ _ => rfl⟩, ⟨_, rfl, rfl⟩, ⟨_, rfl, rfl, rfl⟩, .inl ⟨_, _, rfl, rfl, fun _ _ _ _ => rfl⟩, ⟨_, rfl, rfl⟩, .inl ⟨_, _, rfl, rfl, fun _ _ _ _ => rfl⟩, ⟨_, rfl, rfl⟩, .inl ⟨_, _, rfl, rfl, fun _ _ _ _ => rfl⟩, ⟨_, rfl, rfl⟩, trivial⟩, ?_⟩
 refine swp_seq E1t_ok mixed (by kernel_rfl) ?_
 conv => whnf
 refine ⟨_, g7, ?_⟩
 conv => whnf
 refine ⟨_, s2, ?_⟩
 conv => whnf
 refine ⟨_, m2, ?_⟩
 conv => whnf
 refine ⟨_, s3, ?_⟩
 conv => whnf
 refine ⟨_, a2, ?_⟩
 conv => whnf
 refine ⟨_, s4, ?_⟩
 conv => whnf
 refine ⟨gst [(1, .c (.p 0 0 5 0 0)), (3, .c (nql LA SA))] [⟨56, 5, 1, boxF [.int .i64 n, .int .i64 t, .int .i64 s, ql NA qA, ql NB qB]⟩], Weak.gen [some 0] rfl ⟨boxK rfl rfl, trivial⟩ ⟨⟨_, rfl, rfl, rfl⟩, .inl ⟨_, _, rfl, rfl, fun _ _ _ _ => rfl⟩, trivial⟩, ?_⟩
 refine swp_seq0 E1t_ok mixed (by kernel_rfl) ?_
 conv => whnf
 refine ⟨_, k2, ?_⟩
 conv => whnf
 refine swp_seq E1t_ok mixed (by kernel_rfl) ?_
 conv => whnf
 refine ⟨_, g8, ?_⟩
 conv => whnf
 refine ⟨gst [(1, .c (.p 0 0 5 0 0)), (3, .c (nql LA SA)), (14, .c (nql LD SD)), (15, .c (.int .i64 0))] [⟨56, 5, 1, boxF [.int .i64 n, .int .i64 t, .int .i64 s, ql NA qA, ql NB qB]⟩], Weak.gen [some 0] rfl ⟨boxK rfl rfl, trivial⟩ ⟨⟨_, rfl, rfl, rfl⟩, .inl ⟨_, _, rfl, rfl, fun _ _ _ _ => rfl⟩, .inl ⟨_, _, rfl, rfl, fun _ _ _ _ => rfl⟩, ⟨_, rfl, rfl⟩, trivial⟩, ?_⟩
 refine swp_seq E1t_ok mixed (by kernel_rfl) ?_
 conv => whnf
 refine ⟨hp, ?_⟩
 conv => whnf
 refine ⟨_, g9, ?_⟩
 conv => whnf
 refine ⟨gst [(1, .c (.p 0 0 5 0 0)), (14, .c (nql LD SD)), (15, .c (.int .i64 0)), (16, .c (nql LD SD)), (17, .c (.int .i64 0))] [⟨56, 5, 1, boxF [.int .i64 n, .int .i64 t, .int .i64 s, ql NA qA, ql NB qB]⟩], Weak.gen [some 0] rfl ⟨boxK rfl rfl, trivial⟩ ⟨⟨_, rfl, rfl, rfl⟩, .inl ⟨_, _, rfl, rfl, fun _ _ _ _ => rfl⟩, ⟨_, rfl, rfl⟩, .inl ⟨_, _, rfl, rfl, fun _ _ _ _ => rfl⟩, ⟨_, rfl, rfl⟩, trivial⟩, ?_⟩
 refine swp_of E1t_ok mixed (by kernel_rfl) ?_
 conv => whnf
 refine ⟨_, s5, ?_⟩
 conv => whnf
 exact ⟨rfl, Sub.refl _⟩
set_option maxHeartbeats 8000000 in
theorem galois_nos {n d NA NB : Nat} {t s : Int} {qA qB : Nat → RawR} {P : Nat → Int} {LA LB LC LP LS Lm La : Nat} {SA SB CA SP SS ab sm : Nat → Rat} {g : Nat} (hw : FnOK Tryz.prog true 10 [] (.c (.bool true))) (hf : FnOK Tryz.prog true 11 [.c (.int .i64 n)] (.c (.int .i64 0))) (hs : FnOK Tryz.prog true 19 [.c (.row 1 2 (rowF 1 [ql NA qA, ql NB qB]))] (.c (.bool true))) (ht : -1073741824 ≤ t ∧ t ≤ 1073741824) (hs1 : -1073741824 ≤ s ∧ s ≤ 1073741824) (g1 : FnOK Tryz.prog true 24 [.c (.int .i64 n), .c (.int .i64 t), .c (ql NA qA)] (.t2 (.c (nql LA SA)) (.c (.int .i64 0)))) (g2 : FnOK Tryz.prog true 25 [.c (.int .i64 n), .c (ql NA qA)] (.t2 (.c (nql LC CA)) (.c (.int .i64 0)))) (g3 : FnOK Tryz.prog true 26 [.c (.int .i64 n), .c (.int .i64 (-1)), .c (ql NA qA)] (.c (nql LC CA))) (s1 : FnOK Tryz.prog true 16 [.c (nql LC CA), .c (nql LC CA)] (.c (.bool true))) (k1 : FnOK Tryz.prog true 27 [.c (.int .i64 t), .c (.int .i64 n)] (.c (.int .i64 1))) (hF : FnOK Tryz.prog true 14 [.c (.int .i64 n)] (.g [nl (d + 1) P])) (g4 : FnOK Tryz.prog true 24 [.c (.int .i64 n), .c (.int .i64 t), .c (ql NB qB)] (.t2 (.c (nql LB SB)) (.c (.int .i64 0)))) (m1 : FnOK Tryz.prog true 15 [.g [nl (d + 1) P], .c (ql NA qA), .c (ql NB qB)] (.c (nql Lm ab))) (g5 : FnOK Tryz.prog true 24 [.c (.int .i64 n), .c (.int .i64 t), .c (nql Lm ab)] (.t2 (.c (nql LP SP)) (.c (.int .i64 0)))) (a1 : FnOK Tryz.prog true 28 [.g [nl (d + 1) P], .c (ql NA qA), .c (ql NB qB)] (.c (nql La sm))) (g6 : FnOK Tryz.prog true 24 [.c (.int .i64 n), .c (.int .i64 t), .c (nql La sm)] (.t2 (.c (nql LS SS)) (.c (.int .i64 0)))) (g7 : FnOK Tryz.prog true 26 [.c (.int .i64 n), .c (.int .i64 t), .c (ql NA qA)] (.c (nql LA SA))) (s2 : FnOK Tryz.prog true 16 [.c (nql LA SA), .c (nql LA SA)] (.c (.bool true))) (m2 : FnOK Tryz.prog true 15 [.g [nl (d + 1) P], .c (nql LA SA), .c (nql LB SB)] (.c (nql LP SP))) (s3 : FnOK Tryz.prog true 16 [.c (nql LP SP), .c (nql LP SP)] (.c (.bool true))) (a2 : FnOK Tryz.prog true 28 [.g [nl (d + 1) P], .c (nql LA SA), .c (nql LB SB)] (.c (nql LS SS))) (s4 : FnOK Tryz.prog true 16 [.c (nql LS SS), .c (nql LS SS)] (.c (.bool true))) (k2 : FnOK Tryz.prog true 27 [.c (.int .i64 s), .c (.int .i64 n)] (.c (.int .i64 (g : Nat)))) (hg : g ≠ 1) : FnOK Tryz.prog true 5 [.g [.int .i64 n, .int .i64 t, .int .i64 s, ql NA qA, ql NB qB]] (.c (.bool true)) := by
 refine fn_okS (E := E1t) E1t_ok Tryz.func5 rfl (by kernel_rfl) ?_
 refine swp_seq0 E1t_ok mixed (by kernel_rfl) ?_
 conv => whnf
 refine swp_seq0 E1t_ok mixed (by kernel_rfl) ?_
 conv => whnf
 refine ⟨_, hw, ?_⟩
 conv => whnf
 refine swp_seq E1t_ok mixed (by kernel_rfl) ?_
 conv => whnf
 refine ⟨_, hf, ?_⟩
 conv => whnf
 refine ⟨fun i j hi hj => ?_, ?_⟩
 ·match i, j, hi, hj with
  | 0, 0, _, _ => rfl
  | 1, 0, _, _ => rfl
 conv => whnf
 refine ⟨_, hs, ?_⟩
 conv => whnf
 refine bpos (show gw false (decide ((1073741824 : Int) < t)) = true by rw [decide_eq_false (by omega)]; rfl) ?_
 conv => whnf
 refine bpos (show gw false (decide (t < (-1073741824 : Int))) = true by rw [decide_eq_false (by omega)]; rfl) ?_
 conv => whnf
 refine bpos (show gw false (decide ((1073741824 : Int) < s)) = true by rw [decide_eq_false (by omega)]; rfl) ?_
 conv => whnf
 refine bneg (show decide (s < (-1073741824 : Int)) = false from decide_eq_false (by omega)) ?_
 conv => whnf
 refine ⟨gst [(1, .c (.p 0 0 5 0 0))] [⟨56, 5, 1, boxF [.int .i64 n, .int .i64 t, .int .i64 s, ql NA qA, ql NB qB]⟩], Weak.gen [some 0] rfl ⟨boxK rfl rfl, trivial⟩ ⟨⟨_, rfl, rfl, rfl⟩, trivial⟩, ?_⟩
 refine swp_seq E1t_ok mixed (by kernel_rfl) ?_
 conv => whnf
 refine ⟨_, g1, ?_⟩
 conv => whnf
 refine ⟨gst [(1, .c (.p 0 0 5 0 0)), (3, .c (nql LA SA)), (4, .c (.int .i64 0))] [⟨56, 5, 1, boxF [.int .i64 n, .int .i64 t, .int .i64 s, ql NA qA, ql NB qB]⟩], Weak.gen [some 0] rfl ⟨boxK rfl rfl, trivial⟩ ⟨⟨_, rfl, rfl, rfl⟩, .inl ⟨_, _, rfl, rfl, fun _ _ _ _ => rfl⟩, ⟨_, rfl, rfl⟩, trivial⟩, ?_⟩
 refine swp_seq E1t_ok mixed (by kernel_rfl) ?_
 conv => whnf
 refine ⟨_, g2, ?_⟩
 conv => whnf
 refine ⟨gst [(1, .c (.p 0 0 5 0 0)), (3, .c (nql LA SA)), (4, .c (.int .i64 0)), (5, .c (nql LC CA)), (6, .c (.int .i64 0))] [⟨56, 5, 1, boxF [.int .i64 n, .int .i64 t, .int .i64 s, ql NA qA, ql NB qB]⟩], Weak.gen [some 0] rfl ⟨boxK rfl rfl, trivial⟩ ⟨⟨_, rfl, rfl, rfl⟩, .inl ⟨_, _, rfl, rfl, fun _ _ _ _ => rfl⟩, ⟨_, rfl, rfl⟩, .inl ⟨_, _, rfl, rfl, fun _ _ _ _ => rfl⟩, ⟨_, rfl, rfl⟩, trivial⟩, ?_⟩
 refine swp_seq E1t_ok mixed (by kernel_rfl) ?_
 conv => whnf
 refine ⟨_, g3, ?_⟩
 conv => whnf
 refine ⟨_, s1, ?_⟩
 conv => whnf
 refine ⟨gst [(1, .c (.p 0 0 5 0 0)), (3, .c (nql LA SA)), (4, .c (.int .i64 0))] [⟨56, 5, 1, boxF [.int .i64 n, .int .i64 t, .int .i64 s, ql NA qA, ql NB qB]⟩], Weak.gen [some 0] rfl ⟨boxK rfl rfl, trivial⟩ ⟨⟨_, rfl, rfl, rfl⟩, .inl ⟨_, _, rfl, rfl, fun _ _ _ _ => rfl⟩, ⟨_, rfl, rfl⟩, trivial⟩, ?_⟩
 refine swp_seq0 E1t_ok mixed (by kernel_rfl) ?_
 conv => whnf
 refine ⟨_, k1, ?_⟩
 conv => whnf
 refine swp_seq E1t_ok mixed (by kernel_rfl) ?_
 conv => whnf
 refine ⟨_, hF, ?_⟩
 conv => whnf
 refine ⟨gst [(1, .c (.p 0 0 5 0 0)), (3, .c (nql LA SA)), (4, .c (.int .i64 0)), (7, .c (.p 1 0 1 0 0))] [⟨56, 5, 1, boxF [.int .i64 n, .int .i64 t, .int .i64 s, ql NA qA, ql NB qB]⟩, ⟨34, 1, 1, boxF [nl (d + 1) P]⟩], Weak.gen [some 0, some 1] rfl ⟨boxK rfl rfl, boxU rfl rfl rfl, trivial⟩ ⟨⟨_, rfl, rfl, rfl⟩, .inl ⟨_, _, rfl, rfl, fun _ _ _ _ => rfl⟩, ⟨_, rfl, rfl⟩, ⟨_, rfl, rfl, rfl⟩, trivial⟩, ?_⟩
 refine swp_seq E1t_ok mixed (by kernel_rfl) ?_
 conv => whnf
 refine ⟨_, g4, ?_⟩
 conv => whnf
 refine ⟨gst [(1, .c (.p 0 0 5 0 0)), (3, .c (nql LA SA)), (4, .c (.int .i64 0)), (7, .c (.p 1 0 1 0 0)), (8, .c (nql LB SB)), (9, .c (.int .i64 0))] [⟨56, 5, 1, boxF [.int .i64 n, .int .i64 t, .int .i64 s, ql NA qA, ql NB qB]⟩, ⟨34, 1, 1, boxF [nl (d + 1) P]⟩], Weak.gen [some 0, some 1] rfl ⟨boxK rfl rfl, boxK rfl rfl, trivial⟩ ⟨⟨_, rfl, rfl, rfl⟩, .inl ⟨_, _, rfl, rfl, fun _ _ _ _ => rfl⟩, ⟨_, rfl, rfl⟩, ⟨_, rfl, rfl, rfl⟩, .inl ⟨_, _, rfl, rfl, fun _ _ _ _ => rfl⟩, ⟨_, rfl, rfl⟩, trivial⟩, ?_⟩
 refine swp_seq E1t_ok mixed (by kernel_rfl) ?_
 conv => whnf
 refine ⟨_, m1, ?_⟩
 conv => whnf
 refine ⟨_, g5, ?_⟩
 conv => whnf
 refine ⟨gst [(1, .c (.p 0 0 5 0 0)), (3, .c (nql LA SA)), (4, .c (.int .i64 0)), (7, .c (.p 1 0 1 0 0)), (8, .c (nql LB SB)), (9, .c (.int .i64 0)), (10, .c (nql LP SP)), (11, .c (.int .i64 0))] [⟨56, 5, 1, boxF [.int .i64 n, .int .i64 t, .int .i64 s, ql NA qA, ql NB qB]⟩, ⟨34, 1, 1, boxF [nl (d + 1) P]⟩], Weak.gen [some 0, some 1] rfl ⟨boxK rfl rfl, boxK rfl rfl, trivial⟩ ⟨⟨_, rfl, rfl, rfl⟩, .inl ⟨_, _, rfl, rfl, fun _ _ _ _ => rfl⟩, ⟨_, rfl, rfl⟩, ⟨_, rfl, rfl, rfl⟩, .inl ⟨_, _, rfl, rfl, fun _ _ _ _ => rfl⟩, ⟨_, rfl, rfl⟩, .inl ⟨_, _, rfl, rfl, fun _ _ _ _ => rfl⟩, ⟨_, rfl, rfl⟩, trivial⟩, ?_⟩
 refine swp_seq E1t_ok mixed (by kernel_rfl) ?_
 conv => whnf
 refine ⟨_, a1, ?_⟩
 conv => whnf
 refine ⟨_, g6, ?_⟩
 conv => whnf
 refine ⟨gst [(1, .c (.p 0 0 5 0 0)), (3, .c (nql LA SA)), (4, .c (.int .i64 0)), (7, .c (.p 1 0 1 0 0)), (8, .c (nql LB SB)), (9, .c (.int .i64 0)), (10, .c (nql LP SP)), (11, .c (.int .i64 0)), (12, .c (nql LS SS)), (13, .c (.int .i64 0))] [⟨56, 5, 1, boxF [.int .i64 n, .int .i64 t, .int .i64 s, ql NA qA, ql NB qB]⟩, ⟨34, 1, 1, boxF [nl (d + 1) P]⟩], Weak.gen [some 0, some 1] rfl ⟨boxK rfl rfl, boxK rfl rfl, trivial⟩ ⟨⟨_, rfl, rfl, rfl⟩, .inl ⟨_, _, rfl, rfl, fun _ _ _ _ => rfl⟩, ⟨_, rfl, rfl⟩, ⟨_, rfl, rfl, rfl⟩, .inl ⟨_, _, rfl, rfl, fun _ _ _ _ => rfl⟩, ⟨_, rfl, rfl⟩, .inl ⟨_, _, rfl, rfl, fun _ _ _ _ => rfl⟩, ⟨_, rfl, rfl⟩, .inl ⟨_, _, rfl, rfl, fun _ _ _ _ => rfl⟩, ⟨_, rfl, rfl⟩, trivial⟩, ?_⟩
 refine swp_seq E1t_ok mixed (by kernel_rfl) ?_
 conv => whnf
 refine ⟨_, g7, ?_⟩
 conv => whnf
 refine ⟨_, s2, ?_⟩
 conv => whnf
 refine ⟨_, m2, ?_⟩
 conv => whnf
 refine ⟨_, s3, ?_⟩
 conv => whnf
 refine ⟨_, a2, ?_⟩
 conv => whnf
 refine ⟨_, s4, ?_⟩
 conv => whnf
 refine ⟨gst [(1, .c (.p 0 0 5 0 0)), (3, .c (nql LA SA))] [⟨56, 5, 1, boxF [.int .i64 n, .int .i64 t, .int .i64 s, ql NA qA, ql NB qB]⟩], Weak.gen [some 0] rfl ⟨boxK rfl rfl, trivial⟩ ⟨⟨_, rfl, rfl, rfl⟩, .inl ⟨_, _, rfl, rfl, fun _ _ _ _ => rfl⟩, trivial⟩, ?_⟩
 refine swp_of E1t_ok mixed (by kernel_rfl) ?_
 conv => whnf
 refine ⟨_, k2, ?_⟩
 conv => whnf
 refine bpos (show (!decide (((g : Nat) : Int) = 1)) = true by simp; omega) ?_
 conv => whnf
 exact ⟨rfl, Sub.refl _⟩
set_option maxHeartbeats 8000000 in
theorem galois_not {n NA NB : Nat} {t s : Int} {qA qB : Nat → RawR} {LC : Nat} {CA : Nat → Rat} {g : Nat} (hw : FnOK Tryz.prog true 10 [] (.c (.bool true))) (hf : FnOK Tryz.prog true 11 [.c (.int .i64 n)] (.c (.int .i64 0))) (hs : FnOK Tryz.prog true 19 [.c (.row 1 2 (rowF 1 [ql NA qA, ql NB qB]))] (.c (.bool true))) (ht : -1073741824 ≤ t ∧ t ≤ 1073741824) (hs1 : -1073741824 ≤ s ∧ s ≤ 1073741824) (g1 : FnOK Tryz.prog true 24 [.c (.int .i64 n), .c (.int .i64 t), .c (ql NA qA)] (.t2 (.c .nil) (.c (.int .i64 9)))) (g2 : FnOK Tryz.prog true 25 [.c (.int .i64 n), .c (ql NA qA)] (.t2 (.c (nql LC CA)) (.c (.int .i64 0)))) (g3 : FnOK Tryz.prog true 26 [.c (.int .i64 n), .c (.int .i64 (-1)), .c (ql NA qA)] (.c (nql LC CA))) (s1 : FnOK Tryz.prog true 16 [.c (nql LC CA), .c (nql LC CA)] (.c (.bool true))) (k1 : FnOK Tryz.prog true 27 [.c (.int .i64 t), .c (.int .i64 n)] (.c (.int .i64 (g : Nat)))) (hg : g ≠ 1) : FnOK Tryz.prog true 5 [.g [.int .i64 n, .int .i64 t, .int .i64 s, ql NA qA, ql NB qB]] (.c (.bool true)) := by
 refine fn_okS (E := E1t) E1t_ok Tryz.func5 rfl (by kernel_rfl) ?_
 refine swp_seq0 E1t_ok mixed (by kernel_rfl) ?_
 conv => whnf
 refine swp_seq0 E1t_ok mixed (by kernel_rfl) ?_
 conv => whnf
 refine ⟨_, hw, ?_⟩
 conv => whnf
 refine swp_seq E1t_ok mixed (by kernel_rfl) ?_
 conv => whnf
 refine ⟨_, hf, ?_⟩
 conv => whnf
 refine ⟨fun i j hi hj => ?_, ?_⟩
 ·match i, j, hi, hj with
  | 0, 0, _, _ => rfl
  | 1, 0, _, _ => rfl
 conv => whnf
 refine ⟨_, hs, ?_⟩
 conv => whnf
 refine bpos (show gw false (decide ((1073741824 : Int) < t)) = true by rw [decide_eq_false (by omega)]; rfl) ?_
 conv => whnf
 refine bpos (show gw false (decide (t < (-1073741824 : Int))) = true by rw [decide_eq_false (by omega)]; rfl) ?_
 conv => whnf
 refine bpos (show gw false (decide ((1073741824 : Int) < s)) = true by rw [decide_eq_false (by omega)]; rfl) ?_
 conv => whnf
 refine bneg (show decide (s < (-1073741824 : Int)) = false from decide_eq_false (by omega)) ?_
 conv => whnf
 refine ⟨gst [(1, .c (.p 0 0 5 0 0))] [⟨56, 5, 1, boxF [.int .i64 n, .int .i64 t, .int .i64 s, ql NA qA, ql NB qB]⟩], Weak.gen [some 0] rfl ⟨boxK rfl rfl, trivial⟩ ⟨⟨_, rfl, rfl, rfl⟩, trivial⟩, ?_⟩
 refine swp_seq E1t_ok mixed (by kernel_rfl) ?_
 conv => whnf
 refine ⟨_, g1, ?_⟩
 conv => whnf
 refine ⟨gst [(1, .c (.p 0 0 5 0 0)), (3, .c .nil), (4, .c (.int .i64 9))] [⟨56, 5, 1, boxF [.int .i64 n, .int .i64 t, .int .i64 s, ql NA qA, ql NB qB]⟩], Weak.gen [some 0] rfl ⟨boxK rfl rfl, trivial⟩ ⟨⟨_, rfl, rfl, rfl⟩, ⟨rfl, rfl⟩, ⟨_, rfl, rfl⟩, trivial⟩, ?_⟩
 refine swp_seq E1t_ok mixed (by kernel_rfl) ?_
 conv => whnf
 refine ⟨_, g2, ?_⟩
 conv => whnf
 refine ⟨gst [(1, .c (.p 0 0 5 0 0)), (3, .c .nil), (4, .c (.int .i64 9)), (5, .c (nql LC CA)), (6, .c (.int .i64 0))] [⟨56, 5, 1, boxF [.int .i64 n, .int .i64 t, .int .i64 s, ql NA qA, ql NB qB]⟩], Weak.gen [some 0] rfl ⟨boxK rfl rfl, trivial⟩ ⟨⟨_, rfl, rfl, rfl⟩, ⟨rfl, rfl⟩, ⟨_, rfl, rfl⟩, .inl ⟨_, _, rfl, rfl, fun _ _ _ _ => rfl⟩, ⟨_, rfl, rfl⟩, trivial⟩, ?_⟩
 refine swp_seq E1t_ok mixed (by kernel_rfl) ?_
 conv => whnf
 refine ⟨_, g3, ?_⟩
 conv => whnf
 refine ⟨_, s1, ?_⟩
 conv => whnf
 refine ⟨gst [(1, .c (.p 0 0 5 0 0)), (3, .c .nil), (4, .c (.int .i64 9))] [⟨56, 5, 1, boxF [.int .i64 n, .int .i64 t, .int .i64 s, ql NA qA, ql NB qB]⟩], Weak.gen [some 0] rfl ⟨boxK rfl rfl, trivial⟩ ⟨⟨_, rfl, rfl, rfl⟩, ⟨rfl, rfl⟩, ⟨_, rfl, rfl⟩, trivial⟩, ?_⟩
 refine swp_of E1t_ok mixed (by kernel_rfl) ?_
 conv => whnf
 refine ⟨_, k1, ?_⟩
 conv => whnf
 refine bpos (show (!decide (((g : Nat) : Int) = 1)) = true by simp; omega) ?_
 conv => whnf
 exact ⟨rfl, Sub.refl _⟩
end Rf
end Go.Proofs.YtmbejakmeijcbaaGreat
