/- The law CyclotomicFixed: its walk over what its calls hand back. -/
import Derived.Test.YtmbejakmeijcbaaGreatZt14
namespace Go.Proofs.YtmbejakmeijcbaaGreat
open Go.RowKit
namespace Rf
set_option maxHeartbeats 8000000 in
theorem fixed_walk {n d N Lo Lw : Nat} {q : Nat → RawR} {P : Nat → Int} {own w : Nat → Rat} {X : List Cell} {tr : Rat} {is : Bool} {g Lb : Nat → Nat} {B S : Nat → Nat → Rat} {sm fx : Nat → Bool} (hn : n ≤ 42) (hX : X = nq (own 0) ∨ X = zcells)
  (hw : FnOK Tryz.prog true 10 [] (.c (.bool true))) (hf : FnOK Tryz.prog true 11 [.c (.int .i64 n)] (.c (.int .i64 0))) (hs : FnOK Tryz.prog true 19 [.c (.row 1 1 (rowF 1 [ql N q]))] (.c (.bool true)))
  (hF : FnOK Tryz.prog true 31 [.c (.int .i64 n)] (.t2 (.g [nl (d + 1) P]) (.c (.int .i64 0)))) (hR : FnOK Tryz.prog true 20 [.c (.int .i64 n), .c (ql N q)] (.t3 (.g X) (.c (.bool is)) (.c (.int .i64 0)))) (hT : FnOK Tryz.prog true 32 [.g [nl (d + 1) P], .c (ql N q)] (.t2 (.g (nq tr)) (.c (.int .i64 0)))) (hO : FnOK Tryz.prog true 37 [.g [nl (d + 1) P], .c (ql N q)] (.c (nql Lo own)))
  (hg : ∀ i, i < n → FnOK Tryz.prog true 27 [.c (.int .i64 ((i : Nat) + 1)), .c (.int .i64 n)] (.c (.int .i64 (g i : Nat))))
  (hG : ∀ i, i < n → g i = 1 → FnOK Tryz.prog true 24 [.c (.int .i64 n), .c (.int .i64 ((i : Nat) + 1)), .c (ql N q)] (.t2 (.c (nql (Lb i) (B i))) (.c (.int .i64 0))))
  (hm : ∀ i, i < n → g i = 1 → FnOK Tryz.prog true 16 [.c (nql (Lb i) (B i)), .c (nql Lo own)] (.c (.bool (sm i))))
  (ha : ∀ i, i < n → g i = 1 → FnOK Tryz.prog true 28 [.g [nl (d + 1) P], .c (nql (Q.tq (S i) d) (S i)), .c (nql (Lb i) (B i))] (.c (nql (Q.tq (S (i + 1)) d) (S (i + 1)))))
  (hS : ∀ i, i < n → g i ≠ 1 → S (i + 1) = S i) (f0 : fx 0 = true) (f1 : ∀ i, i < n → g i = 1 → fx i = true → sm i = fx (i + 1)) (f2 : ∀ i, i < n → g i = 1 → fx i = false → false = fx (i + 1)) (f3 : ∀ i, i < n → g i ≠ 1 → fx i = fx (i + 1)) (z0 : Q.tq (S 0) d = 0) (hfin : fx n = is)
  (hW : FnOK Tryz.prog true 37 [.g [nl (d + 1) P], .c (.row 4 1 (rowF 4 (nq tr)))] (.c (nql Lw w))) (hE : FnOK Tryz.prog true 16 [.c (nql (Q.tq (S n) d) (S n)), .c (nql Lw w)] (.c (.bool true))) : FnOK Tryz.prog true 9 [.c (.int .i64 n), .c (ql N q)] (.c (.bool true)) := by
 rcases hX with rfl | rfl
 all_goals
  refine fn_okS (E := E1e) E1e_ok Tryz.func9 rfl (by kernel_rfl) ?_
  refine swp_seq0 E1e_ok mixed (by kernel_rfl) ?_
  conv => whnf
  refine swp_seq0 E1e_ok mixed (by kernel_rfl) ?_
  conv => whnf
  refine ⟨_, hw, ?_⟩
  conv => whnf
  refine swp_seq0 E1e_ok mixed (by kernel_rfl) ?_
  conv => whnf
  refine ⟨_, hf, ?_⟩
  conv => whnf
  refine ⟨fun i j hi hj => ?_, ?_⟩
  ·match i, j, hi, hj with
   | 0, 0, _, _ => rfl
  conv => whnf
  refine ⟨_, hs, ?_⟩
  conv => whnf
  refine swp_seq E1e_ok mixed (by kernel_rfl) ?_
  conv => whnf
  refine ⟨_, hF, ?_⟩
  conv => whnf
  refine ⟨gst [(0, .c (.int .i64 n)), (1, .c (ql N q)), (5, .c (.p 0 0 1 0 0)), (6, .c (.int .i64 0))] [⟨34, 1, 1, boxF [nl (d + 1) P]⟩], Weak.gen [some 1] rfl ⟨boxU rfl rfl rfl, trivial⟩ ⟨⟨_, rfl, rfl⟩, .inl ⟨_, _, rfl, rfl, fun _ _ _ _ => rfl⟩, ⟨_, rfl, rfl, rfl⟩, ⟨_, rfl, rfl⟩, trivial⟩, ?_⟩
  refine swp_seq E1e_ok mixed (by kernel_rfl) ?_
  conv => whnf
  refine ⟨_, hR, ?_⟩
  conv => whnf
  refine ⟨gst [(0, .c (.int .i64 n)), (1, .c (ql N q)), (5, .c (.p 0 0 1 0 0)), (6, .c (.int .i64 0)), (8, .c (.bool is)), (9, .c (.int .i64 0))] [⟨34, 1, 1, boxF [nl (d + 1) P]⟩], Weak.gen [some 0] rfl ⟨boxK rfl rfl, trivial⟩ ⟨⟨_, rfl, rfl⟩, .inl ⟨_, _, rfl, rfl, fun _ _ _ _ => rfl⟩, ⟨_, rfl, rfl, rfl⟩, ⟨_, rfl, rfl⟩, ⟨_, rfl, rfl⟩, ⟨_, rfl, rfl⟩, trivial⟩, ?_⟩
  refine swp_seq E1e_ok mixed (by kernel_rfl) ?_
  conv => whnf
  refine ⟨_, hT, ?_⟩
  conv => whnf
  refine ⟨gst [(0, .c (.int .i64 n)), (1, .c (ql N q)), (5, .c (.p 0 0 1 0 0)), (6, .c (.int .i64 0)), (8, .c (.bool is)), (9, .c (.int .i64 0)), (10, .c (.p 1 0 4 0 0)), (11, .c (.int .i64 0))] [⟨34, 1, 1, boxF [nl (d + 1) P]⟩, ⟨46, 4, 1, boxF (nq tr)⟩], Weak.gen [some 0, some 1] rfl ⟨boxK rfl rfl, boxU rfl rfl rfl, trivial⟩ ⟨⟨_, rfl, rfl⟩, .inl ⟨_, _, rfl, rfl, fun _ _ _ _ => rfl⟩, ⟨_, rfl, rfl, rfl⟩, ⟨_, rfl, rfl⟩, ⟨_, rfl, rfl⟩, ⟨_, rfl, rfl⟩, ⟨_, rfl, rfl, rfl⟩, ⟨_, rfl, rfl⟩, trivial⟩, ?_⟩
  refine swp_seq0 E1e_ok mixed (by kernel_rfl) ?_
  conv => whnf
  refine swp_seq0 E1e_ok mixed (by kernel_rfl) ?_
  conv => whnf
  refine swp_seq0 E1e_ok mixed (by kernel_rfl) ?_
  conv => whnf
  refine ⟨_, hO, ?_⟩
  conv => whnf
  refine swp_seq0 E1e_ok mixed (by kernel_rfl) ?_
  conv => whnf
  refine swp_of E1e_ok mixed (by kernel_rfl) ?_
  conv => whnf
  refine loop_ints (fun i : Nat => gst [(0, .c (.int .i64 n)), (1, .c (ql N q)), (5, .c (.p 0 0 1 0 0)), (8, .c (.bool is)), (10, .c (.p 1 0 4 0 0)), (12, .c (.bool (fx i))), (13, .c (nql Lo own)), (14, .c (nql (Q.tq (S i) d) (S i))), (15, .c (.int .i64 ((i : Int) + 1)))] [⟨34, 1, 1, boxF [nl (d + 1) P]⟩, ⟨46, 4, 1, boxF (nq tr)⟩]) (fun i => n - i) (fun i => i ≤ n) 0 rfl (Weak.gen [some 0, some 1] rfl ⟨boxK rfl rfl, boxK rfl rfl, trivial⟩ ⟨⟨_, rfl, rfl⟩, .inl ⟨_, _, rfl, rfl, fun _ _ _ _ => rfl⟩, ⟨_, rfl, rfl, rfl⟩, ⟨_, rfl, rfl⟩, ⟨_, rfl, rfl, rfl⟩, ⟨_, rfl, f0.symm⟩, .inl ⟨_, _, rfl, rfl, fun _ _ _ _ => rfl⟩, .inr (.inl ⟨z0, rfl⟩), ⟨_, rfl, rfl⟩, trivial⟩) (Nat.zero_le _) fun i hi => ?_
  have hg := hg i
  have hG := hG i
  have hm := hm i
  have ha := ha i
  have hS := hS i
  have f1 := f1 i
  have f2 := f2 i
  have f3 := f3 i
  conv => whnf
  refine bcase (fun (h : decide ((i : Int) + 1 ≤ n) = true) => ?_) fun (h : decide ((i : Int) + 1 ≤ n) = false) => ?_
  ·have h : i < n := by have := of_decide_eq_true h; omega
   have hg := hg h
   have hG := hG h
   have hm := hm h
   have ha := ha h
   have hS := hS h
   have f1 := f1 h
   have f2 := f2 h
   have f3 := f3 h
   conv => whnf
   refine ⟨_, hg, ?_⟩
   conv => whnf
   refine bcase (fun (h1 : (!decide (((g i : Nat) : Int) = 1)) = true) => ?_) fun (h1 : (!decide (((g i : Nat) : Int) = 1)) = false) => ?_
   ·have h1 : g i ≠ 1 := by intro e; rw [e] at h1; simp at h1
    have hS := hS h1
    have f3 := f3 h1
    conv => whnf
    refine ⟨i64 (by omega) (by omega), ?_⟩
    conv => whnf
    exact ⟨i + 1, by omega, Weak.gen [some 0, some 1] rfl ⟨boxK rfl rfl, boxK rfl rfl, trivial⟩ ⟨⟨_, rfl, rfl⟩, .inl ⟨_, _, rfl, rfl, fun _ _ _ _ => rfl⟩, ⟨_, rfl, rfl, rfl⟩, ⟨_, rfl, rfl⟩, ⟨_, rfl, rfl, rfl⟩, ⟨_, rfl, f3⟩, .inl ⟨_, _, rfl, rfl, fun _ _ _ _ => rfl⟩, .inl ⟨_, _, rfl, by rw [hS], fun _ _ _ _ => by rw [hS]⟩, ⟨_, rfl, by omega⟩, trivial⟩, by omega⟩
   ·have h1 : g i = 1 := by
     have : ((g i : Nat) : Int) = 1 := by simpa using h1
     omega
    have hG := hG h1
    have hm := hm h1
    have ha := ha h1
    have f1 := f1 h1
    have f2 := f2 h1
    conv => whnf
    refine ⟨_, hG, ?_⟩
    conv => whnf
    refine bcase (fun (h2 : gw true (fx i) = true) => ?_) fun (h2 : gw true (fx i) = false) => ?_
    ·have f1 := f1 (gw_true.1 h2)
     conv => whnf
     refine ⟨_, hm, ?_⟩
     conv => whnf
     refine ⟨_, ha, ?_⟩
     conv => whnf
     refine ⟨i64 (by omega) (by omega), ?_⟩
     conv => whnf
     exact ⟨i + 1, by omega, Weak.gen [some 0, some 1] rfl ⟨boxK rfl rfl, boxK rfl rfl, trivial⟩ ⟨⟨_, rfl, rfl⟩, .inl ⟨_, _, rfl, rfl, fun _ _ _ _ => rfl⟩, ⟨_, rfl, rfl, rfl⟩, ⟨_, rfl, rfl⟩, ⟨_, rfl, rfl, rfl⟩, ⟨_, rfl, f1⟩, .inl ⟨_, _, rfl, rfl, fun _ _ _ _ => rfl⟩, .inl ⟨_, _, rfl, rfl, fun _ _ _ _ => rfl⟩, ⟨_, rfl, by omega⟩, trivial⟩, by omega⟩
    ·have f2 := f2 (gw_false.1 h2)
     conv => whnf
     refine ⟨_, ha, ?_⟩
     conv => whnf
     refine ⟨i64 (by omega) (by omega), ?_⟩
     conv => whnf
     exact ⟨i + 1, by omega, Weak.gen [some 0, some 1] rfl ⟨boxK rfl rfl, boxK rfl rfl, trivial⟩ ⟨⟨_, rfl, rfl⟩, .inl ⟨_, _, rfl, rfl, fun _ _ _ _ => rfl⟩, ⟨_, rfl, rfl, rfl⟩, ⟨_, rfl, rfl⟩, ⟨_, rfl, rfl, rfl⟩, ⟨_, rfl, f2⟩, .inl ⟨_, _, rfl, rfl, fun _ _ _ _ => rfl⟩, .inl ⟨_, _, rfl, rfl, fun _ _ _ _ => rfl⟩, ⟨_, rfl, by omega⟩, trivial⟩, by omega⟩
  ·have h : i = n := by have := of_decide_eq_false h; omega
   have hE : FnOK Tryz.prog true 16 [.c (nql (Q.tq (S i) d) (S i)), .c (nql Lw w)] (.c (.bool true)) := by rw [h]; exact hE
   have hfin : fx i = is := by rw [h]; exact hfin
   conv => whnf
   refine bpos (show gw true (fx i == is) = true by rw [hfin]; cases is <;> rfl) ?_
   conv => whnf
   refine ⟨fun i j hi hj => ?_, ?_⟩
   ·match i, j, hi, hj with
    | 0, 0, _, _ => rfl
    | 0, 1, _, _ => rfl
    | 0, 2, _, _ => rfl
    | 0, 3, _, _ => rfl
   conv => whnf
   refine ⟨_, hW, ?_⟩
   conv => whnf
   refine ⟨_, hE, ?_⟩
   conv => whnf
   exact ⟨rfl, Sub.refl _⟩
end Rf
end Go.Proofs.YtmbejakmeijcbaaGreat
