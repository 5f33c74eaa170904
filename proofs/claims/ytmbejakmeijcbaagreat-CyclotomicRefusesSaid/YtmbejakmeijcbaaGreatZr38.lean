/- The law CyclotomicRefuses over contracts of its calls. -/
import Derived.Test.YtmbejakmeijcbaaGreatZr37
namespace Go.Proofs.YtmbejakmeijcbaaGreat
open Go.RowKit
namespace Rf
set_option maxHeartbeats 8000000 in
theorem refuses_long {n m : Int} {N : Nat} {q : Nat → RawR} (hw : FnOK Tryz.prog true 10 [] (.c (.bool true))) (hs : FnOK Tryz.prog true 19 [.c (.row 1 1 (rowF 1 [ql N q]))] (.c (.bool false))) : FnOK Tryz.prog true 8 [.c (.int .i64 n), .c (.int .i64 m), .c (ql N q)] (.c (.bool true)) := by
 refine fn_ok (E := E1e) E1e_ok Tryz.func8 rfl mixed (by kernel_rfl) (by kernel_rfl) ?_
 conv => whnf
 refine ⟨_, hw, ?_⟩
 conv => whnf
 refine ⟨fun i j hi hj => ?_, ?_⟩
 ·match i, j, hi, hj with
  | 0, 0, _, _ => rfl
 conv => whnf
 refine ⟨_, hs, ?_⟩
 conv => whnf
 exact ⟨rfl, Sub.refl _⟩
structure RefE (n m e : Int) (N : Nat) (q : Nat → RawR) : Prop where
 fld : FnOK Tryz.prog true 31 [.c (.int .i64 n)] (.t2 (.g [.nil]) (.c (.int .i64 e)))
 zeta : FnOK Tryz.prog true 12 [.c (.int .i64 n), .c (.int .i64 1)] (.t2 (.c .nil) (.c (.int .i64 e)))
 gal : FnOK Tryz.prog true 24 [.c (.int .i64 n), .c (.int .i64 0), .c (ql N q)] (.t2 (.c .nil) (.c (.int .i64 e)))
 con : FnOK Tryz.prog true 25 [.c (.int .i64 n), .c (ql N q)] (.t2 (.c .nil) (.c (.int .i64 e)))
 lft : FnOK Tryz.prog true 29 [.c (.int .i64 n), .c (.int .i64 m), .c (ql N q)] (.t2 (.c .nil) (.c (.int .i64 e)))
 rat : FnOK Tryz.prog true 20 [.c (.int .i64 n), .c (ql N q)] (.t3 (.g zcells) (.c (.bool false)) (.c (.int .i64 e)))
 root : FnOK Tryz.prog true 13 [.c (.int .i64 n), .c (ql N q)] (.t3 (.c (.int .i64 0)) (.c (.bool false)) (.c (.int .i64 e)))
 fails : FnOK Tryz.prog true 11 [.c (.int .i64 n)] (.c (.int .i64 e))
set_option maxHeartbeats 8000000 in
theorem refuses_out {n m : Int} {N : Nat} {q : Nat → RawR} (hn : n < 1 ∨ 512 < n) (hw : FnOK Tryz.prog true 10 [] (.c (.bool true))) (hs : FnOK Tryz.prog true 19 [.c (.row 1 1 (rowF 1 [ql N q]))] (.c (.bool true))) (hp : FnOK Tryz.prog true 35 [.c (.int .i64 n)] (.t2 (.c .nil) (.c (.int .i64 2)))) (h : RefE n m 2 N q) : FnOK Tryz.prog true 8 [.c (.int .i64 n), .c (.int .i64 m), .c (ql N q)] (.c (.bool true)) := by
 have h1 := h.fld
 have h2 := h.zeta
 have h3 := h.gal
 have h4 := h.con
 have h5 := h.lft
 have h6 := h.rat
 have h7 := h.root
 have h8 := h.fails
 clear h
 refine fn_okS (E := E1e) E1e_ok Tryz.func8 rfl (by kernel_rfl) ?_
 refine swp_seq0 E1e_ok mixed (by kernel_rfl) ?_
 conv => whnf
 refine swp_seq0 E1e_ok mixed (by kernel_rfl) ?_
 conv => whnf
 refine ⟨_, hw, ?_⟩
 conv => whnf
 refine swp_seq0 E1e_ok mixed (by kernel_rfl) ?_
 conv => whnf
 refine ⟨fun i j hi hj => ?_, ?_⟩
 ·match i, j, hi, hj with
  | 0, 0, _, _ => rfl
 conv => whnf
 refine ⟨_, hs, ?_⟩
 conv => whnf
 refine swp_seq0 E1e_ok mixed (by kernel_rfl) ?_
 conv => whnf
 refine ⟨_, hp, ?_⟩
 conv => whnf
 refine swp_seq0 E1e_ok mixed (by kernel_rfl) ?_
 conv => whnf
 refine bcase (fun (h0 : gw false (decide (n < 1)) = true) => ?_) fun (h0 : gw false (decide (n < 1)) = false) => ?_
 ·have h0 := of_decide_eq_false (gwf h0)
  conv => whnf
  refine bpos (show decide ((512 : Int) < n) = true from decide_eq_true (by omega)) ?_
  conv => whnf
  refine swp_seq0 E1e_ok mixed (by kernel_rfl) ?_
  conv => whnf
  refine ⟨_, h1, ?_⟩
  conv => whnf
  refine swp_seq0 E1e_ok mixed (by kernel_rfl) ?_
  conv => whnf
  refine ⟨_, h2, ?_⟩
  conv => whnf
  refine swp_seq0 E1e_ok mixed (by kernel_rfl) ?_
  conv => whnf
  refine ⟨_, h3, ?_⟩
  conv => whnf
  refine swp_seq0 E1e_ok mixed (by kernel_rfl) ?_
  conv => whnf
  refine ⟨_, h4, ?_⟩
  conv => whnf
  refine swp_seq0 E1e_ok mixed (by kernel_rfl) ?_
  conv => whnf
  refine ⟨_, h5, ?_⟩
  conv => whnf
  refine swp_seq0 E1e_ok mixed (by kernel_rfl) ?_
  conv => whnf
  refine ⟨_, h6, ?_⟩
  conv => whnf
  refine swp_seq0 E1e_ok mixed (by kernel_rfl) ?_
  conv => whnf
  refine ⟨_, h7, ?_⟩
  conv => whnf
  refine swp_seq0 E1e_ok mixed (by kernel_rfl) ?_
  conv => whnf
  refine ⟨_, h8, ?_⟩
  conv => whnf
  refine swp_seq0 E1e_ok mixed (by kernel_rfl) ?_
  conv => whnf
  refine swp_seq0 E1e_ok mixed (by kernel_rfl) ?_
  conv => whnf
  refine swp_of E1e_ok mixed (by kernel_rfl) ?_
  conv => whnf
  refine ⟨i64 (by decide) (by decide), ?_⟩
  conv => whnf
  refine ⟨i64 (by decide) (by decide), ?_⟩
  conv => whnf
  refine ⟨i64 (by decide) (by decide), ?_⟩
  conv => whnf
  refine ⟨i64 (by decide) (by decide), ?_⟩
  conv => whnf
  refine ⟨i64 (by decide) (by decide), ?_⟩
  conv => whnf
  refine ⟨i64 (by decide) (by decide), ?_⟩
  conv => whnf
  exact ⟨rfl, Sub.refl _⟩
 ·conv => whnf
  refine swp_seq0 E1e_ok mixed (by kernel_rfl) ?_
  conv => whnf
  refine ⟨_, h1, ?_⟩
  conv => whnf
  refine swp_seq0 E1e_ok mixed (by kernel_rfl) ?_
  conv => whnf
  refine ⟨_, h2, ?_⟩
  conv => whnf
  refine swp_seq0 E1e_ok mixed (by kernel_rfl) ?_
  conv => whnf
  refine ⟨_, h3, ?_⟩
  conv => whnf
  refine swp_seq0 E1e_ok mixed (by kernel_rfl) ?_
  conv => whnf
  refine ⟨_, h4, ?_⟩
  conv => whnf
  refine swp_seq0 E1e_ok mixed (by kernel_rfl) ?_
  conv => whnf
  refine ⟨_, h5, ?_⟩
  conv => whnf
  refine swp_seq0 E1e_ok mixed (by kernel_rfl) ?_
  conv => whnf
  refine ⟨_, h6, ?_⟩
  conv => whnf
  refine swp_seq0 E1e_ok mixed (by kernel_rfl) ?_
  conv => whnf
  refine ⟨_, h7, ?_⟩
  conv => whnf
  refine swp_seq0 E1e_ok mixed (by kernel_rfl) ?_
  conv => whnf
  refine ⟨_, h8, ?_⟩
  conv => whnf
  refine swp_seq0 E1e_ok mixed (by kernel_rfl) ?_
  conv => whnf
  refine swp_seq0 E1e_ok mixed (by kernel_rfl) ?_
  conv => whnf
  refine swp_of E1e_ok mixed (by kernel_rfl) ?_
  conv => whnf
  refine ⟨i64 (by decide) (by decide), ?_⟩
  conv => whnf
  refine ⟨i64 (by decide) (by decide), ?_⟩
  conv => whnf
  refine ⟨i64 (by decide) (by decide), ?_⟩
  conv => whnf
  refine ⟨i64 (by decide) (by decide), ?_⟩
  conv => whnf
  refine ⟨i64 (by decide) (by decide), ?_⟩
  conv => whnf
  refine ⟨i64 (by decide) (by decide), ?_⟩
  conv => whnf
  exact ⟨rfl, Sub.refl _⟩
set_option maxHeartbeats 8000000 in
theorem refuses_big {n p : Nat} {m : Int} {N : Nat} {q : Nat → RawR} {g : Nat → Int} (n1 : 1 ≤ n) (n2 : n ≤ 512) (p1 : p ≤ 1000) (hw : FnOK Tryz.prog true 10 [] (.c (.bool true))) (hs : FnOK Tryz.prog true 19 [.c (.row 1 1 (rowF 1 [ql N q]))] (.c (.bool true))) (hp : FnOK Tryz.prog true 35 [.c (.int .i64 n)] (.t2 (.c (nl (p + 1) g)) (.c (.int .i64 0)))) (hf : FnOK Tryz.prog true 36 [.c (.int .i64 n)] (.c (.int .i64 p))) (h : RefE n m 7 N q) : FnOK Tryz.prog true 8 [.c (.int .i64 n), .c (.int .i64 m), .c (ql N q)] (.c (.bool true)) := by
 have h1 := h.fld
 have h2 := h.zeta
 have h3 := h.gal
 have h4 := h.con
 have h5 := h.lft
 have h6 := h.rat
 have h7 := h.root
 have h8 := h.fails
 clear h
 refine fn_okS (E := E1e) E1e_ok Tryz.func8 rfl (by kernel_rfl) ?_
 refine swp_seq0 E1e_ok mixed (by kernel_rfl) ?_
 conv => whnf
 refine swp_seq0 E1e_ok mixed (by kernel_rfl) ?_
 conv => whnf
 refine ⟨_, hw, ?_⟩
 conv => whnf
 refine swp_seq0 E1e_ok mixed (by kernel_rfl) ?_
 conv => whnf
 refine ⟨fun i j hi hj => ?_, ?_⟩
 ·match i, j, hi, hj with
  | 0, 0, _, _ => rfl
 conv => whnf
 refine ⟨_, hs, ?_⟩
 conv => whnf
 refine swp_seq0 E1e_ok mixed (by kernel_rfl) ?_
 conv => whnf
 refine ⟨_, hp, ?_⟩
 conv => whnf
 refine swp_seq0 E1e_ok mixed (by kernel_rfl) ?_
 conv => whnf
 refine bpos (show gw false (decide ((n : Int) < 1)) = true by rw [decide_eq_false (by omega)]; rfl) ?_
 conv => whnf
 refine bneg (show decide ((512 : Int) < n) = false from decide_eq_false (by omega)) ?_
 conv => whnf
 refine ⟨_, hf, ?_⟩
 conv => whnf
 refine ⟨i64 (by omega) (by omega), ?_⟩
 conv => whnf
 refine bneg (show (!decide (((p + 1 : Nat) : Int) = (p : Int) + 1)) = false by rw [decide_eq_true (by omega)]; rfl) ?_
 conv => whnf
 refine swp_seq0 E1e_ok mixed (by kernel_rfl) ?_
 conv => whnf
 refine ⟨_, h1, ?_⟩
 conv => whnf
 refine swp_seq0 E1e_ok mixed (by kernel_rfl) ?_
 conv => whnf
 refine ⟨_, h2, ?_⟩
 conv => whnf
 refine swp_seq0 E1e_ok mixed (by kernel_rfl) ?_
 conv => whnf
 refine ⟨_, h3, ?_⟩
 conv => whnf
 refine swp_seq0 E1e_ok mixed (by kernel_rfl) ?_
 conv => whnf
 refine ⟨_, h4, ?_⟩
 conv => whnf
 refine swp_seq0 E1e_ok mixed (by kernel_rfl) ?_
 conv => whnf
 refine ⟨_, h5, ?_⟩
 conv => whnf
 refine swp_seq0 E1e_ok mixed (by kernel_rfl) ?_
 conv => whnf
 refine ⟨_, h6, ?_⟩
 conv => whnf
 refine swp_seq0 E1e_ok mixed (by kernel_rfl) ?_
 conv => whnf
 refine ⟨_, h7, ?_⟩
 conv => whnf
 refine swp_seq0 E1e_ok mixed (by kernel_rfl) ?_
 conv => whnf
 refine ⟨_, h8, ?_⟩
 conv => whnf
 refine swp_seq0 E1e_ok mixed (by kernel_rfl) ?_
 conv => whnf
 refine swp_seq0 E1e_ok mixed (by kernel_rfl) ?_
 conv => whnf
 refine swp_of E1e_ok mixed (by kernel_rfl) ?_
 conv => whnf
 refine ⟨i64 (by decide) (by decide), ?_⟩
 conv => whnf
 refine ⟨i64 (by decide) (by decide), ?_⟩
 conv => whnf
 refine ⟨i64 (by decide) (by decide), ?_⟩
 conv => whnf
 refine ⟨i64 (by decide) (by decide), ?_⟩
 conv => whnf
 refine ⟨i64 (by decide) (by decide), ?_⟩
 conv => whnf
 refine ⟨i64 (by decide) (by decide), ?_⟩
 conv => whnf
 exact ⟨rfl, Sub.refl _⟩
set_option maxRecDepth 100000 in
set_option maxHeartbeats 8000000 in
theorem refuses_1bz {n p K LZ LC : Nat} {m b k : Int} {N : Nat} {q : Nat → RawR} {g P : Nat → Int} {Z C : Nat → Rat} {i j : Bool}  {LG : Nat} {G : Nat → Rat}  (_ : 1 ≤ n) (_ : n ≤ 512) (hn : n = 1) (hb : b ≠ 0) (p1 : p ≤ 1000) (hw : FnOK Tryz.prog true 10 [] (.c (.bool true))) (hs : FnOK Tryz.prog true 19 [.c (.row 1 1 (rowF 1 [ql N q]))] (.c (.bool true))) (hp : FnOK Tryz.prog true 35 [.c (.int .i64 n)] (.t2 (.c (nl (p + 1) g)) (.c (.int .i64 0)))) (hf : FnOK Tryz.prog true 36 [.c (.int .i64 n)] (.c (.int .i64 p))) (h1 : FnOK Tryz.prog true 31 [.c (.int .i64 n)] (.t2 (.g [nl K P]) (.c (.int .i64 0)))) (h2 : FnOK Tryz.prog true 12 [.c (.int .i64 n), .c (.int .i64 1)] (.t2 (.c (nql LZ Z)) (.c (.int .i64 0)))) (h3 : FnOK Tryz.prog true 24 [.c (.int .i64 n), .c (.int .i64 0), .c (ql N q)] (.t2 (.c (nql LG G)) (.c (.int .i64 0)))) (h4 : FnOK Tryz.prog true 25 [.c (.int .i64 n), .c (ql N q)] (.t2 (.c (nql LC C)) (.c (.int .i64 0)))) (h5 : FnOK Tryz.prog true 29 [.c (.int .i64 n), .c (.int .i64 m), .c (ql N q)] (.t2 (.c .nil) (.c (.int .i64 b)))) (h6 : FnOK Tryz.prog true 20 [.c (.int .i64 n), .c (ql N q)] (.t3 (.g zcells) (.c (.bool i)) (.c (.int .i64 0)))) (h7 : FnOK Tryz.prog true 13 [.c (.int .i64 n), .c (ql N q)] (.t3 (.c (.int .i64 k)) (.c (.bool j)) (.c (.int .i64 0)))) (h8 : FnOK Tryz.prog true 11 [.c (.int .i64 n)] (.c (.int .i64 0))) (h9 : FnOK Tryz.prog true 11 [.c (.int .i64 m)] (.c (.int .i64 b))) : FnOK Tryz.prog true 8 [.c (.int .i64 n), .c (.int .i64 m), .c (ql N q)] (.c (.bool true)) := by
 refine fn_okS (E := E1e) E1e_ok Tryz.func8 rfl (by kernel_rfl) ?_
 refine swp_seq0 E1e_ok mixed (by kernel_rfl) ?_
 conv => whnf
 refine swp_seq0 E1e_ok mixed (by kernel_rfl) ?_
 conv => whnf
 refine ⟨_, hw, ?_⟩
 conv => whnf
 refine swp_seq0 E1e_ok mixed (by kernel_rfl) ?_
 conv => whnf
 refine ⟨fun i j hi hj => ?_, ?_⟩
 ·match i, j, hi, hj with
  | 0, 0, _, _ => rfl
 conv => whnf
 refine ⟨_, hs, ?_⟩
 conv => whnf
 refine swp_seq0 E1e_ok mixed (by kernel_rfl) ?_
 conv => whnf
 refine ⟨_, hp, ?_⟩
 conv => whnf
 refine swp_seq0 E1e_ok mixed (by kernel_rfl) ?_
 conv => whnf
 refine bpos (show gw false (decide ((n : Int) < 1)) = true by rw [decide_eq_false (by omega)]; rfl) ?_
 conv => whnf
 refine bneg (show decide ((512 : Int) < n) = false from decide_eq_false (by omega)) ?_
 conv => whnf
 refine ⟨_, hf, ?_⟩
 conv => whnf
 refine ⟨i64 (by omega) (by omega), ?_⟩
 conv => whnf
 refine bneg (show (!decide (((p + 1 : Nat) : Int) = (p : Int) + 1)) = false by rw [decide_eq_true (by omega)]; rfl) ?_
 conv => whnf
 refine swp_seq0 E1e_ok mixed (by kernel_rfl) ?_
 conv => whnf
 refine ⟨_, h1, ?_⟩
 conv => whnf
 refine swp_seq0 E1e_ok mixed (by kernel_rfl) ?_
 conv => whnf
 refine ⟨_, h2, ?_⟩
 conv => whnf
 refine swp_seq0 E1e_ok mixed (by kernel_rfl) ?_
 conv => whnf
 refine ⟨_, h3, ?_⟩
 conv => whnf
 refine swp_seq0 E1e_ok mixed (by kernel_rfl) ?_
 conv => whnf
 refine ⟨_, h4, ?_⟩
 conv => whnf
 refine swp_seq0 E1e_ok mixed (by kernel_rfl) ?_
 conv => whnf
 refine ⟨_, h5, ?_⟩
 conv => whnf
 refine swp_seq0 E1e_ok mixed (by kernel_rfl) ?_
 conv => whnf
 refine ⟨_, h6, ?_⟩
 conv => whnf
 refine swp_seq0 E1e_ok mixed (by kernel_rfl) ?_
 conv => whnf
 refine ⟨_, h7, ?_⟩
 conv => whnf
 refine swp_seq0 E1e_ok mixed (by kernel_rfl) ?_
 conv => whnf
 refine ⟨_, h8, ?_⟩
 conv => whnf
 refine swp_seq0 E1e_ok mixed (by kernel_rfl) ?_
 conv => whnf
 refine ⟨_, h9, ?_⟩
 conv => whnf
 refine bneg (show gw true (decide (b = 0)) = false by rw [decide_eq_false hb]; rfl) ?_
 conv => whnf
 refine bpos (show decide (b = b) = true from decide_eq_true rfl) ?_
 conv => whnf
 refine bpos (show gw false (decide (b = 0)) = true by rw [decide_eq_false hb]; rfl) ?_
 conv => whnf
 refine bpos (show gw true (decide ((0 : Int) = 0) == decide ((n : Int) = 1)) = true by rw [show decide ((n : Int) = 1) = true from decide_eq_true (by omega)]; rfl) ?_
 conv => whnf
 refine bneg (show gw false (decide ((n : Int) = 1)) = false by rw [show decide ((n : Int) = 1) = true from decide_eq_true (by omega)]; rfl) ?_
 conv => whnf
 exact ⟨rfl, Sub.refl _⟩
set_option maxRecDepth 100000 in
set_option maxHeartbeats 8000000 in
theorem refuses_1bq {n p K LZ LC : Nat} {m b k : Int} {N : Nat} {q : Nat → RawR} {g P : Nat → Int} {Z C : Nat → Rat} {i j : Bool} {x : Rat} {LG : Nat} {G : Nat → Rat}  (_ : 1 ≤ n) (_ : n ≤ 512) (hn : n = 1) (hb : b ≠ 0) (p1 : p ≤ 1000) (hw : FnOK Tryz.prog true 10 [] (.c (.bool true))) (hs : FnOK Tryz.prog true 19 [.c (.row 1 1 (rowF 1 [ql N q]))] (.c (.bool true))) (hp : FnOK Tryz.prog true 35 [.c (.int .i64 n)] (.t2 (.c (nl (p + 1) g)) (.c (.int .i64 0)))) (hf : FnOK Tryz.prog true 36 [.c (.int .i64 n)] (.c (.int .i64 p))) (h1 : FnOK Tryz.prog true 31 [.c (.int .i64 n)] (.t2 (.g [nl K P]) (.c (.int .i64 0)))) (h2 : FnOK Tryz.prog true 12 [.c (.int .i64 n), .c (.int .i64 1)] (.t2 (.c (nql LZ Z)) (.c (.int .i64 0)))) (h3 : FnOK Tryz.prog true 24 [.c (.int .i64 n), .c (.int .i64 0), .c (ql N q)] (.t2 (.c (nql LG G)) (.c (.int .i64 0)))) (h4 : FnOK Tryz.prog true 25 [.c (.int .i64 n), .c (ql N q)] (.t2 (.c (nql LC C)) (.c (.int .i64 0)))) (h5 : FnOK Tryz.prog true 29 [.c (.int .i64 n), .c (.int .i64 m), .c (ql N q)] (.t2 (.c .nil) (.c (.int .i64 b)))) (h6 : FnOK Tryz.prog true 20 [.c (.int .i64 n), .c (ql N q)] (.t3 (.g (nq x)) (.c (.bool i)) (.c (.int .i64 0)))) (h7 : FnOK Tryz.prog true 13 [.c (.int .i64 n), .c (ql N q)] (.t3 (.c (.int .i64 k)) (.c (.bool j)) (.c (.int .i64 0)))) (h8 : FnOK Tryz.prog true 11 [.c (.int .i64 n)] (.c (.int .i64 0))) (h9 : FnOK Tryz.prog true 11 [.c (.int .i64 m)] (.c (.int .i64 b))) : FnOK Tryz.prog true 8 [.c (.int .i64 n), .c (.int .i64 m), .c (ql N q)] (.c (.bool true)) := by
 refine fn_okS (E := E1e) E1e_ok Tryz.func8 rfl (by kernel_rfl) ?_
 refine swp_seq0 E1e_ok mixed (by kernel_rfl) ?_
 conv => whnf
 refine swp_seq0 E1e_ok mixed (by kernel_rfl) ?_
 conv => whnf
 refine ⟨_, hw, ?_⟩
 conv => whnf
 refine swp_seq0 E1e_ok mixed (by kernel_rfl) ?_
 conv => whnf
 refine ⟨fun i j hi hj => ?_, ?_⟩
 ·match i, j, hi, hj with
  | 0, 0, _, _ => rfl
 conv => whnf
 refine ⟨_, hs, ?_⟩
 conv => whnf
 refine swp_seq0 E1e_ok mixed (by kernel_rfl) ?_
 conv => whnf
 refine ⟨_, hp, ?_⟩
 conv => whnf
 refine swp_seq0 E1e_ok mixed (by kernel_rfl) ?_
 conv => whnf
 refine bpos (show gw false (decide ((n : Int) < 1)) = true by rw [decide_eq_false (by omega)]; rfl) ?_
 conv => whnf
 refine bneg (show decide ((512 : Int) < n) = false from decide_eq_false (by omega)) ?_
 conv => whnf
 refine ⟨_, hf, ?_⟩
 conv => whnf
 refine ⟨i64 (by omega) (by omega), ?_⟩
 conv => whnf
 refine bneg (show (!decide (((p + 1 : Nat) : Int) = (p : Int) + 1)) = false by rw [decide_eq_true (by omega)]; rfl) ?_
 conv => whnf
 refine swp_seq0 E1e_ok mixed (by kernel_rfl) ?_
 conv => whnf
 refine ⟨_, h1, ?_⟩
 conv => whnf
 refine swp_seq0 E1e_ok mixed (by kernel_rfl) ?_
 conv => whnf
 refine ⟨_, h2, ?_⟩
 conv => whnf
 refine swp_seq0 E1e_ok mixed (by kernel_rfl) ?_
 conv => whnf
 refine ⟨_, h3, ?_⟩
 conv => whnf
 refine swp_seq0 E1e_ok mixed (by kernel_rfl) ?_
 conv => whnf
 refine ⟨_, h4, ?_⟩
 conv => whnf
 refine swp_seq0 E1e_ok mixed (by kernel_rfl) ?_
 conv => whnf
 refine ⟨_, h5, ?_⟩
 conv => whnf
 refine swp_seq0 E1e_ok mixed (by kernel_rfl) ?_
 conv => whnf
 refine ⟨_, h6, ?_⟩
 conv => whnf
 refine swp_seq0 E1e_ok mixed (by kernel_rfl) ?_
 conv => whnf
 refine ⟨_, h7, ?_⟩
 conv => whnf
 refine swp_seq0 E1e_ok mixed (by kernel_rfl) ?_
 conv => whnf
 refine ⟨_, h8, ?_⟩
 conv => whnf
 refine swp_seq0 E1e_ok mixed (by kernel_rfl) ?_
 conv => whnf
 refine ⟨_, h9, ?_⟩
 conv => whnf
 refine bneg (show gw true (decide (b = 0)) = false by rw [decide_eq_false hb]; rfl) ?_
 conv => whnf
 refine bpos (show decide (b = b) = true from decide_eq_true rfl) ?_
 conv => whnf
 refine bpos (show gw false (decide (b = 0)) = true by rw [decide_eq_false hb]; rfl) ?_
 conv => whnf
 refine bpos (show gw true (decide ((0 : Int) = 0) == decide ((n : Int) = 1)) = true by rw [show decide ((n : Int) = 1) = true from decide_eq_true (by omega)]; rfl) ?_
 conv => whnf
 refine bneg (show gw false (decide ((n : Int) = 1)) = false by rw [show decide ((n : Int) = 1) = true from decide_eq_true (by omega)]; rfl) ?_
 conv => whnf
 exact ⟨rfl, Sub.refl _⟩
set_option maxRecDepth 100000 in
set_option maxHeartbeats 8000000 in
theorem refuses_1yz {n p K LZ LC : Nat} {m k : Int} {N : Nat} {q : Nat → RawR} {g P : Nat → Int} {Z C : Nat → Rat} {i j : Bool}  {LG : Nat} {G : Nat → Rat} {LL : Nat} {L : Nat → Rat} (_ : 1 ≤ n) (_ : n ≤ 512) (hn : n = 1) (ht : Int.tmod m n = 0) (p1 : p ≤ 1000) (hw : FnOK Tryz.prog true 10 [] (.c (.bool true))) (hs : FnOK Tryz.prog true 19 [.c (.row 1 1 (rowF 1 [ql N q]))] (.c (.bool true))) (hp : FnOK Tryz.prog true 35 [.c (.int .i64 n)] (.t2 (.c (nl (p + 1) g)) (.c (.int .i64 0)))) (hf : FnOK Tryz.prog true 36 [.c (.int .i64 n)] (.c (.int .i64 p))) (h1 : FnOK Tryz.prog true 31 [.c (.int .i64 n)] (.t2 (.g [nl K P]) (.c (.int .i64 0)))) (h2 : FnOK Tryz.prog true 12 [.c (.int .i64 n), .c (.int .i64 1)] (.t2 (.c (nql LZ Z)) (.c (.int .i64 0)))) (h3 : FnOK Tryz.prog true 24 [.c (.int .i64 n), .c (.int .i64 0), .c (ql N q)] (.t2 (.c (nql LG G)) (.c (.int .i64 0)))) (h4 : FnOK Tryz.prog true 25 [.c (.int .i64 n), .c (ql N q)] (.t2 (.c (nql LC C)) (.c (.int .i64 0)))) (h5 : FnOK Tryz.prog true 29 [.c (.int .i64 n), .c (.int .i64 m), .c (ql N q)] (.t2 (.c (nql LL L)) (.c (.int .i64 0)))) (h6 : FnOK Tryz.prog true 20 [.c (.int .i64 n), .c (ql N q)] (.t3 (.g zcells) (.c (.bool i)) (.c (.int .i64 0)))) (h7 : FnOK Tryz.prog true 13 [.c (.int .i64 n), .c (ql N q)] (.t3 (.c (.int .i64 k)) (.c (.bool j)) (.c (.int .i64 0)))) (h8 : FnOK Tryz.prog true 11 [.c (.int .i64 n)] (.c (.int .i64 0))) (h9 : FnOK Tryz.prog true 11 [.c (.int .i64 m)] (.c (.int .i64 0))) : FnOK Tryz.prog true 8 [.c (.int .i64 n), .c (.int .i64 m), .c (ql N q)] (.c (.bool true)) := by
 refine fn_okS (E := E1e) E1e_ok Tryz.func8 rfl (by kernel_rfl) ?_
 refine swp_seq0 E1e_ok mixed (by kernel_rfl) ?_
 conv => whnf
 refine swp_seq0 E1e_ok mixed (by kernel_rfl) ?_
 conv => whnf
 refine ⟨_, hw, ?_⟩
 conv => whnf
 refine swp_seq0 E1e_ok mixed (by kernel_rfl) ?_
 conv => whnf
 refine ⟨fun i j hi hj => ?_, ?_⟩
 ·match i, j, hi, hj with
  | 0, 0, _, _ => rfl
 conv => whnf
 refine ⟨_, hs, ?_⟩
 conv => whnf
 refine swp_seq0 E1e_ok mixed (by kernel_rfl) ?_
 conv => whnf
 refine ⟨_, hp, ?_⟩
 conv => whnf
 refine swp_seq0 E1e_ok mixed (by kernel_rfl) ?_
 conv => whnf
 refine bpos (show gw false (decide ((n : Int) < 1)) = true by rw [decide_eq_false (by omega)]; rfl) ?_
 conv => whnf
 refine bneg (show decide ((512 : Int) < n) = false from decide_eq_false (by omega)) ?_
 conv => whnf
 refine ⟨_, hf, ?_⟩
 conv => whnf
 refine ⟨i64 (by omega) (by omega), ?_⟩
 conv => whnf
 refine bneg (show (!decide (((p + 1 : Nat) : Int) = (p : Int) + 1)) = false by rw [decide_eq_true (by omega)]; rfl) ?_
 conv => whnf
 refine swp_seq0 E1e_ok mixed (by kernel_rfl) ?_
 conv => whnf
 refine ⟨_, h1, ?_⟩
 conv => whnf
 refine swp_seq0 E1e_ok mixed (by kernel_rfl) ?_
 conv => whnf
 refine ⟨_, h2, ?_⟩
 conv => whnf
 refine swp_seq0 E1e_ok mixed (by kernel_rfl) ?_
 conv => whnf
 refine ⟨_, h3, ?_⟩
 conv => whnf
 refine swp_seq0 E1e_ok mixed (by kernel_rfl) ?_
 conv => whnf
 refine ⟨_, h4, ?_⟩
 conv => whnf
 refine swp_seq0 E1e_ok mixed (by kernel_rfl) ?_
 conv => whnf
 refine ⟨_, h5, ?_⟩
 conv => whnf
 refine swp_seq0 E1e_ok mixed (by kernel_rfl) ?_
 conv => whnf
 refine ⟨_, h6, ?_⟩
 conv => whnf
 refine swp_seq0 E1e_ok mixed (by kernel_rfl) ?_
 conv => whnf
 refine ⟨_, h7, ?_⟩
 conv => whnf
 refine swp_seq0 E1e_ok mixed (by kernel_rfl) ?_
 conv => whnf
 refine ⟨_, h8, ?_⟩
 conv => whnf
 refine swp_seq0 E1e_ok mixed (by kernel_rfl) ?_
 conv => whnf
 refine ⟨_, h9, ?_⟩
 conv => whnf
 refine ⟨by omega, ?_⟩
 conv => whnf
 refine bneg (show (!decide (Int.tmod m n = 0)) = false by rw [decide_eq_true ht]; rfl) ?_
 conv => whnf
 refine bpos (show gw true (decide ((0 : Int) = 0) == decide ((n : Int) = 1)) = true by rw [show decide ((n : Int) = 1) = true from decide_eq_true (by omega)]; rfl) ?_
 conv => whnf
 refine bneg (show gw false (decide ((n : Int) = 1)) = false by rw [show decide ((n : Int) = 1) = true from decide_eq_true (by omega)]; rfl) ?_
 conv => whnf
 exact ⟨rfl, Sub.refl _⟩
set_option maxRecDepth 100000 in
set_option maxHeartbeats 8000000 in
theorem refuses_1yq {n p K LZ LC : Nat} {m k : Int} {N : Nat} {q : Nat → RawR} {g P : Nat → Int} {Z C : Nat → Rat} {i j : Bool} {x : Rat} {LG : Nat} {G : Nat → Rat} {LL : Nat} {L : Nat → Rat} (_ : 1 ≤ n) (_ : n ≤ 512) (hn : n = 1) (ht : Int.tmod m n = 0) (p1 : p ≤ 1000) (hw : FnOK Tryz.prog true 10 [] (.c (.bool true))) (hs : FnOK Tryz.prog true 19 [.c (.row 1 1 (rowF 1 [ql N q]))] (.c (.bool true))) (hp : FnOK Tryz.prog true 35 [.c (.int .i64 n)] (.t2 (.c (nl (p + 1) g)) (.c (.int .i64 0)))) (hf : FnOK Tryz.prog true 36 [.c (.int .i64 n)] (.c (.int .i64 p))) (h1 : FnOK Tryz.prog true 31 [.c (.int .i64 n)] (.t2 (.g [nl K P]) (.c (.int .i64 0)))) (h2 : FnOK Tryz.prog true 12 [.c (.int .i64 n), .c (.int .i64 1)] (.t2 (.c (nql LZ Z)) (.c (.int .i64 0)))) (h3 : FnOK Tryz.prog true 24 [.c (.int .i64 n), .c (.int .i64 0), .c (ql N q)] (.t2 (.c (nql LG G)) (.c (.int .i64 0)))) (h4 : FnOK Tryz.prog true 25 [.c (.int .i64 n), .c (ql N q)] (.t2 (.c (nql LC C)) (.c (.int .i64 0)))) (h5 : FnOK Tryz.prog true 29 [.c (.int .i64 n), .c (.int .i64 m), .c (ql N q)] (.t2 (.c (nql LL L)) (.c (.int .i64 0)))) (h6 : FnOK Tryz.prog true 20 [.c (.int .i64 n), .c (ql N q)] (.t3 (.g (nq x)) (.c (.bool i)) (.c (.int .i64 0)))) (h7 : FnOK Tryz.prog true 13 [.c (.int .i64 n), .c (ql N q)] (.t3 (.c (.int .i64 k)) (.c (.bool j)) (.c (.int .i64 0)))) (h8 : FnOK Tryz.prog true 11 [.c (.int .i64 n)] (.c (.int .i64 0))) (h9 : FnOK Tryz.prog true 11 [.c (.int .i64 m)] (.c (.int .i64 0))) : FnOK Tryz.prog true 8 [.c (.int .i64 n), .c (.int .i64 m), .c (ql N q)] (.c (.bool true)) := by
 refine fn_okS (E := E1e) E1e_ok Tryz.func8 rfl (by kernel_rfl) ?_
 refine swp_seq0 E1e_ok mixed (by kernel_rfl) ?_
 conv => whnf
 refine swp_seq0 E1e_ok mixed (by kernel_rfl) ?_
 conv => whnf
 refine ⟨_, hw, ?_⟩
 conv => whnf
 refine swp_seq0 E1e_ok mixed (by kernel_rfl) ?_
 conv => whnf
 refine ⟨fun i j hi hj => ?_, ?_⟩
 ·match i, j, hi, hj with
  | 0, 0, _, _ => rfl
 conv => whnf
 refine ⟨_, hs, ?_⟩
 conv => whnf
 refine swp_seq0 E1e_ok mixed (by kernel_rfl) ?_
 conv => whnf
 refine ⟨_, hp, ?_⟩
 conv => whnf
 refine swp_seq0 E1e_ok mixed (by kernel_rfl) ?_
 conv => whnf
 refine bpos (show gw false (decide ((n : Int) < 1)) = true by rw [decide_eq_false (by omega)]; rfl) ?_
 conv => whnf
 refine bneg (show decide ((512 : Int) < n) = false from decide_eq_false (by omega)) ?_
 conv => whnf
 refine ⟨_, hf, ?_⟩
 conv => whnf
 refine ⟨i64 (by omega) (by omega), ?_⟩
 conv => whnf
 refine bneg (show (!decide (((p + 1 : Nat) : Int) = (p : Int) + 1)) = false by rw [decide_eq_true (by omega)]; rfl) ?_
 conv => whnf
 refine swp_seq0 E1e_ok mixed (by kernel_rfl) ?_
 conv => whnf
 refine ⟨_, h1, ?_⟩
 conv => whnf
 refine swp_seq0 E1e_ok mixed (by kernel_rfl) ?_
 conv => whnf
 refine ⟨_, h2, ?_⟩
 conv => whnf
 refine swp_seq0 E1e_ok mixed (by kernel_rfl) ?_
 conv => whnf
 refine ⟨_, h3, ?_⟩
 conv => whnf
 refine swp_seq0 E1e_ok mixed (by kernel_rfl) ?_
 conv => whnf
 refine ⟨_, h4, ?_⟩
 conv => whnf
 refine swp_seq0 E1e_ok mixed (by kernel_rfl) ?_
 conv => whnf
 refine ⟨_, h5, ?_⟩
 conv => whnf
 refine swp_seq0 E1e_ok mixed (by kernel_rfl) ?_
 conv => whnf
 refine ⟨_, h6, ?_⟩
 conv => whnf
 refine swp_seq0 E1e_ok mixed (by kernel_rfl) ?_
 conv => whnf
 refine ⟨_, h7, ?_⟩
 conv => whnf
 refine swp_seq0 E1e_ok mixed (by kernel_rfl) ?_
 conv => whnf
 refine ⟨_, h8, ?_⟩
 conv => whnf
 refine swp_seq0 E1e_ok mixed (by kernel_rfl) ?_
 conv => whnf
 refine ⟨_, h9, ?_⟩
 conv => whnf
 refine ⟨by omega, ?_⟩
 conv => whnf
 refine bneg (show (!decide (Int.tmod m n = 0)) = false by rw [decide_eq_true ht]; rfl) ?_
 conv => whnf
 refine bpos (show gw true (decide ((0 : Int) = 0) == decide ((n : Int) = 1)) = true by rw [show decide ((n : Int) = 1) = true from decide_eq_true (by omega)]; rfl) ?_
 conv => whnf
 refine bneg (show gw false (decide ((n : Int) = 1)) = false by rw [show decide ((n : Int) = 1) = true from decide_eq_true (by omega)]; rfl) ?_
 conv => whnf
 exact ⟨rfl, Sub.refl _⟩
set_option maxRecDepth 100000 in
set_option maxHeartbeats 8000000 in
theorem refuses_0bz {n p K LZ LC : Nat} {m b k : Int} {N : Nat} {q : Nat → RawR} {g P : Nat → Int} {Z C : Nat → Rat} {i j : Bool}    (n1 : 1 ≤ n) (n2 : n ≤ 512) (hn : n ≠ 1) (hb : b ≠ 0) (p1 : p ≤ 1000) (hw : FnOK Tryz.prog true 10 [] (.c (.bool true))) (hs : FnOK Tryz.prog true 19 [.c (.row 1 1 (rowF 1 [ql N q]))] (.c (.bool true))) (hp : FnOK Tryz.prog true 35 [.c (.int .i64 n)] (.t2 (.c (nl (p + 1) g)) (.c (.int .i64 0)))) (hf : FnOK Tryz.prog true 36 [.c (.int .i64 n)] (.c (.int .i64 p))) (h1 : FnOK Tryz.prog true 31 [.c (.int .i64 n)] (.t2 (.g [nl K P]) (.c (.int .i64 0)))) (h2 : FnOK Tryz.prog true 12 [.c (.int .i64 n), .c (.int .i64 1)] (.t2 (.c (nql LZ Z)) (.c (.int .i64 0)))) (h3 : FnOK Tryz.prog true 24 [.c (.int .i64 n), .c (.int .i64 0), .c (ql N q)] (.t2 (.c .nil) (.c (.int .i64 9)))) (h4 : FnOK Tryz.prog true 25 [.c (.int .i64 n), .c (ql N q)] (.t2 (.c (nql LC C)) (.c (.int .i64 0)))) (h5 : FnOK Tryz.prog true 29 [.c (.int .i64 n), .c (.int .i64 m), .c (ql N q)] (.t2 (.c .nil) (.c (.int .i64 b)))) (h6 : FnOK Tryz.prog true 20 [.c (.int .i64 n), .c (ql N q)] (.t3 (.g zcells) (.c (.bool i)) (.c (.int .i64 0)))) (h7 : FnOK Tryz.prog true 13 [.c (.int .i64 n), .c (ql N q)] (.t3 (.c (.int .i64 k)) (.c (.bool j)) (.c (.int .i64 0)))) (h8 : FnOK Tryz.prog true 11 [.c (.int .i64 n)] (.c (.int .i64 0))) (h9 : FnOK Tryz.prog true 11 [.c (.int .i64 m)] (.c (.int .i64 b))) : FnOK Tryz.prog true 8 [.c (.int .i64 n), .c (.int .i64 m), .c (ql N q)] (.c (.bool true)) := by
 refine fn_okS (E := E1e) E1e_ok Tryz.func8 rfl (by kernel_rfl) ?_
 refine swp_seq0 E1e_ok mixed (by kernel_rfl) ?_
 conv => whnf
 refine swp_seq0 E1e_ok mixed (by kernel_rfl) ?_
 conv => whnf
 refine ⟨_, hw, ?_⟩
 conv => whnf
 refine swp_seq0 E1e_ok mixed (by kernel_rfl) ?_
 conv => whnf
 refine ⟨fun i j hi hj => ?_, ?_⟩
 ·match i, j, hi, hj with
  | 0, 0, _, _ => rfl
 conv => whnf
 refine ⟨_, hs, ?_⟩
 conv => whnf
 refine swp_seq0 E1e_ok mixed (by kernel_rfl) ?_
 conv => whnf
 refine ⟨_, hp, ?_⟩
 conv => whnf
 refine swp_seq0 E1e_ok mixed (by kernel_rfl) ?_
 conv => whnf
 refine bpos (show gw false (decide ((n : Int) < 1)) = true by rw [decide_eq_false (by omega)]; rfl) ?_
 conv => whnf
 refine bneg (show decide ((512 : Int) < n) = false from decide_eq_false (by omega)) ?_
 conv => whnf
 refine ⟨_, hf, ?_⟩
 conv => whnf
 refine ⟨i64 (by omega) (by omega), ?_⟩
 conv => whnf
 refine bneg (show (!decide (((p + 1 : Nat) : Int) = (p : Int) + 1)) = false by rw [decide_eq_true (by omega)]; rfl) ?_
 conv => whnf
 refine swp_seq0 E1e_ok mixed (by kernel_rfl) ?_
 conv => whnf
 refine ⟨_, h1, ?_⟩
 conv => whnf
 refine swp_seq0 E1e_ok mixed (by kernel_rfl) ?_
 conv => whnf
 refine ⟨_, h2, ?_⟩
 conv => whnf
 refine swp_seq0 E1e_ok mixed (by kernel_rfl) ?_
 conv => whnf
 refine ⟨_, h3, ?_⟩
 conv => whnf
 refine swp_seq0 E1e_ok mixed (by kernel_rfl) ?_
 conv => whnf
 refine ⟨_, h4, ?_⟩
 conv => whnf
 refine swp_seq0 E1e_ok mixed (by kernel_rfl) ?_
 conv => whnf
 refine ⟨_, h5, ?_⟩
 conv => whnf
 refine swp_seq0 E1e_ok mixed (by kernel_rfl) ?_
 conv => whnf
 refine ⟨_, h6, ?_⟩
 conv => whnf
 refine swp_seq0 E1e_ok mixed (by kernel_rfl) ?_
 conv => whnf
 refine ⟨_, h7, ?_⟩
 conv => whnf
 refine swp_seq0 E1e_ok mixed (by kernel_rfl) ?_
 conv => whnf
 refine ⟨_, h8, ?_⟩
 conv => whnf
 refine swp_seq0 E1e_ok mixed (by kernel_rfl) ?_
 conv => whnf
 refine ⟨_, h9, ?_⟩
 conv => whnf
 refine bneg (show gw true (decide (b = 0)) = false by rw [decide_eq_false hb]; rfl) ?_
 conv => whnf
 refine bpos (show decide (b = b) = true from decide_eq_true rfl) ?_
 conv => whnf
 refine bpos (show gw false (decide (b = 0)) = true by rw [decide_eq_false hb]; rfl) ?_
 conv => whnf
 refine bpos (show gw true (decide ((9 : Int) = 0) == decide ((n : Int) = 1)) = true by rw [show decide ((n : Int) = 1) = false from decide_eq_false (by omega)]; rfl) ?_
 conv => whnf
 refine bpos (show gw false (decide ((n : Int) = 1)) = true by rw [show decide ((n : Int) = 1) = false from decide_eq_false (by omega)]; rfl) ?_
 conv => whnf
 exact ⟨rfl, Sub.refl _⟩
set_option maxRecDepth 100000 in
set_option maxHeartbeats 8000000 in
theorem refuses_0bq {n p K LZ LC : Nat} {m b k : Int} {N : Nat} {q : Nat → RawR} {g P : Nat → Int} {Z C : Nat → Rat} {i j : Bool} {x : Rat}   (n1 : 1 ≤ n) (n2 : n ≤ 512) (hn : n ≠ 1) (hb : b ≠ 0) (p1 : p ≤ 1000) (hw : FnOK Tryz.prog true 10 [] (.c (.bool true))) (hs : FnOK Tryz.prog true 19 [.c (.row 1 1 (rowF 1 [ql N q]))] (.c (.bool true))) (hp : FnOK Tryz.prog true 35 [.c (.int .i64 n)] (.t2 (.c (nl (p + 1) g)) (.c (.int .i64 0)))) (hf : FnOK Tryz.prog true 36 [.c (.int .i64 n)] (.c (.int .i64 p))) (h1 : FnOK Tryz.prog true 31 [.c (.int .i64 n)] (.t2 (.g [nl K P]) (.c (.int .i64 0)))) (h2 : FnOK Tryz.prog true 12 [.c (.int .i64 n), .c (.int .i64 1)] (.t2 (.c (nql LZ Z)) (.c (.int .i64 0)))) (h3 : FnOK Tryz.prog true 24 [.c (.int .i64 n), .c (.int .i64 0), .c (ql N q)] (.t2 (.c .nil) (.c (.int .i64 9)))) (h4 : FnOK Tryz.prog true 25 [.c (.int .i64 n), .c (ql N q)] (.t2 (.c (nql LC C)) (.c (.int .i64 0)))) (h5 : FnOK Tryz.prog true 29 [.c (.int .i64 n), .c (.int .i64 m), .c (ql N q)] (.t2 (.c .nil) (.c (.int .i64 b)))) (h6 : FnOK Tryz.prog true 20 [.c (.int .i64 n), .c (ql N q)] (.t3 (.g (nq x)) (.c (.bool i)) (.c (.int .i64 0)))) (h7 : FnOK Tryz.prog true 13 [.c (.int .i64 n), .c (ql N q)] (.t3 (.c (.int .i64 k)) (.c (.bool j)) (.c (.int .i64 0)))) (h8 : FnOK Tryz.prog true 11 [.c (.int .i64 n)] (.c (.int .i64 0))) (h9 : FnOK Tryz.prog true 11 [.c (.int .i64 m)] (.c (.int .i64 b))) : FnOK Tryz.prog true 8 [.c (.int .i64 n), .c (.int .i64 m), .c (ql N q)] (.c (.bool true)) := by
 refine fn_okS (E := E1e) E1e_ok Tryz.func8 rfl (by kernel_rfl) ?_
 refine swp_seq0 E1e_ok mixed (by kernel_rfl) ?_
 conv => whnf
 refine swp_seq0 E1e_ok mixed (by kernel_rfl) ?_
 conv => whnf
 refine ⟨_, hw, ?_⟩
 conv => whnf
 refine swp_seq0 E1e_ok mixed (by kernel_rfl) ?_
 conv => whnf
 refine ⟨fun i j hi hj => ?_, ?_⟩
 ·match i, j, hi, hj with
  | 0, 0, _, _ => rfl
 conv => whnf
 refine ⟨_, hs, ?_⟩
 conv => whnf
 refine swp_seq0 E1e_ok mixed (by kernel_rfl) ?_
 conv => whnf
 refine ⟨_, hp, ?_⟩
 conv => whnf
 refine swp_seq0 E1e_ok mixed (by kernel_rfl) ?_
 conv => whnf
 refine bpos (show gw false (decide ((n : Int) < 1)) = true by rw [decide_eq_false (by omega)]; rfl) ?_
 conv => whnf
 refine bneg (show decide ((512 : Int) < n) = false from decide_eq_false (by omega)) ?_
 conv => whnf
 refine ⟨_, hf, ?_⟩
 conv => whnf
 refine ⟨i64 (by omega) (by omega), ?_⟩
 conv => whnf
 refine bneg (show (!decide (((p + 1 : Nat) : Int) = (p : Int) + 1)) = false by rw [decide_eq_true (by omega)]; rfl) ?_
 conv => whnf
 refine swp_seq0 E1e_ok mixed (by kernel_rfl) ?_
 conv => whnf
 refine ⟨_, h1, ?_⟩
 conv => whnf
 refine swp_seq0 E1e_ok mixed (by kernel_rfl) ?_
 conv => whnf
 refine ⟨_, h2, ?_⟩
 conv => whnf
 refine swp_seq0 E1e_ok mixed (by kernel_rfl) ?_
 conv => whnf
 refine ⟨_, h3, ?_⟩
 conv => whnf
 refine swp_seq0 E1e_ok mixed (by kernel_rfl) ?_
 conv => whnf
 refine ⟨_, h4, ?_⟩
 conv => whnf
 refine swp_seq0 E1e_ok mixed (by kernel_rfl) ?_
 conv => whnf
 refine ⟨_, h5, ?_⟩
 conv => whnf
 refine swp_seq0 E1e_ok mixed (by kernel_rfl) ?_
 conv => whnf
 refine ⟨_, h6, ?_⟩
 conv => whnf
 refine swp_seq0 E1e_ok mixed (by kernel_rfl) ?_
 conv => whnf
 refine ⟨_, h7, ?_⟩
 conv => whnf
 refine swp_seq0 E1e_ok mixed (by kernel_rfl) ?_
 conv => whnf
 refine ⟨_, h8, ?_⟩
 conv => whnf
 refine swp_seq0 E1e_ok mixed (by kernel_rfl) ?_
 conv => whnf
 refine ⟨_, h9, ?_⟩
 conv => whnf
 refine bneg (show gw true (decide (b = 0)) = false by rw [decide_eq_false hb]; rfl) ?_
 conv => whnf
 refine bpos (show decide (b = b) = true from decide_eq_true rfl) ?_
 conv => whnf
 refine bpos (show gw false (decide (b = 0)) = true by rw [decide_eq_false hb]; rfl) ?_
 conv => whnf
 refine bpos (show gw true (decide ((9 : Int) = 0) == decide ((n : Int) = 1)) = true by rw [show decide ((n : Int) = 1) = false from decide_eq_false (by omega)]; rfl) ?_
 conv => whnf
 refine bpos (show gw false (decide ((n : Int) = 1)) = true by rw [show decide ((n : Int) = 1) = false from decide_eq_false (by omega)]; rfl) ?_
 conv => whnf
 exact ⟨rfl, Sub.refl _⟩
set_option maxRecDepth 100000 in
set_option maxHeartbeats 8000000 in
theorem refuses_0tz {n p K LZ LC : Nat} {m k : Int} {N : Nat} {q : Nat → RawR} {g P : Nat → Int} {Z C : Nat → Rat} {i j : Bool}    (n1 : 1 ≤ n) (n2 : n ≤ 512) (hn : n ≠ 1) (ht : Int.tmod m n ≠ 0) (p1 : p ≤ 1000) (hw : FnOK Tryz.prog true 10 [] (.c (.bool true))) (hs : FnOK Tryz.prog true 19 [.c (.row 1 1 (rowF 1 [ql N q]))] (.c (.bool true))) (hp : FnOK Tryz.prog true 35 [.c (.int .i64 n)] (.t2 (.c (nl (p + 1) g)) (.c (.int .i64 0)))) (hf : FnOK Tryz.prog true 36 [.c (.int .i64 n)] (.c (.int .i64 p))) (h1 : FnOK Tryz.prog true 31 [.c (.int .i64 n)] (.t2 (.g [nl K P]) (.c (.int .i64 0)))) (h2 : FnOK Tryz.prog true 12 [.c (.int .i64 n), .c (.int .i64 1)] (.t2 (.c (nql LZ Z)) (.c (.int .i64 0)))) (h3 : FnOK Tryz.prog true 24 [.c (.int .i64 n), .c (.int .i64 0), .c (ql N q)] (.t2 (.c .nil) (.c (.int .i64 9)))) (h4 : FnOK Tryz.prog true 25 [.c (.int .i64 n), .c (ql N q)] (.t2 (.c (nql LC C)) (.c (.int .i64 0)))) (h5 : FnOK Tryz.prog true 29 [.c (.int .i64 n), .c (.int .i64 m), .c (ql N q)] (.t2 (.c .nil) (.c (.int .i64 12)))) (h6 : FnOK Tryz.prog true 20 [.c (.int .i64 n), .c (ql N q)] (.t3 (.g zcells) (.c (.bool i)) (.c (.int .i64 0)))) (h7 : FnOK Tryz.prog true 13 [.c (.int .i64 n), .c (ql N q)] (.t3 (.c (.int .i64 k)) (.c (.bool j)) (.c (.int .i64 0)))) (h8 : FnOK Tryz.prog true 11 [.c (.int .i64 n)] (.c (.int .i64 0))) (h9 : FnOK Tryz.prog true 11 [.c (.int .i64 m)] (.c (.int .i64 0))) : FnOK Tryz.prog true 8 [.c (.int .i64 n), .c (.int .i64 m), .c (ql N q)] (.c (.bool true)) := by
 refine fn_okS (E := E1e) E1e_ok Tryz.func8 rfl (by kernel_rfl) ?_
 refine swp_seq0 E1e_ok mixed (by kernel_rfl) ?_
 conv => whnf
 refine swp_seq0 E1e_ok mixed (by kernel_rfl) ?_
 conv => whnf
 refine ⟨_, hw, ?_⟩
 conv => whnf
 refine swp_seq0 E1e_ok mixed (by kernel_rfl) ?_
 conv => whnf
 refine ⟨fun i j hi hj => ?_, ?_⟩
 ·match i, j, hi, hj with
  | 0, 0, _, _ => rfl
 conv => whnf
 refine ⟨_, hs, ?_⟩
 conv => whnf
 refine swp_seq0 E1e_ok mixed (by kernel_rfl) ?_
 conv => whnf
 refine ⟨_, hp, ?_⟩
 conv => whnf
 refine swp_seq0 E1e_ok mixed (by kernel_rfl) ?_
 conv => whnf
 refine bpos (show gw false (decide ((n : Int) < 1)) = true by rw [decide_eq_false (by omega)]; rfl) ?_
 conv => whnf
 refine bneg (show decide ((512 : Int) < n) = false from decide_eq_false (by omega)) ?_
 conv => whnf
 refine ⟨_, hf, ?_⟩
 conv => whnf
 refine ⟨i64 (by omega) (by omega), ?_⟩
 conv => whnf
 refine bneg (show (!decide (((p + 1 : Nat) : Int) = (p : Int) + 1)) = false by rw [decide_eq_true (by omega)]; rfl) ?_
 conv => whnf
 refine swp_seq0 E1e_ok mixed (by kernel_rfl) ?_
 conv => whnf
 refine ⟨_, h1, ?_⟩
 conv => whnf
 refine swp_seq0 E1e_ok mixed (by kernel_rfl) ?_
 conv => whnf
 refine ⟨_, h2, ?_⟩
 conv => whnf
 refine swp_seq0 E1e_ok mixed (by kernel_rfl) ?_
 conv => whnf
 refine ⟨_, h3, ?_⟩
 conv => whnf
 refine swp_seq0 E1e_ok mixed (by kernel_rfl) ?_
 conv => whnf
 refine ⟨_, h4, ?_⟩
 conv => whnf
 refine swp_seq0 E1e_ok mixed (by kernel_rfl) ?_
 conv => whnf
 refine ⟨_, h5, ?_⟩
 conv => whnf
 refine swp_seq0 E1e_ok mixed (by kernel_rfl) ?_
 conv => whnf
 refine ⟨_, h6, ?_⟩
 conv => whnf
 refine swp_seq0 E1e_ok mixed (by kernel_rfl) ?_
 conv => whnf
 refine ⟨_, h7, ?_⟩
 conv => whnf
 refine swp_seq0 E1e_ok mixed (by kernel_rfl) ?_
 conv => whnf
 refine ⟨_, h8, ?_⟩
 conv => whnf
 refine swp_seq0 E1e_ok mixed (by kernel_rfl) ?_
 conv => whnf
 refine ⟨_, h9, ?_⟩
 conv => whnf
 refine ⟨by omega, ?_⟩
 conv => whnf
 refine bpos (show (!decide (Int.tmod m n = 0)) = true by rw [decide_eq_false ht]; rfl) ?_
 conv => whnf
 refine bpos (show gw true (decide ((9 : Int) = 0) == decide ((n : Int) = 1)) = true by rw [show decide ((n : Int) = 1) = false from decide_eq_false (by omega)]; rfl) ?_
 conv => whnf
 refine bpos (show gw false (decide ((n : Int) = 1)) = true by rw [show decide ((n : Int) = 1) = false from decide_eq_false (by omega)]; rfl) ?_
 conv => whnf
 exact ⟨rfl, Sub.refl _⟩
set_option maxRecDepth 100000 in
set_option maxHeartbeats 8000000 in
theorem refuses_0tq {n p K LZ LC : Nat} {m k : Int} {N : Nat} {q : Nat → RawR} {g P : Nat → Int} {Z C : Nat → Rat} {i j : Bool} {x : Rat}   (n1 : 1 ≤ n) (n2 : n ≤ 512) (hn : n ≠ 1) (ht : Int.tmod m n ≠ 0) (p1 : p ≤ 1000) (hw : FnOK Tryz.prog true 10 [] (.c (.bool true))) (hs : FnOK Tryz.prog true 19 [.c (.row 1 1 (rowF 1 [ql N q]))] (.c (.bool true))) (hp : FnOK Tryz.prog true 35 [.c (.int .i64 n)] (.t2 (.c (nl (p + 1) g)) (.c (.int .i64 0)))) (hf : FnOK Tryz.prog true 36 [.c (.int .i64 n)] (.c (.int .i64 p))) (h1 : FnOK Tryz.prog true 31 [.c (.int .i64 n)] (.t2 (.g [nl K P]) (.c (.int .i64 0)))) (h2 : FnOK Tryz.prog true 12 [.c (.int .i64 n), .c (.int .i64 1)] (.t2 (.c (nql LZ Z)) (.c (.int .i64 0)))) (h3 : FnOK Tryz.prog true 24 [.c (.int .i64 n), .c (.int .i64 0), .c (ql N q)] (.t2 (.c .nil) (.c (.int .i64 9)))) (h4 : FnOK Tryz.prog true 25 [.c (.int .i64 n), .c (ql N q)] (.t2 (.c (nql LC C)) (.c (.int .i64 0)))) (h5 : FnOK Tryz.prog true 29 [.c (.int .i64 n), .c (.int .i64 m), .c (ql N q)] (.t2 (.c .nil) (.c (.int .i64 12)))) (h6 : FnOK Tryz.prog true 20 [.c (.int .i64 n), .c (ql N q)] (.t3 (.g (nq x)) (.c (.bool i)) (.c (.int .i64 0)))) (h7 : FnOK Tryz.prog true 13 [.c (.int .i64 n), .c (ql N q)] (.t3 (.c (.int .i64 k)) (.c (.bool j)) (.c (.int .i64 0)))) (h8 : FnOK Tryz.prog true 11 [.c (.int .i64 n)] (.c (.int .i64 0))) (h9 : FnOK Tryz.prog true 11 [.c (.int .i64 m)] (.c (.int .i64 0))) : FnOK Tryz.prog true 8 [.c (.int .i64 n), .c (.int .i64 m), .c (ql N q)] (.c (.bool true)) := by
 refine fn_okS (E := E1e) E1e_ok Tryz.func8 rfl (by kernel_rfl) ?_
 refine swp_seq0 E1e_ok mixed (by kernel_rfl) ?_
 conv => whnf
 refine swp_seq0 E1e_ok mixed (by kernel_rfl) ?_
 conv => whnf
 refine ⟨_, hw, ?_⟩
 conv => whnf
 refine swp_seq0 E1e_ok mixed (by kernel_rfl) ?_
 conv => whnf
 refine ⟨fun i j hi hj => ?_, ?_⟩
 ·match i, j, hi, hj with
  | 0, 0, _, _ => rfl
 conv => whnf
 refine ⟨_, hs, ?_⟩
 conv => whnf
 refine swp_seq0 E1e_ok mixed (by kernel_rfl) ?_
 conv => whnf
 refine ⟨_, hp, ?_⟩
 conv => whnf
 refine swp_seq0 E1e_ok mixed (by kernel_rfl) ?_
 conv => whnf
 refine bpos (show gw false (decide ((n : Int) < 1)) = true by rw [decide_eq_false (by omega)]; rfl) ?_
 conv => whnf
 refine bneg (show decide ((512 : Int) < n) = false from decide_eq_false (by omega)) ?_
 conv => whnf
 refine ⟨_, hf, ?_⟩
 conv => whnf
 refine ⟨i64 (by omega) (by omega), ?_⟩
 conv => whnf
 refine bneg (show (!decide (((p + 1 : Nat) : Int) = (p : Int) + 1)) = false by rw [decide_eq_true (by omega)]; rfl) ?_
 conv => whnf
 refine swp_seq0 E1e_ok mixed (by kernel_rfl) ?_
 conv => whnf
 refine ⟨_, h1, ?_⟩
 conv => whnf
 refine swp_seq0 E1e_ok mixed (by kernel_rfl) ?_
 conv => whnf
 refine ⟨_, h2, ?_⟩
 conv => whnf
 refine swp_seq0 E1e_ok mixed (by kernel_rfl) ?_
 conv => whnf
 refine ⟨_, h3, ?_⟩
 conv => whnf
 refine swp_seq0 E1e_ok mixed (by kernel_rfl) ?_
 conv => whnf
 refine ⟨_, h4, ?_⟩
 conv => whnf
 refine swp_seq0 E1e_ok mixed (by kernel_rfl) ?_
 conv => whnf
 refine ⟨_, h5, ?_⟩
 conv => whnf
 refine swp_seq0 E1e_ok mixed (by kernel_rfl) ?_
 conv => whnf
 refine ⟨_, h6, ?_⟩
 conv => whnf
 refine swp_seq0 E1e_ok mixed (by kernel_rfl) ?_
 conv => whnf
 refine ⟨_, h7, ?_⟩
 conv => whnf
 refine swp_seq0 E1e_ok mixed (by kernel_rfl) ?_
 conv => whnf
 refine ⟨_, h8, ?_⟩
 conv => whnf
 refine swp_seq0 E1e_ok mixed (by kernel_rfl) ?_
 conv => whnf
 refine ⟨_, h9, ?_⟩
 conv => whnf
 refine ⟨by omega, ?_⟩
 conv => whnf
 refine bpos (show (!decide (Int.tmod m n = 0)) = true by rw [decide_eq_false ht]; rfl) ?_
 conv => whnf
 refine bpos (show gw true (decide ((9 : Int) = 0) == decide ((n : Int) = 1)) = true by rw [show decide ((n : Int) = 1) = false from decide_eq_false (by omega)]; rfl) ?_
 conv => whnf
 refine bpos (show gw false (decide ((n : Int) = 1)) = true by rw [show decide ((n : Int) = 1) = false from decide_eq_false (by omega)]; rfl) ?_
 conv => whnf
 exact ⟨rfl, Sub.refl _⟩
set_option maxRecDepth 100000 in
set_option maxHeartbeats 8000000 in
theorem refuses_0yz {n p K LZ LC : Nat} {m k : Int} {N : Nat} {q : Nat → RawR} {g P : Nat → Int} {Z C : Nat → Rat} {i j : Bool}   {LL : Nat} {L : Nat → Rat} (n1 : 1 ≤ n) (n2 : n ≤ 512) (hn : n ≠ 1) (ht : Int.tmod m n = 0) (p1 : p ≤ 1000) (hw : FnOK Tryz.prog true 10 [] (.c (.bool true))) (hs : FnOK Tryz.prog true 19 [.c (.row 1 1 (rowF 1 [ql N q]))] (.c (.bool true))) (hp : FnOK Tryz.prog true 35 [.c (.int .i64 n)] (.t2 (.c (nl (p + 1) g)) (.c (.int .i64 0)))) (hf : FnOK Tryz.prog true 36 [.c (.int .i64 n)] (.c (.int .i64 p))) (h1 : FnOK Tryz.prog true 31 [.c (.int .i64 n)] (.t2 (.g [nl K P]) (.c (.int .i64 0)))) (h2 : FnOK Tryz.prog true 12 [.c (.int .i64 n), .c (.int .i64 1)] (.t2 (.c (nql LZ Z)) (.c (.int .i64 0)))) (h3 : FnOK Tryz.prog true 24 [.c (.int .i64 n), .c (.int .i64 0), .c (ql N q)] (.t2 (.c .nil) (.c (.int .i64 9)))) (h4 : FnOK Tryz.prog true 25 [.c (.int .i64 n), .c (ql N q)] (.t2 (.c (nql LC C)) (.c (.int .i64 0)))) (h5 : FnOK Tryz.prog true 29 [.c (.int .i64 n), .c (.int .i64 m), .c (ql N q)] (.t2 (.c (nql LL L)) (.c (.int .i64 0)))) (h6 : FnOK Tryz.prog true 20 [.c (.int .i64 n), .c (ql N q)] (.t3 (.g zcells) (.c (.bool i)) (.c (.int .i64 0)))) (h7 : FnOK Tryz.prog true 13 [.c (.int .i64 n), .c (ql N q)] (.t3 (.c (.int .i64 k)) (.c (.bool j)) (.c (.int .i64 0)))) (h8 : FnOK Tryz.prog true 11 [.c (.int .i64 n)] (.c (.int .i64 0))) (h9 : FnOK Tryz.prog true 11 [.c (.int .i64 m)] (.c (.int .i64 0))) : FnOK Tryz.prog true 8 [.c (.int .i64 n), .c (.int .i64 m), .c (ql N q)] (.c (.bool true)) := by
 refine fn_okS (E := E1e) E1e_ok Tryz.func8 rfl (by kernel_rfl) ?_
 refine swp_seq0 E1e_ok mixed (by kernel_rfl) ?_
 conv => whnf
 refine swp_seq0 E1e_ok mixed (by kernel_rfl) ?_
 conv => whnf
 refine ⟨_, hw, ?_⟩
 conv => whnf
 refine swp_seq0 E1e_ok mixed (by kernel_rfl) ?_
 conv => whnf
 refine ⟨fun i j hi hj => ?_, ?_⟩
 ·match i, j, hi, hj with
  | 0, 0, _, _ => rfl
 conv => whnf
 refine ⟨_, hs, ?_⟩
 conv => whnf
 refine swp_seq0 E1e_ok mixed (by kernel_rfl) ?_
 conv => whnf
 refine ⟨_, hp, ?_⟩
 conv => whnf
 refine swp_seq0 E1e_ok mixed (by kernel_rfl) ?_
 conv => whnf
 refine bpos (show gw false (decide ((n : Int) < 1)) = true by rw [decide_eq_false (by omega)]; rfl) ?_
 conv => whnf
 refine bneg (show decide ((512 : Int) < n) = false from decide_eq_false (by omega)) ?_
 conv => whnf
 refine ⟨_, hf, ?_⟩
 conv => whnf
 refine ⟨i64 (by omega) (by omega), ?_⟩
 conv => whnf
 refine bneg (show (!decide (((p + 1 : Nat) : Int) = (p : Int) + 1)) = false by rw [decide_eq_true (by omega)]; rfl) ?_
 conv => whnf
 refine swp_seq0 E1e_ok mixed (by kernel_rfl) ?_
 conv => whnf
 refine ⟨_, h1, ?_⟩
 conv => whnf
 refine swp_seq0 E1e_ok mixed (by kernel_rfl) ?_
 conv => whnf
 refine ⟨_, h2, ?_⟩
 conv => whnf
 refine swp_seq0 E1e_ok mixed (by kernel_rfl) ?_
 conv => whnf
 refine ⟨_, h3, ?_⟩
 conv => whnf
 refine swp_seq0 E1e_ok mixed (by kernel_rfl) ?_
 conv => whnf
 refine ⟨_, h4, ?_⟩
 conv => whnf
 refine swp_seq0 E1e_ok mixed (by kernel_rfl) ?_
 conv => whnf
 refine ⟨_, h5, ?_⟩
 conv => whnf
 refine swp_seq0 E1e_ok mixed (by kernel_rfl) ?_
 conv => whnf
 refine ⟨_, h6, ?_⟩
 conv => whnf
 refine swp_seq0 E1e_ok mixed (by kernel_rfl) ?_
 conv => whnf
 refine ⟨_, h7, ?_⟩
 conv => whnf
 refine swp_seq0 E1e_ok mixed (by kernel_rfl) ?_
 conv => whnf
 refine ⟨_, h8, ?_⟩
 conv => whnf
 refine swp_seq0 E1e_ok mixed (by kernel_rfl) ?_
 conv => whnf
 refine ⟨_, h9, ?_⟩
 conv => whnf
 refine ⟨by omega, ?_⟩
 conv => whnf
 refine bneg (show (!decide (Int.tmod m n = 0)) = false by rw [decide_eq_true ht]; rfl) ?_
 conv => whnf
 refine bpos (show gw true (decide ((9 : Int) = 0) == decide ((n : Int) = 1)) = true by rw [show decide ((n : Int) = 1) = false from decide_eq_false (by omega)]; rfl) ?_
 conv => whnf
 refine bpos (show gw false (decide ((n : Int) = 1)) = true by rw [show decide ((n : Int) = 1) = false from decide_eq_false (by omega)]; rfl) ?_
 conv => whnf
 exact ⟨rfl, Sub.refl _⟩
set_option maxRecDepth 100000 in
set_option maxHeartbeats 8000000 in
theorem refuses_0yq {n p K LZ LC : Nat} {m k : Int} {N : Nat} {q : Nat → RawR} {g P : Nat → Int} {Z C : Nat → Rat} {i j : Bool} {x : Rat}  {LL : Nat} {L : Nat → Rat} (n1 : 1 ≤ n) (n2 : n ≤ 512) (hn : n ≠ 1) (ht : Int.tmod m n = 0) (p1 : p ≤ 1000) (hw : FnOK Tryz.prog true 10 [] (.c (.bool true))) (hs : FnOK Tryz.prog true 19 [.c (.row 1 1 (rowF 1 [ql N q]))] (.c (.bool true))) (hp : FnOK Tryz.prog true 35 [.c (.int .i64 n)] (.t2 (.c (nl (p + 1) g)) (.c (.int .i64 0)))) (hf : FnOK Tryz.prog true 36 [.c (.int .i64 n)] (.c (.int .i64 p))) (h1 : FnOK Tryz.prog true 31 [.c (.int .i64 n)] (.t2 (.g [nl K P]) (.c (.int .i64 0)))) (h2 : FnOK Tryz.prog true 12 [.c (.int .i64 n), .c (.int .i64 1)] (.t2 (.c (nql LZ Z)) (.c (.int .i64 0)))) (h3 : FnOK Tryz.prog true 24 [.c (.int .i64 n), .c (.int .i64 0), .c (ql N q)] (.t2 (.c .nil) (.c (.int .i64 9)))) (h4 : FnOK Tryz.prog true 25 [.c (.int .i64 n), .c (ql N q)] (.t2 (.c (nql LC C)) (.c (.int .i64 0)))) (h5 : FnOK Tryz.prog true 29 [.c (.int .i64 n), .c (.int .i64 m), .c (ql N q)] (.t2 (.c (nql LL L)) (.c (.int .i64 0)))) (h6 : FnOK Tryz.prog true 20 [.c (.int .i64 n), .c (ql N q)] (.t3 (.g (nq x)) (.c (.bool i)) (.c (.int .i64 0)))) (h7 : FnOK Tryz.prog true 13 [.c (.int .i64 n), .c (ql N q)] (.t3 (.c (.int .i64 k)) (.c (.bool j)) (.c (.int .i64 0)))) (h8 : FnOK Tryz.prog true 11 [.c (.int .i64 n)] (.c (.int .i64 0))) (h9 : FnOK Tryz.prog true 11 [.c (.int .i64 m)] (.c (.int .i64 0))) : FnOK Tryz.prog true 8 [.c (.int .i64 n), .c (.int .i64 m), .c (ql N q)] (.c (.bool true)) := by
 refine fn_okS (E := E1e) E1e_ok Tryz.func8 rfl (by kernel_rfl) ?_
 refine swp_seq0 E1e_ok mixed (by kernel_rfl) ?_
 conv => whnf
 refine swp_seq0 E1e_ok mixed (by kernel_rfl) ?_
 conv => whnf
 refine ⟨_, hw, ?_⟩
 conv => whnf
 refine swp_seq0 E1e_ok mixed (by kernel_rfl) ?_
 conv => whnf
 refine ⟨fun i j hi hj => ?_, ?_⟩
 ·match i, j, hi, hj with
  | 0, 0, _, _ => rfl
 conv => whnf
 refine ⟨_, hs, ?_⟩
 conv => whnf
 refine swp_seq0 E1e_ok mixed (by kernel_rfl) ?_
 conv => whnf
 refine ⟨_, hp, ?_⟩
 conv => whnf
 refine swp_seq0 E1e_ok mixed (by kernel_rfl) ?_
 conv => whnf
 refine bpos (show gw false (decide ((n : Int) < 1)) = true by rw [decide_eq_false (by omega)]; rfl) ?_
 conv => whnf
 refine bneg (show decide ((512 : Int) < n) = false from decide_eq_false (by omega)) ?_
 conv => whnf
 refine ⟨_, hf, ?_⟩
 conv => whnf
 refine ⟨i64 (by omega) (by omega), ?_⟩
 conv => whnf
 refine bneg (show (!decide (((p + 1 : Nat) : Int) = (p : Int) + 1)) = false by rw [decide_eq_true (by omega)]; rfl) ?_
 conv => whnf
 refine swp_seq0 E1e_ok mixed (by kernel_rfl) ?_
 conv => whnf
 refine ⟨_, h1, ?_⟩
 conv => whnf
 refine swp_seq0 E1e_ok mixed (by kernel_rfl) ?_
 conv => whnf
 refine ⟨_, h2, ?_⟩
 conv => whnf
 refine swp_seq0 E1e_ok mixed (by kernel_rfl) ?_
 conv => whnf
 refine ⟨_, h3, ?_⟩
 conv => whnf
 refine swp_seq0 E1e_ok mixed (by kernel_rfl) ?_
 conv => whnf
 refine ⟨_, h4, ?_⟩
 conv => whnf
 refine swp_seq0 E1e_ok mixed (by kernel_rfl) ?_
 conv => whnf
 refine ⟨_, h5, ?_⟩
 conv => whnf
 refine swp_seq0 E1e_ok mixed (by kernel_rfl) ?_
 conv => whnf
 refine ⟨_, h6, ?_⟩
 conv => whnf
 refine swp_seq0 E1e_ok mixed (by kernel_rfl) ?_
 conv => whnf
 refine ⟨_, h7, ?_⟩
 conv => whnf
 refine swp_seq0 E1e_ok mixed (by kernel_rfl) ?_
 conv => whnf
 refine ⟨_, h8, ?_⟩
 conv => whnf
 refine swp_seq0 E1e_ok mixed (by kernel_rfl) ?_
 conv => whnf
 refine ⟨_, h9, ?_⟩
 conv => whnf
 refine ⟨by omega, ?_⟩
 conv => whnf
 refine bneg (show (!decide (Int.tmod m n = 0)) = false by rw [decide_eq_true ht]; rfl) ?_
 conv => whnf
 refine bpos (show gw true (decide ((9 : Int) = 0) == decide ((n : Int) = 1)) = true by rw [show decide ((n : Int) = 1) = false from decide_eq_false (by omega)]; rfl) ?_
 conv => whnf
 refine bpos (show gw false (decide ((n : Int) = 1)) = true by rw [show decide ((n : Int) = 1) = false from decide_eq_false (by omega)]; rfl) ?_
 conv => whnf
 exact ⟨rfl, Sub.refl _⟩
end Rf
end Go.Proofs.YtmbejakmeijcbaaGreat
