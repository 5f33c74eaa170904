/- The functions of package numfield refuse what is no field's form. -/
import Derived.Test.YtljnoknkmefgjaaGreatDoorNfB
import Derived.Test.YtljnoknkmefgjaaGreatDoorNfAwake
import Derived.Test.YtljnoknkmefgjaaGreatDoorCut
namespace Go.Proofs.YtljnoknkmefgjaaGreatDoor
open Go.RowKit
namespace Rf
set_option maxHeartbeats 4000000 in
theorem bad_Normal {n : Nat} {c : Nat → RawZ} {na : Nat} {qa : Nat → RawR} (h : wl n c) (hf : decide (formed n (vz c)) = false) : FnOK Tryz.prog true 7 [.g [zl n c], .c (ql na qa)] (.t2 (.c .nil) (.c (.int .i64 3))) := by
  have ho := open_bad h hf
  clear hf h
  refine fn_ok (E := E1) E1_ok Tryz.func7 rfl mixed (by kernel_rfl) (by kernel_rfl) ?_
  conv => whnf
  refine ⟨_, ho, ?_⟩
  conv => whnf
  exact ⟨rfl, Sub.refl _⟩
set_option maxHeartbeats 4000000 in
theorem bad_Add {n : Nat} {c : Nat → RawZ} {na : Nat} {qa : Nat → RawR} {nb : Nat} {qb : Nat → RawR} (h : wl n c) (hf : decide (formed n (vz c)) = false) : FnOK Tryz.prog true 8 [.g [zl n c], .c (ql na qa), .c (ql nb qb)] (.t2 (.c .nil) (.c (.int .i64 3))) := by
  have ho := open_bad h hf
  clear hf h
  refine fn_ok (E := E1) E1_ok Tryz.func8 rfl mixed (by kernel_rfl) (by kernel_rfl) ?_
  conv => whnf
  refine ⟨_, ho, ?_⟩
  conv => whnf
  exact ⟨rfl, Sub.refl _⟩
set_option maxHeartbeats 4000000 in
theorem bad_Sub {n : Nat} {c : Nat → RawZ} {na : Nat} {qa : Nat → RawR} {nb : Nat} {qb : Nat → RawR} (h : wl n c) (hf : decide (formed n (vz c)) = false) : FnOK Tryz.prog true 9 [.g [zl n c], .c (ql na qa), .c (ql nb qb)] (.t2 (.c .nil) (.c (.int .i64 3))) := by
  have ho := open_bad h hf
  clear hf h
  refine fn_ok (E := E1) E1_ok Tryz.func9 rfl mixed (by kernel_rfl) (by kernel_rfl) ?_
  conv => whnf
  refine ⟨_, ho, ?_⟩
  conv => whnf
  exact ⟨rfl, Sub.refl _⟩
set_option maxHeartbeats 4000000 in
theorem bad_Mul {n : Nat} {c : Nat → RawZ} {na : Nat} {qa : Nat → RawR} {nb : Nat} {qb : Nat → RawR} (h : wl n c) (hf : decide (formed n (vz c)) = false) : FnOK Tryz.prog true 10 [.g [zl n c], .c (ql na qa), .c (ql nb qb)] (.t2 (.c .nil) (.c (.int .i64 3))) := by
  have ho := open_bad h hf
  clear hf h
  refine fn_ok (E := E1) E1_ok Tryz.func10 rfl mixed (by kernel_rfl) (by kernel_rfl) ?_
  conv => whnf
  refine ⟨_, ho, ?_⟩
  conv => whnf
  exact ⟨rfl, Sub.refl _⟩
set_option maxHeartbeats 4000000 in
theorem bad_Inverse {n : Nat} {c : Nat → RawZ} {na : Nat} {qa : Nat → RawR} (h : wl n c) (hf : decide (formed n (vz c)) = false) : FnOK Tryz.prog true 11 [.g [zl n c], .c (ql na qa)] (.t2 (.c .nil) (.c (.int .i64 3))) := by
  have ho := open_bad h hf
  clear hf h
  refine fn_ok (E := E1) E1_ok Tryz.func11 rfl mixed (by kernel_rfl) (by kernel_rfl) ?_
  conv => whnf
  refine ⟨_, ho, ?_⟩
  conv => whnf
  exact ⟨rfl, Sub.refl _⟩
set_option maxHeartbeats 4000000 in
theorem bad_Pow {n : Nat} {c : Nat → RawZ} {na : Nat} {qa : Nat → RawR} {e : Int} (h : wl n c) (hf : decide (formed n (vz c)) = false) : FnOK Tryz.prog true 12 [.g [zl n c], .c (ql na qa), .c (.int .i64 e)] (.t2 (.c .nil) (.c (.int .i64 3))) := by
  have ho := open_bad h hf
  clear hf h
  refine fn_ok (E := E1) E1_ok Tryz.func12 rfl mixed (by kernel_rfl) (by kernel_rfl) ?_
  conv => whnf
  refine ⟨_, ho, ?_⟩
  conv => whnf
  exact ⟨rfl, Sub.refl _⟩
set_option maxHeartbeats 4000000 in
theorem bad_Multiplication {n : Nat} {c : Nat → RawZ} {na : Nat} {qa : Nat → RawR} (h : wl n c) (hf : decide (formed n (vz c)) = false) : FnOK Tryz.prog true 13 [.g [zl n c], .c (ql na qa)] (.t2 (.g [.int .i64 0, .int .i64 0, .nil]) (.c (.int .i64 3))) := by
  have ho := open_bad h hf
  clear hf h
  refine fn_ok (E := E1) E1_ok Tryz.func13 rfl mixed (by kernel_rfl) (by kernel_rfl) ?_
  conv => whnf
  refine ⟨_, ho, ?_⟩
  conv => whnf
  exact ⟨rfl, Sub.refl _⟩
set_option maxHeartbeats 4000000 in
theorem bad_Norm {n : Nat} {c : Nat → RawZ} {na : Nat} {qa : Nat → RawR} (h : wl n c) (hf : decide (formed n (vz c)) = false) : FnOK Tryz.prog true 14 [.g [zl n c], .c (ql na qa)] (.t2 (.g [.bool false, .nil, .bool false, .nil]) (.c (.int .i64 3))) := by
  have ho := bad_Multiplication (na := na) (qa := qa) h hf
  clear hf h
  refine fn_ok (E := E1) E1_ok Tryz.func14 rfl mixed (by kernel_rfl) (by kernel_rfl) ?_
  conv => whnf
  refine ⟨_, ho, ?_⟩
  conv => whnf
  exact ⟨rfl, Sub.refl _⟩
set_option maxHeartbeats 4000000 in
theorem bad_Trace {n : Nat} {c : Nat → RawZ} {na : Nat} {qa : Nat → RawR} (h : wl n c) (hf : decide (formed n (vz c)) = false) : FnOK Tryz.prog true 15 [.g [zl n c], .c (ql na qa)] (.t2 (.g [.bool false, .nil, .bool false, .nil]) (.c (.int .i64 3))) := by
  have ho := bad_Multiplication (na := na) (qa := qa) h hf
  clear hf h
  refine fn_ok (E := E1) E1_ok Tryz.func15 rfl mixed (by kernel_rfl) (by kernel_rfl) ?_
  conv => whnf
  refine ⟨_, ho, ?_⟩
  conv => whnf
  exact ⟨rfl, Sub.refl _⟩
set_option maxHeartbeats 4000000 in
theorem bad_CharPoly {n : Nat} {c : Nat → RawZ} {na : Nat} {qa : Nat → RawR} (h : wl n c) (hf : decide (formed n (vz c)) = false) : FnOK Tryz.prog true 16 [.g [zl n c], .c (ql na qa)] (.t2 (.c .nil) (.c (.int .i64 3))) := by
  have ho := bad_Multiplication (na := na) (qa := qa) h hf
  clear hf h
  refine fn_ok (E := E1) E1_ok Tryz.func16 rfl mixed (by kernel_rfl) (by kernel_rfl) ?_
  conv => whnf
  refine ⟨_, ho, ?_⟩
  conv => whnf
  exact ⟨rfl, Sub.refl _⟩
set_option maxHeartbeats 4000000 in
theorem bad_MinPoly {n : Nat} {c : Nat → RawZ} {na : Nat} {qa : Nat → RawR} (h : wl n c) (hf : decide (formed n (vz c)) = false) : FnOK Tryz.prog true 17 [.g [zl n c], .c (ql na qa)] (.t2 (.c .nil) (.c (.int .i64 3))) := by
  have ho := bad_Multiplication (na := na) (qa := qa) h hf
  clear hf h
  refine fn_ok (E := E1) E1_ok Tryz.func17 rfl mixed (by kernel_rfl) (by kernel_rfl) ?_
  conv => whnf
  refine ⟨_, ho, ?_⟩
  conv => whnf
  exact ⟨rfl, Sub.refl _⟩
set_option maxHeartbeats 4000000 in
theorem bad_Eval {n : Nat} {c : Nat → RawZ} {na : Nat} {qa : Nat → RawR} {nb : Nat} {qb : Nat → RawR} (h : wl n c) (hf : decide (formed n (vz c)) = false) : FnOK Tryz.prog true 18 [.g [zl n c], .c (ql nb qb), .c (ql na qa)] (.t2 (.c .nil) (.c (.int .i64 3))) := by
  have ho := open_bad h hf
  clear hf h
  refine fn_ok (E := E1) E1_ok Tryz.func18 rfl mixed (by kernel_rfl) (by kernel_rfl) ?_
  conv => whnf
  refine ⟨_, ho, ?_⟩
  conv => whnf
  exact ⟨rfl, Sub.refl _⟩
set_option maxHeartbeats 4000000 in
theorem bad_TraceForm {n : Nat} {c : Nat → RawZ} (h : wl n c) (hf : decide (formed n (vz c)) = false) : FnOK Tryz.prog true 19 [.g [zl n c]] (.t2 (.g [.int .i64 0, .int .i64 0, .nil]) (.c (.int .i64 3))) := by
  have ho := open_bad h hf
  clear hf h
  refine fn_ok (E := E1) E1_ok Tryz.func19 rfl mixed (by kernel_rfl) (by kernel_rfl) ?_
  conv => whnf
  refine ⟨_, ho, ?_⟩
  conv => whnf
  exact ⟨rfl, Sub.refl _⟩
set_option maxHeartbeats 4000000 in
theorem bad_Real {n : Nat} {c : Nat → RawZ} (h : wl n c) (hf : decide (formed n (vz c)) = false) : FnOK Tryz.prog true 20 [.g [zl n c]] (.t2 (.c .nil) (.c (.int .i64 3))) := by
  have ho := open_bad h hf
  clear hf h
  refine fn_ok (E := E1) E1_ok Tryz.func20 rfl mixed (by kernel_rfl) (by kernel_rfl) ?_
  conv => whnf
  refine ⟨_, ho, ?_⟩
  conv => whnf
  exact ⟨rfl, Sub.refl _⟩
set_option maxHeartbeats 4000000 in
theorem bad_SignAt {n : Nat} {c : Nat → RawZ} {na : Nat} {qa : Nat → RawR} {e : Int} (h : wl n c) (hf : decide (formed n (vz c)) = false) : FnOK Tryz.prog true 21 [.g [zl n c], .c (ql na qa), .c (.int .i64 e)] (.t2 (.c (.int .i64 0)) (.c (.int .i64 3))) := by
  have ho := open_bad h hf
  clear hf h
  refine fn_ok (E := E1) E1_ok Tryz.func21 rfl mixed (by kernel_rfl) (by kernel_rfl) ?_
  conv => whnf
  refine ⟨_, ho, ?_⟩
  conv => whnf
  exact ⟨rfl, Sub.refl _⟩
set_option maxHeartbeats 4000000 in
theorem bad_Format {n : Nat} {c : Nat → RawZ} {na : Nat} {qa : Nat → RawR} (h : wl n c) (hf : decide (formed n (vz c)) = false) : FnOK Tryz.prog true 22 [.g [zl n c], .c (ql na qa)] (.t2 (.c (.str .empty)) (.c (.int .i64 3))) := by
  have ho := open_bad h hf
  clear hf h
  refine fn_ok (E := E1) E1_ok Tryz.func22 rfl mixed (by kernel_rfl) (by kernel_rfl) ?_
  conv => whnf
  refine ⟨_, ho, ?_⟩
  conv => whnf
  exact ⟨rfl, Sub.refl _⟩
end Rf
end Go.Proofs.YtljnoknkmefgjaaGreatDoor
/- The law NumfieldRefuses over abstract arguments. -/
namespace Go.Proofs.YtljnoknkmefgjaaGreatDoor
open Go.RowKit
namespace Rf
theorem short_two {n m : Nat} {q p : Nat → RawR} {r : Bool} (hq : ∀ j, j < n → dgq (q j)) (hp : ∀ j, j < m → dgq (p j)) (hr : r = true ↔ (n ≤ 12 ∧ ∀ j, j < n → okq (q j)) ∧ m ≤ 12 ∧ ∀ j, j < m → okq (p j)) : FnOK Tryz.prog false 6 [.c (.row 1 2 (rowF 1 [ql n q, ql m p]))] (.c (.bool r)) := by
  have h := short_ok (k := 2) (n := fun i => if i = 0 then n else m) (q := fun i => if i = 0 then q else p) (r := r) (Nat.le_refl _) (fun i j hi hj => by
    match i, hi with
    | 0, _ => exact hq j hj
    | 1, _ => exact hp j hj) (by
    rw [hr]
    refine ⟨fun ⟨a, b⟩ i hi => ?_, fun a => ⟨a 0 (by decide), a 1 (by decide)⟩⟩
    match i, hi with
    | 0, _ => exact a
    | 1, _ => exact b)
  refine arg_ok h fun D w vs h => ?_
  match vs, h with
  | [v1], ⟨h1, _⟩ =>
    refine ⟨subRowG rfl (fun i j hi hj => ?_) D w v1 h1, trivial⟩
    match i, j, hi, hj with
    | 0, 0, _, _ => rfl
    | 1, 0, _, _ => rfl
abbrev st0 (n na nb : Nat) (c : Nat → RawZ) (qa qb : Nat → RawR) : St := gst [(1, .c (ql na qa)), (2, .c (ql nb qb)), (3, .c (.p 0 0 1 0 0))] [⟨25, 1, 1, boxF [zl n c]⟩]
abbrev st1 (n na nb : Nat) (c : Nat → RawZ) (qa qb : Nat → RawR) : St := gst [(1, .c (ql na qa)), (2, .c (ql nb qb)), (3, .c (.p 0 0 1 0 0)), (7, .c .nil), (8, .c (.int .i64 3))] [⟨25, 1, 1, boxF [zl n c]⟩]
abbrev st2 (n na nb : Nat) (c : Nat → RawZ) (qa qb : Nat → RawR) : St := gst [(1, .c (ql na qa)), (2, .c (ql nb qb)), (3, .c (.p 0 0 1 0 0)), (7, .c .nil), (8, .c (.int .i64 3)), (9, .c .nil), (10, .c (.int .i64 3))] [⟨25, 1, 1, boxF [zl n c]⟩]
abbrev st3 (n na nb : Nat) (c : Nat → RawZ) (qa qb : Nat → RawR) : St := gst [(1, .c (ql na qa)), (2, .c (ql nb qb)), (3, .c (.p 0 0 1 0 0)), (7, .c .nil), (8, .c (.int .i64 3)), (9, .c .nil), (10, .c (.int .i64 3)), (11, .c .nil), (12, .c (.int .i64 3))] [⟨25, 1, 1, boxF [zl n c]⟩]
abbrev st4 (n na nb : Nat) (c : Nat → RawZ) (qa qb : Nat → RawR) : St := gst [(1, .c (ql na qa)), (2, .c (ql nb qb)), (3, .c (.p 0 0 1 0 0)), (7, .c .nil), (8, .c (.int .i64 3)), (9, .c .nil), (10, .c (.int .i64 3)), (11, .c .nil), (12, .c (.int .i64 3)), (13, .c .nil), (14, .c (.int .i64 3))] [⟨25, 1, 1, boxF [zl n c]⟩]
abbrev st5 (n na nb : Nat) (c : Nat → RawZ) (qa qb : Nat → RawR) : St := gst [(1, .c (ql na qa)), (2, .c (ql nb qb)), (3, .c (.p 0 0 1 0 0)), (7, .c .nil), (8, .c (.int .i64 3)), (9, .c .nil), (10, .c (.int .i64 3)), (11, .c .nil), (12, .c (.int .i64 3)), (13, .c .nil), (14, .c (.int .i64 3)), (15, .c .nil), (16, .c (.int .i64 3))] [⟨25, 1, 1, boxF [zl n c]⟩]
abbrev st6 (n na nb : Nat) (c : Nat → RawZ) (qa qb : Nat → RawR) : St := gst [(1, .c (ql na qa)), (2, .c (ql nb qb)), (3, .c (.p 0 0 1 0 0)), (7, .c .nil), (8, .c (.int .i64 3)), (9, .c .nil), (10, .c (.int .i64 3)), (11, .c .nil), (12, .c (.int .i64 3)), (13, .c .nil), (14, .c (.int .i64 3)), (15, .c .nil), (16, .c (.int .i64 3)), (17, .c .nil), (18, .c (.int .i64 3))] [⟨25, 1, 1, boxF [zl n c]⟩]
abbrev st7 (n na nb : Nat) (c : Nat → RawZ) (qa qb : Nat → RawR) : St := gst [(1, .c (ql na qa)), (2, .c (ql nb qb)), (3, .c (.p 0 0 1 0 0)), (7, .c .nil), (8, .c (.int .i64 3)), (9, .c .nil), (10, .c (.int .i64 3)), (11, .c .nil), (12, .c (.int .i64 3)), (13, .c .nil), (14, .c (.int .i64 3)), (15, .c .nil), (16, .c (.int .i64 3)), (17, .c .nil), (18, .c (.int .i64 3)), (19, .c (.p 1 0 3 0 0)), (20, .c (.int .i64 3))] [⟨25, 1, 1, boxF [zl n c]⟩, ⟨37, 3, 1, boxF [.int .i64 0, .int .i64 0, .nil]⟩]
abbrev st8 (n na nb : Nat) (c : Nat → RawZ) (qa qb : Nat → RawR) : St := gst [(1, .c (ql na qa)), (2, .c (ql nb qb)), (3, .c (.p 0 0 1 0 0)), (7, .c .nil), (8, .c (.int .i64 3)), (9, .c .nil), (10, .c (.int .i64 3)), (11, .c .nil), (12, .c (.int .i64 3)), (13, .c .nil), (14, .c (.int .i64 3)), (15, .c .nil), (16, .c (.int .i64 3)), (17, .c .nil), (18, .c (.int .i64 3)), (19, .c (.p 1 0 3 0 0)), (20, .c (.int .i64 3)), (21, .c (.p 2 0 4 0 0)), (22, .c (.int .i64 3))] [⟨25, 1, 1, boxF [zl n c]⟩, ⟨37, 3, 1, boxF [.int .i64 0, .int .i64 0, .nil]⟩, ⟨44, 4, 1, boxF [.bool false, .nil, .bool false, .nil]⟩]
abbrev st9 (n na nb : Nat) (c : Nat → RawZ) (qa qb : Nat → RawR) : St := gst [(1, .c (ql na qa)), (2, .c (ql nb qb)), (3, .c (.p 0 0 1 0 0)), (7, .c .nil), (8, .c (.int .i64 3)), (9, .c .nil), (10, .c (.int .i64 3)), (11, .c .nil), (12, .c (.int .i64 3)), (13, .c .nil), (14, .c (.int .i64 3)), (15, .c .nil), (16, .c (.int .i64 3)), (17, .c .nil), (18, .c (.int .i64 3)), (19, .c (.p 1 0 3 0 0)), (20, .c (.int .i64 3)), (21, .c (.p 2 0 4 0 0)), (22, .c (.int .i64 3)), (23, .c (.p 3 0 4 0 0)), (24, .c (.int .i64 3))] [⟨25, 1, 1, boxF [zl n c]⟩, ⟨37, 3, 1, boxF [.int .i64 0, .int .i64 0, .nil]⟩, ⟨44, 4, 1, boxF [.bool false, .nil, .bool false, .nil]⟩, ⟨44, 4, 1, boxF [.bool false, .nil, .bool false, .nil]⟩]
abbrev st10 (n na nb : Nat) (c : Nat → RawZ) (qa qb : Nat → RawR) : St := gst [(1, .c (ql na qa)), (2, .c (ql nb qb)), (3, .c (.p 0 0 1 0 0)), (7, .c .nil), (8, .c (.int .i64 3)), (9, .c .nil), (10, .c (.int .i64 3)), (11, .c .nil), (12, .c (.int .i64 3)), (13, .c .nil), (14, .c (.int .i64 3)), (15, .c .nil), (16, .c (.int .i64 3)), (17, .c .nil), (18, .c (.int .i64 3)), (19, .c (.p 1 0 3 0 0)), (20, .c (.int .i64 3)), (21, .c (.p 2 0 4 0 0)), (22, .c (.int .i64 3)), (23, .c (.p 3 0 4 0 0)), (24, .c (.int .i64 3)), (25, .c .nil), (26, .c (.int .i64 3))] [⟨25, 1, 1, boxF [zl n c]⟩, ⟨37, 3, 1, boxF [.int .i64 0, .int .i64 0, .nil]⟩, ⟨44, 4, 1, boxF [.bool false, .nil, .bool false, .nil]⟩, ⟨44, 4, 1, boxF [.bool false, .nil, .bool false, .nil]⟩]
abbrev st11 (n na nb : Nat) (c : Nat → RawZ) (qa qb : Nat → RawR) : St := gst [(1, .c (ql na qa)), (2, .c (ql nb qb)), (3, .c (.p 0 0 1 0 0)), (7, .c .nil), (8, .c (.int .i64 3)), (9, .c .nil), (10, .c (.int .i64 3)), (11, .c .nil), (12, .c (.int .i64 3)), (13, .c .nil), (14, .c (.int .i64 3)), (15, .c .nil), (16, .c (.int .i64 3)), (17, .c .nil), (18, .c (.int .i64 3)), (19, .c (.p 1 0 3 0 0)), (20, .c (.int .i64 3)), (21, .c (.p 2 0 4 0 0)), (22, .c (.int .i64 3)), (23, .c (.p 3 0 4 0 0)), (24, .c (.int .i64 3)), (25, .c .nil), (26, .c (.int .i64 3)), (27, .c .nil), (28, .c (.int .i64 3))] [⟨25, 1, 1, boxF [zl n c]⟩, ⟨37, 3, 1, boxF [.int .i64 0, .int .i64 0, .nil]⟩, ⟨44, 4, 1, boxF [.bool false, .nil, .bool false, .nil]⟩, ⟨44, 4, 1, boxF [.bool false, .nil, .bool false, .nil]⟩]
abbrev st12 (n na nb : Nat) (c : Nat → RawZ) (qa qb : Nat → RawR) : St := gst [(1, .c (ql na qa)), (2, .c (ql nb qb)), (3, .c (.p 0 0 1 0 0)), (7, .c .nil), (8, .c (.int .i64 3)), (9, .c .nil), (10, .c (.int .i64 3)), (11, .c .nil), (12, .c (.int .i64 3)), (13, .c .nil), (14, .c (.int .i64 3)), (15, .c .nil), (16, .c (.int .i64 3)), (17, .c .nil), (18, .c (.int .i64 3)), (19, .c (.p 1 0 3 0 0)), (20, .c (.int .i64 3)), (21, .c (.p 2 0 4 0 0)), (22, .c (.int .i64 3)), (23, .c (.p 3 0 4 0 0)), (24, .c (.int .i64 3)), (25, .c .nil), (26, .c (.int .i64 3)), (27, .c .nil), (28, .c (.int .i64 3)), (29, .c .nil), (30, .c (.int .i64 3))] [⟨25, 1, 1, boxF [zl n c]⟩, ⟨37, 3, 1, boxF [.int .i64 0, .int .i64 0, .nil]⟩, ⟨44, 4, 1, boxF [.bool false, .nil, .bool false, .nil]⟩, ⟨44, 4, 1, boxF [.bool false, .nil, .bool false, .nil]⟩]
abbrev st13 (n na nb : Nat) (c : Nat → RawZ) (qa qb : Nat → RawR) : St := gst [(1, .c (ql na qa)), (2, .c (ql nb qb)), (3, .c (.p 0 0 1 0 0)), (7, .c .nil), (8, .c (.int .i64 3)), (9, .c .nil), (10, .c (.int .i64 3)), (11, .c .nil), (12, .c (.int .i64 3)), (13, .c .nil), (14, .c (.int .i64 3)), (15, .c .nil), (16, .c (.int .i64 3)), (17, .c .nil), (18, .c (.int .i64 3)), (19, .c (.p 1 0 3 0 0)), (20, .c (.int .i64 3)), (21, .c (.p 2 0 4 0 0)), (22, .c (.int .i64 3)), (23, .c (.p 3 0 4 0 0)), (24, .c (.int .i64 3)), (25, .c .nil), (26, .c (.int .i64 3)), (27, .c .nil), (28, .c (.int .i64 3)), (29, .c .nil), (30, .c (.int .i64 3)), (31, .c (.p 4 0 3 0 0)), (32, .c (.int .i64 3))] [⟨25, 1, 1, boxF [zl n c]⟩, ⟨37, 3, 1, boxF [.int .i64 0, .int .i64 0, .nil]⟩, ⟨44, 4, 1, boxF [.bool false, .nil, .bool false, .nil]⟩, ⟨44, 4, 1, boxF [.bool false, .nil, .bool false, .nil]⟩, ⟨37, 3, 1, boxF [.int .i64 0, .int .i64 0, .nil]⟩]
abbrev st14 (n na nb : Nat) (c : Nat → RawZ) (qa qb : Nat → RawR) : St := gst [(1, .c (ql na qa)), (2, .c (ql nb qb)), (3, .c (.p 0 0 1 0 0)), (7, .c .nil), (8, .c (.int .i64 3)), (9, .c .nil), (10, .c (.int .i64 3)), (11, .c .nil), (12, .c (.int .i64 3)), (13, .c .nil), (14, .c (.int .i64 3)), (15, .c .nil), (16, .c (.int .i64 3)), (17, .c .nil), (18, .c (.int .i64 3)), (19, .c (.p 1 0 3 0 0)), (20, .c (.int .i64 3)), (21, .c (.p 2 0 4 0 0)), (22, .c (.int .i64 3)), (23, .c (.p 3 0 4 0 0)), (24, .c (.int .i64 3)), (25, .c .nil), (26, .c (.int .i64 3)), (27, .c .nil), (28, .c (.int .i64 3)), (29, .c .nil), (30, .c (.int .i64 3)), (31, .c (.p 4 0 3 0 0)), (32, .c (.int .i64 3)), (33, .c .nil), (34, .c (.int .i64 3))] [⟨25, 1, 1, boxF [zl n c]⟩, ⟨37, 3, 1, boxF [.int .i64 0, .int .i64 0, .nil]⟩, ⟨44, 4, 1, boxF [.bool false, .nil, .bool false, .nil]⟩, ⟨44, 4, 1, boxF [.bool false, .nil, .bool false, .nil]⟩, ⟨37, 3, 1, boxF [.int .i64 0, .int .i64 0, .nil]⟩]
abbrev st15 (n na nb : Nat) (c : Nat → RawZ) (qa qb : Nat → RawR) : St := gst [(1, .c (ql na qa)), (2, .c (ql nb qb)), (3, .c (.p 0 0 1 0 0)), (7, .c .nil), (8, .c (.int .i64 3)), (9, .c .nil), (10, .c (.int .i64 3)), (11, .c .nil), (12, .c (.int .i64 3)), (13, .c .nil), (14, .c (.int .i64 3)), (15, .c .nil), (16, .c (.int .i64 3)), (17, .c .nil), (18, .c (.int .i64 3)), (19, .c (.p 1 0 3 0 0)), (20, .c (.int .i64 3)), (21, .c (.p 2 0 4 0 0)), (22, .c (.int .i64 3)), (23, .c (.p 3 0 4 0 0)), (24, .c (.int .i64 3)), (25, .c .nil), (26, .c (.int .i64 3)), (27, .c .nil), (28, .c (.int .i64 3)), (29, .c .nil), (30, .c (.int .i64 3)), (31, .c (.p 4 0 3 0 0)), (32, .c (.int .i64 3)), (33, .c .nil), (34, .c (.int .i64 3)), (35, .c (.int .i64 0)), (36, .c (.int .i64 3))] [⟨25, 1, 1, boxF [zl n c]⟩, ⟨37, 3, 1, boxF [.int .i64 0, .int .i64 0, .nil]⟩, ⟨44, 4, 1, boxF [.bool false, .nil, .bool false, .nil]⟩, ⟨44, 4, 1, boxF [.bool false, .nil, .bool false, .nil]⟩, ⟨37, 3, 1, boxF [.int .i64 0, .int .i64 0, .nil]⟩]
abbrev st16 (n na nb : Nat) (c : Nat → RawZ) (qa qb : Nat → RawR) : St := gst [(1, .c (ql na qa)), (2, .c (ql nb qb)), (3, .c (.p 0 0 1 0 0)), (7, .c .nil), (8, .c (.int .i64 3)), (9, .c .nil), (10, .c (.int .i64 3)), (11, .c .nil), (12, .c (.int .i64 3)), (13, .c .nil), (14, .c (.int .i64 3)), (15, .c .nil), (16, .c (.int .i64 3)), (17, .c .nil), (18, .c (.int .i64 3)), (19, .c (.p 1 0 3 0 0)), (20, .c (.int .i64 3)), (21, .c (.p 2 0 4 0 0)), (22, .c (.int .i64 3)), (23, .c (.p 3 0 4 0 0)), (24, .c (.int .i64 3)), (25, .c .nil), (26, .c (.int .i64 3)), (27, .c .nil), (28, .c (.int .i64 3)), (29, .c .nil), (30, .c (.int .i64 3)), (31, .c (.p 4 0 3 0 0)), (32, .c (.int .i64 3)), (33, .c .nil), (34, .c (.int .i64 3)), (35, .c (.int .i64 0)), (36, .c (.int .i64 3)), (37, .c (.str .empty)), (38, .c (.int .i64 3))] [⟨25, 1, 1, boxF [zl n c]⟩, ⟨37, 3, 1, boxF [.int .i64 0, .int .i64 0, .nil]⟩, ⟨44, 4, 1, boxF [.bool false, .nil, .bool false, .nil]⟩, ⟨44, 4, 1, boxF [.bool false, .nil, .bool false, .nil]⟩, ⟨37, 3, 1, boxF [.int .i64 0, .int .i64 0, .nil]⟩]
abbrev st17 (n : Nat) (c : Nat → RawZ) : St := gst [(7, .c .nil), (9, .c .nil), (11, .c .nil), (13, .c .nil), (15, .c .nil), (17, .c .nil), (19, .c (.p 1 0 3 0 0)), (21, .c (.p 2 0 4 0 0)), (23, .c (.p 3 0 4 0 0)), (25, .c .nil), (27, .c .nil), (29, .c .nil), (31, .c (.p 4 0 3 0 0)), (33, .c .nil), (35, .c (.int .i64 0)), (37, .c (.str .empty)), (39, .c (.gs 5 0))] [⟨25, 1, 1, boxF [zl n c]⟩, ⟨37, 3, 1, boxF [.int .i64 0, .int .i64 0, .nil]⟩, ⟨44, 4, 1, boxF [.bool false, .nil, .bool false, .nil]⟩, ⟨44, 4, 1, boxF [.bool false, .nil, .bool false, .nil]⟩, ⟨37, 3, 1, boxF [.int .i64 0, .int .i64 0, .nil]⟩, ⟨31, 1, 16, fun _ _ => .int .i64 3⟩]
abbrev st18 (n : Nat) (c : Nat → RawZ) (i : Nat) : St := gst [(7, .c .nil), (9, .c .nil), (11, .c .nil), (13, .c .nil), (15, .c .nil), (17, .c .nil), (19, .c (.p 1 0 3 0 0)), (21, .c (.p 2 0 4 0 0)), (23, .c (.p 3 0 4 0 0)), (25, .c .nil), (27, .c .nil), (29, .c .nil), (31, .c (.p 4 0 3 0 0)), (33, .c .nil), (35, .c (.int .i64 0)), (37, .c (.str .empty)), (39, .c (.gs 5 0)), (40, .c (.int .i64 i))] [⟨25, 1, 1, boxF [zl n c]⟩, ⟨37, 3, 1, boxF [.int .i64 0, .int .i64 0, .nil]⟩, ⟨44, 4, 1, boxF [.bool false, .nil, .bool false, .nil]⟩, ⟨44, 4, 1, boxF [.bool false, .nil, .bool false, .nil]⟩, ⟨37, 3, 1, boxF [.int .i64 0, .int .i64 0, .nil]⟩, ⟨31, 1, 16, fun _ _ => .int .i64 3⟩]
theorem row_all {l : List Cell} {x : Cell} {m j k : Nat} (h : l = List.replicate m x) (hj : j < m) (hk : k < 1) : rowF 1 l j k = x := by
  obtain rfl := Nat.lt_one_iff.1 hk
  subst h
  unfold rowF
  simp [List.getD, hj]
open Classical in
set_option maxRecDepth 100000 in
set_option maxHeartbeats 64000000 in
theorem law_ok {n na nb : Nat} {c : Nat → RawZ} {qa qb : Nat → RawR} (hc : ∀ i, i < n → wr (c i)) (ha : ∀ j, j < na → dgq (qa j)) (hb : ∀ j, j < nb → dgq (qb j)) : FnOK Tryz.prog true 3 [.g [zl n c], .c (ql na qa), .c (ql nb qb)] (.c (.bool true)) := by
  have h0 := nfAwake_ok.weak (r := true)
  have hw : n ≤ 60 → wl n c := fun a => ⟨by omega, hc⟩
  have h1 := fun a => (formed_ok (hw a)).weak (r := true)
  have h2 := (short_two ha hb (r := decide ((na ≤ 12 ∧ ∀ j, j < na → okq (qa j)) ∧ nb ≤ 12 ∧ ∀ j, j < nb → okq (qb j))) ⟨fun a => of_decide_eq_true a, fun a => decide_eq_true a⟩).weak (r := true)
  have k0 := fun a b => bad_Normal (na := na) (qa := qa) (hw a) b
  have k1 := fun a b => bad_Add (na := na) (qa := qa) (nb := nb) (qb := qb) (hw a) b
  have k2 := fun a b => bad_Sub (na := na) (qa := qa) (nb := nb) (qb := qb) (hw a) b
  have k3 := fun a b => bad_Mul (na := na) (qa := qa) (nb := nb) (qb := qb) (hw a) b
  have k4 := fun a b => bad_Inverse (na := na) (qa := qa) (hw a) b
  have k5 := fun a b => bad_Pow (na := na) (qa := qa) (e := -2000) (hw a) b
  have k6 := fun a b => bad_Multiplication (na := na) (qa := qa) (hw a) b
  have k7 := fun a b => bad_Norm (na := na) (qa := qa) (hw a) b
  have k8 := fun a b => bad_Trace (na := na) (qa := qa) (hw a) b
  have k9 := fun a b => bad_CharPoly (na := na) (qa := qa) (hw a) b
  have k10 := fun a b => bad_MinPoly (na := na) (qa := qa) (hw a) b
  have k11 := fun a b => bad_Eval (na := na) (qa := qa) (nb := nb) (qb := qb) (hw a) b
  have k12 := fun a b => bad_TraceForm (hw a) b
  have k13 := fun a b => bad_Real (hw a) b
  have k14 := fun a b => bad_SignAt (na := na) (qa := qa) (e := -1) (hw a) b
  have k15 := fun a b => bad_Format (na := na) (qa := qa) (hw a) b
  clear hw hc ha hb
  generalize decide (formed n (vz c)) = fm at *
  generalize decide ((na ≤ 12 ∧ ∀ j, j < na → okq (qa j)) ∧ nb ≤ 12 ∧ ∀ j, j < nb → okq (qb j)) = sh at *
  refine fn_okS (E := E1) E1_ok Tryz.func3 rfl (by kernel_rfl) ?_
  refine swp_seq0 E1_ok mixed (by kernel_rfl) ?_
  conv => whnf
  refine swp_seq0 E1_ok mixed (by kernel_rfl) ?_
  conv => whnf
  refine ⟨_, h0, ?_⟩
  conv => whnf
  refine swp_seq E1_ok mixed (by kernel_rfl) ?_
  conv => whnf
  refine bcase (fun (h : gw false (decide ((60 : Int) < n)) = true) => ?_) fun (h : gw false (decide ((60 : Int) < n)) = false) => ?_
  · have h := of_decide_eq_false (gwf h)
    have h1 := h1 (by omega)
    have k0 := k0 (by omega)
    have k1 := k1 (by omega)
    have k2 := k2 (by omega)
    have k3 := k3 (by omega)
    have k4 := k4 (by omega)
    have k5 := k5 (by omega)
    have k6 := k6 (by omega)
    have k7 := k7 (by omega)
    have k8 := k8 (by omega)
    have k9 := k9 (by omega)
    have k10 := k10 (by omega)
    have k11 := k11 (by omega)
    have k12 := k12 (by omega)
    have k13 := k13 (by omega)
    have k14 := k14 (by omega)
    have k15 := k15 (by omega)
    conv => whnf
    refine ⟨_, h1, ?_⟩
    conv => whnf
    refine bcase (fun (h3 : gw false fm = true) => ?_) fun (h3 : gw false fm = false) => ?_
    · have h3 : fm = false := gwf h3
      have k0 := k0 h3
      have k1 := k1 h3
      have k2 := k2 h3
      have k3 := k3 h3
      have k4 := k4 h3
      have k5 := k5 h3
      have k6 := k6 h3
      have k7 := k7 h3
      have k8 := k8 h3
      have k9 := k9 h3
      have k10 := k10 h3
      have k11 := k11 h3
      have k12 := k12 h3
      have k13 := k13 h3
      have k14 := k14 h3
      have k15 := k15 h3
      conv => whnf
      refine ⟨fun i j hi hj => ?_, ?_⟩
      · match i, j, hi, hj with
        | 0, 0, _, _ => rfl
        | 1, 0, _, _ => rfl
      conv => whnf
      refine ⟨_, h2, ?_⟩
      conv => whnf
      refine bcase (fun (h4 : (!sh) = true) => ?_) fun (h4 : (!sh) = false) => ?_
      · conv => whnf
        exact ⟨rfl, Sub.refl _⟩
      conv => whnf
      refine ⟨st0 n na nb c qa qb, Weak.gen [some 0] rfl ⟨boxK rfl rfl, trivial⟩ ⟨.inl ⟨_, _, rfl, rfl, fun _ _ _ _ => rfl⟩, .inl ⟨_, _, rfl, rfl, fun _ _ _ _ => rfl⟩, ⟨_, rfl, rfl, rfl⟩, trivial⟩, ?_⟩
      refine swp_seq E1_ok mixed (by kernel_rfl) ?_
      conv => whnf
      refine ⟨_, k0, ?_⟩
      conv => whnf
      refine ⟨st1 n na nb c qa qb, Weak.gen [some 0] rfl ⟨boxK rfl rfl, trivial⟩ ⟨.inl ⟨_, _, rfl, rfl, fun _ _ _ _ => rfl⟩, .inl ⟨_, _, rfl, rfl, fun _ _ _ _ => rfl⟩, ⟨_, rfl, rfl, rfl⟩, ⟨rfl, rfl⟩, ⟨_, rfl, rfl⟩, trivial⟩, ?_⟩
      refine swp_seq E1_ok mixed (by kernel_rfl) ?_
      conv => whnf
      refine ⟨_, k1, ?_⟩
      conv => whnf
      refine ⟨st2 n na nb c qa qb, Weak.gen [some 0] rfl ⟨boxK rfl rfl, trivial⟩ ⟨.inl ⟨_, _, rfl, rfl, fun _ _ _ _ => rfl⟩, .inl ⟨_, _, rfl, rfl, fun _ _ _ _ => rfl⟩, ⟨_, rfl, rfl, rfl⟩, ⟨rfl, rfl⟩, ⟨_, rfl, rfl⟩, ⟨rfl, rfl⟩, ⟨_, rfl, rfl⟩, trivial⟩, ?_⟩
      refine swp_seq E1_ok mixed (by kernel_rfl) ?_
      conv => whnf
      refine ⟨_, k2, ?_⟩
      conv => whnf
      refine ⟨st3 n na nb c qa qb, Weak.gen [some 0] rfl ⟨boxK rfl rfl, trivial⟩ ⟨.inl ⟨_, _, rfl, rfl, fun _ _ _ _ => rfl⟩, .inl ⟨_, _, rfl, rfl, fun _ _ _ _ => rfl⟩, ⟨_, rfl, rfl, rfl⟩, ⟨rfl, rfl⟩, ⟨_, rfl, rfl⟩, ⟨rfl, rfl⟩, ⟨_, rfl, rfl⟩, ⟨rfl, rfl⟩, ⟨_, rfl, rfl⟩, trivial⟩, ?_⟩
      refine swp_seq E1_ok mixed (by kernel_rfl) ?_
      conv => whnf
      refine ⟨_, k3, ?_⟩
      conv => whnf
      refine ⟨st4 n na nb c qa qb, Weak.gen [some 0] rfl ⟨boxK rfl rfl, trivial⟩ ⟨.inl ⟨_, _, rfl, rfl, fun _ _ _ _ => rfl⟩, .inl ⟨_, _, rfl, rfl, fun _ _ _ _ => rfl⟩, ⟨_, rfl, rfl, rfl⟩, ⟨rfl, rfl⟩, ⟨_, rfl, rfl⟩, ⟨rfl, rfl⟩, ⟨_, rfl, rfl⟩, ⟨rfl, rfl⟩, ⟨_, rfl, rfl⟩, ⟨rfl, rfl⟩, ⟨_, rfl, rfl⟩, trivial⟩, ?_⟩
      refine swp_seq E1_ok mixed (by kernel_rfl) ?_
      conv => whnf
      refine ⟨_, k4, ?_⟩
      conv => whnf
      refine ⟨st5 n na nb c qa qb, Weak.gen [some 0] rfl ⟨boxK rfl rfl, trivial⟩ ⟨.inl ⟨_, _, rfl, rfl, fun _ _ _ _ => rfl⟩, .inl ⟨_, _, rfl, rfl, fun _ _ _ _ => rfl⟩, ⟨_, rfl, rfl, rfl⟩, ⟨rfl, rfl⟩, ⟨_, rfl, rfl⟩, ⟨rfl, rfl⟩, ⟨_, rfl, rfl⟩, ⟨rfl, rfl⟩, ⟨_, rfl, rfl⟩, ⟨rfl, rfl⟩, ⟨_, rfl, rfl⟩, ⟨rfl, rfl⟩, ⟨_, rfl, rfl⟩, trivial⟩, ?_⟩
      refine swp_seq E1_ok mixed (by kernel_rfl) ?_
      conv => whnf
      refine ⟨_, k5, ?_⟩
      conv => whnf
      refine ⟨st6 n na nb c qa qb, Weak.gen [some 0] rfl ⟨boxK rfl rfl, trivial⟩ ⟨.inl ⟨_, _, rfl, rfl, fun _ _ _ _ => rfl⟩, .inl ⟨_, _, rfl, rfl, fun _ _ _ _ => rfl⟩, ⟨_, rfl, rfl, rfl⟩, ⟨rfl, rfl⟩, ⟨_, rfl, rfl⟩, ⟨rfl, rfl⟩, ⟨_, rfl, rfl⟩, ⟨rfl, rfl⟩, ⟨_, rfl, rfl⟩, ⟨rfl, rfl⟩, ⟨_, rfl, rfl⟩, ⟨rfl, rfl⟩, ⟨_, rfl, rfl⟩, ⟨rfl, rfl⟩, ⟨_, rfl, rfl⟩, trivial⟩, ?_⟩
      refine swp_seq E1_ok mixed (by kernel_rfl) ?_
      conv => whnf
      refine ⟨_, k6, ?_⟩
      conv => whnf
      refine ⟨st7 n na nb c qa qb, Weak.gen [some 0, some 1] rfl ⟨boxK rfl rfl, boxU rfl rfl rfl, trivial⟩ ⟨.inl ⟨_, _, rfl, rfl, fun _ _ _ _ => rfl⟩, .inl ⟨_, _, rfl, rfl, fun _ _ _ _ => rfl⟩, ⟨_, rfl, rfl, rfl⟩, ⟨rfl, rfl⟩, ⟨_, rfl, rfl⟩, ⟨rfl, rfl⟩, ⟨_, rfl, rfl⟩, ⟨rfl, rfl⟩, ⟨_, rfl, rfl⟩, ⟨rfl, rfl⟩, ⟨_, rfl, rfl⟩, ⟨rfl, rfl⟩, ⟨_, rfl, rfl⟩, ⟨rfl, rfl⟩, ⟨_, rfl, rfl⟩, ⟨_, rfl, rfl, rfl⟩, ⟨_, rfl, rfl⟩, trivial⟩, ?_⟩
      refine swp_seq E1_ok mixed (by kernel_rfl) ?_
      conv => whnf
      refine ⟨_, k7, ?_⟩
      conv => whnf
      refine ⟨st8 n na nb c qa qb, Weak.gen [some 0, some 1, some 2] rfl ⟨boxK rfl rfl, boxK rfl rfl, boxU rfl rfl rfl, trivial⟩ ⟨.inl ⟨_, _, rfl, rfl, fun _ _ _ _ => rfl⟩, .inl ⟨_, _, rfl, rfl, fun _ _ _ _ => rfl⟩, ⟨_, rfl, rfl, rfl⟩, ⟨rfl, rfl⟩, ⟨_, rfl, rfl⟩, ⟨rfl, rfl⟩, ⟨_, rfl, rfl⟩, ⟨rfl, rfl⟩, ⟨_, rfl, rfl⟩, ⟨rfl, rfl⟩, ⟨_, rfl, rfl⟩, ⟨rfl, rfl⟩, ⟨_, rfl, rfl⟩, ⟨rfl, rfl⟩, ⟨_, rfl, rfl⟩, ⟨_, rfl, rfl, rfl⟩, ⟨_, rfl, rfl⟩, ⟨_, rfl, rfl, rfl⟩, ⟨_, rfl, rfl⟩, trivial⟩, ?_⟩
      refine swp_seq E1_ok mixed (by kernel_rfl) ?_
      conv => whnf
      refine ⟨_, k8, ?_⟩
      conv => whnf
      refine ⟨st9 n na nb c qa qb, Weak.gen [some 0, some 1, some 2, some 3] rfl ⟨boxK rfl rfl, boxK rfl rfl, boxK rfl rfl, boxU rfl rfl rfl, trivial⟩ ⟨.inl ⟨_, _, rfl, rfl, fun _ _ _ _ => rfl⟩, .inl ⟨_, _, rfl, rfl, fun _ _ _ _ => rfl⟩, ⟨_, rfl, rfl, rfl⟩, ⟨rfl, rfl⟩, ⟨_, rfl, rfl⟩, ⟨rfl, rfl⟩, ⟨_, rfl, rfl⟩, ⟨rfl, rfl⟩, ⟨_, rfl, rfl⟩, ⟨rfl, rfl⟩, ⟨_, rfl, rfl⟩, ⟨rfl, rfl⟩, ⟨_, rfl, rfl⟩, ⟨rfl, rfl⟩, ⟨_, rfl, rfl⟩, ⟨_, rfl, rfl, rfl⟩, ⟨_, rfl, rfl⟩, ⟨_, rfl, rfl, rfl⟩, ⟨_, rfl, rfl⟩, ⟨_, rfl, rfl, rfl⟩, ⟨_, rfl, rfl⟩, trivial⟩, ?_⟩
      refine swp_seq E1_ok mixed (by kernel_rfl) ?_
      conv => whnf
      refine ⟨_, k9, ?_⟩
      conv => whnf
      refine ⟨st10 n na nb c qa qb, Weak.gen [some 0, some 1, some 2, some 3] rfl ⟨boxK rfl rfl, boxK rfl rfl, boxK rfl rfl, boxK rfl rfl, trivial⟩ ⟨.inl ⟨_, _, rfl, rfl, fun _ _ _ _ => rfl⟩, .inl ⟨_, _, rfl, rfl, fun _ _ _ _ => rfl⟩, ⟨_, rfl, rfl, rfl⟩, ⟨rfl, rfl⟩, ⟨_, rfl, rfl⟩, ⟨rfl, rfl⟩, ⟨_, rfl, rfl⟩, ⟨rfl, rfl⟩, ⟨_, rfl, rfl⟩, ⟨rfl, rfl⟩, ⟨_, rfl, rfl⟩, ⟨rfl, rfl⟩, ⟨_, rfl, rfl⟩, ⟨rfl, rfl⟩, ⟨_, rfl, rfl⟩, ⟨_, rfl, rfl, rfl⟩, ⟨_, rfl, rfl⟩, ⟨_, rfl, rfl, rfl⟩, ⟨_, rfl, rfl⟩, ⟨_, rfl, rfl, rfl⟩, ⟨_, rfl, rfl⟩, ⟨rfl, rfl⟩, ⟨_, rfl, rfl⟩, trivial⟩, ?_⟩
      refine swp_seq E1_ok mixed (by kernel_rfl) ?_
      conv => whnf
      refine ⟨_, k10, ?_⟩
      conv => whnf
      refine ⟨st11 n na nb c qa qb, Weak.gen [some 0, some 1, some 2, some 3] rfl ⟨boxK rfl rfl, boxK rfl rfl, boxK rfl rfl, boxK rfl rfl, trivial⟩ ⟨.inl ⟨_, _, rfl, rfl, fun _ _ _ _ => rfl⟩, .inl ⟨_, _, rfl, rfl, fun _ _ _ _ => rfl⟩, ⟨_, rfl, rfl, rfl⟩, ⟨rfl, rfl⟩, ⟨_, rfl, rfl⟩, ⟨rfl, rfl⟩, ⟨_, rfl, rfl⟩, ⟨rfl, rfl⟩, ⟨_, rfl, rfl⟩, ⟨rfl, rfl⟩, ⟨_, rfl, rfl⟩, ⟨rfl, rfl⟩, ⟨_, rfl, rfl⟩, ⟨rfl, rfl⟩, ⟨_, rfl, rfl⟩, ⟨_, rfl, rfl, rfl⟩, ⟨_, rfl, rfl⟩, ⟨_, rfl, rfl, rfl⟩, ⟨_, rfl, rfl⟩, ⟨_, rfl, rfl, rfl⟩, ⟨_, rfl, rfl⟩, ⟨rfl, rfl⟩, ⟨_, rfl, rfl⟩, ⟨rfl, rfl⟩, ⟨_, rfl, rfl⟩, trivial⟩, ?_⟩
      refine swp_seq E1_ok mixed (by kernel_rfl) ?_
      conv => whnf
      refine ⟨_, k11, ?_⟩
      conv => whnf
      refine ⟨st12 n na nb c qa qb, Weak.gen [some 0, some 1, some 2, some 3] rfl ⟨boxK rfl rfl, boxK rfl rfl, boxK rfl rfl, boxK rfl rfl, trivial⟩ ⟨.inl ⟨_, _, rfl, rfl, fun _ _ _ _ => rfl⟩, .inl ⟨_, _, rfl, rfl, fun _ _ _ _ => rfl⟩, ⟨_, rfl, rfl, rfl⟩, ⟨rfl, rfl⟩, ⟨_, rfl, rfl⟩, ⟨rfl, rfl⟩, ⟨_, rfl, rfl⟩, ⟨rfl, rfl⟩, ⟨_, rfl, rfl⟩, ⟨rfl, rfl⟩, ⟨_, rfl, rfl⟩, ⟨rfl, rfl⟩, ⟨_, rfl, rfl⟩, ⟨rfl, rfl⟩, ⟨_, rfl, rfl⟩, ⟨_, rfl, rfl, rfl⟩, ⟨_, rfl, rfl⟩, ⟨_, rfl, rfl, rfl⟩, ⟨_, rfl, rfl⟩, ⟨_, rfl, rfl, rfl⟩, ⟨_, rfl, rfl⟩, ⟨rfl, rfl⟩, ⟨_, rfl, rfl⟩, ⟨rfl, rfl⟩, ⟨_, rfl, rfl⟩, ⟨rfl, rfl⟩, ⟨_, rfl, rfl⟩, trivial⟩, ?_⟩
      refine swp_seq E1_ok mixed (by kernel_rfl) ?_
      conv => whnf
      refine ⟨_, k12, ?_⟩
      conv => whnf
      refine ⟨st13 n na nb c qa qb, Weak.gen [some 0, some 1, some 2, some 3, some 4] rfl ⟨boxK rfl rfl, boxK rfl rfl, boxK rfl rfl, boxK rfl rfl, boxU rfl rfl rfl, trivial⟩ ⟨.inl ⟨_, _, rfl, rfl, fun _ _ _ _ => rfl⟩, .inl ⟨_, _, rfl, rfl, fun _ _ _ _ => rfl⟩, ⟨_, rfl, rfl, rfl⟩, ⟨rfl, rfl⟩, ⟨_, rfl, rfl⟩, ⟨rfl, rfl⟩, ⟨_, rfl, rfl⟩, ⟨rfl, rfl⟩, ⟨_, rfl, rfl⟩, ⟨rfl, rfl⟩, ⟨_, rfl, rfl⟩, ⟨rfl, rfl⟩, ⟨_, rfl, rfl⟩, ⟨rfl, rfl⟩, ⟨_, rfl, rfl⟩, ⟨_, rfl, rfl, rfl⟩, ⟨_, rfl, rfl⟩, ⟨_, rfl, rfl, rfl⟩, ⟨_, rfl, rfl⟩, ⟨_, rfl, rfl, rfl⟩, ⟨_, rfl, rfl⟩, ⟨rfl, rfl⟩, ⟨_, rfl, rfl⟩, ⟨rfl, rfl⟩, ⟨_, rfl, rfl⟩, ⟨rfl, rfl⟩, ⟨_, rfl, rfl⟩, ⟨_, rfl, rfl, rfl⟩, ⟨_, rfl, rfl⟩, trivial⟩, ?_⟩
      refine swp_seq E1_ok mixed (by kernel_rfl) ?_
      conv => whnf
      refine ⟨_, k13, ?_⟩
      conv => whnf
      refine ⟨st14 n na nb c qa qb, Weak.gen [some 0, some 1, some 2, some 3, some 4] rfl ⟨boxK rfl rfl, boxK rfl rfl, boxK rfl rfl, boxK rfl rfl, boxK rfl rfl, trivial⟩ ⟨.inl ⟨_, _, rfl, rfl, fun _ _ _ _ => rfl⟩, .inl ⟨_, _, rfl, rfl, fun _ _ _ _ => rfl⟩, ⟨_, rfl, rfl, rfl⟩, ⟨rfl, rfl⟩, ⟨_, rfl, rfl⟩, ⟨rfl, rfl⟩, ⟨_, rfl, rfl⟩, ⟨rfl, rfl⟩, ⟨_, rfl, rfl⟩, ⟨rfl, rfl⟩, ⟨_, rfl, rfl⟩, ⟨rfl, rfl⟩, ⟨_, rfl, rfl⟩, ⟨rfl, rfl⟩, ⟨_, rfl, rfl⟩, ⟨_, rfl, rfl, rfl⟩, ⟨_, rfl, rfl⟩, ⟨_, rfl, rfl, rfl⟩, ⟨_, rfl, rfl⟩, ⟨_, rfl, rfl, rfl⟩, ⟨_, rfl, rfl⟩, ⟨rfl, rfl⟩, ⟨_, rfl, rfl⟩, ⟨rfl, rfl⟩, ⟨_, rfl, rfl⟩, ⟨rfl, rfl⟩, ⟨_, rfl, rfl⟩, ⟨_, rfl, rfl, rfl⟩, ⟨_, rfl, rfl⟩, ⟨rfl, rfl⟩, ⟨_, rfl, rfl⟩, trivial⟩, ?_⟩
      refine swp_seq E1_ok mixed (by kernel_rfl) ?_
      conv => whnf
      refine ⟨_, k14, ?_⟩
      conv => whnf
      refine ⟨st15 n na nb c qa qb, Weak.gen [some 0, some 1, some 2, some 3, some 4] rfl ⟨boxK rfl rfl, boxK rfl rfl, boxK rfl rfl, boxK rfl rfl, boxK rfl rfl, trivial⟩ ⟨.inl ⟨_, _, rfl, rfl, fun _ _ _ _ => rfl⟩, .inl ⟨_, _, rfl, rfl, fun _ _ _ _ => rfl⟩, ⟨_, rfl, rfl, rfl⟩, ⟨rfl, rfl⟩, ⟨_, rfl, rfl⟩, ⟨rfl, rfl⟩, ⟨_, rfl, rfl⟩, ⟨rfl, rfl⟩, ⟨_, rfl, rfl⟩, ⟨rfl, rfl⟩, ⟨_, rfl, rfl⟩, ⟨rfl, rfl⟩, ⟨_, rfl, rfl⟩, ⟨rfl, rfl⟩, ⟨_, rfl, rfl⟩, ⟨_, rfl, rfl, rfl⟩, ⟨_, rfl, rfl⟩, ⟨_, rfl, rfl, rfl⟩, ⟨_, rfl, rfl⟩, ⟨_, rfl, rfl, rfl⟩, ⟨_, rfl, rfl⟩, ⟨rfl, rfl⟩, ⟨_, rfl, rfl⟩, ⟨rfl, rfl⟩, ⟨_, rfl, rfl⟩, ⟨rfl, rfl⟩, ⟨_, rfl, rfl⟩, ⟨_, rfl, rfl, rfl⟩, ⟨_, rfl, rfl⟩, ⟨rfl, rfl⟩, ⟨_, rfl, rfl⟩, ⟨_, rfl, rfl⟩, ⟨_, rfl, rfl⟩, trivial⟩, ?_⟩
      refine swp_seq E1_ok mixed (by kernel_rfl) ?_
      conv => whnf
      refine ⟨_, k15, ?_⟩
      conv => whnf
      refine ⟨st16 n na nb c qa qb, Weak.gen [some 0, some 1, some 2, some 3, some 4] rfl ⟨boxK rfl rfl, boxK rfl rfl, boxK rfl rfl, boxK rfl rfl, boxK rfl rfl, trivial⟩ ⟨.inl ⟨_, _, rfl, rfl, fun _ _ _ _ => rfl⟩, .inl ⟨_, _, rfl, rfl, fun _ _ _ _ => rfl⟩, ⟨_, rfl, rfl, rfl⟩, ⟨rfl, rfl⟩, ⟨_, rfl, rfl⟩, ⟨rfl, rfl⟩, ⟨_, rfl, rfl⟩, ⟨rfl, rfl⟩, ⟨_, rfl, rfl⟩, ⟨rfl, rfl⟩, ⟨_, rfl, rfl⟩, ⟨rfl, rfl⟩, ⟨_, rfl, rfl⟩, ⟨rfl, rfl⟩, ⟨_, rfl, rfl⟩, ⟨_, rfl, rfl, rfl⟩, ⟨_, rfl, rfl⟩, ⟨_, rfl, rfl, rfl⟩, ⟨_, rfl, rfl⟩, ⟨_, rfl, rfl, rfl⟩, ⟨_, rfl, rfl⟩, ⟨rfl, rfl⟩, ⟨_, rfl, rfl⟩, ⟨rfl, rfl⟩, ⟨_, rfl, rfl⟩, ⟨rfl, rfl⟩, ⟨_, rfl, rfl⟩, ⟨_, rfl, rfl, rfl⟩, ⟨_, rfl, rfl⟩, ⟨rfl, rfl⟩, ⟨_, rfl, rfl⟩, ⟨_, rfl, rfl⟩, ⟨_, rfl, rfl⟩, ⟨rfl, rfl⟩, ⟨_, rfl, rfl⟩, trivial⟩, ?_⟩
      refine swp_seq E1_ok mixed (by kernel_rfl) ?_
      conv => whnf
      refine ⟨st17 n c, Weak.gen [some 0, some 1, some 2, some 3, some 4, some 5] rfl ⟨boxK rfl rfl, boxK rfl rfl, boxK rfl rfl, boxK rfl rfl, boxK rfl rfl, ⟨_, rfl, rfl, rfl, rfl, rfl, fun j k hj hk => ⟨_, row_all (m := 16) (x := .int .i64 3) rfl hj hk, rfl⟩⟩, trivial⟩ ⟨⟨rfl, rfl⟩, ⟨rfl, rfl⟩, ⟨rfl, rfl⟩, ⟨rfl, rfl⟩, ⟨rfl, rfl⟩, ⟨rfl, rfl⟩, ⟨_, rfl, rfl, rfl⟩, ⟨_, rfl, rfl, rfl⟩, ⟨_, rfl, rfl, rfl⟩, ⟨rfl, rfl⟩, ⟨rfl, rfl⟩, ⟨rfl, rfl⟩, ⟨_, rfl, rfl, rfl⟩, ⟨rfl, rfl⟩, ⟨_, rfl, rfl⟩, ⟨rfl, rfl⟩, ⟨_, rfl, rfl, rfl⟩, trivial⟩, ?_⟩
      refine swp_seq0 E1_ok mixed (by kernel_rfl) ?_
      conv => whnf
      refine loop_ints (fun i : Nat => st18 n c i) (fun i => 16 - i) (fun i => i ≤ 16) 0 rfl (Weak.gen [some 0, some 1, some 2, some 3, some 4, some 5] rfl ⟨boxK rfl rfl, boxK rfl rfl, boxK rfl rfl, boxK rfl rfl, boxK rfl rfl, ⟨_, rfl, rfl, rfl, rfl, rfl, fun j k hj hk => ⟨_, rfl, rfl⟩⟩, trivial⟩ ⟨⟨rfl, rfl⟩, ⟨rfl, rfl⟩, ⟨rfl, rfl⟩, ⟨rfl, rfl⟩, ⟨rfl, rfl⟩, ⟨rfl, rfl⟩, ⟨_, rfl, rfl, rfl⟩, ⟨_, rfl, rfl, rfl⟩, ⟨_, rfl, rfl, rfl⟩, ⟨rfl, rfl⟩, ⟨rfl, rfl⟩, ⟨rfl, rfl⟩, ⟨_, rfl, rfl, rfl⟩, ⟨rfl, rfl⟩, ⟨_, rfl, rfl⟩, ⟨rfl, rfl⟩, ⟨_, rfl, rfl, rfl⟩, ⟨_, rfl, rfl⟩, trivial⟩) (Nat.zero_le _) fun i hi => ?_
      conv => whnf
      refine bcase (fun (h5 : decide ((i : Int) < 16) = true) => ?_) fun (h5 : decide ((i : Int) < 16) = false) => ?_
      · have h5 := of_decide_eq_true h5
        conv => whnf
        refine ⟨by omega, by show (i : Int) < 16; omega, ?_⟩
        conv => whnf
        refine ⟨i64 (by omega) (by omega), ?_⟩
        conv => whnf
        exact ⟨i + 1, by omega, Weak.gen [some 0, some 1, some 2, some 3, some 4, some 5] rfl ⟨boxK rfl rfl, boxK rfl rfl, boxK rfl rfl, boxK rfl rfl, boxK rfl rfl, ⟨_, rfl, rfl, rfl, rfl, rfl, fun j k hj hk => ⟨_, rfl, rfl⟩⟩, trivial⟩ ⟨⟨rfl, rfl⟩, ⟨rfl, rfl⟩, ⟨rfl, rfl⟩, ⟨rfl, rfl⟩, ⟨rfl, rfl⟩, ⟨rfl, rfl⟩, ⟨_, rfl, rfl, rfl⟩, ⟨_, rfl, rfl, rfl⟩, ⟨_, rfl, rfl, rfl⟩, ⟨rfl, rfl⟩, ⟨rfl, rfl⟩, ⟨rfl, rfl⟩, ⟨_, rfl, rfl, rfl⟩, ⟨rfl, rfl⟩, ⟨_, rfl, rfl⟩, ⟨rfl, rfl⟩, ⟨_, rfl, rfl, rfl⟩, ⟨_, rfl, rfl⟩, trivial⟩, by omega⟩
      · conv => whnf
        refine swp_of E1_ok mixed (by kernel_rfl) ?_
        conv => whnf
        iterate 16 (refine ⟨i64 (by decide) (by decide), ?_⟩; conv => whnf)
        exact ⟨rfl, sub_bool (by decide)⟩
    · conv => whnf
      exact ⟨rfl, Sub.refl _⟩
  · conv => whnf
    exact ⟨rfl, Sub.refl _⟩
end Rf
end Go.Proofs.YtljnoknkmefgjaaGreatDoor
