/- Lifts from one cyclotomic field to another, in the program and in the document. -/
import Derived.Test.YtmbejakmeijcbaaGreatZr37
namespace Go.Proofs.YtmbejakmeijcbaaGreat
open Go.RowKit
namespace Rf
theorem tdiv_nat {n m : Nat} (_ : 1 ≤ n) : Int.tdiv (m : Int) (n : Int) = ((m / n : Nat) : Int) := by
 rw [Int.tdiv_eq_ediv_of_nonneg (by omega)]
 exact (Int.natCast_ediv m n).symm
theorem tmod_nat {n m : Nat} : Int.tmod (m : Int) (n : Int) = ((m % n : Nat) : Int) := by
 rw [Int.tmod_eq_emod_of_nonneg (by omega)]
 exact (Int.natCast_emod m n).symm
section
variable {n d m d' : Nat} {φ φ' : List Int} {T T' : List (List Int)}
set_option maxHeartbeats 8000000 in
theorem Cy.lift_ok (C : Cy n d φ T) (C' : Cy m d' φ' T') (hm : m % n = 0) {N D e : Nat} {A r : Nat → Rat} {q : Nat → RawR} (hA : Ev N q A D e) (h0 : 0 < D) (hD : D ≤ 2 ^ 1000000) (he : e ≤ 40000) (hr : Q.Rm d (Q.fr φ) A r) : FnOK Tryz.prog true 29 [.c (.int .i64 n), .c (.int .i64 m), .c (ql N q)] (.t2 (.c (nql (Q.tq (Q.im m (m / n) d T' r) d') (Q.im m (m / n) d T' r))) (.c (.int .i64 0))) := by
 have n1 := C.tab.n1
 have n2 := C.tab.n2
 have m2 := C'.tab.n2
 have hd := C.tab.d2
 have hb := (nNormal_r C.fk hA.val (by have := hA.len; omega) hA.fit hA.bd h0 hD (by omega) hr).1
 have hn := C.normal_ok hA h0 hD (by omega) hr
 have hq : m / n ≤ 1000 := Nat.le_trans (Nat.div_le_self m n) (by omega)
 have hi := C'.image_ok (t := m / n) (N := Q.tq r d) (r := r) hq (by have := Q.tq_le r d; omega) hb h0 hD (by omega)
 rw [show Q.im m (m / n) (Q.tq r d) T' r = Q.im m (m / n) d T' r from (Q.im_more (Q.tq_fin hr.1) (Q.tq_le r d)).symm, ← tdiv_nat n1] at hi
 have hc : ∀ i : Nat, FnOK Tryz.prog true 42 [.c (.int .i64 (if i = 0 then (n : Int) else (m : Int)))] (.c (.int .i64 0)) := fun i => by
  split
  ·exact C.chk
  ·exact C'.chk
 have hq3 : 0 ≤ Int.tdiv (m : Int) (n : Int) ∧ Int.tdiv (m : Int) (n : Int) ≤ 1000 := by rw [tdiv_nat n1]; exact ⟨Int.natCast_nonneg _, (Int.ofNat_le.2 hq : ((m / n : Nat) : Int) ≤ ((1000 : Nat) : Int))⟩
 have ht : Int.tmod (m : Int) (n : Int) = 0 := by rw [tmod_nat, hm]; rfl
 clear hr hA hb C C'
 generalize Q.im m (m / n) d T' r = s at *
 generalize Q.tq s d' = M at *
 generalize Q.tq r d = L at *
 refine fn_ok (E := E1) E1_ok Tryz.func29 rfl mixed (by kernel_rfl) (by kernel_rfl) ?_
 conv => whnf
 refine loop_ints (fun i : Nat => gst [(0, .c (.int .i64 n)), (1, .c (.int .i64 m)), (2, .c (ql N q)), (13, .c (.gs 0 0)), (14, .c (.int .i64 2)), (15, .c (.int .i64 i))] [⟨3, 1, 2, fun i _ => .int .i64 (if i = 0 then (n : Int) else (m : Int))⟩]) (fun i => 2 - i) (fun i => i ≤ 2) 0 rfl (Weak.gen [some 0] rfl ⟨⟨_, rfl, rfl, rfl, rfl, rfl, fun x y hx hy => ?_⟩, trivial⟩ ⟨⟨_, rfl, rfl⟩, ⟨_, rfl, rfl⟩, .inl ⟨_, _, rfl, rfl, fun _ _ _ _ => rfl⟩, ⟨_, rfl, rfl, rfl⟩, ⟨_, rfl, rfl⟩, ⟨_, rfl, rfl⟩, trivial⟩) (Nat.zero_le _) fun i hi2 => ?_
 ·match x, y, hx, hy with
  | 0, 0, _, _ => exact ⟨_, rfl, rfl⟩
  | 1, 0, _, _ => exact ⟨_, rfl, rfl⟩
 have hc := hc i
 conv => whnf
 refine bcase (fun (h : decide ((i : Int) < 2) = true) => ?_) fun (h : decide ((i : Int) < 2) = false) => ?_
 ·have h := of_decide_eq_true h
  conv => whnf
  refine ⟨by omega, by show (i : Int) < ((2 : Nat) : Int); omega, ?_⟩
  conv => whnf
  refine ⟨_, hc, ?_⟩
  conv => whnf
  refine ⟨i64 (by omega) (by omega), ?_⟩
  conv => whnf
  exact ⟨i + 1, by omega, Weak.gen [some 0] rfl ⟨⟨_, rfl, rfl, rfl, rfl, rfl, fun x y hx hy => ⟨_, rfl, rfl⟩⟩, trivial⟩ ⟨⟨_, rfl, rfl⟩, ⟨_, rfl, rfl⟩, .inl ⟨_, _, rfl, rfl, fun _ _ _ _ => rfl⟩, ⟨_, rfl, rfl, rfl⟩, ⟨_, rfl, rfl⟩, ⟨_, rfl, rfl⟩, trivial⟩, by omega⟩
 ·conv => whnf
  refine ⟨by omega, ?_⟩
  conv => whnf
  refine bneg (show (!decide (Int.tmod (m : Int) (n : Int) = 0)) = false by rw [ht]; rfl) ?_
  conv => whnf
  refine ⟨by omega, (show inR .i64 (Int.tdiv (m : Int) (n : Int)) from i64 (by omega) (by omega)), ?_⟩
  conv => whnf
  refine ⟨_, hn, ?_⟩
  conv => whnf
  refine ⟨_, hi, ?_⟩
  conv => whnf
  exact ⟨rfl, Sub.refl _⟩
end
end Rf
end Go.Proofs.YtmbejakmeijcbaaGreat
