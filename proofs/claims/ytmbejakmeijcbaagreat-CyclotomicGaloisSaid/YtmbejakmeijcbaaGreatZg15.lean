/- The laws' test of the elements: few and short coefficients. -/
import Derived.Test.YtmbejakmeijcbaaGreatZg9
import Derived.Test.YtmbejakmeijcbaaGreatZg10
namespace Go.Proofs.YtmbejakmeijcbaaGreat
open Go.RowKit
namespace Rf
noncomputable def tyEl (T : TypeId) : Option TI := if T == 81 then some ⟨false, 1, [.nil], 24, [], some 25, none, 0⟩ else tyE T
theorem tyEl_at : tyOf Tryz.prog 81 = some ⟨false, 1, [.nil], 24, [], some 25, none, 0⟩ := by kernel_rfl
theorem tyEl_ok (T : TypeId) (ti : TI) (h : tyEl T = some ti) : tyOf Tryz.prog T = some ti := by
 unfold tyEl at h
 by_cases e : T = 81
 ·subst e
  rw [if_pos (by simp)] at h
  cases h
  exact tyEl_at
 ·rw [if_neg (by simpa using e)] at h
  exact tyE_ok T ti h
noncomputable def E0e : Env := ⟨Tryz.prog, false, tyEl, 0⟩
theorem E0e_ok : EnvOK E0e := ⟨tyEl_ok⟩
def okd (a : RawR) : Prop := a.num.ds.length ≤ 1 ∧ a.den.ds.length ≤ 1
set_option maxHeartbeats 4000000 in
theorem short15_ok {k : Nat} {n : Nat → Nat} {q : Nat → Nat → RawR} {r : Bool} (hk : k ≤ 2) (hr : r = true ↔ ∀ i, i < k → n i ≤ 16 ∧ ∀ j, j < n i → okd (q i j)) : FnOK Tryz.prog false 19 [.c (.row 1 k fun i _ => ql (n i) (q i))] (.c (.bool r)) := by
 refine fn_ok (E := E0e) E0e_ok Tryz.func19 rfl mixed (by kernel_rfl) (by kernel_rfl) ?_
 conv => whnf
 refine loop_ints (fun i : Nat => gst [(0, .c (.row 1 k fun i _ => ql (n i) (q i))), (3, .c (.int .i64 i))] []) (fun i => k - i) (fun i => i ≤ k ∧ ∀ a, a < i → n a ≤ 16 ∧ ∀ j, j < n a → okd (q a j)) 0 rfl (Weak.gen [] rfl trivial ⟨.inl ⟨_, _, rfl, rfl, fun _ _ _ _ => rfl⟩, ⟨_, rfl, rfl⟩, trivial⟩) ⟨Nat.zero_le _, fun a h => by omega⟩ fun i ⟨hi, hg⟩ => ?_
 have r1 : i < k → 16 < n i → false = r := fun a b => (Bool.eq_false_iff.2 fun e => by have := (hr.1 e i a).1; omega).symm
 have r2 : ∀ j, i < k → j < n i → ¬ okd (q i j) → false = r := fun j a b d => (Bool.eq_false_iff.2 fun e => d ((hr.1 e i a).2 j b)).symm
 have r3 : ¬ i < k → true = r := fun a => (hr.2 fun b hb => hg b (by omega)).symm
 clear hr
 conv => whnf
 refine bcase (fun (h : decide ((i : Int) < k) = true) => ?_) fun (h : decide ((i : Int) < k) = false) => ?_
 ·have h := of_decide_eq_true h
  conv => whnf
  refine ⟨by omega, by omega, ?_⟩
  conv => whnf
  refine bcase (fun (h1 : decide ((16 : Int) < n i) = true) => ?_) fun (h1 : decide ((16 : Int) < n i) = false) => ?_
  ·have h1 := of_decide_eq_true h1
   have g := r1 (by omega) (by omega)
   conv => whnf
   exact ⟨rfl, sub_bool g⟩
  ·have h1 := of_decide_eq_false h1
   conv => whnf
   refine loop_ints (fun j : Nat => gst [(0, .c (.row 1 k fun i _ => ql (n i) (q i))), (3, .c (.int .i64 i)), (4, .c (.int .i64 j))] []) (fun j => n i - j) (fun j => j ≤ n i ∧ ∀ b, b < j → okd (q i b)) 0 rfl (Weak.gen [] rfl trivial ⟨.inl ⟨_, _, rfl, rfl, fun _ _ _ _ => rfl⟩, ⟨_, rfl, rfl⟩, ⟨_, rfl, rfl⟩, trivial⟩) ⟨Nat.zero_le _, fun a h => by omega⟩ fun j ⟨hj, hh⟩ => ?_
   conv => whnf
   refine ⟨by omega, by omega, ?_⟩
   conv => whnf
   refine bcase (fun (h2 : decide ((j : Int) < n i) = true) => ?_) fun (h2 : decide ((j : Int) < n i) = false) => ?_
   ·have h2 := of_decide_eq_true h2
    have s1 := r2 j (by omega) (by omega)
    conv => whnf
    refine ⟨by omega, by omega, ?_⟩
    conv => whnf
    refine ⟨by omega, by show (j : Int) < (n i : Int); omega, ?_⟩
    conv => whnf
    refine bcase (fun (a1 : gw false (decide ((1 : Int) < (q i j).num.ds.length)) = true) => ?_) fun (a1 : gw false (decide ((1 : Int) < (q i j).num.ds.length)) = false) => ?_
    ·have a1 := of_decide_eq_false (gwf a1)
     conv => whnf
     refine ⟨by omega, by omega, ?_⟩
     conv => whnf
     refine ⟨by omega, by show (j : Int) < (n i : Int); omega, ?_⟩
     conv => whnf
     refine bcase (fun (a2 : decide ((1 : Int) < (q i j).den.ds.length) = true) => ?_) fun (a2 : decide ((1 : Int) < (q i j).den.ds.length) = false) => ?_
     ·have a2 := of_decide_eq_true a2
      have s4 := s1 fun e => by have := e.2; omega
      conv => whnf
      exact ⟨rfl, sub_bool s4⟩
     ·have a2 := of_decide_eq_false a2
      conv => whnf
      refine ⟨i64 (by omega) (by omega), ?_⟩
      conv => whnf
      refine ⟨j + 1, by omega, Weak.gen [] rfl trivial ⟨.inl ⟨_, _, rfl, rfl, fun _ _ _ _ => rfl⟩, ⟨_, rfl, rfl⟩, ⟨_, rfl, rfl⟩, trivial⟩, by omega, fun a ha => ?_⟩
      by_cases e : a = j
      ·rw [e]; exact ⟨by omega, by omega⟩
      ·exact hh a (by omega)
    ·have a1 := of_decide_eq_true (gwf' a1)
     have s4 := s1 fun e => by have := e.1; omega
     conv => whnf
     exact ⟨rfl, sub_bool s4⟩
   ·have h2 := of_decide_eq_false h2
    conv => whnf
    refine ⟨i64 (by omega) (by omega), ?_⟩
    conv => whnf
    refine ⟨i + 1, by omega, Weak.gen [] rfl trivial ⟨.inl ⟨_, _, rfl, rfl, fun _ _ _ _ => rfl⟩, ⟨_, rfl, rfl⟩, trivial⟩, by omega, fun a ha => ?_⟩
    by_cases e : a = i
    ·rw [e]; exact ⟨by omega, fun b hb => hh b (by omega)⟩
    ·exact hg a (by omega)
 ·have h := of_decide_eq_false h
  have g := r3 (by omega)
  conv => whnf
  exact ⟨rfl, sub_bool g⟩
theorem short15_two {n m : Nat} {q p : Nat → RawR} {r : Bool} (hr : r = true ↔ (n ≤ 16 ∧ ∀ j, j < n → okd (q j)) ∧ m ≤ 16 ∧ ∀ j, j < m → okd (p j)) : FnOK Tryz.prog false 19 [.c (.row 1 2 (rowF 1 [ql n q, ql m p]))] (.c (.bool r)) := by
 have h := short15_ok (k := 2) (n := fun i => if i = 0 then n else m) (q := fun i => if i = 0 then q else p) (r := r) (Nat.le_refl _) (by
  rw [hr]
  refine ⟨fun ⟨a, b⟩ i hi => ?_, fun a => ⟨a 0 (by decide), a 1 (by decide)⟩⟩
  match i, hi with
  | 0, _ => exact a
  | 1, _ => exact b)
 refine arg_ok h fun D w vs h => ?_
 match vs, h with
 | [v1], ⟨h1, _⟩ =>
  refine ⟨subRowG rfl (fun i j hi hj => ?_) D w v1 h1, trivial⟩
  match i, j, hi, hj with
  | 0, 0, _, _ => rfl
  | 1, 0, _, _ => rfl
end Rf
end Go.Proofs.YtmbejakmeijcbaaGreat
