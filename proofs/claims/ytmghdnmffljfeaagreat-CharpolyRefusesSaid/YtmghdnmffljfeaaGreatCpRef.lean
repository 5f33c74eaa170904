/- The law CharpolyRefuses: the functions that it calls, where they refuse. -/
import Derived.Test.YtmghdnmffljfeaaGreatOpen
import Derived.Test.YtmghdnmffljfeaaGreatTy
import Derived.Test.YtmghdnmffljfeaaGreatCpAwake
namespace Go.Proofs.YtmghdnmffljfeaaGreat
open Go.RowKit
namespace Ref
theorem subB {a b : Bool} (h : a = b) : Sub (.c (.bool a)) (.c (.bool b)) := by subst h; exact Sub.refl _
theorem i64 {n : Int} (h1 : -9223372036854775808 ≤ n) (h2 : n < 9223372036854775808) : inR .i64 n := ⟨h1, h2⟩
/-- A matrix as its fields stand. -/
abbrev M (r c : Int) (len : Nat) : V := .g [.int .i64 r, .int .i64 c, .row 4 len fun _ _ => .any]
abbrev L (n : Nat) : V := .c (.row 4 n fun _ _ => .any)
def ok (r c : Int) (len : Nat) : Prop := 0 ≤ r ∧ r ≤ 1024 ∧ 0 ≤ c ∧ c ≤ 1024 ∧ (len : Int) = r * c
instance (r c : Int) (len : Nat) : Decidable (ok r c len) := by unfold ok; infer_instance
theorem mul_range {r c : Int} (h1 : 0 ≤ r) (h2 : r ≤ 1024) (h3 : 0 ≤ c) (h4 : c ≤ 1024) : inR .i64 (r * c) := by
  have h5 : r * c ≤ 1024 * 1024 := Int.mul_le_mul h2 h4 h3 (by omega)
  have h6 := Int.mul_nonneg h1 h3
  exact i64 (by omega) (by omega)
set_option maxHeartbeats 4000000 in
theorem refValid_ok {r c : Int} {len : Nat} : FnOK Tryz.prog true 46 [M r c len] (.c (.bool (decide (ok r c len)))) := by
  refine fn_ok (E := E1) E1_ok Tryz.func46 rfl mixed (by kernel_rfl) (by kernel_rfl) ?_
  conv => whnf
  refine bcase (fun (h1 : decide (0 ≤ r) = true) => ?_) fun (h1 : decide (0 ≤ r) = false) => ?_
  · have h1 := of_decide_eq_true h1
    conv => whnf
    refine bcase (fun (h2 : decide (r ≤ 1024) = true) => ?_) fun (h2 : decide (r ≤ 1024) = false) => ?_
    · have h2 := of_decide_eq_true h2
      conv => whnf
      refine bcase (fun (h3 : decide (0 ≤ c) = true) => ?_) fun (h3 : decide (0 ≤ c) = false) => ?_
      · have h3 := of_decide_eq_true h3
        conv => whnf
        refine bcase (fun (h4 : decide (c ≤ 1024) = true) => ?_) fun (h4 : decide (c ≤ 1024) = false) => ?_
        · have h4 := of_decide_eq_true h4
          conv => whnf
          refine ⟨mul_range h1 h2 h3 h4, ?_⟩
          conv => whnf
          refine ⟨rfl, subB ?_⟩
          show decide ((len : Int) = r * c) = _
          simp [ok, h1, h2, h3, h4]
        · have h4 := of_decide_eq_false h4
          conv => whnf
          refine ⟨rfl, subB ?_⟩
          show false = _
          simp [ok, h4]
      · have h3 := of_decide_eq_false h3
        conv => whnf
        refine ⟨rfl, subB ?_⟩
        show false = _
        simp [ok, h3]
    · have h2 := of_decide_eq_false h2
      conv => whnf
      refine ⟨rfl, subB ?_⟩
      show false = _
      simp [ok, h2]
  · have h1 := of_decide_eq_false h1
    conv => whnf
    refine ⟨rfl, subB ?_⟩
    show false = _
    simp [ok, h1]
set_option maxHeartbeats 4000000 in
theorem fits_ok (n : Int) : FnOK Tryz.prog true 137 [.c (.int .i64 n)] (.c (.bool (decide (0 ≤ n ∧ n ≤ 1024)))) := by
  refine fn_ok (E := E1) E1_ok Tryz.func137 rfl mixed (by kernel_rfl) (by kernel_rfl) ?_
  conv => whnf
  refine bcase (fun (h : decide (0 ≤ n) = true) => ?_) fun (h : decide (0 ≤ n) = false) => ?_
  · have h := of_decide_eq_true h
    conv => whnf
    refine ⟨rfl, subB ?_⟩
    show decide (n ≤ 1024) = decide (0 ≤ n ∧ n ≤ 1024)
    simp [h]
  · have h := of_decide_eq_false h
    conv => whnf
    refine ⟨rfl, subB ?_⟩
    show false = decide (0 ≤ n ∧ n ≤ 1024)
    simp [h]
set_option maxHeartbeats 4000000 in
theorem valid_ok {r c : Int} {len : Nat} : FnOK Tryz.prog true 95 [M r c len] (.c (.bool (decide (ok r c len)))) := by
  refine fn_ok (E := E1) E1_ok Tryz.func95 rfl mixed (by kernel_rfl) (by kernel_rfl) ?_
  conv => whnf
  refine ⟨_, fits_ok r, ?_⟩
  conv => whnf
  refine bcase (fun (h : decide (0 ≤ r ∧ r ≤ 1024) = true) => ?_) fun (h : decide (0 ≤ r ∧ r ≤ 1024) = false) => ?_
  · have h := of_decide_eq_true h
    conv => whnf
    refine ⟨_, fits_ok c, ?_⟩
    conv => whnf
    refine bcase (fun (h2 : decide (0 ≤ c ∧ c ≤ 1024) = true) => ?_) fun (h2 : decide (0 ≤ c ∧ c ≤ 1024) = false) => ?_
    · have h2 := of_decide_eq_true h2
      conv => whnf
      refine ⟨mul_range h.1 h.2 h2.1 h2.2, ?_⟩
      conv => whnf
      refine ⟨rfl, subB ?_⟩
      show decide ((len : Int) = r * c) = _
      simp [ok, h, h2]
    · have h2 := of_decide_eq_false h2
      conv => whnf
      refine ⟨rfl, subB ?_⟩
      show false = _
      rw [eq_comm, decide_eq_false_iff_not]
      exact fun hh => h2 ⟨hh.2.2.1, hh.2.2.2.1⟩
  · have h := of_decide_eq_false h
    conv => whnf
    refine ⟨rfl, subB ?_⟩
    show false = _
    rw [eq_comm, decide_eq_false_iff_not]
    exact fun hh => h ⟨hh.1, hh.2.1⟩
/-- The error of a matrix, where there is one: 4 the shape, 7 the size. -/
def Bad (r c : Int) (len : Nat) (e : Int) : Prop := (e = 4 ∧ ¬ (ok r c len ∧ r = c)) ∨ (e = 7 ∧ ok r c len ∧ r = c ∧ 64 < r)
set_option maxHeartbeats 4000000 in
theorem check_bad {r c e : Int} {len : Nat} (h : Bad r c len e) : FnOK Tryz.prog true 53 [M r c len] (.c (.int .i64 e)) := by
  refine fn_ok (E := E1) E1_ok Tryz.func53 rfl mixed (by kernel_rfl) (by kernel_rfl) ?_
  conv => whnf
  refine ⟨_, valid_ok (r := r) (c := c) (len := len), ?_⟩
  conv => whnf
  rcases h with ⟨rfl, h⟩ | ⟨rfl, h, rfl, h3⟩
  · by_cases hv : ok r c len
    · refine bpos (show gw false (!decide (ok r c len)) = true by simp [hv, gw]) ?_
      conv => whnf
      refine bpos (show (!decide (r = c)) = true by simpa using fun e => h ⟨hv, e⟩) ?_
      conv => whnf
      exact ⟨rfl, Sub.refl _⟩
    · refine bneg (show gw false (!decide (ok r c len)) = false by simp [hv, gw]) ?_
      conv => whnf
      exact ⟨rfl, Sub.refl _⟩
  · refine bpos (show gw false (!decide (ok r r len)) = true by simp [h, gw]) ?_
    conv => whnf
    refine bneg (show (!decide (r = r)) = false by simp) ?_
    conv => whnf
    refine bpos (show decide (64 < r) = true by simpa using h3) ?_
    conv => whnf
    exact ⟨rfl, Sub.refl _⟩
theorem Bad.ne {r c e : Int} {len : Nat} (h : Bad r c len e) : (!decide (e = 0)) = true := by
  rcases h with ⟨rfl, _⟩ | ⟨rfl, _⟩ <;> rfl
set_option maxHeartbeats 4000000 in
theorem charPoly_bad {r c e : Int} {len : Nat} (h : Bad r c len e) : FnOK Tryz.prog true 14 [M r c len] (.t2 (.c .nil) (.c (.int .i64 e))) := by
  refine fn_ok (E := E1) E1_ok Tryz.func14 rfl mixed (by kernel_rfl) (by kernel_rfl) ?_
  conv => whnf
  refine ⟨_, check_bad h, ?_⟩
  conv => whnf
  refine bpos h.ne ?_
  conv => whnf
  exact ⟨rfl, Sub.refl _⟩
set_option maxHeartbeats 4000000 in
theorem minPoly_bad {r c e : Int} {len : Nat} (h : Bad r c len e) : FnOK Tryz.prog true 28 [M r c len] (.t2 (.c .nil) (.c (.int .i64 e))) := by
  refine fn_ok (E := E1) E1_ok Tryz.func28 rfl mixed (by kernel_rfl) (by kernel_rfl) ?_
  conv => whnf
  refine ⟨_, check_bad h, ?_⟩
  conv => whnf
  refine bpos h.ne ?_
  conv => whnf
  exact ⟨rfl, Sub.refl _⟩
set_option maxHeartbeats 4000000 in
theorem at_bad {r c e : Int} {len n : Nat} (h : Bad r c len e) : FnOK Tryz.prog true 20 [L n, M r c len] (.t2 (.g [.int .i64 0, .int .i64 0, .nil]) (.c (.int .i64 e))) := by
  refine fn_ok (E := E1) E1_ok Tryz.func20 rfl mixed (by kernel_rfl) (by kernel_rfl) ?_
  conv => whnf
  refine ⟨_, check_bad h, ?_⟩
  conv => whnf
  refine bpos h.ne ?_
  conv => whnf
  exact ⟨rfl, Sub.refl _⟩
set_option maxHeartbeats 4000000 in
theorem ann_shape {r c : Int} {len n : Nat} (h : ok r c len) (hn : (n : Int) ≠ r) : FnOK Tryz.prog true 31 [M r c len, L n] (.t2 (.c .nil) (.c (.int .i64 4))) := by
  refine fn_ok (E := E1) E1_ok Tryz.func31 rfl mixed (by kernel_rfl) (by kernel_rfl) ?_
  conv => whnf
  refine ⟨_, valid_ok (r := r) (c := c) (len := len), ?_⟩
  conv => whnf
  refine bpos (show decide (ok r c len) = true by simpa using h) ?_
  conv => whnf
  refine bpos (show (!decide ((n : Int) = r)) = true by simpa using hn) ?_
  conv => whnf
  exact ⟨rfl, Sub.refl _⟩
set_option maxHeartbeats 4000000 in
theorem ann_bad {r c e : Int} {len n : Nat} (h : Bad r c len e) (hn : ¬ (ok r c len ∧ (n : Int) ≠ r)) : FnOK Tryz.prog true 31 [M r c len, L n] (.t2 (.c .nil) (.c (.int .i64 e))) := by
  refine fn_ok (E := E1) E1_ok Tryz.func31 rfl mixed (by kernel_rfl) (by kernel_rfl) ?_
  conv => whnf
  refine ⟨_, valid_ok (r := r) (c := c) (len := len), ?_⟩
  conv => whnf
  by_cases hv : ok r c len
  · refine bpos (show decide (ok r c len) = true by simpa using hv) ?_
    conv => whnf
    refine bneg (show (!decide ((n : Int) = r)) = false by simpa using Decidable.not_not.1 fun e => hn ⟨hv, e⟩) ?_
    conv => whnf
    refine ⟨_, check_bad h, ?_⟩
    conv => whnf
    refine bpos h.ne ?_
    conv => whnf
    exact ⟨rfl, Sub.refl _⟩
  · refine bneg (show decide (ok r c len) = false by simpa using hv) ?_
    conv => whnf
    refine ⟨_, check_bad h, ?_⟩
    conv => whnf
    refine bpos h.ne ?_
    conv => whnf
    exact ⟨rfl, Sub.refl _⟩
set_option maxHeartbeats 4000000 in
theorem primary_bad {r c e : Int} {len : Nat} (h : Bad r c len e) : FnOK Tryz.prog true 42 [M r c len] (.t2 (.c .nil) (.c (.int .i64 e))) := by
  refine fn_ok (E := E1) E1_ok Tryz.func42 rfl mixed (by kernel_rfl) (by kernel_rfl) ?_
  conv => whnf
  refine ⟨_, charPoly_bad h, ?_⟩
  conv => whnf
  refine bpos h.ne ?_
  conv => whnf
  exact ⟨rfl, Sub.refl _⟩
theorem awake1 : FnOK Tryz.prog true 12 [] (.c (.bool true)) := awake_ok.weak
set_option maxHeartbeats 4000000 in
theorem law_ok {r c : Int} {len nf nv : Nat} : FnOK Tryz.prog true 10 [M r c len, L nf, L nv] (.c (.bool true)) := by
  refine fn_ok (E := E1) E1_ok Tryz.func10 rfl mixed (by kernel_rfl) (by kernel_rfl) ?_
  conv => whnf
  refine ⟨_, awake1, ?_⟩
  conv => whnf
  refine bcase (fun (h1 : gw false (decide ((70 : Int) < nf)) = true) => ?_) fun (h1 : gw false (decide ((70 : Int) < nf)) = false) => ?_
  rotate_left
  · conv => whnf
    exact ⟨rfl, Sub.refl _⟩
  conv => whnf
  refine bcase (fun (h2 : decide ((5000 : Int) < len) = true) => ?_) fun (h2 : decide ((5000 : Int) < len) = false) => ?_
  · conv => whnf
    exact ⟨rfl, Sub.refl _⟩
  conv => whnf
  refine ⟨_, refValid_ok (r := r) (c := c) (len := len), ?_⟩
  conv => whnf
  by_cases hv : ok r c len ∧ r = c
  · refine bpos (show gw true (decide (ok r c len)) = true by simp [hv.1, gw]) ?_
    conv => whnf
    refine bpos (show decide (r = c) = true by simp [hv.2]) ?_
    conv => whnf
    refine bcase (fun (h3 : decide (r ≤ 64) = true) => ?_) fun (h3 : decide (r ≤ 64) = false) => ?_
    · conv => whnf
      exact ⟨rfl, Sub.refl _⟩
    have hb : Bad r c len 7 := .inr ⟨rfl, hv.1, hv.2, by have := of_decide_eq_false h3; omega⟩
    conv => whnf
    refine ⟨_, charPoly_bad hb, ?_⟩
    conv => whnf
    refine ⟨_, minPoly_bad hb, ?_⟩
    conv => whnf
    refine ⟨_, at_bad (n := nf) hb, ?_⟩
    conv => whnf
    by_cases hn : (nv : Int) = r
    · refine ⟨_, ann_bad (n := nv) hb (fun h => h.2 hn), ?_⟩
      conv => whnf
      refine ⟨_, primary_bad hb, ?_⟩
      conv => whnf
      refine bneg (show (!decide ((nv : Int) = r)) = false by simp [hn]) ?_
      conv => whnf
      repeat (refine ⟨i64 (by decide) (by decide), ?_⟩; conv => whnf)
      exact ⟨rfl, Sub.refl _⟩
    · refine ⟨_, ann_shape (n := nv) hv.1 hn, ?_⟩
      conv => whnf
      refine ⟨_, primary_bad hb, ?_⟩
      conv => whnf
      refine bpos (show (!decide ((nv : Int) = r)) = true by simpa using hn) ?_
      conv => whnf
      repeat (refine ⟨i64 (by decide) (by decide), ?_⟩; conv => whnf)
      exact ⟨rfl, Sub.refl _⟩
  · have hb : Bad r c len 4 := .inl ⟨rfl, hv⟩
    have ann : FnOK Tryz.prog true 31 [M r c len, L nv] (.t2 (.c .nil) (.c (.int .i64 4))) := by
      by_cases hn : ok r c len ∧ (nv : Int) ≠ r
      · exact ann_shape hn.1 hn.2
      · exact ann_bad hb hn
    by_cases h1 : ok r c len
    · refine bpos (show gw true (decide (ok r c len)) = true by simp [h1, gw]) ?_
      conv => whnf
      refine bneg (show decide (r = c) = false by simpa using fun e => hv ⟨h1, e⟩) ?_
      conv => whnf
      refine ⟨_, charPoly_bad hb, ?_⟩
      conv => whnf
      refine ⟨_, minPoly_bad hb, ?_⟩
      conv => whnf
      refine ⟨_, at_bad (n := nf) hb, ?_⟩
      conv => whnf
      refine ⟨_, ann, ?_⟩
      conv => whnf
      refine ⟨_, primary_bad hb, ?_⟩
      conv => whnf
      repeat (refine ⟨i64 (by decide) (by decide), ?_⟩; conv => whnf)
      exact ⟨rfl, Sub.refl _⟩
    · refine bneg (show gw true (decide (ok r c len)) = false by simp [h1, gw]) ?_
      conv => whnf
      refine ⟨_, charPoly_bad hb, ?_⟩
      conv => whnf
      refine ⟨_, minPoly_bad hb, ?_⟩
      conv => whnf
      refine ⟨_, at_bad (n := nf) hb, ?_⟩
      conv => whnf
      refine ⟨_, ann, ?_⟩
      conv => whnf
      refine ⟨_, primary_bad hb, ?_⟩
      conv => whnf
      repeat (refine ⟨i64 (by decide) (by decide), ?_⟩; conv => whnf)
      exact ⟨rfl, Sub.refl _⟩
end Ref
end Go.Proofs.YtmghdnmffljfeaaGreat
