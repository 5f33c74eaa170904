/- Digits of large integers: trimmed, Sign, Bits, and the document's trim, Norm, Sign, Of. -/
import Derived.Test.YtmfaipklhkgieaaGreatFpK
import Derived.Lib.Hide
import Derived.Test.YtmfaipklhkgieaaGreatFpX
namespace Go.Proofs.YtmfaipklhkgieaaGreat
open Go.RowKit
namespace Fp
/-- A closed list of digits; an integer. -/
abbrev dl (q : Nat) (d : Nat → Int) : Cell := .row 1 q fun i _ => .int .u32 (d i)
abbrev bi (s : Bool) (q : Nat) (d : Nat → Int) : V := .g [.bool s, dl q d]
theorem subRowD {n m : Nat} {a b : Nat → Int} (h : n = m) (h2 : ∀ i, i < m → a i = b i) : Sub (.c (dl n a)) (.c (dl m b)) :=
  subRowG h fun i _ hi _ => congrArg (Cell.int .u32) (h2 i hi)
theorem subBi {s s' : Bool} {n m : Nat} {a b : Nat → Int} (hs : s = s') (h : n = m) (h2 : ∀ i, i < m → a i = b i) : Sub (bi s n a) (bi s' m b) := by
  subst hs
  rintro D w v ⟨vs, e, hr⟩
  refine ⟨vs, e, ?_⟩
  match hvs : vs.toList with
  | [_, _] =>
    rw [hvs] at hr
    exact ⟨hr.1, subRowD h h2 D w _ hr.2.1, trivial⟩
  | [] | [_] | _ :: _ :: _ :: _ => rw [hvs] at hr; simp [CRels] at hr
set_option maxHeartbeats 4000000 in
theorem btrimmed_ok {n : Nat} {a : Nat → Int} (hn : n ≤ 1048576) : FnOK Tryz.prog false 48 [.c (dl n a)] (.c (dl (tl a n) a)) := by
  refine fn_ok (E := E0) E0_ok Tryz.func48 rfl mixed (by kernel_rfl) (by kernel_rfl) ?_
  conv => whnf
  refine loop_ints (fun m : Nat => ist [(0, .c (dl m a))] []) (fun m => m) (fun m => m ≤ n ∧ tl a m = tl a n) n rfl (Weak.ints [] rfl trivial ⟨⟨_, _, rfl, rfl, fun _ _ _ _ => rfl⟩, trivial⟩) ⟨by omega, rfl⟩ fun m ⟨hm, ht⟩ => ?_
  conv => whnf
  refine bcase (fun (h : gw true (decide ((0 : Int) < m)) = true) => ?_) fun (h : gw true (decide ((0 : Int) < m)) = false) => ?_
  · have h := of_decide_eq_true (gw_true.1 h)
    obtain ⟨k, rfl⟩ : ∃ k, m = k + 1 := ⟨m - 1, by omega⟩
    have ek : (((k + 1 : Nat) : Int) - 1).toNat = k := by omega
    conv => whnf
    refine ⟨i64 (by omega) (by omega), ?_⟩
    conv => whnf
    refine ⟨by omega, by omega, ?_⟩
    conv => whnf
    refine bcase (fun (h1 : decide (a (((k + 1 : Nat) : Int) - 1).toNat = 0) = true) => ?_) fun (h1 : decide (a (((k + 1 : Nat) : Int) - 1).toNat = 0) = false) => ?_
    · have h1 := of_decide_eq_true h1
      rw [ek] at h1
      conv => whnf
      refine ⟨i64 (by omega) (by omega), ?_⟩
      conv => whnf
      refine ⟨by omega, by omega, ?_⟩
      conv => whnf
      refine ⟨by omega, ?_⟩
      conv => whnf
      refine ⟨k, by omega, Weak.ints [] rfl trivial ⟨⟨_, _, rfl, ?_, fun i j hi hj => ?_⟩, trivial⟩, by omega, by rw [← ht]; simp [tl, h1]⟩
      · omega
      · show Cell.int .u32 (a (Int.toNat 0 + i)) = _
        rw [show Int.toNat 0 + i = i by omega]
    · have h1 := of_decide_eq_false h1
      rw [ek] at h1
      conv => whnf
      exact ⟨rfl, subRowD (by rw [← ht]; simp [tl, h1]) fun _ _ => rfl⟩
  · have h : ¬ (0 : Int) < m := of_decide_eq_false (gw_false.1 h)
    obtain rfl : m = 0 := by omega
    conv => whnf
    exact ⟨rfl, subRowD (by rw [← ht]; rfl) fun _ _ => rfl⟩
set_option maxHeartbeats 4000000 in
theorem bsign_ok {n : Nat} {a : Nat → Int} {s : Bool} (hn : n ≤ 1048576) : FnOK Tryz.prog false 25 [bi s n a] (.c (.int .i64 (if tl a n = 0 then 0 else if s then -1 else 1))) := by
  have h := btrimmed_ok (a := a) hn
  refine fn_ok (E := E0) E0_ok Tryz.func25 rfl mixed (by kernel_rfl) (by kernel_rfl) ?_
  conv => whnf
  refine ⟨_, h, ?_⟩
  conv => whnf
  refine bcase (fun (h1 : decide (((tl a n : Nat) : Int) = 0) = true) => ?_) fun (h1 : decide (((tl a n : Nat) : Int) = 0) = false) => ?_
  · have h1 := of_decide_eq_true h1
    rw [if_pos (by omega)]
    conv => whnf
    exact ⟨rfl, Sub.refl _⟩
  · have h1 := of_decide_eq_false h1
    rw [if_neg (by omega)]
    cases s with
    | true =>
      conv => whnf
      exact ⟨rfl, Sub.refl _⟩
    | false =>
      conv => whnf
      exact ⟨rfl, Sub.refl _⟩
set_option maxHeartbeats 4000000 in
theorem rtrim_ok {n : Nat} {a : Nat → Int} (hn : n ≤ 1048576) : FnOK Tryz.prog false 51 [.c (dl n a)] (.c (dl (tl a n) a)) := by
  refine fn_ok (E := E0) E0_ok Tryz.func51 rfl mixed (by kernel_rfl) (by kernel_rfl) ?_
  conv => whnf
  refine loop_ints (fun m : Nat => ist [(0, .c (dl n a)), (3, .c (.int .i64 m))] []) (fun m => m) (fun m => m ≤ n ∧ tl a m = tl a n) n rfl (Weak.ints [] rfl trivial ⟨⟨_, _, rfl, rfl, fun _ _ _ _ => rfl⟩, ⟨_, rfl, rfl⟩, trivial⟩) ⟨by omega, rfl⟩ fun m ⟨hm, ht⟩ => ?_
  conv => whnf
  refine bcase (fun (h : gw true (decide ((0 : Int) < m)) = true) => ?_) fun (h : gw true (decide ((0 : Int) < m)) = false) => ?_
  · have h := of_decide_eq_true (gw_true.1 h)
    obtain ⟨k, rfl⟩ : ∃ k, m = k + 1 := ⟨m - 1, by omega⟩
    have ek : (((k + 1 : Nat) : Int) - 1).toNat = k := by omega
    conv => whnf
    refine ⟨i64 (by omega) (by omega), ?_⟩
    conv => whnf
    refine ⟨by omega, by omega, ?_⟩
    conv => whnf
    refine bcase (fun (h1 : decide (a (((k + 1 : Nat) : Int) - 1).toNat = 0) = true) => ?_) fun (h1 : decide (a (((k + 1 : Nat) : Int) - 1).toNat = 0) = false) => ?_
    · have h1 := of_decide_eq_true h1
      rw [ek] at h1
      conv => whnf
      refine ⟨i64 (by omega) (by omega), ?_⟩
      conv => whnf
      exact ⟨k, by omega, Weak.ints [] rfl trivial ⟨⟨_, _, rfl, rfl, fun _ _ _ _ => rfl⟩, ⟨_, rfl, by omega⟩, trivial⟩, by omega, by rw [← ht]; simp [tl, h1]⟩
    · have h1 := of_decide_eq_false h1
      rw [ek] at h1
      have hx : tl a n = k + 1 := by rw [← ht]; simp [tl, h1]
      rw [hx]
      conv => whnf
      refine ⟨by omega, by omega, ?_⟩
      conv => whnf
      refine ⟨by omega, ?_⟩
      conv => whnf
      refine ⟨by show 0 + (((k + 1 : Nat) : Int) - 0).toNat ≤ 16777216; omega, fun x y hx hy => ⟨rfl, fun h => by cases h⟩, ?_⟩
      conv => whnf
      refine ⟨fun i j hi hj => ?_, ?_⟩
      · show (appF 0 (rowF 1 []) (fun i _ => Cell.int .u32 (a (Int.toNat 0 + i))) i j).clos = true
        rw [appF_zero]
        rfl
      conv => whnf
      refine ⟨rfl, subRowG (by show 0 + (((k + 1 : Nat) : Int) - 0).toNat = k + 1; omega) fun i j hi hj => ?_⟩
      show appF 0 (rowF 1 []) (fun i _ => Cell.int .u32 (a (Int.toNat 0 + i))) i j = _
      rw [appF_zero, show Int.toNat 0 + i = i by omega]
  · have h : ¬ (0 : Int) < m := of_decide_eq_false (gw_false.1 h)
    obtain rfl : m = 0 := by omega
    have hx : tl a n = 0 := by rw [← ht]; rfl
    rw [hx]
    conv => whnf
    refine ⟨by omega, by omega, ?_⟩
    conv => whnf
    refine ⟨by omega, ?_⟩
    conv => whnf
    refine ⟨by show 0 + (((0 : Nat) : Int) - 0).toNat ≤ 16777216; omega, fun x y hx hy => ⟨rfl, fun h => by cases h⟩, ?_⟩
    conv => whnf
    refine ⟨fun i j hi hj => ?_, ?_⟩
    · show (appF 0 (rowF 1 []) (fun i _ => Cell.int .u32 (a (Int.toNat 0 + i))) i j).clos = true
      rw [appF_zero]
      rfl
    conv => whnf
    refine ⟨rfl, subRowG (by show 0 + (((0 : Nat) : Int) - 0).toNat = 0; omega) fun i j hi hj => ?_⟩
    show appF 0 (rowF 1 []) (fun i _ => Cell.int .u32 (a (Int.toNat 0 + i))) i j = _
    rw [appF_zero, show Int.toNat 0 + i = i by omega]
set_option maxHeartbeats 4000000 in
theorem rnorm_ok {n : Nat} {a : Nat → Int} {s : Bool} (hn : n ≤ 1048576) : FnOK Tryz.prog false 28 [bi s n a] (bi (s && decide (0 < tl a n)) (tl a n) a) := by
  have h := rtrim_ok (a := a) hn
  refine fn_ok (E := E0) E0_ok Tryz.func28 rfl mixed (by kernel_rfl) (by kernel_rfl) ?_
  cases s with
  | true =>
    conv => whnf
    refine ⟨_, h, ?_⟩
    conv => whnf
    refine ⟨rfl, subBi ?_ rfl fun _ _ => rfl⟩
    rw [Bool.true_and]
    exact decide_eq_decide.2 ⟨fun h => by omega, fun h => by omega⟩
  | false =>
    conv => whnf
    refine ⟨_, h, ?_⟩
    conv => whnf
    exact ⟨rfl, subBi rfl rfl fun _ _ => rfl⟩
set_option maxHeartbeats 4000000 in
theorem rsign_ok {n : Nat} {a : Nat → Int} {s : Bool} (hn : n ≤ 1048576) : FnOK Tryz.prog false 10 [bi s n a] (.c (.int .i64 (if tl a n = 0 then 0 else if s then -1 else 1))) := by
  have h := rnorm_ok (a := a) (s := s) hn
  refine fn_ok (E := E0) E0_ok Tryz.func10 rfl mixed (by kernel_rfl) (by kernel_rfl) ?_
  conv => whnf
  refine ⟨_, h, ?_⟩
  conv => whnf
  refine bcase (fun (h1 : decide (((tl a n : Nat) : Int) = 0) = true) => ?_) fun (h1 : decide (((tl a n : Nat) : Int) = 0) = false) => ?_
  · have h1 := of_decide_eq_true h1
    rw [if_pos (by omega)]
    conv => whnf
    exact ⟨rfl, Sub.refl _⟩
  · have h1 := of_decide_eq_false h1
    rw [if_neg (by omega)]
    cases s with
    | true =>
      conv => whnf
      refine bpos (show decide (0 < tl a n) = true by simp; omega) ?_
      conv => whnf
      exact ⟨rfl, Sub.refl _⟩
    | false =>
      conv => whnf
      exact ⟨rfl, Sub.refl _⟩
set_option maxHeartbeats 4000000 in
theorem rsigned_ok {n : Nat} {a : Nat → Int} {s : Bool} (hn : n ≤ 1048576) : FnOK Tryz.prog false 32 [.c (.bool s), .c (dl n a)] (bi (s && decide (0 < tl a n)) (tl a n) a) := by
  have h := rnorm_ok (a := a) (s := s) hn
  refine fn_ok (E := E0) E0_ok Tryz.func32 rfl mixed (by kernel_rfl) (by kernel_rfl) ?_
  conv => whnf
  refine ⟨_, h, ?_⟩
  conv => whnf
  exact ⟨rfl, Sub.refl _⟩
set_option maxHeartbeats 4000000 in
theorem rof_ok {p : Int} (hp : 0 < p) (hp2 : p ≤ 65521) : FnOK Tryz.prog false 14 [.c (.int .i64 p)] (bi false 1 fun _ => p) := by
  refine fn_ok (E := E0) E0_ok Tryz.func14 rfl mixed (by kernel_rfl) (by kernel_rfl) ?_
  conv => whnf
  refine bneg (show decide (p < 0) = false by simp; omega) ?_
  conv => whnf
  refine ⟨by omega, ?_⟩
  conv => whnf
  refine ⟨fun i j hi hj => ?_, ?_⟩
  · match i, j, hi, hj with
    | 0, 0, _, _ => rfl
    | 1, 0, _, _ => rfl
  conv => whnf
  refine ⟨_, arg_ok (rsigned_ok (n := 2) (a := fun i => if i = 0 then p else 0) (s := false) (by omega)) (fun D w vs h => ?_), ?_⟩
  · match vs, h with
    | [v0, v1], ⟨h0, h1, _⟩ =>
      refine ⟨?_, subRowG rfl (fun i j hi hj => ?_) D w v1 h1, trivial⟩
      · have h0 : v0 = .bool (decide (p < 0)) := h0
        rw [h0, decide_eq_false (by omega)]
        exact rfl
      · have w1 : IntKind.u64.wrap p = p := by simp [IntKind.wrap, IntKind.signed, IntKind.bits]; omega
        have w2 : IntKind.u32.wrap p = p := by simp [IntKind.wrap, IntKind.signed, IntKind.bits]; omega
        match i, j, hi, hj with
        | 0, 0, _, _ =>
          show Cell.int .u32 (IntKind.u32.wrap (IntKind.u64.wrap p)) = .int .u32 p
          rw [w1, w2]
        | 1, 0, _, _ =>
          show Cell.int .u32 (IntKind.u32.wrap (Int.fdiv (IntKind.u64.wrap p) (2 ^ 32))) = .int .u32 0
          rw [w1, show Int.fdiv p (2 ^ 32) = 0 by rw [Int.fdiv_eq_ediv_of_nonneg _ (by decide)]; exact Int.ediv_eq_zero_of_lt (by omega) (by omega)]
          rfl
  · conv => whnf
    refine ⟨rfl, subBi rfl ?_ fun i hi => ?_⟩
    · show (if (0 : Int) = 0 then (if p = 0 then 0 else 1) else 2) = 1
      rw [if_pos rfl, if_neg (by omega)]
    · obtain rfl : i = 0 := by omega
      rfl
end Fp
theorem retI {k : IntKind} {a b : Int} (h : a = b) : Ending.returned (.int k a) = .returned (.int k b) := by rw [h]
set_option maxRecDepth 100000
/-- The table of the numbers of binary digits, as the library has it. -/
def lenTab : ByteArray := { data := #[0, 1, 2, 2, 3, 3, 3, 3, 4, 4, 4, 4, 4, 4, 4, 4, 5, 5, 5, 5, 5, 5, 5, 5, 5, 5, 5, 5, 5, 5, 5, 5, 6, 6, 6, 6, 6, 6, 6, 6, 6, 6, 6, 6, 6, 6, 6, 6, 6, 6, 6, 6, 6, 6, 6, 6, 6, 6, 6, 6, 6, 6, 6, 6, 7, 7, 7, 7, 7, 7, 7, 7, 7, 7, 7, 7, 7, 7, 7, 7, 7, 7, 7, 7, 7, 7, 7, 7, 7, 7, 7, 7, 7, 7, 7, 7, 7, 7, 7, 7, 7, 7, 7, 7, 7, 7, 7, 7, 7, 7, 7, 7, 7, 7, 7, 7, 7, 7, 7, 7, 7, 7, 7, 7, 7, 7, 7, 7, 8, 8, 8, 8, 8, 8, 8, 8, 8, 8, 8, 8, 8, 8, 8, 8, 8, 8, 8, 8, 8, 8, 8, 8, 8, 8, 8, 8, 8, 8, 8, 8, 8, 8, 8, 8, 8, 8, 8, 8, 8, 8, 8, 8, 8, 8, 8, 8, 8, 8, 8, 8, 8, 8, 8, 8, 8, 8, 8, 8, 8, 8, 8, 8, 8, 8, 8, 8, 8, 8, 8, 8, 8, 8, 8, 8, 8, 8, 8, 8, 8, 8, 8, 8, 8, 8, 8, 8, 8, 8, 8, 8, 8, 8, 8, 8, 8, 8, 8, 8, 8, 8, 8, 8, 8, 8, 8, 8, 8, 8, 8, 8, 8, 8, 8, 8, 8, 8, 8, 8, 8, 8, 8, 8, 8, 8, 8, 8] }
theorem lenTab_size : lenTab.size = 256 := by decide +kernel
theorem lenTab_all : ∀ i : Fin 256, 0 < i.1 → 1 ≤ (lenTab.data.toList[i.1]?.getD 0).toNat ∧ (lenTab.data.toList[i.1]?.getD 0).toNat ≤ 8 ∧ 2 ^ ((lenTab.data.toList[i.1]?.getD 0).toNat - 1) ≤ i.1 ∧ i.1 < 2 ^ (lenTab.data.toList[i.1]?.getD 0).toNat := by decide +kernel
theorem lenTab_at (i : Nat) (h : i < lenTab.size) (h0 : 0 < i) : 1 ≤ lenTab[i].toNat ∧ lenTab[i].toNat ≤ 8 ∧ 2 ^ (lenTab[i].toNat - 1) ≤ i ∧ i < 2 ^ lenTab[i].toNat := by
  have h2 : i < 256 := h
  have := lenTab_all ⟨i, h2⟩ h0
  have e : lenTab.data.toList[i]?.getD 0 = lenTab[i] := by
    rw [List.getElem?_eq_getElem (show i < lenTab.data.toList.length from h2)]; rfl
  have h3 : 1 ≤ (lenTab.data.toList[i]?.getD 0).toNat ∧ (lenTab.data.toList[i]?.getD 0).toNat ≤ 8 ∧ 2 ^ ((lenTab.data.toList[i]?.getD 0).toNat - 1) ≤ i ∧ i < 2 ^ (lenTab.data.toList[i]?.getD 0).toNat := this
  rwa [e] at h3
theorem len_fin {x y k t : Nat} (hy : y = x / 2 ^ k) (h1 : 1 ≤ t) (h2 : 2 ^ (t - 1) ≤ y) (h3 : y < 2 ^ t) : 2 ^ (k + t - 1) ≤ x ∧ x < 2 ^ (k + t) := by
  subst hy
  have hp : 0 < 2 ^ k := Nat.pow_pos (by omega)
  constructor
  · rw [show k + t - 1 = (t - 1) + k from by omega, Nat.pow_add]
    exact (Nat.le_div_iff_mul_le hp).1 h2
  · rw [Nat.add_comm k t, Nat.pow_add]
    exact (Nat.div_lt_iff_lt_mul hp).1 h3
/-- The number of binary digits. -/
def IsLen (X : Int) (n : Nat) : Prop := 1 ≤ n ∧ n ≤ 32 ∧ 2 ^ (n - 1) ≤ X.toNat ∧ X.toNat < 2 ^ n
theorem isLen_of {X Y : Int} {k : Nat} (hk : k ≤ 24) (hY : Y.toNat = X.toNat / 2 ^ k) (h : Y.toNat < lenTab.size) (h0 : 0 < Y.toNat) : IsLen X (k + lenTab[Y.toNat].toNat) := by
  obtain ⟨h1, h2, h3, h4⟩ := lenTab_at Y.toNat h h0
  have := len_fin hY h1 h3 h4
  exact ⟨by omega, by omega, this.1, this.2⟩
theorem len_sum (a : Int) (t : Nat) (h0 : 0 ≤ a) (h1 : a ≤ 24) (ht : t ≤ 8) : wrap64 (a + wrap64 (t : Int)) = ((a.toNat + t : Nat) : Int) := by
  rw [IntWalk.wrap64_in (t : Int) ⟨by omega, by omega⟩, IntWalk.wrap64_in _ ⟨by omega, by omega⟩]; omega
def LenPost (X : Int) (w : World) (e : Ending) (w' : World) : Prop := ∃ n : Nat, e = .returned (.int .i64 n) ∧ IsLen X n ∧ w = w'
set_option maxRecDepth 100000 in
set_option maxHeartbeats 1000000 in
theorem len32_any (X : Int) (w : World) (h0 : 0 < X) (h1 : X < 4294967296) :
    Calls Tryz.prog 67 #[.int .u32 X] w (LenPost X w) := by
  by_cases c1 : 65536 ≤ X
  · have hd1 : decide (65536 ≤ X) = true := by simp; omega
    by_cases c2 : 16777216 ≤ X
    · have hd2 : decide (256 ≤ X / 65536) = true := by simp; omega
      have hl : (X / 65536 / 256).toNat < lenTab.size := by rw [lenTab_size]; omega
      have L := Lib.hid (isLen_of (X := X) (k := 24) (Y := X / 65536 / 256) (by omega) (by simp only [show (2 : Nat) ^ 24 = 16777216 from rfl]; omega) hl (by omega))
      have hT := Lib.hid (lenTab_at _ hl (by omega))
      have hb1 : 0 ≤ X / 65536 / 256 := by omega
      have hb2 : X / 65536 / 256 < 256 := by omega
      go_enter Tryz.func67, Tryz.ntmps67
      go_wp2
      go_ret
      exact ⟨_, retI (len_sum 24 _ (by omega) (by omega) hT.out.2.1), L.out, rfl⟩
    · have hd2 : decide (256 ≤ X / 65536) = false := by simp; omega
      have hl : (X / 65536).toNat < lenTab.size := by rw [lenTab_size]; omega
      have L := Lib.hid (isLen_of (X := X) (k := 16) (Y := X / 65536) (by omega) (by simp only [show (2 : Nat) ^ 16 = 65536 from rfl]; omega) hl (by omega))
      have hT := Lib.hid (lenTab_at _ hl (by omega))
      have hb1 : 0 ≤ X / 65536 := by omega
      have hb2 : X / 65536 < 256 := by omega
      go_enter Tryz.func67, Tryz.ntmps67
      go_wp2
      go_ret
      exact ⟨_, retI (len_sum 16 _ (by omega) (by omega) hT.out.2.1), L.out, rfl⟩
  · have hd1 : decide (65536 ≤ X) = false := by simp; omega
    by_cases c2 : 256 ≤ X
    · have hd2 : decide (256 ≤ X) = true := by simp; omega
      have hl : (X / 256).toNat < lenTab.size := by rw [lenTab_size]; omega
      have L := Lib.hid (isLen_of (X := X) (k := 8) (Y := X / 256) (by omega) (by simp only [show (2 : Nat) ^ 8 = 256 from rfl]; omega) hl (by omega))
      have hT := Lib.hid (lenTab_at _ hl (by omega))
      have hb1 : 0 ≤ X / 256 := by omega
      have hb2 : X / 256 < 256 := by omega
      go_enter Tryz.func67, Tryz.ntmps67
      go_wp2
      go_ret
      exact ⟨_, retI (len_sum 8 _ (by omega) (by omega) hT.out.2.1), L.out, rfl⟩
    · have hd2 : decide (256 ≤ X) = false := by simp; omega
      have hl : X.toNat < lenTab.size := by rw [lenTab_size]; omega
      have L := Lib.hid (isLen_of (X := X) (k := 0) (Y := X) (by omega) (by simp) hl (by omega))
      have hT := Lib.hid (lenTab_at _ hl (by omega))
      have hb1 : 0 ≤ X := by omega
      have hb2 : X < 256 := by omega
      go_enter Tryz.func67, Tryz.ntmps67
      go_wp2
      go_ret
      exact ⟨_, retI (by have := len_sum 0 (lenTab[X.toNat]'hl).toNat (by omega) (by omega) hT.out.2.1; rw [Int.zero_add] at this; exact this), L.out, rfl⟩
end Go.Proofs.YtmfaipklhkgieaaGreat
/- The number of binary digits; powers of a polynomial modulo another one. -/
namespace Go.Proofs.YtmfaipklhkgieaaGreat
open Go.RowKit
namespace Fp
def lb (X : Int) : Nat := Nat.log2 X.toNat + 1
theorem isLen_lb {X : Int} {n : Nat} (h : IsLen X n) : n = lb X := by
  obtain ⟨h1, _, h3, h4⟩ := h
  have h0 : X.toNat ≠ 0 := by
    have := Nat.pow_pos (n := n - 1) (show 0 < 2 by decide)
    omega
  have e1 := (Nat.le_log2 h0).2 h3
  have e2 := (Nat.log2_lt h0).2 h4
  unfold lb
  omega
theorem len_ok {X : Int} (h0 : 0 < X) (h1 : X < 4294967296) : FnOK Tryz.prog false 67 [.c (.int .u32 X)] (.c (.int .i64 (lb X))) := by
  refine ⟨by kernel_rfl, fun D w vs _ _ hargs => ?_⟩
  match vs, hargs with
  | [v0], ⟨e0, _⟩ =>
    obtain rfl : v0 = .int .u32 X := e0
    refine (len32_any X w h0 h1).mono ?_
    rintro e w' ⟨n, rfl, hn, rfl⟩
    exact ⟨_, rfl, by rw [isLen_lb hn]; exact rfl, Below.refl _ _⟩
/-- The number of binary digits of digits without zeros at the end. -/
def nb (a : Nat → Int) (m : Nat) : Nat := if m = 0 then 0 else 32 * (m - 1) + lb (a (m - 1))
theorem lb_le {X : Int} (h1 : X < 4294967296) : lb X ≤ 32 := by
  unfold lb
  rcases Nat.eq_zero_or_pos X.toNat with h | h
  · rw [h]; decide
  · have := (Nat.log2_lt (n := X.toNat) (k := 32) (by omega)).2 (by omega)
    omega
theorem lb_lt {X : Int} : X.toNat < 2 ^ lb X := Nat.lt_log2_self
theorem nb_le {a : Nat → Int} {m : Nat} (ha : ∀ i, 0 ≤ a i ∧ a i < 4294967296) : nb a m ≤ 32 * m := by
  unfold nb
  have := lb_le (ha (m - 1)).2
  split <;> omega
set_option maxHeartbeats 4000000 in
theorem bits_ok {n : Nat} {a : Nat → Int} {s : Bool} (hn : n ≤ 1048576) (ha : ∀ i, 0 ≤ a i ∧ a i < 4294967296) : FnOK Tryz.prog false 50 [bi s n a] (.c (.int .i64 (nb a (tl a n)))) := by
  have h := btrimmed_ok (a := a) hn
  have hle := tl_le a n
  have hlast : 0 < tl a n → a (tl a n - 1) ≠ 0 := tl_last
  generalize tl a n = m at *
  refine fn_ok (E := E0) E0_ok Tryz.func50 rfl mixed (by kernel_rfl) (by kernel_rfl) ?_
  conv => whnf
  refine ⟨_, h, ?_⟩
  conv => whnf
  refine bcase (fun (h1 : decide ((m : Int) = 0) = true) => ?_) fun (h1 : decide ((m : Int) = 0) = false) => ?_
  · have h1 := of_decide_eq_true h1
    obtain rfl : m = 0 := by omega
    conv => whnf
    exact ⟨rfl, Sub.refl _⟩
  · have h1 := of_decide_eq_false h1
    have h2 := hlast (by omega)
    have h3 := ha (m - 1)
    have h4 := lb_le h3.2
    have em : ((m : Int) - 1).toNat = m - 1 := by omega
    have hl := len_ok (X := a (m - 1)) (by omega) h3.2
    rw [← em] at hl
    conv => whnf
    refine ⟨i64 (by omega) (by omega), ?_⟩
    conv => whnf
    refine ⟨i64 (by omega) (by omega), ?_⟩
    conv => whnf
    refine ⟨i64 (by omega) (by omega), ?_⟩
    conv => whnf
    refine ⟨by omega, by omega, ?_⟩
    conv => whnf
    refine ⟨_, hl, ?_⟩
    conv => whnf
    rw [em]
    refine ⟨i64 (by omega) (by omega), ?_⟩
    conv => whnf
    refine ⟨rfl, subI ?_⟩
    unfold nb
    rw [if_neg (by omega)]
    omega
end Fp
end Go.Proofs.YtmfaipklhkgieaaGreat
