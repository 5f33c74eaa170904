/- Lists of large integers, raw and normalized, and the document's functions of layer 5 that a field's form asks for. -/
import Derived.Test.YtigciplaoikcfaaGreatRfK
namespace Go.Proofs.YtigciplaoikcfaaGreat
open Go.RowKit
/-- A list of integers as its fields stand. -/
abbrev zlF (c : Nat → RawZ) (i j : Nat) : Cell := (zr (c i)).getD j .any
abbrev zl (n : Nat) (c : Nat → RawZ) : Cell := .row 2 n (zlF c)
/-- A list of integers in normal form. -/
abbrev nl (n : Nat) (v : Nat → Int) : Cell := zl n fun i => ofZ (v i)
/-- The length without the zeros at the end. -/
def tl (a : Nat → Int) : Nat → Nat
  | 0 => 0
  | n + 1 => if a n = 0 then tl a n else n + 1
theorem tl_congr {a b : Nat → Int} : ∀ {n : Nat}, (∀ i, i < n → a i = b i) → tl a n = tl b n
  | 0, _ => rfl
  | n + 1, h => by
    unfold tl
    rw [h n (by omega), tl_congr fun i hi => h i (by omega)]
theorem tl_le (a : Nat → Int) : ∀ n, tl a n ≤ n
  | 0 => Nat.le_refl _
  | n + 1 => by
    unfold tl
    split
    · exact Nat.le_succ_of_le (tl_le a n)
    · exact Nat.le_refl _
theorem tl_top {a : Nat → Int} : ∀ {n k : Nat}, tl a n = k + 1 → a k ≠ 0
  | 0, k, h => by simp [tl] at h
  | n + 1, k, h => by
    unfold tl at h
    split at h
    · exact tl_top h
    · rename_i h0
      obtain rfl : n = k := by omega
      exact h0
theorem tl_self {a : Nat → Int} {n : Nat} (h : ∀ k, n = k + 1 → a k ≠ 0) : tl a n = n := by
  cases n with
  | zero => rfl
  | succ k => unfold tl; rw [if_neg (h k rfl)]
theorem tl_tl (a : Nat → Int) (n : Nat) : tl a (tl a n) = tl a n := tl_self fun _ hk => tl_top hk
theorem zlF_eq {c e : Nat → RawZ} {i j k : Nat} (h : c i = e k) : zlF c i j = zlF e k j := by unfold zlF; rw [h]
namespace Rf
/-- A list within bounds. -/
def wl (n : Nat) (c : Nat → RawZ) : Prop := n ≤ 1048576 ∧ ∀ i, i < n → wr (c i)
abbrev vz (c : Nat → RawZ) (i : Nat) : Int := (c i).val
abbrev gz (n : Nat) (v : Nat → Int) : Gx := ⟨61, 2, n, zlF fun i => ofZ (v i)⟩
theorem zl_clos {c : Nat → RawZ} (i j : Nat) : (zlF c i j).clos = true := by
  match j with
  | 0 => rfl
  | 1 => rfl
  | j + 2 => rfl
theorem app_same {α : Type} (g : Nat → α) (i j : Nat) : (if j = i then g i else g j) = g j := by
  by_cases e : j = i
  · rw [if_pos e, e]
  · rw [if_neg e]
set_option maxHeartbeats 4000000 in
theorem normal5_ok {n : Nat} {c : Nat → RawZ} (h : wl n c) : FnOK Tryz.prog false 103 [.c (zl n c)] (.c (nl (tl (vz c) n) (vz c))) := by
  have hn := h.1
  have h1 : ∀ i, i < n → FnOK Tryz.prog false 127 [.g (zr (c i))] (.g (nz (vz c i))) := fun i hi => znorm_ok (h.2 i hi)
  have h2 : ∀ i, i < n → FnOK Tryz.prog false 90 [.g (nz (vz c i))] (.c (.int .i64 (vz c i).sign)) := fun i hi => by
    have := zsign_ok (a := ofZ (vz c i)) (wr_nz (Nat.le_trans (wr_len (h.2 i hi)) (h.2 i hi).2))
    rwa [ofZ_val] at this
  clear h
  generalize hv : vz c = v at *
  refine fn_ok (E := E0) E0_ok Tryz.func103 rfl mixed (by kernel_rfl) (by kernel_rfl) ?_
  conv => whnf
  refine loop_ints (fun i : Nat => gst [(0, .c (zl n c)), (3, .c (.gs 0 0)), (4, .c (.int .i64 i))] [gz i v]) (fun i => n - i) (fun i => i ≤ n) 0 rfl (Weak.gen [none] rfl ⟨rfl, trivial⟩ ⟨.inl ⟨_, _, rfl, rfl, fun _ _ _ _ => rfl⟩, rfl, ⟨_, rfl, rfl⟩, trivial⟩) (Nat.zero_le _) fun i hi => ?_
  conv => whnf
  refine bcase (fun (h : decide ((i : Int) < n) = true) => ?_) fun (h : decide ((i : Int) < n) = false) => ?_
  · have h := of_decide_eq_true h
    have g1 := h1 i (by omega)
    conv => whnf
    refine ⟨by omega, ?_⟩
    conv => whnf
    refine ⟨by omega, ?_⟩
    conv => whnf
    refine ⟨_, g1, ?_⟩
    conv => whnf
    refine ⟨by show i + 1 ≤ 16777216; omega, fun x y hx hy => ?_, ?_⟩
    · match x, y, hx, hy with
      | 0, 0, _, _ => exact ⟨rfl, fun h => by cases h⟩
      | 0, 1, _, _ => exact ⟨rfl, fun h => by cases h⟩
    conv => whnf
    refine ⟨i64 (by omega) (by omega), ?_⟩
    conv => whnf
    refine ⟨i + 1, by omega, Weak.gen [some 0] rfl ⟨⟨_, rfl, rfl, rfl, rfl, rfl, fun j k hj hk => ?_⟩, trivial⟩ ⟨.inl ⟨_, _, rfl, rfl, fun _ _ _ _ => rfl⟩, ⟨_, rfl, rfl, rfl⟩, ⟨_, rfl, rfl⟩, trivial⟩, by omega⟩
    exact regE (appG (sz := 2) (g := fun i => nz (v i)) (g' := fun i => nz (v i)) (l := nz (v i)) (app_same (fun i => nz (v i)) i j) (Nat.le_refl (i + 1)) hj) (zl_clos (c := fun i => ofZ (v i)) j k)
  · have h := of_decide_eq_false h
    have e : i = n := by omega
    conv => whnf
    refine loop_ints (fun m : Nat => gst [(3, .c (.gs 0 0)), (5, .c (.int .i64 m))] [gz i v]) (fun m => m) (fun m => m ≤ i ∧ tl v m = tl v i) i rfl (Weak.gen [some 0] rfl ⟨⟨_, rfl, rfl, rfl, rfl, rfl, fun j k hj hk => regE rfl (zl_clos (c := fun i => ofZ (v i)) j k)⟩, trivial⟩ ⟨⟨_, rfl, rfl, rfl⟩, ⟨_, rfl, rfl⟩, trivial⟩) ⟨Nat.le_refl _, rfl⟩ fun m ⟨hm, ht⟩ => ?_
    conv => whnf
    refine bcase (fun (h : gw true (decide ((0 : Int) < m)) = true) => ?_) fun (h : gw true (decide ((0 : Int) < m)) = false) => ?_
    · have h := of_decide_eq_true (gw_true.1 h)
      have ek : ((m : Int) - 1).toNat = m - 1 := by omega
      have hs := h2 ((m : Int) - 1).toNat (by omega)
      have hz : v ((m : Int) - 1).toNat = 0 → tl v (m - 1) = tl v i := fun h => by
        rw [← ht]
        obtain ⟨k, rfl⟩ : ∃ k, m = k + 1 := ⟨m - 1, by omega⟩
        rw [ek] at h
        show tl v k = _
        simp only [tl, Nat.add_sub_cancel] at h ⊢
        rw [if_pos h]
      have hz' : v ((m : Int) - 1).toNat ≠ 0 → m = tl v n := fun h => by
        rw [← e, ← ht]
        obtain ⟨k, rfl⟩ : ∃ k, m = k + 1 := ⟨m - 1, by omega⟩
        rw [ek] at h
        simp only [tl, Nat.add_sub_cancel] at h ⊢
        rw [if_neg h]
      conv => whnf
      refine ⟨i64 (by omega) (by omega), ?_⟩
      conv => whnf
      refine ⟨by omega, ?_⟩
      conv => whnf
      refine ⟨by show ((m : Int) - 1) < (i : Int); omega, ?_⟩
      conv => whnf
      refine ⟨_, hs, ?_⟩
      conv => whnf
      refine bcase (fun (h3 : decide ((v ((m : Int) - 1).toNat).sign = 0) = true) => ?_) fun (h3 : decide ((v ((m : Int) - 1).toNat).sign = 0) = false) => ?_
      · have h3 := Int.sign_eq_zero_iff_zero.1 (of_decide_eq_true h3)
        have g3 := hz h3
        conv => whnf
        refine ⟨i64 (by omega) (by omega), ?_⟩
        conv => whnf
        exact ⟨m - 1, by omega, Weak.gen [some 0] rfl ⟨⟨_, rfl, rfl, rfl, rfl, rfl, fun j k hj hk => regE rfl (zl_clos (c := fun i => ofZ (v i)) j k)⟩, trivial⟩ ⟨⟨_, rfl, rfl, rfl⟩, ⟨_, rfl, by omega⟩, trivial⟩, by omega, g3⟩
      · have h3 := hz' fun e => of_decide_eq_false h3 (by rw [e]; rfl)
        conv => whnf
        refine ⟨by omega, by omega, ?_⟩
        conv => whnf
        refine ⟨by show (m : Int) ≤ (i : Int); omega, ?_⟩
        conv => whnf
        refine ⟨fun j k _ _ => zl_clos (c := fun i => ofZ (v i)) j k, ?_⟩
        conv => whnf
        exact ⟨rfl, subRowG (by show ((m : Int) - 0).toNat = _; omega) fun j k _ _ => zlF_eq (c := fun i => ofZ (v i)) (e := fun i => ofZ (v i)) (i := Int.toNat 0 + j) (k := j) (congrArg (fun t => ofZ (v t)) (by omega))⟩
    · have h : ¬ (0 : Int) < m := of_decide_eq_false (gw_false.1 h)
      have h3 : tl v n = 0 := by rw [← e, ← ht]; rw [show m = 0 by omega]; rfl
      conv => whnf
      refine ⟨by omega, by omega, ?_⟩
      conv => whnf
      refine ⟨by show (m : Int) ≤ (i : Int); omega, ?_⟩
      conv => whnf
      refine ⟨fun j k _ _ => zl_clos (c := fun i => ofZ (v i)) j k, ?_⟩
      conv => whnf
      exact ⟨rfl, subRowG (by show ((m : Int) - 0).toNat = _; omega) fun j k _ _ => zlF_eq (c := fun i => ofZ (v i)) (e := fun i => ofZ (v i)) (i := Int.toNat 0 + j) (k := j) (congrArg (fun t => ofZ (v t)) (by omega))⟩
set_option maxHeartbeats 4000000 in
theorem degree5_ok {n : Nat} {c : Nat → RawZ} (h : wl n c) : FnOK Tryz.prog false 104 [.c (zl n c)] (.c (.int .i64 ((tl (vz c) n : Nat) - 1))) := by
  have h1 := normal5_ok h
  have h2 := tl_le (vz c) n
  have h3 := h.1
  refine fn_ok (E := E0) E0_ok Tryz.func104 rfl mixed (by kernel_rfl) (by kernel_rfl) ?_
  conv => whnf
  refine ⟨_, h1, ?_⟩
  conv => whnf
  refine ⟨i64 (by show _ ≤ ((tl (vz c) n : Nat) : Int) - 1; omega) (by show ((tl (vz c) n : Nat) : Int) - 1 < _; omega), ?_⟩
  conv => whnf
  exact ⟨rfl, Sub.refl _⟩
/-- The coefficient, 0 outside. -/
def co (v : Nat → Int) (n : Nat) (i : Int) : Int := if 0 ≤ i ∧ i < n then v i.toNat else 0
set_option maxHeartbeats 4000000 in
theorem at5_ok {n : Nat} {c : Nat → RawZ} {i : Int} (h : wl n c) : FnOK Tryz.prog false 143 [.c (zl n c), .c (.int .i64 i)] (.g (nz (co (vz c) n i))) := by
  have h0 := rof_ok (x := 0) (by decide) (by decide)
  have h1 : 0 ≤ i → i < n → FnOK Tryz.prog false 127 [.g (zr (c i.toNat))] (.g (nz (co (vz c) n i))) := fun a b => by
    have := znorm_ok (h.2 i.toNat (by omega))
    unfold co
    rwa [if_pos ⟨a, b⟩]
  have e0 : i < 0 ∨ (n : Int) ≤ i → Sub (.g (nz 0)) (.g (nz (co (vz c) n i))) := fun a => by
    unfold co
    rw [if_neg (by omega)]
    exact Sub.refl _
  refine fn_ok (E := E0) E0_ok Tryz.func143 rfl mixed (by kernel_rfl) (by kernel_rfl) ?_
  conv => whnf
  refine bcase (fun (h : gw false (decide (i < 0)) = true) => ?_) fun (h : gw false (decide (i < 0)) = false) => ?_
  · have h := of_decide_eq_false (gwf h)
    conv => whnf
    refine bcase (fun (h' : decide ((n : Int) ≤ i) = true) => ?_) fun (h' : decide ((n : Int) ≤ i) = false) => ?_
    · have g := e0 (.inr (of_decide_eq_true h'))
      conv => whnf
      refine ⟨_, h0, ?_⟩
      conv => whnf
      exact ⟨rfl, g⟩
    · have h' := of_decide_eq_false h'
      have g := h1 (by omega) (by omega)
      conv => whnf
      refine ⟨by omega, by omega, ?_⟩
      conv => whnf
      refine ⟨_, g, ?_⟩
      conv => whnf
      exact ⟨rfl, Sub.refl _⟩
  · have h := of_decide_eq_true (gwf' h)
    have g := e0 (.inl h)
    conv => whnf
    refine ⟨_, h0, ?_⟩
    conv => whnf
    exact ⟨rfl, g⟩
/-- The leading coefficient. -/
abbrev ldc (n : Nat) (v : Nat → Int) : Int := co v n ((tl v n : Nat) - 1)
set_option maxHeartbeats 4000000 in
theorem lead5_ok {n : Nat} {c : Nat → RawZ} (h : wl n c) : FnOK Tryz.prog false 106 [.c (zl n c)] (.g (nz (ldc n (vz c)))) := by
  have h1 := degree5_ok h
  have h2 := at5_ok (i := ((tl (vz c) n : Nat) - 1)) h
  refine fn_ok (E := E0) E0_ok Tryz.func106 rfl mixed (by kernel_rfl) (by kernel_rfl) ?_
  conv => whnf
  refine ⟨_, h1, ?_⟩
  conv => whnf
  refine ⟨_, h2, ?_⟩
  conv => whnf
  exact ⟨rfl, Sub.refl _⟩
/-- A field's form. -/
def formed (n : Nat) (v : Nat → Int) : Prop := 2 ≤ tl v n ∧ tl v n ≤ 13 ∧ ldc n v = 1
instance (n : Nat) (v : Nat → Int) : Decidable (formed n v) := by unfold formed; infer_instance
theorem co_len {n : Nat} {c : Nat → RawZ} (h : wl n c) (i : Int) : zlen (co (vz c) n i) ≤ 1048576 := by
  unfold co
  split
  · rename_i hi
    have := h.2 i.toNat (by omega)
    exact Nat.le_trans (wr_len this) this.2
  · decide
end Rf
end Go.Proofs.YtigciplaoikcfaaGreat
